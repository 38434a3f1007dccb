import Derived.Test.YtkncpoaddamlbaaBody
namespace Go.Proofs.Ytkncpoaddamlbaa
open Go Go.RowKit Go.Proofs.YtkncpoaddamlbaaVm
attribute [local irreducible] opsWp AnswersE OpsS
set_option maxHeartbeats 400000
set_option maxRecDepth 100000
set_option linter.all false
structure GLine where
  (Phase : Int)
  (When : Int)
  (Arg : Int)
  (Do : Int)
  (Value : Int)
  deriving DecidableEq, Inhabited
def encGLine (x : GLine) : List PV := [i64 x.Phase, i64 x.When, i64 x.Arg, i64 x.Do, i64 x.Value]
abbrev aGLine (x : GLine) : AV := .agg [I x.Phase, I x.When, I x.Arg, I x.Do, I x.Value]
def wfGLine (x : GLine) : Prop := (InR x.Phase) ∧ (InR x.When) ∧ (InR x.Arg) ∧ (InR x.Do) ∧ (InR x.Value)
theorem encGLine_solid {l : List GLine} : ∀ p ∈ l.flatMap encGLine, solidP p = true := flat_solid (fun x p h => by simp only [encGLine, List.mem_cons, List.mem_nil_iff, or_false] at h; rcases h with rfl | rfl | rfl | rfl | rfl <;> rfl)

structure GPrize where
  (Item : Int)
  (Weight : Int)
  deriving DecidableEq, Inhabited
def encGPrize (x : GPrize) : List PV := [i64 x.Item, i64 x.Weight]
abbrev aGPrize (x : GPrize) : AV := .agg [I x.Item, I x.Weight]
def wfGPrize (x : GPrize) : Prop := (InR x.Item) ∧ (InR x.Weight)
theorem encGPrize_solid {l : List GPrize} : ∀ p ∈ l.flatMap encGPrize, solidP p = true := flat_solid (fun x p h => by simp only [encGPrize, List.mem_cons, List.mem_nil_iff, or_false] at h; rcases h with rfl | rfl <;> rfl)

structure GFoe where
  (Id : Int)
  (Health : Int)
  (Hit : Int)
  (Every : Int)
  (Reach : Int)
  (Script : List GLine)
  (Hoard : List GPrize)
  (Drops : Int)
  deriving DecidableEq, Inhabited
def encGFoe (x : GFoe) : List PV := [i64 x.Id, i64 x.Health, i64 x.Hit, i64 x.Every, i64 x.Reach, .slc x.Script.length false (x.Script.flatMap encGLine), .slc x.Hoard.length false (x.Hoard.flatMap encGPrize), i64 x.Drops]
abbrev aGFoe (x : GFoe) : AV := .agg [I x.Id, I x.Health, I x.Hit, I x.Every, I x.Reach, .pv (.slc x.Script.length false (x.Script.flatMap encGLine)), .pv (.slc x.Hoard.length false (x.Hoard.flatMap encGPrize)), I x.Drops]
def wfGFoe (x : GFoe) : Prop := (InR x.Id) ∧ (InR x.Health) ∧ (InR x.Hit) ∧ (InR x.Every) ∧ (InR x.Reach) ∧ ((∀ y ∈ x.Script, wfGLine y) ∧ x.Script.length ≤ 140737488355328) ∧ ((∀ y ∈ x.Hoard, wfGPrize y) ∧ x.Hoard.length ≤ 140737488355328) ∧ (InR x.Drops)

structure GBoss where
  (Phase : Int)
  (Since : Int)
  (Came : List Bool)
  (Rage : Int)
  deriving DecidableEq, Inhabited
def encGBoss (x : GBoss) : List PV := [i64 x.Phase, i64 x.Since, .slc x.Came.length false (encB x.Came), i64 x.Rage]
abbrev aGBoss (x : GBoss) : AV := .agg [I x.Phase, I x.Since, .pv (.slc x.Came.length false (encB x.Came)), I x.Rage]
def wfGBoss (x : GBoss) : Prop := (InR x.Phase) ∧ (InR x.Since) ∧ (x.Came.length ≤ 140737488355328) ∧ (InR x.Rage)

def dueB (l : GLine) (s : GBoss) (came : Bool) (u : GUnit) (now : Int) : Bool := if l.Phase ≠ s.Phase then false else if l.When = 1 then !came && decide (u.Health ≤ partM u.MaxHealth l.Arg 100)
  else if l.When = 2 then decide (IntKind.i64.wrap (now - s.Since) > 0 ∧ l.Arg > 0 ∧ (IntKind.i64.wrap (now - s.Since)).tmod l.Arg = 0)
  else if l.When = 3 then !came && decide (IntKind.i64.wrap (now - s.Since) ≥ l.Arg) else false
def clearL : List GLine → Int → List Bool → List Bool
  | l :: sc, n, c :: cs => (if l.Phase = n then false else c) :: clearL sc n cs
  | _, _, cs => cs
theorem clearL_len : ∀ (sc : List GLine) (n : Int) (cs : List Bool), (clearL sc n cs).length = cs.length
  | [], _, _ => by simp [clearL]
  | _ :: _, _, [] => by simp [clearL]
  | l :: sc, n, c :: cs => by simp [clearL, clearL_len sc n cs]
theorem clearL_snoc : ∀ {sc : List GLine} {n : Int} {cs : List Bool} {k : Nat} {l : GLine}, sc[k]? = some l → clearL (sc.take (k + 1)) n cs = if l.Phase = n then (clearL (sc.take k) n cs).set k false else clearL (sc.take k) n cs
  | [], _, _, _, _, h => by simp at h
  | l :: sc, n, [], k, l', h => by cases k <;> simp [clearL]
  | l :: sc, n, c :: cs, 0, l', h => by
    simp at h; subst h
    simp [clearL]
    split <;> simp_all [clearL]
  | l :: sc, n, c :: cs, k + 1, l', h => by
    have ih := clearL_snoc (sc := sc) (n := n) (cs := cs) (k := k) (l := l') (by simpa using h)
    simp only [List.take_succ_cons, clearL, ih, List.set_cons_succ]
    by_cases h2 : l'.Phase = n <;> simp [h2]
def phaseB (sc : List GLine) (s : GBoss) (n now : Int) : GBoss := { s with Phase := n, Since := now, Came := clearL sc n s.Came }
def runGo (sc : List GLine) (u : GUnit) (now : Int) : Nat → List GLine → GBoss → List GLine → GBoss × List GLine
  | _, [], s, out => (s, out)
  | k, l :: rest, s, out => if dueB l s (s.Came.getD k false) u now = false then runGo sc u now (k + 1) rest s out
    else if l.Do = 4 then runGo sc u now (k + 1) rest { s with Came := s.Came.set k (s.Came.getD k false || l.When != 2), Rage := min (IntKind.i64.wrap (s.Rage + l.Value)) 1000 } (out ++ [l])
    else if l.Do = 1 then (phaseB sc { s with Came := s.Came.set k (s.Came.getD k false || l.When != 2) } l.Value now, out ++ [l])
    else runGo sc u now (k + 1) rest { s with Came := s.Came.set k (s.Came.getD k false || l.When != 2) } (out ++ [l])
def runB (f : GFoe) (s : GBoss) (u : GUnit) (now : Int) : GBoss × List GLine := if s.Came.length ≠ f.Script.length ∨ u.Health < 1 then (s, []) else runGo f.Script u now 0 f.Script s []
theorem runGo_len : ∀ {sc : List GLine} {u : GUnit} {now : Int} {k : Nat} {rest : List GLine} {s : GBoss} {out : List GLine}, (runGo sc u now k rest s out).1.Came.length = s.Came.length
  | _, _, _, _, [], _, _ => rfl
  | sc, u, now, k, l :: rest, s, out => by
    simp only [runGo]
    split
    · rw [runGo_len]
    · split
      · rw [runGo_len]; simp
      · split
        · simp [phaseB, clearL_len]
        · rw [runGo_len]; simp
theorem runGo_out : ∀ {sc : List GLine} {u : GUnit} {now : Int} {k : Nat} {rest : List GLine} {s : GBoss} {out : List GLine}, (runGo sc u now k rest s out).2.length ≤ out.length + rest.length
  | _, _, _, _, [], _, _ => by simp [runGo]
  | sc, u, now, k, l :: rest, s, out => by
    simp only [runGo]
    split
    · have := runGo_out (sc := sc) (u := u) (now := now) (k := k + 1) (rest := rest) (s := s) (out := out)
      simp only [List.length_cons]; omega
    · split
      · refine Nat.le_trans runGo_out ?_
        simp only [List.length_append, List.length_cons, List.length_nil]; omega
      · split
        · simp
        · refine Nat.le_trans runGo_out ?_
          simp only [List.length_append, List.length_cons, List.length_nil]; omega
theorem runB_out {f : GFoe} {s : GBoss} {u : GUnit} {now : Int} : (runB f s u now).2.length ≤ f.Script.length := by
  unfold runB; split
  · simp
  · have := runGo_out (sc := f.Script) (u := u) (now := now) (k := 0) (rest := f.Script) (s := s) (out := []); simpa using this
theorem runB_len {f : GFoe} {s : GBoss} {u : GUnit} {now : Int} : (runB f s u now).1.Came.length = s.Came.length := by
  unfold runB; split
  · rfl
  · exact runGo_len
def startB (f : GFoe) (now : Int) : GBoss := ⟨1, now, List.replicate f.Script.length false, 0⟩
abbrev outB (r : GBoss × List GLine) : AV := .tup [.agg [I r.1.Phase, I r.1.Since, .ref 0 1 0 r.1.Came.length, I r.1.Rage], .ref 1 5 0 r.2.length]
abbrev houtB (r : GBoss × List GLine) : List VObj := [.row 4 1 (encB r.1.Came), .row 40 5 (r.2.flatMap encGLine)]


theorem start_ok (f : GFoe) (now : Int) (hf : f.Script.length ≤ 140737488355328) : Ok Try.prog 17 [aGFoe f, I now] [] (.agg [I 1, I now, .ref 0 1 0 (List.replicate f.Script.length false).length, I 0]) [.row 4 1 (encB (List.replicate f.Script.length false))] [] := by
 refine Ok.len fun hlen => ?_
 have hl_f_Script : f.Script.length ≤ maxLen := hlen _ (by simp [lensL, lens, lensP])
 have hl_f_Hoard : f.Hoard.length ≤ maxLen := hlen _ (by simp [lensL, lens, lensP])
 unfold maxLen at hl_f_Script hl_f_Hoard
 refine ok_of_sem Try.func17 rfl ?_
 show Walks Try.prog _ _ ⟨[(0, aGFoe f), (1, I now)], [], 0, [], 11, 0⟩
 refine sem_seq ?_
 refine sem_region rfl ?_
 refine step_n (o := .box [_, _, _, _, _, _, _, _]) (nx' := 1) rfl rfl rfl trivial ?_
 refine step_n (o := .box [_, _, _, _]) (nx' := 2) rfl rfl rfl trivial ?_
 refine step_nil ?_
 refine seqK_n ?_
 refine sem_seq ?_
 refine sem_region rfl ?_
 refine step_r rfl rfl trivial ?_
 refine step_r rfl rfl (by decide) ?_
 refine step_r rfl rfl trivial ?_
 refine step_r rfl rfl trivial ?_
 refine step_mkW (by' := 1) (sz := 1) (n := f.Script.length) (n' := (List.replicate f.Script.length false).length) (cs := encB (List.replicate f.Script.length false)) rfl rfl rfl rfl rfl rfl rfl (by omega) (by omega) (repeatZ_map _) (List.length_replicate ..).symm rfl rfl ?_
 refine step_r (v := (.agg [_, _, _, _])) rfl rfl trivial ?_
 refine step_store (H' := [(2, .row _ _ _), (1, .box [_, _, _, _]), (0, .box [_, _, _, _, _, _, _, _])]) rfl rfl rfl rfl rfl rfl (Nat.le_of_ble_eq_true rfl) (.inl rfl) rfl ?_
 refine step_nil ?_
 refine seqK_n ?_
 refine sem_ret ?_
 exact answersGR [] [2] rfl ⟨Nat.le_of_ble_eq_true rfl, trivial⟩ rfl (by (repeat' apply And.intro) <;> first | trivial | rfl | exact flat_len (fun _ => rfl) _ | exact encI_len _ | exact encB_len _ | exact encY_len _ | assumption) (rfl) rfl rfl rfl (by decide) rfl rfl ⟨⟨rfl, rfl⟩, trivial⟩

theorem startR_ok (f : GFoe) (now : Int) (hf : f.Script.length ≤ 140737488355328) : Ok Try.prog 18 [aGFoe f, I now] [] (.agg [I 1, I now, .ref 0 1 0 (List.replicate f.Script.length false).length, I 0]) [.row 4 1 (encB (List.replicate f.Script.length false))] [] := by
 refine Ok.len fun hlen => ?_
 have hl_f_Script : f.Script.length ≤ maxLen := hlen _ (by simp [lensL, lens, lensP])
 have hl_f_Hoard : f.Hoard.length ≤ maxLen := hlen _ (by simp [lensL, lens, lensP])
 unfold maxLen at hl_f_Script hl_f_Hoard
 refine ok_of_sem Try.func18 rfl ?_
 show Walks Try.prog _ _ ⟨[(0, aGFoe f), (1, I now)], [], 0, [], 11, 0⟩
 refine sem_seq ?_
 refine sem_region rfl ?_
 refine step_n (o := .box [_, _, _, _, _, _, _, _]) (nx' := 1) rfl rfl rfl trivial ?_
 refine step_n (o := .box [_, _, _, _]) (nx' := 2) rfl rfl rfl trivial ?_
 refine step_nil ?_
 refine seqK_n ?_
 refine sem_seq ?_
 refine sem_region rfl ?_
 refine step_r rfl rfl trivial ?_
 refine step_r rfl rfl (by decide) ?_
 refine step_r rfl rfl trivial ?_
 refine step_r rfl rfl trivial ?_
 refine step_mkW (by' := 1) (sz := 1) (n := f.Script.length) (n' := (List.replicate f.Script.length false).length) (cs := encB (List.replicate f.Script.length false)) rfl rfl rfl rfl rfl rfl rfl (by omega) (by omega) (repeatZ_map _) (List.length_replicate ..).symm rfl rfl ?_
 refine step_r (v := (.agg [_, _, _, _])) rfl rfl trivial ?_
 refine step_store (H' := [(2, .row _ _ _), (1, .box [_, _, _, _]), (0, .box [_, _, _, _, _, _, _, _])]) rfl rfl rfl rfl rfl rfl (Nat.le_of_ble_eq_true rfl) (.inl rfl) rfl ?_
 refine step_nil ?_
 refine seqK_n ?_
 refine sem_ret ?_
 exact answersGR [] [2] rfl ⟨Nat.le_of_ble_eq_true rfl, trivial⟩ rfl (by (repeat' apply And.intro) <;> first | trivial | rfl | exact flat_len (fun _ => rfl) _ | exact encI_len _ | exact encB_len _ | exact encY_len _ | assumption) (rfl) rfl rfl rfl (by decide) rfl rfl ⟨⟨rfl, rfl⟩, trivial⟩

theorem rightB_ok (f : GFoe) (s : GBoss) : Ok Try.prog 13 [aGFoe f, aGBoss s] [] (B (decide (s.Came.length = f.Script.length))) [] [] := by
 refine Ok.len fun hlen => ?_
 have hl_f_Script : f.Script.length ≤ maxLen := hlen _ (by simp [lensL, lens, lensP])
 have hl_f_Hoard : f.Hoard.length ≤ maxLen := hlen _ (by simp [lensL, lens, lensP])
 have hl_s_Came : s.Came.length ≤ maxLen := hlen _ (by simp [lensL, lens, lensP])
 unfold maxLen at hl_f_Script hl_f_Hoard hl_s_Came
 refine ok_of_sem Try.func13 rfl ?_
 show Walks Try.prog _ _ ⟨[(0, aGFoe f), (1, aGBoss s)], [], 0, [], 12, 0⟩
 refine sem_seq ?_
 refine sem_region rfl ?_
 refine step_n (o := .box [_, _, _, _, _, _, _, _]) (nx' := 1) rfl rfl rfl trivial ?_
 refine step_n (o := .box [_, _, _, _]) (nx' := 2) rfl rfl rfl trivial ?_
 refine step_r rfl rfl trivial ?_
 refine step_nil ?_
 refine seqK_n ?_
 refine sem_seq ?_
 refine sem_region rfl ?_
 refine step_r rfl rfl (by decide) ?_
 refine step_r rfl rfl trivial ?_
 refine step_r rfl rfl trivial ?_
 refine step_r rfl rfl (by decide) ?_
 refine step_r rfl rfl trivial ?_
 refine step_r rfl rfl trivial ?_
 refine step_bin rfl rfl rfl rfl rfl trivial ?_
 refine step_r rfl rfl trivial ?_
 refine step_nil ?_
 refine seqK_n ?_
 refine sem_ret ?_
 refine answersR (vs := [_]) rfl ⟨trivial, trivial⟩ (congrArg B ?_) rfl
 first
  | rfl
  | (exfalso; omega)
  | (simp []; done)
  | (rw [Bool.eq_iff_iff]; simp []; done)
  | (rw [Bool.eq_iff_iff]; simp []; omega)
  | grind []

theorem rightBR_ok (f : GFoe) (s : GBoss) : Ok Try.prog 14 [aGFoe f, aGBoss s] [] (B (decide (s.Came.length = f.Script.length))) [] [] := by
 refine Ok.len fun hlen => ?_
 have hl_f_Script : f.Script.length ≤ maxLen := hlen _ (by simp [lensL, lens, lensP])
 have hl_f_Hoard : f.Hoard.length ≤ maxLen := hlen _ (by simp [lensL, lens, lensP])
 have hl_s_Came : s.Came.length ≤ maxLen := hlen _ (by simp [lensL, lens, lensP])
 unfold maxLen at hl_f_Script hl_f_Hoard hl_s_Came
 refine ok_of_sem Try.func14 rfl ?_
 show Walks Try.prog _ _ ⟨[(0, aGFoe f), (1, aGBoss s)], [], 0, [], 12, 0⟩
 refine sem_seq ?_
 refine sem_region rfl ?_
 refine step_n (o := .box [_, _, _, _, _, _, _, _]) (nx' := 1) rfl rfl rfl trivial ?_
 refine step_n (o := .box [_, _, _, _]) (nx' := 2) rfl rfl rfl trivial ?_
 refine step_r rfl rfl trivial ?_
 refine step_nil ?_
 refine seqK_n ?_
 refine sem_seq ?_
 refine sem_region rfl ?_
 refine step_r rfl rfl (by decide) ?_
 refine step_r rfl rfl trivial ?_
 refine step_r rfl rfl trivial ?_
 refine step_r rfl rfl (by decide) ?_
 refine step_r rfl rfl trivial ?_
 refine step_r rfl rfl trivial ?_
 refine step_bin rfl rfl rfl rfl rfl trivial ?_
 refine step_r rfl rfl trivial ?_
 refine step_nil ?_
 refine seqK_n ?_
 refine sem_ret ?_
 refine answersR (vs := [_]) rfl ⟨trivial, trivial⟩ (congrArg B ?_) rfl
 first
  | rfl
  | (exfalso; omega)
  | (simp []; done)
  | (rw [Bool.eq_iff_iff]; simp []; done)
  | (rw [Bool.eq_iff_iff]; simp []; omega)
  | grind []

theorem copyB_ok (s : GBoss) (hs : s.Came.length ≤ 16777216) : Ok Try.prog 12 [aGBoss s] [] (.agg [I s.Phase, I s.Since, .ref 0 1 0 s.Came.length, I s.Rage]) [.row 4 1 (encB s.Came)] [] := by
 refine Ok.len fun hlen => ?_
 have hl_s_Came : s.Came.length ≤ maxLen := hlen _ (by simp [lensL, lens, lensP])
 unfold maxLen at hl_s_Came
 refine ok_of_sem Try.func12 rfl ?_
 show Walks Try.prog _ _ ⟨[(0, aGBoss s)], [], 0, [], 8, 0⟩
 refine sem_seq ?_
 refine sem_region rfl ?_
 refine step_n (o := .box [_, _, _, _]) (nx' := 1) rfl rfl rfl trivial ?_
 refine step_n (o := .box [_, _, _, _]) (nx' := 2) rfl rfl rfl trivial ?_
 refine step_nil ?_
 refine seqK_n ?_
 refine sem_seq ?_
 refine sem_region rfl ?_
 refine step_r rfl rfl (by decide) ?_
 refine step_r rfl rfl trivial ?_
 refine step_callJ (Hin := []) (out' := .ref 2 _ _ _) (H' := [(2, .row _ _ _), (1, .box [_, _, _, _]), (0, .box [_, _, _, _])]) (nx' := 3) [] rfl rfl rfl rfl rfl rfl rfl rfl rfl (by (repeat' apply And.intro) <;> first | trivial | rfl | exact flat_len (fun _ => rfl) _ | exact encI_len _ | exact encB_len _ | exact encY_len _ | assumption) (clone_Bool s.Came false hs) rfl (by decide) rfl rfl ⟨encB_solid, trivial⟩ rfl rfl rfl rfl ?_
 refine step_r rfl rfl (by decide) ?_
 refine step_store (H' := [(2, .row _ _ _), (1, .box [_, _, _, _]), (0, .box [_, _, _, _])]) rfl rfl rfl rfl rfl rfl (Nat.le_of_ble_eq_true rfl) (.inl rfl) rfl ?_
 refine step_nil ?_
 refine seqK_n ?_
 refine sem_seq ?_
 refine sem_region rfl ?_
 refine step_r (v := (.agg [_, _, _, _])) rfl rfl (Nat.le_of_ble_eq_true rfl) ?_
 refine step_store (H' := [(2, .row _ _ _), (1, .box [_, _, _, _]), (0, .box [_, _, _, _])]) rfl rfl rfl rfl rfl rfl (Nat.le_of_ble_eq_true rfl) (.inl rfl) rfl ?_
 refine step_nil ?_
 refine seqK_n ?_
 refine sem_ret ?_
 exact answersGR [] [2] rfl ⟨Nat.le_of_ble_eq_true rfl, trivial⟩ rfl (by (repeat' apply And.intro) <;> first | trivial | rfl | exact flat_len (fun _ => rfl) _ | exact encI_len _ | exact encB_len _ | exact encY_len _ | assumption) (rfl) rfl rfl rfl (by decide) rfl rfl ⟨⟨rfl, rfl⟩, trivial⟩

theorem copyBR_ok (s : GBoss) (hs : s.Came.length ≤ 16777216) : Ok Try.prog 8 [aGBoss s] [] (.agg [I s.Phase, I s.Since, .ref 0 1 0 s.Came.length, I s.Rage]) [.row 4 1 (encB s.Came)] [] := by
 refine Ok.len fun hlen => ?_
 have hl_s_Came : s.Came.length ≤ maxLen := hlen _ (by simp [lensL, lens, lensP])
 unfold maxLen at hl_s_Came
 refine ok_of_sem Try.func8 rfl ?_
 show Walks Try.prog _ _ ⟨[(0, aGBoss s)], [], 0, [], 9, 0⟩
 refine sem_seq ?_
 refine sem_region rfl ?_
 refine step_n (o := .box [_, _, _, _]) (nx' := 1) rfl rfl rfl trivial ?_
 refine step_n (o := .box [_, _, _, _]) (nx' := 2) rfl rfl rfl trivial ?_
 refine step_nil ?_
 refine seqK_n ?_
 refine sem_seq ?_
 refine sem_region rfl ?_
 refine step_r rfl rfl ⟨by decide, rfl⟩ ?_
 refine step_r rfl rfl (by decide) ?_
 refine step_r rfl rfl trivial ?_
 refine step_appendN (m := s.Came.length) (new := encB s.Came) (cs' := encB s.Came) (n' := s.Came.length) rfl rfl (rfl) rfl rfl rfl rfl rfl rfl (encB_len s.Came) (by first | decide | (unfold maxGrow; omega) | (unfold maxGrow; simp; omega)) rfl rfl rfl rfl ?_
 refine step_r rfl rfl (by decide) ?_
 refine step_store (H' := [(2, .row _ _ _), (1, .box [_, _, _, _]), (0, .box [_, _, _, _])]) rfl rfl rfl rfl rfl rfl (Nat.le_of_ble_eq_true rfl) (.inl rfl) rfl ?_
 refine step_nil ?_
 refine seqK_n ?_
 refine sem_seq ?_
 refine sem_region rfl ?_
 refine step_r (v := (.agg [_, _, _, _])) rfl rfl (Nat.le_of_ble_eq_true rfl) ?_
 refine step_store (H' := [(2, .row _ _ _), (1, .box [_, _, _, _]), (0, .box [_, _, _, _])]) rfl rfl rfl rfl rfl rfl (Nat.le_of_ble_eq_true rfl) (.inl rfl) rfl ?_
 refine step_nil ?_
 refine seqK_n ?_
 refine sem_ret ?_
 exact answersGR [] [2] rfl ⟨Nat.le_of_ble_eq_true rfl, trivial⟩ rfl (by (repeat' apply And.intro) <;> first | trivial | rfl | exact flat_len (fun _ => rfl) _ | exact encI_len _ | exact encB_len _ | exact encY_len _ | assumption) (rfl) rfl rfl rfl (by decide) rfl rfl ⟨⟨rfl, rfl⟩, trivial⟩

theorem sameB_iff (s t : GBoss) : s = t ↔ s.Phase = t.Phase ∧ s.Since = t.Since ∧ s.Came = t.Came ∧ s.Rage = t.Rage := by
  obtain ⟨a, b, c, d⟩ := s
  obtain ⟨a', b', c', d'⟩ := t
  simp

theorem sameB_ok (s : GBoss) (t : GBoss) : Ok Try.prog 19 [aGBoss s, aGBoss t] [] (B (decide (s = t))) [] [] := by
 refine Ok.len fun hlen => ?_
 have hl_s_Came : s.Came.length ≤ maxLen := hlen _ (by simp [lensL, lens, lensP])
 have hl_t_Came : t.Came.length ≤ maxLen := hlen _ (by simp [lensL, lens, lensP])
 unfold maxLen at hl_s_Came hl_t_Came
 refine ok_of_sem Try.func19 rfl ?_
 show Walks Try.prog _ _ ⟨[(0, aGBoss s), (1, aGBoss t)], [], 0, [], 31, 0⟩
 refine sem_seq ?_
 refine sem_region rfl ?_
 refine step_n (o := .box [_, _, _, _]) (nx' := 1) rfl rfl rfl trivial ?_
 refine step_n (o := .box [_, _, _, _]) (nx' := 2) rfl rfl rfl trivial ?_
 refine step_r rfl rfl trivial ?_
 refine step_nil ?_
 refine seqK_n ?_
 refine sem_seq ?_
 refine sem_region rfl ?_
 refine step_r rfl rfl (by decide) ?_
 refine step_r rfl rfl trivial ?_
 refine step_r rfl rfl (by decide) ?_
 refine step_r rfl rfl trivial ?_
 refine step_bin rfl rfl rfl rfl rfl trivial ?_
 refine step_r rfl rfl trivial ?_
 refine step_gs rfl (fun h2 => ?_) (fun h2 => ?_)
 ·have g2 := h2
  try simp at g2
  refine step_g1 rfl h2 ?_
  refine step_r rfl rfl (by decide) ?_
  refine step_g1 rfl h2 ?_
  refine step_r rfl rfl trivial ?_
  refine step_g1 rfl h2 ?_
  refine step_r rfl rfl (by decide) ?_
  refine step_g1 rfl h2 ?_
  refine step_r rfl rfl trivial ?_
  refine step_g1 rfl h2 ?_
  refine step_bin rfl rfl rfl rfl rfl trivial ?_
  refine step_pickT rfl h2 rfl rfl ?_
  refine step_r rfl rfl trivial ?_
  refine step_gs rfl (fun h4 => ?_) (fun h4 => ?_)
  ·have g4 := h4
   try simp at g4
   refine step_g1 rfl h4 ?_
   refine step_r rfl rfl (by decide) ?_
   refine step_g1 rfl h4 ?_
   refine step_r rfl rfl trivial ?_
   refine step_g1 rfl h4 ?_
   refine step_r rfl rfl (by decide) ?_
   refine step_g1 rfl h4 ?_
   refine step_r rfl rfl trivial ?_
   refine step_g1 rfl h4 ?_
   refine step_bin rfl rfl rfl rfl rfl trivial ?_
   refine step_pickT rfl h4 rfl rfl ?_
   refine step_r rfl rfl trivial ?_
   refine step_gs rfl (fun h6 => ?_) (fun h6 => ?_)
   ·have g6 := h6
    try simp at g6
    refine step_g1 rfl h6 ?_
    refine step_r rfl rfl (by decide) ?_
    refine step_g1 rfl h6 ?_
    refine step_r rfl rfl trivial ?_
    refine step_g1 rfl h6 ?_
    refine step_r rfl rfl (by decide) ?_
    refine step_g1 rfl h6 ?_
    refine step_r rfl rfl trivial ?_
    refine step_g1 rfl h6 ?_
    refine step_call rfl rfl rfl rfl (equal_Bool s.Came false t.Came false) rfl rfl rfl ?_
    refine step_pickT rfl h6 rfl rfl ?_
    refine step_r rfl rfl trivial ?_
    refine step_nil ?_
    refine seqK_n ?_
    refine sem_ret ?_
    refine answersR (vs := [_]) rfl ⟨trivial, trivial⟩ (congrArg B ?_) rfl
    first
     | rfl
     | (exfalso; omega)
     | (simp [sameB_iff, g2, g4, g6]; done)
     | (rw [Bool.eq_iff_iff]; simp [sameB_iff, g2, g4, g6]; done)
     | (rw [Bool.eq_iff_iff]; simp [sameB_iff, g2, g4, g6]; omega)
     | grind [sameB_iff]
   ·have g6 := h6
    try simp at g6
    refine step_g0 rfl h6 rfl ?_
    refine step_g0 rfl h6 rfl ?_
    refine step_g0 rfl h6 rfl ?_
    refine step_g0 rfl h6 rfl ?_
    refine step_g0 rfl h6 rfl ?_
    refine step_pickF rfl h6 rfl rfl ?_
    refine step_r rfl rfl trivial ?_
    refine step_nil ?_
    refine seqK_n ?_
    refine sem_ret ?_
    refine answersR (vs := [_]) rfl ⟨trivial, trivial⟩ (congrArg B ?_) rfl
    first
     | rfl
     | (exfalso; omega)
     | (simp [sameB_iff, g2, g4, g6]; done)
     | (rw [Bool.eq_iff_iff]; simp [sameB_iff, g2, g4, g6]; done)
     | (rw [Bool.eq_iff_iff]; simp [sameB_iff, g2, g4, g6]; omega)
     | grind [sameB_iff]
  ·have g4 := h4
   try simp at g4
   refine step_g0 rfl h4 rfl ?_
   refine step_g0 rfl h4 rfl ?_
   refine step_g0 rfl h4 rfl ?_
   refine step_g0 rfl h4 rfl ?_
   refine step_g0 rfl h4 rfl ?_
   refine step_pickF rfl h4 rfl rfl ?_
   refine step_r rfl rfl trivial ?_
   refine step_gf rfl rfl ?_
   refine step_gf rfl rfl ?_
   refine step_gf rfl rfl ?_
   refine step_gf rfl rfl ?_
   refine step_gf rfl rfl ?_
   refine step_r rfl rfl trivial ?_
   refine step_r rfl rfl trivial ?_
   refine step_nil ?_
   refine seqK_n ?_
   refine sem_ret ?_
   refine answersR (vs := [_]) rfl ⟨trivial, trivial⟩ (congrArg B ?_) rfl
   first
    | rfl
    | (exfalso; omega)
    | (simp [sameB_iff, g2, g4]; done)
    | (rw [Bool.eq_iff_iff]; simp [sameB_iff, g2, g4]; done)
    | (rw [Bool.eq_iff_iff]; simp [sameB_iff, g2, g4]; omega)
    | grind [sameB_iff]
 ·have g2 := h2
  try simp at g2
  refine step_g0 rfl h2 rfl ?_
  refine step_g0 rfl h2 rfl ?_
  refine step_g0 rfl h2 rfl ?_
  refine step_g0 rfl h2 rfl ?_
  refine step_g0 rfl h2 rfl ?_
  refine step_pickF rfl h2 rfl rfl ?_
  refine step_r rfl rfl trivial ?_
  refine step_gf rfl rfl ?_
  refine step_gf rfl rfl ?_
  refine step_gf rfl rfl ?_
  refine step_gf rfl rfl ?_
  refine step_gf rfl rfl ?_
  refine step_r rfl rfl trivial ?_
  refine step_r rfl rfl trivial ?_
  refine step_gf rfl rfl ?_
  refine step_gf rfl rfl ?_
  refine step_gf rfl rfl ?_
  refine step_gf rfl rfl ?_
  refine step_gf rfl rfl ?_
  refine step_r rfl rfl trivial ?_
  refine step_r rfl rfl trivial ?_
  refine step_nil ?_
  refine seqK_n ?_
  refine sem_ret ?_
  refine answersR (vs := [_]) rfl ⟨trivial, trivial⟩ (congrArg B ?_) rfl
  first
   | rfl
   | (exfalso; omega)
   | (simp [sameB_iff, g2]; done)
   | (rw [Bool.eq_iff_iff]; simp [sameB_iff, g2]; done)
   | (rw [Bool.eq_iff_iff]; simp [sameB_iff, g2]; omega)
   | grind [sameB_iff]

theorem due_ok (l : GLine) (s : GBoss) (came : Bool) (u : GUnit) (now : Int) : Ok Try.prog 21 [aGLine l, aGBoss s, B came, aGUnit u, I now] [] (B (dueB l s came u now)) [] [] := by
 refine Ok.len fun hlen => ?_
 have hl_s_Came : s.Came.length ≤ maxLen := hlen _ (by simp [lensL, lens, lensP])
 unfold maxLen at hl_s_Came
 refine ok_of_sem Try.func21 rfl ?_
 show Walks Try.prog _ _ ⟨[(0, aGLine l), (1, aGBoss s), (2, B came), (3, aGUnit u), (4, I now)], [], 0, [], 59, 0⟩
 refine sem_seq ?_
 refine sem_region rfl ?_
 refine step_n (o := .box [_, _, _, _, _]) (nx' := 1) rfl rfl rfl trivial ?_
 refine step_n (o := .box [_, _, _, _]) (nx' := 2) rfl rfl rfl trivial ?_
 refine step_n (o := .box [_, _, _, _, _, _, _, _, _, _]) (nx' := 3) rfl rfl rfl trivial ?_
 refine step_r rfl rfl trivial ?_
 refine step_nil ?_
 refine seqK_n ?_
 refine sem_seq ?_
 refine sem_seq ?_
 refine sem_region rfl ?_
 refine step_r rfl rfl (by decide) ?_
 refine step_r rfl rfl trivial ?_
 refine step_r rfl rfl (by decide) ?_
 refine step_r rfl rfl trivial ?_
 refine step_bin rfl rfl rfl rfl rfl trivial ?_
 refine step_nil ?_
 refine seqK_n ?_
 refine sem_cond rfl (fun h1 => ?_) (fun h1 => ?_)
 ·have g1 := h1
  try simp at g1
  refine sem_seq ?_
  refine sem_region rfl ?_
  refine step_r rfl rfl trivial ?_
  refine step_nil ?_
  refine seqK_n ?_
  refine sem_ret ?_
  refine seqK_r ?_
  refine answersR rfl ⟨trivial, trivial⟩ (congrArg B ?_) rfl
  first
   | (simp [dueB, g1]; done)
   | grind [dueB]
 ·have g1 := h1
  try simp at g1
  refine sem_skip ?_
  refine seqK_n ?_
  refine sem_seq ?_
  refine sem_region rfl ?_
  refine step_r rfl rfl trivial ?_
  refine step_r rfl rfl (by decide) ?_
  refine step_r rfl rfl trivial ?_
  refine step_bin rfl rfl rfl rfl rfl trivial ?_
  refine step_r rfl rfl trivial ?_
  refine step_nil ?_
  refine seqK_n ?_
  refine sem_seq ?_
  refine sem_seq ?_
  refine sem_region rfl ?_
  refine step_r rfl rfl (by decide) ?_
  refine step_r rfl rfl trivial ?_
  refine step_nil ?_
  refine seqK_n ?_
  refine sem_block ?_
  refine sem_seq ?_
  refine sem_region rfl ?_
  refine step_bin rfl rfl rfl rfl rfl trivial ?_
  refine step_r rfl rfl trivial ?_
  refine step_nil ?_
  refine seqK_n ?_
  refine sem_cond rfl (fun h5 => ?_) (fun h5 => ?_)
  ·have g5 := h5
   try simp at g5
   refine sem_seq ?_
   refine sem_region rfl ?_
   refine step_r rfl rfl trivial ?_
   refine step_r rfl rfl trivial ?_
   refine step_r rfl rfl trivial ?_
   refine step_gs rfl (fun h8 => ?_) (fun h8 => ?_)
   ·have g8 := h8
    try simp at g8
    refine step_g1 rfl h8 ?_
    refine step_r (v := (.agg [_, _, _, _, _, _, _, _, _, _])) rfl rfl (Nat.le_of_ble_eq_true rfl) ?_
    refine step_g1 rfl h8 ?_
    refine step_r rfl rfl (by decide) ?_
    refine step_g1 rfl h8 ?_
    refine step_r rfl rfl trivial ?_
    refine step_g1 rfl h8 ?_
    refine step_call rfl rfl rfl rfl (below_ok u l.Arg) rfl rfl rfl ?_
    refine step_pickT rfl h8 rfl rfl ?_
    refine step_r rfl rfl trivial ?_
    refine step_nil ?_
    refine seqK_n ?_
    refine sem_ret ?_
    refine blkK_r ?_
    refine seqK_r ?_
    refine answersR rfl ⟨trivial, trivial⟩ (congrArg B ?_) rfl
    first
     | (simp [dueB, g1, g5, g8]; done)
     | grind [dueB]
   ·have g8 := h8
    try simp at g8
    refine step_g0 rfl h8 rfl ?_
    refine step_g0 rfl h8 rfl ?_
    refine step_g0 rfl h8 rfl ?_
    refine step_g0 rfl h8 rfl ?_
    refine step_pickF rfl h8 rfl rfl ?_
    refine step_r rfl rfl trivial ?_
    refine step_nil ?_
    refine seqK_n ?_
    refine sem_ret ?_
    refine blkK_r ?_
    refine seqK_r ?_
    refine answersR rfl ⟨trivial, trivial⟩ (congrArg B ?_) rfl
    first
     | (simp [dueB, g1, g5, g8]; done)
     | grind [dueB]
  ·have g5 := h5
   try simp at g5
   refine sem_seq ?_
   refine sem_region rfl ?_
   refine step_bin rfl rfl rfl rfl rfl trivial ?_
   refine step_r rfl rfl trivial ?_
   refine step_nil ?_
   refine seqK_n ?_
   refine sem_cond rfl (fun h11 => ?_) (fun h11 => ?_)
   ·have g11 := h11
    try simp at g11
    refine sem_seq ?_
    refine sem_region rfl ?_
    refine step_r rfl rfl trivial ?_
    refine step_bin rfl rfl rfl rfl rfl trivial ?_
    refine step_r rfl rfl trivial ?_
    refine step_gs rfl (fun h13 => ?_) (fun h13 => ?_)
    ·have g13 := h13
     try simp at g13
     refine step_g1 rfl h13 ?_
     refine step_r rfl rfl (by decide) ?_
     refine step_g1 rfl h13 ?_
     refine step_r rfl rfl trivial ?_
     refine step_g1 rfl h13 ?_
     refine step_bin rfl rfl rfl rfl rfl trivial ?_
     refine step_pickT rfl h13 rfl rfl ?_
     refine step_r rfl rfl trivial ?_
     refine step_gs rfl (fun h15 => ?_) (fun h15 => ?_)
     ·have g15 := h15
      try simp at g15
      refine step_g1 rfl h15 ?_
      refine step_r rfl rfl trivial ?_
      refine step_g1 rfl h15 ?_
      refine step_r rfl rfl (by decide) ?_
      refine step_g1 rfl h15 ?_
      refine step_r rfl rfl trivial ?_
      refine step_g1 rfl h15 ?_
      refine step_bin rfl rfl rfl rfl rfl (by first | decide | omega | simp_all) ?_
      refine step_g1 rfl h15 ?_
      refine step_bin rfl rfl rfl rfl rfl trivial ?_
      refine step_pickT rfl h15 rfl rfl ?_
      refine step_r rfl rfl trivial ?_
      refine step_nil ?_
      refine seqK_n ?_
      refine sem_ret ?_
      refine blkK_r ?_
      refine seqK_r ?_
      refine answersR rfl ⟨trivial, trivial⟩ (congrArg B ?_) rfl
      first
       | (simp [dueB, g1, g5, g11, g13, g15]; done)
       | grind [dueB]
     ·have g15 := h15
      try simp at g15
      refine step_g0 rfl h15 rfl ?_
      refine step_g0 rfl h15 rfl ?_
      refine step_g0 rfl h15 rfl ?_
      refine step_g0 rfl h15 rfl ?_
      refine step_g0 rfl h15 rfl ?_
      refine step_pickF rfl h15 rfl rfl ?_
      refine step_r rfl rfl trivial ?_
      refine step_nil ?_
      refine seqK_n ?_
      refine sem_ret ?_
      refine blkK_r ?_
      refine seqK_r ?_
      refine answersR rfl ⟨trivial, trivial⟩ (congrArg B ?_) rfl
      first
       | (simp [dueB, g1, g5, g11, g13, g15]; done)
       | grind [dueB]
    ·have g13 := h13
     try simp at g13
     refine step_g0 rfl h13 rfl ?_
     refine step_g0 rfl h13 rfl ?_
     refine step_g0 rfl h13 rfl ?_
     refine step_pickF rfl h13 rfl rfl ?_
     refine step_r rfl rfl trivial ?_
     refine step_gf rfl rfl ?_
     refine step_gf rfl rfl ?_
     refine step_gf rfl rfl ?_
     refine step_gf rfl rfl ?_
     refine step_gf rfl rfl ?_
     refine step_r rfl rfl trivial ?_
     refine step_r rfl rfl trivial ?_
     refine step_nil ?_
     refine seqK_n ?_
     refine sem_ret ?_
     refine blkK_r ?_
     refine seqK_r ?_
     refine answersR rfl ⟨trivial, trivial⟩ (congrArg B ?_) rfl
     first
      | (simp [dueB, g1, g5, g11, g13]; done)
      | grind [dueB]
   ·have g11 := h11
    try simp at g11
    refine sem_seq ?_
    refine sem_region rfl ?_
    refine step_bin rfl rfl rfl rfl rfl trivial ?_
    refine step_r rfl rfl trivial ?_
    refine step_nil ?_
    refine seqK_n ?_
    refine sem_cond rfl (fun h18 => ?_) (fun h18 => ?_)
    ·have g18 := h18
     try simp at g18
     refine sem_seq ?_
     refine sem_region rfl ?_
     refine step_r rfl rfl trivial ?_
     refine step_r rfl rfl trivial ?_
     refine step_r rfl rfl trivial ?_
     refine step_gs rfl (fun h21 => ?_) (fun h21 => ?_)
     ·have g21 := h21
      try simp at g21
      refine step_g1 rfl h21 ?_
      refine step_r rfl rfl trivial ?_
      refine step_g1 rfl h21 ?_
      refine step_r rfl rfl (by decide) ?_
      refine step_g1 rfl h21 ?_
      refine step_r rfl rfl trivial ?_
      refine step_g1 rfl h21 ?_
      refine step_bin rfl rfl rfl rfl rfl trivial ?_
      refine step_pickT rfl h21 rfl rfl ?_
      refine step_r rfl rfl trivial ?_
      refine step_nil ?_
      refine seqK_n ?_
      refine sem_ret ?_
      refine blkK_r ?_
      refine seqK_r ?_
      refine answersR rfl ⟨trivial, trivial⟩ (congrArg B ?_) rfl
      first
       | (simp [dueB, g1, g5, g11, g18, g21]; done)
       | grind [dueB]
     ·have g21 := h21
      try simp at g21
      refine step_g0 rfl h21 rfl ?_
      refine step_g0 rfl h21 rfl ?_
      refine step_g0 rfl h21 rfl ?_
      refine step_g0 rfl h21 rfl ?_
      refine step_pickF rfl h21 rfl rfl ?_
      refine step_r rfl rfl trivial ?_
      refine step_nil ?_
      refine seqK_n ?_
      refine sem_ret ?_
      refine blkK_r ?_
      refine seqK_r ?_
      refine answersR rfl ⟨trivial, trivial⟩ (congrArg B ?_) rfl
      first
       | (simp [dueB, g1, g5, g11, g18, g21]; done)
       | grind [dueB]
    ·have g18 := h18
     try simp at g18
     refine sem_skip ?_
     refine blkK_n ?_
     refine seqK_n ?_
     refine sem_seq ?_
     refine sem_region rfl ?_
     refine step_r rfl rfl trivial ?_
     refine step_nil ?_
     refine seqK_n ?_
     refine sem_ret ?_
     refine answersR rfl ⟨trivial, trivial⟩ (congrArg B ?_) rfl
     first
      | (simp [dueB, g1, g5, g11, g18]; done)
      | grind [dueB]

theorem phase_ok (f : GFoe) (s : GBoss) (n : Int) (now : Int) (m : Nat) (hm : s.Came.length = m) (hl : m = f.Script.length) : Ok Try.prog 22 [aGFoe f, .agg [I s.Phase, I s.Since, .ref 0 1 0 m, I s.Rage], I n, I now] [.row 4 1 (encB s.Came)] (.agg [I n, I now, .ref 0 1 0 m, I s.Rage]) [.row 4 1 (encB (clearL f.Script n s.Came))] [] := by
 refine Ok.len fun hlen => ?_
 have hl_f_Script : f.Script.length ≤ maxLen := hlen _ (by simp [lensL, lens, lensP])
 have hl_f_Hoard : f.Hoard.length ≤ maxLen := hlen _ (by simp [lensL, lens, lensP])
 unfold maxLen at hl_f_Script hl_f_Hoard
 refine ok_of_sem Try.func22 rfl ?_
 show Walks Try.prog _ _ ⟨[(0, aGFoe f), (1, .agg [I s.Phase, I s.Since, .ref 0 1 0 m, I s.Rage]), (2, I n), (3, I now)], [(0, .row 4 1 (encB s.Came))], 1, [], 34, 1⟩
 refine sem_seq ?_
 refine sem_region rfl ?_
 refine step_n (o := .box [_, _, _, _, _, _, _, _]) (nx' := 2) rfl rfl rfl trivial ?_
 refine step_n (o := .box [_, _, _, _]) (nx' := 3) rfl rfl rfl trivial ?_
 refine step_n (o := .box [_, _, _, _]) (nx' := 4) rfl rfl rfl trivial ?_
 refine step_nil ?_
 refine seqK_n ?_
 refine sem_seq ?_
 refine sem_region rfl ?_
 refine step_r rfl rfl trivial ?_
 refine step_r rfl rfl trivial ?_
 refine step_r rfl rfl (by decide) ?_
 refine step_store (H' := [(3, .box [_, _, _, _]), (2, .box [_, _, _, _]), (1, .box [_, _, _, _, _, _, _, _]), (0, .row _ _ _)]) rfl rfl rfl rfl rfl rfl (Nat.le_of_ble_eq_true rfl) (.inl rfl) rfl ?_
 refine step_r rfl rfl (by decide) ?_
 refine step_store (H' := [(3, .box [_, _, _, _]), (2, .box [_, _, _, _]), (1, .box [_, _, _, _, _, _, _, _]), (0, .row _ _ _)]) rfl rfl rfl rfl rfl rfl (Nat.le_of_ble_eq_true rfl) (.inl rfl) rfl ?_
 refine step_nil ?_
 refine seqK_n ?_
 refine sem_seq ?_
 refine sem_seq ?_
 refine sem_region rfl ?_
 refine step_r rfl rfl (by decide) ?_
 refine step_r rfl rfl trivial ?_
 refine step_r rfl rfl trivial ?_
 refine step_r rfl rfl trivial ?_
 refine step_nil ?_
 refine seqK_n ?_
 refine sem_block ?_
 refine sem_loop_of (fun k : Nat => (⟨[(2, I n), (4, .ptr 1 0), (5, .ptr 2 0), (8, .ptr 3 0), (16, I f.Script.length), (17, I k)], [(0, .row 4 1 (encB (clearL (f.Script.take k) n s.Came))), (1, .box [I f.Id, I f.Health, I f.Hit, I f.Every, I f.Reach, .pv (.slc f.Script.length false (f.Script.flatMap encGLine)), .pv (.slc f.Hoard.length false (f.Hoard.flatMap encGPrize)), I f.Drops]), (2, .box [I n, I now, .ref 0 1 0 m, I s.Rage]), (3, .box [I 0, I 0, .pv (.slc 0 true []), I 0])], 4, [], 34, 1⟩ : St)) (fun k : Nat => k ≤ f.Script.length) (fun k : Nat => f.Script.length - k) 0 (Nat.zero_le _) (less_of rfl ⟨⟨rfl, rfl⟩, ⟨rfl, rfl⟩, ⟨rfl, rfl⟩, ⟨rfl, rfl⟩, ⟨rfl, rfl⟩, ⟨rfl, rfl⟩, trivial⟩ ⟨⟨rfl, rfl, rfl⟩, ⟨rfl, rfl, rfl⟩, ⟨rfl, rfl, rfl⟩, ⟨rfl, rfl, rfl⟩, trivial⟩ (by decide)) (fun k hI => ?_)
 show Walks Try.prog _ _ (⟨[(2, I n), (4, .ptr 1 0), (5, .ptr 2 0), (8, .ptr 3 0), (16, I f.Script.length), (17, I k)], [(0, .row 4 1 (encB (clearL (f.Script.take k) n s.Came))), (1, .box [I f.Id, I f.Health, I f.Hit, I f.Every, I f.Reach, .pv (.slc f.Script.length false (f.Script.flatMap encGLine)), .pv (.slc f.Hoard.length false (f.Hoard.flatMap encGPrize)), I f.Drops]), (2, .box [I n, I now, .ref 0 1 0 m, I s.Rage]), (3, .box [I 0, I 0, .pv (.slc 0 true []), I 0])], 4, [], 34, 1⟩ : St)
 refine sem_seq ?_
 refine sem_region rfl ?_
 refine step_bin rfl rfl rfl rfl rfl trivial ?_
 refine step_nil ?_
 refine seqK_n ?_
 refine sem_seq ?_
 refine sem_cond rfl (fun h3 => ?_) (fun h3 => ?_)
 ·have hk : k < f.Script.length := by have h := of_decide_eq_true h3; omega
  obtain ⟨x, hx⟩ : ∃ x, f.Script[k]? = some x := ⟨_, List.getElem?_eq_getElem hk⟩
  refine sem_skip ?_
  refine seqK_n ?_
  refine sem_seq ?_
  refine sem_block ?_
  refine sem_seq ?_
  refine sem_region rfl ?_
  refine step_r rfl rfl trivial ?_
  refine step_r rfl rfl trivial ?_
  refine step_nil ?_
  refine seqK_n ?_
  refine sem_seq ?_
  refine sem_region rfl ?_
  refine step_r rfl rfl (by decide) ?_
  refine step_r rfl rfl trivial ?_
  refine step_r rfl rfl trivial ?_
  refine step_idxS (k := k) rfl rfl rfl rfl hk (flat_ne (s := 5) (enc := encGLine) (fun _ => rfl) (by decide) hk) rfl ?_
  refine step_r rfl rfl (by decide) ?_
  refine step_load_one rfl rfl rfl (flat_get (s := 5) (enc := encGLine) (fun _ => rfl) hx (o := 0) rfl (by decide)) rfl ?_
  refine step_r rfl rfl trivial ?_
  refine step_bin rfl rfl rfl rfl rfl trivial ?_
  refine step_nil ?_
  refine seqK_n ?_
  refine sem_cond rfl (fun h6 => ?_) (fun h6 => ?_)
  ·have g6 := h6
   try simp at g6
   have gz : x.Phase = n := by simpa using h6
   refine sem_region rfl ?_
   refine step_r rfl rfl (by decide) ?_
   refine step_r rfl rfl trivial ?_
   refine step_r rfl rfl trivial ?_
   have jk7 : k < (clearL (f.Script.take k) n s.Came).length := by first | assumption | omega | (simp only [List.length_set, clearL_len]; omega) | (simp; omega) | simp_all
   obtain ⟨y7, jx7⟩ : ∃ z_, (clearL (f.Script.take k) n s.Came)[k]? = some z_ := ⟨_, List.getElem?_eq_getElem jk7⟩
   refine step_idxR (k := k) rfl rfl rfl rfl (by first | assumption | omega | (have := jk7; simp only [List.length_set, clearL_len] at this ⊢; omega) | (have := jk7; simp at this ⊢; omega)) rfl ?_
   refine step_storeR rfl rfl rfl rfl (by have := jk7; simp [encB]; omega) (encB_set (clearL (f.Script.take k) n s.Came) k false) (.inl rfl) rfl ?_
   refine step_nil ?_
   refine blkK_n ?_
   refine seqK_n ?_
   refine sem_region rfl ?_
   refine step_bin rfl rfl rfl rfl rfl trivial ?_
   refine step_r rfl rfl trivial ?_
   refine step_nil ?_
   exact lup_again (k+1) (hk) (by omega) (less_of rfl ⟨⟨rfl, rfl⟩, ⟨rfl, rfl⟩, ⟨rfl, rfl⟩, ⟨rfl, rfl⟩, ⟨rfl, rfl⟩, ⟨congrArg (fun n => some (I n)) (wrapK hk (by assumption)), rfl⟩, trivial⟩ ⟨⟨congrArg (fun c => some (VObj.row 4 1 (encB c))) (by rw [clearL_snoc hx, if_pos gz]), rfl, rfl⟩, ⟨rfl, rfl, rfl⟩, ⟨rfl, rfl, rfl⟩, ⟨rfl, rfl, rfl⟩, trivial⟩ (by decide))
  ·have g6 := h6
   try simp at g6
   have gz : ¬ x.Phase = n := by simpa using h6
   refine sem_skip ?_
   refine blkK_n ?_
   refine seqK_n ?_
   refine sem_region rfl ?_
   refine step_bin rfl rfl rfl rfl rfl trivial ?_
   refine step_r rfl rfl trivial ?_
   refine step_nil ?_
   exact lup_again (k+1) (hk) (by omega) (less_of rfl ⟨⟨rfl, rfl⟩, ⟨rfl, rfl⟩, ⟨rfl, rfl⟩, ⟨rfl, rfl⟩, ⟨rfl, rfl⟩, ⟨congrArg (fun n => some (I n)) (wrapK hk (by assumption)), rfl⟩, trivial⟩ ⟨⟨congrArg (fun c => some (VObj.row 4 1 (encB c))) (by rw [clearL_snoc hx, if_neg gz]), rfl, rfl⟩, ⟨rfl, rfl, rfl⟩, ⟨rfl, rfl, rfl⟩, ⟨rfl, rfl, rfl⟩, trivial⟩ (by decide))
 ·have hk : k = f.Script.length := by have h := of_decide_eq_false h3; have := hI; omega
  refine sem_exit ?_
  refine seqK_e ?_
  refine lupK_e ?_
  refine blkK_t rfl ?_
  refine seqK_n ?_
  refine sem_seq ?_
  refine sem_region rfl ?_
  refine step_r (v := (.agg [_, _, _, _])) rfl rfl (Nat.le_of_ble_eq_true rfl) ?_
  refine step_store (H' := [(0, .row _ _ _), (1, .box [_, _, _, _, _, _, _, _]), (2, .box [_, _, _, _]), (3, .box [_, _, _, _])]) rfl rfl rfl rfl rfl rfl (Nat.le_of_ble_eq_true rfl) (.inl rfl) rfl ?_
  refine step_nil ?_
  refine seqK_n ?_
  refine sem_ret ?_
  have e : clearL (f.Script.take k) n s.Came = clearL f.Script n s.Came := by rw [hk, List.take_length]
  rw [e]
  exact answersGR [] [] rfl ⟨Nat.le_of_ble_eq_true rfl, trivial⟩ rfl (by (repeat' apply And.intro) <;> first | trivial | rfl | exact flat_len (fun _ => rfl) _ | exact encI_len _ | exact encB_len _ | exact encY_len _ | assumption) (rfl) rfl rfl rfl (by decide) rfl rfl ⟨⟨rfl, rfl⟩, trivial⟩

theorem run_ok (f : GFoe) (s : GBoss) (u : GUnit) (now : Int) (hs : s.Came.length ≤ 60) (hf : f.Script.length ≤ 60) : Ok Try.prog 9 [aGFoe f, aGBoss s, aGUnit u, I now] [] (.tup [.agg [I (runB f s u now).1.Phase, I (runB f s u now).1.Since, .ref 0 1 0 (runB f s u now).1.Came.length, I (runB f s u now).1.Rage], .ref 1 5 0 (runB f s u now).2.length]) [.row 4 1 (encB (runB f s u now).1.Came), .row 40 5 ((runB f s u now).2.flatMap encGLine)] [] := by
 refine Ok.len fun hlen => ?_
 have hl_f_Script : f.Script.length ≤ maxLen := hlen _ (by simp [lensL, lens, lensP])
 have hl_f_Hoard : f.Hoard.length ≤ maxLen := hlen _ (by simp [lensL, lens, lensP])
 have hl_s_Came : s.Came.length ≤ maxLen := hlen _ (by simp [lensL, lens, lensP])
 unfold maxLen at hl_f_Script hl_f_Hoard hl_s_Came
 refine ok_of_sem Try.func9 rfl ?_
 show Walks Try.prog _ _ ⟨[(0, aGFoe f), (1, aGBoss s), (2, aGUnit u), (3, I now)], [], 0, [], 83, 0⟩
 refine sem_seq ?_
 refine sem_region rfl ?_
 refine step_n (o := .box [_, _, _, _, _, _, _, _]) (nx' := 1) rfl rfl rfl trivial ?_
 refine step_n (o := .box [_, _, _, _]) (nx' := 2) rfl rfl rfl trivial ?_
 refine step_n (o := .box [_, _, _, _, _, _, _, _, _, _]) (nx' := 3) rfl rfl rfl trivial ?_
 refine step_n (o := .box [_, _, _, _]) (nx' := 4) rfl rfl rfl trivial ?_
 refine step_n (nx' := 5) rfl rfl rfl trivial ?_
 refine step_nil ?_
 refine seqK_n ?_
 refine sem_scope ?_
 refine sem_seq ?_
 refine sem_region rfl ?_
 refine step_r (v := (.agg [_, _, _, _])) rfl rfl (Nat.le_of_ble_eq_true rfl) ?_
 refine step_callJ (Hin := []) (out' := .agg [_, _, .ref 5 _ _ _, _]) (H' := [(5, .row _ _ _), (4, .row _ _ _), (3, .box [_, _, _, _]), (2, .box [_, _, _, _, _, _, _, _, _, _]), (1, .box [_, _, _, _]), (0, .box [_, _, _, _, _, _, _, _])]) (nx' := 6) [] rfl rfl rfl rfl rfl rfl rfl rfl rfl (by (repeat' apply And.intro) <;> first | trivial | rfl | exact flat_len (fun _ => rfl) _ | exact encI_len _ | exact encB_len _ | exact encY_len _ | assumption) (copyB_ok s (by omega)) rfl (by decide) rfl rfl ⟨encB_solid, trivial⟩ rfl rfl rfl rfl ?_
 refine step_store (H' := [(5, .row _ _ _), (4, .row _ _ _), (3, .box [_, _, _, _]), (2, .box [_, _, _, _, _, _, _, _, _, _]), (1, .box [_, _, _, _]), (0, .box [_, _, _, _, _, _, _, _])]) rfl rfl rfl rfl rfl rfl (Nat.le_of_ble_eq_true rfl) (.inl rfl) rfl ?_
 refine step_nil ?_
 refine seqK_n ?_
 refine sem_seq ?_
 refine sem_seq ?_
 refine sem_region rfl ?_
 refine step_r (v := (.agg [_, _, _, _, _, _, _, _])) rfl rfl (Nat.le_of_ble_eq_true rfl) ?_
 refine step_r (v := (.agg [_, _, _, _])) rfl rfl (Nat.le_of_ble_eq_true rfl) ?_
 refine step_callJ (Hin := [.row _ _ _]) (H' := [(5, .row _ _ _), (4, .row _ _ _), (3, .box [_, _, _, _]), (2, .box [_, _, _, _, _, _, _, _, _, _]), (1, .box [_, _, _, _]), (0, .box [_, _, _, _, _, _, _, _])]) (nx' := 6) [5] rfl rfl rfl rfl rfl rfl rfl rfl rfl (by (repeat' apply And.intro) <;> first | trivial | rfl | exact flat_len (fun _ => rfl) _ | exact encI_len _ | exact encB_len _ | exact encY_len _ | assumption) (rightB_ok f s) rfl (by decide) rfl rfl trivial rfl rfl rfl rfl ?_
 refine step_r rfl rfl trivial ?_
 refine step_r rfl rfl trivial ?_
 refine step_gs rfl (fun h2 => ?_) (fun h2 => ?_)
 ·have g2 := h2
  try simp at g2
  refine step_g0 rfl h2 rfl ?_
  refine step_g0 rfl h2 rfl ?_
  refine step_pickT rfl h2 rfl rfl ?_
  refine step_nil ?_
  refine seqK_n ?_
  refine sem_condT rfl ?_
  refine sem_seq ?_
  refine sem_region rfl ?_
  refine step_r (v := (.agg [_, _, _, _])) rfl rfl (Nat.le_of_ble_eq_true rfl) ?_
  refine step_store (H' := [(5, .row _ _ _), (4, .row _ _ _), (3, .box [_, _, _, _]), (2, .box [_, _, _, _, _, _, _, _, _, _]), (1, .box [_, _, _, _]), (0, .box [_, _, _, _, _, _, _, _])]) rfl rfl rfl rfl rfl rfl (Nat.le_of_ble_eq_true rfl) (.inl rfl) rfl ?_
  refine step_n (nx' := 7) rfl rfl rfl trivial ?_
  refine step_nil ?_
  refine seqK_n ?_
  refine sem_ret ?_
  refine seqK_r ?_
  refine scpK_r ?_
  have e : runB f s u now = (s, []) := if_pos (by first | (left; omega) | (right; omega))
  rw [e]
  exact answersGR [] [5, 6] rfl ⟨Nat.le_of_ble_eq_true rfl, trivial, trivial⟩ rfl (by (repeat' apply And.intro) <;> first | trivial | rfl | exact flat_len (fun _ => rfl) _ | exact encI_len _ | exact encB_len _ | exact encY_len _ | assumption) (rfl) rfl rfl rfl (by decide) rfl rfl ⟨⟨rfl, rfl⟩, ⟨rfl, rfl⟩, trivial⟩
 ·have g2 := h2
  try simp at g2
  refine step_g1 rfl h2 ?_
  refine step_r (v := (.agg [_, _, _, _, _, _, _, _, _, _])) rfl rfl (Nat.le_of_ble_eq_true rfl) ?_
  refine step_g1 rfl h2 ?_
  refine step_call rfl rfl rfl rfl (dead_ok u) rfl rfl rfl ?_
  refine step_pickF rfl h2 rfl rfl ?_
  refine step_nil ?_
  refine seqK_n ?_
  refine sem_cond rfl (fun h4 => ?_) (fun h4 => ?_)
  ·have g4 := h4
   try simp at g4
   refine sem_seq ?_
   refine sem_region rfl ?_
   refine step_r (v := (.agg [_, _, _, _])) rfl rfl (Nat.le_of_ble_eq_true rfl) ?_
   refine step_store (H' := [(5, .row _ _ _), (4, .row _ _ _), (3, .box [_, _, _, _]), (2, .box [_, _, _, _, _, _, _, _, _, _]), (1, .box [_, _, _, _]), (0, .box [_, _, _, _, _, _, _, _])]) rfl rfl rfl rfl rfl rfl (Nat.le_of_ble_eq_true rfl) (.inl rfl) rfl ?_
   refine step_n (nx' := 7) rfl rfl rfl trivial ?_
   refine step_nil ?_
   refine seqK_n ?_
   refine sem_ret ?_
   refine seqK_r ?_
   refine scpK_r ?_
   have e : runB f s u now = (s, []) := if_pos (by first | (left; omega) | (right; omega))
   rw [e]
   exact answersGR [] [5, 6] rfl ⟨Nat.le_of_ble_eq_true rfl, trivial, trivial⟩ rfl (by (repeat' apply And.intro) <;> first | trivial | rfl | exact flat_len (fun _ => rfl) _ | exact encI_len _ | exact encB_len _ | exact encY_len _ | assumption) (rfl) rfl rfl rfl (by decide) rfl rfl ⟨⟨rfl, rfl⟩, ⟨rfl, rfl⟩, trivial⟩
  ·have g4 := h4
   try simp at g4
   refine sem_skip ?_
   refine seqK_n ?_
   refine sem_seq ?_
   refine sem_region rfl ?_
   refine step_n (nx' := 7) rfl rfl rfl trivial ?_
   refine step_nil ?_
   refine seqK_n ?_
   refine sem_seq ?_
   refine sem_label ?_
   refine seqK_n ?_
   refine sem_seq ?_
   refine sem_seq ?_
   refine sem_region rfl ?_
   refine step_r rfl rfl (by decide) ?_
   refine step_r rfl rfl trivial ?_
   refine step_r rfl rfl trivial ?_
   refine step_r rfl rfl trivial ?_
   refine step_nil ?_
   refine seqK_n ?_
   refine sem_block ?_
   refine sem_loop_of (fun a : Nat × GBoss × List GLine => match a with | (k, t, L) => (⟨[(3, I now), (4, .ptr 0 0), (5, .ptr 1 0), (6, .ptr 2 0), (8, .ptr 3 0), (10, .ref 6 5 0 L.length), (25, .pv (.slc f.Script.length false (f.Script.flatMap encGLine))), (26, I f.Script.length), (27, I k)], [(0, .box [I f.Id, I f.Health, I f.Hit, I f.Every, I f.Reach, .pv (.slc f.Script.length false (f.Script.flatMap encGLine)), .pv (.slc f.Hoard.length false (f.Hoard.flatMap encGPrize)), I f.Drops]), (1, .box [I t.Phase, I t.Since, .ref 5 1 0 t.Came.length, I t.Rage]), (2, .box [I u.Id, I u.Kind, I u.Group, I u.Health, I u.MaxHealth, I u.Power, I u.MaxPower, I u.At.X, I u.At.Y, I u.Casting]), (3, .box [I 0, I 0, .pv (.slc 0 true []), I 0]), (5, .row 4 1 (encB t.Came)), (6, .row 40 5 (L.flatMap encGLine))], 7, [], 83, 0⟩ : St)) (fun a : Nat × GBoss × List GLine => match a with | (k, t, L) => k ≤ f.Script.length ∧ runGo f.Script u now k (f.Script.drop k) t L = runB f s u now ∧ t.Came.length = s.Came.length ∧ L.length ≤ k) (fun a : Nat × GBoss × List GLine => match a with | (k, t, L) => f.Script.length - k) (0, s, []) (⟨Nat.zero_le _, (if_neg (by omega)).symm, rfl, Nat.le_refl _⟩) (less_of rfl ⟨⟨rfl, rfl⟩, ⟨rfl, rfl⟩, ⟨rfl, rfl⟩, ⟨rfl, rfl⟩, ⟨rfl, rfl⟩, ⟨rfl, rfl⟩, ⟨rfl, rfl⟩, ⟨rfl, rfl⟩, ⟨rfl, rfl⟩, trivial⟩ ⟨⟨rfl, rfl, rfl⟩, ⟨rfl, rfl, rfl⟩, ⟨rfl, rfl, rfl⟩, ⟨rfl, rfl, rfl⟩, ⟨rfl, rfl, rfl⟩, ⟨rfl, rfl, rfl⟩, trivial⟩ (fun _ _ => .inr (Nat.zero_le _))) (fun a hI => ?_)
   obtain ⟨k, t, L⟩ := a
   show Walks Try.prog _ _ (⟨[(3, I now), (4, .ptr 0 0), (5, .ptr 1 0), (6, .ptr 2 0), (8, .ptr 3 0), (10, .ref 6 5 0 L.length), (25, .pv (.slc f.Script.length false (f.Script.flatMap encGLine))), (26, I f.Script.length), (27, I k)], [(0, .box [I f.Id, I f.Health, I f.Hit, I f.Every, I f.Reach, .pv (.slc f.Script.length false (f.Script.flatMap encGLine)), .pv (.slc f.Hoard.length false (f.Hoard.flatMap encGPrize)), I f.Drops]), (1, .box [I t.Phase, I t.Since, .ref 5 1 0 t.Came.length, I t.Rage]), (2, .box [I u.Id, I u.Kind, I u.Group, I u.Health, I u.MaxHealth, I u.Power, I u.MaxPower, I u.At.X, I u.At.Y, I u.Casting]), (3, .box [I 0, I 0, .pv (.slc 0 true []), I 0]), (5, .row 4 1 (encB t.Came)), (6, .row 40 5 (L.flatMap encGLine))], 7, [], 83, 0⟩ : St)
   refine sem_seq ?_
   refine sem_region rfl ?_
   refine step_bin rfl rfl rfl rfl rfl trivial ?_
   refine step_nil ?_
   refine seqK_n ?_
   refine sem_seq ?_
   refine sem_cond rfl (fun h5 => ?_) (fun h5 => ?_)
   ·have hk : k < f.Script.length := by have h := of_decide_eq_true h5; omega
    obtain ⟨x, hx⟩ : ∃ x, f.Script[k]? = some x := ⟨_, List.getElem?_eq_getElem hk⟩
    obtain ⟨i1, i2, i3, i4⟩ := hI
    have hk2 : k < t.Came.length := by omega
    obtain ⟨c0, hxc⟩ : ∃ c, t.Came[k]? = some c := ⟨_, List.getElem?_eq_getElem hk2⟩
    have hc0 : t.Came.getD k false = c0 := by simp [List.getD, hxc]
    rw [drop_cons hx, runGo, hc0] at i2
    refine sem_skip ?_
    refine seqK_n ?_
    refine sem_seq ?_
    refine sem_block ?_
    refine sem_seq ?_
    refine sem_region rfl ?_
    refine step_r rfl rfl trivial ?_
    refine step_idxS (k := k) rfl rfl rfl rfl hk (flat_ne (s := 5) (enc := encGLine) (fun _ => rfl) (by decide) hk) rfl ?_
    refine step_load_row rfl rfl rfl (flat_lt (s := 5) (enc := encGLine) (fun _ => rfl) hk) (flat_take (s := 5) (enc := encGLine) (fun _ => rfl) hx) rfl ?_
    refine step_n (o := .box [_, _, _, _, _]) (nx' := 8) rfl rfl rfl trivial ?_
    refine step_r rfl rfl trivial ?_
    refine step_store (H' := [(7, .box [_, _, _, _, _]), (0, .box [_, _, _, _, _, _, _, _]), (1, .box [_, _, _, _]), (2, .box [_, _, _, _, _, _, _, _, _, _]), (3, .box [_, _, _, _]), (5, .row _ _ _), (6, .row _ _ _)]) rfl rfl rfl rfl rfl rfl (Nat.le_of_ble_eq_true rfl) (.inl rfl) rfl ?_
    refine step_nil ?_
    refine seqK_n ?_
    refine sem_seq ?_
    refine sem_seq ?_
    refine sem_drawn rfl (by decide +kernel) rfl ?_
    refine step_r (v := (.agg [_, _, _, _, _])) rfl rfl (Nat.le_of_ble_eq_true rfl) ?_
    refine step_r (v := (.agg [_, _, _, _])) rfl rfl (Nat.le_of_ble_eq_true rfl) ?_
    refine step_r rfl rfl (by decide) ?_
    refine step_r rfl rfl trivial ?_
    refine step_r rfl rfl trivial ?_
    refine step_idxR (k := k) rfl rfl rfl rfl hk2 rfl ?_
    refine step_load_oneR rfl rfl rfl rfl (encB_get hxc) rfl ?_
    refine step_r (v := (.agg [_, _, _, _, _, _, _, _, _, _])) rfl rfl (Nat.le_of_ble_eq_true rfl) ?_
    refine step_r rfl rfl trivial ?_
    refine step_callJ (Hin := [.row _ _ _]) (H' := [(7, .box [_, _, _, _, _]), (0, .box [_, _, _, _, _, _, _, _]), (1, .box [_, _, _, _]), (2, .box [_, _, _, _, _, _, _, _, _, _]), (3, .box [_, _, _, _]), (5, .row _ _ _), (6, .row _ _ _)]) (nx' := 8) [5] rfl rfl rfl rfl rfl rfl rfl rfl rfl (by (repeat' apply And.intro) <;> first | trivial | rfl | exact flat_len (fun _ => rfl) _ | exact encI_len _ | exact encB_len _ | exact encY_len _ | assumption) (due_ok x t c0 u now) rfl (by decide) rfl rfl trivial rfl rfl rfl rfl ?_
    refine step_r rfl rfl trivial ?_
    refine step_nil ?_
    refine seqK_n ?_
    refine sem_cond rfl (fun h8 => ?_) (fun h8 => ?_)
    ·have g8 := h8
     try simp at g8
     have gdue : dueB x t c0 u now = false := by simpa using h8
     refine sem_exit ?_
     refine seqK_e ?_
     refine blkK_t rfl ?_
     refine seqK_n ?_
     refine sem_region rfl ?_
     refine step_bin rfl rfl rfl rfl rfl trivial ?_
     refine step_r rfl rfl trivial ?_
     refine step_nil ?_
     rw [if_pos gdue] at i2
     exact lup_again (k+1, t, L) (⟨hk, i2, i3, by omega⟩) (by show f.Script.length - (k + 1) < f.Script.length - k; omega) (less_of rfl ⟨⟨rfl, rfl⟩, ⟨rfl, rfl⟩, ⟨rfl, rfl⟩, ⟨rfl, rfl⟩, ⟨rfl, rfl⟩, ⟨rfl, rfl⟩, ⟨rfl, rfl⟩, ⟨rfl, rfl⟩, ⟨congrArg (fun n => some (I n)) (wrapK hk (by assumption)), rfl⟩, trivial⟩ ⟨⟨rfl, rfl, rfl⟩, ⟨rfl, rfl, rfl⟩, ⟨rfl, rfl, rfl⟩, ⟨rfl, rfl, rfl⟩, ⟨rfl, rfl, rfl⟩, ⟨rfl, rfl, rfl⟩, trivial⟩ (fun _ _ => .inr (Nat.zero_le _)))
    ·have g8 := h8
     try simp at g8
     have gdue : dueB x t c0 u now = true := by simpa using h8
     refine sem_skip ?_
     refine seqK_n ?_
     refine sem_seq ?_
     refine sem_region rfl ?_
     refine step_r rfl rfl trivial ?_
     refine step_r (v := (.agg [_, _, _, _, _])) rfl rfl (Nat.le_of_ble_eq_true rfl) ?_
     refine step_n (o := .row _ _ [_, _, _, _, _]) (nx' := 9) rfl rfl rfl (by decide) ?_
     refine step_appendC (m := 1) (new := [_, _, _, _, _]) (cs' := (L ++ [x]).flatMap encGLine) (n' := (L ++ [x]).length) (H' := [(8, .row _ _ _), (7, .box [_, _, _, _, _]), (0, .box [_, _, _, _, _, _, _, _]), (1, .box [_, _, _, _]), (2, .box [_, _, _, _, _, _, _, _, _, _]), (3, .box [_, _, _, _]), (5, .row _ _ _), (6, .row _ _ _)]) rfl rfl rfl (rfl) rfl rfl rfl rfl rfl rfl (flat_len (s := 5) (enc := encGLine) (fun _ => rfl) L) (rfl) (by first | decide | (unfold maxGrow; omega) | (unfold maxGrow; simp; omega)) (len_snoc L _) (((flat_snoc (enc := encGLine) (l := L) x)).symm) (.inl rfl) rfl rfl (.keep rfl (.keep rfl (.keep rfl (.keep rfl (.keep rfl (.keep rfl (.keep rfl (.keep rfl .nil)))))))) (.keep rfl (.keep rfl (.lose (v' := .undef) rfl (.keep rfl (.keep rfl (.keep rfl (.keep rfl (.keep rfl (.keep rfl (.keep rfl (.keep rfl (.keep rfl (.keep rfl (.keep rfl (.keep rfl (.keep rfl (.keep rfl (.keep rfl (.keep rfl (.keep rfl (.keep rfl (.keep rfl (.keep rfl (.keep rfl (.keep rfl (.lose (v' := .undef) rfl (.keep rfl (.keep rfl (.keep rfl .nil))))))))))))))))))))))))))))) ?_
     refine step_r rfl rfl trivial ?_
     refine step_nil ?_
     refine seqK_n ?_
     refine sem_seq ?_
     refine sem_drawn rfl (by decide +kernel) rfl ?_
     refine step_r rfl rfl (by decide) ?_
     refine step_r rfl rfl trivial ?_
     refine step_r rfl rfl trivial ?_
     refine step_r rfl rfl (by decide) ?_
     refine step_r rfl rfl trivial ?_
     refine step_r rfl rfl trivial ?_
     refine step_idxR (k := k) rfl rfl rfl rfl hk2 rfl ?_
     refine step_load_oneR rfl rfl rfl rfl (encB_get hxc) rfl ?_
     refine step_r rfl rfl trivial ?_
     refine step_gs rfl (fun h11 => ?_) (fun h11 => ?_)
     ·have g11 := h11
      try simp at g11
      have gset : (c0 || x.When != 2) = true := by simp [show c0 = true from h11]
      refine step_g0 rfl h11 rfl ?_
      refine step_g0 rfl h11 rfl ?_
      refine step_g0 rfl h11 rfl ?_
      refine step_pickT rfl h11 rfl rfl ?_
      refine step_idxR (k := k) rfl rfl rfl rfl hk2 rfl ?_
      refine step_storeR rfl rfl rfl rfl (by have := hk2; simp [encB]; omega) (encB_set t.Came k true) (.inr (by decide +kernel)) rfl ?_
      refine step_nil ?_
      refine seqK_n ?_
      refine sem_seq ?_
      refine sem_region rfl ?_
      refine step_r rfl rfl (by decide) ?_
      refine step_r rfl rfl trivial ?_
      refine step_nil ?_
      refine seqK_n ?_
      refine sem_block ?_
      refine sem_seq ?_
      refine sem_region rfl ?_
      refine step_bin rfl rfl rfl rfl rfl trivial ?_
      refine step_r rfl rfl trivial ?_
      refine step_nil ?_
      refine seqK_n ?_
      refine sem_cond rfl (fun h13 => ?_) (fun h13 => ?_)
      ·have g13 := h13
       try simp at g13
       have gd4 : x.Do = 4 := by simpa using h13
       refine sem_region rfl ?_
       refine step_r rfl rfl (by decide) ?_
       refine step_r rfl rfl trivial ?_
       refine step_r rfl rfl (by decide) ?_
       refine step_r rfl rfl trivial ?_
       refine step_bin rfl rfl rfl rfl rfl trivial ?_
       refine step_min rfl rfl rfl ?_
       refine step_r rfl rfl (by decide) ?_
       refine step_store (H' := [(8, .row _ _ _), (7, .box [_, _, _, _, _]), (0, .box [_, _, _, _, _, _, _, _]), (1, .box [_, _, _, _]), (2, .box [_, _, _, _, _, _, _, _, _, _]), (3, .box [_, _, _, _]), (5, .row _ _ _), (6, .row _ _ _)]) rfl rfl rfl rfl rfl rfl (Nat.le_of_ble_eq_true rfl) (.inl rfl) rfl ?_
       refine step_nil ?_
       refine blkK_n ?_
       refine blkK_n ?_
       refine seqK_n ?_
       refine sem_region rfl ?_
       refine step_bin rfl rfl rfl rfl rfl trivial ?_
       refine step_r rfl rfl trivial ?_
       refine step_nil ?_
       rw [if_neg (by simp [gdue]), if_pos gd4] at i2
       exact lup_again (k+1, { t with Came := t.Came.set k (c0 || x.When != 2), Rage := min (IntKind.i64.wrap (t.Rage + x.Value)) 1000 }, L ++ [x]) (⟨hk, i2, by simp [i3], by simp; omega⟩) (by show f.Script.length - (k + 1) < f.Script.length - k; omega) (less_of rfl ⟨⟨rfl, rfl⟩, ⟨rfl, rfl⟩, ⟨rfl, rfl⟩, ⟨rfl, rfl⟩, ⟨rfl, rfl⟩, ⟨rfl, rfl⟩, ⟨rfl, rfl⟩, ⟨rfl, rfl⟩, ⟨congrArg (fun n => some (I n)) (wrapK hk (by assumption)), rfl⟩, trivial⟩ ⟨⟨rfl, rfl, rfl⟩, ⟨congrArg (fun n => some (VObj.box [I t.Phase, I t.Since, .ref 5 1 0 n, I (min (IntKind.i64.wrap (t.Rage + x.Value)) 1000)])) (List.length_set ..).symm, rfl, rfl⟩, ⟨rfl, rfl, rfl⟩, ⟨rfl, rfl, rfl⟩, ⟨congrArg (fun c => some (VObj.row 4 1 (encB c))) (by first | exact gset | rw [gset]), rfl, rfl⟩, ⟨rfl, rfl, rfl⟩, trivial⟩ (fun _ _ => .inr (Nat.zero_le _)))
      ·have g13 := h13
       try simp at g13
       have gd4 : ¬ x.Do = 4 := by simpa using h13
       refine sem_seq ?_
       refine sem_region rfl ?_
       refine step_bin rfl rfl rfl rfl rfl trivial ?_
       refine step_r rfl rfl trivial ?_
       refine step_nil ?_
       refine seqK_n ?_
       refine sem_cond rfl (fun h16 => ?_) (fun h16 => ?_)
       ·have g16 := h16
        try simp at g16
        have gd1 : x.Do = 1 := by simpa using h16
        refine sem_seq ?_
        refine sem_region rfl ?_
        refine step_r (v := (.agg [_, _, _, _, _, _, _, _])) rfl rfl (Nat.le_of_ble_eq_true rfl) ?_
        refine step_r (v := (.agg [_, _, _, _])) rfl rfl (Nat.le_of_ble_eq_true rfl) ?_
        refine step_r rfl rfl (by decide) ?_
        refine step_r rfl rfl trivial ?_
        refine step_r rfl rfl trivial ?_
        refine step_callM (Hin := [.row _ _ _]) (out' := .agg [_, _, .ref 5 _ _ _, _]) (H' := [(8, .row _ _ _), (7, .box [_, _, _, _, _]), (0, .box [_, _, _, _, _, _, _, _]), (1, .box [_, _, _, _]), (2, .box [_, _, _, _, _, _, _, _, _, _]), (3, .box [_, _, _, _]), (5, .row _ _ _), (6, .row _ _ _)]) (nx' := 9) [5] rfl rfl rfl rfl (.inl rfl) rfl rfl rfl rfl (phase_ok f (⟨t.Phase, t.Since, (t.Came.set k true), t.Rage⟩ : GBoss) x.Value now _ (by first | rfl | simp) (by omega)) rfl (by decide) rfl rfl rfl rfl rfl ?_
        refine step_store (H' := [(8, .row _ _ _), (7, .box [_, _, _, _, _]), (0, .box [_, _, _, _, _, _, _, _]), (1, .box [_, _, _, _]), (2, .box [_, _, _, _, _, _, _, _, _, _]), (3, .box [_, _, _, _]), (5, .row _ _ _), (6, .row _ _ _)]) rfl rfl rfl rfl rfl rfl (Nat.le_of_ble_eq_true rfl) (.inl rfl) rfl ?_
        refine step_nil ?_
        refine seqK_n ?_
        refine sem_exit ?_
        refine blkK_f rfl ?_
        refine blkK_f rfl ?_
        refine seqK_e ?_
        refine lupK_e ?_
        refine blkK_t rfl ?_
        refine seqK_n ?_
        refine sem_seq ?_
        refine sem_region rfl ?_
        refine step_r (v := (.agg [_, _, _, _])) rfl rfl (Nat.le_of_ble_eq_true rfl) ?_
        refine step_r rfl rfl trivial ?_
        refine step_store (H' := [(8, .row _ _ _), (7, .box [_, _, _, _, _]), (0, .box [_, _, _, _, _, _, _, _]), (1, .box [_, _, _, _]), (2, .box [_, _, _, _, _, _, _, _, _, _]), (3, .box [_, _, _, _]), (5, .row _ _ _), (6, .row _ _ _)]) rfl rfl rfl rfl rfl rfl (Nat.le_of_ble_eq_true rfl) (.inl rfl) rfl ?_
        refine step_r rfl rfl trivial ?_
        refine step_nil ?_
        refine seqK_n ?_
        refine sem_ret ?_
        refine scpK_r ?_
        have e : runB f s u now = (phaseB f.Script { t with Came := t.Came.set k (c0 || x.When != 2) } x.Value now, L ++ [x]) := by rw [if_neg (by simp [gdue]), if_neg gd4, if_pos gd1] at i2; exact i2.symm
        rw [e, gset]
        have el : (phaseB f.Script { t with Came := t.Came.set k true } x.Value now).Came.length = t.Came.length := by simp [phaseB, clearL_len]
        rw [el]
        exact answersGR [] [5, 6] rfl ⟨Nat.le_of_ble_eq_true rfl, trivial, trivial⟩ rfl (by (repeat' apply And.intro) <;> first | trivial | rfl | exact flat_len (fun _ => rfl) _ | exact encI_len _ | exact encB_len _ | exact encY_len _ | assumption) (rfl) rfl rfl rfl (by decide) rfl rfl ⟨⟨rfl, rfl⟩, ⟨rfl, rfl⟩, trivial⟩
       ·have g16 := h16
        try simp at g16
        have gd1 : ¬ x.Do = 1 := by simpa using h16
        refine sem_skip ?_
        refine blkK_n ?_
        refine blkK_n ?_
        refine seqK_n ?_
        refine sem_region rfl ?_
        refine step_bin rfl rfl rfl rfl rfl trivial ?_
        refine step_r rfl rfl trivial ?_
        refine step_nil ?_
        rw [if_neg (by simp [gdue]), if_neg gd4, if_neg gd1] at i2
        exact lup_again (k+1, { t with Came := t.Came.set k (c0 || x.When != 2) }, L ++ [x]) (⟨hk, i2, by simp [i3], by simp; omega⟩) (by show f.Script.length - (k + 1) < f.Script.length - k; omega) (less_of rfl ⟨⟨rfl, rfl⟩, ⟨rfl, rfl⟩, ⟨rfl, rfl⟩, ⟨rfl, rfl⟩, ⟨rfl, rfl⟩, ⟨rfl, rfl⟩, ⟨rfl, rfl⟩, ⟨rfl, rfl⟩, ⟨congrArg (fun n => some (I n)) (wrapK hk (by assumption)), rfl⟩, trivial⟩ ⟨⟨rfl, rfl, rfl⟩, ⟨congrArg (fun n => some (VObj.box [I t.Phase, I t.Since, .ref 5 1 0 n, I (t.Rage)])) (List.length_set ..).symm, rfl, rfl⟩, ⟨rfl, rfl, rfl⟩, ⟨rfl, rfl, rfl⟩, ⟨congrArg (fun c => some (VObj.row 4 1 (encB c))) (by first | exact gset | rw [gset]), rfl, rfl⟩, ⟨rfl, rfl, rfl⟩, trivial⟩ (fun _ _ => .inr (Nat.zero_le _)))
     ·have g11 := h11
      try simp at g11
      have gset : (c0 || x.When != 2) = (x.When != 2) := by simp [show c0 = false from h11]
      refine step_g1 rfl h11 ?_
      refine step_r rfl rfl (by decide) ?_
      refine step_g1 rfl h11 ?_
      refine step_r rfl rfl trivial ?_
      refine step_g1 rfl h11 ?_
      refine step_bin rfl rfl rfl rfl rfl trivial ?_
      refine step_pickF rfl h11 rfl rfl ?_
      refine step_idxR (k := k) rfl rfl rfl rfl hk2 rfl ?_
      refine step_storeR rfl rfl rfl rfl (by have := hk2; simp [encB]; omega) (encB_set t.Came k (x.When != 2)) (.inr (by decide +kernel)) rfl ?_
      refine step_nil ?_
      refine seqK_n ?_
      refine sem_seq ?_
      refine sem_region rfl ?_
      refine step_r rfl rfl (by decide) ?_
      refine step_r rfl rfl trivial ?_
      refine step_nil ?_
      refine seqK_n ?_
      refine sem_block ?_
      refine sem_seq ?_
      refine sem_region rfl ?_
      refine step_bin rfl rfl rfl rfl rfl trivial ?_
      refine step_r rfl rfl trivial ?_
      refine step_nil ?_
      refine seqK_n ?_
      refine sem_cond rfl (fun h20 => ?_) (fun h20 => ?_)
      ·have g20 := h20
       try simp at g20
       have gd4 : x.Do = 4 := by simpa using h20
       refine sem_region rfl ?_
       refine step_r rfl rfl (by decide) ?_
       refine step_r rfl rfl trivial ?_
       refine step_r rfl rfl (by decide) ?_
       refine step_r rfl rfl trivial ?_
       refine step_bin rfl rfl rfl rfl rfl trivial ?_
       refine step_min rfl rfl rfl ?_
       refine step_r rfl rfl (by decide) ?_
       refine step_store (H' := [(8, .row _ _ _), (7, .box [_, _, _, _, _]), (0, .box [_, _, _, _, _, _, _, _]), (1, .box [_, _, _, _]), (2, .box [_, _, _, _, _, _, _, _, _, _]), (3, .box [_, _, _, _]), (5, .row _ _ _), (6, .row _ _ _)]) rfl rfl rfl rfl rfl rfl (Nat.le_of_ble_eq_true rfl) (.inl rfl) rfl ?_
       refine step_nil ?_
       refine blkK_n ?_
       refine blkK_n ?_
       refine seqK_n ?_
       refine sem_region rfl ?_
       refine step_bin rfl rfl rfl rfl rfl trivial ?_
       refine step_r rfl rfl trivial ?_
       refine step_nil ?_
       rw [if_neg (by simp [gdue]), if_pos gd4] at i2
       exact lup_again (k+1, { t with Came := t.Came.set k (c0 || x.When != 2), Rage := min (IntKind.i64.wrap (t.Rage + x.Value)) 1000 }, L ++ [x]) (⟨hk, i2, by simp [i3], by simp; omega⟩) (by show f.Script.length - (k + 1) < f.Script.length - k; omega) (less_of rfl ⟨⟨rfl, rfl⟩, ⟨rfl, rfl⟩, ⟨rfl, rfl⟩, ⟨rfl, rfl⟩, ⟨rfl, rfl⟩, ⟨rfl, rfl⟩, ⟨rfl, rfl⟩, ⟨rfl, rfl⟩, ⟨congrArg (fun n => some (I n)) (wrapK hk (by assumption)), rfl⟩, trivial⟩ ⟨⟨rfl, rfl, rfl⟩, ⟨congrArg (fun n => some (VObj.box [I t.Phase, I t.Since, .ref 5 1 0 n, I (min (IntKind.i64.wrap (t.Rage + x.Value)) 1000)])) (List.length_set ..).symm, rfl, rfl⟩, ⟨rfl, rfl, rfl⟩, ⟨rfl, rfl, rfl⟩, ⟨congrArg (fun c => some (VObj.row 4 1 (encB c))) (by first | exact gset | rw [gset]), rfl, rfl⟩, ⟨rfl, rfl, rfl⟩, trivial⟩ (fun _ _ => .inr (Nat.zero_le _)))
      ·have g20 := h20
       try simp at g20
       have gd4 : ¬ x.Do = 4 := by simpa using h20
       refine sem_seq ?_
       refine sem_region rfl ?_
       refine step_bin rfl rfl rfl rfl rfl trivial ?_
       refine step_r rfl rfl trivial ?_
       refine step_nil ?_
       refine seqK_n ?_
       refine sem_cond rfl (fun h23 => ?_) (fun h23 => ?_)
       ·have g23 := h23
        try simp at g23
        have gd1 : x.Do = 1 := by simpa using h23
        refine sem_seq ?_
        refine sem_region rfl ?_
        refine step_r (v := (.agg [_, _, _, _, _, _, _, _])) rfl rfl (Nat.le_of_ble_eq_true rfl) ?_
        refine step_r (v := (.agg [_, _, _, _])) rfl rfl (Nat.le_of_ble_eq_true rfl) ?_
        refine step_r rfl rfl (by decide) ?_
        refine step_r rfl rfl trivial ?_
        refine step_r rfl rfl trivial ?_
        refine step_callM (Hin := [.row _ _ _]) (out' := .agg [_, _, .ref 5 _ _ _, _]) (H' := [(8, .row _ _ _), (7, .box [_, _, _, _, _]), (0, .box [_, _, _, _, _, _, _, _]), (1, .box [_, _, _, _]), (2, .box [_, _, _, _, _, _, _, _, _, _]), (3, .box [_, _, _, _]), (5, .row _ _ _), (6, .row _ _ _)]) (nx' := 9) [5] rfl rfl rfl rfl (.inl rfl) rfl rfl rfl rfl (phase_ok f (⟨t.Phase, t.Since, (t.Came.set k (x.When != 2)), t.Rage⟩ : GBoss) x.Value now _ (by first | rfl | simp) (by omega)) rfl (by decide) rfl rfl rfl rfl rfl ?_
        refine step_store (H' := [(8, .row _ _ _), (7, .box [_, _, _, _, _]), (0, .box [_, _, _, _, _, _, _, _]), (1, .box [_, _, _, _]), (2, .box [_, _, _, _, _, _, _, _, _, _]), (3, .box [_, _, _, _]), (5, .row _ _ _), (6, .row _ _ _)]) rfl rfl rfl rfl rfl rfl (Nat.le_of_ble_eq_true rfl) (.inl rfl) rfl ?_
        refine step_nil ?_
        refine seqK_n ?_
        refine sem_exit ?_
        refine blkK_f rfl ?_
        refine blkK_f rfl ?_
        refine seqK_e ?_
        refine lupK_e ?_
        refine blkK_t rfl ?_
        refine seqK_n ?_
        refine sem_seq ?_
        refine sem_region rfl ?_
        refine step_r (v := (.agg [_, _, _, _])) rfl rfl (Nat.le_of_ble_eq_true rfl) ?_
        refine step_r rfl rfl trivial ?_
        refine step_store (H' := [(8, .row _ _ _), (7, .box [_, _, _, _, _]), (0, .box [_, _, _, _, _, _, _, _]), (1, .box [_, _, _, _]), (2, .box [_, _, _, _, _, _, _, _, _, _]), (3, .box [_, _, _, _]), (5, .row _ _ _), (6, .row _ _ _)]) rfl rfl rfl rfl rfl rfl (Nat.le_of_ble_eq_true rfl) (.inl rfl) rfl ?_
        refine step_r rfl rfl trivial ?_
        refine step_nil ?_
        refine seqK_n ?_
        refine sem_ret ?_
        refine scpK_r ?_
        have e : runB f s u now = (phaseB f.Script { t with Came := t.Came.set k (c0 || x.When != 2) } x.Value now, L ++ [x]) := by rw [if_neg (by simp [gdue]), if_neg gd4, if_pos gd1] at i2; exact i2.symm
        rw [e, gset]
        have el : (phaseB f.Script { t with Came := t.Came.set k (x.When != 2) } x.Value now).Came.length = t.Came.length := by simp [phaseB, clearL_len]
        rw [el]
        exact answersGR [] [5, 6] rfl ⟨Nat.le_of_ble_eq_true rfl, trivial, trivial⟩ rfl (by (repeat' apply And.intro) <;> first | trivial | rfl | exact flat_len (fun _ => rfl) _ | exact encI_len _ | exact encB_len _ | exact encY_len _ | assumption) (rfl) rfl rfl rfl (by decide) rfl rfl ⟨⟨rfl, rfl⟩, ⟨rfl, rfl⟩, trivial⟩
       ·have g23 := h23
        try simp at g23
        have gd1 : ¬ x.Do = 1 := by simpa using h23
        refine sem_skip ?_
        refine blkK_n ?_
        refine blkK_n ?_
        refine seqK_n ?_
        refine sem_region rfl ?_
        refine step_bin rfl rfl rfl rfl rfl trivial ?_
        refine step_r rfl rfl trivial ?_
        refine step_nil ?_
        rw [if_neg (by simp [gdue]), if_neg gd4, if_neg gd1] at i2
        exact lup_again (k+1, { t with Came := t.Came.set k (c0 || x.When != 2) }, L ++ [x]) (⟨hk, i2, by simp [i3], by simp; omega⟩) (by show f.Script.length - (k + 1) < f.Script.length - k; omega) (less_of rfl ⟨⟨rfl, rfl⟩, ⟨rfl, rfl⟩, ⟨rfl, rfl⟩, ⟨rfl, rfl⟩, ⟨rfl, rfl⟩, ⟨rfl, rfl⟩, ⟨rfl, rfl⟩, ⟨rfl, rfl⟩, ⟨congrArg (fun n => some (I n)) (wrapK hk (by assumption)), rfl⟩, trivial⟩ ⟨⟨rfl, rfl, rfl⟩, ⟨congrArg (fun n => some (VObj.box [I t.Phase, I t.Since, .ref 5 1 0 n, I (t.Rage)])) (List.length_set ..).symm, rfl, rfl⟩, ⟨rfl, rfl, rfl⟩, ⟨rfl, rfl, rfl⟩, ⟨congrArg (fun c => some (VObj.row 4 1 (encB c))) (by first | exact gset | rw [gset]), rfl, rfl⟩, ⟨rfl, rfl, rfl⟩, trivial⟩ (fun _ _ => .inr (Nat.zero_le _)))
   ·have hk : k = f.Script.length := by have h := of_decide_eq_false h5; have := hI; omega
    have e : runB f s u now = (t, L) := by rw [← hI.2.1, hk, List.drop_length]; rfl
    rw [e]
    refine sem_exit ?_
    refine seqK_e ?_
    refine lupK_e ?_
    refine blkK_t rfl ?_
    refine seqK_n ?_
    refine sem_seq ?_
    refine sem_region rfl ?_
    refine step_r (v := (.agg [_, _, _, _])) rfl rfl (Nat.le_of_ble_eq_true rfl) ?_
    refine step_r rfl rfl trivial ?_
    refine step_store (H' := [(0, .box [_, _, _, _, _, _, _, _]), (1, .box [_, _, _, _]), (2, .box [_, _, _, _, _, _, _, _, _, _]), (3, .box [_, _, _, _]), (5, .row _ _ _), (6, .row _ _ _)]) rfl rfl rfl rfl rfl rfl (Nat.le_of_ble_eq_true rfl) (.inl rfl) rfl ?_
    refine step_r rfl rfl trivial ?_
    refine step_nil ?_
    refine seqK_n ?_
    refine sem_ret ?_
    refine scpK_r ?_
    exact answersGR [] [5, 6] rfl ⟨Nat.le_of_ble_eq_true rfl, trivial, trivial⟩ rfl (by (repeat' apply And.intro) <;> first | trivial | rfl | exact flat_len (fun _ => rfl) _ | exact encI_len _ | exact encB_len _ | exact encY_len _ | assumption) (rfl) rfl rfl rfl (by decide) rfl rfl ⟨⟨rfl, rfl⟩, ⟨rfl, rfl⟩, trivial⟩

theorem sameBR_ok (s : GBoss) (t : GBoss) : Ok Try.prog 11 [aGBoss s, aGBoss t] [] (B (decide (s = t))) [] [] := by
 refine Ok.len fun hlen => ?_
 have hl_s_Came : s.Came.length ≤ maxLen := hlen _ (by simp [lensL, lens, lensP])
 have hl_t_Came : t.Came.length ≤ maxLen := hlen _ (by simp [lensL, lens, lensP])
 unfold maxLen at hl_s_Came hl_t_Came
 refine ok_of_sem Try.func11 rfl ?_
 show Walks Try.prog _ _ ⟨[(0, aGBoss s), (1, aGBoss t)], [], 0, [], 52, 0⟩
 refine sem_seq ?_
 refine sem_region rfl ?_
 refine step_n (o := .box [_, _, _, _]) (nx' := 1) rfl rfl rfl trivial ?_
 refine step_n (o := .box [_, _, _, _]) (nx' := 2) rfl rfl rfl trivial ?_
 refine step_r rfl rfl trivial ?_
 refine step_nil ?_
 refine seqK_n ?_
 refine sem_seq ?_
 refine sem_seq ?_
 refine sem_region rfl ?_
 refine step_r rfl rfl (by decide) ?_
 refine step_r rfl rfl trivial ?_
 refine step_r rfl rfl (by decide) ?_
 refine step_r rfl rfl trivial ?_
 refine step_bin rfl rfl rfl rfl rfl trivial ?_
 refine step_r rfl rfl trivial ?_
 refine step_gs rfl (fun h2 => ?_) (fun h2 => ?_)
 ·have g2 := h2
  try simp at g2
  refine step_g0 rfl h2 rfl ?_
  refine step_g0 rfl h2 rfl ?_
  refine step_g0 rfl h2 rfl ?_
  refine step_g0 rfl h2 rfl ?_
  refine step_g0 rfl h2 rfl ?_
  refine step_pickT rfl h2 rfl rfl ?_
  refine step_r rfl rfl trivial ?_
  refine step_gf rfl rfl ?_
  refine step_gf rfl rfl ?_
  refine step_gf rfl rfl ?_
  refine step_gf rfl rfl ?_
  refine step_gf rfl rfl ?_
  refine step_r rfl rfl trivial ?_
  refine step_r rfl rfl trivial ?_
  refine step_gf rfl rfl ?_
  refine step_gf rfl rfl ?_
  refine step_gf rfl rfl ?_
  refine step_gf rfl rfl ?_
  refine step_gf rfl rfl ?_
  refine step_gf rfl rfl ?_
  refine step_gf rfl rfl ?_
  refine step_r rfl rfl trivial ?_
  refine step_nil ?_
  refine seqK_n ?_
  refine sem_condT rfl ?_
  refine sem_seq ?_
  refine sem_region rfl ?_
  refine step_r rfl rfl trivial ?_
  refine step_nil ?_
  refine seqK_n ?_
  refine sem_ret ?_
  refine seqK_r ?_
  exact answersR rfl ⟨trivial, trivial⟩ (congrArg B (decide_eq_false (fun e => by subst e; simp_all)).symm) rfl
 ·have g2 := h2
  try simp at g2
  refine step_g1 rfl h2 ?_
  refine step_r rfl rfl (by decide) ?_
  refine step_g1 rfl h2 ?_
  refine step_r rfl rfl trivial ?_
  refine step_g1 rfl h2 ?_
  refine step_r rfl rfl (by decide) ?_
  refine step_g1 rfl h2 ?_
  refine step_r rfl rfl trivial ?_
  refine step_g1 rfl h2 ?_
  refine step_bin rfl rfl rfl rfl rfl trivial ?_
  refine step_pickF rfl h2 rfl rfl ?_
  refine step_r rfl rfl trivial ?_
  refine step_gs rfl (fun h4 => ?_) (fun h4 => ?_)
  ·have g4 := h4
   try simp at g4
   refine step_g0 rfl h4 rfl ?_
   refine step_g0 rfl h4 rfl ?_
   refine step_g0 rfl h4 rfl ?_
   refine step_g0 rfl h4 rfl ?_
   refine step_g0 rfl h4 rfl ?_
   refine step_pickT rfl h4 rfl rfl ?_
   refine step_r rfl rfl trivial ?_
   refine step_gf rfl rfl ?_
   refine step_gf rfl rfl ?_
   refine step_gf rfl rfl ?_
   refine step_gf rfl rfl ?_
   refine step_gf rfl rfl ?_
   refine step_gf rfl rfl ?_
   refine step_gf rfl rfl ?_
   refine step_r rfl rfl trivial ?_
   refine step_nil ?_
   refine seqK_n ?_
   refine sem_condT rfl ?_
   refine sem_seq ?_
   refine sem_region rfl ?_
   refine step_r rfl rfl trivial ?_
   refine step_nil ?_
   refine seqK_n ?_
   refine sem_ret ?_
   refine seqK_r ?_
   exact answersR rfl ⟨trivial, trivial⟩ (congrArg B (decide_eq_false (fun e => by subst e; simp_all)).symm) rfl
  ·have g4 := h4
   try simp at g4
   refine step_g1 rfl h4 ?_
   refine step_r rfl rfl (by decide) ?_
   refine step_g1 rfl h4 ?_
   refine step_r rfl rfl trivial ?_
   refine step_g1 rfl h4 ?_
   refine step_r rfl rfl (by decide) ?_
   refine step_g1 rfl h4 ?_
   refine step_r rfl rfl trivial ?_
   refine step_g1 rfl h4 ?_
   refine step_bin rfl rfl rfl rfl rfl trivial ?_
   refine step_pickF rfl h4 rfl rfl ?_
   refine step_r rfl rfl trivial ?_
   refine step_gs rfl (fun h6 => ?_) (fun h6 => ?_)
   ·have g6 := h6
    try simp at g6
    refine step_g0 rfl h6 rfl ?_
    refine step_g0 rfl h6 rfl ?_
    refine step_g0 rfl h6 rfl ?_
    refine step_g0 rfl h6 rfl ?_
    refine step_g0 rfl h6 rfl ?_
    refine step_g0 rfl h6 rfl ?_
    refine step_g0 rfl h6 rfl ?_
    refine step_pickT rfl h6 rfl rfl ?_
    refine step_nil ?_
    refine seqK_n ?_
    refine sem_condT rfl ?_
    refine sem_seq ?_
    refine sem_region rfl ?_
    refine step_r rfl rfl trivial ?_
    refine step_nil ?_
    refine seqK_n ?_
    refine sem_ret ?_
    refine seqK_r ?_
    exact answersR rfl ⟨trivial, trivial⟩ (congrArg B (decide_eq_false (fun e => by subst e; simp_all)).symm) rfl
   ·have g6 := h6
    try simp at g6
    have hlen0 : True := trivial
    refine step_g1 rfl h6 ?_
    refine step_r rfl rfl (by decide) ?_
    refine step_g1 rfl h6 ?_
    refine step_r rfl rfl trivial ?_
    refine step_g1 rfl h6 ?_
    refine step_r rfl rfl trivial ?_
    refine step_g1 rfl h6 ?_
    refine step_r rfl rfl (by decide) ?_
    refine step_g1 rfl h6 ?_
    refine step_r rfl rfl trivial ?_
    refine step_g1 rfl h6 ?_
    refine step_r rfl rfl trivial ?_
    refine step_g1 rfl h6 ?_
    refine step_bin rfl rfl rfl rfl rfl trivial ?_
    refine step_pickF rfl h6 rfl rfl ?_
    refine step_nil ?_
    refine seqK_n ?_
    refine sem_cond rfl (fun h8 => ?_) (fun h8 => ?_)
    ·have g8 := h8
     try simp at g8
     refine sem_seq ?_
     refine sem_region rfl ?_
     refine step_r rfl rfl trivial ?_
     refine step_nil ?_
     refine seqK_n ?_
     refine sem_ret ?_
     refine seqK_r ?_
     exact answersR rfl ⟨trivial, trivial⟩ (congrArg B (decide_eq_false (fun e => by subst e; simp_all)).symm) rfl
    ·have g8 := h8
     try simp at g8
     have hlen : s.Came.length = t.Came.length := by have h := h8; simp at h; omega
     refine sem_skip ?_
     refine seqK_n ?_
     refine sem_seq ?_
     refine sem_seq ?_
     refine sem_region rfl ?_
     refine step_r rfl rfl trivial ?_
     refine step_nil ?_
     refine seqK_n ?_
     refine sem_block ?_
     refine sem_loop_of (fun k : Nat => (⟨[(2, .ptr 0 0), (3, .ptr 1 0), (5, I k)], [(0, .box [I s.Phase, I s.Since, .pv (.slc s.Came.length false (encB s.Came)), I s.Rage]), (1, .box [I t.Phase, I t.Since, .pv (.slc t.Came.length false (encB t.Came)), I t.Rage])], 2, [], 52, 0⟩ : St)) (fun k : Nat => k ≤ s.Came.length ∧ s.Came.take k = t.Came.take k) (fun k : Nat => s.Came.length - k) 0 (⟨Nat.zero_le _, rfl⟩) (less_of rfl ⟨⟨rfl, rfl⟩, ⟨rfl, rfl⟩, ⟨rfl, rfl⟩, trivial⟩ ⟨⟨rfl, rfl, rfl⟩, ⟨rfl, rfl, rfl⟩, trivial⟩ (fun _ _ => .inr (Nat.zero_le _))) (fun k hI => ?_)
     show Walks Try.prog _ _ (⟨[(2, .ptr 0 0), (3, .ptr 1 0), (5, I k)], [(0, .box [I s.Phase, I s.Since, .pv (.slc s.Came.length false (encB s.Came)), I s.Rage]), (1, .box [I t.Phase, I t.Since, .pv (.slc t.Came.length false (encB t.Came)), I t.Rage])], 2, [], 52, 0⟩ : St)
     refine sem_seq ?_
     refine sem_seq ?_
     refine sem_region rfl ?_
     refine step_r rfl rfl trivial ?_
     refine step_r rfl rfl (by decide) ?_
     refine step_r rfl rfl trivial ?_
     refine step_r rfl rfl trivial ?_
     refine step_bin rfl rfl rfl rfl rfl trivial ?_
     refine step_nil ?_
     refine seqK_n ?_
     refine sem_cond rfl (fun h10 => ?_) (fun h10 => ?_)
     ·have hk : k < s.Came.length := by simpa using h10
      have hk2 : k < t.Came.length := by omega
      obtain ⟨x, hx⟩ : ∃ x, s.Came[k]? = some x := ⟨_, List.getElem?_eq_getElem hk⟩
      obtain ⟨y, hy⟩ : ∃ y, t.Came[k]? = some y := ⟨_, List.getElem?_eq_getElem hk2⟩
      refine sem_skip ?_
      refine seqK_n ?_
      refine sem_seq ?_
      refine sem_block ?_
      refine sem_seq ?_
      refine sem_drawn rfl (by decide +kernel) rfl ?_
      refine step_r rfl rfl (by decide) ?_
      refine step_r rfl rfl trivial ?_
      refine step_r rfl rfl trivial ?_
      refine step_idxS (k := k) rfl rfl rfl rfl hk (encB_ne hk) rfl ?_
      refine step_load_one rfl rfl rfl (encB_get hx) rfl ?_
      refine step_r rfl rfl (by decide) ?_
      refine step_r rfl rfl trivial ?_
      refine step_r rfl rfl trivial ?_
      refine step_idxS (k := k) rfl rfl rfl rfl hk2 (encB_ne hk2) rfl ?_
      refine step_load_one rfl rfl rfl (encB_get hy) rfl ?_
      refine step_bin rfl rfl rfl rfl rfl trivial ?_
      refine step_nil ?_
      refine seqK_n ?_
      refine sem_cond rfl (fun h11 => ?_) (fun h11 => ?_)
      ·have hne : x ≠ y := by simpa using h11
       refine sem_seq ?_
       refine sem_region rfl ?_
       refine step_r rfl rfl trivial ?_
       refine step_nil ?_
       refine seqK_n ?_
       refine sem_ret ?_
       refine blkK_r ?_
       refine seqK_r ?_
       refine lupK_r ?_
       refine blkK_r ?_
       refine seqK_r ?_
       exact answersR rfl ⟨trivial, trivial⟩ (congrArg B (decide_eq_false (fun e => same_no hx hy hne (by rw [e]))).symm) rfl
      ·have hxy : x = y := by simpa using h11
       refine sem_skip ?_
       refine blkK_n ?_
       refine seqK_n ?_
       refine sem_region rfl ?_
       refine step_r rfl rfl trivial ?_
       refine step_bin rfl rfl rfl rfl rfl trivial ?_
       refine step_r rfl rfl trivial ?_
       refine step_nil ?_
       exact lup_again (k+1) (⟨hk, by rw [take_snoc hx, take_snoc hy, hI.2, hxy]⟩) (by omega) (less_of rfl ⟨⟨rfl, rfl⟩, ⟨rfl, rfl⟩, ⟨congrArg (fun n => some (I n)) (wrapK hk hl_s_Came), rfl⟩, trivial⟩ ⟨⟨rfl, rfl, rfl⟩, ⟨rfl, rfl, rfl⟩, trivial⟩ (fun _ _ => .inr (Nat.zero_le _)))
     ·have hk : k = s.Came.length := by have := of_decide_eq_false h10; have := hI.1; omega
      refine sem_exit ?_
      refine seqK_e ?_
      refine lupK_e ?_
      refine blkK_t rfl ?_
      refine seqK_n ?_
      refine sem_seq ?_
      refine sem_region rfl ?_
      refine step_r rfl rfl trivial ?_
      refine step_nil ?_
      refine seqK_n ?_
      refine sem_ret ?_
      exact answersR rfl ⟨trivial, trivial⟩ (congrArg B (decide_eq_true ((sameB_iff _ _).2 ⟨by assumption, by assumption, same_all hI.2 hk hlen, by assumption⟩)).symm) rfl

theorem dueR_ok (f : GFoe) (s : GBoss) (u : GUnit) (k : Nat) (now : Int) (l : GLine) (c : Bool) (hl : f.Script[k]? = some l) (hc : s.Came[k]? = some c) (n0 : 0 ≤ now) (n1 : now ≤ 4611686018427387904) (s0 : 0 ≤ s.Since) (s1 : s.Since ≤ 4611686018427387904) : Ok Try.prog 23 [aGFoe f, aGBoss s, aGUnit u, I k, I now] [] (B (dueB l s c u now)) [] [] := by
 refine Ok.len fun hlen => ?_
 have hl_f_Script : f.Script.length ≤ maxLen := hlen _ (by simp [lensL, lens, lensP])
 have hl_f_Hoard : f.Hoard.length ≤ maxLen := hlen _ (by simp [lensL, lens, lensP])
 have hl_s_Came : s.Came.length ≤ maxLen := hlen _ (by simp [lensL, lens, lensP])
 unfold maxLen at hl_f_Script hl_f_Hoard hl_s_Came
 have hk1 := (List.getElem?_eq_some_iff.1 hl).1
 have hk2 := (List.getElem?_eq_some_iff.1 hc).1
 have hw : IntKind.i64.wrap (now - s.Since) = now - s.Since := wrap_lt (by omega) (by omega)
 refine ok_of_sem Try.func23 rfl ?_
 show Walks Try.prog _ _ ⟨[(0, aGFoe f), (1, aGBoss s), (2, aGUnit u), (3, I k), (4, I now)], [], 0, [], 79, 0⟩
 refine sem_seq ?_
 refine sem_region rfl ?_
 refine step_n (o := .box [_, _, _, _, _, _, _, _]) (nx' := 1) rfl rfl rfl trivial ?_
 refine step_n (o := .box [_, _, _, _]) (nx' := 2) rfl rfl rfl trivial ?_
 refine step_n (o := .box [_, _, _, _, _, _, _, _, _, _]) (nx' := 3) rfl rfl rfl trivial ?_
 refine step_r rfl rfl trivial ?_
 refine step_nil ?_
 refine seqK_n ?_
 refine sem_seq ?_
 refine sem_region rfl ?_
 refine step_r rfl rfl (by decide) ?_
 refine step_r rfl rfl trivial ?_
 refine step_r rfl rfl trivial ?_
 refine step_idxS (k := k) rfl rfl rfl rfl hk1 (flat_ne (s := 5) (enc := encGLine) (fun _ => rfl) (by decide) hk1) rfl ?_
 refine step_load_row rfl rfl rfl (flat_lt (s := 5) (enc := encGLine) (fun _ => rfl) hk1) (flat_take (s := 5) (enc := encGLine) (fun _ => rfl) hl) rfl ?_
 refine step_n (o := .box [_, _, _, _, _]) (nx' := 4) rfl rfl rfl trivial ?_
 refine step_store (H' := [(3, .box [_, _, _, _, _]), (2, .box [_, _, _, _, _, _, _, _, _, _]), (1, .box [_, _, _, _]), (0, .box [_, _, _, _, _, _, _, _])]) rfl rfl rfl rfl rfl rfl (Nat.le_of_ble_eq_true rfl) (.inl rfl) rfl ?_
 refine step_nil ?_
 refine seqK_n ?_
 refine sem_seq ?_
 refine sem_seq ?_
 refine sem_region rfl ?_
 refine step_r rfl rfl (by decide) ?_
 refine step_r rfl rfl trivial ?_
 refine step_r rfl rfl (by decide) ?_
 refine step_r rfl rfl trivial ?_
 refine step_bin rfl rfl rfl rfl rfl trivial ?_
 refine step_nil ?_
 refine seqK_n ?_
 refine sem_cond rfl (fun h2 => ?_) (fun h2 => ?_)
 ·have g2 := h2
  try simp at g2
  refine sem_seq ?_
  refine sem_region rfl ?_
  refine step_r rfl rfl trivial ?_
  refine step_nil ?_
  refine seqK_n ?_
  refine sem_ret ?_
  refine seqK_r ?_
  refine answersR rfl ⟨trivial, trivial⟩ (congrArg B ?_) rfl
  first
   | (simp [dueB, hw, g2]; done)
   | (simp [dueB, hw, g2]; omega)
   | grind [dueB]
 ·have g2 := h2
  try simp at g2
  refine sem_skip ?_
  refine seqK_n ?_
  refine sem_seq ?_
  refine sem_seq ?_
  refine sem_region rfl ?_
  refine step_r rfl rfl (by decide) ?_
  refine step_r rfl rfl trivial ?_
  refine step_bin rfl rfl rfl rfl rfl trivial ?_
  refine step_nil ?_
  refine seqK_n ?_
  refine sem_cond rfl (fun h3 => ?_) (fun h3 => ?_)
  ·have g3 := h3
   try simp at g3
   refine sem_seq ?_
   refine sem_region rfl ?_
   refine step_r (v := (.agg [_, _, _, _, _, _, _, _, _, _])) rfl rfl (Nat.le_of_ble_eq_true rfl) ?_
   refine step_r rfl rfl (by decide) ?_
   refine step_r rfl rfl trivial ?_
   refine step_call rfl rfl rfl rfl (belowR_okM u l.Arg) rfl rfl rfl ?_
   refine step_r rfl rfl trivial ?_
   refine step_gs rfl (fun h5 => ?_) (fun h5 => ?_)
   ·have g5 := h5
    try simp at g5
    refine step_g1 rfl h5 ?_
    refine step_r rfl rfl (by decide) ?_
    refine step_g1 rfl h5 ?_
    refine step_r rfl rfl trivial ?_
    refine step_g1 rfl h5 ?_
    refine step_r rfl rfl trivial ?_
    refine step_g1 rfl h5 ?_
    refine step_idxS (k := k) rfl rfl rfl rfl hk2 (encB_ne hk2) rfl ?_
    refine step_g1 rfl h5 ?_
    refine step_load_one rfl rfl rfl (encB_get hc) rfl ?_
    refine step_g1 rfl h5 ?_
    refine step_r rfl rfl trivial ?_
    refine step_pickT rfl h5 rfl rfl ?_
    refine step_r rfl rfl trivial ?_
    refine step_nil ?_
    refine seqK_n ?_
    refine sem_ret ?_
    refine seqK_r ?_
    refine answersR rfl ⟨trivial, trivial⟩ (congrArg B ?_) rfl
    first
     | (simp [dueB, hw, g2, g3, g5]; done)
     | (simp [dueB, hw, g2, g3, g5]; omega)
     | grind [dueB]
   ·have g5 := h5
    try simp at g5
    refine step_g0 rfl h5 rfl ?_
    refine step_g0 rfl h5 rfl ?_
    refine step_g0 rfl h5 rfl ?_
    refine step_g0 rfl h5 rfl ?_
    refine step_g0 rfl h5 rfl ?_
    refine step_g0 rfl h5 rfl ?_
    refine step_pickF rfl h5 rfl rfl ?_
    refine step_r rfl rfl trivial ?_
    refine step_nil ?_
    refine seqK_n ?_
    refine sem_ret ?_
    refine seqK_r ?_
    refine answersR rfl ⟨trivial, trivial⟩ (congrArg B ?_) rfl
    first
     | (simp [dueB, hw, g2, g3, g5]; done)
     | (simp [dueB, hw, g2, g3, g5]; omega)
     | grind [dueB]
  ·have g3 := h3
   try simp at g3
   refine sem_skip ?_
   refine seqK_n ?_
   refine sem_seq ?_
   refine sem_seq ?_
   refine sem_region rfl ?_
   refine step_r rfl rfl (by decide) ?_
   refine step_r rfl rfl trivial ?_
   refine step_bin rfl rfl rfl rfl rfl trivial ?_
   refine step_nil ?_
   refine seqK_n ?_
   refine sem_cond rfl (fun h7 => ?_) (fun h7 => ?_)
   ·have g7 := h7
    try simp at g7
    refine sem_seq ?_
    refine sem_region rfl ?_
    refine step_r rfl rfl trivial ?_
    refine step_r rfl rfl (by decide) ?_
    refine step_r rfl rfl trivial ?_
    refine step_bin rfl rfl rfl rfl rfl trivial ?_
    refine step_r rfl rfl trivial ?_
    refine step_gs rfl (fun h10 => ?_) (fun h10 => ?_)
    ·have g10 := h10
     try simp at g10
     refine step_g1 rfl h10 ?_
     refine step_r rfl rfl (by decide) ?_
     refine step_g1 rfl h10 ?_
     refine step_r rfl rfl trivial ?_
     refine step_g1 rfl h10 ?_
     refine step_bin rfl rfl rfl rfl rfl trivial ?_
     refine step_pickT rfl h10 rfl rfl ?_
     refine step_r rfl rfl trivial ?_
     refine step_gs rfl (fun h12 => ?_) (fun h12 => ?_)
     ·have g12 := h12
      try simp at g12
      refine step_g1 rfl h12 ?_
      refine step_r rfl rfl trivial ?_
      refine step_g1 rfl h12 ?_
      refine step_r rfl rfl (by decide) ?_
      refine step_g1 rfl h12 ?_
      refine step_r rfl rfl trivial ?_
      refine step_g1 rfl h12 ?_
      refine step_bin rfl rfl rfl rfl rfl trivial ?_
      refine step_g1 rfl h12 ?_
      refine step_r rfl rfl (by decide) ?_
      refine step_g1 rfl h12 ?_
      refine step_r rfl rfl trivial ?_
      refine step_g1 rfl h12 ?_
      refine step_bin rfl rfl rfl rfl rfl (by first | decide | omega | simp_all) ?_
      refine step_g1 rfl h12 ?_
      refine step_bin rfl rfl rfl rfl rfl trivial ?_
      refine step_pickT rfl h12 rfl rfl ?_
      refine step_r rfl rfl trivial ?_
      refine step_nil ?_
      refine seqK_n ?_
      refine sem_ret ?_
      refine seqK_r ?_
      refine answersR rfl ⟨trivial, trivial⟩ (congrArg B ?_) rfl
      first
       | (simp [dueB, hw, g2, g3, g7, g10, g12]; done)
       | (simp [dueB, hw, g2, g3, g7, g10, g12]; omega)
       | grind [dueB]
     ·have g12 := h12
      try simp at g12
      refine step_g0 rfl h12 rfl ?_
      refine step_g0 rfl h12 rfl ?_
      refine step_g0 rfl h12 rfl ?_
      refine step_g0 rfl h12 rfl ?_
      refine step_g0 rfl h12 rfl ?_
      refine step_g0 rfl h12 rfl ?_
      refine step_g0 rfl h12 rfl ?_
      refine step_g0 rfl h12 rfl ?_
      refine step_pickF rfl h12 rfl rfl ?_
      refine step_r rfl rfl trivial ?_
      refine step_nil ?_
      refine seqK_n ?_
      refine sem_ret ?_
      refine seqK_r ?_
      refine answersR rfl ⟨trivial, trivial⟩ (congrArg B ?_) rfl
      first
       | (simp [dueB, hw, g2, g3, g7, g10, g12]; done)
       | (simp [dueB, hw, g2, g3, g7, g10, g12]; omega)
       | grind [dueB]
    ·have g10 := h10
     try simp at g10
     refine step_g0 rfl h10 rfl ?_
     refine step_g0 rfl h10 rfl ?_
     refine step_g0 rfl h10 rfl ?_
     refine step_pickF rfl h10 rfl rfl ?_
     refine step_r rfl rfl trivial ?_
     refine step_gf rfl rfl ?_
     refine step_gf rfl rfl ?_
     refine step_gf rfl rfl ?_
     refine step_gf rfl rfl ?_
     refine step_gf rfl rfl ?_
     refine step_gf rfl rfl ?_
     refine step_gf rfl rfl ?_
     refine step_gf rfl rfl ?_
     refine step_r rfl rfl trivial ?_
     refine step_r rfl rfl trivial ?_
     refine step_nil ?_
     refine seqK_n ?_
     refine sem_ret ?_
     refine seqK_r ?_
     refine answersR rfl ⟨trivial, trivial⟩ (congrArg B ?_) rfl
     first
      | (simp [dueB, hw, g2, g3, g7, g10]; done)
      | (simp [dueB, hw, g2, g3, g7, g10]; omega)
      | grind [dueB]
   ·have g7 := h7
    try simp at g7
    refine sem_skip ?_
    refine seqK_n ?_
    refine sem_seq ?_
    refine sem_region rfl ?_
    refine step_r rfl rfl (by decide) ?_
    refine step_r rfl rfl trivial ?_
    refine step_bin rfl rfl rfl rfl rfl trivial ?_
    refine step_r rfl rfl trivial ?_
    refine step_gs rfl (fun h15 => ?_) (fun h15 => ?_)
    ·have g15 := h15
     try simp at g15
     refine step_g1 rfl h15 ?_
     refine step_r rfl rfl trivial ?_
     refine step_g1 rfl h15 ?_
     refine step_r rfl rfl (by decide) ?_
     refine step_g1 rfl h15 ?_
     refine step_r rfl rfl trivial ?_
     refine step_g1 rfl h15 ?_
     refine step_bin rfl rfl rfl rfl rfl trivial ?_
     refine step_g1 rfl h15 ?_
     refine step_r rfl rfl (by decide) ?_
     refine step_g1 rfl h15 ?_
     refine step_r rfl rfl trivial ?_
     refine step_g1 rfl h15 ?_
     refine step_bin rfl rfl rfl rfl rfl trivial ?_
     refine step_pickT rfl h15 rfl rfl ?_
     refine step_r rfl rfl trivial ?_
     refine step_gs rfl (fun h18 => ?_) (fun h18 => ?_)
     ·have g18 := h18
      try simp at g18
      refine step_g1 rfl h18 ?_
      refine step_r rfl rfl (by decide) ?_
      refine step_g1 rfl h18 ?_
      refine step_r rfl rfl trivial ?_
      refine step_g1 rfl h18 ?_
      refine step_r rfl rfl trivial ?_
      refine step_g1 rfl h18 ?_
      refine step_idxS (k := k) rfl rfl rfl rfl hk2 (encB_ne hk2) rfl ?_
      refine step_g1 rfl h18 ?_
      refine step_load_one rfl rfl rfl (encB_get hc) rfl ?_
      refine step_g1 rfl h18 ?_
      refine step_r rfl rfl trivial ?_
      refine step_pickT rfl h18 rfl rfl ?_
      refine step_r rfl rfl trivial ?_
      refine step_nil ?_
      refine seqK_n ?_
      refine sem_ret ?_
      refine answersR rfl ⟨trivial, trivial⟩ (congrArg B ?_) rfl
      first
       | (simp [dueB, hw, g2, g3, g7, g15, g18]; done)
       | (simp [dueB, hw, g2, g3, g7, g15, g18]; omega)
       | grind [dueB]
     ·have g18 := h18
      try simp at g18
      refine step_g0 rfl h18 rfl ?_
      refine step_g0 rfl h18 rfl ?_
      refine step_g0 rfl h18 rfl ?_
      refine step_g0 rfl h18 rfl ?_
      refine step_g0 rfl h18 rfl ?_
      refine step_g0 rfl h18 rfl ?_
      refine step_pickF rfl h18 rfl rfl ?_
      refine step_r rfl rfl trivial ?_
      refine step_nil ?_
      refine seqK_n ?_
      refine sem_ret ?_
      refine answersR rfl ⟨trivial, trivial⟩ (congrArg B ?_) rfl
      first
       | (simp [dueB, hw, g2, g3, g7, g15, g18]; done)
       | (simp [dueB, hw, g2, g3, g7, g15, g18]; omega)
       | grind [dueB]
    ·have g15 := h15
     try simp at g15
     refine step_g0 rfl h15 rfl ?_
     refine step_g0 rfl h15 rfl ?_
     refine step_g0 rfl h15 rfl ?_
     refine step_g0 rfl h15 rfl ?_
     refine step_g0 rfl h15 rfl ?_
     refine step_g0 rfl h15 rfl ?_
     refine step_g0 rfl h15 rfl ?_
     refine step_pickF rfl h15 rfl rfl ?_
     refine step_r rfl rfl trivial ?_
     refine step_gf rfl rfl ?_
     refine step_gf rfl rfl ?_
     refine step_gf rfl rfl ?_
     refine step_gf rfl rfl ?_
     refine step_gf rfl rfl ?_
     refine step_gf rfl rfl ?_
     refine step_r rfl rfl trivial ?_
     refine step_r rfl rfl trivial ?_
     refine step_nil ?_
     refine seqK_n ?_
     refine sem_ret ?_
     refine answersR rfl ⟨trivial, trivial⟩ (congrArg B ?_) rfl
     first
      | (simp [dueB, hw, g2, g3, g7, g15]; done)
      | (simp [dueB, hw, g2, g3, g7, g15]; omega)
      | grind [dueB]

def waitsB (f : GFoe) (s : GBoss) (u : GUnit) (i now : Int) : Bool := decide (s.Came.length = f.Script.length ∧ 0 ≤ i ∧ i < f.Script.length) && !dueB (f.Script.getD i.toNat default) s (s.Came.getD i.toNat false) u now

theorem waits_ok (f : GFoe) (s : GBoss) (u : GUnit) (i : Int) (now : Int) : Ok Try.prog 15 [aGFoe f, aGBoss s, aGUnit u, I i, I now] [] (B (waitsB f s u i now)) [] [] := by
 refine Ok.len fun hlen => ?_
 have hl_f_Script : f.Script.length ≤ maxLen := hlen _ (by simp [lensL, lens, lensP])
 have hl_f_Hoard : f.Hoard.length ≤ maxLen := hlen _ (by simp [lensL, lens, lensP])
 have hl_s_Came : s.Came.length ≤ maxLen := hlen _ (by simp [lensL, lens, lensP])
 unfold maxLen at hl_f_Script hl_f_Hoard hl_s_Came
 refine ok_of_sem Try.func15 rfl ?_
 show Walks Try.prog _ _ ⟨[(0, aGFoe f), (1, aGBoss s), (2, aGUnit u), (3, I i), (4, I now)], [], 0, [], 41, 0⟩
 refine sem_seq ?_
 refine sem_region rfl ?_
 refine step_n (o := .box [_, _, _, _, _, _, _, _]) (nx' := 1) rfl rfl rfl trivial ?_
 refine step_n (o := .box [_, _, _, _]) (nx' := 2) rfl rfl rfl trivial ?_
 refine step_n (o := .box [_, _, _, _, _, _, _, _, _, _]) (nx' := 3) rfl rfl rfl trivial ?_
 refine step_r rfl rfl trivial ?_
 refine step_nil ?_
 refine seqK_n ?_
 refine sem_seq ?_
 refine sem_seq ?_
 refine sem_region rfl ?_
 refine step_r (v := (.agg [_, _, _, _, _, _, _, _])) rfl rfl (Nat.le_of_ble_eq_true rfl) ?_
 refine step_r (v := (.agg [_, _, _, _])) rfl rfl (Nat.le_of_ble_eq_true rfl) ?_
 refine step_call rfl rfl rfl rfl (rightB_ok f s) rfl rfl rfl ?_
 refine step_r rfl rfl trivial ?_
 refine step_r rfl rfl trivial ?_
 refine step_gs rfl (fun h2 => ?_) (fun h2 => ?_)
 ·have g2 := h2
  try simp at g2
  refine step_g0 rfl h2 rfl ?_
  refine step_g0 rfl h2 rfl ?_
  refine step_pickT rfl h2 rfl rfl ?_
  refine step_r rfl rfl trivial ?_
  refine step_gf rfl rfl ?_
  refine step_gf rfl rfl ?_
  refine step_gf rfl rfl ?_
  refine step_gf rfl rfl ?_
  refine step_gf rfl rfl ?_
  refine step_r rfl rfl trivial ?_
  refine step_nil ?_
  refine seqK_n ?_
  refine sem_condT rfl ?_
  refine sem_seq ?_
  refine sem_region rfl ?_
  refine step_r rfl rfl trivial ?_
  refine step_nil ?_
  refine seqK_n ?_
  refine sem_ret ?_
  refine seqK_r ?_
  have e : waitsB f s u i now = false := by
   unfold waitsB
   rw [decide_eq_false (by omega)]
   rfl
  rw [e]
  exact answersR rfl ⟨trivial, trivial⟩ rfl rfl
 ·have g2 := h2
  try simp at g2
  refine step_g1 rfl h2 ?_
  refine step_r rfl rfl trivial ?_
  refine step_g1 rfl h2 ?_
  refine step_bin rfl rfl rfl rfl rfl trivial ?_
  refine step_pickF rfl h2 rfl rfl ?_
  refine step_r rfl rfl trivial ?_
  refine step_gs rfl (fun h5 => ?_) (fun h5 => ?_)
  ·have g5 := h5
   try simp at g5
   refine step_g0 rfl h5 rfl ?_
   refine step_g0 rfl h5 rfl ?_
   refine step_g0 rfl h5 rfl ?_
   refine step_g0 rfl h5 rfl ?_
   refine step_g0 rfl h5 rfl ?_
   refine step_pickT rfl h5 rfl rfl ?_
   refine step_nil ?_
   refine seqK_n ?_
   refine sem_condT rfl ?_
   refine sem_seq ?_
   refine sem_region rfl ?_
   refine step_r rfl rfl trivial ?_
   refine step_nil ?_
   refine seqK_n ?_
   refine sem_ret ?_
   refine seqK_r ?_
   have e : waitsB f s u i now = false := by
    unfold waitsB
    rw [decide_eq_false (by omega)]
    rfl
   rw [e]
   exact answersR rfl ⟨trivial, trivial⟩ rfl rfl
  ·have g5 := h5
   try simp at g5
   refine step_g1 rfl h5 ?_
   refine step_r rfl rfl trivial ?_
   refine step_g1 rfl h5 ?_
   refine step_r rfl rfl (by decide) ?_
   refine step_g1 rfl h5 ?_
   refine step_r rfl rfl trivial ?_
   refine step_g1 rfl h5 ?_
   refine step_r rfl rfl trivial ?_
   refine step_g1 rfl h5 ?_
   refine step_bin rfl rfl rfl rfl rfl trivial ?_
   refine step_pickF rfl h5 rfl rfl ?_
   refine step_nil ?_
   refine seqK_n ?_
   refine sem_cond rfl (fun h7 => ?_) (fun h7 => ?_)
   ·have g7 := h7
    try simp at g7
    refine sem_seq ?_
    refine sem_region rfl ?_
    refine step_r rfl rfl trivial ?_
    refine step_nil ?_
    refine seqK_n ?_
    refine sem_ret ?_
    refine seqK_r ?_
    have e : waitsB f s u i now = false := by
     unfold waitsB
     rw [decide_eq_false (by omega)]
     rfl
    rw [e]
    exact answersR rfl ⟨trivial, trivial⟩ rfl rfl
   ·have g7 := h7
    try simp at g7
    obtain ⟨k, rfl⟩ : ∃ k : Nat, i = (k : Int) := ⟨i.toNat, by omega⟩
    obtain ⟨x, hx⟩ : ∃ x, f.Script[k]? = some x := ⟨_, List.getElem?_eq_getElem (by omega)⟩
    obtain ⟨c0, hxc⟩ : ∃ x, s.Came[k]? = some x := ⟨_, List.getElem?_eq_getElem (by omega)⟩
    have hkf : k < f.Script.length := by omega
    have hkc : k < s.Came.length := by omega
    refine sem_skip ?_
    refine seqK_n ?_
    refine sem_seq ?_
    refine sem_drawn rfl (by decide +kernel) rfl ?_
    refine step_r rfl rfl (by decide) ?_
    refine step_r rfl rfl trivial ?_
    refine step_r rfl rfl trivial ?_
    refine step_idxS (k := k) rfl rfl rfl rfl hkf (flat_ne (s := 5) (enc := encGLine) (fun _ => rfl) (by decide) hkf) rfl ?_
    refine step_load_row rfl rfl rfl (flat_lt (s := 5) (enc := encGLine) (fun _ => rfl) hkf) (flat_take (s := 5) (enc := encGLine) (fun _ => rfl) hx) rfl ?_
    refine step_r (v := (.agg [_, _, _, _])) rfl rfl (Nat.le_of_ble_eq_true rfl) ?_
    refine step_r rfl rfl (by decide) ?_
    refine step_r rfl rfl trivial ?_
    refine step_r rfl rfl trivial ?_
    refine step_idxS (k := k) rfl rfl rfl rfl hkc (encB_ne hkc) rfl ?_
    refine step_load_one rfl rfl rfl (encB_get hxc) rfl ?_
    refine step_r (v := (.agg [_, _, _, _, _, _, _, _, _, _])) rfl rfl (Nat.le_of_ble_eq_true rfl) ?_
    refine step_r rfl rfl trivial ?_
    refine step_call rfl rfl rfl rfl (due_ok x s c0 u now) rfl rfl rfl ?_
    refine step_r rfl rfl trivial ?_
    refine step_r rfl rfl trivial ?_
    refine step_nil ?_
    refine seqK_n ?_
    refine sem_ret ?_
    have e : waitsB f s u k now = !dueB x s c0 u now := by
     unfold waitsB
     rw [decide_eq_true (by omega)]
     simp [List.getD, hx, hxc]
    rw [e]
    exact answersR rfl ⟨trivial, trivial⟩ rfl rfl

theorem waitsR_ok (f : GFoe) (s : GBoss) (u : GUnit) (i : Int) (now : Int) (n0 : 0 ≤ now) (n1 : now ≤ 4611686018427387904) (s0 : 0 ≤ s.Since) (s1 : s.Since ≤ 4611686018427387904) : Ok Try.prog 16 [aGFoe f, aGBoss s, aGUnit u, I i, I now] [] (B (waitsB f s u i now)) [] [] := by
 refine Ok.len fun hlen => ?_
 have hl_f_Script : f.Script.length ≤ maxLen := hlen _ (by simp [lensL, lens, lensP])
 have hl_f_Hoard : f.Hoard.length ≤ maxLen := hlen _ (by simp [lensL, lens, lensP])
 have hl_s_Came : s.Came.length ≤ maxLen := hlen _ (by simp [lensL, lens, lensP])
 unfold maxLen at hl_f_Script hl_f_Hoard hl_s_Came
 refine ok_of_sem Try.func16 rfl ?_
 show Walks Try.prog _ _ ⟨[(0, aGFoe f), (1, aGBoss s), (2, aGUnit u), (3, I i), (4, I now)], [], 0, [], 36, 0⟩
 refine sem_seq ?_
 refine sem_region rfl ?_
 refine step_n (o := .box [_, _, _, _, _, _, _, _]) (nx' := 1) rfl rfl rfl trivial ?_
 refine step_n (o := .box [_, _, _, _]) (nx' := 2) rfl rfl rfl trivial ?_
 refine step_n (o := .box [_, _, _, _, _, _, _, _, _, _]) (nx' := 3) rfl rfl rfl trivial ?_
 refine step_r rfl rfl trivial ?_
 refine step_nil ?_
 refine seqK_n ?_
 refine sem_seq ?_
 refine sem_region rfl ?_
 refine step_r (v := (.agg [_, _, _, _, _, _, _, _])) rfl rfl (Nat.le_of_ble_eq_true rfl) ?_
 refine step_r (v := (.agg [_, _, _, _])) rfl rfl (Nat.le_of_ble_eq_true rfl) ?_
 refine step_call rfl rfl rfl rfl (rightBR_ok f s) rfl rfl rfl ?_
 refine step_r rfl rfl trivial ?_
 refine step_nil ?_
 refine seqK_n ?_
 refine sem_seq ?_
 refine sem_region rfl ?_
 refine step_r rfl rfl trivial ?_
 refine step_r rfl rfl trivial ?_
 refine step_gs rfl (fun h2 => ?_) (fun h2 => ?_)
 ·have g2 := h2
  try simp at g2
  refine step_g1 rfl h2 ?_
  refine step_r rfl rfl trivial ?_
  refine step_g1 rfl h2 ?_
  refine step_bin rfl rfl rfl rfl rfl trivial ?_
  refine step_pickT rfl h2 rfl rfl ?_
  refine step_r rfl rfl trivial ?_
  refine step_gs rfl (fun h5 => ?_) (fun h5 => ?_)
  ·have g5 := h5
   try simp at g5
   refine step_g1 rfl h5 ?_
   refine step_r rfl rfl trivial ?_
   refine step_g1 rfl h5 ?_
   refine step_r rfl rfl (by decide) ?_
   refine step_g1 rfl h5 ?_
   refine step_r rfl rfl trivial ?_
   refine step_g1 rfl h5 ?_
   refine step_r rfl rfl trivial ?_
   refine step_g1 rfl h5 ?_
   refine step_bin rfl rfl rfl rfl rfl trivial ?_
   refine step_pickT rfl h5 rfl rfl ?_
   refine step_r rfl rfl trivial ?_
   refine step_gs rfl (fun h7 => ?_) (fun h7 => ?_)
   ·have g7 := h7
    try simp at g7
    obtain ⟨k, rfl⟩ : ∃ k : Nat, i = (k : Int) := ⟨i.toNat, by omega⟩
    obtain ⟨x, hx⟩ : ∃ x, f.Script[k]? = some x := ⟨_, List.getElem?_eq_getElem (by omega)⟩
    obtain ⟨c0, hxc⟩ : ∃ x, s.Came[k]? = some x := ⟨_, List.getElem?_eq_getElem (by omega)⟩
    have hkf : k < f.Script.length := by omega
    have hkc : k < s.Came.length := by omega
    refine step_g1 rfl h7 ?_
    refine step_r (v := (.agg [_, _, _, _, _, _, _, _])) rfl rfl (Nat.le_of_ble_eq_true rfl) ?_
    refine step_g1 rfl h7 ?_
    refine step_r (v := (.agg [_, _, _, _])) rfl rfl (Nat.le_of_ble_eq_true rfl) ?_
    refine step_g1 rfl h7 ?_
    refine step_r (v := (.agg [_, _, _, _, _, _, _, _, _, _])) rfl rfl (Nat.le_of_ble_eq_true rfl) ?_
    refine step_g1 rfl h7 ?_
    refine step_r rfl rfl trivial ?_
    refine step_g1 rfl h7 ?_
    refine step_r rfl rfl trivial ?_
    refine step_g1 rfl h7 ?_
    refine step_call rfl rfl rfl rfl (dueR_ok f s u k now x c0 hx hxc (by omega) (by omega) (by omega) (by omega)) rfl rfl rfl ?_
    refine step_g1 rfl h7 ?_
    refine step_r rfl rfl trivial ?_
    refine step_pickT rfl h7 rfl rfl ?_
    refine step_r rfl rfl trivial ?_
    refine step_nil ?_
    refine seqK_n ?_
    refine sem_ret ?_
    have e : waitsB f s u k now = !dueB x s c0 u now := by
     unfold waitsB
     rw [decide_eq_true (by omega)]
     simp [List.getD, hx, hxc]
    rw [e]
    exact answersR rfl ⟨trivial, trivial⟩ rfl rfl
   ·have g7 := h7
    try simp at g7
    refine step_g0 rfl h7 rfl ?_
    refine step_g0 rfl h7 rfl ?_
    refine step_g0 rfl h7 rfl ?_
    refine step_g0 rfl h7 rfl ?_
    refine step_g0 rfl h7 rfl ?_
    refine step_g0 rfl h7 rfl ?_
    refine step_g0 rfl h7 rfl ?_
    refine step_pickF rfl h7 rfl rfl ?_
    refine step_r rfl rfl trivial ?_
    refine step_nil ?_
    refine seqK_n ?_
    refine sem_ret ?_
    have e : waitsB f s u i now = false := by
     unfold waitsB
     rw [decide_eq_false (by omega)]
     rfl
    rw [e]
    exact answersR rfl ⟨trivial, trivial⟩ rfl rfl
  ·have g5 := h5
   try simp at g5
   refine step_g0 rfl h5 rfl ?_
   refine step_g0 rfl h5 rfl ?_
   refine step_g0 rfl h5 rfl ?_
   refine step_g0 rfl h5 rfl ?_
   refine step_g0 rfl h5 rfl ?_
   refine step_pickF rfl h5 rfl rfl ?_
   refine step_r rfl rfl trivial ?_
   refine step_gf rfl rfl ?_
   refine step_gf rfl rfl ?_
   refine step_gf rfl rfl ?_
   refine step_gf rfl rfl ?_
   refine step_gf rfl rfl ?_
   refine step_gf rfl rfl ?_
   refine step_gf rfl rfl ?_
   refine step_r rfl rfl trivial ?_
   refine step_r rfl rfl trivial ?_
   refine step_nil ?_
   refine seqK_n ?_
   refine sem_ret ?_
   have e : waitsB f s u i now = false := by
    unfold waitsB
    rw [decide_eq_false (by omega)]
    rfl
   rw [e]
   exact answersR rfl ⟨trivial, trivial⟩ rfl rfl
 ·have g2 := h2
  try simp at g2
  refine step_g0 rfl h2 rfl ?_
  refine step_g0 rfl h2 rfl ?_
  refine step_pickF rfl h2 rfl rfl ?_
  refine step_r rfl rfl trivial ?_
  refine step_gf rfl rfl ?_
  refine step_gf rfl rfl ?_
  refine step_gf rfl rfl ?_
  refine step_gf rfl rfl ?_
  refine step_gf rfl rfl ?_
  refine step_r rfl rfl trivial ?_
  refine step_r rfl rfl trivial ?_
  refine step_gf rfl rfl ?_
  refine step_gf rfl rfl ?_
  refine step_gf rfl rfl ?_
  refine step_gf rfl rfl ?_
  refine step_gf rfl rfl ?_
  refine step_gf rfl rfl ?_
  refine step_gf rfl rfl ?_
  refine step_r rfl rfl trivial ?_
  refine step_r rfl rfl trivial ?_
  refine step_nil ?_
  refine seqK_n ?_
  refine sem_ret ?_
  have e : waitsB f s u i now = false := by
   unfold waitsB
   rw [decide_eq_false (by omega)]
   rfl
  rw [e]
  exact answersR rfl ⟨trivial, trivial⟩ rfl rfl

theorem set_self {α : Type} {l : List α} {k : Nat} {x : α} (h : l[k]? = some x) : l.set k x = l := by
  obtain ⟨hk, rfl⟩ := List.getElem?_eq_some_iff.1 h
  exact List.set_getElem_self hk

theorem runR_ok (f : GFoe) (s : GBoss) (u : GUnit) (now : Int) (hs : s.Came.length ≤ 60) (hf : f.Script.length ≤ 60) (n0 : 0 ≤ now) (n1 : now ≤ 4611686018427387904) (s0 : 0 ≤ s.Since) (s1 : s.Since ≤ 4611686018427387904) : Ok Try.prog 10 [aGFoe f, aGBoss s, aGUnit u, I now] [] (.tup [.agg [I (runB f s u now).1.Phase, I (runB f s u now).1.Since, .ref 0 1 0 (runB f s u now).1.Came.length, I (runB f s u now).1.Rage], .ref 1 5 0 (runB f s u now).2.length]) [.row 4 1 (encB (runB f s u now).1.Came), .row 40 5 ((runB f s u now).2.flatMap encGLine)] [] := by
 refine Ok.len fun hlen => ?_
 have hl_f_Script : f.Script.length ≤ maxLen := hlen _ (by simp [lensL, lens, lensP])
 have hl_f_Hoard : f.Hoard.length ≤ maxLen := hlen _ (by simp [lensL, lens, lensP])
 have hl_s_Came : s.Came.length ≤ maxLen := hlen _ (by simp [lensL, lens, lensP])
 unfold maxLen at hl_f_Script hl_f_Hoard hl_s_Came
 refine ok_of_sem Try.func10 rfl ?_
 show Walks Try.prog _ _ ⟨[(0, aGFoe f), (1, aGBoss s), (2, aGUnit u), (3, I now)], [], 0, [], 102, 0⟩
 refine sem_seq ?_
 refine sem_region rfl ?_
 refine step_n (o := .box [_, _, _, _, _, _, _, _]) (nx' := 1) rfl rfl rfl trivial ?_
 refine step_n (o := .box [_, _, _, _]) (nx' := 2) rfl rfl rfl trivial ?_
 refine step_n (o := .box [_, _, _, _, _, _, _, _, _, _]) (nx' := 3) rfl rfl rfl trivial ?_
 refine step_n (o := .box [_, _, _, _]) (nx' := 4) rfl rfl rfl trivial ?_
 refine step_n (nx' := 5) rfl rfl rfl trivial ?_
 refine step_nil ?_
 refine seqK_n ?_
 refine sem_seq ?_
 refine sem_region rfl ?_
 refine step_r (v := (.agg [_, _, _, _])) rfl rfl (Nat.le_of_ble_eq_true rfl) ?_
 refine step_callJ (Hin := []) (out' := .agg [_, _, .ref 5 _ _ _, _]) (H' := [(5, .row _ _ _), (4, .row _ _ _), (3, .box [_, _, _, _]), (2, .box [_, _, _, _, _, _, _, _, _, _]), (1, .box [_, _, _, _]), (0, .box [_, _, _, _, _, _, _, _])]) (nx' := 6) [] rfl rfl rfl rfl rfl rfl rfl rfl rfl (by (repeat' apply And.intro) <;> first | trivial | rfl | exact flat_len (fun _ => rfl) _ | exact encI_len _ | exact encB_len _ | exact encY_len _ | assumption) (copyBR_ok s (by omega)) rfl (by decide) rfl rfl ⟨encB_solid, trivial⟩ rfl rfl rfl rfl ?_
 refine step_store (H' := [(5, .row _ _ _), (4, .row _ _ _), (3, .box [_, _, _, _]), (2, .box [_, _, _, _, _, _, _, _, _, _]), (1, .box [_, _, _, _]), (0, .box [_, _, _, _, _, _, _, _])]) rfl rfl rfl rfl rfl rfl (Nat.le_of_ble_eq_true rfl) (.inl rfl) rfl ?_
 refine step_nil ?_
 refine seqK_n ?_
 refine sem_seq ?_
 refine sem_region rfl ?_
 refine step_r (v := (.agg [_, _, _, _, _, _, _, _])) rfl rfl (Nat.le_of_ble_eq_true rfl) ?_
 refine step_r (v := (.agg [_, _, _, _])) rfl rfl (Nat.le_of_ble_eq_true rfl) ?_
 refine step_callJ (Hin := [.row _ _ _]) (H' := [(5, .row _ _ _), (4, .row _ _ _), (3, .box [_, _, _, _]), (2, .box [_, _, _, _, _, _, _, _, _, _]), (1, .box [_, _, _, _]), (0, .box [_, _, _, _, _, _, _, _])]) (nx' := 6) [5] rfl rfl rfl rfl rfl rfl rfl rfl rfl (by (repeat' apply And.intro) <;> first | trivial | rfl | exact flat_len (fun _ => rfl) _ | exact encI_len _ | exact encB_len _ | exact encY_len _ | assumption) (rightBR_ok f s) rfl (by decide) rfl rfl trivial rfl rfl rfl rfl ?_
 refine step_r rfl rfl trivial ?_
 refine step_nil ?_
 refine seqK_n ?_
 refine sem_seq ?_
 refine sem_seq ?_
 refine sem_region rfl ?_
 refine step_r rfl rfl trivial ?_
 refine step_r rfl rfl trivial ?_
 refine step_r rfl rfl trivial ?_
 refine step_gs rfl (fun h3 => ?_) (fun h3 => ?_)
 ·have g3 := h3
  try simp at g3
  refine step_g0 rfl h3 rfl ?_
  refine step_g0 rfl h3 rfl ?_
  refine step_g0 rfl h3 rfl ?_
  refine step_pickT rfl h3 rfl rfl ?_
  refine step_nil ?_
  refine seqK_n ?_
  refine sem_condT rfl ?_
  refine sem_seq ?_
  refine sem_region rfl ?_
  refine step_r (v := (.agg [_, _, _, _])) rfl rfl (Nat.le_of_ble_eq_true rfl) ?_
  refine step_store (H' := [(5, .row _ _ _), (4, .row _ _ _), (3, .box [_, _, _, _]), (2, .box [_, _, _, _, _, _, _, _, _, _]), (1, .box [_, _, _, _]), (0, .box [_, _, _, _, _, _, _, _])]) rfl rfl rfl rfl rfl rfl (Nat.le_of_ble_eq_true rfl) (.inl rfl) rfl ?_
  refine step_n (nx' := 7) rfl rfl rfl trivial ?_
  refine step_nil ?_
  refine seqK_n ?_
  refine sem_ret ?_
  refine seqK_r ?_
  have e : runB f s u now = (s, []) := if_pos (by first | (left; omega) | (right; omega))
  rw [e]
  exact answersGR [] [5, 6] rfl ⟨Nat.le_of_ble_eq_true rfl, trivial, trivial⟩ rfl (by (repeat' apply And.intro) <;> first | trivial | rfl | exact flat_len (fun _ => rfl) _ | exact encI_len _ | exact encB_len _ | exact encY_len _ | assumption) (rfl) rfl rfl rfl (by decide) rfl rfl ⟨⟨rfl, rfl⟩, ⟨rfl, rfl⟩, trivial⟩
 ·have g3 := h3
  try simp at g3
  refine step_g1 rfl h3 ?_
  refine step_r rfl rfl (by decide) ?_
  refine step_g1 rfl h3 ?_
  refine step_r rfl rfl trivial ?_
  refine step_g1 rfl h3 ?_
  refine step_bin rfl rfl rfl rfl rfl trivial ?_
  refine step_pickF rfl h3 rfl rfl ?_
  refine step_nil ?_
  refine seqK_n ?_
  refine sem_cond rfl (fun h5 => ?_) (fun h5 => ?_)
  ·have g5 := h5
   try simp at g5
   refine sem_seq ?_
   refine sem_region rfl ?_
   refine step_r (v := (.agg [_, _, _, _])) rfl rfl (Nat.le_of_ble_eq_true rfl) ?_
   refine step_store (H' := [(5, .row _ _ _), (4, .row _ _ _), (3, .box [_, _, _, _]), (2, .box [_, _, _, _, _, _, _, _, _, _]), (1, .box [_, _, _, _]), (0, .box [_, _, _, _, _, _, _, _])]) rfl rfl rfl rfl rfl rfl (Nat.le_of_ble_eq_true rfl) (.inl rfl) rfl ?_
   refine step_n (nx' := 7) rfl rfl rfl trivial ?_
   refine step_nil ?_
   refine seqK_n ?_
   refine sem_ret ?_
   refine seqK_r ?_
   have e : runB f s u now = (s, []) := if_pos (by first | (left; omega) | (right; omega))
   rw [e]
   exact answersGR [] [5, 6] rfl ⟨Nat.le_of_ble_eq_true rfl, trivial, trivial⟩ rfl (by (repeat' apply And.intro) <;> first | trivial | rfl | exact flat_len (fun _ => rfl) _ | exact encI_len _ | exact encB_len _ | exact encY_len _ | assumption) (rfl) rfl rfl rfl (by decide) rfl rfl ⟨⟨rfl, rfl⟩, ⟨rfl, rfl⟩, trivial⟩
  ·have g5 := h5
   try simp at g5
   refine sem_skip ?_
   refine seqK_n ?_
   refine sem_seq ?_
   refine sem_region rfl ?_
   refine step_n (nx' := 7) rfl rfl rfl trivial ?_
   refine step_nil ?_
   refine seqK_n ?_
   refine sem_seq ?_
   refine sem_seq ?_
   refine sem_region rfl ?_
   refine step_r rfl rfl trivial ?_
   refine step_nil ?_
   refine seqK_n ?_
   refine sem_block ?_
   refine sem_loop_of (fun a : Nat × GBoss × List GLine => match a with | (k, t, L) => (⟨[(3, I now), (4, .ptr 0 0), (5, .ptr 1 0), (6, .ptr 2 0), (8, .ptr 3 0), (11, .ref 6 5 0 L.length), (12, I k)], [(0, .box [I f.Id, I f.Health, I f.Hit, I f.Every, I f.Reach, .pv (.slc f.Script.length false (f.Script.flatMap encGLine)), .pv (.slc f.Hoard.length false (f.Hoard.flatMap encGPrize)), I f.Drops]), (1, .box [I t.Phase, I t.Since, .ref 5 1 0 t.Came.length, I t.Rage]), (2, .box [I u.Id, I u.Kind, I u.Group, I u.Health, I u.MaxHealth, I u.Power, I u.MaxPower, I u.At.X, I u.At.Y, I u.Casting]), (3, .box [I 0, I 0, .pv (.slc 0 true []), I 0]), (5, .row 4 1 (encB t.Came)), (6, .row 40 5 (L.flatMap encGLine))], 7, [], 102, 0⟩ : St)) (fun a : Nat × GBoss × List GLine => match a with | (k, t, L) => k ≤ f.Script.length ∧ runGo f.Script u now k (f.Script.drop k) t L = runB f s u now ∧ t.Came.length = s.Came.length ∧ L.length ≤ k ∧ (t.Since = s.Since)) (fun a : Nat × GBoss × List GLine => match a with | (k, t, L) => f.Script.length - k) (0, s, []) (⟨Nat.zero_le _, (if_neg (by omega)).symm, rfl, Nat.le_refl _, rfl⟩) (less_of rfl ⟨⟨rfl, rfl⟩, ⟨rfl, rfl⟩, ⟨rfl, rfl⟩, ⟨rfl, rfl⟩, ⟨rfl, rfl⟩, ⟨rfl, rfl⟩, ⟨rfl, rfl⟩, trivial⟩ ⟨⟨rfl, rfl, rfl⟩, ⟨rfl, rfl, rfl⟩, ⟨rfl, rfl, rfl⟩, ⟨rfl, rfl, rfl⟩, ⟨rfl, rfl, rfl⟩, ⟨rfl, rfl, rfl⟩, trivial⟩ (fun _ _ => .inr (Nat.zero_le _))) (fun a hI => ?_)
   obtain ⟨k, t, L⟩ := a
   show Walks Try.prog _ _ (⟨[(3, I now), (4, .ptr 0 0), (5, .ptr 1 0), (6, .ptr 2 0), (8, .ptr 3 0), (11, .ref 6 5 0 L.length), (12, I k)], [(0, .box [I f.Id, I f.Health, I f.Hit, I f.Every, I f.Reach, .pv (.slc f.Script.length false (f.Script.flatMap encGLine)), .pv (.slc f.Hoard.length false (f.Hoard.flatMap encGPrize)), I f.Drops]), (1, .box [I t.Phase, I t.Since, .ref 5 1 0 t.Came.length, I t.Rage]), (2, .box [I u.Id, I u.Kind, I u.Group, I u.Health, I u.MaxHealth, I u.Power, I u.MaxPower, I u.At.X, I u.At.Y, I u.Casting]), (3, .box [I 0, I 0, .pv (.slc 0 true []), I 0]), (5, .row 4 1 (encB t.Came)), (6, .row 40 5 (L.flatMap encGLine))], 7, [], 102, 0⟩ : St)
   refine sem_seq ?_
   refine sem_seq ?_
   refine sem_region rfl ?_
   refine step_r rfl rfl trivial ?_
   refine step_r rfl rfl (by decide) ?_
   refine step_r rfl rfl trivial ?_
   refine step_r rfl rfl trivial ?_
   refine step_bin rfl rfl rfl rfl rfl trivial ?_
   refine step_nil ?_
   refine seqK_n ?_
   refine sem_cond rfl (fun h7 => ?_) (fun h7 => ?_)
   ·have hk : k < f.Script.length := by have h := of_decide_eq_true h7; omega
    obtain ⟨x, hx⟩ : ∃ x, f.Script[k]? = some x := ⟨_, List.getElem?_eq_getElem hk⟩
    obtain ⟨i1, i2, i3, i4, i5⟩ := hI
    have hk2 : k < t.Came.length := by omega
    obtain ⟨c0, hxc⟩ : ∃ c, t.Came[k]? = some c := ⟨_, List.getElem?_eq_getElem hk2⟩
    have hc0 : t.Came.getD k false = c0 := by simp [List.getD, hxc]
    rw [drop_cons hx, runGo, hc0] at i2
    refine sem_skip ?_
    refine seqK_n ?_
    refine sem_seq ?_
    refine sem_block ?_
    refine sem_seq ?_
    refine sem_region rfl ?_
    refine step_r (v := (.agg [_, _, _, _, _, _, _, _])) rfl rfl (Nat.le_of_ble_eq_true rfl) ?_
    refine step_r (v := (.agg [_, _, _, _])) rfl rfl (Nat.le_of_ble_eq_true rfl) ?_
    refine step_r (v := (.agg [_, _, _, _, _, _, _, _, _, _])) rfl rfl (Nat.le_of_ble_eq_true rfl) ?_
    refine step_r rfl rfl trivial ?_
    refine step_r rfl rfl trivial ?_
    refine step_callJ (Hin := [.row _ _ _]) (H' := [(0, .box [_, _, _, _, _, _, _, _]), (1, .box [_, _, _, _]), (2, .box [_, _, _, _, _, _, _, _, _, _]), (3, .box [_, _, _, _]), (5, .row _ _ _), (6, .row _ _ _)]) (nx' := 7) [5] rfl rfl rfl rfl rfl rfl rfl rfl rfl (by (repeat' apply And.intro) <;> first | trivial | rfl | exact flat_len (fun _ => rfl) _ | exact encI_len _ | exact encB_len _ | exact encY_len _ | assumption) (dueR_ok f t u k now x c0 hx hxc n0 n1 (by omega) (by omega)) rfl (by decide) rfl rfl trivial rfl rfl rfl rfl ?_
    refine step_r rfl rfl trivial ?_
    refine step_nil ?_
    refine seqK_n ?_
    refine sem_seq ?_
    refine sem_seq ?_
    refine sem_region rfl ?_
    refine step_r rfl rfl trivial ?_
    refine step_r rfl rfl trivial ?_
    refine step_nil ?_
    refine seqK_n ?_
    refine sem_cond rfl (fun h10 => ?_) (fun h10 => ?_)
    ·have g10 := h10
     try simp at g10
     have gdue : dueB x t c0 u now = false := by simpa using h10
     refine sem_exit ?_
     refine seqK_e ?_
     refine blkK_t rfl ?_
     refine seqK_n ?_
     refine sem_region rfl ?_
     refine step_r rfl rfl trivial ?_
     refine step_bin rfl rfl rfl rfl rfl trivial ?_
     refine step_r rfl rfl trivial ?_
     refine step_nil ?_
     rw [if_pos gdue] at i2
     exact lup_again (k+1, t, L) (⟨hk, i2, i3, by omega, by omega⟩) (by show f.Script.length - (k + 1) < f.Script.length - k; omega) (less_of rfl ⟨⟨rfl, rfl⟩, ⟨rfl, rfl⟩, ⟨rfl, rfl⟩, ⟨rfl, rfl⟩, ⟨rfl, rfl⟩, ⟨rfl, rfl⟩, ⟨congrArg (fun n => some (I n)) (wrapK hk (by assumption)), rfl⟩, trivial⟩ ⟨⟨rfl, rfl, rfl⟩, ⟨rfl, rfl, rfl⟩, ⟨rfl, rfl, rfl⟩, ⟨rfl, rfl, rfl⟩, ⟨rfl, rfl, rfl⟩, ⟨rfl, rfl, rfl⟩, trivial⟩ (fun _ _ => .inr (Nat.zero_le _)))
    ·have g10 := h10
     try simp at g10
     have gdue : dueB x t c0 u now = true := by simpa using h10
     refine sem_skip ?_
     refine seqK_n ?_
     refine sem_seq ?_
     refine sem_region rfl ?_
     refine step_r rfl rfl (by decide) ?_
     refine step_r rfl rfl trivial ?_
     refine step_r rfl rfl trivial ?_
     refine step_idxS (k := k) rfl rfl rfl rfl hk (flat_ne (s := 5) (enc := encGLine) (fun _ => rfl) (by decide) hk) rfl ?_
     refine step_load_row rfl rfl rfl (flat_lt (s := 5) (enc := encGLine) (fun _ => rfl) hk) (flat_take (s := 5) (enc := encGLine) (fun _ => rfl) hx) rfl ?_
     refine step_n (o := .box [_, _, _, _, _]) (nx' := 8) rfl rfl rfl trivial ?_
     refine step_store (H' := [(7, .box [_, _, _, _, _]), (0, .box [_, _, _, _, _, _, _, _]), (1, .box [_, _, _, _]), (2, .box [_, _, _, _, _, _, _, _, _, _]), (3, .box [_, _, _, _]), (5, .row _ _ _), (6, .row _ _ _)]) rfl rfl rfl rfl rfl rfl (Nat.le_of_ble_eq_true rfl) (.inl rfl) rfl ?_
     refine step_nil ?_
     refine seqK_n ?_
     refine sem_seq ?_
     refine sem_region rfl ?_
     refine step_r rfl rfl trivial ?_
     refine step_r (v := (.agg [_, _, _, _, _])) rfl rfl (Nat.le_of_ble_eq_true rfl) ?_
     refine step_n (o := .row _ _ [_, _, _, _, _]) (nx' := 9) rfl rfl rfl (by decide) ?_
     refine step_appendC (m := 1) (new := [_, _, _, _, _]) (cs' := (L ++ [x]).flatMap encGLine) (n' := (L ++ [x]).length) (H' := [(8, .row _ _ _), (7, .box [_, _, _, _, _]), (0, .box [_, _, _, _, _, _, _, _]), (1, .box [_, _, _, _]), (2, .box [_, _, _, _, _, _, _, _, _, _]), (3, .box [_, _, _, _]), (5, .row _ _ _), (6, .row _ _ _)]) rfl rfl rfl (rfl) rfl rfl rfl rfl rfl rfl (flat_len (s := 5) (enc := encGLine) (fun _ => rfl) L) (rfl) (by first | decide | (unfold maxGrow; omega) | (unfold maxGrow; simp; omega)) (len_snoc L _) (((flat_snoc (enc := encGLine) (l := L) x)).symm) (.inl rfl) rfl rfl (.keep rfl (.keep rfl (.keep rfl (.keep rfl (.keep rfl (.keep rfl (.keep rfl (.keep rfl .nil)))))))) (.keep rfl (.keep rfl (.lose (v' := .undef) rfl (.keep rfl (.keep rfl (.keep rfl (.keep rfl (.keep rfl (.keep rfl (.keep rfl (.keep rfl (.keep rfl (.keep rfl (.keep rfl (.keep rfl (.keep rfl (.keep rfl (.keep rfl (.keep rfl (.keep rfl (.keep rfl (.keep rfl (.keep rfl (.keep rfl (.keep rfl (.keep rfl (.keep rfl (.keep rfl (.lose (v' := .undef) rfl (.keep rfl .nil)))))))))))))))))))))))))))))) ?_
     refine step_r rfl rfl trivial ?_
     refine step_nil ?_
     refine seqK_n ?_
     refine sem_seq ?_
     refine sem_seq ?_
     refine sem_region rfl ?_
     refine step_r rfl rfl (by decide) ?_
     refine step_r rfl rfl trivial ?_
     refine step_bin rfl rfl rfl rfl rfl trivial ?_
     refine step_nil ?_
     refine seqK_n ?_
     refine sem_cond rfl (fun h12 => ?_) (fun h12 => ?_)
     ·have g12 := h12
      try simp at g12
      have gset : t.Came.set k true = t.Came.set k (c0 || x.When != 2) := by rw [show (x.When != 2) = true from h12, Bool.or_true]
      refine sem_region rfl ?_
      refine step_r rfl rfl (by decide) ?_
      refine step_r rfl rfl trivial ?_
      refine step_r rfl rfl trivial ?_
      have jk13 : k < t.Came.length := by first | assumption | omega | (simp only [List.length_set, clearL_len]; omega) | (simp; omega) | simp_all
      obtain ⟨y13, jx13⟩ : ∃ z_, t.Came[k]? = some z_ := ⟨_, List.getElem?_eq_getElem jk13⟩
      refine step_idxR (k := k) rfl rfl rfl rfl jk13 rfl ?_
      refine step_storeR rfl rfl rfl rfl (by have := jk13; simp [encB]; omega) (encB_set t.Came k true) (.inl rfl) rfl ?_
      refine step_nil ?_
      refine seqK_n ?_
      refine sem_seq ?_
      refine sem_seq ?_
      refine sem_region rfl ?_
      refine step_r rfl rfl (by decide) ?_
      refine step_r rfl rfl trivial ?_
      refine step_bin rfl rfl rfl rfl rfl trivial ?_
      refine step_nil ?_
      refine seqK_n ?_
      refine sem_cond rfl (fun h14 => ?_) (fun h14 => ?_)
      ·have g14 := h14
       try simp at g14
       have gd4 : x.Do = 4 := by simpa using h14
       refine sem_region rfl ?_
       refine step_r rfl rfl (by decide) ?_
       refine step_r rfl rfl trivial ?_
       refine step_r rfl rfl (by decide) ?_
       refine step_r rfl rfl trivial ?_
       refine step_bin rfl rfl rfl rfl rfl trivial ?_
       refine step_min rfl rfl rfl ?_
       refine step_r rfl rfl (by decide) ?_
       refine step_store (H' := [(8, .row _ _ _), (7, .box [_, _, _, _, _]), (0, .box [_, _, _, _, _, _, _, _]), (1, .box [_, _, _, _]), (2, .box [_, _, _, _, _, _, _, _, _, _]), (3, .box [_, _, _, _]), (5, .row _ _ _), (6, .row _ _ _)]) rfl rfl rfl rfl rfl rfl (Nat.le_of_ble_eq_true rfl) (.inl rfl) rfl ?_
       refine step_nil ?_
       refine seqK_n ?_
       refine sem_seq ?_
       refine sem_region rfl ?_
       refine step_r rfl rfl (by decide) ?_
       refine step_r rfl rfl trivial ?_
       refine step_bin rfl rfl rfl rfl rfl trivial ?_
       refine step_nil ?_
       refine seqK_n ?_
       refine sem_cond rfl (fun h15 => ?_) (fun h15 => ?_)
       ·have gd1 : x.Do = 1 := by simpa using h15
        omega
       ·have g15 := h15
        try simp at g15
        have gd1 : ¬ x.Do = 1 := by simpa using h15
        refine sem_skip ?_
        refine blkK_n ?_
        refine seqK_n ?_
        refine sem_region rfl ?_
        refine step_r rfl rfl trivial ?_
        refine step_bin rfl rfl rfl rfl rfl trivial ?_
        refine step_r rfl rfl trivial ?_
        refine step_nil ?_
        rw [if_neg (by simp [gdue]), if_pos gd4] at i2
        exact lup_again (k+1, { t with Came := t.Came.set k (c0 || x.When != 2), Rage := min (IntKind.i64.wrap (t.Rage + x.Value)) 1000 }, L ++ [x]) (⟨hk, i2, by simp [i3], by simp; omega, by simp; omega⟩) (by show f.Script.length - (k + 1) < f.Script.length - k; omega) (less_of rfl ⟨⟨rfl, rfl⟩, ⟨rfl, rfl⟩, ⟨rfl, rfl⟩, ⟨rfl, rfl⟩, ⟨rfl, rfl⟩, ⟨rfl, rfl⟩, ⟨congrArg (fun n => some (I n)) (wrapK hk (by assumption)), rfl⟩, trivial⟩ ⟨⟨rfl, rfl, rfl⟩, ⟨congrArg (fun n => some (VObj.box [I t.Phase, I t.Since, .ref 5 1 0 n, I (min (IntKind.i64.wrap (t.Rage + x.Value)) 1000)])) (List.length_set ..).symm, rfl, rfl⟩, ⟨rfl, rfl, rfl⟩, ⟨rfl, rfl, rfl⟩, ⟨congrArg (fun c => some (VObj.row 4 1 (encB c))) (by first | exact gset | rw [gset]), rfl, rfl⟩, ⟨rfl, rfl, rfl⟩, trivial⟩ (fun _ _ => .inr (Nat.zero_le _)))
      ·have g14 := h14
       try simp at g14
       have gd4 : ¬ x.Do = 4 := by simpa using h14
       refine sem_skip ?_
       refine seqK_n ?_
       refine sem_seq ?_
       refine sem_region rfl ?_
       refine step_r rfl rfl (by decide) ?_
       refine step_r rfl rfl trivial ?_
       refine step_bin rfl rfl rfl rfl rfl trivial ?_
       refine step_nil ?_
       refine seqK_n ?_
       refine sem_cond rfl (fun h17 => ?_) (fun h17 => ?_)
       ·have g17 := h17
        try simp at g17
        have gd1 : x.Do = 1 := by simpa using h17
        refine sem_seq ?_
        refine sem_region rfl ?_
        refine step_r rfl rfl (by decide) ?_
        refine step_r rfl rfl trivial ?_
        refine step_r rfl rfl (by decide) ?_
        refine step_store (H' := [(8, .row _ _ _), (7, .box [_, _, _, _, _]), (0, .box [_, _, _, _, _, _, _, _]), (1, .box [_, _, _, _]), (2, .box [_, _, _, _, _, _, _, _, _, _]), (3, .box [_, _, _, _]), (5, .row _ _ _), (6, .row _ _ _)]) rfl rfl rfl rfl rfl rfl (Nat.le_of_ble_eq_true rfl) (.inl rfl) rfl ?_
        refine step_nil ?_
        refine seqK_n ?_
        refine sem_seq ?_
        refine sem_region rfl ?_
        refine step_r rfl rfl trivial ?_
        refine step_r rfl rfl (by decide) ?_
        refine step_store (H' := [(8, .row _ _ _), (7, .box [_, _, _, _, _]), (0, .box [_, _, _, _, _, _, _, _]), (1, .box [_, _, _, _]), (2, .box [_, _, _, _, _, _, _, _, _, _]), (3, .box [_, _, _, _]), (5, .row _ _ _), (6, .row _ _ _)]) rfl rfl rfl rfl rfl rfl (Nat.le_of_ble_eq_true rfl) (.inl rfl) rfl ?_
        refine step_nil ?_
        refine seqK_n ?_
        refine sem_seq ?_
        refine sem_seq ?_
        refine sem_region rfl ?_
        refine step_r rfl rfl trivial ?_
        refine step_nil ?_
        refine seqK_n ?_
        refine sem_block ?_
        refine sem_loop_of (fun j : Nat => (⟨[(4, .ptr 0 0), (5, .ptr 1 0), (8, .ptr 3 0), (11, .ref 6 5 0 (L ++ [x]).length), (14, .ptr 7 0), (15, I j)], [(0, .box [I f.Id, I f.Health, I f.Hit, I f.Every, I f.Reach, .pv (.slc f.Script.length false (f.Script.flatMap encGLine)), .pv (.slc f.Hoard.length false (f.Hoard.flatMap encGPrize)), I f.Drops]), (1, .box [I x.Value, I now, .ref 5 1 0 t.Came.length, I t.Rage]), (3, .box [I 0, I 0, .pv (.slc 0 true []), I 0]), (5, .row 4 1 (encB (clearL (f.Script.take j) x.Value (t.Came.set k (c0 || x.When != 2))))), (6, .row 40 5 ((L ++ [x]).flatMap encGLine)), (7, .box [I x.Phase, I x.When, I x.Arg, I x.Do, I x.Value])], 8, [], 102, 0⟩ : St)) (fun j : Nat => j ≤ f.Script.length) (fun j : Nat => f.Script.length - j) 0 (Nat.zero_le _) (less_of rfl ⟨⟨rfl, rfl⟩, ⟨rfl, rfl⟩, ⟨rfl, rfl⟩, ⟨rfl, rfl⟩, ⟨rfl, rfl⟩, ⟨rfl, rfl⟩, trivial⟩ ⟨⟨rfl, rfl, rfl⟩, ⟨rfl, rfl, rfl⟩, ⟨rfl, rfl, rfl⟩, ⟨congrArg (fun c => some (VObj.row 4 1 (encB c))) (by rw [← gset]; simp [clearL]), rfl, rfl⟩, ⟨rfl, rfl, rfl⟩, ⟨rfl, rfl, rfl⟩, trivial⟩ (fun _ _ => .inr (Nat.zero_le _))) (fun j hIz => ?_)
        show Walks Try.prog _ _ (⟨[(4, .ptr 0 0), (5, .ptr 1 0), (8, .ptr 3 0), (11, .ref 6 5 0 (L ++ [x]).length), (14, .ptr 7 0), (15, I j)], [(0, .box [I f.Id, I f.Health, I f.Hit, I f.Every, I f.Reach, .pv (.slc f.Script.length false (f.Script.flatMap encGLine)), .pv (.slc f.Hoard.length false (f.Hoard.flatMap encGPrize)), I f.Drops]), (1, .box [I x.Value, I now, .ref 5 1 0 t.Came.length, I t.Rage]), (3, .box [I 0, I 0, .pv (.slc 0 true []), I 0]), (5, .row 4 1 (encB (clearL (f.Script.take j) x.Value (t.Came.set k (c0 || x.When != 2))))), (6, .row 40 5 ((L ++ [x]).flatMap encGLine)), (7, .box [I x.Phase, I x.When, I x.Arg, I x.Do, I x.Value])], 8, [], 102, 0⟩ : St)
        refine sem_seq ?_
        refine sem_seq ?_
        refine sem_region rfl ?_
        refine step_r rfl rfl trivial ?_
        refine step_r rfl rfl (by decide) ?_
        refine step_r rfl rfl trivial ?_
        refine step_r rfl rfl trivial ?_
        refine step_bin rfl rfl rfl rfl rfl trivial ?_
        refine step_nil ?_
        refine seqK_n ?_
        refine sem_cond rfl (fun h19 => ?_) (fun h19 => ?_)
        ·have hkz : j < f.Script.length := by have h := of_decide_eq_true h19; omega
         obtain ⟨xz, hxz⟩ : ∃ x, f.Script[j]? = some x := ⟨_, List.getElem?_eq_getElem hkz⟩
         refine sem_skip ?_
         refine seqK_n ?_
         refine sem_seq ?_
         refine sem_block ?_
         refine sem_seq ?_
         refine sem_drawn rfl (by decide +kernel) rfl ?_
         refine step_r rfl rfl (by decide) ?_
         refine step_r rfl rfl trivial ?_
         refine step_r rfl rfl trivial ?_
         refine step_idxS (k := j) rfl rfl rfl rfl hkz (flat_ne (s := 5) (enc := encGLine) (fun _ => rfl) (by decide) hkz) rfl ?_
         refine step_r rfl rfl (by decide) ?_
         refine step_load_one rfl rfl rfl (flat_get (s := 5) (enc := encGLine) (fun _ => rfl) hxz (o := 0) rfl (by decide)) rfl ?_
         refine step_r rfl rfl (by decide) ?_
         refine step_r rfl rfl trivial ?_
         refine step_bin rfl rfl rfl rfl rfl trivial ?_
         refine step_nil ?_
         refine seqK_n ?_
         refine sem_cond rfl (fun h20 => ?_) (fun h20 => ?_)
         ·have g20 := h20
          try simp at g20
          have gz : xz.Phase = x.Value := by simpa using h20
          refine sem_region rfl ?_
          refine step_r rfl rfl (by decide) ?_
          refine step_r rfl rfl trivial ?_
          refine step_r rfl rfl trivial ?_
          have jk21 : j < (clearL (f.Script.take j) x.Value (t.Came.set k (c0 || x.When != 2))).length := by first | assumption | omega | (simp only [List.length_set, clearL_len]; omega) | (simp; omega) | simp_all
          obtain ⟨y21, jx21⟩ : ∃ z_, (clearL (f.Script.take j) x.Value (t.Came.set k (c0 || x.When != 2)))[j]? = some z_ := ⟨_, List.getElem?_eq_getElem jk21⟩
          refine step_idxR (k := j) rfl rfl rfl rfl (by first | assumption | omega | (have := jk21; simp only [List.length_set, clearL_len] at this ⊢; omega) | (have := jk21; simp at this ⊢; omega)) rfl ?_
          refine step_storeR rfl rfl rfl rfl (by have := jk21; simp [encB]; omega) (encB_set (clearL (f.Script.take j) x.Value (t.Came.set k (c0 || x.When != 2))) j false) (.inl rfl) rfl ?_
          refine step_nil ?_
          refine blkK_n ?_
          refine seqK_n ?_
          refine sem_region rfl ?_
          refine step_r rfl rfl trivial ?_
          refine step_bin rfl rfl rfl rfl rfl trivial ?_
          refine step_r rfl rfl trivial ?_
          refine step_nil ?_
          exact lup_again (j+1) (hkz) (by omega) (less_of rfl ⟨⟨rfl, rfl⟩, ⟨rfl, rfl⟩, ⟨rfl, rfl⟩, ⟨rfl, rfl⟩, ⟨rfl, rfl⟩, ⟨congrArg (fun n => some (I n)) (wrapK hkz (by assumption)), rfl⟩, trivial⟩ ⟨⟨rfl, rfl, rfl⟩, ⟨rfl, rfl, rfl⟩, ⟨rfl, rfl, rfl⟩, ⟨congrArg (fun c => some (VObj.row 4 1 (encB c))) (by rw [clearL_snoc hxz, if_pos gz]), rfl, rfl⟩, ⟨rfl, rfl, rfl⟩, ⟨rfl, rfl, rfl⟩, trivial⟩ (fun _ _ => .inr (Nat.zero_le _)))
         ·have g20 := h20
          try simp at g20
          have gz : ¬ xz.Phase = x.Value := by simpa using h20
          refine sem_skip ?_
          refine blkK_n ?_
          refine seqK_n ?_
          refine sem_region rfl ?_
          refine step_r rfl rfl trivial ?_
          refine step_bin rfl rfl rfl rfl rfl trivial ?_
          refine step_r rfl rfl trivial ?_
          refine step_nil ?_
          exact lup_again (j+1) (hkz) (by omega) (less_of rfl ⟨⟨rfl, rfl⟩, ⟨rfl, rfl⟩, ⟨rfl, rfl⟩, ⟨rfl, rfl⟩, ⟨rfl, rfl⟩, ⟨congrArg (fun n => some (I n)) (wrapK hkz (by assumption)), rfl⟩, trivial⟩ ⟨⟨rfl, rfl, rfl⟩, ⟨rfl, rfl, rfl⟩, ⟨rfl, rfl, rfl⟩, ⟨congrArg (fun c => some (VObj.row 4 1 (encB c))) (by rw [clearL_snoc hxz, if_neg gz]), rfl, rfl⟩, ⟨rfl, rfl, rfl⟩, ⟨rfl, rfl, rfl⟩, trivial⟩ (fun _ _ => .inr (Nat.zero_le _)))
        ·have hkz : j = f.Script.length := by have h := of_decide_eq_false h19; have := hIz; omega
         have ez : clearL (f.Script.take j) x.Value (t.Came.set k (c0 || x.When != 2)) = clearL f.Script x.Value (t.Came.set k (c0 || x.When != 2)) := by rw [hkz, List.take_length]
         refine sem_exit ?_
         refine seqK_e ?_
         refine lupK_e ?_
         refine blkK_t rfl ?_
         refine seqK_n ?_
         refine sem_seq ?_
         refine sem_region rfl ?_
         refine step_r (v := (.agg [_, _, _, _])) rfl rfl (Nat.le_of_ble_eq_true rfl) ?_
         refine step_r rfl rfl trivial ?_
         refine step_store (H' := [(0, .box [_, _, _, _, _, _, _, _]), (1, .box [_, _, _, _]), (3, .box [_, _, _, _]), (5, .row _ _ _), (6, .row _ _ _), (7, .box [_, _, _, _, _])]) rfl rfl rfl rfl rfl rfl (Nat.le_of_ble_eq_true rfl) (.inl rfl) rfl ?_
         refine step_r rfl rfl trivial ?_
         refine step_nil ?_
         refine seqK_n ?_
         refine sem_ret ?_
         refine blkK_r ?_
         refine seqK_r ?_
         refine lupK_r ?_
         refine blkK_r ?_
         refine seqK_r ?_
         rw [ez]
         have e : runB f s u now = (phaseB f.Script { t with Came := t.Came.set k (c0 || x.When != 2) } x.Value now, L ++ [x]) := by rw [if_neg (by simp [gdue]), if_neg gd4, if_pos gd1] at i2; exact i2.symm
         rw [e]
         have el : (phaseB f.Script { t with Came := t.Came.set k (c0 || x.When != 2) } x.Value now).Came.length = t.Came.length := by simp [phaseB, clearL_len]
         rw [el]
         exact answersGR [] [5, 6] rfl ⟨Nat.le_of_ble_eq_true rfl, trivial, trivial⟩ rfl (by (repeat' apply And.intro) <;> first | trivial | rfl | exact flat_len (fun _ => rfl) _ | exact encI_len _ | exact encB_len _ | exact encY_len _ | assumption) (rfl) rfl rfl rfl (by decide) rfl rfl ⟨⟨rfl, rfl⟩, ⟨rfl, rfl⟩, trivial⟩
       ·have g17 := h17
        try simp at g17
        have gd1 : ¬ x.Do = 1 := by simpa using h17
        refine sem_skip ?_
        refine blkK_n ?_
        refine seqK_n ?_
        refine sem_region rfl ?_
        refine step_r rfl rfl trivial ?_
        refine step_bin rfl rfl rfl rfl rfl trivial ?_
        refine step_r rfl rfl trivial ?_
        refine step_nil ?_
        rw [if_neg (by simp [gdue]), if_neg gd4, if_neg gd1] at i2
        exact lup_again (k+1, { t with Came := t.Came.set k (c0 || x.When != 2) }, L ++ [x]) (⟨hk, i2, by simp [i3], by simp; omega, by simp; omega⟩) (by show f.Script.length - (k + 1) < f.Script.length - k; omega) (less_of rfl ⟨⟨rfl, rfl⟩, ⟨rfl, rfl⟩, ⟨rfl, rfl⟩, ⟨rfl, rfl⟩, ⟨rfl, rfl⟩, ⟨rfl, rfl⟩, ⟨congrArg (fun n => some (I n)) (wrapK hk (by assumption)), rfl⟩, trivial⟩ ⟨⟨rfl, rfl, rfl⟩, ⟨congrArg (fun n => some (VObj.box [I t.Phase, I t.Since, .ref 5 1 0 n, I (t.Rage)])) (List.length_set ..).symm, rfl, rfl⟩, ⟨rfl, rfl, rfl⟩, ⟨rfl, rfl, rfl⟩, ⟨congrArg (fun c => some (VObj.row 4 1 (encB c))) (by first | exact gset | rw [gset]), rfl, rfl⟩, ⟨rfl, rfl, rfl⟩, trivial⟩ (fun _ _ => .inr (Nat.zero_le _)))
     ·have g12 := h12
      try simp at g12
      have gset : t.Came = t.Came.set k (c0 || x.When != 2) := by
       rw [show (x.When != 2) = false from h12, Bool.or_false]
       exact (set_self hxc).symm
      refine sem_skip ?_
      refine seqK_n ?_
      refine sem_seq ?_
      refine sem_seq ?_
      refine sem_region rfl ?_
      refine step_r rfl rfl (by decide) ?_
      refine step_r rfl rfl trivial ?_
      refine step_bin rfl rfl rfl rfl rfl trivial ?_
      refine step_nil ?_
      refine seqK_n ?_
      refine sem_cond rfl (fun h25 => ?_) (fun h25 => ?_)
      ·have g25 := h25
       try simp at g25
       have gd4 : x.Do = 4 := by simpa using h25
       refine sem_region rfl ?_
       refine step_r rfl rfl (by decide) ?_
       refine step_r rfl rfl trivial ?_
       refine step_r rfl rfl (by decide) ?_
       refine step_r rfl rfl trivial ?_
       refine step_bin rfl rfl rfl rfl rfl trivial ?_
       refine step_min rfl rfl rfl ?_
       refine step_r rfl rfl (by decide) ?_
       refine step_store (H' := [(8, .row _ _ _), (7, .box [_, _, _, _, _]), (0, .box [_, _, _, _, _, _, _, _]), (1, .box [_, _, _, _]), (2, .box [_, _, _, _, _, _, _, _, _, _]), (3, .box [_, _, _, _]), (5, .row _ _ _), (6, .row _ _ _)]) rfl rfl rfl rfl rfl rfl (Nat.le_of_ble_eq_true rfl) (.inl rfl) rfl ?_
       refine step_nil ?_
       refine seqK_n ?_
       refine sem_seq ?_
       refine sem_region rfl ?_
       refine step_r rfl rfl (by decide) ?_
       refine step_r rfl rfl trivial ?_
       refine step_bin rfl rfl rfl rfl rfl trivial ?_
       refine step_nil ?_
       refine seqK_n ?_
       refine sem_cond rfl (fun h26 => ?_) (fun h26 => ?_)
       ·have gd1 : x.Do = 1 := by simpa using h26
        omega
       ·have g26 := h26
        try simp at g26
        have gd1 : ¬ x.Do = 1 := by simpa using h26
        refine sem_skip ?_
        refine blkK_n ?_
        refine seqK_n ?_
        refine sem_region rfl ?_
        refine step_r rfl rfl trivial ?_
        refine step_bin rfl rfl rfl rfl rfl trivial ?_
        refine step_r rfl rfl trivial ?_
        refine step_nil ?_
        rw [if_neg (by simp [gdue]), if_pos gd4] at i2
        exact lup_again (k+1, { t with Came := t.Came.set k (c0 || x.When != 2), Rage := min (IntKind.i64.wrap (t.Rage + x.Value)) 1000 }, L ++ [x]) (⟨hk, i2, by simp [i3], by simp; omega, by simp; omega⟩) (by show f.Script.length - (k + 1) < f.Script.length - k; omega) (less_of rfl ⟨⟨rfl, rfl⟩, ⟨rfl, rfl⟩, ⟨rfl, rfl⟩, ⟨rfl, rfl⟩, ⟨rfl, rfl⟩, ⟨rfl, rfl⟩, ⟨congrArg (fun n => some (I n)) (wrapK hk (by assumption)), rfl⟩, trivial⟩ ⟨⟨rfl, rfl, rfl⟩, ⟨congrArg (fun n => some (VObj.box [I t.Phase, I t.Since, .ref 5 1 0 n, I (min (IntKind.i64.wrap (t.Rage + x.Value)) 1000)])) (List.length_set ..).symm, rfl, rfl⟩, ⟨rfl, rfl, rfl⟩, ⟨rfl, rfl, rfl⟩, ⟨congrArg (fun c => some (VObj.row 4 1 (encB c))) (by first | exact gset | rw [gset]), rfl, rfl⟩, ⟨rfl, rfl, rfl⟩, trivial⟩ (fun _ _ => .inr (Nat.zero_le _)))
      ·have g25 := h25
       try simp at g25
       have gd4 : ¬ x.Do = 4 := by simpa using h25
       refine sem_skip ?_
       refine seqK_n ?_
       refine sem_seq ?_
       refine sem_region rfl ?_
       refine step_r rfl rfl (by decide) ?_
       refine step_r rfl rfl trivial ?_
       refine step_bin rfl rfl rfl rfl rfl trivial ?_
       refine step_nil ?_
       refine seqK_n ?_
       refine sem_cond rfl (fun h28 => ?_) (fun h28 => ?_)
       ·have g28 := h28
        try simp at g28
        have gd1 : x.Do = 1 := by simpa using h28
        refine sem_seq ?_
        refine sem_region rfl ?_
        refine step_r rfl rfl (by decide) ?_
        refine step_r rfl rfl trivial ?_
        refine step_r rfl rfl (by decide) ?_
        refine step_store (H' := [(8, .row _ _ _), (7, .box [_, _, _, _, _]), (0, .box [_, _, _, _, _, _, _, _]), (1, .box [_, _, _, _]), (2, .box [_, _, _, _, _, _, _, _, _, _]), (3, .box [_, _, _, _]), (5, .row _ _ _), (6, .row _ _ _)]) rfl rfl rfl rfl rfl rfl (Nat.le_of_ble_eq_true rfl) (.inl rfl) rfl ?_
        refine step_nil ?_
        refine seqK_n ?_
        refine sem_seq ?_
        refine sem_region rfl ?_
        refine step_r rfl rfl trivial ?_
        refine step_r rfl rfl (by decide) ?_
        refine step_store (H' := [(8, .row _ _ _), (7, .box [_, _, _, _, _]), (0, .box [_, _, _, _, _, _, _, _]), (1, .box [_, _, _, _]), (2, .box [_, _, _, _, _, _, _, _, _, _]), (3, .box [_, _, _, _]), (5, .row _ _ _), (6, .row _ _ _)]) rfl rfl rfl rfl rfl rfl (Nat.le_of_ble_eq_true rfl) (.inl rfl) rfl ?_
        refine step_nil ?_
        refine seqK_n ?_
        refine sem_seq ?_
        refine sem_seq ?_
        refine sem_region rfl ?_
        refine step_r rfl rfl trivial ?_
        refine step_nil ?_
        refine seqK_n ?_
        refine sem_block ?_
        refine sem_loop_of (fun j : Nat => (⟨[(4, .ptr 0 0), (5, .ptr 1 0), (8, .ptr 3 0), (11, .ref 6 5 0 (L ++ [x]).length), (14, .ptr 7 0), (15, I j)], [(0, .box [I f.Id, I f.Health, I f.Hit, I f.Every, I f.Reach, .pv (.slc f.Script.length false (f.Script.flatMap encGLine)), .pv (.slc f.Hoard.length false (f.Hoard.flatMap encGPrize)), I f.Drops]), (1, .box [I x.Value, I now, .ref 5 1 0 t.Came.length, I t.Rage]), (3, .box [I 0, I 0, .pv (.slc 0 true []), I 0]), (5, .row 4 1 (encB (clearL (f.Script.take j) x.Value (t.Came.set k (c0 || x.When != 2))))), (6, .row 40 5 ((L ++ [x]).flatMap encGLine)), (7, .box [I x.Phase, I x.When, I x.Arg, I x.Do, I x.Value])], 8, [], 102, 0⟩ : St)) (fun j : Nat => j ≤ f.Script.length) (fun j : Nat => f.Script.length - j) 0 (Nat.zero_le _) (less_of rfl ⟨⟨rfl, rfl⟩, ⟨rfl, rfl⟩, ⟨rfl, rfl⟩, ⟨rfl, rfl⟩, ⟨rfl, rfl⟩, ⟨rfl, rfl⟩, trivial⟩ ⟨⟨rfl, rfl, rfl⟩, ⟨rfl, rfl, rfl⟩, ⟨rfl, rfl, rfl⟩, ⟨congrArg (fun c => some (VObj.row 4 1 (encB c))) (by rw [← gset]; simp [clearL]), rfl, rfl⟩, ⟨rfl, rfl, rfl⟩, ⟨rfl, rfl, rfl⟩, trivial⟩ (fun _ _ => .inr (Nat.zero_le _))) (fun j hIz => ?_)
        show Walks Try.prog _ _ (⟨[(4, .ptr 0 0), (5, .ptr 1 0), (8, .ptr 3 0), (11, .ref 6 5 0 (L ++ [x]).length), (14, .ptr 7 0), (15, I j)], [(0, .box [I f.Id, I f.Health, I f.Hit, I f.Every, I f.Reach, .pv (.slc f.Script.length false (f.Script.flatMap encGLine)), .pv (.slc f.Hoard.length false (f.Hoard.flatMap encGPrize)), I f.Drops]), (1, .box [I x.Value, I now, .ref 5 1 0 t.Came.length, I t.Rage]), (3, .box [I 0, I 0, .pv (.slc 0 true []), I 0]), (5, .row 4 1 (encB (clearL (f.Script.take j) x.Value (t.Came.set k (c0 || x.When != 2))))), (6, .row 40 5 ((L ++ [x]).flatMap encGLine)), (7, .box [I x.Phase, I x.When, I x.Arg, I x.Do, I x.Value])], 8, [], 102, 0⟩ : St)
        refine sem_seq ?_
        refine sem_seq ?_
        refine sem_region rfl ?_
        refine step_r rfl rfl trivial ?_
        refine step_r rfl rfl (by decide) ?_
        refine step_r rfl rfl trivial ?_
        refine step_r rfl rfl trivial ?_
        refine step_bin rfl rfl rfl rfl rfl trivial ?_
        refine step_nil ?_
        refine seqK_n ?_
        refine sem_cond rfl (fun h30 => ?_) (fun h30 => ?_)
        ·have hkz : j < f.Script.length := by have h := of_decide_eq_true h30; omega
         obtain ⟨xz, hxz⟩ : ∃ x, f.Script[j]? = some x := ⟨_, List.getElem?_eq_getElem hkz⟩
         refine sem_skip ?_
         refine seqK_n ?_
         refine sem_seq ?_
         refine sem_block ?_
         refine sem_seq ?_
         refine sem_drawn rfl (by decide +kernel) rfl ?_
         refine step_r rfl rfl (by decide) ?_
         refine step_r rfl rfl trivial ?_
         refine step_r rfl rfl trivial ?_
         refine step_idxS (k := j) rfl rfl rfl rfl hkz (flat_ne (s := 5) (enc := encGLine) (fun _ => rfl) (by decide) hkz) rfl ?_
         refine step_r rfl rfl (by decide) ?_
         refine step_load_one rfl rfl rfl (flat_get (s := 5) (enc := encGLine) (fun _ => rfl) hxz (o := 0) rfl (by decide)) rfl ?_
         refine step_r rfl rfl (by decide) ?_
         refine step_r rfl rfl trivial ?_
         refine step_bin rfl rfl rfl rfl rfl trivial ?_
         refine step_nil ?_
         refine seqK_n ?_
         refine sem_cond rfl (fun h31 => ?_) (fun h31 => ?_)
         ·have g31 := h31
          try simp at g31
          have gz : xz.Phase = x.Value := by simpa using h31
          refine sem_region rfl ?_
          refine step_r rfl rfl (by decide) ?_
          refine step_r rfl rfl trivial ?_
          refine step_r rfl rfl trivial ?_
          have jk32 : j < (clearL (f.Script.take j) x.Value (t.Came.set k (c0 || x.When != 2))).length := by first | assumption | omega | (simp only [List.length_set, clearL_len]; omega) | (simp; omega) | simp_all
          obtain ⟨y32, jx32⟩ : ∃ z_, (clearL (f.Script.take j) x.Value (t.Came.set k (c0 || x.When != 2)))[j]? = some z_ := ⟨_, List.getElem?_eq_getElem jk32⟩
          refine step_idxR (k := j) rfl rfl rfl rfl (by first | assumption | omega | (have := jk32; simp only [List.length_set, clearL_len] at this ⊢; omega) | (have := jk32; simp at this ⊢; omega)) rfl ?_
          refine step_storeR rfl rfl rfl rfl (by have := jk32; simp [encB]; omega) (encB_set (clearL (f.Script.take j) x.Value (t.Came.set k (c0 || x.When != 2))) j false) (.inl rfl) rfl ?_
          refine step_nil ?_
          refine blkK_n ?_
          refine seqK_n ?_
          refine sem_region rfl ?_
          refine step_r rfl rfl trivial ?_
          refine step_bin rfl rfl rfl rfl rfl trivial ?_
          refine step_r rfl rfl trivial ?_
          refine step_nil ?_
          exact lup_again (j+1) (hkz) (by omega) (less_of rfl ⟨⟨rfl, rfl⟩, ⟨rfl, rfl⟩, ⟨rfl, rfl⟩, ⟨rfl, rfl⟩, ⟨rfl, rfl⟩, ⟨congrArg (fun n => some (I n)) (wrapK hkz (by assumption)), rfl⟩, trivial⟩ ⟨⟨rfl, rfl, rfl⟩, ⟨rfl, rfl, rfl⟩, ⟨rfl, rfl, rfl⟩, ⟨congrArg (fun c => some (VObj.row 4 1 (encB c))) (by rw [clearL_snoc hxz, if_pos gz]), rfl, rfl⟩, ⟨rfl, rfl, rfl⟩, ⟨rfl, rfl, rfl⟩, trivial⟩ (fun _ _ => .inr (Nat.zero_le _)))
         ·have g31 := h31
          try simp at g31
          have gz : ¬ xz.Phase = x.Value := by simpa using h31
          refine sem_skip ?_
          refine blkK_n ?_
          refine seqK_n ?_
          refine sem_region rfl ?_
          refine step_r rfl rfl trivial ?_
          refine step_bin rfl rfl rfl rfl rfl trivial ?_
          refine step_r rfl rfl trivial ?_
          refine step_nil ?_
          exact lup_again (j+1) (hkz) (by omega) (less_of rfl ⟨⟨rfl, rfl⟩, ⟨rfl, rfl⟩, ⟨rfl, rfl⟩, ⟨rfl, rfl⟩, ⟨rfl, rfl⟩, ⟨congrArg (fun n => some (I n)) (wrapK hkz (by assumption)), rfl⟩, trivial⟩ ⟨⟨rfl, rfl, rfl⟩, ⟨rfl, rfl, rfl⟩, ⟨rfl, rfl, rfl⟩, ⟨congrArg (fun c => some (VObj.row 4 1 (encB c))) (by rw [clearL_snoc hxz, if_neg gz]), rfl, rfl⟩, ⟨rfl, rfl, rfl⟩, ⟨rfl, rfl, rfl⟩, trivial⟩ (fun _ _ => .inr (Nat.zero_le _)))
        ·have hkz : j = f.Script.length := by have h := of_decide_eq_false h30; have := hIz; omega
         have ez : clearL (f.Script.take j) x.Value (t.Came.set k (c0 || x.When != 2)) = clearL f.Script x.Value (t.Came.set k (c0 || x.When != 2)) := by rw [hkz, List.take_length]
         refine sem_exit ?_
         refine seqK_e ?_
         refine lupK_e ?_
         refine blkK_t rfl ?_
         refine seqK_n ?_
         refine sem_seq ?_
         refine sem_region rfl ?_
         refine step_r (v := (.agg [_, _, _, _])) rfl rfl (Nat.le_of_ble_eq_true rfl) ?_
         refine step_r rfl rfl trivial ?_
         refine step_store (H' := [(0, .box [_, _, _, _, _, _, _, _]), (1, .box [_, _, _, _]), (3, .box [_, _, _, _]), (5, .row _ _ _), (6, .row _ _ _), (7, .box [_, _, _, _, _])]) rfl rfl rfl rfl rfl rfl (Nat.le_of_ble_eq_true rfl) (.inl rfl) rfl ?_
         refine step_r rfl rfl trivial ?_
         refine step_nil ?_
         refine seqK_n ?_
         refine sem_ret ?_
         refine blkK_r ?_
         refine seqK_r ?_
         refine lupK_r ?_
         refine blkK_r ?_
         refine seqK_r ?_
         rw [ez]
         have e : runB f s u now = (phaseB f.Script { t with Came := t.Came.set k (c0 || x.When != 2) } x.Value now, L ++ [x]) := by rw [if_neg (by simp [gdue]), if_neg gd4, if_pos gd1] at i2; exact i2.symm
         rw [e]
         have el : (phaseB f.Script { t with Came := t.Came.set k (c0 || x.When != 2) } x.Value now).Came.length = t.Came.length := by simp [phaseB, clearL_len]
         rw [el]
         exact answersGR [] [5, 6] rfl ⟨Nat.le_of_ble_eq_true rfl, trivial, trivial⟩ rfl (by (repeat' apply And.intro) <;> first | trivial | rfl | exact flat_len (fun _ => rfl) _ | exact encI_len _ | exact encB_len _ | exact encY_len _ | assumption) (rfl) rfl rfl rfl (by decide) rfl rfl ⟨⟨rfl, rfl⟩, ⟨rfl, rfl⟩, trivial⟩
       ·have g28 := h28
        try simp at g28
        have gd1 : ¬ x.Do = 1 := by simpa using h28
        refine sem_skip ?_
        refine blkK_n ?_
        refine seqK_n ?_
        refine sem_region rfl ?_
        refine step_r rfl rfl trivial ?_
        refine step_bin rfl rfl rfl rfl rfl trivial ?_
        refine step_r rfl rfl trivial ?_
        refine step_nil ?_
        rw [if_neg (by simp [gdue]), if_neg gd4, if_neg gd1] at i2
        exact lup_again (k+1, { t with Came := t.Came.set k (c0 || x.When != 2) }, L ++ [x]) (⟨hk, i2, by simp [i3], by simp; omega, by simp; omega⟩) (by show f.Script.length - (k + 1) < f.Script.length - k; omega) (less_of rfl ⟨⟨rfl, rfl⟩, ⟨rfl, rfl⟩, ⟨rfl, rfl⟩, ⟨rfl, rfl⟩, ⟨rfl, rfl⟩, ⟨rfl, rfl⟩, ⟨congrArg (fun n => some (I n)) (wrapK hk (by assumption)), rfl⟩, trivial⟩ ⟨⟨rfl, rfl, rfl⟩, ⟨congrArg (fun n => some (VObj.box [I t.Phase, I t.Since, .ref 5 1 0 n, I (t.Rage)])) (List.length_set ..).symm, rfl, rfl⟩, ⟨rfl, rfl, rfl⟩, ⟨rfl, rfl, rfl⟩, ⟨congrArg (fun c => some (VObj.row 4 1 (encB c))) (by first | exact gset | rw [gset]), rfl, rfl⟩, ⟨rfl, rfl, rfl⟩, trivial⟩ (fun _ _ => .inr (Nat.zero_le _)))
   ·have hk : k = f.Script.length := by have h := of_decide_eq_false h7; have := hI; omega
    have e : runB f s u now = (t, L) := by rw [← hI.2.1, hk, List.drop_length]; rfl
    rw [e]
    refine sem_exit ?_
    refine seqK_e ?_
    refine lupK_e ?_
    refine blkK_t rfl ?_
    refine seqK_n ?_
    refine sem_seq ?_
    refine sem_region rfl ?_
    refine step_r (v := (.agg [_, _, _, _])) rfl rfl (Nat.le_of_ble_eq_true rfl) ?_
    refine step_r rfl rfl trivial ?_
    refine step_store (H' := [(0, .box [_, _, _, _, _, _, _, _]), (1, .box [_, _, _, _]), (2, .box [_, _, _, _, _, _, _, _, _, _]), (3, .box [_, _, _, _]), (5, .row _ _ _), (6, .row _ _ _)]) rfl rfl rfl rfl rfl rfl (Nat.le_of_ble_eq_true rfl) (.inl rfl) rfl ?_
    refine step_r rfl rfl trivial ?_
    refine step_nil ?_
    refine seqK_n ?_
    refine sem_ret ?_
    exact answersGR [] [5, 6] rfl ⟨Nat.le_of_ble_eq_true rfl, trivial, trivial⟩ rfl (by (repeat' apply And.intro) <;> first | trivial | rfl | exact flat_len (fun _ => rfl) _ | exact encI_len _ | exact encB_len _ | exact encY_len _ | assumption) (rfl) rfl rfl rfl (by decide) rfl rfl ⟨⟨rfl, rfl⟩, ⟨rfl, rfl⟩, trivial⟩

def fitsP (f : GFoe) (s : GBoss) (now : Int) : Prop := (∀ l ∈ f.Script.take 100, -1099511627776 ≤ l.Value ∧ l.Value ≤ 1099511627776) ∧ 0 ≤ now ∧ now ≤ 4611686018427387904 ∧ 0 ≤ s.Since ∧ s.Since ≤ 4611686018427387904 ∧ -1099511627776 ≤ s.Rage ∧ s.Rage ≤ 1099511627776 ∧ f.Script.length ≤ 60 ∧ s.Came.length ≤ 60
instance (f : GFoe) (s : GBoss) (now : Int) : Decidable (fitsP f s now) := by unfold fitsP; infer_instance

theorem fits_ok (f : GFoe) (s : GBoss) (now : Int) : Ok Try.prog 7 [aGFoe f, aGBoss s, I now] [] (B (decide (fitsP f s now))) [] [] := by
 refine Ok.len fun hlen => ?_
 have hl_f_Script : f.Script.length ≤ maxLen := hlen _ (by simp [lensL, lens, lensP])
 have hl_f_Hoard : f.Hoard.length ≤ maxLen := hlen _ (by simp [lensL, lens, lensP])
 have hl_s_Came : s.Came.length ≤ maxLen := hlen _ (by simp [lensL, lens, lensP])
 unfold maxLen at hl_f_Script hl_f_Hoard hl_s_Came
 refine ok_of_sem Try.func7 rfl ?_
 show Walks Try.prog _ _ ⟨[(0, aGFoe f), (1, aGBoss s), (2, I now)], [], 0, [], 73, 0⟩
 refine sem_seq ?_
 refine sem_region rfl ?_
 refine step_n (o := .box [_, _, _, _, _, _, _, _]) (nx' := 1) rfl rfl rfl trivial ?_
 refine step_n (o := .box [_, _, _, _]) (nx' := 2) rfl rfl rfl trivial ?_
 refine step_r rfl rfl trivial ?_
 refine step_nil ?_
 refine seqK_n ?_
 refine sem_seq ?_
 refine sem_seq ?_
 refine sem_region rfl ?_
 refine step_r rfl rfl trivial ?_
 refine step_nil ?_
 refine seqK_n ?_
 refine sem_block ?_
 refine sem_loop_of (fun k : Nat => (⟨[(2, I now), (3, .ptr 0 0), (4, .ptr 1 0), (7, I k)], [(0, .box [I f.Id, I f.Health, I f.Hit, I f.Every, I f.Reach, .pv (.slc f.Script.length false (f.Script.flatMap encGLine)), .pv (.slc f.Hoard.length false (f.Hoard.flatMap encGPrize)), I f.Drops]), (1, .box [I s.Phase, I s.Since, .pv (.slc s.Came.length false (encB s.Came)), I s.Rage])], 2, [], 73, 0⟩ : St)) (fun k : Nat => k ≤ f.Script.length ∧ k ≤ 100 ∧ ∀ l ∈ f.Script.take k, -1099511627776 ≤ l.Value ∧ l.Value ≤ 1099511627776) (fun k : Nat => f.Script.length - k) 0 (⟨Nat.zero_le _, by omega, by simp⟩) (less_of rfl ⟨⟨rfl, rfl⟩, ⟨rfl, rfl⟩, ⟨rfl, rfl⟩, ⟨rfl, rfl⟩, trivial⟩ ⟨⟨rfl, rfl, rfl⟩, ⟨rfl, rfl, rfl⟩, trivial⟩ (fun _ _ => .inr (Nat.zero_le _))) (fun k hI => ?_)
 show Walks Try.prog _ _ (⟨[(2, I now), (3, .ptr 0 0), (4, .ptr 1 0), (7, I k)], [(0, .box [I f.Id, I f.Health, I f.Hit, I f.Every, I f.Reach, .pv (.slc f.Script.length false (f.Script.flatMap encGLine)), .pv (.slc f.Hoard.length false (f.Hoard.flatMap encGPrize)), I f.Drops]), (1, .box [I s.Phase, I s.Since, .pv (.slc s.Came.length false (encB s.Came)), I s.Rage])], 2, [], 73, 0⟩ : St)
 refine sem_seq ?_
 refine sem_seq ?_
 refine sem_region rfl ?_
 refine step_r rfl rfl trivial ?_
 refine step_r rfl rfl (by decide) ?_
 refine step_r rfl rfl trivial ?_
 refine step_r rfl rfl trivial ?_
 refine step_bin rfl rfl rfl rfl rfl trivial ?_
 refine step_r rfl rfl trivial ?_
 refine step_gs rfl (fun h3 => ?_) (fun h3 => ?_)
 ·have hk : k < f.Script.length := by simpa using h3
  obtain ⟨x, hx⟩ : ∃ x, f.Script[k]? = some x := ⟨_, List.getElem?_eq_getElem hk⟩
  refine step_g1 rfl h3 ?_
  refine step_r rfl rfl trivial ?_
  refine step_g1 rfl h3 ?_
  refine step_bin rfl rfl rfl rfl rfl trivial ?_
  refine step_pickT rfl h3 rfl rfl ?_
  refine step_nil ?_
  refine seqK_n ?_
  refine sem_cond rfl (fun h5 => ?_) (fun h5 => ?_)
  ·have g5 := h5
   try simp at g5
   refine sem_skip ?_
   refine seqK_n ?_
   refine sem_seq ?_
   refine sem_block ?_
   refine sem_seq ?_
   refine sem_region rfl ?_
   refine step_r rfl rfl (by decide) ?_
   refine step_r rfl rfl trivial ?_
   refine step_r rfl rfl trivial ?_
   refine step_idxS (k := k) rfl rfl rfl rfl hk (flat_ne (s := 5) (enc := encGLine) (fun _ => rfl) (by decide) hk) rfl ?_
   refine step_r rfl rfl (by decide) ?_
   refine step_load_one rfl rfl rfl (flat_get (s := 5) (enc := encGLine) (fun _ => rfl) hx (o := 4) rfl (by decide)) rfl ?_
   refine step_bin rfl rfl rfl rfl rfl trivial ?_
   refine step_r rfl rfl trivial ?_
   refine step_gs rfl (fun h7 => ?_) (fun h7 => ?_)
   ·have g7 := h7
    try simp at g7
    refine step_g0 rfl h7 rfl ?_
    refine step_g0 rfl h7 rfl ?_
    refine step_g0 rfl h7 rfl ?_
    refine step_g0 rfl h7 rfl ?_
    refine step_g0 rfl h7 rfl ?_
    refine step_g0 rfl h7 rfl ?_
    refine step_g0 rfl h7 rfl ?_
    refine step_pickT rfl h7 rfl rfl ?_
    refine step_nil ?_
    refine seqK_n ?_
    refine sem_condT rfl ?_
    refine sem_seq ?_
    refine sem_region rfl ?_
    refine step_r rfl rfl trivial ?_
    refine step_nil ?_
    refine seqK_n ?_
    refine sem_ret ?_
    refine blkK_r ?_
    refine seqK_r ?_
    refine lupK_r ?_
    refine blkK_r ?_
    refine seqK_r ?_
    exact answersR rfl ⟨trivial, trivial⟩ (congrArg B (decide_eq_false (fun e => by have := e.1 x (List.mem_take_iff_getElem.2 ⟨k, by omega, (List.getElem?_eq_some_iff.1 hx).2⟩); omega)).symm) rfl
   ·have g7 := h7
    try simp at g7
    refine step_g1 rfl h7 ?_
    refine step_r rfl rfl (by decide) ?_
    refine step_g1 rfl h7 ?_
    refine step_r rfl rfl trivial ?_
    refine step_g1 rfl h7 ?_
    refine step_r rfl rfl trivial ?_
    refine step_g1 rfl h7 ?_
    refine step_idxS (k := k) rfl rfl rfl rfl hk (flat_ne (s := 5) (enc := encGLine) (fun _ => rfl) (by decide) hk) rfl ?_
    refine step_g1 rfl h7 ?_
    refine step_r rfl rfl (by decide) ?_
    refine step_g1 rfl h7 ?_
    refine step_load_one rfl rfl rfl (flat_get (s := 5) (enc := encGLine) (fun _ => rfl) hx (o := 4) rfl (by decide)) rfl ?_
    refine step_g1 rfl h7 ?_
    refine step_bin rfl rfl rfl rfl rfl trivial ?_
    refine step_pickF rfl h7 rfl rfl ?_
    refine step_nil ?_
    refine seqK_n ?_
    refine sem_cond rfl (fun h9 => ?_) (fun h9 => ?_)
    ·have g9 := h9
     try simp at g9
     refine sem_seq ?_
     refine sem_region rfl ?_
     refine step_r rfl rfl trivial ?_
     refine step_nil ?_
     refine seqK_n ?_
     refine sem_ret ?_
     refine blkK_r ?_
     refine seqK_r ?_
     refine lupK_r ?_
     refine blkK_r ?_
     refine seqK_r ?_
     exact answersR rfl ⟨trivial, trivial⟩ (congrArg B (decide_eq_false (fun e => by have := e.1 x (List.mem_take_iff_getElem.2 ⟨k, by omega, (List.getElem?_eq_some_iff.1 hx).2⟩); omega)).symm) rfl
    ·have g9 := h9
     try simp at g9
     refine sem_skip ?_
     refine blkK_n ?_
     refine seqK_n ?_
     refine sem_region rfl ?_
     refine step_r rfl rfl trivial ?_
     refine step_bin rfl rfl rfl rfl rfl trivial ?_
     refine step_r rfl rfl trivial ?_
     refine step_nil ?_
     exact lup_again (k+1) (⟨hk, by omega, fun l hl => by
      rw [take_snoc hx] at hl
      rcases List.mem_append.1 hl with hl | hl
      · exact hI.2.2 l hl
      · rw [List.mem_singleton] at hl; subst hl; omega⟩) (by omega) (less_of rfl ⟨⟨rfl, rfl⟩, ⟨rfl, rfl⟩, ⟨rfl, rfl⟩, ⟨congrArg (fun n => some (I n)) (wrapK hk hl_f_Script), rfl⟩, trivial⟩ ⟨⟨rfl, rfl, rfl⟩, ⟨rfl, rfl, rfl⟩, trivial⟩ (fun _ _ => .inr (Nat.zero_le _)))
  ·have g5 := h5
   try simp at g5
   have hk2 : ¬ k < 100 := by have h := of_decide_eq_false h5; omega
   have hT : ∀ l ∈ f.Script.take 100, -1099511627776 ≤ l.Value ∧ l.Value ≤ 1099511627776 := by
    intro l hl
    refine hI.2.2 l ?_
    have hk : k = f.Script.length ∨ k = 100 := by omega
    rcases hk with rfl | rfl
    · rw [List.take_length]; exact List.mem_of_mem_take hl
    · exact hl
   refine sem_exit ?_
   refine seqK_e ?_
   refine lupK_e ?_
   refine blkK_t rfl ?_
   refine seqK_n ?_
   refine sem_seq ?_
   refine sem_region rfl ?_
   refine step_r rfl rfl trivial ?_
   refine step_bin rfl rfl rfl rfl rfl trivial ?_
   refine step_r rfl rfl trivial ?_
   refine step_gs rfl (fun h13 => ?_) (fun h13 => ?_)
   ·have g13 := h13
    try simp at g13
    refine step_g1 rfl h13 ?_
    refine step_r rfl rfl trivial ?_
    refine step_g1 rfl h13 ?_
    refine step_bin rfl rfl rfl rfl rfl trivial ?_
    refine step_pickT rfl h13 rfl rfl ?_
    refine step_r rfl rfl trivial ?_
    refine step_gs rfl (fun h15 => ?_) (fun h15 => ?_)
    ·have g15 := h15
     try simp at g15
     refine step_g1 rfl h15 ?_
     refine step_r rfl rfl (by decide) ?_
     refine step_g1 rfl h15 ?_
     refine step_r rfl rfl trivial ?_
     refine step_g1 rfl h15 ?_
     refine step_bin rfl rfl rfl rfl rfl trivial ?_
     refine step_pickT rfl h15 rfl rfl ?_
     refine step_r rfl rfl trivial ?_
     refine step_gs rfl (fun h17 => ?_) (fun h17 => ?_)
     ·have g17 := h17
      try simp at g17
      refine step_g1 rfl h17 ?_
      refine step_r rfl rfl (by decide) ?_
      refine step_g1 rfl h17 ?_
      refine step_r rfl rfl trivial ?_
      refine step_g1 rfl h17 ?_
      refine step_bin rfl rfl rfl rfl rfl trivial ?_
      refine step_pickT rfl h17 rfl rfl ?_
      refine step_r rfl rfl trivial ?_
      refine step_gs rfl (fun h19 => ?_) (fun h19 => ?_)
      ·have g19 := h19
       try simp at g19
       refine step_g1 rfl h19 ?_
       refine step_r rfl rfl (by decide) ?_
       refine step_g1 rfl h19 ?_
       refine step_r rfl rfl trivial ?_
       refine step_g1 rfl h19 ?_
       refine step_bin rfl rfl rfl rfl rfl trivial ?_
       refine step_pickT rfl h19 rfl rfl ?_
       refine step_r rfl rfl trivial ?_
       refine step_gs rfl (fun h21 => ?_) (fun h21 => ?_)
       ·have g21 := h21
        try simp at g21
        refine step_g1 rfl h21 ?_
        refine step_r rfl rfl (by decide) ?_
        refine step_g1 rfl h21 ?_
        refine step_r rfl rfl trivial ?_
        refine step_g1 rfl h21 ?_
        refine step_bin rfl rfl rfl rfl rfl trivial ?_
        refine step_pickT rfl h21 rfl rfl ?_
        refine step_r rfl rfl trivial ?_
        refine step_gs rfl (fun h23 => ?_) (fun h23 => ?_)
        ·have g23 := h23
         try simp at g23
         refine step_g1 rfl h23 ?_
         refine step_r rfl rfl (by decide) ?_
         refine step_g1 rfl h23 ?_
         refine step_r rfl rfl trivial ?_
         refine step_g1 rfl h23 ?_
         refine step_r rfl rfl trivial ?_
         refine step_g1 rfl h23 ?_
         refine step_bin rfl rfl rfl rfl rfl trivial ?_
         refine step_pickT rfl h23 rfl rfl ?_
         refine step_r rfl rfl trivial ?_
         refine step_gs rfl (fun h25 => ?_) (fun h25 => ?_)
         ·have g25 := h25
          try simp at g25
          refine step_g1 rfl h25 ?_
          refine step_r rfl rfl (by decide) ?_
          refine step_g1 rfl h25 ?_
          refine step_r rfl rfl trivial ?_
          refine step_g1 rfl h25 ?_
          refine step_r rfl rfl trivial ?_
          refine step_g1 rfl h25 ?_
          refine step_bin rfl rfl rfl rfl rfl trivial ?_
          refine step_pickT rfl h25 rfl rfl ?_
          refine step_r rfl rfl trivial ?_
          refine step_nil ?_
          refine seqK_n ?_
          refine sem_ret ?_
          refine answersR rfl ⟨trivial, trivial⟩ (congrArg B ?_) rfl
          rw [Bool.eq_iff_iff]
          simp only [decide_eq_true_eq]
          unfold fitsP
          simp only [decide_eq_true_eq, decide_eq_false_iff_not, Bool.not_eq_true', Bool.not_eq_false', beq_iff_eq, bne_iff_ne, beq_eq_false_iff_ne, bne_eq_false_iff_eq, ne_eq, Decidable.not_not, Bool.not_eq_true, Bool.not_eq_false, ge_iff_le, gt_iff_lt, Bool.not_not, Bool.and_eq_true, Bool.or_eq_true, Bool.and_eq_false_iff, Bool.or_eq_false_iff, Int.not_lt, Int.not_le, Nat.not_lt, Nat.not_le, cond_true, cond_false, Bool.false_eq_true, false_iff] at *
          first
           | (simp only [not_and]; intros; omega)
           | (exact ⟨fun h => ⟨hT, by omega⟩, fun h => by omega⟩)
           | (exact ⟨fun h => ⟨hT, by omega⟩, fun h => trivial⟩)
         ·have g25 := h25
          try simp at g25
          refine step_g0 rfl h25 rfl ?_
          refine step_g0 rfl h25 rfl ?_
          refine step_g0 rfl h25 rfl ?_
          refine step_g0 rfl h25 rfl ?_
          refine step_pickF rfl h25 rfl rfl ?_
          refine step_r rfl rfl trivial ?_
          refine step_nil ?_
          refine seqK_n ?_
          refine sem_ret ?_
          refine answersR rfl ⟨trivial, trivial⟩ (congrArg B ?_) rfl
          rw [Bool.eq_iff_iff]
          simp only [decide_eq_true_eq]
          unfold fitsP
          simp only [decide_eq_true_eq, decide_eq_false_iff_not, Bool.not_eq_true', Bool.not_eq_false', beq_iff_eq, bne_iff_ne, beq_eq_false_iff_ne, bne_eq_false_iff_eq, ne_eq, Decidable.not_not, Bool.not_eq_true, Bool.not_eq_false, ge_iff_le, gt_iff_lt, Bool.not_not, Bool.and_eq_true, Bool.or_eq_true, Bool.and_eq_false_iff, Bool.or_eq_false_iff, Int.not_lt, Int.not_le, Nat.not_lt, Nat.not_le, cond_true, cond_false, Bool.false_eq_true, false_iff] at *
          first
           | (simp only [not_and]; intros; omega)
           | (exact ⟨fun h => ⟨hT, by omega⟩, fun h => by omega⟩)
           | (exact ⟨fun h => ⟨hT, by omega⟩, fun h => trivial⟩)
        ·have g23 := h23
         try simp at g23
         refine step_g0 rfl h23 rfl ?_
         refine step_g0 rfl h23 rfl ?_
         refine step_g0 rfl h23 rfl ?_
         refine step_g0 rfl h23 rfl ?_
         refine step_pickF rfl h23 rfl rfl ?_
         refine step_r rfl rfl trivial ?_
         refine step_gf rfl rfl ?_
         refine step_gf rfl rfl ?_
         refine step_gf rfl rfl ?_
         refine step_gf rfl rfl ?_
         refine step_r rfl rfl trivial ?_
         refine step_r rfl rfl trivial ?_
         refine step_nil ?_
         refine seqK_n ?_
         refine sem_ret ?_
         refine answersR rfl ⟨trivial, trivial⟩ (congrArg B ?_) rfl
         rw [Bool.eq_iff_iff]
         simp only [decide_eq_true_eq]
         unfold fitsP
         simp only [decide_eq_true_eq, decide_eq_false_iff_not, Bool.not_eq_true', Bool.not_eq_false', beq_iff_eq, bne_iff_ne, beq_eq_false_iff_ne, bne_eq_false_iff_eq, ne_eq, Decidable.not_not, Bool.not_eq_true, Bool.not_eq_false, ge_iff_le, gt_iff_lt, Bool.not_not, Bool.and_eq_true, Bool.or_eq_true, Bool.and_eq_false_iff, Bool.or_eq_false_iff, Int.not_lt, Int.not_le, Nat.not_lt, Nat.not_le, cond_true, cond_false, Bool.false_eq_true, false_iff] at *
         first
          | (simp only [not_and]; intros; omega)
          | (exact ⟨fun h => ⟨hT, by omega⟩, fun h => by omega⟩)
          | (exact ⟨fun h => ⟨hT, by omega⟩, fun h => trivial⟩)
       ·have g21 := h21
        try simp at g21
        refine step_g0 rfl h21 rfl ?_
        refine step_g0 rfl h21 rfl ?_
        refine step_g0 rfl h21 rfl ?_
        refine step_pickF rfl h21 rfl rfl ?_
        refine step_r rfl rfl trivial ?_
        refine step_gf rfl rfl ?_
        refine step_gf rfl rfl ?_
        refine step_gf rfl rfl ?_
        refine step_gf rfl rfl ?_
        refine step_r rfl rfl trivial ?_
        refine step_r rfl rfl trivial ?_
        refine step_gf rfl rfl ?_
        refine step_gf rfl rfl ?_
        refine step_gf rfl rfl ?_
        refine step_gf rfl rfl ?_
        refine step_r rfl rfl trivial ?_
        refine step_r rfl rfl trivial ?_
        refine step_nil ?_
        refine seqK_n ?_
        refine sem_ret ?_
        refine answersR rfl ⟨trivial, trivial⟩ (congrArg B ?_) rfl
        rw [Bool.eq_iff_iff]
        simp only [decide_eq_true_eq]
        unfold fitsP
        simp only [decide_eq_true_eq, decide_eq_false_iff_not, Bool.not_eq_true', Bool.not_eq_false', beq_iff_eq, bne_iff_ne, beq_eq_false_iff_ne, bne_eq_false_iff_eq, ne_eq, Decidable.not_not, Bool.not_eq_true, Bool.not_eq_false, ge_iff_le, gt_iff_lt, Bool.not_not, Bool.and_eq_true, Bool.or_eq_true, Bool.and_eq_false_iff, Bool.or_eq_false_iff, Int.not_lt, Int.not_le, Nat.not_lt, Nat.not_le, cond_true, cond_false, Bool.false_eq_true, false_iff] at *
        first
         | (simp only [not_and]; intros; omega)
         | (exact ⟨fun h => ⟨hT, by omega⟩, fun h => by omega⟩)
         | (exact ⟨fun h => ⟨hT, by omega⟩, fun h => trivial⟩)
      ·have g19 := h19
       try simp at g19
       refine step_g0 rfl h19 rfl ?_
       refine step_g0 rfl h19 rfl ?_
       refine step_g0 rfl h19 rfl ?_
       refine step_pickF rfl h19 rfl rfl ?_
       refine step_r rfl rfl trivial ?_
       refine step_gf rfl rfl ?_
       refine step_gf rfl rfl ?_
       refine step_gf rfl rfl ?_
       refine step_r rfl rfl trivial ?_
       refine step_r rfl rfl trivial ?_
       refine step_gf rfl rfl ?_
       refine step_gf rfl rfl ?_
       refine step_gf rfl rfl ?_
       refine step_gf rfl rfl ?_
       refine step_r rfl rfl trivial ?_
       refine step_r rfl rfl trivial ?_
       refine step_gf rfl rfl ?_
       refine step_gf rfl rfl ?_
       refine step_gf rfl rfl ?_
       refine step_gf rfl rfl ?_
       refine step_r rfl rfl trivial ?_
       refine step_r rfl rfl trivial ?_
       refine step_nil ?_
       refine seqK_n ?_
       refine sem_ret ?_
       refine answersR rfl ⟨trivial, trivial⟩ (congrArg B ?_) rfl
       rw [Bool.eq_iff_iff]
       simp only [decide_eq_true_eq]
       unfold fitsP
       simp only [decide_eq_true_eq, decide_eq_false_iff_not, Bool.not_eq_true', Bool.not_eq_false', beq_iff_eq, bne_iff_ne, beq_eq_false_iff_ne, bne_eq_false_iff_eq, ne_eq, Decidable.not_not, Bool.not_eq_true, Bool.not_eq_false, ge_iff_le, gt_iff_lt, Bool.not_not, Bool.and_eq_true, Bool.or_eq_true, Bool.and_eq_false_iff, Bool.or_eq_false_iff, Int.not_lt, Int.not_le, Nat.not_lt, Nat.not_le, cond_true, cond_false, Bool.false_eq_true, false_iff] at *
       first
        | (simp only [not_and]; intros; omega)
        | (exact ⟨fun h => ⟨hT, by omega⟩, fun h => by omega⟩)
        | (exact ⟨fun h => ⟨hT, by omega⟩, fun h => trivial⟩)
     ·have g17 := h17
      try simp at g17
      refine step_g0 rfl h17 rfl ?_
      refine step_g0 rfl h17 rfl ?_
      refine step_g0 rfl h17 rfl ?_
      refine step_pickF rfl h17 rfl rfl ?_
      refine step_r rfl rfl trivial ?_
      refine step_gf rfl rfl ?_
      refine step_gf rfl rfl ?_
      refine step_gf rfl rfl ?_
      refine step_r rfl rfl trivial ?_
      refine step_r rfl rfl trivial ?_
      refine step_gf rfl rfl ?_
      refine step_gf rfl rfl ?_
      refine step_gf rfl rfl ?_
      refine step_r rfl rfl trivial ?_
      refine step_r rfl rfl trivial ?_
      refine step_gf rfl rfl ?_
      refine step_gf rfl rfl ?_
      refine step_gf rfl rfl ?_
      refine step_gf rfl rfl ?_
      refine step_r rfl rfl trivial ?_
      refine step_r rfl rfl trivial ?_
      refine step_gf rfl rfl ?_
      refine step_gf rfl rfl ?_
      refine step_gf rfl rfl ?_
      refine step_gf rfl rfl ?_
      refine step_r rfl rfl trivial ?_
      refine step_r rfl rfl trivial ?_
      refine step_nil ?_
      refine seqK_n ?_
      refine sem_ret ?_
      refine answersR rfl ⟨trivial, trivial⟩ (congrArg B ?_) rfl
      rw [Bool.eq_iff_iff]
      simp only [decide_eq_true_eq]
      unfold fitsP
      simp only [decide_eq_true_eq, decide_eq_false_iff_not, Bool.not_eq_true', Bool.not_eq_false', beq_iff_eq, bne_iff_ne, beq_eq_false_iff_ne, bne_eq_false_iff_eq, ne_eq, Decidable.not_not, Bool.not_eq_true, Bool.not_eq_false, ge_iff_le, gt_iff_lt, Bool.not_not, Bool.and_eq_true, Bool.or_eq_true, Bool.and_eq_false_iff, Bool.or_eq_false_iff, Int.not_lt, Int.not_le, Nat.not_lt, Nat.not_le, cond_true, cond_false, Bool.false_eq_true, false_iff] at *
      first
       | (simp only [not_and]; intros; omega)
       | (exact ⟨fun h => ⟨hT, by omega⟩, fun h => by omega⟩)
       | (exact ⟨fun h => ⟨hT, by omega⟩, fun h => trivial⟩)
    ·have g15 := h15
     try simp at g15
     refine step_g0 rfl h15 rfl ?_
     refine step_g0 rfl h15 rfl ?_
     refine step_g0 rfl h15 rfl ?_
     refine step_pickF rfl h15 rfl rfl ?_
     refine step_r rfl rfl trivial ?_
     refine step_gf rfl rfl ?_
     refine step_gf rfl rfl ?_
     refine step_gf rfl rfl ?_
     refine step_r rfl rfl trivial ?_
     refine step_r rfl rfl trivial ?_
     refine step_gf rfl rfl ?_
     refine step_gf rfl rfl ?_
     refine step_gf rfl rfl ?_
     refine step_r rfl rfl trivial ?_
     refine step_r rfl rfl trivial ?_
     refine step_gf rfl rfl ?_
     refine step_gf rfl rfl ?_
     refine step_gf rfl rfl ?_
     refine step_r rfl rfl trivial ?_
     refine step_r rfl rfl trivial ?_
     refine step_gf rfl rfl ?_
     refine step_gf rfl rfl ?_
     refine step_gf rfl rfl ?_
     refine step_gf rfl rfl ?_
     refine step_r rfl rfl trivial ?_
     refine step_r rfl rfl trivial ?_
     refine step_gf rfl rfl ?_
     refine step_gf rfl rfl ?_
     refine step_gf rfl rfl ?_
     refine step_gf rfl rfl ?_
     refine step_r rfl rfl trivial ?_
     refine step_r rfl rfl trivial ?_
     refine step_nil ?_
     refine seqK_n ?_
     refine sem_ret ?_
     refine answersR rfl ⟨trivial, trivial⟩ (congrArg B ?_) rfl
     rw [Bool.eq_iff_iff]
     simp only [decide_eq_true_eq]
     unfold fitsP
     simp only [decide_eq_true_eq, decide_eq_false_iff_not, Bool.not_eq_true', Bool.not_eq_false', beq_iff_eq, bne_iff_ne, beq_eq_false_iff_ne, bne_eq_false_iff_eq, ne_eq, Decidable.not_not, Bool.not_eq_true, Bool.not_eq_false, ge_iff_le, gt_iff_lt, Bool.not_not, Bool.and_eq_true, Bool.or_eq_true, Bool.and_eq_false_iff, Bool.or_eq_false_iff, Int.not_lt, Int.not_le, Nat.not_lt, Nat.not_le, cond_true, cond_false, Bool.false_eq_true, false_iff] at *
     first
      | (simp only [not_and]; intros; omega)
      | (exact ⟨fun h => ⟨hT, by omega⟩, fun h => by omega⟩)
      | (exact ⟨fun h => ⟨hT, by omega⟩, fun h => trivial⟩)
   ·have g13 := h13
    try simp at g13
    refine step_g0 rfl h13 rfl ?_
    refine step_g0 rfl h13 rfl ?_
    refine step_pickF rfl h13 rfl rfl ?_
    refine step_r rfl rfl trivial ?_
    refine step_gf rfl rfl ?_
    refine step_gf rfl rfl ?_
    refine step_gf rfl rfl ?_
    refine step_r rfl rfl trivial ?_
    refine step_r rfl rfl trivial ?_
    refine step_gf rfl rfl ?_
    refine step_gf rfl rfl ?_
    refine step_gf rfl rfl ?_
    refine step_r rfl rfl trivial ?_
    refine step_r rfl rfl trivial ?_
    refine step_gf rfl rfl ?_
    refine step_gf rfl rfl ?_
    refine step_gf rfl rfl ?_
    refine step_r rfl rfl trivial ?_
    refine step_r rfl rfl trivial ?_
    refine step_gf rfl rfl ?_
    refine step_gf rfl rfl ?_
    refine step_gf rfl rfl ?_
    refine step_r rfl rfl trivial ?_
    refine step_r rfl rfl trivial ?_
    refine step_gf rfl rfl ?_
    refine step_gf rfl rfl ?_
    refine step_gf rfl rfl ?_
    refine step_gf rfl rfl ?_
    refine step_r rfl rfl trivial ?_
    refine step_r rfl rfl trivial ?_
    refine step_gf rfl rfl ?_
    refine step_gf rfl rfl ?_
    refine step_gf rfl rfl ?_
    refine step_gf rfl rfl ?_
    refine step_r rfl rfl trivial ?_
    refine step_r rfl rfl trivial ?_
    refine step_nil ?_
    refine seqK_n ?_
    refine sem_ret ?_
    refine answersR rfl ⟨trivial, trivial⟩ (congrArg B ?_) rfl
    rw [Bool.eq_iff_iff]
    simp only [decide_eq_true_eq]
    unfold fitsP
    simp only [decide_eq_true_eq, decide_eq_false_iff_not, Bool.not_eq_true', Bool.not_eq_false', beq_iff_eq, bne_iff_ne, beq_eq_false_iff_ne, bne_eq_false_iff_eq, ne_eq, Decidable.not_not, Bool.not_eq_true, Bool.not_eq_false, ge_iff_le, gt_iff_lt, Bool.not_not, Bool.and_eq_true, Bool.or_eq_true, Bool.and_eq_false_iff, Bool.or_eq_false_iff, Int.not_lt, Int.not_le, Nat.not_lt, Nat.not_le, cond_true, cond_false, Bool.false_eq_true, false_iff] at *
    first
     | (simp only [not_and]; intros; omega)
     | (exact ⟨fun h => ⟨hT, by omega⟩, fun h => by omega⟩)
     | (exact ⟨fun h => ⟨hT, by omega⟩, fun h => trivial⟩)
 ·have hk : ¬ k < f.Script.length := by simpa using h3
  have hT : ∀ l ∈ f.Script.take 100, -1099511627776 ≤ l.Value ∧ l.Value ≤ 1099511627776 := by
   intro l hl
   refine hI.2.2 l ?_
   have hk : k = f.Script.length ∨ k = 100 := by omega
   rcases hk with rfl | rfl
   · rw [List.take_length]; exact List.mem_of_mem_take hl
   · exact hl
  refine step_g0 rfl h3 rfl ?_
  refine step_g0 rfl h3 rfl ?_
  refine step_pickF rfl h3 rfl rfl ?_
  refine step_nil ?_
  refine seqK_n ?_
  refine sem_condF rfl ?_
  refine sem_exit ?_
  refine seqK_e ?_
  refine lupK_e ?_
  refine blkK_t rfl ?_
  refine seqK_n ?_
  refine sem_seq ?_
  refine sem_region rfl ?_
  refine step_r rfl rfl trivial ?_
  refine step_bin rfl rfl rfl rfl rfl trivial ?_
  refine step_r rfl rfl trivial ?_
  refine step_gs rfl (fun h29 => ?_) (fun h29 => ?_)
  ·have g29 := h29
   try simp at g29
   refine step_g1 rfl h29 ?_
   refine step_r rfl rfl trivial ?_
   refine step_g1 rfl h29 ?_
   refine step_bin rfl rfl rfl rfl rfl trivial ?_
   refine step_pickT rfl h29 rfl rfl ?_
   refine step_r rfl rfl trivial ?_
   refine step_gs rfl (fun h31 => ?_) (fun h31 => ?_)
   ·have g31 := h31
    try simp at g31
    refine step_g1 rfl h31 ?_
    refine step_r rfl rfl (by decide) ?_
    refine step_g1 rfl h31 ?_
    refine step_r rfl rfl trivial ?_
    refine step_g1 rfl h31 ?_
    refine step_bin rfl rfl rfl rfl rfl trivial ?_
    refine step_pickT rfl h31 rfl rfl ?_
    refine step_r rfl rfl trivial ?_
    refine step_gs rfl (fun h33 => ?_) (fun h33 => ?_)
    ·have g33 := h33
     try simp at g33
     refine step_g1 rfl h33 ?_
     refine step_r rfl rfl (by decide) ?_
     refine step_g1 rfl h33 ?_
     refine step_r rfl rfl trivial ?_
     refine step_g1 rfl h33 ?_
     refine step_bin rfl rfl rfl rfl rfl trivial ?_
     refine step_pickT rfl h33 rfl rfl ?_
     refine step_r rfl rfl trivial ?_
     refine step_gs rfl (fun h35 => ?_) (fun h35 => ?_)
     ·have g35 := h35
      try simp at g35
      refine step_g1 rfl h35 ?_
      refine step_r rfl rfl (by decide) ?_
      refine step_g1 rfl h35 ?_
      refine step_r rfl rfl trivial ?_
      refine step_g1 rfl h35 ?_
      refine step_bin rfl rfl rfl rfl rfl trivial ?_
      refine step_pickT rfl h35 rfl rfl ?_
      refine step_r rfl rfl trivial ?_
      refine step_gs rfl (fun h37 => ?_) (fun h37 => ?_)
      ·have g37 := h37
       try simp at g37
       refine step_g1 rfl h37 ?_
       refine step_r rfl rfl (by decide) ?_
       refine step_g1 rfl h37 ?_
       refine step_r rfl rfl trivial ?_
       refine step_g1 rfl h37 ?_
       refine step_bin rfl rfl rfl rfl rfl trivial ?_
       refine step_pickT rfl h37 rfl rfl ?_
       refine step_r rfl rfl trivial ?_
       refine step_gs rfl (fun h39 => ?_) (fun h39 => ?_)
       ·have g39 := h39
        try simp at g39
        refine step_g1 rfl h39 ?_
        refine step_r rfl rfl (by decide) ?_
        refine step_g1 rfl h39 ?_
        refine step_r rfl rfl trivial ?_
        refine step_g1 rfl h39 ?_
        refine step_r rfl rfl trivial ?_
        refine step_g1 rfl h39 ?_
        refine step_bin rfl rfl rfl rfl rfl trivial ?_
        refine step_pickT rfl h39 rfl rfl ?_
        refine step_r rfl rfl trivial ?_
        refine step_gs rfl (fun h41 => ?_) (fun h41 => ?_)
        ·have g41 := h41
         try simp at g41
         refine step_g1 rfl h41 ?_
         refine step_r rfl rfl (by decide) ?_
         refine step_g1 rfl h41 ?_
         refine step_r rfl rfl trivial ?_
         refine step_g1 rfl h41 ?_
         refine step_r rfl rfl trivial ?_
         refine step_g1 rfl h41 ?_
         refine step_bin rfl rfl rfl rfl rfl trivial ?_
         refine step_pickT rfl h41 rfl rfl ?_
         refine step_r rfl rfl trivial ?_
         refine step_nil ?_
         refine seqK_n ?_
         refine sem_ret ?_
         refine answersR rfl ⟨trivial, trivial⟩ (congrArg B ?_) rfl
         rw [Bool.eq_iff_iff]
         simp only [decide_eq_true_eq]
         unfold fitsP
         simp only [decide_eq_true_eq, decide_eq_false_iff_not, Bool.not_eq_true', Bool.not_eq_false', beq_iff_eq, bne_iff_ne, beq_eq_false_iff_ne, bne_eq_false_iff_eq, ne_eq, Decidable.not_not, Bool.not_eq_true, Bool.not_eq_false, ge_iff_le, gt_iff_lt, Bool.not_not, Bool.and_eq_true, Bool.or_eq_true, Bool.and_eq_false_iff, Bool.or_eq_false_iff, Int.not_lt, Int.not_le, Nat.not_lt, Nat.not_le, cond_true, cond_false, Bool.false_eq_true, false_iff] at *
         first
          | (simp only [not_and]; intros; omega)
          | (exact ⟨fun h => ⟨hT, by omega⟩, fun h => by omega⟩)
          | (exact ⟨fun h => ⟨hT, by omega⟩, fun h => trivial⟩)
        ·have g41 := h41
         try simp at g41
         refine step_g0 rfl h41 rfl ?_
         refine step_g0 rfl h41 rfl ?_
         refine step_g0 rfl h41 rfl ?_
         refine step_g0 rfl h41 rfl ?_
         refine step_pickF rfl h41 rfl rfl ?_
         refine step_r rfl rfl trivial ?_
         refine step_nil ?_
         refine seqK_n ?_
         refine sem_ret ?_
         refine answersR rfl ⟨trivial, trivial⟩ (congrArg B ?_) rfl
         rw [Bool.eq_iff_iff]
         simp only [decide_eq_true_eq]
         unfold fitsP
         simp only [decide_eq_true_eq, decide_eq_false_iff_not, Bool.not_eq_true', Bool.not_eq_false', beq_iff_eq, bne_iff_ne, beq_eq_false_iff_ne, bne_eq_false_iff_eq, ne_eq, Decidable.not_not, Bool.not_eq_true, Bool.not_eq_false, ge_iff_le, gt_iff_lt, Bool.not_not, Bool.and_eq_true, Bool.or_eq_true, Bool.and_eq_false_iff, Bool.or_eq_false_iff, Int.not_lt, Int.not_le, Nat.not_lt, Nat.not_le, cond_true, cond_false, Bool.false_eq_true, false_iff] at *
         first
          | (simp only [not_and]; intros; omega)
          | (exact ⟨fun h => ⟨hT, by omega⟩, fun h => by omega⟩)
          | (exact ⟨fun h => ⟨hT, by omega⟩, fun h => trivial⟩)
       ·have g39 := h39
        try simp at g39
        refine step_g0 rfl h39 rfl ?_
        refine step_g0 rfl h39 rfl ?_
        refine step_g0 rfl h39 rfl ?_
        refine step_g0 rfl h39 rfl ?_
        refine step_pickF rfl h39 rfl rfl ?_
        refine step_r rfl rfl trivial ?_
        refine step_gf rfl rfl ?_
        refine step_gf rfl rfl ?_
        refine step_gf rfl rfl ?_
        refine step_gf rfl rfl ?_
        refine step_r rfl rfl trivial ?_
        refine step_r rfl rfl trivial ?_
        refine step_nil ?_
        refine seqK_n ?_
        refine sem_ret ?_
        refine answersR rfl ⟨trivial, trivial⟩ (congrArg B ?_) rfl
        rw [Bool.eq_iff_iff]
        simp only [decide_eq_true_eq]
        unfold fitsP
        simp only [decide_eq_true_eq, decide_eq_false_iff_not, Bool.not_eq_true', Bool.not_eq_false', beq_iff_eq, bne_iff_ne, beq_eq_false_iff_ne, bne_eq_false_iff_eq, ne_eq, Decidable.not_not, Bool.not_eq_true, Bool.not_eq_false, ge_iff_le, gt_iff_lt, Bool.not_not, Bool.and_eq_true, Bool.or_eq_true, Bool.and_eq_false_iff, Bool.or_eq_false_iff, Int.not_lt, Int.not_le, Nat.not_lt, Nat.not_le, cond_true, cond_false, Bool.false_eq_true, false_iff] at *
        first
         | (simp only [not_and]; intros; omega)
         | (exact ⟨fun h => ⟨hT, by omega⟩, fun h => by omega⟩)
         | (exact ⟨fun h => ⟨hT, by omega⟩, fun h => trivial⟩)
      ·have g37 := h37
       try simp at g37
       refine step_g0 rfl h37 rfl ?_
       refine step_g0 rfl h37 rfl ?_
       refine step_g0 rfl h37 rfl ?_
       refine step_pickF rfl h37 rfl rfl ?_
       refine step_r rfl rfl trivial ?_
       refine step_gf rfl rfl ?_
       refine step_gf rfl rfl ?_
       refine step_gf rfl rfl ?_
       refine step_gf rfl rfl ?_
       refine step_r rfl rfl trivial ?_
       refine step_r rfl rfl trivial ?_
       refine step_gf rfl rfl ?_
       refine step_gf rfl rfl ?_
       refine step_gf rfl rfl ?_
       refine step_gf rfl rfl ?_
       refine step_r rfl rfl trivial ?_
       refine step_r rfl rfl trivial ?_
       refine step_nil ?_
       refine seqK_n ?_
       refine sem_ret ?_
       refine answersR rfl ⟨trivial, trivial⟩ (congrArg B ?_) rfl
       rw [Bool.eq_iff_iff]
       simp only [decide_eq_true_eq]
       unfold fitsP
       simp only [decide_eq_true_eq, decide_eq_false_iff_not, Bool.not_eq_true', Bool.not_eq_false', beq_iff_eq, bne_iff_ne, beq_eq_false_iff_ne, bne_eq_false_iff_eq, ne_eq, Decidable.not_not, Bool.not_eq_true, Bool.not_eq_false, ge_iff_le, gt_iff_lt, Bool.not_not, Bool.and_eq_true, Bool.or_eq_true, Bool.and_eq_false_iff, Bool.or_eq_false_iff, Int.not_lt, Int.not_le, Nat.not_lt, Nat.not_le, cond_true, cond_false, Bool.false_eq_true, false_iff] at *
       first
        | (simp only [not_and]; intros; omega)
        | (exact ⟨fun h => ⟨hT, by omega⟩, fun h => by omega⟩)
        | (exact ⟨fun h => ⟨hT, by omega⟩, fun h => trivial⟩)
     ·have g35 := h35
      try simp at g35
      refine step_g0 rfl h35 rfl ?_
      refine step_g0 rfl h35 rfl ?_
      refine step_g0 rfl h35 rfl ?_
      refine step_pickF rfl h35 rfl rfl ?_
      refine step_r rfl rfl trivial ?_
      refine step_gf rfl rfl ?_
      refine step_gf rfl rfl ?_
      refine step_gf rfl rfl ?_
      refine step_r rfl rfl trivial ?_
      refine step_r rfl rfl trivial ?_
      refine step_gf rfl rfl ?_
      refine step_gf rfl rfl ?_
      refine step_gf rfl rfl ?_
      refine step_gf rfl rfl ?_
      refine step_r rfl rfl trivial ?_
      refine step_r rfl rfl trivial ?_
      refine step_gf rfl rfl ?_
      refine step_gf rfl rfl ?_
      refine step_gf rfl rfl ?_
      refine step_gf rfl rfl ?_
      refine step_r rfl rfl trivial ?_
      refine step_r rfl rfl trivial ?_
      refine step_nil ?_
      refine seqK_n ?_
      refine sem_ret ?_
      refine answersR rfl ⟨trivial, trivial⟩ (congrArg B ?_) rfl
      rw [Bool.eq_iff_iff]
      simp only [decide_eq_true_eq]
      unfold fitsP
      simp only [decide_eq_true_eq, decide_eq_false_iff_not, Bool.not_eq_true', Bool.not_eq_false', beq_iff_eq, bne_iff_ne, beq_eq_false_iff_ne, bne_eq_false_iff_eq, ne_eq, Decidable.not_not, Bool.not_eq_true, Bool.not_eq_false, ge_iff_le, gt_iff_lt, Bool.not_not, Bool.and_eq_true, Bool.or_eq_true, Bool.and_eq_false_iff, Bool.or_eq_false_iff, Int.not_lt, Int.not_le, Nat.not_lt, Nat.not_le, cond_true, cond_false, Bool.false_eq_true, false_iff] at *
      first
       | (simp only [not_and]; intros; omega)
       | (exact ⟨fun h => ⟨hT, by omega⟩, fun h => by omega⟩)
       | (exact ⟨fun h => ⟨hT, by omega⟩, fun h => trivial⟩)
    ·have g33 := h33
     try simp at g33
     refine step_g0 rfl h33 rfl ?_
     refine step_g0 rfl h33 rfl ?_
     refine step_g0 rfl h33 rfl ?_
     refine step_pickF rfl h33 rfl rfl ?_
     refine step_r rfl rfl trivial ?_
     refine step_gf rfl rfl ?_
     refine step_gf rfl rfl ?_
     refine step_gf rfl rfl ?_
     refine step_r rfl rfl trivial ?_
     refine step_r rfl rfl trivial ?_
     refine step_gf rfl rfl ?_
     refine step_gf rfl rfl ?_
     refine step_gf rfl rfl ?_
     refine step_r rfl rfl trivial ?_
     refine step_r rfl rfl trivial ?_
     refine step_gf rfl rfl ?_
     refine step_gf rfl rfl ?_
     refine step_gf rfl rfl ?_
     refine step_gf rfl rfl ?_
     refine step_r rfl rfl trivial ?_
     refine step_r rfl rfl trivial ?_
     refine step_gf rfl rfl ?_
     refine step_gf rfl rfl ?_
     refine step_gf rfl rfl ?_
     refine step_gf rfl rfl ?_
     refine step_r rfl rfl trivial ?_
     refine step_r rfl rfl trivial ?_
     refine step_nil ?_
     refine seqK_n ?_
     refine sem_ret ?_
     refine answersR rfl ⟨trivial, trivial⟩ (congrArg B ?_) rfl
     rw [Bool.eq_iff_iff]
     simp only [decide_eq_true_eq]
     unfold fitsP
     simp only [decide_eq_true_eq, decide_eq_false_iff_not, Bool.not_eq_true', Bool.not_eq_false', beq_iff_eq, bne_iff_ne, beq_eq_false_iff_ne, bne_eq_false_iff_eq, ne_eq, Decidable.not_not, Bool.not_eq_true, Bool.not_eq_false, ge_iff_le, gt_iff_lt, Bool.not_not, Bool.and_eq_true, Bool.or_eq_true, Bool.and_eq_false_iff, Bool.or_eq_false_iff, Int.not_lt, Int.not_le, Nat.not_lt, Nat.not_le, cond_true, cond_false, Bool.false_eq_true, false_iff] at *
     first
      | (simp only [not_and]; intros; omega)
      | (exact ⟨fun h => ⟨hT, by omega⟩, fun h => by omega⟩)
      | (exact ⟨fun h => ⟨hT, by omega⟩, fun h => trivial⟩)
   ·have g31 := h31
    try simp at g31
    refine step_g0 rfl h31 rfl ?_
    refine step_g0 rfl h31 rfl ?_
    refine step_g0 rfl h31 rfl ?_
    refine step_pickF rfl h31 rfl rfl ?_
    refine step_r rfl rfl trivial ?_
    refine step_gf rfl rfl ?_
    refine step_gf rfl rfl ?_
    refine step_gf rfl rfl ?_
    refine step_r rfl rfl trivial ?_
    refine step_r rfl rfl trivial ?_
    refine step_gf rfl rfl ?_
    refine step_gf rfl rfl ?_
    refine step_gf rfl rfl ?_
    refine step_r rfl rfl trivial ?_
    refine step_r rfl rfl trivial ?_
    refine step_gf rfl rfl ?_
    refine step_gf rfl rfl ?_
    refine step_gf rfl rfl ?_
    refine step_r rfl rfl trivial ?_
    refine step_r rfl rfl trivial ?_
    refine step_gf rfl rfl ?_
    refine step_gf rfl rfl ?_
    refine step_gf rfl rfl ?_
    refine step_gf rfl rfl ?_
    refine step_r rfl rfl trivial ?_
    refine step_r rfl rfl trivial ?_
    refine step_gf rfl rfl ?_
    refine step_gf rfl rfl ?_
    refine step_gf rfl rfl ?_
    refine step_gf rfl rfl ?_
    refine step_r rfl rfl trivial ?_
    refine step_r rfl rfl trivial ?_
    refine step_nil ?_
    refine seqK_n ?_
    refine sem_ret ?_
    refine answersR rfl ⟨trivial, trivial⟩ (congrArg B ?_) rfl
    rw [Bool.eq_iff_iff]
    simp only [decide_eq_true_eq]
    unfold fitsP
    simp only [decide_eq_true_eq, decide_eq_false_iff_not, Bool.not_eq_true', Bool.not_eq_false', beq_iff_eq, bne_iff_ne, beq_eq_false_iff_ne, bne_eq_false_iff_eq, ne_eq, Decidable.not_not, Bool.not_eq_true, Bool.not_eq_false, ge_iff_le, gt_iff_lt, Bool.not_not, Bool.and_eq_true, Bool.or_eq_true, Bool.and_eq_false_iff, Bool.or_eq_false_iff, Int.not_lt, Int.not_le, Nat.not_lt, Nat.not_le, cond_true, cond_false, Bool.false_eq_true, false_iff] at *
    first
     | (simp only [not_and]; intros; omega)
     | (exact ⟨fun h => ⟨hT, by omega⟩, fun h => by omega⟩)
     | (exact ⟨fun h => ⟨hT, by omega⟩, fun h => trivial⟩)
  ·have g29 := h29
   try simp at g29
   refine step_g0 rfl h29 rfl ?_
   refine step_g0 rfl h29 rfl ?_
   refine step_pickF rfl h29 rfl rfl ?_
   refine step_r rfl rfl trivial ?_
   refine step_gf rfl rfl ?_
   refine step_gf rfl rfl ?_
   refine step_gf rfl rfl ?_
   refine step_r rfl rfl trivial ?_
   refine step_r rfl rfl trivial ?_
   refine step_gf rfl rfl ?_
   refine step_gf rfl rfl ?_
   refine step_gf rfl rfl ?_
   refine step_r rfl rfl trivial ?_
   refine step_r rfl rfl trivial ?_
   refine step_gf rfl rfl ?_
   refine step_gf rfl rfl ?_
   refine step_gf rfl rfl ?_
   refine step_r rfl rfl trivial ?_
   refine step_r rfl rfl trivial ?_
   refine step_gf rfl rfl ?_
   refine step_gf rfl rfl ?_
   refine step_gf rfl rfl ?_
   refine step_r rfl rfl trivial ?_
   refine step_r rfl rfl trivial ?_
   refine step_gf rfl rfl ?_
   refine step_gf rfl rfl ?_
   refine step_gf rfl rfl ?_
   refine step_gf rfl rfl ?_
   refine step_r rfl rfl trivial ?_
   refine step_r rfl rfl trivial ?_
   refine step_gf rfl rfl ?_
   refine step_gf rfl rfl ?_
   refine step_gf rfl rfl ?_
   refine step_gf rfl rfl ?_
   refine step_r rfl rfl trivial ?_
   refine step_r rfl rfl trivial ?_
   refine step_nil ?_
   refine seqK_n ?_
   refine sem_ret ?_
   refine answersR rfl ⟨trivial, trivial⟩ (congrArg B ?_) rfl
   rw [Bool.eq_iff_iff]
   simp only [decide_eq_true_eq]
   unfold fitsP
   simp only [decide_eq_true_eq, decide_eq_false_iff_not, Bool.not_eq_true', Bool.not_eq_false', beq_iff_eq, bne_iff_ne, beq_eq_false_iff_ne, bne_eq_false_iff_eq, ne_eq, Decidable.not_not, Bool.not_eq_true, Bool.not_eq_false, ge_iff_le, gt_iff_lt, Bool.not_not, Bool.and_eq_true, Bool.or_eq_true, Bool.and_eq_false_iff, Bool.or_eq_false_iff, Int.not_lt, Int.not_le, Nat.not_lt, Nat.not_le, cond_true, cond_false, Bool.false_eq_true, false_iff] at *
   first
    | (simp only [not_and]; intros; omega)
    | (exact ⟨fun h => ⟨hT, by omega⟩, fun h => by omega⟩)
    | (exact ⟨fun h => ⟨hT, by omega⟩, fun h => trivial⟩)
end Go.Proofs.Ytkncpoaddamlbaa

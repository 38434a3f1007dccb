import Derived.Test.YtppnccjeggnllaaGreatFew
namespace Go.Proofs.YtppnccjeggnllaaGreat
open Go Go.RowKit Go.Proofs.YtppnccjeggnllaaGreatVm
attribute [local irreducible] opsWp AnswersE OpsS
set_option maxHeartbeats 400000
set_option maxRecDepth 100000
set_option linter.all false
def flagW (is : Bool) : Int :=
  if is = true then 1 else 0
theorem flagW_ok (is : Bool) : Ok Tryz.prog 63 [B is] [] (I (flagW is)) [] [] := by
 refine ok_of_sem Tryz.func63 rfl ?_
 show Walks Tryz.prog _ _ ⟨[(0, B is)], [], 0, [], 4, 0⟩
 refine sem_seq (sem_region rfl (step_r rfl rfl trivial (step_nil (seqK_n (sem_seq (sem_seq (sem_region rfl (step_r rfl rfl trivial (step_nil (seqK_n ?_))))))))))
 refine sem_cond rfl (fun h2 => ?_) (fun h2 => ?_)
 ·have g2 : is = true := h2
  refine sem_seq (sem_region rfl (step_r rfl rfl trivial (step_nil (seqK_n (sem_ret (seqK_r ?_))))))
  have e3 : flagW is = 1 := by
   unfold flagW
   try dsimp only
   rewrite [if_pos g2]
   all_goals rfl
  rw [e3]
  exact answersR rfl ⟨trivial, trivial⟩ (rfl) rfl
 ·have g2 : ¬ (is = true) := boo_f h2
  refine sem_skip (seqK_n (sem_seq (sem_region rfl (step_r rfl rfl trivial (step_nil (seqK_n (sem_ret ?_)))))))
  have e4 : flagW is = 0 := by
   unfold flagW
   try dsimp only
   rewrite [if_neg g2]
   all_goals rfl
  rw [e4]
  exact answersR rfl ⟨trivial, trivial⟩ (rfl) rfl

def effW (out : List Int) (e : GEffect) : List Int :=
  (out ++ [e.Kind, e.Amount, e.Aura])
theorem effW_ok (out : List Int) (e : GEffect) (hb : out.length ≤ 16000000) : Ok Tryz.prog 65 [.ref 0 1 0 out.length, aGEffect e] [.row 3 1 (encI out)] (.ref 0 1 0 (effW out e).length) [.row 3 1 (encI (effW out e))] [0] := by
 refine ok_of_sem Tryz.func65 rfl ?_
 show Walks Tryz.prog _ _ ⟨[(0, .ref 0 1 0 out.length), (1, aGEffect e)], [(0, .row 3 1 (encI out))], 1, [], 14, 1⟩
 refine sem_seq (sem_region rfl (step_n (o := .box [_, _, _]) (nx' := 2) rfl rfl rfl trivial (step_n (nx' := 3) rfl rfl rfl trivial (step_nil (seqK_n (sem_seq (sem_region rfl (step_r rfl rfl trivial (step_r rfl rfl (by decide) (step_r rfl rfl trivial (step_r rfl rfl (by decide) ?_)))))))))))
 refine step_r rfl rfl trivial (step_r rfl rfl (by decide) (step_r rfl rfl trivial (step_n (o := .row _ _ [_, _, _]) (nx' := 4) rfl rfl rfl (by decide) ?_)))
 refine step_appendC (m := 3) (new := [_, _, _]) (cs' := encI (out ++ [e.Kind, e.Amount, e.Aura])) (n' := (out ++ [e.Kind, e.Amount, e.Aura]).length) (H' := [(3, .row _ _ _), (2, .row _ _ _), (1, .box [_, _, _]), (0, .row _ _ _)]) rfl rfl rfl (rfl) rfl rfl rfl rfl rfl rfl (encI_len out) (rfl) (by first | decide | (unfold maxGrow; omega) | (unfold maxGrow; simp; omega) | (unfold maxGrow; simp only [List.length_append, List.length_take, List.length_drop, List.length_cons, List.length_nil, IntKind.wrap_i64] at *; omega)) (len_append out ([e.Kind, e.Amount, e.Aura])) (encI_append out ([e.Kind, e.Amount, e.Aura])) (.inl rfl) rfl rfl (.keep rfl (.keep rfl (.keep rfl (.keep rfl .nil)))) (.keep rfl (.keep rfl (.keep rfl (.keep rfl (.keep rfl (.keep rfl (.keep rfl (.lose (v' := .undef) rfl (.keep rfl (.keep rfl (.lose (v' := .undef) rfl (.keep rfl .nil)))))))))))) ?_
 refine step_r rfl rfl trivial (step_nil (seqK_n (sem_ret ?_)))
 have e1 : effW out e = (out ++ [e.Kind, e.Amount, e.Aura]) := by
  unfold effW
  try dsimp only
  all_goals rfl
 rw [e1]
 exact answersGR [] [] rfl ⟨trivial, trivial⟩ rfl (by (repeat' apply And.intro) <;> first | trivial | rfl | exact flat_len (fun _ => rfl) _ | exact encI_len _ | assumption) (rfl) rfl rfl rfl (by decide) rfl rfl ⟨⟨rfl, rfl⟩, trivial⟩

theorem effW_len (out : List Int) (e : GEffect) : (effW out e).length = out.length + 3 := by unfold effW; rw [List.length_append]; rfl

def lineW (out : List Int) (l : GLine) : List Int :=
  (out ++ [l.Phase, l.When, l.Arg, l.Do, l.Value])
theorem lineW_ok (out : List Int) (l : GLine) (hb : out.length ≤ 16000000) : Ok Tryz.prog 68 [.ref 0 1 0 out.length, aGLine l] [.row 3 1 (encI out)] (.ref 0 1 0 (lineW out l).length) [.row 3 1 (encI (lineW out l))] [0] := by
 refine ok_of_sem Tryz.func68 rfl ?_
 show Walks Tryz.prog _ _ ⟨[(0, .ref 0 1 0 out.length), (1, aGLine l)], [(0, .row 3 1 (encI out))], 1, [], 18, 1⟩
 refine sem_seq (sem_region rfl (step_n (o := .box [_, _, _, _, _]) (nx' := 2) rfl rfl rfl trivial (step_n (nx' := 3) rfl rfl rfl trivial (step_nil (seqK_n (sem_seq (sem_region rfl (step_r rfl rfl trivial (step_r rfl rfl (by decide) (step_r rfl rfl trivial (step_r rfl rfl (by decide) ?_)))))))))))
 refine step_r rfl rfl trivial (step_r rfl rfl (by decide) (step_r rfl rfl trivial (step_r rfl rfl (by decide) (step_r rfl rfl trivial (step_r rfl rfl (by decide) (step_r rfl rfl trivial (step_n (o := .row _ _ [_, _, _, _, _]) (nx' := 4) rfl rfl rfl (by decide) ?_)))))))
 refine step_appendC (m := 5) (new := [_, _, _, _, _]) (cs' := encI (out ++ [l.Phase, l.When, l.Arg, l.Do, l.Value])) (n' := (out ++ [l.Phase, l.When, l.Arg, l.Do, l.Value]).length) (H' := [(3, .row _ _ _), (2, .row _ _ _), (1, .box [_, _, _, _, _]), (0, .row _ _ _)]) rfl rfl rfl (rfl) rfl rfl rfl rfl rfl rfl (encI_len out) (rfl) (by first | decide | (unfold maxGrow; omega) | (unfold maxGrow; simp; omega) | (unfold maxGrow; simp only [List.length_append, List.length_take, List.length_drop, List.length_cons, List.length_nil, IntKind.wrap_i64] at *; omega)) (len_append out ([l.Phase, l.When, l.Arg, l.Do, l.Value])) (encI_append out ([l.Phase, l.When, l.Arg, l.Do, l.Value])) (.inl rfl) rfl rfl (.keep rfl (.keep rfl (.keep rfl (.keep rfl .nil)))) (.keep rfl (.keep rfl (.keep rfl (.keep rfl (.keep rfl (.keep rfl (.keep rfl (.keep rfl (.keep rfl (.keep rfl (.keep rfl (.lose (v' := .undef) rfl (.keep rfl (.keep rfl (.lose (v' := .undef) rfl (.keep rfl .nil)))))))))))))))) ?_
 refine step_r rfl rfl trivial (step_nil (seqK_n (sem_ret ?_)))
 have e1 : lineW out l = (out ++ [l.Phase, l.When, l.Arg, l.Do, l.Value]) := by
  unfold lineW
  try dsimp only
  all_goals rfl
 rw [e1]
 exact answersGR [] [] rfl ⟨trivial, trivial⟩ rfl (by (repeat' apply And.intro) <;> first | trivial | rfl | exact flat_len (fun _ => rfl) _ | exact encI_len _ | assumption) (rfl) rfl rfl rfl (by decide) rfl rfl ⟨⟨rfl, rfl⟩, trivial⟩

theorem lineW_len (out : List Int) (l : GLine) : (lineW out l).length = out.length + 5 := by unfold lineW; rw [List.length_append]; rfl

def prizeW (out : List Int) (p : GPrize) : List Int :=
  (out ++ [p.Item, p.Weight])
theorem prizeW_ok (out : List Int) (p : GPrize) (hb : out.length ≤ 16000000) : Ok Tryz.prog 69 [.ref 0 1 0 out.length, aGPrize p] [.row 3 1 (encI out)] (.ref 0 1 0 (prizeW out p).length) [.row 3 1 (encI (prizeW out p))] [0] := by
 refine ok_of_sem Tryz.func69 rfl ?_
 show Walks Tryz.prog _ _ ⟨[(0, .ref 0 1 0 out.length), (1, aGPrize p)], [(0, .row 3 1 (encI out))], 1, [], 12, 1⟩
 refine sem_seq (sem_region rfl (step_n (o := .box [_, _]) (nx' := 2) rfl rfl rfl trivial (step_n (nx' := 3) rfl rfl rfl trivial (step_nil (seqK_n (sem_seq (sem_region rfl (step_r rfl rfl trivial (step_r rfl rfl (by decide) (step_r rfl rfl trivial (step_r rfl rfl (by decide) ?_)))))))))))
 refine step_r rfl rfl trivial (step_n (o := .row _ _ [_, _]) (nx' := 4) rfl rfl rfl (by decide) ?_)
 refine step_appendC (m := 2) (new := [_, _]) (cs' := encI (out ++ [p.Item, p.Weight])) (n' := (out ++ [p.Item, p.Weight]).length) (H' := [(3, .row _ _ _), (2, .row _ _ _), (1, .box [_, _]), (0, .row _ _ _)]) rfl rfl rfl (rfl) rfl rfl rfl rfl rfl rfl (encI_len out) (rfl) (by first | decide | (unfold maxGrow; omega) | (unfold maxGrow; simp; omega) | (unfold maxGrow; simp only [List.length_append, List.length_take, List.length_drop, List.length_cons, List.length_nil, IntKind.wrap_i64] at *; omega)) (len_append out ([p.Item, p.Weight])) (encI_append out ([p.Item, p.Weight])) (.inl rfl) rfl rfl (.keep rfl (.keep rfl (.keep rfl (.keep rfl .nil)))) (.keep rfl (.keep rfl (.keep rfl (.keep rfl (.keep rfl (.lose (v' := .undef) rfl (.keep rfl (.keep rfl (.lose (v' := .undef) rfl (.keep rfl .nil)))))))))) ?_
 refine step_r rfl rfl trivial (step_nil (seqK_n (sem_ret ?_)))
 have e1 : prizeW out p = (out ++ [p.Item, p.Weight]) := by
  unfold prizeW
  try dsimp only
  all_goals rfl
 rw [e1]
 exact answersGR [] [] rfl ⟨trivial, trivial⟩ rfl (by (repeat' apply And.intro) <;> first | trivial | rfl | exact flat_len (fun _ => rfl) _ | exact encI_len _ | assumption) (rfl) rfl rfl rfl (by decide) rfl rfl ⟨⟨rfl, rfl⟩, trivial⟩

theorem prizeW_len (out : List Int) (p : GPrize) : (prizeW out p).length = out.length + 2 := by unfold prizeW; rw [List.length_append]; rfl

def wallW (out : List Int) (is : Bool) : List Int :=
  (out ++ [(flagW is)])
theorem wallW_ok (out : List Int) (is : Bool) (hb : out.length ≤ 16000000) : Ok Tryz.prog 31 [.ref 0 1 0 out.length, B is] [.row 3 1 (encI out)] (.ref 0 1 0 (wallW out is).length) [.row 3 1 (encI (wallW out is))] [0] := by
 refine ok_of_sem Tryz.func31 rfl ?_
 show Walks Tryz.prog _ _ ⟨[(0, .ref 0 1 0 out.length), (1, B is)], [(0, .row 3 1 (encI out))], 1, [], 10, 1⟩
 refine sem_seq (sem_region rfl (step_n (nx' := 2) rfl rfl rfl trivial (step_nil (seqK_n (sem_seq (sem_region rfl (step_r rfl rfl trivial (step_r rfl rfl trivial (step_call rfl rfl rfl rfl (flagW_ok is) rfl rfl rfl (step_n (o := .row _ _ [_]) (nx' := 3) rfl rfl rfl (by decide) ?_))))))))))
 refine step_appendC (m := 1) (new := [_]) (cs' := encI (out ++ [(flagW is)])) (n' := (out ++ [(flagW is)]).length) (H' := [(2, .row _ _ _), (1, .row _ _ _), (0, .row _ _ _)]) rfl rfl rfl (rfl) rfl rfl rfl rfl rfl rfl (encI_len out) (rfl) (by first | decide | (unfold maxGrow; omega) | (unfold maxGrow; simp; omega) | (unfold maxGrow; simp only [List.length_append, List.length_take, List.length_drop, List.length_cons, List.length_nil, IntKind.wrap_i64] at *; omega)) (len_snoc out _) (((encI_snoc out (flagW is))).symm) (.inl rfl) rfl rfl (.keep rfl (.keep rfl (.keep rfl .nil))) (.keep rfl (.keep rfl (.keep rfl (.lose (v' := .undef) rfl (.keep rfl (.lose (v' := .undef) rfl (.keep rfl .nil))))))) ?_
 refine step_r rfl rfl trivial (step_nil (seqK_n (sem_ret ?_)))
 have e2 : wallW out is = (out ++ [(flagW is)]) := by
  unfold wallW
  try dsimp only
  all_goals rfl
 rw [e2]
 exact answersGR [] [] rfl ⟨trivial, trivial⟩ rfl (by (repeat' apply And.intro) <;> first | trivial | rfl | exact flat_len (fun _ => rfl) _ | exact encI_len _ | assumption) (rfl) rfl rfl rfl (by decide) rfl rfl ⟨⟨rfl, rfl⟩, trivial⟩

theorem wallW_len (out : List Int) (is : Bool) : (wallW out is).length = out.length + 1 := by unfold wallW; rw [List.length_append]; rfl

def auraW (out : List Int) (a : GAura) : List Int :=
  (out ++ [a.Id, a.Kind, a.Ticks, a.Every, a.Stacks, a.Amount, (flagW a.Harm)])
theorem auraW_ok (out : List Int) (a : GAura) (hb : out.length ≤ 16000000) : Ok Tryz.prog 28 [.ref 0 1 0 out.length, aGAura a] [.row 3 1 (encI out)] (.ref 0 1 0 (auraW out a).length) [.row 3 1 (encI (auraW out a))] [0] := by
 refine ok_of_sem Tryz.func28 rfl ?_
 show Walks Tryz.prog _ _ ⟨[(0, .ref 0 1 0 out.length), (1, aGAura a)], [(0, .row 3 1 (encI out))], 1, [], 23, 1⟩
 refine sem_seq (sem_region rfl (step_n (o := .box [_, _, _, _, _, _, _]) (nx' := 2) rfl rfl rfl trivial (step_n (nx' := 3) rfl rfl rfl trivial (step_nil (seqK_n (sem_seq ?_))))))
 refine sem_drawn rfl (by decide +kernel) rfl ?_
 refine step_r rfl rfl trivial (step_r rfl rfl (by decide) (step_r rfl rfl trivial (step_r rfl rfl (by decide) (step_r rfl rfl trivial (step_r rfl rfl (by decide) (step_r rfl rfl trivial (step_r rfl rfl (by decide) (step_r rfl rfl trivial (step_r rfl rfl (by decide) (step_r rfl rfl trivial (step_r rfl rfl (by decide) ?_)))))))))))
 refine step_r rfl rfl trivial (step_r rfl rfl (by decide) (step_r rfl rfl trivial (step_call rfl rfl rfl rfl (flagW_ok a.Harm) rfl rfl rfl (step_n (o := .row _ _ [_, _, _, _, _, _, _]) (nx' := 4) rfl rfl rfl (by decide) ?_))))
 refine step_appendC (m := 7) (new := [_, _, _, _, _, _, _]) (cs' := encI (out ++ [a.Id, a.Kind, a.Ticks, a.Every, a.Stacks, a.Amount, (flagW a.Harm)])) (n' := (out ++ [a.Id, a.Kind, a.Ticks, a.Every, a.Stacks, a.Amount, (flagW a.Harm)]).length) (H' := [(3, .row _ _ _), (2, .row _ _ _), (1, .box [_, _, _, _, _, _, _]), (0, .row _ _ _)]) rfl rfl rfl (rfl) rfl rfl rfl rfl rfl rfl (encI_len out) (rfl) (by first | decide | (unfold maxGrow; omega) | (unfold maxGrow; simp; omega) | (unfold maxGrow; simp only [List.length_append, List.length_take, List.length_drop, List.length_cons, List.length_nil, IntKind.wrap_i64] at *; omega)) (len_append out ([a.Id, a.Kind, a.Ticks, a.Every, a.Stacks, a.Amount, (flagW a.Harm)])) (encI_append out ([a.Id, a.Kind, a.Ticks, a.Every, a.Stacks, a.Amount, (flagW a.Harm)])) (.inr (by decide +kernel)) rfl rfl (.keep rfl (.keep rfl (.keep rfl (.keep rfl .nil)))) (.keep rfl (.keep rfl (.keep rfl (.keep rfl (.keep rfl (.keep rfl (.keep rfl (.keep rfl (.keep rfl (.keep rfl (.keep rfl (.keep rfl (.keep rfl (.keep rfl (.keep rfl (.keep rfl (.lose (v' := .undef) rfl (.keep rfl (.keep rfl (.lose (v' := .undef) rfl (.keep rfl .nil))))))))))))))))))))) ?_
 refine step_r rfl rfl trivial (step_nil (seqK_n (sem_ret ?_)))
 have e1 : auraW out a = (out ++ [a.Id, a.Kind, a.Ticks, a.Every, a.Stacks, a.Amount, (flagW a.Harm)]) := by
  unfold auraW
  try dsimp only
  all_goals rfl
 rw [e1]
 exact answersGR [] [] rfl ⟨trivial, trivial⟩ rfl (by (repeat' apply And.intro) <;> first | trivial | rfl | exact flat_len (fun _ => rfl) _ | exact encI_len _ | assumption) (rfl) rfl rfl rfl (by decide) rfl rfl ⟨⟨rfl, rfl⟩, trivial⟩

theorem auraW_len (out : List Int) (a : GAura) : (auraW out a).length = out.length + 7 := by unfold auraW; rw [List.length_append]; rfl

def rowsE_L0 : List GEffect → Nat → (List Int) → List Int
  | [], k0, out0 => out0
  | x0 :: l_, k0, out0 => rowsE_L0 l_ (k0 + 1) (effW out0 x0)
def rowsE (out : List Int) (l : List GEffect) : List Int :=
  (let out_0 := rowsE_L0 l 0 (out ++ [(l.length : Int)]); out_0)
theorem rowsE_ok (out : List Int) (l : List GEffect) (l_f : Bool) (hb : out.length + 3 * l.length ≤ 15999000) : Ok Tryz.prog 64 [.ref 0 1 0 out.length, .pv (.slc l.length l_f (l.flatMap encGEffect)), .fnc 65 []] [.row 3 1 (encI out)] (.ref 0 1 0 (rowsE out l).length) [.row 3 1 (encI (rowsE out l))] [0] := by
 refine Ok.len fun hlen => ?_
 have hl_l : l.length ≤ maxLen := hlen _ (by simp [lensL, lens, lensP])
 unfold maxLen at hl_l
 refine ok_of_sem Tryz.func64 rfl ?_
 show Walks Tryz.prog _ _ ⟨[(0, .ref 0 1 0 out.length), (1, .pv (.slc l.length l_f (l.flatMap encGEffect))), (2, .fnc 65 [])], [(0, .row 3 1 (encI out))], 1, [], 26, 1⟩
 refine sem_trans (Trans.loose (T' := [(0, .ref 0 1 0 out.length), (1, .pv (.slc l.length l_f (l.flatMap encGEffect))), (2, .pv (.fn 65))]) (H' := [(0, .row 3 1 (encI out))]) ⟨⟨_, rfl, .inl rfl⟩, ⟨_, rfl, .inl rfl⟩, ⟨_, rfl, .inr rfl⟩, trivial⟩ ⟨⟨_, rfl, .inl rfl⟩, trivial⟩) ?_
 refine sem_seq (sem_region rfl (step_n (nx' := 2) rfl rfl rfl trivial (step_nil (seqK_n (sem_seq (sem_region rfl (step_r rfl rfl trivial (step_r rfl rfl trivial (step_r rfl rfl trivial (step_n (o := .row _ _ [_]) (nx' := 3) rfl rfl rfl (by decide) ?_))))))))))
 refine step_appendC (m := 1) (new := [_]) (cs' := encI (out ++ [(l.length : Int)])) (n' := (out ++ [(l.length : Int)]).length) (H' := [(2, .row _ _ _), (1, .row _ _ _), (0, .row _ _ _)]) rfl rfl rfl (rfl) rfl rfl rfl rfl rfl rfl (encI_len out) (rfl) (by first | decide | (unfold maxGrow; omega) | (unfold maxGrow; simp; omega) | (unfold maxGrow; simp only [List.length_append, List.length_take, List.length_drop, List.length_cons, List.length_nil, IntKind.wrap_i64] at *; omega)) (len_snoc out _) (((encI_snoc out (l.length : Int))).symm) (.inl rfl) rfl rfl (.keep rfl (.keep rfl (.keep rfl .nil))) (.keep rfl (.keep rfl (.keep rfl (.lose (v' := .undef) rfl (.keep rfl (.lose (v' := .undef) rfl (.keep rfl (.keep rfl .nil)))))))) ?_
 refine step_r rfl rfl trivial (step_nil (seqK_n (sem_seq (sem_seq (sem_region rfl (step_r rfl rfl trivial (step_r rfl rfl trivial (step_r rfl rfl trivial (step_nil (seqK_n ?_))))))))))
 refine sem_cutW (fun out_0 : List Int => (⟨[(0, .ref 0 1 0 out_0.length)], [(0, .row 3 1 (encI out_0))], 1, [0], 26, 1⟩ : St)) (fun out_0 : List Int => rowsE_L0 l 0 (out ++ [(l.length : Int)]) = out_0 ∧ (out_0.length = out.length + 1 + 3 * l.length)) ?_ ?_
 ·refine sem_block ?_
  refine sem_loopT (fun w_ : Nat × (List Int) => match w_ with | (k0, out0) => (⟨[(0, .ref 0 1 0 out0.length), (2, .pv (.fn 65)), (14, .pv (.slc l.length l_f (l.flatMap encGEffect))), (15, I l.length), (16, I k0)], [(0, .row 3 1 (encI out0))], 1, [0], 26, 1⟩ : St)) (fun w_ : Nat × (List Int) => match w_ with | (k0, out0) => rowsE_L0 (l.drop k0) k0 out0 = rowsE_L0 l 0 (out ++ [(l.length : Int)]) ∧ k0 ≤ l.length ∧ out0.length = out.length + 1 + 3 * k0) (fun w_ : Nat × (List Int) => match w_ with | (k0, out0) => l.length - k0) (0, (out ++ [(l.length : Int)])) (⟨rfl, Nat.zero_le _, by first | omega | simp | (simp; omega)⟩) ?_ (fun w_ hh_ => ?_)
  ·exact (Trans.ren [] (by decide +kernel) (by decide +kernel) rfl ⟨⟨rfl, rfl⟩, ⟨rfl, rfl⟩, ⟨rfl, rfl⟩, ⟨rfl, rfl⟩, ⟨rfl, rfl⟩, trivial⟩ ⟨⟨rfl, rfl, rfl⟩, trivial⟩ (by decide))
  obtain ⟨k0, out0⟩ := w_
  obtain ⟨hI0, hb0, hv0⟩ := hh_
  show Walks Tryz.prog _ _ (⟨[(0, .ref 0 1 0 out0.length), (2, .pv (.fn 65)), (14, .pv (.slc l.length l_f (l.flatMap encGEffect))), (15, I l.length), (16, I k0)], [(0, .row 3 1 (encI out0))], 1, [0], 26, 1⟩ : St)
  refine sem_seq (sem_region rfl (step_bin rfl rfl rfl rfl rfl trivial (step_nil (seqK_n (sem_seq ?_)))))
  refine sem_cond rfl (fun h2 => ?_) (fun h2 => ?_)
  ·have g2 : (k0 : Int) < l.length := of_decide_eq_true h2
   have hk0 : k0 < l.length := by omega
   obtain ⟨x0, hx0⟩ : ∃ z_, l[k0]? = some z_ := ⟨_, List.getElem?_eq_getElem hk0⟩
   refine sem_skip (seqK_n (sem_seq (sem_block (sem_seq (sem_region rfl (step_idxS (k := k0) rfl rfl rfl rfl hk0 (flat_ne (s := 3) (enc := encGEffect) (fun _ => rfl) (by decide) hk0) rfl (step_load_row rfl rfl rfl (flat_lt (s := 3) (enc := encGEffect) (fun _ => rfl) hk0) (flat_take (s := 3) (enc := encGEffect) (fun _ => rfl) hx0) rfl (step_n (o := .box [_, _, _]) (nx' := 2) rfl rfl rfl trivial ?_))))))))
   refine step_storeB (H' := [(1, .box [_, _, _]), (0, _)]) rfl rfl rfl rfl rfl rfl (.inl rfl) rfl ?_
   refine step_nil (seqK_n (sem_region rfl (step_r rfl rfl trivial (step_r rfl rfl trivial (step_r (v := (.agg [_, _, _])) rfl rfl (Nat.le_of_ble_eq_true rfl) ?_)))))
   refine step_callV (Hin := [.row _ _ _]) (out' := .ref 0 _ _ _) (H' := [(1, .box [_, _, _]), (0, .row _ _ _)]) (nx' := 2) [0] rfl rfl rfl rfl (.inl rfl) rfl rfl rfl rfl (effW_ok out0 x0 (by first | omega | (simp; done) | (simp only [List.length_append, List.length_cons, List.length_nil] at *; omega) | (simp; omega))) rfl (by decide) rfl rfl (.keep rfl (.keep rfl .nil)) (.keep rfl (.lose (v' := .undef) rfl (.keep rfl (.keep rfl (.keep rfl (.keep rfl (.keep rfl (.lose (v' := .undef) rfl (.keep rfl (.keep rfl (.keep rfl (.keep rfl .nil)))))))))))) rfl rfl rfl rfl ?_
   have p3 := effW_len out0 x0
   refine step_r rfl rfl trivial (step_nil (blkK_n (seqK_n (sem_region rfl (step_bin rfl rfl rfl rfl rfl trivial (step_r rfl rfl trivial (step_nil ?_)))))))
   have e5 : rowsE_L0 (l.drop k0) k0 out0 = rowsE_L0 (l.drop (k0 + 1)) (k0 + 1) (effW out0 x0) := by
    rewrite [drop_cons hx0]
    rewrite [rowsE_L0]
    try dsimp only
    all_goals rfl
   exact lup_againT (k0 + 1, (effW out0 x0)) ⟨e5.symm.trans hI0, hk0, by first | omega | assumption | (simp only [List.length_append, List.length_cons, List.length_nil, List.length_set]; omega) | (simp; omega) | grind⟩ (by show l.length - (k0 + 1) < l.length - k0; omega) (Trans.ren [] (by decide +kernel) (by decide +kernel) rfl ⟨⟨rfl, rfl⟩, ⟨rfl, rfl⟩, ⟨rfl, rfl⟩, ⟨rfl, rfl⟩, ⟨congrArg (fun n => some (I n)) (wrapI (k := k0) (by first | omega | (simp; omega))), rfl⟩, trivial⟩ ⟨⟨rfl, rfl, rfl⟩, trivial⟩ (by decide))
  ·have g2 : ¬ ((k0 : Int) < l.length) := of_decide_eq_false h2
   have hk0 : k0 = l.length := by omega
   refine sem_exit (seqK_e (lupK_e (blkK_t rfl ?_)))
   have e6 : rowsE_L0 l 0 (out ++ [(l.length : Int)]) = out0 := by
    rewrite [← hI0, hk0, List.drop_length]
    rewrite [rowsE_L0]
    try dsimp only
    all_goals rfl
   exact cutW_n out0 ⟨e6, by first | assumption | omega | (simp; omega) | simp_all | grind⟩ (Trans.ren [] (by decide +kernel) (by decide +kernel) rfl ⟨⟨rfl, rfl⟩, trivial⟩ ⟨⟨rfl, rfl, rfl⟩, trivial⟩ (by decide))
 ·rintro out_0 ⟨(hJ1 : rowsE_L0 l 0 (out ++ [(l.length : Int)]) = out_0), hE0⟩
  show seqK _ _ _ .normal (⟨[(0, .ref 0 1 0 out_0.length)], [(0, .row 3 1 (encI out_0))], 1, [0], 26, 1⟩ : St)
  refine seqK_n (sem_seq (sem_region rfl (step_r rfl rfl trivial (step_r rfl rfl trivial (step_nil (seqK_n (sem_ret ?_)))))))
  have e7 : rowsE out l = out_0 := by
   unfold rowsE
   try dsimp only
   rewrite [hJ1]
   try dsimp only
   all_goals rfl
  rw [e7]
  exact answersGR [] [] rfl ⟨trivial, trivial⟩ rfl (by (repeat' apply And.intro) <;> first | trivial | rfl | exact flat_len (fun _ => rfl) _ | exact encI_len _ | assumption) (rfl) rfl rfl rfl (by decide) rfl rfl ⟨⟨rfl, rfl⟩, trivial⟩

def rowsL_L0 : List GLine → Nat → (List Int) → List Int
  | [], k0, out0 => out0
  | x0 :: l_, k0, out0 => rowsL_L0 l_ (k0 + 1) (lineW out0 x0)
def rowsL (out : List Int) (l : List GLine) : List Int :=
  (let out_0 := rowsL_L0 l 0 (out ++ [(l.length : Int)]); out_0)
theorem rowsL_ok (out : List Int) (l : List GLine) (l_f : Bool) (hb : out.length + 5 * l.length ≤ 15999000) : Ok Tryz.prog 67 [.ref 0 1 0 out.length, .pv (.slc l.length l_f (l.flatMap encGLine)), .fnc 68 []] [.row 3 1 (encI out)] (.ref 0 1 0 (rowsL out l).length) [.row 3 1 (encI (rowsL out l))] [0] := by
 refine Ok.len fun hlen => ?_
 have hl_l : l.length ≤ maxLen := hlen _ (by simp [lensL, lens, lensP])
 unfold maxLen at hl_l
 refine ok_of_sem Tryz.func67 rfl ?_
 show Walks Tryz.prog _ _ ⟨[(0, .ref 0 1 0 out.length), (1, .pv (.slc l.length l_f (l.flatMap encGLine))), (2, .fnc 68 [])], [(0, .row 3 1 (encI out))], 1, [], 26, 1⟩
 refine sem_trans (Trans.loose (T' := [(0, .ref 0 1 0 out.length), (1, .pv (.slc l.length l_f (l.flatMap encGLine))), (2, .pv (.fn 68))]) (H' := [(0, .row 3 1 (encI out))]) ⟨⟨_, rfl, .inl rfl⟩, ⟨_, rfl, .inl rfl⟩, ⟨_, rfl, .inr rfl⟩, trivial⟩ ⟨⟨_, rfl, .inl rfl⟩, trivial⟩) ?_
 refine sem_seq (sem_region rfl (step_n (nx' := 2) rfl rfl rfl trivial (step_nil (seqK_n (sem_seq (sem_region rfl (step_r rfl rfl trivial (step_r rfl rfl trivial (step_r rfl rfl trivial (step_n (o := .row _ _ [_]) (nx' := 3) rfl rfl rfl (by decide) ?_))))))))))
 refine step_appendC (m := 1) (new := [_]) (cs' := encI (out ++ [(l.length : Int)])) (n' := (out ++ [(l.length : Int)]).length) (H' := [(2, .row _ _ _), (1, .row _ _ _), (0, .row _ _ _)]) rfl rfl rfl (rfl) rfl rfl rfl rfl rfl rfl (encI_len out) (rfl) (by first | decide | (unfold maxGrow; omega) | (unfold maxGrow; simp; omega) | (unfold maxGrow; simp only [List.length_append, List.length_take, List.length_drop, List.length_cons, List.length_nil, IntKind.wrap_i64] at *; omega)) (len_snoc out _) (((encI_snoc out (l.length : Int))).symm) (.inl rfl) rfl rfl (.keep rfl (.keep rfl (.keep rfl .nil))) (.keep rfl (.keep rfl (.keep rfl (.lose (v' := .undef) rfl (.keep rfl (.lose (v' := .undef) rfl (.keep rfl (.keep rfl .nil)))))))) ?_
 refine step_r rfl rfl trivial (step_nil (seqK_n (sem_seq (sem_seq (sem_region rfl (step_r rfl rfl trivial (step_r rfl rfl trivial (step_r rfl rfl trivial (step_nil (seqK_n ?_))))))))))
 refine sem_cutW (fun out_0 : List Int => (⟨[(0, .ref 0 1 0 out_0.length)], [(0, .row 3 1 (encI out_0))], 1, [0], 26, 1⟩ : St)) (fun out_0 : List Int => rowsL_L0 l 0 (out ++ [(l.length : Int)]) = out_0 ∧ (out_0.length = out.length + 1 + 5 * l.length)) ?_ ?_
 ·refine sem_block ?_
  refine sem_loopT (fun w_ : Nat × (List Int) => match w_ with | (k0, out0) => (⟨[(0, .ref 0 1 0 out0.length), (2, .pv (.fn 68)), (14, .pv (.slc l.length l_f (l.flatMap encGLine))), (15, I l.length), (16, I k0)], [(0, .row 3 1 (encI out0))], 1, [0], 26, 1⟩ : St)) (fun w_ : Nat × (List Int) => match w_ with | (k0, out0) => rowsL_L0 (l.drop k0) k0 out0 = rowsL_L0 l 0 (out ++ [(l.length : Int)]) ∧ k0 ≤ l.length ∧ out0.length = out.length + 1 + 5 * k0) (fun w_ : Nat × (List Int) => match w_ with | (k0, out0) => l.length - k0) (0, (out ++ [(l.length : Int)])) (⟨rfl, Nat.zero_le _, by first | omega | simp | (simp; omega)⟩) ?_ (fun w_ hh_ => ?_)
  ·exact (Trans.ren [] (by decide +kernel) (by decide +kernel) rfl ⟨⟨rfl, rfl⟩, ⟨rfl, rfl⟩, ⟨rfl, rfl⟩, ⟨rfl, rfl⟩, ⟨rfl, rfl⟩, trivial⟩ ⟨⟨rfl, rfl, rfl⟩, trivial⟩ (by decide))
  obtain ⟨k0, out0⟩ := w_
  obtain ⟨hI0, hb0, hv0⟩ := hh_
  show Walks Tryz.prog _ _ (⟨[(0, .ref 0 1 0 out0.length), (2, .pv (.fn 68)), (14, .pv (.slc l.length l_f (l.flatMap encGLine))), (15, I l.length), (16, I k0)], [(0, .row 3 1 (encI out0))], 1, [0], 26, 1⟩ : St)
  refine sem_seq (sem_region rfl (step_bin rfl rfl rfl rfl rfl trivial (step_nil (seqK_n (sem_seq ?_)))))
  refine sem_cond rfl (fun h2 => ?_) (fun h2 => ?_)
  ·have g2 : (k0 : Int) < l.length := of_decide_eq_true h2
   have hk0 : k0 < l.length := by omega
   obtain ⟨x0, hx0⟩ : ∃ z_, l[k0]? = some z_ := ⟨_, List.getElem?_eq_getElem hk0⟩
   refine sem_skip (seqK_n (sem_seq (sem_block (sem_seq (sem_region rfl (step_idxS (k := k0) rfl rfl rfl rfl hk0 (flat_ne (s := 5) (enc := encGLine) (fun _ => rfl) (by decide) hk0) rfl (step_load_row rfl rfl rfl (flat_lt (s := 5) (enc := encGLine) (fun _ => rfl) hk0) (flat_take (s := 5) (enc := encGLine) (fun _ => rfl) hx0) rfl (step_n (o := .box [_, _, _, _, _]) (nx' := 2) rfl rfl rfl trivial ?_))))))))
   refine step_storeB (H' := [(1, .box [_, _, _, _, _]), (0, _)]) rfl rfl rfl rfl rfl rfl (.inl rfl) rfl ?_
   refine step_nil (seqK_n (sem_region rfl (step_r rfl rfl trivial (step_r rfl rfl trivial (step_r (v := (.agg [_, _, _, _, _])) rfl rfl (Nat.le_of_ble_eq_true rfl) ?_)))))
   refine step_callV (Hin := [.row _ _ _]) (out' := .ref 0 _ _ _) (H' := [(1, .box [_, _, _, _, _]), (0, .row _ _ _)]) (nx' := 2) [0] rfl rfl rfl rfl (.inl rfl) rfl rfl rfl rfl (lineW_ok out0 x0 (by first | omega | (simp; done) | (simp only [List.length_append, List.length_cons, List.length_nil] at *; omega) | (simp; omega))) rfl (by decide) rfl rfl (.keep rfl (.keep rfl .nil)) (.keep rfl (.lose (v' := .undef) rfl (.keep rfl (.keep rfl (.keep rfl (.keep rfl (.keep rfl (.lose (v' := .undef) rfl (.keep rfl (.keep rfl (.keep rfl (.keep rfl .nil)))))))))))) rfl rfl rfl rfl ?_
   have p3 := lineW_len out0 x0
   refine step_r rfl rfl trivial (step_nil (blkK_n (seqK_n (sem_region rfl (step_bin rfl rfl rfl rfl rfl trivial (step_r rfl rfl trivial (step_nil ?_)))))))
   have e5 : rowsL_L0 (l.drop k0) k0 out0 = rowsL_L0 (l.drop (k0 + 1)) (k0 + 1) (lineW out0 x0) := by
    rewrite [drop_cons hx0]
    rewrite [rowsL_L0]
    try dsimp only
    all_goals rfl
   exact lup_againT (k0 + 1, (lineW out0 x0)) ⟨e5.symm.trans hI0, hk0, by first | omega | assumption | (simp only [List.length_append, List.length_cons, List.length_nil, List.length_set]; omega) | (simp; omega) | grind⟩ (by show l.length - (k0 + 1) < l.length - k0; omega) (Trans.ren [] (by decide +kernel) (by decide +kernel) rfl ⟨⟨rfl, rfl⟩, ⟨rfl, rfl⟩, ⟨rfl, rfl⟩, ⟨rfl, rfl⟩, ⟨congrArg (fun n => some (I n)) (wrapI (k := k0) (by first | omega | (simp; omega))), rfl⟩, trivial⟩ ⟨⟨rfl, rfl, rfl⟩, trivial⟩ (by decide))
  ·have g2 : ¬ ((k0 : Int) < l.length) := of_decide_eq_false h2
   have hk0 : k0 = l.length := by omega
   refine sem_exit (seqK_e (lupK_e (blkK_t rfl ?_)))
   have e6 : rowsL_L0 l 0 (out ++ [(l.length : Int)]) = out0 := by
    rewrite [← hI0, hk0, List.drop_length]
    rewrite [rowsL_L0]
    try dsimp only
    all_goals rfl
   exact cutW_n out0 ⟨e6, by first | assumption | omega | (simp; omega) | simp_all | grind⟩ (Trans.ren [] (by decide +kernel) (by decide +kernel) rfl ⟨⟨rfl, rfl⟩, trivial⟩ ⟨⟨rfl, rfl, rfl⟩, trivial⟩ (by decide))
 ·rintro out_0 ⟨(hJ1 : rowsL_L0 l 0 (out ++ [(l.length : Int)]) = out_0), hE0⟩
  show seqK _ _ _ .normal (⟨[(0, .ref 0 1 0 out_0.length)], [(0, .row 3 1 (encI out_0))], 1, [0], 26, 1⟩ : St)
  refine seqK_n (sem_seq (sem_region rfl (step_r rfl rfl trivial (step_r rfl rfl trivial (step_nil (seqK_n (sem_ret ?_)))))))
  have e7 : rowsL out l = out_0 := by
   unfold rowsL
   try dsimp only
   rewrite [hJ1]
   try dsimp only
   all_goals rfl
  rw [e7]
  exact answersGR [] [] rfl ⟨trivial, trivial⟩ rfl (by (repeat' apply And.intro) <;> first | trivial | rfl | exact flat_len (fun _ => rfl) _ | exact encI_len _ | assumption) (rfl) rfl rfl rfl (by decide) rfl rfl ⟨⟨rfl, rfl⟩, trivial⟩

def rowsP_L0 : List GPrize → Nat → (List Int) → List Int
  | [], k0, out0 => out0
  | x0 :: l_, k0, out0 => rowsP_L0 l_ (k0 + 1) (prizeW out0 x0)
def rowsP (out : List Int) (l : List GPrize) : List Int :=
  (let out_0 := rowsP_L0 l 0 (out ++ [(l.length : Int)]); out_0)
theorem rowsP_ok (out : List Int) (l : List GPrize) (l_f : Bool) (hb : out.length + 2 * l.length ≤ 15999000) : Ok Tryz.prog 66 [.ref 0 1 0 out.length, .pv (.slc l.length l_f (l.flatMap encGPrize)), .fnc 69 []] [.row 3 1 (encI out)] (.ref 0 1 0 (rowsP out l).length) [.row 3 1 (encI (rowsP out l))] [0] := by
 refine Ok.len fun hlen => ?_
 have hl_l : l.length ≤ maxLen := hlen _ (by simp [lensL, lens, lensP])
 unfold maxLen at hl_l
 refine ok_of_sem Tryz.func66 rfl ?_
 show Walks Tryz.prog _ _ ⟨[(0, .ref 0 1 0 out.length), (1, .pv (.slc l.length l_f (l.flatMap encGPrize))), (2, .fnc 69 [])], [(0, .row 3 1 (encI out))], 1, [], 26, 1⟩
 refine sem_trans (Trans.loose (T' := [(0, .ref 0 1 0 out.length), (1, .pv (.slc l.length l_f (l.flatMap encGPrize))), (2, .pv (.fn 69))]) (H' := [(0, .row 3 1 (encI out))]) ⟨⟨_, rfl, .inl rfl⟩, ⟨_, rfl, .inl rfl⟩, ⟨_, rfl, .inr rfl⟩, trivial⟩ ⟨⟨_, rfl, .inl rfl⟩, trivial⟩) ?_
 refine sem_seq (sem_region rfl (step_n (nx' := 2) rfl rfl rfl trivial (step_nil (seqK_n (sem_seq (sem_region rfl (step_r rfl rfl trivial (step_r rfl rfl trivial (step_r rfl rfl trivial (step_n (o := .row _ _ [_]) (nx' := 3) rfl rfl rfl (by decide) ?_))))))))))
 refine step_appendC (m := 1) (new := [_]) (cs' := encI (out ++ [(l.length : Int)])) (n' := (out ++ [(l.length : Int)]).length) (H' := [(2, .row _ _ _), (1, .row _ _ _), (0, .row _ _ _)]) rfl rfl rfl (rfl) rfl rfl rfl rfl rfl rfl (encI_len out) (rfl) (by first | decide | (unfold maxGrow; omega) | (unfold maxGrow; simp; omega) | (unfold maxGrow; simp only [List.length_append, List.length_take, List.length_drop, List.length_cons, List.length_nil, IntKind.wrap_i64] at *; omega)) (len_snoc out _) (((encI_snoc out (l.length : Int))).symm) (.inl rfl) rfl rfl (.keep rfl (.keep rfl (.keep rfl .nil))) (.keep rfl (.keep rfl (.keep rfl (.lose (v' := .undef) rfl (.keep rfl (.lose (v' := .undef) rfl (.keep rfl (.keep rfl .nil)))))))) ?_
 refine step_r rfl rfl trivial (step_nil (seqK_n (sem_seq (sem_seq (sem_region rfl (step_r rfl rfl trivial (step_r rfl rfl trivial (step_r rfl rfl trivial (step_nil (seqK_n ?_))))))))))
 refine sem_cutW (fun out_0 : List Int => (⟨[(0, .ref 0 1 0 out_0.length)], [(0, .row 3 1 (encI out_0))], 1, [0], 26, 1⟩ : St)) (fun out_0 : List Int => rowsP_L0 l 0 (out ++ [(l.length : Int)]) = out_0 ∧ (out_0.length = out.length + 1 + 2 * l.length)) ?_ ?_
 ·refine sem_block ?_
  refine sem_loopT (fun w_ : Nat × (List Int) => match w_ with | (k0, out0) => (⟨[(0, .ref 0 1 0 out0.length), (2, .pv (.fn 69)), (14, .pv (.slc l.length l_f (l.flatMap encGPrize))), (15, I l.length), (16, I k0)], [(0, .row 3 1 (encI out0))], 1, [0], 26, 1⟩ : St)) (fun w_ : Nat × (List Int) => match w_ with | (k0, out0) => rowsP_L0 (l.drop k0) k0 out0 = rowsP_L0 l 0 (out ++ [(l.length : Int)]) ∧ k0 ≤ l.length ∧ out0.length = out.length + 1 + 2 * k0) (fun w_ : Nat × (List Int) => match w_ with | (k0, out0) => l.length - k0) (0, (out ++ [(l.length : Int)])) (⟨rfl, Nat.zero_le _, by first | omega | simp | (simp; omega)⟩) ?_ (fun w_ hh_ => ?_)
  ·exact (Trans.ren [] (by decide +kernel) (by decide +kernel) rfl ⟨⟨rfl, rfl⟩, ⟨rfl, rfl⟩, ⟨rfl, rfl⟩, ⟨rfl, rfl⟩, ⟨rfl, rfl⟩, trivial⟩ ⟨⟨rfl, rfl, rfl⟩, trivial⟩ (by decide))
  obtain ⟨k0, out0⟩ := w_
  obtain ⟨hI0, hb0, hv0⟩ := hh_
  show Walks Tryz.prog _ _ (⟨[(0, .ref 0 1 0 out0.length), (2, .pv (.fn 69)), (14, .pv (.slc l.length l_f (l.flatMap encGPrize))), (15, I l.length), (16, I k0)], [(0, .row 3 1 (encI out0))], 1, [0], 26, 1⟩ : St)
  refine sem_seq (sem_region rfl (step_bin rfl rfl rfl rfl rfl trivial (step_nil (seqK_n (sem_seq ?_)))))
  refine sem_cond rfl (fun h2 => ?_) (fun h2 => ?_)
  ·have g2 : (k0 : Int) < l.length := of_decide_eq_true h2
   have hk0 : k0 < l.length := by omega
   obtain ⟨x0, hx0⟩ : ∃ z_, l[k0]? = some z_ := ⟨_, List.getElem?_eq_getElem hk0⟩
   refine sem_skip (seqK_n (sem_seq (sem_block (sem_seq (sem_region rfl (step_idxS (k := k0) rfl rfl rfl rfl hk0 (flat_ne (s := 2) (enc := encGPrize) (fun _ => rfl) (by decide) hk0) rfl (step_load_row rfl rfl rfl (flat_lt (s := 2) (enc := encGPrize) (fun _ => rfl) hk0) (flat_take (s := 2) (enc := encGPrize) (fun _ => rfl) hx0) rfl (step_n (o := .box [_, _]) (nx' := 2) rfl rfl rfl trivial ?_))))))))
   refine step_storeB (H' := [(1, .box [_, _]), (0, _)]) rfl rfl rfl rfl rfl rfl (.inl rfl) rfl ?_
   refine step_nil (seqK_n (sem_region rfl (step_r rfl rfl trivial (step_r rfl rfl trivial (step_r (v := (.agg [_, _])) rfl rfl (Nat.le_of_ble_eq_true rfl) ?_)))))
   refine step_callV (Hin := [.row _ _ _]) (out' := .ref 0 _ _ _) (H' := [(1, .box [_, _]), (0, .row _ _ _)]) (nx' := 2) [0] rfl rfl rfl rfl (.inl rfl) rfl rfl rfl rfl (prizeW_ok out0 x0 (by first | omega | (simp; done) | (simp only [List.length_append, List.length_cons, List.length_nil] at *; omega) | (simp; omega))) rfl (by decide) rfl rfl (.keep rfl (.keep rfl .nil)) (.keep rfl (.lose (v' := .undef) rfl (.keep rfl (.keep rfl (.keep rfl (.keep rfl (.keep rfl (.lose (v' := .undef) rfl (.keep rfl (.keep rfl (.keep rfl (.keep rfl .nil)))))))))))) rfl rfl rfl rfl ?_
   have p3 := prizeW_len out0 x0
   refine step_r rfl rfl trivial (step_nil (blkK_n (seqK_n (sem_region rfl (step_bin rfl rfl rfl rfl rfl trivial (step_r rfl rfl trivial (step_nil ?_)))))))
   have e5 : rowsP_L0 (l.drop k0) k0 out0 = rowsP_L0 (l.drop (k0 + 1)) (k0 + 1) (prizeW out0 x0) := by
    rewrite [drop_cons hx0]
    rewrite [rowsP_L0]
    try dsimp only
    all_goals rfl
   exact lup_againT (k0 + 1, (prizeW out0 x0)) ⟨e5.symm.trans hI0, hk0, by first | omega | assumption | (simp only [List.length_append, List.length_cons, List.length_nil, List.length_set]; omega) | (simp; omega) | grind⟩ (by show l.length - (k0 + 1) < l.length - k0; omega) (Trans.ren [] (by decide +kernel) (by decide +kernel) rfl ⟨⟨rfl, rfl⟩, ⟨rfl, rfl⟩, ⟨rfl, rfl⟩, ⟨rfl, rfl⟩, ⟨congrArg (fun n => some (I n)) (wrapI (k := k0) (by first | omega | (simp; omega))), rfl⟩, trivial⟩ ⟨⟨rfl, rfl, rfl⟩, trivial⟩ (by decide))
  ·have g2 : ¬ ((k0 : Int) < l.length) := of_decide_eq_false h2
   have hk0 : k0 = l.length := by omega
   refine sem_exit (seqK_e (lupK_e (blkK_t rfl ?_)))
   have e6 : rowsP_L0 l 0 (out ++ [(l.length : Int)]) = out0 := by
    rewrite [← hI0, hk0, List.drop_length]
    rewrite [rowsP_L0]
    try dsimp only
    all_goals rfl
   exact cutW_n out0 ⟨e6, by first | assumption | omega | (simp; omega) | simp_all | grind⟩ (Trans.ren [] (by decide +kernel) (by decide +kernel) rfl ⟨⟨rfl, rfl⟩, trivial⟩ ⟨⟨rfl, rfl, rfl⟩, trivial⟩ (by decide))
 ·rintro out_0 ⟨(hJ1 : rowsP_L0 l 0 (out ++ [(l.length : Int)]) = out_0), hE0⟩
  show seqK _ _ _ .normal (⟨[(0, .ref 0 1 0 out_0.length)], [(0, .row 3 1 (encI out_0))], 1, [0], 26, 1⟩ : St)
  refine seqK_n (sem_seq (sem_region rfl (step_r rfl rfl trivial (step_r rfl rfl trivial (step_nil (seqK_n (sem_ret ?_)))))))
  have e7 : rowsP out l = out_0 := by
   unfold rowsP
   try dsimp only
   rewrite [hJ1]
   try dsimp only
   all_goals rfl
  rw [e7]
  exact answersGR [] [] rfl ⟨trivial, trivial⟩ rfl (by (repeat' apply And.intro) <;> first | trivial | rfl | exact flat_len (fun _ => rfl) _ | exact encI_len _ | assumption) (rfl) rfl rfl rfl (by decide) rfl rfl ⟨⟨rfl, rfl⟩, trivial⟩

def rowsW_L0 : List Bool → Nat → (List Int) → List Int
  | [], k0, out0 => out0
  | x0 :: l_, k0, out0 => rowsW_L0 l_ (k0 + 1) (wallW out0 x0)
def rowsW (out : List Int) (l : List Bool) : List Int :=
  (let out_0 := rowsW_L0 l 0 (out ++ [(l.length : Int)]); out_0)
theorem rowsW_ok (out : List Int) (l : List Bool) (l_f : Bool) (hb : out.length + 1 * l.length ≤ 15999000) : Ok Tryz.prog 30 [.ref 0 1 0 out.length, .pv (.slc l.length l_f (encB l)), .fnc 31 []] [.row 3 1 (encI out)] (.ref 0 1 0 (rowsW out l).length) [.row 3 1 (encI (rowsW out l))] [0] := by
 refine Ok.len fun hlen => ?_
 have hl_l : l.length ≤ maxLen := hlen _ (by simp [lensL, lens, lensP])
 unfold maxLen at hl_l
 refine ok_of_sem Tryz.func30 rfl ?_
 show Walks Tryz.prog _ _ ⟨[(0, .ref 0 1 0 out.length), (1, .pv (.slc l.length l_f (encB l))), (2, .fnc 31 [])], [(0, .row 3 1 (encI out))], 1, [], 26, 1⟩
 refine sem_trans (Trans.loose (T' := [(0, .ref 0 1 0 out.length), (1, .pv (.slc l.length l_f (encB l))), (2, .pv (.fn 31))]) (H' := [(0, .row 3 1 (encI out))]) ⟨⟨_, rfl, .inl rfl⟩, ⟨_, rfl, .inl rfl⟩, ⟨_, rfl, .inr rfl⟩, trivial⟩ ⟨⟨_, rfl, .inl rfl⟩, trivial⟩) ?_
 refine sem_seq (sem_region rfl (step_n (nx' := 2) rfl rfl rfl trivial (step_nil (seqK_n (sem_seq (sem_region rfl (step_r rfl rfl trivial (step_r rfl rfl trivial (step_r rfl rfl trivial (step_n (o := .row _ _ [_]) (nx' := 3) rfl rfl rfl (by decide) ?_))))))))))
 refine step_appendC (m := 1) (new := [_]) (cs' := encI (out ++ [(l.length : Int)])) (n' := (out ++ [(l.length : Int)]).length) (H' := [(2, .row _ _ _), (1, .row _ _ _), (0, .row _ _ _)]) rfl rfl rfl (rfl) rfl rfl rfl rfl rfl rfl (encI_len out) (rfl) (by first | decide | (unfold maxGrow; omega) | (unfold maxGrow; simp; omega) | (unfold maxGrow; simp only [List.length_append, List.length_take, List.length_drop, List.length_cons, List.length_nil, IntKind.wrap_i64] at *; omega)) (len_snoc out _) (((encI_snoc out (l.length : Int))).symm) (.inl rfl) rfl rfl (.keep rfl (.keep rfl (.keep rfl .nil))) (.keep rfl (.keep rfl (.keep rfl (.lose (v' := .undef) rfl (.keep rfl (.lose (v' := .undef) rfl (.keep rfl (.keep rfl .nil)))))))) ?_
 refine step_r rfl rfl trivial (step_nil (seqK_n (sem_seq (sem_seq (sem_region rfl (step_r rfl rfl trivial (step_r rfl rfl trivial (step_r rfl rfl trivial (step_nil (seqK_n ?_))))))))))
 refine sem_cutW (fun out_0 : List Int => (⟨[(0, .ref 0 1 0 out_0.length)], [(0, .row 3 1 (encI out_0))], 1, [0], 26, 1⟩ : St)) (fun out_0 : List Int => rowsW_L0 l 0 (out ++ [(l.length : Int)]) = out_0 ∧ (out_0.length = out.length + 1 + 1 * l.length)) ?_ ?_
 ·refine sem_block ?_
  refine sem_loopT (fun w_ : Nat × (List Int) => match w_ with | (k0, out0) => (⟨[(0, .ref 0 1 0 out0.length), (2, .pv (.fn 31)), (14, .pv (.slc l.length l_f (encB l))), (15, I l.length), (16, I k0)], [(0, .row 3 1 (encI out0))], 1, [0], 26, 1⟩ : St)) (fun w_ : Nat × (List Int) => match w_ with | (k0, out0) => rowsW_L0 (l.drop k0) k0 out0 = rowsW_L0 l 0 (out ++ [(l.length : Int)]) ∧ k0 ≤ l.length ∧ out0.length = out.length + 1 + 1 * k0) (fun w_ : Nat × (List Int) => match w_ with | (k0, out0) => l.length - k0) (0, (out ++ [(l.length : Int)])) (⟨rfl, Nat.zero_le _, by first | omega | simp | (simp; omega)⟩) ?_ (fun w_ hh_ => ?_)
  ·exact (Trans.ren [] (by decide +kernel) (by decide +kernel) rfl ⟨⟨rfl, rfl⟩, ⟨rfl, rfl⟩, ⟨rfl, rfl⟩, ⟨rfl, rfl⟩, ⟨rfl, rfl⟩, trivial⟩ ⟨⟨rfl, rfl, rfl⟩, trivial⟩ (by decide))
  obtain ⟨k0, out0⟩ := w_
  obtain ⟨hI0, hb0, hv0⟩ := hh_
  show Walks Tryz.prog _ _ (⟨[(0, .ref 0 1 0 out0.length), (2, .pv (.fn 31)), (14, .pv (.slc l.length l_f (encB l))), (15, I l.length), (16, I k0)], [(0, .row 3 1 (encI out0))], 1, [0], 26, 1⟩ : St)
  refine sem_seq (sem_region rfl (step_bin rfl rfl rfl rfl rfl trivial (step_nil (seqK_n (sem_seq ?_)))))
  refine sem_cond rfl (fun h2 => ?_) (fun h2 => ?_)
  ·have g2 : (k0 : Int) < l.length := of_decide_eq_true h2
   have hk0 : k0 < l.length := by omega
   obtain ⟨x0, hx0⟩ : ∃ z_, l[k0]? = some z_ := ⟨_, List.getElem?_eq_getElem hk0⟩
   refine sem_skip (seqK_n (sem_seq (sem_block (sem_seq (sem_region rfl (step_idxS (k := k0) rfl rfl rfl rfl hk0 (encB_ne hk0) rfl (step_load_one rfl rfl rfl (encB_get hx0) rfl (step_r rfl rfl trivial (step_nil (seqK_n (sem_region rfl ?_)))))))))))
   refine step_r rfl rfl trivial (step_r rfl rfl trivial (step_r rfl rfl trivial ?_))
   refine step_callV (Hin := [.row _ _ _]) (out' := .ref 0 _ _ _) (H' := [(0, .row _ _ _)]) (nx' := 1) [0] rfl rfl rfl rfl (.inl rfl) rfl rfl rfl rfl (wallW_ok out0 x0 (by first | omega | (simp; done) | (simp only [List.length_append, List.length_cons, List.length_nil] at *; omega) | (simp; omega))) rfl (by decide) rfl rfl (.keep rfl .nil) (.keep rfl (.lose (v' := .undef) rfl (.keep rfl (.keep rfl (.keep rfl (.keep rfl (.keep rfl (.lose (v' := .undef) rfl (.keep rfl (.keep rfl (.keep rfl (.keep rfl .nil)))))))))))) rfl rfl rfl rfl ?_
   have p4 := wallW_len out0 x0
   refine step_r rfl rfl trivial (step_nil (blkK_n (seqK_n (sem_region rfl (step_bin rfl rfl rfl rfl rfl trivial (step_r rfl rfl trivial (step_nil ?_)))))))
   have e6 : rowsW_L0 (l.drop k0) k0 out0 = rowsW_L0 (l.drop (k0 + 1)) (k0 + 1) (wallW out0 x0) := by
    rewrite [drop_cons hx0]
    rewrite [rowsW_L0]
    try dsimp only
    all_goals rfl
   exact lup_againT (k0 + 1, (wallW out0 x0)) ⟨e6.symm.trans hI0, hk0, by first | omega | assumption | (simp only [List.length_append, List.length_cons, List.length_nil, List.length_set]; omega) | (simp; omega) | grind⟩ (by show l.length - (k0 + 1) < l.length - k0; omega) (Trans.ren [] (by decide +kernel) (by decide +kernel) rfl ⟨⟨rfl, rfl⟩, ⟨rfl, rfl⟩, ⟨rfl, rfl⟩, ⟨rfl, rfl⟩, ⟨congrArg (fun n => some (I n)) (wrapI (k := k0) (by first | omega | (simp; omega))), rfl⟩, trivial⟩ ⟨⟨rfl, rfl, rfl⟩, trivial⟩ (by decide))
  ·have g2 : ¬ ((k0 : Int) < l.length) := of_decide_eq_false h2
   have hk0 : k0 = l.length := by omega
   refine sem_exit (seqK_e (lupK_e (blkK_t rfl ?_)))
   have e7 : rowsW_L0 l 0 (out ++ [(l.length : Int)]) = out0 := by
    rewrite [← hI0, hk0, List.drop_length]
    rewrite [rowsW_L0]
    try dsimp only
    all_goals rfl
   exact cutW_n out0 ⟨e7, by first | assumption | omega | (simp; omega) | simp_all | grind⟩ (Trans.ren [] (by decide +kernel) (by decide +kernel) rfl ⟨⟨rfl, rfl⟩, trivial⟩ ⟨⟨rfl, rfl, rfl⟩, trivial⟩ (by decide))
 ·rintro out_0 ⟨(hJ1 : rowsW_L0 l 0 (out ++ [(l.length : Int)]) = out_0), hE0⟩
  show seqK _ _ _ .normal (⟨[(0, .ref 0 1 0 out_0.length)], [(0, .row 3 1 (encI out_0))], 1, [0], 26, 1⟩ : St)
  refine seqK_n (sem_seq (sem_region rfl (step_r rfl rfl trivial (step_r rfl rfl trivial (step_nil (seqK_n (sem_ret ?_)))))))
  have e8 : rowsW out l = out_0 := by
   unfold rowsW
   try dsimp only
   rewrite [hJ1]
   try dsimp only
   all_goals rfl
  rw [e8]
  exact answersGR [] [] rfl ⟨trivial, trivial⟩ rfl (by (repeat' apply And.intro) <;> first | trivial | rfl | exact flat_len (fun _ => rfl) _ | exact encI_len _ | assumption) (rfl) rfl rfl rfl (by decide) rfl rfl ⟨⟨rfl, rfl⟩, trivial⟩

def rowsU_L0 : List GAura → Nat → (List Int) → List Int
  | [], k0, out0 => out0
  | x0 :: l_, k0, out0 => rowsU_L0 l_ (k0 + 1) (auraW out0 x0)
def rowsU (out : List Int) (l : List GAura) : List Int :=
  (let out_0 := rowsU_L0 l 0 (out ++ [(l.length : Int)]); out_0)
theorem rowsU_ok (out : List Int) (l : List GAura) (l_f : Bool) (hb : out.length + 7 * l.length ≤ 15999000) : Ok Tryz.prog 25 [.ref 0 1 0 out.length, .pv (.slc l.length l_f (l.flatMap encGAura)), .fnc 28 []] [.row 3 1 (encI out)] (.ref 0 1 0 (rowsU out l).length) [.row 3 1 (encI (rowsU out l))] [0] := by
 refine Ok.len fun hlen => ?_
 have hl_l : l.length ≤ maxLen := hlen _ (by simp [lensL, lens, lensP])
 unfold maxLen at hl_l
 refine ok_of_sem Tryz.func25 rfl ?_
 show Walks Tryz.prog _ _ ⟨[(0, .ref 0 1 0 out.length), (1, .pv (.slc l.length l_f (l.flatMap encGAura))), (2, .fnc 28 [])], [(0, .row 3 1 (encI out))], 1, [], 26, 1⟩
 refine sem_trans (Trans.loose (T' := [(0, .ref 0 1 0 out.length), (1, .pv (.slc l.length l_f (l.flatMap encGAura))), (2, .pv (.fn 28))]) (H' := [(0, .row 3 1 (encI out))]) ⟨⟨_, rfl, .inl rfl⟩, ⟨_, rfl, .inl rfl⟩, ⟨_, rfl, .inr rfl⟩, trivial⟩ ⟨⟨_, rfl, .inl rfl⟩, trivial⟩) ?_
 refine sem_seq (sem_region rfl (step_n (nx' := 2) rfl rfl rfl trivial (step_nil (seqK_n (sem_seq (sem_region rfl (step_r rfl rfl trivial (step_r rfl rfl trivial (step_r rfl rfl trivial (step_n (o := .row _ _ [_]) (nx' := 3) rfl rfl rfl (by decide) ?_))))))))))
 refine step_appendC (m := 1) (new := [_]) (cs' := encI (out ++ [(l.length : Int)])) (n' := (out ++ [(l.length : Int)]).length) (H' := [(2, .row _ _ _), (1, .row _ _ _), (0, .row _ _ _)]) rfl rfl rfl (rfl) rfl rfl rfl rfl rfl rfl (encI_len out) (rfl) (by first | decide | (unfold maxGrow; omega) | (unfold maxGrow; simp; omega) | (unfold maxGrow; simp only [List.length_append, List.length_take, List.length_drop, List.length_cons, List.length_nil, IntKind.wrap_i64] at *; omega)) (len_snoc out _) (((encI_snoc out (l.length : Int))).symm) (.inl rfl) rfl rfl (.keep rfl (.keep rfl (.keep rfl .nil))) (.keep rfl (.keep rfl (.keep rfl (.lose (v' := .undef) rfl (.keep rfl (.lose (v' := .undef) rfl (.keep rfl (.keep rfl .nil)))))))) ?_
 refine step_r rfl rfl trivial (step_nil (seqK_n (sem_seq (sem_seq (sem_region rfl (step_r rfl rfl trivial (step_r rfl rfl trivial (step_r rfl rfl trivial (step_nil (seqK_n ?_))))))))))
 refine sem_cutW (fun out_0 : List Int => (⟨[(0, .ref 0 1 0 out_0.length)], [(0, .row 3 1 (encI out_0))], 1, [0], 26, 1⟩ : St)) (fun out_0 : List Int => rowsU_L0 l 0 (out ++ [(l.length : Int)]) = out_0 ∧ (out_0.length = out.length + 1 + 7 * l.length)) ?_ ?_
 ·refine sem_block ?_
  refine sem_loopT (fun w_ : Nat × (List Int) => match w_ with | (k0, out0) => (⟨[(0, .ref 0 1 0 out0.length), (2, .pv (.fn 28)), (14, .pv (.slc l.length l_f (l.flatMap encGAura))), (15, I l.length), (16, I k0)], [(0, .row 3 1 (encI out0))], 1, [0], 26, 1⟩ : St)) (fun w_ : Nat × (List Int) => match w_ with | (k0, out0) => rowsU_L0 (l.drop k0) k0 out0 = rowsU_L0 l 0 (out ++ [(l.length : Int)]) ∧ k0 ≤ l.length ∧ out0.length = out.length + 1 + 7 * k0) (fun w_ : Nat × (List Int) => match w_ with | (k0, out0) => l.length - k0) (0, (out ++ [(l.length : Int)])) (⟨rfl, Nat.zero_le _, by first | omega | simp | (simp; omega)⟩) ?_ (fun w_ hh_ => ?_)
  ·exact (Trans.ren [] (by decide +kernel) (by decide +kernel) rfl ⟨⟨rfl, rfl⟩, ⟨rfl, rfl⟩, ⟨rfl, rfl⟩, ⟨rfl, rfl⟩, ⟨rfl, rfl⟩, trivial⟩ ⟨⟨rfl, rfl, rfl⟩, trivial⟩ (by decide))
  obtain ⟨k0, out0⟩ := w_
  obtain ⟨hI0, hb0, hv0⟩ := hh_
  show Walks Tryz.prog _ _ (⟨[(0, .ref 0 1 0 out0.length), (2, .pv (.fn 28)), (14, .pv (.slc l.length l_f (l.flatMap encGAura))), (15, I l.length), (16, I k0)], [(0, .row 3 1 (encI out0))], 1, [0], 26, 1⟩ : St)
  refine sem_seq (sem_region rfl (step_bin rfl rfl rfl rfl rfl trivial (step_nil (seqK_n (sem_seq ?_)))))
  refine sem_cond rfl (fun h2 => ?_) (fun h2 => ?_)
  ·have g2 : (k0 : Int) < l.length := of_decide_eq_true h2
   have hk0 : k0 < l.length := by omega
   obtain ⟨x0, hx0⟩ : ∃ z_, l[k0]? = some z_ := ⟨_, List.getElem?_eq_getElem hk0⟩
   refine sem_skip (seqK_n (sem_seq (sem_block (sem_seq (sem_region rfl (step_idxS (k := k0) rfl rfl rfl rfl hk0 (flat_ne (s := 7) (enc := encGAura) (fun _ => rfl) (by decide) hk0) rfl (step_load_row rfl rfl rfl (flat_lt (s := 7) (enc := encGAura) (fun _ => rfl) hk0) (flat_take (s := 7) (enc := encGAura) (fun _ => rfl) hx0) rfl (step_n (o := .box [_, _, _, _, _, _, _]) (nx' := 2) rfl rfl rfl trivial ?_))))))))
   refine step_storeB (H' := [(1, .box [_, _, _, _, _, _, _]), (0, _)]) rfl rfl rfl rfl rfl rfl (.inl rfl) rfl ?_
   refine step_nil (seqK_n (sem_region rfl (step_r rfl rfl trivial (step_r rfl rfl trivial (step_r (v := (.agg [_, _, _, _, _, _, _])) rfl rfl (Nat.le_of_ble_eq_true rfl) ?_)))))
   refine step_callV (Hin := [.row _ _ _]) (out' := .ref 0 _ _ _) (H' := [(1, .box [_, _, _, _, _, _, _]), (0, .row _ _ _)]) (nx' := 2) [0] rfl rfl rfl rfl (.inl rfl) rfl rfl rfl rfl (auraW_ok out0 x0 (by first | omega | (simp; done) | (simp only [List.length_append, List.length_cons, List.length_nil] at *; omega) | (simp; omega))) rfl (by decide) rfl rfl (.keep rfl (.keep rfl .nil)) (.keep rfl (.lose (v' := .undef) rfl (.keep rfl (.keep rfl (.keep rfl (.keep rfl (.keep rfl (.lose (v' := .undef) rfl (.keep rfl (.keep rfl (.keep rfl (.keep rfl .nil)))))))))))) rfl rfl rfl rfl ?_
   have p3 := auraW_len out0 x0
   refine step_r rfl rfl trivial (step_nil (blkK_n (seqK_n (sem_region rfl (step_bin rfl rfl rfl rfl rfl trivial (step_r rfl rfl trivial (step_nil ?_)))))))
   have e5 : rowsU_L0 (l.drop k0) k0 out0 = rowsU_L0 (l.drop (k0 + 1)) (k0 + 1) (auraW out0 x0) := by
    rewrite [drop_cons hx0]
    rewrite [rowsU_L0]
    try dsimp only
    all_goals rfl
   exact lup_againT (k0 + 1, (auraW out0 x0)) ⟨e5.symm.trans hI0, hk0, by first | omega | assumption | (simp only [List.length_append, List.length_cons, List.length_nil, List.length_set]; omega) | (simp; omega) | grind⟩ (by show l.length - (k0 + 1) < l.length - k0; omega) (Trans.ren [] (by decide +kernel) (by decide +kernel) rfl ⟨⟨rfl, rfl⟩, ⟨rfl, rfl⟩, ⟨rfl, rfl⟩, ⟨rfl, rfl⟩, ⟨congrArg (fun n => some (I n)) (wrapI (k := k0) (by first | omega | (simp; omega))), rfl⟩, trivial⟩ ⟨⟨rfl, rfl, rfl⟩, trivial⟩ (by decide))
  ·have g2 : ¬ ((k0 : Int) < l.length) := of_decide_eq_false h2
   have hk0 : k0 = l.length := by omega
   refine sem_exit (seqK_e (lupK_e (blkK_t rfl ?_)))
   have e6 : rowsU_L0 l 0 (out ++ [(l.length : Int)]) = out0 := by
    rewrite [← hI0, hk0, List.drop_length]
    rewrite [rowsU_L0]
    try dsimp only
    all_goals rfl
   exact cutW_n out0 ⟨e6, by first | assumption | omega | (simp; omega) | simp_all | grind⟩ (Trans.ren [] (by decide +kernel) (by decide +kernel) rfl ⟨⟨rfl, rfl⟩, trivial⟩ ⟨⟨rfl, rfl, rfl⟩, trivial⟩ (by decide))
 ·rintro out_0 ⟨(hJ1 : rowsU_L0 l 0 (out ++ [(l.length : Int)]) = out_0), hE0⟩
  show seqK _ _ _ .normal (⟨[(0, .ref 0 1 0 out_0.length)], [(0, .row 3 1 (encI out_0))], 1, [0], 26, 1⟩ : St)
  refine seqK_n (sem_seq (sem_region rfl (step_r rfl rfl trivial (step_r rfl rfl trivial (step_nil (seqK_n (sem_ret ?_)))))))
  have e7 : rowsU out l = out_0 := by
   unfold rowsU
   try dsimp only
   rewrite [hJ1]
   try dsimp only
   all_goals rfl
  rw [e7]
  exact answersGR [] [] rfl ⟨trivial, trivial⟩ rfl (by (repeat' apply And.intro) <;> first | trivial | rfl | exact flat_len (fun _ => rfl) _ | exact encI_len _ | assumption) (rfl) rfl rfl rfl (by decide) rfl rfl ⟨⟨rfl, rfl⟩, trivial⟩

theorem rowsE_L0_len : ∀ (l : List GEffect) (k : Nat) (out : List Int), (rowsE_L0 l k out).length = out.length + 3 * l.length
  | [], k, out => by rw [rowsE_L0]; rfl
  | x :: l, k, out => by rw [rowsE_L0, rowsE_L0_len l, effW_len]; simp only [List.length_cons]; omega
theorem rowsE_len (out : List Int) (l : List GEffect) : (rowsE out l).length = out.length + 1 + 3 * l.length := by
  unfold rowsE; dsimp only; rw [rowsE_L0_len]; simp only [List.length_append, List.length_cons, List.length_nil]

theorem rowsL_L0_len : ∀ (l : List GLine) (k : Nat) (out : List Int), (rowsL_L0 l k out).length = out.length + 5 * l.length
  | [], k, out => by rw [rowsL_L0]; rfl
  | x :: l, k, out => by rw [rowsL_L0, rowsL_L0_len l, lineW_len]; simp only [List.length_cons]; omega
theorem rowsL_len (out : List Int) (l : List GLine) : (rowsL out l).length = out.length + 1 + 5 * l.length := by
  unfold rowsL; dsimp only; rw [rowsL_L0_len]; simp only [List.length_append, List.length_cons, List.length_nil]

theorem rowsP_L0_len : ∀ (l : List GPrize) (k : Nat) (out : List Int), (rowsP_L0 l k out).length = out.length + 2 * l.length
  | [], k, out => by rw [rowsP_L0]; rfl
  | x :: l, k, out => by rw [rowsP_L0, rowsP_L0_len l, prizeW_len]; simp only [List.length_cons]; omega
theorem rowsP_len (out : List Int) (l : List GPrize) : (rowsP out l).length = out.length + 1 + 2 * l.length := by
  unfold rowsP; dsimp only; rw [rowsP_L0_len]; simp only [List.length_append, List.length_cons, List.length_nil]

theorem rowsW_L0_len : ∀ (l : List Bool) (k : Nat) (out : List Int), (rowsW_L0 l k out).length = out.length + 1 * l.length
  | [], k, out => by rw [rowsW_L0]; rfl
  | x :: l, k, out => by rw [rowsW_L0, rowsW_L0_len l, wallW_len]; simp only [List.length_cons]; omega
theorem rowsW_len (out : List Int) (l : List Bool) : (rowsW out l).length = out.length + 1 + 1 * l.length := by
  unfold rowsW; dsimp only; rw [rowsW_L0_len]; simp only [List.length_append, List.length_cons, List.length_nil]

theorem rowsU_L0_len : ∀ (l : List GAura) (k : Nat) (out : List Int), (rowsU_L0 l k out).length = out.length + 7 * l.length
  | [], k, out => by rw [rowsU_L0]; rfl
  | x :: l, k, out => by rw [rowsU_L0, rowsU_L0_len l, auraW_len]; simp only [List.length_cons]; omega
theorem rowsU_len (out : List Int) (l : List GAura) : (rowsU out l).length = out.length + 1 + 7 * l.length := by
  unfold rowsU; dsimp only; rw [rowsU_L0_len]; simp only [List.length_append, List.length_cons, List.length_nil]

def ablW (out : List Int) (a : GAbility) : List Int :=
  (rowsE (out ++ [a.Id, a.Cast, a.Cool, a.Charges, a.Range, a.Cost, (flagW a.Sight)]) a.Effects)
theorem ablW_ok (out : List Int) (a : GAbility) (hb : out.length ≤ 15000000) (hE : a.Effects.length ≤ 1000) : Ok Tryz.prog 27 [.ref 0 1 0 out.length, aGAbility a] [.row 3 1 (encI out)] (.ref 0 1 0 (ablW out a).length) [.row 3 1 (encI (ablW out a))] [0] := by
 refine Ok.len fun hlen => ?_
 have hl_a_Effects : a.Effects.length ≤ maxLen := hlen _ (by simp [lensL, lens, lensP])
 unfold maxLen at hl_a_Effects
 refine ok_of_sem Tryz.func27 rfl ?_
 show Walks Tryz.prog _ _ ⟨[(0, .ref 0 1 0 out.length), (1, aGAbility a)], [(0, .row 3 1 (encI out))], 1, [], 27, 1⟩
 refine sem_seq (sem_region rfl (step_n (o := .box [_, _, _, _, _, _, _, _]) (nx' := 2) rfl rfl rfl trivial (step_n (nx' := 3) rfl rfl rfl trivial (step_nil (seqK_n (sem_seq ?_))))))
 refine sem_drawn rfl (by decide +kernel) rfl ?_
 refine step_r rfl rfl trivial (step_r rfl rfl (by decide) (step_r rfl rfl trivial (step_r rfl rfl (by decide) (step_r rfl rfl trivial (step_r rfl rfl (by decide) (step_r rfl rfl trivial (step_r rfl rfl (by decide) (step_r rfl rfl trivial (step_r rfl rfl (by decide) (step_r rfl rfl trivial (step_r rfl rfl (by decide) ?_)))))))))))
 refine step_r rfl rfl trivial (step_r rfl rfl (by decide) (step_r rfl rfl trivial (step_call rfl rfl rfl rfl (flagW_ok a.Sight) rfl rfl rfl (step_n (o := .row _ _ [_, _, _, _, _, _, _]) (nx' := 4) rfl rfl rfl (by decide) ?_))))
 refine step_appendC (m := 7) (new := [_, _, _, _, _, _, _]) (cs' := encI (out ++ [a.Id, a.Cast, a.Cool, a.Charges, a.Range, a.Cost, (flagW a.Sight)])) (n' := (out ++ [a.Id, a.Cast, a.Cool, a.Charges, a.Range, a.Cost, (flagW a.Sight)]).length) (H' := [(3, .row _ _ _), (2, .row _ _ _), (1, .box [_, _, _, _, _, _, _, _]), (0, .row _ _ _)]) rfl rfl rfl (rfl) rfl rfl rfl rfl rfl rfl (encI_len out) (rfl) (by first | decide | (unfold maxGrow; omega) | (unfold maxGrow; simp; omega) | (unfold maxGrow; simp only [List.length_append, List.length_take, List.length_drop, List.length_cons, List.length_nil, IntKind.wrap_i64] at *; omega)) (len_append out ([a.Id, a.Cast, a.Cool, a.Charges, a.Range, a.Cost, (flagW a.Sight)])) (encI_append out ([a.Id, a.Cast, a.Cool, a.Charges, a.Range, a.Cost, (flagW a.Sight)])) (.inr (by decide +kernel)) rfl rfl (.keep rfl (.keep rfl (.keep rfl (.keep rfl .nil)))) (.keep rfl (.keep rfl (.keep rfl (.keep rfl (.keep rfl (.keep rfl (.keep rfl (.keep rfl (.keep rfl (.keep rfl (.keep rfl (.keep rfl (.keep rfl (.keep rfl (.keep rfl (.keep rfl (.lose (v' := .undef) rfl (.keep rfl (.keep rfl (.lose (v' := .undef) rfl (.keep rfl .nil))))))))))))))))))))) ?_
 refine step_r rfl rfl trivial (step_nil (seqK_n (sem_seq (sem_region rfl (step_r rfl rfl trivial (step_r rfl rfl (by decide) (step_r rfl rfl trivial ?_)))))))
 refine step_callV (Hin := [.row _ _ _]) (out' := .ref 0 _ _ _) (H' := [(3, .row _ _ _), (2, .row _ _ _), (1, .box [_, _, _, _, _, _, _, _]), (0, .row _ _ _)]) (nx' := 4) [0] rfl rfl rfl rfl (.inl rfl) rfl rfl rfl rfl (rowsE_ok (out ++ [a.Id, a.Cast, a.Cool, a.Charges, a.Range, a.Cost, (flagW a.Sight)]) a.Effects false (by first | omega | (simp; done) | (simp only [List.length_append, List.length_cons, List.length_nil] at *; omega) | (simp; omega))) rfl (by decide) rfl rfl (.keep rfl (.keep rfl (.keep rfl (.keep rfl .nil)))) (.keep rfl (.keep rfl (.lose (v' := .undef) rfl (.lose (v' := .undef) rfl (.lose (v' := .undef) rfl (.keep rfl (.keep rfl (.keep rfl (.keep rfl (.keep rfl (.keep rfl (.keep rfl (.keep rfl (.keep rfl (.keep rfl (.keep rfl (.keep rfl (.keep rfl (.keep rfl (.keep rfl (.keep rfl (.keep rfl (.keep rfl (.keep rfl (.keep rfl (.keep rfl .nil)))))))))))))))))))))))))) rfl rfl rfl rfl ?_
 have p1 := rowsE_len (out ++ [a.Id, a.Cast, a.Cool, a.Charges, a.Range, a.Cost, (flagW a.Sight)]) a.Effects
 refine step_r rfl rfl trivial (step_nil (seqK_n (sem_ret ?_)))
 have e2 : ablW out a = (rowsE (out ++ [a.Id, a.Cast, a.Cool, a.Charges, a.Range, a.Cost, (flagW a.Sight)]) a.Effects) := by
  unfold ablW
  try dsimp only
  all_goals rfl
 rw [e2]
 exact answersGR [] [] rfl ⟨trivial, trivial⟩ rfl (by (repeat' apply And.intro) <;> first | trivial | rfl | exact flat_len (fun _ => rfl) _ | exact encI_len _ | assumption) (rfl) rfl rfl rfl (by decide) rfl rfl ⟨⟨rfl, rfl⟩, trivial⟩

def foeW (out : List Int) (f : GFoe) : List Int :=
  (rowsP (rowsL (out ++ [f.Id, f.Health, f.Hit, f.Every, f.Reach, f.Drops]) f.Script) f.Hoard)
theorem foeW_ok (out : List Int) (f : GFoe) (hb : out.length ≤ 15000000) (hS : f.Script.length ≤ 1000) (hH : f.Hoard.length ≤ 1000) : Ok Tryz.prog 29 [.ref 0 1 0 out.length, aGFoe f] [.row 3 1 (encI out)] (.ref 0 1 0 (foeW out f).length) [.row 3 1 (encI (foeW out f))] [0] := by
 refine Ok.len fun hlen => ?_
 have hl_f_Script : f.Script.length ≤ maxLen := hlen _ (by simp [lensL, lens, lensP])
 have hl_f_Hoard : f.Hoard.length ≤ maxLen := hlen _ (by simp [lensL, lens, lensP])
 unfold maxLen at hl_f_Script hl_f_Hoard
 refine ok_of_sem Tryz.func29 rfl ?_
 show Walks Tryz.prog _ _ ⟨[(0, .ref 0 1 0 out.length), (1, aGFoe f)], [(0, .row 3 1 (encI out))], 1, [], 27, 1⟩
 refine sem_seq (sem_region rfl (step_n (o := .box [_, _, _, _, _, _, _, _]) (nx' := 2) rfl rfl rfl trivial (step_n (nx' := 3) rfl rfl rfl trivial (step_nil (seqK_n (sem_seq (sem_region rfl (step_r rfl rfl trivial (step_r rfl rfl (by decide) (step_r rfl rfl trivial (step_r rfl rfl (by decide) ?_)))))))))))
 refine step_r rfl rfl trivial (step_r rfl rfl (by decide) (step_r rfl rfl trivial (step_r rfl rfl (by decide) (step_r rfl rfl trivial (step_r rfl rfl (by decide) (step_r rfl rfl trivial (step_r rfl rfl (by decide) (step_r rfl rfl trivial (step_n (o := .row _ _ [_, _, _, _, _, _]) (nx' := 4) rfl rfl rfl (by decide) ?_)))))))))
 refine step_appendC (m := 6) (new := [_, _, _, _, _, _]) (cs' := encI (out ++ [f.Id, f.Health, f.Hit, f.Every, f.Reach, f.Drops])) (n' := (out ++ [f.Id, f.Health, f.Hit, f.Every, f.Reach, f.Drops]).length) (H' := [(3, .row _ _ _), (2, .row _ _ _), (1, .box [_, _, _, _, _, _, _, _]), (0, .row _ _ _)]) rfl rfl rfl (rfl) rfl rfl rfl rfl rfl rfl (encI_len out) (rfl) (by first | decide | (unfold maxGrow; omega) | (unfold maxGrow; simp; omega) | (unfold maxGrow; simp only [List.length_append, List.length_take, List.length_drop, List.length_cons, List.length_nil, IntKind.wrap_i64] at *; omega)) (len_append out ([f.Id, f.Health, f.Hit, f.Every, f.Reach, f.Drops])) (encI_append out ([f.Id, f.Health, f.Hit, f.Every, f.Reach, f.Drops])) (.inl rfl) rfl rfl (.keep rfl (.keep rfl (.keep rfl (.keep rfl .nil)))) (.keep rfl (.keep rfl (.keep rfl (.keep rfl (.keep rfl (.keep rfl (.keep rfl (.keep rfl (.keep rfl (.keep rfl (.keep rfl (.keep rfl (.keep rfl (.lose (v' := .undef) rfl (.keep rfl (.keep rfl (.lose (v' := .undef) rfl (.keep rfl .nil)))))))))))))))))) ?_
 refine step_r rfl rfl trivial (step_nil (seqK_n (sem_seq ?_)))
 refine sem_drawW rfl (draw_perm [0, 1, 4, 2, 3, 5, 6, 7] (by decide +kernel) (draw_edges [(3, 2), (2, 1), (2, 0), (1, 0)] (by decide +kernel) (draw_tree rfl ?_)))
 refine drawL1 (m1 := 0) (by decide +kernel) rfl ?_
 refine step_r rfl rfl trivial (step_nil ?_)
 refine drawL1 (m1 := 1) (by decide +kernel) rfl ?_
 refine step_r rfl rfl (by decide) (step_nil ?_)
 refine drawL1 (m1 := 2) (by decide +kernel) rfl ?_
 refine step_r rfl rfl (by decide) (step_nil ?_)
 refine drawL2 (m1 := 3) (m2 := 5) (by decide +kernel) rfl rfl ?_ ?_
 ·refine step_r rfl rfl trivial (step_nil ?_)
  refine drawL2 (m1 := 4) (m2 := 5) (by decide +kernel) rfl rfl ?_ ?_
  ·refine step_callV (Hin := [.row _ _ _]) (out' := .ref 0 _ _ _) (H' := [(3, .row _ _ _), (2, .row _ _ _), (1, .box [_, _, _, _, _, _, _, _]), (0, .row _ _ _)]) (nx' := 4) [0] rfl rfl rfl rfl (.inl rfl) rfl rfl rfl rfl (rowsL_ok (out ++ [f.Id, f.Health, f.Hit, f.Every, f.Reach, f.Drops]) f.Script false (by first | omega | (simp; done) | (simp only [List.length_append, List.length_cons, List.length_nil] at *; omega) | (simp; omega))) rfl (by decide) rfl rfl (.keep rfl (.keep rfl (.keep rfl (.keep rfl .nil)))) (.keep rfl (.keep rfl (.keep rfl (.lose (v' := .undef) rfl (.lose (v' := .undef) rfl (.lose (v' := .undef) rfl (.keep rfl (.keep rfl (.keep rfl (.keep rfl (.keep rfl (.keep rfl (.keep rfl (.keep rfl (.keep rfl (.keep rfl (.keep rfl (.keep rfl (.keep rfl (.keep rfl (.keep rfl (.keep rfl (.keep rfl (.keep rfl .nil)))))))))))))))))))))))) rfl rfl rfl rfl ?_
   have p1 := rowsL_len (out ++ [f.Id, f.Health, f.Hit, f.Every, f.Reach, f.Drops]) f.Script
   refine step_nil ?_
   refine drawL1 (m1 := 5) (by decide +kernel) rfl ?_
   refine step_r rfl rfl trivial (step_nil ?_)
   refine drawL1 (m1 := 6) (by decide +kernel) rfl ?_
   refine step_callV (Hin := [.row _ _ _]) (out' := .ref 0 _ _ _) (H' := [(3, .row _ _ _), (2, .row _ _ _), (1, .box [_, _, _, _, _, _, _, _]), (0, .row _ _ _)]) (nx' := 4) [0] rfl rfl rfl rfl (.inl rfl) rfl rfl rfl rfl (rowsP_ok (rowsL (out ++ [f.Id, f.Health, f.Hit, f.Every, f.Reach, f.Drops]) f.Script) f.Hoard false (by first | omega | (simp; done) | (simp only [List.length_append, List.length_cons, List.length_nil] at *; omega) | (simp; omega))) rfl (by decide) rfl rfl (.keep rfl (.keep rfl (.keep rfl (.keep rfl .nil)))) (.keep rfl (.lose (v' := .undef) rfl (.keep rfl (.keep rfl (.keep rfl (.keep rfl (.keep rfl (.keep rfl (.keep rfl (.keep rfl (.keep rfl (.keep rfl (.keep rfl (.keep rfl (.keep rfl (.keep rfl (.keep rfl (.keep rfl (.keep rfl (.keep rfl (.keep rfl (.keep rfl (.keep rfl (.keep rfl (.keep rfl (.keep rfl .nil)))))))))))))))))))))))))) rfl rfl rfl rfl ?_
   have p2 := rowsP_len (rowsL (out ++ [f.Id, f.Health, f.Hit, f.Every, f.Reach, f.Drops]) f.Script) f.Hoard
   refine step_nil ?_
   refine drawL1 (m1 := 7) (by decide +kernel) rfl ?_
   refine step_r rfl rfl trivial (step_nil ?_)
   refine drawL_end (by decide +kernel) ?_
   refine seqK_n (sem_ret ?_)
   have e3 : foeW out f = (rowsP (rowsL (out ++ [f.Id, f.Health, f.Hit, f.Every, f.Reach, f.Drops]) f.Script) f.Hoard) := by
    unfold foeW
    try dsimp only
    all_goals rfl
   rw [e3]
   exact answersGR [] [] rfl ⟨trivial, trivial⟩ rfl (by (repeat' apply And.intro) <;> first | trivial | rfl | exact flat_len (fun _ => rfl) _ | exact encI_len _ | assumption) (rfl) rfl rfl rfl (by decide) rfl rfl ⟨⟨rfl, rfl⟩, trivial⟩
  ·refine step_r rfl rfl trivial (step_nil ?_)
   refine drawL1 (m1 := 4) (by decide +kernel) rfl ?_
   refine step_callV (Hin := [.row _ _ _]) (out' := .ref 0 _ _ _) (H' := [(3, .row _ _ _), (2, .row _ _ _), (1, .box [_, _, _, _, _, _, _, _]), (0, .row _ _ _)]) (nx' := 4) [0] rfl rfl rfl rfl (.inl rfl) rfl rfl rfl rfl (rowsL_ok (out ++ [f.Id, f.Health, f.Hit, f.Every, f.Reach, f.Drops]) f.Script false (by first | omega | (simp; done) | (simp only [List.length_append, List.length_cons, List.length_nil] at *; omega) | (simp; omega))) rfl (by decide) rfl rfl (.keep rfl (.keep rfl (.keep rfl (.keep rfl .nil)))) (.keep rfl (.keep rfl (.keep rfl (.keep rfl (.lose (v' := .undef) rfl (.lose (v' := .undef) rfl (.lose (v' := .undef) rfl (.keep rfl (.keep rfl (.keep rfl (.keep rfl (.keep rfl (.keep rfl (.keep rfl (.keep rfl (.keep rfl (.keep rfl (.keep rfl (.keep rfl (.keep rfl (.keep rfl (.keep rfl (.keep rfl (.keep rfl (.keep rfl .nil))))))))))))))))))))))))) rfl rfl rfl rfl ?_
   have p4 := rowsL_len (out ++ [f.Id, f.Health, f.Hit, f.Every, f.Reach, f.Drops]) f.Script
   refine step_nil ?_
   refine drawL1 (m1 := 6) (by decide +kernel) rfl ?_
   refine step_callV (Hin := [.row _ _ _]) (out' := .ref 0 _ _ _) (H' := [(3, .row _ _ _), (2, .row _ _ _), (1, .box [_, _, _, _, _, _, _, _]), (0, .row _ _ _)]) (nx' := 4) [0] rfl rfl rfl rfl (.inl rfl) rfl rfl rfl rfl (rowsP_ok (rowsL (out ++ [f.Id, f.Health, f.Hit, f.Every, f.Reach, f.Drops]) f.Script) f.Hoard false (by first | omega | (simp; done) | (simp only [List.length_append, List.length_cons, List.length_nil] at *; omega) | (simp; omega))) rfl (by decide) rfl rfl (.keep rfl (.keep rfl (.keep rfl (.keep rfl .nil)))) (.lose (v' := .undef) rfl (.keep rfl (.keep rfl (.keep rfl (.keep rfl (.keep rfl (.keep rfl (.keep rfl (.keep rfl (.keep rfl (.keep rfl (.keep rfl (.keep rfl (.keep rfl (.keep rfl (.keep rfl (.keep rfl (.keep rfl (.keep rfl (.keep rfl (.keep rfl (.keep rfl (.keep rfl (.keep rfl (.keep rfl (.keep rfl .nil)))))))))))))))))))))))))) rfl rfl rfl rfl ?_
   have p5 := rowsP_len (rowsL (out ++ [f.Id, f.Health, f.Hit, f.Every, f.Reach, f.Drops]) f.Script) f.Hoard
   refine step_nil ?_
   refine drawL1 (m1 := 7) (by decide +kernel) rfl ?_
   refine step_r rfl rfl trivial (step_nil ?_)
   refine drawL_end (by decide +kernel) ?_
   refine seqK_n (sem_ret ?_)
   have e6 : foeW out f = (rowsP (rowsL (out ++ [f.Id, f.Health, f.Hit, f.Every, f.Reach, f.Drops]) f.Script) f.Hoard) := by
    unfold foeW
    try dsimp only
    all_goals rfl
   rw [e6]
   exact answersGR [] [] rfl ⟨trivial, trivial⟩ rfl (by (repeat' apply And.intro) <;> first | trivial | rfl | exact flat_len (fun _ => rfl) _ | exact encI_len _ | assumption) (rfl) rfl rfl rfl (by decide) rfl rfl ⟨⟨rfl, rfl⟩, trivial⟩
 ·refine step_r rfl rfl trivial (step_nil ?_)
  refine drawL1 (m1 := 3) (by decide +kernel) rfl ?_
  refine step_r rfl rfl trivial (step_nil ?_)
  refine drawL1 (m1 := 4) (by decide +kernel) rfl ?_
  refine step_callV (Hin := [.row _ _ _]) (out' := .ref 0 _ _ _) (H' := [(3, .row _ _ _), (2, .row _ _ _), (1, .box [_, _, _, _, _, _, _, _]), (0, .row _ _ _)]) (nx' := 4) [0] rfl rfl rfl rfl (.inl rfl) rfl rfl rfl rfl (rowsL_ok (out ++ [f.Id, f.Health, f.Hit, f.Every, f.Reach, f.Drops]) f.Script false (by first | omega | (simp; done) | (simp only [List.length_append, List.length_cons, List.length_nil] at *; omega) | (simp; omega))) rfl (by decide) rfl rfl (.keep rfl (.keep rfl (.keep rfl (.keep rfl .nil)))) (.keep rfl (.keep rfl (.keep rfl (.keep rfl (.lose (v' := .undef) rfl (.lose (v' := .undef) rfl (.lose (v' := .undef) rfl (.keep rfl (.keep rfl (.keep rfl (.keep rfl (.keep rfl (.keep rfl (.keep rfl (.keep rfl (.keep rfl (.keep rfl (.keep rfl (.keep rfl (.keep rfl (.keep rfl (.keep rfl (.keep rfl (.keep rfl (.keep rfl .nil))))))))))))))))))))))))) rfl rfl rfl rfl ?_
  have p7 := rowsL_len (out ++ [f.Id, f.Health, f.Hit, f.Every, f.Reach, f.Drops]) f.Script
  refine step_nil ?_
  refine drawL1 (m1 := 6) (by decide +kernel) rfl ?_
  refine step_callV (Hin := [.row _ _ _]) (out' := .ref 0 _ _ _) (H' := [(3, .row _ _ _), (2, .row _ _ _), (1, .box [_, _, _, _, _, _, _, _]), (0, .row _ _ _)]) (nx' := 4) [0] rfl rfl rfl rfl (.inl rfl) rfl rfl rfl rfl (rowsP_ok (rowsL (out ++ [f.Id, f.Health, f.Hit, f.Every, f.Reach, f.Drops]) f.Script) f.Hoard false (by first | omega | (simp; done) | (simp only [List.length_append, List.length_cons, List.length_nil] at *; omega) | (simp; omega))) rfl (by decide) rfl rfl (.keep rfl (.keep rfl (.keep rfl (.keep rfl .nil)))) (.lose (v' := .undef) rfl (.keep rfl (.keep rfl (.keep rfl (.keep rfl (.keep rfl (.keep rfl (.keep rfl (.keep rfl (.keep rfl (.keep rfl (.keep rfl (.keep rfl (.keep rfl (.keep rfl (.keep rfl (.keep rfl (.keep rfl (.keep rfl (.keep rfl (.keep rfl (.keep rfl (.keep rfl (.keep rfl (.keep rfl (.keep rfl .nil)))))))))))))))))))))))))) rfl rfl rfl rfl ?_
  have p8 := rowsP_len (rowsL (out ++ [f.Id, f.Health, f.Hit, f.Every, f.Reach, f.Drops]) f.Script) f.Hoard
  refine step_nil ?_
  refine drawL1 (m1 := 7) (by decide +kernel) rfl ?_
  refine step_r rfl rfl trivial (step_nil ?_)
  refine drawL_end (by decide +kernel) ?_
  refine seqK_n (sem_ret ?_)
  have e9 : foeW out f = (rowsP (rowsL (out ++ [f.Id, f.Health, f.Hit, f.Every, f.Reach, f.Drops]) f.Script) f.Hoard) := by
   unfold foeW
   try dsimp only
   all_goals rfl
  rw [e9]
  exact answersGR [] [] rfl ⟨trivial, trivial⟩ rfl (by (repeat' apply And.intro) <;> first | trivial | rfl | exact flat_len (fun _ => rfl) _ | exact encI_len _ | assumption) (rfl) rfl rfl rfl (by decide) rfl rfl ⟨⟨rfl, rfl⟩, trivial⟩

theorem ablW_len (out : List Int) (a : GAbility) : (ablW out a).length = out.length + 8 + 3 * a.Effects.length := by
  unfold ablW; rw [rowsE_len, List.length_append]; simp only [List.length_cons, List.length_nil]; try omega
theorem foeW_len (out : List Int) (f : GFoe) : (foeW out f).length = out.length + 8 + 5 * f.Script.length + 2 * f.Hoard.length := by
  unfold foeW; rw [rowsP_len, rowsL_len, List.length_append]; simp only [List.length_cons, List.length_nil]; try omega
theorem mem_at {α : Type} {l : List α} {P : α → Prop} (h : ∀ x ∈ l, P x) {k : Nat} {x : α} (hx : l[k]? = some x) : P x := h x (List.mem_of_getElem? hx)

def rowsA_L0 : List GAbility → Nat → (List Int) → List Int
  | [], k0, out0 => out0
  | x0 :: l_, k0, out0 => rowsA_L0 l_ (k0 + 1) (ablW out0 x0)
def rowsA (out : List Int) (l : List GAbility) : List Int :=
  (let out_0 := rowsA_L0 l 0 (out ++ [(l.length : Int)]); out_0)
def rowsF_L0 : List GFoe → Nat → (List Int) → List Int
  | [], k0, out0 => out0
  | x0 :: l_, k0, out0 => rowsF_L0 l_ (k0 + 1) (foeW out0 x0)
def rowsF (out : List Int) (l : List GFoe) : List Int :=
  (let out_0 := rowsF_L0 l 0 (out ++ [(l.length : Int)]); out_0)
theorem rowsF_ok (out : List Int) (l : List GFoe) (l_f : Bool) (hb : out.length + 7010 * l.length ≤ 14000000) (hF : ∀ x ∈ l, x.Script.length ≤ 1000 ∧ x.Hoard.length ≤ 1000) : Ok Tryz.prog 24 [.ref 0 1 0 out.length, .pv (.slc l.length l_f (l.flatMap encGFoe)), .fnc 29 []] [.row 3 1 (encI out)] (.ref 0 1 0 (rowsF out l).length) [.row 3 1 (encI (rowsF out l))] [0] := by
 refine Ok.len fun hlen => ?_
 have hl_l : l.length ≤ maxLen := hlen _ (by simp [lensL, lens, lensP])
 unfold maxLen at hl_l
 refine ok_of_sem Tryz.func24 rfl ?_
 show Walks Tryz.prog _ _ ⟨[(0, .ref 0 1 0 out.length), (1, .pv (.slc l.length l_f (l.flatMap encGFoe))), (2, .fnc 29 [])], [(0, .row 3 1 (encI out))], 1, [], 26, 1⟩
 refine sem_trans (Trans.loose (T' := [(0, .ref 0 1 0 out.length), (1, .pv (.slc l.length l_f (l.flatMap encGFoe))), (2, .pv (.fn 29))]) (H' := [(0, .row 3 1 (encI out))]) ⟨⟨_, rfl, .inl rfl⟩, ⟨_, rfl, .inl rfl⟩, ⟨_, rfl, .inr rfl⟩, trivial⟩ ⟨⟨_, rfl, .inl rfl⟩, trivial⟩) ?_
 refine sem_seq (sem_region rfl (step_n (nx' := 2) rfl rfl rfl trivial (step_nil (seqK_n (sem_seq (sem_region rfl (step_r rfl rfl trivial (step_r rfl rfl trivial (step_r rfl rfl trivial (step_n (o := .row _ _ [_]) (nx' := 3) rfl rfl rfl (by decide) ?_))))))))))
 refine step_appendC (m := 1) (new := [_]) (cs' := encI (out ++ [(l.length : Int)])) (n' := (out ++ [(l.length : Int)]).length) (H' := [(2, .row _ _ _), (1, .row _ _ _), (0, .row _ _ _)]) rfl rfl rfl (rfl) rfl rfl rfl rfl rfl rfl (encI_len out) (rfl) (by first | decide | (unfold maxGrow; omega) | (unfold maxGrow; simp; omega) | (unfold maxGrow; simp only [List.length_append, List.length_take, List.length_drop, List.length_cons, List.length_nil, IntKind.wrap_i64] at *; omega)) (len_snoc out _) (((encI_snoc out (l.length : Int))).symm) (.inl rfl) rfl rfl (.keep rfl (.keep rfl (.keep rfl .nil))) (.keep rfl (.keep rfl (.keep rfl (.lose (v' := .undef) rfl (.keep rfl (.lose (v' := .undef) rfl (.keep rfl (.keep rfl .nil)))))))) ?_
 refine step_r rfl rfl trivial (step_nil (seqK_n (sem_seq (sem_seq (sem_region rfl (step_r rfl rfl trivial (step_r rfl rfl trivial (step_r rfl rfl trivial (step_nil (seqK_n ?_))))))))))
 refine sem_cutW (fun out_0 : List Int => (⟨[(0, .ref 0 1 0 out_0.length)], [(0, .row 3 1 (encI out_0))], 1, [0], 26, 1⟩ : St)) (fun out_0 : List Int => rowsF_L0 l 0 (out ++ [(l.length : Int)]) = out_0 ∧ (out_0.length ≤ out.length + 1 + 7008 * l.length)) ?_ ?_
 ·refine sem_block ?_
  refine sem_loopT (fun w_ : Nat × (List Int) => match w_ with | (k0, out0) => (⟨[(0, .ref 0 1 0 out0.length), (2, .pv (.fn 29)), (14, .pv (.slc l.length l_f (l.flatMap encGFoe))), (15, I l.length), (16, I k0)], [(0, .row 3 1 (encI out0))], 1, [0], 26, 1⟩ : St)) (fun w_ : Nat × (List Int) => match w_ with | (k0, out0) => rowsF_L0 (l.drop k0) k0 out0 = rowsF_L0 l 0 (out ++ [(l.length : Int)]) ∧ k0 ≤ l.length ∧ out.length + 1 ≤ out0.length ∧ out0.length ≤ out.length + 1 + 7008 * k0) (fun w_ : Nat × (List Int) => match w_ with | (k0, out0) => l.length - k0) (0, (out ++ [(l.length : Int)])) (⟨rfl, Nat.zero_le _, by first | omega | simp | (simp; omega)⟩) ?_ (fun w_ hh_ => ?_)
  ·exact (Trans.ren [] (by decide +kernel) (by decide +kernel) rfl ⟨⟨rfl, rfl⟩, ⟨rfl, rfl⟩, ⟨rfl, rfl⟩, ⟨rfl, rfl⟩, ⟨rfl, rfl⟩, trivial⟩ ⟨⟨rfl, rfl, rfl⟩, trivial⟩ (by decide))
  obtain ⟨k0, out0⟩ := w_
  obtain ⟨hI0, hb0, hv0⟩ := hh_
  show Walks Tryz.prog _ _ (⟨[(0, .ref 0 1 0 out0.length), (2, .pv (.fn 29)), (14, .pv (.slc l.length l_f (l.flatMap encGFoe))), (15, I l.length), (16, I k0)], [(0, .row 3 1 (encI out0))], 1, [0], 26, 1⟩ : St)
  refine sem_seq (sem_region rfl (step_bin rfl rfl rfl rfl rfl trivial (step_nil (seqK_n (sem_seq ?_)))))
  refine sem_cond rfl (fun h2 => ?_) (fun h2 => ?_)
  ·have g2 : (k0 : Int) < l.length := of_decide_eq_true h2
   have hk0 : k0 < l.length := by omega
   obtain ⟨x0, hx0⟩ : ∃ z_, l[k0]? = some z_ := ⟨_, List.getElem?_eq_getElem hk0⟩
   refine sem_skip (seqK_n (sem_seq (sem_block (sem_seq (sem_region rfl (step_idxS (k := k0) rfl rfl rfl rfl hk0 (flat_ne (s := 8) (enc := encGFoe) (fun _ => rfl) (by decide) hk0) rfl (step_load_row rfl rfl rfl (flat_lt (s := 8) (enc := encGFoe) (fun _ => rfl) hk0) (flat_take (s := 8) (enc := encGFoe) (fun _ => rfl) hx0) rfl (step_n (o := .box [_, _, _, _, _, _, _, _]) (nx' := 2) rfl rfl rfl trivial ?_))))))))
   refine step_storeB (H' := [(1, .box [_, _, _, _, _, _, _, _]), (0, _)]) rfl rfl rfl rfl rfl rfl (.inl rfl) rfl ?_
   refine step_nil (seqK_n (sem_region rfl (step_r rfl rfl trivial (step_r rfl rfl trivial (step_r (v := (.agg [_, _, _, _, _, _, _, _])) rfl rfl (Nat.le_of_ble_eq_true rfl) ?_)))))
   refine step_callV (Hin := [.row _ _ _]) (out' := .ref 0 _ _ _) (H' := [(1, .box [_, _, _, _, _, _, _, _]), (0, .row _ _ _)]) (nx' := 2) [0] rfl rfl rfl rfl (.inl rfl) rfl rfl rfl rfl (foeW_ok out0 x0 (by first | omega | (simp; done) | (simp only [List.length_append, List.length_cons, List.length_nil] at *; omega) | (simp; omega)) (by first | exact (mem_at hF (by assumption)).1 | (first | omega | (simp; done) | (simp only [List.length_append, List.length_cons, List.length_nil] at *; omega) | (simp; omega))) (by first | exact (mem_at hF (by assumption)).2 | (first | omega | (simp; done) | (simp only [List.length_append, List.length_cons, List.length_nil] at *; omega) | (simp; omega)))) rfl (by decide) rfl rfl (.keep rfl (.keep rfl .nil)) (.keep rfl (.lose (v' := .undef) rfl (.keep rfl (.keep rfl (.keep rfl (.keep rfl (.keep rfl (.lose (v' := .undef) rfl (.keep rfl (.keep rfl (.keep rfl (.keep rfl .nil)))))))))))) rfl rfl rfl rfl ?_
   have p3 := foeW_len out0 x0
   refine step_r rfl rfl trivial (step_nil (blkK_n (seqK_n (sem_region rfl (step_bin rfl rfl rfl rfl rfl trivial (step_r rfl rfl trivial (step_nil ?_)))))))
   have e5 : rowsF_L0 (l.drop k0) k0 out0 = rowsF_L0 (l.drop (k0 + 1)) (k0 + 1) (foeW out0 x0) := by
    rewrite [drop_cons hx0]
    rewrite [rowsF_L0]
    try dsimp only
    all_goals rfl
   exact lup_againT (k0 + 1, (foeW out0 x0)) ⟨e5.symm.trans hI0, hk0, by first | omega | assumption | (simp only [List.length_append, List.length_cons, List.length_nil, List.length_set]; omega) | (simp; omega) | grind⟩ (by show l.length - (k0 + 1) < l.length - k0; omega) (Trans.ren [] (by decide +kernel) (by decide +kernel) rfl ⟨⟨rfl, rfl⟩, ⟨rfl, rfl⟩, ⟨rfl, rfl⟩, ⟨rfl, rfl⟩, ⟨congrArg (fun n => some (I n)) (wrapI (k := k0) (by first | omega | (simp; omega))), rfl⟩, trivial⟩ ⟨⟨rfl, rfl, rfl⟩, trivial⟩ (by decide))
  ·have g2 : ¬ ((k0 : Int) < l.length) := of_decide_eq_false h2
   have hk0 : k0 = l.length := by omega
   refine sem_exit (seqK_e (lupK_e (blkK_t rfl ?_)))
   have e6 : rowsF_L0 l 0 (out ++ [(l.length : Int)]) = out0 := by
    rewrite [← hI0, hk0, List.drop_length]
    rewrite [rowsF_L0]
    try dsimp only
    all_goals rfl
   exact cutW_n out0 ⟨e6, by first | assumption | omega | (simp; omega) | simp_all | grind⟩ (Trans.ren [] (by decide +kernel) (by decide +kernel) rfl ⟨⟨rfl, rfl⟩, trivial⟩ ⟨⟨rfl, rfl, rfl⟩, trivial⟩ (by decide))
 ·rintro out_0 ⟨(hJ1 : rowsF_L0 l 0 (out ++ [(l.length : Int)]) = out_0), hE0⟩
  show seqK _ _ _ .normal (⟨[(0, .ref 0 1 0 out_0.length)], [(0, .row 3 1 (encI out_0))], 1, [0], 26, 1⟩ : St)
  refine seqK_n (sem_seq (sem_region rfl (step_r rfl rfl trivial (step_r rfl rfl trivial (step_nil (seqK_n (sem_ret ?_)))))))
  have e7 : rowsF out l = out_0 := by
   unfold rowsF
   try dsimp only
   rewrite [hJ1]
   try dsimp only
   all_goals rfl
  rw [e7]
  exact answersGR [] [] rfl ⟨trivial, trivial⟩ rfl (by (repeat' apply And.intro) <;> first | trivial | rfl | exact flat_len (fun _ => rfl) _ | exact encI_len _ | assumption) (rfl) rfl rfl rfl (by decide) rfl rfl ⟨⟨rfl, rfl⟩, trivial⟩

structure Fits (c : GContent) : Prop where
  ab : c.Abilities.length ≤ 1000
  eff : ∀ x ∈ c.Abilities, x.Effects.length ≤ 1000
  au : c.Auras.length ≤ 100000
  fo : c.Foes.length ≤ 1000
  sc : ∀ x ∈ c.Foes, x.Script.length ≤ 1000 ∧ x.Hoard.length ≤ 1000
  wall : c.Map.Wall.length ≤ 1000000
theorem rowsA_L0_len : ∀ (l : List GAbility) (k : Nat) (out : List Int), (∀ x ∈ l, x.Effects.length ≤ 1000) → (rowsA_L0 l k out).length ≤ out.length + 3008 * l.length
  | [], k, out, _ => by rw [rowsA_L0]; exact Nat.le_refl _
  | x :: l, k, out, h => by
    rw [rowsA_L0]
    have h1 := rowsA_L0_len l (k + 1) (ablW out x) (fun y hy => h y (List.mem_cons_of_mem _ hy))
    have h2 := ablW_len out x
    have h3 := h x List.mem_cons_self
    simp only [List.length_cons]; omega
theorem rowsA_len (out : List Int) (l : List GAbility) (h : ∀ x ∈ l, x.Effects.length ≤ 1000) : (rowsA out l).length ≤ out.length + 1 + 3008 * l.length := by
  unfold rowsA; dsimp only
  have := rowsA_L0_len l 0 (out ++ [(l.length : Int)]) h
  simp only [List.length_append, List.length_cons, List.length_nil] at this; omega
theorem rowsF_L0_len : ∀ (l : List GFoe) (k : Nat) (out : List Int), (∀ x ∈ l, x.Script.length ≤ 1000 ∧ x.Hoard.length ≤ 1000) → (rowsF_L0 l k out).length ≤ out.length + 7008 * l.length
  | [], k, out, _ => by rw [rowsF_L0]; exact Nat.le_refl _
  | x :: l, k, out, h => by
    rw [rowsF_L0]
    have h1 := rowsF_L0_len l (k + 1) (foeW out x) (fun y hy => h y (List.mem_cons_of_mem _ hy))
    have h2 := foeW_len out x
    have h3 := h x List.mem_cons_self
    simp only [List.length_cons]; omega
theorem rowsF_len (out : List Int) (l : List GFoe) (h : ∀ x ∈ l, x.Script.length ≤ 1000 ∧ x.Hoard.length ≤ 1000) : (rowsF out l).length ≤ out.length + 1 + 7008 * l.length := by
  unfold rowsF; dsimp only
  have := rowsF_L0_len l 0 (out ++ [(l.length : Int)]) h
  simp only [List.length_append, List.length_cons, List.length_nil] at this; omega

def rowsA0_L0 : List GAbility → Nat → (List Int) → List Int
  | [], k0, out0 => out0
  | x0 :: l_, k0, out0 => rowsA0_L0 l_ (k0 + 1) (ablW out0 x0)
def rowsA0 (l : List GAbility) : List Int :=
  (let out_0 := rowsA0_L0 l 0 ([(l.length : Int)]); out_0)
theorem rowsA0_ok (l : List GAbility) (l_f : Bool) (hb : 3010 * l.length ≤ 12000000) (hE : ∀ x ∈ l, x.Effects.length ≤ 1000) : Ok Tryz.prog 26 [.pv (.slc 0 true []), .pv (.slc l.length l_f (l.flatMap encGAbility)), .fnc 27 []] [] (.ref 0 1 0 (rowsA0 l).length) [.row 3 1 (encI (rowsA0 l))] [] := by
 refine Ok.len fun hlen => ?_
 have hl_l : l.length ≤ maxLen := hlen _ (by simp [lensL, lens, lensP])
 unfold maxLen at hl_l
 refine ok_of_sem Tryz.func26 rfl ?_
 show Walks Tryz.prog _ _ ⟨[(0, .pv (.slc 0 true [])), (1, .pv (.slc l.length l_f (l.flatMap encGAbility))), (2, .fnc 27 [])], [], 0, [], 26, 0⟩
 refine sem_trans (Trans.loose (T' := [(0, .pv (.slc 0 true [])), (1, .pv (.slc l.length l_f (l.flatMap encGAbility))), (2, .pv (.fn 27))]) (H' := []) ⟨⟨_, rfl, .inl rfl⟩, ⟨_, rfl, .inl rfl⟩, ⟨_, rfl, .inr rfl⟩, trivial⟩ trivial) ?_
 refine sem_seq (sem_region rfl (step_n (nx' := 1) rfl rfl rfl trivial (step_nil (seqK_n (sem_seq (sem_region rfl (step_r rfl rfl trivial (step_r rfl rfl trivial (step_r rfl rfl trivial (step_n (o := .row _ _ [_]) (nx' := 2) rfl rfl rfl (by decide) ?_))))))))))
 refine step_appendN (m := 1) (new := [_]) (cs' := encI [(l.length : Int)]) rfl rfl (rfl) rfl rfl rfl rfl rfl rfl (rfl) (by first | decide | (unfold maxGrow; omega) | (unfold maxGrow; simp; omega) | (unfold maxGrow; simp only [List.length_append, List.length_take, List.length_drop, List.length_cons, List.length_nil, IntKind.wrap_i64] at *; omega)) rfl rfl rfl rfl ?_
 refine step_r rfl rfl trivial (step_nil (seqK_n (sem_seq (sem_seq (sem_region rfl (step_r rfl rfl trivial (step_r rfl rfl trivial (step_r rfl rfl trivial (step_nil (seqK_n ?_))))))))))
 refine sem_cutW (fun out_0 : List Int => (⟨[(0, .ref 0 1 0 out_0.length)], [(0, .row 3 1 (encI out_0))], 1, [], 26, 0⟩ : St)) (fun out_0 : List Int => rowsA0_L0 l 0 ([(l.length : Int)]) = out_0 ∧ (out_0.length ≤ 1 + 3008 * l.length)) ?_ ?_
 ·refine sem_block ?_
  refine sem_loopT (fun w_ : Nat × (List Int) => match w_ with | (k0, out0) => (⟨[(0, .ref 0 1 0 out0.length), (2, .pv (.fn 27)), (14, .pv (.slc l.length l_f (l.flatMap encGAbility))), (15, I l.length), (16, I k0)], [(0, .row 3 1 (encI out0))], 1, [], 26, 0⟩ : St)) (fun w_ : Nat × (List Int) => match w_ with | (k0, out0) => rowsA0_L0 (l.drop k0) k0 out0 = rowsA0_L0 l 0 ([(l.length : Int)]) ∧ k0 ≤ l.length ∧ out0.length ≤ 1 + 3008 * k0) (fun w_ : Nat × (List Int) => match w_ with | (k0, out0) => l.length - k0) (0, [(l.length : Int)]) (⟨rfl, Nat.zero_le _, by first | omega | simp | (simp; omega)⟩) ?_ (fun w_ hh_ => ?_)
  ·exact (Trans.ren [(0, 2), (2, 0)] (by decide +kernel) (by decide +kernel) rfl ⟨⟨congrArg (fun n => some (AV.ref 2 1 0 n)) (by first | rfl | simp only [List.length_set] | simp | omega | (simp; omega)), rfl⟩, ⟨rfl, rfl⟩, ⟨rfl, rfl⟩, ⟨rfl, rfl⟩, ⟨rfl, rfl⟩, trivial⟩ ⟨⟨rfl, rfl, rfl⟩, trivial⟩ (by decide))
  obtain ⟨k0, out0⟩ := w_
  obtain ⟨hI0, hb0, hv0⟩ := hh_
  show Walks Tryz.prog _ _ (⟨[(0, .ref 0 1 0 out0.length), (2, .pv (.fn 27)), (14, .pv (.slc l.length l_f (l.flatMap encGAbility))), (15, I l.length), (16, I k0)], [(0, .row 3 1 (encI out0))], 1, [], 26, 0⟩ : St)
  refine sem_seq (sem_region rfl (step_bin rfl rfl rfl rfl rfl trivial (step_nil (seqK_n (sem_seq ?_)))))
  refine sem_cond rfl (fun h2 => ?_) (fun h2 => ?_)
  ·have g2 : (k0 : Int) < l.length := of_decide_eq_true h2
   have hk0 : k0 < l.length := by omega
   obtain ⟨x0, hx0⟩ : ∃ z_, l[k0]? = some z_ := ⟨_, List.getElem?_eq_getElem hk0⟩
   refine sem_skip (seqK_n (sem_seq (sem_block (sem_seq (sem_region rfl (step_idxS (k := k0) rfl rfl rfl rfl hk0 (flat_ne (s := 8) (enc := encGAbility) (fun _ => rfl) (by decide) hk0) rfl (step_load_row rfl rfl rfl (flat_lt (s := 8) (enc := encGAbility) (fun _ => rfl) hk0) (flat_take (s := 8) (enc := encGAbility) (fun _ => rfl) hx0) rfl (step_n (o := .box [_, _, _, _, _, _, _, _]) (nx' := 2) rfl rfl rfl trivial ?_))))))))
   refine step_storeB (H' := [(1, .box [_, _, _, _, _, _, _, _]), (0, _)]) rfl rfl rfl rfl rfl rfl (.inl rfl) rfl ?_
   refine step_nil (seqK_n (sem_region rfl (step_r rfl rfl trivial (step_r rfl rfl trivial (step_r (v := (.agg [_, _, _, _, _, _, _, _])) rfl rfl (Nat.le_of_ble_eq_true rfl) ?_)))))
   refine step_callV (Hin := [.row _ _ _]) (out' := .ref 0 _ _ _) (H' := [(1, .box [_, _, _, _, _, _, _, _]), (0, .row _ _ _)]) (nx' := 2) [0] rfl rfl rfl rfl (.inl rfl) rfl rfl rfl rfl (ablW_ok out0 x0 (by first | omega | (simp; done) | (simp only [List.length_append, List.length_cons, List.length_nil] at *; omega) | (simp; omega)) (by first | exact mem_at hE (by assumption) | (first | omega | (simp; done) | (simp only [List.length_append, List.length_cons, List.length_nil] at *; omega) | (simp; omega)))) rfl (by decide) rfl rfl (.keep rfl (.keep rfl .nil)) (.keep rfl (.lose (v' := .undef) rfl (.keep rfl (.keep rfl (.keep rfl (.keep rfl (.keep rfl (.lose (v' := .undef) rfl (.keep rfl (.keep rfl (.keep rfl (.keep rfl .nil)))))))))))) rfl rfl rfl rfl ?_
   have p3 := ablW_len out0 x0
   refine step_r rfl rfl trivial (step_nil (blkK_n (seqK_n (sem_region rfl (step_bin rfl rfl rfl rfl rfl trivial (step_r rfl rfl trivial (step_nil ?_)))))))
   have e5 : rowsA0_L0 (l.drop k0) k0 out0 = rowsA0_L0 (l.drop (k0 + 1)) (k0 + 1) (ablW out0 x0) := by
    rewrite [drop_cons hx0]
    rewrite [rowsA0_L0]
    try dsimp only
    all_goals rfl
   exact lup_againT (k0 + 1, (ablW out0 x0)) ⟨e5.symm.trans hI0, hk0, by first | omega | assumption | (simp only [List.length_append, List.length_cons, List.length_nil, List.length_set]; omega) | (simp; omega) | grind⟩ (by show l.length - (k0 + 1) < l.length - k0; omega) (Trans.ren [] (by decide +kernel) (by decide +kernel) rfl ⟨⟨rfl, rfl⟩, ⟨rfl, rfl⟩, ⟨rfl, rfl⟩, ⟨rfl, rfl⟩, ⟨congrArg (fun n => some (I n)) (wrapI (k := k0) (by first | omega | (simp; omega))), rfl⟩, trivial⟩ ⟨⟨rfl, rfl, rfl⟩, trivial⟩ (by decide))
  ·have g2 : ¬ ((k0 : Int) < l.length) := of_decide_eq_false h2
   have hk0 : k0 = l.length := by omega
   refine sem_exit (seqK_e (lupK_e (blkK_t rfl ?_)))
   have e6 : rowsA0_L0 l 0 ([(l.length : Int)]) = out0 := by
    rewrite [← hI0, hk0, List.drop_length]
    rewrite [rowsA0_L0]
    try dsimp only
    all_goals rfl
   exact cutW_n out0 ⟨e6, by first | assumption | omega | (simp; omega) | simp_all | grind⟩ (Trans.ren [] (by decide +kernel) (by decide +kernel) rfl ⟨⟨rfl, rfl⟩, trivial⟩ ⟨⟨rfl, rfl, rfl⟩, trivial⟩ (by decide))
 ·rintro out_0 ⟨(hJ1 : rowsA0_L0 l 0 ([(l.length : Int)]) = out_0), hE0⟩
  show seqK _ _ _ .normal (⟨[(0, .ref 0 1 0 out_0.length)], [(0, .row 3 1 (encI out_0))], 1, [], 26, 0⟩ : St)
  refine seqK_n (sem_seq (sem_region rfl (step_r rfl rfl trivial (step_r rfl rfl trivial (step_nil (seqK_n (sem_ret ?_)))))))
  have e7 : rowsA0 l = out_0 := by
   unfold rowsA0
   try dsimp only
   rewrite [hJ1]
   try dsimp only
   all_goals rfl
  rw [e7]
  exact answersGR [] [0] rfl ⟨trivial, trivial⟩ rfl (by (repeat' apply And.intro) <;> first | trivial | rfl | exact flat_len (fun _ => rfl) _ | exact encI_len _ | assumption) (rfl) rfl rfl rfl (by decide) rfl rfl ⟨⟨rfl, rfl⟩, trivial⟩

theorem rowsA0_is (l : List GAbility) : rowsA0 l = rowsA [] l := by
  have go : ∀ (l : List GAbility) (k : Nat) (out : List Int), rowsA0_L0 l k out = rowsA_L0 l k out := by
    intro l
    induction l with
    | nil => intro k out; rw [rowsA0_L0, rowsA_L0]
    | cons x l ih => intro k out; rw [rowsA0_L0, rowsA_L0, ih]
  unfold rowsA0 rowsA; dsimp only; rw [go]; rfl
theorem rowsA0_len (l : List GAbility) (h : ∀ x ∈ l, x.Effects.length ≤ 1000) : (rowsA0 l).length ≤ 1 + 3008 * l.length := by
  rw [rowsA0_is]
  have := rowsA_len [] l h
  simpa [Nat.add_assoc] using this

def flat (c : GContent) : List Int :=
  ((rowsW ((rowsF (rowsU (rowsA0 c.Abilities) c.Auras) c.Foes) ++ [c.Map.W, c.Map.H]) c.Map.Wall) ++ [c.Door.X, c.Door.Y, c.Lair.X, c.Lair.Y])
theorem flat_ok (c : GContent) (hF : Fits c) : Ok Tryz.prog 10 [aGContent c] [] (.ref 0 1 0 (flat c).length) [.row 3 1 (encI (flat c))] [] := by
 refine Ok.len fun hlen => ?_
 have hl_c_Abilities : c.Abilities.length ≤ maxLen := hlen _ (by simp [lensL, lens, lensP])
 have hl_c_Auras : c.Auras.length ≤ maxLen := hlen _ (by simp [lensL, lens, lensP])
 have hl_c_Foes : c.Foes.length ≤ maxLen := hlen _ (by simp [lensL, lens, lensP])
 have hl_c_Map_Wall : c.Map.Wall.length ≤ maxLen := hlen _ (by simp [lensL, lens, lensP])
 unfold maxLen at hl_c_Abilities hl_c_Auras hl_c_Foes hl_c_Map_Wall
 have hf1 := hF.ab
 have hf2 := hF.au
 have hf3 := hF.fo
 have hf4 := hF.wall
 refine ok_of_sem Tryz.func10 rfl ?_
 show Walks Tryz.prog _ _ ⟨[(0, aGContent c)], [], 0, [], 41, 0⟩
 refine sem_seq (sem_region rfl (step_n (o := .box [_, _, _, _, _, _, _, _, _, _]) (nx' := 1) rfl rfl rfl trivial (step_n (nx' := 2) rfl rfl rfl trivial (step_nil (seqK_n (sem_seq ?_))))))
 refine sem_drawW rfl (draw_perm [0, 3, 6, 1, 2, 4, 5, 7, 8, 9] (by decide +kernel) (draw_edges [(5, 2), (3, 2), (3, 1), (2, 1), (2, 0), (1, 0)] (by decide +kernel) (draw_tree rfl ?_)))
 have p1 := rowsA0_len c.Abilities (by first | assumption | exact hF.eff)
 have p2 := rowsU_len (rowsA0 c.Abilities) c.Auras
 have p3 := rowsF_len (rowsU (rowsA0 c.Abilities) c.Auras) c.Foes (by first | assumption | exact hF.sc)
 refine drawL_to (drawL_dag [(10, #[false, false, false, false, false, false, false, false, false, false], (⟨[(1, .ptr 0 0)], [(0, .box [.pv (.slc c.Abilities.length false (c.Abilities.flatMap encGAbility)), .pv (.slc c.Auras.length false (c.Auras.flatMap encGAura)), .pv (.slc c.Foes.length false (c.Foes.flatMap encGFoe)), I c.Map.W, I c.Map.H, .pv (.slc c.Map.Wall.length false (encB c.Map.Wall)), I c.Door.X, I c.Door.Y, I c.Lair.X, I c.Lair.Y])], 2, [], 41, 0⟩ : St)), (9, #[true, false, false, false, false, false, false, false, false, false], (⟨[(1, .ptr 0 0), (4, .ptr 0 0)], [(0, .box [.pv (.slc c.Abilities.length false (c.Abilities.flatMap encGAbility)), .pv (.slc c.Auras.length false (c.Auras.flatMap encGAura)), .pv (.slc c.Foes.length false (c.Foes.flatMap encGFoe)), I c.Map.W, I c.Map.H, .pv (.slc c.Map.Wall.length false (encB c.Map.Wall)), I c.Door.X, I c.Door.Y, I c.Lair.X, I c.Lair.Y])], 2, [], 41, 0⟩ : St)), (8, #[true, true, false, false, false, false, false, false, false, false], (⟨[(1, .ptr 0 0), (4, .ptr 0 0), (7, .ptr 0 1)], [(0, .box [.pv (.slc c.Abilities.length false (c.Abilities.flatMap encGAbility)), .pv (.slc c.Auras.length false (c.Auras.flatMap encGAura)), .pv (.slc c.Foes.length false (c.Foes.flatMap encGFoe)), I c.Map.W, I c.Map.H, .pv (.slc c.Map.Wall.length false (encB c.Map.Wall)), I c.Door.X, I c.Door.Y, I c.Lair.X, I c.Lair.Y])], 2, [], 41, 0⟩ : St)), (7, #[true, true, true, false, false, false, false, false, false, false], (⟨[(1, .ptr 0 0), (4, .ptr 0 0), (7, .ptr 0 1), (10, .ptr 0 2)], [(0, .box [.pv (.slc c.Abilities.length false (c.Abilities.flatMap encGAbility)), .pv (.slc c.Auras.length false (c.Auras.flatMap encGAura)), .pv (.slc c.Foes.length false (c.Foes.flatMap encGFoe)), I c.Map.W, I c.Map.H, .pv (.slc c.Map.Wall.length false (encB c.Map.Wall)), I c.Door.X, I c.Door.Y, I c.Lair.X, I c.Lair.Y])], 2, [], 41, 0⟩ : St)), (6, #[true, true, true, true, false, false, false, false, false, false], (⟨[(1, .ptr 0 0), (5, .pv (.slc c.Abilities.length false (c.Abilities.flatMap encGAbility))), (7, .ptr 0 1), (10, .ptr 0 2)], [(0, .box [.pv (.slc c.Abilities.length false (c.Abilities.flatMap encGAbility)), .pv (.slc c.Auras.length false (c.Auras.flatMap encGAura)), .pv (.slc c.Foes.length false (c.Foes.flatMap encGFoe)), I c.Map.W, I c.Map.H, .pv (.slc c.Map.Wall.length false (encB c.Map.Wall)), I c.Door.X, I c.Door.Y, I c.Lair.X, I c.Lair.Y])], 2, [], 41, 0⟩ : St)), (6, #[true, true, true, false, false, true, false, false, false, false], (⟨[(1, .ptr 0 0), (4, .ptr 0 0), (8, .pv (.slc c.Auras.length false (c.Auras.flatMap encGAura))), (10, .ptr 0 2)], [(0, .box [.pv (.slc c.Abilities.length false (c.Abilities.flatMap encGAbility)), .pv (.slc c.Auras.length false (c.Auras.flatMap encGAura)), .pv (.slc c.Foes.length false (c.Foes.flatMap encGFoe)), I c.Map.W, I c.Map.H, .pv (.slc c.Map.Wall.length false (encB c.Map.Wall)), I c.Door.X, I c.Door.Y, I c.Lair.X, I c.Lair.Y])], 2, [], 41, 0⟩ : St)), (6, #[true, true, true, false, false, false, false, true, false, false], (⟨[(1, .ptr 0 0), (4, .ptr 0 0), (7, .ptr 0 1), (11, .pv (.slc c.Foes.length false (c.Foes.flatMap encGFoe)))], [(0, .box [.pv (.slc c.Abilities.length false (c.Abilities.flatMap encGAbility)), .pv (.slc c.Auras.length false (c.Auras.flatMap encGAura)), .pv (.slc c.Foes.length false (c.Foes.flatMap encGFoe)), I c.Map.W, I c.Map.H, .pv (.slc c.Map.Wall.length false (encB c.Map.Wall)), I c.Door.X, I c.Door.Y, I c.Lair.X, I c.Lair.Y])], 2, [], 41, 0⟩ : St)), (5, #[true, true, true, true, true, false, false, false, false, false], (⟨[(1, .ptr 0 0), (6, .ref 2 1 0 (rowsA0 c.Abilities).length), (7, .ptr 0 1), (10, .ptr 0 2)], [(2, .row 3 1 (encI (rowsA0 c.Abilities))), (0, .box [.pv (.slc c.Abilities.length false (c.Abilities.flatMap encGAbility)), .pv (.slc c.Auras.length false (c.Auras.flatMap encGAura)), .pv (.slc c.Foes.length false (c.Foes.flatMap encGFoe)), I c.Map.W, I c.Map.H, .pv (.slc c.Map.Wall.length false (encB c.Map.Wall)), I c.Door.X, I c.Door.Y, I c.Lair.X, I c.Lair.Y])], 3, [], 41, 0⟩ : St)), (5, #[true, true, true, true, false, true, false, false, false, false], (⟨[(1, .ptr 0 0), (5, .pv (.slc c.Abilities.length false (c.Abilities.flatMap encGAbility))), (8, .pv (.slc c.Auras.length false (c.Auras.flatMap encGAura))), (10, .ptr 0 2)], [(0, .box [.pv (.slc c.Abilities.length false (c.Abilities.flatMap encGAbility)), .pv (.slc c.Auras.length false (c.Auras.flatMap encGAura)), .pv (.slc c.Foes.length false (c.Foes.flatMap encGFoe)), I c.Map.W, I c.Map.H, .pv (.slc c.Map.Wall.length false (encB c.Map.Wall)), I c.Door.X, I c.Door.Y, I c.Lair.X, I c.Lair.Y])], 2, [], 41, 0⟩ : St)), (5, #[true, true, true, true, false, false, false, true, false, false], (⟨[(1, .ptr 0 0), (5, .pv (.slc c.Abilities.length false (c.Abilities.flatMap encGAbility))), (7, .ptr 0 1), (11, .pv (.slc c.Foes.length false (c.Foes.flatMap encGFoe)))], [(0, .box [.pv (.slc c.Abilities.length false (c.Abilities.flatMap encGAbility)), .pv (.slc c.Auras.length false (c.Auras.flatMap encGAura)), .pv (.slc c.Foes.length false (c.Foes.flatMap encGFoe)), I c.Map.W, I c.Map.H, .pv (.slc c.Map.Wall.length false (encB c.Map.Wall)), I c.Door.X, I c.Door.Y, I c.Lair.X, I c.Lair.Y])], 2, [], 41, 0⟩ : St)), (5, #[true, true, true, false, false, true, false, true, false, false], (⟨[(1, .ptr 0 0), (4, .ptr 0 0), (8, .pv (.slc c.Auras.length false (c.Auras.flatMap encGAura))), (11, .pv (.slc c.Foes.length false (c.Foes.flatMap encGFoe)))], [(0, .box [.pv (.slc c.Abilities.length false (c.Abilities.flatMap encGAbility)), .pv (.slc c.Auras.length false (c.Auras.flatMap encGAura)), .pv (.slc c.Foes.length false (c.Foes.flatMap encGFoe)), I c.Map.W, I c.Map.H, .pv (.slc c.Map.Wall.length false (encB c.Map.Wall)), I c.Door.X, I c.Door.Y, I c.Lair.X, I c.Lair.Y])], 2, [], 41, 0⟩ : St)), (4, #[true, true, true, true, true, true, false, false, false, false], (⟨[(1, .ptr 0 0), (6, .ref 2 1 0 (rowsA0 c.Abilities).length), (8, .pv (.slc c.Auras.length false (c.Auras.flatMap encGAura))), (10, .ptr 0 2)], [(2, .row 3 1 (encI (rowsA0 c.Abilities))), (0, .box [.pv (.slc c.Abilities.length false (c.Abilities.flatMap encGAbility)), .pv (.slc c.Auras.length false (c.Auras.flatMap encGAura)), .pv (.slc c.Foes.length false (c.Foes.flatMap encGFoe)), I c.Map.W, I c.Map.H, .pv (.slc c.Map.Wall.length false (encB c.Map.Wall)), I c.Door.X, I c.Door.Y, I c.Lair.X, I c.Lair.Y])], 3, [], 41, 0⟩ : St)), (4, #[true, true, true, true, true, false, false, true, false, false], (⟨[(1, .ptr 0 0), (6, .ref 2 1 0 (rowsA0 c.Abilities).length), (7, .ptr 0 1), (11, .pv (.slc c.Foes.length false (c.Foes.flatMap encGFoe)))], [(2, .row 3 1 (encI (rowsA0 c.Abilities))), (0, .box [.pv (.slc c.Abilities.length false (c.Abilities.flatMap encGAbility)), .pv (.slc c.Auras.length false (c.Auras.flatMap encGAura)), .pv (.slc c.Foes.length false (c.Foes.flatMap encGFoe)), I c.Map.W, I c.Map.H, .pv (.slc c.Map.Wall.length false (encB c.Map.Wall)), I c.Door.X, I c.Door.Y, I c.Lair.X, I c.Lair.Y])], 3, [], 41, 0⟩ : St)), (4, #[true, true, true, true, false, true, false, true, false, false], (⟨[(1, .ptr 0 0), (5, .pv (.slc c.Abilities.length false (c.Abilities.flatMap encGAbility))), (8, .pv (.slc c.Auras.length false (c.Auras.flatMap encGAura))), (11, .pv (.slc c.Foes.length false (c.Foes.flatMap encGFoe)))], [(0, .box [.pv (.slc c.Abilities.length false (c.Abilities.flatMap encGAbility)), .pv (.slc c.Auras.length false (c.Auras.flatMap encGAura)), .pv (.slc c.Foes.length false (c.Foes.flatMap encGFoe)), I c.Map.W, I c.Map.H, .pv (.slc c.Map.Wall.length false (encB c.Map.Wall)), I c.Door.X, I c.Door.Y, I c.Lair.X, I c.Lair.Y])], 2, [], 41, 0⟩ : St)), (3, #[true, true, true, true, true, true, true, false, false, false], (⟨[(1, .ptr 0 0), (9, .ref 2 1 0 (rowsU (rowsA0 c.Abilities) c.Auras).length), (10, .ptr 0 2)], [(2, .row 3 1 (encI (rowsU (rowsA0 c.Abilities) c.Auras))), (0, .box [.pv (.slc c.Abilities.length false (c.Abilities.flatMap encGAbility)), .pv (.slc c.Auras.length false (c.Auras.flatMap encGAura)), .pv (.slc c.Foes.length false (c.Foes.flatMap encGFoe)), I c.Map.W, I c.Map.H, .pv (.slc c.Map.Wall.length false (encB c.Map.Wall)), I c.Door.X, I c.Door.Y, I c.Lair.X, I c.Lair.Y])], 3, [], 41, 0⟩ : St)), (3, #[true, true, true, true, true, true, false, true, false, false], (⟨[(1, .ptr 0 0), (6, .ref 2 1 0 (rowsA0 c.Abilities).length), (8, .pv (.slc c.Auras.length false (c.Auras.flatMap encGAura))), (11, .pv (.slc c.Foes.length false (c.Foes.flatMap encGFoe)))], [(2, .row 3 1 (encI (rowsA0 c.Abilities))), (0, .box [.pv (.slc c.Abilities.length false (c.Abilities.flatMap encGAbility)), .pv (.slc c.Auras.length false (c.Auras.flatMap encGAura)), .pv (.slc c.Foes.length false (c.Foes.flatMap encGFoe)), I c.Map.W, I c.Map.H, .pv (.slc c.Map.Wall.length false (encB c.Map.Wall)), I c.Door.X, I c.Door.Y, I c.Lair.X, I c.Lair.Y])], 3, [], 41, 0⟩ : St)), (2, #[true, true, true, true, true, true, true, true, false, false], (⟨[(1, .ptr 0 0), (9, .ref 2 1 0 (rowsU (rowsA0 c.Abilities) c.Auras).length), (11, .pv (.slc c.Foes.length false (c.Foes.flatMap encGFoe)))], [(2, .row 3 1 (encI (rowsU (rowsA0 c.Abilities) c.Auras))), (0, .box [.pv (.slc c.Abilities.length false (c.Abilities.flatMap encGAbility)), .pv (.slc c.Auras.length false (c.Auras.flatMap encGAura)), .pv (.slc c.Foes.length false (c.Foes.flatMap encGFoe)), I c.Map.W, I c.Map.H, .pv (.slc c.Map.Wall.length false (encB c.Map.Wall)), I c.Door.X, I c.Door.Y, I c.Lair.X, I c.Lair.Y])], 3, [], 41, 0⟩ : St)), (1, #[true, true, true, true, true, true, true, true, true, false], (⟨[(1, .ptr 0 0), (12, .ref 2 1 0 (rowsF (rowsU (rowsA0 c.Abilities) c.Auras) c.Foes).length)], [(2, .row 3 1 (encI (rowsF (rowsU (rowsA0 c.Abilities) c.Auras) c.Foes))), (0, .box [.pv (.slc c.Abilities.length false (c.Abilities.flatMap encGAbility)), .pv (.slc c.Auras.length false (c.Auras.flatMap encGAura)), .pv (.slc c.Foes.length false (c.Foes.flatMap encGFoe)), I c.Map.W, I c.Map.H, .pv (.slc c.Map.Wall.length false (encB c.Map.Wall)), I c.Door.X, I c.Door.Y, I c.Lair.X, I c.Lair.Y])], 3, [], 41, 0⟩ : St)), (0, #[true, true, true, true, true, true, true, true, true, true], (⟨[(1, .ptr 0 0), (3, .ref 2 1 0 (rowsF (rowsU (rowsA0 c.Abilities) c.Auras) c.Foes).length)], [(2, .row 3 1 (encI (rowsF (rowsU (rowsA0 c.Abilities) c.Auras) c.Foes))), (0, .box [.pv (.slc c.Abilities.length false (c.Abilities.flatMap encGAbility)), .pv (.slc c.Auras.length false (c.Auras.flatMap encGAura)), .pv (.slc c.Foes.length false (c.Foes.flatMap encGFoe)), I c.Map.W, I c.Map.H, .pv (.slc c.Map.Wall.length false (encB c.Map.Wall)), I c.Door.X, I c.Door.Y, I c.Lair.X, I c.Lair.Y])], 3, [], 41, 0⟩ : St))] ?_ 0 _ rfl) rfl (Trans.of_less (less_of rfl ⟨⟨rfl, rfl⟩, trivial⟩ ⟨⟨rfl, rfl, rfl⟩, trivial⟩ (fun _ _ => .inr (Nat.zero_le _))))
 intro k_ x_ hx_ ih_
 match k_, x_, hx_, ih_ with
 | 0, _, rfl, ih_ =>
  show DrawL _ _ _ 10 #[false, false, false, false, false, false, false, false, false, false] _
  refine drawL1 (m1 := 0) (by decide +kernel) rfl ?_
  refine step_r rfl rfl (by decide) ?_
  exact step_nil (drawL_to (ih_ 1 _ (by decide) rfl) rfl (Trans.of_less (less_of rfl ⟨⟨rfl, rfl⟩, ⟨rfl, rfl⟩, trivial⟩ ⟨⟨rfl, rfl, rfl⟩, trivial⟩ (fun _ _ => .inr (Nat.zero_le _)))))
 | 1, _, rfl, ih_ =>
  show DrawL _ _ _ 9 #[true, false, false, false, false, false, false, false, false, false] _
  refine drawL1 (m1 := 1) (by decide +kernel) rfl ?_
  refine step_r rfl rfl (by decide) ?_
  exact step_nil (drawL_to (ih_ 2 _ (by decide) rfl) rfl (Trans.of_less (less_of rfl ⟨⟨rfl, rfl⟩, ⟨rfl, rfl⟩, ⟨rfl, rfl⟩, trivial⟩ ⟨⟨rfl, rfl, rfl⟩, trivial⟩ (fun _ _ => .inr (Nat.zero_le _)))))
 | 2, _, rfl, ih_ =>
  show DrawL _ _ _ 8 #[true, true, false, false, false, false, false, false, false, false] _
  refine drawL1 (m1 := 2) (by decide +kernel) rfl ?_
  refine step_r rfl rfl (by decide) ?_
  exact step_nil (drawL_to (ih_ 3 _ (by decide) rfl) rfl (Trans.of_less (less_of rfl ⟨⟨rfl, rfl⟩, ⟨rfl, rfl⟩, ⟨rfl, rfl⟩, ⟨rfl, rfl⟩, trivial⟩ ⟨⟨rfl, rfl, rfl⟩, trivial⟩ (fun _ _ => .inr (Nat.zero_le _)))))
 | 3, _, rfl, ih_ =>
  show DrawL _ _ _ 7 #[true, true, true, false, false, false, false, false, false, false] _
  refine drawL3 (m1 := 3) (m2 := 5) (m3 := 7) (by decide +kernel) rfl rfl rfl ?_ ?_ ?_
  ·refine step_r rfl rfl trivial ?_
   exact step_nil (drawL_to (ih_ 4 _ (by decide) rfl) rfl (Trans.of_less (less_of rfl ⟨⟨rfl, rfl⟩, ⟨rfl, rfl⟩, ⟨rfl, rfl⟩, ⟨rfl, rfl⟩, trivial⟩ ⟨⟨rfl, rfl, rfl⟩, trivial⟩ (fun _ _ => .inr (Nat.zero_le _)))))
  ·refine step_r rfl rfl trivial ?_
   exact step_nil (drawL_to (ih_ 5 _ (by decide) rfl) rfl (Trans.of_less (less_of rfl ⟨⟨rfl, rfl⟩, ⟨rfl, rfl⟩, ⟨rfl, rfl⟩, ⟨rfl, rfl⟩, trivial⟩ ⟨⟨rfl, rfl, rfl⟩, trivial⟩ (fun _ _ => .inr (Nat.zero_le _)))))
  ·refine step_r rfl rfl trivial ?_
   exact step_nil (drawL_to (ih_ 6 _ (by decide) rfl) rfl (Trans.of_less (less_of rfl ⟨⟨rfl, rfl⟩, ⟨rfl, rfl⟩, ⟨rfl, rfl⟩, ⟨rfl, rfl⟩, trivial⟩ ⟨⟨rfl, rfl, rfl⟩, trivial⟩ (fun _ _ => .inr (Nat.zero_le _)))))
 | 4, _, rfl, ih_ =>
  show DrawL _ _ _ 6 #[true, true, true, true, false, false, false, false, false, false] _
  refine drawL3 (m1 := 4) (m2 := 5) (m3 := 7) (by decide +kernel) rfl rfl rfl ?_ ?_ ?_
  ·refine step_callM (Hin := []) (out' := .ref 2 _ _ _) (H' := [(2, .row _ _ _), (0, .box [_, _, _, _, _, _, _, _, _, _])]) (nx' := 3) [] rfl rfl rfl rfl (.inl rfl) rfl rfl rfl rfl (rowsA0_ok c.Abilities false (by first | omega | (simp; done) | (simp only [List.length_append, List.length_cons, List.length_nil] at *; omega) | (simp; omega)) (by first | assumption | exact hF.eff)) rfl (by decide) rfl rfl rfl rfl rfl ?_
   have p501 := rowsA0_len c.Abilities (by first | assumption | exact hF.eff)
   exact step_nil (drawL_to (ih_ 7 _ (by decide) rfl) rfl (Trans.of_less (less_of rfl ⟨⟨rfl, rfl⟩, ⟨rfl, rfl⟩, ⟨rfl, rfl⟩, ⟨rfl, rfl⟩, trivial⟩ ⟨⟨rfl, rfl, rfl⟩, ⟨rfl, rfl, rfl⟩, trivial⟩ (fun _ _ => .inr (Nat.zero_le _)))))
  ·refine step_r rfl rfl trivial ?_
   exact step_nil (drawL_to (ih_ 8 _ (by decide) rfl) rfl (Trans.of_less (less_of rfl ⟨⟨rfl, rfl⟩, ⟨rfl, rfl⟩, ⟨rfl, rfl⟩, ⟨rfl, rfl⟩, trivial⟩ ⟨⟨rfl, rfl, rfl⟩, trivial⟩ (fun _ _ => .inr (Nat.zero_le _)))))
  ·refine step_r rfl rfl trivial ?_
   exact step_nil (drawL_to (ih_ 9 _ (by decide) rfl) rfl (Trans.of_less (less_of rfl ⟨⟨rfl, rfl⟩, ⟨rfl, rfl⟩, ⟨rfl, rfl⟩, ⟨rfl, rfl⟩, trivial⟩ ⟨⟨rfl, rfl, rfl⟩, trivial⟩ (fun _ _ => .inr (Nat.zero_le _)))))
 | 5, _, rfl, ih_ =>
  show DrawL _ _ _ 6 #[true, true, true, false, false, true, false, false, false, false] _
  refine drawL2 (m1 := 3) (m2 := 7) (by decide +kernel) rfl rfl ?_ ?_
  ·refine step_r rfl rfl trivial ?_
   exact step_nil (drawL_to (ih_ 8 _ (by decide) rfl) rfl (Trans.of_less (less_of rfl ⟨⟨rfl, rfl⟩, ⟨rfl, rfl⟩, ⟨rfl, rfl⟩, ⟨rfl, rfl⟩, trivial⟩ ⟨⟨rfl, rfl, rfl⟩, trivial⟩ (fun _ _ => .inr (Nat.zero_le _)))))
  ·refine step_r rfl rfl trivial ?_
   exact step_nil (drawL_to (ih_ 10 _ (by decide) rfl) rfl (Trans.of_less (less_of rfl ⟨⟨rfl, rfl⟩, ⟨rfl, rfl⟩, ⟨rfl, rfl⟩, ⟨rfl, rfl⟩, trivial⟩ ⟨⟨rfl, rfl, rfl⟩, trivial⟩ (fun _ _ => .inr (Nat.zero_le _)))))
 | 6, _, rfl, ih_ =>
  show DrawL _ _ _ 6 #[true, true, true, false, false, false, false, true, false, false] _
  refine drawL2 (m1 := 3) (m2 := 5) (by decide +kernel) rfl rfl ?_ ?_
  ·refine step_r rfl rfl trivial ?_
   exact step_nil (drawL_to (ih_ 9 _ (by decide) rfl) rfl (Trans.of_less (less_of rfl ⟨⟨rfl, rfl⟩, ⟨rfl, rfl⟩, ⟨rfl, rfl⟩, ⟨rfl, rfl⟩, trivial⟩ ⟨⟨rfl, rfl, rfl⟩, trivial⟩ (fun _ _ => .inr (Nat.zero_le _)))))
  ·refine step_r rfl rfl trivial ?_
   exact step_nil (drawL_to (ih_ 10 _ (by decide) rfl) rfl (Trans.of_less (less_of rfl ⟨⟨rfl, rfl⟩, ⟨rfl, rfl⟩, ⟨rfl, rfl⟩, ⟨rfl, rfl⟩, trivial⟩ ⟨⟨rfl, rfl, rfl⟩, trivial⟩ (fun _ _ => .inr (Nat.zero_le _)))))
 | 7, _, rfl, ih_ =>
  show DrawL _ _ _ 5 #[true, true, true, true, true, false, false, false, false, false] _
  refine drawL2 (m1 := 5) (m2 := 7) (by decide +kernel) rfl rfl ?_ ?_
  ·refine step_r rfl rfl trivial ?_
   exact step_nil (drawL_to (ih_ 11 _ (by decide) rfl) rfl (Trans.of_less (less_of rfl ⟨⟨rfl, rfl⟩, ⟨rfl, rfl⟩, ⟨rfl, rfl⟩, ⟨rfl, rfl⟩, trivial⟩ ⟨⟨rfl, rfl, rfl⟩, ⟨rfl, rfl, rfl⟩, trivial⟩ (fun _ _ => .inr (Nat.zero_le _)))))
  ·refine step_r rfl rfl trivial ?_
   exact step_nil (drawL_to (ih_ 12 _ (by decide) rfl) rfl (Trans.of_less (less_of rfl ⟨⟨rfl, rfl⟩, ⟨rfl, rfl⟩, ⟨rfl, rfl⟩, ⟨rfl, rfl⟩, trivial⟩ ⟨⟨rfl, rfl, rfl⟩, ⟨rfl, rfl, rfl⟩, trivial⟩ (fun _ _ => .inr (Nat.zero_le _)))))
 | 8, _, rfl, ih_ =>
  show DrawL _ _ _ 5 #[true, true, true, true, false, true, false, false, false, false] _
  refine drawL2 (m1 := 4) (m2 := 7) (by decide +kernel) rfl rfl ?_ ?_
  ·refine step_callM (Hin := []) (out' := .ref 2 _ _ _) (H' := [(2, .row _ _ _), (0, .box [_, _, _, _, _, _, _, _, _, _])]) (nx' := 3) [] rfl rfl rfl rfl (.inl rfl) rfl rfl rfl rfl (rowsA0_ok c.Abilities false (by first | omega | (simp; done) | (simp only [List.length_append, List.length_cons, List.length_nil] at *; omega) | (simp; omega)) (by first | assumption | exact hF.eff)) rfl (by decide) rfl rfl rfl rfl rfl ?_
   have p502 := rowsA0_len c.Abilities (by first | assumption | exact hF.eff)
   exact step_nil (drawL_to (ih_ 11 _ (by decide) rfl) rfl (Trans.of_less (less_of rfl ⟨⟨rfl, rfl⟩, ⟨rfl, rfl⟩, ⟨rfl, rfl⟩, ⟨rfl, rfl⟩, trivial⟩ ⟨⟨rfl, rfl, rfl⟩, ⟨rfl, rfl, rfl⟩, trivial⟩ (fun _ _ => .inr (Nat.zero_le _)))))
  ·refine step_r rfl rfl trivial ?_
   exact step_nil (drawL_to (ih_ 13 _ (by decide) rfl) rfl (Trans.of_less (less_of rfl ⟨⟨rfl, rfl⟩, ⟨rfl, rfl⟩, ⟨rfl, rfl⟩, ⟨rfl, rfl⟩, trivial⟩ ⟨⟨rfl, rfl, rfl⟩, trivial⟩ (fun _ _ => .inr (Nat.zero_le _)))))
 | 9, _, rfl, ih_ =>
  show DrawL _ _ _ 5 #[true, true, true, true, false, false, false, true, false, false] _
  refine drawL2 (m1 := 4) (m2 := 5) (by decide +kernel) rfl rfl ?_ ?_
  ·refine step_callM (Hin := []) (out' := .ref 2 _ _ _) (H' := [(2, .row _ _ _), (0, .box [_, _, _, _, _, _, _, _, _, _])]) (nx' := 3) [] rfl rfl rfl rfl (.inl rfl) rfl rfl rfl rfl (rowsA0_ok c.Abilities false (by first | omega | (simp; done) | (simp only [List.length_append, List.length_cons, List.length_nil] at *; omega) | (simp; omega)) (by first | assumption | exact hF.eff)) rfl (by decide) rfl rfl rfl rfl rfl ?_
   have p503 := rowsA0_len c.Abilities (by first | assumption | exact hF.eff)
   exact step_nil (drawL_to (ih_ 12 _ (by decide) rfl) rfl (Trans.of_less (less_of rfl ⟨⟨rfl, rfl⟩, ⟨rfl, rfl⟩, ⟨rfl, rfl⟩, ⟨rfl, rfl⟩, trivial⟩ ⟨⟨rfl, rfl, rfl⟩, ⟨rfl, rfl, rfl⟩, trivial⟩ (fun _ _ => .inr (Nat.zero_le _)))))
  ·refine step_r rfl rfl trivial ?_
   exact step_nil (drawL_to (ih_ 13 _ (by decide) rfl) rfl (Trans.of_less (less_of rfl ⟨⟨rfl, rfl⟩, ⟨rfl, rfl⟩, ⟨rfl, rfl⟩, ⟨rfl, rfl⟩, trivial⟩ ⟨⟨rfl, rfl, rfl⟩, trivial⟩ (fun _ _ => .inr (Nat.zero_le _)))))
 | 10, _, rfl, ih_ =>
  show DrawL _ _ _ 5 #[true, true, true, false, false, true, false, true, false, false] _
  refine drawL1 (m1 := 3) (by decide +kernel) rfl ?_
  refine step_r rfl rfl trivial ?_
  exact step_nil (drawL_to (ih_ 13 _ (by decide) rfl) rfl (Trans.of_less (less_of rfl ⟨⟨rfl, rfl⟩, ⟨rfl, rfl⟩, ⟨rfl, rfl⟩, ⟨rfl, rfl⟩, trivial⟩ ⟨⟨rfl, rfl, rfl⟩, trivial⟩ (fun _ _ => .inr (Nat.zero_le _)))))
 | 11, _, rfl, ih_ =>
  show DrawL _ _ _ 4 #[true, true, true, true, true, true, false, false, false, false] _
  refine drawL2 (m1 := 6) (m2 := 7) (by decide +kernel) rfl rfl ?_ ?_
  ·refine step_callV (Hin := [.row _ _ _]) (out' := .ref 2 _ _ _) (H' := [(2, .row _ _ _), (0, .box [_, _, _, _, _, _, _, _, _, _])]) (nx' := 3) [2] rfl rfl rfl rfl (.inl rfl) rfl rfl rfl rfl (rowsU_ok (rowsA0 c.Abilities) c.Auras false (by first | omega | (simp; done) | (simp only [List.length_append, List.length_cons, List.length_nil] at *; omega) | (simp; omega))) rfl (by decide) rfl rfl (.keep rfl (.keep rfl .nil)) (.keep rfl (.lose (v' := .undef) rfl (.keep rfl (.keep rfl .nil)))) rfl rfl rfl rfl ?_
   have p504 := rowsU_len (rowsA0 c.Abilities) c.Auras
   exact step_nil (drawL_to (ih_ 14 _ (by decide) rfl) rfl (Trans.of_less (less_of rfl ⟨⟨rfl, rfl⟩, ⟨rfl, rfl⟩, ⟨rfl, rfl⟩, trivial⟩ ⟨⟨rfl, rfl, rfl⟩, ⟨rfl, rfl, rfl⟩, trivial⟩ (fun _ _ => .inr (Nat.zero_le _)))))
  ·refine step_r rfl rfl trivial ?_
   exact step_nil (drawL_to (ih_ 15 _ (by decide) rfl) rfl (Trans.of_less (less_of rfl ⟨⟨rfl, rfl⟩, ⟨rfl, rfl⟩, ⟨rfl, rfl⟩, ⟨rfl, rfl⟩, trivial⟩ ⟨⟨rfl, rfl, rfl⟩, ⟨rfl, rfl, rfl⟩, trivial⟩ (fun _ _ => .inr (Nat.zero_le _)))))
 | 12, _, rfl, ih_ =>
  show DrawL _ _ _ 4 #[true, true, true, true, true, false, false, true, false, false] _
  refine drawL1 (m1 := 5) (by decide +kernel) rfl ?_
  refine step_r rfl rfl trivial ?_
  exact step_nil (drawL_to (ih_ 15 _ (by decide) rfl) rfl (Trans.of_less (less_of rfl ⟨⟨rfl, rfl⟩, ⟨rfl, rfl⟩, ⟨rfl, rfl⟩, ⟨rfl, rfl⟩, trivial⟩ ⟨⟨rfl, rfl, rfl⟩, ⟨rfl, rfl, rfl⟩, trivial⟩ (fun _ _ => .inr (Nat.zero_le _)))))
 | 13, _, rfl, ih_ =>
  show DrawL _ _ _ 4 #[true, true, true, true, false, true, false, true, false, false] _
  refine drawL1 (m1 := 4) (by decide +kernel) rfl ?_
  refine step_callM (Hin := []) (out' := .ref 2 _ _ _) (H' := [(2, .row _ _ _), (0, .box [_, _, _, _, _, _, _, _, _, _])]) (nx' := 3) [] rfl rfl rfl rfl (.inl rfl) rfl rfl rfl rfl (rowsA0_ok c.Abilities false (by first | omega | (simp; done) | (simp only [List.length_append, List.length_cons, List.length_nil] at *; omega) | (simp; omega)) (by first | assumption | exact hF.eff)) rfl (by decide) rfl rfl rfl rfl rfl ?_
  have p505 := rowsA0_len c.Abilities (by first | assumption | exact hF.eff)
  exact step_nil (drawL_to (ih_ 15 _ (by decide) rfl) rfl (Trans.of_less (less_of rfl ⟨⟨rfl, rfl⟩, ⟨rfl, rfl⟩, ⟨rfl, rfl⟩, ⟨rfl, rfl⟩, trivial⟩ ⟨⟨rfl, rfl, rfl⟩, ⟨rfl, rfl, rfl⟩, trivial⟩ (fun _ _ => .inr (Nat.zero_le _)))))
 | 14, _, rfl, ih_ =>
  show DrawL _ _ _ 3 #[true, true, true, true, true, true, true, false, false, false] _
  refine drawL1 (m1 := 7) (by decide +kernel) rfl ?_
  refine step_r rfl rfl trivial ?_
  exact step_nil (drawL_to (ih_ 16 _ (by decide) rfl) rfl (Trans.of_less (less_of rfl ⟨⟨rfl, rfl⟩, ⟨rfl, rfl⟩, ⟨rfl, rfl⟩, trivial⟩ ⟨⟨rfl, rfl, rfl⟩, ⟨rfl, rfl, rfl⟩, trivial⟩ (fun _ _ => .inr (Nat.zero_le _)))))
 | 15, _, rfl, ih_ =>
  show DrawL _ _ _ 3 #[true, true, true, true, true, true, false, true, false, false] _
  refine drawL1 (m1 := 6) (by decide +kernel) rfl ?_
  refine step_callV (Hin := [.row _ _ _]) (out' := .ref 2 _ _ _) (H' := [(2, .row _ _ _), (0, .box [_, _, _, _, _, _, _, _, _, _])]) (nx' := 3) [2] rfl rfl rfl rfl (.inl rfl) rfl rfl rfl rfl (rowsU_ok (rowsA0 c.Abilities) c.Auras false (by first | omega | (simp; done) | (simp only [List.length_append, List.length_cons, List.length_nil] at *; omega) | (simp; omega))) rfl (by decide) rfl rfl (.keep rfl (.keep rfl .nil)) (.keep rfl (.lose (v' := .undef) rfl (.keep rfl (.keep rfl .nil)))) rfl rfl rfl rfl ?_
  have p506 := rowsU_len (rowsA0 c.Abilities) c.Auras
  exact step_nil (drawL_to (ih_ 16 _ (by decide) rfl) rfl (Trans.of_less (less_of rfl ⟨⟨rfl, rfl⟩, ⟨rfl, rfl⟩, ⟨rfl, rfl⟩, trivial⟩ ⟨⟨rfl, rfl, rfl⟩, ⟨rfl, rfl, rfl⟩, trivial⟩ (fun _ _ => .inr (Nat.zero_le _)))))
 | 16, _, rfl, ih_ =>
  show DrawL _ _ _ 2 #[true, true, true, true, true, true, true, true, false, false] _
  refine drawL1 (m1 := 8) (by decide +kernel) rfl ?_
  refine step_callV (Hin := [.row _ _ _]) (out' := .ref 2 _ _ _) (H' := [(2, .row _ _ _), (0, .box [_, _, _, _, _, _, _, _, _, _])]) (nx' := 3) [2] rfl rfl rfl rfl (.inl rfl) rfl rfl rfl rfl (rowsF_ok (rowsU (rowsA0 c.Abilities) c.Auras) c.Foes false (by first | omega | (simp; done) | (simp only [List.length_append, List.length_cons, List.length_nil] at *; omega) | (simp; omega)) (by first | assumption | exact hF.sc)) rfl (by decide) rfl rfl (.keep rfl (.keep rfl .nil)) (.keep rfl (.lose (v' := .undef) rfl (.keep rfl .nil))) rfl rfl rfl rfl ?_
  have p507 := rowsF_len (rowsU (rowsA0 c.Abilities) c.Auras) c.Foes (by first | assumption | exact hF.sc)
  exact step_nil (drawL_to (ih_ 17 _ (by decide) rfl) rfl (Trans.of_less (less_of rfl ⟨⟨rfl, rfl⟩, ⟨rfl, rfl⟩, trivial⟩ ⟨⟨rfl, rfl, rfl⟩, ⟨rfl, rfl, rfl⟩, trivial⟩ (fun _ _ => .inr (Nat.zero_le _)))))
 | 17, _, rfl, ih_ =>
  show DrawL _ _ _ 1 #[true, true, true, true, true, true, true, true, true, false] _
  refine drawL1 (m1 := 9) (by decide +kernel) rfl ?_
  refine step_r rfl rfl trivial ?_
  exact step_nil (drawL_to (ih_ 18 _ (by decide) rfl) rfl (Trans.of_less (less_of rfl ⟨⟨rfl, rfl⟩, ⟨rfl, rfl⟩, trivial⟩ ⟨⟨rfl, rfl, rfl⟩, ⟨rfl, rfl, rfl⟩, trivial⟩ (fun _ _ => .inr (Nat.zero_le _)))))
 | 18, _, rfl, ih_ =>
  show DrawL _ _ _ 0 #[true, true, true, true, true, true, true, true, true, true] _
  refine drawL_end (by decide +kernel) ?_
  refine seqK_n (sem_seq ?_)
  refine sem_drawW rfl (draw_perm [0, 1, 2, 3, 4, 5, 6, 7, 9, 10, 8, 11, 12, 13] (by decide +kernel) (draw_edges [(10, 9), (10, 8)] (by decide +kernel) (draw_split 11 10 (by decide +kernel) ?_ ?_)))
  ·refine draw_walk (by decide +kernel) rfl ?_
   refine step_r rfl rfl trivial (step_r rfl rfl (by decide) (step_r rfl rfl (by decide) (step_r rfl rfl trivial (step_r rfl rfl (by decide) (step_r rfl rfl (by decide) (step_r rfl rfl trivial (step_n (o := .row _ _ [_, _]) (nx' := 4) rfl rfl rfl (by decide) (step_r rfl rfl (by decide) (step_r rfl rfl (by decide) ?_)))))))))
   refine step_appendC (m := 2) (new := [_, _]) (cs' := encI ((rowsF (rowsU (rowsA0 c.Abilities) c.Auras) c.Foes) ++ [c.Map.W, c.Map.H])) (n' := ((rowsF (rowsU (rowsA0 c.Abilities) c.Auras) c.Foes) ++ [c.Map.W, c.Map.H]).length) (H' := [(3, .row _ _ _), (2, .row _ _ _), (0, .box [_, _, _, _, _, _, _, _, _, _])]) rfl rfl rfl (rfl) rfl rfl rfl rfl rfl rfl (encI_len (rowsF (rowsU (rowsA0 c.Abilities) c.Auras) c.Foes)) (rfl) (by first | decide | (unfold maxGrow; omega) | (unfold maxGrow; simp; omega) | (unfold maxGrow; simp only [List.length_append, List.length_take, List.length_drop, List.length_cons, List.length_nil, IntKind.wrap_i64] at *; omega)) (len_append (rowsF (rowsU (rowsA0 c.Abilities) c.Auras) c.Foes) ([c.Map.W, c.Map.H])) (encI_append (rowsF (rowsU (rowsA0 c.Abilities) c.Auras) c.Foes) ([c.Map.W, c.Map.H])) (.inr (by decide +kernel)) rfl rfl (.keep rfl (.keep rfl (.keep rfl .nil))) (.keep rfl (.keep rfl (.keep rfl (.keep rfl (.keep rfl (.keep rfl (.keep rfl (.keep rfl (.keep rfl (.lose (v' := .undef) rfl (.keep rfl (.lose (v' := .undef) rfl .nil)))))))))))) ?_
   refine step_r rfl rfl trivial ?_
   refine step_callV (Hin := [.row _ _ _]) (out' := .ref 2 _ _ _) (H' := [(3, .row _ _ _), (2, .row _ _ _), (0, .box [_, _, _, _, _, _, _, _, _, _])]) (nx' := 4) [2] rfl rfl rfl rfl (.inr (by decide +kernel)) rfl rfl rfl rfl (rowsW_ok ((rowsF (rowsU (rowsA0 c.Abilities) c.Auras) c.Foes) ++ [c.Map.W, c.Map.H]) c.Map.Wall false (by first | omega | (simp; done) | (simp only [List.length_append, List.length_cons, List.length_nil] at *; omega) | (simp; omega))) rfl (by decide) rfl rfl (.keep rfl (.keep rfl (.keep rfl .nil))) (.keep rfl (.lose (v' := .undef) rfl (.keep rfl (.keep rfl (.keep rfl (.keep rfl (.keep rfl (.keep rfl (.keep rfl (.keep rfl (.keep rfl (.keep rfl (.keep rfl (.keep rfl .nil)))))))))))))) rfl rfl rfl rfl ?_
   have p508 := rowsW_len ((rowsF (rowsU (rowsA0 c.Abilities) c.Auras) c.Foes) ++ [c.Map.W, c.Map.H]) c.Map.Wall
   refine step_r rfl rfl trivial (step_nil (seqK_n (sem_seq (sem_region rfl (step_r rfl rfl trivial (step_r rfl rfl (by decide) (step_r rfl rfl (by decide) (step_r rfl rfl trivial (step_r rfl rfl (by decide) (step_r rfl rfl (by decide) (step_r rfl rfl trivial ?_)))))))))))
   refine step_r rfl rfl (by decide) (step_r rfl rfl (by decide) (step_r rfl rfl trivial (step_r rfl rfl (by decide) (step_r rfl rfl (by decide) (step_r rfl rfl trivial (step_n (o := .row _ _ [_, _, _, _]) (nx' := 5) rfl rfl rfl (by decide) ?_))))))
   refine step_appendC (m := 4) (new := [_, _, _, _]) (cs' := encI ((rowsW ((rowsF (rowsU (rowsA0 c.Abilities) c.Auras) c.Foes) ++ [c.Map.W, c.Map.H]) c.Map.Wall) ++ [c.Door.X, c.Door.Y, c.Lair.X, c.Lair.Y])) (n' := ((rowsW ((rowsF (rowsU (rowsA0 c.Abilities) c.Auras) c.Foes) ++ [c.Map.W, c.Map.H]) c.Map.Wall) ++ [c.Door.X, c.Door.Y, c.Lair.X, c.Lair.Y]).length) (H' := [(4, .row _ _ _), (3, .row _ _ _), (2, .row _ _ _), (0, .box [_, _, _, _, _, _, _, _, _, _])]) rfl rfl rfl (rfl) rfl rfl rfl rfl rfl rfl (encI_len (rowsW ((rowsF (rowsU (rowsA0 c.Abilities) c.Auras) c.Foes) ++ [c.Map.W, c.Map.H]) c.Map.Wall)) (rfl) (by first | decide | (unfold maxGrow; omega) | (unfold maxGrow; simp; omega) | (unfold maxGrow; simp only [List.length_append, List.length_take, List.length_drop, List.length_cons, List.length_nil, IntKind.wrap_i64] at *; omega)) (len_append (rowsW ((rowsF (rowsU (rowsA0 c.Abilities) c.Auras) c.Foes) ++ [c.Map.W, c.Map.H]) c.Map.Wall) ([c.Door.X, c.Door.Y, c.Lair.X, c.Lair.Y])) (encI_append (rowsW ((rowsF (rowsU (rowsA0 c.Abilities) c.Auras) c.Foes) ++ [c.Map.W, c.Map.H]) c.Map.Wall) ([c.Door.X, c.Door.Y, c.Lair.X, c.Lair.Y])) (.inl rfl) rfl rfl (.keep rfl (.keep rfl (.keep rfl (.keep rfl .nil)))) (.keep rfl (.keep rfl (.keep rfl (.keep rfl (.keep rfl (.keep rfl (.keep rfl (.keep rfl (.keep rfl (.keep rfl (.keep rfl (.keep rfl (.keep rfl (.lose (v' := .undef) rfl (.lose (v' := .undef) rfl (.lose (v' := .undef) rfl (.keep rfl (.keep rfl (.keep rfl (.keep rfl (.keep rfl (.keep rfl (.keep rfl (.keep rfl (.keep rfl (.keep rfl (.keep rfl (.keep rfl (.keep rfl (.keep rfl .nil)))))))))))))))))))))))))))))) ?_
   refine step_r rfl rfl trivial (step_nil (seqK_n (sem_ret ?_)))
   have e509 : flat c = ((rowsW ((rowsF (rowsU (rowsA0 c.Abilities) c.Auras) c.Foes) ++ [c.Map.W, c.Map.H]) c.Map.Wall) ++ [c.Door.X, c.Door.Y, c.Lair.X, c.Lair.Y]) := by
    unfold flat
    try dsimp only
    all_goals rfl
   rw [e509]
   exact answersGR [] [2] rfl ⟨trivial, trivial⟩ rfl (by (repeat' apply And.intro) <;> first | trivial | rfl | exact flat_len (fun _ => rfl) _ | exact encI_len _ | assumption) (rfl) rfl rfl rfl (by decide) rfl rfl ⟨⟨rfl, rfl⟩, trivial⟩
  ·refine draw_perm [0, 1, 2, 3, 4, 5, 6, 7, 8, 9, 11, 10, 12, 13] (by decide +kernel) (draw_walk (by decide +kernel) rfl ?_)
   refine step_r rfl rfl trivial (step_r rfl rfl (by decide) (step_r rfl rfl (by decide) (step_r rfl rfl trivial (step_r rfl rfl (by decide) (step_r rfl rfl (by decide) (step_r rfl rfl trivial (step_n (o := .row _ _ [_, _]) (nx' := 4) rfl rfl rfl (by decide) (step_r rfl rfl (by decide) (step_r rfl rfl (by decide) (step_r rfl rfl trivial ?_))))))))))
   refine step_appendC (m := 2) (new := [_, _]) (cs' := encI ((rowsF (rowsU (rowsA0 c.Abilities) c.Auras) c.Foes) ++ [c.Map.W, c.Map.H])) (n' := ((rowsF (rowsU (rowsA0 c.Abilities) c.Auras) c.Foes) ++ [c.Map.W, c.Map.H]).length) (H' := [(3, .row _ _ _), (2, .row _ _ _), (0, .box [_, _, _, _, _, _, _, _, _, _])]) rfl rfl rfl (rfl) rfl rfl rfl rfl rfl rfl (encI_len (rowsF (rowsU (rowsA0 c.Abilities) c.Auras) c.Foes)) (rfl) (by first | decide | (unfold maxGrow; omega) | (unfold maxGrow; simp; omega) | (unfold maxGrow; simp only [List.length_append, List.length_take, List.length_drop, List.length_cons, List.length_nil, IntKind.wrap_i64] at *; omega)) (len_append (rowsF (rowsU (rowsA0 c.Abilities) c.Auras) c.Foes) ([c.Map.W, c.Map.H])) (encI_append (rowsF (rowsU (rowsA0 c.Abilities) c.Auras) c.Foes) ([c.Map.W, c.Map.H])) (.inr (by decide +kernel)) rfl rfl (.keep rfl (.keep rfl (.keep rfl .nil))) (.keep rfl (.keep rfl (.keep rfl (.keep rfl (.keep rfl (.keep rfl (.keep rfl (.keep rfl (.keep rfl (.keep rfl (.lose (v' := .undef) rfl (.keep rfl (.lose (v' := .undef) rfl .nil))))))))))))) ?_
   refine step_callV (Hin := [.row _ _ _]) (out' := .ref 2 _ _ _) (H' := [(3, .row _ _ _), (2, .row _ _ _), (0, .box [_, _, _, _, _, _, _, _, _, _])]) (nx' := 4) [2] rfl rfl rfl rfl (.inr (by decide +kernel)) rfl rfl rfl rfl (rowsW_ok ((rowsF (rowsU (rowsA0 c.Abilities) c.Auras) c.Foes) ++ [c.Map.W, c.Map.H]) c.Map.Wall false (by first | omega | (simp; done) | (simp only [List.length_append, List.length_cons, List.length_nil] at *; omega) | (simp; omega))) rfl (by decide) rfl rfl (.keep rfl (.keep rfl (.keep rfl .nil))) (.lose (v' := .undef) rfl (.keep rfl (.keep rfl (.keep rfl (.keep rfl (.keep rfl (.keep rfl (.keep rfl (.keep rfl (.keep rfl (.keep rfl (.keep rfl (.keep rfl (.keep rfl .nil)))))))))))))) rfl rfl rfl rfl ?_
   have p510 := rowsW_len ((rowsF (rowsU (rowsA0 c.Abilities) c.Auras) c.Foes) ++ [c.Map.W, c.Map.H]) c.Map.Wall
   refine step_r rfl rfl trivial (step_nil (seqK_n (sem_seq (sem_region rfl (step_r rfl rfl trivial (step_r rfl rfl (by decide) (step_r rfl rfl (by decide) (step_r rfl rfl trivial (step_r rfl rfl (by decide) (step_r rfl rfl (by decide) (step_r rfl rfl trivial ?_)))))))))))
   refine step_r rfl rfl (by decide) (step_r rfl rfl (by decide) (step_r rfl rfl trivial (step_r rfl rfl (by decide) (step_r rfl rfl (by decide) (step_r rfl rfl trivial (step_n (o := .row _ _ [_, _, _, _]) (nx' := 5) rfl rfl rfl (by decide) ?_))))))
   refine step_appendC (m := 4) (new := [_, _, _, _]) (cs' := encI ((rowsW ((rowsF (rowsU (rowsA0 c.Abilities) c.Auras) c.Foes) ++ [c.Map.W, c.Map.H]) c.Map.Wall) ++ [c.Door.X, c.Door.Y, c.Lair.X, c.Lair.Y])) (n' := ((rowsW ((rowsF (rowsU (rowsA0 c.Abilities) c.Auras) c.Foes) ++ [c.Map.W, c.Map.H]) c.Map.Wall) ++ [c.Door.X, c.Door.Y, c.Lair.X, c.Lair.Y]).length) (H' := [(4, .row _ _ _), (3, .row _ _ _), (2, .row _ _ _), (0, .box [_, _, _, _, _, _, _, _, _, _])]) rfl rfl rfl (rfl) rfl rfl rfl rfl rfl rfl (encI_len (rowsW ((rowsF (rowsU (rowsA0 c.Abilities) c.Auras) c.Foes) ++ [c.Map.W, c.Map.H]) c.Map.Wall)) (rfl) (by first | decide | (unfold maxGrow; omega) | (unfold maxGrow; simp; omega) | (unfold maxGrow; simp only [List.length_append, List.length_take, List.length_drop, List.length_cons, List.length_nil, IntKind.wrap_i64] at *; omega)) (len_append (rowsW ((rowsF (rowsU (rowsA0 c.Abilities) c.Auras) c.Foes) ++ [c.Map.W, c.Map.H]) c.Map.Wall) ([c.Door.X, c.Door.Y, c.Lair.X, c.Lair.Y])) (encI_append (rowsW ((rowsF (rowsU (rowsA0 c.Abilities) c.Auras) c.Foes) ++ [c.Map.W, c.Map.H]) c.Map.Wall) ([c.Door.X, c.Door.Y, c.Lair.X, c.Lair.Y])) (.inl rfl) rfl rfl (.keep rfl (.keep rfl (.keep rfl (.keep rfl .nil)))) (.keep rfl (.keep rfl (.keep rfl (.keep rfl (.keep rfl (.keep rfl (.keep rfl (.keep rfl (.keep rfl (.keep rfl (.keep rfl (.keep rfl (.keep rfl (.lose (v' := .undef) rfl (.lose (v' := .undef) rfl (.lose (v' := .undef) rfl (.keep rfl (.keep rfl (.keep rfl (.keep rfl (.keep rfl (.keep rfl (.keep rfl (.keep rfl (.keep rfl (.keep rfl (.keep rfl (.keep rfl (.keep rfl (.keep rfl .nil)))))))))))))))))))))))))))))) ?_
   refine step_r rfl rfl trivial (step_nil (seqK_n (sem_ret ?_)))
   have e511 : flat c = ((rowsW ((rowsF (rowsU (rowsA0 c.Abilities) c.Auras) c.Foes) ++ [c.Map.W, c.Map.H]) c.Map.Wall) ++ [c.Door.X, c.Door.Y, c.Lair.X, c.Lair.Y]) := by
    unfold flat
    try dsimp only
    all_goals rfl
   rw [e511]
   exact answersGR [] [2] rfl ⟨trivial, trivial⟩ rfl (by (repeat' apply And.intro) <;> first | trivial | rfl | exact flat_len (fun _ => rfl) _ | exact encI_len _ | assumption) (rfl) rfl rfl rfl (by decide) rfl rfl ⟨⟨rfl, rfl⟩, trivial⟩
 | k_ + 19, _, hx_, _ => cases hx_
end Go.Proofs.YtppnccjeggnllaaGreat

import Derived.Test.YtmijbjpdjggppaaBody
namespace Go.Proofs.Ytmijbjpdjggppaa
open Go Go.RowKit Go.Proofs.YtmijbjpdjggppaaVm
attribute [local irreducible] opsWp AnswersE OpsS
set_option maxHeartbeats 400000
set_option maxRecDepth 100000
set_option linter.all false
theorem fidx_lt {α : Type} (p : α → Bool) (l : List α) : -1 ≤ fidx p l ∧ fidx p l < l.length := by
  rcases fidx_cases p l with ⟨h, _⟩ | ⟨k, x, h, h2, _⟩
  · rw [h]; omega
  · rw [h]; have := (List.getElem?_eq_some_iff.1 h2).1; omega

def idU (a : GAura) : Int :=
  a.Id
theorem idU_ok (a : GAura) : Ok Try.prog 39 [aGAura a] [] (I (idU a)) [] [] := by
 refine ok_of_sem Try.func39 rfl ?_
 show Walks Try.prog _ _ ⟨[(0, aGAura a)], [], 0, [], 5, 0⟩
 refine sem_seq (sem_region rfl (step_n (o := .box [_, _, _, _, _, _, _]) (nx' := 1) rfl rfl rfl trivial (step_r rfl rfl trivial (step_nil (seqK_n (sem_seq (sem_region rfl (step_r rfl rfl (by decide) (step_r rfl rfl trivial (step_r rfl rfl trivial (step_nil ?_)))))))))))
 refine seqK_n (sem_ret ?_)
 have e2 : idU a = a.Id := by
  unfold idU
  try dsimp only
  all_goals rfl
 rw [e2]
 exact answersR rfl ⟨trivial, trivial⟩ (rfl) rfl

def isU (x_ : GAura) (c2 : Int) : Bool :=
  ((idU x_ : Int) == c2)
theorem isU_ok (x_ : GAura) (c2 : Int) : Ok Try.prog 54 [aGAura x_, .pptr [.fn 39] 0, .pptr [i64 c2] 0] [] (B (isU x_ c2)) [] [] := by
 refine ok_of_sem Try.func54 rfl ?_
 show Walks Try.prog _ _ ⟨[(0, aGAura x_), (1, .pptr [.fn 39] 0), (2, .pptr [i64 c2] 0)], [], 0, [], 10, 0⟩
 refine sem_seq (sem_region rfl (step_n (o := .box [_, _, _, _, _, _, _]) (nx' := 1) rfl rfl rfl trivial (step_r rfl rfl trivial (step_nil (seqK_n (sem_seq ?_))))))
 refine sem_drawn rfl (by decide +kernel) rfl ?_
 refine step_load_one rfl rfl rfl (rfl) rfl (step_r (v := (.agg [_, _, _, _, _, _, _])) rfl rfl (Nat.le_of_ble_eq_true rfl) (step_call rfl rfl rfl rfl (idU_ok x_) rfl rfl rfl (step_load_one rfl rfl rfl (rfl) rfl (step_bin rfl rfl rfl rfl rfl trivial (step_r rfl rfl trivial (step_nil (seqK_n (sem_ret ?_))))))))
 have e2 : isU x_ c2 = ((idU x_ : Int) == c2) := by
  unfold isU
  try dsimp only
  all_goals rfl
 rw [e2]
 exact answersR rfl ⟨trivial, trivial⟩ (rfl) rfl

def findU (l : List GAura) (want : Int) : GAura × Bool :=
  if (fidx (fun x_ => isU x_ want) l : Int) < 0 then ((⟨0, 0, 0, 0, 0, 0, false⟩ : GAura), false) else ((l.getD ((fidx (fun x_ => isU x_ want) l).toNat) default), true)
theorem findU_ok (l : List GAura) (l_f : Bool) (want : Int) : Ok Try.prog 38 [.pv (.slc l.length l_f (l.flatMap encGAura)), .fnc 39 [], I want] [] (.tup [aGAura (findU l want).1, B (findU l want).2]) [] [] := by
 refine Ok.len fun hlen => ?_
 have hl_l : l.length ≤ maxLen := hlen _ (by simp [lensL, lens, lensP])
 unfold maxLen at hl_l
 refine ok_of_sem Try.func38 rfl ?_
 show Walks Try.prog _ _ ⟨[(0, .pv (.slc l.length l_f (l.flatMap encGAura))), (1, .fnc 39 []), (2, I want)], [], 0, [], 19, 0⟩
 refine sem_trans (Trans.loose (T' := [(0, .pv (.slc l.length l_f (l.flatMap encGAura))), (1, .pv (.fn 39)), (2, I want)]) (H' := []) ⟨⟨_, rfl, .inl rfl⟩, ⟨_, rfl, .inr rfl⟩, ⟨_, rfl, .inl rfl⟩, trivial⟩ trivial) ?_
 refine sem_seq (sem_region rfl (step_n (o := .box [_]) (nx' := 1) rfl rfl rfl trivial (step_n (o := .box [_]) (nx' := 2) rfl rfl rfl trivial (step_n (o := .box [_, _, _, _, _, _, _]) (nx' := 3) rfl rfl rfl trivial (step_r rfl rfl trivial (step_nil (seqK_n (sem_seq (sem_region rfl (step_r rfl rfl trivial (step_r rfl rfl trivial ?_)))))))))))
 refine step_callJ (Hin := [.box [.pv _], .box [.pv _]]) (H' := [(2, _), (1, _), (0, _)]) (nx' := 3) [0, 1] rfl rfl rfl rfl rfl rfl rfl rfl rfl (by (repeat' apply And.intro) <;> first | trivial | rfl | exact flat_len (fun _ => rfl) _ | exact encI_len _ | exact Nat.le_of_ble_eq_true rfl | assumption) (ixf_GAura l false 54 [.pptr [.fn 39] 0, .pptr [i64 want] 0] (fun x_ => isU x_ want) ⟨rfl, rfl, fun _ => rfl, fun _ => rfl, fun x_ => isU_ok x_ want⟩) rfl (by decide) rfl rfl trivial rfl rfl rfl rfl ?_
 have p1 := fidx_lt (fun x_ => isU x_ want) l
 refine step_r rfl rfl trivial (step_nil (seqK_n (sem_seq (sem_seq (sem_region rfl (step_r rfl rfl trivial (step_bin rfl rfl rfl rfl rfl trivial (step_nil (seqK_n ?_)))))))))
 refine sem_cond rfl (fun h3 => ?_) (fun h3 => ?_)
 ·have g3 : (fidx (fun x_ => isU x_ want) l : Int) < 0 := of_decide_eq_true h3
  refine sem_seq (sem_region rfl (step_r (v := (.agg [_, _, _, _, _, _, _])) rfl rfl (Nat.le_of_ble_eq_true rfl) ?_))
  refine step_storeB (H' := [(2, .box [_, _, _, _, _, _, _]), (1, _), (0, _)]) rfl rfl rfl rfl rfl rfl (.inl rfl) rfl ?_
  refine step_r rfl rfl trivial (step_nil (seqK_n (sem_ret (seqK_r ?_))))
  have e4 : findU l want = ((⟨0, 0, 0, 0, 0, 0, false⟩ : GAura), false) := by
   unfold findU
   try dsimp only
   rewrite [if_pos g3]
   all_goals rfl
  rw [e4]
  exact answersR rfl ⟨Nat.le_of_ble_eq_true rfl, trivial, trivial⟩ (rfl) rfl
 ·have g3 : ¬ ((fidx (fun x_ => isU x_ want) l : Int) < 0) := of_decide_eq_false h3
  refine sem_skip (seqK_n (sem_seq (sem_region rfl (step_r rfl rfl trivial (step_r rfl rfl trivial ?_)))))
  have jk5 : (fidx (fun x_ => isU x_ want) l).toNat < l.length := by first | assumption | omega | (simp only [List.length_set, List.length_append]; omega) | (simp only [IntKind.wrap_i64] at *; omega) | (simp; omega) | simp_all
  refine step_idxS' (k := (fidx (fun x_ => isU x_ want) l).toNat) rfl rfl (Int.toNat_of_nonneg (by first | omega | (simp only [IntKind.wrap_i64]; omega) | (simp only [IntKind.wrap_i64] at *; omega) | (simp; omega))).symm rfl rfl jk5 (flat_ne (s := 7) (enc := encGAura) (fun _ => rfl) (by decide) jk5) rfl ?_
  refine step_load_row rfl rfl rfl (flat_lt (s := 7) (enc := encGAura) (fun _ => rfl) jk5) (flat_take (s := 7) (enc := encGAura) (fun _ => rfl) (get_getD jk5)) rfl ?_
  refine step_storeB (H' := [(2, .box [_, _, _, _, _, _, _]), (1, _), (0, _)]) rfl rfl rfl rfl rfl rfl (.inl rfl) rfl ?_
  refine step_r rfl rfl trivial (step_nil (seqK_n (sem_ret ?_)))
  have e6 : findU l want = ((l.getD ((fidx (fun x_ => isU x_ want) l).toNat) default), true) := by
   unfold findU
   try dsimp only
   rewrite [if_neg g3]
   all_goals rfl
  rw [e6]
  exact answersR rfl ⟨Nat.le_of_ble_eq_true rfl, trivial, trivial⟩ (rfl) rfl

structure GEffect where
  (Kind : Int)
  (Amount : Int)
  (Aura : Int)
  deriving DecidableEq, Inhabited
def encGEffect (x : GEffect) : List PV := [i64 x.Kind, i64 x.Amount, i64 x.Aura]
abbrev aGEffect (x : GEffect) : AV := .agg [I x.Kind, I x.Amount, I x.Aura]
def wfGEffect (x : GEffect) : Prop := (InR x.Kind) ∧ (InR x.Amount) ∧ (InR x.Aura)
theorem encGEffect_solid {l : List GEffect} : ∀ p ∈ l.flatMap encGEffect, solidP p = true := flat_solid (fun x p h => by simp only [encGEffect, List.mem_cons, List.mem_nil_iff, or_false] at h; rcases h with rfl | rfl | rfl <;> rfl)

structure GAbility where
  (Id : Int)
  (Cast : Int)
  (Cool : Int)
  (Charges : Int)
  (Range : Int)
  (Cost : Int)
  (Sight : Bool)
  (Effects : List GEffect)
  deriving DecidableEq, Inhabited
def encGAbility (x : GAbility) : List PV := [i64 x.Id, i64 x.Cast, i64 x.Cool, i64 x.Charges, i64 x.Range, i64 x.Cost, .bool x.Sight, .slc x.Effects.length false (x.Effects.flatMap encGEffect)]
abbrev aGAbility (x : GAbility) : AV := .agg [I x.Id, I x.Cast, I x.Cool, I x.Charges, I x.Range, I x.Cost, B x.Sight, .pv (.slc x.Effects.length false (x.Effects.flatMap encGEffect))]
def wfGAbility (x : GAbility) : Prop := (InR x.Id) ∧ (InR x.Cast) ∧ (InR x.Cool) ∧ (InR x.Charges) ∧ (InR x.Range) ∧ (InR x.Cost) ∧ ((∀ y ∈ x.Effects, wfGEffect y) ∧ x.Effects.length ≤ 140737488355328)

structure GLine where
  (Phase : Int)
  (When : Int)
  (Arg : Int)
  (Do : Int)
  (Value : Int)
  deriving DecidableEq, Inhabited
def encGLine (x : GLine) : List PV := [i64 x.Phase, i64 x.When, i64 x.Arg, i64 x.Do, i64 x.Value]
abbrev aGLine (x : GLine) : AV := .agg [I x.Phase, I x.When, I x.Arg, I x.Do, I x.Value]
def wfGLine (x : GLine) : Prop := (InR x.Phase) ∧ (InR x.When) ∧ (InR x.Arg) ∧ (InR x.Do) ∧ (InR x.Value)
theorem encGLine_solid {l : List GLine} : ∀ p ∈ l.flatMap encGLine, solidP p = true := flat_solid (fun x p h => by simp only [encGLine, List.mem_cons, List.mem_nil_iff, or_false] at h; rcases h with rfl | rfl | rfl | rfl | rfl <;> rfl)

structure GPrize where
  (Item : Int)
  (Weight : Int)
  deriving DecidableEq, Inhabited
def encGPrize (x : GPrize) : List PV := [i64 x.Item, i64 x.Weight]
abbrev aGPrize (x : GPrize) : AV := .agg [I x.Item, I x.Weight]
def wfGPrize (x : GPrize) : Prop := (InR x.Item) ∧ (InR x.Weight)
theorem encGPrize_solid {l : List GPrize} : ∀ p ∈ l.flatMap encGPrize, solidP p = true := flat_solid (fun x p h => by simp only [encGPrize, List.mem_cons, List.mem_nil_iff, or_false] at h; rcases h with rfl | rfl <;> rfl)

structure GFoe where
  (Id : Int)
  (Health : Int)
  (Hit : Int)
  (Every : Int)
  (Reach : Int)
  (Script : List GLine)
  (Hoard : List GPrize)
  (Drops : Int)
  deriving DecidableEq, Inhabited
def encGFoe (x : GFoe) : List PV := [i64 x.Id, i64 x.Health, i64 x.Hit, i64 x.Every, i64 x.Reach, .slc x.Script.length false (x.Script.flatMap encGLine), .slc x.Hoard.length false (x.Hoard.flatMap encGPrize), i64 x.Drops]
abbrev aGFoe (x : GFoe) : AV := .agg [I x.Id, I x.Health, I x.Hit, I x.Every, I x.Reach, .pv (.slc x.Script.length false (x.Script.flatMap encGLine)), .pv (.slc x.Hoard.length false (x.Hoard.flatMap encGPrize)), I x.Drops]
def wfGFoe (x : GFoe) : Prop := (InR x.Id) ∧ (InR x.Health) ∧ (InR x.Hit) ∧ (InR x.Every) ∧ (InR x.Reach) ∧ ((∀ y ∈ x.Script, wfGLine y) ∧ x.Script.length ≤ 140737488355328) ∧ ((∀ y ∈ x.Hoard, wfGPrize y) ∧ x.Hoard.length ≤ 140737488355328) ∧ (InR x.Drops)

structure GGrid where
  (W : Int)
  (H : Int)
  (Wall : List Bool)
  deriving DecidableEq, Inhabited
def encGGrid (x : GGrid) : List PV := [i64 x.W, i64 x.H, .slc x.Wall.length false (encB x.Wall)]
abbrev aGGrid (x : GGrid) : AV := .agg [I x.W, I x.H, .pv (.slc x.Wall.length false (encB x.Wall))]
def wfGGrid (x : GGrid) : Prop := (InR x.W) ∧ (InR x.H) ∧ (x.Wall.length ≤ 140737488355328)

structure GContent where
  (Abilities : List GAbility)
  (Auras : List GAura)
  (Foes : List GFoe)
  (Map : GGrid)
  (Door : GPos)
  (Lair : GPos)
  deriving DecidableEq, Inhabited
def encGContent (x : GContent) : List PV := [.slc x.Abilities.length false (x.Abilities.flatMap encGAbility), .slc x.Auras.length false (x.Auras.flatMap encGAura), .slc x.Foes.length false (x.Foes.flatMap encGFoe), i64 x.Map.W, i64 x.Map.H, .slc x.Map.Wall.length false (encB x.Map.Wall), i64 x.Door.X, i64 x.Door.Y, i64 x.Lair.X, i64 x.Lair.Y]
abbrev aGContent (x : GContent) : AV := .agg [.pv (.slc x.Abilities.length false (x.Abilities.flatMap encGAbility)), .pv (.slc x.Auras.length false (x.Auras.flatMap encGAura)), .pv (.slc x.Foes.length false (x.Foes.flatMap encGFoe)), I x.Map.W, I x.Map.H, .pv (.slc x.Map.Wall.length false (encB x.Map.Wall)), I x.Door.X, I x.Door.Y, I x.Lair.X, I x.Lair.Y]
def wfGContent (x : GContent) : Prop := ((∀ y ∈ x.Abilities, wfGAbility y) ∧ x.Abilities.length ≤ 140737488355328) ∧ ((∀ y ∈ x.Auras, wfGAura y) ∧ x.Auras.length ≤ 140737488355328) ∧ ((∀ y ∈ x.Foes, wfGFoe y) ∧ x.Foes.length ≤ 140737488355328) ∧ (wfGGrid x.Map) ∧ (wfGPos x.Door) ∧ (wfGPos x.Lair)

structure Few9 (c : GContent) : Prop where
  eff : ∀ a ∈ c.Abilities, a.Effects.length ≤ 16777216
  script : ∀ f ∈ c.Foes, f.Script.length ≤ 16777216
  hoard : ∀ f ∈ c.Foes, f.Hoard.length ≤ 16777216
  ab : c.Abilities.length ≤ 16777216
  au : c.Auras.length ≤ 16777216
  fo : c.Foes.length ≤ 16777216
  wall : c.Map.Wall.length ≤ 16777216

theorem set_inv {α : Type} {out : List α} {n k : Nat} {y : α} {P : α → Prop} (h : out.length = n ∧ ∀ x ∈ out, P x) (hy : P y) : (out.set k y).length = n ∧ ∀ x ∈ out.set k y, P x := ⟨by simp [h.1], fun x hx => by
  rcases List.mem_or_eq_of_mem_set hx with h1 | h1
  · exact h.2 _ h1
  · rw [h1]; exact hy⟩

def fewB (c : GContent) : Bool := (c.Abilities.all fun a => decide (a.Effects.length ≤ 16777216)) && (c.Foes.all fun f => decide (f.Script.length ≤ 16777216) && decide (f.Hoard.length ≤ 16777216)) && decide (c.Abilities.length ≤ 16777216) && decide (c.Auras.length ≤ 16777216) && decide (c.Foes.length ≤ 16777216) && decide (c.Map.Wall.length ≤ 16777216)
theorem few_small {c : GContent} (h : fewB c = true) : Few9 c := by
  simp only [fewB, Bool.and_eq_true, List.all_eq_true, decide_eq_true_eq] at h
  obtain ⟨⟨⟨⟨⟨h1, h2⟩, h3⟩, h4⟩, h5⟩, h6⟩ := h
  exact ⟨h1, fun f hf => (h2 f hf).1, fun f hf => (h2 f hf).2, h3, h4, h5, h6⟩
theorem few_cut {c : GContent} {n : Nat} (h : Few9 c) : Few9 ⟨c.Abilities, c.Auras, c.Foes.take n, c.Map, c.Door, c.Lair⟩ := ⟨h.eff, fun f hf => h.script f (List.mem_of_mem_take hf), fun f hf => h.hoard f (List.mem_of_mem_take hf), h.ab, h.au, by have := h.fo; simp only [List.length_take]; omega, h.wall⟩

def getU (c : GContent) (id : Int) : GAura × Bool :=
  (((findU c.Auras id).1), (findU c.Auras id).2)
theorem getU_ok (c : GContent) (id : Int) : Ok Try.prog 17 [aGContent c, I id] [] (.tup [aGAura (getU c id).1, B (getU c id).2]) [] [] := by
 refine Ok.len fun hlen => ?_
 have hl_c_Abilities : c.Abilities.length ≤ maxLen := hlen _ (by simp [lensL, lens, lensP])
 have hl_c_Auras : c.Auras.length ≤ maxLen := hlen _ (by simp [lensL, lens, lensP])
 have hl_c_Foes : c.Foes.length ≤ maxLen := hlen _ (by simp [lensL, lens, lensP])
 have hl_c_Map_Wall : c.Map.Wall.length ≤ maxLen := hlen _ (by simp [lensL, lens, lensP])
 unfold maxLen at hl_c_Abilities hl_c_Auras hl_c_Foes hl_c_Map_Wall
 refine ok_of_sem Try.func17 rfl ?_
 show Walks Try.prog _ _ ⟨[(0, aGContent c), (1, I id)], [], 0, [], 12, 0⟩
 refine sem_seq (sem_region rfl (step_n (o := .box [_, _, _, _, _, _, _, _, _, _]) (nx' := 1) rfl rfl rfl trivial (step_n (o := .box [_, _, _, _, _, _, _]) (nx' := 2) rfl rfl rfl trivial (step_r rfl rfl trivial (step_nil (seqK_n (sem_seq (sem_region rfl (step_r rfl rfl (by decide) (step_r rfl rfl trivial (step_r rfl rfl trivial ?_)))))))))))
 refine step_call rfl rfl rfl rfl (findU_ok c.Auras false id) rfl rfl rfl (step_r rfl rfl trivial (step_r rfl rfl trivial ?_))
 refine step_storeB (H' := [(1, .box [_, _, _, _, _, _, _]), (0, _)]) rfl rfl rfl rfl rfl rfl (.inl rfl) rfl ?_
 refine step_r rfl rfl trivial (step_nil (seqK_n (sem_ret ?_)))
 have e3 : getU c id = (((findU c.Auras id).1), (findU c.Auras id).2) := by
  unfold getU
  try dsimp only
  all_goals rfl
 rw [e3]
 exact answersR rfl ⟨Nat.le_of_ble_eq_true rfl, trivial, trivial⟩ (rfl) rfl
end Go.Proofs.Ytmijbjpdjggppaa

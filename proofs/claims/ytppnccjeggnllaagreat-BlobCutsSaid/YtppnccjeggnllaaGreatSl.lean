import Derived.Test.YtppnccjeggnllaaGreatBase
namespace Go.Proofs.YtppnccjeggnllaaGreat
open Go Go.RowKit Go.Proofs.YtppnccjeggnllaaGreatVm
attribute [local irreducible] opsWp AnswersE OpsS
set_option maxHeartbeats 400000
set_option maxRecDepth 100000
set_option linter.all false
structure GAura where
  (Id : Int)
  (Kind : Int)
  (Ticks : Int)
  (Every : Int)
  (Stacks : Int)
  (Amount : Int)
  (Harm : Bool)
  deriving DecidableEq, Inhabited
def encGAura (x : GAura) : List PV := [i64 x.Id, i64 x.Kind, i64 x.Ticks, i64 x.Every, i64 x.Stacks, i64 x.Amount, .bool x.Harm]
abbrev aGAura (x : GAura) : AV := .agg [I x.Id, I x.Kind, I x.Ticks, I x.Every, I x.Stacks, I x.Amount, B x.Harm]
def wfGAura (x : GAura) : Prop := (InR x.Id) ∧ (InR x.Kind) ∧ (InR x.Ticks) ∧ (InR x.Every) ∧ (InR x.Stacks) ∧ (InR x.Amount)
structure GEffect where
  (Kind : Int)
  (Amount : Int)
  (Aura : Int)
  deriving DecidableEq, Inhabited
def encGEffect (x : GEffect) : List PV := [i64 x.Kind, i64 x.Amount, i64 x.Aura]
abbrev aGEffect (x : GEffect) : AV := .agg [I x.Kind, I x.Amount, I x.Aura]
def wfGEffect (x : GEffect) : Prop := (InR x.Kind) ∧ (InR x.Amount) ∧ (InR x.Aura)
structure GAbility where
  (Id : Int)
  (Cast : Int)
  (Cool : Int)
  (Charges : Int)
  (Range : Int)
  (Cost : Int)
  (Sight : Bool)
  (Effects : List GEffect)
  deriving DecidableEq, Inhabited
def encGAbility (x : GAbility) : List PV := [i64 x.Id, i64 x.Cast, i64 x.Cool, i64 x.Charges, i64 x.Range, i64 x.Cost, .bool x.Sight, .slc x.Effects.length false (x.Effects.flatMap encGEffect)]
abbrev aGAbility (x : GAbility) : AV := .agg [I x.Id, I x.Cast, I x.Cool, I x.Charges, I x.Range, I x.Cost, B x.Sight, .pv (.slc x.Effects.length false (x.Effects.flatMap encGEffect))]
def wfGAbility (x : GAbility) : Prop := (InR x.Id) ∧ (InR x.Cast) ∧ (InR x.Cool) ∧ (InR x.Charges) ∧ (InR x.Range) ∧ (InR x.Cost) ∧ ((∀ y ∈ x.Effects, wfGEffect y) ∧ x.Effects.length ≤ 140737488355328)

structure GLine where
  (Phase : Int)
  (When : Int)
  (Arg : Int)
  (Do : Int)
  (Value : Int)
  deriving DecidableEq, Inhabited
def encGLine (x : GLine) : List PV := [i64 x.Phase, i64 x.When, i64 x.Arg, i64 x.Do, i64 x.Value]
abbrev aGLine (x : GLine) : AV := .agg [I x.Phase, I x.When, I x.Arg, I x.Do, I x.Value]
def wfGLine (x : GLine) : Prop := (InR x.Phase) ∧ (InR x.When) ∧ (InR x.Arg) ∧ (InR x.Do) ∧ (InR x.Value)
structure GPrize where
  (Item : Int)
  (Weight : Int)
  deriving DecidableEq, Inhabited
def encGPrize (x : GPrize) : List PV := [i64 x.Item, i64 x.Weight]
abbrev aGPrize (x : GPrize) : AV := .agg [I x.Item, I x.Weight]
def wfGPrize (x : GPrize) : Prop := (InR x.Item) ∧ (InR x.Weight)
structure GFoe where
  (Id : Int)
  (Health : Int)
  (Hit : Int)
  (Every : Int)
  (Reach : Int)
  (Script : List GLine)
  (Hoard : List GPrize)
  (Drops : Int)
  deriving DecidableEq, Inhabited
def encGFoe (x : GFoe) : List PV := [i64 x.Id, i64 x.Health, i64 x.Hit, i64 x.Every, i64 x.Reach, .slc x.Script.length false (x.Script.flatMap encGLine), .slc x.Hoard.length false (x.Hoard.flatMap encGPrize), i64 x.Drops]
abbrev aGFoe (x : GFoe) : AV := .agg [I x.Id, I x.Health, I x.Hit, I x.Every, I x.Reach, .pv (.slc x.Script.length false (x.Script.flatMap encGLine)), .pv (.slc x.Hoard.length false (x.Hoard.flatMap encGPrize)), I x.Drops]
def wfGFoe (x : GFoe) : Prop := (InR x.Id) ∧ (InR x.Health) ∧ (InR x.Hit) ∧ (InR x.Every) ∧ (InR x.Reach) ∧ ((∀ y ∈ x.Script, wfGLine y) ∧ x.Script.length ≤ 140737488355328) ∧ ((∀ y ∈ x.Hoard, wfGPrize y) ∧ x.Hoard.length ≤ 140737488355328) ∧ (InR x.Drops)

theorem clone_UInt8_nil  : Ok Tryz.prog 104 [.pv .nils] [] (.ref 0 1 0 0) [.row 5 1 []] [] := by
 refine ok_of_sem Tryz.func104 rfl ?_
 show Walks Tryz.prog _ _ ⟨[(0, .pv .nils)], [], 0, [], 8, 0⟩
 refine sem_seq (sem_region rfl (step_n (nx' := 1) rfl rfl rfl trivial (step_nil (seqK_n (sem_seq (sem_seq (sem_region rfl (step_r rfl rfl trivial (step_r rfl rfl trivial (step_nil (seqK_n ?_)))))))))))
 refine sem_cond rfl (fun h1 => ?_) (fun h1 => ?_)
 ·skip
  refine sem_seq (sem_region rfl (step_n (nx' := 2) rfl rfl rfl trivial (step_nil (seqK_n (sem_ret (seqK_r ?_))))))
  exact answersGR [] [1] rfl ⟨trivial, trivial⟩ rfl (by (repeat' apply And.intro) <;> first | trivial | rfl | exact flat_len (fun _ => rfl) _ | exact encI_len _ | assumption) (rfl) rfl rfl rfl (by decide) rfl rfl ⟨⟨rfl, rfl⟩, trivial⟩
 ·cases h1

theorem clone_UInt8_nnl (l : List UInt8) (hl : l.length ≤ 16777216) : Ok Tryz.prog 104 [.pv (.nnl l.length (encY l))] [] (.ref 0 1 0 l.length) [.row 5 1 (encY l)] [] := by
 refine ok_of_sem Tryz.func104 rfl ?_
 show Walks Tryz.prog _ _ ⟨[(0, .pv (.nnl l.length (encY l)))], [], 0, [], 8, 0⟩
 refine sem_seq (sem_region rfl (step_n (nx' := 1) rfl rfl rfl trivial (step_nil (seqK_n (sem_seq (sem_seq (sem_region rfl (step_r rfl rfl trivial (step_r rfl rfl trivial (step_nil (seqK_n ?_)))))))))))
 refine sem_cond rfl (fun h1 => ?_) (fun h1 => ?_)
 ·cases h1
 ·skip
  refine sem_skip (seqK_n (sem_seq (sem_region rfl (step_r rfl rfl ⟨by decide, rfl⟩ (step_r rfl rfl trivial ?_)))))
  refine step_appendN (m := l.length) (new := encY l) (cs' := encY l) (n' := l.length) rfl rfl (rfl) rfl rfl rfl rfl rfl rfl (encY_len l) (by first | decide | (unfold maxGrow; omega) | (unfold maxGrow; simp; omega) | (unfold maxGrow; simp only [List.length_append, List.length_take, List.length_drop, List.length_cons, List.length_nil, IntKind.wrap_i64] at *; omega)) rfl rfl rfl rfl ?_
  refine step_r rfl rfl trivial (step_nil (seqK_n (sem_ret ?_)))
  exact answersGR [] [1] rfl ⟨trivial, trivial⟩ rfl (by (repeat' apply And.intro) <;> first | trivial | rfl | exact flat_len (fun _ => rfl) _ | exact encI_len _ | assumption) (rfl) rfl rfl rfl (by decide) rfl rfl ⟨⟨rfl, rfl⟩, trivial⟩

theorem clone_UInt8 (l : List UInt8) (full : Bool) (hl : l.length ≤ 16777216) : Ok Tryz.prog 104 [.pv (.slc l.length full (encY l))] [] (.ref 0 1 0 l.length) [.row 5 1 (encY l)] [] := by
  refine Ok.slc1 (fun h1 h2 => ?_) (clone_UInt8_nnl l hl)
  rw [h1, h2]; exact clone_UInt8_nil

theorem ixf_GEffect (l : List GEffect) (l_f : Bool) (cl : FuncId) (caps : List AV) (p : GEffect → Bool) (hcl : Fn1 Tryz.prog cl caps (fun x => [aGEffect x]) (fun x => B (p x))) : Ok Tryz.prog 135 [.pv (.slc l.length l_f (l.flatMap encGEffect)), .fnc cl caps] [] (I (fidx p l)) [] [] := by
 refine Ok.len fun hlen => ?_
 have hl_l : l.length ≤ maxLen := hlen _ (by simp [lensL, lens, lensP])
 unfold maxLen at hl_l
 refine ok_of_sem Tryz.func135 rfl ?_
 show Walks Tryz.prog _ _ ⟨[(0, .pv (.slc l.length l_f (l.flatMap encGEffect))), (1, .fnc cl caps)], [], 0, [], 19, 0⟩
 refine sem_seq (sem_region rfl (step_r rfl rfl trivial (step_nil (seqK_n (sem_seq (sem_seq (sem_region rfl (step_r rfl rfl trivial (step_r rfl rfl trivial (step_r rfl rfl trivial (step_nil ?_)))))))))))
 refine seqK_n (sem_block ?_)
 refine sem_loop_of (fun k : Nat => (⟨[(0, .pv (.slc l.length l_f (l.flatMap encGEffect))), (1, .fnc cl caps), (7, I l.length), (8, I k)], [], 0, [], 19, 0⟩ : St)) (fun k : Nat => k ≤ l.length ∧ ∀ y ∈ l.take k, p y = false) (fun k : Nat => l.length - k) 0 (⟨Nat.zero_le _, by simp⟩) (less_of rfl ⟨⟨rfl, rfl⟩, ⟨rfl, hcl.belN⟩, ⟨rfl, rfl⟩, ⟨rfl, rfl⟩, trivial⟩ trivial (fun _ _ => .inr (Nat.zero_le _))) (fun k hI => ?_)
 show Walks Tryz.prog _ _ (⟨[(0, .pv (.slc l.length l_f (l.flatMap encGEffect))), (1, .fnc cl caps), (7, I l.length), (8, I k)], [], 0, [], 19, 0⟩ : St)
 refine sem_seq (sem_region rfl (step_bin rfl rfl rfl rfl rfl trivial (step_nil (seqK_n (sem_seq ?_)))))
 refine sem_cond rfl (fun h1 => ?_) (fun h1 => ?_)
 ·have hk : k < l.length := by have h := of_decide_eq_true h1; omega
  obtain ⟨x, hx⟩ : ∃ x, l[k]? = some x := ⟨_, List.getElem?_eq_getElem hk⟩
  refine sem_skip (seqK_n (sem_seq (sem_block (sem_seq (sem_region rfl (step_r rfl rfl trivial (step_r rfl rfl trivial (step_nil (seqK_n (sem_seq (sem_region rfl ?_)))))))))))
  refine step_r rfl rfl trivial (step_r rfl rfl trivial (step_r rfl rfl trivial (step_idxS (k := k) rfl rfl rfl rfl hk (flat_ne (s := 3) (enc := encGEffect) (fun _ => rfl) (by decide) hk) rfl (step_load_row rfl rfl rfl (flat_lt (s := 3) (enc := encGEffect) (fun _ => rfl) hk) (flat_take (s := 3) (enc := encGEffect) (fun _ => rfl) hx) rfl ?_))))
  refine step_callF hcl x rfl rfl rfl rfl rfl rfl ?_
  refine step_nil (seqK_n ?_)
  refine sem_cond rfl (fun h3 => ?_) (fun h3 => ?_)
  ·have gp := h3
   refine sem_seq (sem_region rfl (step_r rfl rfl trivial (step_r rfl rfl trivial (step_nil (seqK_n (sem_ret (blkK_r (seqK_r (lupK_r (blkK_r (seqK_r ?_)))))))))))
   exact answersR rfl ⟨trivial, trivial⟩ (congrArg I (fidx_found (p := p) hI.2 hx gp).symm) rfl
  ·have gp := h3
   refine sem_skip (blkK_n (seqK_n (sem_region rfl (step_bin rfl rfl rfl rfl rfl trivial (step_r rfl rfl trivial (step_nil ?_))))))
   exact lup_again (k+1) (⟨hk, take_all_snoc hI.2 hx gp⟩) (by omega) (less_of rfl ⟨⟨rfl, rfl⟩, ⟨rfl, hcl.belN⟩, ⟨rfl, rfl⟩, ⟨congrArg (fun n => some (I n)) (wrapK hk (by assumption)), rfl⟩, trivial⟩ trivial (fun _ _ => .inr (Nat.zero_le _)))
 ·have hk : k = l.length := by have h := of_decide_eq_false h1; have := hI; omega
  refine sem_exit (seqK_e (lupK_e (blkK_t rfl (seqK_n (sem_seq (sem_region rfl (step_r rfl rfl trivial (step_nil (seqK_n (sem_ret ?_))))))))))
  exact answersR rfl ⟨trivial, trivial⟩ (congrArg I (fidx_none (p := p) hI.2 hk).symm) rfl

theorem ixf_GLine (l : List GLine) (l_f : Bool) (cl : FuncId) (caps : List AV) (p : GLine → Bool) (hcl : Fn1 Tryz.prog cl caps (fun x => [aGLine x]) (fun x => B (p x))) : Ok Tryz.prog 137 [.pv (.slc l.length l_f (l.flatMap encGLine)), .fnc cl caps] [] (I (fidx p l)) [] [] := by
 refine Ok.len fun hlen => ?_
 have hl_l : l.length ≤ maxLen := hlen _ (by simp [lensL, lens, lensP])
 unfold maxLen at hl_l
 refine ok_of_sem Tryz.func137 rfl ?_
 show Walks Tryz.prog _ _ ⟨[(0, .pv (.slc l.length l_f (l.flatMap encGLine))), (1, .fnc cl caps)], [], 0, [], 19, 0⟩
 refine sem_seq (sem_region rfl (step_r rfl rfl trivial (step_nil (seqK_n (sem_seq (sem_seq (sem_region rfl (step_r rfl rfl trivial (step_r rfl rfl trivial (step_r rfl rfl trivial (step_nil ?_)))))))))))
 refine seqK_n (sem_block ?_)
 refine sem_loop_of (fun k : Nat => (⟨[(0, .pv (.slc l.length l_f (l.flatMap encGLine))), (1, .fnc cl caps), (7, I l.length), (8, I k)], [], 0, [], 19, 0⟩ : St)) (fun k : Nat => k ≤ l.length ∧ ∀ y ∈ l.take k, p y = false) (fun k : Nat => l.length - k) 0 (⟨Nat.zero_le _, by simp⟩) (less_of rfl ⟨⟨rfl, rfl⟩, ⟨rfl, hcl.belN⟩, ⟨rfl, rfl⟩, ⟨rfl, rfl⟩, trivial⟩ trivial (fun _ _ => .inr (Nat.zero_le _))) (fun k hI => ?_)
 show Walks Tryz.prog _ _ (⟨[(0, .pv (.slc l.length l_f (l.flatMap encGLine))), (1, .fnc cl caps), (7, I l.length), (8, I k)], [], 0, [], 19, 0⟩ : St)
 refine sem_seq (sem_region rfl (step_bin rfl rfl rfl rfl rfl trivial (step_nil (seqK_n (sem_seq ?_)))))
 refine sem_cond rfl (fun h1 => ?_) (fun h1 => ?_)
 ·have hk : k < l.length := by have h := of_decide_eq_true h1; omega
  obtain ⟨x, hx⟩ : ∃ x, l[k]? = some x := ⟨_, List.getElem?_eq_getElem hk⟩
  refine sem_skip (seqK_n (sem_seq (sem_block (sem_seq (sem_region rfl (step_r rfl rfl trivial (step_r rfl rfl trivial (step_nil (seqK_n (sem_seq (sem_region rfl ?_)))))))))))
  refine step_r rfl rfl trivial (step_r rfl rfl trivial (step_r rfl rfl trivial (step_idxS (k := k) rfl rfl rfl rfl hk (flat_ne (s := 5) (enc := encGLine) (fun _ => rfl) (by decide) hk) rfl (step_load_row rfl rfl rfl (flat_lt (s := 5) (enc := encGLine) (fun _ => rfl) hk) (flat_take (s := 5) (enc := encGLine) (fun _ => rfl) hx) rfl ?_))))
  refine step_callF hcl x rfl rfl rfl rfl rfl rfl ?_
  refine step_nil (seqK_n ?_)
  refine sem_cond rfl (fun h3 => ?_) (fun h3 => ?_)
  ·have gp := h3
   refine sem_seq (sem_region rfl (step_r rfl rfl trivial (step_r rfl rfl trivial (step_nil (seqK_n (sem_ret (blkK_r (seqK_r (lupK_r (blkK_r (seqK_r ?_)))))))))))
   exact answersR rfl ⟨trivial, trivial⟩ (congrArg I (fidx_found (p := p) hI.2 hx gp).symm) rfl
  ·have gp := h3
   refine sem_skip (blkK_n (seqK_n (sem_region rfl (step_bin rfl rfl rfl rfl rfl trivial (step_r rfl rfl trivial (step_nil ?_))))))
   exact lup_again (k+1) (⟨hk, take_all_snoc hI.2 hx gp⟩) (by omega) (less_of rfl ⟨⟨rfl, rfl⟩, ⟨rfl, hcl.belN⟩, ⟨rfl, rfl⟩, ⟨congrArg (fun n => some (I n)) (wrapK hk (by assumption)), rfl⟩, trivial⟩ trivial (fun _ _ => .inr (Nat.zero_le _)))
 ·have hk : k = l.length := by have h := of_decide_eq_false h1; have := hI; omega
  refine sem_exit (seqK_e (lupK_e (blkK_t rfl (seqK_n (sem_seq (sem_region rfl (step_r rfl rfl trivial (step_nil (seqK_n (sem_ret ?_))))))))))
  exact answersR rfl ⟨trivial, trivial⟩ (congrArg I (fidx_none (p := p) hI.2 hk).symm) rfl

theorem ixf_GPrize (l : List GPrize) (l_f : Bool) (cl : FuncId) (caps : List AV) (p : GPrize → Bool) (hcl : Fn1 Tryz.prog cl caps (fun x => [aGPrize x]) (fun x => B (p x))) : Ok Tryz.prog 139 [.pv (.slc l.length l_f (l.flatMap encGPrize)), .fnc cl caps] [] (I (fidx p l)) [] [] := by
 refine Ok.len fun hlen => ?_
 have hl_l : l.length ≤ maxLen := hlen _ (by simp [lensL, lens, lensP])
 unfold maxLen at hl_l
 refine ok_of_sem Tryz.func139 rfl ?_
 show Walks Tryz.prog _ _ ⟨[(0, .pv (.slc l.length l_f (l.flatMap encGPrize))), (1, .fnc cl caps)], [], 0, [], 19, 0⟩
 refine sem_seq (sem_region rfl (step_r rfl rfl trivial (step_nil (seqK_n (sem_seq (sem_seq (sem_region rfl (step_r rfl rfl trivial (step_r rfl rfl trivial (step_r rfl rfl trivial (step_nil ?_)))))))))))
 refine seqK_n (sem_block ?_)
 refine sem_loop_of (fun k : Nat => (⟨[(0, .pv (.slc l.length l_f (l.flatMap encGPrize))), (1, .fnc cl caps), (7, I l.length), (8, I k)], [], 0, [], 19, 0⟩ : St)) (fun k : Nat => k ≤ l.length ∧ ∀ y ∈ l.take k, p y = false) (fun k : Nat => l.length - k) 0 (⟨Nat.zero_le _, by simp⟩) (less_of rfl ⟨⟨rfl, rfl⟩, ⟨rfl, hcl.belN⟩, ⟨rfl, rfl⟩, ⟨rfl, rfl⟩, trivial⟩ trivial (fun _ _ => .inr (Nat.zero_le _))) (fun k hI => ?_)
 show Walks Tryz.prog _ _ (⟨[(0, .pv (.slc l.length l_f (l.flatMap encGPrize))), (1, .fnc cl caps), (7, I l.length), (8, I k)], [], 0, [], 19, 0⟩ : St)
 refine sem_seq (sem_region rfl (step_bin rfl rfl rfl rfl rfl trivial (step_nil (seqK_n (sem_seq ?_)))))
 refine sem_cond rfl (fun h1 => ?_) (fun h1 => ?_)
 ·have hk : k < l.length := by have h := of_decide_eq_true h1; omega
  obtain ⟨x, hx⟩ : ∃ x, l[k]? = some x := ⟨_, List.getElem?_eq_getElem hk⟩
  refine sem_skip (seqK_n (sem_seq (sem_block (sem_seq (sem_region rfl (step_r rfl rfl trivial (step_r rfl rfl trivial (step_nil (seqK_n (sem_seq (sem_region rfl ?_)))))))))))
  refine step_r rfl rfl trivial (step_r rfl rfl trivial (step_r rfl rfl trivial (step_idxS (k := k) rfl rfl rfl rfl hk (flat_ne (s := 2) (enc := encGPrize) (fun _ => rfl) (by decide) hk) rfl (step_load_row rfl rfl rfl (flat_lt (s := 2) (enc := encGPrize) (fun _ => rfl) hk) (flat_take (s := 2) (enc := encGPrize) (fun _ => rfl) hx) rfl ?_))))
  refine step_callF hcl x rfl rfl rfl rfl rfl rfl ?_
  refine step_nil (seqK_n ?_)
  refine sem_cond rfl (fun h3 => ?_) (fun h3 => ?_)
  ·have gp := h3
   refine sem_seq (sem_region rfl (step_r rfl rfl trivial (step_r rfl rfl trivial (step_nil (seqK_n (sem_ret (blkK_r (seqK_r (lupK_r (blkK_r (seqK_r ?_)))))))))))
   exact answersR rfl ⟨trivial, trivial⟩ (congrArg I (fidx_found (p := p) hI.2 hx gp).symm) rfl
  ·have gp := h3
   refine sem_skip (blkK_n (seqK_n (sem_region rfl (step_bin rfl rfl rfl rfl rfl trivial (step_r rfl rfl trivial (step_nil ?_))))))
   exact lup_again (k+1) (⟨hk, take_all_snoc hI.2 hx gp⟩) (by omega) (less_of rfl ⟨⟨rfl, rfl⟩, ⟨rfl, hcl.belN⟩, ⟨rfl, rfl⟩, ⟨congrArg (fun n => some (I n)) (wrapK hk (by assumption)), rfl⟩, trivial⟩ trivial (fun _ _ => .inr (Nat.zero_le _)))
 ·have hk : k = l.length := by have h := of_decide_eq_false h1; have := hI; omega
  refine sem_exit (seqK_e (lupK_e (blkK_t rfl (seqK_n (sem_seq (sem_region rfl (step_r rfl rfl trivial (step_nil (seqK_n (sem_ret ?_))))))))))
  exact answersR rfl ⟨trivial, trivial⟩ (congrArg I (fidx_none (p := p) hI.2 hk).symm) rfl

theorem ixf_Int (l : List Int) (l_f : Bool) (cl : FuncId) (caps : List AV) (p : Int → Bool) (hcl : Fn1 Tryz.prog cl caps (fun x => [I x]) (fun x => B (p x))) : Ok Tryz.prog 144 [.pv (.slc l.length l_f (encI l)), .fnc cl caps] [] (I (fidx p l)) [] [] := by
 refine Ok.len fun hlen => ?_
 have hl_l : l.length ≤ maxLen := hlen _ (by simp [lensL, lens, lensP])
 unfold maxLen at hl_l
 refine ok_of_sem Tryz.func144 rfl ?_
 show Walks Tryz.prog _ _ ⟨[(0, .pv (.slc l.length l_f (encI l))), (1, .fnc cl caps)], [], 0, [], 19, 0⟩
 refine sem_seq (sem_region rfl (step_r rfl rfl trivial (step_nil (seqK_n (sem_seq (sem_seq (sem_region rfl (step_r rfl rfl trivial (step_r rfl rfl trivial (step_r rfl rfl trivial (step_nil ?_)))))))))))
 refine seqK_n (sem_block ?_)
 refine sem_loop_of (fun k : Nat => (⟨[(0, .pv (.slc l.length l_f (encI l))), (1, .fnc cl caps), (7, I l.length), (8, I k)], [], 0, [], 19, 0⟩ : St)) (fun k : Nat => k ≤ l.length ∧ ∀ y ∈ l.take k, p y = false) (fun k : Nat => l.length - k) 0 (⟨Nat.zero_le _, by simp⟩) (less_of rfl ⟨⟨rfl, rfl⟩, ⟨rfl, hcl.belN⟩, ⟨rfl, rfl⟩, ⟨rfl, rfl⟩, trivial⟩ trivial (fun _ _ => .inr (Nat.zero_le _))) (fun k hI => ?_)
 show Walks Tryz.prog _ _ (⟨[(0, .pv (.slc l.length l_f (encI l))), (1, .fnc cl caps), (7, I l.length), (8, I k)], [], 0, [], 19, 0⟩ : St)
 refine sem_seq (sem_region rfl (step_bin rfl rfl rfl rfl rfl trivial (step_nil (seqK_n (sem_seq ?_)))))
 refine sem_cond rfl (fun h1 => ?_) (fun h1 => ?_)
 ·have hk : k < l.length := by have h := of_decide_eq_true h1; omega
  obtain ⟨x, hx⟩ : ∃ x, l[k]? = some x := ⟨_, List.getElem?_eq_getElem hk⟩
  refine sem_skip (seqK_n (sem_seq (sem_block (sem_seq (sem_region rfl (step_r rfl rfl trivial (step_r rfl rfl trivial (step_nil (seqK_n (sem_seq (sem_region rfl ?_)))))))))))
  refine step_r rfl rfl trivial (step_r rfl rfl trivial (step_r rfl rfl trivial (step_idxS (k := k) rfl rfl rfl rfl hk (encI_ne hk) rfl (step_load_one rfl rfl rfl (encI_get hx) rfl ?_))))
  refine step_callF hcl x rfl rfl rfl rfl rfl rfl ?_
  refine step_nil (seqK_n ?_)
  refine sem_cond rfl (fun h3 => ?_) (fun h3 => ?_)
  ·have gp := h3
   refine sem_seq (sem_region rfl (step_r rfl rfl trivial (step_r rfl rfl trivial (step_nil (seqK_n (sem_ret (blkK_r (seqK_r (lupK_r (blkK_r (seqK_r ?_)))))))))))
   exact answersR rfl ⟨trivial, trivial⟩ (congrArg I (fidx_found (p := p) hI.2 hx gp).symm) rfl
  ·have gp := h3
   refine sem_skip (blkK_n (seqK_n (sem_region rfl (step_bin rfl rfl rfl rfl rfl trivial (step_r rfl rfl trivial (step_nil ?_))))))
   exact lup_again (k+1) (⟨hk, take_all_snoc hI.2 hx gp⟩) (by omega) (less_of rfl ⟨⟨rfl, rfl⟩, ⟨rfl, hcl.belN⟩, ⟨rfl, rfl⟩, ⟨congrArg (fun n => some (I n)) (wrapK hk (by assumption)), rfl⟩, trivial⟩ trivial (fun _ _ => .inr (Nat.zero_le _)))
 ·have hk : k = l.length := by have h := of_decide_eq_false h1; have := hI; omega
  refine sem_exit (seqK_e (lupK_e (blkK_t rfl (seqK_n (sem_seq (sem_region rfl (step_r rfl rfl trivial (step_nil (seqK_n (sem_ret ?_))))))))))
  exact answersR rfl ⟨trivial, trivial⟩ (congrArg I (fidx_none (p := p) hI.2 hk).symm) rfl

theorem ixf_GAura (l : List GAura) (l_f : Bool) (cl : FuncId) (caps : List AV) (p : GAura → Bool) (hcl : Fn1 Tryz.prog cl caps (fun x => [aGAura x]) (fun x => B (p x))) : Ok Tryz.prog 149 [.pv (.slc l.length l_f (l.flatMap encGAura)), .fnc cl caps] [] (I (fidx p l)) [] [] := by
 refine Ok.len fun hlen => ?_
 have hl_l : l.length ≤ maxLen := hlen _ (by simp [lensL, lens, lensP])
 unfold maxLen at hl_l
 refine ok_of_sem Tryz.func149 rfl ?_
 show Walks Tryz.prog _ _ ⟨[(0, .pv (.slc l.length l_f (l.flatMap encGAura))), (1, .fnc cl caps)], [], 0, [], 19, 0⟩
 refine sem_seq (sem_region rfl (step_r rfl rfl trivial (step_nil (seqK_n (sem_seq (sem_seq (sem_region rfl (step_r rfl rfl trivial (step_r rfl rfl trivial (step_r rfl rfl trivial (step_nil ?_)))))))))))
 refine seqK_n (sem_block ?_)
 refine sem_loop_of (fun k : Nat => (⟨[(0, .pv (.slc l.length l_f (l.flatMap encGAura))), (1, .fnc cl caps), (7, I l.length), (8, I k)], [], 0, [], 19, 0⟩ : St)) (fun k : Nat => k ≤ l.length ∧ ∀ y ∈ l.take k, p y = false) (fun k : Nat => l.length - k) 0 (⟨Nat.zero_le _, by simp⟩) (less_of rfl ⟨⟨rfl, rfl⟩, ⟨rfl, hcl.belN⟩, ⟨rfl, rfl⟩, ⟨rfl, rfl⟩, trivial⟩ trivial (fun _ _ => .inr (Nat.zero_le _))) (fun k hI => ?_)
 show Walks Tryz.prog _ _ (⟨[(0, .pv (.slc l.length l_f (l.flatMap encGAura))), (1, .fnc cl caps), (7, I l.length), (8, I k)], [], 0, [], 19, 0⟩ : St)
 refine sem_seq (sem_region rfl (step_bin rfl rfl rfl rfl rfl trivial (step_nil (seqK_n (sem_seq ?_)))))
 refine sem_cond rfl (fun h1 => ?_) (fun h1 => ?_)
 ·have hk : k < l.length := by have h := of_decide_eq_true h1; omega
  obtain ⟨x, hx⟩ : ∃ x, l[k]? = some x := ⟨_, List.getElem?_eq_getElem hk⟩
  refine sem_skip (seqK_n (sem_seq (sem_block (sem_seq (sem_region rfl (step_r rfl rfl trivial (step_r rfl rfl trivial (step_nil (seqK_n (sem_seq (sem_region rfl ?_)))))))))))
  refine step_r rfl rfl trivial (step_r rfl rfl trivial (step_r rfl rfl trivial (step_idxS (k := k) rfl rfl rfl rfl hk (flat_ne (s := 7) (enc := encGAura) (fun _ => rfl) (by decide) hk) rfl (step_load_row rfl rfl rfl (flat_lt (s := 7) (enc := encGAura) (fun _ => rfl) hk) (flat_take (s := 7) (enc := encGAura) (fun _ => rfl) hx) rfl ?_))))
  refine step_callF hcl x rfl rfl rfl rfl rfl rfl ?_
  refine step_nil (seqK_n ?_)
  refine sem_cond rfl (fun h3 => ?_) (fun h3 => ?_)
  ·have gp := h3
   refine sem_seq (sem_region rfl (step_r rfl rfl trivial (step_r rfl rfl trivial (step_nil (seqK_n (sem_ret (blkK_r (seqK_r (lupK_r (blkK_r (seqK_r ?_)))))))))))
   exact answersR rfl ⟨trivial, trivial⟩ (congrArg I (fidx_found (p := p) hI.2 hx gp).symm) rfl
  ·have gp := h3
   refine sem_skip (blkK_n (seqK_n (sem_region rfl (step_bin rfl rfl rfl rfl rfl trivial (step_r rfl rfl trivial (step_nil ?_))))))
   exact lup_again (k+1) (⟨hk, take_all_snoc hI.2 hx gp⟩) (by omega) (less_of rfl ⟨⟨rfl, rfl⟩, ⟨rfl, hcl.belN⟩, ⟨rfl, rfl⟩, ⟨congrArg (fun n => some (I n)) (wrapK hk (by assumption)), rfl⟩, trivial⟩ trivial (fun _ _ => .inr (Nat.zero_le _)))
 ·have hk : k = l.length := by have h := of_decide_eq_false h1; have := hI; omega
  refine sem_exit (seqK_e (lupK_e (blkK_t rfl (seqK_n (sem_seq (sem_region rfl (step_r rfl rfl trivial (step_nil (seqK_n (sem_ret ?_))))))))))
  exact answersR rfl ⟨trivial, trivial⟩ (congrArg I (fidx_none (p := p) hI.2 hk).symm) rfl

theorem ixf_GAbility (l : List GAbility) (l_f : Bool) (cl : FuncId) (caps : List AV) (p : GAbility → Bool) (hcl : Fn1 Tryz.prog cl caps (fun x => [aGAbility x]) (fun x => B (p x))) : Ok Tryz.prog 151 [.pv (.slc l.length l_f (l.flatMap encGAbility)), .fnc cl caps] [] (I (fidx p l)) [] [] := by
 refine Ok.len fun hlen => ?_
 have hl_l : l.length ≤ maxLen := hlen _ (by simp [lensL, lens, lensP])
 unfold maxLen at hl_l
 refine ok_of_sem Tryz.func151 rfl ?_
 show Walks Tryz.prog _ _ ⟨[(0, .pv (.slc l.length l_f (l.flatMap encGAbility))), (1, .fnc cl caps)], [], 0, [], 19, 0⟩
 refine sem_seq (sem_region rfl (step_r rfl rfl trivial (step_nil (seqK_n (sem_seq (sem_seq (sem_region rfl (step_r rfl rfl trivial (step_r rfl rfl trivial (step_r rfl rfl trivial (step_nil ?_)))))))))))
 refine seqK_n (sem_block ?_)
 refine sem_loop_of (fun k : Nat => (⟨[(0, .pv (.slc l.length l_f (l.flatMap encGAbility))), (1, .fnc cl caps), (7, I l.length), (8, I k)], [], 0, [], 19, 0⟩ : St)) (fun k : Nat => k ≤ l.length ∧ ∀ y ∈ l.take k, p y = false) (fun k : Nat => l.length - k) 0 (⟨Nat.zero_le _, by simp⟩) (less_of rfl ⟨⟨rfl, rfl⟩, ⟨rfl, hcl.belN⟩, ⟨rfl, rfl⟩, ⟨rfl, rfl⟩, trivial⟩ trivial (fun _ _ => .inr (Nat.zero_le _))) (fun k hI => ?_)
 show Walks Tryz.prog _ _ (⟨[(0, .pv (.slc l.length l_f (l.flatMap encGAbility))), (1, .fnc cl caps), (7, I l.length), (8, I k)], [], 0, [], 19, 0⟩ : St)
 refine sem_seq (sem_region rfl (step_bin rfl rfl rfl rfl rfl trivial (step_nil (seqK_n (sem_seq ?_)))))
 refine sem_cond rfl (fun h1 => ?_) (fun h1 => ?_)
 ·have hk : k < l.length := by have h := of_decide_eq_true h1; omega
  obtain ⟨x, hx⟩ : ∃ x, l[k]? = some x := ⟨_, List.getElem?_eq_getElem hk⟩
  refine sem_skip (seqK_n (sem_seq (sem_block (sem_seq (sem_region rfl (step_r rfl rfl trivial (step_r rfl rfl trivial (step_nil (seqK_n (sem_seq (sem_region rfl ?_)))))))))))
  refine step_r rfl rfl trivial (step_r rfl rfl trivial (step_r rfl rfl trivial (step_idxS (k := k) rfl rfl rfl rfl hk (flat_ne (s := 8) (enc := encGAbility) (fun _ => rfl) (by decide) hk) rfl (step_load_row rfl rfl rfl (flat_lt (s := 8) (enc := encGAbility) (fun _ => rfl) hk) (flat_take (s := 8) (enc := encGAbility) (fun _ => rfl) hx) rfl ?_))))
  refine step_callF hcl x rfl rfl rfl rfl rfl rfl ?_
  refine step_nil (seqK_n ?_)
  refine sem_cond rfl (fun h3 => ?_) (fun h3 => ?_)
  ·have gp := h3
   refine sem_seq (sem_region rfl (step_r rfl rfl trivial (step_r rfl rfl trivial (step_nil (seqK_n (sem_ret (blkK_r (seqK_r (lupK_r (blkK_r (seqK_r ?_)))))))))))
   exact answersR rfl ⟨trivial, trivial⟩ (congrArg I (fidx_found (p := p) hI.2 hx gp).symm) rfl
  ·have gp := h3
   refine sem_skip (blkK_n (seqK_n (sem_region rfl (step_bin rfl rfl rfl rfl rfl trivial (step_r rfl rfl trivial (step_nil ?_))))))
   exact lup_again (k+1) (⟨hk, take_all_snoc hI.2 hx gp⟩) (by omega) (less_of rfl ⟨⟨rfl, rfl⟩, ⟨rfl, hcl.belN⟩, ⟨rfl, rfl⟩, ⟨congrArg (fun n => some (I n)) (wrapK hk (by assumption)), rfl⟩, trivial⟩ trivial (fun _ _ => .inr (Nat.zero_le _)))
 ·have hk : k = l.length := by have h := of_decide_eq_false h1; have := hI; omega
  refine sem_exit (seqK_e (lupK_e (blkK_t rfl (seqK_n (sem_seq (sem_region rfl (step_r rfl rfl trivial (step_nil (seqK_n (sem_ret ?_))))))))))
  exact answersR rfl ⟨trivial, trivial⟩ (congrArg I (fidx_none (p := p) hI.2 hk).symm) rfl

theorem clone_GEffect_nil  : Ok Tryz.prog 153 [.pv .nils] [] (.ref 0 3 0 0) [.row 71 3 []] [] := by
 refine ok_of_sem Tryz.func153 rfl ?_
 show Walks Tryz.prog _ _ ⟨[(0, .pv .nils)], [], 0, [], 8, 0⟩
 refine sem_seq (sem_region rfl (step_n (nx' := 1) rfl rfl rfl trivial (step_nil (seqK_n (sem_seq (sem_seq (sem_region rfl (step_r rfl rfl trivial (step_r rfl rfl trivial (step_nil (seqK_n ?_)))))))))))
 refine sem_cond rfl (fun h1 => ?_) (fun h1 => ?_)
 ·skip
  refine sem_seq (sem_region rfl (step_n (nx' := 2) rfl rfl rfl trivial (step_nil (seqK_n (sem_ret (seqK_r ?_))))))
  exact answersGR [] [1] rfl ⟨trivial, trivial⟩ rfl (by (repeat' apply And.intro) <;> first | trivial | rfl | exact flat_len (fun _ => rfl) _ | exact encI_len _ | assumption) (rfl) rfl rfl rfl (by decide) rfl rfl ⟨⟨rfl, rfl⟩, trivial⟩
 ·cases h1

theorem clone_GEffect_nnl (l : List GEffect) (hl : l.length ≤ 16777216) : Ok Tryz.prog 153 [.pv (.nnl l.length (l.flatMap encGEffect))] [] (.ref 0 3 0 l.length) [.row 71 3 (l.flatMap encGEffect)] [] := by
 refine ok_of_sem Tryz.func153 rfl ?_
 show Walks Tryz.prog _ _ ⟨[(0, .pv (.nnl l.length (l.flatMap encGEffect)))], [], 0, [], 8, 0⟩
 refine sem_seq (sem_region rfl (step_n (nx' := 1) rfl rfl rfl trivial (step_nil (seqK_n (sem_seq (sem_seq (sem_region rfl (step_r rfl rfl trivial (step_r rfl rfl trivial (step_nil (seqK_n ?_)))))))))))
 refine sem_cond rfl (fun h1 => ?_) (fun h1 => ?_)
 ·cases h1
 ·skip
  refine sem_skip (seqK_n (sem_seq (sem_region rfl (step_r rfl rfl ⟨by decide, rfl⟩ (step_r rfl rfl trivial ?_)))))
  refine step_appendN (m := l.length) (new := l.flatMap encGEffect) (cs' := l.flatMap encGEffect) (n' := l.length) rfl rfl (rfl) rfl rfl rfl rfl rfl rfl (flat_len (s := 3) (enc := encGEffect) (fun _ => rfl) l) (by first | decide | (unfold maxGrow; omega) | (unfold maxGrow; simp; omega) | (unfold maxGrow; simp only [List.length_append, List.length_take, List.length_drop, List.length_cons, List.length_nil, IntKind.wrap_i64] at *; omega)) rfl rfl rfl rfl ?_
  refine step_r rfl rfl trivial (step_nil (seqK_n (sem_ret ?_)))
  exact answersGR [] [1] rfl ⟨trivial, trivial⟩ rfl (by (repeat' apply And.intro) <;> first | trivial | rfl | exact flat_len (fun _ => rfl) _ | exact encI_len _ | assumption) (rfl) rfl rfl rfl (by decide) rfl rfl ⟨⟨rfl, rfl⟩, trivial⟩

theorem clone_GEffect (l : List GEffect) (full : Bool) (hl : l.length ≤ 16777216) : Ok Tryz.prog 153 [.pv (.slc l.length full (l.flatMap encGEffect))] [] (.ref 0 3 0 l.length) [.row 71 3 (l.flatMap encGEffect)] [] := by
  refine Ok.slc1 (fun h1 h2 => ?_) (clone_GEffect_nnl l hl)
  rw [h1, h2]; exact clone_GEffect_nil

theorem hasf_GEffect (l : List GEffect) (l_f : Bool) (cl : FuncId) (caps : List AV) (p : GEffect → Bool) (hcl : Fn1 Tryz.prog cl caps (fun x => [aGEffect x]) (fun x => B (p x))) : Ok Tryz.prog 117 [.pv (.slc l.length l_f (l.flatMap encGEffect)), .fnc cl caps] [] (B (l.any p)) [] [] := by
 refine Ok.len fun hlen => ?_
 have hl_l : l.length ≤ maxLen := hlen _ (by simp [lensL, lens, lensP])
 unfold maxLen at hl_l
 refine ok_of_sem Tryz.func117 rfl ?_
 show Walks Tryz.prog _ _ ⟨[(0, .pv (.slc l.length l_f (l.flatMap encGEffect))), (1, .fnc cl caps)], [], 0, [], 9, 0⟩
 refine sem_seq (sem_region rfl (step_r rfl rfl trivial (step_nil (seqK_n (sem_seq (sem_region rfl (step_r rfl rfl trivial (step_r rfl rfl trivial (step_call rfl rfl rfl rfl (ixf_GEffect l l_f cl caps p hcl) hcl.belA rfl rfl (step_bin rfl rfl rfl rfl rfl trivial (step_r rfl rfl trivial ?_)))))))))))
 refine step_nil (seqK_n (sem_ret ?_))
 exact answersR rfl ⟨trivial, trivial⟩ (congrArg B any_fidx) rfl

theorem hasf_GLine (l : List GLine) (l_f : Bool) (cl : FuncId) (caps : List AV) (p : GLine → Bool) (hcl : Fn1 Tryz.prog cl caps (fun x => [aGLine x]) (fun x => B (p x))) : Ok Tryz.prog 120 [.pv (.slc l.length l_f (l.flatMap encGLine)), .fnc cl caps] [] (B (l.any p)) [] [] := by
 refine Ok.len fun hlen => ?_
 have hl_l : l.length ≤ maxLen := hlen _ (by simp [lensL, lens, lensP])
 unfold maxLen at hl_l
 refine ok_of_sem Tryz.func120 rfl ?_
 show Walks Tryz.prog _ _ ⟨[(0, .pv (.slc l.length l_f (l.flatMap encGLine))), (1, .fnc cl caps)], [], 0, [], 9, 0⟩
 refine sem_seq (sem_region rfl (step_r rfl rfl trivial (step_nil (seqK_n (sem_seq (sem_region rfl (step_r rfl rfl trivial (step_r rfl rfl trivial (step_call rfl rfl rfl rfl (ixf_GLine l l_f cl caps p hcl) hcl.belA rfl rfl (step_bin rfl rfl rfl rfl rfl trivial (step_r rfl rfl trivial ?_)))))))))))
 refine step_nil (seqK_n (sem_ret ?_))
 exact answersR rfl ⟨trivial, trivial⟩ (congrArg B any_fidx) rfl

theorem hasf_GPrize (l : List GPrize) (l_f : Bool) (cl : FuncId) (caps : List AV) (p : GPrize → Bool) (hcl : Fn1 Tryz.prog cl caps (fun x => [aGPrize x]) (fun x => B (p x))) : Ok Tryz.prog 123 [.pv (.slc l.length l_f (l.flatMap encGPrize)), .fnc cl caps] [] (B (l.any p)) [] [] := by
 refine Ok.len fun hlen => ?_
 have hl_l : l.length ≤ maxLen := hlen _ (by simp [lensL, lens, lensP])
 unfold maxLen at hl_l
 refine ok_of_sem Tryz.func123 rfl ?_
 show Walks Tryz.prog _ _ ⟨[(0, .pv (.slc l.length l_f (l.flatMap encGPrize))), (1, .fnc cl caps)], [], 0, [], 9, 0⟩
 refine sem_seq (sem_region rfl (step_r rfl rfl trivial (step_nil (seqK_n (sem_seq (sem_region rfl (step_r rfl rfl trivial (step_r rfl rfl trivial (step_call rfl rfl rfl rfl (ixf_GPrize l l_f cl caps p hcl) hcl.belA rfl rfl (step_bin rfl rfl rfl rfl rfl trivial (step_r rfl rfl trivial ?_)))))))))))
 refine step_nil (seqK_n (sem_ret ?_))
 exact answersR rfl ⟨trivial, trivial⟩ (congrArg B any_fidx) rfl

theorem hasf_Int (l : List Int) (l_f : Bool) (cl : FuncId) (caps : List AV) (p : Int → Bool) (hcl : Fn1 Tryz.prog cl caps (fun x => [I x]) (fun x => B (p x))) : Ok Tryz.prog 133 [.pv (.slc l.length l_f (encI l)), .fnc cl caps] [] (B (l.any p)) [] [] := by
 refine Ok.len fun hlen => ?_
 have hl_l : l.length ≤ maxLen := hlen _ (by simp [lensL, lens, lensP])
 unfold maxLen at hl_l
 refine ok_of_sem Tryz.func133 rfl ?_
 show Walks Tryz.prog _ _ ⟨[(0, .pv (.slc l.length l_f (encI l))), (1, .fnc cl caps)], [], 0, [], 9, 0⟩
 refine sem_seq (sem_region rfl (step_r rfl rfl trivial (step_nil (seqK_n (sem_seq (sem_region rfl (step_r rfl rfl trivial (step_r rfl rfl trivial (step_call rfl rfl rfl rfl (ixf_Int l l_f cl caps p hcl) hcl.belA rfl rfl (step_bin rfl rfl rfl rfl rfl trivial (step_r rfl rfl trivial ?_)))))))))))
 refine step_nil (seqK_n (sem_ret ?_))
 exact answersR rfl ⟨trivial, trivial⟩ (congrArg B any_fidx) rfl
end Go.Proofs.YtppnccjeggnllaaGreat

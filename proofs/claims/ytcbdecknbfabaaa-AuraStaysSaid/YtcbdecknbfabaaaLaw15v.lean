import Derived.Test.YtcbdecknbfabaaaTake15
namespace Go.Proofs.Ytcbdecknbfabaaa
open Go Go.RowKit Go.Proofs.YtcbdecknbfabaaaVm
attribute [local irreducible] opsWp AnswersE OpsS
set_option maxHeartbeats 400000
set_option maxRecDepth 100000
set_option linter.all false
structure A4int where
  (f0 : Int)
  (f1 : Int)
  (f2 : Int)
  (f3 : Int)
  deriving DecidableEq, Inhabited
def encA4int (x : A4int) : List PV := [i64 x.f0, i64 x.f1, i64 x.f2, i64 x.f3]
abbrev aA4int (x : A4int) : AV := .agg [I x.f0, I x.f1, I x.f2, I x.f3]
def wfA4int (x : A4int) : Prop := (InR x.f0) ∧ (InR x.f1) ∧ (InR x.f2) ∧ (InR x.f3)
theorem encA4int_solid {l : List A4int} : ∀ p ∈ l.flatMap encA4int, solidP p = true := flat_solid (fun x p h => by simp only [encA4int, List.mem_cons, List.mem_nil_iff, or_false] at h; rcases h with rfl | rfl | rfl | rfl <;> rfl)

def stays15_J61 (x0 : A4int) : Bool :=
  if (andK IntKind.i64 x0.f0 3 : Int) = 0 then ((andK IntKind.i64 x0.f0 3 : Int) == 0) else ((andK IntKind.i64 x0.f0 3 : Int) == 1)
def stays15_J57 (c : GContent) (l0 : List GActive) (now0 : Int) (x0 : A4int) : Sum Bool (List GActive) :=
  (let t60_61 := stays15_J61 x0; if t60_61 = true then (if (getU c x0.f1).2 = true then (if (getU c x0.f1).2 = true then (if ((apply15 c l0 x0.f1 x0.f2 (IntKind.i64.wrap (now0 + (andK IntKind.i64 x0.f3 7)))).2 : Int) = 5 then .inl false else if ((apply15 c l0 x0.f1 x0.f2 (IntKind.i64.wrap (now0 + (andK IntKind.i64 x0.f3 7)))).2 : Int) = 4 then (if (l0.length : Int) < 16 then .inl false else if ((apply15 c l0 x0.f1 x0.f2 (IntKind.i64.wrap (now0 + (andK IntKind.i64 x0.f3 7)))).2 : Int) = 0 then (if ((apply15 c l0 x0.f1 x0.f2 (IntKind.i64.wrap (now0 + (andK IntKind.i64 x0.f3 7)))).1.length : Int) = l0.length then (if ((apply15 c l0 x0.f1 x0.f2 (IntKind.i64.wrap (now0 + (andK IntKind.i64 x0.f3 7)))).2 : Int) = 0 then .inr ((apply15 c l0 x0.f1 x0.f2 (IntKind.i64.wrap (now0 + (andK IntKind.i64 x0.f3 7)))).1) else .inr l0) else if ((apply15 c l0 x0.f1 x0.f2 (IntKind.i64.wrap (now0 + (andK IntKind.i64 x0.f3 7)))).1.length : Int) = (IntKind.i64.wrap (l0.length + 1)) then (if ((apply15 c l0 x0.f1 x0.f2 (IntKind.i64.wrap (now0 + (andK IntKind.i64 x0.f3 7)))).2 : Int) = 0 then .inr ((apply15 c l0 x0.f1 x0.f2 (IntKind.i64.wrap (now0 + (andK IntKind.i64 x0.f3 7)))).1) else .inr l0) else .inl false) else if ((apply15 c l0 x0.f1 x0.f2 (IntKind.i64.wrap (now0 + (andK IntKind.i64 x0.f3 7)))).2 : Int) = 0 then .inr ((apply15 c l0 x0.f1 x0.f2 (IntKind.i64.wrap (now0 + (andK IntKind.i64 x0.f3 7)))).1) else .inr l0) else if ((apply15 c l0 x0.f1 x0.f2 (IntKind.i64.wrap (now0 + (andK IntKind.i64 x0.f3 7)))).2 : Int) = 0 then (if ((apply15 c l0 x0.f1 x0.f2 (IntKind.i64.wrap (now0 + (andK IntKind.i64 x0.f3 7)))).1.length : Int) = l0.length then (if ((apply15 c l0 x0.f1 x0.f2 (IntKind.i64.wrap (now0 + (andK IntKind.i64 x0.f3 7)))).2 : Int) = 0 then .inr ((apply15 c l0 x0.f1 x0.f2 (IntKind.i64.wrap (now0 + (andK IntKind.i64 x0.f3 7)))).1) else .inr l0) else if ((apply15 c l0 x0.f1 x0.f2 (IntKind.i64.wrap (now0 + (andK IntKind.i64 x0.f3 7)))).1.length : Int) = (IntKind.i64.wrap (l0.length + 1)) then (if ((apply15 c l0 x0.f1 x0.f2 (IntKind.i64.wrap (now0 + (andK IntKind.i64 x0.f3 7)))).2 : Int) = 0 then .inr ((apply15 c l0 x0.f1 x0.f2 (IntKind.i64.wrap (now0 + (andK IntKind.i64 x0.f3 7)))).1) else .inr l0) else .inl false) else if ((apply15 c l0 x0.f1 x0.f2 (IntKind.i64.wrap (now0 + (andK IntKind.i64 x0.f3 7)))).2 : Int) = 0 then .inr ((apply15 c l0 x0.f1 x0.f2 (IntKind.i64.wrap (now0 + (andK IntKind.i64 x0.f3 7)))).1) else .inr l0) else if ((apply15 c l0 x0.f1 x0.f2 (IntKind.i64.wrap (now0 + (andK IntKind.i64 x0.f3 7)))).2 : Int) = 4 then (if (l0.length : Int) < 16 then .inl false else if ((apply15 c l0 x0.f1 x0.f2 (IntKind.i64.wrap (now0 + (andK IntKind.i64 x0.f3 7)))).2 : Int) = 0 then (if ((apply15 c l0 x0.f1 x0.f2 (IntKind.i64.wrap (now0 + (andK IntKind.i64 x0.f3 7)))).1.length : Int) = l0.length then (if ((apply15 c l0 x0.f1 x0.f2 (IntKind.i64.wrap (now0 + (andK IntKind.i64 x0.f3 7)))).2 : Int) = 0 then .inr ((apply15 c l0 x0.f1 x0.f2 (IntKind.i64.wrap (now0 + (andK IntKind.i64 x0.f3 7)))).1) else .inr l0) else if ((apply15 c l0 x0.f1 x0.f2 (IntKind.i64.wrap (now0 + (andK IntKind.i64 x0.f3 7)))).1.length : Int) = (IntKind.i64.wrap (l0.length + 1)) then (if ((apply15 c l0 x0.f1 x0.f2 (IntKind.i64.wrap (now0 + (andK IntKind.i64 x0.f3 7)))).2 : Int) = 0 then .inr ((apply15 c l0 x0.f1 x0.f2 (IntKind.i64.wrap (now0 + (andK IntKind.i64 x0.f3 7)))).1) else .inr l0) else .inl false) else if ((apply15 c l0 x0.f1 x0.f2 (IntKind.i64.wrap (now0 + (andK IntKind.i64 x0.f3 7)))).2 : Int) = 0 then .inr ((apply15 c l0 x0.f1 x0.f2 (IntKind.i64.wrap (now0 + (andK IntKind.i64 x0.f3 7)))).1) else .inr l0) else if ((apply15 c l0 x0.f1 x0.f2 (IntKind.i64.wrap (now0 + (andK IntKind.i64 x0.f3 7)))).2 : Int) = 0 then (if ((apply15 c l0 x0.f1 x0.f2 (IntKind.i64.wrap (now0 + (andK IntKind.i64 x0.f3 7)))).1.length : Int) = l0.length then (if ((apply15 c l0 x0.f1 x0.f2 (IntKind.i64.wrap (now0 + (andK IntKind.i64 x0.f3 7)))).2 : Int) = 0 then .inr ((apply15 c l0 x0.f1 x0.f2 (IntKind.i64.wrap (now0 + (andK IntKind.i64 x0.f3 7)))).1) else .inr l0) else if ((apply15 c l0 x0.f1 x0.f2 (IntKind.i64.wrap (now0 + (andK IntKind.i64 x0.f3 7)))).1.length : Int) = (IntKind.i64.wrap (l0.length + 1)) then (if ((apply15 c l0 x0.f1 x0.f2 (IntKind.i64.wrap (now0 + (andK IntKind.i64 x0.f3 7)))).2 : Int) = 0 then .inr ((apply15 c l0 x0.f1 x0.f2 (IntKind.i64.wrap (now0 + (andK IntKind.i64 x0.f3 7)))).1) else .inr l0) else .inl false) else if ((apply15 c l0 x0.f1 x0.f2 (IntKind.i64.wrap (now0 + (andK IntKind.i64 x0.f3 7)))).2 : Int) = 0 then .inr ((apply15 c l0 x0.f1 x0.f2 (IntKind.i64.wrap (now0 + (andK IntKind.i64 x0.f3 7)))).1) else .inr l0) else if ((apply15 c l0 x0.f1 x0.f2 (IntKind.i64.wrap (now0 + (andK IntKind.i64 x0.f3 7)))).2 : Int) = 5 then (if (getU c x0.f1).2 = true then (if ((apply15 c l0 x0.f1 x0.f2 (IntKind.i64.wrap (now0 + (andK IntKind.i64 x0.f3 7)))).2 : Int) = 5 then .inl false else if ((apply15 c l0 x0.f1 x0.f2 (IntKind.i64.wrap (now0 + (andK IntKind.i64 x0.f3 7)))).2 : Int) = 4 then (if (l0.length : Int) < 16 then .inl false else if ((apply15 c l0 x0.f1 x0.f2 (IntKind.i64.wrap (now0 + (andK IntKind.i64 x0.f3 7)))).2 : Int) = 0 then (if ((apply15 c l0 x0.f1 x0.f2 (IntKind.i64.wrap (now0 + (andK IntKind.i64 x0.f3 7)))).1.length : Int) = l0.length then (if ((apply15 c l0 x0.f1 x0.f2 (IntKind.i64.wrap (now0 + (andK IntKind.i64 x0.f3 7)))).2 : Int) = 0 then .inr ((apply15 c l0 x0.f1 x0.f2 (IntKind.i64.wrap (now0 + (andK IntKind.i64 x0.f3 7)))).1) else .inr l0) else if ((apply15 c l0 x0.f1 x0.f2 (IntKind.i64.wrap (now0 + (andK IntKind.i64 x0.f3 7)))).1.length : Int) = (IntKind.i64.wrap (l0.length + 1)) then (if ((apply15 c l0 x0.f1 x0.f2 (IntKind.i64.wrap (now0 + (andK IntKind.i64 x0.f3 7)))).2 : Int) = 0 then .inr ((apply15 c l0 x0.f1 x0.f2 (IntKind.i64.wrap (now0 + (andK IntKind.i64 x0.f3 7)))).1) else .inr l0) else .inl false) else if ((apply15 c l0 x0.f1 x0.f2 (IntKind.i64.wrap (now0 + (andK IntKind.i64 x0.f3 7)))).2 : Int) = 0 then .inr ((apply15 c l0 x0.f1 x0.f2 (IntKind.i64.wrap (now0 + (andK IntKind.i64 x0.f3 7)))).1) else .inr l0) else if ((apply15 c l0 x0.f1 x0.f2 (IntKind.i64.wrap (now0 + (andK IntKind.i64 x0.f3 7)))).2 : Int) = 0 then (if ((apply15 c l0 x0.f1 x0.f2 (IntKind.i64.wrap (now0 + (andK IntKind.i64 x0.f3 7)))).1.length : Int) = l0.length then (if ((apply15 c l0 x0.f1 x0.f2 (IntKind.i64.wrap (now0 + (andK IntKind.i64 x0.f3 7)))).2 : Int) = 0 then .inr ((apply15 c l0 x0.f1 x0.f2 (IntKind.i64.wrap (now0 + (andK IntKind.i64 x0.f3 7)))).1) else .inr l0) else if ((apply15 c l0 x0.f1 x0.f2 (IntKind.i64.wrap (now0 + (andK IntKind.i64 x0.f3 7)))).1.length : Int) = (IntKind.i64.wrap (l0.length + 1)) then (if ((apply15 c l0 x0.f1 x0.f2 (IntKind.i64.wrap (now0 + (andK IntKind.i64 x0.f3 7)))).2 : Int) = 0 then .inr ((apply15 c l0 x0.f1 x0.f2 (IntKind.i64.wrap (now0 + (andK IntKind.i64 x0.f3 7)))).1) else .inr l0) else .inl false) else if ((apply15 c l0 x0.f1 x0.f2 (IntKind.i64.wrap (now0 + (andK IntKind.i64 x0.f3 7)))).2 : Int) = 0 then .inr ((apply15 c l0 x0.f1 x0.f2 (IntKind.i64.wrap (now0 + (andK IntKind.i64 x0.f3 7)))).1) else .inr l0) else if ((apply15 c l0 x0.f1 x0.f2 (IntKind.i64.wrap (now0 + (andK IntKind.i64 x0.f3 7)))).2 : Int) = 4 then (if (l0.length : Int) < 16 then .inl false else if ((apply15 c l0 x0.f1 x0.f2 (IntKind.i64.wrap (now0 + (andK IntKind.i64 x0.f3 7)))).2 : Int) = 0 then (if ((apply15 c l0 x0.f1 x0.f2 (IntKind.i64.wrap (now0 + (andK IntKind.i64 x0.f3 7)))).1.length : Int) = l0.length then (if ((apply15 c l0 x0.f1 x0.f2 (IntKind.i64.wrap (now0 + (andK IntKind.i64 x0.f3 7)))).2 : Int) = 0 then .inr ((apply15 c l0 x0.f1 x0.f2 (IntKind.i64.wrap (now0 + (andK IntKind.i64 x0.f3 7)))).1) else .inr l0) else if ((apply15 c l0 x0.f1 x0.f2 (IntKind.i64.wrap (now0 + (andK IntKind.i64 x0.f3 7)))).1.length : Int) = (IntKind.i64.wrap (l0.length + 1)) then (if ((apply15 c l0 x0.f1 x0.f2 (IntKind.i64.wrap (now0 + (andK IntKind.i64 x0.f3 7)))).2 : Int) = 0 then .inr ((apply15 c l0 x0.f1 x0.f2 (IntKind.i64.wrap (now0 + (andK IntKind.i64 x0.f3 7)))).1) else .inr l0) else .inl false) else if ((apply15 c l0 x0.f1 x0.f2 (IntKind.i64.wrap (now0 + (andK IntKind.i64 x0.f3 7)))).2 : Int) = 0 then .inr ((apply15 c l0 x0.f1 x0.f2 (IntKind.i64.wrap (now0 + (andK IntKind.i64 x0.f3 7)))).1) else .inr l0) else if ((apply15 c l0 x0.f1 x0.f2 (IntKind.i64.wrap (now0 + (andK IntKind.i64 x0.f3 7)))).2 : Int) = 0 then (if ((apply15 c l0 x0.f1 x0.f2 (IntKind.i64.wrap (now0 + (andK IntKind.i64 x0.f3 7)))).1.length : Int) = l0.length then (if ((apply15 c l0 x0.f1 x0.f2 (IntKind.i64.wrap (now0 + (andK IntKind.i64 x0.f3 7)))).2 : Int) = 0 then .inr ((apply15 c l0 x0.f1 x0.f2 (IntKind.i64.wrap (now0 + (andK IntKind.i64 x0.f3 7)))).1) else .inr l0) else if ((apply15 c l0 x0.f1 x0.f2 (IntKind.i64.wrap (now0 + (andK IntKind.i64 x0.f3 7)))).1.length : Int) = (IntKind.i64.wrap (l0.length + 1)) then (if ((apply15 c l0 x0.f1 x0.f2 (IntKind.i64.wrap (now0 + (andK IntKind.i64 x0.f3 7)))).2 : Int) = 0 then .inr ((apply15 c l0 x0.f1 x0.f2 (IntKind.i64.wrap (now0 + (andK IntKind.i64 x0.f3 7)))).1) else .inr l0) else .inl false) else if ((apply15 c l0 x0.f1 x0.f2 (IntKind.i64.wrap (now0 + (andK IntKind.i64 x0.f3 7)))).2 : Int) = 0 then .inr ((apply15 c l0 x0.f1 x0.f2 (IntKind.i64.wrap (now0 + (andK IntKind.i64 x0.f3 7)))).1) else .inr l0) else .inl false) else if (andK IntKind.i64 x0.f0 3 : Int) = 2 then (if (IntKind.i64.wrap (((expire15 l0 (IntKind.i64.wrap (now0 + (andK IntKind.i64 x0.f3 7)))).1.length) + ((expire15 l0 (IntKind.i64.wrap (now0 + (andK IntKind.i64 x0.f3 7)))).2.length)) : Int) = l0.length then .inr ((expire15 l0 (IntKind.i64.wrap (now0 + (andK IntKind.i64 x0.f3 7)))).1) else .inl false) else if (andK IntKind.i64 x0.f0 3 : Int) = 3 then .inr ((take15 c l0 x0.f1).1) else .inr l0)
def stays15_L0 (c : GContent) : List A4int → Nat → (List GActive) → Int → Sum Bool Int
  | [], k0, l0, now0 => .inr now0
  | x0 :: l_, k0, l0, now0 => (match stays15_J57 c l0 now0 x0 with
    | .inl r_ => .inl r_
    | .inr l_57 => if right15 c l_57 = true then stays15_L0 c l_ (k0 + 1) l_57 (IntKind.i64.wrap (now0 + (andK IntKind.i64 x0.f3 7))) else .inl false)
def stays15_L2 (c : GContent) (now_0 : Int) (x1 : GAura) : Nat → (List GActive) → Int → Int → (List GActive) × Int
  | 0, _, _, _ => default
  | n_ + 1, m2, e2, k2' => if (k2' : Int) < x1.Stacks then (if (e2 : Int) = 0 then stays15_L2 c now_0 x1 n_ ((apply15 c m2 x1.Id 1 now_0).1) ((apply15 c m2 x1.Id 1 now_0).2) (IntKind.i64.wrap ((k2') + 1)) else (m2, e2)) else (m2, e2)
def stays15_L1 (c : GContent) (now_0 : Int) : List GAura → Nat → Sum Bool Unit
  | [], k1 => .inr ()
  | x1 :: l_, k1 => (match stays15_L2 c now_0 x1 (101) ((apply15 c ([]) x1.Id 1 now_0).1) ((apply15 c ([]) x1.Id 1 now_0).2) 1 with
    | (m_2, e_2) => if (e_2 : Int) = 0 then (if (m_2.length : Int) = 1 then (if ((m_2.getD 0 default).Stacks : Int) = x1.Stacks then (if ((m_2.getD 0 default).Until : Int) = (IntKind.i64.wrap (now_0 + x1.Ticks)) then stays15_L1 c now_0 l_ (k1 + 1) else .inl false) else .inl false) else .inl false) else .inl false)
def stays15 (c : GContent) (l : List GActive) (steps : List A4int) : Bool :=
  if few9 c = true then (if (steps.length : Int) > 100 then (small15) else if right15 c l = true then (match stays15_L0 c steps 0 l 0 with
    | .inl r_ => r_
    | .inr now_0 => (match stays15_L1 c now_0 c.Auras 0 with
    | .inl r_ => r_
    | .inr () => (small15))) else (small15)) else (small15)
theorem stays15_ok (c : GContent) (l : List GActive) (l_f : Bool) (steps : List A4int) (steps_f : Bool) : Ok Try.prog 5 [aGContent c, .pv (.slc l.length l_f (l.flatMap encGActive)), .pv (.slc steps.length steps_f (steps.flatMap encA4int))] [] (B (stays15 c l steps)) [] [] := by
 refine Ok.len fun hlen => ?_
 have hl_c_Abilities : c.Abilities.length ≤ maxLen := hlen _ (by simp [lensL, lens, lensP])
 have hl_c_Auras : c.Auras.length ≤ maxLen := hlen _ (by simp [lensL, lens, lensP])
 have hl_c_Foes : c.Foes.length ≤ maxLen := hlen _ (by simp [lensL, lens, lensP])
 have hl_c_Map_Wall : c.Map.Wall.length ≤ maxLen := hlen _ (by simp [lensL, lens, lensP])
 have hl_l : l.length ≤ maxLen := hlen _ (by simp [lensL, lens, lensP])
 have hl_steps : steps.length ≤ maxLen := hlen _ (by simp [lensL, lens, lensP])
 unfold maxLen at hl_c_Abilities hl_c_Auras hl_c_Foes hl_c_Map_Wall hl_l hl_steps
 refine ok_of_sem Try.func5 rfl ?_
 show Walks Try.prog _ _ ⟨[(0, aGContent c), (1, .pv (.slc l.length l_f (l.flatMap encGActive))), (2, .pv (.slc steps.length steps_f (steps.flatMap encA4int)))], [], 0, [], 224, 0⟩
 refine sem_trans (Trans.loose (T' := [(0, aGContent c), (1, .pv (.slc l.length false (l.flatMap encGActive))), (2, .pv (.slc steps.length false (steps.flatMap encA4int)))]) (H' := []) ⟨⟨_, rfl, .inl rfl⟩, ⟨_, rfl, .inr rfl⟩, ⟨_, rfl, .inr rfl⟩, trivial⟩ trivial) ?_
 refine sem_seq (sem_region rfl (step_n (o := .box [_, _, _, _, _, _, _, _, _, _]) (nx' := 1) rfl rfl rfl trivial (step_r rfl rfl trivial (step_nil (seqK_n (sem_seq (sem_region rfl (step_call rfl rfl rfl rfl (small15_ok ) rfl rfl rfl (step_r rfl rfl trivial (step_nil (seqK_n ?_)))))))))))
 refine sem_seq (sem_region rfl (step_r (v := (.agg [_, _, _, _, _, _, _, _, _, _])) rfl rfl (Nat.le_of_ble_eq_true rfl) (step_call rfl rfl rfl rfl (few9_ok c) rfl rfl rfl (step_r rfl rfl trivial (step_nil (seqK_n (sem_seq (sem_seq (sem_region rfl (step_r rfl rfl trivial (step_r rfl rfl trivial ?_)))))))))))
 refine step_r rfl rfl trivial ?_
 refine step_gs rfl (fun h4 => ?_) (fun h4 => ?_)
 ·have g4 : ¬ (few9 c = true) := boo_f (not_t h4)
  refine step_g0 rfl h4 rfl (step_g0 rfl h4 rfl (step_g0 rfl h4 rfl (step_pickT rfl h4 rfl rfl (step_r rfl rfl trivial (step_gf rfl rfl (step_gf rfl rfl (step_gf rfl rfl (step_gf rfl rfl (step_r rfl rfl trivial (step_nil (seqK_n ?_)))))))))))
  refine sem_condT rfl (sem_seq (sem_region rfl (step_r rfl rfl trivial (step_r rfl rfl trivial (step_nil (seqK_n (sem_ret (seqK_r ?_))))))))
  have e5 : stays15 c l steps = (small15) := by
   unfold stays15
   try dsimp only
   rewrite [if_neg g4]
   all_goals rfl
  rw [e5]
  exact answersR rfl ⟨trivial, trivial⟩ (rfl) rfl
 ·have g4 : few9 c = true := (not_f h4)
  have qg4 := few_of g4
  refine step_g1 rfl h4 (step_r rfl rfl trivial (step_g1 rfl h4 (step_r rfl rfl trivial (step_g1 rfl h4 (step_bin rfl rfl rfl rfl rfl trivial (step_pickF rfl h4 rfl rfl (step_r rfl rfl trivial ?_)))))))
  refine step_gs rfl (fun h7 => ?_) (fun h7 => ?_)
  ·have g7 : (steps.length : Int) > 100 := of_decide_eq_true h7
   refine step_g0 rfl h7 rfl (step_g0 rfl h7 rfl (step_g0 rfl h7 rfl (step_g0 rfl h7 rfl (step_pickT rfl h7 rfl rfl (step_nil (seqK_n (sem_condT rfl (sem_seq (sem_region rfl (step_r rfl rfl trivial (step_r rfl rfl trivial ?_)))))))))))
   refine step_nil (seqK_n (sem_ret (seqK_r ?_)))
   have e8 : stays15 c l steps = (small15) := by
    unfold stays15
    try dsimp only
    rewrite [if_pos g4, if_pos g7]
    all_goals rfl
   rw [e8]
   exact answersR rfl ⟨trivial, trivial⟩ (rfl) rfl
  ·have g7 : ¬ ((steps.length : Int) > 100) := of_decide_eq_false h7
   refine step_g1 rfl h7 (step_r (v := (.agg [_, _, _, _, _, _, _, _, _, _])) rfl rfl (Nat.le_of_ble_eq_true rfl) (step_g1 rfl h7 (step_r rfl rfl trivial (step_g1 rfl h7 (step_call rfl rfl rfl rfl (right15_ok c l false (by first | assumption | exact few_small (by decide +kernel))) rfl rfl rfl (step_g1 rfl h7 (step_r rfl rfl trivial (step_pickF rfl h7 rfl rfl (step_nil (seqK_n ?_))))))))))
   refine sem_cond rfl (fun h10 => ?_) (fun h10 => ?_)
   ·have g10 : ¬ (right15 c l = true) := boo_f (not_t h10)
    refine sem_seq (sem_region rfl (step_r rfl rfl trivial (step_r rfl rfl trivial (step_nil (seqK_n (sem_ret (seqK_r ?_)))))))
    have e11 : stays15 c l steps = (small15) := by
     unfold stays15
     try dsimp only
     rewrite [if_pos g4, if_neg g7, if_neg g10]
     all_goals rfl
    rw [e11]
    exact answersR rfl ⟨trivial, trivial⟩ (rfl) rfl
   ·have g10 : right15 c l = true := (not_f h10)
    have qg10 := right15_both g10
    refine sem_skip (seqK_n (sem_seq (sem_region rfl (step_r rfl rfl trivial (step_nil (seqK_n (sem_seq (sem_seq (sem_region rfl (step_r rfl rfl trivial (step_nil ?_)))))))))))
    refine seqK_n ?_
    refine sem_cutW (fun now_0 : Int => (⟨[(3, .ptr 0 0), (7, B (small15)), (9, I now_0)], [(0, .box [.pv (.slc c.Abilities.length false (c.Abilities.flatMap encGAbility)), .pv (.slc c.Auras.length false (c.Auras.flatMap encGAura)), .pv (.slc c.Foes.length false (c.Foes.flatMap encGFoe)), I c.Map.W, I c.Map.H, .pv (.slc c.Map.Wall.length false (encB c.Map.Wall)), I c.Door.X, I c.Door.Y, I c.Lair.X, I c.Lair.Y])], 1, [], 224, 0⟩ : St)) (fun w_ => stays15_L0 c steps 0 l 0 = .inr w_) ?_ ?_
    ·refine sem_block ?_
     refine sem_loopT (fun w_ : Nat × (List GActive) × Int => match w_ with | (k0, l0, now0) => (⟨[(1, .pv (.slc l0.length false (l0.flatMap encGActive))), (2, .pv (.slc steps.length false (steps.flatMap encA4int))), (3, .ptr 0 0), (7, B (small15)), (9, I now0), (10, I k0)], [(0, .box [.pv (.slc c.Abilities.length false (c.Abilities.flatMap encGAbility)), .pv (.slc c.Auras.length false (c.Auras.flatMap encGAura)), .pv (.slc c.Foes.length false (c.Foes.flatMap encGFoe)), I c.Map.W, I c.Map.H, .pv (.slc c.Map.Wall.length false (encB c.Map.Wall)), I c.Door.X, I c.Door.Y, I c.Lair.X, I c.Lair.Y])], 1, [], 224, 0⟩ : St)) (fun w_ : Nat × (List GActive) × Int => match w_ with | (k0, l0, now0) => stays15_L0 c (steps.drop k0) k0 l0 now0 = stays15_L0 c steps 0 l 0 ∧ k0 ≤ steps.length ∧ l0.length ≤ 16) (fun w_ : Nat × (List GActive) × Int => match w_ with | (k0, l0, now0) => steps.length - k0) (0, l, 0) (⟨rfl, Nat.zero_le _, by first | omega | simp | (simp; omega)⟩) ?_ (fun w_ hh_ => ?_)
     ·exact (Trans.ren [] (by decide +kernel) (by decide +kernel) rfl ⟨⟨rfl, rfl⟩, ⟨rfl, rfl⟩, ⟨rfl, rfl⟩, ⟨rfl, rfl⟩, ⟨rfl, rfl⟩, ⟨rfl, rfl⟩, trivial⟩ ⟨⟨rfl, rfl, rfl⟩, trivial⟩ (by decide))
     obtain ⟨k0, l0, now0⟩ := w_
     obtain ⟨hI0, hb0, hv0⟩ := hh_
     show Walks Try.prog _ _ (⟨[(1, .pv (.slc l0.length false (l0.flatMap encGActive))), (2, .pv (.slc steps.length false (steps.flatMap encA4int))), (3, .ptr 0 0), (7, B (small15)), (9, I now0), (10, I k0)], [(0, .box [.pv (.slc c.Abilities.length false (c.Abilities.flatMap encGAbility)), .pv (.slc c.Auras.length false (c.Auras.flatMap encGAura)), .pv (.slc c.Foes.length false (c.Foes.flatMap encGFoe)), I c.Map.W, I c.Map.H, .pv (.slc c.Map.Wall.length false (encB c.Map.Wall)), I c.Door.X, I c.Door.Y, I c.Lair.X, I c.Lair.Y])], 1, [], 224, 0⟩ : St)
     refine sem_seq (sem_seq (sem_region rfl (step_r rfl rfl trivial (step_r rfl rfl trivial (step_r rfl rfl trivial (step_bin rfl rfl rfl rfl rfl trivial (step_nil (seqK_n ?_))))))))
     refine sem_cond rfl (fun h14 => ?_) (fun h14 => ?_)
     ·have g14 : (k0 : Int) < steps.length := of_decide_eq_true h14
      have hk0 : k0 < steps.length := by omega
      obtain ⟨x0, hx0⟩ : ∃ z_, steps[k0]? = some z_ := ⟨_, List.getElem?_eq_getElem hk0⟩
      refine sem_skip (seqK_n (sem_seq (sem_block (sem_seq (sem_region rfl (step_r rfl rfl trivial (step_r rfl rfl trivial (step_idxS (k := k0) rfl rfl rfl rfl hk0 (flat_ne (s := 4) (enc := encA4int) (fun _ => rfl) (by decide) hk0) rfl (step_load_row rfl rfl rfl (flat_lt (s := 4) (enc := encA4int) (fun _ => rfl) hk0) (flat_take (s := 4) (enc := encA4int) (fun _ => rfl) hx0) rfl (step_n (o := .box [_, _, _, _]) (nx' := 2) rfl rfl rfl trivial (step_store (H' := [(1, .box [_, _, _, _]), (0, .box [_, _, _, _, _, _, _, _, _, _])]) rfl rfl rfl rfl rfl rfl (Nat.le_of_ble_eq_true rfl) (.inl rfl) rfl ?_)))))))))))
      refine step_nil (seqK_n (sem_seq (sem_region rfl (step_r rfl rfl trivial (step_r rfl rfl (by decide) (step_r rfl rfl trivial (step_bin rfl rfl rfl rfl rfl trivial (step_bin rfl rfl rfl rfl rfl trivial (step_r rfl rfl trivial (step_nil (seqK_n ?_)))))))))))
      refine sem_seq ?_
      refine sem_cutW (fun l_57 : List GActive => (⟨[(1, .pv (.slc l_57.length false (l_57.flatMap encGActive))), (2, .pv (.slc steps.length false (steps.flatMap encA4int))), (3, .ptr 0 0), (7, B (small15)), (9, I (IntKind.i64.wrap (now0 + (andK IntKind.i64 x0.f3 7)))), (10, I k0)], [(0, .box [.pv (.slc c.Abilities.length false (c.Abilities.flatMap encGAbility)), .pv (.slc c.Auras.length false (c.Auras.flatMap encGAura)), .pv (.slc c.Foes.length false (c.Foes.flatMap encGFoe)), I c.Map.W, I c.Map.H, .pv (.slc c.Map.Wall.length false (encB c.Map.Wall)), I c.Door.X, I c.Door.Y, I c.Lair.X, I c.Lair.Y])], 1, [], 224, 0⟩ : St)) (fun w_ => stays15_J57 c l0 now0 x0 = .inr w_) ?_ ?_
      ·refine sem_seq (sem_region rfl (step_r rfl rfl (by decide) (step_r rfl rfl trivial (step_bin rfl rfl rfl rfl rfl trivial (step_nil (seqK_n (sem_block (sem_seq ?_))))))))
       refine sem_cutW (fun t60_61 : Bool => (⟨[(1, .pv (.slc l0.length false (l0.flatMap encGActive))), (2, .pv (.slc steps.length false (steps.flatMap encA4int))), (3, .ptr 0 0), (7, B (small15)), (9, I (IntKind.i64.wrap (now0 + (andK IntKind.i64 x0.f3 7)))), (10, I k0), (11, .ptr 1 0), (59, I (andK IntKind.i64 x0.f0 3)), (60, B t60_61)], [(0, .box [.pv (.slc c.Abilities.length false (c.Abilities.flatMap encGAbility)), .pv (.slc c.Auras.length false (c.Auras.flatMap encGAura)), .pv (.slc c.Foes.length false (c.Foes.flatMap encGFoe)), I c.Map.W, I c.Map.H, .pv (.slc c.Map.Wall.length false (encB c.Map.Wall)), I c.Door.X, I c.Door.Y, I c.Lair.X, I c.Lair.Y]), (1, .box [I x0.f0, I x0.f1, I x0.f2, I x0.f3])], 2, [], 224, 0⟩ : St)) (fun w_ => stays15_J61 x0 = w_) ?_ ?_
       ·refine sem_seq (sem_region rfl (step_bin rfl rfl rfl rfl rfl trivial (step_r rfl rfl trivial (step_nil (seqK_n ?_)))))
        refine sem_cond rfl (fun h20 => ?_) (fun h20 => ?_)
        ·have g20 : (andK IntKind.i64 x0.f0 3 : Int) = 0 := beq_t h20
         refine sem_skip ?_
         have e21 : stays15_J61 x0 = ((andK IntKind.i64 x0.f0 3 : Int) == 0) := by
          unfold stays15_J61
          try dsimp only
          rewrite [if_pos g20]
          all_goals rfl
         exact cutW_n ((andK IntKind.i64 x0.f0 3 : Int) == 0) e21 (Trans.ren [] (by decide +kernel) (by decide +kernel) rfl ⟨⟨rfl, rfl⟩, ⟨rfl, rfl⟩, ⟨rfl, rfl⟩, ⟨rfl, rfl⟩, ⟨rfl, rfl⟩, ⟨rfl, rfl⟩, ⟨rfl, rfl⟩, ⟨rfl, rfl⟩, ⟨rfl, rfl⟩, trivial⟩ ⟨⟨rfl, rfl, rfl⟩, ⟨rfl, rfl, rfl⟩, trivial⟩ (by decide))
        ·have g20 : ¬ ((andK IntKind.i64 x0.f0 3 : Int) = 0) := beq_f h20
         refine sem_region rfl (step_bin rfl rfl rfl rfl rfl trivial (step_r rfl rfl trivial (step_nil ?_)))
         have e23 : stays15_J61 x0 = ((andK IntKind.i64 x0.f0 3 : Int) == 1) := by
          unfold stays15_J61
          try dsimp only
          rewrite [if_neg g20]
          all_goals rfl
         exact cutW_n ((andK IntKind.i64 x0.f0 3 : Int) == 1) e23 (Trans.ren [] (by decide +kernel) (by decide +kernel) rfl ⟨⟨rfl, rfl⟩, ⟨rfl, rfl⟩, ⟨rfl, rfl⟩, ⟨rfl, rfl⟩, ⟨rfl, rfl⟩, ⟨rfl, rfl⟩, ⟨rfl, rfl⟩, ⟨rfl, rfl⟩, ⟨rfl, rfl⟩, trivial⟩ ⟨⟨rfl, rfl, rfl⟩, ⟨rfl, rfl, rfl⟩, trivial⟩ (by decide))
       ·rintro t60_61 (hJ18 : stays15_J61 x0 = t60_61)
        show seqK _ _ _ .normal (⟨[(1, .pv (.slc l0.length false (l0.flatMap encGActive))), (2, .pv (.slc steps.length false (steps.flatMap encA4int))), (3, .ptr 0 0), (7, B (small15)), (9, I (IntKind.i64.wrap (now0 + (andK IntKind.i64 x0.f3 7)))), (10, I k0), (11, .ptr 1 0), (59, I (andK IntKind.i64 x0.f0 3)), (60, B t60_61)], [(0, .box [.pv (.slc c.Abilities.length false (c.Abilities.flatMap encGAbility)), .pv (.slc c.Auras.length false (c.Auras.flatMap encGAura)), .pv (.slc c.Foes.length false (c.Foes.flatMap encGFoe)), I c.Map.W, I c.Map.H, .pv (.slc c.Map.Wall.length false (encB c.Map.Wall)), I c.Door.X, I c.Door.Y, I c.Lair.X, I c.Lair.Y]), (1, .box [I x0.f0, I x0.f1, I x0.f2, I x0.f3])], 2, [], 224, 0⟩ : St)
        refine seqK_n ?_
        refine sem_cond rfl (fun h24 => ?_) (fun h24 => ?_)
        ·have g24 : t60_61 = true := h24
         refine sem_seq ?_
         refine sem_regionS rfl (opsS_cut 10 (j := 0) ?_)
         simp only [List.take_succ_cons, List.take_zero, List.drop_succ_cons, List.drop_zero]
         refine step_r (v := (.agg [_, _, _, _, _, _, _, _, _, _])) rfl rfl (Nat.le_of_ble_eq_true rfl) (step_r rfl rfl trivial (step_r rfl rfl (by decide) (step_r rfl rfl trivial (step_r rfl rfl (by decide) (step_r rfl rfl trivial (step_r rfl rfl trivial ?_))))))
         refine step_callN (out' := .tup [.ref 2 _ _ _, _]) (H' := [(2, .row _ _ _), (0, .box [_, _, _, _, _, _, _, _, _, _]), (1, .box [_, _, _, _])]) (nx' := 3) rfl rfl rfl rfl rfl rfl rfl (by (repeat' apply And.intro) <;> first | trivial | rfl | exact flat_len (fun _ => rfl) _ | exact encI_len _ | exact Nat.le_of_ble_eq_true rfl | assumption) (apply15_ok c l0 false x0.f1 x0.f2 (IntKind.i64.wrap (now0 + (andK IntKind.i64 x0.f3 7))) (by first | assumption | omega | (simp only [List.length_nil, List.length_cons, List.length_append] at *; omega) | (simp; done) | (simp; omega))) rfl rfl rfl rfl ?_
         have p26 := apply15_len c l0 x0.f1 x0.f2 (IntKind.i64.wrap (now0 + (andK IntKind.i64 x0.f3 7)))
         refine step_r rfl rfl trivial (step_r rfl rfl trivial (step_nil ?_))
         refine opsS_trans (Trans.freezeJ (T' := [(1, .pv (.slc l0.length false (l0.flatMap encGActive))), (2, .pv (.slc steps.length false (steps.flatMap encA4int))), (3, .ptr 0 0), (7, B (small15)), (9, I (IntKind.i64.wrap (now0 + (andK IntKind.i64 x0.f3 7)))), (10, I k0), (11, .ptr 1 0), (59, I (andK IntKind.i64 x0.f0 3)), (60, B t60_61), (63, .tup [.pv (.slc (apply15 c l0 x0.f1 x0.f2 (IntKind.i64.wrap (now0 + (andK IntKind.i64 x0.f3 7)))).1.length false ((apply15 c l0 x0.f1 x0.f2 (IntKind.i64.wrap (now0 + (andK IntKind.i64 x0.f3 7)))).1.flatMap encGActive)), I (apply15 c l0 x0.f1 x0.f2 (IntKind.i64.wrap (now0 + (andK IntKind.i64 x0.f3 7)))).2]), (64, .agg [.pv (.slc c.Abilities.length false (c.Abilities.flatMap encGAbility)), .pv (.slc c.Auras.length false (c.Auras.flatMap encGAura)), .pv (.slc c.Foes.length false (c.Foes.flatMap encGFoe)), I c.Map.W, I c.Map.H, .pv (.slc c.Map.Wall.length false (encB c.Map.Wall)), I c.Door.X, I c.Door.Y, I c.Lair.X, I c.Lair.Y]), (65, .pv (.slc l0.length false (l0.flatMap encGActive))), (67, I x0.f1), (69, I x0.f2), (70, I (IntKind.i64.wrap (now0 + (andK IntKind.i64 x0.f3 7)))), (71, .tup [.pv (.slc (apply15 c l0 x0.f1 x0.f2 (IntKind.i64.wrap (now0 + (andK IntKind.i64 x0.f3 7)))).1.length false ((apply15 c l0 x0.f1 x0.f2 (IntKind.i64.wrap (now0 + (andK IntKind.i64 x0.f3 7)))).1.flatMap encGActive)), I (apply15 c l0 x0.f1 x0.f2 (IntKind.i64.wrap (now0 + (andK IntKind.i64 x0.f3 7)))).2]), (72, .pv (.slc (apply15 c l0 x0.f1 x0.f2 (IntKind.i64.wrap (now0 + (andK IntKind.i64 x0.f3 7)))).1.length false ((apply15 c l0 x0.f1 x0.f2 (IntKind.i64.wrap (now0 + (andK IntKind.i64 x0.f3 7)))).1.flatMap encGActive)))]) (H' := [(0, .box [.pv (.slc c.Abilities.length false (c.Abilities.flatMap encGAbility)), .pv (.slc c.Auras.length false (c.Auras.flatMap encGAura)), .pv (.slc c.Foes.length false (c.Foes.flatMap encGFoe)), I c.Map.W, I c.Map.H, .pv (.slc c.Map.Wall.length false (encB c.Map.Wall)), I c.Door.X, I c.Door.Y, I c.Lair.X, I c.Lair.Y]), (1, .box [I x0.f0, I x0.f1, I x0.f2, I x0.f3])]) [2] (by decide) ⟨⟨_, _, rfl, rfl, (by (repeat' apply And.intro) <;> first | trivial | rfl | exact flat_len (s := 6) (enc := encGActive) (fun _ => rfl) _ | exact flat_len (fun _ => rfl) _ | exact encI_len _ | exact Nat.le_of_ble_eq_true rfl | assumption)⟩, ⟨_, _, rfl, rfl, (by (repeat' apply And.intro) <;> first | trivial | rfl | exact flat_len (s := 6) (enc := encGActive) (fun _ => rfl) _ | exact flat_len (fun _ => rfl) _ | exact encI_len _ | exact Nat.le_of_ble_eq_true rfl | assumption)⟩, ⟨_, _, rfl, rfl, (by (repeat' apply And.intro) <;> first | trivial | rfl | exact flat_len (s := 6) (enc := encGActive) (fun _ => rfl) _ | exact flat_len (fun _ => rfl) _ | exact encI_len _ | exact Nat.le_of_ble_eq_true rfl | assumption)⟩, ⟨_, _, rfl, rfl, (by (repeat' apply And.intro) <;> first | trivial | rfl | exact flat_len (s := 6) (enc := encGActive) (fun _ => rfl) _ | exact flat_len (fun _ => rfl) _ | exact encI_len _ | exact Nat.le_of_ble_eq_true rfl | assumption)⟩, ⟨_, _, rfl, rfl, (by (repeat' apply And.intro) <;> first | trivial | rfl | exact flat_len (s := 6) (enc := encGActive) (fun _ => rfl) _ | exact flat_len (fun _ => rfl) _ | exact encI_len _ | exact Nat.le_of_ble_eq_true rfl | assumption)⟩, ⟨_, _, rfl, rfl, (by (repeat' apply And.intro) <;> first | trivial | rfl | exact flat_len (s := 6) (enc := encGActive) (fun _ => rfl) _ | exact flat_len (fun _ => rfl) _ | exact encI_len _ | exact Nat.le_of_ble_eq_true rfl | assumption)⟩, ⟨_, _, rfl, rfl, (by (repeat' apply And.intro) <;> first | trivial | rfl | exact flat_len (s := 6) (enc := encGActive) (fun _ => rfl) _ | exact flat_len (fun _ => rfl) _ | exact encI_len _ | exact Nat.le_of_ble_eq_true rfl | assumption)⟩, ⟨_, _, rfl, rfl, (by (repeat' apply And.intro) <;> first | trivial | rfl | exact flat_len (s := 6) (enc := encGActive) (fun _ => rfl) _ | exact flat_len (fun _ => rfl) _ | exact encI_len _ | exact Nat.le_of_ble_eq_true rfl | assumption)⟩, ⟨_, _, rfl, rfl, (by (repeat' apply And.intro) <;> first | trivial | rfl | exact flat_len (s := 6) (enc := encGActive) (fun _ => rfl) _ | exact flat_len (fun _ => rfl) _ | exact encI_len _ | exact Nat.le_of_ble_eq_true rfl | assumption)⟩, ⟨_, _, rfl, rfl, (by (repeat' apply And.intro) <;> first | trivial | rfl | exact flat_len (s := 6) (enc := encGActive) (fun _ => rfl) _ | exact flat_len (fun _ => rfl) _ | exact encI_len _ | exact Nat.le_of_ble_eq_true rfl | assumption)⟩, ⟨_, _, rfl, rfl, (by (repeat' apply And.intro) <;> first | trivial | rfl | exact flat_len (s := 6) (enc := encGActive) (fun _ => rfl) _ | exact flat_len (fun _ => rfl) _ | exact encI_len _ | exact Nat.le_of_ble_eq_true rfl | assumption)⟩, ⟨_, _, rfl, rfl, (by (repeat' apply And.intro) <;> first | trivial | rfl | exact flat_len (s := 6) (enc := encGActive) (fun _ => rfl) _ | exact flat_len (fun _ => rfl) _ | exact encI_len _ | exact Nat.le_of_ble_eq_true rfl | assumption)⟩, ⟨_, _, rfl, rfl, (by (repeat' apply And.intro) <;> first | trivial | rfl | exact flat_len (s := 6) (enc := encGActive) (fun _ => rfl) _ | exact flat_len (fun _ => rfl) _ | exact encI_len _ | exact Nat.le_of_ble_eq_true rfl | assumption)⟩, ⟨_, _, rfl, rfl, (by (repeat' apply And.intro) <;> first | trivial | rfl | exact flat_len (s := 6) (enc := encGActive) (fun _ => rfl) _ | exact flat_len (fun _ => rfl) _ | exact encI_len _ | exact Nat.le_of_ble_eq_true rfl | assumption)⟩, ⟨_, _, rfl, rfl, (by (repeat' apply And.intro) <;> first | trivial | rfl | exact flat_len (s := 6) (enc := encGActive) (fun _ => rfl) _ | exact flat_len (fun _ => rfl) _ | exact encI_len _ | exact Nat.le_of_ble_eq_true rfl | assumption)⟩, ⟨_, _, rfl, rfl, (by (repeat' apply And.intro) <;> first | trivial | rfl | exact flat_len (s := 6) (enc := encGActive) (fun _ => rfl) _ | exact flat_len (fun _ => rfl) _ | exact encI_len _ | exact Nat.le_of_ble_eq_true rfl | assumption)⟩, ⟨_, _, rfl, rfl, (by (repeat' apply And.intro) <;> first | trivial | rfl | exact flat_len (s := 6) (enc := encGActive) (fun _ => rfl) _ | exact flat_len (fun _ => rfl) _ | exact encI_len _ | exact Nat.le_of_ble_eq_true rfl | assumption)⟩, trivial⟩ ⟨⟨rfl, _, _, rfl, rfl, (by (repeat' apply And.intro) <;> first | trivial | rfl | exact flat_len (s := 6) (enc := encGActive) (fun _ => rfl) _ | exact flat_len (fun _ => rfl) _ | exact encI_len _ | exact Nat.le_of_ble_eq_true rfl | assumption)⟩, ⟨rfl, _, _, rfl, rfl, (by (repeat' apply And.intro) <;> first | trivial | rfl | exact flat_len (s := 6) (enc := encGActive) (fun _ => rfl) _ | exact flat_len (fun _ => rfl) _ | exact encI_len _ | exact Nat.le_of_ble_eq_true rfl | assumption)⟩, trivial⟩) ?_
         refine opsS_of (j := 10) ?_
         refine step_r rfl rfl trivial (step_r rfl rfl trivial (step_r rfl rfl trivial (step_nil (seqK_n (sem_seq (sem_region rfl (step_r (v := (.agg [_, _, _, _, _, _, _, _, _, _])) rfl rfl (Nat.le_of_ble_eq_true rfl) (step_r rfl rfl (by decide) (step_r rfl rfl trivial (step_call rfl rfl rfl rfl (getU_ok c x0.f1) rfl rfl rfl (step_r rfl rfl trivial ?_)))))))))))
         refine step_r rfl rfl trivial (step_r rfl rfl trivial (step_n (o := .box [_, _, _, _, _, _, _]) (nx' := 4) rfl rfl rfl trivial (step_store (H' := [(3, .box [_, _, _, _, _, _, _]), (0, .box [_, _, _, _, _, _, _, _, _, _]), (1, .box [_, _, _, _])]) rfl rfl rfl rfl rfl rfl (Nat.le_of_ble_eq_true rfl) (.inl rfl) rfl (step_r rfl rfl trivial (step_nil (seqK_n (sem_seq (sem_seq (sem_region rfl (step_r rfl rfl trivial (step_r rfl rfl trivial ?_)))))))))))
         refine step_r rfl rfl trivial ?_
         refine step_gs rfl (fun h30 => ?_) (fun h30 => ?_)
         ·have g30 : ¬ ((getU c x0.f1).2 = true) := boo_f (not_t h30)
          refine step_g1 rfl h30 (step_r rfl rfl trivial (step_g1 rfl h30 (step_bin rfl rfl rfl rfl rfl trivial (step_pickT rfl h30 rfl rfl (step_r rfl rfl trivial ?_)))))
          refine step_gs rfl (fun h32 => ?_) (fun h32 => ?_)
          ·have g32 : ¬ (((apply15 c l0 x0.f1 x0.f2 (IntKind.i64.wrap (now0 + (andK IntKind.i64 x0.f3 7)))).2 : Int) = 5) := bne_t h32
           refine step_g0 rfl h32 rfl (step_g0 rfl h32 rfl (step_gf rfl rfl (step_gf rfl rfl (step_g0 rfl h32 rfl (step_pickT rfl h32 rfl rfl (step_r rfl rfl trivial (step_gf rfl rfl (step_gf rfl rfl (step_gf rfl rfl (step_gf rfl rfl (step_gf rfl rfl ?_)))))))))))
           refine step_gf rfl rfl (step_gf rfl rfl (step_r rfl rfl trivial (step_r rfl rfl trivial (step_gf rfl rfl (step_gf rfl rfl (step_gf rfl rfl (step_gf rfl rfl (step_gf rfl rfl (step_gf rfl rfl (step_gf rfl rfl (step_gf rfl rfl ?_)))))))))))
           refine step_gf rfl rfl (step_gf rfl rfl (step_gf rfl rfl (step_gf rfl rfl (step_gf rfl rfl (step_gf rfl rfl (step_gf rfl rfl (step_gf rfl rfl (step_gf rfl rfl (step_r rfl rfl trivial (step_nil (seqK_n ?_)))))))))))
           refine sem_condT rfl (sem_seq (sem_region rfl (step_r rfl rfl trivial (step_nil (seqK_n (sem_ret (seqK_r (blkK_r (cutW_r (seqK_r (blkK_r ?_)))))))))))
           refine seqK_r (lupK_r (blkK_r (cutW_r (seqK_r ?_))))
           have e33 : stays15_J57 c l0 now0 x0 = .inl false := by
            unfold stays15_J57
            try dsimp only
            rewrite [hJ18]
            try dsimp only
            rewrite [if_pos g24, if_neg g30, if_neg g32]
            all_goals rfl
           have e34 : stays15_L0 c steps 0 l 0 = .inl false := by
            rewrite [← hI0, drop_cons hx0]
            rewrite [stays15_L0]
            try dsimp only
            rewrite [e33]
            try dsimp only
            all_goals rfl
           have e35 : stays15 c l steps = false := by
            unfold stays15
            try dsimp only
            rewrite [if_pos g4, if_neg g7, if_pos g10, e34]
            try dsimp only
            all_goals rfl
           rw [e35]
           exact answersR rfl ⟨trivial, trivial⟩ (rfl) rfl
          ·have g32 : ((apply15 c l0 x0.f1 x0.f2 (IntKind.i64.wrap (now0 + (andK IntKind.i64 x0.f3 7)))).2 : Int) = 5 := bne_f h32
           refine step_g1 rfl h32 (step_r rfl rfl trivial (step_g1 rfl h32 (step_r rfl rfl trivial ?_)))
           refine step_gs rfl (fun h36 => ?_) (fun h36 => ?_)
           ·have g36 : (getU c x0.f1).2 = true := h36
            refine step_g1 rfl h36 (step_r rfl rfl trivial (step_g1 rfl h36 (step_bin rfl rfl rfl rfl rfl trivial (step_g1 rfl h32 (step_pickT rfl h36 rfl rfl (step_pickF rfl h32 rfl rfl (step_r rfl rfl trivial ?_)))))))
            refine step_gs rfl (fun h38 => ?_) (fun h38 => ?_)
            ·have g38 : ((apply15 c l0 x0.f1 x0.f2 (IntKind.i64.wrap (now0 + (andK IntKind.i64 x0.f3 7)))).2 : Int) = 5 := beq_t h38
             refine step_g0 rfl h38 rfl (step_g0 rfl h38 rfl (step_g0 rfl h38 rfl (step_gf rfl rfl (step_gf rfl rfl (step_gf rfl rfl (step_g0 rfl h38 rfl (step_pickT rfl h38 rfl rfl (step_r rfl rfl trivial (step_gf rfl rfl (step_gf rfl rfl (step_gf rfl rfl ?_)))))))))))
             refine step_gf rfl rfl (step_gf rfl rfl (step_gf rfl rfl (step_gf rfl rfl (step_gf rfl rfl (step_gf rfl rfl (step_gf rfl rfl (step_gf rfl rfl (step_gf rfl rfl (step_gf rfl rfl (step_gf rfl rfl (step_gf rfl rfl ?_)))))))))))
             refine step_gf rfl rfl (step_gf rfl rfl (step_r rfl rfl trivial (step_nil (seqK_n (sem_condT rfl (sem_seq (sem_region rfl (step_r rfl rfl trivial (step_nil (seqK_n (sem_ret ?_)))))))))))
             refine seqK_r (blkK_r (cutW_r (seqK_r (blkK_r (seqK_r (lupK_r (blkK_r (cutW_r (seqK_r ?_)))))))))
             have e39 : stays15_J57 c l0 now0 x0 = .inl false := by
              unfold stays15_J57
              try dsimp only
              rewrite [hJ18]
              try dsimp only
              rewrite [if_pos g24, if_neg g30, if_pos g32, if_pos g36, if_pos g38]
              all_goals rfl
             have e40 : stays15_L0 c steps 0 l 0 = .inl false := by
              rewrite [← hI0, drop_cons hx0]
              rewrite [stays15_L0]
              try dsimp only
              rewrite [e39]
              try dsimp only
              all_goals rfl
             have e41 : stays15 c l steps = false := by
              unfold stays15
              try dsimp only
              rewrite [if_pos g4, if_neg g7, if_pos g10, e40]
              try dsimp only
              all_goals rfl
             rw [e41]
             exact answersR rfl ⟨trivial, trivial⟩ (rfl) rfl
            ·have g38 : ¬ (((apply15 c l0 x0.f1 x0.f2 (IntKind.i64.wrap (now0 + (andK IntKind.i64 x0.f3 7)))).2 : Int) = 5) := beq_f h38
             refine step_g1 rfl h38 (step_r rfl rfl trivial (step_g1 rfl h38 (step_bin rfl rfl rfl rfl rfl trivial (step_g1 rfl h38 (step_r rfl rfl trivial ?_)))))
             refine step_gs rfl (fun h43 => ?_) (fun h43 => ?_)
             ·have g43 : ((apply15 c l0 x0.f1 x0.f2 (IntKind.i64.wrap (now0 + (andK IntKind.i64 x0.f3 7)))).2 : Int) = 4 := beq_t h43
              refine step_g1 rfl h43 (step_r rfl rfl trivial (step_g1 rfl h43 (step_r rfl rfl trivial (step_g1 rfl h43 (step_bin rfl rfl rfl rfl rfl trivial (step_g1 rfl h38 (step_pickT rfl h43 rfl rfl (step_pickF rfl h38 rfl rfl (step_r rfl rfl trivial ?_)))))))))
              refine step_gs rfl (fun h45 => ?_) (fun h45 => ?_)
              ·have g45 : (l0.length : Int) < 16 := of_decide_eq_true h45
               refine step_g0 rfl h45 rfl (step_g0 rfl h45 rfl (step_g0 rfl h45 rfl (step_gf rfl rfl (step_gf rfl rfl (step_gf rfl rfl (step_gf rfl rfl (step_gf rfl rfl (step_g0 rfl h45 rfl (step_g0 rfl h45 rfl (step_gf rfl rfl (step_gf rfl rfl ?_)))))))))))
               refine step_gf rfl rfl (step_gf rfl rfl (step_gf rfl rfl (step_gf rfl rfl (step_g0 rfl h45 rfl (step_pickT rfl h45 rfl rfl (step_nil (seqK_n (sem_condT rfl (sem_seq (sem_region rfl (step_r rfl rfl trivial ?_)))))))))))
               refine step_nil (seqK_n (sem_ret (seqK_r (blkK_r (cutW_r (seqK_r (blkK_r (seqK_r (lupK_r (blkK_r (cutW_r ?_)))))))))))
               refine seqK_r ?_
               have e46 : stays15_J57 c l0 now0 x0 = .inl false := by
                unfold stays15_J57
                try dsimp only
                rewrite [hJ18]
                try dsimp only
                rewrite [if_pos g24, if_neg g30, if_pos g32, if_pos g36, if_neg g38, if_pos g43, if_pos g45]
                all_goals rfl
               have e47 : stays15_L0 c steps 0 l 0 = .inl false := by
                rewrite [← hI0, drop_cons hx0]
                rewrite [stays15_L0]
                try dsimp only
                rewrite [e46]
                try dsimp only
                all_goals rfl
               have e48 : stays15 c l steps = false := by
                unfold stays15
                try dsimp only
                rewrite [if_pos g4, if_neg g7, if_pos g10, e47]
                try dsimp only
                all_goals rfl
               rw [e48]
               exact answersR rfl ⟨trivial, trivial⟩ (rfl) rfl
              ·have g45 : ¬ ((l0.length : Int) < 16) := of_decide_eq_false h45
               refine step_g1 rfl h45 (step_r rfl rfl trivial (step_g1 rfl h45 (step_bin rfl rfl rfl rfl rfl trivial (step_g1 rfl h45 (step_r rfl rfl trivial ?_)))))
               refine step_gs rfl (fun h50 => ?_) (fun h50 => ?_)
               ·have g50 : ((apply15 c l0 x0.f1 x0.f2 (IntKind.i64.wrap (now0 + (andK IntKind.i64 x0.f3 7)))).2 : Int) = 0 := beq_t h50
                refine step_g1 rfl h50 (step_r rfl rfl trivial (step_g1 rfl h50 (step_r rfl rfl trivial (step_g1 rfl h50 (step_r rfl rfl trivial (step_g1 rfl h50 (step_r rfl rfl trivial (step_g1 rfl h50 (step_bin rfl rfl rfl rfl rfl trivial (step_g1 rfl h45 (step_pickT rfl h50 rfl rfl ?_)))))))))))
                refine step_g1 rfl h45 (step_r rfl rfl trivial ?_)
                refine step_gs rfl (fun h52 => ?_) (fun h52 => ?_)
                ·have g52 : ¬ (((apply15 c l0 x0.f1 x0.f2 (IntKind.i64.wrap (now0 + (andK IntKind.i64 x0.f3 7)))).1.length : Int) = l0.length) := bne_t h52
                 refine step_g1 rfl h52 (step_r rfl rfl trivial (step_g1 rfl h52 (step_r rfl rfl trivial (step_g1 rfl h52 (step_r rfl rfl trivial (step_g1 rfl h52 (step_r rfl rfl trivial (step_g1 rfl h52 (step_bin rfl rfl rfl rfl rfl trivial (step_g1 rfl h52 (step_bin rfl rfl rfl rfl rfl trivial ?_)))))))))))
                 refine step_g1 rfl h45 (step_pickT rfl h52 rfl rfl (step_pickF rfl h45 rfl rfl (step_nil (seqK_n ?_))))
                 refine sem_cond rfl (fun h54 => ?_) (fun h54 => ?_)
                 ·have g54 : ¬ (((apply15 c l0 x0.f1 x0.f2 (IntKind.i64.wrap (now0 + (andK IntKind.i64 x0.f3 7)))).1.length : Int) = (IntKind.i64.wrap (l0.length + 1))) := bne_t h54
                  refine sem_seq (sem_region rfl (step_r rfl rfl trivial (step_nil (seqK_n (sem_ret (seqK_r (blkK_r (cutW_r (seqK_r (blkK_r (seqK_r ?_)))))))))))
                  refine lupK_r (blkK_r (cutW_r (seqK_r ?_)))
                  have e55 : stays15_J57 c l0 now0 x0 = .inl false := by
                   unfold stays15_J57
                   try dsimp only
                   rewrite [hJ18]
                   try dsimp only
                   rewrite [if_pos g24, if_neg g30, if_pos g32, if_pos g36, if_neg g38, if_pos g43, if_neg g45, if_pos g50, if_neg g52, if_neg g54]
                   all_goals rfl
                  have e56 : stays15_L0 c steps 0 l 0 = .inl false := by
                   rewrite [← hI0, drop_cons hx0]
                   rewrite [stays15_L0]
                   try dsimp only
                   rewrite [e55]
                   try dsimp only
                   all_goals rfl
                  have e57 : stays15 c l steps = false := by
                   unfold stays15
                   try dsimp only
                   rewrite [if_pos g4, if_neg g7, if_pos g10, e56]
                   try dsimp only
                   all_goals rfl
                  rw [e57]
                  exact answersR rfl ⟨trivial, trivial⟩ (rfl) rfl
                 ·have g54 : ((apply15 c l0 x0.f1 x0.f2 (IntKind.i64.wrap (now0 + (andK IntKind.i64 x0.f3 7)))).1.length : Int) = (IntKind.i64.wrap (l0.length + 1)) := bne_f h54
                  refine sem_skip (seqK_n (sem_seq (sem_region rfl (step_r rfl rfl trivial (step_bin rfl rfl rfl rfl rfl trivial (step_nil (seqK_n ?_)))))))
                  refine sem_cond rfl (fun h58 => ?_) (fun h58 => ?_)
                  ·have g58 : ((apply15 c l0 x0.f1 x0.f2 (IntKind.i64.wrap (now0 + (andK IntKind.i64 x0.f3 7)))).2 : Int) = 0 := beq_t h58
                   refine sem_region rfl (step_r rfl rfl trivial (step_r rfl rfl trivial (step_nil (blkK_n ?_))))
                   have e59 : stays15_J57 c l0 now0 x0 = .inr ((apply15 c l0 x0.f1 x0.f2 (IntKind.i64.wrap (now0 + (andK IntKind.i64 x0.f3 7)))).1) := by
                    unfold stays15_J57
                    try dsimp only
                    rewrite [hJ18]
                    try dsimp only
                    rewrite [if_pos g24, if_neg g30, if_pos g32, if_pos g36, if_neg g38, if_pos g43, if_neg g45, if_pos g50, if_neg g52, if_pos g54, if_pos g58]
                    all_goals rfl
                   exact cutW_n ((apply15 c l0 x0.f1 x0.f2 (IntKind.i64.wrap (now0 + (andK IntKind.i64 x0.f3 7)))).1) e59 (Trans.ren [] (by decide +kernel) (by decide +kernel) rfl ⟨⟨rfl, rfl⟩, ⟨rfl, rfl⟩, ⟨rfl, rfl⟩, ⟨rfl, rfl⟩, ⟨rfl, rfl⟩, ⟨rfl, rfl⟩, trivial⟩ ⟨⟨rfl, rfl, rfl⟩, trivial⟩ (by decide))
                  ·have g58 : ¬ (((apply15 c l0 x0.f1 x0.f2 (IntKind.i64.wrap (now0 + (andK IntKind.i64 x0.f3 7)))).2 : Int) = 0) := beq_f h58
                   refine sem_skip (blkK_n ?_)
                   have e60 : stays15_J57 c l0 now0 x0 = .inr l0 := by
                    unfold stays15_J57
                    try dsimp only
                    rewrite [hJ18]
                    try dsimp only
                    rewrite [if_pos g24, if_neg g30, if_pos g32, if_pos g36, if_neg g38, if_pos g43, if_neg g45, if_pos g50, if_neg g52, if_pos g54, if_neg g58]
                    all_goals rfl
                   exact cutW_n l0 e60 (Trans.ren [] (by decide +kernel) (by decide +kernel) rfl ⟨⟨rfl, rfl⟩, ⟨rfl, rfl⟩, ⟨rfl, rfl⟩, ⟨rfl, rfl⟩, ⟨rfl, rfl⟩, ⟨rfl, rfl⟩, trivial⟩ ⟨⟨rfl, rfl, rfl⟩, trivial⟩ (by decide))
                ·have g52 : ((apply15 c l0 x0.f1 x0.f2 (IntKind.i64.wrap (now0 + (andK IntKind.i64 x0.f3 7)))).1.length : Int) = l0.length := bne_f h52
                 refine step_g0 rfl h52 rfl (step_g0 rfl h52 rfl (step_g0 rfl h52 rfl (step_g0 rfl h52 rfl (step_g0 rfl h52 rfl (step_g0 rfl h52 rfl (step_g1 rfl h45 (step_pickF rfl h52 rfl rfl (step_pickF rfl h45 rfl rfl (step_nil (seqK_n (sem_condF rfl ?_)))))))))))
                 refine sem_skip (seqK_n (sem_seq (sem_region rfl (step_r rfl rfl trivial (step_bin rfl rfl rfl rfl rfl trivial (step_nil (seqK_n ?_)))))))
                 refine sem_cond rfl (fun h61 => ?_) (fun h61 => ?_)
                 ·have g61 : ((apply15 c l0 x0.f1 x0.f2 (IntKind.i64.wrap (now0 + (andK IntKind.i64 x0.f3 7)))).2 : Int) = 0 := beq_t h61
                  refine sem_region rfl (step_r rfl rfl trivial (step_r rfl rfl trivial (step_nil (blkK_n ?_))))
                  have e62 : stays15_J57 c l0 now0 x0 = .inr ((apply15 c l0 x0.f1 x0.f2 (IntKind.i64.wrap (now0 + (andK IntKind.i64 x0.f3 7)))).1) := by
                   unfold stays15_J57
                   try dsimp only
                   rewrite [hJ18]
                   try dsimp only
                   rewrite [if_pos g24, if_neg g30, if_pos g32, if_pos g36, if_neg g38, if_pos g43, if_neg g45, if_pos g50, if_pos g52, if_pos g61]
                   all_goals rfl
                  exact cutW_n ((apply15 c l0 x0.f1 x0.f2 (IntKind.i64.wrap (now0 + (andK IntKind.i64 x0.f3 7)))).1) e62 (Trans.ren [] (by decide +kernel) (by decide +kernel) rfl ⟨⟨rfl, rfl⟩, ⟨rfl, rfl⟩, ⟨rfl, rfl⟩, ⟨rfl, rfl⟩, ⟨rfl, rfl⟩, ⟨rfl, rfl⟩, trivial⟩ ⟨⟨rfl, rfl, rfl⟩, trivial⟩ (by decide))
                 ·have g61 : ¬ (((apply15 c l0 x0.f1 x0.f2 (IntKind.i64.wrap (now0 + (andK IntKind.i64 x0.f3 7)))).2 : Int) = 0) := beq_f h61
                  refine sem_skip (blkK_n ?_)
                  have e63 : stays15_J57 c l0 now0 x0 = .inr l0 := by
                   unfold stays15_J57
                   try dsimp only
                   rewrite [hJ18]
                   try dsimp only
                   rewrite [if_pos g24, if_neg g30, if_pos g32, if_pos g36, if_neg g38, if_pos g43, if_neg g45, if_pos g50, if_pos g52, if_neg g61]
                   all_goals rfl
                  exact cutW_n l0 e63 (Trans.ren [] (by decide +kernel) (by decide +kernel) rfl ⟨⟨rfl, rfl⟩, ⟨rfl, rfl⟩, ⟨rfl, rfl⟩, ⟨rfl, rfl⟩, ⟨rfl, rfl⟩, ⟨rfl, rfl⟩, trivial⟩ ⟨⟨rfl, rfl, rfl⟩, trivial⟩ (by decide))
               ·have g50 : ¬ (((apply15 c l0 x0.f1 x0.f2 (IntKind.i64.wrap (now0 + (andK IntKind.i64 x0.f3 7)))).2 : Int) = 0) := beq_f h50
                refine step_g0 rfl h50 rfl (step_g0 rfl h50 rfl (step_g0 rfl h50 rfl (step_g0 rfl h50 rfl (step_g0 rfl h50 rfl (step_g1 rfl h45 (step_pickF rfl h50 rfl rfl (step_g1 rfl h45 (step_r rfl rfl trivial (step_gf rfl rfl (step_gf rfl rfl (step_gf rfl rfl ?_)))))))))))
                refine step_gf rfl rfl (step_gf rfl rfl (step_gf rfl rfl (step_g1 rfl h45 (step_r rfl rfl trivial (step_pickF rfl h45 rfl rfl (step_nil (seqK_n (sem_condF rfl (sem_skip (seqK_n (sem_seq ?_)))))))))))
                refine sem_region rfl (step_r rfl rfl trivial (step_bin rfl rfl rfl rfl rfl trivial (step_nil (seqK_n ?_))))
                refine sem_cond rfl (fun h64 => ?_) (fun h64 => ?_)
                ·have g64 : ((apply15 c l0 x0.f1 x0.f2 (IntKind.i64.wrap (now0 + (andK IntKind.i64 x0.f3 7)))).2 : Int) = 0 := beq_t h64
                 refine sem_region rfl (step_r rfl rfl trivial (step_r rfl rfl trivial (step_nil (blkK_n ?_))))
                 have e65 : stays15_J57 c l0 now0 x0 = .inr ((apply15 c l0 x0.f1 x0.f2 (IntKind.i64.wrap (now0 + (andK IntKind.i64 x0.f3 7)))).1) := by
                  unfold stays15_J57
                  try dsimp only
                  rewrite [hJ18]
                  try dsimp only
                  rewrite [if_pos g24, if_neg g30, if_pos g32, if_pos g36, if_neg g38, if_pos g43, if_neg g45, if_neg g50, if_pos g64]
                  all_goals rfl
                 exact cutW_n ((apply15 c l0 x0.f1 x0.f2 (IntKind.i64.wrap (now0 + (andK IntKind.i64 x0.f3 7)))).1) e65 (Trans.ren [] (by decide +kernel) (by decide +kernel) rfl ⟨⟨rfl, rfl⟩, ⟨rfl, rfl⟩, ⟨rfl, rfl⟩, ⟨rfl, rfl⟩, ⟨rfl, rfl⟩, ⟨rfl, rfl⟩, trivial⟩ ⟨⟨rfl, rfl, rfl⟩, trivial⟩ (by decide))
                ·have g64 : ¬ (((apply15 c l0 x0.f1 x0.f2 (IntKind.i64.wrap (now0 + (andK IntKind.i64 x0.f3 7)))).2 : Int) = 0) := beq_f h64
                 refine sem_skip (blkK_n ?_)
                 have e66 : stays15_J57 c l0 now0 x0 = .inr l0 := by
                  unfold stays15_J57
                  try dsimp only
                  rewrite [hJ18]
                  try dsimp only
                  rewrite [if_pos g24, if_neg g30, if_pos g32, if_pos g36, if_neg g38, if_pos g43, if_neg g45, if_neg g50, if_neg g64]
                  all_goals rfl
                 exact cutW_n l0 e66 (Trans.ren [] (by decide +kernel) (by decide +kernel) rfl ⟨⟨rfl, rfl⟩, ⟨rfl, rfl⟩, ⟨rfl, rfl⟩, ⟨rfl, rfl⟩, ⟨rfl, rfl⟩, ⟨rfl, rfl⟩, trivial⟩ ⟨⟨rfl, rfl, rfl⟩, trivial⟩ (by decide))
             ·have g43 : ¬ (((apply15 c l0 x0.f1 x0.f2 (IntKind.i64.wrap (now0 + (andK IntKind.i64 x0.f3 7)))).2 : Int) = 4) := beq_f h43
              refine step_g0 rfl h43 rfl (step_g0 rfl h43 rfl (step_g0 rfl h43 rfl (step_g1 rfl h38 (step_pickF rfl h43 rfl rfl (step_pickF rfl h38 rfl rfl (step_r rfl rfl trivial (step_gt rfl (step_r rfl rfl trivial (step_gt rfl (step_bin rfl rfl rfl rfl rfl trivial (step_gt rfl ?_)))))))))))
              refine step_r rfl rfl trivial ?_
              refine step_gs rfl (fun h68 => ?_) (fun h68 => ?_)
              ·have g68 : ((apply15 c l0 x0.f1 x0.f2 (IntKind.i64.wrap (now0 + (andK IntKind.i64 x0.f3 7)))).2 : Int) = 0 := beq_t h68
               refine step_g1 rfl h68 (step_r rfl rfl trivial (step_g1 rfl h68 (step_r rfl rfl trivial (step_g1 rfl h68 (step_r rfl rfl trivial (step_g1 rfl h68 (step_r rfl rfl trivial (step_g1 rfl h68 (step_bin rfl rfl rfl rfl rfl trivial (step_gt rfl (step_pickT rfl h68 rfl rfl ?_)))))))))))
               refine step_gt rfl (step_r rfl rfl trivial ?_)
               refine step_gs rfl (fun h70 => ?_) (fun h70 => ?_)
               ·have g70 : ¬ (((apply15 c l0 x0.f1 x0.f2 (IntKind.i64.wrap (now0 + (andK IntKind.i64 x0.f3 7)))).1.length : Int) = l0.length) := bne_t h70
                refine step_g1 rfl h70 (step_r rfl rfl trivial (step_g1 rfl h70 (step_r rfl rfl trivial (step_g1 rfl h70 (step_r rfl rfl trivial (step_g1 rfl h70 (step_r rfl rfl trivial (step_g1 rfl h70 (step_bin rfl rfl rfl rfl rfl trivial (step_g1 rfl h70 (step_bin rfl rfl rfl rfl rfl trivial ?_)))))))))))
                refine step_gt rfl (step_pickT rfl h70 rfl rfl (step_r rfl rfl trivial (step_nil (seqK_n ?_))))
                refine sem_cond rfl (fun h72 => ?_) (fun h72 => ?_)
                ·have g72 : ¬ (((apply15 c l0 x0.f1 x0.f2 (IntKind.i64.wrap (now0 + (andK IntKind.i64 x0.f3 7)))).1.length : Int) = (IntKind.i64.wrap (l0.length + 1))) := bne_t h72
                 refine sem_seq (sem_region rfl (step_r rfl rfl trivial (step_nil (seqK_n (sem_ret (seqK_r (blkK_r (cutW_r (seqK_r (blkK_r (seqK_r ?_)))))))))))
                 refine lupK_r (blkK_r (cutW_r (seqK_r ?_)))
                 have e73 : stays15_J57 c l0 now0 x0 = .inl false := by
                  unfold stays15_J57
                  try dsimp only
                  rewrite [hJ18]
                  try dsimp only
                  rewrite [if_pos g24, if_neg g30, if_pos g32, if_pos g36, if_neg g38, if_neg g43, if_pos g68, if_neg g70, if_neg g72]
                  all_goals rfl
                 have e74 : stays15_L0 c steps 0 l 0 = .inl false := by
                  rewrite [← hI0, drop_cons hx0]
                  rewrite [stays15_L0]
                  try dsimp only
                  rewrite [e73]
                  try dsimp only
                  all_goals rfl
                 have e75 : stays15 c l steps = false := by
                  unfold stays15
                  try dsimp only
                  rewrite [if_pos g4, if_neg g7, if_pos g10, e74]
                  try dsimp only
                  all_goals rfl
                 rw [e75]
                 exact answersR rfl ⟨trivial, trivial⟩ (rfl) rfl
                ·have g72 : ((apply15 c l0 x0.f1 x0.f2 (IntKind.i64.wrap (now0 + (andK IntKind.i64 x0.f3 7)))).1.length : Int) = (IntKind.i64.wrap (l0.length + 1)) := bne_f h72
                 refine sem_skip (seqK_n (sem_seq (sem_region rfl (step_r rfl rfl trivial (step_bin rfl rfl rfl rfl rfl trivial (step_nil (seqK_n ?_)))))))
                 refine sem_cond rfl (fun h76 => ?_) (fun h76 => ?_)
                 ·have g76 : ((apply15 c l0 x0.f1 x0.f2 (IntKind.i64.wrap (now0 + (andK IntKind.i64 x0.f3 7)))).2 : Int) = 0 := beq_t h76
                  refine sem_region rfl (step_r rfl rfl trivial (step_r rfl rfl trivial (step_nil (blkK_n ?_))))
                  have e77 : stays15_J57 c l0 now0 x0 = .inr ((apply15 c l0 x0.f1 x0.f2 (IntKind.i64.wrap (now0 + (andK IntKind.i64 x0.f3 7)))).1) := by
                   unfold stays15_J57
                   try dsimp only
                   rewrite [hJ18]
                   try dsimp only
                   rewrite [if_pos g24, if_neg g30, if_pos g32, if_pos g36, if_neg g38, if_neg g43, if_pos g68, if_neg g70, if_pos g72, if_pos g76]
                   all_goals rfl
                  exact cutW_n ((apply15 c l0 x0.f1 x0.f2 (IntKind.i64.wrap (now0 + (andK IntKind.i64 x0.f3 7)))).1) e77 (Trans.ren [] (by decide +kernel) (by decide +kernel) rfl ⟨⟨rfl, rfl⟩, ⟨rfl, rfl⟩, ⟨rfl, rfl⟩, ⟨rfl, rfl⟩, ⟨rfl, rfl⟩, ⟨rfl, rfl⟩, trivial⟩ ⟨⟨rfl, rfl, rfl⟩, trivial⟩ (by decide))
                 ·have g76 : ¬ (((apply15 c l0 x0.f1 x0.f2 (IntKind.i64.wrap (now0 + (andK IntKind.i64 x0.f3 7)))).2 : Int) = 0) := beq_f h76
                  refine sem_skip (blkK_n ?_)
                  have e78 : stays15_J57 c l0 now0 x0 = .inr l0 := by
                   unfold stays15_J57
                   try dsimp only
                   rewrite [hJ18]
                   try dsimp only
                   rewrite [if_pos g24, if_neg g30, if_pos g32, if_pos g36, if_neg g38, if_neg g43, if_pos g68, if_neg g70, if_pos g72, if_neg g76]
                   all_goals rfl
                  exact cutW_n l0 e78 (Trans.ren [] (by decide +kernel) (by decide +kernel) rfl ⟨⟨rfl, rfl⟩, ⟨rfl, rfl⟩, ⟨rfl, rfl⟩, ⟨rfl, rfl⟩, ⟨rfl, rfl⟩, ⟨rfl, rfl⟩, trivial⟩ ⟨⟨rfl, rfl, rfl⟩, trivial⟩ (by decide))
               ·have g70 : ((apply15 c l0 x0.f1 x0.f2 (IntKind.i64.wrap (now0 + (andK IntKind.i64 x0.f3 7)))).1.length : Int) = l0.length := bne_f h70
                refine step_g0 rfl h70 rfl (step_g0 rfl h70 rfl (step_g0 rfl h70 rfl (step_g0 rfl h70 rfl (step_g0 rfl h70 rfl (step_g0 rfl h70 rfl (step_gt rfl (step_pickF rfl h70 rfl rfl (step_r rfl rfl trivial (step_nil (seqK_n (sem_condF rfl ?_)))))))))))
                refine sem_skip (seqK_n (sem_seq (sem_region rfl (step_r rfl rfl trivial (step_bin rfl rfl rfl rfl rfl trivial (step_nil (seqK_n ?_)))))))
                refine sem_cond rfl (fun h79 => ?_) (fun h79 => ?_)
                ·have g79 : ((apply15 c l0 x0.f1 x0.f2 (IntKind.i64.wrap (now0 + (andK IntKind.i64 x0.f3 7)))).2 : Int) = 0 := beq_t h79
                 refine sem_region rfl (step_r rfl rfl trivial (step_r rfl rfl trivial (step_nil (blkK_n ?_))))
                 have e80 : stays15_J57 c l0 now0 x0 = .inr ((apply15 c l0 x0.f1 x0.f2 (IntKind.i64.wrap (now0 + (andK IntKind.i64 x0.f3 7)))).1) := by
                  unfold stays15_J57
                  try dsimp only
                  rewrite [hJ18]
                  try dsimp only
                  rewrite [if_pos g24, if_neg g30, if_pos g32, if_pos g36, if_neg g38, if_neg g43, if_pos g68, if_pos g70, if_pos g79]
                  all_goals rfl
                 exact cutW_n ((apply15 c l0 x0.f1 x0.f2 (IntKind.i64.wrap (now0 + (andK IntKind.i64 x0.f3 7)))).1) e80 (Trans.ren [] (by decide +kernel) (by decide +kernel) rfl ⟨⟨rfl, rfl⟩, ⟨rfl, rfl⟩, ⟨rfl, rfl⟩, ⟨rfl, rfl⟩, ⟨rfl, rfl⟩, ⟨rfl, rfl⟩, trivial⟩ ⟨⟨rfl, rfl, rfl⟩, trivial⟩ (by decide))
                ·have g79 : ¬ (((apply15 c l0 x0.f1 x0.f2 (IntKind.i64.wrap (now0 + (andK IntKind.i64 x0.f3 7)))).2 : Int) = 0) := beq_f h79
                 refine sem_skip (blkK_n ?_)
                 have e81 : stays15_J57 c l0 now0 x0 = .inr l0 := by
                  unfold stays15_J57
                  try dsimp only
                  rewrite [hJ18]
                  try dsimp only
                  rewrite [if_pos g24, if_neg g30, if_pos g32, if_pos g36, if_neg g38, if_neg g43, if_pos g68, if_pos g70, if_neg g79]
                  all_goals rfl
                 exact cutW_n l0 e81 (Trans.ren [] (by decide +kernel) (by decide +kernel) rfl ⟨⟨rfl, rfl⟩, ⟨rfl, rfl⟩, ⟨rfl, rfl⟩, ⟨rfl, rfl⟩, ⟨rfl, rfl⟩, ⟨rfl, rfl⟩, trivial⟩ ⟨⟨rfl, rfl, rfl⟩, trivial⟩ (by decide))
              ·have g68 : ¬ (((apply15 c l0 x0.f1 x0.f2 (IntKind.i64.wrap (now0 + (andK IntKind.i64 x0.f3 7)))).2 : Int) = 0) := beq_f h68
               refine step_g0 rfl h68 rfl (step_g0 rfl h68 rfl (step_g0 rfl h68 rfl (step_g0 rfl h68 rfl (step_g0 rfl h68 rfl (step_gt rfl (step_pickF rfl h68 rfl rfl (step_gt rfl (step_r rfl rfl trivial (step_gf rfl rfl (step_gf rfl rfl (step_gf rfl rfl ?_)))))))))))
               refine step_gf rfl rfl (step_gf rfl rfl (step_gf rfl rfl (step_gt rfl (step_r rfl rfl trivial (step_r rfl rfl trivial (step_nil (seqK_n (sem_condF rfl (sem_skip (seqK_n (sem_seq ?_)))))))))))
               refine sem_region rfl (step_r rfl rfl trivial (step_bin rfl rfl rfl rfl rfl trivial (step_nil (seqK_n ?_))))
               refine sem_cond rfl (fun h82 => ?_) (fun h82 => ?_)
               ·have g82 : ((apply15 c l0 x0.f1 x0.f2 (IntKind.i64.wrap (now0 + (andK IntKind.i64 x0.f3 7)))).2 : Int) = 0 := beq_t h82
                refine sem_region rfl (step_r rfl rfl trivial (step_r rfl rfl trivial (step_nil (blkK_n ?_))))
                have e83 : stays15_J57 c l0 now0 x0 = .inr ((apply15 c l0 x0.f1 x0.f2 (IntKind.i64.wrap (now0 + (andK IntKind.i64 x0.f3 7)))).1) := by
                 unfold stays15_J57
                 try dsimp only
                 rewrite [hJ18]
                 try dsimp only
                 rewrite [if_pos g24, if_neg g30, if_pos g32, if_pos g36, if_neg g38, if_neg g43, if_neg g68, if_pos g82]
                 all_goals rfl
                exact cutW_n ((apply15 c l0 x0.f1 x0.f2 (IntKind.i64.wrap (now0 + (andK IntKind.i64 x0.f3 7)))).1) e83 (Trans.ren [] (by decide +kernel) (by decide +kernel) rfl ⟨⟨rfl, rfl⟩, ⟨rfl, rfl⟩, ⟨rfl, rfl⟩, ⟨rfl, rfl⟩, ⟨rfl, rfl⟩, ⟨rfl, rfl⟩, trivial⟩ ⟨⟨rfl, rfl, rfl⟩, trivial⟩ (by decide))
               ·have g82 : ¬ (((apply15 c l0 x0.f1 x0.f2 (IntKind.i64.wrap (now0 + (andK IntKind.i64 x0.f3 7)))).2 : Int) = 0) := beq_f h82
                refine sem_skip (blkK_n ?_)
                have e84 : stays15_J57 c l0 now0 x0 = .inr l0 := by
                 unfold stays15_J57
                 try dsimp only
                 rewrite [hJ18]
                 try dsimp only
                 rewrite [if_pos g24, if_neg g30, if_pos g32, if_pos g36, if_neg g38, if_neg g43, if_neg g68, if_neg g82]
                 all_goals rfl
                exact cutW_n l0 e84 (Trans.ren [] (by decide +kernel) (by decide +kernel) rfl ⟨⟨rfl, rfl⟩, ⟨rfl, rfl⟩, ⟨rfl, rfl⟩, ⟨rfl, rfl⟩, ⟨rfl, rfl⟩, ⟨rfl, rfl⟩, trivial⟩ ⟨⟨rfl, rfl, rfl⟩, trivial⟩ (by decide))
           ·have g36 : ¬ ((getU c x0.f1).2 = true) := boo_f h36
            refine step_g0 rfl h36 rfl (step_g0 rfl h36 rfl (step_g1 rfl h32 (step_pickF rfl h36 rfl rfl (step_pickF rfl h32 rfl rfl (step_r rfl rfl trivial (step_gt rfl (step_r rfl rfl trivial (step_gt rfl (step_bin rfl rfl rfl rfl rfl trivial (step_gt rfl (step_r rfl rfl trivial ?_)))))))))))
            refine step_gs rfl (fun h86 => ?_) (fun h86 => ?_)
            ·have g86 : ((apply15 c l0 x0.f1 x0.f2 (IntKind.i64.wrap (now0 + (andK IntKind.i64 x0.f3 7)))).2 : Int) = 4 := beq_t h86
             refine step_g1 rfl h86 (step_r rfl rfl trivial (step_g1 rfl h86 (step_r rfl rfl trivial (step_g1 rfl h86 (step_bin rfl rfl rfl rfl rfl trivial (step_gt rfl (step_pickT rfl h86 rfl rfl (step_r rfl rfl trivial (step_r rfl rfl trivial ?_)))))))))
             refine step_gs rfl (fun h88 => ?_) (fun h88 => ?_)
             ·have g88 : (l0.length : Int) < 16 := of_decide_eq_true h88
              refine step_g0 rfl h88 rfl (step_g0 rfl h88 rfl (step_g0 rfl h88 rfl (step_gf rfl rfl (step_gf rfl rfl (step_gf rfl rfl (step_gf rfl rfl (step_gf rfl rfl (step_g0 rfl h88 rfl (step_g0 rfl h88 rfl (step_gf rfl rfl (step_gf rfl rfl ?_)))))))))))
              refine step_gf rfl rfl (step_gf rfl rfl (step_gf rfl rfl (step_gf rfl rfl (step_g0 rfl h88 rfl (step_pickT rfl h88 rfl rfl (step_nil (seqK_n (sem_condT rfl (sem_seq (sem_region rfl (step_r rfl rfl trivial ?_)))))))))))
              refine step_nil (seqK_n (sem_ret (seqK_r (blkK_r (cutW_r (seqK_r (blkK_r (seqK_r (lupK_r (blkK_r (cutW_r ?_)))))))))))
              refine seqK_r ?_
              have e89 : stays15_J57 c l0 now0 x0 = .inl false := by
               unfold stays15_J57
               try dsimp only
               rewrite [hJ18]
               try dsimp only
               rewrite [if_pos g24, if_neg g30, if_pos g32, if_neg g36, if_pos g86, if_pos g88]
               all_goals rfl
              have e90 : stays15_L0 c steps 0 l 0 = .inl false := by
               rewrite [← hI0, drop_cons hx0]
               rewrite [stays15_L0]
               try dsimp only
               rewrite [e89]
               try dsimp only
               all_goals rfl
              have e91 : stays15 c l steps = false := by
               unfold stays15
               try dsimp only
               rewrite [if_pos g4, if_neg g7, if_pos g10, e90]
               try dsimp only
               all_goals rfl
              rw [e91]
              exact answersR rfl ⟨trivial, trivial⟩ (rfl) rfl
             ·have g88 : ¬ ((l0.length : Int) < 16) := of_decide_eq_false h88
              refine step_g1 rfl h88 (step_r rfl rfl trivial (step_g1 rfl h88 (step_bin rfl rfl rfl rfl rfl trivial (step_g1 rfl h88 (step_r rfl rfl trivial ?_)))))
              refine step_gs rfl (fun h93 => ?_) (fun h93 => ?_)
              ·have g93 : ((apply15 c l0 x0.f1 x0.f2 (IntKind.i64.wrap (now0 + (andK IntKind.i64 x0.f3 7)))).2 : Int) = 0 := beq_t h93
               refine step_g1 rfl h93 (step_r rfl rfl trivial (step_g1 rfl h93 (step_r rfl rfl trivial (step_g1 rfl h93 (step_r rfl rfl trivial (step_g1 rfl h93 (step_r rfl rfl trivial (step_g1 rfl h93 (step_bin rfl rfl rfl rfl rfl trivial (step_g1 rfl h88 (step_pickT rfl h93 rfl rfl ?_)))))))))))
               refine step_g1 rfl h88 (step_r rfl rfl trivial ?_)
               refine step_gs rfl (fun h95 => ?_) (fun h95 => ?_)
               ·have g95 : ¬ (((apply15 c l0 x0.f1 x0.f2 (IntKind.i64.wrap (now0 + (andK IntKind.i64 x0.f3 7)))).1.length : Int) = l0.length) := bne_t h95
                refine step_g1 rfl h95 (step_r rfl rfl trivial (step_g1 rfl h95 (step_r rfl rfl trivial (step_g1 rfl h95 (step_r rfl rfl trivial (step_g1 rfl h95 (step_r rfl rfl trivial (step_g1 rfl h95 (step_bin rfl rfl rfl rfl rfl trivial (step_g1 rfl h95 (step_bin rfl rfl rfl rfl rfl trivial ?_)))))))))))
                refine step_g1 rfl h88 (step_pickT rfl h95 rfl rfl (step_pickF rfl h88 rfl rfl (step_nil (seqK_n ?_))))
                refine sem_cond rfl (fun h97 => ?_) (fun h97 => ?_)
                ·have g97 : ¬ (((apply15 c l0 x0.f1 x0.f2 (IntKind.i64.wrap (now0 + (andK IntKind.i64 x0.f3 7)))).1.length : Int) = (IntKind.i64.wrap (l0.length + 1))) := bne_t h97
                 refine sem_seq (sem_region rfl (step_r rfl rfl trivial (step_nil (seqK_n (sem_ret (seqK_r (blkK_r (cutW_r (seqK_r (blkK_r (seqK_r ?_)))))))))))
                 refine lupK_r (blkK_r (cutW_r (seqK_r ?_)))
                 have e98 : stays15_J57 c l0 now0 x0 = .inl false := by
                  unfold stays15_J57
                  try dsimp only
                  rewrite [hJ18]
                  try dsimp only
                  rewrite [if_pos g24, if_neg g30, if_pos g32, if_neg g36, if_pos g86, if_neg g88, if_pos g93, if_neg g95, if_neg g97]
                  all_goals rfl
                 have e99 : stays15_L0 c steps 0 l 0 = .inl false := by
                  rewrite [← hI0, drop_cons hx0]
                  rewrite [stays15_L0]
                  try dsimp only
                  rewrite [e98]
                  try dsimp only
                  all_goals rfl
                 have e100 : stays15 c l steps = false := by
                  unfold stays15
                  try dsimp only
                  rewrite [if_pos g4, if_neg g7, if_pos g10, e99]
                  try dsimp only
                  all_goals rfl
                 rw [e100]
                 exact answersR rfl ⟨trivial, trivial⟩ (rfl) rfl
                ·have g97 : ((apply15 c l0 x0.f1 x0.f2 (IntKind.i64.wrap (now0 + (andK IntKind.i64 x0.f3 7)))).1.length : Int) = (IntKind.i64.wrap (l0.length + 1)) := bne_f h97
                 refine sem_skip (seqK_n (sem_seq (sem_region rfl (step_r rfl rfl trivial (step_bin rfl rfl rfl rfl rfl trivial (step_nil (seqK_n ?_)))))))
                 refine sem_cond rfl (fun h101 => ?_) (fun h101 => ?_)
                 ·have g101 : ((apply15 c l0 x0.f1 x0.f2 (IntKind.i64.wrap (now0 + (andK IntKind.i64 x0.f3 7)))).2 : Int) = 0 := beq_t h101
                  refine sem_region rfl (step_r rfl rfl trivial (step_r rfl rfl trivial (step_nil (blkK_n ?_))))
                  have e102 : stays15_J57 c l0 now0 x0 = .inr ((apply15 c l0 x0.f1 x0.f2 (IntKind.i64.wrap (now0 + (andK IntKind.i64 x0.f3 7)))).1) := by
                   unfold stays15_J57
                   try dsimp only
                   rewrite [hJ18]
                   try dsimp only
                   rewrite [if_pos g24, if_neg g30, if_pos g32, if_neg g36, if_pos g86, if_neg g88, if_pos g93, if_neg g95, if_pos g97, if_pos g101]
                   all_goals rfl
                  exact cutW_n ((apply15 c l0 x0.f1 x0.f2 (IntKind.i64.wrap (now0 + (andK IntKind.i64 x0.f3 7)))).1) e102 (Trans.ren [] (by decide +kernel) (by decide +kernel) rfl ⟨⟨rfl, rfl⟩, ⟨rfl, rfl⟩, ⟨rfl, rfl⟩, ⟨rfl, rfl⟩, ⟨rfl, rfl⟩, ⟨rfl, rfl⟩, trivial⟩ ⟨⟨rfl, rfl, rfl⟩, trivial⟩ (by decide))
                 ·have g101 : ¬ (((apply15 c l0 x0.f1 x0.f2 (IntKind.i64.wrap (now0 + (andK IntKind.i64 x0.f3 7)))).2 : Int) = 0) := beq_f h101
                  refine sem_skip (blkK_n ?_)
                  have e103 : stays15_J57 c l0 now0 x0 = .inr l0 := by
                   unfold stays15_J57
                   try dsimp only
                   rewrite [hJ18]
                   try dsimp only
                   rewrite [if_pos g24, if_neg g30, if_pos g32, if_neg g36, if_pos g86, if_neg g88, if_pos g93, if_neg g95, if_pos g97, if_neg g101]
                   all_goals rfl
                  exact cutW_n l0 e103 (Trans.ren [] (by decide +kernel) (by decide +kernel) rfl ⟨⟨rfl, rfl⟩, ⟨rfl, rfl⟩, ⟨rfl, rfl⟩, ⟨rfl, rfl⟩, ⟨rfl, rfl⟩, ⟨rfl, rfl⟩, trivial⟩ ⟨⟨rfl, rfl, rfl⟩, trivial⟩ (by decide))
               ·have g95 : ((apply15 c l0 x0.f1 x0.f2 (IntKind.i64.wrap (now0 + (andK IntKind.i64 x0.f3 7)))).1.length : Int) = l0.length := bne_f h95
                refine step_g0 rfl h95 rfl (step_g0 rfl h95 rfl (step_g0 rfl h95 rfl (step_g0 rfl h95 rfl (step_g0 rfl h95 rfl (step_g0 rfl h95 rfl (step_g1 rfl h88 (step_pickF rfl h95 rfl rfl (step_pickF rfl h88 rfl rfl (step_nil (seqK_n (sem_condF rfl ?_)))))))))))
                refine sem_skip (seqK_n (sem_seq (sem_region rfl (step_r rfl rfl trivial (step_bin rfl rfl rfl rfl rfl trivial (step_nil (seqK_n ?_)))))))
                refine sem_cond rfl (fun h104 => ?_) (fun h104 => ?_)
                ·have g104 : ((apply15 c l0 x0.f1 x0.f2 (IntKind.i64.wrap (now0 + (andK IntKind.i64 x0.f3 7)))).2 : Int) = 0 := beq_t h104
                 refine sem_region rfl (step_r rfl rfl trivial (step_r rfl rfl trivial (step_nil (blkK_n ?_))))
                 have e105 : stays15_J57 c l0 now0 x0 = .inr ((apply15 c l0 x0.f1 x0.f2 (IntKind.i64.wrap (now0 + (andK IntKind.i64 x0.f3 7)))).1) := by
                  unfold stays15_J57
                  try dsimp only
                  rewrite [hJ18]
                  try dsimp only
                  rewrite [if_pos g24, if_neg g30, if_pos g32, if_neg g36, if_pos g86, if_neg g88, if_pos g93, if_pos g95, if_pos g104]
                  all_goals rfl
                 exact cutW_n ((apply15 c l0 x0.f1 x0.f2 (IntKind.i64.wrap (now0 + (andK IntKind.i64 x0.f3 7)))).1) e105 (Trans.ren [] (by decide +kernel) (by decide +kernel) rfl ⟨⟨rfl, rfl⟩, ⟨rfl, rfl⟩, ⟨rfl, rfl⟩, ⟨rfl, rfl⟩, ⟨rfl, rfl⟩, ⟨rfl, rfl⟩, trivial⟩ ⟨⟨rfl, rfl, rfl⟩, trivial⟩ (by decide))
                ·have g104 : ¬ (((apply15 c l0 x0.f1 x0.f2 (IntKind.i64.wrap (now0 + (andK IntKind.i64 x0.f3 7)))).2 : Int) = 0) := beq_f h104
                 refine sem_skip (blkK_n ?_)
                 have e106 : stays15_J57 c l0 now0 x0 = .inr l0 := by
                  unfold stays15_J57
                  try dsimp only
                  rewrite [hJ18]
                  try dsimp only
                  rewrite [if_pos g24, if_neg g30, if_pos g32, if_neg g36, if_pos g86, if_neg g88, if_pos g93, if_pos g95, if_neg g104]
                  all_goals rfl
                 exact cutW_n l0 e106 (Trans.ren [] (by decide +kernel) (by decide +kernel) rfl ⟨⟨rfl, rfl⟩, ⟨rfl, rfl⟩, ⟨rfl, rfl⟩, ⟨rfl, rfl⟩, ⟨rfl, rfl⟩, ⟨rfl, rfl⟩, trivial⟩ ⟨⟨rfl, rfl, rfl⟩, trivial⟩ (by decide))
              ·have g93 : ¬ (((apply15 c l0 x0.f1 x0.f2 (IntKind.i64.wrap (now0 + (andK IntKind.i64 x0.f3 7)))).2 : Int) = 0) := beq_f h93
               refine step_g0 rfl h93 rfl (step_g0 rfl h93 rfl (step_g0 rfl h93 rfl (step_g0 rfl h93 rfl (step_g0 rfl h93 rfl (step_g1 rfl h88 (step_pickF rfl h93 rfl rfl (step_g1 rfl h88 (step_r rfl rfl trivial (step_gf rfl rfl (step_gf rfl rfl (step_gf rfl rfl ?_)))))))))))
               refine step_gf rfl rfl (step_gf rfl rfl (step_gf rfl rfl (step_g1 rfl h88 (step_r rfl rfl trivial (step_pickF rfl h88 rfl rfl (step_nil (seqK_n (sem_condF rfl (sem_skip (seqK_n (sem_seq ?_)))))))))))
               refine sem_region rfl (step_r rfl rfl trivial (step_bin rfl rfl rfl rfl rfl trivial (step_nil (seqK_n ?_))))
               refine sem_cond rfl (fun h107 => ?_) (fun h107 => ?_)
               ·have g107 : ((apply15 c l0 x0.f1 x0.f2 (IntKind.i64.wrap (now0 + (andK IntKind.i64 x0.f3 7)))).2 : Int) = 0 := beq_t h107
                refine sem_region rfl (step_r rfl rfl trivial (step_r rfl rfl trivial (step_nil (blkK_n ?_))))
                have e108 : stays15_J57 c l0 now0 x0 = .inr ((apply15 c l0 x0.f1 x0.f2 (IntKind.i64.wrap (now0 + (andK IntKind.i64 x0.f3 7)))).1) := by
                 unfold stays15_J57
                 try dsimp only
                 rewrite [hJ18]
                 try dsimp only
                 rewrite [if_pos g24, if_neg g30, if_pos g32, if_neg g36, if_pos g86, if_neg g88, if_neg g93, if_pos g107]
                 all_goals rfl
                exact cutW_n ((apply15 c l0 x0.f1 x0.f2 (IntKind.i64.wrap (now0 + (andK IntKind.i64 x0.f3 7)))).1) e108 (Trans.ren [] (by decide +kernel) (by decide +kernel) rfl ⟨⟨rfl, rfl⟩, ⟨rfl, rfl⟩, ⟨rfl, rfl⟩, ⟨rfl, rfl⟩, ⟨rfl, rfl⟩, ⟨rfl, rfl⟩, trivial⟩ ⟨⟨rfl, rfl, rfl⟩, trivial⟩ (by decide))
               ·have g107 : ¬ (((apply15 c l0 x0.f1 x0.f2 (IntKind.i64.wrap (now0 + (andK IntKind.i64 x0.f3 7)))).2 : Int) = 0) := beq_f h107
                refine sem_skip (blkK_n ?_)
                have e109 : stays15_J57 c l0 now0 x0 = .inr l0 := by
                 unfold stays15_J57
                 try dsimp only
                 rewrite [hJ18]
                 try dsimp only
                 rewrite [if_pos g24, if_neg g30, if_pos g32, if_neg g36, if_pos g86, if_neg g88, if_neg g93, if_neg g107]
                 all_goals rfl
                exact cutW_n l0 e109 (Trans.ren [] (by decide +kernel) (by decide +kernel) rfl ⟨⟨rfl, rfl⟩, ⟨rfl, rfl⟩, ⟨rfl, rfl⟩, ⟨rfl, rfl⟩, ⟨rfl, rfl⟩, ⟨rfl, rfl⟩, trivial⟩ ⟨⟨rfl, rfl, rfl⟩, trivial⟩ (by decide))
            ·have g86 : ¬ (((apply15 c l0 x0.f1 x0.f2 (IntKind.i64.wrap (now0 + (andK IntKind.i64 x0.f3 7)))).2 : Int) = 4) := beq_f h86
             refine step_g0 rfl h86 rfl (step_g0 rfl h86 rfl (step_g0 rfl h86 rfl (step_gt rfl (step_pickF rfl h86 rfl rfl (step_r rfl rfl trivial (step_r rfl rfl trivial (step_gt rfl (step_r rfl rfl trivial (step_gt rfl (step_bin rfl rfl rfl rfl rfl trivial (step_gt rfl ?_)))))))))))
             refine step_r rfl rfl trivial ?_
             refine step_gs rfl (fun h111 => ?_) (fun h111 => ?_)
             ·have g111 : ((apply15 c l0 x0.f1 x0.f2 (IntKind.i64.wrap (now0 + (andK IntKind.i64 x0.f3 7)))).2 : Int) = 0 := beq_t h111
              refine step_g1 rfl h111 (step_r rfl rfl trivial (step_g1 rfl h111 (step_r rfl rfl trivial (step_g1 rfl h111 (step_r rfl rfl trivial (step_g1 rfl h111 (step_r rfl rfl trivial (step_g1 rfl h111 (step_bin rfl rfl rfl rfl rfl trivial (step_gt rfl (step_pickT rfl h111 rfl rfl ?_)))))))))))
              refine step_gt rfl (step_r rfl rfl trivial ?_)
              refine step_gs rfl (fun h113 => ?_) (fun h113 => ?_)
              ·have g113 : ¬ (((apply15 c l0 x0.f1 x0.f2 (IntKind.i64.wrap (now0 + (andK IntKind.i64 x0.f3 7)))).1.length : Int) = l0.length) := bne_t h113
               refine step_g1 rfl h113 (step_r rfl rfl trivial (step_g1 rfl h113 (step_r rfl rfl trivial (step_g1 rfl h113 (step_r rfl rfl trivial (step_g1 rfl h113 (step_r rfl rfl trivial (step_g1 rfl h113 (step_bin rfl rfl rfl rfl rfl trivial (step_g1 rfl h113 (step_bin rfl rfl rfl rfl rfl trivial ?_)))))))))))
               refine step_gt rfl (step_pickT rfl h113 rfl rfl (step_r rfl rfl trivial (step_nil (seqK_n ?_))))
               refine sem_cond rfl (fun h115 => ?_) (fun h115 => ?_)
               ·have g115 : ¬ (((apply15 c l0 x0.f1 x0.f2 (IntKind.i64.wrap (now0 + (andK IntKind.i64 x0.f3 7)))).1.length : Int) = (IntKind.i64.wrap (l0.length + 1))) := bne_t h115
                refine sem_seq (sem_region rfl (step_r rfl rfl trivial (step_nil (seqK_n (sem_ret (seqK_r (blkK_r (cutW_r (seqK_r (blkK_r (seqK_r ?_)))))))))))
                refine lupK_r (blkK_r (cutW_r (seqK_r ?_)))
                have e116 : stays15_J57 c l0 now0 x0 = .inl false := by
                 unfold stays15_J57
                 try dsimp only
                 rewrite [hJ18]
                 try dsimp only
                 rewrite [if_pos g24, if_neg g30, if_pos g32, if_neg g36, if_neg g86, if_pos g111, if_neg g113, if_neg g115]
                 all_goals rfl
                have e117 : stays15_L0 c steps 0 l 0 = .inl false := by
                 rewrite [← hI0, drop_cons hx0]
                 rewrite [stays15_L0]
                 try dsimp only
                 rewrite [e116]
                 try dsimp only
                 all_goals rfl
                have e118 : stays15 c l steps = false := by
                 unfold stays15
                 try dsimp only
                 rewrite [if_pos g4, if_neg g7, if_pos g10, e117]
                 try dsimp only
                 all_goals rfl
                rw [e118]
                exact answersR rfl ⟨trivial, trivial⟩ (rfl) rfl
               ·have g115 : ((apply15 c l0 x0.f1 x0.f2 (IntKind.i64.wrap (now0 + (andK IntKind.i64 x0.f3 7)))).1.length : Int) = (IntKind.i64.wrap (l0.length + 1)) := bne_f h115
                refine sem_skip (seqK_n (sem_seq (sem_region rfl (step_r rfl rfl trivial (step_bin rfl rfl rfl rfl rfl trivial (step_nil (seqK_n ?_)))))))
                refine sem_cond rfl (fun h119 => ?_) (fun h119 => ?_)
                ·have g119 : ((apply15 c l0 x0.f1 x0.f2 (IntKind.i64.wrap (now0 + (andK IntKind.i64 x0.f3 7)))).2 : Int) = 0 := beq_t h119
                 refine sem_region rfl (step_r rfl rfl trivial (step_r rfl rfl trivial (step_nil (blkK_n ?_))))
                 have e120 : stays15_J57 c l0 now0 x0 = .inr ((apply15 c l0 x0.f1 x0.f2 (IntKind.i64.wrap (now0 + (andK IntKind.i64 x0.f3 7)))).1) := by
                  unfold stays15_J57
                  try dsimp only
                  rewrite [hJ18]
                  try dsimp only
                  rewrite [if_pos g24, if_neg g30, if_pos g32, if_neg g36, if_neg g86, if_pos g111, if_neg g113, if_pos g115, if_pos g119]
                  all_goals rfl
                 exact cutW_n ((apply15 c l0 x0.f1 x0.f2 (IntKind.i64.wrap (now0 + (andK IntKind.i64 x0.f3 7)))).1) e120 (Trans.ren [] (by decide +kernel) (by decide +kernel) rfl ⟨⟨rfl, rfl⟩, ⟨rfl, rfl⟩, ⟨rfl, rfl⟩, ⟨rfl, rfl⟩, ⟨rfl, rfl⟩, ⟨rfl, rfl⟩, trivial⟩ ⟨⟨rfl, rfl, rfl⟩, trivial⟩ (by decide))
                ·have g119 : ¬ (((apply15 c l0 x0.f1 x0.f2 (IntKind.i64.wrap (now0 + (andK IntKind.i64 x0.f3 7)))).2 : Int) = 0) := beq_f h119
                 refine sem_skip (blkK_n ?_)
                 have e121 : stays15_J57 c l0 now0 x0 = .inr l0 := by
                  unfold stays15_J57
                  try dsimp only
                  rewrite [hJ18]
                  try dsimp only
                  rewrite [if_pos g24, if_neg g30, if_pos g32, if_neg g36, if_neg g86, if_pos g111, if_neg g113, if_pos g115, if_neg g119]
                  all_goals rfl
                 exact cutW_n l0 e121 (Trans.ren [] (by decide +kernel) (by decide +kernel) rfl ⟨⟨rfl, rfl⟩, ⟨rfl, rfl⟩, ⟨rfl, rfl⟩, ⟨rfl, rfl⟩, ⟨rfl, rfl⟩, ⟨rfl, rfl⟩, trivial⟩ ⟨⟨rfl, rfl, rfl⟩, trivial⟩ (by decide))
              ·have g113 : ((apply15 c l0 x0.f1 x0.f2 (IntKind.i64.wrap (now0 + (andK IntKind.i64 x0.f3 7)))).1.length : Int) = l0.length := bne_f h113
               refine step_g0 rfl h113 rfl (step_g0 rfl h113 rfl (step_g0 rfl h113 rfl (step_g0 rfl h113 rfl (step_g0 rfl h113 rfl (step_g0 rfl h113 rfl (step_gt rfl (step_pickF rfl h113 rfl rfl (step_r rfl rfl trivial (step_nil (seqK_n (sem_condF rfl ?_)))))))))))
               refine sem_skip (seqK_n (sem_seq (sem_region rfl (step_r rfl rfl trivial (step_bin rfl rfl rfl rfl rfl trivial (step_nil (seqK_n ?_)))))))
               refine sem_cond rfl (fun h122 => ?_) (fun h122 => ?_)
               ·have g122 : ((apply15 c l0 x0.f1 x0.f2 (IntKind.i64.wrap (now0 + (andK IntKind.i64 x0.f3 7)))).2 : Int) = 0 := beq_t h122
                refine sem_region rfl (step_r rfl rfl trivial (step_r rfl rfl trivial (step_nil (blkK_n ?_))))
                have e123 : stays15_J57 c l0 now0 x0 = .inr ((apply15 c l0 x0.f1 x0.f2 (IntKind.i64.wrap (now0 + (andK IntKind.i64 x0.f3 7)))).1) := by
                 unfold stays15_J57
                 try dsimp only
                 rewrite [hJ18]
                 try dsimp only
                 rewrite [if_pos g24, if_neg g30, if_pos g32, if_neg g36, if_neg g86, if_pos g111, if_pos g113, if_pos g122]
                 all_goals rfl
                exact cutW_n ((apply15 c l0 x0.f1 x0.f2 (IntKind.i64.wrap (now0 + (andK IntKind.i64 x0.f3 7)))).1) e123 (Trans.ren [] (by decide +kernel) (by decide +kernel) rfl ⟨⟨rfl, rfl⟩, ⟨rfl, rfl⟩, ⟨rfl, rfl⟩, ⟨rfl, rfl⟩, ⟨rfl, rfl⟩, ⟨rfl, rfl⟩, trivial⟩ ⟨⟨rfl, rfl, rfl⟩, trivial⟩ (by decide))
               ·have g122 : ¬ (((apply15 c l0 x0.f1 x0.f2 (IntKind.i64.wrap (now0 + (andK IntKind.i64 x0.f3 7)))).2 : Int) = 0) := beq_f h122
                refine sem_skip (blkK_n ?_)
                have e124 : stays15_J57 c l0 now0 x0 = .inr l0 := by
                 unfold stays15_J57
                 try dsimp only
                 rewrite [hJ18]
                 try dsimp only
                 rewrite [if_pos g24, if_neg g30, if_pos g32, if_neg g36, if_neg g86, if_pos g111, if_pos g113, if_neg g122]
                 all_goals rfl
                exact cutW_n l0 e124 (Trans.ren [] (by decide +kernel) (by decide +kernel) rfl ⟨⟨rfl, rfl⟩, ⟨rfl, rfl⟩, ⟨rfl, rfl⟩, ⟨rfl, rfl⟩, ⟨rfl, rfl⟩, ⟨rfl, rfl⟩, trivial⟩ ⟨⟨rfl, rfl, rfl⟩, trivial⟩ (by decide))
             ·have g111 : ¬ (((apply15 c l0 x0.f1 x0.f2 (IntKind.i64.wrap (now0 + (andK IntKind.i64 x0.f3 7)))).2 : Int) = 0) := beq_f h111
              refine step_g0 rfl h111 rfl (step_g0 rfl h111 rfl (step_g0 rfl h111 rfl (step_g0 rfl h111 rfl (step_g0 rfl h111 rfl (step_gt rfl (step_pickF rfl h111 rfl rfl (step_gt rfl (step_r rfl rfl trivial (step_gf rfl rfl (step_gf rfl rfl (step_gf rfl rfl ?_)))))))))))
              refine step_gf rfl rfl (step_gf rfl rfl (step_gf rfl rfl (step_gt rfl (step_r rfl rfl trivial (step_r rfl rfl trivial (step_nil (seqK_n (sem_condF rfl (sem_skip (seqK_n (sem_seq ?_)))))))))))
              refine sem_region rfl (step_r rfl rfl trivial (step_bin rfl rfl rfl rfl rfl trivial (step_nil (seqK_n ?_))))
              refine sem_cond rfl (fun h125 => ?_) (fun h125 => ?_)
              ·have g125 : ((apply15 c l0 x0.f1 x0.f2 (IntKind.i64.wrap (now0 + (andK IntKind.i64 x0.f3 7)))).2 : Int) = 0 := beq_t h125
               refine sem_region rfl (step_r rfl rfl trivial (step_r rfl rfl trivial (step_nil (blkK_n ?_))))
               have e126 : stays15_J57 c l0 now0 x0 = .inr ((apply15 c l0 x0.f1 x0.f2 (IntKind.i64.wrap (now0 + (andK IntKind.i64 x0.f3 7)))).1) := by
                unfold stays15_J57
                try dsimp only
                rewrite [hJ18]
                try dsimp only
                rewrite [if_pos g24, if_neg g30, if_pos g32, if_neg g36, if_neg g86, if_neg g111, if_pos g125]
                all_goals rfl
               exact cutW_n ((apply15 c l0 x0.f1 x0.f2 (IntKind.i64.wrap (now0 + (andK IntKind.i64 x0.f3 7)))).1) e126 (Trans.ren [] (by decide +kernel) (by decide +kernel) rfl ⟨⟨rfl, rfl⟩, ⟨rfl, rfl⟩, ⟨rfl, rfl⟩, ⟨rfl, rfl⟩, ⟨rfl, rfl⟩, ⟨rfl, rfl⟩, trivial⟩ ⟨⟨rfl, rfl, rfl⟩, trivial⟩ (by decide))
              ·have g125 : ¬ (((apply15 c l0 x0.f1 x0.f2 (IntKind.i64.wrap (now0 + (andK IntKind.i64 x0.f3 7)))).2 : Int) = 0) := beq_f h125
               refine sem_skip (blkK_n ?_)
               have e127 : stays15_J57 c l0 now0 x0 = .inr l0 := by
                unfold stays15_J57
                try dsimp only
                rewrite [hJ18]
                try dsimp only
                rewrite [if_pos g24, if_neg g30, if_pos g32, if_neg g36, if_neg g86, if_neg g111, if_neg g125]
                all_goals rfl
               exact cutW_n l0 e127 (Trans.ren [] (by decide +kernel) (by decide +kernel) rfl ⟨⟨rfl, rfl⟩, ⟨rfl, rfl⟩, ⟨rfl, rfl⟩, ⟨rfl, rfl⟩, ⟨rfl, rfl⟩, ⟨rfl, rfl⟩, trivial⟩ ⟨⟨rfl, rfl, rfl⟩, trivial⟩ (by decide))
         ·have g30 : (getU c x0.f1).2 = true := (not_f h30)
          refine step_g0 rfl h30 rfl (step_g0 rfl h30 rfl (step_pickF rfl h30 rfl rfl (step_r rfl rfl trivial (step_gt rfl (step_r rfl rfl trivial (step_gt rfl (step_r rfl rfl trivial ?_)))))))
          refine step_gs rfl (fun h128 => ?_) (fun h128 => ?_)
          ·have g128 : (getU c x0.f1).2 = true := h128
           refine step_g1 rfl h128 (step_r rfl rfl trivial (step_g1 rfl h128 (step_bin rfl rfl rfl rfl rfl trivial (step_gt rfl (step_pickT rfl h128 rfl rfl (step_r rfl rfl trivial (step_r rfl rfl trivial ?_)))))))
           refine step_gs rfl (fun h130 => ?_) (fun h130 => ?_)
           ·have g130 : ((apply15 c l0 x0.f1 x0.f2 (IntKind.i64.wrap (now0 + (andK IntKind.i64 x0.f3 7)))).2 : Int) = 5 := beq_t h130
            refine step_g0 rfl h130 rfl (step_g0 rfl h130 rfl (step_g0 rfl h130 rfl (step_gf rfl rfl (step_gf rfl rfl (step_gf rfl rfl (step_g0 rfl h130 rfl (step_pickT rfl h130 rfl rfl (step_r rfl rfl trivial (step_gf rfl rfl (step_gf rfl rfl (step_gf rfl rfl ?_)))))))))))
            refine step_gf rfl rfl (step_gf rfl rfl (step_gf rfl rfl (step_gf rfl rfl (step_gf rfl rfl (step_gf rfl rfl (step_gf rfl rfl (step_gf rfl rfl (step_gf rfl rfl (step_gf rfl rfl (step_gf rfl rfl (step_gf rfl rfl ?_)))))))))))
            refine step_gf rfl rfl (step_gf rfl rfl (step_r rfl rfl trivial (step_nil (seqK_n (sem_condT rfl (sem_seq (sem_region rfl (step_r rfl rfl trivial (step_nil (seqK_n (sem_ret ?_)))))))))))
            refine seqK_r (blkK_r (cutW_r (seqK_r (blkK_r (seqK_r (lupK_r (blkK_r (cutW_r (seqK_r ?_)))))))))
            have e131 : stays15_J57 c l0 now0 x0 = .inl false := by
             unfold stays15_J57
             try dsimp only
             rewrite [hJ18]
             try dsimp only
             rewrite [if_pos g24, if_pos g30, if_pos g128, if_pos g130]
             all_goals rfl
            have e132 : stays15_L0 c steps 0 l 0 = .inl false := by
             rewrite [← hI0, drop_cons hx0]
             rewrite [stays15_L0]
             try dsimp only
             rewrite [e131]
             try dsimp only
             all_goals rfl
            have e133 : stays15 c l steps = false := by
             unfold stays15
             try dsimp only
             rewrite [if_pos g4, if_neg g7, if_pos g10, e132]
             try dsimp only
             all_goals rfl
            rw [e133]
            exact answersR rfl ⟨trivial, trivial⟩ (rfl) rfl
           ·have g130 : ¬ (((apply15 c l0 x0.f1 x0.f2 (IntKind.i64.wrap (now0 + (andK IntKind.i64 x0.f3 7)))).2 : Int) = 5) := beq_f h130
            refine step_g1 rfl h130 (step_r rfl rfl trivial (step_g1 rfl h130 (step_bin rfl rfl rfl rfl rfl trivial (step_g1 rfl h130 (step_r rfl rfl trivial ?_)))))
            refine step_gs rfl (fun h135 => ?_) (fun h135 => ?_)
            ·have g135 : ((apply15 c l0 x0.f1 x0.f2 (IntKind.i64.wrap (now0 + (andK IntKind.i64 x0.f3 7)))).2 : Int) = 4 := beq_t h135
             refine step_g1 rfl h135 (step_r rfl rfl trivial (step_g1 rfl h135 (step_r rfl rfl trivial (step_g1 rfl h135 (step_bin rfl rfl rfl rfl rfl trivial (step_g1 rfl h130 (step_pickT rfl h135 rfl rfl (step_pickF rfl h130 rfl rfl (step_r rfl rfl trivial ?_)))))))))
             refine step_gs rfl (fun h137 => ?_) (fun h137 => ?_)
             ·have g137 : (l0.length : Int) < 16 := of_decide_eq_true h137
              refine step_g0 rfl h137 rfl (step_g0 rfl h137 rfl (step_g0 rfl h137 rfl (step_gf rfl rfl (step_gf rfl rfl (step_gf rfl rfl (step_gf rfl rfl (step_gf rfl rfl (step_g0 rfl h137 rfl (step_g0 rfl h137 rfl (step_gf rfl rfl (step_gf rfl rfl ?_)))))))))))
              refine step_gf rfl rfl (step_gf rfl rfl (step_gf rfl rfl (step_gf rfl rfl (step_g0 rfl h137 rfl (step_pickT rfl h137 rfl rfl (step_nil (seqK_n (sem_condT rfl (sem_seq (sem_region rfl (step_r rfl rfl trivial ?_)))))))))))
              refine step_nil (seqK_n (sem_ret (seqK_r (blkK_r (cutW_r (seqK_r (blkK_r (seqK_r (lupK_r (blkK_r (cutW_r ?_)))))))))))
              refine seqK_r ?_
              have e138 : stays15_J57 c l0 now0 x0 = .inl false := by
               unfold stays15_J57
               try dsimp only
               rewrite [hJ18]
               try dsimp only
               rewrite [if_pos g24, if_pos g30, if_pos g128, if_neg g130, if_pos g135, if_pos g137]
               all_goals rfl
              have e139 : stays15_L0 c steps 0 l 0 = .inl false := by
               rewrite [← hI0, drop_cons hx0]
               rewrite [stays15_L0]
               try dsimp only
               rewrite [e138]
               try dsimp only
               all_goals rfl
              have e140 : stays15 c l steps = false := by
               unfold stays15
               try dsimp only
               rewrite [if_pos g4, if_neg g7, if_pos g10, e139]
               try dsimp only
               all_goals rfl
              rw [e140]
              exact answersR rfl ⟨trivial, trivial⟩ (rfl) rfl
             ·have g137 : ¬ ((l0.length : Int) < 16) := of_decide_eq_false h137
              refine step_g1 rfl h137 (step_r rfl rfl trivial (step_g1 rfl h137 (step_bin rfl rfl rfl rfl rfl trivial (step_g1 rfl h137 (step_r rfl rfl trivial ?_)))))
              refine step_gs rfl (fun h142 => ?_) (fun h142 => ?_)
              ·have g142 : ((apply15 c l0 x0.f1 x0.f2 (IntKind.i64.wrap (now0 + (andK IntKind.i64 x0.f3 7)))).2 : Int) = 0 := beq_t h142
               refine step_g1 rfl h142 (step_r rfl rfl trivial (step_g1 rfl h142 (step_r rfl rfl trivial (step_g1 rfl h142 (step_r rfl rfl trivial (step_g1 rfl h142 (step_r rfl rfl trivial (step_g1 rfl h142 (step_bin rfl rfl rfl rfl rfl trivial (step_g1 rfl h137 (step_pickT rfl h142 rfl rfl ?_)))))))))))
               refine step_g1 rfl h137 (step_r rfl rfl trivial ?_)
               refine step_gs rfl (fun h144 => ?_) (fun h144 => ?_)
               ·have g144 : ¬ (((apply15 c l0 x0.f1 x0.f2 (IntKind.i64.wrap (now0 + (andK IntKind.i64 x0.f3 7)))).1.length : Int) = l0.length) := bne_t h144
                refine step_g1 rfl h144 (step_r rfl rfl trivial (step_g1 rfl h144 (step_r rfl rfl trivial (step_g1 rfl h144 (step_r rfl rfl trivial (step_g1 rfl h144 (step_r rfl rfl trivial (step_g1 rfl h144 (step_bin rfl rfl rfl rfl rfl trivial (step_g1 rfl h144 (step_bin rfl rfl rfl rfl rfl trivial ?_)))))))))))
                refine step_g1 rfl h137 (step_pickT rfl h144 rfl rfl (step_pickF rfl h137 rfl rfl (step_nil (seqK_n ?_))))
                refine sem_cond rfl (fun h146 => ?_) (fun h146 => ?_)
                ·have g146 : ¬ (((apply15 c l0 x0.f1 x0.f2 (IntKind.i64.wrap (now0 + (andK IntKind.i64 x0.f3 7)))).1.length : Int) = (IntKind.i64.wrap (l0.length + 1))) := bne_t h146
                 refine sem_seq (sem_region rfl (step_r rfl rfl trivial (step_nil (seqK_n (sem_ret (seqK_r (blkK_r (cutW_r (seqK_r (blkK_r (seqK_r ?_)))))))))))
                 refine lupK_r (blkK_r (cutW_r (seqK_r ?_)))
                 have e147 : stays15_J57 c l0 now0 x0 = .inl false := by
                  unfold stays15_J57
                  try dsimp only
                  rewrite [hJ18]
                  try dsimp only
                  rewrite [if_pos g24, if_pos g30, if_pos g128, if_neg g130, if_pos g135, if_neg g137, if_pos g142, if_neg g144, if_neg g146]
                  all_goals rfl
                 have e148 : stays15_L0 c steps 0 l 0 = .inl false := by
                  rewrite [← hI0, drop_cons hx0]
                  rewrite [stays15_L0]
                  try dsimp only
                  rewrite [e147]
                  try dsimp only
                  all_goals rfl
                 have e149 : stays15 c l steps = false := by
                  unfold stays15
                  try dsimp only
                  rewrite [if_pos g4, if_neg g7, if_pos g10, e148]
                  try dsimp only
                  all_goals rfl
                 rw [e149]
                 exact answersR rfl ⟨trivial, trivial⟩ (rfl) rfl
                ·have g146 : ((apply15 c l0 x0.f1 x0.f2 (IntKind.i64.wrap (now0 + (andK IntKind.i64 x0.f3 7)))).1.length : Int) = (IntKind.i64.wrap (l0.length + 1)) := bne_f h146
                 refine sem_skip (seqK_n (sem_seq (sem_region rfl (step_r rfl rfl trivial (step_bin rfl rfl rfl rfl rfl trivial (step_nil (seqK_n ?_)))))))
                 refine sem_cond rfl (fun h150 => ?_) (fun h150 => ?_)
                 ·have g150 : ((apply15 c l0 x0.f1 x0.f2 (IntKind.i64.wrap (now0 + (andK IntKind.i64 x0.f3 7)))).2 : Int) = 0 := beq_t h150
                  refine sem_region rfl (step_r rfl rfl trivial (step_r rfl rfl trivial (step_nil (blkK_n ?_))))
                  have e151 : stays15_J57 c l0 now0 x0 = .inr ((apply15 c l0 x0.f1 x0.f2 (IntKind.i64.wrap (now0 + (andK IntKind.i64 x0.f3 7)))).1) := by
                   unfold stays15_J57
                   try dsimp only
                   rewrite [hJ18]
                   try dsimp only
                   rewrite [if_pos g24, if_pos g30, if_pos g128, if_neg g130, if_pos g135, if_neg g137, if_pos g142, if_neg g144, if_pos g146, if_pos g150]
                   all_goals rfl
                  exact cutW_n ((apply15 c l0 x0.f1 x0.f2 (IntKind.i64.wrap (now0 + (andK IntKind.i64 x0.f3 7)))).1) e151 (Trans.ren [] (by decide +kernel) (by decide +kernel) rfl ⟨⟨rfl, rfl⟩, ⟨rfl, rfl⟩, ⟨rfl, rfl⟩, ⟨rfl, rfl⟩, ⟨rfl, rfl⟩, ⟨rfl, rfl⟩, trivial⟩ ⟨⟨rfl, rfl, rfl⟩, trivial⟩ (by decide))
                 ·have g150 : ¬ (((apply15 c l0 x0.f1 x0.f2 (IntKind.i64.wrap (now0 + (andK IntKind.i64 x0.f3 7)))).2 : Int) = 0) := beq_f h150
                  refine sem_skip (blkK_n ?_)
                  have e152 : stays15_J57 c l0 now0 x0 = .inr l0 := by
                   unfold stays15_J57
                   try dsimp only
                   rewrite [hJ18]
                   try dsimp only
                   rewrite [if_pos g24, if_pos g30, if_pos g128, if_neg g130, if_pos g135, if_neg g137, if_pos g142, if_neg g144, if_pos g146, if_neg g150]
                   all_goals rfl
                  exact cutW_n l0 e152 (Trans.ren [] (by decide +kernel) (by decide +kernel) rfl ⟨⟨rfl, rfl⟩, ⟨rfl, rfl⟩, ⟨rfl, rfl⟩, ⟨rfl, rfl⟩, ⟨rfl, rfl⟩, ⟨rfl, rfl⟩, trivial⟩ ⟨⟨rfl, rfl, rfl⟩, trivial⟩ (by decide))
               ·have g144 : ((apply15 c l0 x0.f1 x0.f2 (IntKind.i64.wrap (now0 + (andK IntKind.i64 x0.f3 7)))).1.length : Int) = l0.length := bne_f h144
                refine step_g0 rfl h144 rfl (step_g0 rfl h144 rfl (step_g0 rfl h144 rfl (step_g0 rfl h144 rfl (step_g0 rfl h144 rfl (step_g0 rfl h144 rfl (step_g1 rfl h137 (step_pickF rfl h144 rfl rfl (step_pickF rfl h137 rfl rfl (step_nil (seqK_n (sem_condF rfl ?_)))))))))))
                refine sem_skip (seqK_n (sem_seq (sem_region rfl (step_r rfl rfl trivial (step_bin rfl rfl rfl rfl rfl trivial (step_nil (seqK_n ?_)))))))
                refine sem_cond rfl (fun h153 => ?_) (fun h153 => ?_)
                ·have g153 : ((apply15 c l0 x0.f1 x0.f2 (IntKind.i64.wrap (now0 + (andK IntKind.i64 x0.f3 7)))).2 : Int) = 0 := beq_t h153
                 refine sem_region rfl (step_r rfl rfl trivial (step_r rfl rfl trivial (step_nil (blkK_n ?_))))
                 have e154 : stays15_J57 c l0 now0 x0 = .inr ((apply15 c l0 x0.f1 x0.f2 (IntKind.i64.wrap (now0 + (andK IntKind.i64 x0.f3 7)))).1) := by
                  unfold stays15_J57
                  try dsimp only
                  rewrite [hJ18]
                  try dsimp only
                  rewrite [if_pos g24, if_pos g30, if_pos g128, if_neg g130, if_pos g135, if_neg g137, if_pos g142, if_pos g144, if_pos g153]
                  all_goals rfl
                 exact cutW_n ((apply15 c l0 x0.f1 x0.f2 (IntKind.i64.wrap (now0 + (andK IntKind.i64 x0.f3 7)))).1) e154 (Trans.ren [] (by decide +kernel) (by decide +kernel) rfl ⟨⟨rfl, rfl⟩, ⟨rfl, rfl⟩, ⟨rfl, rfl⟩, ⟨rfl, rfl⟩, ⟨rfl, rfl⟩, ⟨rfl, rfl⟩, trivial⟩ ⟨⟨rfl, rfl, rfl⟩, trivial⟩ (by decide))
                ·have g153 : ¬ (((apply15 c l0 x0.f1 x0.f2 (IntKind.i64.wrap (now0 + (andK IntKind.i64 x0.f3 7)))).2 : Int) = 0) := beq_f h153
                 refine sem_skip (blkK_n ?_)
                 have e155 : stays15_J57 c l0 now0 x0 = .inr l0 := by
                  unfold stays15_J57
                  try dsimp only
                  rewrite [hJ18]
                  try dsimp only
                  rewrite [if_pos g24, if_pos g30, if_pos g128, if_neg g130, if_pos g135, if_neg g137, if_pos g142, if_pos g144, if_neg g153]
                  all_goals rfl
                 exact cutW_n l0 e155 (Trans.ren [] (by decide +kernel) (by decide +kernel) rfl ⟨⟨rfl, rfl⟩, ⟨rfl, rfl⟩, ⟨rfl, rfl⟩, ⟨rfl, rfl⟩, ⟨rfl, rfl⟩, ⟨rfl, rfl⟩, trivial⟩ ⟨⟨rfl, rfl, rfl⟩, trivial⟩ (by decide))
              ·have g142 : ¬ (((apply15 c l0 x0.f1 x0.f2 (IntKind.i64.wrap (now0 + (andK IntKind.i64 x0.f3 7)))).2 : Int) = 0) := beq_f h142
               refine step_g0 rfl h142 rfl (step_g0 rfl h142 rfl (step_g0 rfl h142 rfl (step_g0 rfl h142 rfl (step_g0 rfl h142 rfl (step_g1 rfl h137 (step_pickF rfl h142 rfl rfl (step_g1 rfl h137 (step_r rfl rfl trivial (step_gf rfl rfl (step_gf rfl rfl (step_gf rfl rfl ?_)))))))))))
               refine step_gf rfl rfl (step_gf rfl rfl (step_gf rfl rfl (step_g1 rfl h137 (step_r rfl rfl trivial (step_pickF rfl h137 rfl rfl (step_nil (seqK_n (sem_condF rfl (sem_skip (seqK_n (sem_seq ?_)))))))))))
               refine sem_region rfl (step_r rfl rfl trivial (step_bin rfl rfl rfl rfl rfl trivial (step_nil (seqK_n ?_))))
               refine sem_cond rfl (fun h156 => ?_) (fun h156 => ?_)
               ·have g156 : ((apply15 c l0 x0.f1 x0.f2 (IntKind.i64.wrap (now0 + (andK IntKind.i64 x0.f3 7)))).2 : Int) = 0 := beq_t h156
                refine sem_region rfl (step_r rfl rfl trivial (step_r rfl rfl trivial (step_nil (blkK_n ?_))))
                have e157 : stays15_J57 c l0 now0 x0 = .inr ((apply15 c l0 x0.f1 x0.f2 (IntKind.i64.wrap (now0 + (andK IntKind.i64 x0.f3 7)))).1) := by
                 unfold stays15_J57
                 try dsimp only
                 rewrite [hJ18]
                 try dsimp only
                 rewrite [if_pos g24, if_pos g30, if_pos g128, if_neg g130, if_pos g135, if_neg g137, if_neg g142, if_pos g156]
                 all_goals rfl
                exact cutW_n ((apply15 c l0 x0.f1 x0.f2 (IntKind.i64.wrap (now0 + (andK IntKind.i64 x0.f3 7)))).1) e157 (Trans.ren [] (by decide +kernel) (by decide +kernel) rfl ⟨⟨rfl, rfl⟩, ⟨rfl, rfl⟩, ⟨rfl, rfl⟩, ⟨rfl, rfl⟩, ⟨rfl, rfl⟩, ⟨rfl, rfl⟩, trivial⟩ ⟨⟨rfl, rfl, rfl⟩, trivial⟩ (by decide))
               ·have g156 : ¬ (((apply15 c l0 x0.f1 x0.f2 (IntKind.i64.wrap (now0 + (andK IntKind.i64 x0.f3 7)))).2 : Int) = 0) := beq_f h156
                refine sem_skip (blkK_n ?_)
                have e158 : stays15_J57 c l0 now0 x0 = .inr l0 := by
                 unfold stays15_J57
                 try dsimp only
                 rewrite [hJ18]
                 try dsimp only
                 rewrite [if_pos g24, if_pos g30, if_pos g128, if_neg g130, if_pos g135, if_neg g137, if_neg g142, if_neg g156]
                 all_goals rfl
                exact cutW_n l0 e158 (Trans.ren [] (by decide +kernel) (by decide +kernel) rfl ⟨⟨rfl, rfl⟩, ⟨rfl, rfl⟩, ⟨rfl, rfl⟩, ⟨rfl, rfl⟩, ⟨rfl, rfl⟩, ⟨rfl, rfl⟩, trivial⟩ ⟨⟨rfl, rfl, rfl⟩, trivial⟩ (by decide))
            ·have g135 : ¬ (((apply15 c l0 x0.f1 x0.f2 (IntKind.i64.wrap (now0 + (andK IntKind.i64 x0.f3 7)))).2 : Int) = 4) := beq_f h135
             refine step_g0 rfl h135 rfl (step_g0 rfl h135 rfl (step_g0 rfl h135 rfl (step_g1 rfl h130 (step_pickF rfl h135 rfl rfl (step_pickF rfl h130 rfl rfl (step_r rfl rfl trivial (step_gt rfl (step_r rfl rfl trivial (step_gt rfl (step_bin rfl rfl rfl rfl rfl trivial (step_gt rfl ?_)))))))))))
             refine step_r rfl rfl trivial ?_
             refine step_gs rfl (fun h160 => ?_) (fun h160 => ?_)
             ·have g160 : ((apply15 c l0 x0.f1 x0.f2 (IntKind.i64.wrap (now0 + (andK IntKind.i64 x0.f3 7)))).2 : Int) = 0 := beq_t h160
              refine step_g1 rfl h160 (step_r rfl rfl trivial (step_g1 rfl h160 (step_r rfl rfl trivial (step_g1 rfl h160 (step_r rfl rfl trivial (step_g1 rfl h160 (step_r rfl rfl trivial (step_g1 rfl h160 (step_bin rfl rfl rfl rfl rfl trivial (step_gt rfl (step_pickT rfl h160 rfl rfl ?_)))))))))))
              refine step_gt rfl (step_r rfl rfl trivial ?_)
              refine step_gs rfl (fun h162 => ?_) (fun h162 => ?_)
              ·have g162 : ¬ (((apply15 c l0 x0.f1 x0.f2 (IntKind.i64.wrap (now0 + (andK IntKind.i64 x0.f3 7)))).1.length : Int) = l0.length) := bne_t h162
               refine step_g1 rfl h162 (step_r rfl rfl trivial (step_g1 rfl h162 (step_r rfl rfl trivial (step_g1 rfl h162 (step_r rfl rfl trivial (step_g1 rfl h162 (step_r rfl rfl trivial (step_g1 rfl h162 (step_bin rfl rfl rfl rfl rfl trivial (step_g1 rfl h162 (step_bin rfl rfl rfl rfl rfl trivial ?_)))))))))))
               refine step_gt rfl (step_pickT rfl h162 rfl rfl (step_r rfl rfl trivial (step_nil (seqK_n ?_))))
               refine sem_cond rfl (fun h164 => ?_) (fun h164 => ?_)
               ·have g164 : ¬ (((apply15 c l0 x0.f1 x0.f2 (IntKind.i64.wrap (now0 + (andK IntKind.i64 x0.f3 7)))).1.length : Int) = (IntKind.i64.wrap (l0.length + 1))) := bne_t h164
                refine sem_seq (sem_region rfl (step_r rfl rfl trivial (step_nil (seqK_n (sem_ret (seqK_r (blkK_r (cutW_r (seqK_r (blkK_r (seqK_r ?_)))))))))))
                refine lupK_r (blkK_r (cutW_r (seqK_r ?_)))
                have e165 : stays15_J57 c l0 now0 x0 = .inl false := by
                 unfold stays15_J57
                 try dsimp only
                 rewrite [hJ18]
                 try dsimp only
                 rewrite [if_pos g24, if_pos g30, if_pos g128, if_neg g130, if_neg g135, if_pos g160, if_neg g162, if_neg g164]
                 all_goals rfl
                have e166 : stays15_L0 c steps 0 l 0 = .inl false := by
                 rewrite [← hI0, drop_cons hx0]
                 rewrite [stays15_L0]
                 try dsimp only
                 rewrite [e165]
                 try dsimp only
                 all_goals rfl
                have e167 : stays15 c l steps = false := by
                 unfold stays15
                 try dsimp only
                 rewrite [if_pos g4, if_neg g7, if_pos g10, e166]
                 try dsimp only
                 all_goals rfl
                rw [e167]
                exact answersR rfl ⟨trivial, trivial⟩ (rfl) rfl
               ·have g164 : ((apply15 c l0 x0.f1 x0.f2 (IntKind.i64.wrap (now0 + (andK IntKind.i64 x0.f3 7)))).1.length : Int) = (IntKind.i64.wrap (l0.length + 1)) := bne_f h164
                refine sem_skip (seqK_n (sem_seq (sem_region rfl (step_r rfl rfl trivial (step_bin rfl rfl rfl rfl rfl trivial (step_nil (seqK_n ?_)))))))
                refine sem_cond rfl (fun h168 => ?_) (fun h168 => ?_)
                ·have g168 : ((apply15 c l0 x0.f1 x0.f2 (IntKind.i64.wrap (now0 + (andK IntKind.i64 x0.f3 7)))).2 : Int) = 0 := beq_t h168
                 refine sem_region rfl (step_r rfl rfl trivial (step_r rfl rfl trivial (step_nil (blkK_n ?_))))
                 have e169 : stays15_J57 c l0 now0 x0 = .inr ((apply15 c l0 x0.f1 x0.f2 (IntKind.i64.wrap (now0 + (andK IntKind.i64 x0.f3 7)))).1) := by
                  unfold stays15_J57
                  try dsimp only
                  rewrite [hJ18]
                  try dsimp only
                  rewrite [if_pos g24, if_pos g30, if_pos g128, if_neg g130, if_neg g135, if_pos g160, if_neg g162, if_pos g164, if_pos g168]
                  all_goals rfl
                 exact cutW_n ((apply15 c l0 x0.f1 x0.f2 (IntKind.i64.wrap (now0 + (andK IntKind.i64 x0.f3 7)))).1) e169 (Trans.ren [] (by decide +kernel) (by decide +kernel) rfl ⟨⟨rfl, rfl⟩, ⟨rfl, rfl⟩, ⟨rfl, rfl⟩, ⟨rfl, rfl⟩, ⟨rfl, rfl⟩, ⟨rfl, rfl⟩, trivial⟩ ⟨⟨rfl, rfl, rfl⟩, trivial⟩ (by decide))
                ·have g168 : ¬ (((apply15 c l0 x0.f1 x0.f2 (IntKind.i64.wrap (now0 + (andK IntKind.i64 x0.f3 7)))).2 : Int) = 0) := beq_f h168
                 refine sem_skip (blkK_n ?_)
                 have e170 : stays15_J57 c l0 now0 x0 = .inr l0 := by
                  unfold stays15_J57
                  try dsimp only
                  rewrite [hJ18]
                  try dsimp only
                  rewrite [if_pos g24, if_pos g30, if_pos g128, if_neg g130, if_neg g135, if_pos g160, if_neg g162, if_pos g164, if_neg g168]
                  all_goals rfl
                 exact cutW_n l0 e170 (Trans.ren [] (by decide +kernel) (by decide +kernel) rfl ⟨⟨rfl, rfl⟩, ⟨rfl, rfl⟩, ⟨rfl, rfl⟩, ⟨rfl, rfl⟩, ⟨rfl, rfl⟩, ⟨rfl, rfl⟩, trivial⟩ ⟨⟨rfl, rfl, rfl⟩, trivial⟩ (by decide))
              ·have g162 : ((apply15 c l0 x0.f1 x0.f2 (IntKind.i64.wrap (now0 + (andK IntKind.i64 x0.f3 7)))).1.length : Int) = l0.length := bne_f h162
               refine step_g0 rfl h162 rfl (step_g0 rfl h162 rfl (step_g0 rfl h162 rfl (step_g0 rfl h162 rfl (step_g0 rfl h162 rfl (step_g0 rfl h162 rfl (step_gt rfl (step_pickF rfl h162 rfl rfl (step_r rfl rfl trivial (step_nil (seqK_n (sem_condF rfl ?_)))))))))))
               refine sem_skip (seqK_n (sem_seq (sem_region rfl (step_r rfl rfl trivial (step_bin rfl rfl rfl rfl rfl trivial (step_nil (seqK_n ?_)))))))
               refine sem_cond rfl (fun h171 => ?_) (fun h171 => ?_)
               ·have g171 : ((apply15 c l0 x0.f1 x0.f2 (IntKind.i64.wrap (now0 + (andK IntKind.i64 x0.f3 7)))).2 : Int) = 0 := beq_t h171
                refine sem_region rfl (step_r rfl rfl trivial (step_r rfl rfl trivial (step_nil (blkK_n ?_))))
                have e172 : stays15_J57 c l0 now0 x0 = .inr ((apply15 c l0 x0.f1 x0.f2 (IntKind.i64.wrap (now0 + (andK IntKind.i64 x0.f3 7)))).1) := by
                 unfold stays15_J57
                 try dsimp only
                 rewrite [hJ18]
                 try dsimp only
                 rewrite [if_pos g24, if_pos g30, if_pos g128, if_neg g130, if_neg g135, if_pos g160, if_pos g162, if_pos g171]
                 all_goals rfl
                exact cutW_n ((apply15 c l0 x0.f1 x0.f2 (IntKind.i64.wrap (now0 + (andK IntKind.i64 x0.f3 7)))).1) e172 (Trans.ren [] (by decide +kernel) (by decide +kernel) rfl ⟨⟨rfl, rfl⟩, ⟨rfl, rfl⟩, ⟨rfl, rfl⟩, ⟨rfl, rfl⟩, ⟨rfl, rfl⟩, ⟨rfl, rfl⟩, trivial⟩ ⟨⟨rfl, rfl, rfl⟩, trivial⟩ (by decide))
               ·have g171 : ¬ (((apply15 c l0 x0.f1 x0.f2 (IntKind.i64.wrap (now0 + (andK IntKind.i64 x0.f3 7)))).2 : Int) = 0) := beq_f h171
                refine sem_skip (blkK_n ?_)
                have e173 : stays15_J57 c l0 now0 x0 = .inr l0 := by
                 unfold stays15_J57
                 try dsimp only
                 rewrite [hJ18]
                 try dsimp only
                 rewrite [if_pos g24, if_pos g30, if_pos g128, if_neg g130, if_neg g135, if_pos g160, if_pos g162, if_neg g171]
                 all_goals rfl
                exact cutW_n l0 e173 (Trans.ren [] (by decide +kernel) (by decide +kernel) rfl ⟨⟨rfl, rfl⟩, ⟨rfl, rfl⟩, ⟨rfl, rfl⟩, ⟨rfl, rfl⟩, ⟨rfl, rfl⟩, ⟨rfl, rfl⟩, trivial⟩ ⟨⟨rfl, rfl, rfl⟩, trivial⟩ (by decide))
             ·have g160 : ¬ (((apply15 c l0 x0.f1 x0.f2 (IntKind.i64.wrap (now0 + (andK IntKind.i64 x0.f3 7)))).2 : Int) = 0) := beq_f h160
              refine step_g0 rfl h160 rfl (step_g0 rfl h160 rfl (step_g0 rfl h160 rfl (step_g0 rfl h160 rfl (step_g0 rfl h160 rfl (step_gt rfl (step_pickF rfl h160 rfl rfl (step_gt rfl (step_r rfl rfl trivial (step_gf rfl rfl (step_gf rfl rfl (step_gf rfl rfl ?_)))))))))))
              refine step_gf rfl rfl (step_gf rfl rfl (step_gf rfl rfl (step_gt rfl (step_r rfl rfl trivial (step_r rfl rfl trivial (step_nil (seqK_n (sem_condF rfl (sem_skip (seqK_n (sem_seq ?_)))))))))))
              refine sem_region rfl (step_r rfl rfl trivial (step_bin rfl rfl rfl rfl rfl trivial (step_nil (seqK_n ?_))))
              refine sem_cond rfl (fun h174 => ?_) (fun h174 => ?_)
              ·have g174 : ((apply15 c l0 x0.f1 x0.f2 (IntKind.i64.wrap (now0 + (andK IntKind.i64 x0.f3 7)))).2 : Int) = 0 := beq_t h174
               refine sem_region rfl (step_r rfl rfl trivial (step_r rfl rfl trivial (step_nil (blkK_n ?_))))
               have e175 : stays15_J57 c l0 now0 x0 = .inr ((apply15 c l0 x0.f1 x0.f2 (IntKind.i64.wrap (now0 + (andK IntKind.i64 x0.f3 7)))).1) := by
                unfold stays15_J57
                try dsimp only
                rewrite [hJ18]
                try dsimp only
                rewrite [if_pos g24, if_pos g30, if_pos g128, if_neg g130, if_neg g135, if_neg g160, if_pos g174]
                all_goals rfl
               exact cutW_n ((apply15 c l0 x0.f1 x0.f2 (IntKind.i64.wrap (now0 + (andK IntKind.i64 x0.f3 7)))).1) e175 (Trans.ren [] (by decide +kernel) (by decide +kernel) rfl ⟨⟨rfl, rfl⟩, ⟨rfl, rfl⟩, ⟨rfl, rfl⟩, ⟨rfl, rfl⟩, ⟨rfl, rfl⟩, ⟨rfl, rfl⟩, trivial⟩ ⟨⟨rfl, rfl, rfl⟩, trivial⟩ (by decide))
              ·have g174 : ¬ (((apply15 c l0 x0.f1 x0.f2 (IntKind.i64.wrap (now0 + (andK IntKind.i64 x0.f3 7)))).2 : Int) = 0) := beq_f h174
               refine sem_skip (blkK_n ?_)
               have e176 : stays15_J57 c l0 now0 x0 = .inr l0 := by
                unfold stays15_J57
                try dsimp only
                rewrite [hJ18]
                try dsimp only
                rewrite [if_pos g24, if_pos g30, if_pos g128, if_neg g130, if_neg g135, if_neg g160, if_neg g174]
                all_goals rfl
               exact cutW_n l0 e176 (Trans.ren [] (by decide +kernel) (by decide +kernel) rfl ⟨⟨rfl, rfl⟩, ⟨rfl, rfl⟩, ⟨rfl, rfl⟩, ⟨rfl, rfl⟩, ⟨rfl, rfl⟩, ⟨rfl, rfl⟩, trivial⟩ ⟨⟨rfl, rfl, rfl⟩, trivial⟩ (by decide))
          ·have g128 : ¬ ((getU c x0.f1).2 = true) := boo_f h128
           refine step_g0 rfl h128 rfl (step_g0 rfl h128 rfl (step_gt rfl (step_pickF rfl h128 rfl rfl (step_r rfl rfl trivial (step_r rfl rfl trivial (step_gt rfl (step_r rfl rfl trivial (step_gt rfl (step_bin rfl rfl rfl rfl rfl trivial (step_gt rfl (step_r rfl rfl trivial ?_)))))))))))
           refine step_gs rfl (fun h178 => ?_) (fun h178 => ?_)
           ·have g178 : ((apply15 c l0 x0.f1 x0.f2 (IntKind.i64.wrap (now0 + (andK IntKind.i64 x0.f3 7)))).2 : Int) = 4 := beq_t h178
            refine step_g1 rfl h178 (step_r rfl rfl trivial (step_g1 rfl h178 (step_r rfl rfl trivial (step_g1 rfl h178 (step_bin rfl rfl rfl rfl rfl trivial (step_gt rfl (step_pickT rfl h178 rfl rfl (step_r rfl rfl trivial (step_r rfl rfl trivial ?_)))))))))
            refine step_gs rfl (fun h180 => ?_) (fun h180 => ?_)
            ·have g180 : (l0.length : Int) < 16 := of_decide_eq_true h180
             refine step_g0 rfl h180 rfl (step_g0 rfl h180 rfl (step_g0 rfl h180 rfl (step_gf rfl rfl (step_gf rfl rfl (step_gf rfl rfl (step_gf rfl rfl (step_gf rfl rfl (step_g0 rfl h180 rfl (step_g0 rfl h180 rfl (step_gf rfl rfl (step_gf rfl rfl ?_)))))))))))
             refine step_gf rfl rfl (step_gf rfl rfl (step_gf rfl rfl (step_gf rfl rfl (step_g0 rfl h180 rfl (step_pickT rfl h180 rfl rfl (step_nil (seqK_n (sem_condT rfl (sem_seq (sem_region rfl (step_r rfl rfl trivial ?_)))))))))))
             refine step_nil (seqK_n (sem_ret (seqK_r (blkK_r (cutW_r (seqK_r (blkK_r (seqK_r (lupK_r (blkK_r (cutW_r ?_)))))))))))
             refine seqK_r ?_
             have e181 : stays15_J57 c l0 now0 x0 = .inl false := by
              unfold stays15_J57
              try dsimp only
              rewrite [hJ18]
              try dsimp only
              rewrite [if_pos g24, if_pos g30, if_neg g128, if_pos g178, if_pos g180]
              all_goals rfl
             have e182 : stays15_L0 c steps 0 l 0 = .inl false := by
              rewrite [← hI0, drop_cons hx0]
              rewrite [stays15_L0]
              try dsimp only
              rewrite [e181]
              try dsimp only
              all_goals rfl
             have e183 : stays15 c l steps = false := by
              unfold stays15
              try dsimp only
              rewrite [if_pos g4, if_neg g7, if_pos g10, e182]
              try dsimp only
              all_goals rfl
             rw [e183]
             exact answersR rfl ⟨trivial, trivial⟩ (rfl) rfl
            ·have g180 : ¬ ((l0.length : Int) < 16) := of_decide_eq_false h180
             refine step_g1 rfl h180 (step_r rfl rfl trivial (step_g1 rfl h180 (step_bin rfl rfl rfl rfl rfl trivial (step_g1 rfl h180 (step_r rfl rfl trivial ?_)))))
             refine step_gs rfl (fun h185 => ?_) (fun h185 => ?_)
             ·have g185 : ((apply15 c l0 x0.f1 x0.f2 (IntKind.i64.wrap (now0 + (andK IntKind.i64 x0.f3 7)))).2 : Int) = 0 := beq_t h185
              refine step_g1 rfl h185 (step_r rfl rfl trivial (step_g1 rfl h185 (step_r rfl rfl trivial (step_g1 rfl h185 (step_r rfl rfl trivial (step_g1 rfl h185 (step_r rfl rfl trivial (step_g1 rfl h185 (step_bin rfl rfl rfl rfl rfl trivial (step_g1 rfl h180 (step_pickT rfl h185 rfl rfl ?_)))))))))))
              refine step_g1 rfl h180 (step_r rfl rfl trivial ?_)
              refine step_gs rfl (fun h187 => ?_) (fun h187 => ?_)
              ·have g187 : ¬ (((apply15 c l0 x0.f1 x0.f2 (IntKind.i64.wrap (now0 + (andK IntKind.i64 x0.f3 7)))).1.length : Int) = l0.length) := bne_t h187
               refine step_g1 rfl h187 (step_r rfl rfl trivial (step_g1 rfl h187 (step_r rfl rfl trivial (step_g1 rfl h187 (step_r rfl rfl trivial (step_g1 rfl h187 (step_r rfl rfl trivial (step_g1 rfl h187 (step_bin rfl rfl rfl rfl rfl trivial (step_g1 rfl h187 (step_bin rfl rfl rfl rfl rfl trivial ?_)))))))))))
               refine step_g1 rfl h180 (step_pickT rfl h187 rfl rfl (step_pickF rfl h180 rfl rfl (step_nil (seqK_n ?_))))
               refine sem_cond rfl (fun h189 => ?_) (fun h189 => ?_)
               ·have g189 : ¬ (((apply15 c l0 x0.f1 x0.f2 (IntKind.i64.wrap (now0 + (andK IntKind.i64 x0.f3 7)))).1.length : Int) = (IntKind.i64.wrap (l0.length + 1))) := bne_t h189
                refine sem_seq (sem_region rfl (step_r rfl rfl trivial (step_nil (seqK_n (sem_ret (seqK_r (blkK_r (cutW_r (seqK_r (blkK_r (seqK_r ?_)))))))))))
                refine lupK_r (blkK_r (cutW_r (seqK_r ?_)))
                have e190 : stays15_J57 c l0 now0 x0 = .inl false := by
                 unfold stays15_J57
                 try dsimp only
                 rewrite [hJ18]
                 try dsimp only
                 rewrite [if_pos g24, if_pos g30, if_neg g128, if_pos g178, if_neg g180, if_pos g185, if_neg g187, if_neg g189]
                 all_goals rfl
                have e191 : stays15_L0 c steps 0 l 0 = .inl false := by
                 rewrite [← hI0, drop_cons hx0]
                 rewrite [stays15_L0]
                 try dsimp only
                 rewrite [e190]
                 try dsimp only
                 all_goals rfl
                have e192 : stays15 c l steps = false := by
                 unfold stays15
                 try dsimp only
                 rewrite [if_pos g4, if_neg g7, if_pos g10, e191]
                 try dsimp only
                 all_goals rfl
                rw [e192]
                exact answersR rfl ⟨trivial, trivial⟩ (rfl) rfl
               ·have g189 : ((apply15 c l0 x0.f1 x0.f2 (IntKind.i64.wrap (now0 + (andK IntKind.i64 x0.f3 7)))).1.length : Int) = (IntKind.i64.wrap (l0.length + 1)) := bne_f h189
                refine sem_skip (seqK_n (sem_seq (sem_region rfl (step_r rfl rfl trivial (step_bin rfl rfl rfl rfl rfl trivial (step_nil (seqK_n ?_)))))))
                refine sem_cond rfl (fun h193 => ?_) (fun h193 => ?_)
                ·have g193 : ((apply15 c l0 x0.f1 x0.f2 (IntKind.i64.wrap (now0 + (andK IntKind.i64 x0.f3 7)))).2 : Int) = 0 := beq_t h193
                 refine sem_region rfl (step_r rfl rfl trivial (step_r rfl rfl trivial (step_nil (blkK_n ?_))))
                 have e194 : stays15_J57 c l0 now0 x0 = .inr ((apply15 c l0 x0.f1 x0.f2 (IntKind.i64.wrap (now0 + (andK IntKind.i64 x0.f3 7)))).1) := by
                  unfold stays15_J57
                  try dsimp only
                  rewrite [hJ18]
                  try dsimp only
                  rewrite [if_pos g24, if_pos g30, if_neg g128, if_pos g178, if_neg g180, if_pos g185, if_neg g187, if_pos g189, if_pos g193]
                  all_goals rfl
                 exact cutW_n ((apply15 c l0 x0.f1 x0.f2 (IntKind.i64.wrap (now0 + (andK IntKind.i64 x0.f3 7)))).1) e194 (Trans.ren [] (by decide +kernel) (by decide +kernel) rfl ⟨⟨rfl, rfl⟩, ⟨rfl, rfl⟩, ⟨rfl, rfl⟩, ⟨rfl, rfl⟩, ⟨rfl, rfl⟩, ⟨rfl, rfl⟩, trivial⟩ ⟨⟨rfl, rfl, rfl⟩, trivial⟩ (by decide))
                ·have g193 : ¬ (((apply15 c l0 x0.f1 x0.f2 (IntKind.i64.wrap (now0 + (andK IntKind.i64 x0.f3 7)))).2 : Int) = 0) := beq_f h193
                 refine sem_skip (blkK_n ?_)
                 have e195 : stays15_J57 c l0 now0 x0 = .inr l0 := by
                  unfold stays15_J57
                  try dsimp only
                  rewrite [hJ18]
                  try dsimp only
                  rewrite [if_pos g24, if_pos g30, if_neg g128, if_pos g178, if_neg g180, if_pos g185, if_neg g187, if_pos g189, if_neg g193]
                  all_goals rfl
                 exact cutW_n l0 e195 (Trans.ren [] (by decide +kernel) (by decide +kernel) rfl ⟨⟨rfl, rfl⟩, ⟨rfl, rfl⟩, ⟨rfl, rfl⟩, ⟨rfl, rfl⟩, ⟨rfl, rfl⟩, ⟨rfl, rfl⟩, trivial⟩ ⟨⟨rfl, rfl, rfl⟩, trivial⟩ (by decide))
              ·have g187 : ((apply15 c l0 x0.f1 x0.f2 (IntKind.i64.wrap (now0 + (andK IntKind.i64 x0.f3 7)))).1.length : Int) = l0.length := bne_f h187
               refine step_g0 rfl h187 rfl (step_g0 rfl h187 rfl (step_g0 rfl h187 rfl (step_g0 rfl h187 rfl (step_g0 rfl h187 rfl (step_g0 rfl h187 rfl (step_g1 rfl h180 (step_pickF rfl h187 rfl rfl (step_pickF rfl h180 rfl rfl (step_nil (seqK_n (sem_condF rfl ?_)))))))))))
               refine sem_skip (seqK_n (sem_seq (sem_region rfl (step_r rfl rfl trivial (step_bin rfl rfl rfl rfl rfl trivial (step_nil (seqK_n ?_)))))))
               refine sem_cond rfl (fun h196 => ?_) (fun h196 => ?_)
               ·have g196 : ((apply15 c l0 x0.f1 x0.f2 (IntKind.i64.wrap (now0 + (andK IntKind.i64 x0.f3 7)))).2 : Int) = 0 := beq_t h196
                refine sem_region rfl (step_r rfl rfl trivial (step_r rfl rfl trivial (step_nil (blkK_n ?_))))
                have e197 : stays15_J57 c l0 now0 x0 = .inr ((apply15 c l0 x0.f1 x0.f2 (IntKind.i64.wrap (now0 + (andK IntKind.i64 x0.f3 7)))).1) := by
                 unfold stays15_J57
                 try dsimp only
                 rewrite [hJ18]
                 try dsimp only
                 rewrite [if_pos g24, if_pos g30, if_neg g128, if_pos g178, if_neg g180, if_pos g185, if_pos g187, if_pos g196]
                 all_goals rfl
                exact cutW_n ((apply15 c l0 x0.f1 x0.f2 (IntKind.i64.wrap (now0 + (andK IntKind.i64 x0.f3 7)))).1) e197 (Trans.ren [] (by decide +kernel) (by decide +kernel) rfl ⟨⟨rfl, rfl⟩, ⟨rfl, rfl⟩, ⟨rfl, rfl⟩, ⟨rfl, rfl⟩, ⟨rfl, rfl⟩, ⟨rfl, rfl⟩, trivial⟩ ⟨⟨rfl, rfl, rfl⟩, trivial⟩ (by decide))
               ·have g196 : ¬ (((apply15 c l0 x0.f1 x0.f2 (IntKind.i64.wrap (now0 + (andK IntKind.i64 x0.f3 7)))).2 : Int) = 0) := beq_f h196
                refine sem_skip (blkK_n ?_)
                have e198 : stays15_J57 c l0 now0 x0 = .inr l0 := by
                 unfold stays15_J57
                 try dsimp only
                 rewrite [hJ18]
                 try dsimp only
                 rewrite [if_pos g24, if_pos g30, if_neg g128, if_pos g178, if_neg g180, if_pos g185, if_pos g187, if_neg g196]
                 all_goals rfl
                exact cutW_n l0 e198 (Trans.ren [] (by decide +kernel) (by decide +kernel) rfl ⟨⟨rfl, rfl⟩, ⟨rfl, rfl⟩, ⟨rfl, rfl⟩, ⟨rfl, rfl⟩, ⟨rfl, rfl⟩, ⟨rfl, rfl⟩, trivial⟩ ⟨⟨rfl, rfl, rfl⟩, trivial⟩ (by decide))
             ·have g185 : ¬ (((apply15 c l0 x0.f1 x0.f2 (IntKind.i64.wrap (now0 + (andK IntKind.i64 x0.f3 7)))).2 : Int) = 0) := beq_f h185
              refine step_g0 rfl h185 rfl (step_g0 rfl h185 rfl (step_g0 rfl h185 rfl (step_g0 rfl h185 rfl (step_g0 rfl h185 rfl (step_g1 rfl h180 (step_pickF rfl h185 rfl rfl (step_g1 rfl h180 (step_r rfl rfl trivial (step_gf rfl rfl (step_gf rfl rfl (step_gf rfl rfl ?_)))))))))))
              refine step_gf rfl rfl (step_gf rfl rfl (step_gf rfl rfl (step_g1 rfl h180 (step_r rfl rfl trivial (step_pickF rfl h180 rfl rfl (step_nil (seqK_n (sem_condF rfl (sem_skip (seqK_n (sem_seq ?_)))))))))))
              refine sem_region rfl (step_r rfl rfl trivial (step_bin rfl rfl rfl rfl rfl trivial (step_nil (seqK_n ?_))))
              refine sem_cond rfl (fun h199 => ?_) (fun h199 => ?_)
              ·have g199 : ((apply15 c l0 x0.f1 x0.f2 (IntKind.i64.wrap (now0 + (andK IntKind.i64 x0.f3 7)))).2 : Int) = 0 := beq_t h199
               refine sem_region rfl (step_r rfl rfl trivial (step_r rfl rfl trivial (step_nil (blkK_n ?_))))
               have e200 : stays15_J57 c l0 now0 x0 = .inr ((apply15 c l0 x0.f1 x0.f2 (IntKind.i64.wrap (now0 + (andK IntKind.i64 x0.f3 7)))).1) := by
                unfold stays15_J57
                try dsimp only
                rewrite [hJ18]
                try dsimp only
                rewrite [if_pos g24, if_pos g30, if_neg g128, if_pos g178, if_neg g180, if_neg g185, if_pos g199]
                all_goals rfl
               exact cutW_n ((apply15 c l0 x0.f1 x0.f2 (IntKind.i64.wrap (now0 + (andK IntKind.i64 x0.f3 7)))).1) e200 (Trans.ren [] (by decide +kernel) (by decide +kernel) rfl ⟨⟨rfl, rfl⟩, ⟨rfl, rfl⟩, ⟨rfl, rfl⟩, ⟨rfl, rfl⟩, ⟨rfl, rfl⟩, ⟨rfl, rfl⟩, trivial⟩ ⟨⟨rfl, rfl, rfl⟩, trivial⟩ (by decide))
              ·have g199 : ¬ (((apply15 c l0 x0.f1 x0.f2 (IntKind.i64.wrap (now0 + (andK IntKind.i64 x0.f3 7)))).2 : Int) = 0) := beq_f h199
               refine sem_skip (blkK_n ?_)
               have e201 : stays15_J57 c l0 now0 x0 = .inr l0 := by
                unfold stays15_J57
                try dsimp only
                rewrite [hJ18]
                try dsimp only
                rewrite [if_pos g24, if_pos g30, if_neg g128, if_pos g178, if_neg g180, if_neg g185, if_neg g199]
                all_goals rfl
               exact cutW_n l0 e201 (Trans.ren [] (by decide +kernel) (by decide +kernel) rfl ⟨⟨rfl, rfl⟩, ⟨rfl, rfl⟩, ⟨rfl, rfl⟩, ⟨rfl, rfl⟩, ⟨rfl, rfl⟩, ⟨rfl, rfl⟩, trivial⟩ ⟨⟨rfl, rfl, rfl⟩, trivial⟩ (by decide))
           ·have g178 : ¬ (((apply15 c l0 x0.f1 x0.f2 (IntKind.i64.wrap (now0 + (andK IntKind.i64 x0.f3 7)))).2 : Int) = 4) := beq_f h178
            refine step_g0 rfl h178 rfl (step_g0 rfl h178 rfl (step_g0 rfl h178 rfl (step_gt rfl (step_pickF rfl h178 rfl rfl (step_r rfl rfl trivial (step_r rfl rfl trivial (step_gt rfl (step_r rfl rfl trivial (step_gt rfl (step_bin rfl rfl rfl rfl rfl trivial (step_gt rfl ?_)))))))))))
            refine step_r rfl rfl trivial ?_
            refine step_gs rfl (fun h203 => ?_) (fun h203 => ?_)
            ·have g203 : ((apply15 c l0 x0.f1 x0.f2 (IntKind.i64.wrap (now0 + (andK IntKind.i64 x0.f3 7)))).2 : Int) = 0 := beq_t h203
             refine step_g1 rfl h203 (step_r rfl rfl trivial (step_g1 rfl h203 (step_r rfl rfl trivial (step_g1 rfl h203 (step_r rfl rfl trivial (step_g1 rfl h203 (step_r rfl rfl trivial (step_g1 rfl h203 (step_bin rfl rfl rfl rfl rfl trivial (step_gt rfl (step_pickT rfl h203 rfl rfl ?_)))))))))))
             refine step_gt rfl (step_r rfl rfl trivial ?_)
             refine step_gs rfl (fun h205 => ?_) (fun h205 => ?_)
             ·have g205 : ¬ (((apply15 c l0 x0.f1 x0.f2 (IntKind.i64.wrap (now0 + (andK IntKind.i64 x0.f3 7)))).1.length : Int) = l0.length) := bne_t h205
              refine step_g1 rfl h205 (step_r rfl rfl trivial (step_g1 rfl h205 (step_r rfl rfl trivial (step_g1 rfl h205 (step_r rfl rfl trivial (step_g1 rfl h205 (step_r rfl rfl trivial (step_g1 rfl h205 (step_bin rfl rfl rfl rfl rfl trivial (step_g1 rfl h205 (step_bin rfl rfl rfl rfl rfl trivial ?_)))))))))))
              refine step_gt rfl (step_pickT rfl h205 rfl rfl (step_r rfl rfl trivial (step_nil (seqK_n ?_))))
              refine sem_cond rfl (fun h207 => ?_) (fun h207 => ?_)
              ·have g207 : ¬ (((apply15 c l0 x0.f1 x0.f2 (IntKind.i64.wrap (now0 + (andK IntKind.i64 x0.f3 7)))).1.length : Int) = (IntKind.i64.wrap (l0.length + 1))) := bne_t h207
               refine sem_seq (sem_region rfl (step_r rfl rfl trivial (step_nil (seqK_n (sem_ret (seqK_r (blkK_r (cutW_r (seqK_r (blkK_r (seqK_r ?_)))))))))))
               refine lupK_r (blkK_r (cutW_r (seqK_r ?_)))
               have e208 : stays15_J57 c l0 now0 x0 = .inl false := by
                unfold stays15_J57
                try dsimp only
                rewrite [hJ18]
                try dsimp only
                rewrite [if_pos g24, if_pos g30, if_neg g128, if_neg g178, if_pos g203, if_neg g205, if_neg g207]
                all_goals rfl
               have e209 : stays15_L0 c steps 0 l 0 = .inl false := by
                rewrite [← hI0, drop_cons hx0]
                rewrite [stays15_L0]
                try dsimp only
                rewrite [e208]
                try dsimp only
                all_goals rfl
               have e210 : stays15 c l steps = false := by
                unfold stays15
                try dsimp only
                rewrite [if_pos g4, if_neg g7, if_pos g10, e209]
                try dsimp only
                all_goals rfl
               rw [e210]
               exact answersR rfl ⟨trivial, trivial⟩ (rfl) rfl
              ·have g207 : ((apply15 c l0 x0.f1 x0.f2 (IntKind.i64.wrap (now0 + (andK IntKind.i64 x0.f3 7)))).1.length : Int) = (IntKind.i64.wrap (l0.length + 1)) := bne_f h207
               refine sem_skip (seqK_n (sem_seq (sem_region rfl (step_r rfl rfl trivial (step_bin rfl rfl rfl rfl rfl trivial (step_nil (seqK_n ?_)))))))
               refine sem_cond rfl (fun h211 => ?_) (fun h211 => ?_)
               ·have g211 : ((apply15 c l0 x0.f1 x0.f2 (IntKind.i64.wrap (now0 + (andK IntKind.i64 x0.f3 7)))).2 : Int) = 0 := beq_t h211
                refine sem_region rfl (step_r rfl rfl trivial (step_r rfl rfl trivial (step_nil (blkK_n ?_))))
                have e212 : stays15_J57 c l0 now0 x0 = .inr ((apply15 c l0 x0.f1 x0.f2 (IntKind.i64.wrap (now0 + (andK IntKind.i64 x0.f3 7)))).1) := by
                 unfold stays15_J57
                 try dsimp only
                 rewrite [hJ18]
                 try dsimp only
                 rewrite [if_pos g24, if_pos g30, if_neg g128, if_neg g178, if_pos g203, if_neg g205, if_pos g207, if_pos g211]
                 all_goals rfl
                exact cutW_n ((apply15 c l0 x0.f1 x0.f2 (IntKind.i64.wrap (now0 + (andK IntKind.i64 x0.f3 7)))).1) e212 (Trans.ren [] (by decide +kernel) (by decide +kernel) rfl ⟨⟨rfl, rfl⟩, ⟨rfl, rfl⟩, ⟨rfl, rfl⟩, ⟨rfl, rfl⟩, ⟨rfl, rfl⟩, ⟨rfl, rfl⟩, trivial⟩ ⟨⟨rfl, rfl, rfl⟩, trivial⟩ (by decide))
               ·have g211 : ¬ (((apply15 c l0 x0.f1 x0.f2 (IntKind.i64.wrap (now0 + (andK IntKind.i64 x0.f3 7)))).2 : Int) = 0) := beq_f h211
                refine sem_skip (blkK_n ?_)
                have e213 : stays15_J57 c l0 now0 x0 = .inr l0 := by
                 unfold stays15_J57
                 try dsimp only
                 rewrite [hJ18]
                 try dsimp only
                 rewrite [if_pos g24, if_pos g30, if_neg g128, if_neg g178, if_pos g203, if_neg g205, if_pos g207, if_neg g211]
                 all_goals rfl
                exact cutW_n l0 e213 (Trans.ren [] (by decide +kernel) (by decide +kernel) rfl ⟨⟨rfl, rfl⟩, ⟨rfl, rfl⟩, ⟨rfl, rfl⟩, ⟨rfl, rfl⟩, ⟨rfl, rfl⟩, ⟨rfl, rfl⟩, trivial⟩ ⟨⟨rfl, rfl, rfl⟩, trivial⟩ (by decide))
             ·have g205 : ((apply15 c l0 x0.f1 x0.f2 (IntKind.i64.wrap (now0 + (andK IntKind.i64 x0.f3 7)))).1.length : Int) = l0.length := bne_f h205
              refine step_g0 rfl h205 rfl (step_g0 rfl h205 rfl (step_g0 rfl h205 rfl (step_g0 rfl h205 rfl (step_g0 rfl h205 rfl (step_g0 rfl h205 rfl (step_gt rfl (step_pickF rfl h205 rfl rfl (step_r rfl rfl trivial (step_nil (seqK_n (sem_condF rfl ?_)))))))))))
              refine sem_skip (seqK_n (sem_seq (sem_region rfl (step_r rfl rfl trivial (step_bin rfl rfl rfl rfl rfl trivial (step_nil (seqK_n ?_)))))))
              refine sem_cond rfl (fun h214 => ?_) (fun h214 => ?_)
              ·have g214 : ((apply15 c l0 x0.f1 x0.f2 (IntKind.i64.wrap (now0 + (andK IntKind.i64 x0.f3 7)))).2 : Int) = 0 := beq_t h214
               refine sem_region rfl (step_r rfl rfl trivial (step_r rfl rfl trivial (step_nil (blkK_n ?_))))
               have e215 : stays15_J57 c l0 now0 x0 = .inr ((apply15 c l0 x0.f1 x0.f2 (IntKind.i64.wrap (now0 + (andK IntKind.i64 x0.f3 7)))).1) := by
                unfold stays15_J57
                try dsimp only
                rewrite [hJ18]
                try dsimp only
                rewrite [if_pos g24, if_pos g30, if_neg g128, if_neg g178, if_pos g203, if_pos g205, if_pos g214]
                all_goals rfl
               exact cutW_n ((apply15 c l0 x0.f1 x0.f2 (IntKind.i64.wrap (now0 + (andK IntKind.i64 x0.f3 7)))).1) e215 (Trans.ren [] (by decide +kernel) (by decide +kernel) rfl ⟨⟨rfl, rfl⟩, ⟨rfl, rfl⟩, ⟨rfl, rfl⟩, ⟨rfl, rfl⟩, ⟨rfl, rfl⟩, ⟨rfl, rfl⟩, trivial⟩ ⟨⟨rfl, rfl, rfl⟩, trivial⟩ (by decide))
              ·have g214 : ¬ (((apply15 c l0 x0.f1 x0.f2 (IntKind.i64.wrap (now0 + (andK IntKind.i64 x0.f3 7)))).2 : Int) = 0) := beq_f h214
               refine sem_skip (blkK_n ?_)
               have e216 : stays15_J57 c l0 now0 x0 = .inr l0 := by
                unfold stays15_J57
                try dsimp only
                rewrite [hJ18]
                try dsimp only
                rewrite [if_pos g24, if_pos g30, if_neg g128, if_neg g178, if_pos g203, if_pos g205, if_neg g214]
                all_goals rfl
               exact cutW_n l0 e216 (Trans.ren [] (by decide +kernel) (by decide +kernel) rfl ⟨⟨rfl, rfl⟩, ⟨rfl, rfl⟩, ⟨rfl, rfl⟩, ⟨rfl, rfl⟩, ⟨rfl, rfl⟩, ⟨rfl, rfl⟩, trivial⟩ ⟨⟨rfl, rfl, rfl⟩, trivial⟩ (by decide))
            ·have g203 : ¬ (((apply15 c l0 x0.f1 x0.f2 (IntKind.i64.wrap (now0 + (andK IntKind.i64 x0.f3 7)))).2 : Int) = 0) := beq_f h203
             refine step_g0 rfl h203 rfl (step_g0 rfl h203 rfl (step_g0 rfl h203 rfl (step_g0 rfl h203 rfl (step_g0 rfl h203 rfl (step_gt rfl (step_pickF rfl h203 rfl rfl (step_gt rfl (step_r rfl rfl trivial (step_gf rfl rfl (step_gf rfl rfl (step_gf rfl rfl ?_)))))))))))
             refine step_gf rfl rfl (step_gf rfl rfl (step_gf rfl rfl (step_gt rfl (step_r rfl rfl trivial (step_r rfl rfl trivial (step_nil (seqK_n (sem_condF rfl (sem_skip (seqK_n (sem_seq ?_)))))))))))
             refine sem_region rfl (step_r rfl rfl trivial (step_bin rfl rfl rfl rfl rfl trivial (step_nil (seqK_n ?_))))
             refine sem_cond rfl (fun h217 => ?_) (fun h217 => ?_)
             ·have g217 : ((apply15 c l0 x0.f1 x0.f2 (IntKind.i64.wrap (now0 + (andK IntKind.i64 x0.f3 7)))).2 : Int) = 0 := beq_t h217
              refine sem_region rfl (step_r rfl rfl trivial (step_r rfl rfl trivial (step_nil (blkK_n ?_))))
              have e218 : stays15_J57 c l0 now0 x0 = .inr ((apply15 c l0 x0.f1 x0.f2 (IntKind.i64.wrap (now0 + (andK IntKind.i64 x0.f3 7)))).1) := by
               unfold stays15_J57
               try dsimp only
               rewrite [hJ18]
               try dsimp only
               rewrite [if_pos g24, if_pos g30, if_neg g128, if_neg g178, if_neg g203, if_pos g217]
               all_goals rfl
              exact cutW_n ((apply15 c l0 x0.f1 x0.f2 (IntKind.i64.wrap (now0 + (andK IntKind.i64 x0.f3 7)))).1) e218 (Trans.ren [] (by decide +kernel) (by decide +kernel) rfl ⟨⟨rfl, rfl⟩, ⟨rfl, rfl⟩, ⟨rfl, rfl⟩, ⟨rfl, rfl⟩, ⟨rfl, rfl⟩, ⟨rfl, rfl⟩, trivial⟩ ⟨⟨rfl, rfl, rfl⟩, trivial⟩ (by decide))
             ·have g217 : ¬ (((apply15 c l0 x0.f1 x0.f2 (IntKind.i64.wrap (now0 + (andK IntKind.i64 x0.f3 7)))).2 : Int) = 0) := beq_f h217
              refine sem_skip (blkK_n ?_)
              have e219 : stays15_J57 c l0 now0 x0 = .inr l0 := by
               unfold stays15_J57
               try dsimp only
               rewrite [hJ18]
               try dsimp only
               rewrite [if_pos g24, if_pos g30, if_neg g128, if_neg g178, if_neg g203, if_neg g217]
               all_goals rfl
              exact cutW_n l0 e219 (Trans.ren [] (by decide +kernel) (by decide +kernel) rfl ⟨⟨rfl, rfl⟩, ⟨rfl, rfl⟩, ⟨rfl, rfl⟩, ⟨rfl, rfl⟩, ⟨rfl, rfl⟩, ⟨rfl, rfl⟩, trivial⟩ ⟨⟨rfl, rfl, rfl⟩, trivial⟩ (by decide))
        ·have g24 : ¬ (t60_61 = true) := boo_f h24
         refine sem_seq (sem_region rfl (step_bin rfl rfl rfl rfl rfl trivial (step_r rfl rfl trivial (step_nil (seqK_n ?_)))))
         refine sem_cond rfl (fun h221 => ?_) (fun h221 => ?_)
         ·have g221 : (andK IntKind.i64 x0.f0 3 : Int) = 2 := beq_t h221
          refine sem_seq ?_
          refine sem_regionS rfl (opsS_cut 5 (j := 0) ?_)
          simp only [List.take_succ_cons, List.take_zero, List.drop_succ_cons, List.drop_zero]
          refine step_r rfl rfl trivial (step_r rfl rfl trivial ?_)
          refine step_callN (out' := .tup [.ref 2 _ _ _, .ref 3 _ _ _]) (H' := [(2, .row _ _ _), (3, .row _ _ _), (0, .box [_, _, _, _, _, _, _, _, _, _]), (1, .box [_, _, _, _])]) (nx' := 4) rfl rfl rfl rfl rfl rfl rfl (by (repeat' apply And.intro) <;> first | trivial | rfl | exact flat_len (fun _ => rfl) _ | exact encI_len _ | exact Nat.le_of_ble_eq_true rfl | assumption) (expire15_ok l0 false (IntKind.i64.wrap (now0 + (andK IntKind.i64 x0.f3 7))) (by first | assumption | omega | (simp only [List.length_nil, List.length_cons, List.length_append] at *; omega) | (simp; done) | (simp; omega))) rfl rfl rfl rfl ?_
          have p223 := expire15_len l0 (IntKind.i64.wrap (now0 + (andK IntKind.i64 x0.f3 7)))
          refine step_r rfl rfl trivial (step_r rfl rfl trivial (step_nil ?_))
          refine opsS_trans (Trans.freezeJ (T' := [(1, .pv (.slc l0.length false (l0.flatMap encGActive))), (2, .pv (.slc steps.length false (steps.flatMap encA4int))), (3, .ptr 0 0), (7, B (small15)), (9, I (IntKind.i64.wrap (now0 + (andK IntKind.i64 x0.f3 7)))), (10, I k0), (11, .ptr 1 0), (59, I (andK IntKind.i64 x0.f0 3)), (60, B t60_61), (125, B ((andK IntKind.i64 x0.f0 3 : Int) == 2)), (126, B ((andK IntKind.i64 x0.f0 3 : Int) == 2)), (127, .tup [.pv (.slc (expire15 l0 (IntKind.i64.wrap (now0 + (andK IntKind.i64 x0.f3 7)))).1.length false ((expire15 l0 (IntKind.i64.wrap (now0 + (andK IntKind.i64 x0.f3 7)))).1.flatMap encGActive)), .ref 3 6 0 (expire15 l0 (IntKind.i64.wrap (now0 + (andK IntKind.i64 x0.f3 7)))).2.length]), (128, .pv (.slc l0.length false (l0.flatMap encGActive))), (129, I (IntKind.i64.wrap (now0 + (andK IntKind.i64 x0.f3 7)))), (130, .tup [.pv (.slc (expire15 l0 (IntKind.i64.wrap (now0 + (andK IntKind.i64 x0.f3 7)))).1.length false ((expire15 l0 (IntKind.i64.wrap (now0 + (andK IntKind.i64 x0.f3 7)))).1.flatMap encGActive)), .ref 3 6 0 (expire15 l0 (IntKind.i64.wrap (now0 + (andK IntKind.i64 x0.f3 7)))).2.length]), (131, .pv (.slc (expire15 l0 (IntKind.i64.wrap (now0 + (andK IntKind.i64 x0.f3 7)))).1.length false ((expire15 l0 (IntKind.i64.wrap (now0 + (andK IntKind.i64 x0.f3 7)))).1.flatMap encGActive)))]) (H' := [(3, .row 42 6 ((expire15 l0 (IntKind.i64.wrap (now0 + (andK IntKind.i64 x0.f3 7)))).2.flatMap encGActive)), (0, .box [.pv (.slc c.Abilities.length false (c.Abilities.flatMap encGAbility)), .pv (.slc c.Auras.length false (c.Auras.flatMap encGAura)), .pv (.slc c.Foes.length false (c.Foes.flatMap encGFoe)), I c.Map.W, I c.Map.H, .pv (.slc c.Map.Wall.length false (encB c.Map.Wall)), I c.Door.X, I c.Door.Y, I c.Lair.X, I c.Lair.Y]), (1, .box [I x0.f0, I x0.f1, I x0.f2, I x0.f3])]) [2] (by decide) ⟨⟨_, _, rfl, rfl, (by (repeat' apply And.intro) <;> first | trivial | rfl | exact flat_len (s := 6) (enc := encGActive) (fun _ => rfl) _ | exact flat_len (fun _ => rfl) _ | exact encI_len _ | exact Nat.le_of_ble_eq_true rfl | assumption)⟩, ⟨_, _, rfl, rfl, (by (repeat' apply And.intro) <;> first | trivial | rfl | exact flat_len (s := 6) (enc := encGActive) (fun _ => rfl) _ | exact flat_len (fun _ => rfl) _ | exact encI_len _ | exact Nat.le_of_ble_eq_true rfl | assumption)⟩, ⟨_, _, rfl, rfl, (by (repeat' apply And.intro) <;> first | trivial | rfl | exact flat_len (s := 6) (enc := encGActive) (fun _ => rfl) _ | exact flat_len (fun _ => rfl) _ | exact encI_len _ | exact Nat.le_of_ble_eq_true rfl | assumption)⟩, ⟨_, _, rfl, rfl, (by (repeat' apply And.intro) <;> first | trivial | rfl | exact flat_len (s := 6) (enc := encGActive) (fun _ => rfl) _ | exact flat_len (fun _ => rfl) _ | exact encI_len _ | exact Nat.le_of_ble_eq_true rfl | assumption)⟩, ⟨_, _, rfl, rfl, (by (repeat' apply And.intro) <;> first | trivial | rfl | exact flat_len (s := 6) (enc := encGActive) (fun _ => rfl) _ | exact flat_len (fun _ => rfl) _ | exact encI_len _ | exact Nat.le_of_ble_eq_true rfl | assumption)⟩, ⟨_, _, rfl, rfl, (by (repeat' apply And.intro) <;> first | trivial | rfl | exact flat_len (s := 6) (enc := encGActive) (fun _ => rfl) _ | exact flat_len (fun _ => rfl) _ | exact encI_len _ | exact Nat.le_of_ble_eq_true rfl | assumption)⟩, ⟨_, _, rfl, rfl, (by (repeat' apply And.intro) <;> first | trivial | rfl | exact flat_len (s := 6) (enc := encGActive) (fun _ => rfl) _ | exact flat_len (fun _ => rfl) _ | exact encI_len _ | exact Nat.le_of_ble_eq_true rfl | assumption)⟩, ⟨_, _, rfl, rfl, (by (repeat' apply And.intro) <;> first | trivial | rfl | exact flat_len (s := 6) (enc := encGActive) (fun _ => rfl) _ | exact flat_len (fun _ => rfl) _ | exact encI_len _ | exact Nat.le_of_ble_eq_true rfl | assumption)⟩, ⟨_, _, rfl, rfl, (by (repeat' apply And.intro) <;> first | trivial | rfl | exact flat_len (s := 6) (enc := encGActive) (fun _ => rfl) _ | exact flat_len (fun _ => rfl) _ | exact encI_len _ | exact Nat.le_of_ble_eq_true rfl | assumption)⟩, ⟨_, _, rfl, rfl, (by (repeat' apply And.intro) <;> first | trivial | rfl | exact flat_len (s := 6) (enc := encGActive) (fun _ => rfl) _ | exact flat_len (fun _ => rfl) _ | exact encI_len _ | exact Nat.le_of_ble_eq_true rfl | assumption)⟩, ⟨_, _, rfl, rfl, (by (repeat' apply And.intro) <;> first | trivial | rfl | exact flat_len (s := 6) (enc := encGActive) (fun _ => rfl) _ | exact flat_len (fun _ => rfl) _ | exact encI_len _ | exact Nat.le_of_ble_eq_true rfl | assumption)⟩, ⟨_, _, rfl, rfl, (by (repeat' apply And.intro) <;> first | trivial | rfl | exact flat_len (s := 6) (enc := encGActive) (fun _ => rfl) _ | exact flat_len (fun _ => rfl) _ | exact encI_len _ | exact Nat.le_of_ble_eq_true rfl | assumption)⟩, ⟨_, _, rfl, rfl, (by (repeat' apply And.intro) <;> first | trivial | rfl | exact flat_len (s := 6) (enc := encGActive) (fun _ => rfl) _ | exact flat_len (fun _ => rfl) _ | exact encI_len _ | exact Nat.le_of_ble_eq_true rfl | assumption)⟩, ⟨_, _, rfl, rfl, (by (repeat' apply And.intro) <;> first | trivial | rfl | exact flat_len (s := 6) (enc := encGActive) (fun _ => rfl) _ | exact flat_len (fun _ => rfl) _ | exact encI_len _ | exact Nat.le_of_ble_eq_true rfl | assumption)⟩, ⟨_, _, rfl, rfl, (by (repeat' apply And.intro) <;> first | trivial | rfl | exact flat_len (s := 6) (enc := encGActive) (fun _ => rfl) _ | exact flat_len (fun _ => rfl) _ | exact encI_len _ | exact Nat.le_of_ble_eq_true rfl | assumption)⟩, ⟨_, _, rfl, rfl, (by (repeat' apply And.intro) <;> first | trivial | rfl | exact flat_len (s := 6) (enc := encGActive) (fun _ => rfl) _ | exact flat_len (fun _ => rfl) _ | exact encI_len _ | exact Nat.le_of_ble_eq_true rfl | assumption)⟩, trivial⟩ ⟨⟨rfl, _, _, rfl, rfl, (by (repeat' apply And.intro) <;> first | trivial | rfl | exact flat_len (s := 6) (enc := encGActive) (fun _ => rfl) _ | exact flat_len (fun _ => rfl) _ | exact encI_len _ | exact Nat.le_of_ble_eq_true rfl | assumption)⟩, ⟨rfl, _, _, rfl, rfl, (by (repeat' apply And.intro) <;> first | trivial | rfl | exact flat_len (s := 6) (enc := encGActive) (fun _ => rfl) _ | exact flat_len (fun _ => rfl) _ | exact encI_len _ | exact Nat.le_of_ble_eq_true rfl | assumption)⟩, ⟨rfl, _, _, rfl, rfl, (by (repeat' apply And.intro) <;> first | trivial | rfl | exact flat_len (s := 6) (enc := encGActive) (fun _ => rfl) _ | exact flat_len (fun _ => rfl) _ | exact encI_len _ | exact Nat.le_of_ble_eq_true rfl | assumption)⟩, trivial⟩) ?_
          refine opsS_of (j := 5) ?_
          refine step_r rfl rfl trivial (step_r rfl rfl trivial (step_r rfl rfl trivial (step_nil (seqK_n (sem_seq (sem_seq (sem_region rfl (step_r rfl rfl trivial (step_r rfl rfl trivial (step_r rfl rfl trivial (step_r rfl rfl trivial ?_)))))))))))
          refine step_bin rfl rfl rfl rfl rfl trivial (step_r rfl rfl trivial (step_r rfl rfl trivial (step_bin rfl rfl rfl rfl rfl trivial (step_nil (seqK_n ?_)))))
          refine sem_cond rfl (fun h224 => ?_) (fun h224 => ?_)
          ·have g224 : ¬ ((IntKind.i64.wrap (((expire15 l0 (IntKind.i64.wrap (now0 + (andK IntKind.i64 x0.f3 7)))).1.length) + ((expire15 l0 (IntKind.i64.wrap (now0 + (andK IntKind.i64 x0.f3 7)))).2.length)) : Int) = l0.length) := bne_t h224
           refine sem_seq (sem_region rfl (step_r rfl rfl trivial (step_nil (seqK_n (sem_ret (seqK_r (blkK_r (cutW_r (seqK_r (blkK_r (seqK_r ?_)))))))))))
           refine lupK_r (blkK_r (cutW_r (seqK_r ?_)))
           have e225 : stays15_J57 c l0 now0 x0 = .inl false := by
            unfold stays15_J57
            try dsimp only
            rewrite [hJ18]
            try dsimp only
            rewrite [if_neg g24, if_pos g221, if_neg g224]
            all_goals rfl
           have e226 : stays15_L0 c steps 0 l 0 = .inl false := by
            rewrite [← hI0, drop_cons hx0]
            rewrite [stays15_L0]
            try dsimp only
            rewrite [e225]
            try dsimp only
            all_goals rfl
           have e227 : stays15 c l steps = false := by
            unfold stays15
            try dsimp only
            rewrite [if_pos g4, if_neg g7, if_pos g10, e226]
            try dsimp only
            all_goals rfl
           rw [e227]
           exact answersR rfl ⟨trivial, trivial⟩ (rfl) rfl
          ·have g224 : (IntKind.i64.wrap (((expire15 l0 (IntKind.i64.wrap (now0 + (andK IntKind.i64 x0.f3 7)))).1.length) + ((expire15 l0 (IntKind.i64.wrap (now0 + (andK IntKind.i64 x0.f3 7)))).2.length)) : Int) = l0.length := bne_f h224
           refine sem_skip (seqK_n (sem_region rfl (step_r rfl rfl trivial (step_r rfl rfl trivial (step_nil (blkK_n ?_))))))
           have e228 : stays15_J57 c l0 now0 x0 = .inr ((expire15 l0 (IntKind.i64.wrap (now0 + (andK IntKind.i64 x0.f3 7)))).1) := by
            unfold stays15_J57
            try dsimp only
            rewrite [hJ18]
            try dsimp only
            rewrite [if_neg g24, if_pos g221, if_pos g224]
            all_goals rfl
           exact cutW_n ((expire15 l0 (IntKind.i64.wrap (now0 + (andK IntKind.i64 x0.f3 7)))).1) e228 (Trans.ren [] (by decide +kernel) (by decide +kernel) rfl ⟨⟨rfl, rfl⟩, ⟨rfl, rfl⟩, ⟨rfl, rfl⟩, ⟨rfl, rfl⟩, ⟨rfl, rfl⟩, ⟨rfl, rfl⟩, trivial⟩ ⟨⟨rfl, rfl, rfl⟩, trivial⟩ (by decide))
         ·have g221 : ¬ ((andK IntKind.i64 x0.f0 3 : Int) = 2) := beq_f h221
          refine sem_seq (sem_region rfl (step_bin rfl rfl rfl rfl rfl trivial (step_r rfl rfl trivial (step_nil (seqK_n ?_)))))
          refine sem_cond rfl (fun h230 => ?_) (fun h230 => ?_)
          ·have g230 : (andK IntKind.i64 x0.f0 3 : Int) = 3 := beq_t h230
           refine sem_seq ?_
           refine sem_regionS rfl (opsS_cut 7 (j := 0) ?_)
           simp only [List.take_succ_cons, List.take_zero, List.drop_succ_cons, List.drop_zero]
           refine step_r (v := (.agg [_, _, _, _, _, _, _, _, _, _])) rfl rfl (Nat.le_of_ble_eq_true rfl) (step_r rfl rfl trivial (step_r rfl rfl (by decide) (step_r rfl rfl trivial ?_)))
           refine step_callN (out' := .tup [.ref 2 _ _ _, _]) (H' := [(2, .row _ _ _), (0, .box [_, _, _, _, _, _, _, _, _, _]), (1, .box [_, _, _, _])]) (nx' := 3) rfl rfl rfl rfl rfl rfl rfl (by (repeat' apply And.intro) <;> first | trivial | rfl | exact flat_len (fun _ => rfl) _ | exact encI_len _ | exact Nat.le_of_ble_eq_true rfl | assumption) (take15_ok c l0 false x0.f1 (by first | assumption | omega | (simp only [List.length_nil, List.length_cons, List.length_append] at *; omega) | (simp; done) | (simp; omega))) rfl rfl rfl rfl ?_
           have p231 := take15_len c l0 x0.f1
           refine step_r rfl rfl trivial (step_r rfl rfl trivial (step_nil ?_))
           refine opsS_trans (Trans.freezeJ (T' := [(1, .pv (.slc l0.length false (l0.flatMap encGActive))), (2, .pv (.slc steps.length false (steps.flatMap encA4int))), (3, .ptr 0 0), (7, B (small15)), (9, I (IntKind.i64.wrap (now0 + (andK IntKind.i64 x0.f3 7)))), (10, I k0), (11, .ptr 1 0), (59, I (andK IntKind.i64 x0.f0 3)), (60, B t60_61), (125, B ((andK IntKind.i64 x0.f0 3 : Int) == 2)), (126, B ((andK IntKind.i64 x0.f0 3 : Int) == 2)), (142, B ((andK IntKind.i64 x0.f0 3 : Int) == 3)), (143, B ((andK IntKind.i64 x0.f0 3 : Int) == 3)), (144, .tup [.pv (.slc (take15 c l0 x0.f1).1.length false ((take15 c l0 x0.f1).1.flatMap encGActive)), I (take15 c l0 x0.f1).2]), (145, .agg [.pv (.slc c.Abilities.length false (c.Abilities.flatMap encGAbility)), .pv (.slc c.Auras.length false (c.Auras.flatMap encGAura)), .pv (.slc c.Foes.length false (c.Foes.flatMap encGFoe)), I c.Map.W, I c.Map.H, .pv (.slc c.Map.Wall.length false (encB c.Map.Wall)), I c.Door.X, I c.Door.Y, I c.Lair.X, I c.Lair.Y]), (146, .pv (.slc l0.length false (l0.flatMap encGActive))), (148, I x0.f1), (149, .tup [.pv (.slc (take15 c l0 x0.f1).1.length false ((take15 c l0 x0.f1).1.flatMap encGActive)), I (take15 c l0 x0.f1).2]), (150, .pv (.slc (take15 c l0 x0.f1).1.length false ((take15 c l0 x0.f1).1.flatMap encGActive)))]) (H' := [(0, .box [.pv (.slc c.Abilities.length false (c.Abilities.flatMap encGAbility)), .pv (.slc c.Auras.length false (c.Auras.flatMap encGAura)), .pv (.slc c.Foes.length false (c.Foes.flatMap encGFoe)), I c.Map.W, I c.Map.H, .pv (.slc c.Map.Wall.length false (encB c.Map.Wall)), I c.Door.X, I c.Door.Y, I c.Lair.X, I c.Lair.Y]), (1, .box [I x0.f0, I x0.f1, I x0.f2, I x0.f3])]) [2] (by decide) ⟨⟨_, _, rfl, rfl, (by (repeat' apply And.intro) <;> first | trivial | rfl | exact flat_len (s := 6) (enc := encGActive) (fun _ => rfl) _ | exact flat_len (fun _ => rfl) _ | exact encI_len _ | exact Nat.le_of_ble_eq_true rfl | assumption)⟩, ⟨_, _, rfl, rfl, (by (repeat' apply And.intro) <;> first | trivial | rfl | exact flat_len (s := 6) (enc := encGActive) (fun _ => rfl) _ | exact flat_len (fun _ => rfl) _ | exact encI_len _ | exact Nat.le_of_ble_eq_true rfl | assumption)⟩, ⟨_, _, rfl, rfl, (by (repeat' apply And.intro) <;> first | trivial | rfl | exact flat_len (s := 6) (enc := encGActive) (fun _ => rfl) _ | exact flat_len (fun _ => rfl) _ | exact encI_len _ | exact Nat.le_of_ble_eq_true rfl | assumption)⟩, ⟨_, _, rfl, rfl, (by (repeat' apply And.intro) <;> first | trivial | rfl | exact flat_len (s := 6) (enc := encGActive) (fun _ => rfl) _ | exact flat_len (fun _ => rfl) _ | exact encI_len _ | exact Nat.le_of_ble_eq_true rfl | assumption)⟩, ⟨_, _, rfl, rfl, (by (repeat' apply And.intro) <;> first | trivial | rfl | exact flat_len (s := 6) (enc := encGActive) (fun _ => rfl) _ | exact flat_len (fun _ => rfl) _ | exact encI_len _ | exact Nat.le_of_ble_eq_true rfl | assumption)⟩, ⟨_, _, rfl, rfl, (by (repeat' apply And.intro) <;> first | trivial | rfl | exact flat_len (s := 6) (enc := encGActive) (fun _ => rfl) _ | exact flat_len (fun _ => rfl) _ | exact encI_len _ | exact Nat.le_of_ble_eq_true rfl | assumption)⟩, ⟨_, _, rfl, rfl, (by (repeat' apply And.intro) <;> first | trivial | rfl | exact flat_len (s := 6) (enc := encGActive) (fun _ => rfl) _ | exact flat_len (fun _ => rfl) _ | exact encI_len _ | exact Nat.le_of_ble_eq_true rfl | assumption)⟩, ⟨_, _, rfl, rfl, (by (repeat' apply And.intro) <;> first | trivial | rfl | exact flat_len (s := 6) (enc := encGActive) (fun _ => rfl) _ | exact flat_len (fun _ => rfl) _ | exact encI_len _ | exact Nat.le_of_ble_eq_true rfl | assumption)⟩, ⟨_, _, rfl, rfl, (by (repeat' apply And.intro) <;> first | trivial | rfl | exact flat_len (s := 6) (enc := encGActive) (fun _ => rfl) _ | exact flat_len (fun _ => rfl) _ | exact encI_len _ | exact Nat.le_of_ble_eq_true rfl | assumption)⟩, ⟨_, _, rfl, rfl, (by (repeat' apply And.intro) <;> first | trivial | rfl | exact flat_len (s := 6) (enc := encGActive) (fun _ => rfl) _ | exact flat_len (fun _ => rfl) _ | exact encI_len _ | exact Nat.le_of_ble_eq_true rfl | assumption)⟩, ⟨_, _, rfl, rfl, (by (repeat' apply And.intro) <;> first | trivial | rfl | exact flat_len (s := 6) (enc := encGActive) (fun _ => rfl) _ | exact flat_len (fun _ => rfl) _ | exact encI_len _ | exact Nat.le_of_ble_eq_true rfl | assumption)⟩, ⟨_, _, rfl, rfl, (by (repeat' apply And.intro) <;> first | trivial | rfl | exact flat_len (s := 6) (enc := encGActive) (fun _ => rfl) _ | exact flat_len (fun _ => rfl) _ | exact encI_len _ | exact Nat.le_of_ble_eq_true rfl | assumption)⟩, ⟨_, _, rfl, rfl, (by (repeat' apply And.intro) <;> first | trivial | rfl | exact flat_len (s := 6) (enc := encGActive) (fun _ => rfl) _ | exact flat_len (fun _ => rfl) _ | exact encI_len _ | exact Nat.le_of_ble_eq_true rfl | assumption)⟩, ⟨_, _, rfl, rfl, (by (repeat' apply And.intro) <;> first | trivial | rfl | exact flat_len (s := 6) (enc := encGActive) (fun _ => rfl) _ | exact flat_len (fun _ => rfl) _ | exact encI_len _ | exact Nat.le_of_ble_eq_true rfl | assumption)⟩, ⟨_, _, rfl, rfl, (by (repeat' apply And.intro) <;> first | trivial | rfl | exact flat_len (s := 6) (enc := encGActive) (fun _ => rfl) _ | exact flat_len (fun _ => rfl) _ | exact encI_len _ | exact Nat.le_of_ble_eq_true rfl | assumption)⟩, ⟨_, _, rfl, rfl, (by (repeat' apply And.intro) <;> first | trivial | rfl | exact flat_len (s := 6) (enc := encGActive) (fun _ => rfl) _ | exact flat_len (fun _ => rfl) _ | exact encI_len _ | exact Nat.le_of_ble_eq_true rfl | assumption)⟩, ⟨_, _, rfl, rfl, (by (repeat' apply And.intro) <;> first | trivial | rfl | exact flat_len (s := 6) (enc := encGActive) (fun _ => rfl) _ | exact flat_len (fun _ => rfl) _ | exact encI_len _ | exact Nat.le_of_ble_eq_true rfl | assumption)⟩, ⟨_, _, rfl, rfl, (by (repeat' apply And.intro) <;> first | trivial | rfl | exact flat_len (s := 6) (enc := encGActive) (fun _ => rfl) _ | exact flat_len (fun _ => rfl) _ | exact encI_len _ | exact Nat.le_of_ble_eq_true rfl | assumption)⟩, ⟨_, _, rfl, rfl, (by (repeat' apply And.intro) <;> first | trivial | rfl | exact flat_len (s := 6) (enc := encGActive) (fun _ => rfl) _ | exact flat_len (fun _ => rfl) _ | exact encI_len _ | exact Nat.le_of_ble_eq_true rfl | assumption)⟩, trivial⟩ ⟨⟨rfl, _, _, rfl, rfl, (by (repeat' apply And.intro) <;> first | trivial | rfl | exact flat_len (s := 6) (enc := encGActive) (fun _ => rfl) _ | exact flat_len (fun _ => rfl) _ | exact encI_len _ | exact Nat.le_of_ble_eq_true rfl | assumption)⟩, ⟨rfl, _, _, rfl, rfl, (by (repeat' apply And.intro) <;> first | trivial | rfl | exact flat_len (s := 6) (enc := encGActive) (fun _ => rfl) _ | exact flat_len (fun _ => rfl) _ | exact encI_len _ | exact Nat.le_of_ble_eq_true rfl | assumption)⟩, trivial⟩) ?_
           refine opsS_of (j := 7) ?_
           refine step_r rfl rfl trivial (step_r rfl rfl trivial (step_r rfl rfl trivial (step_nil (seqK_n (sem_region rfl (step_r rfl rfl trivial (step_r rfl rfl trivial (step_nil (blkK_n ?_)))))))))
           have e233 : stays15_J57 c l0 now0 x0 = .inr ((take15 c l0 x0.f1).1) := by
            unfold stays15_J57
            try dsimp only
            rewrite [hJ18]
            try dsimp only
            rewrite [if_neg g24, if_neg g221, if_pos g230]
            all_goals rfl
           exact cutW_n ((take15 c l0 x0.f1).1) e233 (Trans.ren [] (by decide +kernel) (by decide +kernel) rfl ⟨⟨rfl, rfl⟩, ⟨rfl, rfl⟩, ⟨rfl, rfl⟩, ⟨rfl, rfl⟩, ⟨rfl, rfl⟩, ⟨rfl, rfl⟩, trivial⟩ ⟨⟨rfl, rfl, rfl⟩, trivial⟩ (by decide))
          ·have g230 : ¬ ((andK IntKind.i64 x0.f0 3 : Int) = 3) := beq_f h230
           refine sem_skip (blkK_n ?_)
           have e234 : stays15_J57 c l0 now0 x0 = .inr l0 := by
            unfold stays15_J57
            try dsimp only
            rewrite [hJ18]
            try dsimp only
            rewrite [if_neg g24, if_neg g221, if_neg g230]
            all_goals rfl
           exact cutW_n l0 e234 (Trans.ren [] (by decide +kernel) (by decide +kernel) rfl ⟨⟨rfl, rfl⟩, ⟨rfl, rfl⟩, ⟨rfl, rfl⟩, ⟨rfl, rfl⟩, ⟨rfl, rfl⟩, ⟨rfl, rfl⟩, trivial⟩ ⟨⟨rfl, rfl, rfl⟩, trivial⟩ (by decide))
      ·rintro l_57 (hJ17 : stays15_J57 c l0 now0 x0 = .inr l_57)
       show seqK _ _ _ .normal (⟨[(1, .pv (.slc l_57.length false (l_57.flatMap encGActive))), (2, .pv (.slc steps.length false (steps.flatMap encA4int))), (3, .ptr 0 0), (7, B (small15)), (9, I (IntKind.i64.wrap (now0 + (andK IntKind.i64 x0.f3 7)))), (10, I k0)], [(0, .box [.pv (.slc c.Abilities.length false (c.Abilities.flatMap encGAbility)), .pv (.slc c.Auras.length false (c.Auras.flatMap encGAura)), .pv (.slc c.Foes.length false (c.Foes.flatMap encGFoe)), I c.Map.W, I c.Map.H, .pv (.slc c.Map.Wall.length false (encB c.Map.Wall)), I c.Door.X, I c.Door.Y, I c.Lair.X, I c.Lair.Y])], 1, [], 224, 0⟩ : St)
       refine seqK_n (sem_seq (sem_region rfl (step_r (v := (.agg [_, _, _, _, _, _, _, _, _, _])) rfl rfl (Nat.le_of_ble_eq_true rfl) (step_r rfl rfl trivial (step_call rfl rfl rfl rfl (right15_ok c l_57 false (by first | assumption | exact few_small (by decide +kernel))) rfl rfl rfl (step_r rfl rfl trivial (step_nil (seqK_n ?_))))))))
       refine sem_cond rfl (fun h235 => ?_) (fun h235 => ?_)
       ·have g235 : ¬ (right15 c l_57 = true) := boo_f (not_t h235)
        refine sem_seq (sem_region rfl (step_r rfl rfl trivial (step_nil (seqK_n (sem_ret (blkK_r (seqK_r (lupK_r (blkK_r (cutW_r (seqK_r ?_)))))))))))
        have e236 : stays15_L0 c steps 0 l 0 = .inl false := by
         rewrite [← hI0, drop_cons hx0]
         rewrite [stays15_L0]
         try dsimp only
         rewrite [hJ17]
         try dsimp only
         rewrite [if_neg g235]
         all_goals rfl
        have e237 : stays15 c l steps = false := by
         unfold stays15
         try dsimp only
         rewrite [if_pos g4, if_neg g7, if_pos g10, e236]
         try dsimp only
         all_goals rfl
        rw [e237]
        exact answersR rfl ⟨trivial, trivial⟩ (rfl) rfl
       ·have g235 : right15 c l_57 = true := (not_f h235)
        have qg235 := right15_both g235
        refine sem_skip (blkK_n (seqK_n (sem_region rfl (step_r rfl rfl trivial (step_bin rfl rfl rfl rfl rfl trivial (step_r rfl rfl trivial (step_nil ?_)))))))
        have e240 : stays15_L0 c (steps.drop k0) k0 l0 now0 = stays15_L0 c (steps.drop (k0 + 1)) (k0 + 1) l_57 (IntKind.i64.wrap (now0 + (andK IntKind.i64 x0.f3 7))) := by
         rewrite [drop_cons hx0]
         rewrite [stays15_L0]
         try dsimp only
         rewrite [hJ17]
         try dsimp only
         rewrite [if_pos g235]
         all_goals rfl
        exact lup_againT (k0 + 1, l_57, (IntKind.i64.wrap (now0 + (andK IntKind.i64 x0.f3 7)))) ⟨e240.symm.trans hI0, hk0, by first | omega | assumption | (simp only [List.length_append, List.length_cons, List.length_nil, List.length_set]; omega) | (simp; omega) | grind⟩ (by show steps.length - (k0 + 1) < steps.length - k0; omega) (Trans.ren [] (by decide +kernel) (by decide +kernel) rfl ⟨⟨rfl, rfl⟩, ⟨rfl, rfl⟩, ⟨rfl, rfl⟩, ⟨rfl, rfl⟩, ⟨rfl, rfl⟩, ⟨congrArg (fun n => some (I n)) (wrapI (k := k0) (by first | omega | (simp; omega))), rfl⟩, trivial⟩ ⟨⟨rfl, rfl, rfl⟩, trivial⟩ (by decide))
     ·have g14 : ¬ ((k0 : Int) < steps.length) := of_decide_eq_false h14
      have hk0 : k0 = steps.length := by omega
      refine sem_exit (seqK_e (lupK_e (blkK_t rfl ?_)))
      have e241 : stays15_L0 c steps 0 l 0 = .inr now0 := by
       rewrite [← hI0, hk0, List.drop_length]
       rewrite [stays15_L0]
       try dsimp only
       all_goals rfl
      exact cutW_n now0 e241 (Trans.ren [] (by decide +kernel) (by decide +kernel) rfl ⟨⟨rfl, rfl⟩, ⟨rfl, rfl⟩, ⟨rfl, rfl⟩, trivial⟩ ⟨⟨rfl, rfl, rfl⟩, trivial⟩ (by decide))
    ·rintro now_0 (hJ12 : stays15_L0 c steps 0 l 0 = .inr now_0)
     show seqK _ _ _ .normal (⟨[(3, .ptr 0 0), (7, B (small15)), (9, I now_0)], [(0, .box [.pv (.slc c.Abilities.length false (c.Abilities.flatMap encGAbility)), .pv (.slc c.Auras.length false (c.Auras.flatMap encGAura)), .pv (.slc c.Foes.length false (c.Foes.flatMap encGFoe)), I c.Map.W, I c.Map.H, .pv (.slc c.Map.Wall.length false (encB c.Map.Wall)), I c.Door.X, I c.Door.Y, I c.Lair.X, I c.Lair.Y])], 1, [], 224, 0⟩ : St)
     refine seqK_n (sem_seq (sem_seq (sem_region rfl (step_r rfl rfl trivial (step_nil (seqK_n ?_))))))
     refine sem_cutW (fun w_ : Unit => match w_ with | () => (⟨[(7, B (small15))], [], 0, [], 224, 0⟩ : St)) (fun w_ => stays15_L1 c now_0 c.Auras 0 = .inr w_) ?_ ?_
     ·refine sem_block ?_
      refine sem_loopT (fun k1 : Nat => (⟨[(3, .ptr 0 0), (7, B (small15)), (9, I now_0), (20, I k1)], [(0, .box [.pv (.slc c.Abilities.length false (c.Abilities.flatMap encGAbility)), .pv (.slc c.Auras.length false (c.Auras.flatMap encGAura)), .pv (.slc c.Foes.length false (c.Foes.flatMap encGFoe)), I c.Map.W, I c.Map.H, .pv (.slc c.Map.Wall.length false (encB c.Map.Wall)), I c.Door.X, I c.Door.Y, I c.Lair.X, I c.Lair.Y])], 1, [], 224, 0⟩ : St)) (fun k1 : Nat => stays15_L1 c now_0 (c.Auras.drop k1) k1 = stays15_L1 c now_0 c.Auras 0 ∧ k1 ≤ c.Auras.length) (fun k1 : Nat => c.Auras.length - k1) 0 (⟨rfl, Nat.zero_le _⟩) ?_ (fun k1 hh_ => ?_)
      ·exact (Trans.ren [] (by decide +kernel) (by decide +kernel) rfl ⟨⟨rfl, rfl⟩, ⟨rfl, rfl⟩, ⟨rfl, rfl⟩, ⟨rfl, rfl⟩, trivial⟩ ⟨⟨rfl, rfl, rfl⟩, trivial⟩ (by decide))
      obtain ⟨hI1, hb1⟩ := hh_
      show Walks Try.prog _ _ (⟨[(3, .ptr 0 0), (7, B (small15)), (9, I now_0), (20, I k1)], [(0, .box [.pv (.slc c.Abilities.length false (c.Abilities.flatMap encGAbility)), .pv (.slc c.Auras.length false (c.Auras.flatMap encGAura)), .pv (.slc c.Foes.length false (c.Foes.flatMap encGFoe)), I c.Map.W, I c.Map.H, .pv (.slc c.Map.Wall.length false (encB c.Map.Wall)), I c.Door.X, I c.Door.Y, I c.Lair.X, I c.Lair.Y])], 1, [], 224, 0⟩ : St)
      refine sem_seq (sem_seq (sem_region rfl (step_r rfl rfl trivial (step_r rfl rfl (by decide) (step_r rfl rfl trivial (step_r rfl rfl trivial (step_bin rfl rfl rfl rfl rfl trivial (step_nil (seqK_n ?_)))))))))
      refine sem_cond rfl (fun h244 => ?_) (fun h244 => ?_)
      ·have g244 : (k1 : Int) < c.Auras.length := of_decide_eq_true h244
       have hk1 : k1 < c.Auras.length := by omega
       obtain ⟨x1, hx1⟩ : ∃ z_, c.Auras[k1]? = some z_ := ⟨_, List.getElem?_eq_getElem hk1⟩
       have hs1 : 1 ≤ x1.Stacks ∧ x1.Stacks ≤ 100 := stacks9 (And.right (by assumption : l.length ≤ 16 ∧ right9 c = true)) (List.mem_of_getElem? hx1)
       refine sem_skip (seqK_n (sem_seq (sem_block (sem_seq (sem_region rfl (step_r rfl rfl (by decide) (step_r rfl rfl trivial (step_r rfl rfl trivial (step_idxS (k := k1) rfl rfl rfl rfl hk1 (flat_ne (s := 7) (enc := encGAura) (fun _ => rfl) (by decide) hk1) rfl (step_load_row rfl rfl rfl (flat_lt (s := 7) (enc := encGAura) (fun _ => rfl) hk1) (flat_take (s := 7) (enc := encGAura) (fun _ => rfl) hx1) rfl (step_n (o := .box [_, _, _, _, _, _, _]) (nx' := 2) rfl rfl rfl trivial ?_)))))))))))
       refine step_store (H' := [(1, .box [_, _, _, _, _, _, _]), (0, .box [_, _, _, _, _, _, _, _, _, _])]) rfl rfl rfl rfl rfl rfl (Nat.le_of_ble_eq_true rfl) (.inl rfl) rfl (step_nil (seqK_n (sem_seq ?_)))
       refine sem_regionS rfl (opsS_cut 7 (j := 0) ?_)
       simp only [List.take_succ_cons, List.take_zero, List.drop_succ_cons, List.drop_zero]
       refine step_r (v := (.agg [_, _, _, _, _, _, _, _, _, _])) rfl rfl (Nat.le_of_ble_eq_true rfl) (step_r rfl rfl (by decide) (step_r rfl rfl trivial (step_r rfl rfl trivial ?_)))
       refine step_callN (out' := .tup [.ref 2 _ _ _, _]) (H' := [(2, .row _ _ _), (1, .box [_, _, _, _, _, _, _]), (0, .box [_, _, _, _, _, _, _, _, _, _])]) (nx' := 3) rfl rfl rfl rfl rfl rfl rfl (by (repeat' apply And.intro) <;> first | trivial | rfl | exact flat_len (fun _ => rfl) _ | exact encI_len _ | exact Nat.le_of_ble_eq_true rfl | assumption) (apply15_ok c ([]) false x1.Id 1 now_0 (by first | assumption | omega | (simp only [List.length_nil, List.length_cons, List.length_append] at *; omega) | (simp; done) | (simp; omega))) rfl rfl rfl rfl ?_
       have p246 := apply15_len c ([]) x1.Id 1 now_0
       refine step_r rfl rfl trivial (step_r rfl rfl trivial (step_nil ?_))
       refine opsS_trans (Trans.freezeJ (T' := [(3, .ptr 0 0), (7, B (small15)), (9, I now_0), (20, I k1), (21, .ptr 1 0), (157, I k1), (159, .pv (.slc c.Auras.length false (c.Auras.flatMap encGAura))), (160, I c.Auras.length), (161, B (decide ((k1 : Int) < c.Auras.length))), (165, .pv (.slc c.Auras.length false (c.Auras.flatMap encGAura))), (166, I k1), (168, .agg [I x1.Id, I x1.Kind, I x1.Ticks, I x1.Every, I x1.Stacks, I x1.Amount, B x1.Harm]), (169, .tup [.pv (.slc (apply15 c ([]) x1.Id 1 now_0).1.length false ((apply15 c ([]) x1.Id 1 now_0).1.flatMap encGActive)), I (apply15 c ([]) x1.Id 1 now_0).2]), (170, .agg [.pv (.slc c.Abilities.length false (c.Abilities.flatMap encGAbility)), .pv (.slc c.Auras.length false (c.Auras.flatMap encGAura)), .pv (.slc c.Foes.length false (c.Foes.flatMap encGFoe)), I c.Map.W, I c.Map.H, .pv (.slc c.Map.Wall.length false (encB c.Map.Wall)), I c.Door.X, I c.Door.Y, I c.Lair.X, I c.Lair.Y]), (172, I x1.Id), (173, I now_0), (174, .tup [.pv (.slc (apply15 c ([]) x1.Id 1 now_0).1.length false ((apply15 c ([]) x1.Id 1 now_0).1.flatMap encGActive)), I (apply15 c ([]) x1.Id 1 now_0).2]), (175, .pv (.slc (apply15 c ([]) x1.Id 1 now_0).1.length false ((apply15 c ([]) x1.Id 1 now_0).1.flatMap encGActive)))]) (H' := [(1, .box [I x1.Id, I x1.Kind, I x1.Ticks, I x1.Every, I x1.Stacks, I x1.Amount, B x1.Harm]), (0, .box [.pv (.slc c.Abilities.length false (c.Abilities.flatMap encGAbility)), .pv (.slc c.Auras.length false (c.Auras.flatMap encGAura)), .pv (.slc c.Foes.length false (c.Foes.flatMap encGFoe)), I c.Map.W, I c.Map.H, .pv (.slc c.Map.Wall.length false (encB c.Map.Wall)), I c.Door.X, I c.Door.Y, I c.Lair.X, I c.Lair.Y])]) [2] (by decide) ⟨⟨_, _, rfl, rfl, (by (repeat' apply And.intro) <;> first | trivial | rfl | exact flat_len (s := 6) (enc := encGActive) (fun _ => rfl) _ | exact flat_len (fun _ => rfl) _ | exact encI_len _ | exact Nat.le_of_ble_eq_true rfl | assumption)⟩, ⟨_, _, rfl, rfl, (by (repeat' apply And.intro) <;> first | trivial | rfl | exact flat_len (s := 6) (enc := encGActive) (fun _ => rfl) _ | exact flat_len (fun _ => rfl) _ | exact encI_len _ | exact Nat.le_of_ble_eq_true rfl | assumption)⟩, ⟨_, _, rfl, rfl, (by (repeat' apply And.intro) <;> first | trivial | rfl | exact flat_len (s := 6) (enc := encGActive) (fun _ => rfl) _ | exact flat_len (fun _ => rfl) _ | exact encI_len _ | exact Nat.le_of_ble_eq_true rfl | assumption)⟩, ⟨_, _, rfl, rfl, (by (repeat' apply And.intro) <;> first | trivial | rfl | exact flat_len (s := 6) (enc := encGActive) (fun _ => rfl) _ | exact flat_len (fun _ => rfl) _ | exact encI_len _ | exact Nat.le_of_ble_eq_true rfl | assumption)⟩, ⟨_, _, rfl, rfl, (by (repeat' apply And.intro) <;> first | trivial | rfl | exact flat_len (s := 6) (enc := encGActive) (fun _ => rfl) _ | exact flat_len (fun _ => rfl) _ | exact encI_len _ | exact Nat.le_of_ble_eq_true rfl | assumption)⟩, ⟨_, _, rfl, rfl, (by (repeat' apply And.intro) <;> first | trivial | rfl | exact flat_len (s := 6) (enc := encGActive) (fun _ => rfl) _ | exact flat_len (fun _ => rfl) _ | exact encI_len _ | exact Nat.le_of_ble_eq_true rfl | assumption)⟩, ⟨_, _, rfl, rfl, (by (repeat' apply And.intro) <;> first | trivial | rfl | exact flat_len (s := 6) (enc := encGActive) (fun _ => rfl) _ | exact flat_len (fun _ => rfl) _ | exact encI_len _ | exact Nat.le_of_ble_eq_true rfl | assumption)⟩, ⟨_, _, rfl, rfl, (by (repeat' apply And.intro) <;> first | trivial | rfl | exact flat_len (s := 6) (enc := encGActive) (fun _ => rfl) _ | exact flat_len (fun _ => rfl) _ | exact encI_len _ | exact Nat.le_of_ble_eq_true rfl | assumption)⟩, ⟨_, _, rfl, rfl, (by (repeat' apply And.intro) <;> first | trivial | rfl | exact flat_len (s := 6) (enc := encGActive) (fun _ => rfl) _ | exact flat_len (fun _ => rfl) _ | exact encI_len _ | exact Nat.le_of_ble_eq_true rfl | assumption)⟩, ⟨_, _, rfl, rfl, (by (repeat' apply And.intro) <;> first | trivial | rfl | exact flat_len (s := 6) (enc := encGActive) (fun _ => rfl) _ | exact flat_len (fun _ => rfl) _ | exact encI_len _ | exact Nat.le_of_ble_eq_true rfl | assumption)⟩, ⟨_, _, rfl, rfl, (by (repeat' apply And.intro) <;> first | trivial | rfl | exact flat_len (s := 6) (enc := encGActive) (fun _ => rfl) _ | exact flat_len (fun _ => rfl) _ | exact encI_len _ | exact Nat.le_of_ble_eq_true rfl | assumption)⟩, ⟨_, _, rfl, rfl, (by (repeat' apply And.intro) <;> first | trivial | rfl | exact flat_len (s := 6) (enc := encGActive) (fun _ => rfl) _ | exact flat_len (fun _ => rfl) _ | exact encI_len _ | exact Nat.le_of_ble_eq_true rfl | assumption)⟩, ⟨_, _, rfl, rfl, (by (repeat' apply And.intro) <;> first | trivial | rfl | exact flat_len (s := 6) (enc := encGActive) (fun _ => rfl) _ | exact flat_len (fun _ => rfl) _ | exact encI_len _ | exact Nat.le_of_ble_eq_true rfl | assumption)⟩, ⟨_, _, rfl, rfl, (by (repeat' apply And.intro) <;> first | trivial | rfl | exact flat_len (s := 6) (enc := encGActive) (fun _ => rfl) _ | exact flat_len (fun _ => rfl) _ | exact encI_len _ | exact Nat.le_of_ble_eq_true rfl | assumption)⟩, ⟨_, _, rfl, rfl, (by (repeat' apply And.intro) <;> first | trivial | rfl | exact flat_len (s := 6) (enc := encGActive) (fun _ => rfl) _ | exact flat_len (fun _ => rfl) _ | exact encI_len _ | exact Nat.le_of_ble_eq_true rfl | assumption)⟩, ⟨_, _, rfl, rfl, (by (repeat' apply And.intro) <;> first | trivial | rfl | exact flat_len (s := 6) (enc := encGActive) (fun _ => rfl) _ | exact flat_len (fun _ => rfl) _ | exact encI_len _ | exact Nat.le_of_ble_eq_true rfl | assumption)⟩, ⟨_, _, rfl, rfl, (by (repeat' apply And.intro) <;> first | trivial | rfl | exact flat_len (s := 6) (enc := encGActive) (fun _ => rfl) _ | exact flat_len (fun _ => rfl) _ | exact encI_len _ | exact Nat.le_of_ble_eq_true rfl | assumption)⟩, ⟨_, _, rfl, rfl, (by (repeat' apply And.intro) <;> first | trivial | rfl | exact flat_len (s := 6) (enc := encGActive) (fun _ => rfl) _ | exact flat_len (fun _ => rfl) _ | exact encI_len _ | exact Nat.le_of_ble_eq_true rfl | assumption)⟩, trivial⟩ ⟨⟨rfl, _, _, rfl, rfl, (by (repeat' apply And.intro) <;> first | trivial | rfl | exact flat_len (s := 6) (enc := encGActive) (fun _ => rfl) _ | exact flat_len (fun _ => rfl) _ | exact encI_len _ | exact Nat.le_of_ble_eq_true rfl | assumption)⟩, ⟨rfl, _, _, rfl, rfl, (by (repeat' apply And.intro) <;> first | trivial | rfl | exact flat_len (s := 6) (enc := encGActive) (fun _ => rfl) _ | exact flat_len (fun _ => rfl) _ | exact encI_len _ | exact Nat.le_of_ble_eq_true rfl | assumption)⟩, trivial⟩) ?_
       refine opsS_of (j := 7) ?_
       refine step_r rfl rfl trivial (step_r rfl rfl trivial (step_r rfl rfl trivial (step_nil (seqK_n (sem_seq (sem_seq (sem_region rfl (step_r rfl rfl trivial (step_nil (seqK_n ?_))))))))))
       refine sem_cutW (fun w_ : (List GActive) × Int => match w_ with | (m_2, e_2) => (⟨[(3, .ptr 0 0), (7, B (small15)), (9, I now_0), (20, I k1), (21, .ptr 1 0), (22, .pv (.slc m_2.length false (m_2.flatMap encGActive))), (23, I e_2)], [(0, .box [.pv (.slc c.Abilities.length false (c.Abilities.flatMap encGAbility)), .pv (.slc c.Auras.length false (c.Auras.flatMap encGAura)), .pv (.slc c.Foes.length false (c.Foes.flatMap encGFoe)), I c.Map.W, I c.Map.H, .pv (.slc c.Map.Wall.length false (encB c.Map.Wall)), I c.Door.X, I c.Door.Y, I c.Lair.X, I c.Lair.Y]), (1, .box [I x1.Id, I x1.Kind, I x1.Ticks, I x1.Every, I x1.Stacks, I x1.Amount, B x1.Harm])], 2, [], 224, 0⟩ : St)) (fun w_ => stays15_L2 c now_0 x1 (101) ((apply15 c ([]) x1.Id 1 now_0).1) ((apply15 c ([]) x1.Id 1 now_0).2) 1 = w_) ?_ ?_
       ·refine sem_block ?_
        refine sem_loopT (fun w_ : Nat × (List GActive) × Int × Int => match w_ with | (f2, m2, e2, k2') => (⟨[(3, .ptr 0 0), (7, B (small15)), (9, I now_0), (20, I k1), (21, .ptr 1 0), (22, .pv (.slc m2.length false (m2.flatMap encGActive))), (23, I e2), (24, I (k2'))], [(0, .box [.pv (.slc c.Abilities.length false (c.Abilities.flatMap encGAbility)), .pv (.slc c.Auras.length false (c.Auras.flatMap encGAura)), .pv (.slc c.Foes.length false (c.Foes.flatMap encGFoe)), I c.Map.W, I c.Map.H, .pv (.slc c.Map.Wall.length false (encB c.Map.Wall)), I c.Door.X, I c.Door.Y, I c.Lair.X, I c.Lair.Y]), (1, .box [I x1.Id, I x1.Kind, I x1.Ticks, I x1.Every, I x1.Stacks, I x1.Amount, B x1.Harm])], 2, [], 224, 0⟩ : St)) (fun w_ : Nat × (List GActive) × Int × Int => match w_ with | (f2, m2, e2, k2') => stays15_L2 c now_0 x1 f2 m2 e2 (k2') = stays15_L2 c now_0 x1 (101) ((apply15 c ([]) x1.Id 1 now_0).1) ((apply15 c ([]) x1.Id 1 now_0).2) 1 ∧ (x1.Stacks - k2').toNat < f2 ∧ m2.length ≤ 16 ∧ 1 ≤ k2') (fun w_ : Nat × (List GActive) × Int × Int => match w_ with | (f2, m2, e2, k2') => f2) (101, (apply15 c ([]) x1.Id 1 now_0).1, (apply15 c ([]) x1.Id 1 now_0).2, 1) (⟨rfl, (by first | omega | (simp; omega)), by simp only [List.length_nil] at *; omega⟩) ?_ (fun w_ hh_ => ?_)
        ·exact (Trans.ren [] (by decide +kernel) (by decide +kernel) rfl ⟨⟨rfl, rfl⟩, ⟨rfl, rfl⟩, ⟨rfl, rfl⟩, ⟨rfl, rfl⟩, ⟨rfl, rfl⟩, ⟨rfl, rfl⟩, ⟨rfl, rfl⟩, ⟨rfl, rfl⟩, trivial⟩ ⟨⟨rfl, rfl, rfl⟩, ⟨rfl, rfl, rfl⟩, trivial⟩ (by decide))
        obtain ⟨f2, m2, e2, k2'⟩ := w_
        obtain ⟨hI2, hb2, hv2⟩ := hh_
        obtain ⟨f2, rfl⟩ : ∃ z_, f2 = z_ + 1 := ⟨f2 - 1, by omega⟩
        show Walks Try.prog _ _ (⟨[(3, .ptr 0 0), (7, B (small15)), (9, I now_0), (20, I k1), (21, .ptr 1 0), (22, .pv (.slc m2.length false (m2.flatMap encGActive))), (23, I e2), (24, I (k2'))], [(0, .box [.pv (.slc c.Abilities.length false (c.Abilities.flatMap encGAbility)), .pv (.slc c.Auras.length false (c.Auras.flatMap encGAura)), .pv (.slc c.Foes.length false (c.Foes.flatMap encGFoe)), I c.Map.W, I c.Map.H, .pv (.slc c.Map.Wall.length false (encB c.Map.Wall)), I c.Door.X, I c.Door.Y, I c.Lair.X, I c.Lair.Y]), (1, .box [I x1.Id, I x1.Kind, I x1.Ticks, I x1.Every, I x1.Stacks, I x1.Amount, B x1.Harm])], 2, [], 224, 0⟩ : St)
        refine sem_seq (sem_seq (sem_region rfl (step_r rfl rfl trivial (step_r rfl rfl (by decide) (step_r rfl rfl trivial (step_bin rfl rfl rfl rfl rfl trivial (step_r rfl rfl trivial ?_)))))))
        refine step_gs rfl (fun h251 => ?_) (fun h251 => ?_)
        ·have g251 : (k2' : Int) < x1.Stacks := of_decide_eq_true h251
         refine step_g1 rfl h251 (step_r rfl rfl trivial (step_g1 rfl h251 (step_bin rfl rfl rfl rfl rfl trivial (step_pickT rfl h251 rfl rfl (step_nil (seqK_n ?_))))))
         refine sem_cond rfl (fun h254 => ?_) (fun h254 => ?_)
         ·have g254 : (e2 : Int) = 0 := beq_t h254
          refine sem_skip (seqK_n (sem_seq (sem_block ?_)))
          refine sem_regionS rfl (opsS_cut 8 (j := 0) ?_)
          simp only [List.take_succ_cons, List.take_zero, List.drop_succ_cons, List.drop_zero]
          refine step_r (v := (.agg [_, _, _, _, _, _, _, _, _, _])) rfl rfl (Nat.le_of_ble_eq_true rfl) (step_r rfl rfl trivial (step_r rfl rfl (by decide) (step_r rfl rfl trivial (step_r rfl rfl trivial ?_))))
          refine step_callN (out' := .tup [.ref 2 _ _ _, _]) (H' := [(2, .row _ _ _), (0, .box [_, _, _, _, _, _, _, _, _, _]), (1, .box [_, _, _, _, _, _, _])]) (nx' := 3) rfl rfl rfl rfl rfl rfl rfl (by (repeat' apply And.intro) <;> first | trivial | rfl | exact flat_len (fun _ => rfl) _ | exact encI_len _ | exact Nat.le_of_ble_eq_true rfl | assumption) (apply15_ok c m2 false x1.Id 1 now_0 (by first | assumption | omega | (simp only [List.length_nil, List.length_cons, List.length_append] at *; omega) | (simp; done) | (simp; omega))) rfl rfl rfl rfl ?_
          have p256 := apply15_len c m2 x1.Id 1 now_0
          refine step_r rfl rfl trivial (step_r rfl rfl trivial (step_nil ?_))
          refine opsS_trans (Trans.freezeJ (T' := [(3, .ptr 0 0), (7, B (small15)), (9, I now_0), (20, I k1), (21, .ptr 1 0), (22, .pv (.slc m2.length false (m2.flatMap encGActive))), (23, I e2), (24, I (k2')), (177, I (k2')), (179, I x1.Stacks), (180, B (decide ((k2' : Int) < x1.Stacks))), (181, B (decide ((k2' : Int) < x1.Stacks))), (182, I e2), (183, B ((e2 : Int) == 0)), (184, B ((e2 : Int) == 0)), (187, .tup [.pv (.slc (apply15 c m2 x1.Id 1 now_0).1.length false ((apply15 c m2 x1.Id 1 now_0).1.flatMap encGActive)), I (apply15 c m2 x1.Id 1 now_0).2]), (188, .agg [.pv (.slc c.Abilities.length false (c.Abilities.flatMap encGAbility)), .pv (.slc c.Auras.length false (c.Auras.flatMap encGAura)), .pv (.slc c.Foes.length false (c.Foes.flatMap encGFoe)), I c.Map.W, I c.Map.H, .pv (.slc c.Map.Wall.length false (encB c.Map.Wall)), I c.Door.X, I c.Door.Y, I c.Lair.X, I c.Lair.Y]), (189, .pv (.slc m2.length false (m2.flatMap encGActive))), (191, I x1.Id), (192, I now_0), (193, .tup [.pv (.slc (apply15 c m2 x1.Id 1 now_0).1.length false ((apply15 c m2 x1.Id 1 now_0).1.flatMap encGActive)), I (apply15 c m2 x1.Id 1 now_0).2]), (194, .pv (.slc (apply15 c m2 x1.Id 1 now_0).1.length false ((apply15 c m2 x1.Id 1 now_0).1.flatMap encGActive)))]) (H' := [(0, .box [.pv (.slc c.Abilities.length false (c.Abilities.flatMap encGAbility)), .pv (.slc c.Auras.length false (c.Auras.flatMap encGAura)), .pv (.slc c.Foes.length false (c.Foes.flatMap encGFoe)), I c.Map.W, I c.Map.H, .pv (.slc c.Map.Wall.length false (encB c.Map.Wall)), I c.Door.X, I c.Door.Y, I c.Lair.X, I c.Lair.Y]), (1, .box [I x1.Id, I x1.Kind, I x1.Ticks, I x1.Every, I x1.Stacks, I x1.Amount, B x1.Harm])]) [2] (by decide) ⟨⟨_, _, rfl, rfl, (by (repeat' apply And.intro) <;> first | trivial | rfl | exact flat_len (s := 6) (enc := encGActive) (fun _ => rfl) _ | exact flat_len (fun _ => rfl) _ | exact encI_len _ | exact Nat.le_of_ble_eq_true rfl | assumption)⟩, ⟨_, _, rfl, rfl, (by (repeat' apply And.intro) <;> first | trivial | rfl | exact flat_len (s := 6) (enc := encGActive) (fun _ => rfl) _ | exact flat_len (fun _ => rfl) _ | exact encI_len _ | exact Nat.le_of_ble_eq_true rfl | assumption)⟩, ⟨_, _, rfl, rfl, (by (repeat' apply And.intro) <;> first | trivial | rfl | exact flat_len (s := 6) (enc := encGActive) (fun _ => rfl) _ | exact flat_len (fun _ => rfl) _ | exact encI_len _ | exact Nat.le_of_ble_eq_true rfl | assumption)⟩, ⟨_, _, rfl, rfl, (by (repeat' apply And.intro) <;> first | trivial | rfl | exact flat_len (s := 6) (enc := encGActive) (fun _ => rfl) _ | exact flat_len (fun _ => rfl) _ | exact encI_len _ | exact Nat.le_of_ble_eq_true rfl | assumption)⟩, ⟨_, _, rfl, rfl, (by (repeat' apply And.intro) <;> first | trivial | rfl | exact flat_len (s := 6) (enc := encGActive) (fun _ => rfl) _ | exact flat_len (fun _ => rfl) _ | exact encI_len _ | exact Nat.le_of_ble_eq_true rfl | assumption)⟩, ⟨_, _, rfl, rfl, (by (repeat' apply And.intro) <;> first | trivial | rfl | exact flat_len (s := 6) (enc := encGActive) (fun _ => rfl) _ | exact flat_len (fun _ => rfl) _ | exact encI_len _ | exact Nat.le_of_ble_eq_true rfl | assumption)⟩, ⟨_, _, rfl, rfl, (by (repeat' apply And.intro) <;> first | trivial | rfl | exact flat_len (s := 6) (enc := encGActive) (fun _ => rfl) _ | exact flat_len (fun _ => rfl) _ | exact encI_len _ | exact Nat.le_of_ble_eq_true rfl | assumption)⟩, ⟨_, _, rfl, rfl, (by (repeat' apply And.intro) <;> first | trivial | rfl | exact flat_len (s := 6) (enc := encGActive) (fun _ => rfl) _ | exact flat_len (fun _ => rfl) _ | exact encI_len _ | exact Nat.le_of_ble_eq_true rfl | assumption)⟩, ⟨_, _, rfl, rfl, (by (repeat' apply And.intro) <;> first | trivial | rfl | exact flat_len (s := 6) (enc := encGActive) (fun _ => rfl) _ | exact flat_len (fun _ => rfl) _ | exact encI_len _ | exact Nat.le_of_ble_eq_true rfl | assumption)⟩, ⟨_, _, rfl, rfl, (by (repeat' apply And.intro) <;> first | trivial | rfl | exact flat_len (s := 6) (enc := encGActive) (fun _ => rfl) _ | exact flat_len (fun _ => rfl) _ | exact encI_len _ | exact Nat.le_of_ble_eq_true rfl | assumption)⟩, ⟨_, _, rfl, rfl, (by (repeat' apply And.intro) <;> first | trivial | rfl | exact flat_len (s := 6) (enc := encGActive) (fun _ => rfl) _ | exact flat_len (fun _ => rfl) _ | exact encI_len _ | exact Nat.le_of_ble_eq_true rfl | assumption)⟩, ⟨_, _, rfl, rfl, (by (repeat' apply And.intro) <;> first | trivial | rfl | exact flat_len (s := 6) (enc := encGActive) (fun _ => rfl) _ | exact flat_len (fun _ => rfl) _ | exact encI_len _ | exact Nat.le_of_ble_eq_true rfl | assumption)⟩, ⟨_, _, rfl, rfl, (by (repeat' apply And.intro) <;> first | trivial | rfl | exact flat_len (s := 6) (enc := encGActive) (fun _ => rfl) _ | exact flat_len (fun _ => rfl) _ | exact encI_len _ | exact Nat.le_of_ble_eq_true rfl | assumption)⟩, ⟨_, _, rfl, rfl, (by (repeat' apply And.intro) <;> first | trivial | rfl | exact flat_len (s := 6) (enc := encGActive) (fun _ => rfl) _ | exact flat_len (fun _ => rfl) _ | exact encI_len _ | exact Nat.le_of_ble_eq_true rfl | assumption)⟩, ⟨_, _, rfl, rfl, (by (repeat' apply And.intro) <;> first | trivial | rfl | exact flat_len (s := 6) (enc := encGActive) (fun _ => rfl) _ | exact flat_len (fun _ => rfl) _ | exact encI_len _ | exact Nat.le_of_ble_eq_true rfl | assumption)⟩, ⟨_, _, rfl, rfl, (by (repeat' apply And.intro) <;> first | trivial | rfl | exact flat_len (s := 6) (enc := encGActive) (fun _ => rfl) _ | exact flat_len (fun _ => rfl) _ | exact encI_len _ | exact Nat.le_of_ble_eq_true rfl | assumption)⟩, ⟨_, _, rfl, rfl, (by (repeat' apply And.intro) <;> first | trivial | rfl | exact flat_len (s := 6) (enc := encGActive) (fun _ => rfl) _ | exact flat_len (fun _ => rfl) _ | exact encI_len _ | exact Nat.le_of_ble_eq_true rfl | assumption)⟩, ⟨_, _, rfl, rfl, (by (repeat' apply And.intro) <;> first | trivial | rfl | exact flat_len (s := 6) (enc := encGActive) (fun _ => rfl) _ | exact flat_len (fun _ => rfl) _ | exact encI_len _ | exact Nat.le_of_ble_eq_true rfl | assumption)⟩, ⟨_, _, rfl, rfl, (by (repeat' apply And.intro) <;> first | trivial | rfl | exact flat_len (s := 6) (enc := encGActive) (fun _ => rfl) _ | exact flat_len (fun _ => rfl) _ | exact encI_len _ | exact Nat.le_of_ble_eq_true rfl | assumption)⟩, ⟨_, _, rfl, rfl, (by (repeat' apply And.intro) <;> first | trivial | rfl | exact flat_len (s := 6) (enc := encGActive) (fun _ => rfl) _ | exact flat_len (fun _ => rfl) _ | exact encI_len _ | exact Nat.le_of_ble_eq_true rfl | assumption)⟩, ⟨_, _, rfl, rfl, (by (repeat' apply And.intro) <;> first | trivial | rfl | exact flat_len (s := 6) (enc := encGActive) (fun _ => rfl) _ | exact flat_len (fun _ => rfl) _ | exact encI_len _ | exact Nat.le_of_ble_eq_true rfl | assumption)⟩, ⟨_, _, rfl, rfl, (by (repeat' apply And.intro) <;> first | trivial | rfl | exact flat_len (s := 6) (enc := encGActive) (fun _ => rfl) _ | exact flat_len (fun _ => rfl) _ | exact encI_len _ | exact Nat.le_of_ble_eq_true rfl | assumption)⟩, trivial⟩ ⟨⟨rfl, _, _, rfl, rfl, (by (repeat' apply And.intro) <;> first | trivial | rfl | exact flat_len (s := 6) (enc := encGActive) (fun _ => rfl) _ | exact flat_len (fun _ => rfl) _ | exact encI_len _ | exact Nat.le_of_ble_eq_true rfl | assumption)⟩, ⟨rfl, _, _, rfl, rfl, (by (repeat' apply And.intro) <;> first | trivial | rfl | exact flat_len (s := 6) (enc := encGActive) (fun _ => rfl) _ | exact flat_len (fun _ => rfl) _ | exact encI_len _ | exact Nat.le_of_ble_eq_true rfl | assumption)⟩, trivial⟩) ?_
          refine opsS_of (j := 8) ?_
          refine step_r rfl rfl trivial (step_r rfl rfl trivial (step_r rfl rfl trivial (step_nil (blkK_n (seqK_n (sem_region rfl (step_r rfl rfl trivial (step_bin rfl rfl rfl rfl rfl trivial (step_r rfl rfl trivial (step_nil ?_))))))))))
          have e259 : stays15_L2 c now_0 x1 (f2 + 1) m2 e2 (k2') = stays15_L2 c now_0 x1 f2 ((apply15 c m2 x1.Id 1 now_0).1) ((apply15 c m2 x1.Id 1 now_0).2) (IntKind.i64.wrap ((k2') + 1)) := by
           rewrite [stays15_L2]
           try dsimp only
           rewrite [if_pos g251, if_pos g254]
           all_goals rfl
          exact lup_againT (f2, (apply15 c m2 x1.Id 1 now_0).1, (apply15 c m2 x1.Id 1 now_0).2, (IntKind.i64.wrap ((k2') + 1))) ⟨e259.symm.trans hI2, (by simp only [IntKind.wrap_i64] at *; omega), (by simp only [IntKind.wrap_i64] at *; omega)⟩ (Nat.lt_succ_self _) (Trans.ren [] (by decide +kernel) (by decide +kernel) rfl ⟨⟨rfl, rfl⟩, ⟨rfl, rfl⟩, ⟨rfl, rfl⟩, ⟨rfl, rfl⟩, ⟨rfl, rfl⟩, ⟨rfl, rfl⟩, ⟨rfl, rfl⟩, ⟨rfl, rfl⟩, trivial⟩ ⟨⟨rfl, rfl, rfl⟩, ⟨rfl, rfl, rfl⟩, trivial⟩ (by decide))
         ·have g254 : ¬ ((e2 : Int) = 0) := beq_f h254
          refine sem_exit (seqK_e (lupK_e (blkK_t rfl ?_)))
          have e260 : stays15_L2 c now_0 x1 (101) ((apply15 c ([]) x1.Id 1 now_0).1) ((apply15 c ([]) x1.Id 1 now_0).2) 1 = (m2, e2) := by
           rewrite [← hI2]
           rewrite [stays15_L2]
           try dsimp only
           rewrite [if_pos g251, if_neg g254]
           all_goals rfl
          exact cutW_n (m2, e2) e260 (Trans.ren [] (by decide +kernel) (by decide +kernel) rfl ⟨⟨rfl, rfl⟩, ⟨rfl, rfl⟩, ⟨rfl, rfl⟩, ⟨rfl, rfl⟩, ⟨rfl, rfl⟩, ⟨rfl, rfl⟩, ⟨rfl, rfl⟩, trivial⟩ ⟨⟨rfl, rfl, rfl⟩, ⟨rfl, rfl, rfl⟩, trivial⟩ (by decide))
        ·have g251 : ¬ ((k2' : Int) < x1.Stacks) := of_decide_eq_false h251
         refine step_g0 rfl h251 rfl (step_g0 rfl h251 rfl (step_pickF rfl h251 rfl rfl (step_nil (seqK_n (sem_condF rfl (sem_exit (seqK_e (lupK_e (blkK_t rfl ?_)))))))))
         have e261 : stays15_L2 c now_0 x1 (101) ((apply15 c ([]) x1.Id 1 now_0).1) ((apply15 c ([]) x1.Id 1 now_0).2) 1 = (m2, e2) := by
          rewrite [← hI2]
          rewrite [stays15_L2]
          try dsimp only
          rewrite [if_neg g251]
          all_goals rfl
         exact cutW_n (m2, e2) e261 (Trans.ren [] (by decide +kernel) (by decide +kernel) rfl ⟨⟨rfl, rfl⟩, ⟨rfl, rfl⟩, ⟨rfl, rfl⟩, ⟨rfl, rfl⟩, ⟨rfl, rfl⟩, ⟨rfl, rfl⟩, ⟨rfl, rfl⟩, trivial⟩ ⟨⟨rfl, rfl, rfl⟩, ⟨rfl, rfl, rfl⟩, trivial⟩ (by decide))
       ·rintro ⟨m_2, e_2⟩ (hJ248 : stays15_L2 c now_0 x1 (101) ((apply15 c ([]) x1.Id 1 now_0).1) ((apply15 c ([]) x1.Id 1 now_0).2) 1 = (m_2, e_2))
        show seqK _ _ _ .normal (⟨[(3, .ptr 0 0), (7, B (small15)), (9, I now_0), (20, I k1), (21, .ptr 1 0), (22, .pv (.slc m_2.length false (m_2.flatMap encGActive))), (23, I e_2)], [(0, .box [.pv (.slc c.Abilities.length false (c.Abilities.flatMap encGAbility)), .pv (.slc c.Auras.length false (c.Auras.flatMap encGAura)), .pv (.slc c.Foes.length false (c.Foes.flatMap encGFoe)), I c.Map.W, I c.Map.H, .pv (.slc c.Map.Wall.length false (encB c.Map.Wall)), I c.Door.X, I c.Door.Y, I c.Lair.X, I c.Lair.Y]), (1, .box [I x1.Id, I x1.Kind, I x1.Ticks, I x1.Every, I x1.Stacks, I x1.Amount, B x1.Harm])], 2, [], 224, 0⟩ : St)
        refine seqK_n (sem_seq ?_)
        refine sem_drawn rfl (by decide +kernel) rfl ?_
        refine step_r rfl rfl trivial (step_bin rfl rfl rfl rfl rfl trivial (step_r rfl rfl trivial ?_))
        refine step_gs rfl (fun h264 => ?_) (fun h264 => ?_)
        ·have g264 : ¬ ((e_2 : Int) = 0) := bne_t h264
         refine step_g0 rfl h264 rfl (step_g0 rfl h264 rfl (step_g0 rfl h264 rfl (step_pickT rfl h264 rfl rfl (step_r rfl rfl trivial (step_gf rfl rfl (step_gf rfl rfl (step_gf rfl rfl (step_gf rfl rfl (step_gf rfl rfl (step_gf rfl rfl (step_gf rfl rfl ?_)))))))))))
         refine step_r rfl rfl trivial (step_r rfl rfl trivial (step_gf rfl rfl (step_gf rfl rfl (step_gf rfl rfl (step_gf rfl rfl (step_gf rfl rfl (step_gf rfl rfl (step_gf rfl rfl (step_gf rfl rfl (step_gf rfl rfl (step_r rfl rfl trivial ?_)))))))))))
         refine step_nil (seqK_n (sem_condT rfl (sem_seq (sem_region rfl (step_r rfl rfl trivial (step_nil (seqK_n (sem_ret (blkK_r (seqK_r (lupK_r ?_)))))))))))
         refine blkK_r (cutW_r (seqK_r ?_))
         have e265 : stays15_L1 c now_0 c.Auras 0 = .inl false := by
          rewrite [← hI1, drop_cons hx1]
          rewrite [stays15_L1]
          try dsimp only
          rewrite [hJ248]
          try dsimp only
          rewrite [if_neg g264]
          all_goals rfl
         have e266 : stays15 c l steps = false := by
          unfold stays15
          try dsimp only
          rewrite [if_pos g4, if_neg g7, if_pos g10, hJ12]
          try dsimp only
          rewrite [e265]
          try dsimp only
          all_goals rfl
         rw [e266]
         exact answersR rfl ⟨trivial, trivial⟩ (rfl) rfl
        ·have g264 : (e_2 : Int) = 0 := bne_f h264
         refine step_g1 rfl h264 (step_r rfl rfl trivial (step_g1 rfl h264 (step_r rfl rfl trivial (step_g1 rfl h264 (step_bin rfl rfl rfl rfl rfl trivial (step_pickF rfl h264 rfl rfl (step_r rfl rfl trivial ?_)))))))
         refine step_gs rfl (fun h268 => ?_) (fun h268 => ?_)
         ·have g268 : ¬ ((m_2.length : Int) = 1) := bne_t h268
          refine step_g0 rfl h268 rfl (step_g0 rfl h268 rfl (step_g0 rfl h268 rfl (step_g0 rfl h268 rfl (step_g0 rfl h268 rfl (step_g0 rfl h268 rfl (step_g0 rfl h268 rfl (step_pickT rfl h268 rfl rfl (step_r rfl rfl trivial (step_gf rfl rfl (step_gf rfl rfl (step_gf rfl rfl ?_)))))))))))
          refine step_gf rfl rfl (step_gf rfl rfl (step_gf rfl rfl (step_gf rfl rfl (step_gf rfl rfl (step_gf rfl rfl (step_r rfl rfl trivial (step_nil (seqK_n (sem_condT rfl (sem_seq (sem_region rfl ?_)))))))))))
          refine step_r rfl rfl trivial (step_nil (seqK_n (sem_ret (blkK_r (seqK_r (lupK_r (blkK_r (cutW_r (seqK_r ?_)))))))))
          have e269 : stays15_L1 c now_0 c.Auras 0 = .inl false := by
           rewrite [← hI1, drop_cons hx1]
           rewrite [stays15_L1]
           try dsimp only
           rewrite [hJ248]
           try dsimp only
           rewrite [if_pos g264, if_neg g268]
           all_goals rfl
          have e270 : stays15 c l steps = false := by
           unfold stays15
           try dsimp only
           rewrite [if_pos g4, if_neg g7, if_pos g10, hJ12]
           try dsimp only
           rewrite [e269]
           try dsimp only
           all_goals rfl
          rw [e270]
          exact answersR rfl ⟨trivial, trivial⟩ (rfl) rfl
         ·have g268 : (m_2.length : Int) = 1 := bne_f h268
          refine step_g1 rfl h268 (step_r rfl rfl trivial (step_g1 rfl h268 ?_))
          have jk271 : 0 < m_2.length := by first | assumption | omega | (simp only [List.length_set, List.length_append]; omega) | (simp only [IntKind.wrap_i64] at *; omega) | (simp; omega) | simp_all
          refine step_idxS (k := 0) rfl rfl rfl rfl jk271 (flat_ne (s := 6) (enc := encGActive) (fun _ => rfl) (by decide) jk271) rfl (step_g1 rfl h268 (step_r rfl rfl (by decide) (step_g1 rfl h268 (step_load_one rfl rfl rfl (flat_get (s := 6) (enc := encGActive) (fun _ => rfl) (get_getD jk271) (o := 2) rfl (by decide)) rfl (step_g1 rfl h268 (step_r rfl rfl (by decide) (step_g1 rfl h268 (step_r rfl rfl trivial (step_g1 rfl h268 (step_bin rfl rfl rfl rfl rfl trivial (step_pickF rfl h268 rfl rfl ?_)))))))))))
          refine step_r rfl rfl trivial ?_
          refine step_gs rfl (fun h273 => ?_) (fun h273 => ?_)
          ·have g273 : ¬ (((m_2.getD 0 default).Stacks : Int) = x1.Stacks) := bne_t h273
           refine step_g0 rfl h273 rfl (step_g0 rfl h273 rfl (step_g0 rfl h273 rfl (step_g0 rfl h273 rfl (step_g0 rfl h273 rfl (step_g0 rfl h273 rfl (step_g0 rfl h273 rfl (step_g0 rfl h273 rfl (step_g0 rfl h273 rfl (step_pickT rfl h273 rfl rfl (step_nil (seqK_n ?_)))))))))))
           refine sem_condT rfl (sem_seq (sem_region rfl (step_r rfl rfl trivial (step_nil (seqK_n (sem_ret (blkK_r (seqK_r (lupK_r (blkK_r (cutW_r ?_)))))))))))
           refine seqK_r ?_
           have e274 : stays15_L1 c now_0 c.Auras 0 = .inl false := by
            rewrite [← hI1, drop_cons hx1]
            rewrite [stays15_L1]
            try dsimp only
            rewrite [hJ248]
            try dsimp only
            rewrite [if_pos g264, if_pos g268, if_neg g273]
            all_goals rfl
           have e275 : stays15 c l steps = false := by
            unfold stays15
            try dsimp only
            rewrite [if_pos g4, if_neg g7, if_pos g10, hJ12]
            try dsimp only
            rewrite [e274]
            try dsimp only
            all_goals rfl
           rw [e275]
           exact answersR rfl ⟨trivial, trivial⟩ (rfl) rfl
          ·have g273 : ((m_2.getD 0 default).Stacks : Int) = x1.Stacks := bne_f h273
           refine step_g1 rfl h273 (step_r rfl rfl trivial (step_g1 rfl h273 (step_idxS (k := 0) rfl rfl rfl rfl jk271 (flat_ne (s := 6) (enc := encGActive) (fun _ => rfl) (by decide) jk271) rfl (step_g1 rfl h273 (step_r rfl rfl (by decide) (step_g1 rfl h273 (step_load_one rfl rfl rfl (flat_get (s := 6) (enc := encGActive) (fun _ => rfl) (get_getD jk271) (o := 3) rfl (by decide)) rfl (step_g1 rfl h273 (step_r rfl rfl trivial (step_g1 rfl h273 (step_r rfl rfl (by decide) ?_)))))))))))
           refine step_g1 rfl h273 (step_r rfl rfl trivial (step_g1 rfl h273 (step_bin rfl rfl rfl rfl rfl trivial (step_g1 rfl h273 (step_bin rfl rfl rfl rfl rfl trivial (step_pickF rfl h273 rfl rfl (step_nil (seqK_n ?_))))))))
           refine sem_cond rfl (fun h278 => ?_) (fun h278 => ?_)
           ·have g278 : ¬ (((m_2.getD 0 default).Until : Int) = (IntKind.i64.wrap (now_0 + x1.Ticks))) := bne_t h278
            refine sem_seq (sem_region rfl (step_r rfl rfl trivial (step_nil (seqK_n (sem_ret (blkK_r (seqK_r (lupK_r (blkK_r (cutW_r (seqK_r ?_)))))))))))
            have e279 : stays15_L1 c now_0 c.Auras 0 = .inl false := by
             rewrite [← hI1, drop_cons hx1]
             rewrite [stays15_L1]
             try dsimp only
             rewrite [hJ248]
             try dsimp only
             rewrite [if_pos g264, if_pos g268, if_pos g273, if_neg g278]
             all_goals rfl
            have e280 : stays15 c l steps = false := by
             unfold stays15
             try dsimp only
             rewrite [if_pos g4, if_neg g7, if_pos g10, hJ12]
             try dsimp only
             rewrite [e279]
             try dsimp only
             all_goals rfl
            rw [e280]
            exact answersR rfl ⟨trivial, trivial⟩ (rfl) rfl
           ·have g278 : ((m_2.getD 0 default).Until : Int) = (IntKind.i64.wrap (now_0 + x1.Ticks)) := bne_f h278
            refine sem_skip (blkK_n (seqK_n (sem_region rfl (step_r rfl rfl trivial (step_bin rfl rfl rfl rfl rfl trivial (step_r rfl rfl trivial (step_nil ?_)))))))
            have e283 : stays15_L1 c now_0 (c.Auras.drop k1) k1 = stays15_L1 c now_0 (c.Auras.drop (k1 + 1)) (k1 + 1) := by
             rewrite [drop_cons hx1]
             rewrite [stays15_L1]
             try dsimp only
             rewrite [hJ248]
             try dsimp only
             rewrite [if_pos g264, if_pos g268, if_pos g273, if_pos g278]
             all_goals rfl
            exact lup_againT (k1 + 1) ⟨e283.symm.trans hI1, hk1⟩ (by show c.Auras.length - (k1 + 1) < c.Auras.length - k1; omega) (Trans.ren [] (by decide +kernel) (by decide +kernel) rfl ⟨⟨rfl, rfl⟩, ⟨rfl, rfl⟩, ⟨rfl, rfl⟩, ⟨congrArg (fun n => some (I n)) (wrapI (k := k1) (by first | omega | (simp; omega))), rfl⟩, trivial⟩ ⟨⟨rfl, rfl, rfl⟩, trivial⟩ (by decide))
      ·have g244 : ¬ ((k1 : Int) < c.Auras.length) := of_decide_eq_false h244
       have hk1 : k1 = c.Auras.length := by omega
       refine sem_exit (seqK_e (lupK_e (blkK_t rfl ?_)))
       have e284 : stays15_L1 c now_0 c.Auras 0 = .inr () := by
        rewrite [← hI1, hk1, List.drop_length]
        rewrite [stays15_L1]
        try dsimp only
        all_goals rfl
       exact cutW_n () e284 (Trans.ren [] (by decide +kernel) (by decide +kernel) rfl ⟨⟨rfl, rfl⟩, trivial⟩ trivial (by decide))
     ·rintro ⟨⟩ (hJ242 : stays15_L1 c now_0 c.Auras 0 = .inr ())
      show seqK _ _ _ .normal (⟨[(7, B (small15))], [], 0, [], 224, 0⟩ : St)
      refine seqK_n (sem_seq (sem_region rfl (step_r rfl rfl trivial (step_r rfl rfl trivial (step_nil (seqK_n (sem_ret ?_)))))))
      have e286 : stays15 c l steps = (small15) := by
       unfold stays15
       try dsimp only
       rewrite [if_pos g4, if_neg g7, if_pos g10, hJ12]
       try dsimp only
       rewrite [hJ242]
       try dsimp only
       all_goals rfl
      rw [e286]
      exact answersR rfl ⟨trivial, trivial⟩ (rfl) rfl
end Go.Proofs.Ytcbdecknbfabaaa

import Derived.Test.YtgopngmofcohnaaLaw17
namespace Go.Proofs.Ytgopngmofcohnaa
open Go Go.RowKit Go.Proofs.YtgopngmofcohnaaVm
attribute [local irreducible] opsWp AnswersE OpsS
set_option maxHeartbeats 400000
set_option maxRecDepth 100000
set_option linter.all false
def andI (a b : Int) : Int := IntKind.i64.wrap (BitVec.ofInt 64 a &&& BitVec.ofInt 64 b).toNat
theorem andI_le {a b : Int} {m : Nat} (hb : (BitVec.ofInt 64 b).toNat = m) (hm : m ≤ 1000) : 0 ≤ andI a b ∧ andI a b ≤ m := by
  unfold andI
  have h : (BitVec.ofInt 64 a &&& BitVec.ofInt 64 b).toNat ≤ m := by rw [BitVec.toNat_and, hb]; exact Nat.and_le_right
  rw [IntKind.wrap_i64]
  omega
theorem and_fold (a b : Int) : IntKind.i64.wrap ((BitVec.ofInt IntKind.i64.bits a &&& BitVec.ofInt IntKind.i64.bits b).toNat : Int) = andI a b := rfl
theorem addM_small {a b : Int} (h0 : 0 ≤ a) (h1 : a ≤ 100000) (h2 : 0 ≤ b) (h3 : b ≤ 100000) : addM a b = a + b := by
  rw [addM_eq (by unfold InR; omega) (by unfold InR; omega)]
  omega
def pendC (z : GCasting) : List GCast := (if z.Now.Ability = 0 then [] else [z.Now]) ++ (if z.Next.Ability = 0 then [] else [z.Next])
theorem pend_step {t : Int} : ∀ {n : Nat} {z : GCasting}, (stepF n z t).2 ++ pendC (stepF n z t).1 = pendC z
  | 0, z => rfl
  | n + 1, z => by
    by_cases h : z.Now.Ability = 0 ∨ z.Now.Until > t
    · rw [stepF_stop h]; rfl
    · rw [stepF_go h]
      simp only [List.cons_append]
      rw [pend_step]
      unfold pendC
      rw [if_neg (fun e => h (.inl e))]
      simp [nowC]
theorem step_until {t : Int} : ∀ {n : Nat} {z : GCasting}, ∀ c ∈ (stepF n z t).2, c.Until ≤ t
  | 0, z, c, hc => by simp [stepF] at hc
  | n + 1, z, c, hc => by
    by_cases h : z.Now.Ability = 0 ∨ z.Now.Until > t
    · rw [stepF_stop h] at hc; cases hc
    · rw [stepF_go h] at hc
      rcases List.mem_cons.1 hc with rfl | hc
      · omega
      · exact step_until c hc
theorem step_now {t : Int} : ∀ {n : Nat} {z : GCasting}, dep z < n → (stepF n z t).1.Now.Ability = 0 ∨ (stepF n z t).1.Now.Until > t
  | 0, _, h => by omega
  | n + 1, z, hd => by
    by_cases h : z.Now.Ability = 0 ∨ z.Now.Until > t
    · rw [stepF_stop h]; exact h
    · rw [stepF_go h]
      have := dep_now (s := z) (fun e => h (.inl e))
      exact step_now (by omega)
/-- a run so far -/
structure Once (z : GCasting) (B : List GCast) (p : Nat) (now : Int) : Prop where
  hr : rightC z
  hp : p ≤ B.length
  pend : B.drop p = pendC z
  n0 : 0 ≤ now
  n1 : now ≤ 600
  old : ∀ c ∈ B.take p, c.Since ≤ now
  pos : ∀ c ∈ B, 0 ≤ c.Since
  w0 : 0 ≤ z.Wait
  w1 : z.Wait ≤ 10000
  un : z.Now.Ability ≠ 0 → z.Now.Until ≤ 10000
  ux : z.Next.Ability ≠ 0 → z.Next.Until ≤ 10000
  last : z.Next.Ability = 0 → ∀ c, B.getLast? = some c → c.Since + 3 ≤ z.Wait
theorem Once.later {z : GCasting} {B : List GCast} {p : Nat} {now now' : Int} (h : Once z B p now) (h1 : now ≤ now') (h2 : now' ≤ 600) : Once z B p now' :=
  { h with n0 := by have := h.n0; omega, n1 := h2, old := fun c hc => by have := h.old c hc; omega }
theorem once_one {z : GCasting} {B : List GCast} {p : Nat} {now : Int} (h : Once z B p now) (hA : ¬ z.Now.Ability = 0) (hU : z.Now.Until ≤ now) : Once (nowC z z.Next) B (p + 1) now := by
  have hpe := h.pend
  unfold pendC at hpe
  rw [if_neg hA, List.singleton_append] at hpe
  have hBp : B[p]? = some z.Now := by
    have : (B.drop p)[0]? = some z.Now := by rw [hpe]; rfl
    rwa [List.getElem?_drop] at this
  have hlt := (List.getElem?_eq_some_iff.1 hBp).1
  have hdr : B.drop (p + 1) = (if z.Next.Ability = 0 then [] else [z.Next]) := by
    rw [← List.drop_drop, hpe]; rfl
  have hmay : z.Now.Since ≤ z.Now.Until := by
    rcases h.hr.1 with e | e
    · rw [e] at hA; exact absurd rfl hA
    · exact e.2
  have hnx : ¬ z.Next.Ability = 0 → z.Next ∈ B := fun e => by
    rw [if_neg e] at hdr
    exact List.mem_of_mem_drop (i := p + 1) (by rw [hdr]; simp)
  have hns : ¬ z.Next.Ability = 0 → z.Next.Since ≤ now ∧ 0 ≤ z.Next.Since := fun e => by
    have h1 := (h.hr.2.2 e).2
    have h2 := h.pos _ (hnx e)
    omega
  have hn1 := h.n1
  have hw : (nowC z z.Next).Wait = if z.Next.Ability = 0 then z.Wait else z.Next.Since + 3 := by
    by_cases e : z.Next.Ability = 0
    · simp [nowC, e]
    · have := hns e
      simp only [nowC, if_neg e, ne_eq, e, not_false_eq_true, if_true]
      exact addM_small (by omega) (by omega) (by decide) (by decide)
  refine ⟨right_now h.hr, hlt, ?_, h.n0, h.n1, fun c hc => ?_, h.pos, ?_, ?_, fun e => h.ux e, fun e => absurd rfl e, fun _ c hc => ?_⟩
  · rw [hdr]; simp [pendC, nowC]
  · rw [take_snoc hBp] at hc
    rcases List.mem_append.1 hc with hc | hc
    · exact h.old c hc
    · rw [List.mem_singleton] at hc; subst hc; omega
  · rw [hw]; split
    · exact h.w0
    · rename_i e; have := hns e; omega
  · rw [hw]; split
    · exact h.w1
    · rename_i e; have := hns e; omega
  · rw [hw]
    by_cases e : z.Next.Ability = 0
    · rw [if_pos e]; exact h.last e c hc
    · rw [if_neg e]
      rw [if_neg e] at hpe
      have hB : B = B.take p ++ [z.Now, z.Next] := by rw [← hpe]; exact (List.take_append_drop p B).symm
      rw [hB] at hc
      simp at hc
      subst hc
      omega
theorem once_step {B : List GCast} {now : Int} : ∀ {n : Nat} {z : GCasting} {p : Nat}, Once z B p now → Once (stepF n z now).1 B (p + (stepF n z now).2.length) now
  | 0, z, p, h => h
  | n + 1, z, p, h => by
    by_cases e : z.Now.Ability = 0 ∨ z.Now.Until > now
    · rw [stepF_stop e]; exact h
    · rw [stepF_go e]
      have h1 := once_step (n := n) (once_one h (fun q => e (.inl q)) (by omega))
      simp only [List.length_cons]
      rw [show p + ((stepF n (nowC z z.Next) now).2.length + 1) = p + 1 + (stepF n (nowC z z.Next) now).2.length by omega]
      exact h1
theorem once_at {z : GCasting} {B : List GCast} {p j : Nat} {now t : Int} {x : GCast} (h : Once z B p now) (hx : (stepC z t).2[j]? = some x) : B[p + j]? = some x ∧ x.Until ≤ t := by
  refine ⟨?_, step_until x (List.mem_of_getElem? hx)⟩
  have h1 : (stepF 3 z t).2[j]? = some x := hx
  rw [← List.getElem?_drop, h.pend, ← pend_step (n := 3) (t := t), List.getElem?_append_left (List.getElem?_eq_some_iff.1 h1).1]
  exact h1
theorem once_all {z : GCasting} {B : List GCast} {p : Nat} {now : Int} (h : Once z B p now) : p + (stepC z 9223372036854775807).2.length = B.length := by
  have h1 := pend_step (n := 3) (z := z) (t := 9223372036854775807)
  have h2 : pendC (stepF 3 z 9223372036854775807).1 = [] := by
    have hw := h.w1
    have h4 : z.Now.Until ≤ 9223372036854775807 := by
      by_cases e : z.Now.Ability = 0
      · rw [right_c0 h.hr e]; decide
      · have := h.un e; omega
    have h3 := step_ends (t := 9223372036854775807) h.hr h4 (by
      unfold doneC
      split
      · rename_i e; have := h.ux e; omega
      · split <;> omega)
    have hr := right_step (n := 3) (t := 9223372036854775807) h.hr
    have h5 : (stepF 3 z 9223372036854775807).1.Now.Ability = 0 := by rw [show (stepF 3 z 9223372036854775807).1.Now = c0 from h3]
    have h6 : (stepF 3 z 9223372036854775807).1.Next.Ability = 0 := by
      by_cases e : (stepF 3 z 9223372036854775807).1.Next.Ability = 0
      · exact e
      · exact absurd h5 (hr.2.2 e).1
    unfold pendC
    rw [if_pos h5, if_pos h6]; rfl
  rw [h2, List.append_nil] at h1
  have := congrArg List.length h1
  rw [← h.pend, List.length_drop] at this
  have := h.hp
  unfold stepC
  omega
theorem once_stop {z : GCasting} {B : List GCast} {p : Nat} {now : Int} (h : Once z B p now) : (p : Int) + (stopC z).2 = B.length ∧ Once ⟨c0, c0, now + 3⟩ (B.take p) p now := by
  have h1 := congrArg List.length h.pend
  rw [List.length_drop] at h1
  have hp := h.hp
  have hn := h.n1
  have hn0 := h.n0
  refine ⟨?_, ⟨.inl rfl, .inl rfl, fun e => absurd rfl e⟩, by rw [List.length_take]; omega, ?_, h.n0, h.n1, fun c hc => h.old c (by rwa [List.take_take, Nat.min_self] at hc), fun c hc => h.pos c (List.mem_of_mem_take hc), by show 0 ≤ now + 3; omega, by show now + 3 ≤ 10000; omega, fun e => absurd rfl e, fun e => absurd rfl e, fun _ c hc => ?_⟩
  · unfold pendC at h1
    unfold stopC
    by_cases e1 : z.Now.Ability = 0 <;> by_cases e2 : z.Next.Ability = 0 <;> simp [e1, e2] at h1 ⊢ <;> omega
  · rw [List.drop_eq_nil_of_le (by rw [List.length_take]; omega)]; rfl
  · have := h.old c (List.mem_of_getLast? hc)
    show c.Since + 3 ≤ now + 3
    omega
theorem once_busy {z : GCasting} {B : List GCast} {p : Nat} {now g : Int} {a : GAbility} (h : Once z B p now) (ha : 1 ≤ a.Id) (hc : 0 ≤ a.Cast) (he : (beginC z a g now).2 ≠ 0) : (beginC z a g now).2 = 7 ∧ ¬ (z.Now.Ability = 0 ∧ z.Wait ≤ now) := by
  have hn := h.n1
  have hn0 := h.n0
  unfold beginC at he ⊢
  rw [if_neg (by simp only [not_or, Decidable.not_not]; exact ⟨h.hr, by omega, by omega⟩)] at he ⊢
  rw [addM_small hn0 (by omega) (by decide) (by decide)] at he ⊢
  split at he
  · exact absurd rfl he
  · rename_i h1
    rw [if_neg h1]
    split at he
    · rename_i h2
      rw [if_pos h2]
      exact ⟨rfl, fun h3 => h1 ⟨h3.1, by omega⟩⟩
    · exact absurd rfl he
/-- the cast that begins -/
def newC (z t : GCasting) : GCast := if z.Now.Ability ≠ 0 then t.Next else t.Now
theorem once_begin {z : GCasting} {B : List GCast} {p : Nat} {now g : Int} {a : GAbility} (h : Once z B p now) (ha : 1 ≤ a.Id) (hc : 0 ≤ a.Cast) (hc2 : a.Cast ≤ 100) (he : (beginC z a g now).2 = 0) :
    ∃ x : GCast, newC z (beginC z a g now).1 = x ∧ x.Ability = a.Id ∧ x.Target = g ∧ x.Until = x.Since + a.Cast ∧ (z.Now.Ability = 0 → now ≤ x.Since) ∧ 0 ≤ x.Since ∧ x.Since ≤ now + 2 ∧ (∀ c, B.getLast? = some c → c.Since + 3 ≤ x.Since ∧ 0 ≤ c.Since ∧ c.Since ≤ 10000) ∧ Once (beginC z a g now).1 (B ++ [x]) p now := by
  have hn := h.n1
  have hn0 := h.n0
  have hw0 := h.w0
  have hp := h.hp
  have hdr : ∀ x, (B ++ [x]).drop p = B.drop p ++ [x] := fun x => List.drop_append_of_le_length hp
  have htk : ∀ x, (B ++ [x]).take p = B.take p := fun x => List.take_append_of_le_length hp
  have hgl : ∀ c, B.getLast? = some c → 0 ≤ c.Since := fun c hc => h.pos c (List.mem_of_getLast? hc)
  unfold beginC at he ⊢
  rw [if_neg (by simp only [not_or, Decidable.not_not]; exact ⟨h.hr, by omega, by omega⟩)] at he ⊢
  rw [addM_small hn0 (by omega) (by decide) (by decide)] at he ⊢
  split at he
  · rename_i h1
    rw [if_pos h1]
    have hnx : z.Next.Ability = 0 := by
      by_cases e : z.Next.Ability = 0
      · exact e
      · exact absurd h1.1 (h.hr.2.2 e).1
    have hs0 : 0 ≤ max now z.Wait := by omega
    have hs1 : max now z.Wait ≤ now + 2 := by omega
    have hu : addM (max now z.Wait) a.Cast = max now z.Wait + a.Cast := addM_small (by omega) (by omega) (by omega) (by omega)
    have hu3 : addM (max now z.Wait) 3 = max now z.Wait + 3 := addM_small (by omega) (by omega) (by decide) (by decide)
    have hA : ¬ a.Id = 0 := by omega
    have hN : (nowC z (fromC a g (max now z.Wait))) = ⟨⟨a.Id, g, max now z.Wait, max now z.Wait + a.Cast⟩, c0, max now z.Wait + 3⟩ := by
      simp only [nowC, fromC, hu, hu3]
      rw [if_pos (by exact hA)]
    rw [hN]
    refine ⟨⟨a.Id, g, max now z.Wait, max now z.Wait + a.Cast⟩, by unfold newC; rw [if_neg (by simpa using h1.1)], rfl, rfl, rfl, fun _ => by show now ≤ max now z.Wait; omega, hs0, hs1, fun c hc => ?_, ?_⟩
    · have h2 := h.last hnx c hc
      have h3 := hgl c hc
      have h4 := h.w1
      refine ⟨?_, h3, by omega⟩
      show c.Since + 3 ≤ max now z.Wait
      omega
    · refine ⟨⟨.inr ⟨ha, by show max now z.Wait ≤ max now z.Wait + a.Cast; omega⟩, .inl rfl, fun e => absurd rfl e⟩, by rw [List.length_append]; omega, ?_, hn0, hn, fun c hc => h.old c (by rwa [htk] at hc), fun c hc => ?_, by show 0 ≤ max now z.Wait + 3; omega, by show max now z.Wait + 3 ≤ 10000; omega, fun _ => by show max now z.Wait + a.Cast ≤ 10000; omega, fun e => absurd rfl e, fun _ c hc => ?_⟩
      · rw [hdr, h.pend]
        unfold pendC
        rw [if_pos h1.1, if_pos hnx, if_neg hA]
        simp
      · rcases List.mem_append.1 hc with hc | hc
        · exact h.pos c hc
        · rw [List.mem_singleton] at hc; subst hc; exact hs0
      · simp at hc; subst hc; show max now z.Wait + 3 ≤ max now z.Wait + 3; omega
  · rename_i h1
    rw [if_neg h1]
    split at he
    · cases he
    · rename_i h2
      rw [if_neg h2]
      simp only [not_or, Decidable.not_not] at h2
      obtain ⟨hA, hX, hU, hW⟩ := h2
      have hmem : z.Now ∈ B := List.mem_of_mem_drop (i := p) (by rw [h.pend]; unfold pendC; rw [if_neg hA]; simp)
      have hmay : z.Now.Since ≤ z.Now.Until := by
        rcases h.hr.1 with e | e
        · rw [e] at hA; exact absurd rfl hA
        · exact e.2
      have hpos := h.pos _ hmem
      have hu : addM z.Now.Until a.Cast = z.Now.Until + a.Cast := addM_small (by omega) (by omega) (by omega) (by omega)
      have hF : fromC a g z.Now.Until = ⟨a.Id, g, z.Now.Until, z.Now.Until + a.Cast⟩ := by simp only [fromC, hu]
      rw [hF]
      have hI : ¬ a.Id = 0 := by omega
      refine ⟨⟨a.Id, g, z.Now.Until, z.Now.Until + a.Cast⟩, by unfold newC; rw [if_pos (by exact hA)], rfl, rfl, rfl, fun e => absurd e hA, by show 0 ≤ z.Now.Until; omega, by show z.Now.Until ≤ now + 2; omega, fun c hc => ?_, ?_⟩
      · have h2 := h.last hX c hc
        have h3 := hgl c hc
        have h4 := h.w1
        refine ⟨?_, h3, by omega⟩
        show c.Since + 3 ≤ z.Now.Until
        omega
      · refine ⟨⟨h.hr.1, .inr ⟨ha, by show z.Now.Until ≤ z.Now.Until + a.Cast; omega⟩, fun _ => ⟨hA, rfl⟩⟩, by rw [List.length_append]; omega, ?_, hn0, hn, fun c hc => h.old c (by rwa [htk] at hc), fun c hc => ?_, h.w0, h.w1, h.un, fun _ => by show z.Now.Until + a.Cast ≤ 10000; omega, fun e => absurd e hI⟩
        · rw [hdr, h.pend]
          unfold pendC
          rw [if_neg hA, if_pos hX, if_neg hI]
          simp
        · rcases List.mem_append.1 hc with hc | hc
          · exact h.pos c hc
          · rw [List.mem_singleton] at hc; subst hc; show 0 ≤ z.Now.Until; omega
theorem once_0 : Once s0 [] 0 0 := ⟨by decide, Nat.le_refl _, rfl, Int.le_refl _, by decide, by simp, by simp, by decide, by decide, fun e => absurd rfl e, fun e => absurd rfl e, fun _ c hc => by simp at hc⟩


structure A3int where
  (f0 : Int)
  (f1 : Int)
  (f2 : Int)
  deriving DecidableEq, Inhabited
def encA3int (x : A3int) : List PV := [i64 x.f0, i64 x.f1, i64 x.f2]
abbrev aA3int (x : A3int) : AV := .agg [I x.f0, I x.f1, I x.f2]
def wfA3int (x : A3int) : Prop := (InR x.f0) ∧ (InR x.f1) ∧ (InR x.f2)
theorem encA3int_solid {l : List A3int} : ∀ p ∈ l.flatMap encA3int, solidP p = true := flat_solid (fun x p h => by simp only [encA3int, List.mem_cons, List.mem_nil_iff, or_false] at h; rcases h with rfl | rfl | rfl <;> rfl)

theorem castOnce_ok (steps : List A3int) (steps_f : Bool) : Ok Try.prog 8 [.pv (.slc steps.length steps_f (steps.flatMap encA3int))] [] (B true) [] [] := by
 refine Ok.len fun hlen => ?_
 have hl_steps : steps.length ≤ maxLen := hlen _ (by simp [lensL, lens, lensP])
 unfold maxLen at hl_steps
 refine ok_of_sem Try.func8 rfl ?_
 show Walks Try.prog _ _ ⟨[(0, .pv (.slc steps.length steps_f (steps.flatMap encA3int)))], [], 0, [], 245, 0⟩
 refine sem_seq ?_
 refine sem_region rfl ?_
 refine step_r rfl rfl trivial ?_
 refine step_nil ?_
 refine seqK_n ?_
 refine sem_seq ?_
 refine sem_region rfl ?_
 refine step_call rfl rfl rfl rfl (small17_ok ) rfl rfl rfl ?_
 refine step_r rfl rfl trivial ?_
 refine step_nil ?_
 refine seqK_n ?_
 refine sem_seq ?_
 refine sem_seq ?_
 refine sem_region rfl ?_
 refine step_r rfl rfl trivial ?_
 refine step_r rfl rfl trivial ?_
 refine step_bin rfl rfl rfl rfl rfl trivial ?_
 refine step_nil ?_
 refine seqK_n ?_
 refine sem_cond rfl (fun h1 => ?_) (fun h1 => ?_)
 ·have g1 := h1
  try simp at g1
  refine sem_seq ?_
  refine sem_region rfl ?_
  refine step_r rfl rfl trivial ?_
  refine step_r rfl rfl trivial ?_
  refine step_nil ?_
  refine seqK_n ?_
  refine sem_ret ?_
  refine seqK_r ?_
  exact answersR rfl ⟨trivial, trivial⟩ (rfl) rfl
 ·have g1 := h1
  try simp at g1
  refine sem_skip ?_
  refine seqK_n ?_
  refine sem_seq ?_
  refine sem_region rfl ?_
  refine step_r (v := (.agg [_, _, _, _, _, _, _, _, _])) rfl rfl trivial ?_
  refine step_n (o := .box [_, _, _, _, _, _, _, _, _]) (nx' := 1) rfl rfl rfl trivial ?_
  refine step_store (H' := [(0, .box [_, _, _, _, _, _, _, _, _])]) rfl rfl rfl rfl rfl rfl (Nat.le_of_ble_eq_true rfl) (.inl rfl) rfl ?_
  refine step_nil ?_
  refine seqK_n ?_
  refine sem_seq ?_
  refine sem_region rfl ?_
  refine step_n (nx' := 2) rfl rfl rfl trivial ?_
  refine step_nil ?_
  refine seqK_n ?_
  refine sem_seq ?_
  refine sem_region rfl ?_
  refine step_r rfl rfl trivial ?_
  refine step_nil ?_
  refine seqK_n ?_
  refine sem_seq ?_
  refine sem_region rfl ?_
  refine step_r rfl rfl trivial ?_
  refine step_nil ?_
  refine seqK_n ?_
  refine sem_seq ?_
  refine sem_seq ?_
  refine sem_region rfl ?_
  refine step_r rfl rfl trivial ?_
  refine step_nil ?_
  refine seqK_n ?_
  refine sem_block ?_
  refine sem_loop_of (fun a : Nat × GCasting × List GCast × Nat × Int => match a with | (k, z, Bs, p, now) => (⟨[(0, .pv (.slc steps.length steps_f (steps.flatMap encA3int))), (3, B true), (4, .ptr 0 0), (5, .ref 1 4 0 Bs.length), (6, I p), (7, I now), (8, I k)], [(0, .box [I z.Now.Ability, I z.Now.Target, I z.Now.Since, I z.Now.Until, I z.Next.Ability, I z.Next.Target, I z.Next.Since, I z.Next.Until, I z.Wait]), (1, .row 52 4 (Bs.flatMap encGCast))], 2, [], 245, 0⟩ : St)) (fun a : Nat × GCasting × List GCast × Nat × Int => match a with | (k, z, Bs, p, now) => k ≤ steps.length ∧ Once z Bs p now ∧ now ≤ 3 * (k : Int) ∧ Bs.length ≤ k) (fun a : Nat × GCasting × List GCast × Nat × Int => match a with | (k, z, Bs, p, now) => steps.length - k) (0, s0, [], 0, 0) (⟨Nat.zero_le _, once_0, by simp, Nat.le_refl _⟩) (less_of rfl ⟨⟨rfl, rfl⟩, ⟨rfl, rfl⟩, ⟨rfl, rfl⟩, ⟨rfl, rfl⟩, ⟨rfl, rfl⟩, ⟨rfl, rfl⟩, ⟨rfl, rfl⟩, trivial⟩ ⟨⟨rfl, rfl, rfl⟩, ⟨rfl, rfl, rfl⟩, trivial⟩ (fun _ _ => .inr (Nat.zero_le _))) (fun a hI => ?_)
  obtain ⟨k, z, Bs, p, now⟩ := a
  show Walks Try.prog _ _ (⟨[(0, .pv (.slc steps.length steps_f (steps.flatMap encA3int))), (3, B true), (4, .ptr 0 0), (5, .ref 1 4 0 Bs.length), (6, I p), (7, I now), (8, I k)], [(0, .box [I z.Now.Ability, I z.Now.Target, I z.Now.Since, I z.Now.Until, I z.Next.Ability, I z.Next.Target, I z.Next.Since, I z.Next.Until, I z.Wait]), (1, .row 52 4 (Bs.flatMap encGCast))], 2, [], 245, 0⟩ : St)
  refine sem_seq ?_
  refine sem_seq ?_
  refine sem_region rfl ?_
  refine step_r rfl rfl trivial ?_
  refine step_r rfl rfl trivial ?_
  refine step_r rfl rfl trivial ?_
  refine step_bin rfl rfl rfl rfl rfl trivial ?_
  refine step_nil ?_
  refine seqK_n ?_
  refine sem_cond rfl (fun h3 => ?_) (fun h3 => ?_)
  ·have hk : k < steps.length := by simpa using h3
   obtain ⟨x, hx⟩ : ∃ z_, steps[k]? = some z_ := ⟨_, List.getElem?_eq_getElem hk⟩
   obtain ⟨i1, hO, hnk, hBk⟩ := hI
   obtain ⟨m0, m1⟩ := andI_le (a := x.f1) (b := 3) (m := 3) (by decide) (by decide)
   obtain ⟨b0, b1⟩ := andI_le (a := x.f2) (b := 15) (m := 15) (by decide) (by decide)
   have hn0 := hO.n0
   have hwn : (IntKind.i64.wrap (now + (andI x.f1 3))) = now + andI x.f1 3 := by rw [IntKind.wrap_i64]; omega
   have hO := hO.later (now' := (IntKind.i64.wrap (now + (andI x.f1 3)))) (by omega) (by omega)
   have hwk : IntKind.i64.wrap ((k : Int) + 1) = (k : Int) + 1 := by rw [IntKind.wrap_i64]; omega
   have hpB := hO.hp
   have hn1 := hO.n1
   have hn0 := hO.n0
   have hw2 : IntKind.i64.wrap ((IntKind.i64.wrap (now + (andI x.f1 3))) + 2) = (IntKind.i64.wrap (now + (andI x.f1 3))) + 2 := by rw [IntKind.wrap_i64]; omega
   have hw3 : IntKind.i64.wrap ((IntKind.i64.wrap (now + (andI x.f1 3))) + 3) = (IntKind.i64.wrap (now + (andI x.f1 3))) + 3 := by rw [IntKind.wrap_i64]; omega
   refine sem_skip ?_
   refine seqK_n ?_
   refine sem_seq ?_
   refine sem_block ?_
   refine sem_seq ?_
   refine sem_region rfl ?_
   refine step_r rfl rfl trivial ?_
   refine step_r rfl rfl trivial ?_
   refine step_r rfl rfl trivial ?_
   refine step_idxS (k := k) rfl rfl rfl rfl hk (flat_ne (s := 3) (enc := encA3int) (fun _ => rfl) (by decide) hk) rfl ?_
   refine step_r rfl rfl ⟨by decide, by decide⟩ ?_
   refine step_load_one rfl rfl rfl (flat_get (s := 3) (enc := encA3int) (fun _ => rfl) hx (o := 1) rfl (by decide)) rfl ?_
   refine step_bin rfl rfl rfl rfl rfl trivial ?_
   refine step_bin rfl rfl rfl rfl rfl trivial ?_
   refine step_r rfl rfl trivial ?_
   refine step_nil ?_
   refine seqK_n ?_
   refine sem_seq ?_
   refine sem_seq ?_
   refine sem_region rfl ?_
   refine step_r rfl rfl trivial ?_
   refine step_r rfl rfl trivial ?_
   refine step_idxS (k := k) rfl rfl rfl rfl hk (flat_ne (s := 3) (enc := encA3int) (fun _ => rfl) (by decide) hk) rfl ?_
   refine step_r rfl rfl ⟨by decide, by decide⟩ ?_
   refine step_load_one rfl rfl rfl (flat_get (s := 3) (enc := encA3int) (fun _ => rfl) hx (o := 0) rfl (by decide)) rfl ?_
   refine step_bin rfl rfl rfl rfl rfl trivial ?_
   refine step_nil ?_
   refine seqK_n ?_
   refine sem_block ?_
   refine sem_seq ?_
   refine sem_seq ?_
   refine sem_region rfl ?_
   refine step_bin rfl rfl rfl rfl rfl trivial ?_
   refine step_r rfl rfl trivial ?_
   refine step_nil ?_
   refine seqK_n ?_
   refine sem_cond rfl (fun h7 => ?_) (fun h7 => ?_)
   ·have g7 := h7
    try simp at g7
    refine sem_skip ?_
    refine seqK_n ?_
    refine sem_condh1 rfl h7 ?_
    refine sem_seq ?_
    refine sem_region rfl ?_
    refine step_r rfl rfl trivial ?_
    refine step_bin rfl rfl rfl rfl rfl trivial ?_
    refine step_r rfl rfl trivial ?_
    refine step_r rfl rfl trivial ?_
    refine step_idxS (k := k) rfl rfl rfl rfl hk (flat_ne (s := 3) (enc := encA3int) (fun _ => rfl) (by decide) hk) rfl ?_
    refine step_r rfl rfl ⟨by decide, by decide⟩ ?_
    refine step_load_one rfl rfl rfl (flat_get (s := 3) (enc := encA3int) (fun _ => rfl) hx (o := 2) rfl (by decide)) rfl ?_
    refine step_bin rfl rfl rfl rfl rfl trivial ?_
    refine step_r (v := (.agg [_, _, _, _, _, _, _, _])) rfl rfl trivial ?_
    refine step_n (o := .box [_, _, _, _, _, _, _, _]) (nx' := 3) rfl rfl rfl trivial ?_
    refine step_store (H' := [(2, .box [_, _, _, _, _, _, _, _]), (0, .box [_, _, _, _, _, _, _, _, _]), (1, .row _ _ _)]) rfl rfl rfl rfl rfl rfl (Nat.le_of_ble_eq_true rfl) (.inl rfl) rfl ?_
    refine step_nil ?_
    refine seqK_n ?_
    refine sem_seq ?_
    refine sem_region rfl ?_
    refine step_r (v := (.agg [_, _, _, _, _, _, _, _, _])) rfl rfl (Nat.le_of_ble_eq_true rfl) ?_
    refine step_r (v := (.agg [_, _, _, _, _, _, _, _])) rfl rfl (Nat.le_of_ble_eq_true rfl) ?_
    refine step_r rfl rfl trivial ?_
    refine step_r rfl rfl trivial ?_
    refine step_callJ (Hin := []) (out' := .tup [(.agg [_, _, _, _, _, _, _, _, _]), _]) (H' := [(2, .box [_, _, _, _, _, _, _, _]), (0, .box [_, _, _, _, _, _, _, _, _]), (1, .row _ _ _)]) (nx' := 3) [] rfl rfl rfl rfl rfl rfl rfl rfl rfl (by (repeat' apply And.intro) <;> first | trivial | rfl | exact flat_len (fun _ => rfl) _ | exact encI_len _ | exact encB_len _ | exact encY_len _ | assumption) (begin_ok z (⟨(IntKind.i64.wrap (k + 1)), (andI x.f2 15), 0, 0, 0, 0, false, []⟩ : GAbility) k (IntKind.i64.wrap (now + (andI x.f1 3)))) rfl (by decide) rfl rfl trivial rfl rfl rfl rfl ?_
    refine step_r rfl rfl trivial ?_
    refine step_r rfl rfl trivial ?_
    refine step_r rfl rfl trivial ?_
    refine step_n (o := .box [_, _, _, _, _, _, _, _, _]) (nx' := 4) rfl rfl rfl trivial ?_
    refine step_store (H' := [(3, .box [_, _, _, _, _, _, _, _, _]), (2, .box [_, _, _, _, _, _, _, _]), (0, .box [_, _, _, _, _, _, _, _, _]), (1, .row _ _ _)]) rfl rfl rfl rfl rfl rfl (Nat.le_of_ble_eq_true rfl) (.inl rfl) rfl ?_
    refine step_r rfl rfl trivial ?_
    refine step_nil ?_
    refine seqK_n ?_
    refine sem_seq ?_
    refine sem_seq ?_
    refine sem_region rfl ?_
    refine step_r rfl rfl trivial ?_
    refine step_bin rfl rfl rfl rfl rfl trivial ?_
    refine step_nil ?_
    refine seqK_n ?_
    refine sem_cond rfl (fun h9 => ?_) (fun h9 => ?_)
    ·have g9 := h9
     try simp at g9
     have hbz := once_busy hO (a := ⟨IntKind.i64.wrap ((k : Int) + 1), (andI x.f2 15), 0, 0, 0, 0, false, []⟩) (g := (k : Int)) (by show 1 ≤ IntKind.i64.wrap ((k : Int) + 1); omega) (by show 0 ≤ andI x.f2 15; omega) (by simpa using h9)
     refine sem_seq ?_
     refine sem_seq ?_
     refine sem_region rfl ?_
     refine step_r rfl rfl trivial ?_
     refine step_bin rfl rfl rfl rfl rfl trivial ?_
     refine step_r rfl rfl trivial ?_
     refine step_gs rfl (fun h11 => ?_) (fun h11 => ?_)
     ·have h := h11
      try simp only [and_fold] at h
      rw [hbz.1] at h
      simp at h
     ·have g11 := h11
      try simp at g11
      refine step_g1 rfl h11 ?_
      refine step_r (v := (.agg [_, _, _, _, _, _, _, _, _])) rfl rfl (Nat.le_of_ble_eq_true rfl) ?_
      refine step_g1 rfl h11 ?_
      refine step_r rfl rfl trivial ?_
      refine step_g1 rfl h11 ?_
      refine step_call rfl rfl rfl rfl (free_ok z (IntKind.i64.wrap (now + (andI x.f1 3)))) rfl rfl rfl ?_
      refine step_pickF rfl h11 rfl rfl ?_
      refine step_nil ?_
      refine seqK_n ?_
      refine sem_cond rfl (fun h13 => ?_) (fun h13 => ?_)
      ·have h := h13
       try simp only [and_fold] at h
       exact absurd (by simpa using h) hbz.2
      ·have g13 := h13
       try simp at g13
       refine sem_skip ?_
       refine seqK_n ?_
       refine sem_exit ?_
       refine seqK_e ?_
       refine blkK_f rfl ?_
       refine seqK_e ?_
       refine blkK_t rfl ?_
       refine seqK_n ?_
       refine sem_region rfl ?_
       refine step_r rfl rfl trivial ?_
       refine step_bin rfl rfl rfl rfl rfl trivial ?_
       refine step_r rfl rfl trivial ?_
       refine step_nil ?_
       exact lup_again (k+1, z, Bs, p, (IntKind.i64.wrap (now + (andI x.f1 3)))) (⟨hk, hO, by rw [hwn]; push_cast; omega, (by omega)⟩) (by show steps.length - (k + 1) < steps.length - k; omega) (less_of rfl ⟨⟨rfl, rfl⟩, ⟨rfl, rfl⟩, ⟨rfl, rfl⟩, ⟨rfl, rfl⟩, ⟨rfl, rfl⟩, ⟨rfl, rfl⟩, ⟨congrArg (fun n => some (I n)) (wrapK hk (by assumption)), rfl⟩, trivial⟩ ⟨⟨rfl, rfl, rfl⟩, ⟨rfl, rfl, rfl⟩, trivial⟩ (fun _ _ => .inr (Nat.zero_le _)))
    ·have g9 := h9
     try simp at g9
     obtain ⟨c, c1, c2, c3, c4, c5, c6, c7, c8, c9⟩ := once_begin hO (a := ⟨IntKind.i64.wrap ((k : Int) + 1), (andI x.f2 15), 0, 0, 0, 0, false, []⟩) (g := (k : Int)) (by show 1 ≤ IntKind.i64.wrap ((k : Int) + 1); omega) (by show 0 ≤ andI x.f2 15; omega) (by show andI x.f2 15 ≤ 100; omega) (by simpa using h9)
     have hcw : IntKind.i64.wrap (c.Until - c.Since) = andI x.f2 15 := by rw [c4, IntKind.wrap_i64]; show _ = andI x.f2 15; simp only; omega
     refine sem_skip ?_
     refine seqK_n ?_
     refine sem_seq ?_
     refine sem_region rfl ?_
     refine step_r rfl rfl (by decide) ?_
     refine step_r (v := (.agg [_, _, _, _])) rfl rfl (Nat.le_of_ble_eq_true rfl) ?_
     refine step_n (o := .box [_, _, _, _]) (nx' := 5) rfl rfl rfl trivial ?_
     refine step_store (H' := [(4, .box [_, _, _, _]), (3, .box [_, _, _, _, _, _, _, _, _]), (2, .box [_, _, _, _, _, _, _, _]), (0, .box [_, _, _, _, _, _, _, _, _]), (1, .row _ _ _)]) rfl rfl rfl rfl rfl rfl (Nat.le_of_ble_eq_true rfl) (.inl rfl) rfl ?_
     refine step_nil ?_
     refine seqK_n ?_
     refine sem_seq ?_
     refine sem_seq ?_
     refine sem_region rfl ?_
     refine step_r rfl rfl (by decide) ?_
     refine step_r rfl rfl (by decide) ?_
     refine step_r rfl rfl trivial ?_
     refine step_bin rfl rfl rfl rfl rfl trivial ?_
     refine step_nil ?_
     refine seqK_n ?_
     refine sem_cond rfl (fun h15 => ?_) (fun h15 => ?_)
     ·have g15 := h15
      try simp at g15
      have hz : ¬ z.Now.Ability = 0 := by simpa using h15
      have ec : (beginC z ⟨IntKind.i64.wrap ((k : Int) + 1), (andI x.f2 15), 0, 0, 0, 0, false, []⟩ (k : Int) (IntKind.i64.wrap (now + (andI x.f1 3)))).1.Next = c := by rw [← c1]; unfold newC; rw [if_pos hz]
      refine sem_region rfl ?_
      refine step_r rfl rfl (by decide) ?_
      refine step_r (v := (.agg [_, _, _, _])) rfl rfl (Nat.le_of_ble_eq_true rfl) ?_
      refine step_store (H' := [(4, .box [_, _, _, _]), (3, .box [_, _, _, _, _, _, _, _, _]), (2, .box [_, _, _, _, _, _, _, _]), (0, .box [_, _, _, _, _, _, _, _, _]), (1, .row _ _ _)]) rfl rfl rfl rfl rfl rfl (Nat.le_of_ble_eq_true rfl) (.inl rfl) rfl ?_
      refine step_nil ?_
      refine seqK_n ?_
      refine sem_seq ?_
      refine sem_seq ?_
      refine sem_drawn rfl (by decide +kernel) rfl ?_
      refine step_r rfl rfl (by decide) ?_
      refine step_r rfl rfl trivial ?_
      refine step_r rfl rfl trivial ?_
      refine step_bin rfl rfl rfl rfl rfl trivial ?_
      refine step_bin rfl rfl rfl rfl rfl trivial ?_
      refine step_r rfl rfl trivial ?_
      refine step_gs rfl (fun h17 => ?_) (fun h17 => ?_)
      ·have h := h17
       try simp only [and_fold] at h
       rw [ec, c2] at h
       simp at h
      ·have g17 := h17
       try simp at g17
       refine step_g1 rfl h17 ?_
       refine step_r rfl rfl (by decide) ?_
       refine step_g1 rfl h17 ?_
       refine step_r rfl rfl trivial ?_
       refine step_g1 rfl h17 ?_
       refine step_r rfl rfl trivial ?_
       refine step_g1 rfl h17 ?_
       refine step_bin rfl rfl rfl rfl rfl trivial ?_
       refine step_pickF rfl h17 rfl rfl ?_
       refine step_r rfl rfl trivial ?_
       refine step_gs rfl (fun h19 => ?_) (fun h19 => ?_)
       ·have h := h19
        try simp only [and_fold] at h
        rw [ec, c3] at h
        simp at h
       ·have g19 := h19
        try simp at g19
        refine step_g1 rfl h19 ?_
        refine step_r rfl rfl (by decide) ?_
        refine step_g1 rfl h19 ?_
        refine step_r rfl rfl trivial ?_
        refine step_g1 rfl h19 ?_
        refine step_r rfl rfl (by decide) ?_
        refine step_g1 rfl h19 ?_
        refine step_r rfl rfl trivial ?_
        refine step_g1 rfl h19 ?_
        refine step_bin rfl rfl rfl rfl rfl trivial ?_
        refine step_g1 rfl h19 ?_
        refine step_r rfl rfl (by decide) ?_
        refine step_g1 rfl h19 ?_
        refine step_r rfl rfl trivial ?_
        refine step_g1 rfl h19 ?_
        refine step_bin rfl rfl rfl rfl rfl trivial ?_
        refine step_pickF rfl h19 rfl rfl ?_
        refine step_r rfl rfl trivial ?_
        refine step_gs rfl (fun h21 => ?_) (fun h21 => ?_)
        ·have h := h21
         try simp only [and_fold] at h
         rw [ec, hcw] at h
         simp at h
        ·have g21 := h21
         try simp at g21
         refine step_g1 rfl h21 ?_
         refine step_r rfl rfl (by decide) ?_
         refine step_g1 rfl h21 ?_
         refine step_r rfl rfl (by decide) ?_
         refine step_g1 rfl h21 ?_
         refine step_r rfl rfl trivial ?_
         refine step_g1 rfl h21 ?_
         refine step_bin rfl rfl rfl rfl rfl trivial ?_
         refine step_g1 rfl h21 ?_
         refine step_r rfl rfl trivial ?_
         refine step_gs rfl (fun h23 => ?_) (fun h23 => ?_)
         ·have h := h23
          simp at h
          exact absurd h hz
         ·have g23 := h23
          try simp at g23
          skip
          refine step_g0 rfl h23 rfl ?_
          refine step_g0 rfl h23 rfl ?_
          refine step_g0 rfl h23 rfl ?_
          refine step_g0 rfl h23 rfl ?_
          refine step_g1 rfl h21 ?_
          refine step_pickF rfl h23 rfl rfl ?_
          refine step_pickF rfl h21 rfl rfl ?_
          refine step_r rfl rfl trivial ?_
          refine step_gt rfl ?_
          refine step_r rfl rfl (by decide) ?_
          refine step_gt rfl ?_
          refine step_r rfl rfl trivial ?_
          refine step_gt rfl ?_
          refine step_r rfl rfl trivial ?_
          refine step_gt rfl ?_
          refine step_bin rfl rfl rfl rfl rfl trivial ?_
          refine step_gt rfl ?_
          refine step_bin rfl rfl rfl rfl rfl trivial ?_
          refine step_r rfl rfl trivial ?_
          refine step_r rfl rfl trivial ?_
          refine step_gs rfl (fun h25 => ?_) (fun h25 => ?_)
          ·have h := of_decide_eq_true h25
           try simp only [and_fold] at h
           rw [ec, hw2] at h
           omega
          ·have g25 := h25
           try simp at g25
           refine step_g1 rfl h25 ?_
           refine step_r rfl rfl trivial ?_
           refine step_g1 rfl h25 ?_
           refine step_r rfl rfl trivial ?_
           refine step_g1 rfl h25 ?_
           refine step_bin rfl rfl rfl rfl rfl trivial ?_
           refine step_g1 rfl h25 ?_
           refine step_r rfl rfl trivial ?_
           refine step_gs rfl (fun h27 => ?_) (fun h27 => ?_)
           ·have g27 := h27
            try simp at g27
            have hB0 : 0 < Bs.length := by have h := h27; simp at h; omega
            have hB1 : Bs.length - 1 < Bs.length := by omega
            obtain ⟨bl, hbl⟩ : ∃ z_, Bs[Bs.length - 1]? = some z_ := ⟨_, List.getElem?_eq_getElem hB1⟩
            obtain ⟨c81, c82, c83⟩ := c8 bl (by rw [List.getLast?_eq_getElem?]; exact hbl)
            have hw4 : IntKind.i64.wrap (bl.Since + 3) = bl.Since + 3 := by rw [IntKind.wrap_i64]; omega
            refine step_g1 rfl h27 ?_
            refine step_r rfl rfl (by decide) ?_
            refine step_g1 rfl h27 ?_
            refine step_r rfl rfl trivial ?_
            refine step_g1 rfl h27 ?_
            refine step_r rfl rfl trivial ?_
            refine step_g1 rfl h27 ?_
            refine step_r rfl rfl trivial ?_
            refine step_g1 rfl h27 ?_
            refine step_r rfl rfl trivial ?_
            refine step_g1 rfl h27 ?_
            refine step_bin rfl rfl rfl rfl rfl trivial ?_
            refine step_g1 rfl h27 ?_
            refine step_idxR' (k := (Bs.length - 1)) rfl rfl (by rw [IntKind.wrap_i64]; omega) rfl rfl hB1 rfl ?_
            refine step_g1 rfl h27 ?_
            refine step_r rfl rfl (by decide) ?_
            refine step_g1 rfl h27 ?_
            refine step_load_oneR rfl rfl rfl rfl (flat_get (s := 4) (enc := encGCast) (fun _ => rfl) hbl (o := 2) rfl (by decide)) rfl ?_
            refine step_g1 rfl h27 ?_
            refine step_bin rfl rfl rfl rfl rfl trivial ?_
            refine step_g1 rfl h27 ?_
            refine step_bin rfl rfl rfl rfl rfl trivial ?_
            refine step_g1 rfl h25 ?_
            refine step_pickT rfl h27 rfl rfl ?_
            refine step_pickF rfl h25 rfl rfl ?_
            refine step_nil ?_
            refine seqK_n ?_
            refine sem_cond rfl (fun h29 => ?_) (fun h29 => ?_)
            ·have h := of_decide_eq_true h29
             try simp only [and_fold] at h
             rw [ec, hw4] at h
             omega
            ·have g29 := h29
             try simp at g29
             refine sem_skip ?_
             refine seqK_n ?_
             refine sem_seq ?_
             refine sem_region rfl ?_
             refine step_r rfl rfl trivial ?_
             refine step_r (v := (.agg [_, _, _, _])) rfl rfl (Nat.le_of_ble_eq_true rfl) ?_
             refine step_n (o := .row _ _ [_, _, _, _]) (nx' := 6) rfl rfl rfl (by decide) ?_
             refine step_appendC (m := 1) (new := [_, _, _, _]) (cs' := (Bs ++ [((beginC z (⟨(IntKind.i64.wrap (k + 1)), (andI x.f2 15), 0, 0, 0, 0, false, []⟩ : GAbility) k (IntKind.i64.wrap (now + (andI x.f1 3)))).1).Next]).flatMap encGCast) (n' := (Bs ++ [((beginC z (⟨(IntKind.i64.wrap (k + 1)), (andI x.f2 15), 0, 0, 0, 0, false, []⟩ : GAbility) k (IntKind.i64.wrap (now + (andI x.f1 3)))).1).Next]).length) (H' := [(5, .row _ _ _), (4, .box [_, _, _, _]), (3, .box [_, _, _, _, _, _, _, _, _]), (2, .box [_, _, _, _, _, _, _, _]), (0, .box [_, _, _, _, _, _, _, _, _]), (1, .row _ _ _)]) rfl rfl rfl (rfl) rfl rfl rfl rfl rfl rfl (flat_len (s := 4) (enc := encGCast) (fun _ => rfl) Bs) (rfl) (by first | decide | (unfold maxGrow; omega) | (unfold maxGrow; simp; omega)) (len_snoc Bs _) (((flat_snoc (enc := encGCast) (l := Bs) (((beginC z (⟨(IntKind.i64.wrap (k + 1)), (andI x.f2 15), 0, 0, 0, 0, false, []⟩ : GAbility) k (IntKind.i64.wrap (now + (andI x.f1 3)))).1).Next))).symm) (.inl rfl) rfl rfl (.keep rfl (.keep rfl (.keep rfl (.keep rfl (.keep rfl (.keep rfl .nil)))))) (.keep rfl (.keep rfl (.lose (v' := .undef) rfl (.keep rfl (.keep rfl (.keep rfl (.keep rfl (.keep rfl (.lose (v' := .undef) rfl (.lose (v' := .undef) rfl (.keep rfl (.keep rfl (.lose (v' := .undef) rfl (.lose (v' := .undef) rfl (.keep rfl (.keep rfl (.keep rfl (.keep rfl (.keep rfl (.lose (v' := .undef) rfl (.keep rfl (.keep rfl (.keep rfl (.keep rfl (.keep rfl (.keep rfl (.keep rfl (.keep rfl (.keep rfl (.keep rfl (.keep rfl (.keep rfl (.keep rfl (.keep rfl (.keep rfl (.keep rfl (.keep rfl (.keep rfl (.keep rfl (.keep rfl (.keep rfl (.keep rfl (.keep rfl (.keep rfl (.keep rfl (.keep rfl (.keep rfl (.keep rfl (.keep rfl (.keep rfl (.keep rfl (.keep rfl (.keep rfl (.keep rfl (.keep rfl (.keep rfl (.keep rfl (.keep rfl (.keep rfl (.keep rfl (.keep rfl (.keep rfl (.keep rfl (.keep rfl (.keep rfl (.keep rfl (.keep rfl (.keep rfl (.keep rfl (.keep rfl (.keep rfl (.keep rfl (.keep rfl (.keep rfl (.keep rfl (.keep rfl (.keep rfl (.keep rfl (.keep rfl (.keep rfl (.keep rfl (.keep rfl (.keep rfl (.keep rfl (.keep rfl (.keep rfl (.keep rfl (.keep rfl (.keep rfl (.keep rfl (.keep rfl (.keep rfl (.keep rfl (.keep rfl (.keep rfl (.keep rfl (.keep rfl (.keep rfl (.keep rfl (.keep rfl (.keep rfl (.keep rfl (.keep rfl (.keep rfl (.keep rfl (.keep rfl (.keep rfl (.keep rfl (.keep rfl (.keep rfl (.keep rfl (.keep rfl (.keep rfl (.keep rfl (.keep rfl (.keep rfl (.lose (v' := .undef) rfl (.keep rfl (.keep rfl (.keep rfl .nil)))))))))))))))))))))))))))))))))))))))))))))))))))))))))))))))))))))))))))))))))))))))))))))))))))))))))))))))))))))))) ?_
             refine step_r rfl rfl trivial ?_
             refine step_nil ?_
             refine seqK_n ?_
             refine sem_region rfl ?_
             refine step_r (v := (.agg [_, _, _, _, _, _, _, _, _])) rfl rfl (Nat.le_of_ble_eq_true rfl) ?_
             refine step_store (H' := [(5, .row _ _ _), (4, .box [_, _, _, _]), (3, .box [_, _, _, _, _, _, _, _, _]), (2, .box [_, _, _, _, _, _, _, _]), (0, .box [_, _, _, _, _, _, _, _, _]), (1, .row _ _ _)]) rfl rfl rfl rfl rfl rfl (Nat.le_of_ble_eq_true rfl) (.inl rfl) rfl ?_
             refine step_nil ?_
             refine blkK_n ?_
             refine seqK_n ?_
             refine sem_seq ?_
             refine sem_region rfl ?_
             refine step_r (v := (.agg [_, _, _, _, _, _, _, _, _])) rfl rfl (Nat.le_of_ble_eq_true rfl) ?_
             refine step_call rfl rfl rfl rfl (rightC_ok ((beginC z (⟨(IntKind.i64.wrap (k + 1)), (andI x.f2 15), 0, 0, 0, 0, false, []⟩ : GAbility) k (IntKind.i64.wrap (now + (andI x.f1 3)))).1)) rfl rfl rfl ?_
             refine step_r rfl rfl trivial ?_
             refine step_nil ?_
             refine seqK_n ?_
             refine sem_cond rfl (fun h30 => ?_) (fun h30 => ?_)
             ·have h := h30
              simp at h
              exact absurd c9.hr h
             ·have g30 := h30
              try simp at g30
              refine sem_skip ?_
              refine blkK_n ?_
              refine seqK_n ?_
              refine sem_region rfl ?_
              refine step_r rfl rfl trivial ?_
              refine step_bin rfl rfl rfl rfl rfl trivial ?_
              refine step_r rfl rfl trivial ?_
              refine step_nil ?_
              exact lup_again (k+1, (beginC z ⟨IntKind.i64.wrap ((k : Int) + 1), (andI x.f2 15), 0, 0, 0, 0, false, []⟩ (k : Int) (IntKind.i64.wrap (now + (andI x.f1 3)))).1, Bs ++ [(beginC z ⟨IntKind.i64.wrap ((k : Int) + 1), (andI x.f2 15), 0, 0, 0, 0, false, []⟩ (k : Int) (IntKind.i64.wrap (now + (andI x.f1 3)))).1.Next], p, (IntKind.i64.wrap (now + (andI x.f1 3)))) (⟨hk, (by rw [ec]; exact c9), by rw [hwn]; push_cast; omega, (by simp; omega)⟩) (by show steps.length - (k + 1) < steps.length - k; omega) (less_of rfl ⟨⟨rfl, rfl⟩, ⟨rfl, rfl⟩, ⟨rfl, rfl⟩, ⟨rfl, rfl⟩, ⟨rfl, rfl⟩, ⟨rfl, rfl⟩, ⟨congrArg (fun n => some (I n)) (wrapK hk (by assumption)), rfl⟩, trivial⟩ ⟨⟨rfl, rfl, rfl⟩, ⟨rfl, rfl, rfl⟩, trivial⟩ (fun _ _ => .inr (Nat.zero_le _)))
           ·have g27 := h27
            try simp at g27
            refine step_g0 rfl h27 rfl ?_
            refine step_g0 rfl h27 rfl ?_
            refine step_g0 rfl h27 rfl ?_
            refine step_g0 rfl h27 rfl ?_
            refine step_g0 rfl h27 rfl ?_
            refine step_g0 rfl h27 rfl ?_
            refine step_g0 rfl h27 rfl ?_
            refine step_g0 rfl h27 rfl ?_
            refine step_g0 rfl h27 rfl ?_
            refine step_g0 rfl h27 rfl ?_
            refine step_g0 rfl h27 rfl ?_
            refine step_g1 rfl h25 ?_
            refine step_pickF rfl h27 rfl rfl ?_
            refine step_pickF rfl h25 rfl rfl ?_
            refine step_nil ?_
            refine seqK_n ?_
            refine sem_condF rfl ?_
            refine sem_skip ?_
            refine seqK_n ?_
            refine sem_seq ?_
            refine sem_region rfl ?_
            refine step_r rfl rfl trivial ?_
            refine step_r (v := (.agg [_, _, _, _])) rfl rfl (Nat.le_of_ble_eq_true rfl) ?_
            refine step_n (o := .row _ _ [_, _, _, _]) (nx' := 6) rfl rfl rfl (by decide) ?_
            refine step_appendC (m := 1) (new := [_, _, _, _]) (cs' := (Bs ++ [((beginC z (⟨(IntKind.i64.wrap (k + 1)), (andI x.f2 15), 0, 0, 0, 0, false, []⟩ : GAbility) k (IntKind.i64.wrap (now + (andI x.f1 3)))).1).Next]).flatMap encGCast) (n' := (Bs ++ [((beginC z (⟨(IntKind.i64.wrap (k + 1)), (andI x.f2 15), 0, 0, 0, 0, false, []⟩ : GAbility) k (IntKind.i64.wrap (now + (andI x.f1 3)))).1).Next]).length) (H' := [(5, .row _ _ _), (4, .box [_, _, _, _]), (3, .box [_, _, _, _, _, _, _, _, _]), (2, .box [_, _, _, _, _, _, _, _]), (0, .box [_, _, _, _, _, _, _, _, _]), (1, .row _ _ _)]) rfl rfl rfl (rfl) rfl rfl rfl rfl rfl rfl (flat_len (s := 4) (enc := encGCast) (fun _ => rfl) Bs) (rfl) (by first | decide | (unfold maxGrow; omega) | (unfold maxGrow; simp; omega)) (len_snoc Bs _) (((flat_snoc (enc := encGCast) (l := Bs) (((beginC z (⟨(IntKind.i64.wrap (k + 1)), (andI x.f2 15), 0, 0, 0, 0, false, []⟩ : GAbility) k (IntKind.i64.wrap (now + (andI x.f1 3)))).1).Next))).symm) (.inl rfl) rfl rfl (.keep rfl (.keep rfl (.keep rfl (.keep rfl (.keep rfl (.keep rfl .nil)))))) (.keep rfl (.keep rfl (.lose (v' := .undef) rfl (.keep rfl (.keep rfl (.keep rfl (.keep rfl (.keep rfl (.keep rfl (.keep rfl (.keep rfl (.keep rfl (.keep rfl (.keep rfl (.keep rfl (.keep rfl (.keep rfl (.keep rfl (.keep rfl (.lose (v' := .undef) rfl (.keep rfl (.keep rfl (.keep rfl (.keep rfl (.keep rfl (.keep rfl (.keep rfl (.keep rfl (.keep rfl (.keep rfl (.keep rfl (.keep rfl (.keep rfl (.keep rfl (.keep rfl (.keep rfl (.keep rfl (.keep rfl (.keep rfl (.keep rfl (.keep rfl (.keep rfl (.keep rfl (.keep rfl (.keep rfl (.keep rfl (.keep rfl (.keep rfl (.keep rfl (.keep rfl (.keep rfl (.keep rfl (.keep rfl (.keep rfl (.keep rfl (.keep rfl (.keep rfl (.keep rfl (.keep rfl (.keep rfl (.keep rfl (.keep rfl (.keep rfl (.keep rfl (.keep rfl (.keep rfl (.keep rfl (.keep rfl (.keep rfl (.keep rfl (.keep rfl (.keep rfl (.keep rfl (.keep rfl (.keep rfl (.keep rfl (.keep rfl (.keep rfl (.keep rfl (.keep rfl (.keep rfl (.keep rfl (.keep rfl (.keep rfl (.keep rfl (.keep rfl (.keep rfl (.keep rfl (.keep rfl (.keep rfl (.keep rfl (.keep rfl (.keep rfl (.keep rfl (.keep rfl (.keep rfl (.keep rfl (.keep rfl (.keep rfl (.keep rfl (.keep rfl (.keep rfl (.keep rfl (.keep rfl (.keep rfl (.keep rfl (.keep rfl (.keep rfl (.keep rfl (.keep rfl (.keep rfl (.keep rfl (.keep rfl (.keep rfl (.keep rfl (.keep rfl (.lose (v' := .undef) rfl (.keep rfl (.keep rfl (.keep rfl .nil)))))))))))))))))))))))))))))))))))))))))))))))))))))))))))))))))))))))))))))))))))))))))))))))))))))))))))))))))))))))) ?_
            refine step_r rfl rfl trivial ?_
            refine step_nil ?_
            refine seqK_n ?_
            refine sem_region rfl ?_
            refine step_r (v := (.agg [_, _, _, _, _, _, _, _, _])) rfl rfl (Nat.le_of_ble_eq_true rfl) ?_
            refine step_store (H' := [(5, .row _ _ _), (4, .box [_, _, _, _]), (3, .box [_, _, _, _, _, _, _, _, _]), (2, .box [_, _, _, _, _, _, _, _]), (0, .box [_, _, _, _, _, _, _, _, _]), (1, .row _ _ _)]) rfl rfl rfl rfl rfl rfl (Nat.le_of_ble_eq_true rfl) (.inl rfl) rfl ?_
            refine step_nil ?_
            refine blkK_n ?_
            refine seqK_n ?_
            refine sem_seq ?_
            refine sem_region rfl ?_
            refine step_r (v := (.agg [_, _, _, _, _, _, _, _, _])) rfl rfl (Nat.le_of_ble_eq_true rfl) ?_
            refine step_call rfl rfl rfl rfl (rightC_ok ((beginC z (⟨(IntKind.i64.wrap (k + 1)), (andI x.f2 15), 0, 0, 0, 0, false, []⟩ : GAbility) k (IntKind.i64.wrap (now + (andI x.f1 3)))).1)) rfl rfl rfl ?_
            refine step_r rfl rfl trivial ?_
            refine step_nil ?_
            refine seqK_n ?_
            refine sem_cond rfl (fun h32 => ?_) (fun h32 => ?_)
            ·have h := h32
             simp at h
             exact absurd c9.hr h
            ·have g32 := h32
             try simp at g32
             refine sem_skip ?_
             refine blkK_n ?_
             refine seqK_n ?_
             refine sem_region rfl ?_
             refine step_r rfl rfl trivial ?_
             refine step_bin rfl rfl rfl rfl rfl trivial ?_
             refine step_r rfl rfl trivial ?_
             refine step_nil ?_
             exact lup_again (k+1, (beginC z ⟨IntKind.i64.wrap ((k : Int) + 1), (andI x.f2 15), 0, 0, 0, 0, false, []⟩ (k : Int) (IntKind.i64.wrap (now + (andI x.f1 3)))).1, Bs ++ [(beginC z ⟨IntKind.i64.wrap ((k : Int) + 1), (andI x.f2 15), 0, 0, 0, 0, false, []⟩ (k : Int) (IntKind.i64.wrap (now + (andI x.f1 3)))).1.Next], p, (IntKind.i64.wrap (now + (andI x.f1 3)))) (⟨hk, (by rw [ec]; exact c9), by rw [hwn]; push_cast; omega, (by simp; omega)⟩) (by show steps.length - (k + 1) < steps.length - k; omega) (less_of rfl ⟨⟨rfl, rfl⟩, ⟨rfl, rfl⟩, ⟨rfl, rfl⟩, ⟨rfl, rfl⟩, ⟨rfl, rfl⟩, ⟨rfl, rfl⟩, ⟨congrArg (fun n => some (I n)) (wrapK hk (by assumption)), rfl⟩, trivial⟩ ⟨⟨rfl, rfl, rfl⟩, ⟨rfl, rfl, rfl⟩, trivial⟩ (fun _ _ => .inr (Nat.zero_le _)))
     ·have g15 := h15
      try simp at g15
      have hz : z.Now.Ability = 0 := by simpa using h15
      have ec : (beginC z ⟨IntKind.i64.wrap ((k : Int) + 1), (andI x.f2 15), 0, 0, 0, 0, false, []⟩ (k : Int) (IntKind.i64.wrap (now + (andI x.f1 3)))).1.Now = c := by rw [← c1]; unfold newC; rw [if_neg (by simpa using hz)]
      refine sem_skip ?_
      refine seqK_n ?_
      refine sem_seq ?_
      refine sem_seq ?_
      refine sem_drawn rfl (by decide +kernel) rfl ?_
      refine step_r rfl rfl (by decide) ?_
      refine step_r rfl rfl trivial ?_
      refine step_r rfl rfl trivial ?_
      refine step_bin rfl rfl rfl rfl rfl trivial ?_
      refine step_bin rfl rfl rfl rfl rfl trivial ?_
      refine step_r rfl rfl trivial ?_
      refine step_gs rfl (fun h35 => ?_) (fun h35 => ?_)
      ·have h := h35
       try simp only [and_fold] at h
       rw [ec, c2] at h
       simp at h
      ·have g35 := h35
       try simp at g35
       refine step_g1 rfl h35 ?_
       refine step_r rfl rfl (by decide) ?_
       refine step_g1 rfl h35 ?_
       refine step_r rfl rfl trivial ?_
       refine step_g1 rfl h35 ?_
       refine step_r rfl rfl trivial ?_
       refine step_g1 rfl h35 ?_
       refine step_bin rfl rfl rfl rfl rfl trivial ?_
       refine step_pickF rfl h35 rfl rfl ?_
       refine step_r rfl rfl trivial ?_
       refine step_gs rfl (fun h37 => ?_) (fun h37 => ?_)
       ·have h := h37
        try simp only [and_fold] at h
        rw [ec, c3] at h
        simp at h
       ·have g37 := h37
        try simp at g37
        refine step_g1 rfl h37 ?_
        refine step_r rfl rfl (by decide) ?_
        refine step_g1 rfl h37 ?_
        refine step_r rfl rfl trivial ?_
        refine step_g1 rfl h37 ?_
        refine step_r rfl rfl (by decide) ?_
        refine step_g1 rfl h37 ?_
        refine step_r rfl rfl trivial ?_
        refine step_g1 rfl h37 ?_
        refine step_bin rfl rfl rfl rfl rfl trivial ?_
        refine step_g1 rfl h37 ?_
        refine step_r rfl rfl (by decide) ?_
        refine step_g1 rfl h37 ?_
        refine step_r rfl rfl trivial ?_
        refine step_g1 rfl h37 ?_
        refine step_bin rfl rfl rfl rfl rfl trivial ?_
        refine step_pickF rfl h37 rfl rfl ?_
        refine step_r rfl rfl trivial ?_
        refine step_gs rfl (fun h39 => ?_) (fun h39 => ?_)
        ·have h := h39
         try simp only [and_fold] at h
         rw [ec, hcw] at h
         simp at h
        ·have g39 := h39
         try simp at g39
         refine step_g1 rfl h39 ?_
         refine step_r rfl rfl (by decide) ?_
         refine step_g1 rfl h39 ?_
         refine step_r rfl rfl (by decide) ?_
         refine step_g1 rfl h39 ?_
         refine step_r rfl rfl trivial ?_
         refine step_g1 rfl h39 ?_
         refine step_bin rfl rfl rfl rfl rfl trivial ?_
         refine step_g1 rfl h39 ?_
         refine step_r rfl rfl trivial ?_
         refine step_gs rfl (fun h41 => ?_) (fun h41 => ?_)
         ·have g41 := h41
          try simp at g41
          skip
          refine step_g1 rfl h41 ?_
          refine step_r rfl rfl (by decide) ?_
          refine step_g1 rfl h41 ?_
          refine step_r rfl rfl trivial ?_
          refine step_g1 rfl h41 ?_
          refine step_r rfl rfl trivial ?_
          refine step_g1 rfl h41 ?_
          refine step_bin rfl rfl rfl rfl rfl trivial ?_
          refine step_g1 rfl h39 ?_
          refine step_pickT rfl h41 rfl rfl ?_
          refine step_pickF rfl h39 rfl rfl ?_
          refine step_r rfl rfl trivial ?_
          refine step_gs rfl (fun h43 => ?_) (fun h43 => ?_)
          ·have h := of_decide_eq_true h43
           try simp only [and_fold] at h
           rw [ec] at h
           have h2 := c5 hz
           omega
          ·have g43 := h43
           try simp at g43
           refine step_g1 rfl h43 ?_
           refine step_r rfl rfl (by decide) ?_
           refine step_g1 rfl h43 ?_
           refine step_r rfl rfl trivial ?_
           refine step_g1 rfl h43 ?_
           refine step_r rfl rfl trivial ?_
           refine step_g1 rfl h43 ?_
           refine step_bin rfl rfl rfl rfl rfl trivial ?_
           refine step_g1 rfl h43 ?_
           refine step_bin rfl rfl rfl rfl rfl trivial ?_
           refine step_pickF rfl h43 rfl rfl ?_
           refine step_r rfl rfl trivial ?_
           refine step_gs rfl (fun h45 => ?_) (fun h45 => ?_)
           ·have h := of_decide_eq_true h45
            try simp only [and_fold] at h
            rw [ec, hw2] at h
            omega
           ·have g45 := h45
            try simp at g45
            refine step_g1 rfl h45 ?_
            refine step_r rfl rfl trivial ?_
            refine step_g1 rfl h45 ?_
            refine step_r rfl rfl trivial ?_
            refine step_g1 rfl h45 ?_
            refine step_bin rfl rfl rfl rfl rfl trivial ?_
            refine step_g1 rfl h45 ?_
            refine step_r rfl rfl trivial ?_
            refine step_gs rfl (fun h47 => ?_) (fun h47 => ?_)
            ·have g47 := h47
             try simp at g47
             have hB0 : 0 < Bs.length := by have h := h47; simp at h; omega
             have hB1 : Bs.length - 1 < Bs.length := by omega
             obtain ⟨bl, hbl⟩ : ∃ z_, Bs[Bs.length - 1]? = some z_ := ⟨_, List.getElem?_eq_getElem hB1⟩
             obtain ⟨c81, c82, c83⟩ := c8 bl (by rw [List.getLast?_eq_getElem?]; exact hbl)
             have hw4 : IntKind.i64.wrap (bl.Since + 3) = bl.Since + 3 := by rw [IntKind.wrap_i64]; omega
             refine step_g1 rfl h47 ?_
             refine step_r rfl rfl (by decide) ?_
             refine step_g1 rfl h47 ?_
             refine step_r rfl rfl trivial ?_
             refine step_g1 rfl h47 ?_
             refine step_r rfl rfl trivial ?_
             refine step_g1 rfl h47 ?_
             refine step_r rfl rfl trivial ?_
             refine step_g1 rfl h47 ?_
             refine step_r rfl rfl trivial ?_
             refine step_g1 rfl h47 ?_
             refine step_bin rfl rfl rfl rfl rfl trivial ?_
             refine step_g1 rfl h47 ?_
             refine step_idxR' (k := (Bs.length - 1)) rfl rfl (by rw [IntKind.wrap_i64]; omega) rfl rfl hB1 rfl ?_
             refine step_g1 rfl h47 ?_
             refine step_r rfl rfl (by decide) ?_
             refine step_g1 rfl h47 ?_
             refine step_load_oneR rfl rfl rfl rfl (flat_get (s := 4) (enc := encGCast) (fun _ => rfl) hbl (o := 2) rfl (by decide)) rfl ?_
             refine step_g1 rfl h47 ?_
             refine step_bin rfl rfl rfl rfl rfl trivial ?_
             refine step_g1 rfl h47 ?_
             refine step_bin rfl rfl rfl rfl rfl trivial ?_
             refine step_g1 rfl h45 ?_
             refine step_pickT rfl h47 rfl rfl ?_
             refine step_pickF rfl h45 rfl rfl ?_
             refine step_nil ?_
             refine seqK_n ?_
             refine sem_cond rfl (fun h49 => ?_) (fun h49 => ?_)
             ·have h := of_decide_eq_true h49
              try simp only [and_fold] at h
              rw [ec, hw4] at h
              omega
             ·have g49 := h49
              try simp at g49
              refine sem_skip ?_
              refine seqK_n ?_
              refine sem_seq ?_
              refine sem_region rfl ?_
              refine step_r rfl rfl trivial ?_
              refine step_r (v := (.agg [_, _, _, _])) rfl rfl (Nat.le_of_ble_eq_true rfl) ?_
              refine step_n (o := .row _ _ [_, _, _, _]) (nx' := 6) rfl rfl rfl (by decide) ?_
              refine step_appendC (m := 1) (new := [_, _, _, _]) (cs' := (Bs ++ [((beginC z (⟨(IntKind.i64.wrap (k + 1)), (andI x.f2 15), 0, 0, 0, 0, false, []⟩ : GAbility) k (IntKind.i64.wrap (now + (andI x.f1 3)))).1).Now]).flatMap encGCast) (n' := (Bs ++ [((beginC z (⟨(IntKind.i64.wrap (k + 1)), (andI x.f2 15), 0, 0, 0, 0, false, []⟩ : GAbility) k (IntKind.i64.wrap (now + (andI x.f1 3)))).1).Now]).length) (H' := [(5, .row _ _ _), (4, .box [_, _, _, _]), (3, .box [_, _, _, _, _, _, _, _, _]), (2, .box [_, _, _, _, _, _, _, _]), (0, .box [_, _, _, _, _, _, _, _, _]), (1, .row _ _ _)]) rfl rfl rfl (rfl) rfl rfl rfl rfl rfl rfl (flat_len (s := 4) (enc := encGCast) (fun _ => rfl) Bs) (rfl) (by first | decide | (unfold maxGrow; omega) | (unfold maxGrow; simp; omega)) (len_snoc Bs _) (((flat_snoc (enc := encGCast) (l := Bs) (((beginC z (⟨(IntKind.i64.wrap (k + 1)), (andI x.f2 15), 0, 0, 0, 0, false, []⟩ : GAbility) k (IntKind.i64.wrap (now + (andI x.f1 3)))).1).Now))).symm) (.inl rfl) rfl rfl (.keep rfl (.keep rfl (.keep rfl (.keep rfl (.keep rfl (.keep rfl .nil)))))) (.keep rfl (.keep rfl (.lose (v' := .undef) rfl (.keep rfl (.keep rfl (.keep rfl (.keep rfl (.keep rfl (.lose (v' := .undef) rfl (.lose (v' := .undef) rfl (.keep rfl (.keep rfl (.lose (v' := .undef) rfl (.lose (v' := .undef) rfl (.keep rfl (.keep rfl (.keep rfl (.keep rfl (.keep rfl (.lose (v' := .undef) rfl (.keep rfl (.keep rfl (.keep rfl (.keep rfl (.keep rfl (.keep rfl (.keep rfl (.keep rfl (.keep rfl (.keep rfl (.keep rfl (.keep rfl (.keep rfl (.keep rfl (.keep rfl (.keep rfl (.keep rfl (.keep rfl (.keep rfl (.keep rfl (.keep rfl (.keep rfl (.keep rfl (.keep rfl (.keep rfl (.keep rfl (.keep rfl (.keep rfl (.keep rfl (.keep rfl (.keep rfl (.keep rfl (.keep rfl (.keep rfl (.keep rfl (.keep rfl (.keep rfl (.keep rfl (.keep rfl (.keep rfl (.keep rfl (.keep rfl (.keep rfl (.keep rfl (.keep rfl (.keep rfl (.keep rfl (.keep rfl (.keep rfl (.keep rfl (.keep rfl (.keep rfl (.keep rfl (.keep rfl (.keep rfl (.keep rfl (.keep rfl (.keep rfl (.keep rfl (.keep rfl (.keep rfl (.keep rfl (.keep rfl (.keep rfl (.keep rfl (.keep rfl (.keep rfl (.keep rfl (.keep rfl (.keep rfl (.keep rfl (.keep rfl (.keep rfl (.keep rfl (.keep rfl (.keep rfl (.keep rfl (.keep rfl (.keep rfl (.keep rfl (.keep rfl (.keep rfl (.keep rfl (.keep rfl (.keep rfl (.keep rfl (.keep rfl (.keep rfl (.keep rfl (.keep rfl (.keep rfl (.keep rfl (.keep rfl (.keep rfl (.lose (v' := .undef) rfl (.keep rfl (.keep rfl (.keep rfl .nil)))))))))))))))))))))))))))))))))))))))))))))))))))))))))))))))))))))))))))))))))))))))))))))))))))))))))))))))))))))) ?_
              refine step_r rfl rfl trivial ?_
              refine step_nil ?_
              refine seqK_n ?_
              refine sem_region rfl ?_
              refine step_r (v := (.agg [_, _, _, _, _, _, _, _, _])) rfl rfl (Nat.le_of_ble_eq_true rfl) ?_
              refine step_store (H' := [(5, .row _ _ _), (4, .box [_, _, _, _]), (3, .box [_, _, _, _, _, _, _, _, _]), (2, .box [_, _, _, _, _, _, _, _]), (0, .box [_, _, _, _, _, _, _, _, _]), (1, .row _ _ _)]) rfl rfl rfl rfl rfl rfl (Nat.le_of_ble_eq_true rfl) (.inl rfl) rfl ?_
              refine step_nil ?_
              refine blkK_n ?_
              refine seqK_n ?_
              refine sem_seq ?_
              refine sem_region rfl ?_
              refine step_r (v := (.agg [_, _, _, _, _, _, _, _, _])) rfl rfl (Nat.le_of_ble_eq_true rfl) ?_
              refine step_call rfl rfl rfl rfl (rightC_ok ((beginC z (⟨(IntKind.i64.wrap (k + 1)), (andI x.f2 15), 0, 0, 0, 0, false, []⟩ : GAbility) k (IntKind.i64.wrap (now + (andI x.f1 3)))).1)) rfl rfl rfl ?_
              refine step_r rfl rfl trivial ?_
              refine step_nil ?_
              refine seqK_n ?_
              refine sem_cond rfl (fun h50 => ?_) (fun h50 => ?_)
              ·have h := h50
               simp at h
               exact absurd c9.hr h
              ·have g50 := h50
               try simp at g50
               refine sem_skip ?_
               refine blkK_n ?_
               refine seqK_n ?_
               refine sem_region rfl ?_
               refine step_r rfl rfl trivial ?_
               refine step_bin rfl rfl rfl rfl rfl trivial ?_
               refine step_r rfl rfl trivial ?_
               refine step_nil ?_
               exact lup_again (k+1, (beginC z ⟨IntKind.i64.wrap ((k : Int) + 1), (andI x.f2 15), 0, 0, 0, 0, false, []⟩ (k : Int) (IntKind.i64.wrap (now + (andI x.f1 3)))).1, Bs ++ [(beginC z ⟨IntKind.i64.wrap ((k : Int) + 1), (andI x.f2 15), 0, 0, 0, 0, false, []⟩ (k : Int) (IntKind.i64.wrap (now + (andI x.f1 3)))).1.Now], p, (IntKind.i64.wrap (now + (andI x.f1 3)))) (⟨hk, (by rw [ec]; exact c9), by rw [hwn]; push_cast; omega, (by simp; omega)⟩) (by show steps.length - (k + 1) < steps.length - k; omega) (less_of rfl ⟨⟨rfl, rfl⟩, ⟨rfl, rfl⟩, ⟨rfl, rfl⟩, ⟨rfl, rfl⟩, ⟨rfl, rfl⟩, ⟨rfl, rfl⟩, ⟨congrArg (fun n => some (I n)) (wrapK hk (by assumption)), rfl⟩, trivial⟩ ⟨⟨rfl, rfl, rfl⟩, ⟨rfl, rfl, rfl⟩, trivial⟩ (fun _ _ => .inr (Nat.zero_le _)))
            ·have g47 := h47
             try simp at g47
             refine step_g0 rfl h47 rfl ?_
             refine step_g0 rfl h47 rfl ?_
             refine step_g0 rfl h47 rfl ?_
             refine step_g0 rfl h47 rfl ?_
             refine step_g0 rfl h47 rfl ?_
             refine step_g0 rfl h47 rfl ?_
             refine step_g0 rfl h47 rfl ?_
             refine step_g0 rfl h47 rfl ?_
             refine step_g0 rfl h47 rfl ?_
             refine step_g0 rfl h47 rfl ?_
             refine step_g0 rfl h47 rfl ?_
             refine step_g1 rfl h45 ?_
             refine step_pickF rfl h47 rfl rfl ?_
             refine step_pickF rfl h45 rfl rfl ?_
             refine step_nil ?_
             refine seqK_n ?_
             refine sem_condF rfl ?_
             refine sem_skip ?_
             refine seqK_n ?_
             refine sem_seq ?_
             refine sem_region rfl ?_
             refine step_r rfl rfl trivial ?_
             refine step_r (v := (.agg [_, _, _, _])) rfl rfl (Nat.le_of_ble_eq_true rfl) ?_
             refine step_n (o := .row _ _ [_, _, _, _]) (nx' := 6) rfl rfl rfl (by decide) ?_
             refine step_appendC (m := 1) (new := [_, _, _, _]) (cs' := (Bs ++ [((beginC z (⟨(IntKind.i64.wrap (k + 1)), (andI x.f2 15), 0, 0, 0, 0, false, []⟩ : GAbility) k (IntKind.i64.wrap (now + (andI x.f1 3)))).1).Now]).flatMap encGCast) (n' := (Bs ++ [((beginC z (⟨(IntKind.i64.wrap (k + 1)), (andI x.f2 15), 0, 0, 0, 0, false, []⟩ : GAbility) k (IntKind.i64.wrap (now + (andI x.f1 3)))).1).Now]).length) (H' := [(5, .row _ _ _), (4, .box [_, _, _, _]), (3, .box [_, _, _, _, _, _, _, _, _]), (2, .box [_, _, _, _, _, _, _, _]), (0, .box [_, _, _, _, _, _, _, _, _]), (1, .row _ _ _)]) rfl rfl rfl (rfl) rfl rfl rfl rfl rfl rfl (flat_len (s := 4) (enc := encGCast) (fun _ => rfl) Bs) (rfl) (by first | decide | (unfold maxGrow; omega) | (unfold maxGrow; simp; omega)) (len_snoc Bs _) (((flat_snoc (enc := encGCast) (l := Bs) (((beginC z (⟨(IntKind.i64.wrap (k + 1)), (andI x.f2 15), 0, 0, 0, 0, false, []⟩ : GAbility) k (IntKind.i64.wrap (now + (andI x.f1 3)))).1).Now))).symm) (.inl rfl) rfl rfl (.keep rfl (.keep rfl (.keep rfl (.keep rfl (.keep rfl (.keep rfl .nil)))))) (.keep rfl (.keep rfl (.lose (v' := .undef) rfl (.keep rfl (.keep rfl (.keep rfl (.keep rfl (.keep rfl (.keep rfl (.keep rfl (.keep rfl (.keep rfl (.keep rfl (.keep rfl (.keep rfl (.keep rfl (.keep rfl (.keep rfl (.keep rfl (.lose (v' := .undef) rfl (.keep rfl (.keep rfl (.keep rfl (.keep rfl (.keep rfl (.keep rfl (.keep rfl (.keep rfl (.keep rfl (.keep rfl (.keep rfl (.keep rfl (.keep rfl (.keep rfl (.keep rfl (.keep rfl (.keep rfl (.keep rfl (.keep rfl (.keep rfl (.keep rfl (.keep rfl (.keep rfl (.keep rfl (.keep rfl (.keep rfl (.keep rfl (.keep rfl (.keep rfl (.keep rfl (.keep rfl (.keep rfl (.keep rfl (.keep rfl (.keep rfl (.keep rfl (.keep rfl (.keep rfl (.keep rfl (.keep rfl (.keep rfl (.keep rfl (.keep rfl (.keep rfl (.keep rfl (.keep rfl (.keep rfl (.keep rfl (.keep rfl (.keep rfl (.keep rfl (.keep rfl (.keep rfl (.keep rfl (.keep rfl (.keep rfl (.keep rfl (.keep rfl (.keep rfl (.keep rfl (.keep rfl (.keep rfl (.keep rfl (.keep rfl (.keep rfl (.keep rfl (.keep rfl (.keep rfl (.keep rfl (.keep rfl (.keep rfl (.keep rfl (.keep rfl (.keep rfl (.keep rfl (.keep rfl (.keep rfl (.keep rfl (.keep rfl (.keep rfl (.keep rfl (.keep rfl (.keep rfl (.keep rfl (.keep rfl (.keep rfl (.keep rfl (.keep rfl (.keep rfl (.keep rfl (.keep rfl (.keep rfl (.keep rfl (.keep rfl (.lose (v' := .undef) rfl (.keep rfl (.keep rfl (.keep rfl .nil)))))))))))))))))))))))))))))))))))))))))))))))))))))))))))))))))))))))))))))))))))))))))))))))))))))))))))))))))))))) ?_
             refine step_r rfl rfl trivial ?_
             refine step_nil ?_
             refine seqK_n ?_
             refine sem_region rfl ?_
             refine step_r (v := (.agg [_, _, _, _, _, _, _, _, _])) rfl rfl (Nat.le_of_ble_eq_true rfl) ?_
             refine step_store (H' := [(5, .row _ _ _), (4, .box [_, _, _, _]), (3, .box [_, _, _, _, _, _, _, _, _]), (2, .box [_, _, _, _, _, _, _, _]), (0, .box [_, _, _, _, _, _, _, _, _]), (1, .row _ _ _)]) rfl rfl rfl rfl rfl rfl (Nat.le_of_ble_eq_true rfl) (.inl rfl) rfl ?_
             refine step_nil ?_
             refine blkK_n ?_
             refine seqK_n ?_
             refine sem_seq ?_
             refine sem_region rfl ?_
             refine step_r (v := (.agg [_, _, _, _, _, _, _, _, _])) rfl rfl (Nat.le_of_ble_eq_true rfl) ?_
             refine step_call rfl rfl rfl rfl (rightC_ok ((beginC z (⟨(IntKind.i64.wrap (k + 1)), (andI x.f2 15), 0, 0, 0, 0, false, []⟩ : GAbility) k (IntKind.i64.wrap (now + (andI x.f1 3)))).1)) rfl rfl rfl ?_
             refine step_r rfl rfl trivial ?_
             refine step_nil ?_
             refine seqK_n ?_
             refine sem_cond rfl (fun h52 => ?_) (fun h52 => ?_)
             ·have h := h52
              simp at h
              exact absurd c9.hr h
             ·have g52 := h52
              try simp at g52
              refine sem_skip ?_
              refine blkK_n ?_
              refine seqK_n ?_
              refine sem_region rfl ?_
              refine step_r rfl rfl trivial ?_
              refine step_bin rfl rfl rfl rfl rfl trivial ?_
              refine step_r rfl rfl trivial ?_
              refine step_nil ?_
              exact lup_again (k+1, (beginC z ⟨IntKind.i64.wrap ((k : Int) + 1), (andI x.f2 15), 0, 0, 0, 0, false, []⟩ (k : Int) (IntKind.i64.wrap (now + (andI x.f1 3)))).1, Bs ++ [(beginC z ⟨IntKind.i64.wrap ((k : Int) + 1), (andI x.f2 15), 0, 0, 0, 0, false, []⟩ (k : Int) (IntKind.i64.wrap (now + (andI x.f1 3)))).1.Now], p, (IntKind.i64.wrap (now + (andI x.f1 3)))) (⟨hk, (by rw [ec]; exact c9), by rw [hwn]; push_cast; omega, (by simp; omega)⟩) (by show steps.length - (k + 1) < steps.length - k; omega) (less_of rfl ⟨⟨rfl, rfl⟩, ⟨rfl, rfl⟩, ⟨rfl, rfl⟩, ⟨rfl, rfl⟩, ⟨rfl, rfl⟩, ⟨rfl, rfl⟩, ⟨congrArg (fun n => some (I n)) (wrapK hk (by assumption)), rfl⟩, trivial⟩ ⟨⟨rfl, rfl, rfl⟩, ⟨rfl, rfl, rfl⟩, trivial⟩ (fun _ _ => .inr (Nat.zero_le _)))
         ·have h := h41
          simp at h
          exact absurd hz h
   ·have g7 := h7
    try simp at g7
    refine sem_region rfl ?_
    refine step_bin rfl rfl rfl rfl rfl trivial ?_
    refine step_r rfl rfl trivial ?_
    refine step_nil ?_
    refine seqK_n ?_
    refine sem_cond rfl (fun h55 => ?_) (fun h55 => ?_)
    ·have g55 := h55
     try simp at g55
     refine sem_seq ?_
     refine sem_region rfl ?_
     refine step_r rfl rfl trivial ?_
     refine step_bin rfl rfl rfl rfl rfl trivial ?_
     refine step_r rfl rfl trivial ?_
     refine step_r rfl rfl trivial ?_
     refine step_idxS (k := k) rfl rfl rfl rfl hk (flat_ne (s := 3) (enc := encA3int) (fun _ => rfl) (by decide) hk) rfl ?_
     refine step_r rfl rfl ⟨by decide, by decide⟩ ?_
     refine step_load_one rfl rfl rfl (flat_get (s := 3) (enc := encA3int) (fun _ => rfl) hx (o := 2) rfl (by decide)) rfl ?_
     refine step_bin rfl rfl rfl rfl rfl trivial ?_
     refine step_r (v := (.agg [_, _, _, _, _, _, _, _])) rfl rfl trivial ?_
     refine step_n (o := .box [_, _, _, _, _, _, _, _]) (nx' := 3) rfl rfl rfl trivial ?_
     refine step_store (H' := [(2, .box [_, _, _, _, _, _, _, _]), (0, .box [_, _, _, _, _, _, _, _, _]), (1, .row _ _ _)]) rfl rfl rfl rfl rfl rfl (Nat.le_of_ble_eq_true rfl) (.inl rfl) rfl ?_
     refine step_nil ?_
     refine seqK_n ?_
     refine sem_seq ?_
     refine sem_region rfl ?_
     refine step_r (v := (.agg [_, _, _, _, _, _, _, _, _])) rfl rfl (Nat.le_of_ble_eq_true rfl) ?_
     refine step_r (v := (.agg [_, _, _, _, _, _, _, _])) rfl rfl (Nat.le_of_ble_eq_true rfl) ?_
     refine step_r rfl rfl trivial ?_
     refine step_r rfl rfl trivial ?_
     refine step_callJ (Hin := []) (out' := .tup [(.agg [_, _, _, _, _, _, _, _, _]), _]) (H' := [(2, .box [_, _, _, _, _, _, _, _]), (0, .box [_, _, _, _, _, _, _, _, _]), (1, .row _ _ _)]) (nx' := 3) [] rfl rfl rfl rfl rfl rfl rfl rfl rfl (by (repeat' apply And.intro) <;> first | trivial | rfl | exact flat_len (fun _ => rfl) _ | exact encI_len _ | exact encB_len _ | exact encY_len _ | assumption) (begin_ok z (⟨(IntKind.i64.wrap (k + 1)), (andI x.f2 15), 0, 0, 0, 0, false, []⟩ : GAbility) k (IntKind.i64.wrap (now + (andI x.f1 3)))) rfl (by decide) rfl rfl trivial rfl rfl rfl rfl ?_
     refine step_r rfl rfl trivial ?_
     refine step_r rfl rfl trivial ?_
     refine step_r rfl rfl trivial ?_
     refine step_n (o := .box [_, _, _, _, _, _, _, _, _]) (nx' := 4) rfl rfl rfl trivial ?_
     refine step_store (H' := [(3, .box [_, _, _, _, _, _, _, _, _]), (2, .box [_, _, _, _, _, _, _, _]), (0, .box [_, _, _, _, _, _, _, _, _]), (1, .row _ _ _)]) rfl rfl rfl rfl rfl rfl (Nat.le_of_ble_eq_true rfl) (.inl rfl) rfl ?_
     refine step_r rfl rfl trivial ?_
     refine step_nil ?_
     refine seqK_n ?_
     refine sem_seq ?_
     refine sem_seq ?_
     refine sem_region rfl ?_
     refine step_r rfl rfl trivial ?_
     refine step_bin rfl rfl rfl rfl rfl trivial ?_
     refine step_nil ?_
     refine seqK_n ?_
     refine sem_cond rfl (fun h57 => ?_) (fun h57 => ?_)
     ·have g57 := h57
      try simp at g57
      have hbz := once_busy hO (a := ⟨IntKind.i64.wrap ((k : Int) + 1), (andI x.f2 15), 0, 0, 0, 0, false, []⟩) (g := (k : Int)) (by show 1 ≤ IntKind.i64.wrap ((k : Int) + 1); omega) (by show 0 ≤ andI x.f2 15; omega) (by simpa using h57)
      refine sem_seq ?_
      refine sem_seq ?_
      refine sem_region rfl ?_
      refine step_r rfl rfl trivial ?_
      refine step_bin rfl rfl rfl rfl rfl trivial ?_
      refine step_r rfl rfl trivial ?_
      refine step_gs rfl (fun h59 => ?_) (fun h59 => ?_)
      ·have h := h59
       try simp only [and_fold] at h
       rw [hbz.1] at h
       simp at h
      ·have g59 := h59
       try simp at g59
       refine step_g1 rfl h59 ?_
       refine step_r (v := (.agg [_, _, _, _, _, _, _, _, _])) rfl rfl (Nat.le_of_ble_eq_true rfl) ?_
       refine step_g1 rfl h59 ?_
       refine step_r rfl rfl trivial ?_
       refine step_g1 rfl h59 ?_
       refine step_call rfl rfl rfl rfl (free_ok z (IntKind.i64.wrap (now + (andI x.f1 3)))) rfl rfl rfl ?_
       refine step_pickF rfl h59 rfl rfl ?_
       refine step_nil ?_
       refine seqK_n ?_
       refine sem_cond rfl (fun h61 => ?_) (fun h61 => ?_)
       ·have h := h61
        try simp only [and_fold] at h
        exact absurd (by simpa using h) hbz.2
       ·have g61 := h61
        try simp at g61
        refine sem_skip ?_
        refine seqK_n ?_
        refine sem_exit ?_
        refine seqK_e ?_
        refine blkK_f rfl ?_
        refine seqK_e ?_
        refine blkK_t rfl ?_
        refine seqK_n ?_
        refine sem_region rfl ?_
        refine step_r rfl rfl trivial ?_
        refine step_bin rfl rfl rfl rfl rfl trivial ?_
        refine step_r rfl rfl trivial ?_
        refine step_nil ?_
        exact lup_again (k+1, z, Bs, p, (IntKind.i64.wrap (now + (andI x.f1 3)))) (⟨hk, hO, by rw [hwn]; push_cast; omega, (by omega)⟩) (by show steps.length - (k + 1) < steps.length - k; omega) (less_of rfl ⟨⟨rfl, rfl⟩, ⟨rfl, rfl⟩, ⟨rfl, rfl⟩, ⟨rfl, rfl⟩, ⟨rfl, rfl⟩, ⟨rfl, rfl⟩, ⟨congrArg (fun n => some (I n)) (wrapK hk (by assumption)), rfl⟩, trivial⟩ ⟨⟨rfl, rfl, rfl⟩, ⟨rfl, rfl, rfl⟩, trivial⟩ (fun _ _ => .inr (Nat.zero_le _)))
     ·have g57 := h57
      try simp at g57
      obtain ⟨c, c1, c2, c3, c4, c5, c6, c7, c8, c9⟩ := once_begin hO (a := ⟨IntKind.i64.wrap ((k : Int) + 1), (andI x.f2 15), 0, 0, 0, 0, false, []⟩) (g := (k : Int)) (by show 1 ≤ IntKind.i64.wrap ((k : Int) + 1); omega) (by show 0 ≤ andI x.f2 15; omega) (by show andI x.f2 15 ≤ 100; omega) (by simpa using h57)
      have hcw : IntKind.i64.wrap (c.Until - c.Since) = andI x.f2 15 := by rw [c4, IntKind.wrap_i64]; show _ = andI x.f2 15; simp only; omega
      refine sem_skip ?_
      refine seqK_n ?_
      refine sem_seq ?_
      refine sem_region rfl ?_
      refine step_r rfl rfl (by decide) ?_
      refine step_r (v := (.agg [_, _, _, _])) rfl rfl (Nat.le_of_ble_eq_true rfl) ?_
      refine step_n (o := .box [_, _, _, _]) (nx' := 5) rfl rfl rfl trivial ?_
      refine step_store (H' := [(4, .box [_, _, _, _]), (3, .box [_, _, _, _, _, _, _, _, _]), (2, .box [_, _, _, _, _, _, _, _]), (0, .box [_, _, _, _, _, _, _, _, _]), (1, .row _ _ _)]) rfl rfl rfl rfl rfl rfl (Nat.le_of_ble_eq_true rfl) (.inl rfl) rfl ?_
      refine step_nil ?_
      refine seqK_n ?_
      refine sem_seq ?_
      refine sem_seq ?_
      refine sem_region rfl ?_
      refine step_r rfl rfl (by decide) ?_
      refine step_r rfl rfl (by decide) ?_
      refine step_r rfl rfl trivial ?_
      refine step_bin rfl rfl rfl rfl rfl trivial ?_
      refine step_nil ?_
      refine seqK_n ?_
      refine sem_cond rfl (fun h63 => ?_) (fun h63 => ?_)
      ·have g63 := h63
       try simp at g63
       have hz : ¬ z.Now.Ability = 0 := by simpa using h63
       have ec : (beginC z ⟨IntKind.i64.wrap ((k : Int) + 1), (andI x.f2 15), 0, 0, 0, 0, false, []⟩ (k : Int) (IntKind.i64.wrap (now + (andI x.f1 3)))).1.Next = c := by rw [← c1]; unfold newC; rw [if_pos hz]
       refine sem_region rfl ?_
       refine step_r rfl rfl (by decide) ?_
       refine step_r (v := (.agg [_, _, _, _])) rfl rfl (Nat.le_of_ble_eq_true rfl) ?_
       refine step_store (H' := [(4, .box [_, _, _, _]), (3, .box [_, _, _, _, _, _, _, _, _]), (2, .box [_, _, _, _, _, _, _, _]), (0, .box [_, _, _, _, _, _, _, _, _]), (1, .row _ _ _)]) rfl rfl rfl rfl rfl rfl (Nat.le_of_ble_eq_true rfl) (.inl rfl) rfl ?_
       refine step_nil ?_
       refine seqK_n ?_
       refine sem_seq ?_
       refine sem_seq ?_
       refine sem_drawn rfl (by decide +kernel) rfl ?_
       refine step_r rfl rfl (by decide) ?_
       refine step_r rfl rfl trivial ?_
       refine step_r rfl rfl trivial ?_
       refine step_bin rfl rfl rfl rfl rfl trivial ?_
       refine step_bin rfl rfl rfl rfl rfl trivial ?_
       refine step_r rfl rfl trivial ?_
       refine step_gs rfl (fun h65 => ?_) (fun h65 => ?_)
       ·have h := h65
        try simp only [and_fold] at h
        rw [ec, c2] at h
        simp at h
       ·have g65 := h65
        try simp at g65
        refine step_g1 rfl h65 ?_
        refine step_r rfl rfl (by decide) ?_
        refine step_g1 rfl h65 ?_
        refine step_r rfl rfl trivial ?_
        refine step_g1 rfl h65 ?_
        refine step_r rfl rfl trivial ?_
        refine step_g1 rfl h65 ?_
        refine step_bin rfl rfl rfl rfl rfl trivial ?_
        refine step_pickF rfl h65 rfl rfl ?_
        refine step_r rfl rfl trivial ?_
        refine step_gs rfl (fun h67 => ?_) (fun h67 => ?_)
        ·have h := h67
         try simp only [and_fold] at h
         rw [ec, c3] at h
         simp at h
        ·have g67 := h67
         try simp at g67
         refine step_g1 rfl h67 ?_
         refine step_r rfl rfl (by decide) ?_
         refine step_g1 rfl h67 ?_
         refine step_r rfl rfl trivial ?_
         refine step_g1 rfl h67 ?_
         refine step_r rfl rfl (by decide) ?_
         refine step_g1 rfl h67 ?_
         refine step_r rfl rfl trivial ?_
         refine step_g1 rfl h67 ?_
         refine step_bin rfl rfl rfl rfl rfl trivial ?_
         refine step_g1 rfl h67 ?_
         refine step_r rfl rfl (by decide) ?_
         refine step_g1 rfl h67 ?_
         refine step_r rfl rfl trivial ?_
         refine step_g1 rfl h67 ?_
         refine step_bin rfl rfl rfl rfl rfl trivial ?_
         refine step_pickF rfl h67 rfl rfl ?_
         refine step_r rfl rfl trivial ?_
         refine step_gs rfl (fun h69 => ?_) (fun h69 => ?_)
         ·have h := h69
          try simp only [and_fold] at h
          rw [ec, hcw] at h
          simp at h
         ·have g69 := h69
          try simp at g69
          refine step_g1 rfl h69 ?_
          refine step_r rfl rfl (by decide) ?_
          refine step_g1 rfl h69 ?_
          refine step_r rfl rfl (by decide) ?_
          refine step_g1 rfl h69 ?_
          refine step_r rfl rfl trivial ?_
          refine step_g1 rfl h69 ?_
          refine step_bin rfl rfl rfl rfl rfl trivial ?_
          refine step_g1 rfl h69 ?_
          refine step_r rfl rfl trivial ?_
          refine step_gs rfl (fun h71 => ?_) (fun h71 => ?_)
          ·have h := h71
           simp at h
           exact absurd h hz
          ·have g71 := h71
           try simp at g71
           skip
           refine step_g0 rfl h71 rfl ?_
           refine step_g0 rfl h71 rfl ?_
           refine step_g0 rfl h71 rfl ?_
           refine step_g0 rfl h71 rfl ?_
           refine step_g1 rfl h69 ?_
           refine step_pickF rfl h71 rfl rfl ?_
           refine step_pickF rfl h69 rfl rfl ?_
           refine step_r rfl rfl trivial ?_
           refine step_gt rfl ?_
           refine step_r rfl rfl (by decide) ?_
           refine step_gt rfl ?_
           refine step_r rfl rfl trivial ?_
           refine step_gt rfl ?_
           refine step_r rfl rfl trivial ?_
           refine step_gt rfl ?_
           refine step_bin rfl rfl rfl rfl rfl trivial ?_
           refine step_gt rfl ?_
           refine step_bin rfl rfl rfl rfl rfl trivial ?_
           refine step_r rfl rfl trivial ?_
           refine step_r rfl rfl trivial ?_
           refine step_gs rfl (fun h73 => ?_) (fun h73 => ?_)
           ·have h := of_decide_eq_true h73
            try simp only [and_fold] at h
            rw [ec, hw2] at h
            omega
           ·have g73 := h73
            try simp at g73
            refine step_g1 rfl h73 ?_
            refine step_r rfl rfl trivial ?_
            refine step_g1 rfl h73 ?_
            refine step_r rfl rfl trivial ?_
            refine step_g1 rfl h73 ?_
            refine step_bin rfl rfl rfl rfl rfl trivial ?_
            refine step_g1 rfl h73 ?_
            refine step_r rfl rfl trivial ?_
            refine step_gs rfl (fun h75 => ?_) (fun h75 => ?_)
            ·have g75 := h75
             try simp at g75
             have hB0 : 0 < Bs.length := by have h := h75; simp at h; omega
             have hB1 : Bs.length - 1 < Bs.length := by omega
             obtain ⟨bl, hbl⟩ : ∃ z_, Bs[Bs.length - 1]? = some z_ := ⟨_, List.getElem?_eq_getElem hB1⟩
             obtain ⟨c81, c82, c83⟩ := c8 bl (by rw [List.getLast?_eq_getElem?]; exact hbl)
             have hw4 : IntKind.i64.wrap (bl.Since + 3) = bl.Since + 3 := by rw [IntKind.wrap_i64]; omega
             refine step_g1 rfl h75 ?_
             refine step_r rfl rfl (by decide) ?_
             refine step_g1 rfl h75 ?_
             refine step_r rfl rfl trivial ?_
             refine step_g1 rfl h75 ?_
             refine step_r rfl rfl trivial ?_
             refine step_g1 rfl h75 ?_
             refine step_r rfl rfl trivial ?_
             refine step_g1 rfl h75 ?_
             refine step_r rfl rfl trivial ?_
             refine step_g1 rfl h75 ?_
             refine step_bin rfl rfl rfl rfl rfl trivial ?_
             refine step_g1 rfl h75 ?_
             refine step_idxR' (k := (Bs.length - 1)) rfl rfl (by rw [IntKind.wrap_i64]; omega) rfl rfl hB1 rfl ?_
             refine step_g1 rfl h75 ?_
             refine step_r rfl rfl (by decide) ?_
             refine step_g1 rfl h75 ?_
             refine step_load_oneR rfl rfl rfl rfl (flat_get (s := 4) (enc := encGCast) (fun _ => rfl) hbl (o := 2) rfl (by decide)) rfl ?_
             refine step_g1 rfl h75 ?_
             refine step_bin rfl rfl rfl rfl rfl trivial ?_
             refine step_g1 rfl h75 ?_
             refine step_bin rfl rfl rfl rfl rfl trivial ?_
             refine step_g1 rfl h73 ?_
             refine step_pickT rfl h75 rfl rfl ?_
             refine step_pickF rfl h73 rfl rfl ?_
             refine step_nil ?_
             refine seqK_n ?_
             refine sem_cond rfl (fun h77 => ?_) (fun h77 => ?_)
             ·have h := of_decide_eq_true h77
              try simp only [and_fold] at h
              rw [ec, hw4] at h
              omega
             ·have g77 := h77
              try simp at g77
              refine sem_skip ?_
              refine seqK_n ?_
              refine sem_seq ?_
              refine sem_region rfl ?_
              refine step_r rfl rfl trivial ?_
              refine step_r (v := (.agg [_, _, _, _])) rfl rfl (Nat.le_of_ble_eq_true rfl) ?_
              refine step_n (o := .row _ _ [_, _, _, _]) (nx' := 6) rfl rfl rfl (by decide) ?_
              refine step_appendC (m := 1) (new := [_, _, _, _]) (cs' := (Bs ++ [((beginC z (⟨(IntKind.i64.wrap (k + 1)), (andI x.f2 15), 0, 0, 0, 0, false, []⟩ : GAbility) k (IntKind.i64.wrap (now + (andI x.f1 3)))).1).Next]).flatMap encGCast) (n' := (Bs ++ [((beginC z (⟨(IntKind.i64.wrap (k + 1)), (andI x.f2 15), 0, 0, 0, 0, false, []⟩ : GAbility) k (IntKind.i64.wrap (now + (andI x.f1 3)))).1).Next]).length) (H' := [(5, .row _ _ _), (4, .box [_, _, _, _]), (3, .box [_, _, _, _, _, _, _, _, _]), (2, .box [_, _, _, _, _, _, _, _]), (0, .box [_, _, _, _, _, _, _, _, _]), (1, .row _ _ _)]) rfl rfl rfl (rfl) rfl rfl rfl rfl rfl rfl (flat_len (s := 4) (enc := encGCast) (fun _ => rfl) Bs) (rfl) (by first | decide | (unfold maxGrow; omega) | (unfold maxGrow; simp; omega)) (len_snoc Bs _) (((flat_snoc (enc := encGCast) (l := Bs) (((beginC z (⟨(IntKind.i64.wrap (k + 1)), (andI x.f2 15), 0, 0, 0, 0, false, []⟩ : GAbility) k (IntKind.i64.wrap (now + (andI x.f1 3)))).1).Next))).symm) (.inl rfl) rfl rfl (.keep rfl (.keep rfl (.keep rfl (.keep rfl (.keep rfl (.keep rfl .nil)))))) (.keep rfl (.keep rfl (.lose (v' := .undef) rfl (.keep rfl (.keep rfl (.keep rfl (.keep rfl (.keep rfl (.lose (v' := .undef) rfl (.lose (v' := .undef) rfl (.keep rfl (.keep rfl (.lose (v' := .undef) rfl (.lose (v' := .undef) rfl (.keep rfl (.keep rfl (.keep rfl (.keep rfl (.keep rfl (.lose (v' := .undef) rfl (.keep rfl (.keep rfl (.keep rfl (.keep rfl (.keep rfl (.keep rfl (.keep rfl (.keep rfl (.keep rfl (.keep rfl (.keep rfl (.keep rfl (.keep rfl (.keep rfl (.keep rfl (.keep rfl (.keep rfl (.keep rfl (.keep rfl (.keep rfl (.keep rfl (.keep rfl (.keep rfl (.keep rfl (.keep rfl (.keep rfl (.keep rfl (.keep rfl (.keep rfl (.keep rfl (.keep rfl (.keep rfl (.keep rfl (.keep rfl (.keep rfl (.keep rfl (.keep rfl (.keep rfl (.keep rfl (.keep rfl (.keep rfl (.keep rfl (.keep rfl (.keep rfl (.keep rfl (.keep rfl (.keep rfl (.keep rfl (.keep rfl (.keep rfl (.keep rfl (.keep rfl (.keep rfl (.keep rfl (.keep rfl (.keep rfl (.keep rfl (.keep rfl (.keep rfl (.keep rfl (.keep rfl (.keep rfl (.keep rfl (.keep rfl (.keep rfl (.keep rfl (.keep rfl (.keep rfl (.keep rfl (.keep rfl (.keep rfl (.keep rfl (.keep rfl (.keep rfl (.keep rfl (.keep rfl (.keep rfl (.keep rfl (.keep rfl (.keep rfl (.keep rfl (.keep rfl (.keep rfl (.keep rfl (.keep rfl (.keep rfl (.keep rfl (.keep rfl (.keep rfl (.keep rfl (.keep rfl (.keep rfl (.keep rfl (.keep rfl (.keep rfl (.keep rfl (.keep rfl (.keep rfl (.lose (v' := .undef) rfl (.keep rfl (.keep rfl (.keep rfl .nil)))))))))))))))))))))))))))))))))))))))))))))))))))))))))))))))))))))))))))))))))))))))))))))))))))))))))))))))))))))))))) ?_
              refine step_r rfl rfl trivial ?_
              refine step_nil ?_
              refine seqK_n ?_
              refine sem_region rfl ?_
              refine step_r (v := (.agg [_, _, _, _, _, _, _, _, _])) rfl rfl (Nat.le_of_ble_eq_true rfl) ?_
              refine step_store (H' := [(5, .row _ _ _), (4, .box [_, _, _, _]), (3, .box [_, _, _, _, _, _, _, _, _]), (2, .box [_, _, _, _, _, _, _, _]), (0, .box [_, _, _, _, _, _, _, _, _]), (1, .row _ _ _)]) rfl rfl rfl rfl rfl rfl (Nat.le_of_ble_eq_true rfl) (.inl rfl) rfl ?_
              refine step_nil ?_
              refine blkK_n ?_
              refine seqK_n ?_
              refine sem_seq ?_
              refine sem_region rfl ?_
              refine step_r (v := (.agg [_, _, _, _, _, _, _, _, _])) rfl rfl (Nat.le_of_ble_eq_true rfl) ?_
              refine step_call rfl rfl rfl rfl (rightC_ok ((beginC z (⟨(IntKind.i64.wrap (k + 1)), (andI x.f2 15), 0, 0, 0, 0, false, []⟩ : GAbility) k (IntKind.i64.wrap (now + (andI x.f1 3)))).1)) rfl rfl rfl ?_
              refine step_r rfl rfl trivial ?_
              refine step_nil ?_
              refine seqK_n ?_
              refine sem_cond rfl (fun h78 => ?_) (fun h78 => ?_)
              ·have h := h78
               simp at h
               exact absurd c9.hr h
              ·have g78 := h78
               try simp at g78
               refine sem_skip ?_
               refine blkK_n ?_
               refine seqK_n ?_
               refine sem_region rfl ?_
               refine step_r rfl rfl trivial ?_
               refine step_bin rfl rfl rfl rfl rfl trivial ?_
               refine step_r rfl rfl trivial ?_
               refine step_nil ?_
               exact lup_again (k+1, (beginC z ⟨IntKind.i64.wrap ((k : Int) + 1), (andI x.f2 15), 0, 0, 0, 0, false, []⟩ (k : Int) (IntKind.i64.wrap (now + (andI x.f1 3)))).1, Bs ++ [(beginC z ⟨IntKind.i64.wrap ((k : Int) + 1), (andI x.f2 15), 0, 0, 0, 0, false, []⟩ (k : Int) (IntKind.i64.wrap (now + (andI x.f1 3)))).1.Next], p, (IntKind.i64.wrap (now + (andI x.f1 3)))) (⟨hk, (by rw [ec]; exact c9), by rw [hwn]; push_cast; omega, (by simp; omega)⟩) (by show steps.length - (k + 1) < steps.length - k; omega) (less_of rfl ⟨⟨rfl, rfl⟩, ⟨rfl, rfl⟩, ⟨rfl, rfl⟩, ⟨rfl, rfl⟩, ⟨rfl, rfl⟩, ⟨rfl, rfl⟩, ⟨congrArg (fun n => some (I n)) (wrapK hk (by assumption)), rfl⟩, trivial⟩ ⟨⟨rfl, rfl, rfl⟩, ⟨rfl, rfl, rfl⟩, trivial⟩ (fun _ _ => .inr (Nat.zero_le _)))
            ·have g75 := h75
             try simp at g75
             refine step_g0 rfl h75 rfl ?_
             refine step_g0 rfl h75 rfl ?_
             refine step_g0 rfl h75 rfl ?_
             refine step_g0 rfl h75 rfl ?_
             refine step_g0 rfl h75 rfl ?_
             refine step_g0 rfl h75 rfl ?_
             refine step_g0 rfl h75 rfl ?_
             refine step_g0 rfl h75 rfl ?_
             refine step_g0 rfl h75 rfl ?_
             refine step_g0 rfl h75 rfl ?_
             refine step_g0 rfl h75 rfl ?_
             refine step_g1 rfl h73 ?_
             refine step_pickF rfl h75 rfl rfl ?_
             refine step_pickF rfl h73 rfl rfl ?_
             refine step_nil ?_
             refine seqK_n ?_
             refine sem_condF rfl ?_
             refine sem_skip ?_
             refine seqK_n ?_
             refine sem_seq ?_
             refine sem_region rfl ?_
             refine step_r rfl rfl trivial ?_
             refine step_r (v := (.agg [_, _, _, _])) rfl rfl (Nat.le_of_ble_eq_true rfl) ?_
             refine step_n (o := .row _ _ [_, _, _, _]) (nx' := 6) rfl rfl rfl (by decide) ?_
             refine step_appendC (m := 1) (new := [_, _, _, _]) (cs' := (Bs ++ [((beginC z (⟨(IntKind.i64.wrap (k + 1)), (andI x.f2 15), 0, 0, 0, 0, false, []⟩ : GAbility) k (IntKind.i64.wrap (now + (andI x.f1 3)))).1).Next]).flatMap encGCast) (n' := (Bs ++ [((beginC z (⟨(IntKind.i64.wrap (k + 1)), (andI x.f2 15), 0, 0, 0, 0, false, []⟩ : GAbility) k (IntKind.i64.wrap (now + (andI x.f1 3)))).1).Next]).length) (H' := [(5, .row _ _ _), (4, .box [_, _, _, _]), (3, .box [_, _, _, _, _, _, _, _, _]), (2, .box [_, _, _, _, _, _, _, _]), (0, .box [_, _, _, _, _, _, _, _, _]), (1, .row _ _ _)]) rfl rfl rfl (rfl) rfl rfl rfl rfl rfl rfl (flat_len (s := 4) (enc := encGCast) (fun _ => rfl) Bs) (rfl) (by first | decide | (unfold maxGrow; omega) | (unfold maxGrow; simp; omega)) (len_snoc Bs _) (((flat_snoc (enc := encGCast) (l := Bs) (((beginC z (⟨(IntKind.i64.wrap (k + 1)), (andI x.f2 15), 0, 0, 0, 0, false, []⟩ : GAbility) k (IntKind.i64.wrap (now + (andI x.f1 3)))).1).Next))).symm) (.inl rfl) rfl rfl (.keep rfl (.keep rfl (.keep rfl (.keep rfl (.keep rfl (.keep rfl .nil)))))) (.keep rfl (.keep rfl (.lose (v' := .undef) rfl (.keep rfl (.keep rfl (.keep rfl (.keep rfl (.keep rfl (.keep rfl (.keep rfl (.keep rfl (.keep rfl (.keep rfl (.keep rfl (.keep rfl (.keep rfl (.keep rfl (.keep rfl (.keep rfl (.lose (v' := .undef) rfl (.keep rfl (.keep rfl (.keep rfl (.keep rfl (.keep rfl (.keep rfl (.keep rfl (.keep rfl (.keep rfl (.keep rfl (.keep rfl (.keep rfl (.keep rfl (.keep rfl (.keep rfl (.keep rfl (.keep rfl (.keep rfl (.keep rfl (.keep rfl (.keep rfl (.keep rfl (.keep rfl (.keep rfl (.keep rfl (.keep rfl (.keep rfl (.keep rfl (.keep rfl (.keep rfl (.keep rfl (.keep rfl (.keep rfl (.keep rfl (.keep rfl (.keep rfl (.keep rfl (.keep rfl (.keep rfl (.keep rfl (.keep rfl (.keep rfl (.keep rfl (.keep rfl (.keep rfl (.keep rfl (.keep rfl (.keep rfl (.keep rfl (.keep rfl (.keep rfl (.keep rfl (.keep rfl (.keep rfl (.keep rfl (.keep rfl (.keep rfl (.keep rfl (.keep rfl (.keep rfl (.keep rfl (.keep rfl (.keep rfl (.keep rfl (.keep rfl (.keep rfl (.keep rfl (.keep rfl (.keep rfl (.keep rfl (.keep rfl (.keep rfl (.keep rfl (.keep rfl (.keep rfl (.keep rfl (.keep rfl (.keep rfl (.keep rfl (.keep rfl (.keep rfl (.keep rfl (.keep rfl (.keep rfl (.keep rfl (.keep rfl (.keep rfl (.keep rfl (.keep rfl (.keep rfl (.keep rfl (.keep rfl (.keep rfl (.keep rfl (.keep rfl (.keep rfl (.keep rfl (.keep rfl (.lose (v' := .undef) rfl (.keep rfl (.keep rfl (.keep rfl .nil)))))))))))))))))))))))))))))))))))))))))))))))))))))))))))))))))))))))))))))))))))))))))))))))))))))))))))))))))))))))))) ?_
             refine step_r rfl rfl trivial ?_
             refine step_nil ?_
             refine seqK_n ?_
             refine sem_region rfl ?_
             refine step_r (v := (.agg [_, _, _, _, _, _, _, _, _])) rfl rfl (Nat.le_of_ble_eq_true rfl) ?_
             refine step_store (H' := [(5, .row _ _ _), (4, .box [_, _, _, _]), (3, .box [_, _, _, _, _, _, _, _, _]), (2, .box [_, _, _, _, _, _, _, _]), (0, .box [_, _, _, _, _, _, _, _, _]), (1, .row _ _ _)]) rfl rfl rfl rfl rfl rfl (Nat.le_of_ble_eq_true rfl) (.inl rfl) rfl ?_
             refine step_nil ?_
             refine blkK_n ?_
             refine seqK_n ?_
             refine sem_seq ?_
             refine sem_region rfl ?_
             refine step_r (v := (.agg [_, _, _, _, _, _, _, _, _])) rfl rfl (Nat.le_of_ble_eq_true rfl) ?_
             refine step_call rfl rfl rfl rfl (rightC_ok ((beginC z (⟨(IntKind.i64.wrap (k + 1)), (andI x.f2 15), 0, 0, 0, 0, false, []⟩ : GAbility) k (IntKind.i64.wrap (now + (andI x.f1 3)))).1)) rfl rfl rfl ?_
             refine step_r rfl rfl trivial ?_
             refine step_nil ?_
             refine seqK_n ?_
             refine sem_cond rfl (fun h80 => ?_) (fun h80 => ?_)
             ·have h := h80
              simp at h
              exact absurd c9.hr h
             ·have g80 := h80
              try simp at g80
              refine sem_skip ?_
              refine blkK_n ?_
              refine seqK_n ?_
              refine sem_region rfl ?_
              refine step_r rfl rfl trivial ?_
              refine step_bin rfl rfl rfl rfl rfl trivial ?_
              refine step_r rfl rfl trivial ?_
              refine step_nil ?_
              exact lup_again (k+1, (beginC z ⟨IntKind.i64.wrap ((k : Int) + 1), (andI x.f2 15), 0, 0, 0, 0, false, []⟩ (k : Int) (IntKind.i64.wrap (now + (andI x.f1 3)))).1, Bs ++ [(beginC z ⟨IntKind.i64.wrap ((k : Int) + 1), (andI x.f2 15), 0, 0, 0, 0, false, []⟩ (k : Int) (IntKind.i64.wrap (now + (andI x.f1 3)))).1.Next], p, (IntKind.i64.wrap (now + (andI x.f1 3)))) (⟨hk, (by rw [ec]; exact c9), by rw [hwn]; push_cast; omega, (by simp; omega)⟩) (by show steps.length - (k + 1) < steps.length - k; omega) (less_of rfl ⟨⟨rfl, rfl⟩, ⟨rfl, rfl⟩, ⟨rfl, rfl⟩, ⟨rfl, rfl⟩, ⟨rfl, rfl⟩, ⟨rfl, rfl⟩, ⟨congrArg (fun n => some (I n)) (wrapK hk (by assumption)), rfl⟩, trivial⟩ ⟨⟨rfl, rfl, rfl⟩, ⟨rfl, rfl, rfl⟩, trivial⟩ (fun _ _ => .inr (Nat.zero_le _)))
      ·have g63 := h63
       try simp at g63
       have hz : z.Now.Ability = 0 := by simpa using h63
       have ec : (beginC z ⟨IntKind.i64.wrap ((k : Int) + 1), (andI x.f2 15), 0, 0, 0, 0, false, []⟩ (k : Int) (IntKind.i64.wrap (now + (andI x.f1 3)))).1.Now = c := by rw [← c1]; unfold newC; rw [if_neg (by simpa using hz)]
       refine sem_skip ?_
       refine seqK_n ?_
       refine sem_seq ?_
       refine sem_seq ?_
       refine sem_drawn rfl (by decide +kernel) rfl ?_
       refine step_r rfl rfl (by decide) ?_
       refine step_r rfl rfl trivial ?_
       refine step_r rfl rfl trivial ?_
       refine step_bin rfl rfl rfl rfl rfl trivial ?_
       refine step_bin rfl rfl rfl rfl rfl trivial ?_
       refine step_r rfl rfl trivial ?_
       refine step_gs rfl (fun h83 => ?_) (fun h83 => ?_)
       ·have h := h83
        try simp only [and_fold] at h
        rw [ec, c2] at h
        simp at h
       ·have g83 := h83
        try simp at g83
        refine step_g1 rfl h83 ?_
        refine step_r rfl rfl (by decide) ?_
        refine step_g1 rfl h83 ?_
        refine step_r rfl rfl trivial ?_
        refine step_g1 rfl h83 ?_
        refine step_r rfl rfl trivial ?_
        refine step_g1 rfl h83 ?_
        refine step_bin rfl rfl rfl rfl rfl trivial ?_
        refine step_pickF rfl h83 rfl rfl ?_
        refine step_r rfl rfl trivial ?_
        refine step_gs rfl (fun h85 => ?_) (fun h85 => ?_)
        ·have h := h85
         try simp only [and_fold] at h
         rw [ec, c3] at h
         simp at h
        ·have g85 := h85
         try simp at g85
         refine step_g1 rfl h85 ?_
         refine step_r rfl rfl (by decide) ?_
         refine step_g1 rfl h85 ?_
         refine step_r rfl rfl trivial ?_
         refine step_g1 rfl h85 ?_
         refine step_r rfl rfl (by decide) ?_
         refine step_g1 rfl h85 ?_
         refine step_r rfl rfl trivial ?_
         refine step_g1 rfl h85 ?_
         refine step_bin rfl rfl rfl rfl rfl trivial ?_
         refine step_g1 rfl h85 ?_
         refine step_r rfl rfl (by decide) ?_
         refine step_g1 rfl h85 ?_
         refine step_r rfl rfl trivial ?_
         refine step_g1 rfl h85 ?_
         refine step_bin rfl rfl rfl rfl rfl trivial ?_
         refine step_pickF rfl h85 rfl rfl ?_
         refine step_r rfl rfl trivial ?_
         refine step_gs rfl (fun h87 => ?_) (fun h87 => ?_)
         ·have h := h87
          try simp only [and_fold] at h
          rw [ec, hcw] at h
          simp at h
         ·have g87 := h87
          try simp at g87
          refine step_g1 rfl h87 ?_
          refine step_r rfl rfl (by decide) ?_
          refine step_g1 rfl h87 ?_
          refine step_r rfl rfl (by decide) ?_
          refine step_g1 rfl h87 ?_
          refine step_r rfl rfl trivial ?_
          refine step_g1 rfl h87 ?_
          refine step_bin rfl rfl rfl rfl rfl trivial ?_
          refine step_g1 rfl h87 ?_
          refine step_r rfl rfl trivial ?_
          refine step_gs rfl (fun h89 => ?_) (fun h89 => ?_)
          ·have g89 := h89
           try simp at g89
           skip
           refine step_g1 rfl h89 ?_
           refine step_r rfl rfl (by decide) ?_
           refine step_g1 rfl h89 ?_
           refine step_r rfl rfl trivial ?_
           refine step_g1 rfl h89 ?_
           refine step_r rfl rfl trivial ?_
           refine step_g1 rfl h89 ?_
           refine step_bin rfl rfl rfl rfl rfl trivial ?_
           refine step_g1 rfl h87 ?_
           refine step_pickT rfl h89 rfl rfl ?_
           refine step_pickF rfl h87 rfl rfl ?_
           refine step_r rfl rfl trivial ?_
           refine step_gs rfl (fun h91 => ?_) (fun h91 => ?_)
           ·have h := of_decide_eq_true h91
            try simp only [and_fold] at h
            rw [ec] at h
            have h2 := c5 hz
            omega
           ·have g91 := h91
            try simp at g91
            refine step_g1 rfl h91 ?_
            refine step_r rfl rfl (by decide) ?_
            refine step_g1 rfl h91 ?_
            refine step_r rfl rfl trivial ?_
            refine step_g1 rfl h91 ?_
            refine step_r rfl rfl trivial ?_
            refine step_g1 rfl h91 ?_
            refine step_bin rfl rfl rfl rfl rfl trivial ?_
            refine step_g1 rfl h91 ?_
            refine step_bin rfl rfl rfl rfl rfl trivial ?_
            refine step_pickF rfl h91 rfl rfl ?_
            refine step_r rfl rfl trivial ?_
            refine step_gs rfl (fun h93 => ?_) (fun h93 => ?_)
            ·have h := of_decide_eq_true h93
             try simp only [and_fold] at h
             rw [ec, hw2] at h
             omega
            ·have g93 := h93
             try simp at g93
             refine step_g1 rfl h93 ?_
             refine step_r rfl rfl trivial ?_
             refine step_g1 rfl h93 ?_
             refine step_r rfl rfl trivial ?_
             refine step_g1 rfl h93 ?_
             refine step_bin rfl rfl rfl rfl rfl trivial ?_
             refine step_g1 rfl h93 ?_
             refine step_r rfl rfl trivial ?_
             refine step_gs rfl (fun h95 => ?_) (fun h95 => ?_)
             ·have g95 := h95
              try simp at g95
              have hB0 : 0 < Bs.length := by have h := h95; simp at h; omega
              have hB1 : Bs.length - 1 < Bs.length := by omega
              obtain ⟨bl, hbl⟩ : ∃ z_, Bs[Bs.length - 1]? = some z_ := ⟨_, List.getElem?_eq_getElem hB1⟩
              obtain ⟨c81, c82, c83⟩ := c8 bl (by rw [List.getLast?_eq_getElem?]; exact hbl)
              have hw4 : IntKind.i64.wrap (bl.Since + 3) = bl.Since + 3 := by rw [IntKind.wrap_i64]; omega
              refine step_g1 rfl h95 ?_
              refine step_r rfl rfl (by decide) ?_
              refine step_g1 rfl h95 ?_
              refine step_r rfl rfl trivial ?_
              refine step_g1 rfl h95 ?_
              refine step_r rfl rfl trivial ?_
              refine step_g1 rfl h95 ?_
              refine step_r rfl rfl trivial ?_
              refine step_g1 rfl h95 ?_
              refine step_r rfl rfl trivial ?_
              refine step_g1 rfl h95 ?_
              refine step_bin rfl rfl rfl rfl rfl trivial ?_
              refine step_g1 rfl h95 ?_
              refine step_idxR' (k := (Bs.length - 1)) rfl rfl (by rw [IntKind.wrap_i64]; omega) rfl rfl hB1 rfl ?_
              refine step_g1 rfl h95 ?_
              refine step_r rfl rfl (by decide) ?_
              refine step_g1 rfl h95 ?_
              refine step_load_oneR rfl rfl rfl rfl (flat_get (s := 4) (enc := encGCast) (fun _ => rfl) hbl (o := 2) rfl (by decide)) rfl ?_
              refine step_g1 rfl h95 ?_
              refine step_bin rfl rfl rfl rfl rfl trivial ?_
              refine step_g1 rfl h95 ?_
              refine step_bin rfl rfl rfl rfl rfl trivial ?_
              refine step_g1 rfl h93 ?_
              refine step_pickT rfl h95 rfl rfl ?_
              refine step_pickF rfl h93 rfl rfl ?_
              refine step_nil ?_
              refine seqK_n ?_
              refine sem_cond rfl (fun h97 => ?_) (fun h97 => ?_)
              ·have h := of_decide_eq_true h97
               try simp only [and_fold] at h
               rw [ec, hw4] at h
               omega
              ·have g97 := h97
               try simp at g97
               refine sem_skip ?_
               refine seqK_n ?_
               refine sem_seq ?_
               refine sem_region rfl ?_
               refine step_r rfl rfl trivial ?_
               refine step_r (v := (.agg [_, _, _, _])) rfl rfl (Nat.le_of_ble_eq_true rfl) ?_
               refine step_n (o := .row _ _ [_, _, _, _]) (nx' := 6) rfl rfl rfl (by decide) ?_
               refine step_appendC (m := 1) (new := [_, _, _, _]) (cs' := (Bs ++ [((beginC z (⟨(IntKind.i64.wrap (k + 1)), (andI x.f2 15), 0, 0, 0, 0, false, []⟩ : GAbility) k (IntKind.i64.wrap (now + (andI x.f1 3)))).1).Now]).flatMap encGCast) (n' := (Bs ++ [((beginC z (⟨(IntKind.i64.wrap (k + 1)), (andI x.f2 15), 0, 0, 0, 0, false, []⟩ : GAbility) k (IntKind.i64.wrap (now + (andI x.f1 3)))).1).Now]).length) (H' := [(5, .row _ _ _), (4, .box [_, _, _, _]), (3, .box [_, _, _, _, _, _, _, _, _]), (2, .box [_, _, _, _, _, _, _, _]), (0, .box [_, _, _, _, _, _, _, _, _]), (1, .row _ _ _)]) rfl rfl rfl (rfl) rfl rfl rfl rfl rfl rfl (flat_len (s := 4) (enc := encGCast) (fun _ => rfl) Bs) (rfl) (by first | decide | (unfold maxGrow; omega) | (unfold maxGrow; simp; omega)) (len_snoc Bs _) (((flat_snoc (enc := encGCast) (l := Bs) (((beginC z (⟨(IntKind.i64.wrap (k + 1)), (andI x.f2 15), 0, 0, 0, 0, false, []⟩ : GAbility) k (IntKind.i64.wrap (now + (andI x.f1 3)))).1).Now))).symm) (.inl rfl) rfl rfl (.keep rfl (.keep rfl (.keep rfl (.keep rfl (.keep rfl (.keep rfl .nil)))))) (.keep rfl (.keep rfl (.lose (v' := .undef) rfl (.keep rfl (.keep rfl (.keep rfl (.keep rfl (.keep rfl (.lose (v' := .undef) rfl (.lose (v' := .undef) rfl (.keep rfl (.keep rfl (.lose (v' := .undef) rfl (.lose (v' := .undef) rfl (.keep rfl (.keep rfl (.keep rfl (.keep rfl (.keep rfl (.lose (v' := .undef) rfl (.keep rfl (.keep rfl (.keep rfl (.keep rfl (.keep rfl (.keep rfl (.keep rfl (.keep rfl (.keep rfl (.keep rfl (.keep rfl (.keep rfl (.keep rfl (.keep rfl (.keep rfl (.keep rfl (.keep rfl (.keep rfl (.keep rfl (.keep rfl (.keep rfl (.keep rfl (.keep rfl (.keep rfl (.keep rfl (.keep rfl (.keep rfl (.keep rfl (.keep rfl (.keep rfl (.keep rfl (.keep rfl (.keep rfl (.keep rfl (.keep rfl (.keep rfl (.keep rfl (.keep rfl (.keep rfl (.keep rfl (.keep rfl (.keep rfl (.keep rfl (.keep rfl (.keep rfl (.keep rfl (.keep rfl (.keep rfl (.keep rfl (.keep rfl (.keep rfl (.keep rfl (.keep rfl (.keep rfl (.keep rfl (.keep rfl (.keep rfl (.keep rfl (.keep rfl (.keep rfl (.keep rfl (.keep rfl (.keep rfl (.keep rfl (.keep rfl (.keep rfl (.keep rfl (.keep rfl (.keep rfl (.keep rfl (.keep rfl (.keep rfl (.keep rfl (.keep rfl (.keep rfl (.keep rfl (.keep rfl (.keep rfl (.keep rfl (.keep rfl (.keep rfl (.keep rfl (.keep rfl (.keep rfl (.keep rfl (.keep rfl (.keep rfl (.keep rfl (.keep rfl (.keep rfl (.keep rfl (.keep rfl (.keep rfl (.keep rfl (.keep rfl (.keep rfl (.lose (v' := .undef) rfl (.keep rfl (.keep rfl (.keep rfl .nil)))))))))))))))))))))))))))))))))))))))))))))))))))))))))))))))))))))))))))))))))))))))))))))))))))))))))))))))))))))))) ?_
               refine step_r rfl rfl trivial ?_
               refine step_nil ?_
               refine seqK_n ?_
               refine sem_region rfl ?_
               refine step_r (v := (.agg [_, _, _, _, _, _, _, _, _])) rfl rfl (Nat.le_of_ble_eq_true rfl) ?_
               refine step_store (H' := [(5, .row _ _ _), (4, .box [_, _, _, _]), (3, .box [_, _, _, _, _, _, _, _, _]), (2, .box [_, _, _, _, _, _, _, _]), (0, .box [_, _, _, _, _, _, _, _, _]), (1, .row _ _ _)]) rfl rfl rfl rfl rfl rfl (Nat.le_of_ble_eq_true rfl) (.inl rfl) rfl ?_
               refine step_nil ?_
               refine blkK_n ?_
               refine seqK_n ?_
               refine sem_seq ?_
               refine sem_region rfl ?_
               refine step_r (v := (.agg [_, _, _, _, _, _, _, _, _])) rfl rfl (Nat.le_of_ble_eq_true rfl) ?_
               refine step_call rfl rfl rfl rfl (rightC_ok ((beginC z (⟨(IntKind.i64.wrap (k + 1)), (andI x.f2 15), 0, 0, 0, 0, false, []⟩ : GAbility) k (IntKind.i64.wrap (now + (andI x.f1 3)))).1)) rfl rfl rfl ?_
               refine step_r rfl rfl trivial ?_
               refine step_nil ?_
               refine seqK_n ?_
               refine sem_cond rfl (fun h98 => ?_) (fun h98 => ?_)
               ·have h := h98
                simp at h
                exact absurd c9.hr h
               ·have g98 := h98
                try simp at g98
                refine sem_skip ?_
                refine blkK_n ?_
                refine seqK_n ?_
                refine sem_region rfl ?_
                refine step_r rfl rfl trivial ?_
                refine step_bin rfl rfl rfl rfl rfl trivial ?_
                refine step_r rfl rfl trivial ?_
                refine step_nil ?_
                exact lup_again (k+1, (beginC z ⟨IntKind.i64.wrap ((k : Int) + 1), (andI x.f2 15), 0, 0, 0, 0, false, []⟩ (k : Int) (IntKind.i64.wrap (now + (andI x.f1 3)))).1, Bs ++ [(beginC z ⟨IntKind.i64.wrap ((k : Int) + 1), (andI x.f2 15), 0, 0, 0, 0, false, []⟩ (k : Int) (IntKind.i64.wrap (now + (andI x.f1 3)))).1.Now], p, (IntKind.i64.wrap (now + (andI x.f1 3)))) (⟨hk, (by rw [ec]; exact c9), by rw [hwn]; push_cast; omega, (by simp; omega)⟩) (by show steps.length - (k + 1) < steps.length - k; omega) (less_of rfl ⟨⟨rfl, rfl⟩, ⟨rfl, rfl⟩, ⟨rfl, rfl⟩, ⟨rfl, rfl⟩, ⟨rfl, rfl⟩, ⟨rfl, rfl⟩, ⟨congrArg (fun n => some (I n)) (wrapK hk (by assumption)), rfl⟩, trivial⟩ ⟨⟨rfl, rfl, rfl⟩, ⟨rfl, rfl, rfl⟩, trivial⟩ (fun _ _ => .inr (Nat.zero_le _)))
             ·have g95 := h95
              try simp at g95
              refine step_g0 rfl h95 rfl ?_
              refine step_g0 rfl h95 rfl ?_
              refine step_g0 rfl h95 rfl ?_
              refine step_g0 rfl h95 rfl ?_
              refine step_g0 rfl h95 rfl ?_
              refine step_g0 rfl h95 rfl ?_
              refine step_g0 rfl h95 rfl ?_
              refine step_g0 rfl h95 rfl ?_
              refine step_g0 rfl h95 rfl ?_
              refine step_g0 rfl h95 rfl ?_
              refine step_g0 rfl h95 rfl ?_
              refine step_g1 rfl h93 ?_
              refine step_pickF rfl h95 rfl rfl ?_
              refine step_pickF rfl h93 rfl rfl ?_
              refine step_nil ?_
              refine seqK_n ?_
              refine sem_condF rfl ?_
              refine sem_skip ?_
              refine seqK_n ?_
              refine sem_seq ?_
              refine sem_region rfl ?_
              refine step_r rfl rfl trivial ?_
              refine step_r (v := (.agg [_, _, _, _])) rfl rfl (Nat.le_of_ble_eq_true rfl) ?_
              refine step_n (o := .row _ _ [_, _, _, _]) (nx' := 6) rfl rfl rfl (by decide) ?_
              refine step_appendC (m := 1) (new := [_, _, _, _]) (cs' := (Bs ++ [((beginC z (⟨(IntKind.i64.wrap (k + 1)), (andI x.f2 15), 0, 0, 0, 0, false, []⟩ : GAbility) k (IntKind.i64.wrap (now + (andI x.f1 3)))).1).Now]).flatMap encGCast) (n' := (Bs ++ [((beginC z (⟨(IntKind.i64.wrap (k + 1)), (andI x.f2 15), 0, 0, 0, 0, false, []⟩ : GAbility) k (IntKind.i64.wrap (now + (andI x.f1 3)))).1).Now]).length) (H' := [(5, .row _ _ _), (4, .box [_, _, _, _]), (3, .box [_, _, _, _, _, _, _, _, _]), (2, .box [_, _, _, _, _, _, _, _]), (0, .box [_, _, _, _, _, _, _, _, _]), (1, .row _ _ _)]) rfl rfl rfl (rfl) rfl rfl rfl rfl rfl rfl (flat_len (s := 4) (enc := encGCast) (fun _ => rfl) Bs) (rfl) (by first | decide | (unfold maxGrow; omega) | (unfold maxGrow; simp; omega)) (len_snoc Bs _) (((flat_snoc (enc := encGCast) (l := Bs) (((beginC z (⟨(IntKind.i64.wrap (k + 1)), (andI x.f2 15), 0, 0, 0, 0, false, []⟩ : GAbility) k (IntKind.i64.wrap (now + (andI x.f1 3)))).1).Now))).symm) (.inl rfl) rfl rfl (.keep rfl (.keep rfl (.keep rfl (.keep rfl (.keep rfl (.keep rfl .nil)))))) (.keep rfl (.keep rfl (.lose (v' := .undef) rfl (.keep rfl (.keep rfl (.keep rfl (.keep rfl (.keep rfl (.keep rfl (.keep rfl (.keep rfl (.keep rfl (.keep rfl (.keep rfl (.keep rfl (.keep rfl (.keep rfl (.keep rfl (.keep rfl (.lose (v' := .undef) rfl (.keep rfl (.keep rfl (.keep rfl (.keep rfl (.keep rfl (.keep rfl (.keep rfl (.keep rfl (.keep rfl (.keep rfl (.keep rfl (.keep rfl (.keep rfl (.keep rfl (.keep rfl (.keep rfl (.keep rfl (.keep rfl (.keep rfl (.keep rfl (.keep rfl (.keep rfl (.keep rfl (.keep rfl (.keep rfl (.keep rfl (.keep rfl (.keep rfl (.keep rfl (.keep rfl (.keep rfl (.keep rfl (.keep rfl (.keep rfl (.keep rfl (.keep rfl (.keep rfl (.keep rfl (.keep rfl (.keep rfl (.keep rfl (.keep rfl (.keep rfl (.keep rfl (.keep rfl (.keep rfl (.keep rfl (.keep rfl (.keep rfl (.keep rfl (.keep rfl (.keep rfl (.keep rfl (.keep rfl (.keep rfl (.keep rfl (.keep rfl (.keep rfl (.keep rfl (.keep rfl (.keep rfl (.keep rfl (.keep rfl (.keep rfl (.keep rfl (.keep rfl (.keep rfl (.keep rfl (.keep rfl (.keep rfl (.keep rfl (.keep rfl (.keep rfl (.keep rfl (.keep rfl (.keep rfl (.keep rfl (.keep rfl (.keep rfl (.keep rfl (.keep rfl (.keep rfl (.keep rfl (.keep rfl (.keep rfl (.keep rfl (.keep rfl (.keep rfl (.keep rfl (.keep rfl (.keep rfl (.keep rfl (.keep rfl (.keep rfl (.keep rfl (.keep rfl (.lose (v' := .undef) rfl (.keep rfl (.keep rfl (.keep rfl .nil)))))))))))))))))))))))))))))))))))))))))))))))))))))))))))))))))))))))))))))))))))))))))))))))))))))))))))))))))))))))) ?_
              refine step_r rfl rfl trivial ?_
              refine step_nil ?_
              refine seqK_n ?_
              refine sem_region rfl ?_
              refine step_r (v := (.agg [_, _, _, _, _, _, _, _, _])) rfl rfl (Nat.le_of_ble_eq_true rfl) ?_
              refine step_store (H' := [(5, .row _ _ _), (4, .box [_, _, _, _]), (3, .box [_, _, _, _, _, _, _, _, _]), (2, .box [_, _, _, _, _, _, _, _]), (0, .box [_, _, _, _, _, _, _, _, _]), (1, .row _ _ _)]) rfl rfl rfl rfl rfl rfl (Nat.le_of_ble_eq_true rfl) (.inl rfl) rfl ?_
              refine step_nil ?_
              refine blkK_n ?_
              refine seqK_n ?_
              refine sem_seq ?_
              refine sem_region rfl ?_
              refine step_r (v := (.agg [_, _, _, _, _, _, _, _, _])) rfl rfl (Nat.le_of_ble_eq_true rfl) ?_
              refine step_call rfl rfl rfl rfl (rightC_ok ((beginC z (⟨(IntKind.i64.wrap (k + 1)), (andI x.f2 15), 0, 0, 0, 0, false, []⟩ : GAbility) k (IntKind.i64.wrap (now + (andI x.f1 3)))).1)) rfl rfl rfl ?_
              refine step_r rfl rfl trivial ?_
              refine step_nil ?_
              refine seqK_n ?_
              refine sem_cond rfl (fun h100 => ?_) (fun h100 => ?_)
              ·have h := h100
               simp at h
               exact absurd c9.hr h
              ·have g100 := h100
               try simp at g100
               refine sem_skip ?_
               refine blkK_n ?_
               refine seqK_n ?_
               refine sem_region rfl ?_
               refine step_r rfl rfl trivial ?_
               refine step_bin rfl rfl rfl rfl rfl trivial ?_
               refine step_r rfl rfl trivial ?_
               refine step_nil ?_
               exact lup_again (k+1, (beginC z ⟨IntKind.i64.wrap ((k : Int) + 1), (andI x.f2 15), 0, 0, 0, 0, false, []⟩ (k : Int) (IntKind.i64.wrap (now + (andI x.f1 3)))).1, Bs ++ [(beginC z ⟨IntKind.i64.wrap ((k : Int) + 1), (andI x.f2 15), 0, 0, 0, 0, false, []⟩ (k : Int) (IntKind.i64.wrap (now + (andI x.f1 3)))).1.Now], p, (IntKind.i64.wrap (now + (andI x.f1 3)))) (⟨hk, (by rw [ec]; exact c9), by rw [hwn]; push_cast; omega, (by simp; omega)⟩) (by show steps.length - (k + 1) < steps.length - k; omega) (less_of rfl ⟨⟨rfl, rfl⟩, ⟨rfl, rfl⟩, ⟨rfl, rfl⟩, ⟨rfl, rfl⟩, ⟨rfl, rfl⟩, ⟨rfl, rfl⟩, ⟨congrArg (fun n => some (I n)) (wrapK hk (by assumption)), rfl⟩, trivial⟩ ⟨⟨rfl, rfl, rfl⟩, ⟨rfl, rfl, rfl⟩, trivial⟩ (fun _ _ => .inr (Nat.zero_le _)))
          ·have h := h89
           simp at h
           exact absurd hz h
    ·have g55 := h55
     try simp at g55
     refine sem_seq ?_
     refine sem_region rfl ?_
     refine step_bin rfl rfl rfl rfl rfl trivial ?_
     refine step_r rfl rfl trivial ?_
     refine step_nil ?_
     refine seqK_n ?_
     refine sem_cond rfl (fun h103 => ?_) (fun h103 => ?_)
     ·have g103 := h103
      try simp at g103
      have hS : Once (stepC z (IntKind.i64.wrap (now + (andI x.f1 3)))).1 Bs (p + (stepC z (IntKind.i64.wrap (now + (andI x.f1 3)))).2.length) (IntKind.i64.wrap (now + (andI x.f1 3))) := once_step hO
      have hsl := stepC_len (s := z) (t := (IntKind.i64.wrap (now + (andI x.f1 3))))
      refine sem_seq ?_
      refine sem_region rfl ?_
      refine step_r (v := (.agg [_, _, _, _, _, _, _, _, _])) rfl rfl (Nat.le_of_ble_eq_true rfl) ?_
      refine step_r rfl rfl trivial ?_
      refine step_callJ (Hin := []) (out' := .tup [(.agg [_, _, _, _, _, _, _, _, _]), .ref 2 _ _ _]) (H' := [(2, .row _ _ _), (0, .box [_, _, _, _, _, _, _, _, _]), (1, .row _ _ _)]) (nx' := 3) [] rfl rfl rfl rfl rfl rfl rfl rfl rfl (by (repeat' apply And.intro) <;> first | trivial | rfl | exact flat_len (fun _ => rfl) _ | exact encI_len _ | exact encB_len _ | exact encY_len _ | assumption) (step_ok z (IntKind.i64.wrap (now + (andI x.f1 3)))) rfl (by decide) rfl rfl ⟨encGCast_solid, trivial⟩ rfl rfl rfl rfl ?_
      refine step_r rfl rfl trivial ?_
      refine step_r rfl rfl trivial ?_
      refine step_r rfl rfl trivial ?_
      refine step_n (o := .box [_, _, _, _, _, _, _, _, _]) (nx' := 4) rfl rfl rfl trivial ?_
      refine step_store (H' := [(3, .box [_, _, _, _, _, _, _, _, _]), (2, .row _ _ _), (0, .box [_, _, _, _, _, _, _, _, _]), (1, .row _ _ _)]) rfl rfl rfl rfl rfl rfl (Nat.le_of_ble_eq_true rfl) (.inl rfl) rfl ?_
      refine step_r rfl rfl trivial ?_
      refine step_nil ?_
      refine seqK_n ?_
      refine sem_seq ?_
      refine sem_seq ?_
      refine sem_region rfl ?_
      refine step_r rfl rfl trivial ?_
      refine step_nil ?_
      refine seqK_n ?_
      refine sem_block ?_
      refine sem_loop_of (fun j : Nat => (⟨[(0, .pv (.slc steps.length steps_f (steps.flatMap encA3int))), (3, B true), (4, .ptr 0 0), (5, .ref 1 4 0 Bs.length), (6, I (p + j : Nat)), (7, I (IntKind.i64.wrap (now + (andI x.f1 3)))), (8, I k), (13, .ptr 3 0), (14, .ref 2 4 0 (stepC z (IntKind.i64.wrap (now + (andI x.f1 3)))).2.length), (15, I j)], [(0, .box [I z.Now.Ability, I z.Now.Target, I z.Now.Since, I z.Now.Until, I z.Next.Ability, I z.Next.Target, I z.Next.Since, I z.Next.Until, I z.Wait]), (1, .row 52 4 (Bs.flatMap encGCast)), (2, .row 52 4 ((stepC z (IntKind.i64.wrap (now + (andI x.f1 3)))).2.flatMap encGCast)), (3, .box [I ((stepC z (IntKind.i64.wrap (now + (andI x.f1 3)))).1).Now.Ability, I ((stepC z (IntKind.i64.wrap (now + (andI x.f1 3)))).1).Now.Target, I ((stepC z (IntKind.i64.wrap (now + (andI x.f1 3)))).1).Now.Since, I ((stepC z (IntKind.i64.wrap (now + (andI x.f1 3)))).1).Now.Until, I ((stepC z (IntKind.i64.wrap (now + (andI x.f1 3)))).1).Next.Ability, I ((stepC z (IntKind.i64.wrap (now + (andI x.f1 3)))).1).Next.Target, I ((stepC z (IntKind.i64.wrap (now + (andI x.f1 3)))).1).Next.Since, I ((stepC z (IntKind.i64.wrap (now + (andI x.f1 3)))).1).Next.Until, I ((stepC z (IntKind.i64.wrap (now + (andI x.f1 3)))).1).Wait])], 4, [], 245, 0⟩ : St)) (fun j : Nat => j ≤ (stepC z (IntKind.i64.wrap (now + (andI x.f1 3)))).2.length) (fun j : Nat => (stepC z (IntKind.i64.wrap (now + (andI x.f1 3)))).2.length - j) 0 (Nat.zero_le _) (less_of rfl ⟨⟨rfl, rfl⟩, ⟨rfl, rfl⟩, ⟨rfl, rfl⟩, ⟨rfl, rfl⟩, ⟨rfl, rfl⟩, ⟨rfl, rfl⟩, ⟨rfl, rfl⟩, ⟨rfl, rfl⟩, ⟨rfl, rfl⟩, ⟨rfl, rfl⟩, trivial⟩ ⟨⟨rfl, rfl, rfl⟩, ⟨rfl, rfl, rfl⟩, ⟨rfl, rfl, rfl⟩, ⟨rfl, rfl, rfl⟩, trivial⟩ (fun _ _ => .inr (Nat.zero_le _))) (fun j hI => ?_)
      show Walks Try.prog _ _ (⟨[(0, .pv (.slc steps.length steps_f (steps.flatMap encA3int))), (3, B true), (4, .ptr 0 0), (5, .ref 1 4 0 Bs.length), (6, I (p + j : Nat)), (7, I (IntKind.i64.wrap (now + (andI x.f1 3)))), (8, I k), (13, .ptr 3 0), (14, .ref 2 4 0 (stepC z (IntKind.i64.wrap (now + (andI x.f1 3)))).2.length), (15, I j)], [(0, .box [I z.Now.Ability, I z.Now.Target, I z.Now.Since, I z.Now.Until, I z.Next.Ability, I z.Next.Target, I z.Next.Since, I z.Next.Until, I z.Wait]), (1, .row 52 4 (Bs.flatMap encGCast)), (2, .row 52 4 ((stepC z (IntKind.i64.wrap (now + (andI x.f1 3)))).2.flatMap encGCast)), (3, .box [I ((stepC z (IntKind.i64.wrap (now + (andI x.f1 3)))).1).Now.Ability, I ((stepC z (IntKind.i64.wrap (now + (andI x.f1 3)))).1).Now.Target, I ((stepC z (IntKind.i64.wrap (now + (andI x.f1 3)))).1).Now.Since, I ((stepC z (IntKind.i64.wrap (now + (andI x.f1 3)))).1).Now.Until, I ((stepC z (IntKind.i64.wrap (now + (andI x.f1 3)))).1).Next.Ability, I ((stepC z (IntKind.i64.wrap (now + (andI x.f1 3)))).1).Next.Target, I ((stepC z (IntKind.i64.wrap (now + (andI x.f1 3)))).1).Next.Since, I ((stepC z (IntKind.i64.wrap (now + (andI x.f1 3)))).1).Next.Until, I ((stepC z (IntKind.i64.wrap (now + (andI x.f1 3)))).1).Wait])], 4, [], 245, 0⟩ : St)
      refine sem_seq ?_
      refine sem_seq ?_
      refine sem_region rfl ?_
      refine step_r rfl rfl trivial ?_
      refine step_r rfl rfl trivial ?_
      refine step_r rfl rfl trivial ?_
      refine step_bin rfl rfl rfl rfl rfl trivial ?_
      refine step_nil ?_
      refine seqK_n ?_
      refine sem_cond rfl (fun h105 => ?_) (fun h105 => ?_)
      ·have hj : j < (stepC z (IntKind.i64.wrap (now + (andI x.f1 3)))).2.length := by have h := h105; simp at h; omega
       obtain ⟨y, hy⟩ : ∃ z_, (stepC z (IntKind.i64.wrap (now + (andI x.f1 3)))).2[j]? = some z_ := ⟨_, List.getElem?_eq_getElem hj⟩
       obtain ⟨y1, y2⟩ := once_at hO hy
       have hpj : p + j < Bs.length := (List.getElem?_eq_some_iff.1 y1).1
       refine sem_skip ?_
       refine seqK_n ?_
       refine sem_seq ?_
       refine sem_block ?_
       refine sem_seq ?_
       refine sem_seq ?_
       refine sem_drawn rfl (by decide +kernel) rfl ?_
       refine step_r rfl rfl trivial ?_
       refine step_r rfl rfl trivial ?_
       refine step_r rfl rfl trivial ?_
       refine step_bin rfl rfl rfl rfl rfl trivial ?_
       refine step_r rfl rfl trivial ?_
       refine step_gs rfl (fun h108 => ?_) (fun h108 => ?_)
       ·have h := h108
        try simp only [and_fold] at h
        simp at h
        omega
       ·have g108 := h108
        try simp at g108
        refine step_g1 rfl h108 ?_
        refine step_r rfl rfl trivial ?_
        refine step_g1 rfl h108 ?_
        refine step_r rfl rfl trivial ?_
        refine step_g1 rfl h108 ?_
        refine step_idxR (k := j) rfl rfl rfl rfl hj rfl ?_
        refine step_g1 rfl h108 ?_
        refine step_load_rowR rfl rfl rfl rfl (flat_lt (s := 4) (enc := encGCast) (fun _ => rfl) hj) (flat_take (s := 4) (enc := encGCast) (fun _ => rfl) hy) rfl ?_
        refine step_g1 rfl h108 ?_
        refine step_r rfl rfl trivial ?_
        refine step_g1 rfl h108 ?_
        refine step_r rfl rfl trivial ?_
        refine step_g1 rfl h108 ?_
        refine step_idxR (k := (p + j)) rfl rfl rfl rfl hpj rfl ?_
        refine step_g1 rfl h108 ?_
        refine step_load_rowR rfl rfl rfl rfl (flat_lt (s := 4) (enc := encGCast) (fun _ => rfl) hpj) (flat_take (s := 4) (enc := encGCast) (fun _ => rfl) y1) rfl ?_
        refine step_g1 rfl h108 ?_
        refine step_neqA rfl rfl rfl (by kernel_rfl) rfl rfl rfl rfl rfl ?_
        refine step_pickF rfl h108 rfl rfl ?_
        refine step_r rfl rfl trivial ?_
        refine step_gs rfl (fun h110 => ?_) (fun h110 => ?_)
        ·have h := h110
         try simp only [and_fold] at h
         simp at h
        ·have g110 := h110
         try simp at g110
         refine step_g1 rfl h110 ?_
         refine step_r rfl rfl trivial ?_
         refine step_g1 rfl h110 ?_
         refine step_r rfl rfl trivial ?_
         refine step_g1 rfl h110 ?_
         refine step_idxR (k := j) rfl rfl rfl rfl hj rfl ?_
         refine step_g1 rfl h110 ?_
         refine step_r rfl rfl (by decide) ?_
         refine step_g1 rfl h110 ?_
         refine step_load_oneR rfl rfl rfl rfl (flat_get (s := 4) (enc := encGCast) (fun _ => rfl) hy (o := 3) rfl (by decide)) rfl ?_
         refine step_g1 rfl h110 ?_
         refine step_r rfl rfl trivial ?_
         refine step_g1 rfl h110 ?_
         refine step_bin rfl rfl rfl rfl rfl trivial ?_
         refine step_pickF rfl h110 rfl rfl ?_
         refine step_nil ?_
         refine seqK_n ?_
         refine sem_cond rfl (fun h113 => ?_) (fun h113 => ?_)
         ·have h := h113
          try simp only [and_fold] at h
          simp at h
          omega
         ·have g113 := h113
          try simp at g113
          refine sem_skip ?_
          refine seqK_n ?_
          refine sem_region rfl ?_
          refine step_r rfl rfl trivial ?_
          refine step_bin rfl rfl rfl rfl rfl trivial ?_
          refine step_r rfl rfl trivial ?_
          refine step_nil ?_
          refine blkK_n ?_
          refine seqK_n ?_
          refine sem_region rfl ?_
          refine step_r rfl rfl trivial ?_
          refine step_bin rfl rfl rfl rfl rfl trivial ?_
          refine step_r rfl rfl trivial ?_
          refine step_nil ?_
          exact lup_again (j+1) (hj) (by omega) (less_of rfl ⟨⟨rfl, rfl⟩, ⟨rfl, rfl⟩, ⟨rfl, rfl⟩, ⟨rfl, rfl⟩, ⟨congrArg (fun n => some (I n)) (by rw [IntKind.wrap_i64]; omega), rfl⟩, ⟨rfl, rfl⟩, ⟨rfl, rfl⟩, ⟨rfl, rfl⟩, ⟨rfl, rfl⟩, ⟨congrArg (fun n => some (I n)) (wrapK hj (by unfold maxLen; omega)), rfl⟩, trivial⟩ ⟨⟨rfl, rfl, rfl⟩, ⟨rfl, rfl, rfl⟩, ⟨rfl, rfl, rfl⟩, ⟨rfl, rfl, rfl⟩, trivial⟩ (fun _ _ => .inr (Nat.zero_le _)))
      ·have hj : j = (stepC z (IntKind.i64.wrap (now + (andI x.f1 3)))).2.length := by have h := h105; simp at h; omega
       refine sem_exit ?_
       refine seqK_e ?_
       refine lupK_e ?_
       refine blkK_t rfl ?_
       refine seqK_n ?_
       refine sem_seq ?_
       refine sem_seq ?_
       refine sem_region rfl ?_
       refine step_r rfl rfl (by decide) ?_
       refine step_r rfl rfl (by decide) ?_
       refine step_r rfl rfl trivial ?_
       refine step_bin rfl rfl rfl rfl rfl trivial ?_
       refine step_r rfl rfl trivial ?_
       refine step_gs rfl (fun h117 => ?_) (fun h117 => ?_)
       ·have g117 := h117
        try simp at g117
        refine step_g1 rfl h117 ?_
        refine step_r rfl rfl (by decide) ?_
        refine step_g1 rfl h117 ?_
        refine step_r rfl rfl (by decide) ?_
        refine step_g1 rfl h117 ?_
        refine step_r rfl rfl trivial ?_
        refine step_g1 rfl h117 ?_
        refine step_r rfl rfl trivial ?_
        refine step_g1 rfl h117 ?_
        refine step_bin rfl rfl rfl rfl rfl trivial ?_
        refine step_pickT rfl h117 rfl rfl ?_
        refine step_nil ?_
        refine seqK_n ?_
        refine sem_cond rfl (fun h120 => ?_) (fun h120 => ?_)
        ·have h := h120
         try simp only [and_fold] at h
         simp at h
         have h2 := step_now (n := 3) (z := z) (t := (IntKind.i64.wrap (now + (andI x.f1 3)))) (Nat.lt_succ_of_le (dep_le z))
         change ((stepC z (IntKind.i64.wrap (now + (andI x.f1 3)))).1.Now.Ability = 0 ∨ (stepC z (IntKind.i64.wrap (now + (andI x.f1 3)))).1.Now.Until > (IntKind.i64.wrap (now + (andI x.f1 3)))) at h2
         omega
        ·have g120 := h120
         try simp at g120
         refine sem_skip ?_
         refine seqK_n ?_
         refine sem_region rfl ?_
         refine step_r (v := (.agg [_, _, _, _, _, _, _, _, _])) rfl rfl (Nat.le_of_ble_eq_true rfl) ?_
         refine step_store (H' := [(0, .box [_, _, _, _, _, _, _, _, _]), (1, .row _ _ _), (2, .row _ _ _), (3, .box [_, _, _, _, _, _, _, _, _])]) rfl rfl rfl rfl rfl rfl (Nat.le_of_ble_eq_true rfl) (.inl rfl) rfl ?_
         refine step_nil ?_
         refine blkK_n ?_
         refine seqK_n ?_
         refine sem_seq ?_
         refine sem_region rfl ?_
         refine step_r (v := (.agg [_, _, _, _, _, _, _, _, _])) rfl rfl (Nat.le_of_ble_eq_true rfl) ?_
         refine step_call rfl rfl rfl rfl (rightC_ok ((stepC z (IntKind.i64.wrap (now + (andI x.f1 3)))).1)) rfl rfl rfl ?_
         refine step_r rfl rfl trivial ?_
         refine step_nil ?_
         refine seqK_n ?_
         refine sem_cond rfl (fun h121 => ?_) (fun h121 => ?_)
         ·have h := h121
          simp at h
          exact absurd hS.hr h
         ·have g121 := h121
          try simp at g121
          refine sem_skip ?_
          refine blkK_n ?_
          refine seqK_n ?_
          refine sem_region rfl ?_
          refine step_r rfl rfl trivial ?_
          refine step_bin rfl rfl rfl rfl rfl trivial ?_
          refine step_r rfl rfl trivial ?_
          refine step_nil ?_
          exact lup_again (k+1, (stepC z (IntKind.i64.wrap (now + (andI x.f1 3)))).1, Bs, p + (stepC z (IntKind.i64.wrap (now + (andI x.f1 3)))).2.length, (IntKind.i64.wrap (now + (andI x.f1 3)))) (⟨hk, hS, by rw [hwn]; push_cast; omega, (by omega)⟩) (by show steps.length - (k + 1) < steps.length - k; omega) (less_of rfl ⟨⟨rfl, rfl⟩, ⟨rfl, rfl⟩, ⟨rfl, rfl⟩, ⟨rfl, rfl⟩, ⟨congrArg (fun n => some (I n)) (by rw [hj]), rfl⟩, ⟨rfl, rfl⟩, ⟨congrArg (fun n => some (I n)) (wrapK hk (by assumption)), rfl⟩, trivial⟩ ⟨⟨rfl, rfl, rfl⟩, ⟨rfl, rfl, rfl⟩, trivial⟩ (fun _ _ => .inr (Nat.zero_le _)))
       ·have g117 := h117
        try simp at g117
        refine step_g0 rfl h117 rfl ?_
        refine step_g0 rfl h117 rfl ?_
        refine step_g0 rfl h117 rfl ?_
        refine step_g0 rfl h117 rfl ?_
        refine step_g0 rfl h117 rfl ?_
        refine step_pickF rfl h117 rfl rfl ?_
        refine step_nil ?_
        refine seqK_n ?_
        refine sem_condF rfl ?_
        refine sem_skip ?_
        refine seqK_n ?_
        refine sem_region rfl ?_
        refine step_r (v := (.agg [_, _, _, _, _, _, _, _, _])) rfl rfl (Nat.le_of_ble_eq_true rfl) ?_
        refine step_store (H' := [(0, .box [_, _, _, _, _, _, _, _, _]), (1, .row _ _ _), (2, .row _ _ _), (3, .box [_, _, _, _, _, _, _, _, _])]) rfl rfl rfl rfl rfl rfl (Nat.le_of_ble_eq_true rfl) (.inl rfl) rfl ?_
        refine step_nil ?_
        refine blkK_n ?_
        refine seqK_n ?_
        refine sem_seq ?_
        refine sem_region rfl ?_
        refine step_r (v := (.agg [_, _, _, _, _, _, _, _, _])) rfl rfl (Nat.le_of_ble_eq_true rfl) ?_
        refine step_call rfl rfl rfl rfl (rightC_ok ((stepC z (IntKind.i64.wrap (now + (andI x.f1 3)))).1)) rfl rfl rfl ?_
        refine step_r rfl rfl trivial ?_
        refine step_nil ?_
        refine seqK_n ?_
        refine sem_cond rfl (fun h124 => ?_) (fun h124 => ?_)
        ·have h := h124
         simp at h
         exact absurd hS.hr h
        ·have g124 := h124
         try simp at g124
         refine sem_skip ?_
         refine blkK_n ?_
         refine seqK_n ?_
         refine sem_region rfl ?_
         refine step_r rfl rfl trivial ?_
         refine step_bin rfl rfl rfl rfl rfl trivial ?_
         refine step_r rfl rfl trivial ?_
         refine step_nil ?_
         exact lup_again (k+1, (stepC z (IntKind.i64.wrap (now + (andI x.f1 3)))).1, Bs, p + (stepC z (IntKind.i64.wrap (now + (andI x.f1 3)))).2.length, (IntKind.i64.wrap (now + (andI x.f1 3)))) (⟨hk, hS, by rw [hwn]; push_cast; omega, (by omega)⟩) (by show steps.length - (k + 1) < steps.length - k; omega) (less_of rfl ⟨⟨rfl, rfl⟩, ⟨rfl, rfl⟩, ⟨rfl, rfl⟩, ⟨rfl, rfl⟩, ⟨congrArg (fun n => some (I n)) (by rw [hj]), rfl⟩, ⟨rfl, rfl⟩, ⟨congrArg (fun n => some (I n)) (wrapK hk (by assumption)), rfl⟩, trivial⟩ ⟨⟨rfl, rfl, rfl⟩, ⟨rfl, rfl, rfl⟩, trivial⟩ (fun _ _ => .inr (Nat.zero_le _)))
     ·have g103 := h103
      try simp at g103
      refine sem_seq ?_
      refine sem_region rfl ?_
      refine step_bin rfl rfl rfl rfl rfl trivial ?_
      refine step_r rfl rfl trivial ?_
      refine step_nil ?_
      refine seqK_n ?_
      refine sem_cond rfl (fun h128 => ?_) (fun h128 => ?_)
      ·have g128 := h128
       try simp at g128
       refine sem_seq ?_
       refine sem_region rfl ?_
       refine step_r rfl rfl trivial ?_
       refine step_r rfl rfl trivial ?_
       refine step_idxS (k := k) rfl rfl rfl rfl hk (flat_ne (s := 3) (enc := encA3int) (fun _ => rfl) (by decide) hk) rfl ?_
       refine step_r rfl rfl ⟨by decide, by decide⟩ ?_
       refine step_load_one rfl rfl rfl (flat_get (s := 3) (enc := encA3int) (fun _ => rfl) hx (o := 2) rfl (by decide)) rfl ?_
       refine step_bin rfl rfl rfl rfl rfl trivial ?_
       refine step_bin rfl rfl rfl rfl rfl trivial ?_
       refine step_nil ?_
       refine seqK_n ?_
       refine sem_cond rfl (fun h129 => ?_) (fun h129 => ?_)
       ·have g129 := h129
        try simp at g129
        obtain ⟨hT1, hT⟩ := once_stop hO
        have hws : IntKind.i64.wrap ((p : Int) + (stopC z).2) = (Bs.length : Int) := by rw [hT1, IntKind.wrap_i64]; omega
        refine sem_seq ?_
        refine sem_region rfl ?_
        refine step_r (v := (.agg [_, _, _, _, _, _, _, _, _])) rfl rfl (Nat.le_of_ble_eq_true rfl) ?_
        refine step_call rfl rfl rfl rfl (stop_ok z) rfl rfl rfl ?_
        refine step_r rfl rfl trivial ?_
        refine step_r rfl rfl trivial ?_
        refine step_r rfl rfl trivial ?_
        refine step_n (o := .box [_, _, _, _, _, _, _, _, _]) (nx' := 3) rfl rfl rfl trivial ?_
        refine step_store (H' := [(2, .box [_, _, _, _, _, _, _, _, _]), (0, .box [_, _, _, _, _, _, _, _, _]), (1, .row _ _ _)]) rfl rfl rfl rfl rfl rfl (Nat.le_of_ble_eq_true rfl) (.inl rfl) rfl ?_
        refine step_r rfl rfl trivial ?_
        refine step_nil ?_
        refine seqK_n ?_
        refine sem_seq ?_
        refine sem_seq ?_
        refine sem_region rfl ?_
        refine step_r rfl rfl trivial ?_
        refine step_r rfl rfl trivial ?_
        refine step_bin rfl rfl rfl rfl rfl trivial ?_
        refine step_r rfl rfl trivial ?_
        refine step_r rfl rfl trivial ?_
        refine step_bin rfl rfl rfl rfl rfl trivial ?_
        refine step_nil ?_
        refine seqK_n ?_
        refine sem_cond rfl (fun h132 => ?_) (fun h132 => ?_)
        ·have h := h132
         try simp only [and_fold] at h
         rw [hws] at h
         simp at h
        ·have g132 := h132
         try simp at g132
         refine sem_skip ?_
         refine seqK_n ?_
         refine sem_seq ?_
         refine sem_region rfl ?_
         refine step_r rfl rfl trivial ?_
         refine step_r rfl rfl trivial ?_
         refine step_r (v := .ref 1 4 0 p) rfl rfl ⟨by decide, by show (0 : Int) ≤ (p : Int); omega, by show (p : Int) ≤ (Bs.length : Int); omega⟩ ?_
         refine step_r rfl rfl trivial ?_
         refine step_nil ?_
         refine seqK_n ?_
         refine sem_seq ?_
         refine sem_seq ?_
         refine sem_region rfl ?_
         refine step_r rfl rfl trivial ?_
         refine step_bin rfl rfl rfl rfl rfl trivial ?_
         refine step_nil ?_
         refine seqK_n ?_
         refine sem_cond rfl (fun h133 => ?_) (fun h133 => ?_)
         ·have g133 := h133
          try simp at g133
          have hp0 : p = 0 := by have h := h133; simp at h; omega
          replace hT : Once ⟨c0, c0, (IntKind.i64.wrap (now + (andI x.f1 3))) + 3⟩ [] p (IntKind.i64.wrap (now + (andI x.f1 3))) := by
           have h := hT
           rw [show Bs.take p = [] from by rw [hp0]; rfl] at h
           exact h
          refine sem_region rfl ?_
          refine step_n (nx' := 4) rfl rfl rfl trivial ?_
          refine step_nil ?_
          refine seqK_n ?_
          refine sem_seq ?_
          refine sem_region rfl ?_
          refine step_r (v := (.agg [_, _, _, _, _, _, _, _, _])) rfl rfl (Nat.le_of_ble_eq_true rfl) ?_
          refine step_store (H' := [(3, .row _ _ _), (2, .box [_, _, _, _, _, _, _, _, _]), (0, .box [_, _, _, _, _, _, _, _, _]), (1, .row _ _ _)]) rfl rfl rfl rfl rfl rfl (Nat.le_of_ble_eq_true rfl) (.inl rfl) rfl ?_
          refine step_nil ?_
          refine seqK_n ?_
          refine sem_region rfl ?_
          refine step_r rfl rfl trivial ?_
          refine step_bin rfl rfl rfl rfl rfl trivial ?_
          refine step_r rfl rfl (by decide) ?_
          refine step_store (H' := [(3, .row _ _ _), (2, .box [_, _, _, _, _, _, _, _, _]), (0, .box [_, _, _, _, _, _, _, _, _]), (1, .row _ _ _)]) rfl rfl rfl rfl rfl rfl (Nat.le_of_ble_eq_true rfl) (.inl rfl) rfl ?_
          refine step_nil ?_
          refine blkK_n ?_
          refine seqK_n ?_
          refine sem_seq ?_
          refine sem_region rfl ?_
          refine step_r (v := (.agg [_, _, _, _, _, _, _, _, _])) rfl rfl (Nat.le_of_ble_eq_true rfl) ?_
          refine step_call rfl rfl rfl rfl (rightC_ok (⟨((stopC z).1).Now, ((stopC z).1).Next, (IntKind.i64.wrap ((IntKind.i64.wrap (now + (andI x.f1 3))) + 3))⟩ : GCasting)) rfl rfl rfl ?_
          refine step_r rfl rfl trivial ?_
          refine step_nil ?_
          refine seqK_n ?_
          refine sem_cond rfl (fun h134 => ?_) (fun h134 => ?_)
          ·have h := h134
           simp at h
           exact absurd hT.hr h
          ·have g134 := h134
           try simp at g134
           refine sem_skip ?_
           refine blkK_n ?_
           refine seqK_n ?_
           refine sem_region rfl ?_
           refine step_r rfl rfl trivial ?_
           refine step_bin rfl rfl rfl rfl rfl trivial ?_
           refine step_r rfl rfl trivial ?_
           refine step_nil ?_
           exact lup_againT (k+1, ⟨c0, c0, IntKind.i64.wrap ((IntKind.i64.wrap (now + (andI x.f1 3))) + 3)⟩, [], p, (IntKind.i64.wrap (now + (andI x.f1 3)))) (⟨hk, (by rw [hw3]; exact hT), by rw [hwn]; push_cast; omega, (by simp)⟩) (by show steps.length - (k + 1) < steps.length - k; omega) (Trans.ren [(1, 3)] (by decide +kernel) (by decide +kernel) rfl ⟨⟨rfl, rfl⟩, ⟨rfl, rfl⟩, ⟨rfl, rfl⟩, ⟨rfl, rfl⟩, ⟨rfl, rfl⟩, ⟨rfl, rfl⟩, ⟨congrArg (fun n => some (I n)) (wrapK hk (by assumption)), rfl⟩, trivial⟩ ⟨⟨rfl, rfl, rfl⟩, ⟨rfl, rfl, rfl⟩, trivial⟩ (by decide))
         ·have g133 := h133
          try simp at g133
          refine sem_trans (Trans.cut (id := 1) (m := p * 4) (cs' := (Bs.take p).flatMap encGCast) rfl (by simpa using flat_upto (enc := encGCast) (s := 4) (fun _ => rfl) Bs p (by omega))) ?_
          refine sem_skip ?_
          refine seqK_n ?_
          refine sem_seq ?_
          refine sem_region rfl ?_
          refine step_r (v := (.agg [_, _, _, _, _, _, _, _, _])) rfl rfl (Nat.le_of_ble_eq_true rfl) ?_
          refine step_store (H' := [(2, .box [_, _, _, _, _, _, _, _, _]), (0, .box [_, _, _, _, _, _, _, _, _]), (1, .row _ _ _)]) rfl rfl rfl rfl rfl rfl (Nat.le_of_ble_eq_true rfl) (.inl rfl) rfl ?_
          refine step_nil ?_
          refine seqK_n ?_
          refine sem_region rfl ?_
          refine step_r rfl rfl trivial ?_
          refine step_bin rfl rfl rfl rfl rfl trivial ?_
          refine step_r rfl rfl (by decide) ?_
          refine step_store (H' := [(2, .box [_, _, _, _, _, _, _, _, _]), (0, .box [_, _, _, _, _, _, _, _, _]), (1, .row _ _ _)]) rfl rfl rfl rfl rfl rfl (Nat.le_of_ble_eq_true rfl) (.inl rfl) rfl ?_
          refine step_nil ?_
          refine blkK_n ?_
          refine seqK_n ?_
          refine sem_seq ?_
          refine sem_region rfl ?_
          refine step_r (v := (.agg [_, _, _, _, _, _, _, _, _])) rfl rfl (Nat.le_of_ble_eq_true rfl) ?_
          refine step_call rfl rfl rfl rfl (rightC_ok (⟨((stopC z).1).Now, ((stopC z).1).Next, (IntKind.i64.wrap ((IntKind.i64.wrap (now + (andI x.f1 3))) + 3))⟩ : GCasting)) rfl rfl rfl ?_
          refine step_r rfl rfl trivial ?_
          refine step_nil ?_
          refine seqK_n ?_
          refine sem_cond rfl (fun h136 => ?_) (fun h136 => ?_)
          ·have h := h136
           simp at h
           exact absurd hT.hr h
          ·have g136 := h136
           try simp at g136
           refine sem_skip ?_
           refine blkK_n ?_
           refine seqK_n ?_
           refine sem_region rfl ?_
           refine step_r rfl rfl trivial ?_
           refine step_bin rfl rfl rfl rfl rfl trivial ?_
           refine step_r rfl rfl trivial ?_
           refine step_nil ?_
           exact lup_again (k+1, ⟨c0, c0, IntKind.i64.wrap ((IntKind.i64.wrap (now + (andI x.f1 3))) + 3)⟩, Bs.take p, p, (IntKind.i64.wrap (now + (andI x.f1 3)))) (⟨hk, (by rw [hw3]; exact hT), by rw [hwn]; push_cast; omega, (by rw [List.length_take]; omega)⟩) (by show steps.length - (k + 1) < steps.length - k; omega) (less_of rfl ⟨⟨rfl, rfl⟩, ⟨rfl, rfl⟩, ⟨rfl, rfl⟩, ⟨congrArg (fun n => some (AV.ref 1 4 0 n)) (by rw [List.length_take]; omega), rfl⟩, ⟨rfl, rfl⟩, ⟨rfl, rfl⟩, ⟨congrArg (fun n => some (I n)) (wrapK hk (by assumption)), rfl⟩, trivial⟩ ⟨⟨rfl, rfl, rfl⟩, ⟨rfl, rfl, rfl⟩, trivial⟩ (fun _ _ => .inr (Nat.zero_le _)))
       ·have g129 := h129
        try simp at g129
        refine sem_skip ?_
        refine blkK_n ?_
        refine seqK_n ?_
        refine sem_seq ?_
        refine sem_region rfl ?_
        refine step_r (v := (.agg [_, _, _, _, _, _, _, _, _])) rfl rfl (Nat.le_of_ble_eq_true rfl) ?_
        refine step_call rfl rfl rfl rfl (rightC_ok z) rfl rfl rfl ?_
        refine step_r rfl rfl trivial ?_
        refine step_nil ?_
        refine seqK_n ?_
        refine sem_cond rfl (fun h138 => ?_) (fun h138 => ?_)
        ·have h := h138
         simp at h
         exact absurd hO.hr h
        ·have g138 := h138
         try simp at g138
         refine sem_skip ?_
         refine blkK_n ?_
         refine seqK_n ?_
         refine sem_region rfl ?_
         refine step_r rfl rfl trivial ?_
         refine step_bin rfl rfl rfl rfl rfl trivial ?_
         refine step_r rfl rfl trivial ?_
         refine step_nil ?_
         exact lup_again (k+1, z, Bs, p, (IntKind.i64.wrap (now + (andI x.f1 3)))) (⟨hk, hO, by rw [hwn]; push_cast; omega, (by omega)⟩) (by show steps.length - (k + 1) < steps.length - k; omega) (less_of rfl ⟨⟨rfl, rfl⟩, ⟨rfl, rfl⟩, ⟨rfl, rfl⟩, ⟨rfl, rfl⟩, ⟨rfl, rfl⟩, ⟨rfl, rfl⟩, ⟨congrArg (fun n => some (I n)) (wrapK hk (by assumption)), rfl⟩, trivial⟩ ⟨⟨rfl, rfl, rfl⟩, ⟨rfl, rfl, rfl⟩, trivial⟩ (fun _ _ => .inr (Nat.zero_le _)))
      ·have g128 := h128
       try simp at g128
       refine sem_skip ?_
       refine blkK_n ?_
       refine seqK_n ?_
       refine sem_seq ?_
       refine sem_region rfl ?_
       refine step_r (v := (.agg [_, _, _, _, _, _, _, _, _])) rfl rfl (Nat.le_of_ble_eq_true rfl) ?_
       refine step_call rfl rfl rfl rfl (rightC_ok z) rfl rfl rfl ?_
       refine step_r rfl rfl trivial ?_
       refine step_nil ?_
       refine seqK_n ?_
       refine sem_cond rfl (fun h140 => ?_) (fun h140 => ?_)
       ·have h := h140
        simp at h
        exact absurd hO.hr h
       ·have g140 := h140
        try simp at g140
        refine sem_skip ?_
        refine blkK_n ?_
        refine seqK_n ?_
        refine sem_region rfl ?_
        refine step_r rfl rfl trivial ?_
        refine step_bin rfl rfl rfl rfl rfl trivial ?_
        refine step_r rfl rfl trivial ?_
        refine step_nil ?_
        exact lup_again (k+1, z, Bs, p, (IntKind.i64.wrap (now + (andI x.f1 3)))) (⟨hk, hO, by rw [hwn]; push_cast; omega, (by omega)⟩) (by show steps.length - (k + 1) < steps.length - k; omega) (less_of rfl ⟨⟨rfl, rfl⟩, ⟨rfl, rfl⟩, ⟨rfl, rfl⟩, ⟨rfl, rfl⟩, ⟨rfl, rfl⟩, ⟨rfl, rfl⟩, ⟨congrArg (fun n => some (I n)) (wrapK hk (by assumption)), rfl⟩, trivial⟩ ⟨⟨rfl, rfl, rfl⟩, ⟨rfl, rfl, rfl⟩, trivial⟩ (fun _ _ => .inr (Nat.zero_le _)))
  ·obtain ⟨i1, hO, hnk, hBk⟩ := hI
   have hal := once_all hO
   refine sem_exit ?_
   refine seqK_e ?_
   refine lupK_e ?_
   refine blkK_t rfl ?_
   refine seqK_n ?_
   refine sem_seq ?_
   refine sem_region rfl ?_
   refine step_r (v := (.agg [_, _, _, _, _, _, _, _, _])) rfl rfl (Nat.le_of_ble_eq_true rfl) ?_
   refine step_callJ (Hin := []) (out' := .tup [(.agg [_, _, _, _, _, _, _, _, _]), .ref 2 _ _ _]) (H' := [(2, .row _ _ _), (0, .box [_, _, _, _, _, _, _, _, _]), (1, .row _ _ _)]) (nx' := 3) [] rfl rfl rfl rfl rfl rfl rfl rfl rfl (by (repeat' apply And.intro) <;> first | trivial | rfl | exact flat_len (fun _ => rfl) _ | exact encI_len _ | exact encB_len _ | exact encY_len _ | assumption) (step_ok z 9223372036854775807) rfl (by decide) rfl rfl ⟨encGCast_solid, trivial⟩ rfl rfl rfl rfl ?_
   refine step_r rfl rfl trivial ?_
   refine step_r rfl rfl trivial ?_
   refine step_r rfl rfl trivial ?_
   refine step_n (o := .box [_, _, _, _, _, _, _, _, _]) (nx' := 4) rfl rfl rfl trivial ?_
   refine step_store (H' := [(3, .box [_, _, _, _, _, _, _, _, _]), (2, .row _ _ _), (0, .box [_, _, _, _, _, _, _, _, _]), (1, .row _ _ _)]) rfl rfl rfl rfl rfl rfl (Nat.le_of_ble_eq_true rfl) (.inl rfl) rfl ?_
   refine step_r rfl rfl trivial ?_
   refine step_nil ?_
   refine seqK_n ?_
   refine sem_seq ?_
   refine sem_region rfl ?_
   refine step_r rfl rfl trivial ?_
   refine step_r rfl rfl trivial ?_
   refine step_gs rfl (fun h143 => ?_) (fun h143 => ?_)
   ·have g143 := h143
    try simp at g143
    refine step_g1 rfl h143 ?_
    refine step_r rfl rfl trivial ?_
    refine step_g1 rfl h143 ?_
    refine step_r rfl rfl trivial ?_
    refine step_g1 rfl h143 ?_
    refine step_r rfl rfl trivial ?_
    refine step_g1 rfl h143 ?_
    refine step_bin rfl rfl rfl rfl rfl trivial ?_
    refine step_g1 rfl h143 ?_
    refine step_r rfl rfl trivial ?_
    refine step_g1 rfl h143 ?_
    refine step_r rfl rfl trivial ?_
    refine step_g1 rfl h143 ?_
    refine step_bin rfl rfl rfl rfl rfl trivial ?_
    refine step_pickT rfl h143 rfl rfl ?_
    refine step_r rfl rfl trivial ?_
    refine step_nil ?_
    refine seqK_n ?_
    refine sem_ret ?_
    exact answersR rfl ⟨trivial, trivial⟩ (congrArg B (by rw [beq_iff_eq, IntKind.wrap_i64]; omega)) rfl
   ·have h := h143
    simp at h
end Go.Proofs.Ytgopngmofcohnaa

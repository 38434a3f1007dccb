import Derived.Test.YtgopngmofcohnaaBase
namespace Go.Proofs.Ytgopngmofcohnaa
open Go Go.RowKit Go.Proofs.YtgopngmofcohnaaVm
attribute [local irreducible] opsWp AnswersE OpsS
set_option maxHeartbeats 400000
set_option maxRecDepth 100000
set_option linter.all false
theorem any_take_snoc {α : Type} {l : List α} {k : Nat} {x : α} (hx : l[k]? = some x) {n : Int} : True := trivial

structure GShield where
  (Aura : Int)
  (Left : Int)
  deriving DecidableEq, Inhabited
def encGShield (x : GShield) : List PV := [i64 x.Aura, i64 x.Left]
abbrev aGShield (x : GShield) : AV := .agg [I x.Aura, I x.Left]
def wfGShield (x : GShield) : Prop := (InR x.Aura) ∧ (InR x.Left)
theorem encGShield_solid {l : List GShield} : ∀ p ∈ l.flatMap encGShield, solidP p = true := flat_solid (fun x p h => by simp only [encGShield, List.mem_cons, List.mem_nil_iff, or_false] at h; rcases h with rfl | rfl <;> rfl)

theorem clone_GShield_nil  : Ok Try.prog 43 [.pv .nils] [] (.ref 0 2 0 0) [.row 31 2 []] [] := by
 refine ok_of_sem Try.func43 rfl ?_
 show Walks Try.prog _ _ ⟨[(0, .pv .nils)], [], 0, [], 8, 0⟩
 refine sem_seq ?_
 refine sem_region rfl ?_
 refine step_n (nx' := 1) rfl rfl rfl trivial ?_
 refine step_nil ?_
 refine seqK_n ?_
 refine sem_seq ?_
 refine sem_seq ?_
 refine sem_region rfl ?_
 refine step_r rfl rfl trivial ?_
 refine step_r rfl rfl trivial ?_
 refine step_nil ?_
 refine seqK_n ?_
 refine sem_cond rfl (fun h1 => ?_) (fun h1 => ?_)
 ·skip
  refine sem_seq ?_
  refine sem_region rfl ?_
  refine step_n (nx' := 2) rfl rfl rfl trivial ?_
  refine step_nil ?_
  refine seqK_n ?_
  refine sem_ret ?_
  refine seqK_r ?_
  exact answersGR [] [1] rfl ⟨trivial, trivial⟩ rfl (by (repeat' apply And.intro) <;> first | trivial | rfl | exact flat_len (fun _ => rfl) _ | exact encI_len _ | exact encB_len _ | exact encY_len _ | assumption) (rfl) rfl rfl rfl (by decide) rfl rfl ⟨⟨rfl, rfl⟩, trivial⟩
 ·cases h1

theorem clone_GShield_nnl (l : List GShield) (hl : l.length ≤ 16777216) : Ok Try.prog 43 [.pv (.nnl l.length (l.flatMap encGShield))] [] (.ref 0 2 0 l.length) [.row 31 2 (l.flatMap encGShield)] [] := by
 refine ok_of_sem Try.func43 rfl ?_
 show Walks Try.prog _ _ ⟨[(0, .pv (.nnl l.length (l.flatMap encGShield)))], [], 0, [], 8, 0⟩
 refine sem_seq ?_
 refine sem_region rfl ?_
 refine step_n (nx' := 1) rfl rfl rfl trivial ?_
 refine step_nil ?_
 refine seqK_n ?_
 refine sem_seq ?_
 refine sem_seq ?_
 refine sem_region rfl ?_
 refine step_r rfl rfl trivial ?_
 refine step_r rfl rfl trivial ?_
 refine step_nil ?_
 refine seqK_n ?_
 refine sem_cond rfl (fun h1 => ?_) (fun h1 => ?_)
 ·cases h1
 ·skip
  refine sem_skip ?_
  refine seqK_n ?_
  refine sem_seq ?_
  refine sem_region rfl ?_
  refine step_r rfl rfl ⟨by decide, rfl⟩ ?_
  refine step_r rfl rfl trivial ?_
  refine step_appendN (m := l.length) (new := l.flatMap encGShield) (cs' := l.flatMap encGShield) (n' := l.length) rfl rfl (rfl) rfl rfl rfl rfl rfl rfl (flat_len (s := 2) (enc := encGShield) (fun _ => rfl) l) (by first | decide | (unfold maxGrow; omega) | (unfold maxGrow; simp; omega)) rfl rfl rfl rfl ?_
  refine step_r rfl rfl trivial ?_
  refine step_nil ?_
  refine seqK_n ?_
  refine sem_ret ?_
  exact answersGR [] [1] rfl ⟨trivial, trivial⟩ rfl (by (repeat' apply And.intro) <;> first | trivial | rfl | exact flat_len (fun _ => rfl) _ | exact encI_len _ | exact encB_len _ | exact encY_len _ | assumption) (rfl) rfl rfl rfl (by decide) rfl rfl ⟨⟨rfl, rfl⟩, trivial⟩

theorem clone_GShield (l : List GShield) (full : Bool) (hl : l.length ≤ 16777216) : Ok Try.prog 43 [.pv (.slc l.length full (l.flatMap encGShield))] [] (.ref 0 2 0 l.length) [.row 31 2 (l.flatMap encGShield)] [] := by
  refine Ok.slc1 (fun h1 h2 => ?_) (clone_GShield_nnl l hl)
  rw [h1, h2]; exact clone_GShield_nil
end Go.Proofs.Ytgopngmofcohnaa

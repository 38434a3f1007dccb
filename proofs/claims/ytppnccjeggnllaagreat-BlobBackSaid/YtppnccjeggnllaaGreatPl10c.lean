import Derived.Test.YtppnccjeggnllaaGreatPl10d
namespace Go.Proofs.YtppnccjeggnllaaGreat
open Go Go.RowKit Go.Proofs.YtppnccjeggnllaaGreatVm
attribute [local irreducible] zY zaM OpsS
set_option maxHeartbeats 400000
set_option maxRecDepth 100000
set_option linter.all false
theorem zpr (b : Bool) : InR (zcD b) := by cases b <;> (unfold InR zcD; decide)
theorem zrq {n : Nat} (h : n ≤ 140737488355328) : InR (n : Int) := by unfold InR; omega
theorem zkg {α : Type} {f : α → List Int} {l : List α} (hl : l.length ≤ 140737488355328) (h : ∀ x ∈ l, ∀ y ∈ f x, InR y) : ∀ y ∈ fR f l, InR y := by
 intro y hy
 unfold fR at hy
 rcases List.mem_cons.1 hy with rfl | hy
 ·exact zrq hl
 ·obtain ⟨x, hx, hy⟩ := List.mem_flatMap.1 hy
  exact h x hx y hy
theorem zrw {c : zu} (h : zcZ c) : ∀ y ∈ fC c, InR y := by
 have hfb : ∀ b : Bool, ∀ y ∈ fb b, InR y := by
  intro b y hy
  simp only [fb, List.mem_cons, List.not_mem_nil, or_false] at hy
  rw [hy]; exact zpr b
 obtain ⟨⟨a1, a2⟩, ⟨u1, u2⟩, ⟨f1, f2⟩, ⟨g1, g2, g3⟩, ⟨d1, d2⟩, ⟨l1, l2⟩⟩ := h
 have hE : ∀ e, zd6 e → ∀ y ∈ fE e, InR y := by
  rintro e ⟨h1, h2, h3⟩ y hy
  simp only [fE, List.mem_cons, List.not_mem_nil, or_false] at hy
  rcases hy with rfl | rfl | rfl <;> assumption
 have hL : ∀ e, zga e → ∀ y ∈ fL e, InR y := by
  rintro e ⟨h1, h2, h3, h4, h5⟩ y hy
  simp only [fL, List.mem_cons, List.not_mem_nil, or_false] at hy
  rcases hy with rfl | rfl | rfl | rfl | rfl <;> assumption
 have hP : ∀ e, zeR e → ∀ y ∈ fP e, InR y := by
  rintro e ⟨h1, h2⟩ y hy
  simp only [fP, List.mem_cons, List.not_mem_nil, or_false] at hy
  rcases hy with rfl | rfl <;> assumption
 intro y hy
 unfold fC at hy
 simp only [List.mem_append] at hy
 rcases hy with hy | hy | hy | hy | hy | hy
 ·refine zkg a2 (fun x hx y hy => ?_) y hy
  obtain ⟨h1, h2, h3, h4, h5, h6, h7, h8⟩ := a1 x hx
  unfold fA at hy
  simp only [List.mem_append, List.mem_cons, List.not_mem_nil, or_false] at hy
  rcases hy with (rfl | rfl | rfl | rfl | rfl | rfl) | hy | hy
  iterate 6 assumption
  ·exact hfb _ y hy
  ·exact zkg h8 (fun e he => hE e (h7 e he)) y hy
 ·refine zkg u2 (fun x hx y hy => ?_) y hy
  obtain ⟨h1, h2, h3, h4, h5, h6⟩ := u1 x hx
  unfold fU at hy
  simp only [List.mem_append, List.mem_cons, List.not_mem_nil, or_false] at hy
  rcases hy with (rfl | rfl | rfl | rfl | rfl | rfl) | hy
  iterate 6 assumption
  ·exact hfb _ y hy
 ·refine zkg f2 (fun x hx y hy => ?_) y hy
  obtain ⟨h1, h2, h3, h4, h5, ⟨h6, h7⟩, ⟨h8, h9⟩, h10⟩ := f1 x hx
  unfold fF at hy
  simp only [List.mem_append, List.mem_cons, List.not_mem_nil, or_false] at hy
  rcases hy with (rfl | rfl | rfl | rfl | rfl | rfl) | hy | hy
  iterate 6 assumption
  ·exact zkg h7 (fun e he => hL e (h6 e he)) y hy
  ·exact zkg h9 (fun e he => hP e (h8 e he)) y hy
 ·simp only [List.mem_cons, List.not_mem_nil, or_false] at hy
  rcases hy with rfl | rfl <;> assumption
 ·exact zkg g3 (fun e _ => hfb e) y hy
 ·simp only [List.mem_cons, List.not_mem_nil, or_false] at hy
  rcases hy with rfl | rfl | rfl | rfl <;> assumption
theorem zjJ (b : List UInt8) : zgM b [66, 82, 87, 49] = true ↔ b.take 4 = mg := by
 unfold zgM zer
 by_cases h : (b.length : Int) ≥ (([66, 82, 87, 49] : List UInt8).length : Int)
 ·rw [if_pos h]
  exact beq_iff_eq
 ·rw [if_neg h]
  refine ⟨(fun h1 => by cases h1), fun h1 => ?_⟩
  have h2 := congrArg List.length h1
  simp only [List.length_take, mg, List.length_cons, List.length_nil] at h h2
  omega
theorem zmQ {b : List UInt8} (hb : b.length ≤ 16000000) : dec b = match decB b with
  | none => (zjR, 2)
  | some l => if (zbN l).2 = true then (if za5 (zbN l).1 = true then ((zbN l).1, 0) else (zjR, 1)) else (zjR, 2) := by
 unfold dec decB
 by_cases h1 : b.take 4 = mg
 ·rw [if_pos ((zjJ b).2 h1), if_pos h1]
  have hk : 4 ≤ b.length := by
   have h2 := congrArg List.length h1
   simp only [List.length_take, mg, List.length_cons, List.length_nil] at h2
   omega
  obtain ⟨i1, i2⟩ := zmW (b := b) (by omega) (k := 4) hk
  rw [show ((4 : Nat) : Int) = 4 from rfl] at i1 i2
  cases h3 : rdB b 4 with
  | none => rw [if_neg (i1 h3)]; rfl
  | some p =>
   obtain ⟨l, j⟩ := p
   rw [i2 l j h3]
   dsimp only
   rw [if_pos rfl]
   by_cases h4 : j = b.length
   ·rw [if_pos (show (j : Int) = (b.length : Int) by omega), if_pos h4]; rfl
   ·rw [if_neg (show ¬ (j : Int) = (b.length : Int) by omega), if_neg h4]; rfl
 ·rw [if_neg (fun h => h1 ((zjJ b).1 h)), if_neg h1]; rfl
theorem zc7 : zay = true := by decide +kernel
theorem zqx {l : List Int} : (BB l).length ≤ 10 + 10 * l.length := by
 have h1 : ∀ m : List Int, (m.flatMap VV).length ≤ 10 * m.length := by
  intro m
  induction m with
  | nil => simp
  | cons x m ih =>
   have h2 := zrs x
   rw [List.flatMap_cons, List.length_append, List.length_cons]; omega
 have h2 := h1 l
 have h3 := (zgz 9 l.length).2
 unfold BB; rw [List.length_append]; omega

end Go.Proofs.YtppnccjeggnllaaGreat

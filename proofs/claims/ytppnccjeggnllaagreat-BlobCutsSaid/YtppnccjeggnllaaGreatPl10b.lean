import Derived.Test.YtppnccjeggnllaaGreatPl10a
namespace Go.Proofs.YtppnccjeggnllaaGreat
open Go Go.RowKit Go.Proofs.YtppnccjeggnllaaGreatVm
attribute [local irreducible] opsWp AnswersE OpsS
set_option maxHeartbeats 400000
set_option maxRecDepth 100000
set_option linter.all false
/-! content as numbers, in one line -/
def fE (e : GEffect) : List Int := [e.Kind, e.Amount, e.Aura]
def fL (l : GLine) : List Int := [l.Phase, l.When, l.Arg, l.Do, l.Value]
def fP (p : GPrize) : List Int := [p.Item, p.Weight]
def fb (b : Bool) : List Int := [flagW b]
def fU (a : GAura) : List Int := [a.Id, a.Kind, a.Ticks, a.Every, a.Stacks, a.Amount] ++ fb a.Harm
def fR {α : Type} (f : α → List Int) (l : List α) : List Int := (l.length : Int) :: l.flatMap f
def fA (a : GAbility) : List Int := [a.Id, a.Cast, a.Cool, a.Charges, a.Range, a.Cost] ++ (fb a.Sight ++ fR fE a.Effects)
def fF (f : GFoe) : List Int := [f.Id, f.Health, f.Hit, f.Every, f.Reach, f.Drops] ++ (fR fL f.Script ++ fR fP f.Hoard)
def fC (c : GContent) : List Int := fR fA c.Abilities ++ (fR fU c.Auras ++ (fR fF c.Foes ++ ([c.Map.W, c.Map.H] ++ (fR fb c.Map.Wall ++ [c.Door.X, c.Door.Y, c.Lair.X, c.Lair.Y]))))
theorem rows_eq {α : Type} {L0 : List α → Nat → List Int → List Int} {W : List Int → α → List Int} {f : α → List Int} (h0 : ∀ k o, L0 [] k o = o) (h1 : ∀ x l k o, L0 (x :: l) k o = L0 l (k + 1) (W o x)) (hW : ∀ o x, W o x = o ++ f x) : ∀ (l : List α) (k : Nat) (o : List Int), L0 l k o = o ++ l.flatMap f
  | [], k, o => by rw [h0]; simp
  | x :: l, k, o => by rw [h1, hW, rows_eq h0 h1 hW l, List.flatMap_cons, List.append_assoc]
theorem rowsE_eq (o : List Int) (l : List GEffect) : rowsE o l = o ++ fR fE l := by
  unfold rowsE fR; dsimp only
  rw [rows_eq (L0 := rowsE_L0) (W := effW) (f := fE) (fun _ _ => by rw [rowsE_L0]) (fun _ _ _ _ => by rw [rowsE_L0]) (fun _ _ => rfl), List.append_assoc]; rfl
theorem rowsL_eq (o : List Int) (l : List GLine) : rowsL o l = o ++ fR fL l := by
  unfold rowsL fR; dsimp only
  rw [rows_eq (L0 := rowsL_L0) (W := lineW) (f := fL) (fun _ _ => by rw [rowsL_L0]) (fun _ _ _ _ => by rw [rowsL_L0]) (fun _ _ => rfl), List.append_assoc]; rfl
theorem rowsP_eq (o : List Int) (l : List GPrize) : rowsP o l = o ++ fR fP l := by
  unfold rowsP fR; dsimp only
  rw [rows_eq (L0 := rowsP_L0) (W := prizeW) (f := fP) (fun _ _ => by rw [rowsP_L0]) (fun _ _ _ _ => by rw [rowsP_L0]) (fun _ _ => rfl), List.append_assoc]; rfl
theorem rowsW_eq (o : List Int) (l : List Bool) : rowsW o l = o ++ fR fb l := by
  unfold rowsW fR; dsimp only
  rw [rows_eq (L0 := rowsW_L0) (W := wallW) (f := fb) (fun _ _ => by rw [rowsW_L0]) (fun _ _ _ _ => by rw [rowsW_L0]) (fun _ _ => rfl), List.append_assoc]; rfl
theorem rowsU_eq (o : List Int) (l : List GAura) : rowsU o l = o ++ fR fU l := by
  unfold rowsU fR; dsimp only
  rw [rows_eq (L0 := rowsU_L0) (W := auraW) (f := fU) (fun _ _ => by rw [rowsU_L0]) (fun _ _ _ _ => by rw [rowsU_L0]) (fun _ _ => rfl), List.append_assoc]; rfl
theorem ablW_eq (o : List Int) (a : GAbility) : ablW o a = o ++ fA a := by
  unfold ablW fA; rw [rowsE_eq, List.append_assoc]; rfl
theorem foeW_eq (o : List Int) (f : GFoe) : foeW o f = o ++ fF f := by
  unfold foeW fF; rw [rowsP_eq, rowsL_eq, List.append_assoc, List.append_assoc]
theorem rowsA0_eq (l : List GAbility) : rowsA0 l = fR fA l := by
  unfold rowsA0 fR; dsimp only
  rw [rows_eq (L0 := rowsA0_L0) (W := ablW) (f := fA) (fun _ _ => by rw [rowsA0_L0]) (fun _ _ _ _ => by rw [rowsA0_L0]) ablW_eq]; rfl
theorem rowsF_eq (o : List Int) (l : List GFoe) : rowsF o l = o ++ fR fF l := by
  unfold rowsF fR; dsimp only
  rw [rows_eq (L0 := rowsF_L0) (W := foeW) (f := fF) (fun _ _ => by rw [rowsF_L0]) (fun _ _ _ _ => by rw [rowsF_L0]) foeW_eq, List.append_assoc]; rfl
theorem flat_eq (c : GContent) : flat c = fC c := by
  unfold flat fC
  rw [rowsW_eq, rowsF_eq, rowsU_eq, rowsA0_eq]
  simp only [List.append_assoc]
/-! the way back -/
/-- what is between two states of a taker -/
def Sp (t t' : GTk) (xs : List Int) : Prop := t'.bad = false → t.bad = false ∧ t'.all = t.all ∧ (t.pos ≤ t.all.length → t'.pos ≤ t.all.length ∧ t.all.drop t.pos = xs ++ t.all.drop t'.pos)
theorem Sp.refl (t : GTk) : Sp t t [] := fun h => ⟨h, rfl, fun h => ⟨h, rfl⟩⟩
theorem Sp.trans {a b c : GTk} {xs ys : List Int} (h1 : Sp a b xs) (h2 : Sp b c ys) : Sp a c (xs ++ ys) := fun h => by
  obtain ⟨h3, h4, h5⟩ := h2 h
  obtain ⟨h6, h7, h8⟩ := h1 h3
  refine ⟨h6, h4.trans h7, fun h9 => ?_⟩
  obtain ⟨h10, h11⟩ := h8 h9
  rw [h7] at h5
  obtain ⟨h12, h13⟩ := h5 h10
  exact ⟨h12, by rw [h11, h13, List.append_assoc]⟩
attribute [local irreducible] takeN tval flagR takeE takeL takeP takeU takeW takeA takeF
def none9 : GContent := ⟨[], [], [], (⟨0, 0, []⟩ : GGrid), (⟨0, 0⟩ : GPos), (⟨0, 0⟩ : GPos)⟩
end Go.Proofs.YtppnccjeggnllaaGreat

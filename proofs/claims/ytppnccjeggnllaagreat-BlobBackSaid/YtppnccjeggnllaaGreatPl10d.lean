import Derived.Test.YtppnccjeggnllaaGreatPl10b
namespace Go.Proofs.YtppnccjeggnllaaGreat
open Go Go.RowKit Go.Proofs.YtppnccjeggnllaaGreatVm
attribute [local irreducible] zY zaM OpsS
set_option maxHeartbeats 400000
set_option maxRecDepth 100000
set_option linter.all false
def TT (pre post : List Int) : GTk := ⟨pre ++ post, pre.length, false⟩
def Fw {α : Type} (F : GTk → α × GTk) (xs : List Int) (x : α) : Prop := ∀ pre post : List Int, (pre ++ (xs ++ post)).length ≤ 16000000 → F (TT pre (xs ++ post)) = (x, TT (pre ++ xs) post)
theorem zkc (pre post : List Int) : (TT pre post).left = post.length := by
 unfold GTk.left TT; simp
theorem zmG (x : Int) (pre post : List Int) : one (TT pre (x :: post)) = (x, TT (pre ++ [x]) post) := by
 unfold one
 rw [if_neg (by rw [zkc, List.length_cons]; omega)]
 unfold TT
 simp [List.getD_eq_getElem?_getD]
theorem zhE (t : GTk) : ∀ k, zR t (k + 1) = zR (one t).2 k
 | 0 => by rw [zR, zR, zR]
 | k + 1 => by rw [zR, zhE t k, zR]
theorem zoG (t : GTk) (k : Nat) : tval t (k + 1) = tval (one t).2 k := by unfold tval; rw [zhE]
theorem zek : ∀ (xs pre post : List Int), zR (TT pre (xs ++ post)) xs.length = TT (pre ++ xs) post ∧ ∀ i x, xs[i]? = some x → tval (TT pre (xs ++ post)) i = x
 | [], pre, post => ⟨by rw [List.length_nil, zR]; simp, fun i x h => by simp at h⟩
 | y :: xs, pre, post => by
  obtain ⟨h1, h2⟩ := zek xs (pre ++ [y]) post
  have e := zmG y pre (xs ++ post)
  refine ⟨?_, fun i x h => ?_⟩
  ·rw [List.length_cons, zhE, List.cons_append, e]
   dsimp only
   rw [h1, List.append_assoc]; rfl
  ·cases i with
   | zero =>
    simp only [List.getElem?_cons_zero, Option.some.injEq] at h
    unfold tval
    rw [zR, List.cons_append, e]; exact h
   | succ i =>
    rw [zoG, List.cons_append, e]
    exact h2 i x (by simpa using h)
theorem zi6 (b : Bool) : Fw zba (fb b) b := by
 intro pre post _
 have e : one (TT pre (fb b ++ post)) = (zcD b, TT (pre ++ fb b) post) := zmG (zcD b) pre post
 unfold zba zcz
 dsimp only
 rw [e]
 cases b <;> rfl
section
variable {α : Type} {L0 : Nat → Nat → List α → GTk → List α × GTk} {F : GTk → α × GTk} {f : α → List Int}
theorem zoj (h0 : ∀ k o t, L0 0 k o t = (o, t)) (h1 : ∀ n k o t, L0 (n + 1) k o t = L0 n (k + 1) (o ++ [(F t).1]) (F t).2) : ∀ (l : List α) (k : Nat) (o : List α) (pre post : List Int), (∀ x ∈ l, Fw F (f x) x) → (pre ++ (l.flatMap f ++ post)).length ≤ 16000000 → L0 l.length k o (TT pre (l.flatMap f ++ post)) = (o ++ l, TT (pre ++ l.flatMap f) post)
 | [], k, o, pre, post, _, _ => by rw [List.length_nil, h0]; simp
 | x :: l, k, o, pre, post, hF, hl => by
  rw [List.flatMap_cons, List.append_assoc] at hl
  have e := hF x (List.mem_cons_self ..) pre (l.flatMap f ++ post) hl
  rw [List.length_cons, h1, List.flatMap_cons, List.append_assoc, e]
  dsimp only
  rw [zoj h0 h1 l (k + 1) (o ++ [x]) (pre ++ f x) post (fun y hy => hF y (List.mem_cons_of_mem _ hy)) (by rw [List.append_assoc]; exact hl)]
  simp
theorem zlM {z : Nat} : ∀ l : List α, (∀ x ∈ l, z ≤ (f x).length) → z * l.length ≤ (l.flatMap f).length
 | [], _ => by simp
 | x :: l, h => by
  have h1 := zlM l (fun y hy => h y (List.mem_cons_of_mem _ hy))
  have h2 := h x (List.mem_cons_self ..)
  rw [List.flatMap_cons, List.length_append, List.length_cons, Nat.mul_add, Nat.mul_one]; omega
theorem zks (z : Nat) (hz0 : 0 < z) (h0 : ∀ k o t, L0 0 k o t = (o, t)) (h1 : ∀ n k o t, L0 (n + 1) k o t = L0 n (k + 1) (o ++ [(F t).1]) (F t).2) {l : List α} (hF : ∀ x ∈ l, Fw F (f x) x) (hz : ∀ x ∈ l, z ≤ (f x).length) : Fw (tk (z : Int) L0) (fR f l) l := by
 intro pre post hl
 have e : one (TT pre (fR f l ++ post)) = ((l.length : Int), TT (pre ++ [(l.length : Int)]) (l.flatMap f ++ post)) := zmG _ pre _
 have hb : (pre ++ [(l.length : Int)] ++ (l.flatMap f ++ post)).length ≤ 16000000 := by
  unfold fR at hl
  simp only [List.length_append, List.length_cons, List.length_nil] at hl ⊢; omega
 have hg := zlM l hz
 have hq : (l.length : Int) ≤ IntKind.i64.wrap (((l.flatMap f ++ post).length : Int).tdiv (z : Int)) := by
  have hm : (l.flatMap f ++ post).length ≤ 16000000 := by
   simp only [List.length_append] at hb ⊢; omega
  have h2 : (l.flatMap f).length ≤ (l.flatMap f ++ post).length := by rw [List.length_append]; omega
  generalize (l.flatMap f ++ post).length = m at hm h2
  rw [Int.tdiv_eq_ediv_of_nonneg (by omega)]
  have h3 : l.length ≤ m / z := (Nat.le_div_iff_mul_le hz0).2 (by rw [Nat.mul_comm]; omega)
  have h4 : m / z ≤ m := Nat.div_le_self _ _
  have h5 : (m : Int) / (z : Int) = ((m / z : Nat) : Int) := rfl
  rw [h5, zb1 (by omega) (by omega)]; omega
 unfold tk
 rw [e]
 dsimp only
 rw [if_neg (show ¬ (TT (pre ++ [(l.length : Int)]) (l.flatMap f ++ post)).bad = true from Bool.false_ne_true), if_neg (by omega), zkc, if_neg (by omega), show (l.length : Int).toNat - 0 = l.length by omega, zoj h0 h1 l 0 [] _ post hF hb]
 unfold fR
 simp
end
attribute [local irreducible] zR tval zba TT
theorem Fw.tup3 {α : Type} {F : GTk → α × GTk} {x : α} {xs : List Int} (h : ∀ t : GTk, (∀ i y, xs[i]? = some y → tval t i = y) → F t = (x, zR t xs.length)) : Fw F xs x := fun pre post _ => by
 obtain ⟨h1, h2⟩ := zek xs pre post
 rw [h _ h2, h1]
theorem zqE (e : zan) : Fw effR (fE e) e := Fw.tup3 fun t h => by
 unfold effR
 rw [h 0 _ rfl, h 1 _ rfl, h 2 _ rfl]; rfl
theorem zpV (e : zbO) : Fw zdi (fL e) e := Fw.tup3 fun t h => by
 unfold zdi
 rw [h 0 _ rfl, h 1 _ rfl, h 2 _ rfl, h 3 _ rfl, h 4 _ rfl]; rfl
theorem zn0 (e : zaU) : Fw zbX (fP e) e := Fw.tup3 fun t h => by
 unfold zbX
 rw [h 0 _ rfl, h 1 _ rfl]; rfl
theorem zpN (a : zaB) : Fw zdj (fU a) a := by
 intro pre post hl
 unfold fU at hl ⊢
 rw [List.append_assoc] at hl ⊢
 obtain ⟨h1, h2⟩ := zek [a.Id, a.Kind, a.Ticks, a.Every, a.Stacks, a.Amount] pre (fb a.Harm ++ post)
 have h3 := zi6 a.Harm (pre ++ [a.Id, a.Kind, a.Ticks, a.Every, a.Stacks, a.Amount]) post (by rw [List.append_assoc]; exact hl)
 unfold zdj
 rw [h2 0 _ rfl, h2 1 _ rfl, h2 2 _ rfl, h2 3 _ rfl, h2 4 _ rfl, h2 5 _ rfl, show zR (TT pre ([a.Id, a.Kind, a.Ticks, a.Every, a.Stacks, a.Amount] ++ (fb a.Harm ++ post))) 6 = _ from h1, h3, List.append_assoc]
theorem zoH (l : List zan) : Fw zco (fR fE l) l := zks (L0 := zaL) 3 (by decide) (fun _ _ _ => by rw [zaL]) (fun _ _ _ _ => by rw [zaL]) (fun x _ => zqE x) (fun x _ => Nat.le_refl _)
theorem zp7 (l : List zbO) : Fw zbb (fR fL l) l := zks (L0 := zaN) 5 (by decide) (fun _ _ _ => by rw [zaN]) (fun _ _ _ _ => by rw [zaN]) (fun x _ => zpV x) (fun x _ => Nat.le_refl _)
theorem zpp (l : List zaU) : Fw zcq (fR fP l) l := zks (L0 := zaO) 2 (by decide) (fun _ _ _ => by rw [zaO]) (fun _ _ _ _ => by rw [zaO]) (fun x _ => zn0 x) (fun x _ => Nat.le_refl _)
theorem zpC (l : List zaB) : Fw z8 (fR fU l) l := zks (L0 := zaK) 7 (by decide) (fun _ _ _ => by rw [zaK]) (fun _ _ _ _ => by rw [zaK]) (fun x _ => zpN x) (fun x _ => Nat.le_refl _)
theorem zpd (l : List Bool) : Fw zaT (fR fb l) l := zks (L0 := zaQ) 1 (by decide) (fun _ _ _ => by rw [zaQ]) (fun _ _ _ _ => by rw [zaQ]) (fun x _ => zi6 x) (fun x _ => Nat.le_refl _)
attribute [local irreducible] zco zbb zcq z8 zaT
theorem zpu (a : zG) : Fw zc8 (fA a) a := by
 intro pre post hl
 unfold fA at hl ⊢
 rw [List.append_assoc, List.append_assoc] at hl ⊢
 obtain ⟨h1, h2⟩ := zek [a.Id, a.Cast, a.Cool, a.Charges, a.Range, a.Cost] pre (fb a.Sight ++ (fR fE a.Effects ++ post))
 have h3 := zi6 a.Sight (pre ++ [a.Id, a.Cast, a.Cool, a.Charges, a.Range, a.Cost]) (fR fE a.Effects ++ post) (by rw [List.append_assoc]; exact hl)
 have h4 := zoH a.Effects (pre ++ [a.Id, a.Cast, a.Cool, a.Charges, a.Range, a.Cost] ++ fb a.Sight) post (by rw [List.append_assoc, List.append_assoc]; exact hl)
 unfold zc8
 rw [h2 0 _ rfl, h2 1 _ rfl, h2 2 _ rfl, h2 3 _ rfl, h2 4 _ rfl, h2 5 _ rfl, show zR (TT pre ([a.Id, a.Cast, a.Cool, a.Charges, a.Range, a.Cost] ++ (fb a.Sight ++ (fR fE a.Effects ++ post)))) 6 = _ from h1, h3]
 dsimp only
 rw [h4]
 simp only [List.append_assoc]
theorem zqt (a : GFoe) : Fw foeR (fF a) a := by
 intro pre post hl
 unfold fF at hl ⊢
 rw [List.append_assoc, List.append_assoc] at hl ⊢
 obtain ⟨h1, h2⟩ := zek [a.Id, a.Health, a.Hit, a.Every, a.Reach, a.Drops] pre (fR fL a.Script ++ (fR fP a.Hoard ++ post))
 have h3 := zp7 a.Script (pre ++ [a.Id, a.Health, a.Hit, a.Every, a.Reach, a.Drops]) (fR fP a.Hoard ++ post) (by rw [List.append_assoc]; exact hl)
 have h4 := zpp a.Hoard (pre ++ [a.Id, a.Health, a.Hit, a.Every, a.Reach, a.Drops] ++ fR fL a.Script) post (by rw [List.append_assoc, List.append_assoc]; exact hl)
 unfold foeR
 rw [h2 0 _ rfl, h2 1 _ rfl, h2 2 _ rfl, h2 3 _ rfl, h2 4 _ rfl, h2 5 _ rfl, show zR (TT pre ([a.Id, a.Health, a.Hit, a.Every, a.Reach, a.Drops] ++ (fR fL a.Script ++ (fR fP a.Hoard ++ post)))) 6 = _ from h1, h3]
 dsimp only
 rw [h4]
 simp only [List.append_assoc]
theorem zpY (l : List zG) : Fw zW (fR fA l) l := zks (L0 := zaR) 8 (by decide) (fun _ _ _ => by rw [zaR]) (fun _ _ _ _ => by rw [zaR]) (fun x _ => zpu x) (fun x _ => by unfold fA fR fb; simp only [List.length_append, List.length_cons, List.length_nil]; omega)
theorem zpw (l : List GFoe) : Fw zah (fR fF l) l := zks (L0 := zaP) 8 (by decide) (fun _ _ _ => by rw [zaP]) (fun _ _ _ _ => by rw [zaP]) (fun x _ => zqt x) (fun x _ => by unfold fF fR; simp only [List.length_append, List.length_cons, List.length_nil]; omega)
attribute [local irreducible] zW zah
theorem zhN {c : zu} (hl : (fC c).length ≤ 16000000) : zbN (fC c) = (c, true) := by
 have h0 : (⟨fC c, 0, false⟩ : GTk) = TT [] (fC c) := by unfold TT; rfl
 unfold zbN zct
 rw [h0]
 unfold fC at hl ⊢
 have hA := zpY c.Abilities [] _ hl
 rw [hA]
 dsimp only
 have hU := zpC c.Auras ([] ++ fR fA c.Abilities) (fR fF c.Foes ++ ([c.Map.W, c.Map.H] ++ (fR fb c.Map.Wall ++ [c.Door.X, c.Door.Y, c.Lair.X, c.Lair.Y]))) (by simp only [List.length_append, List.length_cons, List.length_nil] at hl ⊢; omega)
 rw [hU]
 dsimp only
 have hF := zpw c.Foes ([] ++ fR fA c.Abilities ++ fR fU c.Auras) ([c.Map.W, c.Map.H] ++ (fR fb c.Map.Wall ++ [c.Door.X, c.Door.Y, c.Lair.X, c.Lair.Y])) (by simp only [List.length_append, List.length_cons, List.length_nil] at hl ⊢; omega)
 rw [hF]
 dsimp only
 obtain ⟨n1, n2⟩ := zek [c.Map.W, c.Map.H] ([] ++ fR fA c.Abilities ++ fR fU c.Auras ++ fR fF c.Foes) (fR fb c.Map.Wall ++ [c.Door.X, c.Door.Y, c.Lair.X, c.Lair.Y])
 rw [n2 0 _ rfl, n2 1 _ rfl, show zR (TT ([] ++ fR fA c.Abilities ++ fR fU c.Auras ++ fR fF c.Foes) ([c.Map.W, c.Map.H] ++ (fR fb c.Map.Wall ++ [c.Door.X, c.Door.Y, c.Lair.X, c.Lair.Y]))) 2 = _ from n1]
 have hW := zpd c.Map.Wall ([] ++ fR fA c.Abilities ++ fR fU c.Auras ++ fR fF c.Foes ++ [c.Map.W, c.Map.H]) [c.Door.X, c.Door.Y, c.Lair.X, c.Lair.Y] (by simp only [List.length_append, List.length_cons, List.length_nil] at hl ⊢; omega)
 rw [hW]
 dsimp only
 obtain ⟨m1, m2⟩ := zek [c.Door.X, c.Door.Y, c.Lair.X, c.Lair.Y] ([] ++ fR fA c.Abilities ++ fR fU c.Auras ++ fR fF c.Foes ++ [c.Map.W, c.Map.H] ++ fR fb c.Map.Wall) []
 rw [List.append_nil] at m1 m2
 rw [m2 0 _ rfl, m2 1 _ rfl, m2 2 _ rfl, m2 3 _ rfl, show zR (TT ([] ++ fR fA c.Abilities ++ fR fU c.Auras ++ fR fF c.Foes ++ [c.Map.W, c.Map.H] ++ fR fb c.Map.Wall) [c.Door.X, c.Door.Y, c.Lair.X, c.Lair.Y]) 4 = _ from m1, if_neg (by unfold TT; exact Bool.false_ne_true), zkc, if_neg (by simp)]

end Go.Proofs.YtppnccjeggnllaaGreat

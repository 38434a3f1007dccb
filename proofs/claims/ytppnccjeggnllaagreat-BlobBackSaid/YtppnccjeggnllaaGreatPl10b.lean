import Derived.Test.YtppnccjeggnllaaGreatPl10a
namespace Go.Proofs.YtppnccjeggnllaaGreat
open Go Go.RowKit Go.Proofs.YtppnccjeggnllaaGreatVm
attribute [local irreducible] zY zaM OpsS
set_option maxHeartbeats 400000
set_option maxRecDepth 100000
set_option linter.all false
def fE (e : zan) : List Int := [e.Kind, e.Amount, e.Aura]
def fL (l : zbO) : List Int := [l.Phase, l.When, l.Arg, l.Do, l.Value]
def fP (p : zaU) : List Int := [p.Item, p.Weight]
def fb (b : Bool) : List Int := [zcD b]
def fU (a : zaB) : List Int := [a.Id, a.Kind, a.Ticks, a.Every, a.Stacks, a.Amount] ++ fb a.Harm
def fR {α : Type} (f : α → List Int) (l : List α) : List Int := (l.length : Int) :: l.flatMap f
def fA (a : zG) : List Int := [a.Id, a.Cast, a.Cool, a.Charges, a.Range, a.Cost] ++ (fb a.Sight ++ fR fE a.Effects)
def fF (f : GFoe) : List Int := [f.Id, f.Health, f.Hit, f.Every, f.Reach, f.Drops] ++ (fR fL f.Script ++ fR fP f.Hoard)
def fC (c : zu) : List Int := fR fA c.Abilities ++ (fR fU c.Auras ++ (fR fF c.Foes ++ ([c.Map.W, c.Map.H] ++ (fR fb c.Map.Wall ++ [c.Door.X, c.Door.Y, c.Lair.X, c.Lair.Y]))))
theorem zet {α : Type} {L0 : List α → Nat → List Int → List Int} {W : List Int → α → List Int} {f : α → List Int} (h0 : ∀ k o, L0 [] k o = o) (h1 : ∀ x l k o, L0 (x :: l) k o = L0 l (k + 1) (W o x)) (hW : ∀ o x, W o x = o ++ f x) : ∀ (l : List α) (k : Nat) (o : List Int), L0 l k o = o ++ l.flatMap f
 | [], k, o => by rw [h0]; simp
 | x :: l, k, o => by rw [h1, hW, zet h0 h1 hW l, List.flatMap_cons, List.append_assoc]
theorem zpo (o : List Int) (l : List zan) : zh0 o l = o ++ fR fE l := by
 unfold zh0 fR; dsimp only
 rw [zet (L0 := zbu) (W := effW) (f := fE) (fun _ _ => by rw [zbu]) (fun _ _ _ _ => by rw [zbu]) (fun _ _ => rfl), List.append_assoc]; rfl
theorem zpU (o : List Int) (l : List zbO) : zep o l = o ++ fR fL l := by
 unfold zep fR; dsimp only
 rw [zet (L0 := zbw) (W := zhU) (f := fL) (fun _ _ => by rw [zbw]) (fun _ _ _ _ => by rw [zbw]) (fun _ _ => rfl), List.append_assoc]; rfl
theorem zqd (o : List Int) (l : List zaU) : zgX o l = o ++ fR fP l := by
 unfold zgX fR; dsimp only
 rw [zet (L0 := zbo) (W := ze6) (f := fP) (fun _ _ => by rw [zbo]) (fun _ _ _ _ => by rw [zbo]) (fun _ _ => rfl), List.append_assoc]; rfl
theorem zoP (o : List Int) (l : List Bool) : zdT o l = o ++ fR fb l := by
 unfold zdT fR; dsimp only
 rw [zet (L0 := zbv) (W := zhY) (f := fb) (fun _ _ => by rw [zbv]) (fun _ _ _ _ => by rw [zbv]) (fun _ _ => rfl), List.append_assoc]; rfl
theorem zqc (o : List Int) (l : List zaB) : zbh o l = o ++ fR fU l := by
 unfold zbh fR; dsimp only
 rw [zet (L0 := zbs) (W := zh3) (f := fU) (fun _ _ => by rw [zbs]) (fun _ _ _ _ => by rw [zbs]) (fun _ _ => rfl), List.append_assoc]; rfl
theorem zrh (o : List Int) (a : zG) : ablW o a = o ++ fA a := by
 unfold ablW fA; rw [zpo, List.append_assoc]; rfl
theorem zrf (o : List Int) (f : GFoe) : foeW o f = o ++ fF f := by
 unfold foeW fF; rw [zqd, zpU, List.append_assoc, List.append_assoc]
theorem znu (l : List zG) : zae l = fR fA l := by
 unfold zae fR; dsimp only
 rw [zet (L0 := za3) (W := ablW) (f := fA) (fun _ _ => by rw [za3]) (fun _ _ _ _ => by rw [za3]) zrh]; rfl
theorem zoK (o : List Int) (l : List GFoe) : zbP o l = o ++ fR fF l := by
 unfold zbP fR; dsimp only
 rw [zet (L0 := zbq) (W := foeW) (f := fF) (fun _ _ => by rw [zbq]) (fun _ _ _ _ => by rw [zbq]) zrf, List.append_assoc]; rfl
theorem zfq (c : zu) : flat c = fC c := by
 unfold flat fC
 rw [zoP, zoK, zqc, znu]
 simp only [List.append_assoc]
def Sp (t t' : GTk) (xs : List Int) : Prop := t'.bad = false → t.bad = false ∧ t'.all = t.all ∧ (t.pos ≤ t.all.length → t'.pos ≤ t.all.length ∧ t.all.drop t.pos = xs ++ t.all.drop t'.pos)
theorem Sp.refl (t : GTk) : Sp t t [] := fun h => ⟨h, rfl, fun h => ⟨h, rfl⟩⟩
theorem Sp.trans {a b c : GTk} {xs ys : List Int} (h1 : Sp a b xs) (h2 : Sp b c ys) : Sp a c (xs ++ ys) := fun h => by
 obtain ⟨h3, h4, h5⟩ := h2 h
 obtain ⟨h6, h7, h8⟩ := h1 h3
 refine ⟨h6, h4.trans h7, fun h9 => ?_⟩
 obtain ⟨h10, h11⟩ := h8 h9
 rw [h7] at h5
 obtain ⟨h12, h13⟩ := h5 h10
 exact ⟨h12, by rw [h11, h13, List.append_assoc]⟩
theorem zmO (t : GTk) : Sp t (one t).2 [(one t).1] := by
 unfold one
 split
 ·intro h; cases h
 ·rename_i h0
  intro h
  refine ⟨h, rfl, fun h1 => ?_⟩
  have h2 : t.pos < t.all.length := by unfold GTk.left at h0; omega
  refine ⟨h2, ?_⟩
  dsimp only
  rw [List.drop_eq_getElem_cons h2, List.getD_eq_getElem?_getD, List.getElem?_eq_getElem h2]; rfl
theorem ze1 (t : GTk) : ∀ k, Sp t (zR t k) ((List.range k).map (tval t))
 | 0 => by rw [zR]; exact Sp.refl t
 | k + 1 => by
  rw [zR, List.range_succ, List.map_append]
  exact (ze1 t k).trans (zmO _)
theorem ziN (t : GTk) : Sp t (zba t).2 (fb (zba t).1) := by
 have h := zmO t
 unfold zba zcz fb
 dsimp only
 split
 ·intro h1; cases h1
 ·split
  ·intro h1; cases h1
  ·rename_i h1 h2
   have e : zcD ((one t).1 == 1) = (one t).1 := by
    unfold zcD
    by_cases h3 : (one t).1 = 1
    ·rw [h3]; rfl
    ·rw [if_neg (by simpa using h3)]; omega
   rw [e]; exact h
def tk {α : Type} (z : Int) (L0 : Nat → Nat → List α → GTk → List α × GTk) (t : GTk) : List α × GTk :=
 if ((one t).2).bad = true then ([], (⟨((one t).2).all, ((one t).2).pos, true⟩ : GTk)) else if ((one t).1 : Int) < 0 then ([], (⟨((one t).2).all, ((one t).2).pos, true⟩ : GTk)) else if ((one t).1 : Int) > (IntKind.i64.wrap ((((one t).2).left : Int).tdiv z)) then ([], (⟨((one t).2).all, ((one t).2).pos, true⟩ : GTk)) else L0 (((one t).1.toNat) - 0) 0 [] ((one t).2)
section
variable {α : Type} {L0 : Nat → Nat → List α → GTk → List α × GTk} {F : GTk → α × GTk} {f : α → List Int}
theorem zn9 (h0 : ∀ k o t, L0 0 k o t = (o, t)) (h1 : ∀ n k o t, L0 (n + 1) k o t = L0 n (k + 1) (o ++ [(F t).1]) (F t).2) (hF : ∀ t, Sp t (F t).2 (f (F t).1)) : ∀ (n k : Nat) (o : List α) (t : GTk), ∃ l, (L0 n k o t).1 = o ++ l ∧ l.length = n ∧ Sp t (L0 n k o t).2 (l.flatMap f)
 | 0, k, o, t => ⟨[], by rw [h0]; simp, rfl, by rw [h0]; exact Sp.refl t⟩
 | n + 1, k, o, t => by
  obtain ⟨l, e1, e2, e3⟩ := zn9 h0 h1 hF n (k + 1) (o ++ [(F t).1]) (F t).2
  refine ⟨(F t).1 :: l, by rw [h1, e1, List.append_assoc]; rfl, by rw [List.length_cons, e2], ?_⟩
  rw [h1, List.flatMap_cons]
  exact (hF t).trans e3
theorem zkm (z : Int) (h0 : ∀ k o t, L0 0 k o t = (o, t)) (h1 : ∀ n k o t, L0 (n + 1) k o t = L0 n (k + 1) (o ++ [(F t).1]) (F t).2) (hF : ∀ t, Sp t (F t).2 (f (F t).1)) (t : GTk) : Sp t (tk z L0 t).2 (fR f (tk z L0 t).1) := by
 unfold tk
 split
 ·intro h; cases h
 split
 ·intro h; cases h
 split
 ·intro h; cases h
 rename_i h2 h3 h4
 obtain ⟨l, e1, e2, e3⟩ := zn9 h0 h1 hF (((one t).1.toNat) - 0) 0 [] (one t).2
 rw [e1, List.nil_append]
 unfold fR
 rw [e2, show (((one t).1.toNat - 0 : Nat) : Int) = (one t).1 by omega]
 exact (zmO t).trans e3
end
theorem zoF (t : GTk) : zco t = tk 3 zaL t := rfl
theorem zpO (t : GTk) : zbb t = tk 5 zaN t := rfl
theorem zoC (t : GTk) : zcq t = tk 2 zaO t := rfl
theorem zpa (t : GTk) : z8 t = tk 7 zaK t := rfl
theorem zpm (t : GTk) : zaT t = tk 1 zaQ t := rfl
theorem zps (t : GTk) : zW t = tk 8 zaR t := rfl
theorem zpn (t : GTk) : zah t = tk 8 zaP t := rfl
attribute [local irreducible] zR tval zba zco zbb zcq z8 zaT zW zah
theorem zj2 (t : GTk) : Sp t (zR t 2) [tval t 0, tval t 1] := ze1 t 2
theorem zoh (t : GTk) : Sp t (zR t 3) [tval t 0, tval t 1, tval t 2] := ze1 t 3
theorem zon (t : GTk) : Sp t (zR t 4) [tval t 0, tval t 1, tval t 2, tval t 3] := ze1 t 4
theorem znv (t : GTk) : Sp t (zR t 5) [tval t 0, tval t 1, tval t 2, tval t 3, tval t 4] := ze1 t 5
theorem zhK (t : GTk) : Sp t (zR t 6) [tval t 0, tval t 1, tval t 2, tval t 3, tval t 4, tval t 5] := ze1 t 6
theorem zqs (t : GTk) : Sp t (effR t).2 (fE (effR t).1) := zoh t
theorem zp2 (t : GTk) : Sp t (zdi t).2 (fL (zdi t).1) := znv t
theorem znQ (t : GTk) : Sp t (zbX t).2 (fP (zbX t).1) := zj2 t
theorem zpW (t : GTk) : Sp t (zdj t).2 (fU (zdj t).1) := (zhK t).trans (ziN _)
theorem zpZ (t : GTk) : Sp t (zco t).2 (fR fE (zco t).1) := by rw [zoF]; exact zkm (L0 := zaL) 3 (fun _ _ _ => by rw [zaL]) (fun _ _ _ _ => by rw [zaL]) zqs t
theorem zpQ (t : GTk) : Sp t (zbb t).2 (fR fL (zbb t).1) := by rw [zpO]; exact zkm (L0 := zaN) 5 (fun _ _ _ => by rw [zaN]) (fun _ _ _ _ => by rw [zaN]) zp2 t
theorem zoN (t : GTk) : Sp t (zcq t).2 (fR fP (zcq t).1) := by rw [zoC]; exact zkm (L0 := zaO) 2 (fun _ _ _ => by rw [zaO]) (fun _ _ _ _ => by rw [zaO]) znQ t
theorem zpL (t : GTk) : Sp t (z8 t).2 (fR fU (z8 t).1) := by rw [zpa]; exact zkm (L0 := zaK) 7 (fun _ _ _ => by rw [zaK]) (fun _ _ _ _ => by rw [zaK]) zpW t
theorem zo3 (t : GTk) : Sp t (zaT t).2 (fR fb (zaT t).1) := by rw [zpm]; exact zkm (L0 := zaQ) 1 (fun _ _ _ => by rw [zaQ]) (fun _ _ _ _ => by rw [zaQ]) ziN t
theorem zpc (t : GTk) : Sp t (zc8 t).2 (fA (zc8 t).1) := (zhK t).trans ((ziN _).trans (zpZ _))
theorem zq4 (t : GTk) : Sp t (foeR t).2 (fF (foeR t).1) := (zhK t).trans ((zpQ _).trans (zoN _))
theorem zo0 (t : GTk) : Sp t (zW t).2 (fR fA (zW t).1) := by rw [zps]; exact zkm (L0 := zaR) 8 (fun _ _ _ => by rw [zaR]) (fun _ _ _ _ => by rw [zaR]) zpc t
theorem zoI (t : GTk) : Sp t (zah t).2 (fR fF (zah t).1) := by rw [zpn]; exact zkm (L0 := zaP) 8 (fun _ _ _ => by rw [zaP]) (fun _ _ _ _ => by rw [zaP]) zq4 t
def zjR : zu := ⟨[], [], [], (⟨0, 0, []⟩ : zax), (⟨0, 0⟩ : GPos), (⟨0, 0⟩ : GPos)⟩
theorem zkp (l : List Int) : (zbN l = (zjR, false)) ∨ ((zbN l).2 = true ∧ l = fC (zbN l).1) := by
 unfold zbN zct
 have hA := zo0 (⟨l, 0, false⟩ : GTk)
 generalize zW (⟨l, 0, false⟩ : GTk) = A at hA ⊢
 have hU := zpL A.2
 generalize z8 A.2 = U at hU ⊢
 have hF := zoI U.2
 generalize zah U.2 = F at hF ⊢
 have hN := zj2 F.2
 have hW := zo3 (zR F.2 2)
 generalize zaT (zR F.2 2) = W at hW ⊢
 have hM := zon W.2
 have hall := hA.trans (hU.trans (hF.trans (hN.trans (hW.trans hM))))
 by_cases h1 : (zR W.2 4).bad = true
 ·rw [if_pos h1]; exact .inl rfl
 rw [if_neg h1]
 by_cases h2 : ((zR W.2 4).left : Int) > 0
 ·rw [if_pos h2]; exact .inl rfl
 rw [if_neg h2]
 obtain ⟨_, h3, h4⟩ := hall (by simpa using h1)
 obtain ⟨h5, h6⟩ := h4 (Nat.zero_le _)
 unfold GTk.left at h2
 rw [h3] at h2
 dsimp only at h2 h5 h6
 have h7 : l.drop (zR W.2 4).pos = [] := List.drop_eq_nil_of_le (by omega)
 rw [h7, List.append_nil, List.drop_zero] at h6
 exact .inr ⟨rfl, h6⟩

end Go.Proofs.YtppnccjeggnllaaGreat

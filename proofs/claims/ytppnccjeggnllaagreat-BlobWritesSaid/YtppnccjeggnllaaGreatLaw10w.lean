import Derived.Test.YtppnccjeggnllaaGreatClosed10
namespace Go.Proofs.YtppnccjeggnllaaGreat
open Go Go.RowKit Go.Proofs.YtppnccjeggnllaaGreatVm
attribute [local irreducible] zY zas OpsS
set_option maxHeartbeats 400000
set_option maxRecDepth 100000
set_option linter.all false

theorem zpz {c : zA} (hf : Fits c) (h1 : c.Abilities.length ≤ 70) (h2 : c.Auras.length ≤ 70) (h3 : c.Foes.length ≤ 70) (h4 : c.Map.Wall.length ≤ 65536) : (flat c).length ≤ 1400000 := by
  have e1 := zdZ c.Abilities hf.eff
  have e2 := zgO (zae c.Abilities) c.Auras
  have e3 := ziJ (zbt (zae c.Abilities) c.Auras) c.Foes hf.sc
  have e4 := zju ((zb2 (zbt (zae c.Abilities) c.Auras) c.Foes) ++ [c.Map.W, c.Map.H]) c.Map.Wall
  simp only [List.length_append, List.length_cons, List.length_nil] at e4
  unfold flat
  simp only [List.length_append, List.length_cons, List.length_nil]
  omega
theorem ziA {c : zA} (h : few9 c = true) : Fits c ∧ (flat c).length ≤ 1400000 := by
  have hF : c.Abilities.length ≤ 70 ∧ c.Auras.length ≤ 70 ∧ c.Foes.length ≤ 70 ∧ c.Map.Wall.length ≤ 1024 ∧ (∀ x ∈ c.Abilities, x.Effects.length ≤ 100) ∧ ∀ x ∈ c.Foes, x.Script.length ≤ 100 ∧ x.Hoard.length ≤ 100 := by
    unfold few9 at h
    split at h
    · rename_i b hb; have := zmu _ _ _ _ hb; simp [this] at h
    · rename_i hb
      split at h
      · rename_i b hb; have := zlu _ _ _ _ hb; simp [this] at h
      · rename_i hc
        split at h
        case isFalse => cases h
        split at h
        case isFalse => cases h
        split at h
        case isFalse => cases h
        have h9 := of_decide_eq_true h
        have b0 := znS _ _ _ hb
        have b1 := znO _ _ _ hc
        refine ⟨by omega, by omega, by omega, by omega, fun a ha => ?_, fun f hf => ?_⟩
        · obtain ⟨i, hi, rfl⟩ := List.mem_iff_getElem.1 ha
          have := b0 i (by omega)
          rwa [Nat.zero_add, List.getD_eq_getElem?_getD, List.getElem?_eq_getElem hi, Option.getD_some] at this
        · obtain ⟨i, hi, rfl⟩ := List.mem_iff_getElem.1 hf
          have := b1 i (by omega)
          rwa [Nat.zero_add, List.getD_eq_getElem?_getD, List.getElem?_eq_getElem hi, Option.getD_some] at this
  obtain ⟨h1, h2, h3, h4, h5, h6⟩ := hF
  have hf : Fits c := ⟨by omega, fun x hx => Nat.le_trans (h5 x hx) (by decide), by omega, by omega, fun x hx => ⟨Nat.le_trans (h6 x hx).1 (by decide), Nat.le_trans (h6 x hx).2 (by decide)⟩, by omega⟩
  exact ⟨hf, zpz hf aP5 aP5 aP5 aP5⟩


attribute [local irreducible] flat zfZ enc zdE zf4 few9 za5
def zcA : Nat → Nat → (List Int) → Unit
  | 0, k0, l0 => ()
  | n_ + 1, k0, l0 => zcA n_ (k0 + 1) (l0.set k0 (-7))
def zcE (c : zA) : Bool :=
  if few9 c = true then (if zeu (flat c) (zfZ c) = true then (if ((enc c).1) = ((zdE c).1) then (if ((enc c).2 : Int) = ((zdE c).2) then (zbE c (za5 c)) else false) else false) else false) else true
theorem aP16 {p : Prop} (h : p := by first | assumption | exact (ziA (by assumption)).1) : p := h
theorem zmK (c : zA) : Ok Tryz.prog 3 [zak c] [] (B (zcE c)) [] [] := by
 refine Ok.len fun hlen => ?_
 have hl_c_Abilities := hlL (n := c.Abilities.length) hlen
 have hl_c_Auras := hlL (n := c.Auras.length) hlen
 have hl_c_Foes := hlL (n := c.Foes.length) hlen
 have hl_c_Map_Wall := hlL (n := c.Map.Wall.length) hlen
 refine zx Tryz.func3 rfl ?_
 refine zg rfl (zz (o := .box [_, _, _, _, _, _, _, _, _, _]) (nx' := 1) rfl rfl rfl trivial (za rfl (zd (zg rfl (zB rfl rfl rfl rfl (zpw ) rfl rfl rfl (za rfl (zd (zg rfl (zh (v := (.agg [_, _, _, _, _, _, _, _, _, _])) rfl rfl (Nat.le_of_ble_eq_true rfl) (zB rfl rfl rfl rfl (ztX c) rfl rfl rfl (za rfl (zq ?_))))))))))))
 refine zu (zm (zg rfl (za rfl (za rfl (zd ?_)))))
 refine zr rfl (fun h2 => ?_) (fun h2 => ?_)
 ·have g2 : ¬ (few9 c = true) := zaA (zbA h2)
  refine zg rfl (za rfl (za rfl (zd (zl (zE ?_)))))
  have e3 : zcE c = true := by
   unfold zcE
   try dsimp only
   rewrite [if_neg g2]
   all_goals rfl
  rw [e3]
  exact zk rfl ⟨trivial, trivial⟩ (rfl) rfl
 ·have g2 : few9 c = true := (zbz h2)
  refine zt (zu (zg rfl (zh (v := (.agg [_, _, _, _, _, _, _, _, _, _])) rfl rfl (Nat.le_of_ble_eq_true rfl) (zB rfl rfl rfl rfl (zqx c (by first | assumption | exact zk8 (ziA (by assumption)).1)) rfl rfl rfl (zz (o := .box [_, _, _, _, _, _, _, _, _, _]) (nx' := 2) rfl rfl rfl trivial ?_)))))
  refine zH (H' := [(1, .box [_, _, _, _, _, _, _, _, _, _]), (0, _)]) rfl rfl rfl rfl rfl rfl (.inl rfl) rfl ?_
  refine zd (zg rfl (zh (v := (.agg [_, _, _, _, _, _, _, _, _, _])) rfl rfl (Nat.le_of_ble_eq_true rfl) ?_))
  refine zb5 (out' := .ref 2 _ _ _) (H' := [(2, .row _ _ _), (1, _), (0, _)]) (nx' := 3) rfl rfl rfl rfl rfl rfl rfl aP12 (zq9 c aP16) rfl rfl rfl rfl ?_
  have p4 := (ziA (c := c) (by assumption)).2
  refine za rfl (zd (zg rfl (za rfl (zh (v := (.agg [_, _, _, _, _, _, _, _, _, _])) rfl rfl (Nat.le_of_ble_eq_true rfl) ?_))))
  refine zb5 (out' := .ref 3 _ _ _) (H' := [(3, .row _ _ _), (2, _), (1, _), (0, _)]) (nx' := 4) rfl rfl rfl rfl rfl rfl rfl aP12 (zoz c aP16) rfl rfl rfl rfl ?_
  refine zaD (Hin := [.row _ _ _, .row _ _ _]) (H' := [(3, _), (2, _), (1, _), (0, _)]) (nx' := 4) [2, 3] rfl rfl rfl rfl rfl rfl rfl rfl rfl aP12 (zrF (flat c) false (zfZ c) false) rfl aP0 rfl rfl trivial rfl rfl rfl rfl ?_
  refine za rfl (zd (zm (zg rfl (za rfl (zd ?_)))))
  refine zX (fun w_ : Unit => match w_ with | () => (⟨[(1, .ptr 0 0), (3, B true), (5, .ptr 1 0), (7, B (zeu (flat c) (zfZ c)))], [(0, .box [.pv (.slc c.Abilities.length false (c.Abilities.flatMap zj)), .pv (.slc c.Auras.length false (c.Auras.flatMap zp)), .pv (.slc c.Foes.length false (c.Foes.flatMap zC)), I c.Map.W, I c.Map.H, .pv (.slc c.Map.Wall.length false (encB c.Map.Wall)), I c.Door.X, I c.Door.Y, I c.Lair.X, I c.Lair.Y]), (1, .box [.pv (.slc (za5 c).Abilities.length false ((za5 c).Abilities.flatMap zj)), .pv (.slc (za5 c).Auras.length false ((za5 c).Auras.flatMap zp)), .pv (.slc (za5 c).Foes.length false ((za5 c).Foes.flatMap zC)), I (za5 c).Map.W, I (za5 c).Map.H, .pv (.slc (za5 c).Map.Wall.length false (encB (za5 c).Map.Wall)), I (za5 c).Door.X, I (za5 c).Door.Y, I (za5 c).Lair.X, I (za5 c).Lair.Y])], 2, [], 67, 0⟩ : St)) (fun w_ => zcA (((flat c).length) - 0) 0 (flat c) = w_) ?_ ?_
  ·refine zw ?_
   refine z1 (fun w_ : Nat × (List Int) => match w_ with | (k0, l0) => (⟨[(1, .ptr 0 0), (3, B true), (5, .ptr 1 0), (6, .ref 2 1 0 l0.length), (7, B (zeu (flat c) (zfZ c))), (8, I k0)], [(0, .box [.pv (.slc c.Abilities.length false (c.Abilities.flatMap zj)), .pv (.slc c.Auras.length false (c.Auras.flatMap zp)), .pv (.slc c.Foes.length false (c.Foes.flatMap zC)), I c.Map.W, I c.Map.H, .pv (.slc c.Map.Wall.length false (encB c.Map.Wall)), I c.Door.X, I c.Door.Y, I c.Lair.X, I c.Lair.Y]), (1, .box [.pv (.slc (za5 c).Abilities.length false ((za5 c).Abilities.flatMap zj)), .pv (.slc (za5 c).Auras.length false ((za5 c).Auras.flatMap zp)), .pv (.slc (za5 c).Foes.length false ((za5 c).Foes.flatMap zC)), I (za5 c).Map.W, I (za5 c).Map.H, .pv (.slc (za5 c).Map.Wall.length false (encB (za5 c).Map.Wall)), I (za5 c).Door.X, I (za5 c).Door.Y, I (za5 c).Lair.X, I (za5 c).Lair.Y]), (2, .row 3 1 (encI l0))], 3, [], 67, 0⟩ : St)) (fun w_ : Nat × (List Int) => match w_ with | (k0, l0) => zcA (((flat c).length) - k0) k0 l0 = zcA (((flat c).length) - 0) 0 (flat c) ∧ k0 ≤ (flat c).length ∧ l0.length = (flat c).length) (fun w_ : Nat × (List Int) => match w_ with | (k0, l0) => (flat c).length - k0) (0, (flat c)) (⟨rfl, aP2, rfl⟩) ?_ (fun w_ hh_ => ?_)
   ·exact (zD.ren [] aP1 aP1 rfl ⟨⟨rfl, rfl⟩, ⟨rfl, rfl⟩, ⟨rfl, rfl⟩, ⟨rfl, rfl⟩, ⟨rfl, rfl⟩, ⟨rfl, rfl⟩, trivial⟩ ⟨⟨rfl, rfl, rfl⟩, ⟨rfl, rfl, rfl⟩, ⟨rfl, rfl, rfl⟩, trivial⟩ aP0)
   obtain ⟨k0, l0⟩ := w_
   obtain ⟨hI0, hb0, hv0⟩ := hh_
   refine zm (zg rfl (za rfl (za rfl (za rfl (zi rfl rfl rfl rfl rfl trivial (zd ?_))))))
   refine zr rfl (fun h8 => ?_) (fun h8 => ?_)
   ·have g8 : (k0 : Int) < l0.length := of_decide_eq_true h8
    have hm0 : (flat c).length - k0 = ((flat c).length - (k0 + 1)) + 1 := by omega
    refine zt (zu (zm (zw (zy rfl (za rfl (za rfl ?_))))))
    have jk9 : k0 < l0.length := by first | assumption | omega | (simp only [List.length_set, List.length_append]; omega) | (simp only [IntKind.wrap_i64] at *; omega) | (simp; omega) | simp_all
    refine zp6 (k := k0) rfl rfl rfl rfl jk9 rfl ?_
    refine znv rfl rfl rfl rfl (by have := jk9; simp [encI]; omega) (zsM l0 k0 (-7)) (.inl rfl) rfl ?_
    refine zq (zal (zu (zy rfl (za rfl (zi rfl rfl rfl rfl rfl trivial (za rfl (zq ?_)))))))
    have e11 : zcA (((flat c).length) - k0) k0 l0 = zcA (((flat c).length) - (k0 + 1)) (k0 + 1) (l0.set k0 (-7)) := by
     rfl
    exact zQ (k0 + 1, (l0.set k0 (-7))) ⟨e11.symm.trans hI0, aP5, by first | omega | assumption | (simp only [List.length_append, List.length_cons, List.length_nil, List.length_set]; omega) | (simp; omega) | grind⟩ (by show (flat c).length - (k0 + 1) < (flat c).length - k0; omega) (zD.ren [] aP1 aP1 rfl ⟨⟨rfl, rfl⟩, ⟨rfl, rfl⟩, ⟨rfl, rfl⟩, ⟨congrArg (fun n => some (AV.ref 2 1 0 n)) aP10, rfl⟩, ⟨rfl, rfl⟩, ⟨congrArg (fun n => some (I n)) (zbS (k := k0) aP2), rfl⟩, trivial⟩ ⟨⟨rfl, rfl, rfl⟩, ⟨rfl, rfl, rfl⟩, ⟨rfl, rfl, rfl⟩, trivial⟩ aP0)
   ·have g8 : ¬ ((k0 : Int) < l0.length) := of_decide_eq_false h8
    have hm0 : (flat c).length - k0 = 0 := by omega
    refine zS (z5 (zag (zaf rfl ?_)))
    have e12 : zcA (((flat c).length) - 0) 0 (flat c) = () := by
     rfl
    exact z0 () e12 (zD.ren [] aP1 aP1 rfl ⟨⟨rfl, rfl⟩, ⟨rfl, rfl⟩, ⟨rfl, rfl⟩, ⟨rfl, rfl⟩, trivial⟩ ⟨⟨rfl, rfl, rfl⟩, ⟨rfl, rfl, rfl⟩, trivial⟩ aP0)
  ·rintro ⟨⟩ (hJ6 : zcA (((flat c).length) - 0) 0 (flat c) = ())
   refine zu (zg rfl (zh (v := (.agg [_, _, _, _, _, _, _, _, _, _])) rfl rfl (Nat.le_of_ble_eq_true rfl) ?_))
   refine zb5 (out' := .tup [.ref 2 _ _ _, _]) (H' := [(2, .row _ _ _), (0, _), (1, _)]) (nx' := 3) rfl rfl rfl rfl rfl rfl rfl aP12 (zu6 c aP16 (by first | assumption | exact (ziA (by assumption)).2)) rfl rfl rfl rfl ?_
   refine za rfl (za rfl (za rfl (za rfl (za rfl (zd (zg rfl (zh (v := (.agg [_, _, _, _, _, _, _, _, _, _])) rfl rfl (Nat.le_of_ble_eq_true rfl) ?_)))))))
   refine zb5 (out' := .tup [.ref 3 _ _ _, _]) (H' := [(3, .row _ _ _), (2, _), (0, _), (1, _)]) (nx' := 4) rfl rfl rfl rfl rfl rfl rfl aP12 (zre c aP16 (by first | assumption | exact (ziA (by assumption)).2)) rfl rfl rfl rfl ?_
   refine za rfl (za rfl (za rfl (za rfl (za rfl (zd (zg rfl (za rfl (za rfl (zeA rfl (za rfl (za rfl (za rfl ?_))))))))))))
   refine zG rfl (fun h16 => ?_) (fun h16 => ?_)
   ·have g16 : zeu (flat c) (zfZ c) = true := h16
    refine ze rfl h16 (za rfl (ze rfl h16 ?_))
    refine zjO (l := (enc c).1) rfl rfl rfl rfl rfl rfl ?_
    refine ze rfl h16 (za rfl (ze rfl h16 ?_))
    refine zjO (l := (zdE c).1) rfl rfl rfl rfl rfl rfl ?_
    refine ze rfl h16 (zi rfl rfl rfl rfl rfl trivial (zo rfl h16 rfl rfl (za rfl ?_)))
    refine zG rfl (fun h18 => ?_) (fun h18 => ?_)
    ·have g18 : ((enc c).1) = ((zdE c).1) := zd5 h18
     refine ze rfl h18 (za rfl (ze rfl h18 (za rfl (ze rfl h18 (zi rfl rfl rfl rfl rfl trivial (zo rfl h18 rfl rfl (za rfl ?_)))))))
     refine zG rfl (fun h20 => ?_) (fun h20 => ?_)
     ·have g20 : ((enc c).2 : Int) = ((zdE c).2) := zd5 h20
      refine ze rfl h20 (zh (v := (.agg [_, _, _, _, _, _, _, _, _, _])) rfl rfl (Nat.le_of_ble_eq_true rfl) (ze rfl h20 (zh (v := (.agg [_, _, _, _, _, _, _, _, _, _])) rfl rfl (Nat.le_of_ble_eq_true rfl) (ze rfl h20 (zB rfl rfl rfl rfl (zpJ c (za5 c)) rfl rfl rfl (zo rfl h20 rfl rfl (za rfl (zd (zl ?_)))))))))
      have e22 : zcE c = (zbE c (za5 c)) := by
       unfold zcE
       try dsimp only
       rewrite [if_pos g2, if_pos g16, if_pos g18, if_pos g20]
       all_goals rfl
      rw [e22]
      exact zk rfl ⟨trivial, trivial⟩ (rfl) rfl
     ·have g20 : ¬ (((enc c).2 : Int) = ((zdE c).2)) := zed h20
      refine zf rfl h20 rfl (zf rfl h20 rfl (zf rfl h20 rfl (zn rfl h20 rfl rfl (za rfl (zd (zl ?_))))))
      have e23 : zcE c = false := by
       unfold zcE
       try dsimp only
       rewrite [if_pos g2, if_pos g16, if_pos g18, if_neg g20]
       all_goals rfl
      rw [e23]
      exact zk rfl ⟨trivial, trivial⟩ (rfl) rfl
    ·have g18 : ¬ (((enc c).1) = ((zdE c).1)) := zed h18
     refine zf rfl h18 rfl (zf rfl h18 rfl (zf rfl h18 rfl (zn rfl h18 rfl rfl (za rfl (zc rfl (zc rfl (zc rfl (za rfl (za rfl (zd (zl ?_)))))))))))
     have e24 : zcE c = false := by
      unfold zcE
      try dsimp only
      rewrite [if_pos g2, if_pos g16, if_neg g18]
      all_goals rfl
     rw [e24]
     exact zk rfl ⟨trivial, trivial⟩ (rfl) rfl
   ·have g16 : ¬ (zeu (flat c) (zfZ c) = true) := zaA h16
    refine zf rfl h16 rfl (zf rfl h16 rfl (zf rfl h16 rfl (zf rfl h16 rfl (zf rfl h16 rfl (zn rfl h16 rfl rfl (za rfl (zc rfl (zc rfl (zc rfl (za rfl (za rfl (zc rfl (zc rfl (zc rfl (za rfl (za rfl (zq ?_)))))))))))))))))
    refine zu (zl ?_)
    have e25 : zcE c = false := by
     unfold zcE
     try dsimp only
     rewrite [if_pos g2, if_neg g16]
     all_goals rfl
    rw [e25]
    exact zk rfl ⟨trivial, trivial⟩ (rfl) rfl
end Go.Proofs.YtppnccjeggnllaaGreat

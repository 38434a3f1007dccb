import Derived.Test.YtppnccjeggnllaaGreatContent
namespace Go.Proofs.YtppnccjeggnllaaGreat
open Go Go.RowKit Go.Proofs.YtppnccjeggnllaaGreatVm
attribute [local irreducible] zY zas OpsS
set_option maxHeartbeats 400000
set_option maxRecDepth 100000
set_option linter.all false
def zb3 (c : zA) : Nat → Nat → Sum Bool Unit
  | 0, k0 => .inr ()
  | n_ + 1, k0 => if ((c.Abilities.getD k0 default).Effects.length : Int) > 100 then .inl false else zb3 c n_ (k0 + 1)
def zbH (c : zA) : Nat → Nat → Sum Bool Unit
  | 0, k1 => .inr ()
  | n_ + 1, k1 => if ((c.Foes.getD k1 default).Script.length : Int) > 100 then .inl false else if ((c.Foes.getD k1 default).Hoard.length : Int) > 100 then .inl false else zbH c n_ (k1 + 1)
def few9 (c : zA) : Bool :=
  (match zb3 c ((min c.Abilities.length 100) - 0) 0 with
    | .inl r_ => r_
    | .inr () => (match zbH c ((min c.Foes.length 100) - 0) 0 with
    | .inl r_ => r_
    | .inr () => if (c.Abilities.length : Int) ≤ 70 then (if (c.Auras.length : Int) ≤ 70 then (if (c.Foes.length : Int) ≤ 70 then (decide ((c.Map.Wall.length : Int) ≤ 1024)) else false) else false) else false))
theorem ztX (c : zA) : Ok Tryz.prog 8 [zak c] [] (B (few9 c)) [] [] := by
 refine Ok.len fun hlen => ?_
 have hl_c_Abilities := hlL (n := c.Abilities.length) hlen
 have hl_c_Auras := hlL (n := c.Auras.length) hlen
 have hl_c_Foes := hlL (n := c.Foes.length) hlen
 have hl_c_Map_Wall := hlL (n := c.Map.Wall.length) hlen
 refine zx Tryz.func8 rfl ?_
 refine zg rfl (zz (o := .box [_, _, _, _, _, _, _, _, _, _]) (nx' := 1) rfl rfl rfl trivial (za rfl (zd (zm (zg rfl (za rfl (zd ?_)))))))
 refine zX (fun w_ : Unit => match w_ with | () => (⟨[(1, .ptr 0 0)], [(0, .box [.pv (.slc c.Abilities.length false (c.Abilities.flatMap zj)), .pv (.slc c.Auras.length false (c.Auras.flatMap zp)), .pv (.slc c.Foes.length false (c.Foes.flatMap zC)), I c.Map.W, I c.Map.H, .pv (.slc c.Map.Wall.length false (encB c.Map.Wall)), I c.Door.X, I c.Door.Y, I c.Lair.X, I c.Lair.Y])], 1, [], 76, 0⟩ : St)) (fun w_ => zb3 c ((min c.Abilities.length 100) - 0) 0 = .inr w_) ?_ ?_
 ·refine zw ?_
  refine z1 (fun k0 : Nat => (⟨[(1, .ptr 0 0), (3, I k0)], [(0, .box [.pv (.slc c.Abilities.length false (c.Abilities.flatMap zj)), .pv (.slc c.Auras.length false (c.Auras.flatMap zp)), .pv (.slc c.Foes.length false (c.Foes.flatMap zC)), I c.Map.W, I c.Map.H, .pv (.slc c.Map.Wall.length false (encB c.Map.Wall)), I c.Door.X, I c.Door.Y, I c.Lair.X, I c.Lair.Y])], 1, [], 76, 0⟩ : St)) (fun k0 : Nat => zb3 c ((min c.Abilities.length 100) - k0) k0 = zb3 c ((min c.Abilities.length 100) - 0) 0 ∧ k0 ≤ min c.Abilities.length 100) (fun k0 : Nat => min c.Abilities.length 100 - k0) 0 (⟨rfl, aP2⟩) ?_ (fun k0 hh_ => ?_)
  ·exact (zD.ren [] aP1 aP1 rfl ⟨⟨rfl, rfl⟩, ⟨rfl, rfl⟩, trivial⟩ ⟨⟨rfl, rfl, rfl⟩, trivial⟩ aP0)
  obtain ⟨hI0, hb0⟩ := hh_
  refine zm (zg rfl (za rfl (zh rfl rfl aP0 (za rfl (za rfl (zi rfl rfl rfl rfl rfl trivial (za rfl ?_)))))))
  refine zG rfl (fun h4 => ?_) (fun h4 => ?_)
  ·have g4 : (k0 : Int) < c.Abilities.length := of_decide_eq_true h4
   refine ze rfl h4 (za rfl (ze rfl h4 (zi rfl rfl rfl rfl rfl trivial (zo rfl h4 rfl rfl (zd ?_)))))
   refine zr rfl (fun h6 => ?_) (fun h6 => ?_)
   ·have g6 : (k0 : Int) < 100 := of_decide_eq_true h6
    have hm0 : min c.Abilities.length 100 - k0 = (min c.Abilities.length 100 - (k0 + 1)) + 1 := by omega
    refine zt (zu (zm (zw (zg rfl (zh rfl rfl aP0 (za rfl (za rfl ?_)))))))
    have jk7 : k0 < c.Abilities.length := by first | assumption | omega | (simp only [List.length_set, List.length_append]; omega) | (simp only [IntKind.wrap_i64] at *; omega) | (simp; omega) | simp_all
    refine zJ (k := k0) rfl rfl rfl rfl jk7 (z3 (s := 8) (enc := zj) (fun _ => rfl) aP0 jk7) rfl (zh rfl rfl aP0 (zO rfl rfl rfl (zb7 (s := 8) (enc := zj) (fun _ => rfl) (zaE jk7) (o := 7) rfl aP0) rfl (za rfl (zi rfl rfl rfl rfl rfl trivial (zd ?_)))))
    refine zr rfl (fun h8 => ?_) (fun h8 => ?_)
    ·have g8 : ((c.Abilities.getD k0 default).Effects.length : Int) > 100 := of_decide_eq_true h8
     refine zg rfl (za rfl (zd (zl (z8 (zE (zbm (z8 (zaz (zE ?_)))))))))
     have e9 : zb3 c ((min c.Abilities.length 100) - 0) 0 = .inl false := by
      rewrite [← hI0, hm0]
      rewrite [zb3]
      try dsimp only
      rewrite [if_pos g8]
      all_goals rfl
     have e10 : few9 c = false := by
      unfold few9
      try dsimp only
      rewrite [e9]
      try dsimp only
      all_goals rfl
     rw [e10]
     exact zk rfl ⟨trivial, trivial⟩ (rfl) rfl
    ·have g8 : ¬ (((c.Abilities.getD k0 default).Effects.length : Int) > 100) := of_decide_eq_false h8
     refine zt (zal (zu (zy rfl (za rfl (zi rfl rfl rfl rfl rfl trivial (za rfl (zq ?_)))))))
     have e12 : zb3 c ((min c.Abilities.length 100) - k0) k0 = zb3 c ((min c.Abilities.length 100) - (k0 + 1)) (k0 + 1) := by
      rewrite [hm0]
      rewrite [zb3]
      try dsimp only
      rewrite [if_neg g8]
      all_goals rfl
     exact zQ (k0 + 1) ⟨e12.symm.trans hI0, aP5⟩ (by show min c.Abilities.length 100 - (k0 + 1) < min c.Abilities.length 100 - k0; omega) (zD.ren [] aP1 aP1 rfl ⟨⟨rfl, rfl⟩, ⟨congrArg (fun n => some (I n)) (zbS (k := k0) aP2), rfl⟩, trivial⟩ ⟨⟨rfl, rfl, rfl⟩, trivial⟩ aP0)
   ·have g6 : ¬ ((k0 : Int) < 100) := of_decide_eq_false h6
    have hm0 : min c.Abilities.length 100 - k0 = 0 := by omega
    refine zS (z5 (zag (zaf rfl ?_)))
    have e13 : zb3 c ((min c.Abilities.length 100) - 0) 0 = .inr () := by
     rewrite [← hI0, hm0]
     rewrite [zb3]
     try dsimp only
     all_goals rfl
    exact z0 () e13 (zD.ren [] aP1 aP1 rfl ⟨⟨rfl, rfl⟩, trivial⟩ ⟨⟨rfl, rfl, rfl⟩, trivial⟩ aP0)
  ·have g4 : ¬ ((k0 : Int) < c.Abilities.length) := of_decide_eq_false h4
   refine zf rfl h4 rfl (zf rfl h4 rfl (zn rfl h4 rfl rfl (zd (zda rfl ?_))))
   have hm0 : min c.Abilities.length 100 - k0 = 0 := by omega
   refine zS (z5 (zag (zaf rfl ?_)))
   have e14 : zb3 c ((min c.Abilities.length 100) - 0) 0 = .inr () := by
    rewrite [← hI0, hm0]
    rewrite [zb3]
    try dsimp only
    all_goals rfl
   exact z0 () e14 (zD.ren [] aP1 aP1 rfl ⟨⟨rfl, rfl⟩, trivial⟩ ⟨⟨rfl, rfl, rfl⟩, trivial⟩ aP0)
 ·rintro ⟨⟩ (hJ1 : zb3 c ((min c.Abilities.length 100) - 0) 0 = .inr ())
  refine zu (zm (zg rfl (za rfl (zd ?_))))
  refine zX (fun w_ : Unit => match w_ with | () => (⟨[(1, .ptr 0 0)], [(0, .box [.pv (.slc c.Abilities.length false (c.Abilities.flatMap zj)), .pv (.slc c.Auras.length false (c.Auras.flatMap zp)), .pv (.slc c.Foes.length false (c.Foes.flatMap zC)), I c.Map.W, I c.Map.H, .pv (.slc c.Map.Wall.length false (encB c.Map.Wall)), I c.Door.X, I c.Door.Y, I c.Lair.X, I c.Lair.Y])], 1, [], 76, 0⟩ : St)) (fun w_ => zbH c ((min c.Foes.length 100) - 0) 0 = .inr w_) ?_ ?_
  ·refine zw ?_
   refine z1 (fun k1 : Nat => (⟨[(1, .ptr 0 0), (4, I k1)], [(0, .box [.pv (.slc c.Abilities.length false (c.Abilities.flatMap zj)), .pv (.slc c.Auras.length false (c.Auras.flatMap zp)), .pv (.slc c.Foes.length false (c.Foes.flatMap zC)), I c.Map.W, I c.Map.H, .pv (.slc c.Map.Wall.length false (encB c.Map.Wall)), I c.Door.X, I c.Door.Y, I c.Lair.X, I c.Lair.Y])], 1, [], 76, 0⟩ : St)) (fun k1 : Nat => zbH c ((min c.Foes.length 100) - k1) k1 = zbH c ((min c.Foes.length 100) - 0) 0 ∧ k1 ≤ min c.Foes.length 100) (fun k1 : Nat => min c.Foes.length 100 - k1) 0 (⟨rfl, aP2⟩) ?_ (fun k1 hh_ => ?_)
   ·exact (zD.ren [] aP1 aP1 rfl ⟨⟨rfl, rfl⟩, ⟨rfl, rfl⟩, trivial⟩ ⟨⟨rfl, rfl, rfl⟩, trivial⟩ aP0)
   obtain ⟨hI1, hb1⟩ := hh_
   refine zm (zg rfl (za rfl (zh rfl rfl aP0 (za rfl (za rfl (zi rfl rfl rfl rfl rfl trivial (za rfl ?_)))))))
   refine zG rfl (fun h18 => ?_) (fun h18 => ?_)
   ·have g18 : (k1 : Int) < c.Foes.length := of_decide_eq_true h18
    refine ze rfl h18 (za rfl (ze rfl h18 (zi rfl rfl rfl rfl rfl trivial (zo rfl h18 rfl rfl (zd ?_)))))
    refine zr rfl (fun h20 => ?_) (fun h20 => ?_)
    ·have g20 : (k1 : Int) < 100 := of_decide_eq_true h20
     have hm1 : min c.Foes.length 100 - k1 = (min c.Foes.length 100 - (k1 + 1)) + 1 := by omega
     refine zt (zu (zm (zw (zg rfl (zh rfl rfl aP0 (za rfl (za rfl ?_)))))))
     have jk21 : k1 < c.Foes.length := by first | assumption | omega | (simp only [List.length_set, List.length_append]; omega) | (simp only [IntKind.wrap_i64] at *; omega) | (simp; omega) | simp_all
     refine zJ (k := k1) rfl rfl rfl rfl jk21 (z3 (s := 8) (enc := zC) (fun _ => rfl) aP0 jk21) rfl (zh rfl rfl aP0 (zO rfl rfl rfl (zb7 (s := 8) (enc := zC) (fun _ => rfl) (zaE jk21) (o := 5) rfl aP0) rfl (za rfl (zi rfl rfl rfl rfl rfl trivial (za rfl ?_)))))
     refine zG rfl (fun h23 => ?_) (fun h23 => ?_)
     ·have g23 : ((c.Foes.getD k1 default).Script.length : Int) > 100 := of_decide_eq_true h23
      refine zf rfl h23 rfl (zf rfl h23 rfl (zf rfl h23 rfl (zf rfl h23 rfl (zf rfl h23 rfl (zf rfl h23 rfl (zf rfl h23 rfl (zf rfl h23 rfl (zo rfl h23 rfl rfl (zd (zK rfl (zg rfl (za rfl (zd (zl ?_))))))))))))))
      refine z8 (zE (zbm (z8 (zaz (zE ?_)))))
      have e24 : zbH c ((min c.Foes.length 100) - 0) 0 = .inl false := by
       rewrite [← hI1, hm1]
       rewrite [zbH]
       try dsimp only
       rewrite [if_pos g23]
       all_goals rfl
      have e25 : few9 c = false := by
       unfold few9
       try dsimp only
       rewrite [hJ1]
       try dsimp only
       rewrite [e24]
       try dsimp only
       all_goals rfl
      rw [e25]
      exact zk rfl ⟨trivial, trivial⟩ (rfl) rfl
     ·have g23 : ¬ (((c.Foes.getD k1 default).Script.length : Int) > 100) := of_decide_eq_false h23
      refine ze rfl h23 (zh rfl rfl aP0 (ze rfl h23 (za rfl (ze rfl h23 (za rfl (ze rfl h23 (zJ (k := k1) rfl rfl rfl rfl jk21 (z3 (s := 8) (enc := zC) (fun _ => rfl) aP0 jk21) rfl (ze rfl h23 (zh rfl rfl aP0 (ze rfl h23 (zO rfl rfl rfl (zb7 (s := 8) (enc := zC) (fun _ => rfl) (zaE jk21) (o := 6) rfl aP0) rfl (ze rfl h23 (za rfl (ze rfl h23 (zi rfl rfl rfl rfl rfl trivial (zn rfl h23 rfl rfl (zq ?_)))))))))))))))))
      refine zu ?_
      refine zr rfl (fun h27 => ?_) (fun h27 => ?_)
      ·have g27 : ((c.Foes.getD k1 default).Hoard.length : Int) > 100 := of_decide_eq_true h27
       refine zg rfl (za rfl (zd (zl (z8 (zE (zbm (z8 (zaz (zE ?_)))))))))
       have e28 : zbH c ((min c.Foes.length 100) - 0) 0 = .inl false := by
        rewrite [← hI1, hm1]
        rewrite [zbH]
        try dsimp only
        rewrite [if_neg g23, if_pos g27]
        all_goals rfl
       have e29 : few9 c = false := by
        unfold few9
        try dsimp only
        rewrite [hJ1]
        try dsimp only
        rewrite [e28]
        try dsimp only
        all_goals rfl
       rw [e29]
       exact zk rfl ⟨trivial, trivial⟩ (rfl) rfl
      ·have g27 : ¬ (((c.Foes.getD k1 default).Hoard.length : Int) > 100) := of_decide_eq_false h27
       refine zt (zal (zu (zy rfl (za rfl (zi rfl rfl rfl rfl rfl trivial (za rfl (zq ?_)))))))
       have e31 : zbH c ((min c.Foes.length 100) - k1) k1 = zbH c ((min c.Foes.length 100) - (k1 + 1)) (k1 + 1) := by
        rewrite [hm1]
        rewrite [zbH]
        try dsimp only
        rewrite [if_neg g23, if_neg g27]
        all_goals rfl
       exact zQ (k1 + 1) ⟨e31.symm.trans hI1, aP5⟩ (by show min c.Foes.length 100 - (k1 + 1) < min c.Foes.length 100 - k1; omega) (zD.ren [] aP1 aP1 rfl ⟨⟨rfl, rfl⟩, ⟨congrArg (fun n => some (I n)) (zbS (k := k1) aP2), rfl⟩, trivial⟩ ⟨⟨rfl, rfl, rfl⟩, trivial⟩ aP0)
    ·have g20 : ¬ ((k1 : Int) < 100) := of_decide_eq_false h20
     have hm1 : min c.Foes.length 100 - k1 = 0 := by omega
     refine zS (z5 (zag (zaf rfl ?_)))
     have e32 : zbH c ((min c.Foes.length 100) - 0) 0 = .inr () := by
      rewrite [← hI1, hm1]
      rewrite [zbH]
      try dsimp only
      all_goals rfl
     exact z0 () e32 (zD.ren [] aP1 aP1 rfl ⟨⟨rfl, rfl⟩, trivial⟩ ⟨⟨rfl, rfl, rfl⟩, trivial⟩ aP0)
   ·have g18 : ¬ ((k1 : Int) < c.Foes.length) := of_decide_eq_false h18
    refine zf rfl h18 rfl (zf rfl h18 rfl (zn rfl h18 rfl rfl (zd (zda rfl ?_))))
    have hm1 : min c.Foes.length 100 - k1 = 0 := by omega
    refine zS (z5 (zag (zaf rfl ?_)))
    have e33 : zbH c ((min c.Foes.length 100) - 0) 0 = .inr () := by
     rewrite [← hI1, hm1]
     rewrite [zbH]
     try dsimp only
     all_goals rfl
    exact z0 () e33 (zD.ren [] aP1 aP1 rfl ⟨⟨rfl, rfl⟩, trivial⟩ ⟨⟨rfl, rfl, rfl⟩, trivial⟩ aP0)
  ·rintro ⟨⟩ (hJ15 : zbH c ((min c.Foes.length 100) - 0) 0 = .inr ())
   refine zu (zg rfl (zh rfl rfl aP0 (za rfl (za rfl (zi rfl rfl rfl rfl rfl trivial (za rfl ?_))))))
   refine zG rfl (fun h35 => ?_) (fun h35 => ?_)
   ·have g35 : (c.Abilities.length : Int) ≤ 70 := of_decide_eq_true h35
    refine ze rfl h35 (zh rfl rfl aP0 (ze rfl h35 (za rfl (ze rfl h35 (za rfl (ze rfl h35 (zi rfl rfl rfl rfl rfl trivial (zo rfl h35 rfl rfl (za rfl ?_)))))))))
    refine zG rfl (fun h37 => ?_) (fun h37 => ?_)
    ·have g37 : (c.Auras.length : Int) ≤ 70 := of_decide_eq_true h37
     refine ze rfl h37 (zh rfl rfl aP0 (ze rfl h37 (za rfl (ze rfl h37 (za rfl (ze rfl h37 (zi rfl rfl rfl rfl rfl trivial (zo rfl h37 rfl rfl (za rfl ?_)))))))))
     refine zG rfl (fun h39 => ?_) (fun h39 => ?_)
     ·have g39 : (c.Foes.length : Int) ≤ 70 := of_decide_eq_true h39
      refine ze rfl h39 (zh rfl rfl aP0 (ze rfl h39 (zh rfl rfl aP0 (ze rfl h39 (za rfl (ze rfl h39 (za rfl (ze rfl h39 (zi rfl rfl rfl rfl rfl trivial (zo rfl h39 rfl rfl (za rfl (zd (zl ?_)))))))))))))
      have e41 : few9 c = (decide ((c.Map.Wall.length : Int) ≤ 1024)) := by
       unfold few9
       try dsimp only
       rewrite [hJ1]
       try dsimp only
       rewrite [hJ15]
       try dsimp only
       rewrite [if_pos g35, if_pos g37, if_pos g39]
       all_goals rfl
      rw [e41]
      exact zk rfl ⟨trivial, trivial⟩ (rfl) rfl
     ·have g39 : ¬ ((c.Foes.length : Int) ≤ 70) := of_decide_eq_false h39
      refine zf rfl h39 rfl (zf rfl h39 rfl (zf rfl h39 rfl (zf rfl h39 rfl (zf rfl h39 rfl (zn rfl h39 rfl rfl (za rfl (zd (zl ?_))))))))
      have e42 : few9 c = false := by
       unfold few9
       try dsimp only
       rewrite [hJ1]
       try dsimp only
       rewrite [hJ15]
       try dsimp only
       rewrite [if_pos g35, if_pos g37, if_neg g39]
       all_goals rfl
      rw [e42]
      exact zk rfl ⟨trivial, trivial⟩ (rfl) rfl
    ·have g37 : ¬ ((c.Auras.length : Int) ≤ 70) := of_decide_eq_false h37
     refine zf rfl h37 rfl (zf rfl h37 rfl (zf rfl h37 rfl (zf rfl h37 rfl (zn rfl h37 rfl rfl (za rfl (zc rfl (zc rfl (zc rfl (zc rfl (zc rfl (za rfl (za rfl (zd (zl ?_))))))))))))))
     have e43 : few9 c = false := by
      unfold few9
      try dsimp only
      rewrite [hJ1]
      try dsimp only
      rewrite [hJ15]
      try dsimp only
      rewrite [if_pos g35, if_neg g37]
      all_goals rfl
     rw [e43]
     exact zk rfl ⟨trivial, trivial⟩ (rfl) rfl
   ·have g35 : ¬ ((c.Abilities.length : Int) ≤ 70) := of_decide_eq_false h35
    refine zf rfl h35 rfl (zf rfl h35 rfl (zf rfl h35 rfl (zf rfl h35 rfl (zn rfl h35 rfl rfl (za rfl (zc rfl (zc rfl (zc rfl (zc rfl (za rfl (za rfl (zc rfl (zc rfl (zc rfl (zc rfl (zc rfl (za rfl ?_)))))))))))))))))
    refine za rfl (zd (zl ?_))
    have e44 : few9 c = false := by
     unfold few9
     try dsimp only
     rewrite [hJ1]
     try dsimp only
     rewrite [hJ15]
     try dsimp only
     rewrite [if_neg g35]
     all_goals rfl
    rw [e44]
    exact zk rfl ⟨trivial, trivial⟩ (rfl) rfl

theorem znS (c : zA) : ∀ (n k : Nat), zb3 c n k = .inr () → ∀ i, i < n → (c.Abilities.getD (k + i) default).Effects.length ≤ 100
  | 0, k, _, i, hi => by omega
  | n + 1, k, h, i, hi => by
    rw [zb3] at h
    split at h
    · cases h
    · rename_i h1
      cases i with
      | zero => simp only [Nat.add_zero]; omega
      | succ i => have := znS c n (k + 1) h i (by omega); rwa [show k + (i + 1) = k + 1 + i by omega]
theorem znO (c : zA) : ∀ (n k : Nat), zbH c n k = .inr () → ∀ i, i < n → (c.Foes.getD (k + i) default).Script.length ≤ 100 ∧ (c.Foes.getD (k + i) default).Hoard.length ≤ 100
  | 0, k, _, i, hi => by omega
  | n + 1, k, h, i, hi => by
    rw [zbH] at h
    split at h
    · cases h
    · rename_i h1
      split at h
      · cases h
      · rename_i h2
        cases i with
        | zero => simp only [Nat.add_zero]; omega
        | succ i => have := znO c n (k + 1) h i (by omega); rwa [show k + (i + 1) = k + 1 + i by omega]
theorem zmu (c : zA) (b : Bool) : ∀ (n k : Nat), zb3 c n k = .inl b → b = false
  | 0, k, h => by rw [zb3] at h; cases h
  | n + 1, k, h => by
    rw [zb3] at h
    split at h
    · cases h; rfl
    · exact zmu c b n _ h
theorem zlu (c : zA) (b : Bool) : ∀ (n k : Nat), zbH c n k = .inl b → b = false
  | 0, k, h => by rw [zbH] at h; cases h
  | n + 1, k, h => by
    rw [zbH] at h
    split at h
    · cases h; rfl
    · split at h
      · cases h; rfl
      · exact zlu c b n _ h
end Go.Proofs.YtppnccjeggnllaaGreat

import Derived.Test.YtppnccjeggnllaaGreatContent
namespace Go.Proofs.YtppnccjeggnllaaGreat
open Go Go.RowKit Go.Proofs.YtppnccjeggnllaaGreatVm
attribute [local irreducible] zY zaM OpsS
set_option maxHeartbeats 400000
set_option maxRecDepth 100000
set_option linter.all false
def zbC (c : zu) : Nat → Nat → Sum Bool Unit
  | 0, k0 => .inr ()
  | n_ + 1, k0 => if ((c.Abilities.getD k0 default).Effects.length : Int) > 100 then .inl false else zbC c n_ (k0 + 1)
def zbl (c : zu) : Nat → Nat → Sum Bool Unit
  | 0, k1 => .inr ()
  | n_ + 1, k1 => if ((c.Foes.getD k1 default).Script.length : Int) > 100 then .inl false else if ((c.Foes.getD k1 default).Hoard.length : Int) > 100 then .inl false else zbl c n_ (k1 + 1)
def few9 (c : zu) : Bool :=
  (match zbC c ((min c.Abilities.length 100) - 0) 0 with
    | .inl r_ => r_
    | .inr () => (match zbl c ((min c.Foes.length 100) - 0) 0 with
    | .inl r_ => r_
    | .inr () => if (c.Abilities.length : Int) ≤ 70 then (if (c.Auras.length : Int) ≤ 70 then (if (c.Foes.length : Int) ≤ 70 then (decide ((c.Map.Wall.length : Int) ≤ 1024)) else false) else false) else false))
theorem znA (c : zu) : Ok Tryz.prog 8 [z1 c] [] (B (few9 c)) [] [] := by
 refine Ok.len fun hlen => ?_
 have hl_c_Abilities : c.Abilities.length ≤ maxLen := hlen _ (by simp [zT, lens, zU])
 have hl_c_Auras : c.Auras.length ≤ maxLen := hlen _ (by simp [zT, lens, zU])
 have hl_c_Foes : c.Foes.length ≤ maxLen := hlen _ (by simp [zT, lens, zU])
 have hl_c_Map_Wall : c.Map.Wall.length ≤ maxLen := hlen _ (by simp [zT, lens, zU])
 unfold maxLen at hl_c_Abilities hl_c_Auras hl_c_Foes hl_c_Map_Wall
 refine zz Tryz.func8 rfl ?_
 show zO Tryz.prog _ _ ⟨[(0, z1 c)], [], 0, [], 76, 0⟩
 refine zd (zb rfl (zB (o := .box [_, _, _, _, _, _, _, _, _, _]) (nx' := 1) rfl rfl rfl trivial (za rfl rfl trivial (zc (ze (zd (zd (zb rfl (za rfl rfl trivial (zc (ze ?_)))))))))))
 refine z6 (fun w_ : Unit => match w_ with | () => (⟨[(1, .ptr 0 0)], [(0, .box [.pv (.slc c.Abilities.length false (c.Abilities.flatMap zj)), .pv (.slc c.Auras.length false (c.Auras.flatMap zq)), .pv (.slc c.Foes.length false (c.Foes.flatMap zw)), I c.Map.W, I c.Map.H, .pv (.slc c.Map.Wall.length false (encB c.Map.Wall)), I c.Door.X, I c.Door.Y, I c.Lair.X, I c.Lair.Y])], 1, [], 76, 0⟩ : St)) (fun w_ => zbC c ((min c.Abilities.length 100) - 0) 0 = .inr w_) ?_ ?_
 ·refine zC ?_
  refine z9 (fun k0 : Nat => (⟨[(1, .ptr 0 0), (3, I k0)], [(0, .box [.pv (.slc c.Abilities.length false (c.Abilities.flatMap zj)), .pv (.slc c.Auras.length false (c.Auras.flatMap zq)), .pv (.slc c.Foes.length false (c.Foes.flatMap zw)), I c.Map.W, I c.Map.H, .pv (.slc c.Map.Wall.length false (encB c.Map.Wall)), I c.Door.X, I c.Door.Y, I c.Lair.X, I c.Lair.Y])], 1, [], 76, 0⟩ : St)) (fun k0 : Nat => zbC c ((min c.Abilities.length 100) - k0) k0 = zbC c ((min c.Abilities.length 100) - 0) 0 ∧ k0 ≤ min c.Abilities.length 100) (fun k0 : Nat => min c.Abilities.length 100 - k0) 0 (⟨rfl, (by first | omega | (simp; omega))⟩) ?_ (fun k0 hh_ => ?_)
  ·exact (zH.ren [] (by decide +kernel) (by decide +kernel) rfl ⟨⟨rfl, rfl⟩, ⟨rfl, rfl⟩, trivial⟩ ⟨⟨rfl, rfl, rfl⟩, trivial⟩ (by decide))
  obtain ⟨hI0, hb0⟩ := hh_
  show zO Tryz.prog _ _ (⟨[(1, .ptr 0 0), (3, I k0)], [(0, .box [.pv (.slc c.Abilities.length false (c.Abilities.flatMap zj)), .pv (.slc c.Auras.length false (c.Auras.flatMap zq)), .pv (.slc c.Foes.length false (c.Foes.flatMap zw)), I c.Map.W, I c.Map.H, .pv (.slc c.Map.Wall.length false (encB c.Map.Wall)), I c.Door.X, I c.Door.Y, I c.Lair.X, I c.Lair.Y])], 1, [], 76, 0⟩ : St)
  refine zd (zd (zb rfl (za rfl rfl trivial (za rfl rfl (by decide) (za rfl rfl trivial (za rfl rfl trivial (zl rfl rfl rfl rfl rfl trivial (za rfl rfl trivial ?_))))))))
  refine zK rfl (fun h4 => ?_) (fun h4 => ?_)
  ·have g4 : (k0 : Int) < c.Abilities.length := of_decide_eq_true h4
   refine zg rfl h4 (za rfl rfl trivial (zg rfl h4 (zl rfl rfl rfl rfl rfl trivial (zr rfl h4 rfl rfl (zc (ze ?_))))))
   refine zy rfl (fun h6 => ?_) (fun h6 => ?_)
   ·have g6 : (k0 : Int) < 100 := of_decide_eq_true h6
    have hm0 : min c.Abilities.length 100 - k0 = (min c.Abilities.length 100 - (k0 + 1)) + 1 := by omega
    refine zA (ze (zd (zC (zd (zb rfl (za rfl rfl (by decide) (za rfl rfl trivial (za rfl rfl trivial ?_))))))))
    have jk7 : k0 < c.Abilities.length := by first | assumption | omega | (simp only [List.length_set, List.length_append]; omega) | (simp only [IntKind.wrap_i64] at *; omega) | (simp; omega) | simp_all
    refine zS (k := k0) rfl rfl rfl rfl jk7 (zaj (s := 8) (enc := zj) (fun _ => rfl) (by decide) jk7) rfl (za rfl rfl (by decide) (zaf rfl rfl rfl (zja (s := 8) (enc := zj) (fun _ => rfl) (zaz jk7) (o := 7) rfl (by decide)) rfl (za rfl rfl trivial (zl rfl rfl rfl rfl rfl trivial (zc (ze ?_))))))
    refine zy rfl (fun h8 => ?_) (fun h8 => ?_)
    ·have g8 : ((c.Abilities.getD k0 default).Effects.length : Int) > 100 := of_decide_eq_true h8
     refine zd (zb rfl (za rfl rfl trivial (zc (ze (zo (zad (zI (zbH (zad (zcJ (zI ?_)))))))))))
     have e9 : zbC c ((min c.Abilities.length 100) - 0) 0 = .inl false := by
      rewrite [← hI0, hm0]
      rewrite [zbC]
      try dsimp only
      rewrite [if_pos g8]
      all_goals rfl
     have e10 : few9 c = false := by
      unfold few9
      try dsimp only
      rewrite [e9]
      try dsimp only
      all_goals rfl
     rw [e10]
     exact zp rfl ⟨trivial, trivial⟩ (rfl) rfl
    ·have g8 : ¬ (((c.Abilities.getD k0 default).Effects.length : Int) > 100) := of_decide_eq_false h8
     refine zA (zar (ze (zb rfl (za rfl rfl trivial (zl rfl rfl rfl rfl rfl trivial (za rfl rfl trivial (zc ?_)))))))
     have e12 : zbC c ((min c.Abilities.length 100) - k0) k0 = zbC c ((min c.Abilities.length 100) - (k0 + 1)) (k0 + 1) := by
      rewrite [hm0]
      rewrite [zbC]
      try dsimp only
      rewrite [if_neg g8]
      all_goals rfl
     exact z5 (k0 + 1) ⟨e12.symm.trans hI0, (by omega)⟩ (by show min c.Abilities.length 100 - (k0 + 1) < min c.Abilities.length 100 - k0; omega) (zH.ren [] (by decide +kernel) (by decide +kernel) rfl ⟨⟨rfl, rfl⟩, ⟨congrArg (fun n => some (I n)) (zcv (k := k0) (by first | omega | (simp; omega))), rfl⟩, trivial⟩ ⟨⟨rfl, rfl, rfl⟩, trivial⟩ (by decide))
   ·have g6 : ¬ ((k0 : Int) < 100) := of_decide_eq_false h6
    have hm0 : min c.Abilities.length 100 - k0 = 0 := by omega
    refine zV (zac (zal (zak rfl ?_)))
    have e13 : zbC c ((min c.Abilities.length 100) - 0) 0 = .inr () := by
     rewrite [← hI0, hm0]
     rewrite [zbC]
     try dsimp only
     all_goals rfl
    exact zZ () e13 (zH.ren [] (by decide +kernel) (by decide +kernel) rfl ⟨⟨rfl, rfl⟩, trivial⟩ ⟨⟨rfl, rfl, rfl⟩, trivial⟩ (by decide))
  ·have g4 : ¬ ((k0 : Int) < c.Abilities.length) := of_decide_eq_false h4
   refine zh rfl h4 rfl (zh rfl h4 rfl (zt rfl h4 rfl rfl (zc (ze (zd5 rfl ?_)))))
   have hm0 : min c.Abilities.length 100 - k0 = 0 := by omega
   refine zV (zac (zal (zak rfl ?_)))
   have e14 : zbC c ((min c.Abilities.length 100) - 0) 0 = .inr () := by
    rewrite [← hI0, hm0]
    rewrite [zbC]
    try dsimp only
    all_goals rfl
   exact zZ () e14 (zH.ren [] (by decide +kernel) (by decide +kernel) rfl ⟨⟨rfl, rfl⟩, trivial⟩ ⟨⟨rfl, rfl, rfl⟩, trivial⟩ (by decide))
 ·rintro ⟨⟩ (hJ1 : zbC c ((min c.Abilities.length 100) - 0) 0 = .inr ())
  show seqK _ _ _ .normal (⟨[(1, .ptr 0 0)], [(0, .box [.pv (.slc c.Abilities.length false (c.Abilities.flatMap zj)), .pv (.slc c.Auras.length false (c.Auras.flatMap zq)), .pv (.slc c.Foes.length false (c.Foes.flatMap zw)), I c.Map.W, I c.Map.H, .pv (.slc c.Map.Wall.length false (encB c.Map.Wall)), I c.Door.X, I c.Door.Y, I c.Lair.X, I c.Lair.Y])], 1, [], 76, 0⟩ : St)
  refine ze (zd (zd (zb rfl (za rfl rfl trivial (zc (ze ?_))))))
  refine z6 (fun w_ : Unit => match w_ with | () => (⟨[(1, .ptr 0 0)], [(0, .box [.pv (.slc c.Abilities.length false (c.Abilities.flatMap zj)), .pv (.slc c.Auras.length false (c.Auras.flatMap zq)), .pv (.slc c.Foes.length false (c.Foes.flatMap zw)), I c.Map.W, I c.Map.H, .pv (.slc c.Map.Wall.length false (encB c.Map.Wall)), I c.Door.X, I c.Door.Y, I c.Lair.X, I c.Lair.Y])], 1, [], 76, 0⟩ : St)) (fun w_ => zbl c ((min c.Foes.length 100) - 0) 0 = .inr w_) ?_ ?_
  ·refine zC ?_
   refine z9 (fun k1 : Nat => (⟨[(1, .ptr 0 0), (4, I k1)], [(0, .box [.pv (.slc c.Abilities.length false (c.Abilities.flatMap zj)), .pv (.slc c.Auras.length false (c.Auras.flatMap zq)), .pv (.slc c.Foes.length false (c.Foes.flatMap zw)), I c.Map.W, I c.Map.H, .pv (.slc c.Map.Wall.length false (encB c.Map.Wall)), I c.Door.X, I c.Door.Y, I c.Lair.X, I c.Lair.Y])], 1, [], 76, 0⟩ : St)) (fun k1 : Nat => zbl c ((min c.Foes.length 100) - k1) k1 = zbl c ((min c.Foes.length 100) - 0) 0 ∧ k1 ≤ min c.Foes.length 100) (fun k1 : Nat => min c.Foes.length 100 - k1) 0 (⟨rfl, (by first | omega | (simp; omega))⟩) ?_ (fun k1 hh_ => ?_)
   ·exact (zH.ren [] (by decide +kernel) (by decide +kernel) rfl ⟨⟨rfl, rfl⟩, ⟨rfl, rfl⟩, trivial⟩ ⟨⟨rfl, rfl, rfl⟩, trivial⟩ (by decide))
   obtain ⟨hI1, hb1⟩ := hh_
   show zO Tryz.prog _ _ (⟨[(1, .ptr 0 0), (4, I k1)], [(0, .box [.pv (.slc c.Abilities.length false (c.Abilities.flatMap zj)), .pv (.slc c.Auras.length false (c.Auras.flatMap zq)), .pv (.slc c.Foes.length false (c.Foes.flatMap zw)), I c.Map.W, I c.Map.H, .pv (.slc c.Map.Wall.length false (encB c.Map.Wall)), I c.Door.X, I c.Door.Y, I c.Lair.X, I c.Lair.Y])], 1, [], 76, 0⟩ : St)
   refine zd (zd (zb rfl (za rfl rfl trivial (za rfl rfl (by decide) (za rfl rfl trivial (za rfl rfl trivial (zl rfl rfl rfl rfl rfl trivial (za rfl rfl trivial ?_))))))))
   refine zK rfl (fun h18 => ?_) (fun h18 => ?_)
   ·have g18 : (k1 : Int) < c.Foes.length := of_decide_eq_true h18
    refine zg rfl h18 (za rfl rfl trivial (zg rfl h18 (zl rfl rfl rfl rfl rfl trivial (zr rfl h18 rfl rfl (zc (ze ?_))))))
    refine zy rfl (fun h20 => ?_) (fun h20 => ?_)
    ·have g20 : (k1 : Int) < 100 := of_decide_eq_true h20
     have hm1 : min c.Foes.length 100 - k1 = (min c.Foes.length 100 - (k1 + 1)) + 1 := by omega
     refine zA (ze (zd (zC (zd (zb rfl (za rfl rfl (by decide) (za rfl rfl trivial (za rfl rfl trivial ?_))))))))
     have jk21 : k1 < c.Foes.length := by first | assumption | omega | (simp only [List.length_set, List.length_append]; omega) | (simp only [IntKind.wrap_i64] at *; omega) | (simp; omega) | simp_all
     refine zS (k := k1) rfl rfl rfl rfl jk21 (zaj (s := 8) (enc := zw) (fun _ => rfl) (by decide) jk21) rfl (za rfl rfl (by decide) (zaf rfl rfl rfl (zja (s := 8) (enc := zw) (fun _ => rfl) (zaz jk21) (o := 5) rfl (by decide)) rfl (za rfl rfl trivial (zl rfl rfl rfl rfl rfl trivial (za rfl rfl trivial ?_)))))
     refine zK rfl (fun h23 => ?_) (fun h23 => ?_)
     ·have g23 : ((c.Foes.getD k1 default).Script.length : Int) > 100 := of_decide_eq_true h23
      refine zh rfl h23 rfl (zh rfl h23 rfl (zh rfl h23 rfl (zh rfl h23 rfl (zh rfl h23 rfl (zh rfl h23 rfl (zh rfl h23 rfl (zh rfl h23 rfl (zr rfl h23 rfl rfl (zc (ze (zP rfl ?_)))))))))))
      refine zd (zb rfl (za rfl rfl trivial (zc (ze (zo (zad (zI (zbH (zad (zcJ (zI ?_)))))))))))
      have e24 : zbl c ((min c.Foes.length 100) - 0) 0 = .inl false := by
       rewrite [← hI1, hm1]
       rewrite [zbl]
       try dsimp only
       rewrite [if_pos g23]
       all_goals rfl
      have e25 : few9 c = false := by
       unfold few9
       try dsimp only
       rewrite [hJ1]
       try dsimp only
       rewrite [e24]
       try dsimp only
       all_goals rfl
      rw [e25]
      exact zp rfl ⟨trivial, trivial⟩ (rfl) rfl
     ·have g23 : ¬ (((c.Foes.getD k1 default).Script.length : Int) > 100) := of_decide_eq_false h23
      refine zg rfl h23 (za rfl rfl (by decide) (zg rfl h23 (za rfl rfl trivial (zg rfl h23 (za rfl rfl trivial (zg rfl h23 (zS (k := k1) rfl rfl rfl rfl jk21 (zaj (s := 8) (enc := zw) (fun _ => rfl) (by decide) jk21) rfl (zg rfl h23 (za rfl rfl (by decide) (zg rfl h23 (zaf rfl rfl rfl (zja (s := 8) (enc := zw) (fun _ => rfl) (zaz jk21) (o := 6) rfl (by decide)) rfl ?_)))))))))))
      refine zg rfl h23 (za rfl rfl trivial (zg rfl h23 (zl rfl rfl rfl rfl rfl trivial (zt rfl h23 rfl rfl (zc (ze ?_))))))
      refine zy rfl (fun h27 => ?_) (fun h27 => ?_)
      ·have g27 : ((c.Foes.getD k1 default).Hoard.length : Int) > 100 := of_decide_eq_true h27
       refine zd (zb rfl (za rfl rfl trivial (zc (ze (zo (zad (zI (zbH (zad (zcJ (zI ?_)))))))))))
       have e28 : zbl c ((min c.Foes.length 100) - 0) 0 = .inl false := by
        rewrite [← hI1, hm1]
        rewrite [zbl]
        try dsimp only
        rewrite [if_neg g23, if_pos g27]
        all_goals rfl
       have e29 : few9 c = false := by
        unfold few9
        try dsimp only
        rewrite [hJ1]
        try dsimp only
        rewrite [e28]
        try dsimp only
        all_goals rfl
       rw [e29]
       exact zp rfl ⟨trivial, trivial⟩ (rfl) rfl
      ·have g27 : ¬ (((c.Foes.getD k1 default).Hoard.length : Int) > 100) := of_decide_eq_false h27
       refine zA (zar (ze (zb rfl (za rfl rfl trivial (zl rfl rfl rfl rfl rfl trivial (za rfl rfl trivial (zc ?_)))))))
       have e31 : zbl c ((min c.Foes.length 100) - k1) k1 = zbl c ((min c.Foes.length 100) - (k1 + 1)) (k1 + 1) := by
        rewrite [hm1]
        rewrite [zbl]
        try dsimp only
        rewrite [if_neg g23, if_neg g27]
        all_goals rfl
       exact z5 (k1 + 1) ⟨e31.symm.trans hI1, (by omega)⟩ (by show min c.Foes.length 100 - (k1 + 1) < min c.Foes.length 100 - k1; omega) (zH.ren [] (by decide +kernel) (by decide +kernel) rfl ⟨⟨rfl, rfl⟩, ⟨congrArg (fun n => some (I n)) (zcv (k := k1) (by first | omega | (simp; omega))), rfl⟩, trivial⟩ ⟨⟨rfl, rfl, rfl⟩, trivial⟩ (by decide))
    ·have g20 : ¬ ((k1 : Int) < 100) := of_decide_eq_false h20
     have hm1 : min c.Foes.length 100 - k1 = 0 := by omega
     refine zV (zac (zal (zak rfl ?_)))
     have e32 : zbl c ((min c.Foes.length 100) - 0) 0 = .inr () := by
      rewrite [← hI1, hm1]
      rewrite [zbl]
      try dsimp only
      all_goals rfl
     exact zZ () e32 (zH.ren [] (by decide +kernel) (by decide +kernel) rfl ⟨⟨rfl, rfl⟩, trivial⟩ ⟨⟨rfl, rfl, rfl⟩, trivial⟩ (by decide))
   ·have g18 : ¬ ((k1 : Int) < c.Foes.length) := of_decide_eq_false h18
    refine zh rfl h18 rfl (zh rfl h18 rfl (zt rfl h18 rfl rfl (zc (ze (zd5 rfl ?_)))))
    have hm1 : min c.Foes.length 100 - k1 = 0 := by omega
    refine zV (zac (zal (zak rfl ?_)))
    have e33 : zbl c ((min c.Foes.length 100) - 0) 0 = .inr () := by
     rewrite [← hI1, hm1]
     rewrite [zbl]
     try dsimp only
     all_goals rfl
    exact zZ () e33 (zH.ren [] (by decide +kernel) (by decide +kernel) rfl ⟨⟨rfl, rfl⟩, trivial⟩ ⟨⟨rfl, rfl, rfl⟩, trivial⟩ (by decide))
  ·rintro ⟨⟩ (hJ15 : zbl c ((min c.Foes.length 100) - 0) 0 = .inr ())
   show seqK _ _ _ .normal (⟨[(1, .ptr 0 0)], [(0, .box [.pv (.slc c.Abilities.length false (c.Abilities.flatMap zj)), .pv (.slc c.Auras.length false (c.Auras.flatMap zq)), .pv (.slc c.Foes.length false (c.Foes.flatMap zw)), I c.Map.W, I c.Map.H, .pv (.slc c.Map.Wall.length false (encB c.Map.Wall)), I c.Door.X, I c.Door.Y, I c.Lair.X, I c.Lair.Y])], 1, [], 76, 0⟩ : St)
   refine ze (zd (zb rfl (za rfl rfl (by decide) (za rfl rfl trivial (za rfl rfl trivial (zl rfl rfl rfl rfl rfl trivial (za rfl rfl trivial ?_)))))))
   refine zK rfl (fun h35 => ?_) (fun h35 => ?_)
   ·have g35 : (c.Abilities.length : Int) ≤ 70 := of_decide_eq_true h35
    refine zg rfl h35 (za rfl rfl (by decide) (zg rfl h35 (za rfl rfl trivial (zg rfl h35 (za rfl rfl trivial (zg rfl h35 (zl rfl rfl rfl rfl rfl trivial (zr rfl h35 rfl rfl (za rfl rfl trivial ?_)))))))))
    refine zK rfl (fun h37 => ?_) (fun h37 => ?_)
    ·have g37 : (c.Auras.length : Int) ≤ 70 := of_decide_eq_true h37
     refine zg rfl h37 (za rfl rfl (by decide) (zg rfl h37 (za rfl rfl trivial (zg rfl h37 (za rfl rfl trivial (zg rfl h37 (zl rfl rfl rfl rfl rfl trivial (zr rfl h37 rfl rfl (za rfl rfl trivial ?_)))))))))
     refine zK rfl (fun h39 => ?_) (fun h39 => ?_)
     ·have g39 : (c.Foes.length : Int) ≤ 70 := of_decide_eq_true h39
      refine zg rfl h39 (za rfl rfl (by decide) (zg rfl h39 (za rfl rfl (by decide) (zg rfl h39 (za rfl rfl trivial (zg rfl h39 (za rfl rfl trivial (zg rfl h39 (zl rfl rfl rfl rfl rfl trivial (zr rfl h39 rfl rfl (za rfl rfl trivial ?_)))))))))))
      refine zc (ze (zo ?_))
      have e41 : few9 c = (decide ((c.Map.Wall.length : Int) ≤ 1024)) := by
       unfold few9
       try dsimp only
       rewrite [hJ1]
       try dsimp only
       rewrite [hJ15]
       try dsimp only
       rewrite [if_pos g35, if_pos g37, if_pos g39]
       all_goals rfl
      rw [e41]
      exact zp rfl ⟨trivial, trivial⟩ (rfl) rfl
     ·have g39 : ¬ ((c.Foes.length : Int) ≤ 70) := of_decide_eq_false h39
      refine zh rfl h39 rfl (zh rfl h39 rfl (zh rfl h39 rfl (zh rfl h39 rfl (zh rfl h39 rfl (zt rfl h39 rfl rfl (za rfl rfl trivial (zc (ze (zo ?_)))))))))
      have e42 : few9 c = false := by
       unfold few9
       try dsimp only
       rewrite [hJ1]
       try dsimp only
       rewrite [hJ15]
       try dsimp only
       rewrite [if_pos g35, if_pos g37, if_neg g39]
       all_goals rfl
      rw [e42]
      exact zp rfl ⟨trivial, trivial⟩ (rfl) rfl
    ·have g37 : ¬ ((c.Auras.length : Int) ≤ 70) := of_decide_eq_false h37
     refine zh rfl h37 rfl (zh rfl h37 rfl (zh rfl h37 rfl (zh rfl h37 rfl (zt rfl h37 rfl rfl (za rfl rfl trivial (zf rfl rfl (zf rfl rfl (zf rfl rfl (zf rfl rfl (zf rfl rfl (za rfl rfl trivial ?_)))))))))))
     refine za rfl rfl trivial (zc (ze (zo ?_)))
     have e43 : few9 c = false := by
      unfold few9
      try dsimp only
      rewrite [hJ1]
      try dsimp only
      rewrite [hJ15]
      try dsimp only
      rewrite [if_pos g35, if_neg g37]
      all_goals rfl
     rw [e43]
     exact zp rfl ⟨trivial, trivial⟩ (rfl) rfl
   ·have g35 : ¬ ((c.Abilities.length : Int) ≤ 70) := of_decide_eq_false h35
    refine zh rfl h35 rfl (zh rfl h35 rfl (zh rfl h35 rfl (zh rfl h35 rfl (zt rfl h35 rfl rfl (za rfl rfl trivial (zf rfl rfl (zf rfl rfl (zf rfl rfl (zf rfl rfl (za rfl rfl trivial (za rfl rfl trivial ?_)))))))))))
    refine zf rfl rfl (zf rfl rfl (zf rfl rfl (zf rfl rfl (zf rfl rfl (za rfl rfl trivial (za rfl rfl trivial (zc (ze (zo ?_)))))))))
    have e44 : few9 c = false := by
     unfold few9
     try dsimp only
     rewrite [hJ1]
     try dsimp only
     rewrite [hJ15]
     try dsimp only
     rewrite [if_neg g35]
     all_goals rfl
    rw [e44]
    exact zp rfl ⟨trivial, trivial⟩ (rfl) rfl

theorem ziZ (c : zu) : ∀ (n k : Nat), zbC c n k = .inr () → ∀ i, i < n → (c.Abilities.getD (k + i) default).Effects.length ≤ 100
  | 0, k, _, i, hi => by omega
  | n + 1, k, h, i, hi => by
    rw [zbC] at h
    split at h
    · cases h
    · rename_i h1
      cases i with
      | zero => simp only [Nat.add_zero]; omega
      | succ i => have := ziZ c n (k + 1) h i (by omega); rwa [show k + (i + 1) = k + 1 + i by omega]
theorem zjj (c : zu) : ∀ (n k : Nat), zbl c n k = .inr () → ∀ i, i < n → (c.Foes.getD (k + i) default).Script.length ≤ 100 ∧ (c.Foes.getD (k + i) default).Hoard.length ≤ 100
  | 0, k, _, i, hi => by omega
  | n + 1, k, h, i, hi => by
    rw [zbl] at h
    split at h
    · cases h
    · rename_i h1
      split at h
      · cases h
      · rename_i h2
        cases i with
        | zero => simp only [Nat.add_zero]; omega
        | succ i => have := zjj c n (k + 1) h i (by omega); rwa [show k + (i + 1) = k + 1 + i by omega]
theorem zg8 (c : zu) (b : Bool) : ∀ (n k : Nat), zbC c n k = .inl b → b = false
  | 0, k, h => by rw [zbC] at h; cases h
  | n + 1, k, h => by
    rw [zbC] at h
    split at h
    · cases h; rfl
    · exact zg8 c b n _ h
theorem zhx (c : zu) (b : Bool) : ∀ (n k : Nat), zbl c n k = .inl b → b = false
  | 0, k, h => by rw [zbl] at h; cases h
  | n + 1, k, h => by
    rw [zbl] at h
    split at h
    · cases h; rfl
    · split at h
      · cases h; rfl
      · exact zhx c b n _ h
theorem zqi {c : zu} (h : few9 c = true) : Few9 c := by
  unfold few9 at h
  split at h
  · rename_i b hb; have := zg8 _ _ _ _ hb; simp [this] at h
  · rename_i hb
    split at h
    · rename_i b hb; have := zhx _ _ _ _ hb; simp [this] at h
    · rename_i hc
      split at h
      case isFalse => cases h
      split at h
      case isFalse => cases h
      split at h
      case isFalse => cases h
      have h9 := of_decide_eq_true h
      have b0 := ziZ _ _ _ hb
      have b1 := zjj _ _ _ hc
      refine ⟨fun a ha => ?_, fun f hf => ?_, fun f hf => ?_, by omega, by omega, by omega, by omega⟩
      · obtain ⟨i, hi, rfl⟩ := List.mem_iff_getElem.1 ha
        have := b0 i (by omega)
        rw [Nat.zero_add, List.getD_eq_getElem?_getD, List.getElem?_eq_getElem hi, Option.getD_some] at this
        omega
      · obtain ⟨i, hi, rfl⟩ := List.mem_iff_getElem.1 hf
        have := (b1 i (by omega)).1
        rw [Nat.zero_add, List.getD_eq_getElem?_getD, List.getElem?_eq_getElem hi, Option.getD_some] at this
        omega
      · obtain ⟨i, hi, rfl⟩ := List.mem_iff_getElem.1 hf
        have := (b1 i (by omega)).2
        rw [Nat.zero_add, List.getD_eq_getElem?_getD, List.getElem?_eq_getElem hi, Option.getD_some] at this
        omega

end Go.Proofs.YtppnccjeggnllaaGreat

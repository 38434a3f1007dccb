import Derived.Test.YtppnccjeggnllaaGreatReadw
namespace Go.Proofs.YtppnccjeggnllaaGreat
open Go Go.RowKit Go.Proofs.YtppnccjeggnllaaGreatVm
attribute [local irreducible] zY zaM OpsS
set_option maxHeartbeats 400000
set_option maxRecDepth 100000
set_option linter.all false
def zbF (a : List Int) (b : List Int) : Nat → Nat → Sum Bool Unit
  | 0, k0 => .inr ()
  | n_ + 1, k0 => if (a.getD k0 default : Int) = (b.getD k0 default) then zbF a b n_ (k0 + 1) else .inl false
def zeF (a : List Int) (b : List Int) : Bool :=
  if (a.length : Int) = b.length then (match zbF a b (a.length - 0) 0 with
    | .inl r_ => r_
    | .inr () => true) else false
theorem zn4 (a : List Int) (a_f : Bool) (b : List Int) (b_f : Bool) : Ok Tryz.prog 11 [.pv (.slc a.length a_f (encI a)), .pv (.slc b.length b_f (encI b))] [] (B (zeF a b)) [] [] := by
 refine Ok.len fun hlen => ?_
 have hl_a : a.length ≤ maxLen := hlen _ (by simp [zT, lens, zU])
 have hl_b : b.length ≤ maxLen := hlen _ (by simp [zT, lens, zU])
 unfold maxLen at hl_a hl_b
 refine zz Tryz.func11 rfl ?_
 show zO Tryz.prog _ _ ⟨[(0, .pv (.slc a.length a_f (encI a))), (1, .pv (.slc b.length b_f (encI b)))], [], 0, [], 26, 0⟩
 refine zd (zb rfl (za rfl rfl trivial (zc (ze (zd (zd (zb rfl (za rfl rfl trivial (za rfl rfl trivial (za rfl rfl trivial (za rfl rfl trivial ?_)))))))))))
 refine zl rfl rfl rfl rfl rfl trivial (zc (ze ?_))
 refine zy rfl (fun h1 => ?_) (fun h1 => ?_)
 ·have g1 : ¬ ((a.length : Int) = b.length) := zcs h1
  refine zd (zb rfl (za rfl rfl trivial (zc (ze (zo (zI ?_))))))
  have e2 : zeF a b = false := by
   unfold zeF
   try dsimp only
   rewrite [if_neg g1]
   all_goals rfl
  rw [e2]
  exact zp rfl ⟨trivial, trivial⟩ (rfl) rfl
 ·have g1 : (a.length : Int) = b.length := zcu h1
  refine zA (ze (zd (zd (zb rfl (za rfl rfl trivial (zc (ze ?_)))))))
  refine z6 (fun w_ : Unit => match w_ with | () => (⟨[], [], 0, [], 26, 0⟩ : St)) (fun w_ => zbF a b (a.length - 0) 0 = .inr w_) ?_ ?_
  ·refine zC ?_
   refine z9 (fun k0 : Nat => (⟨[(0, .pv (.slc a.length a_f (encI a))), (1, .pv (.slc b.length b_f (encI b))), (5, I k0)], [], 0, [], 26, 0⟩ : St)) (fun k0 : Nat => zbF a b (a.length - k0) k0 = zbF a b (a.length - 0) 0 ∧ k0 ≤ a.length) (fun k0 : Nat => a.length - k0) 0 (⟨rfl, (by first | omega | (simp; omega))⟩) ?_ (fun k0 hh_ => ?_)
   ·exact (zH.ren [] (by decide +kernel) (by decide +kernel) rfl ⟨⟨rfl, rfl⟩, ⟨rfl, rfl⟩, ⟨rfl, rfl⟩, trivial⟩ trivial (by decide))
   obtain ⟨hI0, hb0⟩ := hh_
   show zO Tryz.prog _ _ (⟨[(0, .pv (.slc a.length a_f (encI a))), (1, .pv (.slc b.length b_f (encI b))), (5, I k0)], [], 0, [], 26, 0⟩ : St)
   refine zd (zd (zb rfl (za rfl rfl trivial (za rfl rfl trivial (za rfl rfl trivial (zl rfl rfl rfl rfl rfl trivial (zc (ze ?_))))))))
   refine zy rfl (fun h5 => ?_) (fun h5 => ?_)
   ·have g5 : (k0 : Int) < a.length := of_decide_eq_true h5
    have hm0 : a.length - k0 = (a.length - (k0 + 1)) + 1 := by omega
    refine zA (ze (zd (zC (zd ?_))))
    refine zaW rfl (by decide +kernel) rfl ?_
    refine za rfl rfl trivial (za rfl rfl trivial ?_)
    have jk6 : k0 < a.length := by first | assumption | omega | (simp only [List.length_set, List.length_append]; omega) | (simp only [IntKind.wrap_i64] at *; omega) | (simp; omega) | simp_all
    refine zS (k := k0) rfl rfl rfl rfl jk6 (zjf jk6) rfl (zaf rfl rfl rfl (zfJ (zaz jk6)) rfl (za rfl rfl trivial (za rfl rfl trivial ?_)))
    have jk7 : k0 < b.length := by first | assumption | omega | (simp only [List.length_set, List.length_append]; omega) | (simp only [IntKind.wrap_i64] at *; omega) | (simp; omega) | simp_all
    refine zS (k := k0) rfl rfl rfl rfl jk7 (zjf jk7) rfl (zaf rfl rfl rfl (zfJ (zaz jk7)) rfl (zl rfl rfl rfl rfl rfl trivial (zc (ze ?_))))
    refine zy rfl (fun h8 => ?_) (fun h8 => ?_)
    ·have g8 : ¬ ((a.getD k0 default : Int) = (b.getD k0 default)) := zcs h8
     refine zd (zb rfl (za rfl rfl trivial (zc (ze (zo (zad (zI (zbH (zad (zcJ (zI ?_)))))))))))
     have e9 : zbF a b (a.length - 0) 0 = .inl false := by
      rewrite [← hI0, hm0]
      rewrite [zbF]
      try dsimp only
      rewrite [if_neg g8]
      all_goals rfl
     have e10 : zeF a b = false := by
      unfold zeF
      try dsimp only
      rewrite [if_pos g1, e9]
      try dsimp only
      all_goals rfl
     rw [e10]
     exact zp rfl ⟨trivial, trivial⟩ (rfl) rfl
    ·have g8 : (a.getD k0 default : Int) = (b.getD k0 default) := zcu h8
     refine zA (zar (ze (zb rfl (za rfl rfl trivial (zl rfl rfl rfl rfl rfl trivial (za rfl rfl trivial (zc ?_)))))))
     have e12 : zbF a b (a.length - k0) k0 = zbF a b (a.length - (k0 + 1)) (k0 + 1) := by
      rewrite [hm0]
      rewrite [zbF]
      try dsimp only
      rewrite [if_pos g8]
      all_goals rfl
     exact z5 (k0 + 1) ⟨e12.symm.trans hI0, (by omega)⟩ (by show a.length - (k0 + 1) < a.length - k0; omega) (zH.ren [] (by decide +kernel) (by decide +kernel) rfl ⟨⟨rfl, rfl⟩, ⟨rfl, rfl⟩, ⟨congrArg (fun n => some (I n)) (zcv (k := k0) (by first | omega | (simp; omega))), rfl⟩, trivial⟩ trivial (by decide))
   ·have g5 : ¬ ((k0 : Int) < a.length) := of_decide_eq_false h5
    have hm0 : a.length - k0 = 0 := by omega
    refine zV (zac (zal (zak rfl ?_)))
    have e13 : zbF a b (a.length - 0) 0 = .inr () := by
     rewrite [← hI0, hm0]
     rewrite [zbF]
     try dsimp only
     all_goals rfl
    exact zZ () e13 (zH.ren [] (by decide +kernel) (by decide +kernel) rfl trivial trivial (by decide))
  ·rintro ⟨⟩ (hJ3 : zbF a b (a.length - 0) 0 = .inr ())
   show seqK _ _ _ .normal (⟨[], [], 0, [], 26, 0⟩ : St)
   refine ze (zd (zb rfl (za rfl rfl trivial (zc (ze (zo ?_))))))
   have e14 : zeF a b = true := by
    unfold zeF
    try dsimp only
    rewrite [if_pos g1, hJ3]
    try dsimp only
    all_goals rfl
   rw [e14]
   exact zp rfl ⟨trivial, trivial⟩ (rfl) rfl

def zbE (a : zG) (b : zG) : Nat → Nat → Sum Bool Unit
  | 0, k0 => .inr ()
  | n_ + 1, k0 => if ((((a.Effects.getD k0 default).Kind) == ((b.Effects.getD k0 default).Kind)) && ((((a.Effects.getD k0 default).Amount) == ((b.Effects.getD k0 default).Amount)) && ((((a.Effects.getD k0 default).Aura) == ((b.Effects.getD k0 default).Aura)) && true))) = true then zbE a b n_ (k0 + 1) else .inl false
def zb3 (a : zG) (b : zG) : Bool :=
  if (a.Id : Int) = b.Id then (if (a.Cast : Int) = b.Cast then (if (a.Cool : Int) = b.Cool then (if (a.Charges : Int) = b.Charges then (if (a.Range : Int) = b.Range then (if (a.Cost : Int) = b.Cost then (if a.Sight = b.Sight then (if (a.Effects.length : Int) = b.Effects.length then (match zbE a b (a.Effects.length - 0) 0 with
    | .inl r_ => r_
    | .inr () => true) else false) else false) else false) else false) else false) else false) else false) else false
theorem zn1 (a : zG) (b : zG) : Ok Tryz.prog 36 [zag a, zag b] [] (B (zb3 a b)) [] [] := by
 refine Ok.len fun hlen => ?_
 have hl_a_Effects : a.Effects.length ≤ maxLen := hlen _ (by simp [zT, lens, zU])
 have hl_b_Effects : b.Effects.length ≤ maxLen := hlen _ (by simp [zT, lens, zU])
 unfold maxLen at hl_a_Effects hl_b_Effects
 refine zz Tryz.func36 rfl ?_
 show zO Tryz.prog _ _ ⟨[(0, zag a), (1, zag b)], [], 0, [], 80, 0⟩
 refine zd (zb rfl (zB (o := .box [_, _, _, _, _, _, _, _]) (nx' := 1) rfl rfl rfl trivial (zB (o := .box [_, _, _, _, _, _, _, _]) (nx' := 2) rfl rfl rfl trivial (za rfl rfl trivial (zc (ze (zd (zd (zb rfl (za rfl rfl (by decide) (za rfl rfl trivial ?_)))))))))))
 refine za rfl rfl (by decide) (za rfl rfl trivial (zl rfl rfl rfl rfl rfl trivial (za rfl rfl trivial ?_)))
 refine zK rfl (fun h2 => ?_) (fun h2 => ?_)
 ·have g2 : ¬ ((a.Id : Int) = b.Id) := zcs h2
  refine zh rfl h2 rfl (zh rfl h2 rfl (zh rfl h2 rfl (zh rfl h2 rfl (zh rfl h2 rfl (zr rfl h2 rfl rfl (za rfl rfl trivial (zf rfl rfl (zf rfl rfl (zf rfl rfl (zf rfl rfl (zf rfl rfl ?_)))))))))))
  refine za rfl rfl trivial (za rfl rfl trivial (zf rfl rfl (zf rfl rfl (zf rfl rfl (zf rfl rfl (zf rfl rfl (za rfl rfl trivial (za rfl rfl trivial (zf rfl rfl (zf rfl rfl (zf rfl rfl ?_)))))))))))
  refine zf rfl rfl (zf rfl rfl (za rfl rfl trivial (za rfl rfl trivial (zf rfl rfl (zf rfl rfl (zf rfl rfl (zf rfl rfl (zf rfl rfl (za rfl rfl trivial (za rfl rfl trivial (zf rfl rfl ?_)))))))))))
  refine zf rfl rfl (zf rfl rfl (zf rfl rfl (zf rfl rfl (za rfl rfl trivial (za rfl rfl trivial (zf rfl rfl (zf rfl rfl (zf rfl rfl (zf rfl rfl (zf rfl rfl (zf rfl rfl ?_)))))))))))
  refine zf rfl rfl (za rfl rfl trivial (zc (ze (zP rfl (zd (zb rfl (za rfl rfl trivial (zc (ze (zo (zI ?_)))))))))))
  have e3 : zb3 a b = false := by
   unfold zb3
   try dsimp only
   rewrite [if_neg g2]
   all_goals rfl
  rw [e3]
  exact zp rfl ⟨trivial, trivial⟩ (rfl) rfl
 ·have g2 : (a.Id : Int) = b.Id := zcu h2
  refine zg rfl h2 (za rfl rfl (by decide) (zg rfl h2 (za rfl rfl trivial (zg rfl h2 (za rfl rfl (by decide) (zg rfl h2 (za rfl rfl trivial (zg rfl h2 (zl rfl rfl rfl rfl rfl trivial (zt rfl h2 rfl rfl (za rfl rfl trivial ?_)))))))))))
  refine zK rfl (fun h5 => ?_) (fun h5 => ?_)
  ·have g5 : ¬ ((a.Cast : Int) = b.Cast) := zcs h5
   refine zh rfl h5 rfl (zh rfl h5 rfl (zh rfl h5 rfl (zh rfl h5 rfl (zh rfl h5 rfl (zr rfl h5 rfl rfl (za rfl rfl trivial (zf rfl rfl (zf rfl rfl (zf rfl rfl (zf rfl rfl (zf rfl rfl ?_)))))))))))
   refine za rfl rfl trivial (za rfl rfl trivial (zf rfl rfl (zf rfl rfl (zf rfl rfl (zf rfl rfl (zf rfl rfl (za rfl rfl trivial (za rfl rfl trivial (zf rfl rfl (zf rfl rfl (zf rfl rfl ?_)))))))))))
   refine zf rfl rfl (zf rfl rfl (za rfl rfl trivial (za rfl rfl trivial (zf rfl rfl (zf rfl rfl (zf rfl rfl (zf rfl rfl (zf rfl rfl (za rfl rfl trivial (za rfl rfl trivial (zf rfl rfl ?_)))))))))))
   refine zf rfl rfl (zf rfl rfl (zf rfl rfl (zf rfl rfl (zf rfl rfl (zf rfl rfl (za rfl rfl trivial (zc (ze (zP rfl (zd (zb rfl ?_)))))))))))
   refine za rfl rfl trivial (zc (ze (zo (zI ?_))))
   have e6 : zb3 a b = false := by
    unfold zb3
    try dsimp only
    rewrite [if_pos g2, if_neg g5]
    all_goals rfl
   rw [e6]
   exact zp rfl ⟨trivial, trivial⟩ (rfl) rfl
  ·have g5 : (a.Cast : Int) = b.Cast := zcu h5
   refine zg rfl h5 (za rfl rfl (by decide) (zg rfl h5 (za rfl rfl trivial (zg rfl h5 (za rfl rfl (by decide) (zg rfl h5 (za rfl rfl trivial (zg rfl h5 (zl rfl rfl rfl rfl rfl trivial (zt rfl h5 rfl rfl (za rfl rfl trivial ?_)))))))))))
   refine zK rfl (fun h8 => ?_) (fun h8 => ?_)
   ·have g8 : ¬ ((a.Cool : Int) = b.Cool) := zcs h8
    refine zh rfl h8 rfl (zh rfl h8 rfl (zh rfl h8 rfl (zh rfl h8 rfl (zh rfl h8 rfl (zr rfl h8 rfl rfl (za rfl rfl trivial (zf rfl rfl (zf rfl rfl (zf rfl rfl (zf rfl rfl (zf rfl rfl ?_)))))))))))
    refine za rfl rfl trivial (za rfl rfl trivial (zf rfl rfl (zf rfl rfl (zf rfl rfl (zf rfl rfl (zf rfl rfl (za rfl rfl trivial (za rfl rfl trivial (zf rfl rfl (zf rfl rfl (zf rfl rfl ?_)))))))))))
    refine zf rfl rfl (zf rfl rfl (za rfl rfl trivial (za rfl rfl trivial (zf rfl rfl (zf rfl rfl (zf rfl rfl (zf rfl rfl (zf rfl rfl (zf rfl rfl (zf rfl rfl (za rfl rfl trivial ?_)))))))))))
    refine zc (ze (zP rfl (zd (zb rfl (za rfl rfl trivial (zc (ze (zo (zI ?_)))))))))
    have e9 : zb3 a b = false := by
     unfold zb3
     try dsimp only
     rewrite [if_pos g2, if_pos g5, if_neg g8]
     all_goals rfl
    rw [e9]
    exact zp rfl ⟨trivial, trivial⟩ (rfl) rfl
   ·have g8 : (a.Cool : Int) = b.Cool := zcu h8
    refine zg rfl h8 (za rfl rfl (by decide) (zg rfl h8 (za rfl rfl trivial (zg rfl h8 (za rfl rfl (by decide) (zg rfl h8 (za rfl rfl trivial (zg rfl h8 (zl rfl rfl rfl rfl rfl trivial (zt rfl h8 rfl rfl (za rfl rfl trivial ?_)))))))))))
    refine zK rfl (fun h11 => ?_) (fun h11 => ?_)
    ·have g11 : ¬ ((a.Charges : Int) = b.Charges) := zcs h11
     refine zh rfl h11 rfl (zh rfl h11 rfl (zh rfl h11 rfl (zh rfl h11 rfl (zh rfl h11 rfl (zr rfl h11 rfl rfl (za rfl rfl trivial (zf rfl rfl (zf rfl rfl (zf rfl rfl (zf rfl rfl (zf rfl rfl ?_)))))))))))
     refine za rfl rfl trivial (za rfl rfl trivial (zf rfl rfl (zf rfl rfl (zf rfl rfl (zf rfl rfl (zf rfl rfl (za rfl rfl trivial (za rfl rfl trivial (zf rfl rfl (zf rfl rfl (zf rfl rfl ?_)))))))))))
     refine zf rfl rfl (zf rfl rfl (zf rfl rfl (zf rfl rfl (za rfl rfl trivial (zc (ze (zP rfl (zd (zb rfl (za rfl rfl trivial (zc ?_)))))))))))
     refine ze (zo (zI ?_))
     have e12 : zb3 a b = false := by
      unfold zb3
      try dsimp only
      rewrite [if_pos g2, if_pos g5, if_pos g8, if_neg g11]
      all_goals rfl
     rw [e12]
     exact zp rfl ⟨trivial, trivial⟩ (rfl) rfl
    ·have g11 : (a.Charges : Int) = b.Charges := zcu h11
     refine zg rfl h11 (za rfl rfl (by decide) (zg rfl h11 (za rfl rfl trivial (zg rfl h11 (za rfl rfl (by decide) (zg rfl h11 (za rfl rfl trivial (zg rfl h11 (zl rfl rfl rfl rfl rfl trivial (zt rfl h11 rfl rfl (za rfl rfl trivial ?_)))))))))))
     refine zK rfl (fun h14 => ?_) (fun h14 => ?_)
     ·have g14 : ¬ ((a.Range : Int) = b.Range) := zcs h14
      refine zh rfl h14 rfl (zh rfl h14 rfl (zh rfl h14 rfl (zh rfl h14 rfl (zh rfl h14 rfl (zr rfl h14 rfl rfl (za rfl rfl trivial (zf rfl rfl (zf rfl rfl (zf rfl rfl (zf rfl rfl (zf rfl rfl ?_)))))))))))
      refine za rfl rfl trivial (za rfl rfl trivial (zf rfl rfl (zf rfl rfl (zf rfl rfl (zf rfl rfl (zf rfl rfl (zf rfl rfl (zf rfl rfl (za rfl rfl trivial (zc (ze ?_)))))))))))
      refine zP rfl (zd (zb rfl (za rfl rfl trivial (zc (ze (zo (zI ?_)))))))
      have e15 : zb3 a b = false := by
       unfold zb3
       try dsimp only
       rewrite [if_pos g2, if_pos g5, if_pos g8, if_pos g11, if_neg g14]
       all_goals rfl
      rw [e15]
      exact zp rfl ⟨trivial, trivial⟩ (rfl) rfl
     ·have g14 : (a.Range : Int) = b.Range := zcu h14
      refine zg rfl h14 (za rfl rfl (by decide) (zg rfl h14 (za rfl rfl trivial (zg rfl h14 (za rfl rfl (by decide) (zg rfl h14 (za rfl rfl trivial (zg rfl h14 (zl rfl rfl rfl rfl rfl trivial (zt rfl h14 rfl rfl (za rfl rfl trivial ?_)))))))))))
      refine zK rfl (fun h17 => ?_) (fun h17 => ?_)
      ·have g17 : ¬ ((a.Cost : Int) = b.Cost) := zcs h17
       refine zh rfl h17 rfl (zh rfl h17 rfl (zh rfl h17 rfl (zh rfl h17 rfl (zh rfl h17 rfl (zr rfl h17 rfl rfl (za rfl rfl trivial (zf rfl rfl (zf rfl rfl (zf rfl rfl (zf rfl rfl (zf rfl rfl ?_)))))))))))
       refine zf rfl rfl (zf rfl rfl (za rfl rfl trivial (zc (ze (zP rfl (zd (zb rfl (za rfl rfl trivial (zc (ze (zo ?_)))))))))))
       refine zI ?_
       have e18 : zb3 a b = false := by
        unfold zb3
        try dsimp only
        rewrite [if_pos g2, if_pos g5, if_pos g8, if_pos g11, if_pos g14, if_neg g17]
        all_goals rfl
       rw [e18]
       exact zp rfl ⟨trivial, trivial⟩ (rfl) rfl
      ·have g17 : (a.Cost : Int) = b.Cost := zcu h17
       refine zg rfl h17 (za rfl rfl (by decide) (zg rfl h17 (za rfl rfl trivial (zg rfl h17 (za rfl rfl (by decide) (zg rfl h17 (za rfl rfl trivial (zg rfl h17 (zl rfl rfl rfl rfl rfl trivial (zt rfl h17 rfl rfl (za rfl rfl trivial ?_)))))))))))
       refine zK rfl (fun h20 => ?_) (fun h20 => ?_)
       ·have g20 : ¬ (a.Sight = b.Sight) := zcL (zcl h20)
        refine zh rfl h20 rfl (zh rfl h20 rfl (zh rfl h20 rfl (zh rfl h20 rfl (zh rfl h20 rfl (zh rfl h20 rfl (zh rfl h20 rfl (zr rfl h20 rfl rfl (zc (ze (zP rfl (zd ?_)))))))))))
        refine zb rfl (za rfl rfl trivial (zc (ze (zo (zI ?_)))))
        have e21 : zb3 a b = false := by
         unfold zb3
         try dsimp only
         rewrite [if_pos g2, if_pos g5, if_pos g8, if_pos g11, if_pos g14, if_pos g17, if_neg g20]
         all_goals rfl
        rw [e21]
        exact zp rfl ⟨trivial, trivial⟩ (rfl) rfl
       ·have g20 : a.Sight = b.Sight := zcF (zcm h20)
        refine zg rfl h20 (za rfl rfl (by decide) (zg rfl h20 (za rfl rfl trivial (zg rfl h20 (za rfl rfl trivial (zg rfl h20 (za rfl rfl (by decide) (zg rfl h20 (za rfl rfl trivial (zg rfl h20 (za rfl rfl trivial ?_)))))))))))
        refine zg rfl h20 (zl rfl rfl rfl rfl rfl trivial (zt rfl h20 rfl rfl (zc (ze ?_))))
        refine zy rfl (fun h23 => ?_) (fun h23 => ?_)
        ·have g23 : ¬ ((a.Effects.length : Int) = b.Effects.length) := zcs h23
         refine zd (zb rfl (za rfl rfl trivial (zc (ze (zo (zI ?_))))))
         have e24 : zb3 a b = false := by
          unfold zb3
          try dsimp only
          rewrite [if_pos g2, if_pos g5, if_pos g8, if_pos g11, if_pos g14, if_pos g17, if_pos g20, if_neg g23]
          all_goals rfl
         rw [e24]
         exact zp rfl ⟨trivial, trivial⟩ (rfl) rfl
        ·have g23 : (a.Effects.length : Int) = b.Effects.length := zcu h23
         refine zA (ze (zd (zd (zb rfl (za rfl rfl trivial (zc (ze ?_)))))))
         refine z6 (fun w_ : Unit => match w_ with | () => (⟨[], [], 0, [], 80, 0⟩ : St)) (fun w_ => zbE a b (a.Effects.length - 0) 0 = .inr w_) ?_ ?_
         ·refine zC ?_
          refine z9 (fun k0 : Nat => (⟨[(2, .ptr 0 0), (3, .ptr 1 0), (5, I k0)], [(0, .box [I a.Id, I a.Cast, I a.Cool, I a.Charges, I a.Range, I a.Cost, B a.Sight, .pv (.slc a.Effects.length false (a.Effects.flatMap zD))]), (1, .box [I b.Id, I b.Cast, I b.Cool, I b.Charges, I b.Range, I b.Cost, B b.Sight, .pv (.slc b.Effects.length false (b.Effects.flatMap zD))])], 2, [], 80, 0⟩ : St)) (fun k0 : Nat => zbE a b (a.Effects.length - k0) k0 = zbE a b (a.Effects.length - 0) 0 ∧ k0 ≤ a.Effects.length) (fun k0 : Nat => a.Effects.length - k0) 0 (⟨rfl, (by first | omega | (simp; omega))⟩) ?_ (fun k0 hh_ => ?_)
          ·exact (zH.ren [] (by decide +kernel) (by decide +kernel) rfl ⟨⟨rfl, rfl⟩, ⟨rfl, rfl⟩, ⟨rfl, rfl⟩, trivial⟩ ⟨⟨rfl, rfl, rfl⟩, ⟨rfl, rfl, rfl⟩, trivial⟩ (by decide))
          obtain ⟨hI0, hb0⟩ := hh_
          show zO Tryz.prog _ _ (⟨[(2, .ptr 0 0), (3, .ptr 1 0), (5, I k0)], [(0, .box [I a.Id, I a.Cast, I a.Cool, I a.Charges, I a.Range, I a.Cost, B a.Sight, .pv (.slc a.Effects.length false (a.Effects.flatMap zD))]), (1, .box [I b.Id, I b.Cast, I b.Cool, I b.Charges, I b.Range, I b.Cost, B b.Sight, .pv (.slc b.Effects.length false (b.Effects.flatMap zD))])], 2, [], 80, 0⟩ : St)
          refine zd (zd (zb rfl (za rfl rfl trivial (za rfl rfl (by decide) (za rfl rfl trivial (za rfl rfl trivial (zl rfl rfl rfl rfl rfl trivial (zc (ze ?_)))))))))
          refine zy rfl (fun h27 => ?_) (fun h27 => ?_)
          ·have g27 : (k0 : Int) < a.Effects.length := of_decide_eq_true h27
           have hm0 : a.Effects.length - k0 = (a.Effects.length - (k0 + 1)) + 1 := by omega
           refine zA (ze (zd (zC (zd ?_))))
           refine zaW rfl (by decide +kernel) rfl ?_
           refine za rfl rfl (by decide) (za rfl rfl trivial (za rfl rfl trivial ?_))
           have jk28 : k0 < a.Effects.length := by first | assumption | omega | (simp only [List.length_set, List.length_append]; omega) | (simp only [IntKind.wrap_i64] at *; omega) | (simp; omega) | simp_all
           refine zS (k := k0) rfl rfl rfl rfl jk28 (zaj (s := 3) (enc := zD) (fun _ => rfl) (by decide) jk28) rfl (zJ rfl rfl rfl (zap (s := 3) (enc := zD) (fun _ => rfl) jk28) (z2 (s := 3) (enc := zD) (fun _ => rfl) (zaz jk28)) rfl (za rfl rfl (by decide) (za rfl rfl trivial (za rfl rfl trivial ?_))))
           have jk29 : k0 < b.Effects.length := by first | assumption | omega | (simp only [List.length_set, List.length_append]; omega) | (simp only [IntKind.wrap_i64] at *; omega) | (simp; omega) | simp_all
           refine zS (k := k0) rfl rfl rfl rfl jk29 (zaj (s := 3) (enc := zD) (fun _ => rfl) (by decide) jk29) rfl (zJ rfl rfl rfl (zap (s := 3) (enc := zD) (fun _ => rfl) jk29) (z2 (s := 3) (enc := zD) (fun _ => rfl) (zaz jk29)) rfl ?_)
           refine zcw rfl rfl rfl (by kernel_rfl) rfl rfl rfl rfl rfl ?_
           refine zc (ze ?_)
           refine zy rfl (fun h30 => ?_) (fun h30 => ?_)
           ·have g30 : ¬ (((((a.Effects.getD k0 default).Kind) == ((b.Effects.getD k0 default).Kind)) && ((((a.Effects.getD k0 default).Amount) == ((b.Effects.getD k0 default).Amount)) && ((((a.Effects.getD k0 default).Aura) == ((b.Effects.getD k0 default).Aura)) && true))) = true) := zaw (zcl h30)
            refine zd (zb rfl (za rfl rfl trivial (zc (ze (zo (zad (zI (zbH (zad (zcJ (zI ?_)))))))))))
            have e31 : zbE a b (a.Effects.length - 0) 0 = .inl false := by
             rewrite [← hI0, hm0]
             rewrite [zbE]
             try dsimp only
             rewrite [if_neg g30]
             all_goals rfl
            have e32 : zb3 a b = false := by
             unfold zb3
             try dsimp only
             rewrite [if_pos g2, if_pos g5, if_pos g8, if_pos g11, if_pos g14, if_pos g17, if_pos g20, if_pos g23, e31]
             try dsimp only
             all_goals rfl
            rw [e32]
            exact zp rfl ⟨trivial, trivial⟩ (rfl) rfl
           ·have g30 : ((((a.Effects.getD k0 default).Kind) == ((b.Effects.getD k0 default).Kind)) && ((((a.Effects.getD k0 default).Amount) == ((b.Effects.getD k0 default).Amount)) && ((((a.Effects.getD k0 default).Aura) == ((b.Effects.getD k0 default).Aura)) && true))) = true := (zcm h30)
            refine zA (zar (ze (zb rfl (za rfl rfl trivial (zl rfl rfl rfl rfl rfl trivial (za rfl rfl trivial (zc ?_)))))))
            have e34 : zbE a b (a.Effects.length - k0) k0 = zbE a b (a.Effects.length - (k0 + 1)) (k0 + 1) := by
             rewrite [hm0]
             rewrite [zbE]
             try dsimp only
             rewrite [if_pos g30]
             all_goals rfl
            exact z5 (k0 + 1) ⟨e34.symm.trans hI0, (by omega)⟩ (by show a.Effects.length - (k0 + 1) < a.Effects.length - k0; omega) (zH.ren [] (by decide +kernel) (by decide +kernel) rfl ⟨⟨rfl, rfl⟩, ⟨rfl, rfl⟩, ⟨congrArg (fun n => some (I n)) (zcv (k := k0) (by first | omega | (simp; omega))), rfl⟩, trivial⟩ ⟨⟨rfl, rfl, rfl⟩, ⟨rfl, rfl, rfl⟩, trivial⟩ (by decide))
          ·have g27 : ¬ ((k0 : Int) < a.Effects.length) := of_decide_eq_false h27
           have hm0 : a.Effects.length - k0 = 0 := by omega
           refine zV (zac (zal (zak rfl ?_)))
           have e35 : zbE a b (a.Effects.length - 0) 0 = .inr () := by
            rewrite [← hI0, hm0]
            rewrite [zbE]
            try dsimp only
            all_goals rfl
           exact zZ () e35 (zH.ren [] (by decide +kernel) (by decide +kernel) rfl trivial trivial (by decide))
         ·rintro ⟨⟩ (hJ25 : zbE a b (a.Effects.length - 0) 0 = .inr ())
          show seqK _ _ _ .normal (⟨[], [], 0, [], 80, 0⟩ : St)
          refine ze (zd (zb rfl (za rfl rfl trivial (zc (ze (zo ?_))))))
          have e36 : zb3 a b = true := by
           unfold zb3
           try dsimp only
           rewrite [if_pos g2, if_pos g5, if_pos g8, if_pos g11, if_pos g14, if_pos g17, if_pos g20, if_pos g23, hJ25]
           try dsimp only
           all_goals rfl
          rw [e36]
          exact zp rfl ⟨trivial, trivial⟩ (rfl) rfl

def zbG (a : GFoe) (b : GFoe) : Nat → Nat → Sum Bool Unit
  | 0, k0 => .inr ()
  | n_ + 1, k0 => if ((((a.Script.getD k0 default).Phase) == ((b.Script.getD k0 default).Phase)) && ((((a.Script.getD k0 default).When) == ((b.Script.getD k0 default).When)) && ((((a.Script.getD k0 default).Arg) == ((b.Script.getD k0 default).Arg)) && ((((a.Script.getD k0 default).Do) == ((b.Script.getD k0 default).Do)) && ((((a.Script.getD k0 default).Value) == ((b.Script.getD k0 default).Value)) && true))))) = true then zbG a b n_ (k0 + 1) else .inl false
def zbK (a : GFoe) (b : GFoe) : Nat → Nat → Sum Bool Unit
  | 0, k1 => .inr ()
  | n_ + 1, k1 => if ((((a.Hoard.getD k1 default).Item) == ((b.Hoard.getD k1 default).Item)) && ((((a.Hoard.getD k1 default).Weight) == ((b.Hoard.getD k1 default).Weight)) && true)) = true then zbK a b n_ (k1 + 1) else .inl false
def zbQ (a : GFoe) (b : GFoe) : Bool :=
  if (a.Id : Int) = b.Id then (if (a.Health : Int) = b.Health then (if (a.Hit : Int) = b.Hit then (if (a.Every : Int) = b.Every then (if (a.Reach : Int) = b.Reach then (if (a.Drops : Int) = b.Drops then (if (a.Script.length : Int) = b.Script.length then (if (a.Hoard.length : Int) = b.Hoard.length then (match zbG a b (a.Script.length - 0) 0 with
    | .inl r_ => r_
    | .inr () => (match zbK a b (a.Hoard.length - 0) 0 with
    | .inl r_ => r_
    | .inr () => true)) else false) else false) else false) else false) else false) else false) else false) else false
theorem zn2 (a : GFoe) (b : GFoe) : Ok Tryz.prog 37 [zdO a, zdO b] [] (B (zbQ a b)) [] [] := by
 refine Ok.len fun hlen => ?_
 have hl_a_Script : a.Script.length ≤ maxLen := hlen _ (by simp [zT, lens, zU])
 have hl_a_Hoard : a.Hoard.length ≤ maxLen := hlen _ (by simp [zT, lens, zU])
 have hl_b_Script : b.Script.length ≤ maxLen := hlen _ (by simp [zT, lens, zU])
 have hl_b_Hoard : b.Hoard.length ≤ maxLen := hlen _ (by simp [zT, lens, zU])
 unfold maxLen at hl_a_Script hl_a_Hoard hl_b_Script hl_b_Hoard
 refine zz Tryz.func37 rfl ?_
 show zO Tryz.prog _ _ ⟨[(0, zdO a), (1, zdO b)], [], 0, [], 101, 0⟩
 refine zd (zb rfl (zB (o := .box [_, _, _, _, _, _, _, _]) (nx' := 1) rfl rfl rfl trivial (zB (o := .box [_, _, _, _, _, _, _, _]) (nx' := 2) rfl rfl rfl trivial (za rfl rfl trivial (zc (ze (zd (zd (zb rfl (za rfl rfl (by decide) (za rfl rfl trivial ?_)))))))))))
 refine za rfl rfl (by decide) (za rfl rfl trivial (zl rfl rfl rfl rfl rfl trivial (za rfl rfl trivial ?_)))
 refine zK rfl (fun h2 => ?_) (fun h2 => ?_)
 ·have g2 : ¬ ((a.Id : Int) = b.Id) := zcs h2
  refine zh rfl h2 rfl (zh rfl h2 rfl (zh rfl h2 rfl (zh rfl h2 rfl (zh rfl h2 rfl (zr rfl h2 rfl rfl (za rfl rfl trivial (zf rfl rfl (zf rfl rfl (zf rfl rfl (zf rfl rfl (zf rfl rfl ?_)))))))))))
  refine za rfl rfl trivial (za rfl rfl trivial (zf rfl rfl (zf rfl rfl (zf rfl rfl (zf rfl rfl (zf rfl rfl (za rfl rfl trivial (za rfl rfl trivial (zf rfl rfl (zf rfl rfl (zf rfl rfl ?_)))))))))))
  refine zf rfl rfl (zf rfl rfl (za rfl rfl trivial (za rfl rfl trivial (zf rfl rfl (zf rfl rfl (zf rfl rfl (zf rfl rfl (zf rfl rfl (za rfl rfl trivial (za rfl rfl trivial (zf rfl rfl ?_)))))))))))
  refine zf rfl rfl (zf rfl rfl (zf rfl rfl (zf rfl rfl (zf rfl rfl (zf rfl rfl (za rfl rfl trivial (za rfl rfl trivial (zf rfl rfl (zf rfl rfl (zf rfl rfl (zf rfl rfl ?_)))))))))))
  refine zf rfl rfl (zf rfl rfl (zf rfl rfl (za rfl rfl trivial (zc (ze (zP rfl (zd (zb rfl (za rfl rfl trivial (zc (ze ?_)))))))))))
  refine zo (zI ?_)
  have e3 : zbQ a b = false := by
   unfold zbQ
   try dsimp only
   rewrite [if_neg g2]
   all_goals rfl
  rw [e3]
  exact zp rfl ⟨trivial, trivial⟩ (rfl) rfl
 ·have g2 : (a.Id : Int) = b.Id := zcu h2
  refine zg rfl h2 (za rfl rfl (by decide) (zg rfl h2 (za rfl rfl trivial (zg rfl h2 (za rfl rfl (by decide) (zg rfl h2 (za rfl rfl trivial (zg rfl h2 (zl rfl rfl rfl rfl rfl trivial (zt rfl h2 rfl rfl (za rfl rfl trivial ?_)))))))))))
  refine zK rfl (fun h5 => ?_) (fun h5 => ?_)
  ·have g5 : ¬ ((a.Health : Int) = b.Health) := zcs h5
   refine zh rfl h5 rfl (zh rfl h5 rfl (zh rfl h5 rfl (zh rfl h5 rfl (zh rfl h5 rfl (zr rfl h5 rfl rfl (za rfl rfl trivial (zf rfl rfl (zf rfl rfl (zf rfl rfl (zf rfl rfl (zf rfl rfl ?_)))))))))))
   refine za rfl rfl trivial (za rfl rfl trivial (zf rfl rfl (zf rfl rfl (zf rfl rfl (zf rfl rfl (zf rfl rfl (za rfl rfl trivial (za rfl rfl trivial (zf rfl rfl (zf rfl rfl (zf rfl rfl ?_)))))))))))
   refine zf rfl rfl (zf rfl rfl (za rfl rfl trivial (za rfl rfl trivial (zf rfl rfl (zf rfl rfl (zf rfl rfl (zf rfl rfl (zf rfl rfl (zf rfl rfl (zf rfl rfl (za rfl rfl trivial ?_)))))))))))
   refine za rfl rfl trivial (zf rfl rfl (zf rfl rfl (zf rfl rfl (zf rfl rfl (zf rfl rfl (zf rfl rfl (zf rfl rfl (za rfl rfl trivial (zc (ze (zP rfl ?_)))))))))))
   refine zd (zb rfl (za rfl rfl trivial (zc (ze (zo (zI ?_))))))
   have e6 : zbQ a b = false := by
    unfold zbQ
    try dsimp only
    rewrite [if_pos g2, if_neg g5]
    all_goals rfl
   rw [e6]
   exact zp rfl ⟨trivial, trivial⟩ (rfl) rfl
  ·have g5 : (a.Health : Int) = b.Health := zcu h5
   refine zg rfl h5 (za rfl rfl (by decide) (zg rfl h5 (za rfl rfl trivial (zg rfl h5 (za rfl rfl (by decide) (zg rfl h5 (za rfl rfl trivial (zg rfl h5 (zl rfl rfl rfl rfl rfl trivial (zt rfl h5 rfl rfl (za rfl rfl trivial ?_)))))))))))
   refine zK rfl (fun h8 => ?_) (fun h8 => ?_)
   ·have g8 : ¬ ((a.Hit : Int) = b.Hit) := zcs h8
    refine zh rfl h8 rfl (zh rfl h8 rfl (zh rfl h8 rfl (zh rfl h8 rfl (zh rfl h8 rfl (zr rfl h8 rfl rfl (za rfl rfl trivial (zf rfl rfl (zf rfl rfl (zf rfl rfl (zf rfl rfl (zf rfl rfl ?_)))))))))))
    refine za rfl rfl trivial (za rfl rfl trivial (zf rfl rfl (zf rfl rfl (zf rfl rfl (zf rfl rfl (zf rfl rfl (za rfl rfl trivial (za rfl rfl trivial (zf rfl rfl (zf rfl rfl (zf rfl rfl ?_)))))))))))
    refine zf rfl rfl (zf rfl rfl (zf rfl rfl (zf rfl rfl (za rfl rfl trivial (za rfl rfl trivial (zf rfl rfl (zf rfl rfl (zf rfl rfl (zf rfl rfl (zf rfl rfl (zf rfl rfl ?_)))))))))))
    refine zf rfl rfl (za rfl rfl trivial (zc (ze (zP rfl (zd (zb rfl (za rfl rfl trivial (zc (ze (zo (zI ?_)))))))))))
    have e9 : zbQ a b = false := by
     unfold zbQ
     try dsimp only
     rewrite [if_pos g2, if_pos g5, if_neg g8]
     all_goals rfl
    rw [e9]
    exact zp rfl ⟨trivial, trivial⟩ (rfl) rfl
   ·have g8 : (a.Hit : Int) = b.Hit := zcu h8
    refine zg rfl h8 (za rfl rfl (by decide) (zg rfl h8 (za rfl rfl trivial (zg rfl h8 (za rfl rfl (by decide) (zg rfl h8 (za rfl rfl trivial (zg rfl h8 (zl rfl rfl rfl rfl rfl trivial (zt rfl h8 rfl rfl (za rfl rfl trivial ?_)))))))))))
    refine zK rfl (fun h11 => ?_) (fun h11 => ?_)
    ·have g11 : ¬ ((a.Every : Int) = b.Every) := zcs h11
     refine zh rfl h11 rfl (zh rfl h11 rfl (zh rfl h11 rfl (zh rfl h11 rfl (zh rfl h11 rfl (zr rfl h11 rfl rfl (za rfl rfl trivial (zf rfl rfl (zf rfl rfl (zf rfl rfl (zf rfl rfl (zf rfl rfl ?_)))))))))))
     refine za rfl rfl trivial (za rfl rfl trivial (zf rfl rfl (zf rfl rfl (zf rfl rfl (zf rfl rfl (zf rfl rfl (zf rfl rfl (zf rfl rfl (za rfl rfl trivial (za rfl rfl trivial (zf rfl rfl ?_)))))))))))
     refine zf rfl rfl (zf rfl rfl (zf rfl rfl (zf rfl rfl (zf rfl rfl (zf rfl rfl (za rfl rfl trivial (zc (ze (zP rfl (zd (zb rfl ?_)))))))))))
     refine za rfl rfl trivial (zc (ze (zo (zI ?_))))
     have e12 : zbQ a b = false := by
      unfold zbQ
      try dsimp only
      rewrite [if_pos g2, if_pos g5, if_pos g8, if_neg g11]
      all_goals rfl
     rw [e12]
     exact zp rfl ⟨trivial, trivial⟩ (rfl) rfl
    ·have g11 : (a.Every : Int) = b.Every := zcu h11
     refine zg rfl h11 (za rfl rfl (by decide) (zg rfl h11 (za rfl rfl trivial (zg rfl h11 (za rfl rfl (by decide) (zg rfl h11 (za rfl rfl trivial (zg rfl h11 (zl rfl rfl rfl rfl rfl trivial (zt rfl h11 rfl rfl (za rfl rfl trivial ?_)))))))))))
     refine zK rfl (fun h14 => ?_) (fun h14 => ?_)
     ·have g14 : ¬ ((a.Reach : Int) = b.Reach) := zcs h14
      refine zh rfl h14 rfl (zh rfl h14 rfl (zh rfl h14 rfl (zh rfl h14 rfl (zh rfl h14 rfl (zr rfl h14 rfl rfl (za rfl rfl trivial (zf rfl rfl (zf rfl rfl (zf rfl rfl (zf rfl rfl (zf rfl rfl ?_)))))))))))
      refine zf rfl rfl (zf rfl rfl (za rfl rfl trivial (za rfl rfl trivial (zf rfl rfl (zf rfl rfl (zf rfl rfl (zf rfl rfl (zf rfl rfl (zf rfl rfl (zf rfl rfl (za rfl rfl trivial ?_)))))))))))
      refine zc (ze (zP rfl (zd (zb rfl (za rfl rfl trivial (zc (ze (zo (zI ?_)))))))))
      have e15 : zbQ a b = false := by
       unfold zbQ
       try dsimp only
       rewrite [if_pos g2, if_pos g5, if_pos g8, if_pos g11, if_neg g14]
       all_goals rfl
      rw [e15]
      exact zp rfl ⟨trivial, trivial⟩ (rfl) rfl
     ·have g14 : (a.Reach : Int) = b.Reach := zcu h14
      refine zg rfl h14 (za rfl rfl (by decide) (zg rfl h14 (za rfl rfl trivial (zg rfl h14 (za rfl rfl (by decide) (zg rfl h14 (za rfl rfl trivial (zg rfl h14 (zl rfl rfl rfl rfl rfl trivial (zt rfl h14 rfl rfl (za rfl rfl trivial ?_)))))))))))
      refine zK rfl (fun h17 => ?_) (fun h17 => ?_)
      ·have g17 : ¬ ((a.Drops : Int) = b.Drops) := zcs h17
       refine zh rfl h17 rfl (zh rfl h17 rfl (zh rfl h17 rfl (zh rfl h17 rfl (zh rfl h17 rfl (zh rfl h17 rfl (zh rfl h17 rfl (zr rfl h17 rfl rfl (za rfl rfl trivial (zf rfl rfl (zf rfl rfl (zf rfl rfl ?_)))))))))))
       refine zf rfl rfl (zf rfl rfl (zf rfl rfl (zf rfl rfl (za rfl rfl trivial (zc (ze (zP rfl (zd (zb rfl (za rfl rfl trivial (zc ?_)))))))))))
       refine ze (zo (zI ?_))
       have e18 : zbQ a b = false := by
        unfold zbQ
        try dsimp only
        rewrite [if_pos g2, if_pos g5, if_pos g8, if_pos g11, if_pos g14, if_neg g17]
        all_goals rfl
       rw [e18]
       exact zp rfl ⟨trivial, trivial⟩ (rfl) rfl
      ·have g17 : (a.Drops : Int) = b.Drops := zcu h17
       refine zg rfl h17 (za rfl rfl (by decide) (zg rfl h17 (za rfl rfl trivial (zg rfl h17 (za rfl rfl trivial (zg rfl h17 (za rfl rfl (by decide) (zg rfl h17 (za rfl rfl trivial (zg rfl h17 (za rfl rfl trivial ?_)))))))))))
       refine zg rfl h17 (zl rfl rfl rfl rfl rfl trivial (zt rfl h17 rfl rfl (za rfl rfl trivial ?_)))
       refine zK rfl (fun h20 => ?_) (fun h20 => ?_)
       ·have g20 : ¬ ((a.Script.length : Int) = b.Script.length) := zcs h20
        refine zh rfl h20 rfl (zh rfl h20 rfl (zh rfl h20 rfl (zh rfl h20 rfl (zh rfl h20 rfl (zh rfl h20 rfl (zh rfl h20 rfl (zr rfl h20 rfl rfl (zc (ze (zP rfl (zd ?_)))))))))))
        refine zb rfl (za rfl rfl trivial (zc (ze (zo (zI ?_)))))
        have e21 : zbQ a b = false := by
         unfold zbQ
         try dsimp only
         rewrite [if_pos g2, if_pos g5, if_pos g8, if_pos g11, if_pos g14, if_pos g17, if_neg g20]
         all_goals rfl
        rw [e21]
        exact zp rfl ⟨trivial, trivial⟩ (rfl) rfl
       ·have g20 : (a.Script.length : Int) = b.Script.length := zcu h20
        refine zg rfl h20 (za rfl rfl (by decide) (zg rfl h20 (za rfl rfl trivial (zg rfl h20 (za rfl rfl trivial (zg rfl h20 (za rfl rfl (by decide) (zg rfl h20 (za rfl rfl trivial (zg rfl h20 (za rfl rfl trivial ?_)))))))))))
        refine zg rfl h20 (zl rfl rfl rfl rfl rfl trivial (zt rfl h20 rfl rfl (zc (ze ?_))))
        refine zy rfl (fun h23 => ?_) (fun h23 => ?_)
        ·have g23 : ¬ ((a.Hoard.length : Int) = b.Hoard.length) := zcs h23
         refine zd (zb rfl (za rfl rfl trivial (zc (ze (zo (zI ?_))))))
         have e24 : zbQ a b = false := by
          unfold zbQ
          try dsimp only
          rewrite [if_pos g2, if_pos g5, if_pos g8, if_pos g11, if_pos g14, if_pos g17, if_pos g20, if_neg g23]
          all_goals rfl
         rw [e24]
         exact zp rfl ⟨trivial, trivial⟩ (rfl) rfl
        ·have g23 : (a.Hoard.length : Int) = b.Hoard.length := zcu h23
         refine zA (ze (zd (zd (zb rfl (za rfl rfl trivial (zc (ze ?_)))))))
         refine z6 (fun w_ : Unit => match w_ with | () => (⟨[(2, .ptr 0 0), (3, .ptr 1 0)], [(0, .box [I a.Id, I a.Health, I a.Hit, I a.Every, I a.Reach, .pv (.slc a.Script.length false (a.Script.flatMap zN)), .pv (.slc a.Hoard.length false (a.Hoard.flatMap zE)), I a.Drops]), (1, .box [I b.Id, I b.Health, I b.Hit, I b.Every, I b.Reach, .pv (.slc b.Script.length false (b.Script.flatMap zN)), .pv (.slc b.Hoard.length false (b.Hoard.flatMap zE)), I b.Drops])], 2, [], 101, 0⟩ : St)) (fun w_ => zbG a b (a.Script.length - 0) 0 = .inr w_) ?_ ?_
         ·refine zC ?_
          refine z9 (fun k0 : Nat => (⟨[(2, .ptr 0 0), (3, .ptr 1 0), (5, I k0)], [(0, .box [I a.Id, I a.Health, I a.Hit, I a.Every, I a.Reach, .pv (.slc a.Script.length false (a.Script.flatMap zN)), .pv (.slc a.Hoard.length false (a.Hoard.flatMap zE)), I a.Drops]), (1, .box [I b.Id, I b.Health, I b.Hit, I b.Every, I b.Reach, .pv (.slc b.Script.length false (b.Script.flatMap zN)), .pv (.slc b.Hoard.length false (b.Hoard.flatMap zE)), I b.Drops])], 2, [], 101, 0⟩ : St)) (fun k0 : Nat => zbG a b (a.Script.length - k0) k0 = zbG a b (a.Script.length - 0) 0 ∧ k0 ≤ a.Script.length) (fun k0 : Nat => a.Script.length - k0) 0 (⟨rfl, (by first | omega | (simp; omega))⟩) ?_ (fun k0 hh_ => ?_)
          ·exact (zH.ren [] (by decide +kernel) (by decide +kernel) rfl ⟨⟨rfl, rfl⟩, ⟨rfl, rfl⟩, ⟨rfl, rfl⟩, trivial⟩ ⟨⟨rfl, rfl, rfl⟩, ⟨rfl, rfl, rfl⟩, trivial⟩ (by decide))
          obtain ⟨hI0, hb0⟩ := hh_
          show zO Tryz.prog _ _ (⟨[(2, .ptr 0 0), (3, .ptr 1 0), (5, I k0)], [(0, .box [I a.Id, I a.Health, I a.Hit, I a.Every, I a.Reach, .pv (.slc a.Script.length false (a.Script.flatMap zN)), .pv (.slc a.Hoard.length false (a.Hoard.flatMap zE)), I a.Drops]), (1, .box [I b.Id, I b.Health, I b.Hit, I b.Every, I b.Reach, .pv (.slc b.Script.length false (b.Script.flatMap zN)), .pv (.slc b.Hoard.length false (b.Hoard.flatMap zE)), I b.Drops])], 2, [], 101, 0⟩ : St)
          refine zd (zd (zb rfl (za rfl rfl trivial (za rfl rfl (by decide) (za rfl rfl trivial (za rfl rfl trivial (zl rfl rfl rfl rfl rfl trivial (zc (ze ?_)))))))))
          refine zy rfl (fun h27 => ?_) (fun h27 => ?_)
          ·have g27 : (k0 : Int) < a.Script.length := of_decide_eq_true h27
           have hm0 : a.Script.length - k0 = (a.Script.length - (k0 + 1)) + 1 := by omega
           refine zA (ze (zd (zC (zd ?_))))
           refine zaW rfl (by decide +kernel) rfl ?_
           refine za rfl rfl (by decide) (za rfl rfl trivial (za rfl rfl trivial ?_))
           have jk28 : k0 < a.Script.length := by first | assumption | omega | (simp only [List.length_set, List.length_append]; omega) | (simp only [IntKind.wrap_i64] at *; omega) | (simp; omega) | simp_all
           refine zS (k := k0) rfl rfl rfl rfl jk28 (zaj (s := 5) (enc := zN) (fun _ => rfl) (by decide) jk28) rfl (zJ rfl rfl rfl (zap (s := 5) (enc := zN) (fun _ => rfl) jk28) (z2 (s := 5) (enc := zN) (fun _ => rfl) (zaz jk28)) rfl (za rfl rfl (by decide) (za rfl rfl trivial (za rfl rfl trivial ?_))))
           have jk29 : k0 < b.Script.length := by first | assumption | omega | (simp only [List.length_set, List.length_append]; omega) | (simp only [IntKind.wrap_i64] at *; omega) | (simp; omega) | simp_all
           refine zS (k := k0) rfl rfl rfl rfl jk29 (zaj (s := 5) (enc := zN) (fun _ => rfl) (by decide) jk29) rfl (zJ rfl rfl rfl (zap (s := 5) (enc := zN) (fun _ => rfl) jk29) (z2 (s := 5) (enc := zN) (fun _ => rfl) (zaz jk29)) rfl ?_)
           refine zcw rfl rfl rfl (by kernel_rfl) rfl rfl rfl rfl rfl ?_
           refine zc (ze ?_)
           refine zy rfl (fun h30 => ?_) (fun h30 => ?_)
           ·have g30 : ¬ (((((a.Script.getD k0 default).Phase) == ((b.Script.getD k0 default).Phase)) && ((((a.Script.getD k0 default).When) == ((b.Script.getD k0 default).When)) && ((((a.Script.getD k0 default).Arg) == ((b.Script.getD k0 default).Arg)) && ((((a.Script.getD k0 default).Do) == ((b.Script.getD k0 default).Do)) && ((((a.Script.getD k0 default).Value) == ((b.Script.getD k0 default).Value)) && true))))) = true) := zaw (zcl h30)
            refine zd (zb rfl (za rfl rfl trivial (zc (ze (zo (zad (zI (zbH (zad (zcJ (zI ?_)))))))))))
            have e31 : zbG a b (a.Script.length - 0) 0 = .inl false := by
             rewrite [← hI0, hm0]
             rewrite [zbG]
             try dsimp only
             rewrite [if_neg g30]
             all_goals rfl
            have e32 : zbQ a b = false := by
             unfold zbQ
             try dsimp only
             rewrite [if_pos g2, if_pos g5, if_pos g8, if_pos g11, if_pos g14, if_pos g17, if_pos g20, if_pos g23, e31]
             try dsimp only
             all_goals rfl
            rw [e32]
            exact zp rfl ⟨trivial, trivial⟩ (rfl) rfl
           ·have g30 : ((((a.Script.getD k0 default).Phase) == ((b.Script.getD k0 default).Phase)) && ((((a.Script.getD k0 default).When) == ((b.Script.getD k0 default).When)) && ((((a.Script.getD k0 default).Arg) == ((b.Script.getD k0 default).Arg)) && ((((a.Script.getD k0 default).Do) == ((b.Script.getD k0 default).Do)) && ((((a.Script.getD k0 default).Value) == ((b.Script.getD k0 default).Value)) && true))))) = true := (zcm h30)
            refine zA (zar (ze (zb rfl (za rfl rfl trivial (zl rfl rfl rfl rfl rfl trivial (za rfl rfl trivial (zc ?_)))))))
            have e34 : zbG a b (a.Script.length - k0) k0 = zbG a b (a.Script.length - (k0 + 1)) (k0 + 1) := by
             rewrite [hm0]
             rewrite [zbG]
             try dsimp only
             rewrite [if_pos g30]
             all_goals rfl
            exact z5 (k0 + 1) ⟨e34.symm.trans hI0, (by omega)⟩ (by show a.Script.length - (k0 + 1) < a.Script.length - k0; omega) (zH.ren [] (by decide +kernel) (by decide +kernel) rfl ⟨⟨rfl, rfl⟩, ⟨rfl, rfl⟩, ⟨congrArg (fun n => some (I n)) (zcv (k := k0) (by first | omega | (simp; omega))), rfl⟩, trivial⟩ ⟨⟨rfl, rfl, rfl⟩, ⟨rfl, rfl, rfl⟩, trivial⟩ (by decide))
          ·have g27 : ¬ ((k0 : Int) < a.Script.length) := of_decide_eq_false h27
           have hm0 : a.Script.length - k0 = 0 := by omega
           refine zV (zac (zal (zak rfl ?_)))
           have e35 : zbG a b (a.Script.length - 0) 0 = .inr () := by
            rewrite [← hI0, hm0]
            rewrite [zbG]
            try dsimp only
            all_goals rfl
           exact zZ () e35 (zH.ren [] (by decide +kernel) (by decide +kernel) rfl ⟨⟨rfl, rfl⟩, ⟨rfl, rfl⟩, trivial⟩ ⟨⟨rfl, rfl, rfl⟩, ⟨rfl, rfl, rfl⟩, trivial⟩ (by decide))
         ·rintro ⟨⟩ (hJ25 : zbG a b (a.Script.length - 0) 0 = .inr ())
          show seqK _ _ _ .normal (⟨[(2, .ptr 0 0), (3, .ptr 1 0)], [(0, .box [I a.Id, I a.Health, I a.Hit, I a.Every, I a.Reach, .pv (.slc a.Script.length false (a.Script.flatMap zN)), .pv (.slc a.Hoard.length false (a.Hoard.flatMap zE)), I a.Drops]), (1, .box [I b.Id, I b.Health, I b.Hit, I b.Every, I b.Reach, .pv (.slc b.Script.length false (b.Script.flatMap zN)), .pv (.slc b.Hoard.length false (b.Hoard.flatMap zE)), I b.Drops])], 2, [], 101, 0⟩ : St)
          refine ze (zd (zd (zb rfl (za rfl rfl trivial (zc (ze ?_))))))
          refine z6 (fun w_ : Unit => match w_ with | () => (⟨[], [], 0, [], 101, 0⟩ : St)) (fun w_ => zbK a b (a.Hoard.length - 0) 0 = .inr w_) ?_ ?_
          ·refine zC ?_
           refine z9 (fun k1 : Nat => (⟨[(2, .ptr 0 0), (3, .ptr 1 0), (6, I k1)], [(0, .box [I a.Id, I a.Health, I a.Hit, I a.Every, I a.Reach, .pv (.slc a.Script.length false (a.Script.flatMap zN)), .pv (.slc a.Hoard.length false (a.Hoard.flatMap zE)), I a.Drops]), (1, .box [I b.Id, I b.Health, I b.Hit, I b.Every, I b.Reach, .pv (.slc b.Script.length false (b.Script.flatMap zN)), .pv (.slc b.Hoard.length false (b.Hoard.flatMap zE)), I b.Drops])], 2, [], 101, 0⟩ : St)) (fun k1 : Nat => zbK a b (a.Hoard.length - k1) k1 = zbK a b (a.Hoard.length - 0) 0 ∧ k1 ≤ a.Hoard.length) (fun k1 : Nat => a.Hoard.length - k1) 0 (⟨rfl, (by first | omega | (simp; omega))⟩) ?_ (fun k1 hh_ => ?_)
           ·exact (zH.ren [] (by decide +kernel) (by decide +kernel) rfl ⟨⟨rfl, rfl⟩, ⟨rfl, rfl⟩, ⟨rfl, rfl⟩, trivial⟩ ⟨⟨rfl, rfl, rfl⟩, ⟨rfl, rfl, rfl⟩, trivial⟩ (by decide))
           obtain ⟨hI1, hb1⟩ := hh_
           show zO Tryz.prog _ _ (⟨[(2, .ptr 0 0), (3, .ptr 1 0), (6, I k1)], [(0, .box [I a.Id, I a.Health, I a.Hit, I a.Every, I a.Reach, .pv (.slc a.Script.length false (a.Script.flatMap zN)), .pv (.slc a.Hoard.length false (a.Hoard.flatMap zE)), I a.Drops]), (1, .box [I b.Id, I b.Health, I b.Hit, I b.Every, I b.Reach, .pv (.slc b.Script.length false (b.Script.flatMap zN)), .pv (.slc b.Hoard.length false (b.Hoard.flatMap zE)), I b.Drops])], 2, [], 101, 0⟩ : St)
           refine zd (zd (zb rfl (za rfl rfl trivial (za rfl rfl (by decide) (za rfl rfl trivial (za rfl rfl trivial (zl rfl rfl rfl rfl rfl trivial (zc (ze ?_)))))))))
           refine zy rfl (fun h38 => ?_) (fun h38 => ?_)
           ·have g38 : (k1 : Int) < a.Hoard.length := of_decide_eq_true h38
            have hm1 : a.Hoard.length - k1 = (a.Hoard.length - (k1 + 1)) + 1 := by omega
            refine zA (ze (zd (zC (zd ?_))))
            refine zaW rfl (by decide +kernel) rfl ?_
            refine za rfl rfl (by decide) (za rfl rfl trivial (za rfl rfl trivial ?_))
            have jk39 : k1 < a.Hoard.length := by first | assumption | omega | (simp only [List.length_set, List.length_append]; omega) | (simp only [IntKind.wrap_i64] at *; omega) | (simp; omega) | simp_all
            refine zS (k := k1) rfl rfl rfl rfl jk39 (zaj (s := 2) (enc := zE) (fun _ => rfl) (by decide) jk39) rfl (zJ rfl rfl rfl (zap (s := 2) (enc := zE) (fun _ => rfl) jk39) (z2 (s := 2) (enc := zE) (fun _ => rfl) (zaz jk39)) rfl (za rfl rfl (by decide) (za rfl rfl trivial (za rfl rfl trivial ?_))))
            have jk40 : k1 < b.Hoard.length := by first | assumption | omega | (simp only [List.length_set, List.length_append]; omega) | (simp only [IntKind.wrap_i64] at *; omega) | (simp; omega) | simp_all
            refine zS (k := k1) rfl rfl rfl rfl jk40 (zaj (s := 2) (enc := zE) (fun _ => rfl) (by decide) jk40) rfl (zJ rfl rfl rfl (zap (s := 2) (enc := zE) (fun _ => rfl) jk40) (z2 (s := 2) (enc := zE) (fun _ => rfl) (zaz jk40)) rfl ?_)
            refine zcw rfl rfl rfl (by kernel_rfl) rfl rfl rfl rfl rfl ?_
            refine zc (ze ?_)
            refine zy rfl (fun h41 => ?_) (fun h41 => ?_)
            ·have g41 : ¬ (((((a.Hoard.getD k1 default).Item) == ((b.Hoard.getD k1 default).Item)) && ((((a.Hoard.getD k1 default).Weight) == ((b.Hoard.getD k1 default).Weight)) && true)) = true) := zaw (zcl h41)
             refine zd (zb rfl (za rfl rfl trivial (zc (ze (zo (zad (zI (zbH (zad (zcJ (zI ?_)))))))))))
             have e42 : zbK a b (a.Hoard.length - 0) 0 = .inl false := by
              rewrite [← hI1, hm1]
              rewrite [zbK]
              try dsimp only
              rewrite [if_neg g41]
              all_goals rfl
             have e43 : zbQ a b = false := by
              unfold zbQ
              try dsimp only
              rewrite [if_pos g2, if_pos g5, if_pos g8, if_pos g11, if_pos g14, if_pos g17, if_pos g20, if_pos g23, hJ25]
              try dsimp only
              rewrite [e42]
              try dsimp only
              all_goals rfl
             rw [e43]
             exact zp rfl ⟨trivial, trivial⟩ (rfl) rfl
            ·have g41 : ((((a.Hoard.getD k1 default).Item) == ((b.Hoard.getD k1 default).Item)) && ((((a.Hoard.getD k1 default).Weight) == ((b.Hoard.getD k1 default).Weight)) && true)) = true := (zcm h41)
             refine zA (zar (ze (zb rfl (za rfl rfl trivial (zl rfl rfl rfl rfl rfl trivial (za rfl rfl trivial (zc ?_)))))))
             have e45 : zbK a b (a.Hoard.length - k1) k1 = zbK a b (a.Hoard.length - (k1 + 1)) (k1 + 1) := by
              rewrite [hm1]
              rewrite [zbK]
              try dsimp only
              rewrite [if_pos g41]
              all_goals rfl
             exact z5 (k1 + 1) ⟨e45.symm.trans hI1, (by omega)⟩ (by show a.Hoard.length - (k1 + 1) < a.Hoard.length - k1; omega) (zH.ren [] (by decide +kernel) (by decide +kernel) rfl ⟨⟨rfl, rfl⟩, ⟨rfl, rfl⟩, ⟨congrArg (fun n => some (I n)) (zcv (k := k1) (by first | omega | (simp; omega))), rfl⟩, trivial⟩ ⟨⟨rfl, rfl, rfl⟩, ⟨rfl, rfl, rfl⟩, trivial⟩ (by decide))
           ·have g38 : ¬ ((k1 : Int) < a.Hoard.length) := of_decide_eq_false h38
            have hm1 : a.Hoard.length - k1 = 0 := by omega
            refine zV (zac (zal (zak rfl ?_)))
            have e46 : zbK a b (a.Hoard.length - 0) 0 = .inr () := by
             rewrite [← hI1, hm1]
             rewrite [zbK]
             try dsimp only
             all_goals rfl
            exact zZ () e46 (zH.ren [] (by decide +kernel) (by decide +kernel) rfl trivial trivial (by decide))
          ·rintro ⟨⟩ (hJ36 : zbK a b (a.Hoard.length - 0) 0 = .inr ())
           show seqK _ _ _ .normal (⟨[], [], 0, [], 101, 0⟩ : St)
           refine ze (zd (zb rfl (za rfl rfl trivial (zc (ze (zo ?_))))))
           have e47 : zbQ a b = true := by
            unfold zbQ
            try dsimp only
            rewrite [if_pos g2, if_pos g5, if_pos g8, if_pos g11, if_pos g14, if_pos g17, if_pos g20, if_pos g23, hJ25]
            try dsimp only
            rewrite [hJ36]
            try dsimp only
            all_goals rfl
           rw [e47]
           exact zp rfl ⟨trivial, trivial⟩ (rfl) rfl

def zbL (a : zu) (b : zu) : Nat → Nat → Sum Bool Unit
  | 0, k0 => .inr ()
  | n_ + 1, k0 => if (a.Map.Wall.getD k0 default) = (b.Map.Wall.getD k0 default) then zbL a b n_ (k0 + 1) else .inl false
def zbI (a : zu) (b : zu) : Nat → Nat → Sum Bool Unit
  | 0, k1 => .inr ()
  | n_ + 1, k1 => if zb3 (a.Abilities.getD k1 default) (b.Abilities.getD k1 default) = true then zbI a b n_ (k1 + 1) else .inl false
def zbJ (a : zu) (b : zu) : Nat → Nat → Sum Bool Unit
  | 0, k2 => .inr ()
  | n_ + 1, k2 => if ((((a.Auras.getD k2 default).Id) == ((b.Auras.getD k2 default).Id)) && ((((a.Auras.getD k2 default).Kind) == ((b.Auras.getD k2 default).Kind)) && ((((a.Auras.getD k2 default).Ticks) == ((b.Auras.getD k2 default).Ticks)) && ((((a.Auras.getD k2 default).Every) == ((b.Auras.getD k2 default).Every)) && ((((a.Auras.getD k2 default).Stacks) == ((b.Auras.getD k2 default).Stacks)) && ((((a.Auras.getD k2 default).Amount) == ((b.Auras.getD k2 default).Amount)) && ((((a.Auras.getD k2 default).Harm) == ((b.Auras.getD k2 default).Harm)) && true))))))) = true then zbJ a b n_ (k2 + 1) else .inl false
def zbM (a : zu) (b : zu) : Nat → Nat → Sum Bool Unit
  | 0, k3 => .inr ()
  | n_ + 1, k3 => if zbQ (a.Foes.getD k3 default) (b.Foes.getD k3 default) = true then zbM a b n_ (k3 + 1) else .inl false
def zbj (a : zu) (b : zu) : Bool :=
  if ((a.Door.X == b.Door.X) && ((a.Door.Y == b.Door.Y) && true)) = true then (if ((a.Lair.X == b.Lair.X) && ((a.Lair.Y == b.Lair.Y) && true)) = true then (if (a.Map.W : Int) = b.Map.W then (if (a.Map.H : Int) = b.Map.H then (if (a.Map.Wall.length : Int) = b.Map.Wall.length then (if (a.Abilities.length : Int) = b.Abilities.length then (if (a.Auras.length : Int) = b.Auras.length then (if (a.Foes.length : Int) = b.Foes.length then (match zbL a b (a.Map.Wall.length - 0) 0 with
    | .inl r_ => r_
    | .inr () => (match zbI a b (a.Abilities.length - 0) 0 with
    | .inl r_ => r_
    | .inr () => (match zbJ a b (a.Auras.length - 0) 0 with
    | .inl r_ => r_
    | .inr () => (match zbM a b (a.Foes.length - 0) 0 with
    | .inl r_ => r_
    | .inr () => true)))) else false) else false) else false) else false) else false) else false) else false) else false
theorem zmx (a : zu) (b : zu) : Ok Tryz.prog 15 [z1 a, z1 b] [] (B (zbj a b)) [] [] := by
 refine Ok.len fun hlen => ?_
 have hl_a_Abilities : a.Abilities.length ≤ maxLen := hlen _ (by simp [zT, lens, zU])
 have hl_a_Auras : a.Auras.length ≤ maxLen := hlen _ (by simp [zT, lens, zU])
 have hl_a_Foes : a.Foes.length ≤ maxLen := hlen _ (by simp [zT, lens, zU])
 have hl_a_Map_Wall : a.Map.Wall.length ≤ maxLen := hlen _ (by simp [zT, lens, zU])
 have hl_b_Abilities : b.Abilities.length ≤ maxLen := hlen _ (by simp [zT, lens, zU])
 have hl_b_Auras : b.Auras.length ≤ maxLen := hlen _ (by simp [zT, lens, zU])
 have hl_b_Foes : b.Foes.length ≤ maxLen := hlen _ (by simp [zT, lens, zU])
 have hl_b_Map_Wall : b.Map.Wall.length ≤ maxLen := hlen _ (by simp [zT, lens, zU])
 unfold maxLen at hl_a_Abilities hl_a_Auras hl_a_Foes hl_a_Map_Wall hl_b_Abilities hl_b_Auras hl_b_Foes hl_b_Map_Wall
 refine zz Tryz.func15 rfl ?_
 show zO Tryz.prog _ _ ⟨[(0, z1 a), (1, z1 b)], [], 0, [], 158, 0⟩
 refine zd (zb rfl (zB (o := .box [_, _, _, _, _, _, _, _, _, _]) (nx' := 1) rfl rfl rfl trivial (zB (o := .box [_, _, _, _, _, _, _, _, _, _]) (nx' := 2) rfl rfl rfl trivial (za rfl rfl trivial (zc (ze (zd (zd (zb rfl (za rfl rfl (by decide) (za (v := (.agg [_, _])) rfl rfl (Nat.le_of_ble_eq_true rfl) ?_)))))))))))
 refine za rfl rfl (by decide) (za (v := (.agg [_, _])) rfl rfl (Nat.le_of_ble_eq_true rfl) ?_)
 refine zcw rfl rfl rfl (by kernel_rfl) rfl rfl rfl rfl rfl ?_
 refine za rfl rfl trivial ?_
 refine zK rfl (fun h2 => ?_) (fun h2 => ?_)
 ·have g2 : ¬ (((a.Door.X == b.Door.X) && ((a.Door.Y == b.Door.Y) && true)) = true) := zaw (zcl h2)
  refine zh rfl h2 rfl (zh rfl h2 rfl (zh rfl h2 rfl (zh rfl h2 rfl (zh rfl h2 rfl (zr rfl h2 rfl rfl (za rfl rfl trivial (zf rfl rfl (zf rfl rfl (zf rfl rfl (zf rfl rfl (zf rfl rfl ?_)))))))))))
  refine zf rfl rfl (zf rfl rfl (za rfl rfl trivial (za rfl rfl trivial (zf rfl rfl (zf rfl rfl (zf rfl rfl (zf rfl rfl (zf rfl rfl (zf rfl rfl (zf rfl rfl (za rfl rfl trivial ?_)))))))))))
  refine za rfl rfl trivial (zf rfl rfl (zf rfl rfl (zf rfl rfl (zf rfl rfl (zf rfl rfl (zf rfl rfl (zf rfl rfl (zf rfl rfl (zf rfl rfl (za rfl rfl trivial (za rfl rfl trivial ?_)))))))))))
  refine zf rfl rfl (zf rfl rfl (zf rfl rfl (zf rfl rfl (zf rfl rfl (zf rfl rfl (zf rfl rfl (za rfl rfl trivial (za rfl rfl trivial (zf rfl rfl (zf rfl rfl (zf rfl rfl ?_)))))))))))
  refine zf rfl rfl (zf rfl rfl (zf rfl rfl (zf rfl rfl (za rfl rfl trivial (za rfl rfl trivial (zf rfl rfl (zf rfl rfl (zf rfl rfl (zf rfl rfl (zf rfl rfl (zf rfl rfl ?_)))))))))))
  refine zf rfl rfl (za rfl rfl trivial (zc (ze (zP rfl (zd (zb rfl (za rfl rfl trivial (zc (ze (zo (zI ?_)))))))))))
  have e3 : zbj a b = false := by
   unfold zbj
   try dsimp only
   rewrite [if_neg g2]
   all_goals rfl
  rw [e3]
  exact zp rfl ⟨trivial, trivial⟩ (rfl) rfl
 ·have g2 : ((a.Door.X == b.Door.X) && ((a.Door.Y == b.Door.Y) && true)) = true := (zcm h2)
  refine zg rfl h2 (za rfl rfl (by decide) (zg rfl h2 (za (v := (.agg [_, _])) rfl rfl (Nat.le_of_ble_eq_true rfl) (zg rfl h2 (za rfl rfl (by decide) (zg rfl h2 (za (v := (.agg [_, _])) rfl rfl (Nat.le_of_ble_eq_true rfl) (zg rfl h2 ?_))))))))
  refine zcw rfl rfl rfl (by kernel_rfl) rfl rfl rfl rfl rfl ?_
  refine zt rfl h2 rfl rfl (za rfl rfl trivial ?_)
  refine zK rfl (fun h5 => ?_) (fun h5 => ?_)
  ·have g5 : ¬ (((a.Lair.X == b.Lair.X) && ((a.Lair.Y == b.Lair.Y) && true)) = true) := zaw (zcl h5)
   refine zh rfl h5 rfl (zh rfl h5 rfl (zh rfl h5 rfl (zh rfl h5 rfl (zh rfl h5 rfl (zh rfl h5 rfl (zh rfl h5 rfl (zr rfl h5 rfl rfl (za rfl rfl trivial (zf rfl rfl (zf rfl rfl (zf rfl rfl ?_)))))))))))
   refine zf rfl rfl (zf rfl rfl (zf rfl rfl (zf rfl rfl (za rfl rfl trivial (za rfl rfl trivial (zf rfl rfl (zf rfl rfl (zf rfl rfl (zf rfl rfl (zf rfl rfl (zf rfl rfl ?_)))))))))))
   refine zf rfl rfl (zf rfl rfl (zf rfl rfl (za rfl rfl trivial (za rfl rfl trivial (zf rfl rfl (zf rfl rfl (zf rfl rfl (zf rfl rfl (zf rfl rfl (zf rfl rfl (zf rfl rfl ?_)))))))))))
   refine za rfl rfl trivial (za rfl rfl trivial (zf rfl rfl (zf rfl rfl (zf rfl rfl (zf rfl rfl (zf rfl rfl (zf rfl rfl (zf rfl rfl (za rfl rfl trivial (za rfl rfl trivial (zf rfl rfl ?_)))))))))))
   refine zf rfl rfl (zf rfl rfl (zf rfl rfl (zf rfl rfl (zf rfl rfl (zf rfl rfl (za rfl rfl trivial (zc (ze (zP rfl (zd (zb rfl ?_)))))))))))
   refine za rfl rfl trivial (zc (ze (zo (zI ?_))))
   have e6 : zbj a b = false := by
    unfold zbj
    try dsimp only
    rewrite [if_pos g2, if_neg g5]
    all_goals rfl
   rw [e6]
   exact zp rfl ⟨trivial, trivial⟩ (rfl) rfl
  ·have g5 : ((a.Lair.X == b.Lair.X) && ((a.Lair.Y == b.Lair.Y) && true)) = true := (zcm h5)
   refine zg rfl h5 (za rfl rfl (by decide) (zg rfl h5 (za rfl rfl (by decide) (zg rfl h5 (za rfl rfl trivial (zg rfl h5 (za rfl rfl (by decide) (zg rfl h5 (za rfl rfl (by decide) (zg rfl h5 (za rfl rfl trivial ?_)))))))))))
   refine zg rfl h5 (zl rfl rfl rfl rfl rfl trivial (zt rfl h5 rfl rfl (za rfl rfl trivial ?_)))
   refine zK rfl (fun h8 => ?_) (fun h8 => ?_)
   ·have g8 : ¬ ((a.Map.W : Int) = b.Map.W) := zcs h8
    refine zh rfl h8 rfl (zh rfl h8 rfl (zh rfl h8 rfl (zh rfl h8 rfl (zh rfl h8 rfl (zh rfl h8 rfl (zh rfl h8 rfl (zr rfl h8 rfl rfl (za rfl rfl trivial (zf rfl rfl (zf rfl rfl (zf rfl rfl ?_)))))))))))
    refine zf rfl rfl (zf rfl rfl (zf rfl rfl (zf rfl rfl (zf rfl rfl (zf rfl rfl (za rfl rfl trivial (za rfl rfl trivial (zf rfl rfl (zf rfl rfl (zf rfl rfl (zf rfl rfl ?_)))))))))))
    refine zf rfl rfl (zf rfl rfl (zf rfl rfl (za rfl rfl trivial (za rfl rfl trivial (zf rfl rfl (zf rfl rfl (zf rfl rfl (zf rfl rfl (zf rfl rfl (zf rfl rfl (zf rfl rfl ?_)))))))))))
    refine za rfl rfl trivial (za rfl rfl trivial (zf rfl rfl (zf rfl rfl (zf rfl rfl (zf rfl rfl (zf rfl rfl (zf rfl rfl (zf rfl rfl (za rfl rfl trivial (zc (ze ?_)))))))))))
    refine zP rfl (zd (zb rfl (za rfl rfl trivial (zc (ze (zo (zI ?_)))))))
    have e9 : zbj a b = false := by
     unfold zbj
     try dsimp only
     rewrite [if_pos g2, if_pos g5, if_neg g8]
     all_goals rfl
    rw [e9]
    exact zp rfl ⟨trivial, trivial⟩ (rfl) rfl
   ·have g8 : (a.Map.W : Int) = b.Map.W := zcu h8
    refine zg rfl h8 (za rfl rfl (by decide) (zg rfl h8 (za rfl rfl (by decide) (zg rfl h8 (za rfl rfl trivial (zg rfl h8 (za rfl rfl (by decide) (zg rfl h8 (za rfl rfl (by decide) (zg rfl h8 (za rfl rfl trivial ?_)))))))))))
    refine zg rfl h8 (zl rfl rfl rfl rfl rfl trivial (zt rfl h8 rfl rfl (za rfl rfl trivial ?_)))
    refine zK rfl (fun h11 => ?_) (fun h11 => ?_)
    ·have g11 : ¬ ((a.Map.H : Int) = b.Map.H) := zcs h11
     refine zh rfl h11 rfl (zh rfl h11 rfl (zh rfl h11 rfl (zh rfl h11 rfl (zh rfl h11 rfl (zh rfl h11 rfl (zh rfl h11 rfl (zh rfl h11 rfl (zh rfl h11 rfl (zr rfl h11 rfl rfl (za rfl rfl trivial (zf rfl rfl ?_)))))))))))
     refine zf rfl rfl (zf rfl rfl (zf rfl rfl (zf rfl rfl (zf rfl rfl (zf rfl rfl (za rfl rfl trivial (za rfl rfl trivial (zf rfl rfl (zf rfl rfl (zf rfl rfl (zf rfl rfl ?_)))))))))))
     refine zf rfl rfl (zf rfl rfl (zf rfl rfl (za rfl rfl trivial (za rfl rfl trivial (zf rfl rfl (zf rfl rfl (zf rfl rfl (zf rfl rfl (zf rfl rfl (zf rfl rfl (zf rfl rfl ?_)))))))))))
     refine za rfl rfl trivial (zc (ze (zP rfl (zd (zb rfl (za rfl rfl trivial (zc (ze (zo (zI ?_))))))))))
     have e12 : zbj a b = false := by
      unfold zbj
      try dsimp only
      rewrite [if_pos g2, if_pos g5, if_pos g8, if_neg g11]
      all_goals rfl
     rw [e12]
     exact zp rfl ⟨trivial, trivial⟩ (rfl) rfl
    ·have g11 : (a.Map.H : Int) = b.Map.H := zcu h11
     refine zg rfl h11 (za rfl rfl (by decide) (zg rfl h11 (za rfl rfl (by decide) (zg rfl h11 (za rfl rfl trivial (zg rfl h11 (za rfl rfl trivial (zg rfl h11 (za rfl rfl (by decide) (zg rfl h11 (za rfl rfl (by decide) ?_)))))))))))
     refine zg rfl h11 (za rfl rfl trivial (zg rfl h11 (za rfl rfl trivial (zg rfl h11 (zl rfl rfl rfl rfl rfl trivial (zt rfl h11 rfl rfl (za rfl rfl trivial ?_)))))))
     refine zK rfl (fun h14 => ?_) (fun h14 => ?_)
     ·have g14 : ¬ ((a.Map.Wall.length : Int) = b.Map.Wall.length) := zcs h14
      refine zh rfl h14 rfl (zh rfl h14 rfl (zh rfl h14 rfl (zh rfl h14 rfl (zh rfl h14 rfl (zh rfl h14 rfl (zh rfl h14 rfl (zr rfl h14 rfl rfl (za rfl rfl trivial (zf rfl rfl (zf rfl rfl (zf rfl rfl ?_)))))))))))
      refine zf rfl rfl (zf rfl rfl (zf rfl rfl (zf rfl rfl (za rfl rfl trivial (za rfl rfl trivial (zf rfl rfl (zf rfl rfl (zf rfl rfl (zf rfl rfl (zf rfl rfl (zf rfl rfl ?_)))))))))))
      refine zf rfl rfl (za rfl rfl trivial (zc (ze (zP rfl (zd (zb rfl (za rfl rfl trivial (zc (ze (zo (zI ?_)))))))))))
      have e15 : zbj a b = false := by
       unfold zbj
       try dsimp only
       rewrite [if_pos g2, if_pos g5, if_pos g8, if_pos g11, if_neg g14]
       all_goals rfl
      rw [e15]
      exact zp rfl ⟨trivial, trivial⟩ (rfl) rfl
     ·have g14 : (a.Map.Wall.length : Int) = b.Map.Wall.length := zcu h14
      refine zg rfl h14 (za rfl rfl (by decide) (zg rfl h14 (za rfl rfl trivial (zg rfl h14 (za rfl rfl trivial (zg rfl h14 (za rfl rfl (by decide) (zg rfl h14 (za rfl rfl trivial (zg rfl h14 (za rfl rfl trivial ?_)))))))))))
      refine zg rfl h14 (zl rfl rfl rfl rfl rfl trivial (zt rfl h14 rfl rfl (za rfl rfl trivial ?_)))
      refine zK rfl (fun h17 => ?_) (fun h17 => ?_)
      ·have g17 : ¬ ((a.Abilities.length : Int) = b.Abilities.length) := zcs h17
       refine zh rfl h17 rfl (zh rfl h17 rfl (zh rfl h17 rfl (zh rfl h17 rfl (zh rfl h17 rfl (zh rfl h17 rfl (zh rfl h17 rfl (zr rfl h17 rfl rfl (za rfl rfl trivial (zf rfl rfl (zf rfl rfl (zf rfl rfl ?_)))))))))))
       refine zf rfl rfl (zf rfl rfl (zf rfl rfl (zf rfl rfl (za rfl rfl trivial (zc (ze (zP rfl (zd (zb rfl (za rfl rfl trivial (zc ?_)))))))))))
       refine ze (zo (zI ?_))
       have e18 : zbj a b = false := by
        unfold zbj
        try dsimp only
        rewrite [if_pos g2, if_pos g5, if_pos g8, if_pos g11, if_pos g14, if_neg g17]
        all_goals rfl
       rw [e18]
       exact zp rfl ⟨trivial, trivial⟩ (rfl) rfl
      ·have g17 : (a.Abilities.length : Int) = b.Abilities.length := zcu h17
       refine zg rfl h17 (za rfl rfl (by decide) (zg rfl h17 (za rfl rfl trivial (zg rfl h17 (za rfl rfl trivial (zg rfl h17 (za rfl rfl (by decide) (zg rfl h17 (za rfl rfl trivial (zg rfl h17 (za rfl rfl trivial ?_)))))))))))
       refine zg rfl h17 (zl rfl rfl rfl rfl rfl trivial (zt rfl h17 rfl rfl (za rfl rfl trivial ?_)))
       refine zK rfl (fun h20 => ?_) (fun h20 => ?_)
       ·have g20 : ¬ ((a.Auras.length : Int) = b.Auras.length) := zcs h20
        refine zh rfl h20 rfl (zh rfl h20 rfl (zh rfl h20 rfl (zh rfl h20 rfl (zh rfl h20 rfl (zh rfl h20 rfl (zh rfl h20 rfl (zr rfl h20 rfl rfl (zc (ze (zP rfl (zd ?_)))))))))))
        refine zb rfl (za rfl rfl trivial (zc (ze (zo (zI ?_)))))
        have e21 : zbj a b = false := by
         unfold zbj
         try dsimp only
         rewrite [if_pos g2, if_pos g5, if_pos g8, if_pos g11, if_pos g14, if_pos g17, if_neg g20]
         all_goals rfl
        rw [e21]
        exact zp rfl ⟨trivial, trivial⟩ (rfl) rfl
       ·have g20 : (a.Auras.length : Int) = b.Auras.length := zcu h20
        refine zg rfl h20 (za rfl rfl (by decide) (zg rfl h20 (za rfl rfl trivial (zg rfl h20 (za rfl rfl trivial (zg rfl h20 (za rfl rfl (by decide) (zg rfl h20 (za rfl rfl trivial (zg rfl h20 (za rfl rfl trivial ?_)))))))))))
        refine zg rfl h20 (zl rfl rfl rfl rfl rfl trivial (zt rfl h20 rfl rfl (zc (ze ?_))))
        refine zy rfl (fun h23 => ?_) (fun h23 => ?_)
        ·have g23 : ¬ ((a.Foes.length : Int) = b.Foes.length) := zcs h23
         refine zd (zb rfl (za rfl rfl trivial (zc (ze (zo (zI ?_))))))
         have e24 : zbj a b = false := by
          unfold zbj
          try dsimp only
          rewrite [if_pos g2, if_pos g5, if_pos g8, if_pos g11, if_pos g14, if_pos g17, if_pos g20, if_neg g23]
          all_goals rfl
         rw [e24]
         exact zp rfl ⟨trivial, trivial⟩ (rfl) rfl
        ·have g23 : (a.Foes.length : Int) = b.Foes.length := zcu h23
         refine zA (ze (zd (zd (zb rfl (za rfl rfl trivial (zc (ze ?_)))))))
         refine z6 (fun w_ : Unit => match w_ with | () => (⟨[(2, .ptr 0 0), (3, .ptr 1 0)], [(0, .box [.pv (.slc a.Abilities.length false (a.Abilities.flatMap zj)), .pv (.slc a.Auras.length false (a.Auras.flatMap zq)), .pv (.slc a.Foes.length false (a.Foes.flatMap zw)), I a.Map.W, I a.Map.H, .pv (.slc a.Map.Wall.length false (encB a.Map.Wall)), I a.Door.X, I a.Door.Y, I a.Lair.X, I a.Lair.Y]), (1, .box [.pv (.slc b.Abilities.length false (b.Abilities.flatMap zj)), .pv (.slc b.Auras.length false (b.Auras.flatMap zq)), .pv (.slc b.Foes.length false (b.Foes.flatMap zw)), I b.Map.W, I b.Map.H, .pv (.slc b.Map.Wall.length false (encB b.Map.Wall)), I b.Door.X, I b.Door.Y, I b.Lair.X, I b.Lair.Y])], 2, [], 158, 0⟩ : St)) (fun w_ => zbL a b (a.Map.Wall.length - 0) 0 = .inr w_) ?_ ?_
         ·refine zC ?_
          refine z9 (fun k0 : Nat => (⟨[(2, .ptr 0 0), (3, .ptr 1 0), (5, I k0)], [(0, .box [.pv (.slc a.Abilities.length false (a.Abilities.flatMap zj)), .pv (.slc a.Auras.length false (a.Auras.flatMap zq)), .pv (.slc a.Foes.length false (a.Foes.flatMap zw)), I a.Map.W, I a.Map.H, .pv (.slc a.Map.Wall.length false (encB a.Map.Wall)), I a.Door.X, I a.Door.Y, I a.Lair.X, I a.Lair.Y]), (1, .box [.pv (.slc b.Abilities.length false (b.Abilities.flatMap zj)), .pv (.slc b.Auras.length false (b.Auras.flatMap zq)), .pv (.slc b.Foes.length false (b.Foes.flatMap zw)), I b.Map.W, I b.Map.H, .pv (.slc b.Map.Wall.length false (encB b.Map.Wall)), I b.Door.X, I b.Door.Y, I b.Lair.X, I b.Lair.Y])], 2, [], 158, 0⟩ : St)) (fun k0 : Nat => zbL a b (a.Map.Wall.length - k0) k0 = zbL a b (a.Map.Wall.length - 0) 0 ∧ k0 ≤ a.Map.Wall.length) (fun k0 : Nat => a.Map.Wall.length - k0) 0 (⟨rfl, (by first | omega | (simp; omega))⟩) ?_ (fun k0 hh_ => ?_)
          ·exact (zH.ren [] (by decide +kernel) (by decide +kernel) rfl ⟨⟨rfl, rfl⟩, ⟨rfl, rfl⟩, ⟨rfl, rfl⟩, trivial⟩ ⟨⟨rfl, rfl, rfl⟩, ⟨rfl, rfl, rfl⟩, trivial⟩ (by decide))
          obtain ⟨hI0, hb0⟩ := hh_
          show zO Tryz.prog _ _ (⟨[(2, .ptr 0 0), (3, .ptr 1 0), (5, I k0)], [(0, .box [.pv (.slc a.Abilities.length false (a.Abilities.flatMap zj)), .pv (.slc a.Auras.length false (a.Auras.flatMap zq)), .pv (.slc a.Foes.length false (a.Foes.flatMap zw)), I a.Map.W, I a.Map.H, .pv (.slc a.Map.Wall.length false (encB a.Map.Wall)), I a.Door.X, I a.Door.Y, I a.Lair.X, I a.Lair.Y]), (1, .box [.pv (.slc b.Abilities.length false (b.Abilities.flatMap zj)), .pv (.slc b.Auras.length false (b.Auras.flatMap zq)), .pv (.slc b.Foes.length false (b.Foes.flatMap zw)), I b.Map.W, I b.Map.H, .pv (.slc b.Map.Wall.length false (encB b.Map.Wall)), I b.Door.X, I b.Door.Y, I b.Lair.X, I b.Lair.Y])], 2, [], 158, 0⟩ : St)
          refine zd (zd (zb rfl (za rfl rfl trivial (za rfl rfl (by decide) (za rfl rfl (by decide) (za rfl rfl trivial (za rfl rfl trivial (zl rfl rfl rfl rfl rfl trivial (zc (ze ?_))))))))))
          refine zy rfl (fun h27 => ?_) (fun h27 => ?_)
          ·have g27 : (k0 : Int) < a.Map.Wall.length := of_decide_eq_true h27
           have hm0 : a.Map.Wall.length - k0 = (a.Map.Wall.length - (k0 + 1)) + 1 := by omega
           refine zA (ze (zd (zC (zd ?_))))
           refine zaW rfl (by decide +kernel) rfl ?_
           refine za rfl rfl (by decide) (za rfl rfl (by decide) (za rfl rfl trivial (za rfl rfl trivial ?_)))
           have jk28 : k0 < a.Map.Wall.length := by first | assumption | omega | (simp only [List.length_set, List.length_append]; omega) | (simp only [IntKind.wrap_i64] at *; omega) | (simp; omega) | simp_all
           refine zS (k := k0) rfl rfl rfl rfl jk28 (zgg jk28) rfl (zaf rfl rfl rfl (zeS (zaz jk28)) rfl (za rfl rfl (by decide) (za rfl rfl (by decide) (za rfl rfl trivial (za rfl rfl trivial ?_)))))
           have jk29 : k0 < b.Map.Wall.length := by first | assumption | omega | (simp only [List.length_set, List.length_append]; omega) | (simp only [IntKind.wrap_i64] at *; omega) | (simp; omega) | simp_all
           refine zS (k := k0) rfl rfl rfl rfl jk29 (zgg jk29) rfl (zaf rfl rfl rfl (zeS (zaz jk29)) rfl (zl rfl rfl rfl rfl rfl trivial (zc (ze ?_))))
           refine zy rfl (fun h30 => ?_) (fun h30 => ?_)
           ·have g30 : ¬ ((a.Map.Wall.getD k0 default) = (b.Map.Wall.getD k0 default)) := zcL (zcl h30)
            refine zd (zb rfl (za rfl rfl trivial (zc (ze (zo (zad (zI (zbH (zad (zcJ (zI ?_)))))))))))
            have e31 : zbL a b (a.Map.Wall.length - 0) 0 = .inl false := by
             rewrite [← hI0, hm0]
             rewrite [zbL]
             try dsimp only
             rewrite [if_neg g30]
             all_goals rfl
            have e32 : zbj a b = false := by
             unfold zbj
             try dsimp only
             rewrite [if_pos g2, if_pos g5, if_pos g8, if_pos g11, if_pos g14, if_pos g17, if_pos g20, if_pos g23, e31]
             try dsimp only
             all_goals rfl
            rw [e32]
            exact zp rfl ⟨trivial, trivial⟩ (rfl) rfl
           ·have g30 : (a.Map.Wall.getD k0 default) = (b.Map.Wall.getD k0 default) := zcF (zcm h30)
            refine zA (zar (ze (zb rfl (za rfl rfl trivial (zl rfl rfl rfl rfl rfl trivial (za rfl rfl trivial (zc ?_)))))))
            have e34 : zbL a b (a.Map.Wall.length - k0) k0 = zbL a b (a.Map.Wall.length - (k0 + 1)) (k0 + 1) := by
             rewrite [hm0]
             rewrite [zbL]
             try dsimp only
             rewrite [if_pos g30]
             all_goals rfl
            exact z5 (k0 + 1) ⟨e34.symm.trans hI0, (by omega)⟩ (by show a.Map.Wall.length - (k0 + 1) < a.Map.Wall.length - k0; omega) (zH.ren [] (by decide +kernel) (by decide +kernel) rfl ⟨⟨rfl, rfl⟩, ⟨rfl, rfl⟩, ⟨congrArg (fun n => some (I n)) (zcv (k := k0) (by first | omega | (simp; omega))), rfl⟩, trivial⟩ ⟨⟨rfl, rfl, rfl⟩, ⟨rfl, rfl, rfl⟩, trivial⟩ (by decide))
          ·have g27 : ¬ ((k0 : Int) < a.Map.Wall.length) := of_decide_eq_false h27
           have hm0 : a.Map.Wall.length - k0 = 0 := by omega
           refine zV (zac (zal (zak rfl ?_)))
           have e35 : zbL a b (a.Map.Wall.length - 0) 0 = .inr () := by
            rewrite [← hI0, hm0]
            rewrite [zbL]
            try dsimp only
            all_goals rfl
           exact zZ () e35 (zH.ren [] (by decide +kernel) (by decide +kernel) rfl ⟨⟨rfl, rfl⟩, ⟨rfl, rfl⟩, trivial⟩ ⟨⟨rfl, rfl, rfl⟩, ⟨rfl, rfl, rfl⟩, trivial⟩ (by decide))
         ·rintro ⟨⟩ (hJ25 : zbL a b (a.Map.Wall.length - 0) 0 = .inr ())
          show seqK _ _ _ .normal (⟨[(2, .ptr 0 0), (3, .ptr 1 0)], [(0, .box [.pv (.slc a.Abilities.length false (a.Abilities.flatMap zj)), .pv (.slc a.Auras.length false (a.Auras.flatMap zq)), .pv (.slc a.Foes.length false (a.Foes.flatMap zw)), I a.Map.W, I a.Map.H, .pv (.slc a.Map.Wall.length false (encB a.Map.Wall)), I a.Door.X, I a.Door.Y, I a.Lair.X, I a.Lair.Y]), (1, .box [.pv (.slc b.Abilities.length false (b.Abilities.flatMap zj)), .pv (.slc b.Auras.length false (b.Auras.flatMap zq)), .pv (.slc b.Foes.length false (b.Foes.flatMap zw)), I b.Map.W, I b.Map.H, .pv (.slc b.Map.Wall.length false (encB b.Map.Wall)), I b.Door.X, I b.Door.Y, I b.Lair.X, I b.Lair.Y])], 2, [], 158, 0⟩ : St)
          refine ze (zd (zd (zb rfl (za rfl rfl trivial (zc (ze ?_))))))
          refine z6 (fun w_ : Unit => match w_ with | () => (⟨[(2, .ptr 0 0), (3, .ptr 1 0)], [(0, .box [.pv (.slc a.Abilities.length false (a.Abilities.flatMap zj)), .pv (.slc a.Auras.length false (a.Auras.flatMap zq)), .pv (.slc a.Foes.length false (a.Foes.flatMap zw)), I a.Map.W, I a.Map.H, .pv (.slc a.Map.Wall.length false (encB a.Map.Wall)), I a.Door.X, I a.Door.Y, I a.Lair.X, I a.Lair.Y]), (1, .box [.pv (.slc b.Abilities.length false (b.Abilities.flatMap zj)), .pv (.slc b.Auras.length false (b.Auras.flatMap zq)), .pv (.slc b.Foes.length false (b.Foes.flatMap zw)), I b.Map.W, I b.Map.H, .pv (.slc b.Map.Wall.length false (encB b.Map.Wall)), I b.Door.X, I b.Door.Y, I b.Lair.X, I b.Lair.Y])], 2, [], 158, 0⟩ : St)) (fun w_ => zbI a b (a.Abilities.length - 0) 0 = .inr w_) ?_ ?_
          ·refine zC ?_
           refine z9 (fun k1 : Nat => (⟨[(2, .ptr 0 0), (3, .ptr 1 0), (6, I k1)], [(0, .box [.pv (.slc a.Abilities.length false (a.Abilities.flatMap zj)), .pv (.slc a.Auras.length false (a.Auras.flatMap zq)), .pv (.slc a.Foes.length false (a.Foes.flatMap zw)), I a.Map.W, I a.Map.H, .pv (.slc a.Map.Wall.length false (encB a.Map.Wall)), I a.Door.X, I a.Door.Y, I a.Lair.X, I a.Lair.Y]), (1, .box [.pv (.slc b.Abilities.length false (b.Abilities.flatMap zj)), .pv (.slc b.Auras.length false (b.Auras.flatMap zq)), .pv (.slc b.Foes.length false (b.Foes.flatMap zw)), I b.Map.W, I b.Map.H, .pv (.slc b.Map.Wall.length false (encB b.Map.Wall)), I b.Door.X, I b.Door.Y, I b.Lair.X, I b.Lair.Y])], 2, [], 158, 0⟩ : St)) (fun k1 : Nat => zbI a b (a.Abilities.length - k1) k1 = zbI a b (a.Abilities.length - 0) 0 ∧ k1 ≤ a.Abilities.length) (fun k1 : Nat => a.Abilities.length - k1) 0 (⟨rfl, (by first | omega | (simp; omega))⟩) ?_ (fun k1 hh_ => ?_)
           ·exact (zH.ren [] (by decide +kernel) (by decide +kernel) rfl ⟨⟨rfl, rfl⟩, ⟨rfl, rfl⟩, ⟨rfl, rfl⟩, trivial⟩ ⟨⟨rfl, rfl, rfl⟩, ⟨rfl, rfl, rfl⟩, trivial⟩ (by decide))
           obtain ⟨hI1, hb1⟩ := hh_
           show zO Tryz.prog _ _ (⟨[(2, .ptr 0 0), (3, .ptr 1 0), (6, I k1)], [(0, .box [.pv (.slc a.Abilities.length false (a.Abilities.flatMap zj)), .pv (.slc a.Auras.length false (a.Auras.flatMap zq)), .pv (.slc a.Foes.length false (a.Foes.flatMap zw)), I a.Map.W, I a.Map.H, .pv (.slc a.Map.Wall.length false (encB a.Map.Wall)), I a.Door.X, I a.Door.Y, I a.Lair.X, I a.Lair.Y]), (1, .box [.pv (.slc b.Abilities.length false (b.Abilities.flatMap zj)), .pv (.slc b.Auras.length false (b.Auras.flatMap zq)), .pv (.slc b.Foes.length false (b.Foes.flatMap zw)), I b.Map.W, I b.Map.H, .pv (.slc b.Map.Wall.length false (encB b.Map.Wall)), I b.Door.X, I b.Door.Y, I b.Lair.X, I b.Lair.Y])], 2, [], 158, 0⟩ : St)
           refine zd (zd (zb rfl (za rfl rfl trivial (za rfl rfl (by decide) (za rfl rfl trivial (za rfl rfl trivial (zl rfl rfl rfl rfl rfl trivial (zc (ze ?_)))))))))
           refine zy rfl (fun h38 => ?_) (fun h38 => ?_)
           ·have g38 : (k1 : Int) < a.Abilities.length := of_decide_eq_true h38
            have hm1 : a.Abilities.length - k1 = (a.Abilities.length - (k1 + 1)) + 1 := by omega
            refine zA (ze (zd (zC (zd ?_))))
            refine zaW rfl (by decide +kernel) rfl ?_
            refine za rfl rfl (by decide) (za rfl rfl trivial (za rfl rfl trivial ?_))
            have jk39 : k1 < a.Abilities.length := by first | assumption | omega | (simp only [List.length_set, List.length_append]; omega) | (simp only [IntKind.wrap_i64] at *; omega) | (simp; omega) | simp_all
            refine zS (k := k1) rfl rfl rfl rfl jk39 (zaj (s := 8) (enc := zj) (fun _ => rfl) (by decide) jk39) rfl (zJ rfl rfl rfl (zap (s := 8) (enc := zj) (fun _ => rfl) jk39) (z2 (s := 8) (enc := zj) (fun _ => rfl) (zaz jk39)) rfl (za rfl rfl (by decide) (za rfl rfl trivial (za rfl rfl trivial ?_))))
            have jk40 : k1 < b.Abilities.length := by first | assumption | omega | (simp only [List.length_set, List.length_append]; omega) | (simp only [IntKind.wrap_i64] at *; omega) | (simp; omega) | simp_all
            refine zS (k := k1) rfl rfl rfl rfl jk40 (zaj (s := 8) (enc := zj) (fun _ => rfl) (by decide) jk40) rfl (zJ rfl rfl rfl (zap (s := 8) (enc := zj) (fun _ => rfl) jk40) (z2 (s := 8) (enc := zj) (fun _ => rfl) (zaz jk40)) rfl (zF rfl rfl rfl rfl (zn1 (a.Abilities.getD k1 default) (b.Abilities.getD k1 default)) rfl rfl rfl (za rfl rfl trivial (zc (ze (zd (zb rfl (za rfl rfl trivial (za rfl rfl trivial (zc (ze ?_)))))))))))
            refine zy rfl (fun h42 => ?_) (fun h42 => ?_)
            ·have g42 : ¬ (zb3 (a.Abilities.getD k1 default) (b.Abilities.getD k1 default) = true) := zaw (zcl h42)
             refine zd (zb rfl (za rfl rfl trivial (zc (ze (zo (zad (zI (zbH (zad (zcJ (zI ?_)))))))))))
             have e43 : zbI a b (a.Abilities.length - 0) 0 = .inl false := by
              rewrite [← hI1, hm1]
              rewrite [zbI]
              try dsimp only
              rewrite [if_neg g42]
              all_goals rfl
             have e44 : zbj a b = false := by
              unfold zbj
              try dsimp only
              rewrite [if_pos g2, if_pos g5, if_pos g8, if_pos g11, if_pos g14, if_pos g17, if_pos g20, if_pos g23, hJ25]
              try dsimp only
              rewrite [e43]
              try dsimp only
              all_goals rfl
             rw [e44]
             exact zp rfl ⟨trivial, trivial⟩ (rfl) rfl
            ·have g42 : zb3 (a.Abilities.getD k1 default) (b.Abilities.getD k1 default) = true := (zcm h42)
             refine zA (zar (ze (zb rfl (za rfl rfl trivial (zl rfl rfl rfl rfl rfl trivial (za rfl rfl trivial (zc ?_)))))))
             have e46 : zbI a b (a.Abilities.length - k1) k1 = zbI a b (a.Abilities.length - (k1 + 1)) (k1 + 1) := by
              rewrite [hm1]
              rewrite [zbI]
              try dsimp only
              rewrite [if_pos g42]
              all_goals rfl
             exact z5 (k1 + 1) ⟨e46.symm.trans hI1, (by omega)⟩ (by show a.Abilities.length - (k1 + 1) < a.Abilities.length - k1; omega) (zH.ren [] (by decide +kernel) (by decide +kernel) rfl ⟨⟨rfl, rfl⟩, ⟨rfl, rfl⟩, ⟨congrArg (fun n => some (I n)) (zcv (k := k1) (by first | omega | (simp; omega))), rfl⟩, trivial⟩ ⟨⟨rfl, rfl, rfl⟩, ⟨rfl, rfl, rfl⟩, trivial⟩ (by decide))
           ·have g38 : ¬ ((k1 : Int) < a.Abilities.length) := of_decide_eq_false h38
            have hm1 : a.Abilities.length - k1 = 0 := by omega
            refine zV (zac (zal (zak rfl ?_)))
            have e47 : zbI a b (a.Abilities.length - 0) 0 = .inr () := by
             rewrite [← hI1, hm1]
             rewrite [zbI]
             try dsimp only
             all_goals rfl
            exact zZ () e47 (zH.ren [] (by decide +kernel) (by decide +kernel) rfl ⟨⟨rfl, rfl⟩, ⟨rfl, rfl⟩, trivial⟩ ⟨⟨rfl, rfl, rfl⟩, ⟨rfl, rfl, rfl⟩, trivial⟩ (by decide))
          ·rintro ⟨⟩ (hJ36 : zbI a b (a.Abilities.length - 0) 0 = .inr ())
           show seqK _ _ _ .normal (⟨[(2, .ptr 0 0), (3, .ptr 1 0)], [(0, .box [.pv (.slc a.Abilities.length false (a.Abilities.flatMap zj)), .pv (.slc a.Auras.length false (a.Auras.flatMap zq)), .pv (.slc a.Foes.length false (a.Foes.flatMap zw)), I a.Map.W, I a.Map.H, .pv (.slc a.Map.Wall.length false (encB a.Map.Wall)), I a.Door.X, I a.Door.Y, I a.Lair.X, I a.Lair.Y]), (1, .box [.pv (.slc b.Abilities.length false (b.Abilities.flatMap zj)), .pv (.slc b.Auras.length false (b.Auras.flatMap zq)), .pv (.slc b.Foes.length false (b.Foes.flatMap zw)), I b.Map.W, I b.Map.H, .pv (.slc b.Map.Wall.length false (encB b.Map.Wall)), I b.Door.X, I b.Door.Y, I b.Lair.X, I b.Lair.Y])], 2, [], 158, 0⟩ : St)
           refine ze (zd (zd (zb rfl (za rfl rfl trivial (zc (ze ?_))))))
           refine z6 (fun w_ : Unit => match w_ with | () => (⟨[(2, .ptr 0 0), (3, .ptr 1 0)], [(0, .box [.pv (.slc a.Abilities.length false (a.Abilities.flatMap zj)), .pv (.slc a.Auras.length false (a.Auras.flatMap zq)), .pv (.slc a.Foes.length false (a.Foes.flatMap zw)), I a.Map.W, I a.Map.H, .pv (.slc a.Map.Wall.length false (encB a.Map.Wall)), I a.Door.X, I a.Door.Y, I a.Lair.X, I a.Lair.Y]), (1, .box [.pv (.slc b.Abilities.length false (b.Abilities.flatMap zj)), .pv (.slc b.Auras.length false (b.Auras.flatMap zq)), .pv (.slc b.Foes.length false (b.Foes.flatMap zw)), I b.Map.W, I b.Map.H, .pv (.slc b.Map.Wall.length false (encB b.Map.Wall)), I b.Door.X, I b.Door.Y, I b.Lair.X, I b.Lair.Y])], 2, [], 158, 0⟩ : St)) (fun w_ => zbJ a b (a.Auras.length - 0) 0 = .inr w_) ?_ ?_
           ·refine zC ?_
            refine z9 (fun k2 : Nat => (⟨[(2, .ptr 0 0), (3, .ptr 1 0), (8, I k2)], [(0, .box [.pv (.slc a.Abilities.length false (a.Abilities.flatMap zj)), .pv (.slc a.Auras.length false (a.Auras.flatMap zq)), .pv (.slc a.Foes.length false (a.Foes.flatMap zw)), I a.Map.W, I a.Map.H, .pv (.slc a.Map.Wall.length false (encB a.Map.Wall)), I a.Door.X, I a.Door.Y, I a.Lair.X, I a.Lair.Y]), (1, .box [.pv (.slc b.Abilities.length false (b.Abilities.flatMap zj)), .pv (.slc b.Auras.length false (b.Auras.flatMap zq)), .pv (.slc b.Foes.length false (b.Foes.flatMap zw)), I b.Map.W, I b.Map.H, .pv (.slc b.Map.Wall.length false (encB b.Map.Wall)), I b.Door.X, I b.Door.Y, I b.Lair.X, I b.Lair.Y])], 2, [], 158, 0⟩ : St)) (fun k2 : Nat => zbJ a b (a.Auras.length - k2) k2 = zbJ a b (a.Auras.length - 0) 0 ∧ k2 ≤ a.Auras.length) (fun k2 : Nat => a.Auras.length - k2) 0 (⟨rfl, (by first | omega | (simp; omega))⟩) ?_ (fun k2 hh_ => ?_)
            ·exact (zH.ren [] (by decide +kernel) (by decide +kernel) rfl ⟨⟨rfl, rfl⟩, ⟨rfl, rfl⟩, ⟨rfl, rfl⟩, trivial⟩ ⟨⟨rfl, rfl, rfl⟩, ⟨rfl, rfl, rfl⟩, trivial⟩ (by decide))
            obtain ⟨hI2, hb2⟩ := hh_
            show zO Tryz.prog _ _ (⟨[(2, .ptr 0 0), (3, .ptr 1 0), (8, I k2)], [(0, .box [.pv (.slc a.Abilities.length false (a.Abilities.flatMap zj)), .pv (.slc a.Auras.length false (a.Auras.flatMap zq)), .pv (.slc a.Foes.length false (a.Foes.flatMap zw)), I a.Map.W, I a.Map.H, .pv (.slc a.Map.Wall.length false (encB a.Map.Wall)), I a.Door.X, I a.Door.Y, I a.Lair.X, I a.Lair.Y]), (1, .box [.pv (.slc b.Abilities.length false (b.Abilities.flatMap zj)), .pv (.slc b.Auras.length false (b.Auras.flatMap zq)), .pv (.slc b.Foes.length false (b.Foes.flatMap zw)), I b.Map.W, I b.Map.H, .pv (.slc b.Map.Wall.length false (encB b.Map.Wall)), I b.Door.X, I b.Door.Y, I b.Lair.X, I b.Lair.Y])], 2, [], 158, 0⟩ : St)
            refine zd (zd (zb rfl (za rfl rfl trivial (za rfl rfl (by decide) (za rfl rfl trivial (za rfl rfl trivial (zl rfl rfl rfl rfl rfl trivial (zc (ze ?_)))))))))
            refine zy rfl (fun h50 => ?_) (fun h50 => ?_)
            ·have g50 : (k2 : Int) < a.Auras.length := of_decide_eq_true h50
             have hm2 : a.Auras.length - k2 = (a.Auras.length - (k2 + 1)) + 1 := by omega
             refine zA (ze (zd (zC (zd ?_))))
             refine zaW rfl (by decide +kernel) rfl ?_
             refine za rfl rfl (by decide) (za rfl rfl trivial (za rfl rfl trivial ?_))
             have jk51 : k2 < a.Auras.length := by first | assumption | omega | (simp only [List.length_set, List.length_append]; omega) | (simp only [IntKind.wrap_i64] at *; omega) | (simp; omega) | simp_all
             refine zS (k := k2) rfl rfl rfl rfl jk51 (zaj (s := 7) (enc := zq) (fun _ => rfl) (by decide) jk51) rfl (zJ rfl rfl rfl (zap (s := 7) (enc := zq) (fun _ => rfl) jk51) (z2 (s := 7) (enc := zq) (fun _ => rfl) (zaz jk51)) rfl (za rfl rfl (by decide) (za rfl rfl trivial (za rfl rfl trivial ?_))))
             have jk52 : k2 < b.Auras.length := by first | assumption | omega | (simp only [List.length_set, List.length_append]; omega) | (simp only [IntKind.wrap_i64] at *; omega) | (simp; omega) | simp_all
             refine zS (k := k2) rfl rfl rfl rfl jk52 (zaj (s := 7) (enc := zq) (fun _ => rfl) (by decide) jk52) rfl (zJ rfl rfl rfl (zap (s := 7) (enc := zq) (fun _ => rfl) jk52) (z2 (s := 7) (enc := zq) (fun _ => rfl) (zaz jk52)) rfl ?_)
             refine zcw rfl rfl rfl (by kernel_rfl) rfl rfl rfl rfl rfl ?_
             refine zc (ze ?_)
             refine zy rfl (fun h53 => ?_) (fun h53 => ?_)
             ·have g53 : ¬ (((((a.Auras.getD k2 default).Id) == ((b.Auras.getD k2 default).Id)) && ((((a.Auras.getD k2 default).Kind) == ((b.Auras.getD k2 default).Kind)) && ((((a.Auras.getD k2 default).Ticks) == ((b.Auras.getD k2 default).Ticks)) && ((((a.Auras.getD k2 default).Every) == ((b.Auras.getD k2 default).Every)) && ((((a.Auras.getD k2 default).Stacks) == ((b.Auras.getD k2 default).Stacks)) && ((((a.Auras.getD k2 default).Amount) == ((b.Auras.getD k2 default).Amount)) && ((((a.Auras.getD k2 default).Harm) == ((b.Auras.getD k2 default).Harm)) && true))))))) = true) := zaw (zcl h53)
              refine zd (zb rfl (za rfl rfl trivial (zc (ze (zo (zad (zI (zbH (zad (zcJ (zI ?_)))))))))))
              have e54 : zbJ a b (a.Auras.length - 0) 0 = .inl false := by
               rewrite [← hI2, hm2]
               rewrite [zbJ]
               try dsimp only
               rewrite [if_neg g53]
               all_goals rfl
              have e55 : zbj a b = false := by
               unfold zbj
               try dsimp only
               rewrite [if_pos g2, if_pos g5, if_pos g8, if_pos g11, if_pos g14, if_pos g17, if_pos g20, if_pos g23, hJ25]
               try dsimp only
               rewrite [hJ36]
               try dsimp only
               rewrite [e54]
               try dsimp only
               all_goals rfl
              rw [e55]
              exact zp rfl ⟨trivial, trivial⟩ (rfl) rfl
             ·have g53 : ((((a.Auras.getD k2 default).Id) == ((b.Auras.getD k2 default).Id)) && ((((a.Auras.getD k2 default).Kind) == ((b.Auras.getD k2 default).Kind)) && ((((a.Auras.getD k2 default).Ticks) == ((b.Auras.getD k2 default).Ticks)) && ((((a.Auras.getD k2 default).Every) == ((b.Auras.getD k2 default).Every)) && ((((a.Auras.getD k2 default).Stacks) == ((b.Auras.getD k2 default).Stacks)) && ((((a.Auras.getD k2 default).Amount) == ((b.Auras.getD k2 default).Amount)) && ((((a.Auras.getD k2 default).Harm) == ((b.Auras.getD k2 default).Harm)) && true))))))) = true := (zcm h53)
              refine zA (zar (ze (zb rfl (za rfl rfl trivial (zl rfl rfl rfl rfl rfl trivial (za rfl rfl trivial (zc ?_)))))))
              have e57 : zbJ a b (a.Auras.length - k2) k2 = zbJ a b (a.Auras.length - (k2 + 1)) (k2 + 1) := by
               rewrite [hm2]
               rewrite [zbJ]
               try dsimp only
               rewrite [if_pos g53]
               all_goals rfl
              exact z5 (k2 + 1) ⟨e57.symm.trans hI2, (by omega)⟩ (by show a.Auras.length - (k2 + 1) < a.Auras.length - k2; omega) (zH.ren [] (by decide +kernel) (by decide +kernel) rfl ⟨⟨rfl, rfl⟩, ⟨rfl, rfl⟩, ⟨congrArg (fun n => some (I n)) (zcv (k := k2) (by first | omega | (simp; omega))), rfl⟩, trivial⟩ ⟨⟨rfl, rfl, rfl⟩, ⟨rfl, rfl, rfl⟩, trivial⟩ (by decide))
            ·have g50 : ¬ ((k2 : Int) < a.Auras.length) := of_decide_eq_false h50
             have hm2 : a.Auras.length - k2 = 0 := by omega
             refine zV (zac (zal (zak rfl ?_)))
             have e58 : zbJ a b (a.Auras.length - 0) 0 = .inr () := by
              rewrite [← hI2, hm2]
              rewrite [zbJ]
              try dsimp only
              all_goals rfl
             exact zZ () e58 (zH.ren [] (by decide +kernel) (by decide +kernel) rfl ⟨⟨rfl, rfl⟩, ⟨rfl, rfl⟩, trivial⟩ ⟨⟨rfl, rfl, rfl⟩, ⟨rfl, rfl, rfl⟩, trivial⟩ (by decide))
           ·rintro ⟨⟩ (hJ48 : zbJ a b (a.Auras.length - 0) 0 = .inr ())
            show seqK _ _ _ .normal (⟨[(2, .ptr 0 0), (3, .ptr 1 0)], [(0, .box [.pv (.slc a.Abilities.length false (a.Abilities.flatMap zj)), .pv (.slc a.Auras.length false (a.Auras.flatMap zq)), .pv (.slc a.Foes.length false (a.Foes.flatMap zw)), I a.Map.W, I a.Map.H, .pv (.slc a.Map.Wall.length false (encB a.Map.Wall)), I a.Door.X, I a.Door.Y, I a.Lair.X, I a.Lair.Y]), (1, .box [.pv (.slc b.Abilities.length false (b.Abilities.flatMap zj)), .pv (.slc b.Auras.length false (b.Auras.flatMap zq)), .pv (.slc b.Foes.length false (b.Foes.flatMap zw)), I b.Map.W, I b.Map.H, .pv (.slc b.Map.Wall.length false (encB b.Map.Wall)), I b.Door.X, I b.Door.Y, I b.Lair.X, I b.Lair.Y])], 2, [], 158, 0⟩ : St)
            refine ze (zd (zd (zb rfl (za rfl rfl trivial (zc (ze ?_))))))
            refine z6 (fun w_ : Unit => match w_ with | () => (⟨[], [], 0, [], 158, 0⟩ : St)) (fun w_ => zbM a b (a.Foes.length - 0) 0 = .inr w_) ?_ ?_
            ·refine zC ?_
             refine z9 (fun k3 : Nat => (⟨[(2, .ptr 0 0), (3, .ptr 1 0), (9, I k3)], [(0, .box [.pv (.slc a.Abilities.length false (a.Abilities.flatMap zj)), .pv (.slc a.Auras.length false (a.Auras.flatMap zq)), .pv (.slc a.Foes.length false (a.Foes.flatMap zw)), I a.Map.W, I a.Map.H, .pv (.slc a.Map.Wall.length false (encB a.Map.Wall)), I a.Door.X, I a.Door.Y, I a.Lair.X, I a.Lair.Y]), (1, .box [.pv (.slc b.Abilities.length false (b.Abilities.flatMap zj)), .pv (.slc b.Auras.length false (b.Auras.flatMap zq)), .pv (.slc b.Foes.length false (b.Foes.flatMap zw)), I b.Map.W, I b.Map.H, .pv (.slc b.Map.Wall.length false (encB b.Map.Wall)), I b.Door.X, I b.Door.Y, I b.Lair.X, I b.Lair.Y])], 2, [], 158, 0⟩ : St)) (fun k3 : Nat => zbM a b (a.Foes.length - k3) k3 = zbM a b (a.Foes.length - 0) 0 ∧ k3 ≤ a.Foes.length) (fun k3 : Nat => a.Foes.length - k3) 0 (⟨rfl, (by first | omega | (simp; omega))⟩) ?_ (fun k3 hh_ => ?_)
             ·exact (zH.ren [] (by decide +kernel) (by decide +kernel) rfl ⟨⟨rfl, rfl⟩, ⟨rfl, rfl⟩, ⟨rfl, rfl⟩, trivial⟩ ⟨⟨rfl, rfl, rfl⟩, ⟨rfl, rfl, rfl⟩, trivial⟩ (by decide))
             obtain ⟨hI3, hb3⟩ := hh_
             show zO Tryz.prog _ _ (⟨[(2, .ptr 0 0), (3, .ptr 1 0), (9, I k3)], [(0, .box [.pv (.slc a.Abilities.length false (a.Abilities.flatMap zj)), .pv (.slc a.Auras.length false (a.Auras.flatMap zq)), .pv (.slc a.Foes.length false (a.Foes.flatMap zw)), I a.Map.W, I a.Map.H, .pv (.slc a.Map.Wall.length false (encB a.Map.Wall)), I a.Door.X, I a.Door.Y, I a.Lair.X, I a.Lair.Y]), (1, .box [.pv (.slc b.Abilities.length false (b.Abilities.flatMap zj)), .pv (.slc b.Auras.length false (b.Auras.flatMap zq)), .pv (.slc b.Foes.length false (b.Foes.flatMap zw)), I b.Map.W, I b.Map.H, .pv (.slc b.Map.Wall.length false (encB b.Map.Wall)), I b.Door.X, I b.Door.Y, I b.Lair.X, I b.Lair.Y])], 2, [], 158, 0⟩ : St)
             refine zd (zd (zb rfl (za rfl rfl trivial (za rfl rfl (by decide) (za rfl rfl trivial (za rfl rfl trivial (zl rfl rfl rfl rfl rfl trivial (zc (ze ?_)))))))))
             refine zy rfl (fun h61 => ?_) (fun h61 => ?_)
             ·have g61 : (k3 : Int) < a.Foes.length := of_decide_eq_true h61
              have hm3 : a.Foes.length - k3 = (a.Foes.length - (k3 + 1)) + 1 := by omega
              refine zA (ze (zd (zC (zd ?_))))
              refine zaW rfl (by decide +kernel) rfl ?_
              refine za rfl rfl (by decide) (za rfl rfl trivial (za rfl rfl trivial ?_))
              have jk62 : k3 < a.Foes.length := by first | assumption | omega | (simp only [List.length_set, List.length_append]; omega) | (simp only [IntKind.wrap_i64] at *; omega) | (simp; omega) | simp_all
              refine zS (k := k3) rfl rfl rfl rfl jk62 (zaj (s := 8) (enc := zw) (fun _ => rfl) (by decide) jk62) rfl (zJ rfl rfl rfl (zap (s := 8) (enc := zw) (fun _ => rfl) jk62) (z2 (s := 8) (enc := zw) (fun _ => rfl) (zaz jk62)) rfl (za rfl rfl (by decide) (za rfl rfl trivial (za rfl rfl trivial ?_))))
              have jk63 : k3 < b.Foes.length := by first | assumption | omega | (simp only [List.length_set, List.length_append]; omega) | (simp only [IntKind.wrap_i64] at *; omega) | (simp; omega) | simp_all
              refine zS (k := k3) rfl rfl rfl rfl jk63 (zaj (s := 8) (enc := zw) (fun _ => rfl) (by decide) jk63) rfl (zJ rfl rfl rfl (zap (s := 8) (enc := zw) (fun _ => rfl) jk63) (z2 (s := 8) (enc := zw) (fun _ => rfl) (zaz jk63)) rfl (zF rfl rfl rfl rfl (zn2 (a.Foes.getD k3 default) (b.Foes.getD k3 default)) rfl rfl rfl (za rfl rfl trivial (zc (ze (zd (zb rfl (za rfl rfl trivial (za rfl rfl trivial (zc (ze ?_)))))))))))
              refine zy rfl (fun h65 => ?_) (fun h65 => ?_)
              ·have g65 : ¬ (zbQ (a.Foes.getD k3 default) (b.Foes.getD k3 default) = true) := zaw (zcl h65)
               refine zd (zb rfl (za rfl rfl trivial (zc (ze (zo (zad (zI (zbH (zad (zcJ (zI ?_)))))))))))
               have e66 : zbM a b (a.Foes.length - 0) 0 = .inl false := by
                rewrite [← hI3, hm3]
                rewrite [zbM]
                try dsimp only
                rewrite [if_neg g65]
                all_goals rfl
               have e67 : zbj a b = false := by
                unfold zbj
                try dsimp only
                rewrite [if_pos g2, if_pos g5, if_pos g8, if_pos g11, if_pos g14, if_pos g17, if_pos g20, if_pos g23, hJ25]
                try dsimp only
                rewrite [hJ36]
                try dsimp only
                rewrite [hJ48]
                try dsimp only
                rewrite [e66]
                try dsimp only
                all_goals rfl
               rw [e67]
               exact zp rfl ⟨trivial, trivial⟩ (rfl) rfl
              ·have g65 : zbQ (a.Foes.getD k3 default) (b.Foes.getD k3 default) = true := (zcm h65)
               refine zA (zar (ze (zb rfl (za rfl rfl trivial (zl rfl rfl rfl rfl rfl trivial (za rfl rfl trivial (zc ?_)))))))
               have e69 : zbM a b (a.Foes.length - k3) k3 = zbM a b (a.Foes.length - (k3 + 1)) (k3 + 1) := by
                rewrite [hm3]
                rewrite [zbM]
                try dsimp only
                rewrite [if_pos g65]
                all_goals rfl
               exact z5 (k3 + 1) ⟨e69.symm.trans hI3, (by omega)⟩ (by show a.Foes.length - (k3 + 1) < a.Foes.length - k3; omega) (zH.ren [] (by decide +kernel) (by decide +kernel) rfl ⟨⟨rfl, rfl⟩, ⟨rfl, rfl⟩, ⟨congrArg (fun n => some (I n)) (zcv (k := k3) (by first | omega | (simp; omega))), rfl⟩, trivial⟩ ⟨⟨rfl, rfl, rfl⟩, ⟨rfl, rfl, rfl⟩, trivial⟩ (by decide))
             ·have g61 : ¬ ((k3 : Int) < a.Foes.length) := of_decide_eq_false h61
              have hm3 : a.Foes.length - k3 = 0 := by omega
              refine zV (zac (zal (zak rfl ?_)))
              have e70 : zbM a b (a.Foes.length - 0) 0 = .inr () := by
               rewrite [← hI3, hm3]
               rewrite [zbM]
               try dsimp only
               all_goals rfl
              exact zZ () e70 (zH.ren [] (by decide +kernel) (by decide +kernel) rfl trivial trivial (by decide))
            ·rintro ⟨⟩ (hJ59 : zbM a b (a.Foes.length - 0) 0 = .inr ())
             show seqK _ _ _ .normal (⟨[], [], 0, [], 158, 0⟩ : St)
             refine ze (zd (zb rfl (za rfl rfl trivial (zc (ze (zo ?_))))))
             have e71 : zbj a b = true := by
              unfold zbj
              try dsimp only
              rewrite [if_pos g2, if_pos g5, if_pos g8, if_pos g11, if_pos g14, if_pos g17, if_pos g20, if_pos g23, hJ25]
              try dsimp only
              rewrite [hJ36]
              try dsimp only
              rewrite [hJ48]
              try dsimp only
              rewrite [hJ59]
              try dsimp only
              all_goals rfl
             rw [e71]
             exact zp rfl ⟨trivial, trivial⟩ (rfl) rfl
end Go.Proofs.YtppnccjeggnllaaGreat

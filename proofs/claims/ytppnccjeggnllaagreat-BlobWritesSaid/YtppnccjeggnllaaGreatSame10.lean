import Derived.Test.YtppnccjeggnllaaGreatCopy09
namespace Go.Proofs.YtppnccjeggnllaaGreat
open Go Go.RowKit Go.Proofs.YtppnccjeggnllaaGreatVm
attribute [local irreducible] zY zas OpsS
set_option maxHeartbeats 400000
set_option maxRecDepth 100000
set_option linter.all false
def zbk (a : List Int) (b : List Int) : Nat → Nat → Sum Bool Unit
  | 0, k0 => .inr ()
  | n_ + 1, k0 => if (a.getD k0 default : Int) = (b.getD k0 default) then zbk a b n_ (k0 + 1) else .inl false
def zeu (a : List Int) (b : List Int) : Bool :=
  if (a.length : Int) = b.length then (match zbk a b (a.length - 0) 0 with
    | .inl r_ => r_
    | .inr () => true) else false
theorem zrF (a : List Int) (a_f : Bool) (b : List Int) (b_f : Bool) : Ok Tryz.prog 11 [.pv (.slc a.length a_f (encI a)), .pv (.slc b.length b_f (encI b))] [] (B (zeu a b)) [] [] := by
 refine Ok.len fun hlen => ?_
 have hl_a := hlL (n := a.length) hlen
 have hl_b := hlL (n := b.length) hlen
 refine zx Tryz.func11 rfl ?_
 refine zg rfl (za rfl (zd (zm (zg rfl (za rfl (za rfl (za rfl (za rfl (zi rfl rfl rfl rfl rfl trivial (zd ?_))))))))))
 refine zr rfl (fun h1 => ?_) (fun h1 => ?_)
 ·have g1 : ¬ ((a.length : Int) = b.length) := zc9 h1
  refine zg rfl (za rfl (zd (zl (zE ?_))))
  have e2 : zeu a b = false := by
   unfold zeu
   try dsimp only
   rewrite [if_neg g1]
   all_goals rfl
  rw [e2]
  exact zk rfl ⟨trivial, trivial⟩ (rfl) rfl
 ·have g1 : (a.length : Int) = b.length := zdl h1
  refine zt (zu (zm (zg rfl (za rfl (zd ?_)))))
  refine zX (fun w_ : Unit => match w_ with | () => (⟨[], [], 0, [], 26, 0⟩ : St)) (fun w_ => zbk a b (a.length - 0) 0 = .inr w_) ?_ ?_
  ·refine zw ?_
   refine z1 (fun k0 : Nat => (⟨[(0, .pv (.slc a.length a_f (encI a))), (1, .pv (.slc b.length b_f (encI b))), (5, I k0)], [], 0, [], 26, 0⟩ : St)) (fun k0 : Nat => zbk a b (a.length - k0) k0 = zbk a b (a.length - 0) 0 ∧ k0 ≤ a.length) (fun k0 : Nat => a.length - k0) 0 (⟨rfl, aP2⟩) ?_ (fun k0 hh_ => ?_)
   ·exact (zD.ren [] aP1 aP1 rfl ⟨⟨rfl, rfl⟩, ⟨rfl, rfl⟩, ⟨rfl, rfl⟩, trivial⟩ trivial aP0)
   obtain ⟨hI0, hb0⟩ := hh_
   refine zm (zg rfl (za rfl (za rfl (za rfl (zi rfl rfl rfl rfl rfl trivial (zd ?_))))))
   refine zr rfl (fun h5 => ?_) (fun h5 => ?_)
   ·have g5 : (k0 : Int) < a.length := of_decide_eq_true h5
    have hm0 : a.length - k0 = (a.length - (k0 + 1)) + 1 := by omega
    refine zt (zu (zm (zw (zm ?_))))
    refine zav rfl aP1 rfl ?_
    refine za rfl (za rfl ?_)
    have jk6 : k0 < a.length := by first | assumption | omega | (simp only [List.length_set, List.length_append]; omega) | (simp only [IntKind.wrap_i64] at *; omega) | (simp; omega) | simp_all
    refine zJ (k := k0) rfl rfl rfl rfl jk6 (zfF jk6) rfl (zO rfl rfl rfl (zep (zaE jk6)) rfl (za rfl (za rfl ?_)))
    have jk7 : k0 < b.length := by first | assumption | omega | (simp only [List.length_set, List.length_append]; omega) | (simp only [IntKind.wrap_i64] at *; omega) | (simp; omega) | simp_all
    refine zJ (k := k0) rfl rfl rfl rfl jk7 (zfF jk7) rfl (zO rfl rfl rfl (zep (zaE jk7)) rfl (zi rfl rfl rfl rfl rfl trivial (zd ?_)))
    refine zr rfl (fun h8 => ?_) (fun h8 => ?_)
    ·have g8 : ¬ ((a.getD k0 default : Int) = (b.getD k0 default)) := zc9 h8
     refine zg rfl (za rfl (zd (zl (z8 (zE (zbm (z8 (zaz (zE ?_)))))))))
     have e9 : zbk a b (a.length - 0) 0 = .inl false := by
      rewrite [← hI0, hm0]
      rewrite [zbk]
      try dsimp only
      rewrite [if_neg g8]
      all_goals rfl
     have e10 : zeu a b = false := by
      unfold zeu
      try dsimp only
      rewrite [if_pos g1, e9]
      try dsimp only
      all_goals rfl
     rw [e10]
     exact zk rfl ⟨trivial, trivial⟩ (rfl) rfl
    ·have g8 : (a.getD k0 default : Int) = (b.getD k0 default) := zdl h8
     refine zt (zal (zu (zy rfl (za rfl (zi rfl rfl rfl rfl rfl trivial (za rfl (zq ?_)))))))
     have e12 : zbk a b (a.length - k0) k0 = zbk a b (a.length - (k0 + 1)) (k0 + 1) := by
      rewrite [hm0]
      rewrite [zbk]
      try dsimp only
      rewrite [if_pos g8]
      all_goals rfl
     exact zQ (k0 + 1) ⟨e12.symm.trans hI0, aP5⟩ (by show a.length - (k0 + 1) < a.length - k0; omega) (zD.ren [] aP1 aP1 rfl ⟨⟨rfl, rfl⟩, ⟨rfl, rfl⟩, ⟨congrArg (fun n => some (I n)) (zbS (k := k0) aP2), rfl⟩, trivial⟩ trivial aP0)
   ·have g5 : ¬ ((k0 : Int) < a.length) := of_decide_eq_false h5
    have hm0 : a.length - k0 = 0 := by omega
    refine zS (z5 (zag (zaf rfl ?_)))
    have e13 : zbk a b (a.length - 0) 0 = .inr () := by
     rewrite [← hI0, hm0]
     rewrite [zbk]
     try dsimp only
     all_goals rfl
    exact z0 () e13 (zD.ren [] aP1 aP1 rfl trivial trivial aP0)
  ·rintro ⟨⟩ (hJ3 : zbk a b (a.length - 0) 0 = .inr ())
   refine zu (zg rfl (za rfl (zd (zl ?_))))
   have e14 : zeu a b = true := by
    unfold zeu
    try dsimp only
    rewrite [if_pos g1, hJ3]
    try dsimp only
    all_goals rfl
   rw [e14]
   exact zk rfl ⟨trivial, trivial⟩ (rfl) rfl

def zbj (a : zI) (b : zI) : Nat → Nat → Sum Bool Unit
  | 0, k0 => .inr ()
  | n_ + 1, k0 => if ((((a.Effects.getD k0 default).Kind) == ((b.Effects.getD k0 default).Kind)) && ((((a.Effects.getD k0 default).Amount) == ((b.Effects.getD k0 default).Amount)) && ((((a.Effects.getD k0 default).Aura) == ((b.Effects.getD k0 default).Aura)) && true))) = true then zbj a b n_ (k0 + 1) else .inl false
def zb6 (a : zI) (b : zI) : Bool :=
  if (a.Id : Int) = b.Id then (if (a.Cast : Int) = b.Cast then (if (a.Cool : Int) = b.Cool then (if (a.Charges : Int) = b.Charges then (if (a.Range : Int) = b.Range then (if (a.Cost : Int) = b.Cost then (if a.Sight = b.Sight then (if (a.Effects.length : Int) = b.Effects.length then (match zbj a b (a.Effects.length - 0) 0 with
    | .inl r_ => r_
    | .inr () => true) else false) else false) else false) else false) else false) else false) else false) else false
theorem zrC (a : zI) (b : zI) : Ok Tryz.prog 36 [zaX a, zaX b] [] (B (zb6 a b)) [] [] := by
 refine Ok.len fun hlen => ?_
 have hl_a_Effects := hlL (n := a.Effects.length) hlen
 have hl_b_Effects := hlL (n := b.Effects.length) hlen
 refine zx Tryz.func36 rfl ?_
 refine zg rfl (zz (o := .box [_, _, _, _, _, _, _, _]) (nx' := 1) rfl rfl rfl trivial (zz (o := .box [_, _, _, _, _, _, _, _]) (nx' := 2) rfl rfl rfl trivial (za rfl (zd (zm (zg rfl (zh rfl rfl aP0 (za rfl (zh rfl rfl aP0 (za rfl (zi rfl rfl rfl rfl rfl trivial (za rfl ?_))))))))))))
 refine zG rfl (fun h2 => ?_) (fun h2 => ?_)
 ·have g2 : ¬ ((a.Id : Int) = b.Id) := zc9 h2
  refine zf rfl h2 rfl (zf rfl h2 rfl (zf rfl h2 rfl (zf rfl h2 rfl (zf rfl h2 rfl (zo rfl h2 rfl rfl (za rfl (zc rfl (zc rfl (zc rfl (zc rfl (zc rfl (za rfl (za rfl (zc rfl (zc rfl (zc rfl (zc rfl ?_)))))))))))))))))
  refine zc rfl (za rfl (za rfl (zc rfl (zc rfl (zc rfl (zc rfl (zc rfl (za rfl (za rfl (zc rfl (zc rfl (zc rfl (zc rfl (zc rfl (za rfl (za rfl (zc rfl ?_)))))))))))))))))
  refine zc rfl (zc rfl (zc rfl (zc rfl (za rfl (za rfl (zc rfl (zc rfl (zc rfl (zc rfl (zc rfl (zc rfl (zc rfl (za rfl (zd (zK rfl (zm ?_))))))))))))))))
  refine zy rfl (za rfl (zd (zl (zE ?_))))
  have e3 : zb6 a b = false := by
   unfold zb6
   try dsimp only
   rewrite [if_neg g2]
   all_goals rfl
  rw [e3]
  exact zk rfl ⟨trivial, trivial⟩ (rfl) rfl
 ·have g2 : (a.Id : Int) = b.Id := zdl h2
  refine ze rfl h2 (zh rfl rfl aP0 (ze rfl h2 (za rfl (ze rfl h2 (zh rfl rfl aP0 (ze rfl h2 (za rfl (ze rfl h2 (zi rfl rfl rfl rfl rfl trivial (zn rfl h2 rfl rfl (za rfl ?_)))))))))))
  refine zG rfl (fun h5 => ?_) (fun h5 => ?_)
  ·have g5 : ¬ ((a.Cast : Int) = b.Cast) := zc9 h5
   refine zf rfl h5 rfl (zf rfl h5 rfl (zf rfl h5 rfl (zf rfl h5 rfl (zf rfl h5 rfl (zo rfl h5 rfl rfl (za rfl (zc rfl (zc rfl (zc rfl (zc rfl (zc rfl (za rfl (za rfl (zc rfl (zc rfl (zc rfl (zc rfl ?_)))))))))))))))))
   refine zc rfl (za rfl (za rfl (zc rfl (zc rfl (zc rfl (zc rfl (zc rfl (za rfl (za rfl (zc rfl (zc rfl (zc rfl (zc rfl (zc rfl (za rfl (za rfl (zc rfl ?_)))))))))))))))))
   refine zc rfl (zc rfl (zc rfl (zc rfl (zc rfl (zc rfl (za rfl (zd (zK rfl (zg rfl (za rfl (zd (zl (zE ?_)))))))))))))
   have e6 : zb6 a b = false := by
    unfold zb6
    try dsimp only
    rewrite [if_pos g2, if_neg g5]
    all_goals rfl
   rw [e6]
   exact zk rfl ⟨trivial, trivial⟩ (rfl) rfl
  ·have g5 : (a.Cast : Int) = b.Cast := zdl h5
   refine ze rfl h5 (zh rfl rfl aP0 (ze rfl h5 (za rfl (ze rfl h5 (zh rfl rfl aP0 (ze rfl h5 (za rfl (ze rfl h5 (zi rfl rfl rfl rfl rfl trivial (zn rfl h5 rfl rfl (za rfl ?_)))))))))))
   refine zG rfl (fun h8 => ?_) (fun h8 => ?_)
   ·have g8 : ¬ ((a.Cool : Int) = b.Cool) := zc9 h8
    refine zf rfl h8 rfl (zf rfl h8 rfl (zf rfl h8 rfl (zf rfl h8 rfl (zf rfl h8 rfl (zo rfl h8 rfl rfl (za rfl (zc rfl (zc rfl (zc rfl (zc rfl (zc rfl (za rfl (za rfl (zc rfl (zc rfl (zc rfl (zc rfl ?_)))))))))))))))))
    refine zc rfl (za rfl (za rfl (zc rfl (zc rfl (zc rfl (zc rfl (zc rfl (za rfl (za rfl (zc rfl (zc rfl (zc rfl (zc rfl (zc rfl (zc rfl (zc rfl (za rfl ?_)))))))))))))))))
    refine zd (zK rfl (zg rfl (za rfl (zd (zl (zE ?_))))))
    have e9 : zb6 a b = false := by
     unfold zb6
     try dsimp only
     rewrite [if_pos g2, if_pos g5, if_neg g8]
     all_goals rfl
    rw [e9]
    exact zk rfl ⟨trivial, trivial⟩ (rfl) rfl
   ·have g8 : (a.Cool : Int) = b.Cool := zdl h8
    refine ze rfl h8 (zh rfl rfl aP0 (ze rfl h8 (za rfl (ze rfl h8 (zh rfl rfl aP0 (ze rfl h8 (za rfl (ze rfl h8 (zi rfl rfl rfl rfl rfl trivial (zn rfl h8 rfl rfl (za rfl ?_)))))))))))
    refine zG rfl (fun h11 => ?_) (fun h11 => ?_)
    ·have g11 : ¬ ((a.Charges : Int) = b.Charges) := zc9 h11
     refine zf rfl h11 rfl (zf rfl h11 rfl (zf rfl h11 rfl (zf rfl h11 rfl (zf rfl h11 rfl (zo rfl h11 rfl rfl (za rfl (zc rfl (zc rfl (zc rfl (zc rfl (zc rfl (za rfl (za rfl (zc rfl (zc rfl (zc rfl (zc rfl ?_)))))))))))))))))
     refine zc rfl (za rfl (za rfl (zc rfl (zc rfl (zc rfl (zc rfl (zc rfl (zc rfl (zc rfl (za rfl (zd (zK rfl (zg rfl (za rfl (zq ?_)))))))))))))))
     refine zu (zl (zE ?_))
     have e12 : zb6 a b = false := by
      unfold zb6
      try dsimp only
      rewrite [if_pos g2, if_pos g5, if_pos g8, if_neg g11]
      all_goals rfl
     rw [e12]
     exact zk rfl ⟨trivial, trivial⟩ (rfl) rfl
    ·have g11 : (a.Charges : Int) = b.Charges := zdl h11
     refine ze rfl h11 (zh rfl rfl aP0 (ze rfl h11 (za rfl (ze rfl h11 (zh rfl rfl aP0 (ze rfl h11 (za rfl (ze rfl h11 (zi rfl rfl rfl rfl rfl trivial (zn rfl h11 rfl rfl (za rfl ?_)))))))))))
     refine zG rfl (fun h14 => ?_) (fun h14 => ?_)
     ·have g14 : ¬ ((a.Range : Int) = b.Range) := zc9 h14
      refine zf rfl h14 rfl (zf rfl h14 rfl (zf rfl h14 rfl (zf rfl h14 rfl (zf rfl h14 rfl (zo rfl h14 rfl rfl (za rfl (zc rfl (zc rfl (zc rfl (zc rfl (zc rfl (za rfl (za rfl (zc rfl (zc rfl (zc rfl (zc rfl ?_)))))))))))))))))
      refine zc rfl (zc rfl (zc rfl (za rfl (zd (zK rfl (zg rfl (za rfl (zd (zl (zE ?_))))))))))
      have e15 : zb6 a b = false := by
       unfold zb6
       try dsimp only
       rewrite [if_pos g2, if_pos g5, if_pos g8, if_pos g11, if_neg g14]
       all_goals rfl
      rw [e15]
      exact zk rfl ⟨trivial, trivial⟩ (rfl) rfl
     ·have g14 : (a.Range : Int) = b.Range := zdl h14
      refine ze rfl h14 (zh rfl rfl aP0 (ze rfl h14 (za rfl (ze rfl h14 (zh rfl rfl aP0 (ze rfl h14 (za rfl (ze rfl h14 (zi rfl rfl rfl rfl rfl trivial (zn rfl h14 rfl rfl (za rfl ?_)))))))))))
      refine zG rfl (fun h17 => ?_) (fun h17 => ?_)
      ·have g17 : ¬ ((a.Cost : Int) = b.Cost) := zc9 h17
       refine zf rfl h17 rfl (zf rfl h17 rfl (zf rfl h17 rfl (zf rfl h17 rfl (zf rfl h17 rfl (zo rfl h17 rfl rfl (za rfl (zc rfl (zc rfl (zc rfl (zc rfl (zc rfl (zc rfl (zc rfl (za rfl (zd (zK rfl ?_))))))))))))))))
       refine zg rfl (za rfl (zd (zl (zE ?_))))
       have e18 : zb6 a b = false := by
        unfold zb6
        try dsimp only
        rewrite [if_pos g2, if_pos g5, if_pos g8, if_pos g11, if_pos g14, if_neg g17]
        all_goals rfl
       rw [e18]
       exact zk rfl ⟨trivial, trivial⟩ (rfl) rfl
      ·have g17 : (a.Cost : Int) = b.Cost := zdl h17
       refine ze rfl h17 (zh rfl rfl aP0 (ze rfl h17 (za rfl (ze rfl h17 (zh rfl rfl aP0 (ze rfl h17 (za rfl (ze rfl h17 (zi rfl rfl rfl rfl rfl trivial (zn rfl h17 rfl rfl (za rfl ?_)))))))))))
       refine zG rfl (fun h20 => ?_) (fun h20 => ?_)
       ·have g20 : ¬ (a.Sight = b.Sight) := zed (zbA h20)
        refine zf rfl h20 rfl (zf rfl h20 rfl (zf rfl h20 rfl (zf rfl h20 rfl (zf rfl h20 rfl (zf rfl h20 rfl (zf rfl h20 rfl (zo rfl h20 rfl rfl (zd (zK rfl (zg rfl (za rfl (zd (zl (zE ?_))))))))))))))
        have e21 : zb6 a b = false := by
         unfold zb6
         try dsimp only
         rewrite [if_pos g2, if_pos g5, if_pos g8, if_pos g11, if_pos g14, if_pos g17, if_neg g20]
         all_goals rfl
        rw [e21]
        exact zk rfl ⟨trivial, trivial⟩ (rfl) rfl
       ·have g20 : a.Sight = b.Sight := zd5 (zbz h20)
        refine ze rfl h20 (zh rfl rfl aP0 (ze rfl h20 (za rfl (ze rfl h20 (za rfl (ze rfl h20 (zh rfl rfl aP0 (ze rfl h20 (za rfl (ze rfl h20 (za rfl (ze rfl h20 (zi rfl rfl rfl rfl rfl trivial (zn rfl h20 rfl rfl (zd ?_)))))))))))))))
        refine zr rfl (fun h23 => ?_) (fun h23 => ?_)
        ·have g23 : ¬ ((a.Effects.length : Int) = b.Effects.length) := zc9 h23
         refine zg rfl (za rfl (zd (zl (zE ?_))))
         have e24 : zb6 a b = false := by
          unfold zb6
          try dsimp only
          rewrite [if_pos g2, if_pos g5, if_pos g8, if_pos g11, if_pos g14, if_pos g17, if_pos g20, if_neg g23]
          all_goals rfl
         rw [e24]
         exact zk rfl ⟨trivial, trivial⟩ (rfl) rfl
        ·have g23 : (a.Effects.length : Int) = b.Effects.length := zdl h23
         refine zt (zu (zm (zg rfl (za rfl (zd ?_)))))
         refine zX (fun w_ : Unit => match w_ with | () => (⟨[], [], 0, [], 80, 0⟩ : St)) (fun w_ => zbj a b (a.Effects.length - 0) 0 = .inr w_) ?_ ?_
         ·refine zw ?_
          refine z1 (fun k0 : Nat => (⟨[(2, .ptr 0 0), (3, .ptr 1 0), (5, I k0)], [(0, .box [I a.Id, I a.Cast, I a.Cool, I a.Charges, I a.Range, I a.Cost, B a.Sight, .pv (.slc a.Effects.length false (a.Effects.flatMap zN))]), (1, .box [I b.Id, I b.Cast, I b.Cool, I b.Charges, I b.Range, I b.Cost, B b.Sight, .pv (.slc b.Effects.length false (b.Effects.flatMap zN))])], 2, [], 80, 0⟩ : St)) (fun k0 : Nat => zbj a b (a.Effects.length - k0) k0 = zbj a b (a.Effects.length - 0) 0 ∧ k0 ≤ a.Effects.length) (fun k0 : Nat => a.Effects.length - k0) 0 (⟨rfl, aP2⟩) ?_ (fun k0 hh_ => ?_)
          ·exact (zD.ren [] aP1 aP1 rfl ⟨⟨rfl, rfl⟩, ⟨rfl, rfl⟩, ⟨rfl, rfl⟩, trivial⟩ ⟨⟨rfl, rfl, rfl⟩, ⟨rfl, rfl, rfl⟩, trivial⟩ aP0)
          obtain ⟨hI0, hb0⟩ := hh_
          refine zm (zg rfl (za rfl (zh rfl rfl aP0 (za rfl (za rfl (zi rfl rfl rfl rfl rfl trivial (zd ?_)))))))
          refine zr rfl (fun h27 => ?_) (fun h27 => ?_)
          ·have g27 : (k0 : Int) < a.Effects.length := of_decide_eq_true h27
           have hm0 : a.Effects.length - k0 = (a.Effects.length - (k0 + 1)) + 1 := by omega
           refine zt (zu (zm (zw (zm ?_))))
           refine zav rfl aP1 rfl ?_
           refine zh rfl rfl aP0 (za rfl (za rfl ?_))
           have jk28 : k0 < a.Effects.length := by first | assumption | omega | (simp only [List.length_set, List.length_append]; omega) | (simp only [IntKind.wrap_i64] at *; omega) | (simp; omega) | simp_all
           refine zJ (k := k0) rfl rfl rfl rfl jk28 (z3 (s := 3) (enc := zN) (fun _ => rfl) aP0 jk28) rfl (zF rfl rfl rfl (zai (s := 3) (enc := zN) (fun _ => rfl) jk28) (zZ (s := 3) (enc := zN) (fun _ => rfl) (zaE jk28)) rfl (zh rfl rfl aP0 (za rfl (za rfl ?_))))
           have jk29 : k0 < b.Effects.length := by first | assumption | omega | (simp only [List.length_set, List.length_append]; omega) | (simp only [IntKind.wrap_i64] at *; omega) | (simp; omega) | simp_all
           refine zJ (k := k0) rfl rfl rfl rfl jk29 (z3 (s := 3) (enc := zN) (fun _ => rfl) aP0 jk29) rfl (zF rfl rfl rfl (zai (s := 3) (enc := zN) (fun _ => rfl) jk29) (zZ (s := 3) (enc := zN) (fun _ => rfl) (zaE jk29)) rfl ?_)
           refine zdF rfl rfl rfl (by kernel_rfl) rfl rfl rfl rfl rfl ?_
           refine zd ?_
           refine zr rfl (fun h30 => ?_) (fun h30 => ?_)
           ·have g30 : ¬ (((((a.Effects.getD k0 default).Kind) == ((b.Effects.getD k0 default).Kind)) && ((((a.Effects.getD k0 default).Amount) == ((b.Effects.getD k0 default).Amount)) && ((((a.Effects.getD k0 default).Aura) == ((b.Effects.getD k0 default).Aura)) && true))) = true) := zaA (zbA h30)
            refine zg rfl (za rfl (zd (zl (z8 (zE (zbm (z8 (zaz (zE ?_)))))))))
            have e31 : zbj a b (a.Effects.length - 0) 0 = .inl false := by
             rewrite [← hI0, hm0]
             rewrite [zbj]
             try dsimp only
             rewrite [if_neg g30]
             all_goals rfl
            have e32 : zb6 a b = false := by
             unfold zb6
             try dsimp only
             rewrite [if_pos g2, if_pos g5, if_pos g8, if_pos g11, if_pos g14, if_pos g17, if_pos g20, if_pos g23, e31]
             try dsimp only
             all_goals rfl
            rw [e32]
            exact zk rfl ⟨trivial, trivial⟩ (rfl) rfl
           ·have g30 : ((((a.Effects.getD k0 default).Kind) == ((b.Effects.getD k0 default).Kind)) && ((((a.Effects.getD k0 default).Amount) == ((b.Effects.getD k0 default).Amount)) && ((((a.Effects.getD k0 default).Aura) == ((b.Effects.getD k0 default).Aura)) && true))) = true := (zbz h30)
            refine zt (zal (zu (zy rfl (za rfl (zi rfl rfl rfl rfl rfl trivial (za rfl (zq ?_)))))))
            have e34 : zbj a b (a.Effects.length - k0) k0 = zbj a b (a.Effects.length - (k0 + 1)) (k0 + 1) := by
             rewrite [hm0]
             rewrite [zbj]
             try dsimp only
             rewrite [if_pos g30]
             all_goals rfl
            exact zQ (k0 + 1) ⟨e34.symm.trans hI0, aP5⟩ (by show a.Effects.length - (k0 + 1) < a.Effects.length - k0; omega) (zD.ren [] aP1 aP1 rfl ⟨⟨rfl, rfl⟩, ⟨rfl, rfl⟩, ⟨congrArg (fun n => some (I n)) (zbS (k := k0) aP2), rfl⟩, trivial⟩ ⟨⟨rfl, rfl, rfl⟩, ⟨rfl, rfl, rfl⟩, trivial⟩ aP0)
          ·have g27 : ¬ ((k0 : Int) < a.Effects.length) := of_decide_eq_false h27
           have hm0 : a.Effects.length - k0 = 0 := by omega
           refine zS (z5 (zag (zaf rfl ?_)))
           have e35 : zbj a b (a.Effects.length - 0) 0 = .inr () := by
            rewrite [← hI0, hm0]
            rewrite [zbj]
            try dsimp only
            all_goals rfl
           exact z0 () e35 (zD.ren [] aP1 aP1 rfl trivial trivial aP0)
         ·rintro ⟨⟩ (hJ25 : zbj a b (a.Effects.length - 0) 0 = .inr ())
          refine zu (zg rfl (za rfl (zd (zl ?_))))
          have e36 : zb6 a b = true := by
           unfold zb6
           try dsimp only
           rewrite [if_pos g2, if_pos g5, if_pos g8, if_pos g11, if_pos g14, if_pos g17, if_pos g20, if_pos g23, hJ25]
           try dsimp only
           all_goals rfl
          rw [e36]
          exact zk rfl ⟨trivial, trivial⟩ (rfl) rfl

def zbp (a : GFoe) (b : GFoe) : Nat → Nat → Sum Bool Unit
  | 0, k0 => .inr ()
  | n_ + 1, k0 => if ((((a.Script.getD k0 default).Phase) == ((b.Script.getD k0 default).Phase)) && ((((a.Script.getD k0 default).When) == ((b.Script.getD k0 default).When)) && ((((a.Script.getD k0 default).Arg) == ((b.Script.getD k0 default).Arg)) && ((((a.Script.getD k0 default).Do) == ((b.Script.getD k0 default).Do)) && ((((a.Script.getD k0 default).Value) == ((b.Script.getD k0 default).Value)) && true))))) = true then zbp a b n_ (k0 + 1) else .inl false
def zbl (a : GFoe) (b : GFoe) : Nat → Nat → Sum Bool Unit
  | 0, k1 => .inr ()
  | n_ + 1, k1 => if ((((a.Hoard.getD k1 default).Item) == ((b.Hoard.getD k1 default).Item)) && ((((a.Hoard.getD k1 default).Weight) == ((b.Hoard.getD k1 default).Weight)) && true)) = true then zbl a b n_ (k1 + 1) else .inl false
def zbU (a : GFoe) (b : GFoe) : Bool :=
  if (a.Id : Int) = b.Id then (if (a.Health : Int) = b.Health then (if (a.Hit : Int) = b.Hit then (if (a.Every : Int) = b.Every then (if (a.Reach : Int) = b.Reach then (if (a.Drops : Int) = b.Drops then (if (a.Script.length : Int) = b.Script.length then (if (a.Hoard.length : Int) = b.Hoard.length then (match zbp a b (a.Script.length - 0) 0 with
    | .inl r_ => r_
    | .inr () => (match zbl a b (a.Hoard.length - 0) 0 with
    | .inl r_ => r_
    | .inr () => true)) else false) else false) else false) else false) else false) else false) else false) else false
theorem zqp (a : GFoe) (b : GFoe) : Ok Tryz.prog 37 [zg9 a, zg9 b] [] (B (zbU a b)) [] [] := by
 refine Ok.len fun hlen => ?_
 have hl_a_Script := hlL (n := a.Script.length) hlen
 have hl_a_Hoard := hlL (n := a.Hoard.length) hlen
 have hl_b_Script := hlL (n := b.Script.length) hlen
 have hl_b_Hoard := hlL (n := b.Hoard.length) hlen
 refine zx Tryz.func37 rfl ?_
 refine zg rfl (zz (o := .box [_, _, _, _, _, _, _, _]) (nx' := 1) rfl rfl rfl trivial (zz (o := .box [_, _, _, _, _, _, _, _]) (nx' := 2) rfl rfl rfl trivial (za rfl (zd (zm (zg rfl (zh rfl rfl aP0 (za rfl (zh rfl rfl aP0 (za rfl (zi rfl rfl rfl rfl rfl trivial (za rfl ?_))))))))))))
 refine zG rfl (fun h2 => ?_) (fun h2 => ?_)
 ·have g2 : ¬ ((a.Id : Int) = b.Id) := zc9 h2
  refine zf rfl h2 rfl (zf rfl h2 rfl (zf rfl h2 rfl (zf rfl h2 rfl (zf rfl h2 rfl (zo rfl h2 rfl rfl (za rfl (zc rfl (zc rfl (zc rfl (zc rfl (zc rfl (za rfl (za rfl (zc rfl (zc rfl (zc rfl (zc rfl ?_)))))))))))))))))
  refine zc rfl (za rfl (za rfl (zc rfl (zc rfl (zc rfl (zc rfl (zc rfl (za rfl (za rfl (zc rfl (zc rfl (zc rfl (zc rfl (zc rfl (za rfl (za rfl (zc rfl ?_)))))))))))))))))
  refine zc rfl (zc rfl (zc rfl (zc rfl (zc rfl (zc rfl (za rfl (za rfl (zc rfl (zc rfl (zc rfl (zc rfl (zc rfl (zc rfl (zc rfl (za rfl (zd ?_))))))))))))))))
  refine zK rfl (zg rfl (za rfl (zd (zl (zE ?_)))))
  have e3 : zbU a b = false := by
   unfold zbU
   try dsimp only
   rewrite [if_neg g2]
   all_goals rfl
  rw [e3]
  exact zk rfl ⟨trivial, trivial⟩ (rfl) rfl
 ·have g2 : (a.Id : Int) = b.Id := zdl h2
  refine ze rfl h2 (zh rfl rfl aP0 (ze rfl h2 (za rfl (ze rfl h2 (zh rfl rfl aP0 (ze rfl h2 (za rfl (ze rfl h2 (zi rfl rfl rfl rfl rfl trivial (zn rfl h2 rfl rfl (za rfl ?_)))))))))))
  refine zG rfl (fun h5 => ?_) (fun h5 => ?_)
  ·have g5 : ¬ ((a.Health : Int) = b.Health) := zc9 h5
   refine zf rfl h5 rfl (zf rfl h5 rfl (zf rfl h5 rfl (zf rfl h5 rfl (zf rfl h5 rfl (zo rfl h5 rfl rfl (za rfl (zc rfl (zc rfl (zc rfl (zc rfl (zc rfl (za rfl (za rfl (zc rfl (zc rfl (zc rfl (zc rfl ?_)))))))))))))))))
   refine zc rfl (za rfl (za rfl (zc rfl (zc rfl (zc rfl (zc rfl (zc rfl (za rfl (za rfl (zc rfl (zc rfl (zc rfl (zc rfl (zc rfl (zc rfl (zc rfl (za rfl ?_)))))))))))))))))
   refine za rfl (zc rfl (zc rfl (zc rfl (zc rfl (zc rfl (zc rfl (zc rfl (za rfl (zd (zK rfl (zg rfl (za rfl (zd (zl ?_))))))))))))))
   refine zE ?_
   have e6 : zbU a b = false := by
    unfold zbU
    try dsimp only
    rewrite [if_pos g2, if_neg g5]
    all_goals rfl
   rw [e6]
   exact zk rfl ⟨trivial, trivial⟩ (rfl) rfl
  ·have g5 : (a.Health : Int) = b.Health := zdl h5
   refine ze rfl h5 (zh rfl rfl aP0 (ze rfl h5 (za rfl (ze rfl h5 (zh rfl rfl aP0 (ze rfl h5 (za rfl (ze rfl h5 (zi rfl rfl rfl rfl rfl trivial (zn rfl h5 rfl rfl (za rfl ?_)))))))))))
   refine zG rfl (fun h8 => ?_) (fun h8 => ?_)
   ·have g8 : ¬ ((a.Hit : Int) = b.Hit) := zc9 h8
    refine zf rfl h8 rfl (zf rfl h8 rfl (zf rfl h8 rfl (zf rfl h8 rfl (zf rfl h8 rfl (zo rfl h8 rfl rfl (za rfl (zc rfl (zc rfl (zc rfl (zc rfl (zc rfl (za rfl (za rfl (zc rfl (zc rfl (zc rfl (zc rfl ?_)))))))))))))))))
    refine zc rfl (za rfl (za rfl (zc rfl (zc rfl (zc rfl (zc rfl (zc rfl (zc rfl (zc rfl (za rfl (za rfl (zc rfl (zc rfl (zc rfl (zc rfl (zc rfl (zc rfl ?_)))))))))))))))))
    refine zc rfl (za rfl (zd (zK rfl (zg rfl (za rfl (zd (zl (zE ?_))))))))
    have e9 : zbU a b = false := by
     unfold zbU
     try dsimp only
     rewrite [if_pos g2, if_pos g5, if_neg g8]
     all_goals rfl
    rw [e9]
    exact zk rfl ⟨trivial, trivial⟩ (rfl) rfl
   ·have g8 : (a.Hit : Int) = b.Hit := zdl h8
    refine ze rfl h8 (zh rfl rfl aP0 (ze rfl h8 (za rfl (ze rfl h8 (zh rfl rfl aP0 (ze rfl h8 (za rfl (ze rfl h8 (zi rfl rfl rfl rfl rfl trivial (zn rfl h8 rfl rfl (za rfl ?_)))))))))))
    refine zG rfl (fun h11 => ?_) (fun h11 => ?_)
    ·have g11 : ¬ ((a.Every : Int) = b.Every) := zc9 h11
     refine zf rfl h11 rfl (zf rfl h11 rfl (zf rfl h11 rfl (zf rfl h11 rfl (zf rfl h11 rfl (zo rfl h11 rfl rfl (za rfl (zc rfl (zc rfl (zc rfl (zc rfl (zc rfl (za rfl (za rfl (zc rfl (zc rfl (zc rfl (zc rfl ?_)))))))))))))))))
     refine zc rfl (zc rfl (zc rfl (za rfl (za rfl (zc rfl (zc rfl (zc rfl (zc rfl (zc rfl (zc rfl (zc rfl (za rfl (zd (zK rfl (zg rfl ?_)))))))))))))))
     refine za rfl (zd (zl (zE ?_)))
     have e12 : zbU a b = false := by
      unfold zbU
      try dsimp only
      rewrite [if_pos g2, if_pos g5, if_pos g8, if_neg g11]
      all_goals rfl
     rw [e12]
     exact zk rfl ⟨trivial, trivial⟩ (rfl) rfl
    ·have g11 : (a.Every : Int) = b.Every := zdl h11
     refine ze rfl h11 (zh rfl rfl aP0 (ze rfl h11 (za rfl (ze rfl h11 (zh rfl rfl aP0 (ze rfl h11 (za rfl (ze rfl h11 (zi rfl rfl rfl rfl rfl trivial (zn rfl h11 rfl rfl (za rfl ?_)))))))))))
     refine zG rfl (fun h14 => ?_) (fun h14 => ?_)
     ·have g14 : ¬ ((a.Reach : Int) = b.Reach) := zc9 h14
      refine zf rfl h14 rfl (zf rfl h14 rfl (zf rfl h14 rfl (zf rfl h14 rfl (zf rfl h14 rfl (zo rfl h14 rfl rfl (za rfl (zc rfl (zc rfl (zc rfl (zc rfl (zc rfl (zc rfl (zc rfl (za rfl (za rfl (zc rfl (zc rfl ?_)))))))))))))))))
      refine zc rfl (zc rfl (zc rfl (zc rfl (zc rfl (za rfl (zd (zK rfl (zg rfl (za rfl (zd (zl (zE ?_))))))))))))
      have e15 : zbU a b = false := by
       unfold zbU
       try dsimp only
       rewrite [if_pos g2, if_pos g5, if_pos g8, if_pos g11, if_neg g14]
       all_goals rfl
      rw [e15]
      exact zk rfl ⟨trivial, trivial⟩ (rfl) rfl
     ·have g14 : (a.Reach : Int) = b.Reach := zdl h14
      refine ze rfl h14 (zh rfl rfl aP0 (ze rfl h14 (za rfl (ze rfl h14 (zh rfl rfl aP0 (ze rfl h14 (za rfl (ze rfl h14 (zi rfl rfl rfl rfl rfl trivial (zn rfl h14 rfl rfl (za rfl ?_)))))))))))
      refine zG rfl (fun h17 => ?_) (fun h17 => ?_)
      ·have g17 : ¬ ((a.Drops : Int) = b.Drops) := zc9 h17
       refine zf rfl h17 rfl (zf rfl h17 rfl (zf rfl h17 rfl (zf rfl h17 rfl (zf rfl h17 rfl (zf rfl h17 rfl (zf rfl h17 rfl (zo rfl h17 rfl rfl (za rfl (zc rfl (zc rfl (zc rfl (zc rfl (zc rfl (zc rfl (zc rfl (za rfl (zq ?_)))))))))))))))))
       refine zu (zK rfl (zg rfl (za rfl (zd (zl (zE ?_))))))
       have e18 : zbU a b = false := by
        unfold zbU
        try dsimp only
        rewrite [if_pos g2, if_pos g5, if_pos g8, if_pos g11, if_pos g14, if_neg g17]
        all_goals rfl
       rw [e18]
       exact zk rfl ⟨trivial, trivial⟩ (rfl) rfl
      ·have g17 : (a.Drops : Int) = b.Drops := zdl h17
       refine ze rfl h17 (zh rfl rfl aP0 (ze rfl h17 (za rfl (ze rfl h17 (za rfl (ze rfl h17 (zh rfl rfl aP0 (ze rfl h17 (za rfl (ze rfl h17 (za rfl (ze rfl h17 (zi rfl rfl rfl rfl rfl trivial (zn rfl h17 rfl rfl (za rfl ?_)))))))))))))))
       refine zG rfl (fun h20 => ?_) (fun h20 => ?_)
       ·have g20 : ¬ ((a.Script.length : Int) = b.Script.length) := zc9 h20
        refine zf rfl h20 rfl (zf rfl h20 rfl (zf rfl h20 rfl (zf rfl h20 rfl (zf rfl h20 rfl (zf rfl h20 rfl (zf rfl h20 rfl (zo rfl h20 rfl rfl (zd (zK rfl (zg rfl (za rfl (zd (zl (zE ?_))))))))))))))
        have e21 : zbU a b = false := by
         unfold zbU
         try dsimp only
         rewrite [if_pos g2, if_pos g5, if_pos g8, if_pos g11, if_pos g14, if_pos g17, if_neg g20]
         all_goals rfl
        rw [e21]
        exact zk rfl ⟨trivial, trivial⟩ (rfl) rfl
       ·have g20 : (a.Script.length : Int) = b.Script.length := zdl h20
        refine ze rfl h20 (zh rfl rfl aP0 (ze rfl h20 (za rfl (ze rfl h20 (za rfl (ze rfl h20 (zh rfl rfl aP0 (ze rfl h20 (za rfl (ze rfl h20 (za rfl (ze rfl h20 (zi rfl rfl rfl rfl rfl trivial (zn rfl h20 rfl rfl (zd ?_)))))))))))))))
        refine zr rfl (fun h23 => ?_) (fun h23 => ?_)
        ·have g23 : ¬ ((a.Hoard.length : Int) = b.Hoard.length) := zc9 h23
         refine zg rfl (za rfl (zd (zl (zE ?_))))
         have e24 : zbU a b = false := by
          unfold zbU
          try dsimp only
          rewrite [if_pos g2, if_pos g5, if_pos g8, if_pos g11, if_pos g14, if_pos g17, if_pos g20, if_neg g23]
          all_goals rfl
         rw [e24]
         exact zk rfl ⟨trivial, trivial⟩ (rfl) rfl
        ·have g23 : (a.Hoard.length : Int) = b.Hoard.length := zdl h23
         refine zt (zu (zm (zg rfl (za rfl (zd ?_)))))
         refine zX (fun w_ : Unit => match w_ with | () => (⟨[(2, .ptr 0 0), (3, .ptr 1 0)], [(0, .box [I a.Id, I a.Health, I a.Hit, I a.Every, I a.Reach, .pv (.slc a.Script.length false (a.Script.flatMap zU)), .pv (.slc a.Hoard.length false (a.Hoard.flatMap zM)), I a.Drops]), (1, .box [I b.Id, I b.Health, I b.Hit, I b.Every, I b.Reach, .pv (.slc b.Script.length false (b.Script.flatMap zU)), .pv (.slc b.Hoard.length false (b.Hoard.flatMap zM)), I b.Drops])], 2, [], 101, 0⟩ : St)) (fun w_ => zbp a b (a.Script.length - 0) 0 = .inr w_) ?_ ?_
         ·refine zw ?_
          refine z1 (fun k0 : Nat => (⟨[(2, .ptr 0 0), (3, .ptr 1 0), (5, I k0)], [(0, .box [I a.Id, I a.Health, I a.Hit, I a.Every, I a.Reach, .pv (.slc a.Script.length false (a.Script.flatMap zU)), .pv (.slc a.Hoard.length false (a.Hoard.flatMap zM)), I a.Drops]), (1, .box [I b.Id, I b.Health, I b.Hit, I b.Every, I b.Reach, .pv (.slc b.Script.length false (b.Script.flatMap zU)), .pv (.slc b.Hoard.length false (b.Hoard.flatMap zM)), I b.Drops])], 2, [], 101, 0⟩ : St)) (fun k0 : Nat => zbp a b (a.Script.length - k0) k0 = zbp a b (a.Script.length - 0) 0 ∧ k0 ≤ a.Script.length) (fun k0 : Nat => a.Script.length - k0) 0 (⟨rfl, aP2⟩) ?_ (fun k0 hh_ => ?_)
          ·exact (zD.ren [] aP1 aP1 rfl ⟨⟨rfl, rfl⟩, ⟨rfl, rfl⟩, ⟨rfl, rfl⟩, trivial⟩ ⟨⟨rfl, rfl, rfl⟩, ⟨rfl, rfl, rfl⟩, trivial⟩ aP0)
          obtain ⟨hI0, hb0⟩ := hh_
          refine zm (zg rfl (za rfl (zh rfl rfl aP0 (za rfl (za rfl (zi rfl rfl rfl rfl rfl trivial (zd ?_)))))))
          refine zr rfl (fun h27 => ?_) (fun h27 => ?_)
          ·have g27 : (k0 : Int) < a.Script.length := of_decide_eq_true h27
           have hm0 : a.Script.length - k0 = (a.Script.length - (k0 + 1)) + 1 := by omega
           refine zt (zu (zm (zw (zm ?_))))
           refine zav rfl aP1 rfl ?_
           refine zh rfl rfl aP0 (za rfl (za rfl ?_))
           have jk28 : k0 < a.Script.length := by first | assumption | omega | (simp only [List.length_set, List.length_append]; omega) | (simp only [IntKind.wrap_i64] at *; omega) | (simp; omega) | simp_all
           refine zJ (k := k0) rfl rfl rfl rfl jk28 (z3 (s := 5) (enc := zU) (fun _ => rfl) aP0 jk28) rfl (zF rfl rfl rfl (zai (s := 5) (enc := zU) (fun _ => rfl) jk28) (zZ (s := 5) (enc := zU) (fun _ => rfl) (zaE jk28)) rfl (zh rfl rfl aP0 (za rfl (za rfl ?_))))
           have jk29 : k0 < b.Script.length := by first | assumption | omega | (simp only [List.length_set, List.length_append]; omega) | (simp only [IntKind.wrap_i64] at *; omega) | (simp; omega) | simp_all
           refine zJ (k := k0) rfl rfl rfl rfl jk29 (z3 (s := 5) (enc := zU) (fun _ => rfl) aP0 jk29) rfl (zF rfl rfl rfl (zai (s := 5) (enc := zU) (fun _ => rfl) jk29) (zZ (s := 5) (enc := zU) (fun _ => rfl) (zaE jk29)) rfl ?_)
           refine zdF rfl rfl rfl (by kernel_rfl) rfl rfl rfl rfl rfl ?_
           refine zd ?_
           refine zr rfl (fun h30 => ?_) (fun h30 => ?_)
           ·have g30 : ¬ (((((a.Script.getD k0 default).Phase) == ((b.Script.getD k0 default).Phase)) && ((((a.Script.getD k0 default).When) == ((b.Script.getD k0 default).When)) && ((((a.Script.getD k0 default).Arg) == ((b.Script.getD k0 default).Arg)) && ((((a.Script.getD k0 default).Do) == ((b.Script.getD k0 default).Do)) && ((((a.Script.getD k0 default).Value) == ((b.Script.getD k0 default).Value)) && true))))) = true) := zaA (zbA h30)
            refine zg rfl (za rfl (zd (zl (z8 (zE (zbm (z8 (zaz (zE ?_)))))))))
            have e31 : zbp a b (a.Script.length - 0) 0 = .inl false := by
             rewrite [← hI0, hm0]
             rewrite [zbp]
             try dsimp only
             rewrite [if_neg g30]
             all_goals rfl
            have e32 : zbU a b = false := by
             unfold zbU
             try dsimp only
             rewrite [if_pos g2, if_pos g5, if_pos g8, if_pos g11, if_pos g14, if_pos g17, if_pos g20, if_pos g23, e31]
             try dsimp only
             all_goals rfl
            rw [e32]
            exact zk rfl ⟨trivial, trivial⟩ (rfl) rfl
           ·have g30 : ((((a.Script.getD k0 default).Phase) == ((b.Script.getD k0 default).Phase)) && ((((a.Script.getD k0 default).When) == ((b.Script.getD k0 default).When)) && ((((a.Script.getD k0 default).Arg) == ((b.Script.getD k0 default).Arg)) && ((((a.Script.getD k0 default).Do) == ((b.Script.getD k0 default).Do)) && ((((a.Script.getD k0 default).Value) == ((b.Script.getD k0 default).Value)) && true))))) = true := (zbz h30)
            refine zt (zal (zu (zy rfl (za rfl (zi rfl rfl rfl rfl rfl trivial (za rfl (zq ?_)))))))
            have e34 : zbp a b (a.Script.length - k0) k0 = zbp a b (a.Script.length - (k0 + 1)) (k0 + 1) := by
             rewrite [hm0]
             rewrite [zbp]
             try dsimp only
             rewrite [if_pos g30]
             all_goals rfl
            exact zQ (k0 + 1) ⟨e34.symm.trans hI0, aP5⟩ (by show a.Script.length - (k0 + 1) < a.Script.length - k0; omega) (zD.ren [] aP1 aP1 rfl ⟨⟨rfl, rfl⟩, ⟨rfl, rfl⟩, ⟨congrArg (fun n => some (I n)) (zbS (k := k0) aP2), rfl⟩, trivial⟩ ⟨⟨rfl, rfl, rfl⟩, ⟨rfl, rfl, rfl⟩, trivial⟩ aP0)
          ·have g27 : ¬ ((k0 : Int) < a.Script.length) := of_decide_eq_false h27
           have hm0 : a.Script.length - k0 = 0 := by omega
           refine zS (z5 (zag (zaf rfl ?_)))
           have e35 : zbp a b (a.Script.length - 0) 0 = .inr () := by
            rewrite [← hI0, hm0]
            rewrite [zbp]
            try dsimp only
            all_goals rfl
           exact z0 () e35 (zD.ren [] aP1 aP1 rfl ⟨⟨rfl, rfl⟩, ⟨rfl, rfl⟩, trivial⟩ ⟨⟨rfl, rfl, rfl⟩, ⟨rfl, rfl, rfl⟩, trivial⟩ aP0)
         ·rintro ⟨⟩ (hJ25 : zbp a b (a.Script.length - 0) 0 = .inr ())
          refine zu (zm (zg rfl (za rfl (zd ?_))))
          refine zX (fun w_ : Unit => match w_ with | () => (⟨[], [], 0, [], 101, 0⟩ : St)) (fun w_ => zbl a b (a.Hoard.length - 0) 0 = .inr w_) ?_ ?_
          ·refine zw ?_
           refine z1 (fun k1 : Nat => (⟨[(2, .ptr 0 0), (3, .ptr 1 0), (6, I k1)], [(0, .box [I a.Id, I a.Health, I a.Hit, I a.Every, I a.Reach, .pv (.slc a.Script.length false (a.Script.flatMap zU)), .pv (.slc a.Hoard.length false (a.Hoard.flatMap zM)), I a.Drops]), (1, .box [I b.Id, I b.Health, I b.Hit, I b.Every, I b.Reach, .pv (.slc b.Script.length false (b.Script.flatMap zU)), .pv (.slc b.Hoard.length false (b.Hoard.flatMap zM)), I b.Drops])], 2, [], 101, 0⟩ : St)) (fun k1 : Nat => zbl a b (a.Hoard.length - k1) k1 = zbl a b (a.Hoard.length - 0) 0 ∧ k1 ≤ a.Hoard.length) (fun k1 : Nat => a.Hoard.length - k1) 0 (⟨rfl, aP2⟩) ?_ (fun k1 hh_ => ?_)
           ·exact (zD.ren [] aP1 aP1 rfl ⟨⟨rfl, rfl⟩, ⟨rfl, rfl⟩, ⟨rfl, rfl⟩, trivial⟩ ⟨⟨rfl, rfl, rfl⟩, ⟨rfl, rfl, rfl⟩, trivial⟩ aP0)
           obtain ⟨hI1, hb1⟩ := hh_
           refine zm (zg rfl (za rfl (zh rfl rfl aP0 (za rfl (za rfl (zi rfl rfl rfl rfl rfl trivial (zd ?_)))))))
           refine zr rfl (fun h38 => ?_) (fun h38 => ?_)
           ·have g38 : (k1 : Int) < a.Hoard.length := of_decide_eq_true h38
            have hm1 : a.Hoard.length - k1 = (a.Hoard.length - (k1 + 1)) + 1 := by omega
            refine zt (zu (zm (zw (zm ?_))))
            refine zav rfl aP1 rfl ?_
            refine zh rfl rfl aP0 (za rfl (za rfl ?_))
            have jk39 : k1 < a.Hoard.length := by first | assumption | omega | (simp only [List.length_set, List.length_append]; omega) | (simp only [IntKind.wrap_i64] at *; omega) | (simp; omega) | simp_all
            refine zJ (k := k1) rfl rfl rfl rfl jk39 (z3 (s := 2) (enc := zM) (fun _ => rfl) aP0 jk39) rfl (zF rfl rfl rfl (zai (s := 2) (enc := zM) (fun _ => rfl) jk39) (zZ (s := 2) (enc := zM) (fun _ => rfl) (zaE jk39)) rfl (zh rfl rfl aP0 (za rfl (za rfl ?_))))
            have jk40 : k1 < b.Hoard.length := by first | assumption | omega | (simp only [List.length_set, List.length_append]; omega) | (simp only [IntKind.wrap_i64] at *; omega) | (simp; omega) | simp_all
            refine zJ (k := k1) rfl rfl rfl rfl jk40 (z3 (s := 2) (enc := zM) (fun _ => rfl) aP0 jk40) rfl (zF rfl rfl rfl (zai (s := 2) (enc := zM) (fun _ => rfl) jk40) (zZ (s := 2) (enc := zM) (fun _ => rfl) (zaE jk40)) rfl ?_)
            refine zdF rfl rfl rfl (by kernel_rfl) rfl rfl rfl rfl rfl ?_
            refine zd ?_
            refine zr rfl (fun h41 => ?_) (fun h41 => ?_)
            ·have g41 : ¬ (((((a.Hoard.getD k1 default).Item) == ((b.Hoard.getD k1 default).Item)) && ((((a.Hoard.getD k1 default).Weight) == ((b.Hoard.getD k1 default).Weight)) && true)) = true) := zaA (zbA h41)
             refine zg rfl (za rfl (zd (zl (z8 (zE (zbm (z8 (zaz (zE ?_)))))))))
             have e42 : zbl a b (a.Hoard.length - 0) 0 = .inl false := by
              rewrite [← hI1, hm1]
              rewrite [zbl]
              try dsimp only
              rewrite [if_neg g41]
              all_goals rfl
             have e43 : zbU a b = false := by
              unfold zbU
              try dsimp only
              rewrite [if_pos g2, if_pos g5, if_pos g8, if_pos g11, if_pos g14, if_pos g17, if_pos g20, if_pos g23, hJ25]
              try dsimp only
              rewrite [e42]
              try dsimp only
              all_goals rfl
             rw [e43]
             exact zk rfl ⟨trivial, trivial⟩ (rfl) rfl
            ·have g41 : ((((a.Hoard.getD k1 default).Item) == ((b.Hoard.getD k1 default).Item)) && ((((a.Hoard.getD k1 default).Weight) == ((b.Hoard.getD k1 default).Weight)) && true)) = true := (zbz h41)
             refine zt (zal (zu (zy rfl (za rfl (zi rfl rfl rfl rfl rfl trivial (za rfl (zq ?_)))))))
             have e45 : zbl a b (a.Hoard.length - k1) k1 = zbl a b (a.Hoard.length - (k1 + 1)) (k1 + 1) := by
              rewrite [hm1]
              rewrite [zbl]
              try dsimp only
              rewrite [if_pos g41]
              all_goals rfl
             exact zQ (k1 + 1) ⟨e45.symm.trans hI1, aP5⟩ (by show a.Hoard.length - (k1 + 1) < a.Hoard.length - k1; omega) (zD.ren [] aP1 aP1 rfl ⟨⟨rfl, rfl⟩, ⟨rfl, rfl⟩, ⟨congrArg (fun n => some (I n)) (zbS (k := k1) aP2), rfl⟩, trivial⟩ ⟨⟨rfl, rfl, rfl⟩, ⟨rfl, rfl, rfl⟩, trivial⟩ aP0)
           ·have g38 : ¬ ((k1 : Int) < a.Hoard.length) := of_decide_eq_false h38
            have hm1 : a.Hoard.length - k1 = 0 := by omega
            refine zS (z5 (zag (zaf rfl ?_)))
            have e46 : zbl a b (a.Hoard.length - 0) 0 = .inr () := by
             rewrite [← hI1, hm1]
             rewrite [zbl]
             try dsimp only
             all_goals rfl
            exact z0 () e46 (zD.ren [] aP1 aP1 rfl trivial trivial aP0)
          ·rintro ⟨⟩ (hJ36 : zbl a b (a.Hoard.length - 0) 0 = .inr ())
           refine zu (zg rfl (za rfl (zd (zl ?_))))
           have e47 : zbU a b = true := by
            unfold zbU
            try dsimp only
            rewrite [if_pos g2, if_pos g5, if_pos g8, if_pos g11, if_pos g14, if_pos g17, if_pos g20, if_pos g23, hJ25]
            try dsimp only
            rewrite [hJ36]
            try dsimp only
            all_goals rfl
           rw [e47]
           exact zk rfl ⟨trivial, trivial⟩ (rfl) rfl

def zbo (a : zA) (b : zA) : Nat → Nat → Sum Bool Unit
  | 0, k0 => .inr ()
  | n_ + 1, k0 => if (a.Map.Wall.getD k0 default) = (b.Map.Wall.getD k0 default) then zbo a b n_ (k0 + 1) else .inl false
def zbr (a : zA) (b : zA) : Nat → Nat → Sum Bool Unit
  | 0, k1 => .inr ()
  | n_ + 1, k1 => if zb6 (a.Abilities.getD k1 default) (b.Abilities.getD k1 default) = true then zbr a b n_ (k1 + 1) else .inl false
def zbs (a : zA) (b : zA) : Nat → Nat → Sum Bool Unit
  | 0, k2 => .inr ()
  | n_ + 1, k2 => if ((((a.Auras.getD k2 default).Id) == ((b.Auras.getD k2 default).Id)) && ((((a.Auras.getD k2 default).Kind) == ((b.Auras.getD k2 default).Kind)) && ((((a.Auras.getD k2 default).Ticks) == ((b.Auras.getD k2 default).Ticks)) && ((((a.Auras.getD k2 default).Every) == ((b.Auras.getD k2 default).Every)) && ((((a.Auras.getD k2 default).Stacks) == ((b.Auras.getD k2 default).Stacks)) && ((((a.Auras.getD k2 default).Amount) == ((b.Auras.getD k2 default).Amount)) && ((((a.Auras.getD k2 default).Harm) == ((b.Auras.getD k2 default).Harm)) && true))))))) = true then zbs a b n_ (k2 + 1) else .inl false
def zbn (a : zA) (b : zA) : Nat → Nat → Sum Bool Unit
  | 0, k3 => .inr ()
  | n_ + 1, k3 => if zbU (a.Foes.getD k3 default) (b.Foes.getD k3 default) = true then zbn a b n_ (k3 + 1) else .inl false
def zbE (a : zA) (b : zA) : Bool :=
  if ((a.Door.X == b.Door.X) && ((a.Door.Y == b.Door.Y) && true)) = true then (if ((a.Lair.X == b.Lair.X) && ((a.Lair.Y == b.Lair.Y) && true)) = true then (if (a.Map.W : Int) = b.Map.W then (if (a.Map.H : Int) = b.Map.H then (if (a.Map.Wall.length : Int) = b.Map.Wall.length then (if (a.Abilities.length : Int) = b.Abilities.length then (if (a.Auras.length : Int) = b.Auras.length then (if (a.Foes.length : Int) = b.Foes.length then (match zbo a b (a.Map.Wall.length - 0) 0 with
    | .inl r_ => r_
    | .inr () => (match zbr a b (a.Abilities.length - 0) 0 with
    | .inl r_ => r_
    | .inr () => (match zbs a b (a.Auras.length - 0) 0 with
    | .inl r_ => r_
    | .inr () => (match zbn a b (a.Foes.length - 0) 0 with
    | .inl r_ => r_
    | .inr () => true)))) else false) else false) else false) else false) else false) else false) else false) else false
theorem zpJ (a : zA) (b : zA) : Ok Tryz.prog 15 [zak a, zak b] [] (B (zbE a b)) [] [] := by
 refine Ok.len fun hlen => ?_
 have hl_a_Abilities := hlL (n := a.Abilities.length) hlen
 have hl_a_Auras := hlL (n := a.Auras.length) hlen
 have hl_a_Foes := hlL (n := a.Foes.length) hlen
 have hl_a_Map_Wall := hlL (n := a.Map.Wall.length) hlen
 have hl_b_Abilities := hlL (n := b.Abilities.length) hlen
 have hl_b_Auras := hlL (n := b.Auras.length) hlen
 have hl_b_Foes := hlL (n := b.Foes.length) hlen
 have hl_b_Map_Wall := hlL (n := b.Map.Wall.length) hlen
 refine zx Tryz.func15 rfl ?_
 refine zg rfl (zz (o := .box [_, _, _, _, _, _, _, _, _, _]) (nx' := 1) rfl rfl rfl trivial (zz (o := .box [_, _, _, _, _, _, _, _, _, _]) (nx' := 2) rfl rfl rfl trivial (za rfl (zd (zm (zg rfl (zh rfl rfl aP0 (zh (v := (.agg [_, _])) rfl rfl (Nat.le_of_ble_eq_true rfl) (zh rfl rfl aP0 (zh (v := (.agg [_, _])) rfl rfl (Nat.le_of_ble_eq_true rfl) ?_))))))))))
 refine zdF rfl rfl rfl (by kernel_rfl) rfl rfl rfl rfl rfl ?_
 refine za rfl ?_
 refine zG rfl (fun h2 => ?_) (fun h2 => ?_)
 ·have g2 : ¬ (((a.Door.X == b.Door.X) && ((a.Door.Y == b.Door.Y) && true)) = true) := zaA (zbA h2)
  refine zf rfl h2 rfl (zf rfl h2 rfl (zf rfl h2 rfl (zf rfl h2 rfl (zf rfl h2 rfl (zo rfl h2 rfl rfl (za rfl (zc rfl (zc rfl (zc rfl (zc rfl (zc rfl (zc rfl (zc rfl (za rfl (za rfl (zc rfl (zc rfl ?_)))))))))))))))))
  refine zc rfl (zc rfl (zc rfl (zc rfl (zc rfl (za rfl (za rfl (zc rfl (zc rfl (zc rfl (zc rfl (zc rfl (zc rfl (zc rfl (zc rfl (zc rfl (za rfl (za rfl ?_)))))))))))))))))
  refine zc rfl (zc rfl (zc rfl (zc rfl (zc rfl (zc rfl (zc rfl (za rfl (za rfl (zc rfl (zc rfl (zc rfl (zc rfl (zc rfl (zc rfl (zc rfl (za rfl (za rfl ?_)))))))))))))))))
  refine zc rfl (zc rfl (zc rfl (zc rfl (zc rfl (zc rfl (zc rfl (za rfl (zd (zK rfl (zg rfl (za rfl (zd (zl (zE ?_))))))))))))))
  have e3 : zbE a b = false := by
   unfold zbE
   try dsimp only
   rewrite [if_neg g2]
   all_goals rfl
  rw [e3]
  exact zk rfl ⟨trivial, trivial⟩ (rfl) rfl
 ·have g2 : ((a.Door.X == b.Door.X) && ((a.Door.Y == b.Door.Y) && true)) = true := (zbz h2)
  refine ze rfl h2 (zh rfl rfl aP0 (ze rfl h2 (zh (v := (.agg [_, _])) rfl rfl (Nat.le_of_ble_eq_true rfl) (ze rfl h2 (zh rfl rfl aP0 (ze rfl h2 (zh (v := (.agg [_, _])) rfl rfl (Nat.le_of_ble_eq_true rfl) (ze rfl h2 ?_))))))))
  refine zdF rfl rfl rfl (by kernel_rfl) rfl rfl rfl rfl rfl ?_
  refine zn rfl h2 rfl rfl (za rfl ?_)
  refine zG rfl (fun h5 => ?_) (fun h5 => ?_)
  ·have g5 : ¬ (((a.Lair.X == b.Lair.X) && ((a.Lair.Y == b.Lair.Y) && true)) = true) := zaA (zbA h5)
   refine zf rfl h5 rfl (zf rfl h5 rfl (zf rfl h5 rfl (zf rfl h5 rfl (zf rfl h5 rfl (zf rfl h5 rfl (zf rfl h5 rfl (zo rfl h5 rfl rfl (za rfl (zc rfl (zc rfl (zc rfl (zc rfl (zc rfl (zc rfl (zc rfl (za rfl (za rfl ?_)))))))))))))))))
   refine zc rfl (zc rfl (zc rfl (zc rfl (zc rfl (zc rfl (zc rfl (zc rfl (zc rfl (za rfl (za rfl (zc rfl (zc rfl (zc rfl (zc rfl (zc rfl (zc rfl (zc rfl ?_)))))))))))))))))
   refine za rfl (za rfl (zc rfl (zc rfl (zc rfl (zc rfl (zc rfl (zc rfl (zc rfl (za rfl (za rfl (zc rfl (zc rfl (zc rfl (zc rfl (zc rfl (zc rfl (zc rfl ?_)))))))))))))))))
   refine za rfl (zd (zK rfl (zg rfl (za rfl (zd (zl (zE ?_)))))))
   have e6 : zbE a b = false := by
    unfold zbE
    try dsimp only
    rewrite [if_pos g2, if_neg g5]
    all_goals rfl
   rw [e6]
   exact zk rfl ⟨trivial, trivial⟩ (rfl) rfl
  ·have g5 : ((a.Lair.X == b.Lair.X) && ((a.Lair.Y == b.Lair.Y) && true)) = true := (zbz h5)
   refine ze rfl h5 (zh rfl rfl aP0 (ze rfl h5 (zh rfl rfl aP0 (ze rfl h5 (za rfl (ze rfl h5 (zh rfl rfl aP0 (ze rfl h5 (zh rfl rfl aP0 (ze rfl h5 (za rfl (ze rfl h5 (zi rfl rfl rfl rfl rfl trivial (zn rfl h5 rfl rfl (za rfl ?_)))))))))))))))
   refine zG rfl (fun h8 => ?_) (fun h8 => ?_)
   ·have g8 : ¬ ((a.Map.W : Int) = b.Map.W) := zc9 h8
    refine zf rfl h8 rfl (zf rfl h8 rfl (zf rfl h8 rfl (zf rfl h8 rfl (zf rfl h8 rfl (zf rfl h8 rfl (zf rfl h8 rfl (zo rfl h8 rfl rfl (za rfl (zc rfl (zc rfl (zc rfl (zc rfl (zc rfl (zc rfl (zc rfl (zc rfl (zc rfl ?_)))))))))))))))))
    refine za rfl (za rfl (zc rfl (zc rfl (zc rfl (zc rfl (zc rfl (zc rfl (zc rfl (za rfl (za rfl (zc rfl (zc rfl (zc rfl (zc rfl (zc rfl (zc rfl (zc rfl ?_)))))))))))))))))
    refine za rfl (za rfl (zc rfl (zc rfl (zc rfl (zc rfl (zc rfl (zc rfl (zc rfl (za rfl (zd (zK rfl (zg rfl (za rfl (zd ?_))))))))))))))
    refine zl (zE ?_)
    have e9 : zbE a b = false := by
     unfold zbE
     try dsimp only
     rewrite [if_pos g2, if_pos g5, if_neg g8]
     all_goals rfl
    rw [e9]
    exact zk rfl ⟨trivial, trivial⟩ (rfl) rfl
   ·have g8 : (a.Map.W : Int) = b.Map.W := zdl h8
    refine ze rfl h8 (zh rfl rfl aP0 (ze rfl h8 (zh rfl rfl aP0 (ze rfl h8 (za rfl (ze rfl h8 (zh rfl rfl aP0 (ze rfl h8 (zh rfl rfl aP0 (ze rfl h8 (za rfl (ze rfl h8 (zi rfl rfl rfl rfl rfl trivial (zn rfl h8 rfl rfl (za rfl ?_)))))))))))))))
    refine zG rfl (fun h11 => ?_) (fun h11 => ?_)
    ·have g11 : ¬ ((a.Map.H : Int) = b.Map.H) := zc9 h11
     refine zf rfl h11 rfl (zf rfl h11 rfl (zf rfl h11 rfl (zf rfl h11 rfl (zf rfl h11 rfl (zf rfl h11 rfl (zf rfl h11 rfl (zf rfl h11 rfl (zf rfl h11 rfl (zo rfl h11 rfl rfl (za rfl (zc rfl (zc rfl (zc rfl (zc rfl (zc rfl (zc rfl (zc rfl ?_)))))))))))))))))
     refine za rfl (za rfl (zc rfl (zc rfl (zc rfl (zc rfl (zc rfl (zc rfl (zc rfl (za rfl (za rfl (zc rfl (zc rfl (zc rfl (zc rfl (zc rfl (zc rfl (zc rfl ?_)))))))))))))))))
     refine za rfl (zd (zK rfl (zg rfl (za rfl (zd (zl (zE ?_)))))))
     have e12 : zbE a b = false := by
      unfold zbE
      try dsimp only
      rewrite [if_pos g2, if_pos g5, if_pos g8, if_neg g11]
      all_goals rfl
     rw [e12]
     exact zk rfl ⟨trivial, trivial⟩ (rfl) rfl
    ·have g11 : (a.Map.H : Int) = b.Map.H := zdl h11
     refine ze rfl h11 (zh rfl rfl aP0 (ze rfl h11 (zh rfl rfl aP0 (ze rfl h11 (za rfl (ze rfl h11 (za rfl (ze rfl h11 (zh rfl rfl aP0 (ze rfl h11 (zh rfl rfl aP0 (ze rfl h11 (za rfl (ze rfl h11 (za rfl (ze rfl h11 (zi rfl rfl rfl rfl rfl trivial ?_)))))))))))))))))
     refine zn rfl h11 rfl rfl (za rfl ?_)
     refine zG rfl (fun h14 => ?_) (fun h14 => ?_)
     ·have g14 : ¬ ((a.Map.Wall.length : Int) = b.Map.Wall.length) := zc9 h14
      refine zf rfl h14 rfl (zf rfl h14 rfl (zf rfl h14 rfl (zf rfl h14 rfl (zf rfl h14 rfl (zf rfl h14 rfl (zf rfl h14 rfl (zo rfl h14 rfl rfl (za rfl (zc rfl (zc rfl (zc rfl (zc rfl (zc rfl (zc rfl (zc rfl (za rfl (za rfl ?_)))))))))))))))))
      refine zc rfl (zc rfl (zc rfl (zc rfl (zc rfl (zc rfl (zc rfl (za rfl (zd (zK rfl (zg rfl (za rfl (zd (zl (zE ?_))))))))))))))
      have e15 : zbE a b = false := by
       unfold zbE
       try dsimp only
       rewrite [if_pos g2, if_pos g5, if_pos g8, if_pos g11, if_neg g14]
       all_goals rfl
      rw [e15]
      exact zk rfl ⟨trivial, trivial⟩ (rfl) rfl
     ·have g14 : (a.Map.Wall.length : Int) = b.Map.Wall.length := zdl h14
      refine ze rfl h14 (zh rfl rfl aP0 (ze rfl h14 (za rfl (ze rfl h14 (za rfl (ze rfl h14 (zh rfl rfl aP0 (ze rfl h14 (za rfl (ze rfl h14 (za rfl (ze rfl h14 (zi rfl rfl rfl rfl rfl trivial (zn rfl h14 rfl rfl (za rfl ?_)))))))))))))))
      refine zG rfl (fun h17 => ?_) (fun h17 => ?_)
      ·have g17 : ¬ ((a.Abilities.length : Int) = b.Abilities.length) := zc9 h17
       refine zf rfl h17 rfl (zf rfl h17 rfl (zf rfl h17 rfl (zf rfl h17 rfl (zf rfl h17 rfl (zf rfl h17 rfl (zf rfl h17 rfl (zo rfl h17 rfl rfl (za rfl (zc rfl (zc rfl (zc rfl (zc rfl (zc rfl (zc rfl (zc rfl (za rfl (zq ?_)))))))))))))))))
       refine zu (zK rfl (zg rfl (za rfl (zd (zl (zE ?_))))))
       have e18 : zbE a b = false := by
        unfold zbE
        try dsimp only
        rewrite [if_pos g2, if_pos g5, if_pos g8, if_pos g11, if_pos g14, if_neg g17]
        all_goals rfl
       rw [e18]
       exact zk rfl ⟨trivial, trivial⟩ (rfl) rfl
      ·have g17 : (a.Abilities.length : Int) = b.Abilities.length := zdl h17
       refine ze rfl h17 (zh rfl rfl aP0 (ze rfl h17 (za rfl (ze rfl h17 (za rfl (ze rfl h17 (zh rfl rfl aP0 (ze rfl h17 (za rfl (ze rfl h17 (za rfl (ze rfl h17 (zi rfl rfl rfl rfl rfl trivial (zn rfl h17 rfl rfl (za rfl ?_)))))))))))))))
       refine zG rfl (fun h20 => ?_) (fun h20 => ?_)
       ·have g20 : ¬ ((a.Auras.length : Int) = b.Auras.length) := zc9 h20
        refine zf rfl h20 rfl (zf rfl h20 rfl (zf rfl h20 rfl (zf rfl h20 rfl (zf rfl h20 rfl (zf rfl h20 rfl (zf rfl h20 rfl (zo rfl h20 rfl rfl (zd (zK rfl (zg rfl (za rfl (zd (zl (zE ?_))))))))))))))
        have e21 : zbE a b = false := by
         unfold zbE
         try dsimp only
         rewrite [if_pos g2, if_pos g5, if_pos g8, if_pos g11, if_pos g14, if_pos g17, if_neg g20]
         all_goals rfl
        rw [e21]
        exact zk rfl ⟨trivial, trivial⟩ (rfl) rfl
       ·have g20 : (a.Auras.length : Int) = b.Auras.length := zdl h20
        refine ze rfl h20 (zh rfl rfl aP0 (ze rfl h20 (za rfl (ze rfl h20 (za rfl (ze rfl h20 (zh rfl rfl aP0 (ze rfl h20 (za rfl (ze rfl h20 (za rfl (ze rfl h20 (zi rfl rfl rfl rfl rfl trivial (zn rfl h20 rfl rfl (zd ?_)))))))))))))))
        refine zr rfl (fun h23 => ?_) (fun h23 => ?_)
        ·have g23 : ¬ ((a.Foes.length : Int) = b.Foes.length) := zc9 h23
         refine zg rfl (za rfl (zd (zl (zE ?_))))
         have e24 : zbE a b = false := by
          unfold zbE
          try dsimp only
          rewrite [if_pos g2, if_pos g5, if_pos g8, if_pos g11, if_pos g14, if_pos g17, if_pos g20, if_neg g23]
          all_goals rfl
         rw [e24]
         exact zk rfl ⟨trivial, trivial⟩ (rfl) rfl
        ·have g23 : (a.Foes.length : Int) = b.Foes.length := zdl h23
         refine zt (zu (zm (zg rfl (za rfl (zd ?_)))))
         refine zX (fun w_ : Unit => match w_ with | () => (⟨[(2, .ptr 0 0), (3, .ptr 1 0)], [(0, .box [.pv (.slc a.Abilities.length false (a.Abilities.flatMap zj)), .pv (.slc a.Auras.length false (a.Auras.flatMap zp)), .pv (.slc a.Foes.length false (a.Foes.flatMap zC)), I a.Map.W, I a.Map.H, .pv (.slc a.Map.Wall.length false (encB a.Map.Wall)), I a.Door.X, I a.Door.Y, I a.Lair.X, I a.Lair.Y]), (1, .box [.pv (.slc b.Abilities.length false (b.Abilities.flatMap zj)), .pv (.slc b.Auras.length false (b.Auras.flatMap zp)), .pv (.slc b.Foes.length false (b.Foes.flatMap zC)), I b.Map.W, I b.Map.H, .pv (.slc b.Map.Wall.length false (encB b.Map.Wall)), I b.Door.X, I b.Door.Y, I b.Lair.X, I b.Lair.Y])], 2, [], 158, 0⟩ : St)) (fun w_ => zbo a b (a.Map.Wall.length - 0) 0 = .inr w_) ?_ ?_
         ·refine zw ?_
          refine z1 (fun k0 : Nat => (⟨[(2, .ptr 0 0), (3, .ptr 1 0), (5, I k0)], [(0, .box [.pv (.slc a.Abilities.length false (a.Abilities.flatMap zj)), .pv (.slc a.Auras.length false (a.Auras.flatMap zp)), .pv (.slc a.Foes.length false (a.Foes.flatMap zC)), I a.Map.W, I a.Map.H, .pv (.slc a.Map.Wall.length false (encB a.Map.Wall)), I a.Door.X, I a.Door.Y, I a.Lair.X, I a.Lair.Y]), (1, .box [.pv (.slc b.Abilities.length false (b.Abilities.flatMap zj)), .pv (.slc b.Auras.length false (b.Auras.flatMap zp)), .pv (.slc b.Foes.length false (b.Foes.flatMap zC)), I b.Map.W, I b.Map.H, .pv (.slc b.Map.Wall.length false (encB b.Map.Wall)), I b.Door.X, I b.Door.Y, I b.Lair.X, I b.Lair.Y])], 2, [], 158, 0⟩ : St)) (fun k0 : Nat => zbo a b (a.Map.Wall.length - k0) k0 = zbo a b (a.Map.Wall.length - 0) 0 ∧ k0 ≤ a.Map.Wall.length) (fun k0 : Nat => a.Map.Wall.length - k0) 0 (⟨rfl, aP2⟩) ?_ (fun k0 hh_ => ?_)
          ·exact (zD.ren [] aP1 aP1 rfl ⟨⟨rfl, rfl⟩, ⟨rfl, rfl⟩, ⟨rfl, rfl⟩, trivial⟩ ⟨⟨rfl, rfl, rfl⟩, ⟨rfl, rfl, rfl⟩, trivial⟩ aP0)
          obtain ⟨hI0, hb0⟩ := hh_
          refine zm (zg rfl (za rfl (zh rfl rfl aP0 (zh rfl rfl aP0 (za rfl (za rfl (zi rfl rfl rfl rfl rfl trivial (zd ?_))))))))
          refine zr rfl (fun h27 => ?_) (fun h27 => ?_)
          ·have g27 : (k0 : Int) < a.Map.Wall.length := of_decide_eq_true h27
           have hm0 : a.Map.Wall.length - k0 = (a.Map.Wall.length - (k0 + 1)) + 1 := by omega
           refine zt (zu (zm (zw (zm ?_))))
           refine zav rfl aP1 rfl ?_
           refine zh rfl rfl aP0 (zh rfl rfl aP0 (za rfl (za rfl ?_)))
           have jk28 : k0 < a.Map.Wall.length := by first | assumption | omega | (simp only [List.length_set, List.length_append]; omega) | (simp only [IntKind.wrap_i64] at *; omega) | (simp; omega) | simp_all
           refine zJ (k := k0) rfl rfl rfl rfl jk28 (zgl jk28) rfl (zO rfl rfl rfl (ze8 (zaE jk28)) rfl (zh rfl rfl aP0 (zh rfl rfl aP0 (za rfl (za rfl ?_)))))
           have jk29 : k0 < b.Map.Wall.length := by first | assumption | omega | (simp only [List.length_set, List.length_append]; omega) | (simp only [IntKind.wrap_i64] at *; omega) | (simp; omega) | simp_all
           refine zJ (k := k0) rfl rfl rfl rfl jk29 (zgl jk29) rfl (zO rfl rfl rfl (ze8 (zaE jk29)) rfl (zi rfl rfl rfl rfl rfl trivial (zd ?_)))
           refine zr rfl (fun h30 => ?_) (fun h30 => ?_)
           ·have g30 : ¬ ((a.Map.Wall.getD k0 default) = (b.Map.Wall.getD k0 default)) := zed (zbA h30)
            refine zg rfl (za rfl (zd (zl (z8 (zE (zbm (z8 (zaz (zE ?_)))))))))
            have e31 : zbo a b (a.Map.Wall.length - 0) 0 = .inl false := by
             rewrite [← hI0, hm0]
             rewrite [zbo]
             try dsimp only
             rewrite [if_neg g30]
             all_goals rfl
            have e32 : zbE a b = false := by
             unfold zbE
             try dsimp only
             rewrite [if_pos g2, if_pos g5, if_pos g8, if_pos g11, if_pos g14, if_pos g17, if_pos g20, if_pos g23, e31]
             try dsimp only
             all_goals rfl
            rw [e32]
            exact zk rfl ⟨trivial, trivial⟩ (rfl) rfl
           ·have g30 : (a.Map.Wall.getD k0 default) = (b.Map.Wall.getD k0 default) := zd5 (zbz h30)
            refine zt (zal (zu (zy rfl (za rfl (zi rfl rfl rfl rfl rfl trivial (za rfl (zq ?_)))))))
            have e34 : zbo a b (a.Map.Wall.length - k0) k0 = zbo a b (a.Map.Wall.length - (k0 + 1)) (k0 + 1) := by
             rewrite [hm0]
             rewrite [zbo]
             try dsimp only
             rewrite [if_pos g30]
             all_goals rfl
            exact zQ (k0 + 1) ⟨e34.symm.trans hI0, aP5⟩ (by show a.Map.Wall.length - (k0 + 1) < a.Map.Wall.length - k0; omega) (zD.ren [] aP1 aP1 rfl ⟨⟨rfl, rfl⟩, ⟨rfl, rfl⟩, ⟨congrArg (fun n => some (I n)) (zbS (k := k0) aP2), rfl⟩, trivial⟩ ⟨⟨rfl, rfl, rfl⟩, ⟨rfl, rfl, rfl⟩, trivial⟩ aP0)
          ·have g27 : ¬ ((k0 : Int) < a.Map.Wall.length) := of_decide_eq_false h27
           have hm0 : a.Map.Wall.length - k0 = 0 := by omega
           refine zS (z5 (zag (zaf rfl ?_)))
           have e35 : zbo a b (a.Map.Wall.length - 0) 0 = .inr () := by
            rewrite [← hI0, hm0]
            rewrite [zbo]
            try dsimp only
            all_goals rfl
           exact z0 () e35 (zD.ren [] aP1 aP1 rfl ⟨⟨rfl, rfl⟩, ⟨rfl, rfl⟩, trivial⟩ ⟨⟨rfl, rfl, rfl⟩, ⟨rfl, rfl, rfl⟩, trivial⟩ aP0)
         ·rintro ⟨⟩ (hJ25 : zbo a b (a.Map.Wall.length - 0) 0 = .inr ())
          refine zu (zm (zg rfl (za rfl (zd ?_))))
          refine zX (fun w_ : Unit => match w_ with | () => (⟨[(2, .ptr 0 0), (3, .ptr 1 0)], [(0, .box [.pv (.slc a.Abilities.length false (a.Abilities.flatMap zj)), .pv (.slc a.Auras.length false (a.Auras.flatMap zp)), .pv (.slc a.Foes.length false (a.Foes.flatMap zC)), I a.Map.W, I a.Map.H, .pv (.slc a.Map.Wall.length false (encB a.Map.Wall)), I a.Door.X, I a.Door.Y, I a.Lair.X, I a.Lair.Y]), (1, .box [.pv (.slc b.Abilities.length false (b.Abilities.flatMap zj)), .pv (.slc b.Auras.length false (b.Auras.flatMap zp)), .pv (.slc b.Foes.length false (b.Foes.flatMap zC)), I b.Map.W, I b.Map.H, .pv (.slc b.Map.Wall.length false (encB b.Map.Wall)), I b.Door.X, I b.Door.Y, I b.Lair.X, I b.Lair.Y])], 2, [], 158, 0⟩ : St)) (fun w_ => zbr a b (a.Abilities.length - 0) 0 = .inr w_) ?_ ?_
          ·refine zw ?_
           refine z1 (fun k1 : Nat => (⟨[(2, .ptr 0 0), (3, .ptr 1 0), (6, I k1)], [(0, .box [.pv (.slc a.Abilities.length false (a.Abilities.flatMap zj)), .pv (.slc a.Auras.length false (a.Auras.flatMap zp)), .pv (.slc a.Foes.length false (a.Foes.flatMap zC)), I a.Map.W, I a.Map.H, .pv (.slc a.Map.Wall.length false (encB a.Map.Wall)), I a.Door.X, I a.Door.Y, I a.Lair.X, I a.Lair.Y]), (1, .box [.pv (.slc b.Abilities.length false (b.Abilities.flatMap zj)), .pv (.slc b.Auras.length false (b.Auras.flatMap zp)), .pv (.slc b.Foes.length false (b.Foes.flatMap zC)), I b.Map.W, I b.Map.H, .pv (.slc b.Map.Wall.length false (encB b.Map.Wall)), I b.Door.X, I b.Door.Y, I b.Lair.X, I b.Lair.Y])], 2, [], 158, 0⟩ : St)) (fun k1 : Nat => zbr a b (a.Abilities.length - k1) k1 = zbr a b (a.Abilities.length - 0) 0 ∧ k1 ≤ a.Abilities.length) (fun k1 : Nat => a.Abilities.length - k1) 0 (⟨rfl, aP2⟩) ?_ (fun k1 hh_ => ?_)
           ·exact (zD.ren [] aP1 aP1 rfl ⟨⟨rfl, rfl⟩, ⟨rfl, rfl⟩, ⟨rfl, rfl⟩, trivial⟩ ⟨⟨rfl, rfl, rfl⟩, ⟨rfl, rfl, rfl⟩, trivial⟩ aP0)
           obtain ⟨hI1, hb1⟩ := hh_
           refine zm (zg rfl (za rfl (zh rfl rfl aP0 (za rfl (za rfl (zi rfl rfl rfl rfl rfl trivial (zd ?_)))))))
           refine zr rfl (fun h38 => ?_) (fun h38 => ?_)
           ·have g38 : (k1 : Int) < a.Abilities.length := of_decide_eq_true h38
            have hm1 : a.Abilities.length - k1 = (a.Abilities.length - (k1 + 1)) + 1 := by omega
            refine zt (zu (zm (zw (zm ?_))))
            refine zav rfl aP1 rfl ?_
            refine zh rfl rfl aP0 (za rfl (za rfl ?_))
            have jk39 : k1 < a.Abilities.length := by first | assumption | omega | (simp only [List.length_set, List.length_append]; omega) | (simp only [IntKind.wrap_i64] at *; omega) | (simp; omega) | simp_all
            refine zJ (k := k1) rfl rfl rfl rfl jk39 (z3 (s := 8) (enc := zj) (fun _ => rfl) aP0 jk39) rfl (zF rfl rfl rfl (zai (s := 8) (enc := zj) (fun _ => rfl) jk39) (zZ (s := 8) (enc := zj) (fun _ => rfl) (zaE jk39)) rfl (zh rfl rfl aP0 (za rfl (za rfl ?_))))
            have jk40 : k1 < b.Abilities.length := by first | assumption | omega | (simp only [List.length_set, List.length_append]; omega) | (simp only [IntKind.wrap_i64] at *; omega) | (simp; omega) | simp_all
            refine zJ (k := k1) rfl rfl rfl rfl jk40 (z3 (s := 8) (enc := zj) (fun _ => rfl) aP0 jk40) rfl (zF rfl rfl rfl (zai (s := 8) (enc := zj) (fun _ => rfl) jk40) (zZ (s := 8) (enc := zj) (fun _ => rfl) (zaE jk40)) rfl (zB rfl rfl rfl rfl (zrC (a.Abilities.getD k1 default) (b.Abilities.getD k1 default)) rfl rfl rfl (za rfl (zd (zg rfl (za rfl (za rfl (zd ?_))))))))
            refine zr rfl (fun h42 => ?_) (fun h42 => ?_)
            ·have g42 : ¬ (zb6 (a.Abilities.getD k1 default) (b.Abilities.getD k1 default) = true) := zaA (zbA h42)
             refine zg rfl (za rfl (zd (zl (z8 (zE (zbm (z8 (zaz (zE ?_)))))))))
             have e43 : zbr a b (a.Abilities.length - 0) 0 = .inl false := by
              rewrite [← hI1, hm1]
              rewrite [zbr]
              try dsimp only
              rewrite [if_neg g42]
              all_goals rfl
             have e44 : zbE a b = false := by
              unfold zbE
              try dsimp only
              rewrite [if_pos g2, if_pos g5, if_pos g8, if_pos g11, if_pos g14, if_pos g17, if_pos g20, if_pos g23, hJ25]
              try dsimp only
              rewrite [e43]
              try dsimp only
              all_goals rfl
             rw [e44]
             exact zk rfl ⟨trivial, trivial⟩ (rfl) rfl
            ·have g42 : zb6 (a.Abilities.getD k1 default) (b.Abilities.getD k1 default) = true := (zbz h42)
             refine zt (zal (zu (zy rfl (za rfl (zi rfl rfl rfl rfl rfl trivial (za rfl (zq ?_)))))))
             have e46 : zbr a b (a.Abilities.length - k1) k1 = zbr a b (a.Abilities.length - (k1 + 1)) (k1 + 1) := by
              rewrite [hm1]
              rewrite [zbr]
              try dsimp only
              rewrite [if_pos g42]
              all_goals rfl
             exact zQ (k1 + 1) ⟨e46.symm.trans hI1, aP5⟩ (by show a.Abilities.length - (k1 + 1) < a.Abilities.length - k1; omega) (zD.ren [] aP1 aP1 rfl ⟨⟨rfl, rfl⟩, ⟨rfl, rfl⟩, ⟨congrArg (fun n => some (I n)) (zbS (k := k1) aP2), rfl⟩, trivial⟩ ⟨⟨rfl, rfl, rfl⟩, ⟨rfl, rfl, rfl⟩, trivial⟩ aP0)
           ·have g38 : ¬ ((k1 : Int) < a.Abilities.length) := of_decide_eq_false h38
            have hm1 : a.Abilities.length - k1 = 0 := by omega
            refine zS (z5 (zag (zaf rfl ?_)))
            have e47 : zbr a b (a.Abilities.length - 0) 0 = .inr () := by
             rewrite [← hI1, hm1]
             rewrite [zbr]
             try dsimp only
             all_goals rfl
            exact z0 () e47 (zD.ren [] aP1 aP1 rfl ⟨⟨rfl, rfl⟩, ⟨rfl, rfl⟩, trivial⟩ ⟨⟨rfl, rfl, rfl⟩, ⟨rfl, rfl, rfl⟩, trivial⟩ aP0)
          ·rintro ⟨⟩ (hJ36 : zbr a b (a.Abilities.length - 0) 0 = .inr ())
           refine zu (zm (zg rfl (za rfl (zd ?_))))
           refine zX (fun w_ : Unit => match w_ with | () => (⟨[(2, .ptr 0 0), (3, .ptr 1 0)], [(0, .box [.pv (.slc a.Abilities.length false (a.Abilities.flatMap zj)), .pv (.slc a.Auras.length false (a.Auras.flatMap zp)), .pv (.slc a.Foes.length false (a.Foes.flatMap zC)), I a.Map.W, I a.Map.H, .pv (.slc a.Map.Wall.length false (encB a.Map.Wall)), I a.Door.X, I a.Door.Y, I a.Lair.X, I a.Lair.Y]), (1, .box [.pv (.slc b.Abilities.length false (b.Abilities.flatMap zj)), .pv (.slc b.Auras.length false (b.Auras.flatMap zp)), .pv (.slc b.Foes.length false (b.Foes.flatMap zC)), I b.Map.W, I b.Map.H, .pv (.slc b.Map.Wall.length false (encB b.Map.Wall)), I b.Door.X, I b.Door.Y, I b.Lair.X, I b.Lair.Y])], 2, [], 158, 0⟩ : St)) (fun w_ => zbs a b (a.Auras.length - 0) 0 = .inr w_) ?_ ?_
           ·refine zw ?_
            refine z1 (fun k2 : Nat => (⟨[(2, .ptr 0 0), (3, .ptr 1 0), (8, I k2)], [(0, .box [.pv (.slc a.Abilities.length false (a.Abilities.flatMap zj)), .pv (.slc a.Auras.length false (a.Auras.flatMap zp)), .pv (.slc a.Foes.length false (a.Foes.flatMap zC)), I a.Map.W, I a.Map.H, .pv (.slc a.Map.Wall.length false (encB a.Map.Wall)), I a.Door.X, I a.Door.Y, I a.Lair.X, I a.Lair.Y]), (1, .box [.pv (.slc b.Abilities.length false (b.Abilities.flatMap zj)), .pv (.slc b.Auras.length false (b.Auras.flatMap zp)), .pv (.slc b.Foes.length false (b.Foes.flatMap zC)), I b.Map.W, I b.Map.H, .pv (.slc b.Map.Wall.length false (encB b.Map.Wall)), I b.Door.X, I b.Door.Y, I b.Lair.X, I b.Lair.Y])], 2, [], 158, 0⟩ : St)) (fun k2 : Nat => zbs a b (a.Auras.length - k2) k2 = zbs a b (a.Auras.length - 0) 0 ∧ k2 ≤ a.Auras.length) (fun k2 : Nat => a.Auras.length - k2) 0 (⟨rfl, aP2⟩) ?_ (fun k2 hh_ => ?_)
            ·exact (zD.ren [] aP1 aP1 rfl ⟨⟨rfl, rfl⟩, ⟨rfl, rfl⟩, ⟨rfl, rfl⟩, trivial⟩ ⟨⟨rfl, rfl, rfl⟩, ⟨rfl, rfl, rfl⟩, trivial⟩ aP0)
            obtain ⟨hI2, hb2⟩ := hh_
            refine zm (zg rfl (za rfl (zh rfl rfl aP0 (za rfl (za rfl (zi rfl rfl rfl rfl rfl trivial (zd ?_)))))))
            refine zr rfl (fun h50 => ?_) (fun h50 => ?_)
            ·have g50 : (k2 : Int) < a.Auras.length := of_decide_eq_true h50
             have hm2 : a.Auras.length - k2 = (a.Auras.length - (k2 + 1)) + 1 := by omega
             refine zt (zu (zm (zw (zm ?_))))
             refine zav rfl aP1 rfl ?_
             refine zh rfl rfl aP0 (za rfl (za rfl ?_))
             have jk51 : k2 < a.Auras.length := by first | assumption | omega | (simp only [List.length_set, List.length_append]; omega) | (simp only [IntKind.wrap_i64] at *; omega) | (simp; omega) | simp_all
             refine zJ (k := k2) rfl rfl rfl rfl jk51 (z3 (s := 7) (enc := zp) (fun _ => rfl) aP0 jk51) rfl (zF rfl rfl rfl (zai (s := 7) (enc := zp) (fun _ => rfl) jk51) (zZ (s := 7) (enc := zp) (fun _ => rfl) (zaE jk51)) rfl (zh rfl rfl aP0 (za rfl (za rfl ?_))))
             have jk52 : k2 < b.Auras.length := by first | assumption | omega | (simp only [List.length_set, List.length_append]; omega) | (simp only [IntKind.wrap_i64] at *; omega) | (simp; omega) | simp_all
             refine zJ (k := k2) rfl rfl rfl rfl jk52 (z3 (s := 7) (enc := zp) (fun _ => rfl) aP0 jk52) rfl (zF rfl rfl rfl (zai (s := 7) (enc := zp) (fun _ => rfl) jk52) (zZ (s := 7) (enc := zp) (fun _ => rfl) (zaE jk52)) rfl ?_)
             refine zdF rfl rfl rfl (by kernel_rfl) rfl rfl rfl rfl rfl ?_
             refine zd ?_
             refine zr rfl (fun h53 => ?_) (fun h53 => ?_)
             ·have g53 : ¬ (((((a.Auras.getD k2 default).Id) == ((b.Auras.getD k2 default).Id)) && ((((a.Auras.getD k2 default).Kind) == ((b.Auras.getD k2 default).Kind)) && ((((a.Auras.getD k2 default).Ticks) == ((b.Auras.getD k2 default).Ticks)) && ((((a.Auras.getD k2 default).Every) == ((b.Auras.getD k2 default).Every)) && ((((a.Auras.getD k2 default).Stacks) == ((b.Auras.getD k2 default).Stacks)) && ((((a.Auras.getD k2 default).Amount) == ((b.Auras.getD k2 default).Amount)) && ((((a.Auras.getD k2 default).Harm) == ((b.Auras.getD k2 default).Harm)) && true))))))) = true) := zaA (zbA h53)
              refine zg rfl (za rfl (zd (zl (z8 (zE (zbm (z8 (zaz (zE ?_)))))))))
              have e54 : zbs a b (a.Auras.length - 0) 0 = .inl false := by
               rewrite [← hI2, hm2]
               rewrite [zbs]
               try dsimp only
               rewrite [if_neg g53]
               all_goals rfl
              have e55 : zbE a b = false := by
               unfold zbE
               try dsimp only
               rewrite [if_pos g2, if_pos g5, if_pos g8, if_pos g11, if_pos g14, if_pos g17, if_pos g20, if_pos g23, hJ25]
               try dsimp only
               rewrite [hJ36]
               try dsimp only
               rewrite [e54]
               try dsimp only
               all_goals rfl
              rw [e55]
              exact zk rfl ⟨trivial, trivial⟩ (rfl) rfl
             ·have g53 : ((((a.Auras.getD k2 default).Id) == ((b.Auras.getD k2 default).Id)) && ((((a.Auras.getD k2 default).Kind) == ((b.Auras.getD k2 default).Kind)) && ((((a.Auras.getD k2 default).Ticks) == ((b.Auras.getD k2 default).Ticks)) && ((((a.Auras.getD k2 default).Every) == ((b.Auras.getD k2 default).Every)) && ((((a.Auras.getD k2 default).Stacks) == ((b.Auras.getD k2 default).Stacks)) && ((((a.Auras.getD k2 default).Amount) == ((b.Auras.getD k2 default).Amount)) && ((((a.Auras.getD k2 default).Harm) == ((b.Auras.getD k2 default).Harm)) && true))))))) = true := (zbz h53)
              refine zt (zal (zu (zy rfl (za rfl (zi rfl rfl rfl rfl rfl trivial (za rfl (zq ?_)))))))
              have e57 : zbs a b (a.Auras.length - k2) k2 = zbs a b (a.Auras.length - (k2 + 1)) (k2 + 1) := by
               rewrite [hm2]
               rewrite [zbs]
               try dsimp only
               rewrite [if_pos g53]
               all_goals rfl
              exact zQ (k2 + 1) ⟨e57.symm.trans hI2, aP5⟩ (by show a.Auras.length - (k2 + 1) < a.Auras.length - k2; omega) (zD.ren [] aP1 aP1 rfl ⟨⟨rfl, rfl⟩, ⟨rfl, rfl⟩, ⟨congrArg (fun n => some (I n)) (zbS (k := k2) aP2), rfl⟩, trivial⟩ ⟨⟨rfl, rfl, rfl⟩, ⟨rfl, rfl, rfl⟩, trivial⟩ aP0)
            ·have g50 : ¬ ((k2 : Int) < a.Auras.length) := of_decide_eq_false h50
             have hm2 : a.Auras.length - k2 = 0 := by omega
             refine zS (z5 (zag (zaf rfl ?_)))
             have e58 : zbs a b (a.Auras.length - 0) 0 = .inr () := by
              rewrite [← hI2, hm2]
              rewrite [zbs]
              try dsimp only
              all_goals rfl
             exact z0 () e58 (zD.ren [] aP1 aP1 rfl ⟨⟨rfl, rfl⟩, ⟨rfl, rfl⟩, trivial⟩ ⟨⟨rfl, rfl, rfl⟩, ⟨rfl, rfl, rfl⟩, trivial⟩ aP0)
           ·rintro ⟨⟩ (hJ48 : zbs a b (a.Auras.length - 0) 0 = .inr ())
            refine zu (zm (zg rfl (za rfl (zd ?_))))
            refine zX (fun w_ : Unit => match w_ with | () => (⟨[], [], 0, [], 158, 0⟩ : St)) (fun w_ => zbn a b (a.Foes.length - 0) 0 = .inr w_) ?_ ?_
            ·refine zw ?_
             refine z1 (fun k3 : Nat => (⟨[(2, .ptr 0 0), (3, .ptr 1 0), (9, I k3)], [(0, .box [.pv (.slc a.Abilities.length false (a.Abilities.flatMap zj)), .pv (.slc a.Auras.length false (a.Auras.flatMap zp)), .pv (.slc a.Foes.length false (a.Foes.flatMap zC)), I a.Map.W, I a.Map.H, .pv (.slc a.Map.Wall.length false (encB a.Map.Wall)), I a.Door.X, I a.Door.Y, I a.Lair.X, I a.Lair.Y]), (1, .box [.pv (.slc b.Abilities.length false (b.Abilities.flatMap zj)), .pv (.slc b.Auras.length false (b.Auras.flatMap zp)), .pv (.slc b.Foes.length false (b.Foes.flatMap zC)), I b.Map.W, I b.Map.H, .pv (.slc b.Map.Wall.length false (encB b.Map.Wall)), I b.Door.X, I b.Door.Y, I b.Lair.X, I b.Lair.Y])], 2, [], 158, 0⟩ : St)) (fun k3 : Nat => zbn a b (a.Foes.length - k3) k3 = zbn a b (a.Foes.length - 0) 0 ∧ k3 ≤ a.Foes.length) (fun k3 : Nat => a.Foes.length - k3) 0 (⟨rfl, aP2⟩) ?_ (fun k3 hh_ => ?_)
             ·exact (zD.ren [] aP1 aP1 rfl ⟨⟨rfl, rfl⟩, ⟨rfl, rfl⟩, ⟨rfl, rfl⟩, trivial⟩ ⟨⟨rfl, rfl, rfl⟩, ⟨rfl, rfl, rfl⟩, trivial⟩ aP0)
             obtain ⟨hI3, hb3⟩ := hh_
             refine zm (zg rfl (za rfl (zh rfl rfl aP0 (za rfl (za rfl (zi rfl rfl rfl rfl rfl trivial (zd ?_)))))))
             refine zr rfl (fun h61 => ?_) (fun h61 => ?_)
             ·have g61 : (k3 : Int) < a.Foes.length := of_decide_eq_true h61
              have hm3 : a.Foes.length - k3 = (a.Foes.length - (k3 + 1)) + 1 := by omega
              refine zt (zu (zm (zw (zm ?_))))
              refine zav rfl aP1 rfl ?_
              refine zh rfl rfl aP0 (za rfl (za rfl ?_))
              have jk62 : k3 < a.Foes.length := by first | assumption | omega | (simp only [List.length_set, List.length_append]; omega) | (simp only [IntKind.wrap_i64] at *; omega) | (simp; omega) | simp_all
              refine zJ (k := k3) rfl rfl rfl rfl jk62 (z3 (s := 8) (enc := zC) (fun _ => rfl) aP0 jk62) rfl (zF rfl rfl rfl (zai (s := 8) (enc := zC) (fun _ => rfl) jk62) (zZ (s := 8) (enc := zC) (fun _ => rfl) (zaE jk62)) rfl (zh rfl rfl aP0 (za rfl (za rfl ?_))))
              have jk63 : k3 < b.Foes.length := by first | assumption | omega | (simp only [List.length_set, List.length_append]; omega) | (simp only [IntKind.wrap_i64] at *; omega) | (simp; omega) | simp_all
              refine zJ (k := k3) rfl rfl rfl rfl jk63 (z3 (s := 8) (enc := zC) (fun _ => rfl) aP0 jk63) rfl (zF rfl rfl rfl (zai (s := 8) (enc := zC) (fun _ => rfl) jk63) (zZ (s := 8) (enc := zC) (fun _ => rfl) (zaE jk63)) rfl (zB rfl rfl rfl rfl (zqp (a.Foes.getD k3 default) (b.Foes.getD k3 default)) rfl rfl rfl (za rfl (zd (zg rfl (za rfl (za rfl (zd ?_))))))))
              refine zr rfl (fun h65 => ?_) (fun h65 => ?_)
              ·have g65 : ¬ (zbU (a.Foes.getD k3 default) (b.Foes.getD k3 default) = true) := zaA (zbA h65)
               refine zg rfl (za rfl (zd (zl (z8 (zE (zbm (z8 (zaz (zE ?_)))))))))
               have e66 : zbn a b (a.Foes.length - 0) 0 = .inl false := by
                rewrite [← hI3, hm3]
                rewrite [zbn]
                try dsimp only
                rewrite [if_neg g65]
                all_goals rfl
               have e67 : zbE a b = false := by
                unfold zbE
                try dsimp only
                rewrite [if_pos g2, if_pos g5, if_pos g8, if_pos g11, if_pos g14, if_pos g17, if_pos g20, if_pos g23, hJ25]
                try dsimp only
                rewrite [hJ36]
                try dsimp only
                rewrite [hJ48]
                try dsimp only
                rewrite [e66]
                try dsimp only
                all_goals rfl
               rw [e67]
               exact zk rfl ⟨trivial, trivial⟩ (rfl) rfl
              ·have g65 : zbU (a.Foes.getD k3 default) (b.Foes.getD k3 default) = true := (zbz h65)
               refine zt (zal (zu (zy rfl (za rfl (zi rfl rfl rfl rfl rfl trivial (za rfl (zq ?_)))))))
               have e69 : zbn a b (a.Foes.length - k3) k3 = zbn a b (a.Foes.length - (k3 + 1)) (k3 + 1) := by
                rewrite [hm3]
                rewrite [zbn]
                try dsimp only
                rewrite [if_pos g65]
                all_goals rfl
               exact zQ (k3 + 1) ⟨e69.symm.trans hI3, aP5⟩ (by show a.Foes.length - (k3 + 1) < a.Foes.length - k3; omega) (zD.ren [] aP1 aP1 rfl ⟨⟨rfl, rfl⟩, ⟨rfl, rfl⟩, ⟨congrArg (fun n => some (I n)) (zbS (k := k3) aP2), rfl⟩, trivial⟩ ⟨⟨rfl, rfl, rfl⟩, ⟨rfl, rfl, rfl⟩, trivial⟩ aP0)
             ·have g61 : ¬ ((k3 : Int) < a.Foes.length) := of_decide_eq_false h61
              have hm3 : a.Foes.length - k3 = 0 := by omega
              refine zS (z5 (zag (zaf rfl ?_)))
              have e70 : zbn a b (a.Foes.length - 0) 0 = .inr () := by
               rewrite [← hI3, hm3]
               rewrite [zbn]
               try dsimp only
               all_goals rfl
              exact z0 () e70 (zD.ren [] aP1 aP1 rfl trivial trivial aP0)
            ·rintro ⟨⟩ (hJ59 : zbn a b (a.Foes.length - 0) 0 = .inr ())
             refine zu (zg rfl (za rfl (zd (zl ?_))))
             have e71 : zbE a b = true := by
              unfold zbE
              try dsimp only
              rewrite [if_pos g2, if_pos g5, if_pos g8, if_pos g11, if_pos g14, if_pos g17, if_pos g20, if_pos g23, hJ25]
              try dsimp only
              rewrite [hJ36]
              try dsimp only
              rewrite [hJ48]
              try dsimp only
              rewrite [hJ59]
              try dsimp only
              all_goals rfl
             rw [e71]
             exact zk rfl ⟨trivial, trivial⟩ (rfl) rfl
end Go.Proofs.YtppnccjeggnllaaGreat

import Derived.Test.YtppnccjeggnllaaGreatSame10
namespace Go.Proofs.YtppnccjeggnllaaGreat
open Go Go.RowKit Go.Proofs.YtppnccjeggnllaaGreatVm
attribute [local irreducible] zY zaM OpsS
set_option maxHeartbeats 400000
set_option maxRecDepth 100000
set_option linter.all false
attribute [local irreducible] flat enc dec za5 zbj zeF
theorem zir : Fits (⟨[], [], [], (⟨1, 1, [false]⟩ : zax), (⟨0, 0⟩ : GPos), (⟨0, 0⟩ : GPos)⟩ : zu) := ⟨by decide, by decide, by decide, by decide, by decide, by decide⟩
theorem ziu : (flat (⟨[], [], [], (⟨1, 1, [false]⟩ : zax), (⟨0, 0⟩ : GPos), (⟨0, 0⟩ : GPos)⟩ : zu)).length ≤ 1400000 := by decide +kernel
theorem zgD : ∀ (l : List Int) (k : Nat) (out : List UInt8), (zbp l k out).length ≤ out.length + 11 * l.length
  | [], k, out => by rw [zbp]; exact Nat.le_refl _
  | x :: l, k, out => by
    rw [zbp]
    have h1 := zgD l (k + 1) (put out (fold x))
    have h2 := ziY out (fold x)
    simp only [List.length_cons]; omega
theorem zjk (c : zu) (hl : (flat c).length ≤ 1400000) : (enc c).1.length ≤ 15999000 := by
  unfold enc
  split
  · have h1 := zgD (flat c) 0 (putU [66, 82, 87, 49] (flat c).length)
    have h2 := zlR [66, 82, 87, 49] (flat c).length
    simp only [List.length_cons, List.length_nil] at h2
    unfold zji; dsimp only; omega
  · exact Nat.zero_le _

def zay : Bool :=
  if zeF (flat (⟨[], [], [], (⟨1, 1, [false]⟩ : zax), (⟨0, 0⟩ : GPos), (⟨0, 0⟩ : GPos)⟩ : zu)) ([0, 0, 0, 1, 1, 1, 0, 0, 0, 0, 0]) = true then (if ((enc (⟨[], [], [], (⟨1, 1, [false]⟩ : zax), (⟨0, 0⟩ : GPos), (⟨0, 0⟩ : GPos)⟩ : zu)).2 : Int) = 0 then (if ((dec ((enc (⟨[], [], [], (⟨1, 1, [false]⟩ : zax), (⟨0, 0⟩ : GPos), (⟨0, 0⟩ : GPos)⟩ : zu)).1)).2 : Int) = 0 then (if zbj (⟨[], [], [], (⟨1, 1, [false]⟩ : zax), (⟨0, 0⟩ : GPos), (⟨0, 0⟩ : GPos)⟩ : zu) ((dec ((enc (⟨[], [], [], (⟨1, 1, [false]⟩ : zax), (⟨0, 0⟩ : GPos), (⟨0, 0⟩ : GPos)⟩ : zu)).1)).1) = true then (if ((dec ([(66 : UInt8), (82 : UInt8), (87 : UInt8), (49 : UInt8)])).2 : Int) = 2 then (((enc (⟨[], [], [], (⟨1, 1, [false]⟩ : zax), (⟨0, 0⟩ : GPos), (⟨0, 0⟩ : GPos)⟩ : zu)).1.length : Int) == 16) else false) else false) else false) else false) else false
theorem zmm  : Ok Tryz.prog 7 [] [] (B (zay)) [] [] := by
 refine zz Tryz.func7 rfl ?_
 show zO Tryz.prog _ _ ⟨[], [], 0, [], 53, 0⟩
 refine zd (zb rfl (za rfl rfl trivial (zc (ze (zd (zb rfl (zB (o := .row _ _ [_]) (nx' := 1) rfl rfl rfl (by decide) (za (v := (.agg [_, _, _])) rfl rfl trivial (za (v := (.agg [_, _, _, _, _, _, _, _, _, _])) rfl rfl trivial (zB (o := .box [_, _, _, _, _, _, _, _, _, _]) (nx' := 2) rfl rfl rfl trivial ?_))))))))))
 refine zx (H' := [(1, .box [_, _, _, _, _, _, _, _, _, _]), (0, _)]) rfl rfl rfl rfl rfl rfl (.inl rfl) rfl ?_
 refine zc (ze (zd ?_))
 refine zaY rfl (zcn 2 (j := 0) ?_)
 simp only [List.take_succ_cons, List.take_zero, List.drop_succ_cons, List.drop_zero]
 refine za (v := (.agg [_, _, _, _, _, _, _, _, _, _])) rfl rfl (Nat.le_of_ble_eq_true rfl) ?_
 refine zaX (Hin := [.row _ _ _]) (out' := .tup [.ref 2 _ _ _, _]) (H' := [(2, .row _ _ _), (1, _), (0, _)]) (nx' := 3) [0] rfl rfl rfl rfl rfl rfl rfl rfl rfl (by (repeat' apply And.intro) <;> first | trivial | rfl | exact zi (fun _ => rfl) _ | exact zk _ | exact zn _ | exact zm _ | exact Nat.le_of_ble_eq_true rfl | assumption) (zlz (⟨[], [], [], (⟨1, 1, [false]⟩ : zax), (⟨0, 0⟩ : GPos), (⟨0, 0⟩ : GPos)⟩ : zu) (by first | assumption | exact zir) (by first | assumption | exact ziu)) rfl (by decide) rfl rfl ⟨zij, trivial⟩ rfl rfl rfl rfl ?_
 have p1 := zjk (⟨[], [], [], (⟨1, 1, [false]⟩ : zax), (⟨0, 0⟩ : GPos), (⟨0, 0⟩ : GPos)⟩ : zu) (by first | assumption | exact ziu)
 refine zc ?_
 refine zbz (zH.freezeJ (T' := [(0, B false), (1, .ptr 1 0), (8, .ref 0 1 0 1), (9, .agg [I 1, I 1, .ref 0 1 0 1]), (10, .agg [.pv (.slc 0 false []), .pv (.slc 0 false []), .pv (.slc 0 false []), I 1, I 1, .ref 0 1 0 1, I 0, I 0, I 0, I 0]), (12, .agg [.pv (.slc 0 false []), .pv (.slc 0 false []), .pv (.slc 0 false []), I 1, I 1, .ref 0 1 0 1, I 0, I 0, I 0, I 0]), (13, .tup [.pv (.slc (enc (⟨[], [], [], (⟨1, 1, [false]⟩ : zax), (⟨0, 0⟩ : GPos), (⟨0, 0⟩ : GPos)⟩ : zu)).1.length false (encY (enc (⟨[], [], [], (⟨1, 1, [false]⟩ : zax), (⟨0, 0⟩ : GPos), (⟨0, 0⟩ : GPos)⟩ : zu)).1)), I (enc (⟨[], [], [], (⟨1, 1, [false]⟩ : zax), (⟨0, 0⟩ : GPos), (⟨0, 0⟩ : GPos)⟩ : zu)).2])]) (H' := [(1, .box [.pv (.slc 0 false []), .pv (.slc 0 false []), .pv (.slc 0 false []), I 1, I 1, .ref 0 1 0 1, I 0, I 0, I 0, I 0]), (0, .row 4 1 [.bool false])]) [2] (by decide) ⟨⟨_, _, rfl, rfl, (by (repeat' apply And.intro) <;> first | trivial | rfl | exact zi (fun _ => rfl) _ | exact zk _ | exact zn _ | exact zm _ | exact Nat.le_of_ble_eq_true rfl | assumption)⟩, ⟨_, _, rfl, rfl, (by (repeat' apply And.intro) <;> first | trivial | rfl | exact zi (fun _ => rfl) _ | exact zk _ | exact zn _ | exact zm _ | exact Nat.le_of_ble_eq_true rfl | assumption)⟩, ⟨_, _, rfl, rfl, (by (repeat' apply And.intro) <;> first | trivial | rfl | exact zi (fun _ => rfl) _ | exact zk _ | exact zn _ | exact zm _ | exact Nat.le_of_ble_eq_true rfl | assumption)⟩, ⟨_, _, rfl, rfl, (by (repeat' apply And.intro) <;> first | trivial | rfl | exact zi (fun _ => rfl) _ | exact zk _ | exact zn _ | exact zm _ | exact Nat.le_of_ble_eq_true rfl | assumption)⟩, ⟨_, _, rfl, rfl, (by (repeat' apply And.intro) <;> first | trivial | rfl | exact zi (fun _ => rfl) _ | exact zk _ | exact zn _ | exact zm _ | exact Nat.le_of_ble_eq_true rfl | assumption)⟩, ⟨_, _, rfl, rfl, (by (repeat' apply And.intro) <;> first | trivial | rfl | exact zi (fun _ => rfl) _ | exact zk _ | exact zn _ | exact zm _ | exact Nat.le_of_ble_eq_true rfl | assumption)⟩, ⟨_, _, rfl, rfl, (by (repeat' apply And.intro) <;> first | trivial | rfl | exact zi (fun _ => rfl) _ | exact zk _ | exact zn _ | exact zm _ | exact Nat.le_of_ble_eq_true rfl | assumption)⟩, trivial⟩ ⟨⟨rfl, _, _, rfl, rfl, (by (repeat' apply And.intro) <;> first | trivial | rfl | exact zi (fun _ => rfl) _ | exact zk _ | exact zn _ | exact zm _ | exact Nat.le_of_ble_eq_true rfl | assumption)⟩, ⟨rfl, _, _, rfl, rfl, (by (repeat' apply And.intro) <;> first | trivial | rfl | exact zi (fun _ => rfl) _ | exact zk _ | exact zn _ | exact zm _ | exact Nat.le_of_ble_eq_true rfl | assumption)⟩, trivial⟩) ?_
 refine zc3 (j := 2) ?_
 refine za rfl rfl trivial (za rfl rfl trivial (za rfl rfl trivial (za rfl rfl trivial (za rfl rfl trivial (zc (ze (zd (zb rfl (za rfl rfl trivial (zF rfl rfl rfl rfl (zle ((enc (⟨[], [], [], (⟨1, 1, [false]⟩ : zax), (⟨0, 0⟩ : GPos), (⟨0, 0⟩ : GPos)⟩ : zu)).1) false (by first | assumption | omega | (simp only [List.length_append, List.length_cons, List.length_nil, List.length_take]; omega))) rfl rfl rfl (za rfl rfl trivial ?_)))))))))))
 refine za rfl rfl trivial (za rfl rfl trivial (zB (o := .box [_, _, _, _, _, _, _, _, _, _]) (nx' := 4) rfl rfl rfl trivial ?_))
 refine zx (H' := [(3, .box [_, _, _, _, _, _, _, _, _, _]), (1, _), (0, _)]) rfl rfl rfl rfl rfl rfl (.inl rfl) rfl ?_
 refine za rfl rfl trivial (zc (ze (zd ?_)))
 refine zaY rfl (zcn 1 (j := 0) ?_)
 simp only [List.take_succ_cons, List.take_zero, List.drop_succ_cons, List.drop_zero]
 refine zB (o := .row _ _ [_, _, _, _]) (nx' := 5) rfl rfl rfl (by decide) (zc ?_)
 refine zjv rfl rfl rfl rfl rfl rfl rfl rfl rfl ?_
 refine zc3 (j := 2) ?_
 refine zF rfl rfl rfl rfl (zle ([(66 : UInt8), (82 : UInt8), (87 : UInt8), (49 : UInt8)]) false (by first | assumption | omega | (simp only [List.length_append, List.length_cons, List.length_nil, List.length_take]; omega))) rfl rfl rfl (za rfl rfl trivial (za rfl rfl trivial (za rfl rfl trivial (zB (o := .box [_, _, _, _, _, _, _, _, _, _]) (nx' := 6) rfl rfl rfl trivial ?_))))
 refine zx (H' := [(5, .box [_, _, _, _, _, _, _, _, _, _]), (3, _), (1, _), (0, _)]) rfl rfl rfl rfl rfl rfl (.inl rfl) rfl ?_
 refine za rfl rfl trivial (zc (ze (zd (zb rfl (za (v := (.agg [_, _, _, _, _, _, _, _, _, _])) rfl rfl (Nat.le_of_ble_eq_true rfl) ?_)))))
 refine zaX (Hin := [.row _ _ _]) (out' := .ref 6 _ _ _) (H' := [(6, .row _ _ _), (5, _), (3, _), (1, _), (0, _)]) (nx' := 7) [0] rfl rfl rfl rfl rfl rfl rfl rfl rfl (by (repeat' apply And.intro) <;> first | trivial | rfl | exact zi (fun _ => rfl) _ | exact zk _ | exact zn _ | exact zm _ | exact Nat.le_of_ble_eq_true rfl | assumption) (zm2 (⟨[], [], [], (⟨1, 1, [false]⟩ : zax), (⟨0, 0⟩ : GPos), (⟨0, 0⟩ : GPos)⟩ : zu) (by first | assumption | exact zir)) rfl (by decide) rfl rfl ⟨zl1, trivial⟩ rfl rfl rfl rfl ?_
 refine zB (o := .row _ _ [_, _, _, _, _, _, _, _, _, _, _]) (nx' := 8) rfl rfl rfl (by decide) ?_
 refine zaX (Hin := [.row _ _ _, .row _ _ _]) (H' := [(7, _), (6, _), (5, _), (3, _), (1, _), (0, _)]) (nx' := 8) [6, 7] rfl rfl rfl rfl rfl rfl rfl rfl rfl (by (repeat' apply And.intro) <;> first | trivial | rfl | exact zi (fun _ => rfl) _ | exact zk _ | exact zn _ | exact zm _ | exact Nat.le_of_ble_eq_true rfl | assumption) (zn4 (flat (⟨[], [], [], (⟨1, 1, [false]⟩ : zax), (⟨0, 0⟩ : GPos), (⟨0, 0⟩ : GPos)⟩ : zu)) false ([0, 0, 0, 1, 1, 1, 0, 0, 0, 0, 0]) false) rfl (by decide) rfl rfl trivial rfl rfl rfl rfl ?_
 refine za rfl rfl trivial ?_
 refine zK rfl (fun h6 => ?_) (fun h6 => ?_)
 ·have g6 : zeF (flat (⟨[], [], [], (⟨1, 1, [false]⟩ : zax), (⟨0, 0⟩ : GPos), (⟨0, 0⟩ : GPos)⟩ : zu)) ([0, 0, 0, 1, 1, 1, 0, 0, 0, 0, 0]) = true := h6
  refine zg rfl h6 (za rfl rfl trivial (zg rfl h6 (zl rfl rfl rfl rfl rfl trivial (zr rfl h6 rfl rfl (za rfl rfl trivial ?_)))))
  refine zK rfl (fun h8 => ?_) (fun h8 => ?_)
  ·have g8 : ((enc (⟨[], [], [], (⟨1, 1, [false]⟩ : zax), (⟨0, 0⟩ : GPos), (⟨0, 0⟩ : GPos)⟩ : zu)).2 : Int) = 0 := zcF h8
   refine zg rfl h8 (za rfl rfl trivial (zg rfl h8 (zl rfl rfl rfl rfl rfl trivial (zr rfl h8 rfl rfl (za rfl rfl trivial ?_)))))
   refine zK rfl (fun h10 => ?_) (fun h10 => ?_)
   ·have g10 : ((dec ((enc (⟨[], [], [], (⟨1, 1, [false]⟩ : zax), (⟨0, 0⟩ : GPos), (⟨0, 0⟩ : GPos)⟩ : zu)).1)).2 : Int) = 0 := zcF h10
    refine zg rfl h10 (za (v := (.agg [_, _, _, _, _, _, _, _, _, _])) rfl rfl (Nat.le_of_ble_eq_true rfl) (zg rfl h10 (za (v := (.agg [_, _, _, _, _, _, _, _, _, _])) rfl rfl (Nat.le_of_ble_eq_true rfl) (zg rfl h10 ?_))))
    refine zaX (Hin := [.row _ _ _]) (H' := [(7, _), (6, _), (5, _), (3, _), (1, _), (0, _)]) (nx' := 8) [0] rfl rfl rfl rfl rfl rfl rfl rfl rfl (by (repeat' apply And.intro) <;> first | trivial | rfl | exact zi (fun _ => rfl) _ | exact zk _ | exact zn _ | exact zm _ | exact Nat.le_of_ble_eq_true rfl | assumption) (zmx (⟨[], [], [], (⟨1, 1, [false]⟩ : zax), (⟨0, 0⟩ : GPos), (⟨0, 0⟩ : GPos)⟩ : zu) ((dec ((enc (⟨[], [], [], (⟨1, 1, [false]⟩ : zax), (⟨0, 0⟩ : GPos), (⟨0, 0⟩ : GPos)⟩ : zu)).1)).1)) rfl (by decide) rfl rfl trivial rfl rfl rfl rfl ?_
    refine zr rfl h10 rfl rfl (za rfl rfl trivial ?_)
    refine zK rfl (fun h12 => ?_) (fun h12 => ?_)
    ·have g12 : zbj (⟨[], [], [], (⟨1, 1, [false]⟩ : zax), (⟨0, 0⟩ : GPos), (⟨0, 0⟩ : GPos)⟩ : zu) ((dec ((enc (⟨[], [], [], (⟨1, 1, [false]⟩ : zax), (⟨0, 0⟩ : GPos), (⟨0, 0⟩ : GPos)⟩ : zu)).1)).1) = true := h12
     refine zg rfl h12 (za rfl rfl trivial (zg rfl h12 (zl rfl rfl rfl rfl rfl trivial (zr rfl h12 rfl rfl (za rfl rfl trivial ?_)))))
     refine zK rfl (fun h14 => ?_) (fun h14 => ?_)
     ·have g14 : ((dec ([(66 : UInt8), (82 : UInt8), (87 : UInt8), (49 : UInt8)])).2 : Int) = 2 := zcF h14
      refine zg rfl h14 (za rfl rfl trivial (zg rfl h14 (za rfl rfl trivial (zg rfl h14 (zl rfl rfl rfl rfl rfl trivial (zr rfl h14 rfl rfl (za rfl rfl trivial (zc (ze (zo ?_))))))))))
      have e16 : zay = (((enc (⟨[], [], [], (⟨1, 1, [false]⟩ : zax), (⟨0, 0⟩ : GPos), (⟨0, 0⟩ : GPos)⟩ : zu)).1.length : Int) == 16) := by
       unfold zay
       try dsimp only
       rewrite [if_pos g6, if_pos g8, if_pos g10, if_pos g12, if_pos g14]
       all_goals rfl
      rw [e16]
      exact zp rfl ⟨trivial, trivial⟩ (rfl) rfl
     ·have g14 : ¬ (((dec ([(66 : UInt8), (82 : UInt8), (87 : UInt8), (49 : UInt8)])).2 : Int) = 2) := zcL h14
      refine zh rfl h14 rfl (zh rfl h14 rfl (zh rfl h14 rfl (zt rfl h14 rfl rfl (za rfl rfl trivial (zc (ze (zo ?_)))))))
      have e17 : zay = false := by
       unfold zay
       try dsimp only
       rewrite [if_pos g6, if_pos g8, if_pos g10, if_pos g12, if_neg g14]
       all_goals rfl
      rw [e17]
      exact zp rfl ⟨trivial, trivial⟩ (rfl) rfl
    ·have g12 : ¬ (zbj (⟨[], [], [], (⟨1, 1, [false]⟩ : zax), (⟨0, 0⟩ : GPos), (⟨0, 0⟩ : GPos)⟩ : zu) ((dec ((enc (⟨[], [], [], (⟨1, 1, [false]⟩ : zax), (⟨0, 0⟩ : GPos), (⟨0, 0⟩ : GPos)⟩ : zu)).1)).1) = true) := zaw h12
     refine zh rfl h12 rfl (zh rfl h12 rfl (zt rfl h12 rfl rfl (za rfl rfl trivial (zf rfl rfl (zf rfl rfl (zf rfl rfl (za rfl rfl trivial (za rfl rfl trivial (zc (ze (zo ?_)))))))))))
     have e18 : zay = false := by
      unfold zay
      try dsimp only
      rewrite [if_pos g6, if_pos g8, if_pos g10, if_neg g12]
      all_goals rfl
     rw [e18]
     exact zp rfl ⟨trivial, trivial⟩ (rfl) rfl
   ·have g10 : ¬ (((dec ((enc (⟨[], [], [], (⟨1, 1, [false]⟩ : zax), (⟨0, 0⟩ : GPos), (⟨0, 0⟩ : GPos)⟩ : zu)).1)).2 : Int) = 0) := zcL h10
    refine zh rfl h10 rfl (zh rfl h10 rfl (zh rfl h10 rfl (zt rfl h10 rfl rfl (za rfl rfl trivial (zf rfl rfl (zf rfl rfl (za rfl rfl trivial (za rfl rfl trivial (zf rfl rfl (zf rfl rfl (zf rfl rfl ?_)))))))))))
    refine za rfl rfl trivial (za rfl rfl trivial (zc (ze (zo ?_))))
    have e19 : zay = false := by
     unfold zay
     try dsimp only
     rewrite [if_pos g6, if_pos g8, if_neg g10]
     all_goals rfl
    rw [e19]
    exact zp rfl ⟨trivial, trivial⟩ (rfl) rfl
  ·have g8 : ¬ (((enc (⟨[], [], [], (⟨1, 1, [false]⟩ : zax), (⟨0, 0⟩ : GPos), (⟨0, 0⟩ : GPos)⟩ : zu)).2 : Int) = 0) := zcL h8
   refine zh rfl h8 rfl (zh rfl h8 rfl (zt rfl h8 rfl rfl (za rfl rfl trivial (zf rfl rfl (zf rfl rfl (zf rfl rfl (za rfl rfl trivial (za rfl rfl trivial (zf rfl rfl (zf rfl rfl (za rfl rfl trivial ?_)))))))))))
   refine za rfl rfl trivial (zf rfl rfl (zf rfl rfl (zf rfl rfl (za rfl rfl trivial (za rfl rfl trivial (zc (ze (zo ?_))))))))
   have e20 : zay = false := by
    unfold zay
    try dsimp only
    rewrite [if_pos g6, if_neg g8]
    all_goals rfl
   rw [e20]
   exact zp rfl ⟨trivial, trivial⟩ (rfl) rfl
 ·have g6 : ¬ (zeF (flat (⟨[], [], [], (⟨1, 1, [false]⟩ : zax), (⟨0, 0⟩ : GPos), (⟨0, 0⟩ : GPos)⟩ : zu)) ([0, 0, 0, 1, 1, 1, 0, 0, 0, 0, 0]) = true) := zaw h6
  refine zh rfl h6 rfl (zh rfl h6 rfl (zt rfl h6 rfl rfl (za rfl rfl trivial (zf rfl rfl (zf rfl rfl (za rfl rfl trivial (za rfl rfl trivial (zf rfl rfl (zf rfl rfl (zf rfl rfl (za rfl rfl trivial ?_)))))))))))
  refine za rfl rfl trivial (zf rfl rfl (zf rfl rfl (za rfl rfl trivial (za rfl rfl trivial (zf rfl rfl (zf rfl rfl (zf rfl rfl (za rfl rfl trivial (za rfl rfl trivial (zc (ze ?_)))))))))))
  refine zo ?_
  have e21 : zay = false := by
   unfold zay
   try dsimp only
   rewrite [if_neg g6]
   all_goals rfl
  rw [e21]
  exact zp rfl ⟨trivial, trivial⟩ (rfl) rfl
end Go.Proofs.YtppnccjeggnllaaGreat

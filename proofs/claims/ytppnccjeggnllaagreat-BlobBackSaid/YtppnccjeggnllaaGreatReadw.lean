import Derived.Test.YtppnccjeggnllaaGreatBlobr
namespace Go.Proofs.YtppnccjeggnllaaGreat
open Go Go.RowKit Go.Proofs.YtppnccjeggnllaaGreatVm
attribute [local irreducible] zY zaM OpsS
set_option maxHeartbeats 400000
set_option maxRecDepth 100000
set_option linter.all false
def zbS (b : List UInt8) (k0 : Nat) : Bool :=
  if (IntKind.u64.wrap ((b.getD k0 default).toNat) : Int) = 0 then (if (k0 : Int) > 0 then (decide ((k0 : Int) > 0)) else if (k0 : Int) = 9 then (decide ((IntKind.u64.wrap ((b.getD k0 default).toNat) : Int) > 1)) else false) else if (k0 : Int) = 9 then (decide ((IntKind.u64.wrap ((b.getD k0 default).toNat) : Int) > 1)) else false
def zb2 (b : List UInt8) : Nat → Nat → Int → Sum (Int × Int) Unit
  | 0, k0, n0 => .inr ()
  | n_ + 1, k0, n0 => if (IntKind.u64.wrap ((b.getD k0 default).toNat) : Int) ≥ 128 then zb2 b n_ (k0 + 1) (orK IntKind.u64 n0 (shlK IntKind.u64 (andK IntKind.u64 (IntKind.u64.wrap ((b.getD k0 default).toNat)) 127) (IntKind.i64.wrap (7 * k0)))) else (let t28_29 := zbS b k0; if t28_29 = true then .inl (0, 0) else .inl ((orK IntKind.u64 n0 (shlK IntKind.u64 (andK IntKind.u64 (IntKind.u64.wrap ((b.getD k0 default).toNat)) 127) (IntKind.i64.wrap (7 * k0)))), (IntKind.i64.wrap (k0 + 1))))
def take (b : List UInt8) : Int × Int :=
  (match zb2 b ((min b.length 10) - 0) 0 0 with
    | .inl r_ => r_
    | .inr () => (0, 0))
theorem zri (b : List UInt8) (b_f : Bool) : Ok Tryz.prog 132 [.pv (.slc b.length b_f (encY b))] [] (.tup [.pv (.int .u64 (take b).1), I (take b).2]) [] [] := by
 refine Ok.len fun hlen => ?_
 have hl_b : b.length ≤ maxLen := hlen _ (by simp [zT, lens, zU])
 unfold maxLen at hl_b
 refine zz Tryz.func132 rfl ?_
 show zO Tryz.prog _ _ ⟨[(0, .pv (.slc b.length b_f (encY b)))], [], 0, [], 45, 0⟩
 refine zd (zb rfl (za rfl rfl trivial (za rfl rfl trivial (zc (ze (zd (zb rfl (za rfl rfl trivial (zc (ze (zd ?_)))))))))))
 refine zd (zb rfl (za rfl rfl trivial (za rfl rfl trivial ?_)))
 refine zpP rfl rfl rfl ?_
 refine za rfl rfl trivial (zc (ze ?_))
 refine z6 (fun w_ : Unit => match w_ with | () => (⟨[], [], 0, [], 45, 0⟩ : St)) (fun w_ => zb2 b ((min b.length 10) - 0) 0 0 = .inr w_) ?_ ?_
 ·refine zC ?_
  refine z9 (fun w_ : Nat × Int => match w_ with | (k0, n0) => (⟨[(0, .pv (.slc b.length b_f (encY b))), (4, .pv (.int .u64 n0)), (9, I (min (b.length : Int) 10)), (10, I k0)], [], 0, [], 45, 0⟩ : St)) (fun w_ : Nat × Int => match w_ with | (k0, n0) => zb2 b ((min b.length 10) - k0) k0 n0 = zb2 b ((min b.length 10) - 0) 0 0 ∧ k0 ≤ min b.length 10) (fun w_ : Nat × Int => match w_ with | (k0, n0) => min b.length 10 - k0) (0, 0) (⟨rfl, (by first | omega | (simp; omega))⟩) ?_ (fun w_ hh_ => ?_)
  ·exact (zH.ren [] (by decide +kernel) (by decide +kernel) rfl ⟨⟨rfl, rfl⟩, ⟨rfl, rfl⟩, ⟨rfl, rfl⟩, ⟨rfl, rfl⟩, trivial⟩ trivial (by decide))
  obtain ⟨k0, n0⟩ := w_
  obtain ⟨hI0, hb0⟩ := hh_
  show zO Tryz.prog _ _ (⟨[(0, .pv (.slc b.length b_f (encY b))), (4, .pv (.int .u64 n0)), (9, I (min (b.length : Int) 10)), (10, I k0)], [], 0, [], 45, 0⟩ : St)
  refine zd (zb rfl (zl rfl rfl rfl rfl rfl trivial (zc (ze (zd ?_)))))
  refine zy rfl (fun h2 => ?_) (fun h2 => ?_)
  ·have g2 : (k0 : Int) < (min (b.length : Int) 10) := of_decide_eq_true h2
   have hm0 : min b.length 10 - k0 = (min b.length 10 - (k0 + 1)) + 1 := by omega
   refine zA (ze (zd (zC (zd (zb rfl (za rfl rfl trivial (za rfl rfl trivial (zc (ze (zd (zb rfl ?_)))))))))))
   refine za rfl rfl trivial (za rfl rfl trivial ?_)
   have jk4 : k0 < b.length := by first | assumption | omega | (simp only [List.length_set, List.length_append]; omega) | (simp only [IntKind.wrap_i64] at *; omega) | (simp; omega) | simp_all
   refine zS (k := k0) rfl rfl rfl rfl jk4 (zq6 jk4) rfl (zaf rfl rfl rfl (zoR (zaz jk4)) rfl (za rfl rfl trivial (za rfl rfl trivial (zc (ze (zd (zb rfl (za rfl rfl trivial (za rfl rfl trivial (zl rfl rfl rfl rfl rfl trivial (za rfl rfl trivial ?_)))))))))))
   refine zl rfl rfl rfl rfl rfl trivial ?_
   refine zl rfl rfl rfl rfl rfl (by first | decide | omega | (show (0 : Int) ≤ IntKind.i64.wrap _; rw [zb1 (by omega) (by omega)]; omega) | simp_all) ?_
   refine zl rfl rfl rfl rfl rfl trivial (za rfl rfl trivial (zc (ze (zd (zC (zd (zb rfl (za rfl rfl trivial (zl rfl rfl rfl rfl rfl trivial (za rfl rfl trivial (zc ?_)))))))))))
   refine ze ?_
   refine zy rfl (fun h9 => ?_) (fun h9 => ?_)
   ·have g9 : (IntKind.u64.wrap ((b.getD k0 default).toNat) : Int) ≥ 128 := of_decide_eq_true h9
    refine zV ?_
    refine zfa rfl ?_
    refine zac (zak rfl (ze (zb rfl (zl rfl rfl rfl rfl rfl trivial (za rfl rfl trivial (zc ?_))))))
    have e11 : zb2 b ((min b.length 10) - k0) k0 n0 = zb2 b ((min b.length 10) - (k0 + 1)) (k0 + 1) (orK IntKind.u64 n0 (shlK IntKind.u64 (andK IntKind.u64 (IntKind.u64.wrap ((b.getD k0 default).toNat)) 127) (IntKind.i64.wrap (7 * k0)))) := by
     rewrite [hm0]
     rewrite [zb2]
     try dsimp only
     rewrite [if_pos g9]
     all_goals rfl
    exact z5 (k0 + 1, (orK IntKind.u64 n0 (shlK IntKind.u64 (andK IntKind.u64 (IntKind.u64.wrap ((b.getD k0 default).toNat)) 127) (IntKind.i64.wrap (7 * k0))))) ⟨e11.symm.trans hI0, (by omega)⟩ (by show min b.length 10 - (k0 + 1) < min b.length 10 - k0; omega) (zH.ren [] (by decide +kernel) (by decide +kernel) rfl ⟨⟨rfl, rfl⟩, ⟨rfl, rfl⟩, ⟨rfl, rfl⟩, ⟨congrArg (fun n => some (I n)) (zcv (k := k0) (by first | omega | (simp; omega))), rfl⟩, trivial⟩ trivial (by decide))
   ·have g9 : ¬ ((IntKind.u64.wrap ((b.getD k0 default).toNat) : Int) ≥ 128) := of_decide_eq_false h9
    refine zd ?_
    refine z6 (fun t28_29 : Bool => (⟨[(4, .pv (.int .u64 (orK IntKind.u64 n0 (shlK IntKind.u64 (andK IntKind.u64 (IntKind.u64.wrap ((b.getD k0 default).toNat)) 127) (IntKind.i64.wrap (7 * k0)))))), (5, I k0), (28, B t28_29)], [], 0, [], 45, 0⟩ : St)) (fun w_ => zbS b k0 = w_) ?_ ?_
    ·refine zd (zb rfl (za rfl rfl trivial (zl rfl rfl rfl rfl rfl trivial (za rfl rfl trivial ?_))))
     refine zK rfl (fun h14 => ?_) (fun h14 => ?_)
     ·have g14 : (IntKind.u64.wrap ((b.getD k0 default).toNat) : Int) = 0 := zcF h14
      refine zg rfl h14 (za rfl rfl trivial (zg rfl h14 (zl rfl rfl rfl rfl rfl trivial (zr rfl h14 rfl rfl (za rfl rfl trivial (zc (ze ?_)))))))
      refine zy rfl (fun h16 => ?_) (fun h16 => ?_)
      ·have g16 : (k0 : Int) > 0 := of_decide_eq_true h16
       refine zA ?_
       have e17 : zbS b k0 = (decide ((k0 : Int) > 0)) := by
        unfold zbS
        try dsimp only
        rewrite [if_pos g14, if_pos g16]
        all_goals rfl
       exact zZ (decide ((k0 : Int) > 0)) e17 (zH.ren [] (by decide +kernel) (by decide +kernel) rfl ⟨⟨rfl, rfl⟩, ⟨rfl, rfl⟩, ⟨rfl, rfl⟩, trivial⟩ trivial (by decide))
      ·have g16 : ¬ ((k0 : Int) > 0) := of_decide_eq_false h16
       refine zb rfl (za rfl rfl trivial (zl rfl rfl rfl rfl rfl trivial (za rfl rfl trivial ?_)))
       refine zK rfl (fun h19 => ?_) (fun h19 => ?_)
       ·have g19 : (k0 : Int) = 9 := zcF h19
        refine zg rfl h19 (za rfl rfl trivial (zg rfl h19 (zl rfl rfl rfl rfl rfl trivial (zr rfl h19 rfl rfl (za rfl rfl trivial (zc ?_))))))
        have e21 : zbS b k0 = (decide ((IntKind.u64.wrap ((b.getD k0 default).toNat) : Int) > 1)) := by
         unfold zbS
         try dsimp only
         rewrite [if_pos g14, if_neg g16, if_pos g19]
         all_goals rfl
        exact zZ (decide ((IntKind.u64.wrap ((b.getD k0 default).toNat) : Int) > 1)) e21 (zH.ren [] (by decide +kernel) (by decide +kernel) rfl ⟨⟨rfl, rfl⟩, ⟨rfl, rfl⟩, ⟨rfl, rfl⟩, trivial⟩ trivial (by decide))
       ·have g19 : ¬ ((k0 : Int) = 9) := zcL h19
        refine zh rfl h19 rfl (zh rfl h19 rfl (zt rfl h19 rfl rfl (za rfl rfl trivial (zc ?_))))
        have e22 : zbS b k0 = false := by
         unfold zbS
         try dsimp only
         rewrite [if_pos g14, if_neg g16, if_neg g19]
         all_goals rfl
        exact zZ false e22 (zH.ren [] (by decide +kernel) (by decide +kernel) rfl ⟨⟨rfl, rfl⟩, ⟨rfl, rfl⟩, ⟨rfl, rfl⟩, trivial⟩ trivial (by decide))
     ·have g14 : ¬ ((IntKind.u64.wrap ((b.getD k0 default).toNat) : Int) = 0) := zcL h14
      refine zh rfl h14 rfl (zh rfl h14 rfl (zt rfl h14 rfl rfl (za rfl rfl trivial (zc (ze (zd5 rfl (zb rfl (za rfl rfl trivial (zl rfl rfl rfl rfl rfl trivial (za rfl rfl trivial ?_))))))))))
      refine zK rfl (fun h24 => ?_) (fun h24 => ?_)
      ·have g24 : (k0 : Int) = 9 := zcF h24
       refine zg rfl h24 (za rfl rfl trivial (zg rfl h24 (zl rfl rfl rfl rfl rfl trivial (zr rfl h24 rfl rfl (za rfl rfl trivial (zc ?_))))))
       have e26 : zbS b k0 = (decide ((IntKind.u64.wrap ((b.getD k0 default).toNat) : Int) > 1)) := by
        unfold zbS
        try dsimp only
        rewrite [if_neg g14, if_pos g24]
        all_goals rfl
       exact zZ (decide ((IntKind.u64.wrap ((b.getD k0 default).toNat) : Int) > 1)) e26 (zH.ren [] (by decide +kernel) (by decide +kernel) rfl ⟨⟨rfl, rfl⟩, ⟨rfl, rfl⟩, ⟨rfl, rfl⟩, trivial⟩ trivial (by decide))
      ·have g24 : ¬ ((k0 : Int) = 9) := zcL h24
       refine zh rfl h24 rfl (zh rfl h24 rfl (zt rfl h24 rfl rfl (za rfl rfl trivial (zc ?_))))
       have e27 : zbS b k0 = false := by
        unfold zbS
        try dsimp only
        rewrite [if_neg g14, if_neg g24]
        all_goals rfl
       exact zZ false e27 (zH.ren [] (by decide +kernel) (by decide +kernel) rfl ⟨⟨rfl, rfl⟩, ⟨rfl, rfl⟩, ⟨rfl, rfl⟩, trivial⟩ trivial (by decide))
    ·rintro t28_29 (hJ12 : zbS b k0 = t28_29)
     show seqK _ _ _ .normal (⟨[(4, .pv (.int .u64 (orK IntKind.u64 n0 (shlK IntKind.u64 (andK IntKind.u64 (IntKind.u64.wrap ((b.getD k0 default).toNat)) 127) (IntKind.i64.wrap (7 * k0)))))), (5, I k0), (28, B t28_29)], [], 0, [], 45, 0⟩ : St)
     refine ze ?_
     refine zy rfl (fun h28 => ?_) (fun h28 => ?_)
     ·have g28 : t28_29 = true := h28
      refine zd (zb rfl (za rfl rfl trivial (za rfl rfl trivial (zc (ze (zo (zad (zI (zad (zI (zbH ?_)))))))))))
      refine zad (zcJ (zI ?_))
      have e29 : zb2 b ((min b.length 10) - 0) 0 0 = .inl (0, 0) := by
       rewrite [← hI0, hm0]
       rewrite [zb2]
       try dsimp only
       rewrite [if_neg g9, hJ12]
       try dsimp only
       rewrite [if_pos g28]
       all_goals rfl
      have e30 : take b = (0, 0) := by
       unfold take
       try dsimp only
       rewrite [e29]
       try dsimp only
       all_goals rfl
      rw [e30]
      exact zp rfl ⟨trivial, trivial, trivial⟩ (rfl) rfl
     ·have g28 : ¬ (t28_29 = true) := zaw h28
      refine zA (zar (ze (zd (zb rfl (za rfl rfl trivial (za rfl rfl trivial (zl rfl rfl rfl rfl rfl trivial (za rfl rfl trivial (za rfl rfl trivial (zc (ze ?_)))))))))))
      refine zo (zad (zI (zbH (zad (zcJ (zI ?_))))))
      have e34 : zb2 b ((min b.length 10) - 0) 0 0 = .inl ((orK IntKind.u64 n0 (shlK IntKind.u64 (andK IntKind.u64 (IntKind.u64.wrap ((b.getD k0 default).toNat)) 127) (IntKind.i64.wrap (7 * k0)))), (IntKind.i64.wrap (k0 + 1))) := by
       rewrite [← hI0, hm0]
       rewrite [zb2]
       try dsimp only
       rewrite [if_neg g9, hJ12]
       try dsimp only
       rewrite [if_neg g28]
       all_goals rfl
      have e35 : take b = ((orK IntKind.u64 n0 (shlK IntKind.u64 (andK IntKind.u64 (IntKind.u64.wrap ((b.getD k0 default).toNat)) 127) (IntKind.i64.wrap (7 * k0)))), (IntKind.i64.wrap (k0 + 1))) := by
       unfold take
       try dsimp only
       rewrite [e34]
       try dsimp only
       all_goals rfl
      rw [e35]
      exact zp rfl ⟨trivial, trivial, trivial⟩ (rfl) rfl
  ·have g2 : ¬ ((k0 : Int) < (min (b.length : Int) 10)) := of_decide_eq_false h2
   have hm0 : min b.length 10 - k0 = 0 := by omega
   refine zV (zac (zal (zak rfl ?_)))
   have e36 : zb2 b ((min b.length 10) - 0) 0 0 = .inr () := by
    rewrite [← hI0, hm0]
    rewrite [zb2]
    try dsimp only
    all_goals rfl
   exact zZ () e36 (zH.ren [] (by decide +kernel) (by decide +kernel) rfl trivial trivial (by decide))
 ·rintro ⟨⟩ (hJ1 : zb2 b ((min b.length 10) - 0) 0 0 = .inr ())
  show seqK _ _ _ .normal (⟨[], [], 0, [], 45, 0⟩ : St)
  refine ze (zd (zb rfl (za rfl rfl trivial (za rfl rfl trivial (zc (ze (zo ?_)))))))
  have e37 : take b = (0, 0) := by
   unfold take
   try dsimp only
   rewrite [hJ1]
   try dsimp only
   all_goals rfl
  rw [e37]
  exact zp rfl ⟨trivial, trivial, trivial⟩ (rfl) rfl

def read (b : List UInt8) (at_ : Int) : Int × Int × Int :=
  if (at_ : Int) < 0 then (0, at_, 2) else if (at_ : Int) > b.length then (0, at_, 2) else if ((take (b.drop at_.toNat)).2 : Int) = 0 then (0, at_, 2) else ((take (b.drop at_.toNat)).1, (IntKind.i64.wrap (at_ + ((take (b.drop at_.toNat)).2))), 0)
theorem zoo (b : List UInt8) (b_f : Bool) (at_ : Int) : Ok Tryz.prog 112 [.pv (.slc b.length b_f (encY b)), I at_] [] (.tup [.pv (.int .u64 (read b at_).1), I (read b at_).2.1, I (read b at_).2.2]) [] [] := by
 refine Ok.len fun hlen => ?_
 have hl_b : b.length ≤ maxLen := hlen _ (by simp [zT, lens, zU])
 unfold maxLen at hl_b
 refine zz Tryz.func112 rfl ?_
 show zO Tryz.prog _ _ ⟨[(0, .pv (.slc b.length b_f (encY b))), (1, I at_)], [], 0, [], 32, 0⟩
 refine zd (zb rfl (za rfl rfl trivial (za rfl rfl trivial (za rfl rfl trivial (zc (ze (zd (zd (zb rfl (za rfl rfl trivial (zl rfl rfl rfl rfl rfl trivial ?_)))))))))))
 refine za rfl rfl trivial ?_
 refine zK rfl (fun h3 => ?_) (fun h3 => ?_)
 ·have g3 : (at_ : Int) < 0 := of_decide_eq_true h3
  refine zh rfl h3 rfl (zh rfl h3 rfl (zh rfl h3 rfl (zh rfl h3 rfl (zr rfl h3 rfl rfl (zc (ze (zP rfl (zd (zb rfl (za rfl rfl trivial (za rfl rfl trivial ?_)))))))))))
  refine za rfl rfl trivial (za rfl rfl trivial (zc (ze (zo (zI ?_)))))
  have e4 : read b at_ = (0, at_, 2) := by
   unfold read
   try dsimp only
   rewrite [if_pos g3]
   all_goals rfl
  rw [e4]
  exact zp rfl ⟨trivial, trivial, trivial, trivial⟩ (rfl) rfl
 ·have g3 : ¬ ((at_ : Int) < 0) := of_decide_eq_false h3
  refine zg rfl h3 (za rfl rfl trivial (zg rfl h3 (za rfl rfl trivial (zg rfl h3 (za rfl rfl trivial (zg rfl h3 (zl rfl rfl rfl rfl rfl trivial (zt rfl h3 rfl rfl (zc (ze ?_))))))))))
  refine zy rfl (fun h6 => ?_) (fun h6 => ?_)
  ·have g6 : (at_ : Int) > b.length := of_decide_eq_true h6
   refine zd (zb rfl (za rfl rfl trivial (za rfl rfl trivial (za rfl rfl trivial (za rfl rfl trivial (zc (ze (zo (zI ?_)))))))))
   have e7 : read b at_ = (0, at_, 2) := by
    unfold read
    try dsimp only
    rewrite [if_neg g3, if_pos g6]
    all_goals rfl
   rw [e7]
   exact zp rfl ⟨trivial, trivial, trivial, trivial⟩ (rfl) rfl
  ·have g6 : ¬ ((at_ : Int) > b.length) := of_decide_eq_false h6
   refine zA (ze (zd (zb rfl (za rfl rfl trivial (za rfl rfl trivial ?_)))))
   refine zj6 (k := at_.toNat) (n' := (b.drop at_.toNat).length) (cs' := encY (b.drop at_.toNat)) rfl rfl (Int.toNat_of_nonneg (by first | omega | (simp only [IntKind.wrap_i64]; omega))).symm rfl rfl (by first | omega | (simp only [IntKind.wrap_i64]; omega) | (simp; omega)) (List.length_drop ..).symm (zmC b at_.toNat) rfl ?_
   refine zF rfl rfl rfl rfl (zri (b.drop at_.toNat) b_f) rfl rfl rfl (za rfl rfl trivial (za rfl rfl trivial (za rfl rfl trivial (za rfl rfl trivial (za rfl rfl trivial (zc (ze (zd (zd (zb rfl (za rfl rfl trivial ?_)))))))))))
   refine zl rfl rfl rfl rfl rfl trivial (zc (ze ?_))
   refine zy rfl (fun h10 => ?_) (fun h10 => ?_)
   ·have g10 : ((take (b.drop at_.toNat)).2 : Int) = 0 := zcF h10
    refine zd (zb rfl (za rfl rfl trivial (za rfl rfl trivial (za rfl rfl trivial (za rfl rfl trivial (zc (ze (zo (zI ?_)))))))))
    have e11 : read b at_ = (0, at_, 2) := by
     unfold read
     try dsimp only
     rewrite [if_neg g3, if_neg g6, if_pos g10]
     all_goals rfl
    rw [e11]
    exact zp rfl ⟨trivial, trivial, trivial, trivial⟩ (rfl) rfl
   ·have g10 : ¬ (((take (b.drop at_.toNat)).2 : Int) = 0) := zcL h10
    refine zA (ze (zd (zb rfl (za rfl rfl trivial (za rfl rfl trivial (za rfl rfl trivial (zl rfl rfl rfl rfl rfl trivial (za rfl rfl trivial (za rfl rfl trivial (za rfl rfl trivial (zc ?_)))))))))))
    refine ze (zo ?_)
    have e13 : read b at_ = ((take (b.drop at_.toNat)).1, (IntKind.i64.wrap (at_ + ((take (b.drop at_.toNat)).2))), 0) := by
     unfold read
     try dsimp only
     rewrite [if_neg g3, if_neg g6, if_neg g10]
     all_goals rfl
    rw [e13]
    exact zp rfl ⟨trivial, trivial, trivial, trivial⟩ (rfl) rfl

def zdm (b : List UInt8) (at_ : Int) : Int × Int × Int :=
  ((unfo ((read b at_).1)), (read b at_).2.1, (read b at_).2.2)
theorem zpF (b : List UInt8) (b_f : Bool) (at_ : Int) : Ok Tryz.prog 86 [.pv (.slc b.length b_f (encY b)), I at_] [] (.tup [I (zdm b at_).1, I (zdm b at_).2.1, I (zdm b at_).2.2]) [] [] := by
 refine Ok.len fun hlen => ?_
 have hl_b : b.length ≤ maxLen := hlen _ (by simp [zT, lens, zU])
 unfold maxLen at hl_b
 refine zz Tryz.func86 rfl ?_
 show zO Tryz.prog _ _ ⟨[(0, .pv (.slc b.length b_f (encY b))), (1, I at_)], [], 0, [], 21, 0⟩
 refine zd (zb rfl (za rfl rfl trivial (za rfl rfl trivial (za rfl rfl trivial (zc (ze (zd (zb rfl (za rfl rfl trivial (za rfl rfl trivial (zF rfl rfl rfl rfl (zoo b b_f at_) rfl rfl rfl ?_)))))))))))
 refine za rfl rfl trivial (za rfl rfl trivial (za rfl rfl trivial (za rfl rfl trivial (za rfl rfl trivial (za rfl rfl trivial (za rfl rfl trivial (zc (ze (zd (zb rfl (za rfl rfl trivial ?_)))))))))))
 refine zF rfl rfl rfl rfl (zqB ((read b at_).1)) rfl rfl rfl (za rfl rfl trivial (za rfl rfl trivial (za rfl rfl trivial (za rfl rfl trivial (za rfl rfl trivial (zc (ze (zo ?_))))))))
 have e6 : zdm b at_ = ((unfo ((read b at_).1)), (read b at_).2.1, (read b at_).2.2) := by
  unfold zdm
  try dsimp only
  all_goals rfl
 rw [e6]
 exact zp rfl ⟨trivial, trivial, trivial, trivial⟩ (rfl) rfl

def zcB (b : List UInt8) (at_ : Int) : Int × Int × Int :=
  if ((read b at_).2.2 : Int) = 0 then (if ((read b at_).1 : Int) > 9223372036854775807 then (0, at_, 2) else ((IntKind.i64.wrap ((read b at_).1)), (read b at_).2.1, 0)) else (0, at_, 2)
theorem zoO (b : List UInt8) (b_f : Bool) (at_ : Int) : Ok Tryz.prog 111 [.pv (.slc b.length b_f (encY b)), I at_] [] (.tup [I (zcB b at_).1, I (zcB b at_).2.1, I (zcB b at_).2.2]) [] [] := by
 refine Ok.len fun hlen => ?_
 have hl_b : b.length ≤ maxLen := hlen _ (by simp [zT, lens, zU])
 unfold maxLen at hl_b
 refine zz Tryz.func111 rfl ?_
 show zO Tryz.prog _ _ ⟨[(0, .pv (.slc b.length b_f (encY b))), (1, I at_)], [], 0, [], 27, 0⟩
 refine zd (zb rfl (za rfl rfl trivial (za rfl rfl trivial (za rfl rfl trivial (zc (ze (zd (zb rfl (za rfl rfl trivial (za rfl rfl trivial (zF rfl rfl rfl rfl (zoo b b_f at_) rfl rfl rfl ?_)))))))))))
 refine za rfl rfl trivial (za rfl rfl trivial (za rfl rfl trivial (za rfl rfl trivial (za rfl rfl trivial (za rfl rfl trivial (za rfl rfl trivial (zc (ze (zd (zd (zb rfl ?_)))))))))))
 refine za rfl rfl trivial (zl rfl rfl rfl rfl rfl trivial (za rfl rfl trivial ?_))
 refine zK rfl (fun h6 => ?_) (fun h6 => ?_)
 ·have g6 : ¬ (((read b at_).2.2 : Int) = 0) := zcs h6
  refine zh rfl h6 rfl (zh rfl h6 rfl (zr rfl h6 rfl rfl (zc (ze (zP rfl (zd (zb rfl (za rfl rfl trivial (za rfl rfl trivial (za rfl rfl trivial (za rfl rfl trivial ?_)))))))))))
  refine zc (ze (zo (zI ?_)))
  have e7 : zcB b at_ = (0, at_, 2) := by
   unfold zcB
   try dsimp only
   rewrite [if_neg g6]
   all_goals rfl
  rw [e7]
  exact zp rfl ⟨trivial, trivial, trivial, trivial⟩ (rfl) rfl
 ·have g6 : ((read b at_).2.2 : Int) = 0 := zcu h6
  refine zg rfl h6 (za rfl rfl trivial (zg rfl h6 (zl rfl rfl rfl rfl rfl trivial (zt rfl h6 rfl rfl (zc (ze ?_))))))
  refine zy rfl (fun h9 => ?_) (fun h9 => ?_)
  ·have g9 : ((read b at_).1 : Int) > 9223372036854775807 := of_decide_eq_true h9
   refine zd (zb rfl (za rfl rfl trivial (za rfl rfl trivial (za rfl rfl trivial (za rfl rfl trivial (zc (ze (zo (zI ?_)))))))))
   have e10 : zcB b at_ = (0, at_, 2) := by
    unfold zcB
    try dsimp only
    rewrite [if_pos g6, if_pos g9]
    all_goals rfl
   rw [e10]
   exact zp rfl ⟨trivial, trivial, trivial, trivial⟩ (rfl) rfl
  ·have g9 : ¬ (((read b at_).1 : Int) > 9223372036854775807) := of_decide_eq_false h9
   refine zA (ze (zd (zb rfl (za rfl rfl trivial (za rfl rfl trivial (za rfl rfl trivial (za rfl rfl trivial (za rfl rfl trivial (za rfl rfl trivial (zc (ze ?_)))))))))))
   refine zo ?_
   have e12 : zcB b at_ = ((IntKind.i64.wrap ((read b at_).1)), (read b at_).2.1, 0) := by
    unfold zcB
    try dsimp only
    rewrite [if_pos g6, if_neg g9]
    all_goals rfl
   rw [e12]
   exact zp rfl ⟨trivial, trivial, trivial, trivial⟩ (rfl) rfl

def cntP (b : List UInt8) (at_ : Int) (most : Int) : Int × Int × Int :=
  if ((zcB b at_).2.2 : Int) = 0 then (if ((zcB b at_).1 : Int) > most then (0, at_, 3) else ((zcB b at_).1, (zcB b at_).2.1, (zcB b at_).2.2)) else ((zcB b at_).1, (zcB b at_).2.1, (zcB b at_).2.2)
theorem zrc (b : List UInt8) (b_f : Bool) (at_ : Int) (most : Int) : Ok Tryz.prog 85 [.pv (.slc b.length b_f (encY b)), I at_, I most] [] (.tup [I (cntP b at_ most).1, I (cntP b at_ most).2.1, I (cntP b at_ most).2.2]) [] [] := by
 refine Ok.len fun hlen => ?_
 have hl_b : b.length ≤ maxLen := hlen _ (by simp [zT, lens, zU])
 unfold maxLen at hl_b
 refine zz Tryz.func85 rfl ?_
 show zO Tryz.prog _ _ ⟨[(0, .pv (.slc b.length b_f (encY b))), (1, I at_), (2, I most)], [], 0, [], 30, 0⟩
 refine zd (zb rfl (za rfl rfl trivial (za rfl rfl trivial (za rfl rfl trivial (zc (ze (zd (zb rfl (za rfl rfl trivial (za rfl rfl trivial (zF rfl rfl rfl rfl (zoO b b_f at_) rfl rfl rfl ?_)))))))))))
 refine za rfl rfl trivial (za rfl rfl trivial (za rfl rfl trivial (za rfl rfl trivial (za rfl rfl trivial (za rfl rfl trivial (za rfl rfl trivial (zc (ze (zd (zd (zb rfl ?_)))))))))))
 refine za rfl rfl trivial (zl rfl rfl rfl rfl rfl trivial (za rfl rfl trivial ?_))
 refine zK rfl (fun h6 => ?_) (fun h6 => ?_)
 ·have g6 : ((zcB b at_).2.2 : Int) = 0 := zcF h6
  refine zg rfl h6 (za rfl rfl trivial (zg rfl h6 (za rfl rfl trivial (zg rfl h6 (zl rfl rfl rfl rfl rfl trivial (zr rfl h6 rfl rfl (zc (ze ?_))))))))
  refine zy rfl (fun h9 => ?_) (fun h9 => ?_)
  ·have g9 : ((zcB b at_).1 : Int) > most := of_decide_eq_true h9
   refine zd (zb rfl (za rfl rfl trivial (za rfl rfl trivial (za rfl rfl trivial (za rfl rfl trivial (zc (ze (zo (zI ?_)))))))))
   have e10 : cntP b at_ most = (0, at_, 3) := by
    unfold cntP
    try dsimp only
    rewrite [if_pos g6, if_pos g9]
    all_goals rfl
   rw [e10]
   exact zp rfl ⟨trivial, trivial, trivial, trivial⟩ (rfl) rfl
  ·have g9 : ¬ (((zcB b at_).1 : Int) > most) := of_decide_eq_false h9
   refine zA (ze (zd (zb rfl (za rfl rfl trivial (za rfl rfl trivial (za rfl rfl trivial (za rfl rfl trivial (za rfl rfl trivial (za rfl rfl trivial (zc (ze ?_)))))))))))
   refine zo ?_
   have e11 : cntP b at_ most = ((zcB b at_).1, (zcB b at_).2.1, (zcB b at_).2.2) := by
    unfold cntP
    try dsimp only
    rewrite [if_pos g6, if_neg g9]
    all_goals rfl
   rw [e11]
   exact zp rfl ⟨trivial, trivial, trivial, trivial⟩ (rfl) rfl
 ·have g6 : ¬ (((zcB b at_).2.2 : Int) = 0) := zcL h6
  refine zh rfl h6 rfl (zh rfl h6 rfl (zh rfl h6 rfl (zt rfl h6 rfl rfl (zc (ze (zd5 rfl (zA (ze (zd (zb rfl (za rfl rfl trivial ?_)))))))))))
  refine za rfl rfl trivial (za rfl rfl trivial (za rfl rfl trivial (za rfl rfl trivial (za rfl rfl trivial (zc (ze (zo ?_)))))))
  have e12 : cntP b at_ most = ((zcB b at_).1, (zcB b at_).2.1, (zcB b at_).2.2) := by
   unfold cntP
   try dsimp only
   rewrite [if_neg g6]
   all_goals rfl
  rw [e12]
  exact zp rfl ⟨trivial, trivial, trivial, trivial⟩ (rfl) rfl

theorem zqr (b : List UInt8) (at_ most : Int) (h : (cntP b at_ most).2.2 = 0) : (cntP b at_ most).1 ≤ most := by
  unfold cntP at h ⊢
  by_cases h1 : (zcB b at_).2.2 = 0
  · rw [if_pos h1] at h ⊢
    by_cases h2 : (zcB b at_).1 > most
    · rw [if_pos h2] at h; exact absurd h (show ¬ ((3 : Int) = 0) by decide)
    · rw [if_neg h2] at h ⊢; dsimp only; omega
  · rw [if_neg h1] at h; exact absurd h h1

def zat (b : List UInt8) (at_ : Int) : Nat → Nat → (List Int) → Int → Sum ((List Int) × Int × Int) ((List Int) × Int)
  | 0, k0, out0, next0 => .inr (out0, next0)
  | n_ + 1, k0, out0, next0 => if ((zdm b next0).2.2 : Int) = 0 then zat b at_ n_ (k0 + 1) (out0 ++ [(zdm b next0).1]) ((zdm b next0).2.1) else .inl ([], at_, (zdm b next0).2.2)
def za6 (b : List UInt8) (at_ : Int) (most : Int) : (List Int) × Int × Int :=
  if ((cntP b at_ most).2.2 : Int) = 0 then (match zat b at_ (((cntP b at_ most).1.toNat) - 0) 0 ([]) ((cntP b at_ most).2.1) with
    | .inl r_ => r_
    | .inr (out_0, next_0) => (out_0, next_0, 0)) else ([], at_, (cntP b at_ most).2.2)
theorem zoc (b : List UInt8) (b_f : Bool) (at_ : Int) (most : Int) (hm : most ≤ 16000000) : Ok Tryz.prog 54 [.pv (.slc b.length b_f (encY b)), I at_, I most] [] (.tup [.ref 0 1 0 (za6 b at_ most).1.length, I (za6 b at_ most).2.1, I (za6 b at_ most).2.2]) [.row 3 1 (encI (za6 b at_ most).1)] [] := by
 refine Ok.len fun hlen => ?_
 have hl_b : b.length ≤ maxLen := hlen _ (by simp [zT, lens, zU])
 unfold maxLen at hl_b
 refine zz Tryz.func54 rfl ?_
 show zO Tryz.prog _ _ ⟨[(0, .pv (.slc b.length b_f (encY b))), (1, I at_), (2, I most)], [], 0, [], 50, 0⟩
 refine zd (zb rfl (zB (nx' := 1) rfl rfl rfl trivial (za rfl rfl trivial (za rfl rfl trivial (zc (ze (zd (zb rfl (za rfl rfl trivial (za rfl rfl trivial (za rfl rfl trivial ?_)))))))))))
 refine zF rfl rfl rfl rfl (zrc b b_f at_ most) rfl rfl rfl (za rfl rfl trivial (za rfl rfl trivial (za rfl rfl trivial (za rfl rfl trivial (za rfl rfl trivial (za rfl rfl trivial (za rfl rfl trivial (zc (ze (zd (zd ?_)))))))))))
 refine zb rfl (za rfl rfl trivial (zl rfl rfl rfl rfl rfl trivial (zc (ze ?_))))
 refine zy rfl (fun h6 => ?_) (fun h6 => ?_)
 ·have g6 : ¬ (((cntP b at_ most).2.2 : Int) = 0) := zcs h6
  refine zd (zb rfl (za rfl rfl trivial (za rfl rfl trivial (zB (nx' := 2) rfl rfl rfl trivial (za rfl rfl trivial (za rfl rfl trivial (zc (ze (zo (zI ?_))))))))))
  have e7 : za6 b at_ most = ([], at_, (cntP b at_ most).2.2) := by
   unfold za6
   try dsimp only
   rewrite [if_neg g6]
   all_goals rfl
  rw [e7]
  exact zL [] [1] rfl ⟨trivial, trivial, trivial, trivial⟩ rfl (by (repeat' apply And.intro) <;> first | trivial | rfl | exact zi (fun _ => rfl) _ | exact zk _ | exact zn _ | exact zm _ | assumption) (rfl) rfl rfl rfl (by decide) rfl rfl ⟨⟨rfl, rfl⟩, trivial⟩
 ·have g6 : ((cntP b at_ most).2.2 : Int) = 0 := zcu h6
  refine zA (ze (zd (zb rfl (zB (nx' := 2) rfl rfl rfl trivial (zc (ze (zd (zd (zb rfl (za rfl rfl trivial (za rfl rfl trivial ?_)))))))))))
  refine zc (ze ?_)
  refine z6 (fun w_ : (List Int) × Int => match w_ with | (out_0, next_0) => (⟨[(10, I next_0), (12, .ref 0 1 0 out_0.length)], [(0, .row 3 1 (encI out_0))], 1, [], 50, 0⟩ : St)) (fun w_ => zat b at_ (((cntP b at_ most).1.toNat) - 0) 0 ([]) ((cntP b at_ most).2.1) = .inr w_) ?_ ?_
  ·refine zC ?_
   refine z9 (fun w_ : Nat × (List Int) × Int => match w_ with | (k0, out0, next0) => (⟨[(0, .pv (.slc b.length b_f (encY b))), (1, I at_), (10, I next0), (12, .ref 0 1 0 out0.length), (28, I (cntP b at_ most).1), (29, I k0)], [(0, .row 3 1 (encI out0))], 1, [], 50, 0⟩ : St)) (fun w_ : Nat × (List Int) × Int => match w_ with | (k0, out0, next0) => zat b at_ (((cntP b at_ most).1.toNat) - k0) k0 out0 next0 = zat b at_ (((cntP b at_ most).1.toNat) - 0) 0 ([]) ((cntP b at_ most).2.1) ∧ k0 ≤ (cntP b at_ most).1.toNat ∧ out0.length ≤ k0) (fun w_ : Nat × (List Int) × Int => match w_ with | (k0, out0, next0) => (cntP b at_ most).1.toNat - k0) (0, [], (cntP b at_ most).2.1) (⟨rfl, (by first | omega | (simp; omega)), by first | omega | simp | (simp; omega)⟩) ?_ (fun w_ hh_ => ?_)
   ·exact (zH.ren [(0, 1), (1, 0)] (by decide +kernel) (by decide +kernel) rfl ⟨⟨rfl, rfl⟩, ⟨rfl, rfl⟩, ⟨rfl, rfl⟩, ⟨congrArg (fun n => some (AV.ref 1 1 0 n)) (by first | rfl | simp only [List.length_set] | simp | omega | (simp; omega)), rfl⟩, ⟨rfl, rfl⟩, ⟨rfl, rfl⟩, trivial⟩ ⟨⟨rfl, rfl, rfl⟩, trivial⟩ (by decide))
   obtain ⟨k0, out0, next0⟩ := w_
   obtain ⟨hI0, hb0, hv0⟩ := hh_
   show zO Tryz.prog _ _ (⟨[(0, .pv (.slc b.length b_f (encY b))), (1, I at_), (10, I next0), (12, .ref 0 1 0 out0.length), (28, I (cntP b at_ most).1), (29, I k0)], [(0, .row 3 1 (encI out0))], 1, [], 50, 0⟩ : St)
   have hq0 := zqr b at_ most (by assumption)
   refine zd (zb rfl (zl rfl rfl rfl rfl rfl trivial (zc (ze (zd ?_)))))
   refine zy rfl (fun h9 => ?_) (fun h9 => ?_)
   ·have g9 : (k0 : Int) < ((cntP b at_ most).1) := of_decide_eq_true h9
    have hm0 : (cntP b at_ most).1.toNat - k0 = ((cntP b at_ most).1.toNat - (k0 + 1)) + 1 := by omega
    refine zA (ze (zd (zC (zd (zb rfl (za rfl rfl trivial (za rfl rfl trivial (zF rfl rfl rfl rfl (zpF b b_f next0) rfl rfl rfl (za rfl rfl trivial (za rfl rfl trivial (za rfl rfl trivial ?_)))))))))))
    refine za rfl rfl trivial (za rfl rfl trivial (za rfl rfl trivial (za rfl rfl trivial (zc (ze (zd (zd (zb rfl (za rfl rfl trivial (zl rfl rfl rfl rfl rfl trivial (zc ?_)))))))))))
    refine ze ?_
    refine zy rfl (fun h14 => ?_) (fun h14 => ?_)
    ·have g14 : ¬ (((zdm b next0).2.2 : Int) = 0) := zcs h14
     refine zd (zb rfl (za rfl rfl trivial (za rfl rfl trivial (zB (nx' := 2) rfl rfl rfl trivial (za rfl rfl trivial (za rfl rfl trivial (zc (ze (zo (zI (zad ?_)))))))))))
     refine zI (zbH (zad (zcJ (zI ?_))))
     have e16 : zat b at_ (((cntP b at_ most).1.toNat) - 0) 0 ([]) ((cntP b at_ most).2.1) = .inl ([], at_, (zdm b next0).2.2) := by
      rewrite [← hI0, hm0]
      rewrite [zat]
      try dsimp only
      rewrite [if_neg g14]
      all_goals rfl
     have e17 : za6 b at_ most = ([], at_, (zdm b next0).2.2) := by
      unfold za6
      try dsimp only
      rewrite [if_pos g6, e16]
      try dsimp only
      all_goals rfl
     rw [e17]
     exact zL [] [1] rfl ⟨trivial, trivial, trivial, trivial⟩ rfl (by (repeat' apply And.intro) <;> first | trivial | rfl | exact zi (fun _ => rfl) _ | exact zk _ | exact zn _ | exact zm _ | assumption) (rfl) rfl rfl rfl (by decide) rfl rfl ⟨⟨rfl, rfl⟩, trivial⟩
    ·have g14 : ((zdm b next0).2.2 : Int) = 0 := zcu h14
     refine zA (ze (zb rfl (za rfl rfl trivial (za rfl rfl trivial (zB (o := .row _ _ [_]) (nx' := 2) rfl rfl rfl (by decide) ?_)))))
     refine z3 (m := 1) (new := [_]) (cs' := encI (out0 ++ [(zdm b next0).1])) (n' := (out0 ++ [(zdm b next0).1]).length) (H' := [(1, .row _ _ _), (0, .row _ _ _)]) rfl rfl rfl (rfl) rfl rfl rfl rfl rfl rfl (zk out0) (rfl) (by first | decide | (unfold zM; omega) | (unfold zM; simp; omega) | (unfold zM; simp only [List.length_append, List.length_take, List.length_drop, List.length_cons, List.length_nil, IntKind.wrap_i64] at *; omega)) (zbt out0 _) (((zc6 out0 ((zdm b next0).1))).symm) (.inl rfl) rfl rfl (.keep rfl (.keep rfl .nil)) (.keep rfl (.keep rfl (.lose (v' := .undef) rfl (.keep rfl (.keep rfl (.keep rfl (.keep rfl (.keep rfl (.keep rfl (.keep rfl (.keep rfl (.keep rfl (.keep rfl (.keep rfl (.keep rfl (.keep rfl (.keep rfl (.keep rfl (.keep rfl (.lose (v' := .undef) rfl (.keep rfl (.keep rfl .nil)))))))))))))))))))))) ?_
     refine za rfl rfl trivial (za rfl rfl trivial (za rfl rfl trivial (zc (zar (ze (zb rfl (zl rfl rfl rfl rfl rfl trivial (za rfl rfl trivial (zc ?_)))))))))
     have e19 : zat b at_ (((cntP b at_ most).1.toNat) - k0) k0 out0 next0 = zat b at_ (((cntP b at_ most).1.toNat) - (k0 + 1)) (k0 + 1) (out0 ++ [(zdm b next0).1]) ((zdm b next0).2.1) := by
      rewrite [hm0]
      rewrite [zat]
      try dsimp only
      rewrite [if_pos g14]
      all_goals rfl
     exact z5 (k0 + 1, (out0 ++ [(zdm b next0).1]), (zdm b next0).2.1) ⟨e19.symm.trans hI0, (by omega), by first | omega | assumption | (simp only [List.length_append, List.length_cons, List.length_nil, List.length_set]; omega) | (simp; omega) | grind⟩ (by show (cntP b at_ most).1.toNat - (k0 + 1) < (cntP b at_ most).1.toNat - k0; omega) (zH.ren [] (by decide +kernel) (by decide +kernel) rfl ⟨⟨rfl, rfl⟩, ⟨rfl, rfl⟩, ⟨rfl, rfl⟩, ⟨rfl, rfl⟩, ⟨rfl, rfl⟩, ⟨congrArg (fun n => some (I n)) (zcv (k := k0) (by first | omega | (simp; omega))), rfl⟩, trivial⟩ ⟨⟨rfl, rfl, rfl⟩, trivial⟩ (by decide))
   ·have g9 : ¬ ((k0 : Int) < ((cntP b at_ most).1)) := of_decide_eq_false h9
    have hm0 : (cntP b at_ most).1.toNat - k0 = 0 := by omega
    refine zV (zac (zal (zak rfl ?_)))
    have e20 : zat b at_ (((cntP b at_ most).1.toNat) - 0) 0 ([]) ((cntP b at_ most).2.1) = .inr (out0, next0) := by
     rewrite [← hI0, hm0]
     rewrite [zat]
     try dsimp only
     all_goals rfl
    exact zZ (out0, next0) e20 (zH.ren [] (by decide +kernel) (by decide +kernel) rfl ⟨⟨rfl, rfl⟩, ⟨rfl, rfl⟩, trivial⟩ ⟨⟨rfl, rfl, rfl⟩, trivial⟩ (by decide))
  ·rintro ⟨out_0, next_0⟩ (hJ8 : zat b at_ (((cntP b at_ most).1.toNat) - 0) 0 ([]) ((cntP b at_ most).2.1) = .inr (out_0, next_0))
   show seqK _ _ _ .normal (⟨[(10, I next_0), (12, .ref 0 1 0 out_0.length)], [(0, .row 3 1 (encI out_0))], 1, [], 50, 0⟩ : St)
   refine ze (zd (zb rfl (za rfl rfl trivial (za rfl rfl trivial (za rfl rfl trivial (za rfl rfl trivial (za rfl rfl trivial (zc (ze (zo ?_))))))))))
   have e22 : za6 b at_ most = (out_0, next_0, 0) := by
    unfold za6
    try dsimp only
    rewrite [if_pos g6, hJ8]
    try dsimp only
    all_goals rfl
   rw [e22]
   exact zL [] [0] rfl ⟨trivial, trivial, trivial, trivial⟩ rfl (by (repeat' apply And.intro) <;> first | trivial | rfl | exact zi (fun _ => rfl) _ | exact zk _ | exact zn _ | exact zm _ | assumption) (rfl) rfl rfl rfl (by decide) rfl rfl ⟨⟨rfl, rfl⟩, trivial⟩

theorem zfO (b : List UInt8) (at_ : Int) : ∀ (m k : Nat) (out : List Int) (next : Int) (o : List Int) (n : Int), zat b at_ m k out next = .inr (o, n) → o.length = out.length + m
  | 0, k, out, next, o, n, h => by rw [zat] at h; cases h; rfl
  | m + 1, k, out, next, o, n, h => by
    rw [zat] at h
    by_cases h1 : (zdm b next).2.2 = 0
    · rw [if_pos h1] at h
      have := zfO b at_ m (k + 1) _ _ o n h
      simp only [List.length_append, List.length_cons, List.length_nil] at this; omega
    · rw [if_neg h1] at h; cases h
theorem zfy (b : List UInt8) (at_ : Int) : ∀ (m k : Nat) (out : List Int) (next : Int) (r : (List Int) × Int × Int), zat b at_ m k out next = .inl r → r.1 = []
  | 0, k, out, next, r, h => by rw [zat] at h; cases h
  | m + 1, k, out, next, r, h => by
    rw [zat] at h
    by_cases h1 : (zdm b next).2.2 = 0
    · rw [if_pos h1] at h; exact zfy b at_ m (k + 1) _ _ r h
    · rw [if_neg h1] at h; cases h; rfl
theorem zl8 (b : List UInt8) (at_ most : Int) : (za6 b at_ most).1.length ≤ most.toNat := by
  unfold za6
  by_cases h1 : (cntP b at_ most).2.2 = 0
  · rw [if_pos h1]
    have h2 := zqr b at_ most h1
    cases h3 : zat b at_ ((cntP b at_ most).1.toNat - 0) 0 [] (cntP b at_ most).2.1 with
    | inl r => dsimp only; rw [zfy _ _ _ _ _ _ _ h3]; exact Nat.zero_le _
    | inr r =>
      obtain ⟨o, n⟩ := r
      dsimp only
      have h4 := zfO _ _ _ _ _ _ _ _ h3
      simp only [List.length_nil] at h4; omega
  · rw [if_neg h1]; exact Nat.zero_le _

def zer (s : List UInt8) (prefix_ : List UInt8) : Bool :=
  if (s.length : Int) ≥ prefix_.length then ((s.take prefix_.length) == prefix_) else false
theorem zmn (s : List UInt8) (prefix_ : List UInt8) : Ok Tryz.prog 84 [.pv (.str s), .pv (.str prefix_)] [] (B (zer s prefix_)) [] [] := by
 refine zz Tryz.func84 rfl ?_
 show zO Tryz.prog _ _ ⟨[(0, .pv (.str s)), (1, .pv (.str prefix_))], [], 0, [], 18, 0⟩
 refine zd (zb rfl (za rfl rfl trivial (zc (ze (zd (zb rfl (za rfl rfl trivial (za rfl rfl trivial (za rfl rfl trivial (za rfl rfl trivial (zl rfl rfl rfl rfl rfl trivial ?_)))))))))))
 refine za rfl rfl trivial ?_
 refine zK rfl (fun h4 => ?_) (fun h4 => ?_)
 ·have g4 : (s.length : Int) ≥ prefix_.length := of_decide_eq_true h4
  refine zg rfl h4 (za rfl rfl trivial (zg rfl h4 (za rfl rfl trivial (zg rfl h4 (za rfl rfl trivial (zg rfl h4 ?_))))))
  refine zl9 (k := prefix_.length) rfl rfl rfl rfl (by first | omega | (simp only [IntKind.wrap_i64]; omega) | (simp only [IntKind.wrap_i64] at *; omega) | (simp; omega)) rfl ?_
  refine zg rfl h4 (za rfl rfl trivial (zg rfl h4 (zl rfl rfl rfl rfl rfl trivial (zr rfl h4 rfl rfl (za rfl rfl trivial (zc (ze (zo ?_))))))))
  have e6 : zer s prefix_ = ((s.take prefix_.length) == prefix_) := by
   unfold zer
   try dsimp only
   rewrite [if_pos g4]
   all_goals rfl
  rw [e6]
  exact zp rfl ⟨trivial, trivial⟩ (rfl) rfl
 ·have g4 : ¬ ((s.length : Int) ≥ prefix_.length) := of_decide_eq_false h4
  refine zh rfl h4 rfl (zh rfl h4 rfl (zh rfl h4 rfl (zh rfl h4 rfl (zh rfl h4 rfl (zh rfl h4 rfl (zt rfl h4 rfl rfl (za rfl rfl trivial (zc (ze (zo ?_))))))))))
  have e7 : zer s prefix_ = false := by
   unfold zer
   try dsimp only
   rewrite [if_neg g4]
   all_goals rfl
  rw [e7]
  exact zp rfl ⟨trivial, trivial⟩ (rfl) rfl

def zgM (s : List UInt8) (prefix_ : List UInt8) : Bool :=
  (zer s prefix_)
theorem zmU (s : List UInt8) (prefix_ : List UInt8) : Ok Tryz.prog 53 [.pv (.str s), .pv (.str prefix_)] [] (B (zgM s prefix_)) [] [] := by
 refine zz Tryz.func53 rfl ?_
 show zO Tryz.prog _ _ ⟨[(0, .pv (.str s)), (1, .pv (.str prefix_))], [], 0, [], 8, 0⟩
 refine zd (zb rfl (za rfl rfl trivial (zc (ze (zd (zb rfl (za rfl rfl trivial (za rfl rfl trivial (zF rfl rfl rfl rfl (zmn s prefix_) rfl rfl rfl (za rfl rfl trivial (zc ?_)))))))))))
 refine ze (zo ?_)
 have e4 : zgM s prefix_ = (zer s prefix_) := by
  unfold zgM
  try dsimp only
  all_goals rfl
 rw [e4]
 exact zp rfl ⟨trivial, trivial⟩ (rfl) rfl

attribute [local irreducible] zbN za6 za5
def dec (b : List UInt8) : zu × Int :=
  if zgM b ([66, 82, 87, 49]) = true then (if ((za6 b 4 b.length).2.2 : Int) = 0 then (if ((za6 b 4 b.length).2.1 : Int) = b.length then (if (zbN ((za6 b 4 b.length).1)).2 = true then (if za5 ((zbN ((za6 b 4 b.length).1)).1) = true then (((zbN ((za6 b 4 b.length).1)).1), 0) else ((⟨[], [], [], (⟨0, 0, []⟩ : zax), (⟨0, 0⟩ : GPos), (⟨0, 0⟩ : GPos)⟩ : zu), 1)) else ((⟨[], [], [], (⟨0, 0, []⟩ : zax), (⟨0, 0⟩ : GPos), (⟨0, 0⟩ : GPos)⟩ : zu), 2)) else ((⟨[], [], [], (⟨0, 0, []⟩ : zax), (⟨0, 0⟩ : GPos), (⟨0, 0⟩ : GPos)⟩ : zu), 2)) else ((⟨[], [], [], (⟨0, 0, []⟩ : zax), (⟨0, 0⟩ : GPos), (⟨0, 0⟩ : GPos)⟩ : zu), 2)) else ((⟨[], [], [], (⟨0, 0, []⟩ : zax), (⟨0, 0⟩ : GPos), (⟨0, 0⟩ : GPos)⟩ : zu), 2)
theorem zle (b : List UInt8) (b_f : Bool) (hb : b.length ≤ 16000000) : Ok Tryz.prog 18 [.pv (.slc b.length b_f (encY b))] [] (.tup [z1 (dec b).1, I (dec b).2]) [] [] := by
 refine Ok.len fun hlen => ?_
 have hl_b : b.length ≤ maxLen := hlen _ (by simp [zT, lens, zU])
 unfold maxLen at hl_b
 refine zz Tryz.func18 rfl ?_
 show zO Tryz.prog _ _ ⟨[(0, .pv (.slc b.length b_f (encY b)))], [], 0, [], 47, 0⟩
 refine zd (zb rfl (zB (o := .box [_, _, _, _, _, _, _, _, _, _]) (nx' := 1) rfl rfl rfl trivial (za rfl rfl trivial (zc (ze (zd (zd (zb rfl (za rfl rfl trivial ?_)))))))))
 refine zeE (l := b) rfl rfl rfl rfl rfl ?_
 refine zF rfl rfl rfl rfl (zmU b ([66, 82, 87, 49])) rfl rfl rfl (za rfl rfl trivial (zc (ze ?_)))
 refine zy rfl (fun h1 => ?_) (fun h1 => ?_)
 ·have g1 : ¬ (zgM b ([66, 82, 87, 49]) = true) := zaw (zcl h1)
  refine zd (zb rfl (za (v := (.agg [_, _, _, _, _, _, _, _, _, _])) rfl rfl trivial ?_))
  refine zx (H' := [(0, .box [_, _, _, _, _, _, _, _, _, _])]) rfl rfl rfl rfl rfl rfl (.inl rfl) rfl ?_
  refine za rfl rfl trivial (zc (ze ?_))
  refine zaV (zH.loose (T' := [(2, .ptr 0 0), (3, I 2)]) (H' := [(0, .box [.pv (.slc 0 false []), .pv (.slc 0 false []), .pv (.slc 0 false []), I 0, I 0, .pv (.slc 0 false []), I 0, I 0, I 0, I 0])]) ⟨⟨_, rfl, .inl rfl⟩, ⟨_, rfl, .inl rfl⟩, trivial⟩ ⟨⟨_, rfl, .inr rfl⟩, trivial⟩) ?_
  refine zo (zI ?_)
  have e2 : dec b = ((⟨[], [], [], (⟨0, 0, []⟩ : zax), (⟨0, 0⟩ : GPos), (⟨0, 0⟩ : GPos)⟩ : zu), 2) := by
   unfold dec
   try dsimp only
   rewrite [if_neg g1]
   all_goals rfl
  rw [e2]
  exact zp rfl ⟨Nat.le_of_ble_eq_true rfl, trivial, trivial⟩ (rfl) rfl
 ·have g1 : zgM b ([66, 82, 87, 49]) = true := (zcm h1)
  refine zA (ze (zd (zb rfl (za rfl rfl trivial (za rfl rfl trivial (za rfl rfl trivial ?_))))))
  refine zcj (out' := .tup [.ref 1 _ _ _, _, _]) (H' := [(1, .row _ _ _), (0, _)]) (nx' := 2) rfl rfl rfl rfl rfl rfl rfl (by (repeat' apply And.intro) <;> first | trivial | rfl | exact zi (fun _ => rfl) _ | exact zk _ | exact zn _ | exact zm _ | exact Nat.le_of_ble_eq_true rfl | assumption) (zoc b false 4 b.length (by first | assumption | omega)) rfl rfl rfl rfl ?_
  have p3 := zl8 (b : List UInt8) (4 : Int) (b.length : Int)
  refine za rfl rfl trivial (za rfl rfl trivial (za rfl rfl trivial (za rfl rfl trivial (za rfl rfl trivial (za rfl rfl trivial (za rfl rfl trivial (zc (ze (zd (zb rfl (za rfl rfl trivial ?_)))))))))))
  refine zX (Hin := [.row _ _ _]) (out' := .tup [(.agg [_, _, _, _, _, _, _, _, _, _]), _]) (H' := [(1, .row _ _ _), (0, .box [_, _, _, _, _, _, _, _, _, _])]) (nx' := 2) [1] rfl rfl rfl rfl (.inl rfl) rfl rfl rfl rfl (zmE ((za6 b 4 b.length).1) (by first | assumption | omega)) rfl (by decide) rfl rfl rfl rfl rfl ?_
  have p6 := zoZ ((za6 b 4 b.length).1) (by first | assumption | omega)
  refine za rfl rfl trivial (za rfl rfl trivial (za rfl rfl trivial (zB (o := .box [_, _, _, _, _, _, _, _, _, _]) (nx' := 3) rfl rfl rfl trivial ?_)))
  refine zx (H' := [(2, .box [_, _, _, _, _, _, _, _, _, _]), (1, _), (0, _)]) rfl rfl rfl rfl rfl rfl (.inl rfl) rfl ?_
  refine za rfl rfl trivial (zc (ze (zd (zC (zd (zb rfl (za rfl rfl trivial (zl rfl rfl rfl rfl rfl trivial (za rfl rfl trivial ?_)))))))))
  refine zK rfl (fun h9 => ?_) (fun h9 => ?_)
  ·have g9 : ¬ (((za6 b 4 b.length).2.2 : Int) = 0) := zcs h9
   refine zh rfl h9 rfl (zh rfl h9 rfl (zh rfl h9 rfl (zh rfl h9 rfl (zr rfl h9 rfl rfl (za rfl rfl trivial (zf rfl rfl (zf rfl rfl (za rfl rfl trivial (za rfl rfl trivial (zc (ze ?_)))))))))))
   refine zP rfl (zd (zb rfl (za (v := (.agg [_, _, _, _, _, _, _, _, _, _])) rfl rfl trivial ?_)))
   refine zx (H' := [(2, _), (1, _), (0, .box [_, _, _, _, _, _, _, _, _, _])]) rfl rfl rfl rfl rfl rfl (.inl rfl) rfl ?_
   refine za rfl rfl trivial (zc (ze ?_))
   refine zaV (zH.loose (T' := [(2, .ptr 0 0), (3, I 2)]) (H' := [(0, .box [.pv (.slc 0 false []), .pv (.slc 0 false []), .pv (.slc 0 false []), I 0, I 0, .pv (.slc 0 false []), I 0, I 0, I 0, I 0])]) ⟨⟨_, rfl, .inl rfl⟩, ⟨_, rfl, .inl rfl⟩, trivial⟩ ⟨⟨_, rfl, .inr rfl⟩, trivial⟩) ?_
   refine zo (zad (zI ?_))
   have e10 : dec b = ((⟨[], [], [], (⟨0, 0, []⟩ : zax), (⟨0, 0⟩ : GPos), (⟨0, 0⟩ : GPos)⟩ : zu), 2) := by
    unfold dec
    try dsimp only
    rewrite [if_pos g1, if_neg g9]
    all_goals rfl
   rw [e10]
   exact zp rfl ⟨Nat.le_of_ble_eq_true rfl, trivial, trivial⟩ (rfl) rfl
  ·have g9 : ((za6 b 4 b.length).2.2 : Int) = 0 := zcu h9
   refine zg rfl h9 (za rfl rfl trivial (zg rfl h9 (za rfl rfl trivial (zg rfl h9 (za rfl rfl trivial (zg rfl h9 (zl rfl rfl rfl rfl rfl trivial (zt rfl h9 rfl rfl (za rfl rfl trivial ?_)))))))))
   refine zK rfl (fun h12 => ?_) (fun h12 => ?_)
   ·have g12 : ¬ (((za6 b 4 b.length).2.1 : Int) = b.length) := zcs h12
    refine zh rfl h12 rfl (zh rfl h12 rfl (zr rfl h12 rfl rfl (za rfl rfl trivial (zc (ze (zP rfl (zd (zb rfl (za (v := (.agg [_, _, _, _, _, _, _, _, _, _])) rfl rfl trivial ?_)))))))))
    refine zx (H' := [(2, _), (1, _), (0, .box [_, _, _, _, _, _, _, _, _, _])]) rfl rfl rfl rfl rfl rfl (.inl rfl) rfl ?_
    refine za rfl rfl trivial (zc (ze ?_))
    refine zaV (zH.loose (T' := [(2, .ptr 0 0), (3, I 2)]) (H' := [(0, .box [.pv (.slc 0 false []), .pv (.slc 0 false []), .pv (.slc 0 false []), I 0, I 0, .pv (.slc 0 false []), I 0, I 0, I 0, I 0])]) ⟨⟨_, rfl, .inl rfl⟩, ⟨_, rfl, .inl rfl⟩, trivial⟩ ⟨⟨_, rfl, .inr rfl⟩, trivial⟩) ?_
    refine zo (zad (zI ?_))
    have e13 : dec b = ((⟨[], [], [], (⟨0, 0, []⟩ : zax), (⟨0, 0⟩ : GPos), (⟨0, 0⟩ : GPos)⟩ : zu), 2) := by
     unfold dec
     try dsimp only
     rewrite [if_pos g1, if_pos g9, if_neg g12]
     all_goals rfl
    rw [e13]
    exact zp rfl ⟨Nat.le_of_ble_eq_true rfl, trivial, trivial⟩ (rfl) rfl
   ·have g12 : ((za6 b 4 b.length).2.1 : Int) = b.length := zcu h12
    refine zg rfl h12 (za rfl rfl trivial (zg rfl h12 (za rfl rfl trivial (zt rfl h12 rfl rfl (za rfl rfl trivial (zc (ze ?_)))))))
    refine zy rfl (fun h15 => ?_) (fun h15 => ?_)
    ·have g15 : ¬ ((zbN ((za6 b 4 b.length).1)).2 = true) := zaw (zcl h15)
     refine zd (zb rfl (za (v := (.agg [_, _, _, _, _, _, _, _, _, _])) rfl rfl trivial ?_))
     refine zx (H' := [(2, _), (1, _), (0, .box [_, _, _, _, _, _, _, _, _, _])]) rfl rfl rfl rfl rfl rfl (.inl rfl) rfl ?_
     refine za rfl rfl trivial (zc (ze ?_))
     refine zaV (zH.loose (T' := [(2, .ptr 0 0), (3, I 2)]) (H' := [(0, .box [.pv (.slc 0 false []), .pv (.slc 0 false []), .pv (.slc 0 false []), I 0, I 0, .pv (.slc 0 false []), I 0, I 0, I 0, I 0])]) ⟨⟨_, rfl, .inl rfl⟩, ⟨_, rfl, .inl rfl⟩, trivial⟩ ⟨⟨_, rfl, .inr rfl⟩, trivial⟩) ?_
     refine zo (zad (zI ?_))
     have e16 : dec b = ((⟨[], [], [], (⟨0, 0, []⟩ : zax), (⟨0, 0⟩ : GPos), (⟨0, 0⟩ : GPos)⟩ : zu), 2) := by
      unfold dec
      try dsimp only
      rewrite [if_pos g1, if_pos g9, if_pos g12, if_neg g15]
      all_goals rfl
     rw [e16]
     exact zp rfl ⟨Nat.le_of_ble_eq_true rfl, trivial, trivial⟩ (rfl) rfl
    ·have g15 : (zbN ((za6 b 4 b.length).1)).2 = true := (zcm h15)
     refine zd (zb rfl (za (v := (.agg [_, _, _, _, _, _, _, _, _, _])) rfl rfl (Nat.le_of_ble_eq_true rfl) (zF rfl rfl rfl rfl (zfZ ((zbN ((za6 b 4 b.length).1)).1) (by first | assumption | exact zcO (by decide +kernel) | exact zeH (by assumption) | grind)) rfl rfl rfl (za rfl rfl trivial (za rfl rfl trivial (zc (ze ?_)))))))
     refine zy rfl (fun h18 => ?_) (fun h18 => ?_)
     ·have g18 : ¬ (za5 ((zbN ((za6 b 4 b.length).1)).1) = true) := zaw (zcl h18)
      refine zd (zb rfl (za (v := (.agg [_, _, _, _, _, _, _, _, _, _])) rfl rfl trivial ?_))
      refine zx (H' := [(2, _), (1, _), (0, .box [_, _, _, _, _, _, _, _, _, _])]) rfl rfl rfl rfl rfl rfl (.inl rfl) rfl ?_
      refine za rfl rfl trivial (zc (ze ?_))
      refine zaV (zH.loose (T' := [(2, .ptr 0 0), (3, I 1)]) (H' := [(0, .box [.pv (.slc 0 false []), .pv (.slc 0 false []), .pv (.slc 0 false []), I 0, I 0, .pv (.slc 0 false []), I 0, I 0, I 0, I 0])]) ⟨⟨_, rfl, .inl rfl⟩, ⟨_, rfl, .inl rfl⟩, trivial⟩ ⟨⟨_, rfl, .inr rfl⟩, trivial⟩) ?_
      refine zo (zad (zI ?_))
      have e19 : dec b = ((⟨[], [], [], (⟨0, 0, []⟩ : zax), (⟨0, 0⟩ : GPos), (⟨0, 0⟩ : GPos)⟩ : zu), 1) := by
       unfold dec
       try dsimp only
       rewrite [if_pos g1, if_pos g9, if_pos g12, if_pos g15, if_neg g18]
       all_goals rfl
      rw [e19]
      exact zp rfl ⟨Nat.le_of_ble_eq_true rfl, trivial, trivial⟩ (rfl) rfl
     ·have g18 : za5 ((zbN ((za6 b 4 b.length).1)).1) = true := (zcm h18)
      refine zA (zar (ze (zd (zb rfl (za (v := (.agg [_, _, _, _, _, _, _, _, _, _])) rfl rfl (Nat.le_of_ble_eq_true rfl) ?_)))))
      refine zx (H' := [(2, _), (1, _), (0, .box [_, _, _, _, _, _, _, _, _, _])]) rfl rfl rfl rfl rfl rfl (.inl rfl) rfl ?_
      refine za rfl rfl trivial (zc (ze (zo ?_)))
      have e20 : dec b = (((zbN ((za6 b 4 b.length).1)).1), 0) := by
       unfold dec
       try dsimp only
       rewrite [if_pos g1, if_pos g9, if_pos g12, if_pos g15, if_pos g18]
       all_goals rfl
      rw [e20]
      exact zp rfl ⟨Nat.le_of_ble_eq_true rfl, trivial, trivial⟩ (rfl) rfl
end Go.Proofs.YtppnccjeggnllaaGreat

import Derived.Test.YtppnccjeggnllaaGreatRef10w
namespace Go.Proofs.YtppnccjeggnllaaGreat
open Go Go.RowKit Go.Proofs.YtppnccjeggnllaaGreatVm
attribute [local irreducible] zY zas OpsS
set_option maxHeartbeats 400000
set_option maxRecDepth 100000
set_option linter.all false
def zbV (id : Int) : List zaI → Nat → Sum (zaI × Bool) Unit
  | [], k0 => .inr ()
  | x0 :: l_, k0 => if (x0.Id : Int) = id then .inl (x0, true) else zbV id l_ (k0 + 1)
def zi9 (c : zA) (id : Int) : zaI × Bool :=
  (match zbV id c.Auras 0 with
    | .inl r_ => r_
    | .inr () => ((⟨0, 0, 0, 0, 0, 0, false⟩ : zaI), false))
theorem zs8 (c : zA) (id : Int) : Ok Tryz.prog 129 [zak c, I id] [] (.tup [zfk (zi9 c id).1, B (zi9 c id).2]) [] [] := by
 refine Ok.len fun hlen => ?_
 have hl_c_Abilities := hlL (n := c.Abilities.length) hlen
 have hl_c_Auras := hlL (n := c.Auras.length) hlen
 have hl_c_Foes := hlL (n := c.Foes.length) hlen
 have hl_c_Map_Wall := hlL (n := c.Map.Wall.length) hlen
 refine zx Tryz.func129 rfl ?_
 refine zg rfl (zz (o := .box [_, _, _, _, _, _, _, _, _, _]) (nx' := 1) rfl rfl rfl trivial (zz (o := .box [_, _, _, _, _, _, _]) (nx' := 2) rfl rfl rfl trivial (za rfl (zd (zm (zg rfl (za rfl (zd ?_))))))))
 refine zX (fun w_ : Unit => match w_ with | () => (⟨[(4, .ptr 0 0)], [(0, .box [I 0, I 0, I 0, I 0, I 0, I 0, B false])], 1, [], 28, 0⟩ : St)) (fun w_ => zbV id c.Auras 0 = .inr w_) ?_ ?_
 ·refine zw ?_
  refine z1 (fun k0 : Nat => (⟨[(1, I id), (2, .ptr 0 0), (4, .ptr 1 0), (6, I k0)], [(0, .box [.pv (.slc c.Abilities.length false (c.Abilities.flatMap zj)), .pv (.slc c.Auras.length false (c.Auras.flatMap zp)), .pv (.slc c.Foes.length false (c.Foes.flatMap zC)), I c.Map.W, I c.Map.H, .pv (.slc c.Map.Wall.length false (encB c.Map.Wall)), I c.Door.X, I c.Door.Y, I c.Lair.X, I c.Lair.Y]), (1, .box [I 0, I 0, I 0, I 0, I 0, I 0, B false])], 2, [], 28, 0⟩ : St)) (fun k0 : Nat => zbV id (c.Auras.drop k0) k0 = zbV id c.Auras 0 ∧ k0 ≤ c.Auras.length) (fun k0 : Nat => c.Auras.length - k0) 0 (⟨rfl, Nat.zero_le _⟩) ?_ (fun k0 hh_ => ?_)
  ·exact (zD.ren [] aP1 aP1 rfl ⟨⟨rfl, rfl⟩, ⟨rfl, rfl⟩, ⟨rfl, rfl⟩, ⟨rfl, rfl⟩, trivial⟩ ⟨⟨rfl, rfl, rfl⟩, ⟨rfl, rfl, rfl⟩, trivial⟩ aP0)
  obtain ⟨hI0, hb0⟩ := hh_
  refine zm (zg rfl (za rfl (zh rfl rfl aP0 (za rfl (za rfl (zi rfl rfl rfl rfl rfl trivial (zd ?_)))))))
  refine zr rfl (fun h3 => ?_) (fun h3 => ?_)
  ·have g3 : (k0 : Int) < c.Auras.length := of_decide_eq_true h3
   have hk0 : k0 < c.Auras.length := by omega
   obtain ⟨x0, hx0⟩ : ∃ z_, c.Auras[k0]? = some z_ := ⟨_, List.getElem?_eq_getElem hk0⟩
   refine zt (zu (zm (zw (zg rfl (zh rfl rfl aP0 (za rfl (za rfl (zJ (k := k0) rfl rfl rfl rfl hk0 (z3 (s := 7) (enc := zp) (fun _ => rfl) aP0 hk0) rfl (zh rfl rfl aP0 (zO rfl rfl rfl (zb7 (s := 7) (enc := zp) (fun _ => rfl) hx0 (o := 0) rfl aP0) rfl (za rfl (zi rfl rfl rfl rfl rfl trivial (zd ?_)))))))))))))
   refine zr rfl (fun h5 => ?_) (fun h5 => ?_)
   ·have g5 : (x0.Id : Int) = id := zd5 h5
    refine zg rfl (zh rfl rfl aP0 (za rfl (za rfl (zJ (k := k0) rfl rfl rfl rfl hk0 (z3 (s := 7) (enc := zp) (fun _ => rfl) aP0 hk0) rfl (zF rfl rfl rfl (zai (s := 7) (enc := zp) (fun _ => rfl) hk0) (zZ (s := 7) (enc := zp) (fun _ => rfl) hx0) rfl ?_)))))
    refine zH (H' := [(0, _), (1, .box [_, _, _, _, _, _, _])]) rfl rfl rfl rfl rfl rfl (.inl rfl) rfl ?_
    refine za rfl (zd (zl (z8 (zE (zbm (z8 (zaz (zE ?_))))))))
    have e6 : zbV id c.Auras 0 = .inl (x0, true) := by
     rewrite [← hI0, zT hx0]
     rewrite [zbV]
     try dsimp only
     rewrite [if_pos g5]
     all_goals rfl
    have e7 : zi9 c id = (x0, true) := by
     unfold zi9
     try dsimp only
     rewrite [e6]
     try dsimp only
     all_goals rfl
    rw [e7]
    exact zk rfl ⟨Nat.le_of_ble_eq_true rfl, trivial, trivial⟩ (rfl) rfl
   ·have g5 : ¬ ((x0.Id : Int) = id) := zed h5
    refine zt (zal (zu (zy rfl (za rfl (zi rfl rfl rfl rfl rfl trivial (za rfl (zq ?_)))))))
    have e9 : zbV id (c.Auras.drop k0) k0 = zbV id (c.Auras.drop (k0 + 1)) (k0 + 1) := by
     rewrite [zT hx0]
     rewrite [zbV]
     try dsimp only
     rewrite [if_neg g5]
     all_goals rfl
    exact zQ (k0 + 1) ⟨e9.symm.trans hI0, hk0⟩ (by show c.Auras.length - (k0 + 1) < c.Auras.length - k0; omega) (zD.ren [] aP1 aP1 rfl ⟨⟨rfl, rfl⟩, ⟨rfl, rfl⟩, ⟨rfl, rfl⟩, ⟨congrArg (fun n => some (I n)) (zbS (k := k0) aP2), rfl⟩, trivial⟩ ⟨⟨rfl, rfl, rfl⟩, ⟨rfl, rfl, rfl⟩, trivial⟩ aP0)
  ·have g3 : ¬ ((k0 : Int) < c.Auras.length) := of_decide_eq_false h3
   have hk0 : k0 = c.Auras.length := by omega
   refine zS (z5 (zag (zaf rfl ?_)))
   have e10 : zbV id c.Auras 0 = .inr () := by
    rewrite [← hI0, hk0, List.drop_length]
    rewrite [zbV]
    try dsimp only
    all_goals rfl
   exact z0 () e10 (zD.ren [(0, 1), (1, 0)] aP1 aP1 rfl ⟨⟨rfl, rfl⟩, trivial⟩ ⟨⟨rfl, rfl, rfl⟩, trivial⟩ aP0)
 ·rintro ⟨⟩ (hJ1 : zbV id c.Auras 0 = .inr ())
  refine zu (zg rfl (zh (v := (.agg [_, _, _, _, _, _, _])) rfl rfl trivial ?_))
  refine zH (H' := [(0, .box [_, _, _, _, _, _, _])]) rfl rfl rfl rfl rfl rfl (.inl rfl) rfl ?_
  refine za rfl (zd (zl ?_))
  have e11 : zi9 c id = ((⟨0, 0, 0, 0, 0, 0, false⟩ : zaI), false) := by
   unfold zi9
   try dsimp only
   rewrite [hJ1]
   try dsimp only
   all_goals rfl
  rw [e11]
  exact zk rfl ⟨Nat.le_of_ble_eq_true rfl, trivial, trivial⟩ (rfl) rfl
end Go.Proofs.YtppnccjeggnllaaGreat

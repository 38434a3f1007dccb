import Derived.Test.YtppnccjeggnllaaGreatRef09
namespace Go.Proofs.YtppnccjeggnllaaGreat
open Go Go.RowKit Go.Proofs.YtppnccjeggnllaaGreatVm
attribute [local irreducible] zY zas OpsS
set_option maxHeartbeats 400000
set_option maxRecDepth 100000
set_option linter.all false
def zg2 (f : GFoe) : GFoe :=
  f
theorem aP19 {p : Prop} (h : p := by (repeat' apply And.intro) <;> first | trivial | rfl | exact zaZ (s := 5) (enc := zU) (fun _ => rfl) _ | exact zaZ (s := 2) (enc := zM) (fun _ => rfl) _ | exact zaZ (fun _ => rfl) _ | exact zab _ | exact Nat.le_of_ble_eq_true rfl | assumption) : p := h
theorem zqS (f : GFoe) (hS : f.Script.length ≤ 16777216) (hH : f.Hoard.length ≤ 16777216) : Ok Tryz.prog 23 [zg9 f] [] (zg9 (zg2 f)) [] [] := by
 refine Ok.len fun hlen => ?_
 have hl_f_Script := hlL (n := f.Script.length) hlen
 have hl_f_Hoard := hlL (n := f.Hoard.length) hlen
 refine zx Tryz.func23 rfl ?_
 refine zg rfl (zz (o := .box [_, _, _, _, _, _, _, _]) (nx' := 1) rfl rfl rfl trivial (zz (o := .box [_, _, _, _, _, _, _, _]) (nx' := 2) rfl rfl rfl trivial (zd (zg rfl (zh rfl rfl ⟨by decide, rfl⟩ (zh rfl rfl aP0 (za rfl ?_)))))))
 refine zbO (m := f.Script.length) (new := f.Script.flatMap zU) (cs' := f.Script.flatMap zU) (n' := f.Script.length) rfl rfl (rfl) rfl rfl rfl rfl rfl rfl (zaZ (s := 5) (enc := zU) (fun _ => rfl) f.Script) aP3 rfl rfl rfl rfl ?_
 refine zh rfl rfl aP0 ?_
 refine zH (H' := [(2, _), (1, _), (0, .box [_, _, _, _, _, _, _, _])]) rfl rfl rfl rfl rfl rfl (.inl rfl) rfl ?_
 refine zd (zg rfl (zh rfl rfl ⟨by decide, rfl⟩ (zh rfl rfl aP0 (za rfl ?_))))
 refine zbO (m := f.Hoard.length) (new := f.Hoard.flatMap zM) (cs' := f.Hoard.flatMap zM) (n' := f.Hoard.length) rfl rfl (rfl) rfl rfl rfl rfl rfl rfl (zaZ (s := 2) (enc := zM) (fun _ => rfl) f.Hoard) aP3 rfl rfl rfl rfl ?_
 refine zh rfl rfl aP0 ?_
 refine zH (H' := [(3, _), (2, _), (1, _), (0, .box [_, _, _, _, _, _, _, _])]) rfl rfl rfl rfl rfl rfl (.inl rfl) rfl ?_
 refine zd (zg rfl (zh (v := (.agg [_, _, _, _, _, _, _, _])) rfl rfl (Nat.le_of_ble_eq_true rfl) ?_))
 refine zH (H' := [(3, _), (2, _), (1, .box [_, _, _, _, _, _, _, _]), (0, _)]) rfl rfl rfl rfl rfl rfl (.inl rfl) rfl ?_
 refine zd ?_
 refine zbq (zD.freezeJ (T' := [(2, .ptr 1 0)]) (H' := [(1, .box [I f.Id, I f.Health, I f.Hit, I f.Every, I f.Reach, .pv (.slc f.Script.length false (f.Script.flatMap zU)), .pv (.slc f.Hoard.length false (f.Hoard.flatMap zM)), I f.Drops])]) [2, 3] aP0 ⟨⟨_, _, rfl, rfl, aP19⟩, trivial⟩ ⟨⟨rfl, _, _, rfl, rfl, aP19⟩, trivial⟩) ?_
 refine zl ?_
 have e1 : zg2 f = f := by
  unfold zg2
  try dsimp only
  all_goals rfl
 rw [e1]
 exact zk rfl ⟨Nat.le_of_ble_eq_true rfl, trivial⟩ (rfl) rfl

def zbN : List zI → Nat → (List zI) → List zI
  | [], k0, o50 => o50
  | x0 :: l_, k0, o50 => zbN l_ (k0 + 1) (o50 ++ [(zeL x0)])
def zbK : List GFoe → Nat → (List GFoe) → List GFoe
  | [], k1, o41 => o41
  | x1 :: l_, k1, o41 => zbK l_ (k1 + 1) (o41 ++ [(zg2 x1)])
def za5 (c : zA) : zA :=
  (let o3_0 := zbN c.Abilities 0 ([]); (let o4_1 := zbK c.Foes 0 ([]); (⟨o3_0, c.Auras, o4_1, c.Map, c.Door, c.Lair⟩ : zA)))
theorem aP8 {p : Prop} (h : p := by (repeat' apply And.intro) <;> first | trivial | rfl | exact zaZ (s := 7) (enc := zp) (fun _ => rfl) _ | exact zaZ (fun _ => rfl) _ | exact zab _ | exact zdY _ | exact zdj _ | exact Nat.le_of_ble_eq_true rfl | assumption) : p := h
theorem aP12 {p : Prop} (h : p := by (repeat' apply And.intro) <;> first | trivial | rfl | exact zaZ (fun _ => rfl) _ | exact zab _ | exact Nat.le_of_ble_eq_true rfl | assumption) : p := h
theorem aP20 {p : Prop} (h : p := by (repeat' apply And.intro) <;> first | trivial | rfl | exact zaZ (s := 8) (enc := zj) (fun _ => rfl) _ | exact zaZ (s := 8) (enc := zC) (fun _ => rfl) _ | exact zaZ (fun _ => rfl) _ | exact zab _ | exact zdY _ | exact zdj _ | exact Nat.le_of_ble_eq_true rfl | assumption) : p := h
theorem zqx (c : zA) (hF : Few9 c) : Ok Tryz.prog 9 [zak c] [] (zak (za5 c)) [] [] := by
 refine Ok.len fun hlen => ?_
 have hl_c_Abilities := hlL (n := c.Abilities.length) hlen
 have hl_c_Auras := hlL (n := c.Auras.length) hlen
 have hl_c_Foes := hlL (n := c.Foes.length) hlen
 have hl_c_Map_Wall := hlL (n := c.Map.Wall.length) hlen
 have hF1 := hF.ab
 have hF2 := hF.au
 have hF3 := hF.fo
 have hF4 := hF.wall
 refine zx Tryz.func9 rfl ?_
 refine zg rfl (zz (o := .box [_, _, _, _, _, _, _, _, _, _]) (nx' := 1) rfl rfl rfl trivial (zz (o := .box [_, _, _, _, _, _, _, _, _, _]) (nx' := 2) rfl rfl rfl trivial (zd (zm ?_))))
 refine zav rfl aP1 rfl ?_
 refine zh rfl rfl ⟨by decide, rfl⟩ (zh rfl rfl aP0 (za rfl ?_))
 refine zbO (m := c.Auras.length) (new := c.Auras.flatMap zp) (cs' := c.Auras.flatMap zp) (n' := c.Auras.length) rfl rfl (rfl) rfl rfl rfl rfl rfl rfl (zaZ (s := 7) (enc := zp) (fun _ => rfl) c.Auras) aP3 rfl rfl rfl rfl ?_
 refine zh rfl rfl aP0 (zh (v := (.agg [_, _, _])) rfl rfl (Nat.le_of_ble_eq_true rfl) (zh rfl rfl aP0 (zh (v := (.agg [_, _])) rfl rfl (Nat.le_of_ble_eq_true rfl) (zh rfl rfl aP0 (zh (v := (.agg [_, _])) rfl rfl (Nat.le_of_ble_eq_true rfl) (zh (v := (.agg [_, _, _, _, _, _, _, _, _, _])) rfl rfl trivial (zz (o := .box [_, _, _, _, _, _, _, _, _, _]) (nx' := 4) rfl rfl rfl trivial ?_)))))))
 refine zH (H' := [(3, .box [_, _, _, _, _, _, _, _, _, _]), (2, _), (1, _), (0, _)]) rfl rfl rfl rfl rfl rfl (.inr aP1) rfl ?_
 refine zd (zm ?_)
 refine ze7 rfl (zn7 5 (j := 0) ?_)
 simp only [List.take_succ_cons, List.take_zero, List.drop_succ_cons, List.drop_zero]
 refine zh rfl rfl ⟨by decide, rfl⟩ (zh rfl rfl aP0 (zh rfl rfl aP0 (za rfl ?_)))
 refine zbO (m := c.Map.Wall.length) (new := encB c.Map.Wall) (cs' := encB c.Map.Wall) (n' := c.Map.Wall.length) rfl rfl (rfl) rfl rfl rfl rfl rfl rfl (zdY c.Map.Wall) aP3 rfl rfl rfl rfl ?_
 refine zq ?_
 refine zfL (zD.virt (T' := [(0, zak c), (1, .ptr 0 0), (2, .ptr 1 0), (3, .ptr 3 0), (6, .pv (.slc 0 true [])), (8, .pv (.slc c.Auras.length false (c.Auras.flatMap zp))), (9, .ref 2 7 0 c.Auras.length), (11, .agg [I c.Map.W, I c.Map.H, .pv (.slc c.Map.Wall.length false (encB c.Map.Wall))]), (13, .agg [I c.Door.X, I c.Door.Y]), (15, .agg [I c.Lair.X, I c.Lair.Y]), (16, .agg [.pv (.slc 0 true []), .ref 2 7 0 c.Auras.length, .pv (.slc 0 true []), I c.Map.W, I c.Map.H, .pv (.slc c.Map.Wall.length false (encB c.Map.Wall)), I c.Door.X, I c.Door.Y, I c.Lair.X, I c.Lair.Y]), (17, .pv (.slc 0 true [])), (20, .pv (.slc c.Map.Wall.length false (encB c.Map.Wall))), (21, .ref 4 1 0 c.Map.Wall.length)]) (H' := [(4, .row 4 1 (encB c.Map.Wall)), (3, .box [.ref 5 8 0 0, .ref 2 7 0 c.Auras.length, .pv (.slc 0 true []), I c.Map.W, I c.Map.H, .pv (.slc c.Map.Wall.length false (encB c.Map.Wall)), I c.Door.X, I c.Door.Y, I c.Lair.X, I c.Lair.Y]), (2, .row 62 7 (c.Auras.flatMap zp)), (1, .box [.pv (.slc 0 true []), .pv (.slc 0 true []), .pv (.slc 0 true []), I 0, I 0, .pv (.slc 0 true []), I 0, I 0, I 0, I 0]), (0, .box [.pv (.slc c.Abilities.length false (c.Abilities.flatMap zj)), .pv (.slc c.Auras.length false (c.Auras.flatMap zp)), .pv (.slc c.Foes.length false (c.Foes.flatMap zC)), I c.Map.W, I c.Map.H, .pv (.slc c.Map.Wall.length false (encB c.Map.Wall)), I c.Door.X, I c.Door.Y, I c.Lair.X, I c.Lair.Y])]) 52 8 rfl ⟨⟨rfl, rfl⟩, ⟨rfl, rfl⟩, ⟨rfl, rfl⟩, ⟨rfl, rfl⟩, ⟨rfl, rfl⟩, ⟨rfl, rfl⟩, ⟨rfl, rfl⟩, ⟨rfl, rfl⟩, ⟨rfl, rfl⟩, ⟨rfl, rfl⟩, ⟨rfl, rfl⟩, ⟨rfl, rfl⟩, ⟨rfl, rfl⟩, ⟨rfl, rfl⟩, trivial⟩ ⟨⟨rfl, rfl⟩, ⟨rfl, rfl⟩, ⟨rfl, rfl⟩, ⟨rfl, rfl⟩, ⟨rfl, rfl⟩, trivial⟩) ?_
 refine zfL (zD.virt (T' := [(0, zak c), (1, .ptr 0 0), (2, .ptr 1 0), (3, .ptr 3 0), (6, .pv (.slc 0 true [])), (8, .pv (.slc c.Auras.length false (c.Auras.flatMap zp))), (9, .ref 2 7 0 c.Auras.length), (11, .agg [I c.Map.W, I c.Map.H, .pv (.slc c.Map.Wall.length false (encB c.Map.Wall))]), (13, .agg [I c.Door.X, I c.Door.Y]), (15, .agg [I c.Lair.X, I c.Lair.Y]), (16, .agg [.pv (.slc 0 true []), .ref 2 7 0 c.Auras.length, .pv (.slc 0 true []), I c.Map.W, I c.Map.H, .pv (.slc c.Map.Wall.length false (encB c.Map.Wall)), I c.Door.X, I c.Door.Y, I c.Lair.X, I c.Lair.Y]), (17, .pv (.slc 0 true [])), (20, .pv (.slc c.Map.Wall.length false (encB c.Map.Wall))), (21, .ref 4 1 0 c.Map.Wall.length)]) (H' := [(5, .row 52 8 []), (4, .row 4 1 (encB c.Map.Wall)), (3, .box [.ref 5 8 0 0, .ref 2 7 0 c.Auras.length, .ref 6 8 0 0, I c.Map.W, I c.Map.H, .pv (.slc c.Map.Wall.length false (encB c.Map.Wall)), I c.Door.X, I c.Door.Y, I c.Lair.X, I c.Lair.Y]), (2, .row 62 7 (c.Auras.flatMap zp)), (1, .box [.pv (.slc 0 true []), .pv (.slc 0 true []), .pv (.slc 0 true []), I 0, I 0, .pv (.slc 0 true []), I 0, I 0, I 0, I 0]), (0, .box [.pv (.slc c.Abilities.length false (c.Abilities.flatMap zj)), .pv (.slc c.Auras.length false (c.Auras.flatMap zp)), .pv (.slc c.Foes.length false (c.Foes.flatMap zC)), I c.Map.W, I c.Map.H, .pv (.slc c.Map.Wall.length false (encB c.Map.Wall)), I c.Door.X, I c.Door.Y, I c.Lair.X, I c.Lair.Y])]) 56 8 rfl ⟨⟨rfl, rfl⟩, ⟨rfl, rfl⟩, ⟨rfl, rfl⟩, ⟨rfl, rfl⟩, ⟨rfl, rfl⟩, ⟨rfl, rfl⟩, ⟨rfl, rfl⟩, ⟨rfl, rfl⟩, ⟨rfl, rfl⟩, ⟨rfl, rfl⟩, ⟨rfl, rfl⟩, ⟨rfl, rfl⟩, ⟨rfl, rfl⟩, ⟨rfl, rfl⟩, trivial⟩ ⟨⟨rfl, rfl⟩, ⟨rfl, rfl⟩, ⟨rfl, rfl⟩, ⟨rfl, rfl⟩, ⟨rfl, rfl⟩, ⟨rfl, rfl⟩, trivial⟩) ?_
 refine zfL (zD.freezeJ (T' := [(0, .agg [.pv (.slc c.Abilities.length false (c.Abilities.flatMap zj)), .pv (.slc c.Auras.length false (c.Auras.flatMap zp)), .pv (.slc c.Foes.length false (c.Foes.flatMap zC)), I c.Map.W, I c.Map.H, .pv (.slc c.Map.Wall.length false (encB c.Map.Wall)), I c.Door.X, I c.Door.Y, I c.Lair.X, I c.Lair.Y]), (1, .ptr 0 0), (2, .ptr 1 0), (3, .ptr 3 0), (6, .pv (.slc 0 false [])), (8, .pv (.slc c.Auras.length false (c.Auras.flatMap zp))), (9, .pv (.slc c.Auras.length false (c.Auras.flatMap zp))), (11, .agg [I c.Map.W, I c.Map.H, .pv (.slc c.Map.Wall.length false (encB c.Map.Wall))]), (13, .agg [I c.Door.X, I c.Door.Y]), (15, .agg [I c.Lair.X, I c.Lair.Y]), (16, .agg [.pv (.slc 0 false []), .pv (.slc c.Auras.length false (c.Auras.flatMap zp)), .pv (.slc 0 false []), I c.Map.W, I c.Map.H, .pv (.slc c.Map.Wall.length false (encB c.Map.Wall)), I c.Door.X, I c.Door.Y, I c.Lair.X, I c.Lair.Y]), (17, .pv (.slc 0 false [])), (20, .pv (.slc c.Map.Wall.length false (encB c.Map.Wall))), (21, .pv (.slc c.Map.Wall.length false (encB c.Map.Wall)))]) (H' := [(6, .row 56 8 []), (5, .row 52 8 []), (3, .box [.ref 5 8 0 0, .pv (.slc c.Auras.length false (c.Auras.flatMap zp)), .ref 6 8 0 0, I c.Map.W, I c.Map.H, .pv (.slc c.Map.Wall.length false (encB c.Map.Wall)), I c.Door.X, I c.Door.Y, I c.Lair.X, I c.Lair.Y]), (1, .box [.pv (.slc 0 false []), .pv (.slc 0 false []), .pv (.slc 0 false []), I 0, I 0, .pv (.slc 0 false []), I 0, I 0, I 0, I 0]), (0, .box [.pv (.slc c.Abilities.length false (c.Abilities.flatMap zj)), .pv (.slc c.Auras.length false (c.Auras.flatMap zp)), .pv (.slc c.Foes.length false (c.Foes.flatMap zC)), I c.Map.W, I c.Map.H, .pv (.slc c.Map.Wall.length false (encB c.Map.Wall)), I c.Door.X, I c.Door.Y, I c.Lair.X, I c.Lair.Y])]) [2, 4] aP0 ⟨⟨_, _, rfl, rfl, aP8⟩, ⟨_, _, rfl, rfl, aP8⟩, ⟨_, _, rfl, rfl, aP8⟩, ⟨_, _, rfl, rfl, aP8⟩, ⟨_, _, rfl, rfl, aP8⟩, ⟨_, _, rfl, rfl, aP8⟩, ⟨_, _, rfl, rfl, aP8⟩, ⟨_, _, rfl, rfl, aP8⟩, ⟨_, _, rfl, rfl, aP8⟩, ⟨_, _, rfl, rfl, aP8⟩, ⟨_, _, rfl, rfl, aP8⟩, ⟨_, _, rfl, rfl, aP8⟩, ⟨_, _, rfl, rfl, aP8⟩, ⟨_, _, rfl, rfl, aP8⟩, trivial⟩ ⟨⟨rfl, _, _, rfl, rfl, aP8⟩, ⟨rfl, _, _, rfl, rfl, aP8⟩, ⟨rfl, _, _, rfl, rfl, aP8⟩, ⟨rfl, _, _, rfl, rfl, aP8⟩, ⟨rfl, _, _, rfl, rfl, aP8⟩, trivial⟩) ?_
 refine zqK (j := 5) ?_
 refine zh rfl rfl aP0 (zh rfl rfl aP0 ?_)
 refine zH (H' := [(6, _), (5, _), (3, .box [_, _, _, _, _, _, _, _, _, _]), (1, _), (0, _)]) rfl rfl rfl rfl rfl rfl (.inl rfl) rfl ?_
 refine zd (zm (zg rfl (za rfl (zd ?_))))
 refine zX (fun o3_0 : List zI => (⟨[(1, .ptr 0 0), (2, .ptr 1 0), (3, .ptr 2 0)], [(0, .box [.pv (.slc c.Abilities.length false (c.Abilities.flatMap zj)), .pv (.slc c.Auras.length false (c.Auras.flatMap zp)), .pv (.slc c.Foes.length false (c.Foes.flatMap zC)), I c.Map.W, I c.Map.H, .pv (.slc c.Map.Wall.length false (encB c.Map.Wall)), I c.Door.X, I c.Door.Y, I c.Lair.X, I c.Lair.Y]), (1, .box [.pv (.slc 0 false []), .pv (.slc 0 false []), .pv (.slc 0 false []), I 0, I 0, .pv (.slc 0 false []), I 0, I 0, I 0, I 0]), (2, .box [.ref 3 8 0 o3_0.length, .pv (.slc c.Auras.length false (c.Auras.flatMap zp)), .ref 4 8 0 0, I c.Map.W, I c.Map.H, .pv (.slc c.Map.Wall.length false (encB c.Map.Wall)), I c.Door.X, I c.Door.Y, I c.Lair.X, I c.Lair.Y]), (3, .row 52 8 (o3_0.flatMap zj)), (4, .row 56 8 [])], 5, [], 61, 0⟩ : St)) (fun w_ => zbN c.Abilities 0 ([]) = w_) ?_ ?_
 ·refine zw ?_
  refine z1 (fun w_ : Nat × (List zI) => match w_ with | (k0, o50) => (⟨[(1, .ptr 0 0), (2, .ptr 1 0), (3, .ptr 2 0), (4, I k0)], [(0, .box [.pv (.slc c.Abilities.length false (c.Abilities.flatMap zj)), .pv (.slc c.Auras.length false (c.Auras.flatMap zp)), .pv (.slc c.Foes.length false (c.Foes.flatMap zC)), I c.Map.W, I c.Map.H, .pv (.slc c.Map.Wall.length false (encB c.Map.Wall)), I c.Door.X, I c.Door.Y, I c.Lair.X, I c.Lair.Y]), (1, .box [.pv (.slc 0 false []), .pv (.slc 0 false []), .pv (.slc 0 false []), I 0, I 0, .pv (.slc 0 false []), I 0, I 0, I 0, I 0]), (2, .box [.ref 3 8 0 o50.length, .pv (.slc c.Auras.length false (c.Auras.flatMap zp)), .ref 4 8 0 0, I c.Map.W, I c.Map.H, .pv (.slc c.Map.Wall.length false (encB c.Map.Wall)), I c.Door.X, I c.Door.Y, I c.Lair.X, I c.Lair.Y]), (3, .row 52 8 (o50.flatMap zj)), (4, .row 56 8 [])], 5, [], 61, 0⟩ : St)) (fun w_ : Nat × (List zI) => match w_ with | (k0, o50) => zbN (c.Abilities.drop k0) k0 o50 = zbN c.Abilities 0 ([]) ∧ k0 ≤ c.Abilities.length ∧ o50.length = k0) (fun w_ : Nat × (List zI) => match w_ with | (k0, o50) => c.Abilities.length - k0) (0, []) (⟨rfl, Nat.zero_le _, rfl⟩) ?_ (fun w_ hh_ => ?_)
  ·exact (zD.ren [(2, 3), (3, 5), (4, 6), (5, 2), (6, 4)] aP1 aP1 rfl ⟨⟨rfl, rfl⟩, ⟨rfl, rfl⟩, ⟨rfl, rfl⟩, ⟨rfl, rfl⟩, trivial⟩ ⟨⟨rfl, rfl, rfl⟩, ⟨rfl, rfl, rfl⟩, ⟨rfl, rfl, rfl⟩, ⟨rfl, rfl, rfl⟩, ⟨rfl, rfl, rfl⟩, trivial⟩ aP0)
  obtain ⟨k0, o50⟩ := w_
  obtain ⟨hI0, hb0, hv0⟩ := hh_
  refine zm (zg rfl (za rfl (zh rfl rfl aP0 (za rfl (za rfl (zi rfl rfl rfl rfl rfl trivial (zd ?_)))))))
  refine zr rfl (fun h3 => ?_) (fun h3 => ?_)
  ·have g3 : (k0 : Int) < c.Abilities.length := of_decide_eq_true h3
   have hk0 : k0 < c.Abilities.length := by omega
   obtain ⟨x0, hx0⟩ : ∃ z_, c.Abilities[k0]? = some z_ := ⟨_, List.getElem?_eq_getElem hk0⟩
   refine zt (zu (zm (zw ?_)))
   refine zav rfl aP1 rfl ?_
   refine zh rfl rfl aP0 (za rfl (zh rfl rfl aP0 (za rfl (za rfl (zJ (k := k0) rfl rfl rfl rfl hk0 (z3 (s := 8) (enc := zj) (fun _ => rfl) aP0 hk0) rfl (zF rfl rfl rfl (zai (s := 8) (enc := zj) (fun _ => rfl) hk0) (zZ (s := 8) (enc := zj) (fun _ => rfl) hx0) rfl ?_))))))
   refine zB rfl rfl rfl rfl (Ok.frz (zlL x0 aP18) rfl rfl aP12) rfl rfl rfl ?_
   refine zz (o := .row _ _ [_, _, _, _, _, _, _, _]) (nx' := 6) rfl rfl rfl aP0 ?_
   refine zL (m := 1) (new := [_, _, _, _, _, _, _, _]) (cs' := (o50 ++ [(zeL x0)]).flatMap zj) (n' := (o50 ++ [(zeL x0)]).length) (H' := [(5, .row _ _ _), (0, .box [_, _, _, _, _, _, _, _, _, _]), (1, .box [_, _, _, _, _, _, _, _, _, _]), (2, .box [_, _, _, _, _, _, _, _, _, _]), (3, .row _ _ _), (4, .row _ _ _)]) rfl rfl rfl (rfl) rfl rfl rfl rfl rfl rfl (zaZ (s := 8) (enc := zj) (fun _ => rfl) o50) (rfl) aP3 (zaV o50 _) (((zlt (enc := zj) (l := o50) (zeL x0))).symm) (.inr aP1) rfl rfl (.keep rfl (.keep rfl (.keep rfl (.lose rfl (.keep rfl (.keep rfl .nil)))))) (.keep rfl (.keep rfl (.keep rfl (.keep rfl (.keep rfl (.keep rfl (.keep rfl (.lose (v' := .undef) rfl (.keep rfl (.keep rfl (.keep rfl (.keep rfl (.keep rfl (.keep rfl (.keep rfl (.keep rfl (.keep rfl (.keep rfl .nil)))))))))))))))))) ?_
   refine zh rfl rfl aP0 ?_
   refine zH (H' := [(5, _), (0, _), (1, _), (2, .box [_, _, _, _, _, _, _, _, _, _]), (3, _), (4, _)]) rfl rfl rfl rfl rfl rfl (.inr aP1) rfl ?_
   refine zq (zal (zu (zy rfl (za rfl (zi rfl rfl rfl rfl rfl trivial (za rfl (zq ?_)))))))
   have e5 : zbN (c.Abilities.drop k0) k0 o50 = zbN (c.Abilities.drop (k0 + 1)) (k0 + 1) (o50 ++ [(zeL x0)]) := by
    rewrite [zT hx0]
    rewrite [zbN]
    try dsimp only
    all_goals rfl
   exact zQ (k0 + 1, (o50 ++ [(zeL x0)])) ⟨e5.symm.trans hI0, hk0, by first | omega | assumption | (simp only [List.length_append, List.length_cons, List.length_nil, List.length_set]; omega) | (simp; omega) | grind⟩ (by show c.Abilities.length - (k0 + 1) < c.Abilities.length - k0; omega) (zD.ren [] aP1 aP1 rfl ⟨⟨rfl, rfl⟩, ⟨rfl, rfl⟩, ⟨rfl, rfl⟩, ⟨congrArg (fun n => some (I n)) (zbS (k := k0) aP2), rfl⟩, trivial⟩ ⟨⟨rfl, rfl, rfl⟩, ⟨rfl, rfl, rfl⟩, ⟨rfl, rfl, rfl⟩, ⟨rfl, rfl, rfl⟩, ⟨rfl, rfl, rfl⟩, trivial⟩ aP0)
  ·have g3 : ¬ ((k0 : Int) < c.Abilities.length) := of_decide_eq_false h3
   have hk0 : k0 = c.Abilities.length := by omega
   refine zS (z5 (zag (zaf rfl ?_)))
   have e6 : zbN c.Abilities 0 ([]) = o50 := by
    rewrite [← hI0, hk0, List.drop_length]
    rewrite [zbN]
    try dsimp only
    all_goals rfl
   exact z0 o50 e6 (zD.ren [] aP1 aP1 rfl ⟨⟨rfl, rfl⟩, ⟨rfl, rfl⟩, ⟨rfl, rfl⟩, trivial⟩ ⟨⟨rfl, rfl, rfl⟩, ⟨rfl, rfl, rfl⟩, ⟨rfl, rfl, rfl⟩, ⟨rfl, rfl, rfl⟩, ⟨rfl, rfl, rfl⟩, trivial⟩ aP0)
 ·rintro o3_0 (hJ1 : zbN c.Abilities 0 ([]) = o3_0)
  refine zu (zm (zg rfl (za rfl (zd ?_))))
  refine zX (fun o4_1 : List GFoe => (⟨[(2, .ptr 0 0), (3, .ptr 1 0)], [(0, .box [.pv (.slc 0 false []), .pv (.slc 0 false []), .pv (.slc 0 false []), I 0, I 0, .pv (.slc 0 false []), I 0, I 0, I 0, I 0]), (1, .box [.ref 2 8 0 o3_0.length, .pv (.slc c.Auras.length false (c.Auras.flatMap zp)), .ref 3 8 0 o4_1.length, I c.Map.W, I c.Map.H, .pv (.slc c.Map.Wall.length false (encB c.Map.Wall)), I c.Door.X, I c.Door.Y, I c.Lair.X, I c.Lair.Y]), (2, .row 52 8 (o3_0.flatMap zj)), (3, .row 56 8 (o4_1.flatMap zC))], 4, [], 61, 0⟩ : St)) (fun w_ => zbK c.Foes 0 ([]) = w_) ?_ ?_
  ·refine zw ?_
   refine z1 (fun w_ : Nat × (List GFoe) => match w_ with | (k1, o41) => (⟨[(1, .ptr 0 0), (2, .ptr 1 0), (3, .ptr 2 0), (5, I k1)], [(0, .box [.pv (.slc c.Abilities.length false (c.Abilities.flatMap zj)), .pv (.slc c.Auras.length false (c.Auras.flatMap zp)), .pv (.slc c.Foes.length false (c.Foes.flatMap zC)), I c.Map.W, I c.Map.H, .pv (.slc c.Map.Wall.length false (encB c.Map.Wall)), I c.Door.X, I c.Door.Y, I c.Lair.X, I c.Lair.Y]), (1, .box [.pv (.slc 0 false []), .pv (.slc 0 false []), .pv (.slc 0 false []), I 0, I 0, .pv (.slc 0 false []), I 0, I 0, I 0, I 0]), (2, .box [.ref 3 8 0 o3_0.length, .pv (.slc c.Auras.length false (c.Auras.flatMap zp)), .ref 4 8 0 o41.length, I c.Map.W, I c.Map.H, .pv (.slc c.Map.Wall.length false (encB c.Map.Wall)), I c.Door.X, I c.Door.Y, I c.Lair.X, I c.Lair.Y]), (3, .row 52 8 (o3_0.flatMap zj)), (4, .row 56 8 (o41.flatMap zC))], 5, [], 61, 0⟩ : St)) (fun w_ : Nat × (List GFoe) => match w_ with | (k1, o41) => zbK (c.Foes.drop k1) k1 o41 = zbK c.Foes 0 ([]) ∧ k1 ≤ c.Foes.length ∧ o41.length = k1) (fun w_ : Nat × (List GFoe) => match w_ with | (k1, o41) => c.Foes.length - k1) (0, []) (⟨rfl, Nat.zero_le _, rfl⟩) ?_ (fun w_ hh_ => ?_)
   ·exact (zD.ren [] aP1 aP1 rfl ⟨⟨rfl, rfl⟩, ⟨rfl, rfl⟩, ⟨rfl, rfl⟩, ⟨rfl, rfl⟩, trivial⟩ ⟨⟨rfl, rfl, rfl⟩, ⟨rfl, rfl, rfl⟩, ⟨rfl, rfl, rfl⟩, ⟨rfl, rfl, rfl⟩, ⟨rfl, rfl, rfl⟩, trivial⟩ aP0)
   obtain ⟨k1, o41⟩ := w_
   obtain ⟨hI1, hb1, hv1⟩ := hh_
   refine zm (zg rfl (za rfl (zh rfl rfl aP0 (za rfl (za rfl (zi rfl rfl rfl rfl rfl trivial (zd ?_)))))))
   refine zr rfl (fun h9 => ?_) (fun h9 => ?_)
   ·have g9 : (k1 : Int) < c.Foes.length := of_decide_eq_true h9
    have hk1 : k1 < c.Foes.length := by omega
    obtain ⟨x1, hx1⟩ : ∃ z_, c.Foes[k1]? = some z_ := ⟨_, List.getElem?_eq_getElem hk1⟩
    refine zt (zu (zm (zw ?_)))
    refine zav rfl aP1 rfl ?_
    refine zh rfl rfl aP0 (za rfl (zh rfl rfl aP0 (za rfl (za rfl (zJ (k := k1) rfl rfl rfl rfl hk1 (z3 (s := 8) (enc := zC) (fun _ => rfl) aP0 hk1) rfl (zF rfl rfl rfl (zai (s := 8) (enc := zC) (fun _ => rfl) hk1) (zZ (s := 8) (enc := zC) (fun _ => rfl) hx1) rfl ?_))))))
    refine zB rfl rfl rfl rfl (Ok.frz (zqS x1 (by first | assumption | exact Few9.script (by assumption) _ (List.mem_of_getElem? (by assumption)) | omega | simp_all) (by first | assumption | exact Few9.hoard (by assumption) _ (List.mem_of_getElem? (by assumption)) | omega | simp_all)) rfl rfl aP12) rfl rfl rfl ?_
    refine zz (o := .row _ _ [_, _, _, _, _, _, _, _]) (nx' := 6) rfl rfl rfl aP0 ?_
    refine zL (m := 1) (new := [_, _, _, _, _, _, _, _]) (cs' := (o41 ++ [(zg2 x1)]).flatMap zC) (n' := (o41 ++ [(zg2 x1)]).length) (H' := [(5, .row _ _ _), (0, .box [_, _, _, _, _, _, _, _, _, _]), (1, .box [_, _, _, _, _, _, _, _, _, _]), (2, .box [_, _, _, _, _, _, _, _, _, _]), (3, .row _ _ _), (4, .row _ _ _)]) rfl rfl rfl (rfl) rfl rfl rfl rfl rfl rfl (zaZ (s := 8) (enc := zC) (fun _ => rfl) o41) (rfl) aP3 (zaV o41 _) (((zlt (enc := zC) (l := o41) (zg2 x1))).symm) (.inr aP1) rfl rfl (.keep rfl (.keep rfl (.keep rfl (.lose rfl (.keep rfl (.keep rfl .nil)))))) (.keep rfl (.keep rfl (.keep rfl (.keep rfl (.keep rfl (.keep rfl (.keep rfl (.lose (v' := .undef) rfl (.keep rfl (.keep rfl (.keep rfl (.keep rfl (.keep rfl (.keep rfl (.keep rfl (.keep rfl (.keep rfl (.keep rfl .nil)))))))))))))))))) ?_
    refine zh rfl rfl aP0 ?_
    refine zH (H' := [(5, _), (0, _), (1, _), (2, .box [_, _, _, _, _, _, _, _, _, _]), (3, _), (4, _)]) rfl rfl rfl rfl rfl rfl (.inr aP1) rfl ?_
    refine zq (zal (zu (zy rfl (za rfl (zi rfl rfl rfl rfl rfl trivial (za rfl (zq ?_)))))))
    have e11 : zbK (c.Foes.drop k1) k1 o41 = zbK (c.Foes.drop (k1 + 1)) (k1 + 1) (o41 ++ [(zg2 x1)]) := by
     rewrite [zT hx1]
     rewrite [zbK]
     try dsimp only
     all_goals rfl
    exact zQ (k1 + 1, (o41 ++ [(zg2 x1)])) ⟨e11.symm.trans hI1, hk1, by first | omega | assumption | (simp only [List.length_append, List.length_cons, List.length_nil, List.length_set]; omega) | (simp; omega) | grind⟩ (by show c.Foes.length - (k1 + 1) < c.Foes.length - k1; omega) (zD.ren [] aP1 aP1 rfl ⟨⟨rfl, rfl⟩, ⟨rfl, rfl⟩, ⟨rfl, rfl⟩, ⟨congrArg (fun n => some (I n)) (zbS (k := k1) aP2), rfl⟩, trivial⟩ ⟨⟨rfl, rfl, rfl⟩, ⟨rfl, rfl, rfl⟩, ⟨rfl, rfl, rfl⟩, ⟨rfl, rfl, rfl⟩, ⟨rfl, rfl, rfl⟩, trivial⟩ aP0)
   ·have g9 : ¬ ((k1 : Int) < c.Foes.length) := of_decide_eq_false h9
    have hk1 : k1 = c.Foes.length := by omega
    refine zS (z5 (zag (zaf rfl ?_)))
    have e12 : zbK c.Foes 0 ([]) = o41 := by
     rewrite [← hI1, hk1, List.drop_length]
     rewrite [zbK]
     try dsimp only
     all_goals rfl
    exact z0 o41 e12 (zD.ren [(0, 1), (1, 2), (2, 3), (3, 4), (4, 0)] aP1 aP1 rfl ⟨⟨rfl, rfl⟩, ⟨rfl, rfl⟩, trivial⟩ ⟨⟨rfl, rfl, rfl⟩, ⟨rfl, rfl, rfl⟩, ⟨rfl, rfl, rfl⟩, ⟨rfl, rfl, rfl⟩, trivial⟩ aP0)
  ·rintro o4_1 (hJ7 : zbK c.Foes 0 ([]) = o4_1)
   refine zu (zg rfl (zh (v := (.agg [_, _, _, _, _, _, _, _, _, _])) rfl rfl (Nat.le_of_ble_eq_true rfl) ?_))
   refine zH (H' := [(0, .box [_, _, _, _, _, _, _, _, _, _]), (1, _), (2, _), (3, _)]) rfl rfl rfl rfl rfl rfl (.inl rfl) rfl ?_
   refine zd ?_
   refine zbq (zD.freezeJ (T' := [(2, .ptr 0 0)]) (H' := [(0, .box [.pv (.slc o3_0.length false (o3_0.flatMap zj)), .pv (.slc c.Auras.length false (c.Auras.flatMap zp)), .pv (.slc o4_1.length false (o4_1.flatMap zC)), I c.Map.W, I c.Map.H, .pv (.slc c.Map.Wall.length false (encB c.Map.Wall)), I c.Door.X, I c.Door.Y, I c.Lair.X, I c.Lair.Y])]) [2, 3] aP0 ⟨⟨_, _, rfl, rfl, aP20⟩, trivial⟩ ⟨⟨rfl, _, _, rfl, rfl, aP20⟩, trivial⟩) ?_
   refine zl ?_
   have e13 : za5 c = (⟨o3_0, c.Auras, o4_1, c.Map, c.Door, c.Lair⟩ : zA) := by
    unfold za5
    try dsimp only
    rewrite [hJ1]
    try dsimp only
    rewrite [hJ7]
    try dsimp only
    all_goals rfl
   rw [e13]
   exact zk rfl ⟨Nat.le_of_ble_eq_true rfl, trivial⟩ (rfl) rfl
end Go.Proofs.YtppnccjeggnllaaGreat

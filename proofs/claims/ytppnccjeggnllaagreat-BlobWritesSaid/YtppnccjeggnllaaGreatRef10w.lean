import Derived.Test.YtppnccjeggnllaaGreatBlobe
namespace Go.Proofs.YtppnccjeggnllaaGreat
open Go Go.RowKit Go.Proofs.YtppnccjeggnllaaGreatVm
attribute [local irreducible] zY zas OpsS
set_option maxHeartbeats 400000
set_option maxRecDepth 100000
set_option linter.all false
theorem zn3 (b : List UInt8) : (zie b).length = b.length := by unfold zie; first | rfl | simp

def zhk (b : List UInt8) (n : Int) : List UInt8 :=
  (zeU (zie b) (IntKind.u64.wrap (max n 0)))
theorem aP11 {p : Prop} (h : p := by first | assumption | omega | (simp; omega)) : p := h
theorem aP17 {p : Prop} (h : p := by first | assumption | exact zqo _ | exact zdw _ | exact num_in) : p := h
theorem zsx (b : List UInt8) (b_f : Bool) (n : Int) (hb : b.length ≤ 3000) : Ok Tryz.prog 74 [.pv (.slc b.length b_f (encY b)), I n] [] (.ref 0 1 0 (zhk b n).length) [.row 5 1 (encY (zhk b n))] [] := by
 refine Ok.len fun hlen => ?_
 have hl_b := hlL (n := b.length) hlen
 refine zx Tryz.func74 rfl ?_
 refine zg rfl (zz (nx' := 1) rfl rfl rfl trivial (zd (zg rfl (za rfl ?_))))
 refine zb5 (out' := .ref 1 _ _ _) (H' := [(1, .row _ _ _), (0, _)]) (nx' := 2) rfl rfl rfl rfl rfl rfl rfl aP6 (zsY b false aP11) rfl rfl rfl rfl ?_
 have p1 := zn3 b
 refine za rfl ?_
 refine znB rfl rfl rfl ?_
 refine za rfl ?_
 refine zar (Hin := [.row _ _ _]) (out' := .ref 1 _ _ _) (H' := [(1, .row _ _ _), (0, .row _ _ _)]) (nx' := 2) [1] rfl rfl rfl rfl (.inl rfl) rfl rfl rfl rfl (zlq (zie b) (IntKind.u64.wrap (max n 0)) aP4 aP17) rfl aP0 rfl rfl (.keep rfl (.keep rfl .nil)) (.keep rfl (.keep rfl (.keep rfl (.lose (v' := .undef) rfl (.keep rfl (.keep rfl (.keep rfl (.keep rfl .nil)))))))) rfl rfl rfl rfl ?_
 have p3 := zhL (zie b) (IntKind.u64.wrap (max n 0))
 refine za rfl (zd (zl ?_))
 have e4 : zhk b n = (zeU (zie b) (IntKind.u64.wrap (max n 0))) := by
  unfold zhk
  try dsimp only
  all_goals rfl
 rw [e4]
 exact zaa [] [1] rfl ⟨trivial, trivial⟩ rfl aP9 (rfl) rfl rfl rfl aP0 rfl rfl ⟨⟨rfl, rfl⟩, trivial⟩

theorem zqH (b : List UInt8) (n : Int) : (zhk b n).length ≤ b.length + 11 := by unfold zhk; have h := zhL (zie b) (IntKind.u64.wrap (max n 0)); have h2 := zn3 b; first | omega | (simp only [] at *; omega)

def zcl : List Int → Nat → (List UInt8) → List UInt8
  | [], k0, out0 => out0
  | x0 :: l_, k0, out0 => zcl l_ (k0 + 1) (zeU out0 (signed x0))
def zlD (b : List UInt8) (l : List Int) : List UInt8 :=
  (let out_0 := zcl l 0 (zhk b l.length); out_0)
theorem zss (b : List UInt8) (b_f : Bool) (l : List Int) (l_f : Bool) (hb : b.length ≤ 100) (hl : l.length ≤ 1400000) : Ok Tryz.prog 35 [.pv (.slc b.length b_f (encY b)), .pv (.slc l.length l_f (encI l))] [] (.ref 0 1 0 (zlD b l).length) [.row 5 1 (encY (zlD b l))] [] := by
 refine Ok.len fun hlen => ?_
 have hl_b := hlL (n := b.length) hlen
 have hl_l := hlL (n := l.length) hlen
 refine zx Tryz.func35 rfl ?_
 refine zg rfl (zz (nx' := 1) rfl rfl rfl trivial (zd (zg rfl (za rfl (za rfl (za rfl ?_))))))
 refine zb5 (out' := .ref 1 _ _ _) (H' := [(1, .row _ _ _), (0, _)]) (nx' := 2) rfl rfl rfl rfl rfl rfl rfl aP6 (zsx b false l.length aP4) rfl rfl rfl rfl ?_
 have p1 := zqH b l.length
 refine za rfl (zd (zm (zg rfl (za rfl (zd ?_)))))
 refine zX (fun out_0 : List UInt8 => (⟨[(5, .ref 0 1 0 out_0.length)], [(0, .row 5 1 (encY out_0))], 1, [], 25, 0⟩ : St)) (fun out_0 : List UInt8 => zcl l 0 (zhk b l.length) = out_0 ∧ (out_0.length ≤ b.length + 11 + 11 * l.length)) ?_ ?_
 ·refine zw ?_
  refine z1 (fun w_ : Nat × (List UInt8) => match w_ with | (k0, out0) => (⟨[(1, .pv (.slc l.length l_f (encI l))), (5, .ref 0 1 0 out0.length), (6, I k0)], [(0, .row 5 1 (encY out0))], 1, [], 25, 0⟩ : St)) (fun w_ : Nat × (List UInt8) => match w_ with | (k0, out0) => zcl (l.drop k0) k0 out0 = zcl l 0 (zhk b l.length) ∧ k0 ≤ l.length ∧ out0.length ≤ b.length + 11 + 11 * k0) (fun w_ : Nat × (List UInt8) => match w_ with | (k0, out0) => l.length - k0) (0, (zhk b l.length)) (⟨rfl, Nat.zero_le _, by first | omega | (simp; done) | (simp only [List.length_append, List.length_cons, List.length_nil] at *; omega) | (simp; omega)⟩) ?_ (fun w_ hh_ => ?_)
  ·exact (zD.ren [(0, 1), (1, 0)] aP1 aP1 rfl ⟨⟨rfl, rfl⟩, ⟨rfl, rfl⟩, ⟨rfl, rfl⟩, trivial⟩ ⟨⟨rfl, rfl, rfl⟩, trivial⟩ aP0)
  obtain ⟨k0, out0⟩ := w_
  obtain ⟨hI0, hb0, hv0⟩ := hh_
  refine zm (zg rfl (za rfl (za rfl (za rfl (zi rfl rfl rfl rfl rfl trivial (zd ?_))))))
  refine zr rfl (fun h4 => ?_) (fun h4 => ?_)
  ·have g4 : (k0 : Int) < l.length := of_decide_eq_true h4
   have hk0 : k0 < l.length := by omega
   obtain ⟨x0, hx0⟩ : ∃ z_, l[k0]? = some z_ := ⟨_, List.getElem?_eq_getElem hk0⟩
   refine zt (zu (zm (zw (zy rfl (za rfl (za rfl (za rfl (zJ (k := k0) rfl rfl rfl rfl hk0 (zfF hk0) rfl (zO rfl rfl rfl (zep hx0) rfl (zB rfl rfl rfl rfl (zpK x0) rfl rfl rfl ?_))))))))))
   refine zar (Hin := [.row _ _ _]) (out' := .ref 0 _ _ _) (H' := [(0, .row _ _ _)]) (nx' := 1) [0] rfl rfl rfl rfl (.inl rfl) rfl rfl rfl rfl (zlq out0 (signed x0) aP4 aP17) rfl aP0 rfl rfl (.keep rfl .nil) (.keep rfl (.keep rfl (.keep rfl (.keep rfl (.keep rfl (.lose (v' := .undef) rfl (.keep rfl (.keep rfl (.keep rfl (.keep rfl (.keep rfl (.lose (v' := .undef) rfl (.keep rfl .nil))))))))))))) rfl rfl rfl rfl ?_
   have p5 := zhL out0 (signed x0)
   refine za rfl (zq (zal (zu (zy rfl (za rfl (zi rfl rfl rfl rfl rfl trivial (za rfl (zq ?_))))))))
   have e7 : zcl (l.drop k0) k0 out0 = zcl (l.drop (k0 + 1)) (k0 + 1) (zeU out0 (signed x0)) := by
    rewrite [zT hx0]
    rewrite [zcl]
    try dsimp only
    all_goals rfl
   exact zQ (k0 + 1, (zeU out0 (signed x0))) ⟨e7.symm.trans hI0, hk0, by first | omega | assumption | (simp only [List.length_append, List.length_cons, List.length_nil, List.length_set]; omega) | (simp; omega) | grind⟩ (by show l.length - (k0 + 1) < l.length - k0; omega) (zD.ren [] aP1 aP1 rfl ⟨⟨rfl, rfl⟩, ⟨rfl, rfl⟩, ⟨congrArg (fun n => some (I n)) (zbS (k := k0) aP2), rfl⟩, trivial⟩ ⟨⟨rfl, rfl, rfl⟩, trivial⟩ aP0)
  ·have g4 : ¬ ((k0 : Int) < l.length) := of_decide_eq_false h4
   have hk0 : k0 = l.length := by omega
   refine zS (z5 (zag (zaf rfl ?_)))
   have e8 : zcl l 0 (zhk b l.length) = out0 := by
    rewrite [← hI0, hk0, List.drop_length]
    rewrite [zcl]
    try dsimp only
    all_goals rfl
   exact z0 out0 ⟨e8, by first | assumption | omega | (simp; omega) | simp_all | grind⟩ (zD.ren [] aP1 aP1 rfl ⟨⟨rfl, rfl⟩, trivial⟩ ⟨⟨rfl, rfl, rfl⟩, trivial⟩ aP0)
 ·rintro out_0 ⟨(hJ2 : zcl l 0 (zhk b l.length) = out_0), hE0⟩
  refine zu (zg rfl (za rfl (za rfl (zd (zl ?_)))))
  have e9 : zlD b l = out_0 := by
   unfold zlD
   try dsimp only
   rewrite [hJ2]
   try dsimp only
   all_goals rfl
  rw [e9]
  exact zaa [] [0] rfl ⟨trivial, trivial⟩ rfl aP9 (rfl) rfl rfl rfl aP0 rfl rfl ⟨⟨rfl, rfl⟩, trivial⟩

def zc7 (is : Bool) : Int :=
  if is = true then 1 else 0
theorem zkz (is : Bool) : Ok Tryz.prog 32 [B is] [] (I (zc7 is)) [] [] := by
 refine zx Tryz.func32 rfl ?_
 refine zg rfl (za rfl (zd (zm (zg rfl (za rfl (zd ?_))))))
 refine zr rfl (fun h2 => ?_) (fun h2 => ?_)
 ·have g2 : is = true := h2
  refine zg rfl (za rfl (zd (zl (zE ?_))))
  have e3 : zc7 is = 1 := by
   unfold zc7
   try dsimp only
   rewrite [if_pos g2]
   all_goals rfl
  rw [e3]
  exact zk rfl ⟨trivial, trivial⟩ (rfl) rfl
 ·have g2 : ¬ (is = true) := zaA h2
  refine zt (zu (zg rfl (za rfl (zd (zl ?_)))))
  have e4 : zc7 is = 0 := by
   unfold zc7
   try dsimp only
   rewrite [if_neg g2]
   all_goals rfl
  rw [e4]
  exact zk rfl ⟨trivial, trivial⟩ (rfl) rfl

def zcs : List zaJ → Nat → (List Int) → List Int
  | [], k1, l1 => l1
  | x1 :: l_, k1, l1 => zcs l_ (k1 + 1) (l1 ++ [x1.Kind, x1.Amount, x1.Aura])
def zcm : List zI → Nat → (List Int) → List Int
  | [], k0, l0 => l0
  | x0 :: l_, k0, l0 => (let l_1 := zcs x0.Effects 0 (l0 ++ [x0.Id, x0.Cast, x0.Cool, x0.Charges, x0.Range, x0.Cost, (zc7 x0.Sight), (x0.Effects.length : Int)]); zcm l_ (k0 + 1) l_1)
def zcp : List zaI → Nat → (List Int) → List Int
  | [], k2, l2 => l2
  | x2 :: l_, k2, l2 => zcp l_ (k2 + 1) (l2 ++ [x2.Id, x2.Kind, x2.Ticks, x2.Every, x2.Stacks, x2.Amount, (zc7 x2.Harm)])
def zci : List zcc → Nat → (List Int) → List Int
  | [], k4, l4 => l4
  | x4 :: l_, k4, l4 => zci l_ (k4 + 1) (l4 ++ [x4.Phase, x4.When, x4.Arg, x4.Do, x4.Value])
def zch : List zbD → Nat → (List Int) → List Int
  | [], k5, l5 => l5
  | x5 :: l_, k5, l5 => zch l_ (k5 + 1) (l5 ++ [x5.Item, x5.Weight])
def zck : List GFoe → Nat → (List Int) → List Int
  | [], k3, l3 => l3
  | x3 :: l_, k3, l3 => (let l_4 := zci x3.Script 0 (l3 ++ [x3.Id, x3.Health, x3.Hit, x3.Every, x3.Reach, x3.Drops, (x3.Script.length : Int)]); (let l_5 := zch x3.Hoard 0 (l_4 ++ [(x3.Hoard.length : Int)]); zck l_ (k3 + 1) l_5))
def zcr : List Bool → Nat → (List Int) → List Int
  | [], k6, l6 => l6
  | x6 :: l_, k6, l6 => zcr l_ (k6 + 1) (l6 ++ [(zc7 x6)])
def zfZ (c : zA) : List Int :=
  (let l_0 := zcm c.Abilities 0 ([(c.Abilities.length : Int)]); (let l_2 := zcp c.Auras 0 (l_0 ++ [(c.Auras.length : Int)]); (let l_3 := zck c.Foes 0 (l_2 ++ [(c.Foes.length : Int)]); (let l_6 := zcr c.Map.Wall 0 (l_3 ++ [c.Map.W, c.Map.H, (c.Map.Wall.length : Int)]); (l_6 ++ [c.Door.X, c.Door.Y, c.Lair.X, c.Lair.Y])))))
theorem zoz (c : zA) (hF : Fits c) : Ok Tryz.prog 12 [zak c] [] (.ref 0 1 0 (zfZ c).length) [.row 3 1 (encI (zfZ c))] [] := by
 refine Ok.len fun hlen => ?_
 have hl_c_Abilities := hlL (n := c.Abilities.length) hlen
 have hl_c_Auras := hlL (n := c.Auras.length) hlen
 have hl_c_Foes := hlL (n := c.Foes.length) hlen
 have hl_c_Map_Wall := hlL (n := c.Map.Wall.length) hlen
 have hf1 := hF.ab
 have hf2 := hF.au
 have hf3 := hF.fo
 have hf4 := hF.wall
 refine zx Tryz.func12 rfl ?_
 refine zg rfl (zz (o := .box [_, _, _, _, _, _, _, _, _, _]) (nx' := 1) rfl rfl rfl trivial (zz (nx' := 2) rfl rfl rfl trivial (zd (zg rfl (zh rfl rfl aP0 (za rfl (za rfl (zz (o := .row _ _ [_]) (nx' := 3) rfl rfl rfl aP0 (za rfl (zd (zm (zg rfl ?_))))))))))))
 refine za rfl (zd ?_)
 refine zX (fun l_0 : List Int => (⟨[(1, .ptr 0 0), (3, .ref 1 1 0 l_0.length)], [(0, .box [.pv (.slc c.Abilities.length false (c.Abilities.flatMap zj)), .pv (.slc c.Auras.length false (c.Auras.flatMap zp)), .pv (.slc c.Foes.length false (c.Foes.flatMap zC)), I c.Map.W, I c.Map.H, .pv (.slc c.Map.Wall.length false (encB c.Map.Wall)), I c.Door.X, I c.Door.Y, I c.Lair.X, I c.Lair.Y]), (1, .row 3 1 (encI l_0))], 2, [], 251, 0⟩ : St)) (fun l_0 : List Int => zcm c.Abilities 0 ([(c.Abilities.length : Int)]) = l_0 ∧ (l_0.length ≤ 3008001)) ?_ ?_
 ·refine zw ?_
  refine z1 (fun w_ : Nat × (List Int) => match w_ with | (k0, l0) => (⟨[(1, .ptr 0 0), (3, .ref 1 1 0 l0.length), (4, I k0)], [(0, .box [.pv (.slc c.Abilities.length false (c.Abilities.flatMap zj)), .pv (.slc c.Auras.length false (c.Auras.flatMap zp)), .pv (.slc c.Foes.length false (c.Foes.flatMap zC)), I c.Map.W, I c.Map.H, .pv (.slc c.Map.Wall.length false (encB c.Map.Wall)), I c.Door.X, I c.Door.Y, I c.Lair.X, I c.Lair.Y]), (1, .row 3 1 (encI l0))], 2, [], 251, 0⟩ : St)) (fun w_ : Nat × (List Int) => match w_ with | (k0, l0) => zcm (c.Abilities.drop k0) k0 l0 = zcm c.Abilities 0 ([(c.Abilities.length : Int)]) ∧ k0 ≤ c.Abilities.length ∧ l0.length ≤ 1 + 3008 * k0) (fun w_ : Nat × (List Int) => match w_ with | (k0, l0) => c.Abilities.length - k0) (0, [(c.Abilities.length : Int)]) (⟨rfl, Nat.zero_le _, by first | omega | (simp; done) | (simp only [List.length_append, List.length_cons, List.length_nil] at *; omega) | (simp; omega)⟩) ?_ (fun w_ hh_ => ?_)
  ·exact (zD.ren [(1, 2), (2, 1)] aP1 aP1 rfl ⟨⟨rfl, rfl⟩, ⟨congrArg (fun n => some (AV.ref 2 1 0 n)) aP10, rfl⟩, ⟨rfl, rfl⟩, trivial⟩ ⟨⟨rfl, rfl, rfl⟩, ⟨rfl, rfl, rfl⟩, trivial⟩ aP0)
  obtain ⟨k0, l0⟩ := w_
  obtain ⟨hI0, hb0, hv0⟩ := hh_
  refine zm (zg rfl (za rfl (zh rfl rfl aP0 (za rfl (za rfl (zi rfl rfl rfl rfl rfl trivial (zd ?_)))))))
  refine zr rfl (fun h3 => ?_) (fun h3 => ?_)
  ·have g3 : (k0 : Int) < c.Abilities.length := of_decide_eq_true h3
   have hk0 : k0 < c.Abilities.length := by omega
   obtain ⟨x0, hx0⟩ : ∃ z_, c.Abilities[k0]? = some z_ := ⟨_, List.getElem?_eq_getElem hk0⟩
   have hE0 := hF.eff x0 (List.mem_of_getElem? hx0)
   refine zt (zu (zm (zw (zg rfl (zh rfl rfl aP0 (za rfl (za rfl (zJ (k := k0) rfl rfl rfl rfl hk0 (z3 (s := 8) (enc := zj) (fun _ => rfl) aP0 hk0) rfl (zF rfl rfl rfl (zai (s := 8) (enc := zj) (fun _ => rfl) hk0) (zZ (s := 8) (enc := zj) (fun _ => rfl) hx0) rfl (zz (o := .box [_, _, _, _, _, _, _, _]) (nx' := 3) rfl rfl rfl trivial ?_))))))))))
   refine zH (H' := [(2, .box [_, _, _, _, _, _, _, _]), (0, _), (1, _)]) rfl rfl rfl rfl rfl rfl (.inl rfl) rfl ?_
   refine zd (zm ?_)
   refine zav rfl aP1 rfl ?_
   refine za rfl (zh rfl rfl aP0 (za rfl (zh rfl rfl aP0 (za rfl (zh rfl rfl aP0 (za rfl (zh rfl rfl aP0 (za rfl (zh rfl rfl aP0 (za rfl (zh rfl rfl aP0 (za rfl (zh rfl rfl aP0 (za rfl (zB rfl rfl rfl rfl (zkz x0.Sight) rfl rfl rfl (zh rfl rfl aP0 (za rfl ?_)))))))))))))))))
   refine za rfl (zz (o := .row _ _ [_, _, _, _, _, _, _, _]) (nx' := 4) rfl rfl rfl aP0 ?_)
   refine zL (m := 8) (new := [_, _, _, _, _, _, _, _]) (cs' := encI (l0 ++ [x0.Id, x0.Cast, x0.Cool, x0.Charges, x0.Range, x0.Cost, (zc7 x0.Sight), (x0.Effects.length : Int)])) (n' := (l0 ++ [x0.Id, x0.Cast, x0.Cool, x0.Charges, x0.Range, x0.Cost, (zc7 x0.Sight), (x0.Effects.length : Int)]).length) (H' := [(3, .row _ _ _), (2, .box [_, _, _, _, _, _, _, _]), (0, .box [_, _, _, _, _, _, _, _, _, _]), (1, .row _ _ _)]) rfl rfl rfl (rfl) rfl rfl rfl rfl rfl rfl (zab l0) (rfl) aP3 (zaH l0 ([x0.Id, x0.Cast, x0.Cool, x0.Charges, x0.Range, x0.Cost, (zc7 x0.Sight), (x0.Effects.length : Int)])) (zax l0 ([x0.Id, x0.Cast, x0.Cool, x0.Charges, x0.Range, x0.Cost, (zc7 x0.Sight), (x0.Effects.length : Int)])) (.inr aP1) rfl rfl (.keep rfl (.keep rfl (.keep rfl (.keep rfl .nil)))) (.keep rfl (.keep rfl (.keep rfl (.keep rfl (.keep rfl (.keep rfl (.keep rfl (.keep rfl (.keep rfl (.keep rfl (.keep rfl (.keep rfl (.keep rfl (.keep rfl (.keep rfl (.keep rfl (.keep rfl (.keep rfl (.keep rfl (.lose (v' := .undef) rfl (.keep rfl (.keep rfl (.keep rfl (.keep rfl (.keep rfl (.keep rfl (.keep rfl (.keep rfl (.keep rfl (.keep rfl (.keep rfl (.keep rfl (.lose (v' := .undef) rfl (.keep rfl .nil)))))))))))))))))))))))))))))))))) ?_
   refine za rfl (zd (zg rfl (za rfl (zd ?_))))
   refine zX (fun l_1 : List Int => (⟨[(1, .ptr 0 0), (3, .ref 1 1 0 l_1.length), (4, I k0)], [(0, .box [.pv (.slc c.Abilities.length false (c.Abilities.flatMap zj)), .pv (.slc c.Auras.length false (c.Auras.flatMap zp)), .pv (.slc c.Foes.length false (c.Foes.flatMap zC)), I c.Map.W, I c.Map.H, .pv (.slc c.Map.Wall.length false (encB c.Map.Wall)), I c.Door.X, I c.Door.Y, I c.Lair.X, I c.Lair.Y]), (1, .row 3 1 (encI l_1))], 2, [], 251, 0⟩ : St)) (fun l_1 : List Int => zcs x0.Effects 0 (l0 ++ [x0.Id, x0.Cast, x0.Cool, x0.Charges, x0.Range, x0.Cost, (zc7 x0.Sight), (x0.Effects.length : Int)]) = l_1 ∧ (l_1.length ≤ 3009 + 3008 * k0)) ?_ ?_
   ·refine zw ?_
    refine z1 (fun w_ : Nat × (List Int) => match w_ with | (k1, l1) => (⟨[(1, .ptr 0 0), (3, .ref 1 1 0 l1.length), (4, I k0), (5, .ptr 2 0), (6, I k1)], [(0, .box [.pv (.slc c.Abilities.length false (c.Abilities.flatMap zj)), .pv (.slc c.Auras.length false (c.Auras.flatMap zp)), .pv (.slc c.Foes.length false (c.Foes.flatMap zC)), I c.Map.W, I c.Map.H, .pv (.slc c.Map.Wall.length false (encB c.Map.Wall)), I c.Door.X, I c.Door.Y, I c.Lair.X, I c.Lair.Y]), (1, .row 3 1 (encI l1)), (2, .box [I x0.Id, I x0.Cast, I x0.Cool, I x0.Charges, I x0.Range, I x0.Cost, B x0.Sight, .pv (.slc x0.Effects.length false (x0.Effects.flatMap zN))])], 3, [], 251, 0⟩ : St)) (fun w_ : Nat × (List Int) => match w_ with | (k1, l1) => zcs (x0.Effects.drop k1) k1 l1 = zcs x0.Effects 0 (l0 ++ [x0.Id, x0.Cast, x0.Cool, x0.Charges, x0.Range, x0.Cost, (zc7 x0.Sight), (x0.Effects.length : Int)]) ∧ k1 ≤ x0.Effects.length ∧ l1.length ≤ 9 + 3008 * k0 + 3 * k1) (fun w_ : Nat × (List Int) => match w_ with | (k1, l1) => x0.Effects.length - k1) (0, (l0 ++ [x0.Id, x0.Cast, x0.Cool, x0.Charges, x0.Range, x0.Cost, (zc7 x0.Sight), (x0.Effects.length : Int)])) (⟨rfl, Nat.zero_le _, by first | omega | (simp; done) | (simp only [List.length_append, List.length_cons, List.length_nil] at *; omega) | (simp; omega)⟩) ?_ (fun w_ hh_ => ?_)
    ·exact (zD.ren [] aP1 aP1 rfl ⟨⟨rfl, rfl⟩, ⟨rfl, rfl⟩, ⟨rfl, rfl⟩, ⟨rfl, rfl⟩, ⟨rfl, rfl⟩, trivial⟩ ⟨⟨rfl, rfl, rfl⟩, ⟨rfl, rfl, rfl⟩, ⟨rfl, rfl, rfl⟩, trivial⟩ aP0)
    obtain ⟨k1, l1⟩ := w_
    obtain ⟨hI1, hb1, hv1⟩ := hh_
    refine zm (zg rfl (za rfl (zh rfl rfl aP0 (za rfl (za rfl (zi rfl rfl rfl rfl rfl trivial (zd ?_)))))))
    refine zr rfl (fun h6 => ?_) (fun h6 => ?_)
    ·have g6 : (k1 : Int) < x0.Effects.length := of_decide_eq_true h6
     have hk1 : k1 < x0.Effects.length := by omega
     obtain ⟨x1, hx1⟩ : ∃ z_, x0.Effects[k1]? = some z_ := ⟨_, List.getElem?_eq_getElem hk1⟩
     refine zt (zu (zm (zw ?_)))
     refine zav rfl aP1 rfl ?_
     refine za rfl (zh rfl rfl aP0 (za rfl (za rfl (zJ (k := k1) rfl rfl rfl rfl hk1 (z3 (s := 3) (enc := zN) (fun _ => rfl) aP0 hk1) rfl (zh rfl rfl aP0 (zO rfl rfl rfl (zb7 (s := 3) (enc := zN) (fun _ => rfl) hx1 (o := 0) rfl aP0) rfl (zh rfl rfl aP0 (za rfl (za rfl (zJ (k := k1) rfl rfl rfl rfl hk1 (z3 (s := 3) (enc := zN) (fun _ => rfl) aP0 hk1) rfl (zh rfl rfl aP0 (zO rfl rfl rfl (zb7 (s := 3) (enc := zN) (fun _ => rfl) hx1 (o := 1) rfl aP0) rfl (zh rfl rfl aP0 (za rfl (za rfl (zJ (k := k1) rfl rfl rfl rfl hk1 (z3 (s := 3) (enc := zN) (fun _ => rfl) aP0 hk1) rfl (zh rfl rfl aP0 ?_)))))))))))))))))
     refine zO rfl rfl rfl (zb7 (s := 3) (enc := zN) (fun _ => rfl) hx1 (o := 2) rfl aP0) rfl (zz (o := .row _ _ [_, _, _]) (nx' := 4) rfl rfl rfl aP0 ?_)
     refine zL (m := 3) (new := [_, _, _]) (cs' := encI (l1 ++ [x1.Kind, x1.Amount, x1.Aura])) (n' := (l1 ++ [x1.Kind, x1.Amount, x1.Aura]).length) (H' := [(3, .row _ _ _), (0, .box [_, _, _, _, _, _, _, _, _, _]), (1, .row _ _ _), (2, .box [_, _, _, _, _, _, _, _])]) rfl rfl rfl (rfl) rfl rfl rfl rfl rfl rfl (zab l1) (rfl) aP3 (zaH l1 ([x1.Kind, x1.Amount, x1.Aura])) (zax l1 ([x1.Kind, x1.Amount, x1.Aura])) (.inr aP1) rfl rfl (.keep rfl (.keep rfl (.keep rfl (.keep rfl .nil)))) (.keep rfl (.keep rfl (.keep rfl (.keep rfl (.keep rfl (.keep rfl (.keep rfl (.keep rfl (.keep rfl (.keep rfl (.keep rfl (.keep rfl (.keep rfl (.keep rfl (.keep rfl (.keep rfl (.keep rfl (.keep rfl (.keep rfl (.lose (v' := .undef) rfl (.keep rfl (.keep rfl (.keep rfl (.keep rfl (.keep rfl (.keep rfl (.lose (v' := .undef) rfl (.keep rfl (.keep rfl (.keep rfl .nil)))))))))))))))))))))))))))))) ?_
     refine za rfl (zq (zal (zu (zy rfl (za rfl (zi rfl rfl rfl rfl rfl trivial (za rfl (zq ?_))))))))
     have e8 : zcs (x0.Effects.drop k1) k1 l1 = zcs (x0.Effects.drop (k1 + 1)) (k1 + 1) (l1 ++ [x1.Kind, x1.Amount, x1.Aura]) := by
      rewrite [zT hx1]
      rewrite [zcs]
      try dsimp only
      all_goals rfl
     exact zQ (k1 + 1, (l1 ++ [x1.Kind, x1.Amount, x1.Aura])) ⟨e8.symm.trans hI1, hk1, by first | omega | assumption | (simp only [List.length_append, List.length_cons, List.length_nil, List.length_set]; omega) | (simp; omega) | grind⟩ (by show x0.Effects.length - (k1 + 1) < x0.Effects.length - k1; omega) (zD.ren [] aP1 aP1 rfl ⟨⟨rfl, rfl⟩, ⟨rfl, rfl⟩, ⟨rfl, rfl⟩, ⟨rfl, rfl⟩, ⟨congrArg (fun n => some (I n)) (zbS (k := k1) aP2), rfl⟩, trivial⟩ ⟨⟨rfl, rfl, rfl⟩, ⟨rfl, rfl, rfl⟩, ⟨rfl, rfl, rfl⟩, trivial⟩ aP0)
    ·have g6 : ¬ ((k1 : Int) < x0.Effects.length) := of_decide_eq_false h6
     have hk1 : k1 = x0.Effects.length := by omega
     refine zS (z5 (zag (zaf rfl ?_)))
     have e9 : zcs x0.Effects 0 (l0 ++ [x0.Id, x0.Cast, x0.Cool, x0.Charges, x0.Range, x0.Cost, (zc7 x0.Sight), (x0.Effects.length : Int)]) = l1 := by
      rewrite [← hI1, hk1, List.drop_length]
      rewrite [zcs]
      try dsimp only
      all_goals rfl
     exact z0 l1 ⟨e9, by first | assumption | omega | (simp; omega) | simp_all | grind⟩ (zD.ren [] aP1 aP1 rfl ⟨⟨rfl, rfl⟩, ⟨rfl, rfl⟩, ⟨rfl, rfl⟩, trivial⟩ ⟨⟨rfl, rfl, rfl⟩, ⟨rfl, rfl, rfl⟩, trivial⟩ aP0)
   ·rintro l_1 ⟨(hJ4 : zcs x0.Effects 0 (l0 ++ [x0.Id, x0.Cast, x0.Cool, x0.Charges, x0.Range, x0.Cost, (zc7 x0.Sight), (x0.Effects.length : Int)]) = l_1), hE1⟩
    show blkK _ _ .normal (⟨[(1, .ptr 0 0), (3, .ref 1 1 0 l_1.length), (4, I k0)], [(0, .box [.pv (.slc c.Abilities.length false (c.Abilities.flatMap zj)), .pv (.slc c.Auras.length false (c.Auras.flatMap zp)), .pv (.slc c.Foes.length false (c.Foes.flatMap zC)), I c.Map.W, I c.Map.H, .pv (.slc c.Map.Wall.length false (encB c.Map.Wall)), I c.Door.X, I c.Door.Y, I c.Lair.X, I c.Lair.Y]), (1, .row 3 1 (encI l_1))], 2, [], 251, 0⟩ : St)
    refine zal (zu (zy rfl (za rfl (zi rfl rfl rfl rfl rfl trivial (za rfl (zq ?_))))))
    have e12 : zcm (c.Abilities.drop k0) k0 l0 = zcm (c.Abilities.drop (k0 + 1)) (k0 + 1) l_1 := by
     rewrite [zT hx0]
     rewrite [zcm]
     try dsimp only
     rewrite [hJ4]
     try dsimp only
     all_goals rfl
    exact zQ (k0 + 1, l_1) ⟨e12.symm.trans hI0, hk0, by first | omega | assumption | (simp only [List.length_append, List.length_cons, List.length_nil, List.length_set]; omega) | (simp; omega) | grind⟩ (by show c.Abilities.length - (k0 + 1) < c.Abilities.length - k0; omega) (zD.ren [] aP1 aP1 rfl ⟨⟨rfl, rfl⟩, ⟨rfl, rfl⟩, ⟨congrArg (fun n => some (I n)) (zbS (k := k0) aP2), rfl⟩, trivial⟩ ⟨⟨rfl, rfl, rfl⟩, ⟨rfl, rfl, rfl⟩, trivial⟩ aP0)
  ·have g3 : ¬ ((k0 : Int) < c.Abilities.length) := of_decide_eq_false h3
   have hk0 : k0 = c.Abilities.length := by omega
   refine zS (z5 (zag (zaf rfl ?_)))
   have e13 : zcm c.Abilities 0 ([(c.Abilities.length : Int)]) = l0 := by
    rewrite [← hI0, hk0, List.drop_length]
    rewrite [zcm]
    try dsimp only
    all_goals rfl
   exact z0 l0 ⟨e13, by first | assumption | omega | (simp; omega) | simp_all | grind⟩ (zD.ren [] aP1 aP1 rfl ⟨⟨rfl, rfl⟩, ⟨rfl, rfl⟩, trivial⟩ ⟨⟨rfl, rfl, rfl⟩, ⟨rfl, rfl, rfl⟩, trivial⟩ aP0)
 ·rintro l_0 ⟨(hJ1 : zcm c.Abilities 0 ([(c.Abilities.length : Int)]) = l_0), hE0⟩
  refine zu (zg rfl (za rfl (zh rfl rfl aP0 (za rfl (za rfl (zz (o := .row _ _ [_]) (nx' := 3) rfl rfl rfl aP0 ?_))))))
  refine zL (m := 1) (new := [_]) (cs' := encI (l_0 ++ [(c.Auras.length : Int)])) (n' := (l_0 ++ [(c.Auras.length : Int)]).length) (H' := [(2, .row _ _ _), (0, .box [_, _, _, _, _, _, _, _, _, _]), (1, .row _ _ _)]) rfl rfl rfl (rfl) rfl rfl rfl rfl rfl rfl (zab l_0) (rfl) aP3 (zaV l_0 _) (((zbJ l_0 (c.Auras.length : Int))).symm) (.inl rfl) rfl rfl (.keep rfl (.keep rfl (.keep rfl .nil))) (.keep rfl (.keep rfl (.keep rfl (.keep rfl (.lose (v' := .undef) rfl (.keep rfl (.lose (v' := .undef) rfl .nil))))))) ?_
  refine za rfl (zd (zm (zg rfl (za rfl (zd ?_)))))
  refine zX (fun l_2 : List Int => (⟨[(1, .ptr 0 0), (3, .ref 1 1 0 l_2.length)], [(0, .box [.pv (.slc c.Abilities.length false (c.Abilities.flatMap zj)), .pv (.slc c.Auras.length false (c.Auras.flatMap zp)), .pv (.slc c.Foes.length false (c.Foes.flatMap zC)), I c.Map.W, I c.Map.H, .pv (.slc c.Map.Wall.length false (encB c.Map.Wall)), I c.Door.X, I c.Door.Y, I c.Lair.X, I c.Lair.Y]), (1, .row 3 1 (encI l_2))], 2, [], 251, 0⟩ : St)) (fun l_2 : List Int => zcp c.Auras 0 (l_0 ++ [(c.Auras.length : Int)]) = l_2 ∧ (l_2.length ≤ 3708002)) ?_ ?_
  ·refine zw ?_
   refine z1 (fun w_ : Nat × (List Int) => match w_ with | (k2, l2) => (⟨[(1, .ptr 0 0), (3, .ref 1 1 0 l2.length), (7, I k2)], [(0, .box [.pv (.slc c.Abilities.length false (c.Abilities.flatMap zj)), .pv (.slc c.Auras.length false (c.Auras.flatMap zp)), .pv (.slc c.Foes.length false (c.Foes.flatMap zC)), I c.Map.W, I c.Map.H, .pv (.slc c.Map.Wall.length false (encB c.Map.Wall)), I c.Door.X, I c.Door.Y, I c.Lair.X, I c.Lair.Y]), (1, .row 3 1 (encI l2))], 2, [], 251, 0⟩ : St)) (fun w_ : Nat × (List Int) => match w_ with | (k2, l2) => zcp (c.Auras.drop k2) k2 l2 = zcp c.Auras 0 (l_0 ++ [(c.Auras.length : Int)]) ∧ k2 ≤ c.Auras.length ∧ l2.length ≤ 3008002 + 7 * k2) (fun w_ : Nat × (List Int) => match w_ with | (k2, l2) => c.Auras.length - k2) (0, (l_0 ++ [(c.Auras.length : Int)])) (⟨rfl, Nat.zero_le _, by first | omega | (simp; done) | (simp only [List.length_append, List.length_cons, List.length_nil] at *; omega) | (simp; omega)⟩) ?_ (fun w_ hh_ => ?_)
   ·exact (zD.ren [] aP1 aP1 rfl ⟨⟨rfl, rfl⟩, ⟨rfl, rfl⟩, ⟨rfl, rfl⟩, trivial⟩ ⟨⟨rfl, rfl, rfl⟩, ⟨rfl, rfl, rfl⟩, trivial⟩ aP0)
   obtain ⟨k2, l2⟩ := w_
   obtain ⟨hI2, hb2, hv2⟩ := hh_
   refine zm (zg rfl (za rfl (zh rfl rfl aP0 (za rfl (za rfl (zi rfl rfl rfl rfl rfl trivial (zd ?_)))))))
   refine zr rfl (fun h16 => ?_) (fun h16 => ?_)
   ·have g16 : (k2 : Int) < c.Auras.length := of_decide_eq_true h16
    have hk2 : k2 < c.Auras.length := by omega
    obtain ⟨x2, hx2⟩ : ∃ z_, c.Auras[k2]? = some z_ := ⟨_, List.getElem?_eq_getElem hk2⟩
    refine zt (zu (zm (zw (zg rfl (zh rfl rfl aP0 (za rfl (za rfl (zJ (k := k2) rfl rfl rfl rfl hk2 (z3 (s := 7) (enc := zp) (fun _ => rfl) aP0 hk2) rfl (zF rfl rfl rfl (zai (s := 7) (enc := zp) (fun _ => rfl) hk2) (zZ (s := 7) (enc := zp) (fun _ => rfl) hx2) rfl (zz (o := .box [_, _, _, _, _, _, _]) (nx' := 3) rfl rfl rfl trivial ?_))))))))))
    refine zH (H' := [(2, .box [_, _, _, _, _, _, _]), (0, _), (1, _)]) rfl rfl rfl rfl rfl rfl (.inl rfl) rfl ?_
    refine zd ?_
    refine zav rfl aP1 rfl ?_
    refine za rfl (zh rfl rfl aP0 (za rfl (zh rfl rfl aP0 (za rfl (zh rfl rfl aP0 (za rfl (zh rfl rfl aP0 (za rfl (zh rfl rfl aP0 (za rfl (zh rfl rfl aP0 (za rfl (zh rfl rfl aP0 (za rfl (zB rfl rfl rfl rfl (zkz x2.Harm) rfl rfl rfl (zz (o := .row _ _ [_, _, _, _, _, _, _]) (nx' := 4) rfl rfl rfl aP0 ?_))))))))))))))))
    refine zL (m := 7) (new := [_, _, _, _, _, _, _]) (cs' := encI (l2 ++ [x2.Id, x2.Kind, x2.Ticks, x2.Every, x2.Stacks, x2.Amount, (zc7 x2.Harm)])) (n' := (l2 ++ [x2.Id, x2.Kind, x2.Ticks, x2.Every, x2.Stacks, x2.Amount, (zc7 x2.Harm)]).length) (H' := [(3, .row _ _ _), (2, .box [_, _, _, _, _, _, _]), (0, .box [_, _, _, _, _, _, _, _, _, _]), (1, .row _ _ _)]) rfl rfl rfl (rfl) rfl rfl rfl rfl rfl rfl (zab l2) (rfl) aP3 (zaH l2 ([x2.Id, x2.Kind, x2.Ticks, x2.Every, x2.Stacks, x2.Amount, (zc7 x2.Harm)])) (zax l2 ([x2.Id, x2.Kind, x2.Ticks, x2.Every, x2.Stacks, x2.Amount, (zc7 x2.Harm)])) (.inr aP1) rfl rfl (.keep rfl (.keep rfl (.keep rfl (.keep rfl .nil)))) (.keep rfl (.keep rfl (.keep rfl (.keep rfl (.keep rfl (.keep rfl (.keep rfl (.keep rfl (.keep rfl (.keep rfl (.keep rfl (.keep rfl (.keep rfl (.keep rfl (.keep rfl (.keep rfl (.lose (v' := .undef) rfl (.keep rfl (.keep rfl (.keep rfl (.keep rfl (.keep rfl (.keep rfl (.keep rfl (.keep rfl (.keep rfl (.keep rfl (.keep rfl (.keep rfl (.lose (v' := .undef) rfl (.keep rfl .nil))))))))))))))))))))))))))))))) ?_
    refine za rfl (zq (zal (zu (zy rfl (za rfl (zi rfl rfl rfl rfl rfl trivial (za rfl (zq ?_))))))))
    have e18 : zcp (c.Auras.drop k2) k2 l2 = zcp (c.Auras.drop (k2 + 1)) (k2 + 1) (l2 ++ [x2.Id, x2.Kind, x2.Ticks, x2.Every, x2.Stacks, x2.Amount, (zc7 x2.Harm)]) := by
     rewrite [zT hx2]
     rewrite [zcp]
     try dsimp only
     all_goals rfl
    exact zQ (k2 + 1, (l2 ++ [x2.Id, x2.Kind, x2.Ticks, x2.Every, x2.Stacks, x2.Amount, (zc7 x2.Harm)])) ⟨e18.symm.trans hI2, hk2, by first | omega | assumption | (simp only [List.length_append, List.length_cons, List.length_nil, List.length_set]; omega) | (simp; omega) | grind⟩ (by show c.Auras.length - (k2 + 1) < c.Auras.length - k2; omega) (zD.ren [] aP1 aP1 rfl ⟨⟨rfl, rfl⟩, ⟨rfl, rfl⟩, ⟨congrArg (fun n => some (I n)) (zbS (k := k2) aP2), rfl⟩, trivial⟩ ⟨⟨rfl, rfl, rfl⟩, ⟨rfl, rfl, rfl⟩, trivial⟩ aP0)
   ·have g16 : ¬ ((k2 : Int) < c.Auras.length) := of_decide_eq_false h16
    have hk2 : k2 = c.Auras.length := by omega
    refine zS (z5 (zag (zaf rfl ?_)))
    have e19 : zcp c.Auras 0 (l_0 ++ [(c.Auras.length : Int)]) = l2 := by
     rewrite [← hI2, hk2, List.drop_length]
     rewrite [zcp]
     try dsimp only
     all_goals rfl
    exact z0 l2 ⟨e19, by first | assumption | omega | (simp; omega) | simp_all | grind⟩ (zD.ren [] aP1 aP1 rfl ⟨⟨rfl, rfl⟩, ⟨rfl, rfl⟩, trivial⟩ ⟨⟨rfl, rfl, rfl⟩, ⟨rfl, rfl, rfl⟩, trivial⟩ aP0)
  ·rintro l_2 ⟨(hJ14 : zcp c.Auras 0 (l_0 ++ [(c.Auras.length : Int)]) = l_2), hE2⟩
   refine zu (zg rfl (za rfl (zh rfl rfl aP0 (za rfl (za rfl (zz (o := .row _ _ [_]) (nx' := 3) rfl rfl rfl aP0 ?_))))))
   refine zL (m := 1) (new := [_]) (cs' := encI (l_2 ++ [(c.Foes.length : Int)])) (n' := (l_2 ++ [(c.Foes.length : Int)]).length) (H' := [(2, .row _ _ _), (0, .box [_, _, _, _, _, _, _, _, _, _]), (1, .row _ _ _)]) rfl rfl rfl (rfl) rfl rfl rfl rfl rfl rfl (zab l_2) (rfl) aP3 (zaV l_2 _) (((zbJ l_2 (c.Foes.length : Int))).symm) (.inl rfl) rfl rfl (.keep rfl (.keep rfl (.keep rfl .nil))) (.keep rfl (.keep rfl (.keep rfl (.keep rfl (.lose (v' := .undef) rfl (.keep rfl (.lose (v' := .undef) rfl .nil))))))) ?_
   refine za rfl (zd (zm (zg rfl (za rfl (zd ?_)))))
   refine zX (fun l_3 : List Int => (⟨[(1, .ptr 0 0), (3, .ref 1 1 0 l_3.length)], [(0, .box [.pv (.slc c.Abilities.length false (c.Abilities.flatMap zj)), .pv (.slc c.Auras.length false (c.Auras.flatMap zp)), .pv (.slc c.Foes.length false (c.Foes.flatMap zC)), I c.Map.W, I c.Map.H, .pv (.slc c.Map.Wall.length false (encB c.Map.Wall)), I c.Door.X, I c.Door.Y, I c.Lair.X, I c.Lair.Y]), (1, .row 3 1 (encI l_3))], 2, [], 251, 0⟩ : St)) (fun l_3 : List Int => zck c.Foes 0 (l_2 ++ [(c.Foes.length : Int)]) = l_3 ∧ (l_3.length ≤ 10716003)) ?_ ?_
   ·refine zw ?_
    refine z1 (fun w_ : Nat × (List Int) => match w_ with | (k3, l3) => (⟨[(1, .ptr 0 0), (3, .ref 1 1 0 l3.length), (9, I k3)], [(0, .box [.pv (.slc c.Abilities.length false (c.Abilities.flatMap zj)), .pv (.slc c.Auras.length false (c.Auras.flatMap zp)), .pv (.slc c.Foes.length false (c.Foes.flatMap zC)), I c.Map.W, I c.Map.H, .pv (.slc c.Map.Wall.length false (encB c.Map.Wall)), I c.Door.X, I c.Door.Y, I c.Lair.X, I c.Lair.Y]), (1, .row 3 1 (encI l3))], 2, [], 251, 0⟩ : St)) (fun w_ : Nat × (List Int) => match w_ with | (k3, l3) => zck (c.Foes.drop k3) k3 l3 = zck c.Foes 0 (l_2 ++ [(c.Foes.length : Int)]) ∧ k3 ≤ c.Foes.length ∧ l3.length ≤ 3708003 + 7008 * k3) (fun w_ : Nat × (List Int) => match w_ with | (k3, l3) => c.Foes.length - k3) (0, (l_2 ++ [(c.Foes.length : Int)])) (⟨rfl, Nat.zero_le _, by first | omega | (simp; done) | (simp only [List.length_append, List.length_cons, List.length_nil] at *; omega) | (simp; omega)⟩) ?_ (fun w_ hh_ => ?_)
    ·exact (zD.ren [] aP1 aP1 rfl ⟨⟨rfl, rfl⟩, ⟨rfl, rfl⟩, ⟨rfl, rfl⟩, trivial⟩ ⟨⟨rfl, rfl, rfl⟩, ⟨rfl, rfl, rfl⟩, trivial⟩ aP0)
    obtain ⟨k3, l3⟩ := w_
    obtain ⟨hI3, hb3, hv3⟩ := hh_
    refine zm (zg rfl (za rfl (zh rfl rfl aP0 (za rfl (za rfl (zi rfl rfl rfl rfl rfl trivial (zd ?_)))))))
    refine zr rfl (fun h22 => ?_) (fun h22 => ?_)
    ·have g22 : (k3 : Int) < c.Foes.length := of_decide_eq_true h22
     have hk3 : k3 < c.Foes.length := by omega
     obtain ⟨x3, hx3⟩ : ∃ z_, c.Foes[k3]? = some z_ := ⟨_, List.getElem?_eq_getElem hk3⟩
     have hE3 := hF.sc x3 (List.mem_of_getElem? hx3)
     refine zt (zu (zm (zw (zg rfl (zh rfl rfl aP0 (za rfl (za rfl (zJ (k := k3) rfl rfl rfl rfl hk3 (z3 (s := 8) (enc := zC) (fun _ => rfl) aP0 hk3) rfl (zF rfl rfl rfl (zai (s := 8) (enc := zC) (fun _ => rfl) hk3) (zZ (s := 8) (enc := zC) (fun _ => rfl) hx3) rfl (zz (o := .box [_, _, _, _, _, _, _, _]) (nx' := 3) rfl rfl rfl trivial ?_))))))))))
     refine zH (H' := [(2, .box [_, _, _, _, _, _, _, _]), (0, _), (1, _)]) rfl rfl rfl rfl rfl rfl (.inl rfl) rfl ?_
     refine zd (zg rfl (za rfl (zh rfl rfl aP0 (za rfl (zh rfl rfl aP0 (za rfl (zh rfl rfl aP0 (za rfl (zh rfl rfl aP0 (za rfl (zh rfl rfl aP0 (za rfl (zh rfl rfl aP0 (za rfl (zh rfl rfl aP0 ?_)))))))))))))))
     refine za rfl (za rfl (zz (o := .row _ _ [_, _, _, _, _, _, _]) (nx' := 4) rfl rfl rfl aP0 ?_))
     refine zL (m := 7) (new := [_, _, _, _, _, _, _]) (cs' := encI (l3 ++ [x3.Id, x3.Health, x3.Hit, x3.Every, x3.Reach, x3.Drops, (x3.Script.length : Int)])) (n' := (l3 ++ [x3.Id, x3.Health, x3.Hit, x3.Every, x3.Reach, x3.Drops, (x3.Script.length : Int)]).length) (H' := [(3, .row _ _ _), (2, .box [_, _, _, _, _, _, _, _]), (0, .box [_, _, _, _, _, _, _, _, _, _]), (1, .row _ _ _)]) rfl rfl rfl (rfl) rfl rfl rfl rfl rfl rfl (zab l3) (rfl) aP3 (zaH l3 ([x3.Id, x3.Health, x3.Hit, x3.Every, x3.Reach, x3.Drops, (x3.Script.length : Int)])) (zax l3 ([x3.Id, x3.Health, x3.Hit, x3.Every, x3.Reach, x3.Drops, (x3.Script.length : Int)])) (.inl rfl) rfl rfl (.keep rfl (.keep rfl (.keep rfl (.keep rfl .nil)))) (.keep rfl (.keep rfl (.keep rfl (.keep rfl (.keep rfl (.keep rfl (.keep rfl (.keep rfl (.keep rfl (.keep rfl (.keep rfl (.keep rfl (.keep rfl (.keep rfl (.keep rfl (.keep rfl (.lose (v' := .undef) rfl (.keep rfl (.keep rfl (.keep rfl (.keep rfl (.keep rfl (.keep rfl (.keep rfl (.keep rfl (.keep rfl (.keep rfl (.keep rfl (.keep rfl (.lose (v' := .undef) rfl (.keep rfl .nil))))))))))))))))))))))))))))))) ?_
     refine za rfl (zd (zm (zg rfl (za rfl (zd ?_)))))
     refine zX (fun l_4 : List Int => (⟨[(1, .ptr 0 0), (3, .ref 1 1 0 l_4.length), (9, I k3), (10, .ptr 2 0)], [(0, .box [.pv (.slc c.Abilities.length false (c.Abilities.flatMap zj)), .pv (.slc c.Auras.length false (c.Auras.flatMap zp)), .pv (.slc c.Foes.length false (c.Foes.flatMap zC)), I c.Map.W, I c.Map.H, .pv (.slc c.Map.Wall.length false (encB c.Map.Wall)), I c.Door.X, I c.Door.Y, I c.Lair.X, I c.Lair.Y]), (1, .row 3 1 (encI l_4)), (2, .box [I x3.Id, I x3.Health, I x3.Hit, I x3.Every, I x3.Reach, .pv (.slc x3.Script.length false (x3.Script.flatMap zU)), .pv (.slc x3.Hoard.length false (x3.Hoard.flatMap zM)), I x3.Drops])], 3, [], 251, 0⟩ : St)) (fun l_4 : List Int => zci x3.Script 0 (l3 ++ [x3.Id, x3.Health, x3.Hit, x3.Every, x3.Reach, x3.Drops, (x3.Script.length : Int)]) = l_4 ∧ (l_4.length ≤ 3713010 + 7008 * k3)) ?_ ?_
     ·refine zw ?_
      refine z1 (fun w_ : Nat × (List Int) => match w_ with | (k4, l4) => (⟨[(1, .ptr 0 0), (3, .ref 1 1 0 l4.length), (9, I k3), (10, .ptr 2 0), (11, I k4)], [(0, .box [.pv (.slc c.Abilities.length false (c.Abilities.flatMap zj)), .pv (.slc c.Auras.length false (c.Auras.flatMap zp)), .pv (.slc c.Foes.length false (c.Foes.flatMap zC)), I c.Map.W, I c.Map.H, .pv (.slc c.Map.Wall.length false (encB c.Map.Wall)), I c.Door.X, I c.Door.Y, I c.Lair.X, I c.Lair.Y]), (1, .row 3 1 (encI l4)), (2, .box [I x3.Id, I x3.Health, I x3.Hit, I x3.Every, I x3.Reach, .pv (.slc x3.Script.length false (x3.Script.flatMap zU)), .pv (.slc x3.Hoard.length false (x3.Hoard.flatMap zM)), I x3.Drops])], 3, [], 251, 0⟩ : St)) (fun w_ : Nat × (List Int) => match w_ with | (k4, l4) => zci (x3.Script.drop k4) k4 l4 = zci x3.Script 0 (l3 ++ [x3.Id, x3.Health, x3.Hit, x3.Every, x3.Reach, x3.Drops, (x3.Script.length : Int)]) ∧ k4 ≤ x3.Script.length ∧ l4.length ≤ 3708010 + 7008 * k3 + 5 * k4) (fun w_ : Nat × (List Int) => match w_ with | (k4, l4) => x3.Script.length - k4) (0, (l3 ++ [x3.Id, x3.Health, x3.Hit, x3.Every, x3.Reach, x3.Drops, (x3.Script.length : Int)])) (⟨rfl, Nat.zero_le _, by first | omega | (simp; done) | (simp only [List.length_append, List.length_cons, List.length_nil] at *; omega) | (simp; omega)⟩) ?_ (fun w_ hh_ => ?_)
      ·exact (zD.ren [] aP1 aP1 rfl ⟨⟨rfl, rfl⟩, ⟨rfl, rfl⟩, ⟨rfl, rfl⟩, ⟨rfl, rfl⟩, ⟨rfl, rfl⟩, trivial⟩ ⟨⟨rfl, rfl, rfl⟩, ⟨rfl, rfl, rfl⟩, ⟨rfl, rfl, rfl⟩, trivial⟩ aP0)
      obtain ⟨k4, l4⟩ := w_
      obtain ⟨hI4, hb4, hv4⟩ := hh_
      refine zm (zg rfl (za rfl (zh rfl rfl aP0 (za rfl (za rfl (zi rfl rfl rfl rfl rfl trivial (zd ?_)))))))
      refine zr rfl (fun h25 => ?_) (fun h25 => ?_)
      ·have g25 : (k4 : Int) < x3.Script.length := of_decide_eq_true h25
       have hk4 : k4 < x3.Script.length := by omega
       obtain ⟨x4, hx4⟩ : ∃ z_, x3.Script[k4]? = some z_ := ⟨_, List.getElem?_eq_getElem hk4⟩
       refine zt (zu (zm (zw (zg rfl (zh rfl rfl aP0 (za rfl (za rfl (zJ (k := k4) rfl rfl rfl rfl hk4 (z3 (s := 5) (enc := zU) (fun _ => rfl) aP0 hk4) rfl (zF rfl rfl rfl (zai (s := 5) (enc := zU) (fun _ => rfl) hk4) (zZ (s := 5) (enc := zU) (fun _ => rfl) hx4) rfl (zz (o := .box [_, _, _, _, _]) (nx' := 4) rfl rfl rfl trivial ?_))))))))))
       refine zH (H' := [(3, .box [_, _, _, _, _]), (0, _), (1, _), (2, _)]) rfl rfl rfl rfl rfl rfl (.inl rfl) rfl ?_
       refine zd (zy rfl (za rfl (zh rfl rfl aP0 (za rfl (zh rfl rfl aP0 (za rfl (zh rfl rfl aP0 (za rfl (zh rfl rfl aP0 (za rfl (zh rfl rfl aP0 (za rfl (zz (o := .row _ _ [_, _, _, _, _]) (nx' := 5) rfl rfl rfl aP0 ?_)))))))))))))
       refine zL (m := 5) (new := [_, _, _, _, _]) (cs' := encI (l4 ++ [x4.Phase, x4.When, x4.Arg, x4.Do, x4.Value])) (n' := (l4 ++ [x4.Phase, x4.When, x4.Arg, x4.Do, x4.Value]).length) (H' := [(4, .row _ _ _), (3, .box [_, _, _, _, _]), (0, .box [_, _, _, _, _, _, _, _, _, _]), (1, .row _ _ _), (2, .box [_, _, _, _, _, _, _, _])]) rfl rfl rfl (rfl) rfl rfl rfl rfl rfl rfl (zab l4) (rfl) aP3 (zaH l4 ([x4.Phase, x4.When, x4.Arg, x4.Do, x4.Value])) (zax l4 ([x4.Phase, x4.When, x4.Arg, x4.Do, x4.Value])) (.inl rfl) rfl rfl (.keep rfl (.keep rfl (.keep rfl (.keep rfl (.keep rfl .nil))))) (.keep rfl (.keep rfl (.keep rfl (.keep rfl (.keep rfl (.keep rfl (.keep rfl (.keep rfl (.keep rfl (.keep rfl (.keep rfl (.lose (v' := .undef) rfl (.keep rfl (.keep rfl (.keep rfl (.keep rfl (.keep rfl (.keep rfl (.keep rfl (.keep rfl (.keep rfl (.keep rfl (.keep rfl (.keep rfl (.lose (v' := .undef) rfl (.keep rfl (.keep rfl (.keep rfl .nil)))))))))))))))))))))))))))) ?_
       refine za rfl (zq (zal (zu (zy rfl (za rfl (zi rfl rfl rfl rfl rfl trivial (za rfl (zq ?_))))))))
       have e27 : zci (x3.Script.drop k4) k4 l4 = zci (x3.Script.drop (k4 + 1)) (k4 + 1) (l4 ++ [x4.Phase, x4.When, x4.Arg, x4.Do, x4.Value]) := by
        rewrite [zT hx4]
        rewrite [zci]
        try dsimp only
        all_goals rfl
       exact zQ (k4 + 1, (l4 ++ [x4.Phase, x4.When, x4.Arg, x4.Do, x4.Value])) ⟨e27.symm.trans hI4, hk4, by first | omega | assumption | (simp only [List.length_append, List.length_cons, List.length_nil, List.length_set]; omega) | (simp; omega) | grind⟩ (by show x3.Script.length - (k4 + 1) < x3.Script.length - k4; omega) (zD.ren [] aP1 aP1 rfl ⟨⟨rfl, rfl⟩, ⟨rfl, rfl⟩, ⟨rfl, rfl⟩, ⟨rfl, rfl⟩, ⟨congrArg (fun n => some (I n)) (zbS (k := k4) aP2), rfl⟩, trivial⟩ ⟨⟨rfl, rfl, rfl⟩, ⟨rfl, rfl, rfl⟩, ⟨rfl, rfl, rfl⟩, trivial⟩ aP0)
      ·have g25 : ¬ ((k4 : Int) < x3.Script.length) := of_decide_eq_false h25
       have hk4 : k4 = x3.Script.length := by omega
       refine zS (z5 (zag (zaf rfl ?_)))
       have e28 : zci x3.Script 0 (l3 ++ [x3.Id, x3.Health, x3.Hit, x3.Every, x3.Reach, x3.Drops, (x3.Script.length : Int)]) = l4 := by
        rewrite [← hI4, hk4, List.drop_length]
        rewrite [zci]
        try dsimp only
        all_goals rfl
       exact z0 l4 ⟨e28, by first | assumption | omega | (simp; omega) | simp_all | grind⟩ (zD.ren [] aP1 aP1 rfl ⟨⟨rfl, rfl⟩, ⟨rfl, rfl⟩, ⟨rfl, rfl⟩, ⟨rfl, rfl⟩, trivial⟩ ⟨⟨rfl, rfl, rfl⟩, ⟨rfl, rfl, rfl⟩, ⟨rfl, rfl, rfl⟩, trivial⟩ aP0)
     ·rintro l_4 ⟨(hJ23 : zci x3.Script 0 (l3 ++ [x3.Id, x3.Health, x3.Hit, x3.Every, x3.Reach, x3.Drops, (x3.Script.length : Int)]) = l_4), hE4⟩
      refine zu (zg rfl (za rfl (zh rfl rfl aP0 (za rfl (za rfl (zz (o := .row _ _ [_]) (nx' := 4) rfl rfl rfl aP0 ?_))))))
      refine zL (m := 1) (new := [_]) (cs' := encI (l_4 ++ [(x3.Hoard.length : Int)])) (n' := (l_4 ++ [(x3.Hoard.length : Int)]).length) (H' := [(3, .row _ _ _), (0, .box [_, _, _, _, _, _, _, _, _, _]), (1, .row _ _ _), (2, .box [_, _, _, _, _, _, _, _])]) rfl rfl rfl (rfl) rfl rfl rfl rfl rfl rfl (zab l_4) (rfl) aP3 (zaV l_4 _) (((zbJ l_4 (x3.Hoard.length : Int))).symm) (.inl rfl) rfl rfl (.keep rfl (.keep rfl (.keep rfl (.keep rfl .nil)))) (.keep rfl (.keep rfl (.keep rfl (.keep rfl (.lose (v' := .undef) rfl (.keep rfl (.lose (v' := .undef) rfl (.keep rfl (.keep rfl .nil))))))))) ?_
      refine za rfl (zd (zg rfl (za rfl (zd ?_))))
      refine zX (fun l_5 : List Int => (⟨[(1, .ptr 0 0), (3, .ref 1 1 0 l_5.length), (9, I k3)], [(0, .box [.pv (.slc c.Abilities.length false (c.Abilities.flatMap zj)), .pv (.slc c.Auras.length false (c.Auras.flatMap zp)), .pv (.slc c.Foes.length false (c.Foes.flatMap zC)), I c.Map.W, I c.Map.H, .pv (.slc c.Map.Wall.length false (encB c.Map.Wall)), I c.Door.X, I c.Door.Y, I c.Lair.X, I c.Lair.Y]), (1, .row 3 1 (encI l_5))], 2, [], 251, 0⟩ : St)) (fun l_5 : List Int => zch x3.Hoard 0 (l_4 ++ [(x3.Hoard.length : Int)]) = l_5 ∧ (l_5.length ≤ 3715011 + 7008 * k3)) ?_ ?_
      ·refine zw ?_
       refine z1 (fun w_ : Nat × (List Int) => match w_ with | (k5, l5) => (⟨[(1, .ptr 0 0), (3, .ref 1 1 0 l5.length), (9, I k3), (10, .ptr 2 0), (13, I k5)], [(0, .box [.pv (.slc c.Abilities.length false (c.Abilities.flatMap zj)), .pv (.slc c.Auras.length false (c.Auras.flatMap zp)), .pv (.slc c.Foes.length false (c.Foes.flatMap zC)), I c.Map.W, I c.Map.H, .pv (.slc c.Map.Wall.length false (encB c.Map.Wall)), I c.Door.X, I c.Door.Y, I c.Lair.X, I c.Lair.Y]), (1, .row 3 1 (encI l5)), (2, .box [I x3.Id, I x3.Health, I x3.Hit, I x3.Every, I x3.Reach, .pv (.slc x3.Script.length false (x3.Script.flatMap zU)), .pv (.slc x3.Hoard.length false (x3.Hoard.flatMap zM)), I x3.Drops])], 3, [], 251, 0⟩ : St)) (fun w_ : Nat × (List Int) => match w_ with | (k5, l5) => zch (x3.Hoard.drop k5) k5 l5 = zch x3.Hoard 0 (l_4 ++ [(x3.Hoard.length : Int)]) ∧ k5 ≤ x3.Hoard.length ∧ l5.length ≤ 3713011 + 7008 * k3 + 2 * k5) (fun w_ : Nat × (List Int) => match w_ with | (k5, l5) => x3.Hoard.length - k5) (0, (l_4 ++ [(x3.Hoard.length : Int)])) (⟨rfl, Nat.zero_le _, by first | omega | (simp; done) | (simp only [List.length_append, List.length_cons, List.length_nil] at *; omega) | (simp; omega)⟩) ?_ (fun w_ hh_ => ?_)
       ·exact (zD.ren [] aP1 aP1 rfl ⟨⟨rfl, rfl⟩, ⟨rfl, rfl⟩, ⟨rfl, rfl⟩, ⟨rfl, rfl⟩, ⟨rfl, rfl⟩, trivial⟩ ⟨⟨rfl, rfl, rfl⟩, ⟨rfl, rfl, rfl⟩, ⟨rfl, rfl, rfl⟩, trivial⟩ aP0)
       obtain ⟨k5, l5⟩ := w_
       obtain ⟨hI5, hb5, hv5⟩ := hh_
       refine zm (zg rfl (za rfl (zh rfl rfl aP0 (za rfl (za rfl (zi rfl rfl rfl rfl rfl trivial (zd ?_)))))))
       refine zr rfl (fun h31 => ?_) (fun h31 => ?_)
       ·have g31 : (k5 : Int) < x3.Hoard.length := of_decide_eq_true h31
        have hk5 : k5 < x3.Hoard.length := by omega
        obtain ⟨x5, hx5⟩ : ∃ z_, x3.Hoard[k5]? = some z_ := ⟨_, List.getElem?_eq_getElem hk5⟩
        refine zt (zu (zm (zw ?_)))
        refine zav rfl aP1 rfl ?_
        refine za rfl (zh rfl rfl aP0 (za rfl (za rfl (zJ (k := k5) rfl rfl rfl rfl hk5 (z3 (s := 2) (enc := zM) (fun _ => rfl) aP0 hk5) rfl (zh rfl rfl aP0 (zO rfl rfl rfl (zb7 (s := 2) (enc := zM) (fun _ => rfl) hx5 (o := 0) rfl aP0) rfl (zh rfl rfl aP0 (za rfl (za rfl (zJ (k := k5) rfl rfl rfl rfl hk5 (z3 (s := 2) (enc := zM) (fun _ => rfl) aP0 hk5) rfl (zh rfl rfl aP0 (zO rfl rfl rfl (zb7 (s := 2) (enc := zM) (fun _ => rfl) hx5 (o := 1) rfl aP0) rfl (zz (o := .row _ _ [_, _]) (nx' := 4) rfl rfl rfl aP0 ?_)))))))))))))
        refine zL (m := 2) (new := [_, _]) (cs' := encI (l5 ++ [x5.Item, x5.Weight])) (n' := (l5 ++ [x5.Item, x5.Weight]).length) (H' := [(3, .row _ _ _), (0, .box [_, _, _, _, _, _, _, _, _, _]), (1, .row _ _ _), (2, .box [_, _, _, _, _, _, _, _])]) rfl rfl rfl (rfl) rfl rfl rfl rfl rfl rfl (zab l5) (rfl) aP3 (zaH l5 ([x5.Item, x5.Weight])) (zax l5 ([x5.Item, x5.Weight])) (.inr aP1) rfl rfl (.keep rfl (.keep rfl (.keep rfl (.keep rfl .nil)))) (.keep rfl (.keep rfl (.keep rfl (.keep rfl (.keep rfl (.keep rfl (.keep rfl (.keep rfl (.keep rfl (.keep rfl (.keep rfl (.keep rfl (.keep rfl (.lose (v' := .undef) rfl (.keep rfl (.keep rfl (.keep rfl (.keep rfl (.keep rfl (.keep rfl (.lose (v' := .undef) rfl (.keep rfl (.keep rfl (.keep rfl .nil)))))))))))))))))))))))) ?_
        refine za rfl (zq (zal (zu (zy rfl (za rfl (zi rfl rfl rfl rfl rfl trivial (za rfl (zq ?_))))))))
        have e33 : zch (x3.Hoard.drop k5) k5 l5 = zch (x3.Hoard.drop (k5 + 1)) (k5 + 1) (l5 ++ [x5.Item, x5.Weight]) := by
         rewrite [zT hx5]
         rewrite [zch]
         try dsimp only
         all_goals rfl
        exact zQ (k5 + 1, (l5 ++ [x5.Item, x5.Weight])) ⟨e33.symm.trans hI5, hk5, by first | omega | assumption | (simp only [List.length_append, List.length_cons, List.length_nil, List.length_set]; omega) | (simp; omega) | grind⟩ (by show x3.Hoard.length - (k5 + 1) < x3.Hoard.length - k5; omega) (zD.ren [] aP1 aP1 rfl ⟨⟨rfl, rfl⟩, ⟨rfl, rfl⟩, ⟨rfl, rfl⟩, ⟨rfl, rfl⟩, ⟨congrArg (fun n => some (I n)) (zbS (k := k5) aP2), rfl⟩, trivial⟩ ⟨⟨rfl, rfl, rfl⟩, ⟨rfl, rfl, rfl⟩, ⟨rfl, rfl, rfl⟩, trivial⟩ aP0)
       ·have g31 : ¬ ((k5 : Int) < x3.Hoard.length) := of_decide_eq_false h31
        have hk5 : k5 = x3.Hoard.length := by omega
        refine zS (z5 (zag (zaf rfl ?_)))
        have e34 : zch x3.Hoard 0 (l_4 ++ [(x3.Hoard.length : Int)]) = l5 := by
         rewrite [← hI5, hk5, List.drop_length]
         rewrite [zch]
         try dsimp only
         all_goals rfl
        exact z0 l5 ⟨e34, by first | assumption | omega | (simp; omega) | simp_all | grind⟩ (zD.ren [] aP1 aP1 rfl ⟨⟨rfl, rfl⟩, ⟨rfl, rfl⟩, ⟨rfl, rfl⟩, trivial⟩ ⟨⟨rfl, rfl, rfl⟩, ⟨rfl, rfl, rfl⟩, trivial⟩ aP0)
      ·rintro l_5 ⟨(hJ29 : zch x3.Hoard 0 (l_4 ++ [(x3.Hoard.length : Int)]) = l_5), hE5⟩
       show blkK _ _ .normal (⟨[(1, .ptr 0 0), (3, .ref 1 1 0 l_5.length), (9, I k3)], [(0, .box [.pv (.slc c.Abilities.length false (c.Abilities.flatMap zj)), .pv (.slc c.Auras.length false (c.Auras.flatMap zp)), .pv (.slc c.Foes.length false (c.Foes.flatMap zC)), I c.Map.W, I c.Map.H, .pv (.slc c.Map.Wall.length false (encB c.Map.Wall)), I c.Door.X, I c.Door.Y, I c.Lair.X, I c.Lair.Y]), (1, .row 3 1 (encI l_5))], 2, [], 251, 0⟩ : St)
       refine zal (zu (zy rfl (za rfl (zi rfl rfl rfl rfl rfl trivial (za rfl (zq ?_))))))
       have e37 : zck (c.Foes.drop k3) k3 l3 = zck (c.Foes.drop (k3 + 1)) (k3 + 1) l_5 := by
        rewrite [zT hx3]
        rewrite [zck]
        try dsimp only
        rewrite [hJ23]
        try dsimp only
        rewrite [hJ29]
        try dsimp only
        all_goals rfl
       exact zQ (k3 + 1, l_5) ⟨e37.symm.trans hI3, hk3, by first | omega | assumption | (simp only [List.length_append, List.length_cons, List.length_nil, List.length_set]; omega) | (simp; omega) | grind⟩ (by show c.Foes.length - (k3 + 1) < c.Foes.length - k3; omega) (zD.ren [] aP1 aP1 rfl ⟨⟨rfl, rfl⟩, ⟨rfl, rfl⟩, ⟨congrArg (fun n => some (I n)) (zbS (k := k3) aP2), rfl⟩, trivial⟩ ⟨⟨rfl, rfl, rfl⟩, ⟨rfl, rfl, rfl⟩, trivial⟩ aP0)
    ·have g22 : ¬ ((k3 : Int) < c.Foes.length) := of_decide_eq_false h22
     have hk3 : k3 = c.Foes.length := by omega
     refine zS (z5 (zag (zaf rfl ?_)))
     have e38 : zck c.Foes 0 (l_2 ++ [(c.Foes.length : Int)]) = l3 := by
      rewrite [← hI3, hk3, List.drop_length]
      rewrite [zck]
      try dsimp only
      all_goals rfl
     exact z0 l3 ⟨e38, by first | assumption | omega | (simp; omega) | simp_all | grind⟩ (zD.ren [] aP1 aP1 rfl ⟨⟨rfl, rfl⟩, ⟨rfl, rfl⟩, trivial⟩ ⟨⟨rfl, rfl, rfl⟩, ⟨rfl, rfl, rfl⟩, trivial⟩ aP0)
   ·rintro l_3 ⟨(hJ20 : zck c.Foes 0 (l_2 ++ [(c.Foes.length : Int)]) = l_3), hE3⟩
    refine zu (zg rfl (za rfl (zh rfl rfl aP0 (zh rfl rfl aP0 (za rfl (zh rfl rfl aP0 (zh rfl rfl aP0 (za rfl (zh rfl rfl aP0 (zh rfl rfl aP0 (za rfl (za rfl (zz (o := .row _ _ [_, _, _]) (nx' := 3) rfl rfl rfl aP0 ?_)))))))))))))
    refine zL (m := 3) (new := [_, _, _]) (cs' := encI (l_3 ++ [c.Map.W, c.Map.H, (c.Map.Wall.length : Int)])) (n' := (l_3 ++ [c.Map.W, c.Map.H, (c.Map.Wall.length : Int)]).length) (H' := [(2, .row _ _ _), (0, .box [_, _, _, _, _, _, _, _, _, _]), (1, .row _ _ _)]) rfl rfl rfl (rfl) rfl rfl rfl rfl rfl rfl (zab l_3) (rfl) aP3 (zaH l_3 ([c.Map.W, c.Map.H, (c.Map.Wall.length : Int)])) (zax l_3 ([c.Map.W, c.Map.H, (c.Map.Wall.length : Int)])) (.inl rfl) rfl rfl (.keep rfl (.keep rfl (.keep rfl .nil))) (.keep rfl (.keep rfl (.keep rfl (.keep rfl (.keep rfl (.keep rfl (.keep rfl (.keep rfl (.keep rfl (.keep rfl (.keep rfl (.lose (v' := .undef) rfl (.keep rfl (.lose (v' := .undef) rfl .nil)))))))))))))) ?_
    refine za rfl (zd (zm (zg rfl (za rfl (zd ?_)))))
    refine zX (fun l_6 : List Int => (⟨[(1, .ptr 0 0), (3, .ref 1 1 0 l_6.length)], [(0, .box [.pv (.slc c.Abilities.length false (c.Abilities.flatMap zj)), .pv (.slc c.Auras.length false (c.Auras.flatMap zp)), .pv (.slc c.Foes.length false (c.Foes.flatMap zC)), I c.Map.W, I c.Map.H, .pv (.slc c.Map.Wall.length false (encB c.Map.Wall)), I c.Door.X, I c.Door.Y, I c.Lair.X, I c.Lair.Y]), (1, .row 3 1 (encI l_6))], 2, [], 251, 0⟩ : St)) (fun l_6 : List Int => zcr c.Map.Wall 0 (l_3 ++ [c.Map.W, c.Map.H, (c.Map.Wall.length : Int)]) = l_6 ∧ (l_6.length ≤ 11716006)) ?_ ?_
    ·refine zw ?_
     refine z1 (fun w_ : Nat × (List Int) => match w_ with | (k6, l6) => (⟨[(1, .ptr 0 0), (3, .ref 1 1 0 l6.length), (14, I k6)], [(0, .box [.pv (.slc c.Abilities.length false (c.Abilities.flatMap zj)), .pv (.slc c.Auras.length false (c.Auras.flatMap zp)), .pv (.slc c.Foes.length false (c.Foes.flatMap zC)), I c.Map.W, I c.Map.H, .pv (.slc c.Map.Wall.length false (encB c.Map.Wall)), I c.Door.X, I c.Door.Y, I c.Lair.X, I c.Lair.Y]), (1, .row 3 1 (encI l6))], 2, [], 251, 0⟩ : St)) (fun w_ : Nat × (List Int) => match w_ with | (k6, l6) => zcr (c.Map.Wall.drop k6) k6 l6 = zcr c.Map.Wall 0 (l_3 ++ [c.Map.W, c.Map.H, (c.Map.Wall.length : Int)]) ∧ k6 ≤ c.Map.Wall.length ∧ l6.length ≤ 10716006 + k6) (fun w_ : Nat × (List Int) => match w_ with | (k6, l6) => c.Map.Wall.length - k6) (0, (l_3 ++ [c.Map.W, c.Map.H, (c.Map.Wall.length : Int)])) (⟨rfl, Nat.zero_le _, by first | omega | (simp; done) | (simp only [List.length_append, List.length_cons, List.length_nil] at *; omega) | (simp; omega)⟩) ?_ (fun w_ hh_ => ?_)
     ·exact (zD.ren [] aP1 aP1 rfl ⟨⟨rfl, rfl⟩, ⟨rfl, rfl⟩, ⟨rfl, rfl⟩, trivial⟩ ⟨⟨rfl, rfl, rfl⟩, ⟨rfl, rfl, rfl⟩, trivial⟩ aP0)
     obtain ⟨k6, l6⟩ := w_
     obtain ⟨hI6, hb6, hv6⟩ := hh_
     refine zm (zg rfl (za rfl (zh rfl rfl aP0 (zh rfl rfl aP0 (za rfl (za rfl (zi rfl rfl rfl rfl rfl trivial (zd ?_))))))))
     refine zr rfl (fun h41 => ?_) (fun h41 => ?_)
     ·have g41 : (k6 : Int) < c.Map.Wall.length := of_decide_eq_true h41
      have hk6 : k6 < c.Map.Wall.length := by omega
      obtain ⟨x6, hx6⟩ : ∃ z_, c.Map.Wall[k6]? = some z_ := ⟨_, List.getElem?_eq_getElem hk6⟩
      refine zt (zu (zm (zw (zy rfl (za rfl (zh rfl rfl aP0 (zh rfl rfl aP0 (za rfl (za rfl (zJ (k := k6) rfl rfl rfl rfl hk6 (zgl hk6) rfl (zO rfl rfl rfl (ze8 hx6) rfl (zB rfl rfl rfl rfl (zkz x6) rfl rfl rfl (zz (o := .row _ _ [_]) (nx' := 3) rfl rfl rfl aP0 ?_)))))))))))))
      refine zL (m := 1) (new := [_]) (cs' := encI (l6 ++ [(zc7 x6)])) (n' := (l6 ++ [(zc7 x6)]).length) (H' := [(2, .row _ _ _), (0, .box [_, _, _, _, _, _, _, _, _, _]), (1, .row _ _ _)]) rfl rfl rfl (rfl) rfl rfl rfl rfl rfl rfl (zab l6) (rfl) aP3 (zaV l6 _) (((zbJ l6 (zc7 x6))).symm) (.inl rfl) rfl rfl (.keep rfl (.keep rfl (.keep rfl .nil))) (.keep rfl (.keep rfl (.keep rfl (.keep rfl (.keep rfl (.keep rfl (.keep rfl (.keep rfl (.lose (v' := .undef) rfl (.keep rfl (.keep rfl (.keep rfl (.keep rfl (.keep rfl (.keep rfl (.keep rfl (.lose (v' := .undef) rfl (.keep rfl .nil)))))))))))))))))) ?_
      refine za rfl (zq (zal (zu (zy rfl (za rfl (zi rfl rfl rfl rfl rfl trivial (za rfl (zq ?_))))))))
      have e43 : zcr (c.Map.Wall.drop k6) k6 l6 = zcr (c.Map.Wall.drop (k6 + 1)) (k6 + 1) (l6 ++ [(zc7 x6)]) := by
       rewrite [zT hx6]
       rewrite [zcr]
       try dsimp only
       all_goals rfl
      exact zQ (k6 + 1, (l6 ++ [(zc7 x6)])) ⟨e43.symm.trans hI6, hk6, by first | omega | assumption | (simp only [List.length_append, List.length_cons, List.length_nil, List.length_set]; omega) | (simp; omega) | grind⟩ (by show c.Map.Wall.length - (k6 + 1) < c.Map.Wall.length - k6; omega) (zD.ren [] aP1 aP1 rfl ⟨⟨rfl, rfl⟩, ⟨rfl, rfl⟩, ⟨congrArg (fun n => some (I n)) (zbS (k := k6) aP2), rfl⟩, trivial⟩ ⟨⟨rfl, rfl, rfl⟩, ⟨rfl, rfl, rfl⟩, trivial⟩ aP0)
     ·have g41 : ¬ ((k6 : Int) < c.Map.Wall.length) := of_decide_eq_false h41
      have hk6 : k6 = c.Map.Wall.length := by omega
      refine zS (z5 (zag (zaf rfl ?_)))
      have e44 : zcr c.Map.Wall 0 (l_3 ++ [c.Map.W, c.Map.H, (c.Map.Wall.length : Int)]) = l6 := by
       rewrite [← hI6, hk6, List.drop_length]
       rewrite [zcr]
       try dsimp only
       all_goals rfl
      exact z0 l6 ⟨e44, by first | assumption | omega | (simp; omega) | simp_all | grind⟩ (zD.ren [] aP1 aP1 rfl ⟨⟨rfl, rfl⟩, ⟨rfl, rfl⟩, trivial⟩ ⟨⟨rfl, rfl, rfl⟩, ⟨rfl, rfl, rfl⟩, trivial⟩ aP0)
    ·rintro l_6 ⟨(hJ39 : zcr c.Map.Wall 0 (l_3 ++ [c.Map.W, c.Map.H, (c.Map.Wall.length : Int)]) = l_6), hE6⟩
     refine zu (zg rfl (za rfl (zh rfl rfl aP0 (zh rfl rfl aP0 (za rfl (zh rfl rfl aP0 (zh rfl rfl aP0 (za rfl (zh rfl rfl aP0 (zh rfl rfl aP0 (za rfl (zh rfl rfl aP0 (zh rfl rfl aP0 (za rfl (zz (o := .row _ _ [_, _, _, _]) (nx' := 3) rfl rfl rfl aP0 ?_)))))))))))))))
     refine zL (m := 4) (new := [_, _, _, _]) (cs' := encI (l_6 ++ [c.Door.X, c.Door.Y, c.Lair.X, c.Lair.Y])) (n' := (l_6 ++ [c.Door.X, c.Door.Y, c.Lair.X, c.Lair.Y]).length) (H' := [(2, .row _ _ _), (0, .box [_, _, _, _, _, _, _, _, _, _]), (1, .row _ _ _)]) rfl rfl rfl (rfl) rfl rfl rfl rfl rfl rfl (zab l_6) (rfl) aP3 (zaH l_6 ([c.Door.X, c.Door.Y, c.Lair.X, c.Lair.Y])) (zax l_6 ([c.Door.X, c.Door.Y, c.Lair.X, c.Lair.Y])) (.inl rfl) rfl rfl (.keep rfl (.keep rfl (.keep rfl .nil))) (.keep rfl (.keep rfl (.keep rfl (.keep rfl (.keep rfl (.keep rfl (.keep rfl (.keep rfl (.keep rfl (.keep rfl (.keep rfl (.keep rfl (.keep rfl (.lose (v' := .undef) rfl (.keep rfl (.lose (v' := .undef) rfl .nil)))))))))))))))) ?_
     refine za rfl (zd (zl ?_))
     have e45 : zfZ c = (l_6 ++ [c.Door.X, c.Door.Y, c.Lair.X, c.Lair.Y]) := by
      unfold zfZ
      try dsimp only
      rewrite [hJ1]
      try dsimp only
      rewrite [hJ14]
      try dsimp only
      rewrite [hJ20]
      try dsimp only
      rewrite [hJ39]
      try dsimp only
      all_goals rfl
     rw [e45]
     exact zaa [] [1] rfl ⟨trivial, trivial⟩ rfl aP9 (rfl) rfl rfl rfl aP0 rfl rfl ⟨⟨rfl, rfl⟩, trivial⟩
end Go.Proofs.YtppnccjeggnllaaGreat

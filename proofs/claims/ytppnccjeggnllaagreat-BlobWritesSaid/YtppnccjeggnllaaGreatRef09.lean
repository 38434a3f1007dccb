import Derived.Test.YtppnccjeggnllaaGreatRef09u
namespace Go.Proofs.YtppnccjeggnllaaGreat
open Go Go.RowKit Go.Proofs.YtppnccjeggnllaaGreatVm
attribute [local irreducible] zY zas OpsS
set_option maxHeartbeats 400000
set_option maxRecDepth 100000
set_option linter.all false
def zaQ (g : zdd) : Bool :=
  if (g.W : Int) ≥ 1 then (if (g.W : Int) ≤ 256 then (if (g.H : Int) ≥ 1 then (if (g.H : Int) ≤ 256 then ((g.Wall.length : Int) == (IntKind.i64.wrap (g.W * g.H))) else false) else false) else false) else false
theorem zkN (g : zdd) : Ok Tryz.prog 143 [zia g] [] (B (zaQ g)) [] [] := by
 refine Ok.len fun hlen => ?_
 have hl_g_Wall := hlL (n := g.Wall.length) hlen
 refine zx Tryz.func143 rfl ?_
 refine zg rfl (zz (o := .box [_, _, _]) (nx' := 1) rfl rfl rfl trivial (za rfl (zd (zg rfl (zh rfl rfl aP0 (za rfl (zi rfl rfl rfl rfl rfl trivial (za rfl ?_))))))))
 refine zG rfl (fun h2 => ?_) (fun h2 => ?_)
 ·have g2 : (g.W : Int) ≥ 1 := of_decide_eq_true h2
  refine ze rfl h2 (zh rfl rfl aP0 (ze rfl h2 (za rfl (ze rfl h2 (zi rfl rfl rfl rfl rfl trivial (zo rfl h2 rfl rfl (za rfl ?_)))))))
  refine zG rfl (fun h4 => ?_) (fun h4 => ?_)
  ·have g4 : (g.W : Int) ≤ 256 := of_decide_eq_true h4
   refine ze rfl h4 (zh rfl rfl aP0 (ze rfl h4 (za rfl (ze rfl h4 (zi rfl rfl rfl rfl rfl trivial (zo rfl h4 rfl rfl (za rfl ?_)))))))
   refine zG rfl (fun h6 => ?_) (fun h6 => ?_)
   ·have g6 : (g.H : Int) ≥ 1 := of_decide_eq_true h6
    refine ze rfl h6 (zh rfl rfl aP0 (ze rfl h6 (za rfl (ze rfl h6 (zi rfl rfl rfl rfl rfl trivial (zo rfl h6 rfl rfl (za rfl ?_)))))))
    refine zG rfl (fun h8 => ?_) (fun h8 => ?_)
    ·have g8 : (g.H : Int) ≤ 256 := of_decide_eq_true h8
     refine ze rfl h8 (zh rfl rfl aP0 (ze rfl h8 (za rfl (ze rfl h8 (za rfl (ze rfl h8 (zh rfl rfl aP0 (ze rfl h8 (za rfl (ze rfl h8 (zh rfl rfl aP0 (ze rfl h8 (za rfl (ze rfl h8 (zi rfl rfl rfl rfl rfl trivial (ze rfl h8 (zi rfl rfl rfl rfl rfl trivial ?_)))))))))))))))))
     refine zo rfl h8 rfl rfl (za rfl (zd (zl ?_)))
     have e10 : zaQ g = ((g.Wall.length : Int) == (IntKind.i64.wrap (g.W * g.H))) := by
      unfold zaQ
      try dsimp only
      rewrite [if_pos g2, if_pos g4, if_pos g6, if_pos g8]
      all_goals rfl
     rw [e10]
     exact zk rfl ⟨trivial, trivial⟩ (rfl) rfl
    ·have g8 : ¬ ((g.H : Int) ≤ 256) := of_decide_eq_false h8
     refine zf rfl h8 rfl (zf rfl h8 rfl (zf rfl h8 rfl (zf rfl h8 rfl (zf rfl h8 rfl (zf rfl h8 rfl (zf rfl h8 rfl (zf rfl h8 rfl (zf rfl h8 rfl (zn rfl h8 rfl rfl (za rfl (zd (zl ?_))))))))))))
     have e11 : zaQ g = false := by
      unfold zaQ
      try dsimp only
      rewrite [if_pos g2, if_pos g4, if_pos g6, if_neg g8]
      all_goals rfl
     rw [e11]
     exact zk rfl ⟨trivial, trivial⟩ (rfl) rfl
   ·have g6 : ¬ ((g.H : Int) ≥ 1) := of_decide_eq_false h6
    refine zf rfl h6 rfl (zf rfl h6 rfl (zf rfl h6 rfl (zn rfl h6 rfl rfl (za rfl (zc rfl (zc rfl (zc rfl (zc rfl (zc rfl (zc rfl (zc rfl (zc rfl (zc rfl (za rfl (za rfl (zd ?_))))))))))))))))
    refine zl ?_
    have e12 : zaQ g = false := by
     unfold zaQ
     try dsimp only
     rewrite [if_pos g2, if_pos g4, if_neg g6]
     all_goals rfl
    rw [e12]
    exact zk rfl ⟨trivial, trivial⟩ (rfl) rfl
  ·have g4 : ¬ ((g.W : Int) ≤ 256) := of_decide_eq_false h4
   refine zf rfl h4 rfl (zf rfl h4 rfl (zf rfl h4 rfl (zn rfl h4 rfl rfl (za rfl (zc rfl (zc rfl (zc rfl (za rfl (za rfl (zc rfl (zc rfl (zc rfl (zc rfl (zc rfl (zc rfl (zc rfl (zc rfl ?_)))))))))))))))))
   refine zc rfl (za rfl (za rfl (zd (zl ?_))))
   have e13 : zaQ g = false := by
    unfold zaQ
    try dsimp only
    rewrite [if_pos g2, if_neg g4]
    all_goals rfl
   rw [e13]
   exact zk rfl ⟨trivial, trivial⟩ (rfl) rfl
 ·have g2 : ¬ ((g.W : Int) ≥ 1) := of_decide_eq_false h2
  refine zf rfl h2 rfl (zf rfl h2 rfl (zf rfl h2 rfl (zn rfl h2 rfl rfl (za rfl (zc rfl (zc rfl (zc rfl (za rfl (za rfl (zc rfl (zc rfl (zc rfl (za rfl (za rfl (zc rfl (zc rfl (zc rfl ?_)))))))))))))))))
  refine zc rfl (zc rfl (zc rfl (zc rfl (zc rfl (zc rfl (za rfl (za rfl (zd (zl ?_)))))))))
  have e14 : zaQ g = false := by
   unfold zaQ
   try dsimp only
   rewrite [if_neg g2]
   all_goals rfl
  rw [e14]
  exact zk rfl ⟨trivial, trivial⟩ (rfl) rfl

def zcw (g : zdd) (p : GPos) : Bool :=
  if zaQ g = true then (if (p.X : Int) ≥ 0 then (if (p.X : Int) < g.W then (if (p.Y : Int) ≥ 0 then (decide ((p.Y : Int) < g.H)) else false) else false) else false) else false
theorem zpa (g : zdd) (p : GPos) : Ok Tryz.prog 131 [zia g, zpn p] [] (B (zcw g p)) [] [] := by
 refine Ok.len fun hlen => ?_
 have hl_g_Wall := hlL (n := g.Wall.length) hlen
 refine zx Tryz.func131 rfl ?_
 refine zg rfl (zz (o := .box [_, _, _]) (nx' := 1) rfl rfl rfl trivial (zz (o := .box [_, _]) (nx' := 2) rfl rfl rfl trivial (za rfl (zd (zg rfl (zh (v := (.agg [_, _, _])) rfl rfl (Nat.le_of_ble_eq_true rfl) (zB rfl rfl rfl rfl (zkN g) rfl rfl rfl (za rfl (zd (zg rfl (za rfl (za rfl ?_))))))))))))
 refine zG rfl (fun h2 => ?_) (fun h2 => ?_)
 ·have g2 : zaQ g = true := h2
  refine ze rfl h2 (zh rfl rfl aP0 (ze rfl h2 (za rfl (ze rfl h2 (zi rfl rfl rfl rfl rfl trivial (zo rfl h2 rfl rfl (za rfl ?_)))))))
  refine zG rfl (fun h4 => ?_) (fun h4 => ?_)
  ·have g4 : (p.X : Int) ≥ 0 := of_decide_eq_true h4
   refine ze rfl h4 (zh rfl rfl aP0 (ze rfl h4 (za rfl (ze rfl h4 (zh rfl rfl aP0 (ze rfl h4 (za rfl (ze rfl h4 (zi rfl rfl rfl rfl rfl trivial (zo rfl h4 rfl rfl (za rfl ?_)))))))))))
   refine zG rfl (fun h6 => ?_) (fun h6 => ?_)
   ·have g6 : (p.X : Int) < g.W := of_decide_eq_true h6
    refine ze rfl h6 (zh rfl rfl aP0 (ze rfl h6 (za rfl (ze rfl h6 (zi rfl rfl rfl rfl rfl trivial (zo rfl h6 rfl rfl (za rfl ?_)))))))
    refine zG rfl (fun h8 => ?_) (fun h8 => ?_)
    ·have g8 : (p.Y : Int) ≥ 0 := of_decide_eq_true h8
     refine ze rfl h8 (zh rfl rfl aP0 (ze rfl h8 (za rfl (ze rfl h8 (zh rfl rfl aP0 (ze rfl h8 (za rfl (ze rfl h8 (zi rfl rfl rfl rfl rfl trivial (zo rfl h8 rfl rfl (za rfl (zd (zl ?_)))))))))))))
     have e10 : zcw g p = (decide ((p.Y : Int) < g.H)) := by
      unfold zcw
      try dsimp only
      rewrite [if_pos g2, if_pos g4, if_pos g6, if_pos g8]
      all_goals rfl
     rw [e10]
     exact zk rfl ⟨trivial, trivial⟩ (rfl) rfl
    ·have g8 : ¬ ((p.Y : Int) ≥ 0) := of_decide_eq_false h8
     refine zf rfl h8 rfl (zf rfl h8 rfl (zf rfl h8 rfl (zf rfl h8 rfl (zf rfl h8 rfl (zn rfl h8 rfl rfl (za rfl (zd (zl ?_))))))))
     have e11 : zcw g p = false := by
      unfold zcw
      try dsimp only
      rewrite [if_pos g2, if_pos g4, if_pos g6, if_neg g8]
      all_goals rfl
     rw [e11]
     exact zk rfl ⟨trivial, trivial⟩ (rfl) rfl
   ·have g6 : ¬ ((p.X : Int) < g.W) := of_decide_eq_false h6
    refine zf rfl h6 rfl (zf rfl h6 rfl (zf rfl h6 rfl (zn rfl h6 rfl rfl (za rfl (zc rfl (zc rfl (zc rfl (zc rfl (zc rfl (za rfl (za rfl (zd (zl ?_)))))))))))))
    have e12 : zcw g p = false := by
     unfold zcw
     try dsimp only
     rewrite [if_pos g2, if_pos g4, if_neg g6]
     all_goals rfl
    rw [e12]
    exact zk rfl ⟨trivial, trivial⟩ (rfl) rfl
  ·have g4 : ¬ ((p.X : Int) ≥ 0) := of_decide_eq_false h4
   refine zf rfl h4 rfl (zf rfl h4 rfl (zf rfl h4 rfl (zf rfl h4 rfl (zf rfl h4 rfl (zn rfl h4 rfl rfl (za rfl (zc rfl (zc rfl (zc rfl (za rfl (za rfl (zc rfl (zc rfl (zc rfl (zc rfl (zc rfl (za rfl ?_)))))))))))))))))
   refine za rfl (zd (zl ?_))
   have e13 : zcw g p = false := by
    unfold zcw
    try dsimp only
    rewrite [if_pos g2, if_neg g4]
    all_goals rfl
   rw [e13]
   exact zk rfl ⟨trivial, trivial⟩ (rfl) rfl
 ·have g2 : ¬ (zaQ g = true) := zaA h2
  refine zf rfl h2 rfl (zf rfl h2 rfl (zf rfl h2 rfl (zn rfl h2 rfl rfl (za rfl (zc rfl (zc rfl (zc rfl (zc rfl (zc rfl (za rfl (za rfl (zc rfl (zc rfl (zc rfl (za rfl (za rfl (zc rfl ?_)))))))))))))))))
  refine zc rfl (zc rfl (zc rfl (zc rfl (za rfl (za rfl (zd (zl ?_)))))))
  have e14 : zcw g p = false := by
   unfold zcw
   try dsimp only
   rewrite [if_neg g2]
   all_goals rfl
  rw [e14]
  exact zk rfl ⟨trivial, trivial⟩ (rfl) rfl

theorem zjI {g : zdd} : zaQ g = true ↔ (1 ≤ g.W ∧ g.W ≤ 256) ∧ (1 ≤ g.H ∧ g.H ≤ 256) ∧ (g.Wall.length : Int) = IntKind.i64.wrap (g.W * g.H) := by
  unfold zaQ
  repeat' split
  all_goals (simp; try omega)
theorem zlg (g : zdd) : zaQ g = zb1 g := by rw [Bool.eq_iff_iff, zjI, zgS]
theorem zj4 (g : zdd) (p : GPos) : zcw g p = zeK g p := by
  unfold zcw zeK zdb
  rw [zlg]
theorem zr6 {g : zdd} {p : GPos} (h : zcw g p = true) : 0 ≤ IntKind.i64.wrap (IntKind.i64.wrap (p.Y * g.W) + p.X) ∧ IntKind.i64.wrap (IntKind.i64.wrap (p.Y * g.W) + p.X) < g.Wall.length := zpM (zj4 g p ▸ h)

def zb0 (g : zdd) (p : GPos) : Bool :=
  if zcw g p = true then (g.Wall.getD ((IntKind.i64.wrap ((IntKind.i64.wrap (p.Y * g.W)) + p.X)).toNat) default) else true
theorem zh2 (g : zdd) (p : GPos) : Ok Tryz.prog 109 [zia g, zpn p] [] (B (zb0 g p)) [] [] := by
 refine Ok.len fun hlen => ?_
 have hl_g_Wall := hlL (n := g.Wall.length) hlen
 refine zx Tryz.func109 rfl ?_
 refine zg rfl (zz (o := .box [_, _, _]) (nx' := 1) rfl rfl rfl trivial (zz (o := .box [_, _]) (nx' := 2) rfl rfl rfl trivial (za rfl (zd (zg rfl (zh (v := (.agg [_, _, _])) rfl rfl (Nat.le_of_ble_eq_true rfl) (zh (v := (.agg [_, _])) rfl rfl (Nat.le_of_ble_eq_true rfl) (zB rfl rfl rfl rfl (zpa g p) rfl rfl rfl (za rfl (zd (zg rfl (za rfl ?_))))))))))))
 refine za rfl (za rfl ?_)
 refine zG rfl (fun h3 => ?_) (fun h3 => ?_)
 ·have g3 : ¬ (zcw g p = true) := zaA (zbA h3)
  refine zf rfl h3 rfl (zf rfl h3 rfl (zf rfl h3 rfl (zf rfl h3 rfl (zf rfl h3 rfl (zf rfl h3 rfl (zf rfl h3 rfl (zf rfl h3 rfl (zf rfl h3 rfl (zf rfl h3 rfl (zf rfl h3 rfl (zf rfl h3 rfl (zo rfl h3 rfl rfl (za rfl (zd (zl ?_)))))))))))))))
  have e4 : zb0 g p = true := by
   unfold zb0
   try dsimp only
   rewrite [if_neg g3]
   all_goals rfl
  rw [e4]
  exact zk rfl ⟨trivial, trivial⟩ (rfl) rfl
 ·have g3 : zcw g p = true := (zbz h3)
  have qg3 := zr6 g3
  refine ze rfl h3 (zh rfl rfl aP0 (ze rfl h3 (za rfl (ze rfl h3 (zh rfl rfl aP0 (ze rfl h3 (za rfl (ze rfl h3 (zh rfl rfl aP0 (ze rfl h3 (za rfl (ze rfl h3 (zi rfl rfl rfl rfl rfl trivial (ze rfl h3 (zh rfl rfl aP0 (ze rfl h3 (za rfl ?_)))))))))))))))))
  refine ze rfl h3 (zi rfl rfl rfl rfl rfl trivial (ze rfl h3 ?_))
  have jk5 : (IntKind.i64.wrap ((IntKind.i64.wrap (p.Y * g.W)) + p.X)).toNat < g.Wall.length := by first | assumption | omega | (simp only [List.length_set, List.length_append]; omega) | (simp only [IntKind.wrap_i64] at *; omega) | (simp; omega) | simp_all
  refine zeF (k := (IntKind.i64.wrap ((IntKind.i64.wrap (p.Y * g.W)) + p.X)).toNat) rfl rfl (Int.toNat_of_nonneg aP14).symm rfl rfl jk5 (zgl jk5) rfl ?_
  refine ze rfl h3 (zO rfl rfl rfl (ze8 (zaE jk5)) rfl (zn rfl h3 rfl rfl (za rfl (zd (zl ?_)))))
  have e7 : zb0 g p = (g.Wall.getD ((IntKind.i64.wrap ((IntKind.i64.wrap (p.Y * g.W)) + p.X)).toNat) default) := by
   unfold zb0
   try dsimp only
   rewrite [if_pos g3]
   all_goals rfl
  rw [e7]
  exact zk rfl ⟨trivial, trivial⟩ (rfl) rfl

def zR (n : Int) (least : Int) : Bool :=
  if (n : Int) ≥ least then (decide ((n : Int) ≤ 1000000)) else false
theorem zaP (n : Int) (least : Int) : Ok Tryz.prog 128 [I n, I least] [] (B (zR n least)) [] [] := by
 refine zx Tryz.func128 rfl ?_
 refine zg rfl (za rfl (zd (zg rfl (za rfl (za rfl (zi rfl rfl rfl rfl rfl trivial (za rfl ?_)))))))
 refine zG rfl (fun h4 => ?_) (fun h4 => ?_)
 ·have g4 : (n : Int) ≥ least := of_decide_eq_true h4
  refine ze rfl h4 (za rfl (ze rfl h4 (zi rfl rfl rfl rfl rfl trivial (zo rfl h4 rfl rfl (za rfl (zd (zl ?_)))))))
  have e6 : zR n least = (decide ((n : Int) ≤ 1000000)) := by
   unfold zR
   try dsimp only
   rewrite [if_pos g4]
   all_goals rfl
  rw [e6]
  exact zk rfl ⟨trivial, trivial⟩ (rfl) rfl
 ·have g4 : ¬ ((n : Int) ≥ least) := of_decide_eq_false h4
  refine zf rfl h4 rfl (zf rfl h4 rfl (zn rfl h4 rfl rfl (za rfl (zd (zl ?_)))))
  have e7 : zR n least = false := by
   unfold zR
   try dsimp only
   rewrite [if_neg g4]
   all_goals rfl
  rw [e7]
  exact zk rfl ⟨trivial, trivial⟩ (rfl) rfl

def zeL (a : zI) : zI :=
  a
theorem zlL (a : zI) (hE : a.Effects.length ≤ 16777216) : Ok Tryz.prog 22 [zaX a] [] (zaX (zeL a)) [] [] := by
 refine Ok.len fun hlen => ?_
 have hl_a_Effects := hlL (n := a.Effects.length) hlen
 refine zx Tryz.func22 rfl ?_
 refine zg rfl (zz (o := .box [_, _, _, _, _, _, _, _]) (nx' := 1) rfl rfl rfl trivial (zz (o := .box [_, _, _, _, _, _, _, _]) (nx' := 2) rfl rfl rfl trivial (zd (zg rfl (zh rfl rfl ⟨by decide, rfl⟩ (zh rfl rfl aP0 (za rfl ?_)))))))
 refine zbO (m := a.Effects.length) (new := a.Effects.flatMap zN) (cs' := a.Effects.flatMap zN) (n' := a.Effects.length) rfl rfl (rfl) rfl rfl rfl rfl rfl rfl (zaZ (s := 3) (enc := zN) (fun _ => rfl) a.Effects) aP3 rfl rfl rfl rfl ?_
 refine zh rfl rfl aP0 ?_
 refine zH (H' := [(2, _), (1, _), (0, .box [_, _, _, _, _, _, _, _])]) rfl rfl rfl rfl rfl rfl (.inl rfl) rfl ?_
 refine zd (zg rfl (zh (v := (.agg [_, _, _, _, _, _, _, _])) rfl rfl (Nat.le_of_ble_eq_true rfl) ?_))
 refine zH (H' := [(2, _), (1, .box [_, _, _, _, _, _, _, _]), (0, _)]) rfl rfl rfl rfl rfl rfl (.inl rfl) rfl ?_
 refine zd ?_
 refine zbq (zD.freezeJ (T' := [(2, .ptr 1 0)]) (H' := [(1, .box [I a.Id, I a.Cast, I a.Cool, I a.Charges, I a.Range, I a.Cost, B a.Sight, .pv (.slc a.Effects.length false (a.Effects.flatMap zN))])]) [2] aP0 ⟨⟨_, _, rfl, rfl, aP15⟩, trivial⟩ ⟨⟨rfl, _, _, rfl, rfl, aP15⟩, trivial⟩) ?_
 refine zl ?_
 have e1 : zeL a = a := by
  unfold zeL
  try dsimp only
  all_goals rfl
 rw [e1]
 exact zk rfl ⟨Nat.le_of_ble_eq_true rfl, trivial⟩ (rfl) rfl

def zbW (id : Int) : List zI → Nat → Sum (zI × Bool) Unit
  | [], k0 => .inr ()
  | x0 :: l_, k0 => if (x0.Id : Int) = id then .inl ((zeL x0), true) else zbW id l_ (k0 + 1)
def zjC (c : zA) (id : Int) : zI × Bool :=
  (match zbW id c.Abilities 0 with
    | .inl r_ => r_
    | .inr () => ((⟨0, 0, 0, 0, 0, 0, false, []⟩ : zI), false))
theorem aP18 {p : Prop} (h : p := by first | assumption | exact Few9.eff (by assumption) _ (List.mem_of_getElem? (by assumption)) | omega | simp_all) : p := h
theorem ztp (c : zA) (id : Int) (hF : Few9 c) : Ok Tryz.prog 142 [zak c, I id] [] (.tup [zaX (zjC c id).1, B (zjC c id).2]) [] [] := by
 refine Ok.len fun hlen => ?_
 have hl_c_Abilities := hlL (n := c.Abilities.length) hlen
 have hl_c_Auras := hlL (n := c.Auras.length) hlen
 have hl_c_Foes := hlL (n := c.Foes.length) hlen
 have hl_c_Map_Wall := hlL (n := c.Map.Wall.length) hlen
 refine zx Tryz.func142 rfl ?_
 refine zg rfl (zz (o := .box [_, _, _, _, _, _, _, _, _, _]) (nx' := 1) rfl rfl rfl trivial (zz (o := .box [_, _, _, _, _, _, _, _]) (nx' := 2) rfl rfl rfl trivial (za rfl (zd (zm (zg rfl (za rfl (zd ?_))))))))
 refine zX (fun w_ : Unit => match w_ with | () => (⟨[(4, .ptr 0 0)], [(0, .box [I 0, I 0, I 0, I 0, I 0, I 0, B false, .pv (.slc 0 true [])])], 1, [], 29, 0⟩ : St)) (fun w_ => zbW id c.Abilities 0 = .inr w_) ?_ ?_
 ·refine zw ?_
  refine z1 (fun k0 : Nat => (⟨[(1, I id), (2, .ptr 0 0), (4, .ptr 1 0), (6, I k0)], [(0, .box [.pv (.slc c.Abilities.length false (c.Abilities.flatMap zj)), .pv (.slc c.Auras.length false (c.Auras.flatMap zp)), .pv (.slc c.Foes.length false (c.Foes.flatMap zC)), I c.Map.W, I c.Map.H, .pv (.slc c.Map.Wall.length false (encB c.Map.Wall)), I c.Door.X, I c.Door.Y, I c.Lair.X, I c.Lair.Y]), (1, .box [I 0, I 0, I 0, I 0, I 0, I 0, B false, .pv (.slc 0 true [])])], 2, [], 29, 0⟩ : St)) (fun k0 : Nat => zbW id (c.Abilities.drop k0) k0 = zbW id c.Abilities 0 ∧ k0 ≤ c.Abilities.length) (fun k0 : Nat => c.Abilities.length - k0) 0 (⟨rfl, Nat.zero_le _⟩) ?_ (fun k0 hh_ => ?_)
  ·exact (zD.ren [] aP1 aP1 rfl ⟨⟨rfl, rfl⟩, ⟨rfl, rfl⟩, ⟨rfl, rfl⟩, ⟨rfl, rfl⟩, trivial⟩ ⟨⟨rfl, rfl, rfl⟩, ⟨rfl, rfl, rfl⟩, trivial⟩ aP0)
  obtain ⟨hI0, hb0⟩ := hh_
  refine zm (zg rfl (za rfl (zh rfl rfl aP0 (za rfl (za rfl (zi rfl rfl rfl rfl rfl trivial (zd ?_)))))))
  refine zr rfl (fun h3 => ?_) (fun h3 => ?_)
  ·have g3 : (k0 : Int) < c.Abilities.length := of_decide_eq_true h3
   have hk0 : k0 < c.Abilities.length := by omega
   obtain ⟨x0, hx0⟩ : ∃ z_, c.Abilities[k0]? = some z_ := ⟨_, List.getElem?_eq_getElem hk0⟩
   refine zt (zu (zm (zw (zg rfl (zh rfl rfl aP0 (za rfl (za rfl (zJ (k := k0) rfl rfl rfl rfl hk0 (z3 (s := 8) (enc := zj) (fun _ => rfl) aP0 hk0) rfl (zh rfl rfl aP0 (zO rfl rfl rfl (zb7 (s := 8) (enc := zj) (fun _ => rfl) hx0 (o := 0) rfl aP0) rfl (za rfl (zi rfl rfl rfl rfl rfl trivial (zd ?_)))))))))))))
   refine zr rfl (fun h5 => ?_) (fun h5 => ?_)
   ·have g5 : (x0.Id : Int) = id := zd5 h5
    refine zg rfl (zh rfl rfl aP0 (za rfl (za rfl (zJ (k := k0) rfl rfl rfl rfl hk0 (z3 (s := 8) (enc := zj) (fun _ => rfl) aP0 hk0) rfl (zF rfl rfl rfl (zai (s := 8) (enc := zj) (fun _ => rfl) hk0) (zZ (s := 8) (enc := zj) (fun _ => rfl) hx0) rfl ?_)))))
    refine zB rfl rfl rfl rfl (zlL x0 aP18) rfl rfl rfl ?_
    refine zH (H' := [(0, _), (1, .box [_, _, _, _, _, _, _, _])]) rfl rfl rfl rfl rfl rfl (.inl rfl) rfl ?_
    refine za rfl (zd (zl (z8 (zE (zbm (z8 (zaz (zE ?_))))))))
    have e6 : zbW id c.Abilities 0 = .inl ((zeL x0), true) := by
     rewrite [← hI0, zT hx0]
     rewrite [zbW]
     try dsimp only
     rewrite [if_pos g5]
     all_goals rfl
    have e7 : zjC c id = ((zeL x0), true) := by
     unfold zjC
     try dsimp only
     rewrite [e6]
     try dsimp only
     all_goals rfl
    rw [e7]
    exact zk rfl ⟨Nat.le_of_ble_eq_true rfl, trivial, trivial⟩ (rfl) rfl
   ·have g5 : ¬ ((x0.Id : Int) = id) := zed h5
    refine zt (zal (zu (zy rfl (za rfl (zi rfl rfl rfl rfl rfl trivial (za rfl (zq ?_)))))))
    have e9 : zbW id (c.Abilities.drop k0) k0 = zbW id (c.Abilities.drop (k0 + 1)) (k0 + 1) := by
     rewrite [zT hx0]
     rewrite [zbW]
     try dsimp only
     rewrite [if_neg g5]
     all_goals rfl
    exact zQ (k0 + 1) ⟨e9.symm.trans hI0, hk0⟩ (by show c.Abilities.length - (k0 + 1) < c.Abilities.length - k0; omega) (zD.ren [] aP1 aP1 rfl ⟨⟨rfl, rfl⟩, ⟨rfl, rfl⟩, ⟨rfl, rfl⟩, ⟨congrArg (fun n => some (I n)) (zbS (k := k0) aP2), rfl⟩, trivial⟩ ⟨⟨rfl, rfl, rfl⟩, ⟨rfl, rfl, rfl⟩, trivial⟩ aP0)
  ·have g3 : ¬ ((k0 : Int) < c.Abilities.length) := of_decide_eq_false h3
   have hk0 : k0 = c.Abilities.length := by omega
   refine zS (z5 (zag (zaf rfl ?_)))
   have e10 : zbW id c.Abilities 0 = .inr () := by
    rewrite [← hI0, hk0, List.drop_length]
    rewrite [zbW]
    try dsimp only
    all_goals rfl
   exact z0 () e10 (zD.ren [(0, 1), (1, 0)] aP1 aP1 rfl ⟨⟨rfl, rfl⟩, trivial⟩ ⟨⟨rfl, rfl, rfl⟩, trivial⟩ aP0)
 ·rintro ⟨⟩ (hJ1 : zbW id c.Abilities 0 = .inr ())
  refine zu (zg rfl (zh (v := (.agg [_, _, _, _, _, _, _, _])) rfl rfl trivial ?_))
  refine zH (H' := [(0, .box [_, _, _, _, _, _, _, _])]) rfl rfl rfl rfl rfl rfl (.inl rfl) rfl ?_
  refine za rfl (zd ?_)
  refine zbq (zD.loose (T' := [(4, .ptr 0 0), (5, B false)]) (H' := [(0, .box [I 0, I 0, I 0, I 0, I 0, I 0, B false, .pv (.slc 0 false [])])]) ⟨⟨_, rfl, .inl rfl⟩, ⟨_, rfl, .inl rfl⟩, trivial⟩ ⟨⟨_, rfl, .inr rfl⟩, trivial⟩) ?_
  refine zl ?_
  have e11 : zjC c id = ((⟨0, 0, 0, 0, 0, 0, false, []⟩ : zI), false) := by
   unfold zjC
   try dsimp only
   rewrite [hJ1]
   try dsimp only
   all_goals rfl
  rw [e11]
  exact zk rfl ⟨Nat.le_of_ble_eq_true rfl, trivial, trivial⟩ (rfl) rfl

def zbx (x0 : zaJ) : Sum Bool Unit :=
  if (x0.Kind : Int) = 4 then .inr () else if (x0.Aura : Int) = 0 then .inr () else .inl false
def z2 (c : zA) : List zaJ → Nat → Sum Bool Unit
  | [], k0 => .inr ()
  | x0 :: l_, k0 => if (x0.Kind : Int) < 1 then .inl false else if (x0.Kind : Int) > 7 then .inl false else if zR x0.Amount 0 = true then (match zbx x0 with
    | .inl r_ => .inl r_
    | .inr () => if (x0.Kind : Int) = 4 then (if (zi9 c x0.Aura).2 = true then (if (x0.Amount : Int) = 0 then z2 c l_ (k0 + 1) else .inl false) else .inl false) else z2 c l_ (k0 + 1)) else .inl false
def zad (c : zA) (a : zI) : Bool :=
  if zR a.Cast 0 = true then (if zR a.Cool 0 = true then (if zR a.Range 0 = true then (if zR a.Cost 0 = true then (if (a.Charges : Int) < 1 then false else if (a.Charges : Int) > 100 then false else if (a.Effects.length : Int) < 1 then false else if (a.Effects.length : Int) > 16 then false else (match z2 c a.Effects 0 with
    | .inl r_ => r_
    | .inr () => true)) else false) else false) else false) else false
theorem zmY (c : zA) (a : zI) : Ok Tryz.prog 105 [zak c, zaX a] [] (B (zad c a)) [] [] := by
 refine Ok.len fun hlen => ?_
 have hl_c_Abilities := hlL (n := c.Abilities.length) hlen
 have hl_c_Auras := hlL (n := c.Auras.length) hlen
 have hl_c_Foes := hlL (n := c.Foes.length) hlen
 have hl_c_Map_Wall := hlL (n := c.Map.Wall.length) hlen
 have hl_a_Effects := hlL (n := a.Effects.length) hlen
 refine zx Tryz.func105 rfl ?_
 refine zg rfl (zz (o := .box [_, _, _, _, _, _, _, _, _, _]) (nx' := 1) rfl rfl rfl trivial (zz (o := .box [_, _, _, _, _, _, _, _]) (nx' := 2) rfl rfl rfl trivial (za rfl (zd (zm (zg rfl (zh rfl rfl aP0 (za rfl (zB rfl rfl rfl rfl (zaP a.Cast 0) rfl rfl rfl (za rfl (za rfl ?_)))))))))))
 refine zG rfl (fun h2 => ?_) (fun h2 => ?_)
 ·have g2 : ¬ (zR a.Cast 0 = true) := zaA (zbA h2)
  refine zf rfl h2 rfl (zf rfl h2 rfl (zf rfl h2 rfl (zf rfl h2 rfl (zo rfl h2 rfl rfl (za rfl (zc rfl (zc rfl (zc rfl (zc rfl (za rfl (za rfl (zc rfl (zc rfl (zc rfl (zc rfl (za rfl (za rfl ?_)))))))))))))))))
  refine zc rfl (zc rfl (zc rfl (za rfl (za rfl (zc rfl (zc rfl (zc rfl (za rfl (za rfl (zc rfl (zc rfl (zc rfl (zc rfl (za rfl (za rfl (zc rfl (zc rfl ?_)))))))))))))))))
  refine zc rfl (zc rfl (za rfl (zd (zK rfl (zg rfl (za rfl (zd (zl (zE ?_)))))))))
  have e3 : zad c a = false := by
   unfold zad
   try dsimp only
   rewrite [if_neg g2]
   all_goals rfl
  rw [e3]
  exact zk rfl ⟨trivial, trivial⟩ (rfl) rfl
 ·have g2 : zR a.Cast 0 = true := (zbz h2)
  refine ze rfl h2 (zh rfl rfl aP0 (ze rfl h2 (za rfl (ze rfl h2 (zB rfl rfl rfl rfl (zaP a.Cool 0) rfl rfl rfl (ze rfl h2 (za rfl (zn rfl h2 rfl rfl (za rfl ?_)))))))))
  refine zG rfl (fun h5 => ?_) (fun h5 => ?_)
  ·have g5 : ¬ (zR a.Cool 0 = true) := zaA (zbA h5)
   refine zf rfl h5 rfl (zf rfl h5 rfl (zf rfl h5 rfl (zf rfl h5 rfl (zo rfl h5 rfl rfl (za rfl (zc rfl (zc rfl (zc rfl (zc rfl (za rfl (za rfl (zc rfl (zc rfl (zc rfl (za rfl (za rfl (zc rfl ?_)))))))))))))))))
   refine zc rfl (zc rfl (za rfl (za rfl (zc rfl (zc rfl (zc rfl (zc rfl (za rfl (za rfl (zc rfl (zc rfl (zc rfl (zc rfl (za rfl (zd (zK rfl ?_))))))))))))))))
   refine zg rfl (za rfl (zd (zl (zE ?_))))
   have e6 : zad c a = false := by
    unfold zad
    try dsimp only
    rewrite [if_pos g2, if_neg g5]
    all_goals rfl
   rw [e6]
   exact zk rfl ⟨trivial, trivial⟩ (rfl) rfl
  ·have g5 : zR a.Cool 0 = true := (zbz h5)
   refine ze rfl h5 (zh rfl rfl aP0 (ze rfl h5 (za rfl (ze rfl h5 (zB rfl rfl rfl rfl (zaP a.Range 0) rfl rfl rfl (ze rfl h5 (za rfl (zn rfl h5 rfl rfl (za rfl ?_)))))))))
   refine zG rfl (fun h8 => ?_) (fun h8 => ?_)
   ·have g8 : ¬ (zR a.Range 0 = true) := zaA (zbA h8)
    refine zf rfl h8 rfl (zf rfl h8 rfl (zf rfl h8 rfl (zf rfl h8 rfl (zo rfl h8 rfl rfl (za rfl (zc rfl (zc rfl (zc rfl (za rfl (za rfl (zc rfl (zc rfl (zc rfl (za rfl (za rfl (zc rfl (zc rfl ?_)))))))))))))))))
    refine zc rfl (zc rfl (za rfl (za rfl (zc rfl (zc rfl (zc rfl (zc rfl (za rfl (zd (zK rfl (zg rfl (za rfl (zd (zl ?_))))))))))))))
    refine zE ?_
    have e9 : zad c a = false := by
     unfold zad
     try dsimp only
     rewrite [if_pos g2, if_pos g5, if_neg g8]
     all_goals rfl
    rw [e9]
    exact zk rfl ⟨trivial, trivial⟩ (rfl) rfl
   ·have g8 : zR a.Range 0 = true := (zbz h8)
    refine ze rfl h8 (zh rfl rfl aP0 (ze rfl h8 (za rfl (ze rfl h8 (zB rfl rfl rfl rfl (zaP a.Cost 0) rfl rfl rfl (ze rfl h8 (za rfl (zn rfl h8 rfl rfl (za rfl ?_)))))))))
    refine zG rfl (fun h11 => ?_) (fun h11 => ?_)
    ·have g11 : ¬ (zR a.Cost 0 = true) := zaA (zbA h11)
     refine zf rfl h11 rfl (zf rfl h11 rfl (zf rfl h11 rfl (zo rfl h11 rfl rfl (za rfl (zc rfl (zc rfl (zc rfl (za rfl (za rfl (zc rfl (zc rfl (zc rfl (zc rfl (za rfl (za rfl (zc rfl (zc rfl ?_)))))))))))))))))
     refine zc rfl (zc rfl (za rfl (zd (zK rfl (zg rfl (za rfl (zd (zl (zE ?_)))))))))
     have e12 : zad c a = false := by
      unfold zad
      try dsimp only
      rewrite [if_pos g2, if_pos g5, if_pos g8, if_neg g11]
      all_goals rfl
     rw [e12]
     exact zk rfl ⟨trivial, trivial⟩ (rfl) rfl
    ·have g11 : zR a.Cost 0 = true := (zbz h11)
     refine ze rfl h11 (zh rfl rfl aP0 (ze rfl h11 (za rfl (ze rfl h11 (zi rfl rfl rfl rfl rfl trivial (zn rfl h11 rfl rfl (za rfl ?_)))))))
     refine zG rfl (fun h14 => ?_) (fun h14 => ?_)
     ·have g14 : (a.Charges : Int) < 1 := of_decide_eq_true h14
      refine zf rfl h14 rfl (zf rfl h14 rfl (zf rfl h14 rfl (zo rfl h14 rfl rfl (za rfl (zc rfl (zc rfl (zc rfl (zc rfl (za rfl (za rfl (zc rfl (zc rfl (zc rfl (zc rfl (za rfl (zd ?_))))))))))))))))
      refine zK rfl (zg rfl (za rfl (zd (zl (zE ?_)))))
      have e15 : zad c a = false := by
       unfold zad
       try dsimp only
       rewrite [if_pos g2, if_pos g5, if_pos g8, if_pos g11, if_pos g14]
       all_goals rfl
      rw [e15]
      exact zk rfl ⟨trivial, trivial⟩ (rfl) rfl
     ·have g14 : ¬ ((a.Charges : Int) < 1) := of_decide_eq_false h14
      refine ze rfl h14 (zh rfl rfl aP0 (ze rfl h14 (za rfl (ze rfl h14 (zi rfl rfl rfl rfl rfl trivial (zn rfl h14 rfl rfl (za rfl ?_)))))))
      refine zG rfl (fun h17 => ?_) (fun h17 => ?_)
      ·have g17 : (a.Charges : Int) > 100 := of_decide_eq_true h17
       refine zf rfl h17 rfl (zf rfl h17 rfl (zf rfl h17 rfl (zf rfl h17 rfl (zo rfl h17 rfl rfl (za rfl (zc rfl (zc rfl (zc rfl (zc rfl (za rfl (zd (zK rfl (zg rfl (za rfl (zq ?_)))))))))))))))
       refine zu (zl (zE ?_))
       have e18 : zad c a = false := by
        unfold zad
        try dsimp only
        rewrite [if_pos g2, if_pos g5, if_pos g8, if_pos g11, if_neg g14, if_pos g17]
        all_goals rfl
       rw [e18]
       exact zk rfl ⟨trivial, trivial⟩ (rfl) rfl
      ·have g17 : ¬ ((a.Charges : Int) > 100) := of_decide_eq_false h17
       refine ze rfl h17 (zh rfl rfl aP0 (ze rfl h17 (za rfl (ze rfl h17 (za rfl (ze rfl h17 (zi rfl rfl rfl rfl rfl trivial (zn rfl h17 rfl rfl (za rfl ?_)))))))))
       refine zG rfl (fun h20 => ?_) (fun h20 => ?_)
       ·have g20 : (a.Effects.length : Int) < 1 := of_decide_eq_true h20
        refine zf rfl h20 rfl (zf rfl h20 rfl (zf rfl h20 rfl (zf rfl h20 rfl (zo rfl h20 rfl rfl (zd (zK rfl (zg rfl (za rfl (zd (zl (zE ?_)))))))))))
        have e21 : zad c a = false := by
         unfold zad
         try dsimp only
         rewrite [if_pos g2, if_pos g5, if_pos g8, if_pos g11, if_neg g14, if_neg g17, if_pos g20]
         all_goals rfl
        rw [e21]
        exact zk rfl ⟨trivial, trivial⟩ (rfl) rfl
       ·have g20 : ¬ ((a.Effects.length : Int) < 1) := of_decide_eq_false h20
        refine ze rfl h20 (zh rfl rfl aP0 (ze rfl h20 (za rfl (ze rfl h20 (za rfl (ze rfl h20 (zi rfl rfl rfl rfl rfl trivial (zn rfl h20 rfl rfl (zd ?_)))))))))
        refine zr rfl (fun h23 => ?_) (fun h23 => ?_)
        ·have g23 : (a.Effects.length : Int) > 16 := of_decide_eq_true h23
         refine zg rfl (za rfl (zd (zl (zE ?_))))
         have e24 : zad c a = false := by
          unfold zad
          try dsimp only
          rewrite [if_pos g2, if_pos g5, if_pos g8, if_pos g11, if_neg g14, if_neg g17, if_neg g20, if_pos g23]
          all_goals rfl
         rw [e24]
         exact zk rfl ⟨trivial, trivial⟩ (rfl) rfl
        ·have g23 : ¬ ((a.Effects.length : Int) > 16) := of_decide_eq_false h23
         refine zt (zu (zm (zg rfl (za rfl (zd ?_)))))
         refine zX (fun w_ : Unit => match w_ with | () => (⟨[], [], 0, [], 104, 0⟩ : St)) (fun w_ => z2 c a.Effects 0 = .inr w_) ?_ ?_
         ·refine zw ?_
          refine z1 (fun k0 : Nat => (⟨[(2, .ptr 0 0), (3, .ptr 1 0), (5, I k0)], [(0, .box [.pv (.slc c.Abilities.length false (c.Abilities.flatMap zj)), .pv (.slc c.Auras.length false (c.Auras.flatMap zp)), .pv (.slc c.Foes.length false (c.Foes.flatMap zC)), I c.Map.W, I c.Map.H, .pv (.slc c.Map.Wall.length false (encB c.Map.Wall)), I c.Door.X, I c.Door.Y, I c.Lair.X, I c.Lair.Y]), (1, .box [I a.Id, I a.Cast, I a.Cool, I a.Charges, I a.Range, I a.Cost, B a.Sight, .pv (.slc a.Effects.length false (a.Effects.flatMap zN))])], 2, [], 104, 0⟩ : St)) (fun k0 : Nat => z2 c (a.Effects.drop k0) k0 = z2 c a.Effects 0 ∧ k0 ≤ a.Effects.length) (fun k0 : Nat => a.Effects.length - k0) 0 (⟨rfl, Nat.zero_le _⟩) ?_ (fun k0 hh_ => ?_)
          ·exact (zD.ren [] aP1 aP1 rfl ⟨⟨rfl, rfl⟩, ⟨rfl, rfl⟩, ⟨rfl, rfl⟩, trivial⟩ ⟨⟨rfl, rfl, rfl⟩, ⟨rfl, rfl, rfl⟩, trivial⟩ aP0)
          obtain ⟨hI0, hb0⟩ := hh_
          refine zm (zg rfl (za rfl (zh rfl rfl aP0 (za rfl (za rfl (zi rfl rfl rfl rfl rfl trivial (zd ?_)))))))
          refine zr rfl (fun h27 => ?_) (fun h27 => ?_)
          ·have g27 : (k0 : Int) < a.Effects.length := of_decide_eq_true h27
           have hk0 : k0 < a.Effects.length := by omega
           obtain ⟨x0, hx0⟩ : ∃ z_, a.Effects[k0]? = some z_ := ⟨_, List.getElem?_eq_getElem hk0⟩
           refine zt (zu (zm (zw (zg rfl (zh rfl rfl aP0 (za rfl (za rfl (zJ (k := k0) rfl rfl rfl rfl hk0 (z3 (s := 3) (enc := zN) (fun _ => rfl) aP0 hk0) rfl (zF rfl rfl rfl (zai (s := 3) (enc := zN) (fun _ => rfl) hk0) (zZ (s := 3) (enc := zN) (fun _ => rfl) hx0) rfl (zz (o := .box [_, _, _]) (nx' := 3) rfl rfl rfl trivial ?_))))))))))
           refine zH (H' := [(2, .box [_, _, _]), (0, _), (1, _)]) rfl rfl rfl rfl rfl rfl (.inl rfl) rfl ?_
           refine zd (zm (zg rfl (zh rfl rfl aP0 (za rfl (zi rfl rfl rfl rfl rfl trivial (za rfl ?_))))))
           refine zG rfl (fun h29 => ?_) (fun h29 => ?_)
           ·have g29 : (x0.Kind : Int) < 1 := of_decide_eq_true h29
            refine zf rfl h29 rfl (zf rfl h29 rfl (zf rfl h29 rfl (zo rfl h29 rfl rfl (za rfl (zc rfl (zc rfl (zc rfl (zc rfl (za rfl (zd (zK rfl (zg rfl (za rfl (zd ?_))))))))))))))
            refine zl (zE (z8 (zE (zbm (z8 (zaz (zE ?_)))))))
            have e30 : z2 c a.Effects 0 = .inl false := by
             rewrite [← hI0, zT hx0]
             rewrite [z2]
             try dsimp only
             rewrite [if_pos g29]
             all_goals rfl
            have e31 : zad c a = false := by
             unfold zad
             try dsimp only
             rewrite [if_pos g2, if_pos g5, if_pos g8, if_pos g11, if_neg g14, if_neg g17, if_neg g20, if_neg g23, e30]
             try dsimp only
             all_goals rfl
            rw [e31]
            exact zk rfl ⟨trivial, trivial⟩ (rfl) rfl
           ·have g29 : ¬ ((x0.Kind : Int) < 1) := of_decide_eq_false h29
            refine ze rfl h29 (zh rfl rfl aP0 (ze rfl h29 (za rfl (ze rfl h29 (zi rfl rfl rfl rfl rfl trivial (zn rfl h29 rfl rfl (za rfl ?_)))))))
            refine zG rfl (fun h33 => ?_) (fun h33 => ?_)
            ·have g33 : (x0.Kind : Int) > 7 := of_decide_eq_true h33
             refine zf rfl h33 rfl (zf rfl h33 rfl (zf rfl h33 rfl (zf rfl h33 rfl (zo rfl h33 rfl rfl (zd (zK rfl (zg rfl (za rfl (zd (zl (zE (z8 (zE (zbm ?_))))))))))))))
             refine z8 (zaz (zE ?_))
             have e34 : z2 c a.Effects 0 = .inl false := by
              rewrite [← hI0, zT hx0]
              rewrite [z2]
              try dsimp only
              rewrite [if_neg g29, if_pos g33]
              all_goals rfl
             have e35 : zad c a = false := by
              unfold zad
              try dsimp only
              rewrite [if_pos g2, if_pos g5, if_pos g8, if_pos g11, if_neg g14, if_neg g17, if_neg g20, if_neg g23, e34]
              try dsimp only
              all_goals rfl
             rw [e35]
             exact zk rfl ⟨trivial, trivial⟩ (rfl) rfl
            ·have g33 : ¬ ((x0.Kind : Int) > 7) := of_decide_eq_false h33
             refine ze rfl h33 (zh rfl rfl aP0 (ze rfl h33 (za rfl (ze rfl h33 (zB rfl rfl rfl rfl (zaP x0.Amount 0) rfl rfl rfl (ze rfl h33 (za rfl (zn rfl h33 rfl rfl (zd ?_)))))))))
             refine zr rfl (fun h37 => ?_) (fun h37 => ?_)
             ·have g37 : ¬ (zR x0.Amount 0 = true) := zaA (zbA h37)
              refine zg rfl (za rfl (zd (zl (zE (z8 (zE (zbm (z8 (zaz (zE ?_))))))))))
              have e38 : z2 c a.Effects 0 = .inl false := by
               rewrite [← hI0, zT hx0]
               rewrite [z2]
               try dsimp only
               rewrite [if_neg g29, if_neg g33, if_neg g37]
               all_goals rfl
              have e39 : zad c a = false := by
               unfold zad
               try dsimp only
               rewrite [if_pos g2, if_pos g5, if_pos g8, if_pos g11, if_neg g14, if_neg g17, if_neg g20, if_neg g23, e38]
               try dsimp only
               all_goals rfl
              rw [e39]
              exact zk rfl ⟨trivial, trivial⟩ (rfl) rfl
             ·have g37 : zR x0.Amount 0 = true := (zbz h37)
              refine zt (zu (zm ?_))
              refine zX (fun w_ : Unit => match w_ with | () => (⟨[(2, .ptr 0 0), (3, .ptr 1 0), (5, I k0), (6, .ptr 2 0)], [(0, .box [.pv (.slc c.Abilities.length false (c.Abilities.flatMap zj)), .pv (.slc c.Auras.length false (c.Auras.flatMap zp)), .pv (.slc c.Foes.length false (c.Foes.flatMap zC)), I c.Map.W, I c.Map.H, .pv (.slc c.Map.Wall.length false (encB c.Map.Wall)), I c.Door.X, I c.Door.Y, I c.Lair.X, I c.Lair.Y]), (1, .box [I a.Id, I a.Cast, I a.Cool, I a.Charges, I a.Range, I a.Cost, B a.Sight, .pv (.slc a.Effects.length false (a.Effects.flatMap zN))]), (2, .box [I x0.Kind, I x0.Amount, I x0.Aura])], 3, [], 104, 0⟩ : St)) (fun w_ => zbx x0 = .inr w_) ?_ ?_
              ·refine zg rfl (zh rfl rfl aP0 (za rfl (zi rfl rfl rfl rfl rfl trivial (za rfl ?_))))
               refine zG rfl (fun h42 => ?_) (fun h42 => ?_)
               ·have g42 : ¬ ((x0.Kind : Int) = 4) := zc9 h42
                refine ze rfl h42 (zh rfl rfl aP0 (ze rfl h42 (za rfl (ze rfl h42 (zi rfl rfl rfl rfl rfl trivial (zo rfl h42 rfl rfl (zd ?_)))))))
                refine zr rfl (fun h44 => ?_) (fun h44 => ?_)
                ·have g44 : ¬ ((x0.Aura : Int) = 0) := zc9 h44
                 refine zg rfl (za rfl (zd (zl (zaz (zE (z8 (zE (zbm (z8 (zaz (zE ?_)))))))))))
                 have e45 : zbx x0 = .inl false := by
                  unfold zbx
                  try dsimp only
                  rewrite [if_neg g42, if_neg g44]
                  all_goals rfl
                 have e46 : z2 c a.Effects 0 = .inl false := by
                  rewrite [← hI0, zT hx0]
                  rewrite [z2]
                  try dsimp only
                  rewrite [if_neg g29, if_neg g33, if_pos g37, e45]
                  try dsimp only
                  all_goals rfl
                 have e47 : zad c a = false := by
                  unfold zad
                  try dsimp only
                  rewrite [if_pos g2, if_pos g5, if_pos g8, if_pos g11, if_neg g14, if_neg g17, if_neg g20, if_neg g23, e46]
                  try dsimp only
                  all_goals rfl
                 rw [e47]
                 exact zk rfl ⟨trivial, trivial⟩ (rfl) rfl
                ·have g44 : (x0.Aura : Int) = 0 := zdl h44
                 refine zt ?_
                 have e48 : zbx x0 = .inr () := by
                  unfold zbx
                  try dsimp only
                  rewrite [if_neg g42, if_pos g44]
                  all_goals rfl
                 exact z0 () e48 (zD.ren [] aP1 aP1 rfl ⟨⟨rfl, rfl⟩, ⟨rfl, rfl⟩, ⟨rfl, rfl⟩, ⟨rfl, rfl⟩, trivial⟩ ⟨⟨rfl, rfl, rfl⟩, ⟨rfl, rfl, rfl⟩, ⟨rfl, rfl, rfl⟩, trivial⟩ aP0)
               ·have g42 : (x0.Kind : Int) = 4 := zdl h42
                refine zf rfl h42 rfl (zf rfl h42 rfl (zf rfl h42 rfl (zn rfl h42 rfl rfl (zd (zda rfl (zt ?_))))))
                have e49 : zbx x0 = .inr () := by
                 unfold zbx
                 try dsimp only
                 rewrite [if_pos g42]
                 all_goals rfl
                exact z0 () e49 (zD.ren [] aP1 aP1 rfl ⟨⟨rfl, rfl⟩, ⟨rfl, rfl⟩, ⟨rfl, rfl⟩, ⟨rfl, rfl⟩, trivial⟩ ⟨⟨rfl, rfl, rfl⟩, ⟨rfl, rfl, rfl⟩, ⟨rfl, rfl, rfl⟩, trivial⟩ aP0)
              ·rintro ⟨⟩ (hJ40 : zbx x0 = .inr ())
               refine zu (zg rfl (zh rfl rfl aP0 (za rfl (zi rfl rfl rfl rfl rfl trivial (zd ?_)))))
               refine zr rfl (fun h50 => ?_) (fun h50 => ?_)
               ·have g50 : (x0.Kind : Int) = 4 := zd5 h50
                refine zg rfl (zh (v := (.agg [_, _, _, _, _, _, _, _, _, _])) rfl rfl (Nat.le_of_ble_eq_true rfl) (zh rfl rfl aP0 (za rfl (zB rfl rfl rfl rfl (zs8 c x0.Aura) rfl rfl rfl (za rfl (za rfl (za rfl (zz (o := .box [_, _, _, _, _, _, _]) (nx' := 4) rfl rfl rfl trivial ?_))))))))
                refine zH (H' := [(3, .box [_, _, _, _, _, _, _]), (0, _), (1, _), (2, _)]) rfl rfl rfl rfl rfl rfl (.inl rfl) rfl ?_
                refine za rfl (zd (zg rfl (za rfl (za rfl (za rfl ?_)))))
                refine zG rfl (fun h53 => ?_) (fun h53 => ?_)
                ·have g53 : ¬ ((zi9 c x0.Aura).2 = true) := zaA (zbA h53)
                 refine zf rfl h53 rfl (zf rfl h53 rfl (zf rfl h53 rfl (zo rfl h53 rfl rfl (zd (zK rfl (zg rfl (za rfl (zd (zl (z8 (zE (zbm (z8 (zaz ?_))))))))))))))
                 refine zE ?_
                 have e54 : z2 c a.Effects 0 = .inl false := by
                  rewrite [← hI0, zT hx0]
                  rewrite [z2]
                  try dsimp only
                  rewrite [if_neg g29, if_neg g33, if_pos g37, hJ40]
                  try dsimp only
                  rewrite [if_pos g50, if_neg g53]
                  all_goals rfl
                 have e55 : zad c a = false := by
                  unfold zad
                  try dsimp only
                  rewrite [if_pos g2, if_pos g5, if_pos g8, if_pos g11, if_neg g14, if_neg g17, if_neg g20, if_neg g23, e54]
                  try dsimp only
                  all_goals rfl
                 rw [e55]
                 exact zk rfl ⟨trivial, trivial⟩ (rfl) rfl
                ·have g53 : (zi9 c x0.Aura).2 = true := (zbz h53)
                 refine ze rfl h53 (zh rfl rfl aP0 (ze rfl h53 (za rfl (ze rfl h53 (zi rfl rfl rfl rfl rfl trivial (zn rfl h53 rfl rfl (zd ?_)))))))
                 refine zr rfl (fun h57 => ?_) (fun h57 => ?_)
                 ·have g57 : ¬ ((x0.Amount : Int) = 0) := zc9 h57
                  refine zg rfl (za rfl (zd (zl (z8 (zE (zbm (z8 (zaz (zE ?_)))))))))
                  have e58 : z2 c a.Effects 0 = .inl false := by
                   rewrite [← hI0, zT hx0]
                   rewrite [z2]
                   try dsimp only
                   rewrite [if_neg g29, if_neg g33, if_pos g37, hJ40]
                   try dsimp only
                   rewrite [if_pos g50, if_pos g53, if_neg g57]
                   all_goals rfl
                  have e59 : zad c a = false := by
                   unfold zad
                   try dsimp only
                   rewrite [if_pos g2, if_pos g5, if_pos g8, if_pos g11, if_neg g14, if_neg g17, if_neg g20, if_neg g23, e58]
                   try dsimp only
                   all_goals rfl
                  rw [e59]
                  exact zk rfl ⟨trivial, trivial⟩ (rfl) rfl
                 ·have g57 : (x0.Amount : Int) = 0 := zdl h57
                  refine zt (zal (zu (zy rfl (za rfl (zi rfl rfl rfl rfl rfl trivial (za rfl (zq ?_)))))))
                  have e62 : z2 c (a.Effects.drop k0) k0 = z2 c (a.Effects.drop (k0 + 1)) (k0 + 1) := by
                   rewrite [zT hx0]
                   rewrite [z2]
                   try dsimp only
                   rewrite [if_neg g29, if_neg g33, if_pos g37, hJ40]
                   try dsimp only
                   rewrite [if_pos g50, if_pos g53, if_pos g57]
                   all_goals rfl
                  exact zQ (k0 + 1) ⟨e62.symm.trans hI0, hk0⟩ (by show a.Effects.length - (k0 + 1) < a.Effects.length - k0; omega) (zD.ren [] aP1 aP1 rfl ⟨⟨rfl, rfl⟩, ⟨rfl, rfl⟩, ⟨congrArg (fun n => some (I n)) (zbS (k := k0) aP2), rfl⟩, trivial⟩ ⟨⟨rfl, rfl, rfl⟩, ⟨rfl, rfl, rfl⟩, trivial⟩ aP0)
               ·have g50 : ¬ ((x0.Kind : Int) = 4) := zed h50
                refine zt (zal (zu (zy rfl (za rfl (zi rfl rfl rfl rfl rfl trivial (za rfl (zq ?_)))))))
                have e65 : z2 c (a.Effects.drop k0) k0 = z2 c (a.Effects.drop (k0 + 1)) (k0 + 1) := by
                 rewrite [zT hx0]
                 rewrite [z2]
                 try dsimp only
                 rewrite [if_neg g29, if_neg g33, if_pos g37, hJ40]
                 try dsimp only
                 rewrite [if_neg g50]
                 all_goals rfl
                exact zQ (k0 + 1) ⟨e65.symm.trans hI0, hk0⟩ (by show a.Effects.length - (k0 + 1) < a.Effects.length - k0; omega) (zD.ren [] aP1 aP1 rfl ⟨⟨rfl, rfl⟩, ⟨rfl, rfl⟩, ⟨congrArg (fun n => some (I n)) (zbS (k := k0) aP2), rfl⟩, trivial⟩ ⟨⟨rfl, rfl, rfl⟩, ⟨rfl, rfl, rfl⟩, trivial⟩ aP0)
          ·have g27 : ¬ ((k0 : Int) < a.Effects.length) := of_decide_eq_false h27
           have hk0 : k0 = a.Effects.length := by omega
           refine zS (z5 (zag (zaf rfl ?_)))
           have e66 : z2 c a.Effects 0 = .inr () := by
            rewrite [← hI0, hk0, List.drop_length]
            rewrite [z2]
            try dsimp only
            all_goals rfl
           exact z0 () e66 (zD.ren [] aP1 aP1 rfl trivial trivial aP0)
         ·rintro ⟨⟩ (hJ25 : z2 c a.Effects 0 = .inr ())
          refine zu (zg rfl (za rfl (zd (zl ?_))))
          have e67 : zad c a = true := by
           unfold zad
           try dsimp only
           rewrite [if_pos g2, if_pos g5, if_pos g8, if_pos g11, if_neg g14, if_neg g17, if_neg g20, if_neg g23, hJ25]
           try dsimp only
           all_goals rfl
          rw [e67]
          exact zk rfl ⟨trivial, trivial⟩ (rfl) rfl

def zeo (a : zaI) : Bool :=
  if (a.Kind : Int) = 1 then true else ((a.Kind : Int) == 2)
def zdK (a : zaI) : Bool :=
  if (a.Kind : Int) = 3 then true else ((a.Kind : Int) == 4)
def za4 (a : zaI) (ticks_5 : Bool) : Sum Bool Unit :=
  if ticks_5 = true then (if zR a.Every 1 = true then (if ticks_5 = true then .inr () else if (a.Every : Int) = 0 then .inr () else .inl false) else .inl false) else if ticks_5 = true then .inr () else if (a.Every : Int) = 0 then .inr () else .inl false
def zcV (a : zaI) : Bool :=
  (let ticks_5 := zeo a; (let hundred_13 := zdK a; if (a.Kind : Int) < 1 then false else if (a.Kind : Int) > 6 then false else if zR a.Ticks 1 = true then (if (a.Stacks : Int) < 1 then false else if (a.Stacks : Int) > 100 then false else (match za4 a ticks_5 with
    | .inl r_ => r_
    | .inr () => if hundred_13 = true then (if (a.Amount : Int) ≥ (-100) then (decide ((a.Amount : Int) ≤ 1000)) else false) else (zR a.Amount 0))) else false))
theorem zr9 (a : zaI) : Ok Tryz.prog 107 [zfk a] [] (B (zcV a)) [] [] := by
 refine zx Tryz.func107 rfl ?_
 refine zg rfl (zz (o := .box [_, _, _, _, _, _, _]) (nx' := 1) rfl rfl rfl trivial (za rfl (zd (zm ?_))))
 refine zX (fun ticks_5 : Bool => (⟨[(1, .ptr 0 0), (3, B ticks_5)], [(0, .box [I a.Id, I a.Kind, I a.Ticks, I a.Every, I a.Stacks, I a.Amount, B a.Harm])], 1, [], 73, 0⟩ : St)) (fun w_ => zeo a = w_) ?_ ?_
 ·refine zy rfl (zh rfl rfl aP0 (za rfl (zi rfl rfl rfl rfl rfl trivial (za rfl ?_))))
  refine zG rfl (fun h3 => ?_) (fun h3 => ?_)
  ·have g3 : (a.Kind : Int) = 1 := zd5 h3
   refine zf rfl h3 rfl (zf rfl h3 rfl (zf rfl h3 rfl (zo rfl h3 rfl rfl (za rfl (zq ?_)))))
   have e4 : zeo a = true := by
    unfold zeo
    try dsimp only
    rewrite [if_pos g3]
    all_goals rfl
   exact z0 true e4 (zD.ren [] aP1 aP1 rfl ⟨⟨rfl, rfl⟩, ⟨rfl, rfl⟩, trivial⟩ ⟨⟨rfl, rfl, rfl⟩, trivial⟩ aP0)
  ·have g3 : ¬ ((a.Kind : Int) = 1) := zed h3
   refine ze rfl h3 (zh rfl rfl aP0 (ze rfl h3 (za rfl (ze rfl h3 (zi rfl rfl rfl rfl rfl trivial (zn rfl h3 rfl rfl (za rfl (zq ?_))))))))
   have e6 : zeo a = ((a.Kind : Int) == 2) := by
    unfold zeo
    try dsimp only
    rewrite [if_neg g3]
    all_goals rfl
   exact z0 ((a.Kind : Int) == 2) e6 (zD.ren [] aP1 aP1 rfl ⟨⟨rfl, rfl⟩, ⟨rfl, rfl⟩, trivial⟩ ⟨⟨rfl, rfl, rfl⟩, trivial⟩ aP0)
 ·rintro ticks_5 (hJ1 : zeo a = ticks_5)
  refine zu (zm ?_)
  refine zX (fun hundred_13 : Bool => (⟨[(1, .ptr 0 0), (3, B ticks_5), (4, B hundred_13)], [(0, .box [I a.Id, I a.Kind, I a.Ticks, I a.Every, I a.Stacks, I a.Amount, B a.Harm])], 1, [], 73, 0⟩ : St)) (fun w_ => zdK a = w_) ?_ ?_
  ·refine zy rfl (zh rfl rfl aP0 (za rfl (zi rfl rfl rfl rfl rfl trivial (za rfl ?_))))
   refine zG rfl (fun h9 => ?_) (fun h9 => ?_)
   ·have g9 : (a.Kind : Int) = 3 := zd5 h9
    refine zf rfl h9 rfl (zf rfl h9 rfl (zf rfl h9 rfl (zo rfl h9 rfl rfl (za rfl (zq ?_)))))
    have e10 : zdK a = true := by
     unfold zdK
     try dsimp only
     rewrite [if_pos g9]
     all_goals rfl
    exact z0 true e10 (zD.ren [] aP1 aP1 rfl ⟨⟨rfl, rfl⟩, ⟨rfl, rfl⟩, ⟨rfl, rfl⟩, trivial⟩ ⟨⟨rfl, rfl, rfl⟩, trivial⟩ aP0)
   ·have g9 : ¬ ((a.Kind : Int) = 3) := zed h9
    refine ze rfl h9 (zh rfl rfl aP0 (ze rfl h9 (za rfl (ze rfl h9 (zi rfl rfl rfl rfl rfl trivial (zn rfl h9 rfl rfl (za rfl (zq ?_))))))))
    have e12 : zdK a = ((a.Kind : Int) == 4) := by
     unfold zdK
     try dsimp only
     rewrite [if_neg g9]
     all_goals rfl
    exact z0 ((a.Kind : Int) == 4) e12 (zD.ren [] aP1 aP1 rfl ⟨⟨rfl, rfl⟩, ⟨rfl, rfl⟩, ⟨rfl, rfl⟩, trivial⟩ ⟨⟨rfl, rfl, rfl⟩, trivial⟩ aP0)
  ·rintro hundred_13 (hJ7 : zdK a = hundred_13)
   refine zu (zm (zg rfl (zh rfl rfl aP0 (za rfl (zi rfl rfl rfl rfl rfl trivial (za rfl ?_))))))
   refine zG rfl (fun h14 => ?_) (fun h14 => ?_)
   ·have g14 : (a.Kind : Int) < 1 := of_decide_eq_true h14
    refine zf rfl h14 rfl (zf rfl h14 rfl (zf rfl h14 rfl (zo rfl h14 rfl rfl (za rfl (zc rfl (zc rfl (zc rfl (zc rfl (za rfl (za rfl (zc rfl (zc rfl (zc rfl (za rfl (za rfl (zc rfl (zc rfl ?_)))))))))))))))))
    refine zc rfl (za rfl (zd (zK rfl (zg rfl (za rfl (zd (zl (zE ?_))))))))
    have e15 : zcV a = false := by
     unfold zcV
     try dsimp only
     rewrite [hJ1]
     try dsimp only
     rewrite [hJ7]
     try dsimp only
     rewrite [if_pos g14]
     all_goals rfl
    rw [e15]
    exact zk rfl ⟨trivial, trivial⟩ (rfl) rfl
   ·have g14 : ¬ ((a.Kind : Int) < 1) := of_decide_eq_false h14
    refine ze rfl h14 (zh rfl rfl aP0 (ze rfl h14 (za rfl (ze rfl h14 (zi rfl rfl rfl rfl rfl trivial (zn rfl h14 rfl rfl (za rfl ?_)))))))
    refine zG rfl (fun h17 => ?_) (fun h17 => ?_)
    ·have g17 : (a.Kind : Int) > 6 := of_decide_eq_true h17
     refine zf rfl h17 rfl (zf rfl h17 rfl (zf rfl h17 rfl (zf rfl h17 rfl (zo rfl h17 rfl rfl (za rfl (zc rfl (zc rfl (zc rfl (za rfl (za rfl (zc rfl (zc rfl (zc rfl (za rfl (zd (zK rfl ?_))))))))))))))))
     refine zg rfl (za rfl (zd (zl (zE ?_))))
     have e18 : zcV a = false := by
      unfold zcV
      try dsimp only
      rewrite [hJ1]
      try dsimp only
      rewrite [hJ7]
      try dsimp only
      rewrite [if_neg g14, if_pos g17]
      all_goals rfl
     rw [e18]
     exact zk rfl ⟨trivial, trivial⟩ (rfl) rfl
    ·have g17 : ¬ ((a.Kind : Int) > 6) := of_decide_eq_false h17
     refine ze rfl h17 (zh rfl rfl aP0 (ze rfl h17 (za rfl (ze rfl h17 (zB rfl rfl rfl rfl (zaP a.Ticks 1) rfl rfl rfl (ze rfl h17 (za rfl (zn rfl h17 rfl rfl (za rfl ?_)))))))))
     refine zG rfl (fun h20 => ?_) (fun h20 => ?_)
     ·have g20 : ¬ (zR a.Ticks 1 = true) := zaA (zbA h20)
      refine zf rfl h20 rfl (zf rfl h20 rfl (zf rfl h20 rfl (zo rfl h20 rfl rfl (za rfl (zc rfl (zc rfl (zc rfl (za rfl (zd (zK rfl (zg rfl (za rfl (zd (zl ?_))))))))))))))
      refine zE ?_
      have e21 : zcV a = false := by
       unfold zcV
       try dsimp only
       rewrite [hJ1]
       try dsimp only
       rewrite [hJ7]
       try dsimp only
       rewrite [if_neg g14, if_neg g17, if_neg g20]
       all_goals rfl
      rw [e21]
      exact zk rfl ⟨trivial, trivial⟩ (rfl) rfl
     ·have g20 : zR a.Ticks 1 = true := (zbz h20)
      refine ze rfl h20 (zh rfl rfl aP0 (ze rfl h20 (za rfl (ze rfl h20 (zi rfl rfl rfl rfl rfl trivial (zn rfl h20 rfl rfl (za rfl ?_)))))))
      refine zG rfl (fun h23 => ?_) (fun h23 => ?_)
      ·have g23 : (a.Stacks : Int) < 1 := of_decide_eq_true h23
       refine zf rfl h23 rfl (zf rfl h23 rfl (zf rfl h23 rfl (zo rfl h23 rfl rfl (zd (zK rfl (zg rfl (za rfl (zd (zl (zE ?_))))))))))
       have e24 : zcV a = false := by
        unfold zcV
        try dsimp only
        rewrite [hJ1]
        try dsimp only
        rewrite [hJ7]
        try dsimp only
        rewrite [if_neg g14, if_neg g17, if_pos g20, if_pos g23]
        all_goals rfl
       rw [e24]
       exact zk rfl ⟨trivial, trivial⟩ (rfl) rfl
      ·have g23 : ¬ ((a.Stacks : Int) < 1) := of_decide_eq_false h23
       refine ze rfl h23 (zh rfl rfl aP0 (ze rfl h23 (za rfl (ze rfl h23 (zi rfl rfl rfl rfl rfl trivial (zn rfl h23 rfl rfl (zd ?_)))))))
       refine zr rfl (fun h26 => ?_) (fun h26 => ?_)
       ·have g26 : (a.Stacks : Int) > 100 := of_decide_eq_true h26
        refine zg rfl (za rfl (zd (zl (zE ?_))))
        have e27 : zcV a = false := by
         unfold zcV
         try dsimp only
         rewrite [hJ1]
         try dsimp only
         rewrite [hJ7]
         try dsimp only
         rewrite [if_neg g14, if_neg g17, if_pos g20, if_neg g23, if_pos g26]
         all_goals rfl
        rw [e27]
        exact zk rfl ⟨trivial, trivial⟩ (rfl) rfl
       ·have g26 : ¬ ((a.Stacks : Int) > 100) := of_decide_eq_false h26
        refine zt (zu (zm ?_))
        refine zX (fun w_ : Unit => match w_ with | () => (⟨[(1, .ptr 0 0), (4, B hundred_13)], [(0, .box [I a.Id, I a.Kind, I a.Ticks, I a.Every, I a.Stacks, I a.Amount, B a.Harm])], 1, [], 73, 0⟩ : St)) (fun w_ => za4 a ticks_5 = .inr w_) ?_ ?_
        ·refine zg rfl (za rfl (za rfl ?_))
         refine zG rfl (fun h30 => ?_) (fun h30 => ?_)
         ·have g30 : ticks_5 = true := h30
          refine ze rfl h30 (zh rfl rfl aP0 (ze rfl h30 (za rfl (ze rfl h30 (zB rfl rfl rfl rfl (zaP a.Every 1) rfl rfl rfl (ze rfl h30 (za rfl (zo rfl h30 rfl rfl (za rfl ?_)))))))))
          refine zG rfl (fun h32 => ?_) (fun h32 => ?_)
          ·have g32 : ¬ (zR a.Every 1 = true) := zaA (zbA h32)
           refine zf rfl h32 rfl (zf rfl h32 rfl (zf rfl h32 rfl (zc rfl (zc rfl (zc rfl (zf rfl h32 rfl (zo rfl h32 rfl rfl (zd (zK rfl (zg rfl (za rfl (zd (zl (zaz ?_))))))))))))))
           refine zE ?_
           have e33 : za4 a ticks_5 = .inl false := by
            unfold za4
            try dsimp only
            rewrite [if_pos g30, if_neg g32]
            all_goals rfl
           have e34 : zcV a = false := by
            unfold zcV
            try dsimp only
            rewrite [hJ1]
            try dsimp only
            rewrite [hJ7]
            try dsimp only
            rewrite [if_neg g14, if_neg g17, if_pos g20, if_neg g23, if_neg g26, e33]
            try dsimp only
            all_goals rfl
           rw [e34]
           exact zk rfl ⟨trivial, trivial⟩ (rfl) rfl
          ·have g32 : zR a.Every 1 = true := (zbz h32)
           refine ze rfl h32 (za rfl (ze rfl h32 (za rfl (ze rfl h32 (za rfl ?_)))))
           refine zG rfl (fun h36 => ?_) (fun h36 => ?_)
           ·have g36 : ¬ (ticks_5 = true) := zaA (zbA h36)
            refine ze rfl h36 (zh rfl rfl aP0 (ze rfl h36 (za rfl (ze rfl h36 (zi rfl rfl rfl rfl rfl trivial (ze rfl h32 (zo rfl h36 rfl rfl (zn rfl h32 rfl rfl (zd ?_)))))))))
            refine zr rfl (fun h38 => ?_) (fun h38 => ?_)
            ·have g38 : ¬ ((a.Every : Int) = 0) := zc9 h38
             refine zg rfl (za rfl (zd (zl (zaz (zE ?_)))))
             have e39 : za4 a ticks_5 = .inl false := by
              unfold za4
              try dsimp only
              rewrite [if_pos g30, if_pos g32, if_neg g36, if_neg g38]
              all_goals rfl
             have e40 : zcV a = false := by
              unfold zcV
              try dsimp only
              rewrite [hJ1]
              try dsimp only
              rewrite [hJ7]
              try dsimp only
              rewrite [if_neg g14, if_neg g17, if_pos g20, if_neg g23, if_neg g26, e39]
              try dsimp only
              all_goals rfl
             rw [e40]
             exact zk rfl ⟨trivial, trivial⟩ (rfl) rfl
            ·have g38 : (a.Every : Int) = 0 := zdl h38
             refine zt ?_
             have e41 : za4 a ticks_5 = .inr () := by
              unfold za4
              try dsimp only
              rewrite [if_pos g30, if_pos g32, if_neg g36, if_pos g38]
              all_goals rfl
             exact z0 () e41 (zD.ren [] aP1 aP1 rfl ⟨⟨rfl, rfl⟩, ⟨rfl, rfl⟩, trivial⟩ ⟨⟨rfl, rfl, rfl⟩, trivial⟩ aP0)
           ·have g36 : ticks_5 = true := (zbz h36)
            refine zf rfl h36 rfl (zf rfl h36 rfl (zf rfl h36 rfl (ze rfl h32 (zn rfl h36 rfl rfl (zn rfl h32 rfl rfl (zd (zda rfl (zt ?_))))))))
            have e42 : za4 a ticks_5 = .inr () := by
             unfold za4
             try dsimp only
             rewrite [if_pos g30, if_pos g32, if_pos g36]
             all_goals rfl
            exact z0 () e42 (zD.ren [] aP1 aP1 rfl ⟨⟨rfl, rfl⟩, ⟨rfl, rfl⟩, trivial⟩ ⟨⟨rfl, rfl, rfl⟩, trivial⟩ aP0)
         ·have g30 : ¬ (ticks_5 = true) := zaA h30
          refine zf rfl h30 rfl (zf rfl h30 rfl (zf rfl h30 rfl (zf rfl h30 rfl (zn rfl h30 rfl rfl (za rfl (zeA rfl (za rfl (zeA rfl (za rfl (zeA rfl (za rfl ?_)))))))))))
          refine zG rfl (fun h44 => ?_) (fun h44 => ?_)
          ·have g44 : ¬ (ticks_5 = true) := zaA (zbA h44)
           refine ze rfl h44 (zh rfl rfl aP0 (ze rfl h44 (za rfl (ze rfl h44 (zi rfl rfl rfl rfl rfl trivial (zeA rfl (zo rfl h44 rfl rfl (za rfl (zd ?_)))))))))
           refine zr rfl (fun h46 => ?_) (fun h46 => ?_)
           ·have g46 : ¬ ((a.Every : Int) = 0) := zc9 h46
            refine zg rfl (za rfl (zd (zl (zaz (zE ?_)))))
            have e47 : za4 a ticks_5 = .inl false := by
             unfold za4
             try dsimp only
             rewrite [if_neg g30, if_neg g44, if_neg g46]
             all_goals rfl
            have e48 : zcV a = false := by
             unfold zcV
             try dsimp only
             rewrite [hJ1]
             try dsimp only
             rewrite [hJ7]
             try dsimp only
             rewrite [if_neg g14, if_neg g17, if_pos g20, if_neg g23, if_neg g26, e47]
             try dsimp only
             all_goals rfl
            rw [e48]
            exact zk rfl ⟨trivial, trivial⟩ (rfl) rfl
           ·have g46 : (a.Every : Int) = 0 := zdl h46
            refine zt ?_
            have e49 : za4 a ticks_5 = .inr () := by
             unfold za4
             try dsimp only
             rewrite [if_neg g30, if_neg g44, if_pos g46]
             all_goals rfl
            exact z0 () e49 (zD.ren [] aP1 aP1 rfl ⟨⟨rfl, rfl⟩, ⟨rfl, rfl⟩, trivial⟩ ⟨⟨rfl, rfl, rfl⟩, trivial⟩ aP0)
          ·have g44 : ticks_5 = true := (zbz h44)
           refine zf rfl h44 rfl (zf rfl h44 rfl (zf rfl h44 rfl (zeA rfl (zn rfl h44 rfl rfl (za rfl (zd (zda rfl (zt ?_))))))))
           have e50 : za4 a ticks_5 = .inr () := by
            unfold za4
            try dsimp only
            rewrite [if_neg g30, if_pos g44]
            all_goals rfl
           exact z0 () e50 (zD.ren [] aP1 aP1 rfl ⟨⟨rfl, rfl⟩, ⟨rfl, rfl⟩, trivial⟩ ⟨⟨rfl, rfl, rfl⟩, trivial⟩ aP0)
        ·rintro ⟨⟩ (hJ28 : za4 a ticks_5 = .inr ())
         refine zu (zm (zg rfl (za rfl (zd ?_))))
         refine zr rfl (fun h52 => ?_) (fun h52 => ?_)
         ·have g52 : hundred_13 = true := h52
          refine zg rfl (zh rfl rfl aP0 (za rfl (zi rfl rfl rfl rfl rfl trivial (za rfl ?_))))
          refine zG rfl (fun h54 => ?_) (fun h54 => ?_)
          ·have g54 : (a.Amount : Int) ≥ (-100) := of_decide_eq_true h54
           refine ze rfl h54 (zh rfl rfl aP0 (ze rfl h54 (za rfl (ze rfl h54 (zi rfl rfl rfl rfl rfl trivial (zo rfl h54 rfl rfl (za rfl (zd (zl (zE ?_))))))))))
           have e56 : zcV a = (decide ((a.Amount : Int) ≤ 1000)) := by
            unfold zcV
            try dsimp only
            rewrite [hJ1]
            try dsimp only
            rewrite [hJ7]
            try dsimp only
            rewrite [if_neg g14, if_neg g17, if_pos g20, if_neg g23, if_neg g26, hJ28]
            try dsimp only
            rewrite [if_pos g52, if_pos g54]
            all_goals rfl
           rw [e56]
           exact zk rfl ⟨trivial, trivial⟩ (rfl) rfl
          ·have g54 : ¬ ((a.Amount : Int) ≥ (-100)) := of_decide_eq_false h54
           refine zf rfl h54 rfl (zf rfl h54 rfl (zf rfl h54 rfl (zn rfl h54 rfl rfl (za rfl (zd (zl (zE ?_)))))))
           have e57 : zcV a = false := by
            unfold zcV
            try dsimp only
            rewrite [hJ1]
            try dsimp only
            rewrite [hJ7]
            try dsimp only
            rewrite [if_neg g14, if_neg g17, if_pos g20, if_neg g23, if_neg g26, hJ28]
            try dsimp only
            rewrite [if_pos g52, if_neg g54]
            all_goals rfl
           rw [e57]
           exact zk rfl ⟨trivial, trivial⟩ (rfl) rfl
         ·have g52 : ¬ (hundred_13 = true) := zaA h52
          refine zt (zu (zg rfl (zh rfl rfl aP0 (za rfl (zB rfl rfl rfl rfl (zaP a.Amount 0) rfl rfl rfl (za rfl (zd (zl ?_))))))))
          have e59 : zcV a = (zR a.Amount 0) := by
           unfold zcV
           try dsimp only
           rewrite [hJ1]
           try dsimp only
           rewrite [hJ7]
           try dsimp only
           rewrite [if_neg g14, if_neg g17, if_pos g20, if_neg g23, if_neg g26, hJ28]
           try dsimp only
           rewrite [if_neg g52]
           all_goals rfl
          rw [e59]
          exact zk rfl ⟨trivial, trivial⟩ (rfl) rfl

def zaw (l : zcc) : Sum Bool Unit :=
  if (l.Phase : Int) < 1 then .inl false else if (l.Phase : Int) > 100 then .inl false else if (l.When : Int) < 1 then .inl false else if (l.When : Int) > 3 then .inl false else if (l.Do : Int) < 1 then .inl false else if (l.Do : Int) > 4 then .inl false else if zR l.Arg 1 = true then (if (l.When : Int) = 1 then (if (l.Arg : Int) > 100 then .inl false else if zR l.Value 0 = true then .inr () else .inl false) else if zR l.Value 0 = true then .inr () else .inl false) else .inl false
def zdC (l : zcc) : Bool :=
  if (l.Value : Int) ≥ 1 then (decide ((l.Value : Int) ≤ 100)) else false
def zcP (c : zA) (l : zcc) : Bool :=
  (match zaw l with
    | .inl r_ => r_
    | .inr () => if (l.Do : Int) = 1 then (let t4_60 := zdC l; t4_60) else if (l.Do : Int) = 2 then (zjC c l.Value).2 else true)
theorem zsO (c : zA) (l : zcc) (hF : Few9 c) : Ok Tryz.prog 130 [zak c, ziE l] [] (B (zcP c l)) [] [] := by
 refine Ok.len fun hlen => ?_
 have hl_c_Abilities := hlL (n := c.Abilities.length) hlen
 have hl_c_Auras := hlL (n := c.Auras.length) hlen
 have hl_c_Foes := hlL (n := c.Foes.length) hlen
 have hl_c_Map_Wall := hlL (n := c.Map.Wall.length) hlen
 refine zx Tryz.func130 rfl ?_
 refine zg rfl (zz (o := .box [_, _, _, _, _, _, _, _, _, _]) (nx' := 1) rfl rfl rfl trivial (zz (o := .box [_, _, _, _, _]) (nx' := 2) rfl rfl rfl trivial (za rfl (zd (zm ?_)))))
 refine zX (fun w_ : Unit => match w_ with | () => (⟨[(2, .ptr 0 0), (3, .ptr 1 0)], [(0, .box [.pv (.slc c.Abilities.length false (c.Abilities.flatMap zj)), .pv (.slc c.Auras.length false (c.Auras.flatMap zp)), .pv (.slc c.Foes.length false (c.Foes.flatMap zC)), I c.Map.W, I c.Map.H, .pv (.slc c.Map.Wall.length false (encB c.Map.Wall)), I c.Door.X, I c.Door.Y, I c.Lair.X, I c.Lair.Y]), (1, .box [I l.Phase, I l.When, I l.Arg, I l.Do, I l.Value])], 2, [], 79, 0⟩ : St)) (fun w_ => zaw l = .inr w_) ?_ ?_
 ·refine zg rfl (zh rfl rfl aP0 (za rfl (zi rfl rfl rfl rfl rfl trivial (za rfl ?_))))
  refine zG rfl (fun h3 => ?_) (fun h3 => ?_)
  ·have g3 : (l.Phase : Int) < 1 := of_decide_eq_true h3
   refine zf rfl h3 rfl (zf rfl h3 rfl (zf rfl h3 rfl (zo rfl h3 rfl rfl (za rfl (zc rfl (zc rfl (zc rfl (za rfl (za rfl (zc rfl (zc rfl (zc rfl (za rfl (za rfl (zc rfl (zc rfl (zc rfl ?_)))))))))))))))))
   refine za rfl (za rfl (zc rfl (zc rfl (zc rfl (za rfl (za rfl (zc rfl (zc rfl (zc rfl (zc rfl (za rfl (za rfl (zc rfl (zc rfl (zc rfl (zc rfl (zc rfl ?_)))))))))))))))))
   refine zc rfl (zc rfl (zc rfl (za rfl (za rfl (zc rfl (zc rfl (zc rfl (zc rfl (za rfl (zd (zK rfl (zg rfl (za rfl (zd ?_))))))))))))))
   refine zl (zaz (zE ?_))
   have e4 : zaw l = .inl false := by
    unfold zaw
    try dsimp only
    rewrite [if_pos g3]
    all_goals rfl
   have e5 : zcP c l = false := by
    unfold zcP
    try dsimp only
    rewrite [e4]
    try dsimp only
    all_goals rfl
   rw [e5]
   exact zk rfl ⟨trivial, trivial⟩ (rfl) rfl
  ·have g3 : ¬ ((l.Phase : Int) < 1) := of_decide_eq_false h3
   refine ze rfl h3 (zh rfl rfl aP0 (ze rfl h3 (za rfl (ze rfl h3 (zi rfl rfl rfl rfl rfl trivial (zn rfl h3 rfl rfl (za rfl ?_)))))))
   refine zG rfl (fun h7 => ?_) (fun h7 => ?_)
   ·have g7 : (l.Phase : Int) > 100 := of_decide_eq_true h7
    refine zf rfl h7 rfl (zf rfl h7 rfl (zf rfl h7 rfl (zo rfl h7 rfl rfl (za rfl (zc rfl (zc rfl (zc rfl (za rfl (za rfl (zc rfl (zc rfl (zc rfl (za rfl (za rfl (zc rfl (zc rfl (zc rfl ?_)))))))))))))))))
    refine za rfl (za rfl (zc rfl (zc rfl (zc rfl (zc rfl (za rfl (za rfl (zc rfl (zc rfl (zc rfl (zc rfl (zc rfl (zc rfl (zc rfl (zc rfl (za rfl (za rfl ?_)))))))))))))))))
    refine zc rfl (zc rfl (zc rfl (zc rfl (za rfl (zd (zK rfl (zg rfl (za rfl (zd (zl (zaz (zE ?_))))))))))))
    have e8 : zaw l = .inl false := by
     unfold zaw
     try dsimp only
     rewrite [if_neg g3, if_pos g7]
     all_goals rfl
    have e9 : zcP c l = false := by
     unfold zcP
     try dsimp only
     rewrite [e8]
     try dsimp only
     all_goals rfl
    rw [e9]
    exact zk rfl ⟨trivial, trivial⟩ (rfl) rfl
   ·have g7 : ¬ ((l.Phase : Int) > 100) := of_decide_eq_false h7
    refine ze rfl h7 (zh rfl rfl aP0 (ze rfl h7 (za rfl (ze rfl h7 (zi rfl rfl rfl rfl rfl trivial (zn rfl h7 rfl rfl (za rfl ?_)))))))
    refine zG rfl (fun h11 => ?_) (fun h11 => ?_)
    ·have g11 : (l.When : Int) < 1 := of_decide_eq_true h11
     refine zf rfl h11 rfl (zf rfl h11 rfl (zf rfl h11 rfl (zo rfl h11 rfl rfl (za rfl (zc rfl (zc rfl (zc rfl (za rfl (za rfl (zc rfl (zc rfl (zc rfl (za rfl (za rfl (zc rfl (zc rfl (zc rfl ?_)))))))))))))))))
     refine zc rfl (za rfl (za rfl (zc rfl (zc rfl (zc rfl (zc rfl (zc rfl (zc rfl (zc rfl (zc rfl (za rfl (za rfl (zc rfl (zc rfl (zc rfl (zc rfl (za rfl ?_)))))))))))))))))
     refine zd (zK rfl (zg rfl (za rfl (zd (zl (zaz (zE ?_)))))))
     have e12 : zaw l = .inl false := by
      unfold zaw
      try dsimp only
      rewrite [if_neg g3, if_neg g7, if_pos g11]
      all_goals rfl
     have e13 : zcP c l = false := by
      unfold zcP
      try dsimp only
      rewrite [e12]
      try dsimp only
      all_goals rfl
     rw [e13]
     exact zk rfl ⟨trivial, trivial⟩ (rfl) rfl
    ·have g11 : ¬ ((l.When : Int) < 1) := of_decide_eq_false h11
     refine ze rfl h11 (zh rfl rfl aP0 (ze rfl h11 (za rfl (ze rfl h11 (zi rfl rfl rfl rfl rfl trivial (zn rfl h11 rfl rfl (za rfl ?_)))))))
     refine zG rfl (fun h15 => ?_) (fun h15 => ?_)
     ·have g15 : (l.When : Int) > 3 := of_decide_eq_true h15
      refine zf rfl h15 rfl (zf rfl h15 rfl (zf rfl h15 rfl (zo rfl h15 rfl rfl (za rfl (zc rfl (zc rfl (zc rfl (za rfl (za rfl (zc rfl (zc rfl (zc rfl (zc rfl (za rfl (za rfl (zc rfl (zc rfl ?_)))))))))))))))))
      refine zc rfl (zc rfl (zc rfl (zc rfl (zc rfl (zc rfl (za rfl (za rfl (zc rfl (zc rfl (zc rfl (zc rfl (za rfl (zd (zK rfl (zg rfl ?_)))))))))))))))
      refine za rfl (zd (zl (zaz (zE ?_))))
      have e16 : zaw l = .inl false := by
       unfold zaw
       try dsimp only
       rewrite [if_neg g3, if_neg g7, if_neg g11, if_pos g15]
       all_goals rfl
      have e17 : zcP c l = false := by
       unfold zcP
       try dsimp only
       rewrite [e16]
       try dsimp only
       all_goals rfl
      rw [e17]
      exact zk rfl ⟨trivial, trivial⟩ (rfl) rfl
     ·have g15 : ¬ ((l.When : Int) > 3) := of_decide_eq_false h15
      refine ze rfl h15 (zh rfl rfl aP0 (ze rfl h15 (za rfl (ze rfl h15 (zi rfl rfl rfl rfl rfl trivial (zn rfl h15 rfl rfl (za rfl ?_)))))))
      refine zG rfl (fun h19 => ?_) (fun h19 => ?_)
      ·have g19 : (l.Do : Int) < 1 := of_decide_eq_true h19
       refine zf rfl h19 rfl (zf rfl h19 rfl (zf rfl h19 rfl (zo rfl h19 rfl rfl (za rfl (zc rfl (zc rfl (zc rfl (zc rfl (za rfl (za rfl (zc rfl (zc rfl (zc rfl (zc rfl (zc rfl (zc rfl (zc rfl ?_)))))))))))))))))
       refine zc rfl (za rfl (za rfl (zc rfl (zc rfl (zc rfl (zc rfl (za rfl (zd (zK rfl (zg rfl (za rfl (zd (zl (zaz ?_))))))))))))))
       refine zE ?_
       have e20 : zaw l = .inl false := by
        unfold zaw
        try dsimp only
        rewrite [if_neg g3, if_neg g7, if_neg g11, if_neg g15, if_pos g19]
        all_goals rfl
       have e21 : zcP c l = false := by
        unfold zcP
        try dsimp only
        rewrite [e20]
        try dsimp only
        all_goals rfl
       rw [e21]
       exact zk rfl ⟨trivial, trivial⟩ (rfl) rfl
      ·have g19 : ¬ ((l.Do : Int) < 1) := of_decide_eq_false h19
       refine ze rfl h19 (zh rfl rfl aP0 (ze rfl h19 (za rfl (ze rfl h19 (zi rfl rfl rfl rfl rfl trivial (zn rfl h19 rfl rfl (za rfl ?_)))))))
       refine zG rfl (fun h23 => ?_) (fun h23 => ?_)
       ·have g23 : (l.Do : Int) > 4 := of_decide_eq_true h23
        refine zf rfl h23 rfl (zf rfl h23 rfl (zf rfl h23 rfl (zf rfl h23 rfl (zo rfl h23 rfl rfl (za rfl (zc rfl (zc rfl (zc rfl (zc rfl (zc rfl (zc rfl (zc rfl (zc rfl (za rfl (za rfl (zc rfl (zc rfl ?_)))))))))))))))))
        refine zc rfl (zc rfl (za rfl (zd (zK rfl (zg rfl (za rfl (zd (zl (zaz (zE ?_))))))))))
        have e24 : zaw l = .inl false := by
         unfold zaw
         try dsimp only
         rewrite [if_neg g3, if_neg g7, if_neg g11, if_neg g15, if_neg g19, if_pos g23]
         all_goals rfl
        have e25 : zcP c l = false := by
         unfold zcP
         try dsimp only
         rewrite [e24]
         try dsimp only
         all_goals rfl
        rw [e25]
        exact zk rfl ⟨trivial, trivial⟩ (rfl) rfl
       ·have g23 : ¬ ((l.Do : Int) > 4) := of_decide_eq_false h23
        refine ze rfl h23 (zh rfl rfl aP0 (ze rfl h23 (za rfl (ze rfl h23 (zB rfl rfl rfl rfl (zaP l.Arg 1) rfl rfl rfl (ze rfl h23 (za rfl (zn rfl h23 rfl rfl (za rfl ?_)))))))))
        refine zG rfl (fun h27 => ?_) (fun h27 => ?_)
        ·have g27 : ¬ (zR l.Arg 1 = true) := zaA (zbA h27)
         refine zf rfl h27 rfl (zf rfl h27 rfl (zf rfl h27 rfl (zf rfl h27 rfl (zc rfl (zc rfl (zc rfl (zf rfl h27 rfl (zo rfl h27 rfl rfl (za rfl (zc rfl (zc rfl (zc rfl (zc rfl (za rfl (zd (zK rfl ?_))))))))))))))))
         refine zg rfl (za rfl (zd (zl (zaz (zE ?_)))))
         have e28 : zaw l = .inl false := by
          unfold zaw
          try dsimp only
          rewrite [if_neg g3, if_neg g7, if_neg g11, if_neg g15, if_neg g19, if_neg g23, if_neg g27]
          all_goals rfl
         have e29 : zcP c l = false := by
          unfold zcP
          try dsimp only
          rewrite [e28]
          try dsimp only
          all_goals rfl
         rw [e29]
         exact zk rfl ⟨trivial, trivial⟩ (rfl) rfl
        ·have g27 : zR l.Arg 1 = true := (zbz h27)
         refine ze rfl h27 (zh rfl rfl aP0 (ze rfl h27 (za rfl (ze rfl h27 (zi rfl rfl rfl rfl rfl trivial (ze rfl h27 (za rfl ?_)))))))
         refine zG rfl (fun h31 => ?_) (fun h31 => ?_)
         ·have g31 : (l.When : Int) = 1 := zd5 h31
          refine ze rfl h31 (zh rfl rfl aP0 (ze rfl h31 (za rfl (ze rfl h31 (zi rfl rfl rfl rfl rfl trivial (ze rfl h27 (zo rfl h31 rfl rfl (zn rfl h27 rfl rfl (za rfl ?_)))))))))
          refine zG rfl (fun h33 => ?_) (fun h33 => ?_)
          ·have g33 : (l.Arg : Int) > 100 := of_decide_eq_true h33
           refine zf rfl h33 rfl (zf rfl h33 rfl (zf rfl h33 rfl (zf rfl h33 rfl (zo rfl h33 rfl rfl (zd (zK rfl (zg rfl (za rfl (zd (zl (zaz (zE ?_))))))))))))
           have e34 : zaw l = .inl false := by
            unfold zaw
            try dsimp only
            rewrite [if_neg g3, if_neg g7, if_neg g11, if_neg g15, if_neg g19, if_neg g23, if_pos g27, if_pos g31, if_pos g33]
            all_goals rfl
           have e35 : zcP c l = false := by
            unfold zcP
            try dsimp only
            rewrite [e34]
            try dsimp only
            all_goals rfl
           rw [e35]
           exact zk rfl ⟨trivial, trivial⟩ (rfl) rfl
          ·have g33 : ¬ ((l.Arg : Int) > 100) := of_decide_eq_false h33
           refine ze rfl h33 (zh rfl rfl aP0 (ze rfl h33 (za rfl (ze rfl h33 (zB rfl rfl rfl rfl (zaP l.Value 0) rfl rfl rfl (ze rfl h33 (za rfl (zn rfl h33 rfl rfl (zd ?_)))))))))
           refine zr rfl (fun h37 => ?_) (fun h37 => ?_)
           ·have g37 : ¬ (zR l.Value 0 = true) := zaA (zbA h37)
            refine zg rfl (za rfl (zd (zl (zaz (zE ?_)))))
            have e38 : zaw l = .inl false := by
             unfold zaw
             try dsimp only
             rewrite [if_neg g3, if_neg g7, if_neg g11, if_neg g15, if_neg g19, if_neg g23, if_pos g27, if_pos g31, if_neg g33, if_neg g37]
             all_goals rfl
            have e39 : zcP c l = false := by
             unfold zcP
             try dsimp only
             rewrite [e38]
             try dsimp only
             all_goals rfl
            rw [e39]
            exact zk rfl ⟨trivial, trivial⟩ (rfl) rfl
           ·have g37 : zR l.Value 0 = true := (zbz h37)
            refine zt ?_
            have e40 : zaw l = .inr () := by
             unfold zaw
             try dsimp only
             rewrite [if_neg g3, if_neg g7, if_neg g11, if_neg g15, if_neg g19, if_neg g23, if_pos g27, if_pos g31, if_neg g33, if_pos g37]
             all_goals rfl
            exact z0 () e40 (zD.ren [] aP1 aP1 rfl ⟨⟨rfl, rfl⟩, ⟨rfl, rfl⟩, trivial⟩ ⟨⟨rfl, rfl, rfl⟩, ⟨rfl, rfl, rfl⟩, trivial⟩ aP0)
         ·have g31 : ¬ ((l.When : Int) = 1) := zed h31
          refine zf rfl h31 rfl (zf rfl h31 rfl (zf rfl h31 rfl (ze rfl h27 (zn rfl h31 rfl rfl (zn rfl h27 rfl rfl (za rfl (zeA rfl (zh rfl rfl aP0 (zeA rfl (za rfl (zeA rfl (zB rfl rfl rfl rfl (zaP l.Value 0) rfl rfl rfl (zeA rfl (za rfl (za rfl (zd ?_))))))))))))))))
          refine zr rfl (fun h42 => ?_) (fun h42 => ?_)
          ·have g42 : ¬ (zR l.Value 0 = true) := zaA (zbA h42)
           refine zg rfl (za rfl (zd (zl (zaz (zE ?_)))))
           have e43 : zaw l = .inl false := by
            unfold zaw
            try dsimp only
            rewrite [if_neg g3, if_neg g7, if_neg g11, if_neg g15, if_neg g19, if_neg g23, if_pos g27, if_neg g31, if_neg g42]
            all_goals rfl
           have e44 : zcP c l = false := by
            unfold zcP
            try dsimp only
            rewrite [e43]
            try dsimp only
            all_goals rfl
           rw [e44]
           exact zk rfl ⟨trivial, trivial⟩ (rfl) rfl
          ·have g42 : zR l.Value 0 = true := (zbz h42)
           refine zt ?_
           have e45 : zaw l = .inr () := by
            unfold zaw
            try dsimp only
            rewrite [if_neg g3, if_neg g7, if_neg g11, if_neg g15, if_neg g19, if_neg g23, if_pos g27, if_neg g31, if_pos g42]
            all_goals rfl
           exact z0 () e45 (zD.ren [] aP1 aP1 rfl ⟨⟨rfl, rfl⟩, ⟨rfl, rfl⟩, trivial⟩ ⟨⟨rfl, rfl, rfl⟩, ⟨rfl, rfl, rfl⟩, trivial⟩ aP0)
 ·rintro ⟨⟩ (hJ1 : zaw l = .inr ())
  refine zu (zm (zg rfl (zh rfl rfl aP0 (za rfl (zi rfl rfl rfl rfl rfl trivial (zd ?_))))))
  refine zr rfl (fun h46 => ?_) (fun h46 => ?_)
  ·have g46 : (l.Do : Int) = 1 := zd5 h46
   refine zm ?_
   refine zX (fun t4_60 : Bool => (⟨[(4, B t4_60)], [], 0, [], 79, 0⟩ : St)) (fun w_ => zdC l = w_) ?_ ?_
   ·refine zy rfl (zh rfl rfl aP0 (za rfl (zi rfl rfl rfl rfl rfl trivial (za rfl ?_))))
    refine zG rfl (fun h49 => ?_) (fun h49 => ?_)
    ·have g49 : (l.Value : Int) ≥ 1 := of_decide_eq_true h49
     refine ze rfl h49 (zh rfl rfl aP0 (ze rfl h49 (za rfl (ze rfl h49 (zi rfl rfl rfl rfl rfl trivial (zo rfl h49 rfl rfl (za rfl (zq ?_))))))))
     have e51 : zdC l = (decide ((l.Value : Int) ≤ 100)) := by
      unfold zdC
      try dsimp only
      rewrite [if_pos g49]
      all_goals rfl
     exact z0 (decide ((l.Value : Int) ≤ 100)) e51 (zD.ren [] aP1 aP1 rfl ⟨⟨rfl, rfl⟩, trivial⟩ trivial aP0)
    ·have g49 : ¬ ((l.Value : Int) ≥ 1) := of_decide_eq_false h49
     refine zf rfl h49 rfl (zf rfl h49 rfl (zf rfl h49 rfl (zn rfl h49 rfl rfl (za rfl (zq ?_)))))
     have e52 : zdC l = false := by
      unfold zdC
      try dsimp only
      rewrite [if_neg g49]
      all_goals rfl
     exact z0 false e52 (zD.ren [] aP1 aP1 rfl ⟨⟨rfl, rfl⟩, trivial⟩ trivial aP0)
   ·rintro t4_60 (hJ47 : zdC l = t4_60)
    refine zu (zl (zE ?_))
    have e53 : zcP c l = t4_60 := by
     unfold zcP
     try dsimp only
     rewrite [hJ1]
     try dsimp only
     rewrite [if_pos g46, hJ47]
     try dsimp only
     all_goals rfl
    rw [e53]
    exact zk rfl ⟨trivial, trivial⟩ (rfl) rfl
  ·have g46 : ¬ ((l.Do : Int) = 1) := zed h46
   refine zt (zu (zm (zg rfl (zh rfl rfl aP0 (za rfl (zi rfl rfl rfl rfl rfl trivial (zd ?_)))))))
   refine zr rfl (fun h54 => ?_) (fun h54 => ?_)
   ·have g54 : (l.Do : Int) = 2 := zd5 h54
    refine zg rfl (zh (v := (.agg [_, _, _, _, _, _, _, _, _, _])) rfl rfl (Nat.le_of_ble_eq_true rfl) (zh rfl rfl aP0 (za rfl (zB rfl rfl rfl rfl (ztp c l.Value (by first | assumption | grind)) rfl rfl rfl (za rfl (za rfl (za rfl (zz (o := .box [_, _, _, _, _, _, _, _]) (nx' := 3) rfl rfl rfl trivial ?_))))))))
    refine zH (H' := [(2, .box [_, _, _, _, _, _, _, _]), (0, _), (1, _)]) rfl rfl rfl rfl rfl rfl (.inl rfl) rfl ?_
    refine za rfl (zd (zg rfl (za rfl (za rfl (zd (zl (zE ?_)))))))
    have e56 : zcP c l = (zjC c l.Value).2 := by
     unfold zcP
     try dsimp only
     rewrite [hJ1]
     try dsimp only
     rewrite [if_neg g46, if_pos g54]
     all_goals rfl
    rw [e56]
    exact zk rfl ⟨trivial, trivial⟩ (rfl) rfl
   ·have g54 : ¬ ((l.Do : Int) = 2) := zed h54
    refine zt (zu (zg rfl (za rfl (zd (zl ?_)))))
    have e57 : zcP c l = true := by
     unfold zcP
     try dsimp only
     rewrite [hJ1]
     try dsimp only
     rewrite [if_neg g46, if_neg g54]
     all_goals rfl
    rw [e57]
    exact zk rfl ⟨trivial, trivial⟩ (rfl) rfl

def za0 (f : GFoe) : Sum Bool Unit :=
  if zR f.Health 1 = true then (if zR f.Hit 0 = true then (if zR f.Reach 0 = true then (if zR f.Every 1 = true then (if (f.Drops : Int) < 0 then .inl false else if (f.Drops : Int) > 16 then .inl false else if (f.Script.length : Int) > 16 then .inl false else if (f.Hoard.length : Int) > 16 then .inl false else if (f.Drops : Int) > 0 then (if (f.Hoard.length : Int) = 0 then .inl false else .inr ()) else .inr ()) else .inl false) else .inl false) else .inl false) else .inl false
def zcM (c : zA) : List zcc → Nat → Sum Bool Unit
  | [], k0 => .inr ()
  | x0 :: l_, k0 => if zcP c x0 = true then zcM c l_ (k0 + 1) else .inl false
def zcg : List zbD → Nat → Sum Bool Unit
  | [], k1 => .inr ()
  | x1 :: l_, k1 => if zR x1.Item 1 = true then (if zR x1.Weight 1 = true then zcg l_ (k1 + 1) else .inl false) else .inl false
def foeR (c : zA) (f : GFoe) : Bool :=
  (match za0 f with
    | .inl r_ => r_
    | .inr () => (match zcM c f.Script 0 with
    | .inl r_ => r_
    | .inr () => (match zcg f.Hoard 0 with
    | .inl r_ => r_
    | .inr () => true)))
theorem zt6 (c : zA) (f : GFoe) (hF : Few9 c) : Ok Tryz.prog 108 [zak c, zg9 f] [] (B (foeR c f)) [] [] := by
 refine Ok.len fun hlen => ?_
 have hl_c_Abilities := hlL (n := c.Abilities.length) hlen
 have hl_c_Auras := hlL (n := c.Auras.length) hlen
 have hl_c_Foes := hlL (n := c.Foes.length) hlen
 have hl_c_Map_Wall := hlL (n := c.Map.Wall.length) hlen
 have hl_f_Script := hlL (n := f.Script.length) hlen
 have hl_f_Hoard := hlL (n := f.Hoard.length) hlen
 refine zx Tryz.func108 rfl ?_
 refine zg rfl (zz (o := .box [_, _, _, _, _, _, _, _, _, _]) (nx' := 1) rfl rfl rfl trivial (zz (o := .box [_, _, _, _, _, _, _, _]) (nx' := 2) rfl rfl rfl trivial (za rfl (zd (zm ?_)))))
 refine zX (fun w_ : Unit => match w_ with | () => (⟨[(2, .ptr 0 0), (3, .ptr 1 0)], [(0, .box [.pv (.slc c.Abilities.length false (c.Abilities.flatMap zj)), .pv (.slc c.Auras.length false (c.Auras.flatMap zp)), .pv (.slc c.Foes.length false (c.Foes.flatMap zC)), I c.Map.W, I c.Map.H, .pv (.slc c.Map.Wall.length false (encB c.Map.Wall)), I c.Door.X, I c.Door.Y, I c.Lair.X, I c.Lair.Y]), (1, .box [I f.Id, I f.Health, I f.Hit, I f.Every, I f.Reach, .pv (.slc f.Script.length false (f.Script.flatMap zU)), .pv (.slc f.Hoard.length false (f.Hoard.flatMap zM)), I f.Drops])], 2, [], 104, 0⟩ : St)) (fun w_ => za0 f = .inr w_) ?_ ?_
 ·refine zg rfl (zh rfl rfl aP0 (za rfl (zB rfl rfl rfl rfl (zaP f.Health 1) rfl rfl rfl (za rfl (za rfl ?_)))))
  refine zG rfl (fun h3 => ?_) (fun h3 => ?_)
  ·have g3 : ¬ (zR f.Health 1 = true) := zaA (zbA h3)
   refine zf rfl h3 rfl (zf rfl h3 rfl (zf rfl h3 rfl (zf rfl h3 rfl (zo rfl h3 rfl rfl (za rfl (zc rfl (zc rfl (zc rfl (zc rfl (za rfl (za rfl (zc rfl (zc rfl (zc rfl (zc rfl (za rfl (za rfl ?_)))))))))))))))))
   refine zc rfl (zc rfl (zc rfl (za rfl (za rfl (zc rfl (zc rfl (zc rfl (za rfl (za rfl (zc rfl (zc rfl (zc rfl (zc rfl (za rfl (za rfl (zc rfl (zc rfl ?_)))))))))))))))))
   refine zc rfl (zc rfl (za rfl (za rfl (zc rfl (zc rfl (zc rfl (zc rfl (zc rfl (zc rfl (zc rfl (zc rfl (zc rfl (za rfl (zd (zK rfl (zm ?_))))))))))))))))
   refine zy rfl (za rfl (zd (zl (zaz (zE ?_)))))
   have e4 : za0 f = .inl false := by
    unfold za0
    try dsimp only
    rewrite [if_neg g3]
    all_goals rfl
   have e5 : foeR c f = false := by
    unfold foeR
    try dsimp only
    rewrite [e4]
    try dsimp only
    all_goals rfl
   rw [e5]
   exact zk rfl ⟨trivial, trivial⟩ (rfl) rfl
  ·have g3 : zR f.Health 1 = true := (zbz h3)
   refine ze rfl h3 (zh rfl rfl aP0 (ze rfl h3 (za rfl (ze rfl h3 (zB rfl rfl rfl rfl (zaP f.Hit 0) rfl rfl rfl (ze rfl h3 (za rfl (zn rfl h3 rfl rfl (za rfl ?_)))))))))
   refine zG rfl (fun h7 => ?_) (fun h7 => ?_)
   ·have g7 : ¬ (zR f.Hit 0 = true) := zaA (zbA h7)
    refine zf rfl h7 rfl (zf rfl h7 rfl (zf rfl h7 rfl (zf rfl h7 rfl (zo rfl h7 rfl rfl (za rfl (zc rfl (zc rfl (zc rfl (zc rfl (za rfl (za rfl (zc rfl (zc rfl (zc rfl (za rfl (za rfl (zc rfl ?_)))))))))))))))))
    refine zc rfl (zc rfl (za rfl (za rfl (zc rfl (zc rfl (zc rfl (zc rfl (za rfl (za rfl (zc rfl (zc rfl (zc rfl (zc rfl (za rfl (za rfl (zc rfl (zc rfl ?_)))))))))))))))))
    refine zc rfl (zc rfl (zc rfl (zc rfl (zc rfl (zc rfl (zc rfl (za rfl (zd (zK rfl (zg rfl (za rfl (zd (zl (zaz ?_))))))))))))))
    refine zE ?_
    have e8 : za0 f = .inl false := by
     unfold za0
     try dsimp only
     rewrite [if_pos g3, if_neg g7]
     all_goals rfl
    have e9 : foeR c f = false := by
     unfold foeR
     try dsimp only
     rewrite [e8]
     try dsimp only
     all_goals rfl
    rw [e9]
    exact zk rfl ⟨trivial, trivial⟩ (rfl) rfl
   ·have g7 : zR f.Hit 0 = true := (zbz h7)
    refine ze rfl h7 (zh rfl rfl aP0 (ze rfl h7 (za rfl (ze rfl h7 (zB rfl rfl rfl rfl (zaP f.Reach 0) rfl rfl rfl (ze rfl h7 (za rfl (zn rfl h7 rfl rfl (za rfl ?_)))))))))
    refine zG rfl (fun h11 => ?_) (fun h11 => ?_)
    ·have g11 : ¬ (zR f.Reach 0 = true) := zaA (zbA h11)
     refine zf rfl h11 rfl (zf rfl h11 rfl (zf rfl h11 rfl (zf rfl h11 rfl (zo rfl h11 rfl rfl (za rfl (zc rfl (zc rfl (zc rfl (za rfl (za rfl (zc rfl (zc rfl (zc rfl (za rfl (za rfl (zc rfl (zc rfl ?_)))))))))))))))))
     refine zc rfl (zc rfl (za rfl (za rfl (zc rfl (zc rfl (zc rfl (zc rfl (za rfl (za rfl (zc rfl (zc rfl (zc rfl (zc rfl (zc rfl (zc rfl (zc rfl (zc rfl ?_)))))))))))))))))
     refine zc rfl (za rfl (zd (zK rfl (zg rfl (za rfl (zd (zl (zaz (zE ?_)))))))))
     have e12 : za0 f = .inl false := by
      unfold za0
      try dsimp only
      rewrite [if_pos g3, if_pos g7, if_neg g11]
      all_goals rfl
     have e13 : foeR c f = false := by
      unfold foeR
      try dsimp only
      rewrite [e12]
      try dsimp only
      all_goals rfl
     rw [e13]
     exact zk rfl ⟨trivial, trivial⟩ (rfl) rfl
    ·have g11 : zR f.Reach 0 = true := (zbz h11)
     refine ze rfl h11 (zh rfl rfl aP0 (ze rfl h11 (za rfl (ze rfl h11 (zB rfl rfl rfl rfl (zaP f.Every 1) rfl rfl rfl (ze rfl h11 (za rfl (zn rfl h11 rfl rfl (za rfl ?_)))))))))
     refine zG rfl (fun h15 => ?_) (fun h15 => ?_)
     ·have g15 : ¬ (zR f.Every 1 = true) := zaA (zbA h15)
      refine zf rfl h15 rfl (zf rfl h15 rfl (zf rfl h15 rfl (zo rfl h15 rfl rfl (za rfl (zc rfl (zc rfl (zc rfl (za rfl (za rfl (zc rfl (zc rfl (zc rfl (zc rfl (za rfl (za rfl (zc rfl (zc rfl ?_)))))))))))))))))
      refine zc rfl (zc rfl (za rfl (za rfl (zc rfl (zc rfl (zc rfl (zc rfl (zc rfl (zc rfl (zc rfl (zc rfl (zc rfl (za rfl (zd (zK rfl (zm ?_))))))))))))))))
      refine zy rfl (za rfl (zd (zl (zaz (zE ?_)))))
      have e16 : za0 f = .inl false := by
       unfold za0
       try dsimp only
       rewrite [if_pos g3, if_pos g7, if_pos g11, if_neg g15]
       all_goals rfl
      have e17 : foeR c f = false := by
       unfold foeR
       try dsimp only
       rewrite [e16]
       try dsimp only
       all_goals rfl
      rw [e17]
      exact zk rfl ⟨trivial, trivial⟩ (rfl) rfl
     ·have g15 : zR f.Every 1 = true := (zbz h15)
      refine ze rfl h15 (zh rfl rfl aP0 (ze rfl h15 (za rfl (ze rfl h15 (zi rfl rfl rfl rfl rfl trivial (zn rfl h15 rfl rfl (za rfl ?_)))))))
      refine zG rfl (fun h19 => ?_) (fun h19 => ?_)
      ·have g19 : (f.Drops : Int) < 0 := of_decide_eq_true h19
       refine zf rfl h19 rfl (zf rfl h19 rfl (zf rfl h19 rfl (zo rfl h19 rfl rfl (za rfl (zc rfl (zc rfl (zc rfl (zc rfl (za rfl (za rfl (zc rfl (zc rfl (zc rfl (zc rfl (za rfl (za rfl (zc rfl ?_)))))))))))))))))
       refine zc rfl (zc rfl (zc rfl (zc rfl (zc rfl (zc rfl (zc rfl (zc rfl (za rfl (zd (zK rfl (zg rfl (za rfl (zd (zl ?_))))))))))))))
       refine zaz (zE ?_)
       have e20 : za0 f = .inl false := by
        unfold za0
        try dsimp only
        rewrite [if_pos g3, if_pos g7, if_pos g11, if_pos g15, if_pos g19]
        all_goals rfl
       have e21 : foeR c f = false := by
        unfold foeR
        try dsimp only
        rewrite [e20]
        try dsimp only
        all_goals rfl
       rw [e21]
       exact zk rfl ⟨trivial, trivial⟩ (rfl) rfl
      ·have g19 : ¬ ((f.Drops : Int) < 0) := of_decide_eq_false h19
       refine ze rfl h19 (zh rfl rfl aP0 (ze rfl h19 (za rfl (ze rfl h19 (zi rfl rfl rfl rfl rfl trivial (zn rfl h19 rfl rfl (za rfl ?_)))))))
       refine zG rfl (fun h23 => ?_) (fun h23 => ?_)
       ·have g23 : (f.Drops : Int) > 16 := of_decide_eq_true h23
        refine zf rfl h23 rfl (zf rfl h23 rfl (zf rfl h23 rfl (zf rfl h23 rfl (zo rfl h23 rfl rfl (za rfl (zc rfl (zc rfl (zc rfl (zc rfl (za rfl (za rfl (zc rfl (zc rfl (zc rfl (zc rfl (zc rfl (zc rfl ?_)))))))))))))))))
        refine zc rfl (zc rfl (zc rfl (za rfl (zd (zK rfl (zg rfl (za rfl (zd (zl (zaz (zE ?_)))))))))))
        have e24 : za0 f = .inl false := by
         unfold za0
         try dsimp only
         rewrite [if_pos g3, if_pos g7, if_pos g11, if_pos g15, if_neg g19, if_pos g23]
         all_goals rfl
        have e25 : foeR c f = false := by
         unfold foeR
         try dsimp only
         rewrite [e24]
         try dsimp only
         all_goals rfl
        rw [e25]
        exact zk rfl ⟨trivial, trivial⟩ (rfl) rfl
       ·have g23 : ¬ ((f.Drops : Int) > 16) := of_decide_eq_false h23
        refine ze rfl h23 (zh rfl rfl aP0 (ze rfl h23 (za rfl (ze rfl h23 (za rfl (ze rfl h23 (zi rfl rfl rfl rfl rfl trivial (zn rfl h23 rfl rfl (za rfl ?_)))))))))
        refine zG rfl (fun h27 => ?_) (fun h27 => ?_)
        ·have g27 : (f.Script.length : Int) > 16 := of_decide_eq_true h27
         refine zf rfl h27 rfl (zf rfl h27 rfl (zf rfl h27 rfl (zf rfl h27 rfl (zo rfl h27 rfl rfl (za rfl (zc rfl (zc rfl (zc rfl (zc rfl (zc rfl (zc rfl (zc rfl (zc rfl (zc rfl (za rfl (zd ?_))))))))))))))))
         refine zK rfl (zg rfl (za rfl (zd (zl (zaz (zE ?_))))))
         have e28 : za0 f = .inl false := by
          unfold za0
          try dsimp only
          rewrite [if_pos g3, if_pos g7, if_pos g11, if_pos g15, if_neg g19, if_neg g23, if_pos g27]
          all_goals rfl
         have e29 : foeR c f = false := by
          unfold foeR
          try dsimp only
          rewrite [e28]
          try dsimp only
          all_goals rfl
         rw [e29]
         exact zk rfl ⟨trivial, trivial⟩ (rfl) rfl
        ·have g27 : ¬ ((f.Script.length : Int) > 16) := of_decide_eq_false h27
         refine ze rfl h27 (zh rfl rfl aP0 (ze rfl h27 (za rfl (ze rfl h27 (za rfl (ze rfl h27 (zi rfl rfl rfl rfl rfl trivial (zn rfl h27 rfl rfl (za rfl ?_)))))))))
         refine zG rfl (fun h31 => ?_) (fun h31 => ?_)
         ·have g31 : (f.Hoard.length : Int) > 16 := of_decide_eq_true h31
          refine zf rfl h31 rfl (zf rfl h31 rfl (zf rfl h31 rfl (zf rfl h31 rfl (zc rfl (zc rfl (zc rfl (zc rfl (zf rfl h31 rfl (zo rfl h31 rfl rfl (zd (zK rfl (zg rfl (za rfl (zd ?_))))))))))))))
          refine zl (zaz (zE ?_))
          have e32 : za0 f = .inl false := by
           unfold za0
           try dsimp only
           rewrite [if_pos g3, if_pos g7, if_pos g11, if_pos g15, if_neg g19, if_neg g23, if_neg g27, if_pos g31]
           all_goals rfl
          have e33 : foeR c f = false := by
           unfold foeR
           try dsimp only
           rewrite [e32]
           try dsimp only
           all_goals rfl
          rw [e33]
          exact zk rfl ⟨trivial, trivial⟩ (rfl) rfl
         ·have g31 : ¬ ((f.Hoard.length : Int) > 16) := of_decide_eq_false h31
          refine ze rfl h31 (zh rfl rfl aP0 (ze rfl h31 (za rfl (ze rfl h31 (zi rfl rfl rfl rfl rfl trivial (ze rfl h31 (za rfl ?_)))))))
          refine zG rfl (fun h35 => ?_) (fun h35 => ?_)
          ·have g35 : (f.Drops : Int) > 0 := of_decide_eq_true h35
           refine ze rfl h35 (zh rfl rfl aP0 (ze rfl h35 (za rfl (ze rfl h35 (za rfl (ze rfl h35 (zi rfl rfl rfl rfl rfl trivial (ze rfl h31 (zo rfl h35 rfl rfl (zn rfl h31 rfl rfl (zd ?_)))))))))))
           refine zr rfl (fun h37 => ?_) (fun h37 => ?_)
           ·have g37 : (f.Hoard.length : Int) = 0 := zd5 h37
            refine zg rfl (za rfl (zd (zl (zaz (zE ?_)))))
            have e38 : za0 f = .inl false := by
             unfold za0
             try dsimp only
             rewrite [if_pos g3, if_pos g7, if_pos g11, if_pos g15, if_neg g19, if_neg g23, if_neg g27, if_neg g31, if_pos g35, if_pos g37]
             all_goals rfl
            have e39 : foeR c f = false := by
             unfold foeR
             try dsimp only
             rewrite [e38]
             try dsimp only
             all_goals rfl
            rw [e39]
            exact zk rfl ⟨trivial, trivial⟩ (rfl) rfl
           ·have g37 : ¬ ((f.Hoard.length : Int) = 0) := zed h37
            refine zt ?_
            have e40 : za0 f = .inr () := by
             unfold za0
             try dsimp only
             rewrite [if_pos g3, if_pos g7, if_pos g11, if_pos g15, if_neg g19, if_neg g23, if_neg g27, if_neg g31, if_pos g35, if_neg g37]
             all_goals rfl
            exact z0 () e40 (zD.ren [] aP1 aP1 rfl ⟨⟨rfl, rfl⟩, ⟨rfl, rfl⟩, trivial⟩ ⟨⟨rfl, rfl, rfl⟩, ⟨rfl, rfl, rfl⟩, trivial⟩ aP0)
          ·have g35 : ¬ ((f.Drops : Int) > 0) := of_decide_eq_false h35
           refine zf rfl h35 rfl (zf rfl h35 rfl (zf rfl h35 rfl (zf rfl h35 rfl (ze rfl h31 (zn rfl h35 rfl rfl (zn rfl h31 rfl rfl (zd (zda rfl (zt ?_)))))))))
           have e41 : za0 f = .inr () := by
            unfold za0
            try dsimp only
            rewrite [if_pos g3, if_pos g7, if_pos g11, if_pos g15, if_neg g19, if_neg g23, if_neg g27, if_neg g31, if_neg g35]
            all_goals rfl
           exact z0 () e41 (zD.ren [] aP1 aP1 rfl ⟨⟨rfl, rfl⟩, ⟨rfl, rfl⟩, trivial⟩ ⟨⟨rfl, rfl, rfl⟩, ⟨rfl, rfl, rfl⟩, trivial⟩ aP0)
 ·rintro ⟨⟩ (hJ1 : za0 f = .inr ())
  refine zu (zm (zg rfl (za rfl (zd ?_))))
  refine zX (fun w_ : Unit => match w_ with | () => (⟨[(3, .ptr 0 0)], [(0, .box [I f.Id, I f.Health, I f.Hit, I f.Every, I f.Reach, .pv (.slc f.Script.length false (f.Script.flatMap zU)), .pv (.slc f.Hoard.length false (f.Hoard.flatMap zM)), I f.Drops])], 1, [], 104, 0⟩ : St)) (fun w_ => zcM c f.Script 0 = .inr w_) ?_ ?_
  ·refine zw ?_
   refine z1 (fun k0 : Nat => (⟨[(2, .ptr 0 0), (3, .ptr 1 0), (5, I k0)], [(0, .box [.pv (.slc c.Abilities.length false (c.Abilities.flatMap zj)), .pv (.slc c.Auras.length false (c.Auras.flatMap zp)), .pv (.slc c.Foes.length false (c.Foes.flatMap zC)), I c.Map.W, I c.Map.H, .pv (.slc c.Map.Wall.length false (encB c.Map.Wall)), I c.Door.X, I c.Door.Y, I c.Lair.X, I c.Lair.Y]), (1, .box [I f.Id, I f.Health, I f.Hit, I f.Every, I f.Reach, .pv (.slc f.Script.length false (f.Script.flatMap zU)), .pv (.slc f.Hoard.length false (f.Hoard.flatMap zM)), I f.Drops])], 2, [], 104, 0⟩ : St)) (fun k0 : Nat => zcM c (f.Script.drop k0) k0 = zcM c f.Script 0 ∧ k0 ≤ f.Script.length) (fun k0 : Nat => f.Script.length - k0) 0 (⟨rfl, Nat.zero_le _⟩) ?_ (fun k0 hh_ => ?_)
   ·exact (zD.ren [] aP1 aP1 rfl ⟨⟨rfl, rfl⟩, ⟨rfl, rfl⟩, ⟨rfl, rfl⟩, trivial⟩ ⟨⟨rfl, rfl, rfl⟩, ⟨rfl, rfl, rfl⟩, trivial⟩ aP0)
   obtain ⟨hI0, hb0⟩ := hh_
   refine zm (zg rfl (za rfl (zh rfl rfl aP0 (za rfl (za rfl (zi rfl rfl rfl rfl rfl trivial (zd ?_)))))))
   refine zr rfl (fun h44 => ?_) (fun h44 => ?_)
   ·have g44 : (k0 : Int) < f.Script.length := of_decide_eq_true h44
    have hk0 : k0 < f.Script.length := by omega
    obtain ⟨x0, hx0⟩ : ∃ z_, f.Script[k0]? = some z_ := ⟨_, List.getElem?_eq_getElem hk0⟩
    refine zt (zu (zm (zw (zm ?_))))
    refine zav rfl aP1 rfl ?_
    refine zh (v := (.agg [_, _, _, _, _, _, _, _, _, _])) rfl rfl (Nat.le_of_ble_eq_true rfl) (zh rfl rfl aP0 (za rfl (za rfl (zJ (k := k0) rfl rfl rfl rfl hk0 (z3 (s := 5) (enc := zU) (fun _ => rfl) aP0 hk0) rfl (zF rfl rfl rfl (zai (s := 5) (enc := zU) (fun _ => rfl) hk0) (zZ (s := 5) (enc := zU) (fun _ => rfl) hx0) rfl (zB rfl rfl rfl rfl (zsO c x0 (by first | assumption | grind)) rfl rfl rfl (za rfl (zd (zg rfl (za rfl (za rfl (zd ?_))))))))))))
    refine zr rfl (fun h46 => ?_) (fun h46 => ?_)
    ·have g46 : ¬ (zcP c x0 = true) := zaA (zbA h46)
     refine zg rfl (za rfl (zd (zl (z8 (zE (zbm (z8 (zaz (zE ?_)))))))))
     have e47 : zcM c f.Script 0 = .inl false := by
      rewrite [← hI0, zT hx0]
      rewrite [zcM]
      try dsimp only
      rewrite [if_neg g46]
      all_goals rfl
     have e48 : foeR c f = false := by
      unfold foeR
      try dsimp only
      rewrite [hJ1]
      try dsimp only
      rewrite [e47]
      try dsimp only
      all_goals rfl
     rw [e48]
     exact zk rfl ⟨trivial, trivial⟩ (rfl) rfl
    ·have g46 : zcP c x0 = true := (zbz h46)
     refine zt (zal (zu (zy rfl (za rfl (zi rfl rfl rfl rfl rfl trivial (za rfl (zq ?_)))))))
     have e50 : zcM c (f.Script.drop k0) k0 = zcM c (f.Script.drop (k0 + 1)) (k0 + 1) := by
      rewrite [zT hx0]
      rewrite [zcM]
      try dsimp only
      rewrite [if_pos g46]
      all_goals rfl
     exact zQ (k0 + 1) ⟨e50.symm.trans hI0, hk0⟩ (by show f.Script.length - (k0 + 1) < f.Script.length - k0; omega) (zD.ren [] aP1 aP1 rfl ⟨⟨rfl, rfl⟩, ⟨rfl, rfl⟩, ⟨congrArg (fun n => some (I n)) (zbS (k := k0) aP2), rfl⟩, trivial⟩ ⟨⟨rfl, rfl, rfl⟩, ⟨rfl, rfl, rfl⟩, trivial⟩ aP0)
   ·have g44 : ¬ ((k0 : Int) < f.Script.length) := of_decide_eq_false h44
    have hk0 : k0 = f.Script.length := by omega
    refine zS (z5 (zag (zaf rfl ?_)))
    have e51 : zcM c f.Script 0 = .inr () := by
     rewrite [← hI0, hk0, List.drop_length]
     rewrite [zcM]
     try dsimp only
     all_goals rfl
    exact z0 () e51 (zD.ren [(0, 1), (1, 0)] aP1 aP1 rfl ⟨⟨rfl, rfl⟩, trivial⟩ ⟨⟨rfl, rfl, rfl⟩, trivial⟩ aP0)
  ·rintro ⟨⟩ (hJ42 : zcM c f.Script 0 = .inr ())
   refine zu (zm (zg rfl (za rfl (zd ?_))))
   refine zX (fun w_ : Unit => match w_ with | () => (⟨[], [], 0, [], 104, 0⟩ : St)) (fun w_ => zcg f.Hoard 0 = .inr w_) ?_ ?_
   ·refine zw ?_
    refine z1 (fun k1 : Nat => (⟨[(3, .ptr 0 0), (7, I k1)], [(0, .box [I f.Id, I f.Health, I f.Hit, I f.Every, I f.Reach, .pv (.slc f.Script.length false (f.Script.flatMap zU)), .pv (.slc f.Hoard.length false (f.Hoard.flatMap zM)), I f.Drops])], 1, [], 104, 0⟩ : St)) (fun k1 : Nat => zcg (f.Hoard.drop k1) k1 = zcg f.Hoard 0 ∧ k1 ≤ f.Hoard.length) (fun k1 : Nat => f.Hoard.length - k1) 0 (⟨rfl, Nat.zero_le _⟩) ?_ (fun k1 hh_ => ?_)
    ·exact (zD.ren [] aP1 aP1 rfl ⟨⟨rfl, rfl⟩, ⟨rfl, rfl⟩, trivial⟩ ⟨⟨rfl, rfl, rfl⟩, trivial⟩ aP0)
    obtain ⟨hI1, hb1⟩ := hh_
    refine zm (zg rfl (za rfl (zh rfl rfl aP0 (za rfl (za rfl (zi rfl rfl rfl rfl rfl trivial (zd ?_)))))))
    refine zr rfl (fun h54 => ?_) (fun h54 => ?_)
    ·have g54 : (k1 : Int) < f.Hoard.length := of_decide_eq_true h54
     have hk1 : k1 < f.Hoard.length := by omega
     obtain ⟨x1, hx1⟩ : ∃ z_, f.Hoard[k1]? = some z_ := ⟨_, List.getElem?_eq_getElem hk1⟩
     refine zt (zu (zm (zw (zg rfl (zh rfl rfl aP0 (za rfl (za rfl (zJ (k := k1) rfl rfl rfl rfl hk1 (z3 (s := 2) (enc := zM) (fun _ => rfl) aP0 hk1) rfl (zh rfl rfl aP0 (zO rfl rfl rfl (zb7 (s := 2) (enc := zM) (fun _ => rfl) hx1 (o := 0) rfl aP0) rfl (zB rfl rfl rfl rfl (zaP x1.Item 1) rfl rfl rfl (za rfl (za rfl ?_)))))))))))))
     refine zG rfl (fun h56 => ?_) (fun h56 => ?_)
     ·have g56 : ¬ (zR x1.Item 1 = true) := zaA (zbA h56)
      refine zf rfl h56 rfl (zf rfl h56 rfl (zf rfl h56 rfl (zf rfl h56 rfl (zf rfl h56 rfl (zf rfl h56 rfl (zf rfl h56 rfl (zf rfl h56 rfl (zo rfl h56 rfl rfl (zd (zK rfl (zg rfl (za rfl (zd (zl ?_))))))))))))))
      refine z8 (zE (zbm (z8 (zaz (zE ?_)))))
      have e57 : zcg f.Hoard 0 = .inl false := by
       rewrite [← hI1, zT hx1]
       rewrite [zcg]
       try dsimp only
       rewrite [if_neg g56]
       all_goals rfl
      have e58 : foeR c f = false := by
       unfold foeR
       try dsimp only
       rewrite [hJ1]
       try dsimp only
       rewrite [hJ42]
       try dsimp only
       rewrite [e57]
       try dsimp only
       all_goals rfl
      rw [e58]
      exact zk rfl ⟨trivial, trivial⟩ (rfl) rfl
     ·have g56 : zR x1.Item 1 = true := (zbz h56)
      refine ze rfl h56 (zh rfl rfl aP0 (ze rfl h56 (za rfl (ze rfl h56 (za rfl (ze rfl h56 (zJ (k := k1) rfl rfl rfl rfl hk1 (z3 (s := 2) (enc := zM) (fun _ => rfl) aP0 hk1) rfl (ze rfl h56 (zh rfl rfl aP0 (ze rfl h56 (zO rfl rfl rfl (zb7 (s := 2) (enc := zM) (fun _ => rfl) hx1 (o := 1) rfl aP0) rfl (ze rfl h56 (zB rfl rfl rfl rfl (zaP x1.Weight 1) rfl rfl rfl (ze rfl h56 (za rfl (zn rfl h56 rfl rfl (zq ?_)))))))))))))))))
      refine zu ?_
      refine zr rfl (fun h60 => ?_) (fun h60 => ?_)
      ·have g60 : ¬ (zR x1.Weight 1 = true) := zaA (zbA h60)
       refine zg rfl (za rfl (zd (zl (z8 (zE (zbm (z8 (zaz (zE ?_)))))))))
       have e61 : zcg f.Hoard 0 = .inl false := by
        rewrite [← hI1, zT hx1]
        rewrite [zcg]
        try dsimp only
        rewrite [if_pos g56, if_neg g60]
        all_goals rfl
       have e62 : foeR c f = false := by
        unfold foeR
        try dsimp only
        rewrite [hJ1]
        try dsimp only
        rewrite [hJ42]
        try dsimp only
        rewrite [e61]
        try dsimp only
        all_goals rfl
       rw [e62]
       exact zk rfl ⟨trivial, trivial⟩ (rfl) rfl
      ·have g60 : zR x1.Weight 1 = true := (zbz h60)
       refine zt (zal (zu (zy rfl (za rfl (zi rfl rfl rfl rfl rfl trivial (za rfl (zq ?_)))))))
       have e64 : zcg (f.Hoard.drop k1) k1 = zcg (f.Hoard.drop (k1 + 1)) (k1 + 1) := by
        rewrite [zT hx1]
        rewrite [zcg]
        try dsimp only
        rewrite [if_pos g56, if_pos g60]
        all_goals rfl
       exact zQ (k1 + 1) ⟨e64.symm.trans hI1, hk1⟩ (by show f.Hoard.length - (k1 + 1) < f.Hoard.length - k1; omega) (zD.ren [] aP1 aP1 rfl ⟨⟨rfl, rfl⟩, ⟨congrArg (fun n => some (I n)) (zbS (k := k1) aP2), rfl⟩, trivial⟩ ⟨⟨rfl, rfl, rfl⟩, trivial⟩ aP0)
    ·have g54 : ¬ ((k1 : Int) < f.Hoard.length) := of_decide_eq_false h54
     have hk1 : k1 = f.Hoard.length := by omega
     refine zS (z5 (zag (zaf rfl ?_)))
     have e65 : zcg f.Hoard 0 = .inr () := by
      rewrite [← hI1, hk1, List.drop_length]
      rewrite [zcg]
      try dsimp only
      all_goals rfl
     exact z0 () e65 (zD.ren [] aP1 aP1 rfl trivial trivial aP0)
   ·rintro ⟨⟩ (hJ52 : zcg f.Hoard 0 = .inr ())
    refine zu (zg rfl (za rfl (zd (zl ?_))))
    have e66 : foeR c f = true := by
     unfold foeR
     try dsimp only
     rewrite [hJ1]
     try dsimp only
     rewrite [hJ42]
     try dsimp only
     rewrite [hJ52]
     try dsimp only
     all_goals rfl
    rw [e66]
    exact zk rfl ⟨trivial, trivial⟩ (rfl) rfl

def zah (bad : List Bool) (ids : List Int) : Nat → Nat → Sum Int Unit
  | 0, k0 => .inr ()
  | n_ + 1, k0 => if bad.getD k0 default = true then .inl (k0 : Int) else if (ids.getD k0 default : Int) < 1 then .inl (k0 : Int) else if (k0 : Int) > 0 then (if (ids.getD k0 default : Int) ≤ (ids.getD ((IntKind.i64.wrap (k0 - 1)).toNat) default) then .inl (k0 : Int) else zah bad ids n_ (k0 + 1)) else zah bad ids n_ (k0 + 1)
def zbM (bad : List Bool) (ids : List Int) : Int :=
  (match zah bad ids ((min bad.length 64) - 0) 0 with
    | .inl r_ => r_
    | .inr () => if (bad.length : Int) > 64 then 64 else (-1))
theorem zeJ (bad : List Bool) (bad_f : Bool) (ids : List Int) (ids_f : Bool) (hb : bad.length = ids.length) : Ok Tryz.prog 106 [.pv (.slc bad.length bad_f (encB bad)), .pv (.slc ids.length ids_f (encI ids))] [] (I (zbM bad ids)) [] [] := by
 refine Ok.len fun hlen => ?_
 have hl_bad := hlL (n := bad.length) hlen
 have hl_ids := hlL (n := ids.length) hlen
 refine zx Tryz.func106 rfl ?_
 refine zg rfl (za rfl (zd (zm (zg rfl (za rfl (zd ?_))))))
 refine zX (fun w_ : Unit => match w_ with | () => (⟨[(0, .pv (.slc bad.length bad_f (encB bad)))], [], 0, [], 47, 0⟩ : St)) (fun w_ => zah bad ids ((min bad.length 64) - 0) 0 = .inr w_) ?_ ?_
 ·refine zw ?_
  refine z1 (fun k0 : Nat => (⟨[(0, .pv (.slc bad.length bad_f (encB bad))), (1, .pv (.slc ids.length ids_f (encI ids))), (5, I k0)], [], 0, [], 47, 0⟩ : St)) (fun k0 : Nat => zah bad ids ((min bad.length 64) - k0) k0 = zah bad ids ((min bad.length 64) - 0) 0 ∧ k0 ≤ min bad.length 64) (fun k0 : Nat => min bad.length 64 - k0) 0 (⟨rfl, aP2⟩) ?_ (fun k0 hh_ => ?_)
  ·exact (zD.ren [] aP1 aP1 rfl ⟨⟨rfl, rfl⟩, ⟨rfl, rfl⟩, ⟨rfl, rfl⟩, trivial⟩ trivial aP0)
  obtain ⟨hI0, hb0⟩ := hh_
  refine zm (zg rfl (za rfl (za rfl (za rfl (zi rfl rfl rfl rfl rfl trivial (za rfl ?_))))))
  refine zG rfl (fun h4 => ?_) (fun h4 => ?_)
  ·have g4 : (k0 : Int) < bad.length := of_decide_eq_true h4
   refine ze rfl h4 (za rfl (ze rfl h4 (zi rfl rfl rfl rfl rfl trivial (zo rfl h4 rfl rfl (zd ?_)))))
   refine zr rfl (fun h6 => ?_) (fun h6 => ?_)
   ·have g6 : (k0 : Int) < 64 := of_decide_eq_true h6
    have hm0 : min bad.length 64 - k0 = (min bad.length 64 - (k0 + 1)) + 1 := by omega
    refine zt (zu (zm (zw (zm ?_))))
    refine zav rfl aP1 rfl ?_
    refine za rfl (za rfl ?_)
    have jk7 : k0 < bad.length := by first | assumption | omega | (simp only [List.length_set, List.length_append]; omega) | (simp only [IntKind.wrap_i64] at *; omega) | (simp; omega) | simp_all
    refine zJ (k := k0) rfl rfl rfl rfl jk7 (zgl jk7) rfl (zO rfl rfl rfl (ze8 (zaE jk7)) rfl (za rfl ?_))
    refine zG rfl (fun h9 => ?_) (fun h9 => ?_)
    ·have g9 : bad.getD k0 default = true := h9
     refine zf rfl h9 rfl (zf rfl h9 rfl (zf rfl h9 rfl (zf rfl h9 rfl (zf rfl h9 rfl (zo rfl h9 rfl rfl (za rfl (zc rfl (zc rfl (zc rfl (zc rfl (zc rfl (zc rfl (zc rfl (zc rfl (zc rfl (zc rfl (zc rfl ?_)))))))))))))))))
     refine zc rfl (zc rfl (zc rfl (za rfl (zd (zK rfl (zg rfl (za rfl (za rfl (zd (zl (z8 (zE (zbm (z8 ?_))))))))))))))
     refine zaz (zE ?_)
     have e10 : zah bad ids ((min bad.length 64) - 0) 0 = .inl (k0 : Int) := by
      rewrite [← hI0, hm0]
      rewrite [zah]
      try dsimp only
      rewrite [if_pos g9]
      all_goals rfl
     have e11 : zbM bad ids = (k0 : Int) := by
      unfold zbM
      try dsimp only
      rewrite [e10]
      try dsimp only
      all_goals rfl
     rw [e11]
     exact zk rfl ⟨trivial, trivial⟩ (rfl) rfl
    ·have g9 : ¬ (bad.getD k0 default = true) := zaA h9
     refine ze rfl h9 (za rfl (ze rfl h9 (za rfl (ze rfl h9 ?_))))
     have jk12 : k0 < ids.length := by first | assumption | omega | (simp only [List.length_set, List.length_append]; omega) | (simp only [IntKind.wrap_i64] at *; omega) | (simp; omega) | simp_all
     refine zJ (k := k0) rfl rfl rfl rfl jk12 (zfF jk12) rfl (ze rfl h9 (zO rfl rfl rfl (zep (zaE jk12)) rfl (ze rfl h9 (zi rfl rfl rfl rfl rfl trivial (zn rfl h9 rfl rfl (za rfl ?_))))))
     refine zG rfl (fun h14 => ?_) (fun h14 => ?_)
     ·have g14 : (ids.getD k0 default : Int) < 1 := of_decide_eq_true h14
      refine zf rfl h14 rfl (zf rfl h14 rfl (zf rfl h14 rfl (zc rfl (zc rfl (zc rfl (zc rfl (zc rfl (zc rfl (zc rfl (zc rfl (zc rfl (zc rfl (zf rfl h14 rfl (zo rfl h14 rfl rfl (zd (zK rfl ?_))))))))))))))))
      refine zg rfl (za rfl (za rfl (zd (zl (z8 (zE (zbm (z8 (zaz (zE ?_))))))))))
      have e15 : zah bad ids ((min bad.length 64) - 0) 0 = .inl (k0 : Int) := by
       rewrite [← hI0, hm0]
       rewrite [zah]
       try dsimp only
       rewrite [if_neg g9, if_pos g14]
       all_goals rfl
      have e16 : zbM bad ids = (k0 : Int) := by
       unfold zbM
       try dsimp only
       rewrite [e15]
       try dsimp only
       all_goals rfl
      rw [e16]
      exact zk rfl ⟨trivial, trivial⟩ (rfl) rfl
     ·have g14 : ¬ ((ids.getD k0 default : Int) < 1) := of_decide_eq_false h14
      refine ze rfl h14 (za rfl (ze rfl h14 (zi rfl rfl rfl rfl rfl trivial (ze rfl h14 (za rfl ?_)))))
      refine zG rfl (fun h18 => ?_) (fun h18 => ?_)
      ·have g18 : (k0 : Int) > 0 := of_decide_eq_true h18
       refine ze rfl h18 (za rfl (ze rfl h18 (za rfl (ze rfl h18 (zJ (k := k0) rfl rfl rfl rfl jk12 (zfF jk12) rfl (ze rfl h18 (zO rfl rfl rfl (zep (zaE jk12)) rfl (ze rfl h18 (za rfl (ze rfl h18 (za rfl (ze rfl h18 (zi rfl rfl rfl rfl rfl trivial (ze rfl h18 ?_))))))))))))))
       have jk19 : (IntKind.i64.wrap (k0 - 1)).toNat < ids.length := by first | assumption | omega | (simp only [List.length_set, List.length_append]; omega) | (simp only [IntKind.wrap_i64] at *; omega) | (simp; omega) | simp_all
       refine zeF (k := (IntKind.i64.wrap (k0 - 1)).toNat) rfl rfl (Int.toNat_of_nonneg aP14).symm rfl rfl jk19 (zfF jk19) rfl ?_
       refine ze rfl h18 (zO rfl rfl rfl (zep (zaE jk19)) rfl (ze rfl h18 (zi rfl rfl rfl rfl rfl trivial (ze rfl h14 (zo rfl h18 rfl rfl (zn rfl h14 rfl rfl (zd ?_)))))))
       refine zr rfl (fun h21 => ?_) (fun h21 => ?_)
       ·have g21 : (ids.getD k0 default : Int) ≤ (ids.getD ((IntKind.i64.wrap (k0 - 1)).toNat) default) := of_decide_eq_true h21
        refine zg rfl (za rfl (za rfl (zd (zl (z8 (zE (zbm (z8 (zaz (zE ?_))))))))))
        have e22 : zah bad ids ((min bad.length 64) - 0) 0 = .inl (k0 : Int) := by
         rewrite [← hI0, hm0]
         rewrite [zah]
         try dsimp only
         rewrite [if_neg g9, if_neg g14, if_pos g18, if_pos g21]
         all_goals rfl
        have e23 : zbM bad ids = (k0 : Int) := by
         unfold zbM
         try dsimp only
         rewrite [e22]
         try dsimp only
         all_goals rfl
        rw [e23]
        exact zk rfl ⟨trivial, trivial⟩ (rfl) rfl
       ·have g21 : ¬ ((ids.getD k0 default : Int) ≤ (ids.getD ((IntKind.i64.wrap (k0 - 1)).toNat) default)) := of_decide_eq_false h21
        refine zt (zal (zu (zy rfl (za rfl (zi rfl rfl rfl rfl rfl trivial (za rfl (zq ?_)))))))
        have e25 : zah bad ids ((min bad.length 64) - k0) k0 = zah bad ids ((min bad.length 64) - (k0 + 1)) (k0 + 1) := by
         rewrite [hm0]
         rewrite [zah]
         try dsimp only
         rewrite [if_neg g9, if_neg g14, if_pos g18, if_neg g21]
         all_goals rfl
        exact zQ (k0 + 1) ⟨e25.symm.trans hI0, aP5⟩ (by show min bad.length 64 - (k0 + 1) < min bad.length 64 - k0; omega) (zD.ren [] aP1 aP1 rfl ⟨⟨rfl, rfl⟩, ⟨rfl, rfl⟩, ⟨congrArg (fun n => some (I n)) (zbS (k := k0) aP2), rfl⟩, trivial⟩ trivial aP0)
      ·have g18 : ¬ ((k0 : Int) > 0) := of_decide_eq_false h18
       refine zf rfl h18 rfl (zf rfl h18 rfl (zf rfl h18 rfl (zf rfl h18 rfl (zf rfl h18 rfl (zf rfl h18 rfl (zf rfl h18 rfl (zf rfl h18 rfl (zf rfl h18 rfl (zf rfl h18 rfl (ze rfl h14 (zn rfl h18 rfl rfl (zn rfl h14 rfl rfl (zd (zda rfl (zt (zal ?_))))))))))))))))
       refine zu (zy rfl (za rfl (zi rfl rfl rfl rfl rfl trivial (za rfl (zq ?_)))))
       have e27 : zah bad ids ((min bad.length 64) - k0) k0 = zah bad ids ((min bad.length 64) - (k0 + 1)) (k0 + 1) := by
        rewrite [hm0]
        rewrite [zah]
        try dsimp only
        rewrite [if_neg g9, if_neg g14, if_neg g18]
        all_goals rfl
       exact zQ (k0 + 1) ⟨e27.symm.trans hI0, aP5⟩ (by show min bad.length 64 - (k0 + 1) < min bad.length 64 - k0; omega) (zD.ren [] aP1 aP1 rfl ⟨⟨rfl, rfl⟩, ⟨rfl, rfl⟩, ⟨congrArg (fun n => some (I n)) (zbS (k := k0) aP2), rfl⟩, trivial⟩ trivial aP0)
   ·have g6 : ¬ ((k0 : Int) < 64) := of_decide_eq_false h6
    have hm0 : min bad.length 64 - k0 = 0 := by omega
    refine zS (z5 (zag (zaf rfl ?_)))
    have e28 : zah bad ids ((min bad.length 64) - 0) 0 = .inr () := by
     rewrite [← hI0, hm0]
     rewrite [zah]
     try dsimp only
     all_goals rfl
    exact z0 () e28 (zD.ren [] aP1 aP1 rfl ⟨⟨rfl, rfl⟩, trivial⟩ trivial aP0)
  ·have g4 : ¬ ((k0 : Int) < bad.length) := of_decide_eq_false h4
   refine zf rfl h4 rfl (zf rfl h4 rfl (zn rfl h4 rfl rfl (zd (zda rfl ?_))))
   have hm0 : min bad.length 64 - k0 = 0 := by omega
   refine zS (z5 (zag (zaf rfl ?_)))
   have e29 : zah bad ids ((min bad.length 64) - 0) 0 = .inr () := by
    rewrite [← hI0, hm0]
    rewrite [zah]
    try dsimp only
    all_goals rfl
   exact z0 () e29 (zD.ren [] aP1 aP1 rfl ⟨⟨rfl, rfl⟩, trivial⟩ trivial aP0)
 ·rintro ⟨⟩ (hJ1 : zah bad ids ((min bad.length 64) - 0) 0 = .inr ())
  refine zu (zm (zg rfl (za rfl (za rfl (zi rfl rfl rfl rfl rfl trivial (zd ?_))))))
  refine zr rfl (fun h30 => ?_) (fun h30 => ?_)
  ·have g30 : (bad.length : Int) > 64 := of_decide_eq_true h30
   refine zg rfl (za rfl (zd (zl (zE ?_))))
   have e31 : zbM bad ids = 64 := by
    unfold zbM
    try dsimp only
    rewrite [hJ1]
    try dsimp only
    rewrite [if_pos g30]
    all_goals rfl
   rw [e31]
   exact zk rfl ⟨trivial, trivial⟩ (rfl) rfl
  ·have g30 : ¬ ((bad.length : Int) > 64) := of_decide_eq_false h30
   refine zt (zu (zg rfl (za rfl (zd (zl ?_)))))
   have e32 : zbM bad ids = (-1) := by
    unfold zbM
    try dsimp only
    rewrite [hJ1]
    try dsimp only
    rewrite [if_neg g30]
    all_goals rfl
   rw [e32]
   exact zk rfl ⟨trivial, trivial⟩ (rfl) rfl

def zbI (c : zA) : List zI → Nat → (List Bool) → (List Int) → (List Bool) × (List Int)
  | [], k0, bad0, ids0 => (bad0, ids0)
  | x0 :: l_, k0, bad0, ids0 => zbI c l_ (k0 + 1) (bad0 ++ [(!(zad c x0))]) (ids0 ++ [x0.Id])
def zbL : List zaI → Nat → (List Bool) → (List Int) → (List Bool) × (List Int)
  | [], k1, bad1, ids1 => (bad1, ids1)
  | x1 :: l_, k1, bad1, ids1 => zbL l_ (k1 + 1) (bad1 ++ [(!(zcV x1))]) (ids1 ++ [x1.Id])
def zbR (c : zA) : List GFoe → Nat → (List Bool) → (List Int) → (List Bool) × (List Int)
  | [], k2, bad2, ids2 => (bad2, ids2)
  | x2 :: l_, k2, bad2, ids2 => zbR c l_ (k2 + 1) (bad2 ++ [(!(foeR c x2))]) (ids2 ++ [x2.Id])
def zdI (c : zA) : zdv × Bool :=
  (match zbI c c.Abilities 0 ([]) ([]) with
    | (bad_0, ids_0) => if (zbM bad_0 ids_0 : Int) ≥ 0 then ((⟨1, (zbM bad_0 ids_0)⟩ : zdv), false) else (match zbL c.Auras 0 ([]) ([]) with
    | (bad_1, ids_1) => if (zbM bad_1 ids_1 : Int) ≥ 0 then ((⟨2, (zbM bad_1 ids_1)⟩ : zdv), false) else (match zbR c c.Foes 0 ([]) ([]) with
    | (bad_2, ids_2) => if (zbM bad_2 ids_2 : Int) ≥ 0 then ((⟨3, (zbM bad_2 ids_2)⟩ : zdv), false) else if zb0 c.Map c.Door = true then ((⟨4, 0⟩ : zdv), false) else if zb0 c.Map c.Lair = true then ((⟨4, 0⟩ : zdv), false) else ((⟨0, 0⟩ : zdv), true))))
theorem zp7 (c : zA) (hF : Few9 c) : Ok Tryz.prog 73 [zak c] [] (.tup [ztF (zdI c).1, B (zdI c).2]) [] [] := by
 refine Ok.len fun hlen => ?_
 have hl_c_Abilities := hlL (n := c.Abilities.length) hlen
 have hl_c_Auras := hlL (n := c.Auras.length) hlen
 have hl_c_Foes := hlL (n := c.Foes.length) hlen
 have hl_c_Map_Wall := hlL (n := c.Map.Wall.length) hlen
 have hF1 := hF.ab
 have hF2 := hF.au
 have hF3 := hF.fo
 refine zx Tryz.func73 rfl ?_
 refine zg rfl (zz (o := .box [_, _, _, _, _, _, _, _, _, _]) (nx' := 1) rfl rfl rfl trivial (zz (o := .box [_, _]) (nx' := 2) rfl rfl rfl trivial (za rfl (zd (zg rfl (zz (nx' := 3) rfl rfl rfl trivial (zd (zg rfl (zz (nx' := 4) rfl rfl rfl trivial (zd (zm ?_)))))))))))
 refine zg rfl (za rfl (zd ?_))
 refine zX (fun w_ : (List Bool) × (List Int) => match w_ with | (bad_0, ids_0) => (⟨[(1, .ptr 0 0), (2, .ptr 1 0), (4, .ref 2 1 0 bad_0.length), (5, .ref 3 1 0 ids_0.length)], [(0, .box [.pv (.slc c.Abilities.length false (c.Abilities.flatMap zj)), .pv (.slc c.Auras.length false (c.Auras.flatMap zp)), .pv (.slc c.Foes.length false (c.Foes.flatMap zC)), I c.Map.W, I c.Map.H, .pv (.slc c.Map.Wall.length false (encB c.Map.Wall)), I c.Door.X, I c.Door.Y, I c.Lair.X, I c.Lair.Y]), (1, .box [I 0, I 0]), (2, .row 4 1 (encB bad_0)), (3, .row 3 1 (encI ids_0))], 4, [], 131, 0⟩ : St)) (fun w_ : (List Bool) × (List Int) => match w_ with | (bad_0, ids_0) => zbI c c.Abilities 0 ([]) ([]) = (bad_0, ids_0) ∧ (bad_0.length = ids_0.length)) ?_ ?_
 ·refine zw ?_
  refine z1 (fun w_ : Nat × (List Bool) × (List Int) => match w_ with | (k0, bad0, ids0) => (⟨[(1, .ptr 0 0), (2, .ptr 1 0), (4, .ref 2 1 0 bad0.length), (5, .ref 3 1 0 ids0.length), (6, I k0)], [(0, .box [.pv (.slc c.Abilities.length false (c.Abilities.flatMap zj)), .pv (.slc c.Auras.length false (c.Auras.flatMap zp)), .pv (.slc c.Foes.length false (c.Foes.flatMap zC)), I c.Map.W, I c.Map.H, .pv (.slc c.Map.Wall.length false (encB c.Map.Wall)), I c.Door.X, I c.Door.Y, I c.Lair.X, I c.Lair.Y]), (1, .box [I 0, I 0]), (2, .row 4 1 (encB bad0)), (3, .row 3 1 (encI ids0))], 4, [], 131, 0⟩ : St)) (fun w_ : Nat × (List Bool) × (List Int) => match w_ with | (k0, bad0, ids0) => zbI c (c.Abilities.drop k0) k0 bad0 ids0 = zbI c c.Abilities 0 ([]) ([]) ∧ k0 ≤ c.Abilities.length ∧ bad0.length = k0 ∧ ids0.length = k0) (fun w_ : Nat × (List Bool) × (List Int) => match w_ with | (k0, bad0, ids0) => c.Abilities.length - k0) (0, [], []) (⟨rfl, Nat.zero_le _, by first | omega | simp | (simp; omega)⟩) ?_ (fun w_ hh_ => ?_)
  ·exact (zD.ren [] aP1 aP1 rfl ⟨⟨rfl, rfl⟩, ⟨rfl, rfl⟩, ⟨congrArg (fun n => some (AV.ref 2 1 0 n)) aP10, rfl⟩, ⟨congrArg (fun n => some (AV.ref 3 1 0 n)) aP10, rfl⟩, ⟨rfl, rfl⟩, trivial⟩ ⟨⟨rfl, rfl, rfl⟩, ⟨rfl, rfl, rfl⟩, ⟨rfl, rfl, rfl⟩, ⟨rfl, rfl, rfl⟩, trivial⟩ aP0)
  obtain ⟨k0, bad0, ids0⟩ := w_
  obtain ⟨hI0, hb0, hv0⟩ := hh_
  refine zm (zg rfl (za rfl (zh rfl rfl aP0 (za rfl (za rfl (zi rfl rfl rfl rfl rfl trivial (zd ?_)))))))
  refine zr rfl (fun h3 => ?_) (fun h3 => ?_)
  ·have g3 : (k0 : Int) < c.Abilities.length := of_decide_eq_true h3
   have hk0 : k0 < c.Abilities.length := by omega
   obtain ⟨x0, hx0⟩ : ∃ z_, c.Abilities[k0]? = some z_ := ⟨_, List.getElem?_eq_getElem hk0⟩
   refine zt (zu (zm (zw (zm ?_))))
   refine zav rfl aP1 rfl ?_
   refine za rfl (zh (v := (.agg [_, _, _, _, _, _, _, _, _, _])) rfl rfl (Nat.le_of_ble_eq_true rfl) (zh rfl rfl aP0 (za rfl (za rfl (zJ (k := k0) rfl rfl rfl rfl hk0 (z3 (s := 8) (enc := zj) (fun _ => rfl) aP0 hk0) rfl (zF rfl rfl rfl (zai (s := 8) (enc := zj) (fun _ => rfl) hk0) (zZ (s := 8) (enc := zj) (fun _ => rfl) hx0) rfl (zB rfl rfl rfl rfl (zmY c x0) rfl rfl rfl (za rfl (zz (o := .row _ _ [_]) (nx' := 5) rfl rfl rfl aP0 ?_)))))))))
   refine zL (m := 1) (new := [_]) (cs' := encB (bad0 ++ [(!(zad c x0))])) (n' := (bad0 ++ [(!(zad c x0))]).length) (H' := [(4, .row _ _ _), (0, .box [_, _, _, _, _, _, _, _, _, _]), (1, .box [_, _]), (2, .row _ _ _), (3, .row _ _ _)]) rfl rfl rfl (rfl) rfl rfl rfl rfl rfl rfl (zdY bad0) (rfl) aP3 (zaV bad0 _) (((ziS bad0 (!(zad c x0)))).symm) (.inr aP1) rfl rfl (.keep rfl (.keep rfl (.keep rfl (.keep rfl (.keep rfl .nil))))) (.keep rfl (.keep rfl (.keep rfl (.keep rfl (.keep rfl (.keep rfl (.keep rfl (.keep rfl (.keep rfl (.lose (v' := .undef) rfl (.keep rfl (.keep rfl (.keep rfl (.keep rfl (.keep rfl (.keep rfl (.keep rfl (.lose (v' := .undef) rfl (.keep rfl (.keep rfl .nil)))))))))))))))))))) ?_
   refine za rfl (zd (zy rfl (za rfl (zh rfl rfl aP0 (za rfl (za rfl (zJ (k := k0) rfl rfl rfl rfl hk0 (z3 (s := 8) (enc := zj) (fun _ => rfl) aP0 hk0) rfl (zh rfl rfl aP0 (zO rfl rfl rfl (zb7 (s := 8) (enc := zj) (fun _ => rfl) hx0 (o := 0) rfl aP0) rfl (zz (o := .row _ _ [_]) (nx' := 6) rfl rfl rfl aP0 ?_))))))))))
   refine zL (m := 1) (new := [_]) (cs' := encI (ids0 ++ [x0.Id])) (n' := (ids0 ++ [x0.Id]).length) (H' := [(5, .row _ _ _), (4, .row _ _ _), (0, .box [_, _, _, _, _, _, _, _, _, _]), (1, .box [_, _]), (2, .row _ _ _), (3, .row _ _ _)]) rfl rfl rfl (rfl) rfl rfl rfl rfl rfl rfl (zab ids0) (rfl) aP3 (zaV ids0 _) (((zbJ ids0 x0.Id)).symm) (.inl rfl) rfl rfl (.keep rfl (.keep rfl (.keep rfl (.keep rfl (.keep rfl (.keep rfl .nil)))))) (.keep rfl (.keep rfl (.keep rfl (.keep rfl (.keep rfl (.keep rfl (.keep rfl (.lose (v' := .undef) rfl (.keep rfl (.keep rfl (.keep rfl (.keep rfl (.keep rfl (.keep rfl (.keep rfl (.keep rfl (.keep rfl (.keep rfl (.keep rfl (.keep rfl (.keep rfl (.keep rfl (.keep rfl (.keep rfl (.keep rfl (.keep rfl (.keep rfl (.keep rfl (.lose (v' := .undef) rfl (.keep rfl .nil)))))))))))))))))))))))))))))) ?_
   refine za rfl (zq (zal (zu (zy rfl (za rfl (zi rfl rfl rfl rfl rfl trivial (za rfl (zq ?_))))))))
   have e5 : zbI c (c.Abilities.drop k0) k0 bad0 ids0 = zbI c (c.Abilities.drop (k0 + 1)) (k0 + 1) (bad0 ++ [(!(zad c x0))]) (ids0 ++ [x0.Id]) := by
    rewrite [zT hx0]
    rewrite [zbI]
    try dsimp only
    all_goals rfl
   exact zQ (k0 + 1, (bad0 ++ [(!(zad c x0))]), (ids0 ++ [x0.Id])) ⟨e5.symm.trans hI0, hk0, by first | omega | assumption | (simp only [List.length_append, List.length_cons, List.length_nil, List.length_set]; omega) | (simp; omega) | grind⟩ (by show c.Abilities.length - (k0 + 1) < c.Abilities.length - k0; omega) (zD.ren [] aP1 aP1 rfl ⟨⟨rfl, rfl⟩, ⟨rfl, rfl⟩, ⟨rfl, rfl⟩, ⟨rfl, rfl⟩, ⟨congrArg (fun n => some (I n)) (zbS (k := k0) aP2), rfl⟩, trivial⟩ ⟨⟨rfl, rfl, rfl⟩, ⟨rfl, rfl, rfl⟩, ⟨rfl, rfl, rfl⟩, ⟨rfl, rfl, rfl⟩, trivial⟩ aP0)
  ·have g3 : ¬ ((k0 : Int) < c.Abilities.length) := of_decide_eq_false h3
   have hk0 : k0 = c.Abilities.length := by omega
   refine zS (z5 (zag (zaf rfl ?_)))
   have e6 : zbI c c.Abilities 0 ([]) ([]) = (bad0, ids0) := by
    rewrite [← hI0, hk0, List.drop_length]
    rewrite [zbI]
    try dsimp only
    all_goals rfl
   exact z0 (bad0, ids0) ⟨e6, by first | assumption | omega | (simp; omega) | simp_all | grind⟩ (zD.ren [] aP1 aP1 rfl ⟨⟨rfl, rfl⟩, ⟨rfl, rfl⟩, ⟨rfl, rfl⟩, ⟨rfl, rfl⟩, trivial⟩ ⟨⟨rfl, rfl, rfl⟩, ⟨rfl, rfl, rfl⟩, ⟨rfl, rfl, rfl⟩, ⟨rfl, rfl, rfl⟩, trivial⟩ aP0)
 ·rintro ⟨bad_0, ids_0⟩ ⟨(hJ1 : zbI c c.Abilities 0 ([]) ([]) = (bad_0, ids_0)), hE0⟩
  refine zu (zm (zg rfl (za rfl (za rfl ?_))))
  refine zaD (Hin := [.row _ _ _, .row _ _ _]) (H' := [(0, _), (1, _), (2, _), (3, _)]) (nx' := 4) [2, 3] rfl rfl rfl rfl rfl rfl rfl rfl rfl aP6 (zeJ bad_0 false ids_0 false aP11) rfl aP0 rfl rfl trivial rfl rfl rfl rfl ?_
  refine zi rfl rfl rfl rfl rfl trivial (zd ?_)
  refine zr rfl (fun h7 => ?_) (fun h7 => ?_)
  ·have g7 : (zbM bad_0 ids_0 : Int) ≥ 0 := of_decide_eq_true h7
   refine zg rfl (za rfl (za rfl ?_))
   refine zaD (Hin := [.row _ _ _, .row _ _ _]) (H' := [(0, _), (1, _), (2, _), (3, _)]) (nx' := 4) [2, 3] rfl rfl rfl rfl rfl rfl rfl rfl rfl aP6 (zeJ bad_0 false ids_0 false aP11) rfl aP0 rfl rfl trivial rfl rfl rfl rfl ?_
   refine zh (v := (.agg [_, _])) rfl rfl trivial ?_
   refine zH (H' := [(0, _), (1, .box [_, _]), (2, _), (3, _)]) rfl rfl rfl rfl rfl rfl (.inl rfl) rfl ?_
   refine za rfl (zd (zl (zE ?_)))
   have e8 : zdI c = ((⟨1, (zbM bad_0 ids_0)⟩ : zdv), false) := by
    unfold zdI
    try dsimp only
    rewrite [hJ1]
    try dsimp only
    rewrite [if_pos g7]
    all_goals rfl
   rw [e8]
   exact zk rfl ⟨Nat.le_of_ble_eq_true rfl, trivial, trivial⟩ (rfl) rfl
  ·have g7 : ¬ ((zbM bad_0 ids_0 : Int) ≥ 0) := of_decide_eq_false h7
   refine zt (zu (zg rfl (zz (nx' := 5) rfl rfl rfl trivial (zd (zg rfl (zz (nx' := 6) rfl rfl rfl trivial (zd (zm (zg rfl (za rfl (zd ?_)))))))))))
   refine zX (fun w_ : (List Bool) × (List Int) => match w_ with | (bad_1, ids_1) => (⟨[(1, .ptr 0 0), (2, .ptr 1 0), (4, .ref 2 1 0 bad_1.length), (5, .ref 3 1 0 ids_1.length)], [(0, .box [.pv (.slc c.Abilities.length false (c.Abilities.flatMap zj)), .pv (.slc c.Auras.length false (c.Auras.flatMap zp)), .pv (.slc c.Foes.length false (c.Foes.flatMap zC)), I c.Map.W, I c.Map.H, .pv (.slc c.Map.Wall.length false (encB c.Map.Wall)), I c.Door.X, I c.Door.Y, I c.Lair.X, I c.Lair.Y]), (1, .box [I 0, I 0]), (2, .row 4 1 (encB bad_1)), (3, .row 3 1 (encI ids_1))], 4, [], 131, 0⟩ : St)) (fun w_ : (List Bool) × (List Int) => match w_ with | (bad_1, ids_1) => zbL c.Auras 0 ([]) ([]) = (bad_1, ids_1) ∧ (bad_1.length = ids_1.length)) ?_ ?_
   ·refine zw ?_
    refine z1 (fun w_ : Nat × (List Bool) × (List Int) => match w_ with | (k1, bad1, ids1) => (⟨[(1, .ptr 0 0), (2, .ptr 1 0), (4, .ref 2 1 0 bad1.length), (5, .ref 3 1 0 ids1.length), (7, I k1)], [(0, .box [.pv (.slc c.Abilities.length false (c.Abilities.flatMap zj)), .pv (.slc c.Auras.length false (c.Auras.flatMap zp)), .pv (.slc c.Foes.length false (c.Foes.flatMap zC)), I c.Map.W, I c.Map.H, .pv (.slc c.Map.Wall.length false (encB c.Map.Wall)), I c.Door.X, I c.Door.Y, I c.Lair.X, I c.Lair.Y]), (1, .box [I 0, I 0]), (2, .row 4 1 (encB bad1)), (3, .row 3 1 (encI ids1))], 4, [], 131, 0⟩ : St)) (fun w_ : Nat × (List Bool) × (List Int) => match w_ with | (k1, bad1, ids1) => zbL (c.Auras.drop k1) k1 bad1 ids1 = zbL c.Auras 0 ([]) ([]) ∧ k1 ≤ c.Auras.length ∧ bad1.length = k1 ∧ ids1.length = k1) (fun w_ : Nat × (List Bool) × (List Int) => match w_ with | (k1, bad1, ids1) => c.Auras.length - k1) (0, [], []) (⟨rfl, Nat.zero_le _, by first | omega | simp | (simp; omega)⟩) ?_ (fun w_ hh_ => ?_)
    ·exact (zD.ren [(2, 4), (3, 5), (4, 2), (5, 3)] aP1 aP1 rfl ⟨⟨rfl, rfl⟩, ⟨rfl, rfl⟩, ⟨congrArg (fun n => some (AV.ref 4 1 0 n)) aP10, rfl⟩, ⟨congrArg (fun n => some (AV.ref 5 1 0 n)) aP10, rfl⟩, ⟨rfl, rfl⟩, trivial⟩ ⟨⟨rfl, rfl, rfl⟩, ⟨rfl, rfl, rfl⟩, ⟨rfl, rfl, rfl⟩, ⟨rfl, rfl, rfl⟩, trivial⟩ aP0)
    obtain ⟨k1, bad1, ids1⟩ := w_
    obtain ⟨hI1, hb1, hv1⟩ := hh_
    refine zm (zg rfl (za rfl (zh rfl rfl aP0 (za rfl (za rfl (zi rfl rfl rfl rfl rfl trivial (zd ?_)))))))
    refine zr rfl (fun h11 => ?_) (fun h11 => ?_)
    ·have g11 : (k1 : Int) < c.Auras.length := of_decide_eq_true h11
     have hk1 : k1 < c.Auras.length := by omega
     obtain ⟨x1, hx1⟩ : ∃ z_, c.Auras[k1]? = some z_ := ⟨_, List.getElem?_eq_getElem hk1⟩
     refine zt (zu (zm (zw (zg rfl (za rfl (zh rfl rfl aP0 (za rfl (za rfl (zJ (k := k1) rfl rfl rfl rfl hk1 (z3 (s := 7) (enc := zp) (fun _ => rfl) aP0 hk1) rfl (zF rfl rfl rfl (zai (s := 7) (enc := zp) (fun _ => rfl) hk1) (zZ (s := 7) (enc := zp) (fun _ => rfl) hx1) rfl (zB rfl rfl rfl rfl (zr9 x1) rfl rfl rfl (za rfl (zz (o := .row _ _ [_]) (nx' := 5) rfl rfl rfl aP0 ?_)))))))))))))
     refine zL (m := 1) (new := [_]) (cs' := encB (bad1 ++ [(!(zcV x1))])) (n' := (bad1 ++ [(!(zcV x1))]).length) (H' := [(4, .row _ _ _), (0, .box [_, _, _, _, _, _, _, _, _, _]), (1, .box [_, _]), (2, .row _ _ _), (3, .row _ _ _)]) rfl rfl rfl (rfl) rfl rfl rfl rfl rfl rfl (zdY bad1) (rfl) aP3 (zaV bad1 _) (((ziS bad1 (!(zcV x1)))).symm) (.inl rfl) rfl rfl (.keep rfl (.keep rfl (.keep rfl (.keep rfl (.keep rfl .nil))))) (.keep rfl (.keep rfl (.keep rfl (.keep rfl (.keep rfl (.keep rfl (.keep rfl (.keep rfl (.lose (v' := .undef) rfl (.keep rfl (.keep rfl (.keep rfl (.keep rfl (.keep rfl (.keep rfl (.keep rfl (.lose (v' := .undef) rfl (.keep rfl (.keep rfl .nil))))))))))))))))))) ?_
     refine za rfl (zd (zy rfl (za rfl (zh rfl rfl aP0 (za rfl (za rfl (zJ (k := k1) rfl rfl rfl rfl hk1 (z3 (s := 7) (enc := zp) (fun _ => rfl) aP0 hk1) rfl (zh rfl rfl aP0 (zO rfl rfl rfl (zb7 (s := 7) (enc := zp) (fun _ => rfl) hx1 (o := 0) rfl aP0) rfl (zz (o := .row _ _ [_]) (nx' := 6) rfl rfl rfl aP0 ?_))))))))))
     refine zL (m := 1) (new := [_]) (cs' := encI (ids1 ++ [x1.Id])) (n' := (ids1 ++ [x1.Id]).length) (H' := [(5, .row _ _ _), (4, .row _ _ _), (0, .box [_, _, _, _, _, _, _, _, _, _]), (1, .box [_, _]), (2, .row _ _ _), (3, .row _ _ _)]) rfl rfl rfl (rfl) rfl rfl rfl rfl rfl rfl (zab ids1) (rfl) aP3 (zaV ids1 _) (((zbJ ids1 x1.Id)).symm) (.inl rfl) rfl rfl (.keep rfl (.keep rfl (.keep rfl (.keep rfl (.keep rfl (.keep rfl .nil)))))) (.keep rfl (.keep rfl (.keep rfl (.keep rfl (.keep rfl (.keep rfl (.keep rfl (.lose (v' := .undef) rfl (.keep rfl (.keep rfl (.keep rfl (.keep rfl (.keep rfl (.keep rfl (.keep rfl (.keep rfl (.keep rfl (.keep rfl (.keep rfl (.keep rfl (.keep rfl (.keep rfl (.keep rfl (.keep rfl (.keep rfl (.keep rfl (.keep rfl (.lose (v' := .undef) rfl (.keep rfl .nil))))))))))))))))))))))))))))) ?_
     refine za rfl (zq (zal (zu (zy rfl (za rfl (zi rfl rfl rfl rfl rfl trivial (za rfl (zq ?_))))))))
     have e13 : zbL (c.Auras.drop k1) k1 bad1 ids1 = zbL (c.Auras.drop (k1 + 1)) (k1 + 1) (bad1 ++ [(!(zcV x1))]) (ids1 ++ [x1.Id]) := by
      rewrite [zT hx1]
      rewrite [zbL]
      try dsimp only
      all_goals rfl
     exact zQ (k1 + 1, (bad1 ++ [(!(zcV x1))]), (ids1 ++ [x1.Id])) ⟨e13.symm.trans hI1, hk1, by first | omega | assumption | (simp only [List.length_append, List.length_cons, List.length_nil, List.length_set]; omega) | (simp; omega) | grind⟩ (by show c.Auras.length - (k1 + 1) < c.Auras.length - k1; omega) (zD.ren [] aP1 aP1 rfl ⟨⟨rfl, rfl⟩, ⟨rfl, rfl⟩, ⟨rfl, rfl⟩, ⟨rfl, rfl⟩, ⟨congrArg (fun n => some (I n)) (zbS (k := k1) aP2), rfl⟩, trivial⟩ ⟨⟨rfl, rfl, rfl⟩, ⟨rfl, rfl, rfl⟩, ⟨rfl, rfl, rfl⟩, ⟨rfl, rfl, rfl⟩, trivial⟩ aP0)
    ·have g11 : ¬ ((k1 : Int) < c.Auras.length) := of_decide_eq_false h11
     have hk1 : k1 = c.Auras.length := by omega
     refine zS (z5 (zag (zaf rfl ?_)))
     have e14 : zbL c.Auras 0 ([]) ([]) = (bad1, ids1) := by
      rewrite [← hI1, hk1, List.drop_length]
      rewrite [zbL]
      try dsimp only
      all_goals rfl
     exact z0 (bad1, ids1) ⟨e14, by first | assumption | omega | (simp; omega) | simp_all | grind⟩ (zD.ren [] aP1 aP1 rfl ⟨⟨rfl, rfl⟩, ⟨rfl, rfl⟩, ⟨rfl, rfl⟩, ⟨rfl, rfl⟩, trivial⟩ ⟨⟨rfl, rfl, rfl⟩, ⟨rfl, rfl, rfl⟩, ⟨rfl, rfl, rfl⟩, ⟨rfl, rfl, rfl⟩, trivial⟩ aP0)
   ·rintro ⟨bad_1, ids_1⟩ ⟨(hJ9 : zbL c.Auras 0 ([]) ([]) = (bad_1, ids_1)), hE1⟩
    refine zu (zm (zg rfl (za rfl (za rfl ?_))))
    refine zaD (Hin := [.row _ _ _, .row _ _ _]) (H' := [(0, _), (1, _), (2, _), (3, _)]) (nx' := 4) [2, 3] rfl rfl rfl rfl rfl rfl rfl rfl rfl aP6 (zeJ bad_1 false ids_1 false aP11) rfl aP0 rfl rfl trivial rfl rfl rfl rfl ?_
    refine zi rfl rfl rfl rfl rfl trivial (zd ?_)
    refine zr rfl (fun h15 => ?_) (fun h15 => ?_)
    ·have g15 : (zbM bad_1 ids_1 : Int) ≥ 0 := of_decide_eq_true h15
     refine zg rfl (za rfl (za rfl ?_))
     refine zaD (Hin := [.row _ _ _, .row _ _ _]) (H' := [(0, _), (1, _), (2, _), (3, _)]) (nx' := 4) [2, 3] rfl rfl rfl rfl rfl rfl rfl rfl rfl aP6 (zeJ bad_1 false ids_1 false aP11) rfl aP0 rfl rfl trivial rfl rfl rfl rfl ?_
     refine zh (v := (.agg [_, _])) rfl rfl trivial ?_
     refine zH (H' := [(0, _), (1, .box [_, _]), (2, _), (3, _)]) rfl rfl rfl rfl rfl rfl (.inl rfl) rfl ?_
     refine za rfl (zd (zl (zE ?_)))
     have e16 : zdI c = ((⟨2, (zbM bad_1 ids_1)⟩ : zdv), false) := by
      unfold zdI
      try dsimp only
      rewrite [hJ1]
      try dsimp only
      rewrite [if_neg g7, hJ9]
      try dsimp only
      rewrite [if_pos g15]
      all_goals rfl
     rw [e16]
     exact zk rfl ⟨Nat.le_of_ble_eq_true rfl, trivial, trivial⟩ (rfl) rfl
    ·have g15 : ¬ ((zbM bad_1 ids_1 : Int) ≥ 0) := of_decide_eq_false h15
     refine zt (zu (zg rfl (zz (nx' := 5) rfl rfl rfl trivial (zd (zg rfl (zz (nx' := 6) rfl rfl rfl trivial (zd (zm (zg rfl (za rfl (zd ?_)))))))))))
     refine zX (fun w_ : (List Bool) × (List Int) => match w_ with | (bad_2, ids_2) => (⟨[(1, .ptr 0 0), (2, .ptr 1 0), (4, .ref 2 1 0 bad_2.length), (5, .ref 3 1 0 ids_2.length)], [(0, .box [.pv (.slc c.Abilities.length false (c.Abilities.flatMap zj)), .pv (.slc c.Auras.length false (c.Auras.flatMap zp)), .pv (.slc c.Foes.length false (c.Foes.flatMap zC)), I c.Map.W, I c.Map.H, .pv (.slc c.Map.Wall.length false (encB c.Map.Wall)), I c.Door.X, I c.Door.Y, I c.Lair.X, I c.Lair.Y]), (1, .box [I 0, I 0]), (2, .row 4 1 (encB bad_2)), (3, .row 3 1 (encI ids_2))], 4, [], 131, 0⟩ : St)) (fun w_ : (List Bool) × (List Int) => match w_ with | (bad_2, ids_2) => zbR c c.Foes 0 ([]) ([]) = (bad_2, ids_2) ∧ (bad_2.length = ids_2.length)) ?_ ?_
     ·refine zw ?_
      refine z1 (fun w_ : Nat × (List Bool) × (List Int) => match w_ with | (k2, bad2, ids2) => (⟨[(1, .ptr 0 0), (2, .ptr 1 0), (4, .ref 2 1 0 bad2.length), (5, .ref 3 1 0 ids2.length), (8, I k2)], [(0, .box [.pv (.slc c.Abilities.length false (c.Abilities.flatMap zj)), .pv (.slc c.Auras.length false (c.Auras.flatMap zp)), .pv (.slc c.Foes.length false (c.Foes.flatMap zC)), I c.Map.W, I c.Map.H, .pv (.slc c.Map.Wall.length false (encB c.Map.Wall)), I c.Door.X, I c.Door.Y, I c.Lair.X, I c.Lair.Y]), (1, .box [I 0, I 0]), (2, .row 4 1 (encB bad2)), (3, .row 3 1 (encI ids2))], 4, [], 131, 0⟩ : St)) (fun w_ : Nat × (List Bool) × (List Int) => match w_ with | (k2, bad2, ids2) => zbR c (c.Foes.drop k2) k2 bad2 ids2 = zbR c c.Foes 0 ([]) ([]) ∧ k2 ≤ c.Foes.length ∧ bad2.length = k2 ∧ ids2.length = k2) (fun w_ : Nat × (List Bool) × (List Int) => match w_ with | (k2, bad2, ids2) => c.Foes.length - k2) (0, [], []) (⟨rfl, Nat.zero_le _, by first | omega | simp | (simp; omega)⟩) ?_ (fun w_ hh_ => ?_)
      ·exact (zD.ren [(2, 4), (3, 5), (4, 2), (5, 3)] aP1 aP1 rfl ⟨⟨rfl, rfl⟩, ⟨rfl, rfl⟩, ⟨congrArg (fun n => some (AV.ref 4 1 0 n)) aP10, rfl⟩, ⟨congrArg (fun n => some (AV.ref 5 1 0 n)) aP10, rfl⟩, ⟨rfl, rfl⟩, trivial⟩ ⟨⟨rfl, rfl, rfl⟩, ⟨rfl, rfl, rfl⟩, ⟨rfl, rfl, rfl⟩, ⟨rfl, rfl, rfl⟩, trivial⟩ aP0)
      obtain ⟨k2, bad2, ids2⟩ := w_
      obtain ⟨hI2, hb2, hv2⟩ := hh_
      refine zm (zg rfl (za rfl (zh rfl rfl aP0 (za rfl (za rfl (zi rfl rfl rfl rfl rfl trivial (zd ?_)))))))
      refine zr rfl (fun h19 => ?_) (fun h19 => ?_)
      ·have g19 : (k2 : Int) < c.Foes.length := of_decide_eq_true h19
       have hk2 : k2 < c.Foes.length := by omega
       obtain ⟨x2, hx2⟩ : ∃ z_, c.Foes[k2]? = some z_ := ⟨_, List.getElem?_eq_getElem hk2⟩
       refine zt (zu (zm (zw (zm ?_))))
       refine zav rfl aP1 rfl ?_
       refine za rfl (zh (v := (.agg [_, _, _, _, _, _, _, _, _, _])) rfl rfl (Nat.le_of_ble_eq_true rfl) (zh rfl rfl aP0 (za rfl (za rfl (zJ (k := k2) rfl rfl rfl rfl hk2 (z3 (s := 8) (enc := zC) (fun _ => rfl) aP0 hk2) rfl (zF rfl rfl rfl (zai (s := 8) (enc := zC) (fun _ => rfl) hk2) (zZ (s := 8) (enc := zC) (fun _ => rfl) hx2) rfl (zB rfl rfl rfl rfl (zt6 c x2 (by first | assumption | grind)) rfl rfl rfl (za rfl (zz (o := .row _ _ [_]) (nx' := 5) rfl rfl rfl aP0 ?_)))))))))
       refine zL (m := 1) (new := [_]) (cs' := encB (bad2 ++ [(!(foeR c x2))])) (n' := (bad2 ++ [(!(foeR c x2))]).length) (H' := [(4, .row _ _ _), (0, .box [_, _, _, _, _, _, _, _, _, _]), (1, .box [_, _]), (2, .row _ _ _), (3, .row _ _ _)]) rfl rfl rfl (rfl) rfl rfl rfl rfl rfl rfl (zdY bad2) (rfl) aP3 (zaV bad2 _) (((ziS bad2 (!(foeR c x2)))).symm) (.inr aP1) rfl rfl (.keep rfl (.keep rfl (.keep rfl (.keep rfl (.keep rfl .nil))))) (.keep rfl (.keep rfl (.keep rfl (.keep rfl (.keep rfl (.keep rfl (.keep rfl (.keep rfl (.keep rfl (.lose (v' := .undef) rfl (.keep rfl (.keep rfl (.keep rfl (.keep rfl (.keep rfl (.keep rfl (.keep rfl (.lose (v' := .undef) rfl (.keep rfl (.keep rfl .nil)))))))))))))))))))) ?_
       refine za rfl (zd (zy rfl (za rfl (zh rfl rfl aP0 (za rfl (za rfl (zJ (k := k2) rfl rfl rfl rfl hk2 (z3 (s := 8) (enc := zC) (fun _ => rfl) aP0 hk2) rfl (zh rfl rfl aP0 (zO rfl rfl rfl (zb7 (s := 8) (enc := zC) (fun _ => rfl) hx2 (o := 0) rfl aP0) rfl (zz (o := .row _ _ [_]) (nx' := 6) rfl rfl rfl aP0 ?_))))))))))
       refine zL (m := 1) (new := [_]) (cs' := encI (ids2 ++ [x2.Id])) (n' := (ids2 ++ [x2.Id]).length) (H' := [(5, .row _ _ _), (4, .row _ _ _), (0, .box [_, _, _, _, _, _, _, _, _, _]), (1, .box [_, _]), (2, .row _ _ _), (3, .row _ _ _)]) rfl rfl rfl (rfl) rfl rfl rfl rfl rfl rfl (zab ids2) (rfl) aP3 (zaV ids2 _) (((zbJ ids2 x2.Id)).symm) (.inl rfl) rfl rfl (.keep rfl (.keep rfl (.keep rfl (.keep rfl (.keep rfl (.keep rfl .nil)))))) (.keep rfl (.keep rfl (.keep rfl (.keep rfl (.keep rfl (.keep rfl (.keep rfl (.lose (v' := .undef) rfl (.keep rfl (.keep rfl (.keep rfl (.keep rfl (.keep rfl (.keep rfl (.keep rfl (.keep rfl (.keep rfl (.keep rfl (.keep rfl (.keep rfl (.keep rfl (.keep rfl (.keep rfl (.keep rfl (.keep rfl (.keep rfl (.keep rfl (.keep rfl (.lose (v' := .undef) rfl (.keep rfl .nil)))))))))))))))))))))))))))))) ?_
       refine za rfl (zq (zal (zu (zy rfl (za rfl (zi rfl rfl rfl rfl rfl trivial (za rfl (zq ?_))))))))
       have e21 : zbR c (c.Foes.drop k2) k2 bad2 ids2 = zbR c (c.Foes.drop (k2 + 1)) (k2 + 1) (bad2 ++ [(!(foeR c x2))]) (ids2 ++ [x2.Id]) := by
        rewrite [zT hx2]
        rewrite [zbR]
        try dsimp only
        all_goals rfl
       exact zQ (k2 + 1, (bad2 ++ [(!(foeR c x2))]), (ids2 ++ [x2.Id])) ⟨e21.symm.trans hI2, hk2, by first | omega | assumption | (simp only [List.length_append, List.length_cons, List.length_nil, List.length_set]; omega) | (simp; omega) | grind⟩ (by show c.Foes.length - (k2 + 1) < c.Foes.length - k2; omega) (zD.ren [] aP1 aP1 rfl ⟨⟨rfl, rfl⟩, ⟨rfl, rfl⟩, ⟨rfl, rfl⟩, ⟨rfl, rfl⟩, ⟨congrArg (fun n => some (I n)) (zbS (k := k2) aP2), rfl⟩, trivial⟩ ⟨⟨rfl, rfl, rfl⟩, ⟨rfl, rfl, rfl⟩, ⟨rfl, rfl, rfl⟩, ⟨rfl, rfl, rfl⟩, trivial⟩ aP0)
      ·have g19 : ¬ ((k2 : Int) < c.Foes.length) := of_decide_eq_false h19
       have hk2 : k2 = c.Foes.length := by omega
       refine zS (z5 (zag (zaf rfl ?_)))
       have e22 : zbR c c.Foes 0 ([]) ([]) = (bad2, ids2) := by
        rewrite [← hI2, hk2, List.drop_length]
        rewrite [zbR]
        try dsimp only
        all_goals rfl
       exact z0 (bad2, ids2) ⟨e22, by first | assumption | omega | (simp; omega) | simp_all | grind⟩ (zD.ren [] aP1 aP1 rfl ⟨⟨rfl, rfl⟩, ⟨rfl, rfl⟩, ⟨rfl, rfl⟩, ⟨rfl, rfl⟩, trivial⟩ ⟨⟨rfl, rfl, rfl⟩, ⟨rfl, rfl, rfl⟩, ⟨rfl, rfl, rfl⟩, ⟨rfl, rfl, rfl⟩, trivial⟩ aP0)
     ·rintro ⟨bad_2, ids_2⟩ ⟨(hJ17 : zbR c c.Foes 0 ([]) ([]) = (bad_2, ids_2)), hE2⟩
      refine zu (zm (zg rfl (za rfl (za rfl ?_))))
      refine zaD (Hin := [.row _ _ _, .row _ _ _]) (H' := [(0, _), (1, _), (2, _), (3, _)]) (nx' := 4) [2, 3] rfl rfl rfl rfl rfl rfl rfl rfl rfl aP6 (zeJ bad_2 false ids_2 false aP11) rfl aP0 rfl rfl trivial rfl rfl rfl rfl ?_
      refine zi rfl rfl rfl rfl rfl trivial (zd ?_)
      refine zr rfl (fun h23 => ?_) (fun h23 => ?_)
      ·have g23 : (zbM bad_2 ids_2 : Int) ≥ 0 := of_decide_eq_true h23
       refine zg rfl (za rfl (za rfl ?_))
       refine zaD (Hin := [.row _ _ _, .row _ _ _]) (H' := [(0, _), (1, _), (2, _), (3, _)]) (nx' := 4) [2, 3] rfl rfl rfl rfl rfl rfl rfl rfl rfl aP6 (zeJ bad_2 false ids_2 false aP11) rfl aP0 rfl rfl trivial rfl rfl rfl rfl ?_
       refine zh (v := (.agg [_, _])) rfl rfl trivial ?_
       refine zH (H' := [(0, _), (1, .box [_, _]), (2, _), (3, _)]) rfl rfl rfl rfl rfl rfl (.inl rfl) rfl ?_
       refine za rfl (zd (zl (zE ?_)))
       have e24 : zdI c = ((⟨3, (zbM bad_2 ids_2)⟩ : zdv), false) := by
        unfold zdI
        try dsimp only
        rewrite [hJ1]
        try dsimp only
        rewrite [if_neg g7, hJ9]
        try dsimp only
        rewrite [if_neg g15, hJ17]
        try dsimp only
        rewrite [if_pos g23]
        all_goals rfl
       rw [e24]
       exact zk rfl ⟨Nat.le_of_ble_eq_true rfl, trivial, trivial⟩ (rfl) rfl
      ·have g23 : ¬ ((zbM bad_2 ids_2 : Int) ≥ 0) := of_decide_eq_false h23
       refine zt (zu (zg rfl (zh rfl rfl aP0 (zh (v := (.agg [_, _, _])) rfl rfl (Nat.le_of_ble_eq_true rfl) (zh rfl rfl aP0 (zh (v := (.agg [_, _])) rfl rfl (Nat.le_of_ble_eq_true rfl) (zB rfl rfl rfl rfl (zh2 c.Map c.Door) rfl rfl rfl (za rfl (zd (zg rfl (zh rfl rfl aP0 (zh (v := (.agg [_, _, _])) rfl rfl (Nat.le_of_ble_eq_true rfl) (zh rfl rfl aP0 (zh (v := (.agg [_, _])) rfl rfl (Nat.le_of_ble_eq_true rfl) ?_))))))))))))))
       refine zB rfl rfl rfl rfl (zh2 c.Map c.Lair) rfl rfl rfl (za rfl (zd (zm (zg rfl (za rfl (za rfl ?_))))))
       refine zG rfl (fun h27 => ?_) (fun h27 => ?_)
       ·have g27 : zb0 c.Map c.Door = true := h27
        refine zf rfl h27 rfl (zo rfl h27 rfl rfl (zd (zK rfl (zg rfl (zh (v := (.agg [_, _])) rfl rfl trivial ?_)))))
        refine zH (H' := [(0, _), (1, .box [_, _]), (2, _), (3, _)]) rfl rfl rfl rfl rfl rfl (.inl rfl) rfl ?_
        refine za rfl (zd (zl (zE ?_)))
        have e28 : zdI c = ((⟨4, 0⟩ : zdv), false) := by
         unfold zdI
         try dsimp only
         rewrite [hJ1]
         try dsimp only
         rewrite [if_neg g7, hJ9]
         try dsimp only
         rewrite [if_neg g15, hJ17]
         try dsimp only
         rewrite [if_neg g23, if_pos g27]
         all_goals rfl
        rw [e28]
        exact zk rfl ⟨Nat.le_of_ble_eq_true rfl, trivial, trivial⟩ (rfl) rfl
       ·have g27 : ¬ (zb0 c.Map c.Door = true) := zaA h27
        refine ze rfl h27 (za rfl (zn rfl h27 rfl rfl (zd ?_)))
        refine zr rfl (fun h29 => ?_) (fun h29 => ?_)
        ·have g29 : zb0 c.Map c.Lair = true := h29
         refine zg rfl (zh (v := (.agg [_, _])) rfl rfl trivial ?_)
         refine zH (H' := [(0, _), (1, .box [_, _]), (2, _), (3, _)]) rfl rfl rfl rfl rfl rfl (.inl rfl) rfl ?_
         refine za rfl (zd (zl (zE ?_)))
         have e30 : zdI c = ((⟨4, 0⟩ : zdv), false) := by
          unfold zdI
          try dsimp only
          rewrite [hJ1]
          try dsimp only
          rewrite [if_neg g7, hJ9]
          try dsimp only
          rewrite [if_neg g15, hJ17]
          try dsimp only
          rewrite [if_neg g23, if_neg g27, if_pos g29]
          all_goals rfl
         rw [e30]
         exact zk rfl ⟨Nat.le_of_ble_eq_true rfl, trivial, trivial⟩ (rfl) rfl
        ·have g29 : ¬ (zb0 c.Map c.Lair = true) := zaA h29
         refine zt (zu (zg rfl (zh (v := (.agg [_, _])) rfl rfl trivial ?_)))
         refine zH (H' := [(0, _), (1, .box [_, _]), (2, _), (3, _)]) rfl rfl rfl rfl rfl rfl (.inl rfl) rfl ?_
         refine za rfl (zd (zl ?_))
         have e31 : zdI c = ((⟨0, 0⟩ : zdv), true) := by
          unfold zdI
          try dsimp only
          rewrite [hJ1]
          try dsimp only
          rewrite [if_neg g7, hJ9]
          try dsimp only
          rewrite [if_neg g15, hJ17]
          try dsimp only
          rewrite [if_neg g23, if_neg g27, if_neg g29]
          all_goals rfl
         rw [e31]
         exact zk rfl ⟨Nat.le_of_ble_eq_true rfl, trivial, trivial⟩ (rfl) rfl

def zfB (c : zA) : Bool :=
  (zdI c).2
theorem zpx (c : zA) (hF : Few9 c) : Ok Tryz.prog 34 [zak c] [] (B (zfB c)) [] [] := by
 refine Ok.len fun hlen => ?_
 have hl_c_Abilities := hlL (n := c.Abilities.length) hlen
 have hl_c_Auras := hlL (n := c.Auras.length) hlen
 have hl_c_Foes := hlL (n := c.Foes.length) hlen
 have hl_c_Map_Wall := hlL (n := c.Map.Wall.length) hlen
 refine zx Tryz.func34 rfl ?_
 refine zg rfl (zz (o := .box [_, _, _, _, _, _, _, _, _, _]) (nx' := 1) rfl rfl rfl trivial (za rfl (zd (zg rfl (zh (v := (.agg [_, _, _, _, _, _, _, _, _, _])) rfl rfl (Nat.le_of_ble_eq_true rfl) (zB rfl rfl rfl rfl (zp7 c (by first | assumption | exact zdk (by decide +kernel) | grind)) rfl rfl rfl (za rfl (za rfl (za rfl (zz (o := .box [_, _]) (nx' := 2) rfl rfl rfl trivial ?_))))))))))
 refine zH (H' := [(1, .box [_, _]), (0, _)]) rfl rfl rfl rfl rfl rfl (.inl rfl) rfl ?_
 refine za rfl (zd (zg rfl (za rfl (za rfl (zd (zl ?_))))))
 have e2 : zfB c = (zdI c).2 := by
  unfold zfB
  try dsimp only
  all_goals rfl
 rw [e2]
 exact zk rfl ⟨trivial, trivial⟩ (rfl) rfl
end Go.Proofs.YtppnccjeggnllaaGreat

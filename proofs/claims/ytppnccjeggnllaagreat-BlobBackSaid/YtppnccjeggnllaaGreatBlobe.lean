import Derived.Test.YtppnccjeggnllaaGreatPackw
namespace Go.Proofs.YtppnccjeggnllaaGreat
open Go Go.RowKit Go.Proofs.YtppnccjeggnllaaGreatVm
attribute [local irreducible] zY zaM OpsS
set_option maxHeartbeats 400000
set_option maxRecDepth 100000
set_option linter.all false
theorem zi0 {c : zu} (h : Fits c) : Few9 c := ⟨fun x hx => Nat.le_trans (h.eff x hx) (by decide), fun x hx => Nat.le_trans (h.sc x hx).1 (by decide), fun x hx => Nat.le_trans (h.sc x hx).2 (by decide), Nat.le_trans h.ab (by decide), Nat.le_trans h.au (by decide), Nat.le_trans h.fo (by decide), Nat.le_trans h.wall (by decide)⟩

def enc (c : zu) : (List UInt8) × Int :=
  if za5 c = true then ((zji ([(66 : UInt8), (82 : UInt8), (87 : UInt8), (49 : UInt8)]) (flat c)), 0) else ([], 1)
theorem zlz (c : zu) (hF : Fits c) (hl : (flat c).length ≤ 1400000) : Ok Tryz.prog 13 [z1 c] [] (.tup [.ref 0 1 0 (enc c).1.length, I (enc c).2]) [.row 5 1 (encY (enc c).1)] [] := by
 refine Ok.len fun hlen => ?_
 have hl_c_Abilities : c.Abilities.length ≤ maxLen := hlen _ (by simp [zT, lens, zU])
 have hl_c_Auras : c.Auras.length ≤ maxLen := hlen _ (by simp [zT, lens, zU])
 have hl_c_Foes : c.Foes.length ≤ maxLen := hlen _ (by simp [zT, lens, zU])
 have hl_c_Map_Wall : c.Map.Wall.length ≤ maxLen := hlen _ (by simp [zT, lens, zU])
 unfold maxLen at hl_c_Abilities hl_c_Auras hl_c_Foes hl_c_Map_Wall
 have hF9 := zi0 hF
 refine zz Tryz.func13 rfl ?_
 show zO Tryz.prog _ _ ⟨[(0, z1 c)], [], 0, [], 12, 0⟩
 refine zd (zb rfl (zB (o := .box [_, _, _, _, _, _, _, _, _, _]) (nx' := 1) rfl rfl rfl trivial (zB (nx' := 2) rfl rfl rfl trivial (za rfl rfl trivial (zc (ze (zd (zd (zb rfl (za (v := (.agg [_, _, _, _, _, _, _, _, _, _])) rfl rfl (Nat.le_of_ble_eq_true rfl) (zF rfl rfl rfl rfl (zfZ c (by first | assumption | exact zcO (by decide +kernel) | exact zeH (by assumption) | grind)) rfl rfl rfl ?_)))))))))))
 refine za rfl rfl trivial (zc (ze ?_))
 refine zy rfl (fun h1 => ?_) (fun h1 => ?_)
 ·have g1 : ¬ (za5 c = true) := zaw (zcl h1)
  refine zd (zb rfl (zB (nx' := 3) rfl rfl rfl trivial (za rfl rfl trivial (zc (ze (zo (zI ?_)))))))
  have e2 : enc c = ([], 1) := by
   unfold enc
   try dsimp only
   rewrite [if_neg g1]
   all_goals rfl
  rw [e2]
  exact zL [] [2] rfl ⟨trivial, trivial, trivial⟩ rfl (by (repeat' apply And.intro) <;> first | trivial | rfl | exact zi (fun _ => rfl) _ | exact zk _ | exact zn _ | exact zm _ | assumption) (rfl) rfl rfl rfl (by decide) rfl rfl ⟨⟨rfl, rfl⟩, trivial⟩
 ·have g1 : za5 c = true := (zcm h1)
  refine zA (ze (zd ?_))
  refine zaY rfl (zcn 1 (j := 0) ?_)
  simp only [List.take_succ_cons, List.take_zero, List.drop_succ_cons, List.drop_zero]
  refine zB (o := .row _ _ [_, _, _, _]) (nx' := 3) rfl rfl rfl (by decide) (zc ?_)
  refine zjv rfl rfl rfl rfl rfl rfl rfl rfl rfl ?_
  refine zc3 (j := 2) ?_
  refine za (v := (.agg [_, _, _, _, _, _, _, _, _, _])) rfl rfl (Nat.le_of_ble_eq_true rfl) ?_
  refine zcj (out' := .ref 3 _ _ _) (H' := [(3, .row _ _ _), (1, _), (0, _)]) (nx' := 4) rfl rfl rfl rfl rfl rfl rfl (by (repeat' apply And.intro) <;> first | trivial | rfl | exact zi (fun _ => rfl) _ | exact zk _ | exact zn _ | exact zm _ | exact Nat.le_of_ble_eq_true rfl | assumption) (zm2 c (by first | assumption)) rfl rfl rfl rfl ?_
  refine zaX (Hin := [.row _ _ _]) (out' := .ref 4 _ _ _) (H' := [(4, .row _ _ _), (3, _), (1, _), (0, _)]) (nx' := 5) [3] rfl rfl rfl rfl rfl rfl rfl rfl rfl (by (repeat' apply And.intro) <;> first | trivial | rfl | exact zi (fun _ => rfl) _ | exact zk _ | exact zn _ | exact zm _ | exact Nat.le_of_ble_eq_true rfl | assumption) (zpX ([(66 : UInt8), (82 : UInt8), (87 : UInt8), (49 : UInt8)]) false (flat c) false (by first | omega | (simp; done) | (simp only [List.length_append, List.length_cons, List.length_nil] at *; omega) | (simp; omega)) (by first | omega | (simp; done) | (simp only [List.length_append, List.length_cons, List.length_nil] at *; omega) | (simp; omega))) rfl (by decide) rfl rfl ⟨zij, trivial⟩ rfl rfl rfl rfl ?_
  refine za rfl rfl trivial (za rfl rfl trivial (zc (ze (zo ?_))))
  have e3 : enc c = ((zji ([(66 : UInt8), (82 : UInt8), (87 : UInt8), (49 : UInt8)]) (flat c)), 0) := by
   unfold enc
   try dsimp only
   rewrite [if_pos g1]
   all_goals rfl
  rw [e3]
  exact zL [] [4] rfl ⟨trivial, trivial, trivial⟩ rfl (by (repeat' apply And.intro) <;> first | trivial | rfl | exact zi (fun _ => rfl) _ | exact zk _ | exact zn _ | exact zm _ | assumption) (rfl) rfl rfl rfl (by decide) rfl rfl ⟨⟨rfl, rfl⟩, trivial⟩
end Go.Proofs.YtppnccjeggnllaaGreat

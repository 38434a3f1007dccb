import Derived.Test.YtppnccjeggnllaaGreatFew
namespace Go.Proofs.YtppnccjeggnllaaGreat
open Go Go.RowKit Go.Proofs.YtppnccjeggnllaaGreatVm
attribute [local irreducible] zY zas OpsS
set_option maxHeartbeats 400000
set_option maxRecDepth 100000
set_option linter.all false
def zdm (is : Bool) : Int :=
  if is = true then 1 else 0
theorem zkV (is : Bool) : Ok Tryz.prog 63 [B is] [] (I (zdm is)) [] [] := by
 refine zx Tryz.func63 rfl ?_
 refine zg rfl (za rfl (zd (zm (zg rfl (za rfl (zd ?_))))))
 refine zr rfl (fun h2 => ?_) (fun h2 => ?_)
 ·have g2 : is = true := h2
  refine zg rfl (za rfl (zd (zl (zE ?_))))
  have e3 : zdm is = 1 := by
   unfold zdm
   try dsimp only
   rewrite [if_pos g2]
   all_goals rfl
  rw [e3]
  exact zk rfl ⟨trivial, trivial⟩ (rfl) rfl
 ·have g2 : ¬ (is = true) := zaA h2
  refine zt (zu (zg rfl (za rfl (zd (zl ?_)))))
  have e4 : zdm is = 0 := by
   unfold zdm
   try dsimp only
   rewrite [if_neg g2]
   all_goals rfl
  rw [e4]
  exact zk rfl ⟨trivial, trivial⟩ (rfl) rfl

def effW (out : List Int) (e : zaJ) : List Int :=
  (out ++ [e.Kind, e.Amount, e.Aura])
theorem zun (out : List Int) (e : zaJ) (hb : out.length ≤ 16000000) : Ok Tryz.prog 65 [.ref 0 1 0 out.length, zfO e] [.row 3 1 (encI out)] (.ref 0 1 0 (effW out e).length) [.row 3 1 (encI (effW out e))] [0] := by
 refine zx Tryz.func65 rfl ?_
 show zaG Tryz.prog _ _ ⟨[(0, .ref 0 1 0 out.length), (1, zfO e)], [(0, .row 3 1 (encI out))], 1, [], 14, 1⟩
 refine zg rfl (zz (o := .box [_, _, _]) (nx' := 2) rfl rfl rfl trivial (zz (nx' := 3) rfl rfl rfl trivial (zd (zg rfl (za rfl (zh rfl rfl aP0 (za rfl (zh rfl rfl aP0 (za rfl (zh rfl rfl aP0 (za rfl (zz (o := .row _ _ [_, _, _]) (nx' := 4) rfl rfl rfl aP0 ?_))))))))))))
 refine zL (m := 3) (new := [_, _, _]) (cs' := encI (out ++ [e.Kind, e.Amount, e.Aura])) (n' := (out ++ [e.Kind, e.Amount, e.Aura]).length) (H' := [(3, .row _ _ _), (2, .row _ _ _), (1, .box [_, _, _]), (0, .row _ _ _)]) rfl rfl rfl (rfl) rfl rfl rfl rfl rfl rfl (zab out) (rfl) aP3 (zaH out ([e.Kind, e.Amount, e.Aura])) (zax out ([e.Kind, e.Amount, e.Aura])) (.inl rfl) rfl rfl (.keep rfl (.keep rfl (.keep rfl (.keep rfl .nil)))) (.keep rfl (.keep rfl (.keep rfl (.keep rfl (.keep rfl (.keep rfl (.keep rfl (.lose (v' := .undef) rfl (.keep rfl (.keep rfl (.lose (v' := .undef) rfl (.keep rfl .nil)))))))))))) ?_
 refine za rfl (zd (zl ?_))
 have e1 : effW out e = (out ++ [e.Kind, e.Amount, e.Aura]) := by
  unfold effW
  try dsimp only
  all_goals rfl
 rw [e1]
 exact zaa [] [] rfl ⟨trivial, trivial⟩ rfl aP7 (rfl) rfl rfl rfl aP0 rfl rfl ⟨⟨rfl, rfl⟩, trivial⟩

theorem zn0 (out : List Int) (e : zaJ) : (effW out e).length = out.length + 3 := by unfold effW; rw [List.length_append]; rfl

def zjN (out : List Int) (l : zcc) : List Int :=
  (out ++ [l.Phase, l.When, l.Arg, l.Do, l.Value])
theorem zsK (out : List Int) (l : zcc) (hb : out.length ≤ 16000000) : Ok Tryz.prog 68 [.ref 0 1 0 out.length, ziE l] [.row 3 1 (encI out)] (.ref 0 1 0 (zjN out l).length) [.row 3 1 (encI (zjN out l))] [0] := by
 refine zx Tryz.func68 rfl ?_
 show zaG Tryz.prog _ _ ⟨[(0, .ref 0 1 0 out.length), (1, ziE l)], [(0, .row 3 1 (encI out))], 1, [], 18, 1⟩
 refine zg rfl (zz (o := .box [_, _, _, _, _]) (nx' := 2) rfl rfl rfl trivial (zz (nx' := 3) rfl rfl rfl trivial (zd (zg rfl (za rfl (zh rfl rfl aP0 (za rfl (zh rfl rfl aP0 (za rfl (zh rfl rfl aP0 (za rfl (zh rfl rfl aP0 (za rfl (zh rfl rfl aP0 ?_))))))))))))))
 refine za rfl (zz (o := .row _ _ [_, _, _, _, _]) (nx' := 4) rfl rfl rfl aP0 ?_)
 refine zL (m := 5) (new := [_, _, _, _, _]) (cs' := encI (out ++ [l.Phase, l.When, l.Arg, l.Do, l.Value])) (n' := (out ++ [l.Phase, l.When, l.Arg, l.Do, l.Value]).length) (H' := [(3, .row _ _ _), (2, .row _ _ _), (1, .box [_, _, _, _, _]), (0, .row _ _ _)]) rfl rfl rfl (rfl) rfl rfl rfl rfl rfl rfl (zab out) (rfl) aP3 (zaH out ([l.Phase, l.When, l.Arg, l.Do, l.Value])) (zax out ([l.Phase, l.When, l.Arg, l.Do, l.Value])) (.inl rfl) rfl rfl (.keep rfl (.keep rfl (.keep rfl (.keep rfl .nil)))) (.keep rfl (.keep rfl (.keep rfl (.keep rfl (.keep rfl (.keep rfl (.keep rfl (.keep rfl (.keep rfl (.keep rfl (.keep rfl (.lose (v' := .undef) rfl (.keep rfl (.keep rfl (.lose (v' := .undef) rfl (.keep rfl .nil)))))))))))))))) ?_
 refine za rfl (zd (zl ?_))
 have e1 : zjN out l = (out ++ [l.Phase, l.When, l.Arg, l.Do, l.Value]) := by
  unfold zjN
  try dsimp only
  all_goals rfl
 rw [e1]
 exact zaa [] [] rfl ⟨trivial, trivial⟩ rfl aP7 (rfl) rfl rfl rfl aP0 rfl rfl ⟨⟨rfl, rfl⟩, trivial⟩

theorem zlv (out : List Int) (l : zcc) : (zjN out l).length = out.length + 5 := by unfold zjN; rw [List.length_append]; rfl

def zgc (out : List Int) (p : zbD) : List Int :=
  (out ++ [p.Item, p.Weight])
theorem zqZ (out : List Int) (p : zbD) (hb : out.length ≤ 16000000) : Ok Tryz.prog 69 [.ref 0 1 0 out.length, zhH p] [.row 3 1 (encI out)] (.ref 0 1 0 (zgc out p).length) [.row 3 1 (encI (zgc out p))] [0] := by
 refine zx Tryz.func69 rfl ?_
 show zaG Tryz.prog _ _ ⟨[(0, .ref 0 1 0 out.length), (1, zhH p)], [(0, .row 3 1 (encI out))], 1, [], 12, 1⟩
 refine zg rfl (zz (o := .box [_, _]) (nx' := 2) rfl rfl rfl trivial (zz (nx' := 3) rfl rfl rfl trivial (zd (zg rfl (za rfl (zh rfl rfl aP0 (za rfl (zh rfl rfl aP0 (za rfl (zz (o := .row _ _ [_, _]) (nx' := 4) rfl rfl rfl aP0 ?_))))))))))
 refine zL (m := 2) (new := [_, _]) (cs' := encI (out ++ [p.Item, p.Weight])) (n' := (out ++ [p.Item, p.Weight]).length) (H' := [(3, .row _ _ _), (2, .row _ _ _), (1, .box [_, _]), (0, .row _ _ _)]) rfl rfl rfl (rfl) rfl rfl rfl rfl rfl rfl (zab out) (rfl) aP3 (zaH out ([p.Item, p.Weight])) (zax out ([p.Item, p.Weight])) (.inl rfl) rfl rfl (.keep rfl (.keep rfl (.keep rfl (.keep rfl .nil)))) (.keep rfl (.keep rfl (.keep rfl (.keep rfl (.keep rfl (.lose (v' := .undef) rfl (.keep rfl (.keep rfl (.lose (v' := .undef) rfl (.keep rfl .nil)))))))))) ?_
 refine za rfl (zd (zl ?_))
 have e1 : zgc out p = (out ++ [p.Item, p.Weight]) := by
  unfold zgc
  try dsimp only
  all_goals rfl
 rw [e1]
 exact zaa [] [] rfl ⟨trivial, trivial⟩ rfl aP7 (rfl) rfl rfl rfl aP0 rfl rfl ⟨⟨rfl, rfl⟩, trivial⟩

theorem zkr (out : List Int) (p : zbD) : (zgc out p).length = out.length + 2 := by unfold zgc; rw [List.length_append]; rfl

def zjE (out : List Int) (is : Bool) : List Int :=
  (out ++ [(zdm is)])
theorem zsX (out : List Int) (is : Bool) (hb : out.length ≤ 16000000) : Ok Tryz.prog 31 [.ref 0 1 0 out.length, B is] [.row 3 1 (encI out)] (.ref 0 1 0 (zjE out is).length) [.row 3 1 (encI (zjE out is))] [0] := by
 refine zx Tryz.func31 rfl ?_
 show zaG Tryz.prog _ _ ⟨[(0, .ref 0 1 0 out.length), (1, B is)], [(0, .row 3 1 (encI out))], 1, [], 10, 1⟩
 refine zg rfl (zz (nx' := 2) rfl rfl rfl trivial (zd (zg rfl (za rfl (za rfl (zB rfl rfl rfl rfl (zkV is) rfl rfl rfl (zz (o := .row _ _ [_]) (nx' := 3) rfl rfl rfl aP0 ?_)))))))
 refine zL (m := 1) (new := [_]) (cs' := encI (out ++ [(zdm is)])) (n' := (out ++ [(zdm is)]).length) (H' := [(2, .row _ _ _), (1, .row _ _ _), (0, .row _ _ _)]) rfl rfl rfl (rfl) rfl rfl rfl rfl rfl rfl (zab out) (rfl) aP3 (zaV out _) (((zbJ out (zdm is))).symm) (.inl rfl) rfl rfl (.keep rfl (.keep rfl (.keep rfl .nil))) (.keep rfl (.keep rfl (.keep rfl (.lose (v' := .undef) rfl (.keep rfl (.lose (v' := .undef) rfl (.keep rfl .nil))))))) ?_
 refine za rfl (zd (zl ?_))
 have e2 : zjE out is = (out ++ [(zdm is)]) := by
  unfold zjE
  try dsimp only
  all_goals rfl
 rw [e2]
 exact zaa [] [] rfl ⟨trivial, trivial⟩ rfl aP7 (rfl) rfl rfl rfl aP0 rfl rfl ⟨⟨rfl, rfl⟩, trivial⟩

theorem zmw (out : List Int) (is : Bool) : (zjE out is).length = out.length + 1 := by unfold zjE; rw [List.length_append]; rfl

def zjK (out : List Int) (a : zaI) : List Int :=
  (out ++ [a.Id, a.Kind, a.Ticks, a.Every, a.Stacks, a.Amount, (zdm a.Harm)])
theorem zsi (out : List Int) (a : zaI) (hb : out.length ≤ 16000000) : Ok Tryz.prog 28 [.ref 0 1 0 out.length, zfk a] [.row 3 1 (encI out)] (.ref 0 1 0 (zjK out a).length) [.row 3 1 (encI (zjK out a))] [0] := by
 refine zx Tryz.func28 rfl ?_
 show zaG Tryz.prog _ _ ⟨[(0, .ref 0 1 0 out.length), (1, zfk a)], [(0, .row 3 1 (encI out))], 1, [], 23, 1⟩
 refine zg rfl (zz (o := .box [_, _, _, _, _, _, _]) (nx' := 2) rfl rfl rfl trivial (zz (nx' := 3) rfl rfl rfl trivial (zd (zm ?_))))
 refine zav rfl aP1 rfl ?_
 refine za rfl (zh rfl rfl aP0 (za rfl (zh rfl rfl aP0 (za rfl (zh rfl rfl aP0 (za rfl (zh rfl rfl aP0 (za rfl (zh rfl rfl aP0 (za rfl (zh rfl rfl aP0 (za rfl (zh rfl rfl aP0 (za rfl (zB rfl rfl rfl rfl (zkV a.Harm) rfl rfl rfl (zz (o := .row _ _ [_, _, _, _, _, _, _]) (nx' := 4) rfl rfl rfl aP0 ?_))))))))))))))))
 refine zL (m := 7) (new := [_, _, _, _, _, _, _]) (cs' := encI (out ++ [a.Id, a.Kind, a.Ticks, a.Every, a.Stacks, a.Amount, (zdm a.Harm)])) (n' := (out ++ [a.Id, a.Kind, a.Ticks, a.Every, a.Stacks, a.Amount, (zdm a.Harm)]).length) (H' := [(3, .row _ _ _), (2, .row _ _ _), (1, .box [_, _, _, _, _, _, _]), (0, .row _ _ _)]) rfl rfl rfl (rfl) rfl rfl rfl rfl rfl rfl (zab out) (rfl) aP3 (zaH out ([a.Id, a.Kind, a.Ticks, a.Every, a.Stacks, a.Amount, (zdm a.Harm)])) (zax out ([a.Id, a.Kind, a.Ticks, a.Every, a.Stacks, a.Amount, (zdm a.Harm)])) (.inr aP1) rfl rfl (.keep rfl (.keep rfl (.keep rfl (.keep rfl .nil)))) (.keep rfl (.keep rfl (.keep rfl (.keep rfl (.keep rfl (.keep rfl (.keep rfl (.keep rfl (.keep rfl (.keep rfl (.keep rfl (.keep rfl (.keep rfl (.keep rfl (.keep rfl (.keep rfl (.lose (v' := .undef) rfl (.keep rfl (.keep rfl (.lose (v' := .undef) rfl (.keep rfl .nil))))))))))))))))))))) ?_
 refine za rfl (zd (zl ?_))
 have e1 : zjK out a = (out ++ [a.Id, a.Kind, a.Ticks, a.Every, a.Stacks, a.Amount, (zdm a.Harm)]) := by
  unfold zjK
  try dsimp only
  all_goals rfl
 rw [e1]
 exact zaa [] [] rfl ⟨trivial, trivial⟩ rfl aP7 (rfl) rfl rfl rfl aP0 rfl rfl ⟨⟨rfl, rfl⟩, trivial⟩

theorem zlz (out : List Int) (a : zaI) : (zjK out a).length = out.length + 7 := by unfold zjK; rw [List.length_append]; rfl

def zbg : List zaJ → Nat → (List Int) → List Int
  | [], k0, out0 => out0
  | x0 :: l_, k0, out0 => zbg l_ (k0 + 1) (effW out0 x0)
def ziB (out : List Int) (l : List zaJ) : List Int :=
  (let out_0 := zbg l 0 (out ++ [(l.length : Int)]); out_0)
theorem aP4 {p : Prop} (h : p := by first | omega | (simp; done) | (simp only [List.length_append, List.length_cons, List.length_nil] at *; omega) | (simp; omega)) : p := h
theorem zrZ (out : List Int) (l : List zaJ) (l_f : Bool) (hb : out.length + 3 * l.length ≤ 15999000) : Ok Tryz.prog 64 [.ref 0 1 0 out.length, .pv (.slc l.length l_f (l.flatMap zN)), .fnc 65 []] [.row 3 1 (encI out)] (.ref 0 1 0 (ziB out l).length) [.row 3 1 (encI (ziB out l))] [0] := by
 refine Ok.len fun hlen => ?_
 have hl_l := hlL (n := l.length) hlen
 refine zx Tryz.func64 rfl ?_
 show zaG Tryz.prog _ _ ⟨[(0, .ref 0 1 0 out.length), (1, .pv (.slc l.length l_f (l.flatMap zN))), (2, .fnc 65 [])], [(0, .row 3 1 (encI out))], 1, [], 26, 1⟩
 refine zbq (zD.loose (T' := [(0, .ref 0 1 0 out.length), (1, .pv (.slc l.length l_f (l.flatMap zN))), (2, .pv (.fn 65))]) (H' := [(0, .row 3 1 (encI out))]) ⟨⟨_, rfl, .inl rfl⟩, ⟨_, rfl, .inl rfl⟩, ⟨_, rfl, .inr rfl⟩, trivial⟩ ⟨⟨_, rfl, .inl rfl⟩, trivial⟩) ?_
 refine zg rfl (zz (nx' := 2) rfl rfl rfl trivial (zd (zg rfl (za rfl (za rfl (za rfl (zz (o := .row _ _ [_]) (nx' := 3) rfl rfl rfl aP0 ?_)))))))
 refine zL (m := 1) (new := [_]) (cs' := encI (out ++ [(l.length : Int)])) (n' := (out ++ [(l.length : Int)]).length) (H' := [(2, .row _ _ _), (1, .row _ _ _), (0, .row _ _ _)]) rfl rfl rfl (rfl) rfl rfl rfl rfl rfl rfl (zab out) (rfl) aP3 (zaV out _) (((zbJ out (l.length : Int))).symm) (.inl rfl) rfl rfl (.keep rfl (.keep rfl (.keep rfl .nil))) (.keep rfl (.keep rfl (.keep rfl (.lose (v' := .undef) rfl (.keep rfl (.lose (v' := .undef) rfl (.keep rfl (.keep rfl .nil)))))))) ?_
 refine za rfl (zd (zm (zg rfl (za rfl (za rfl (za rfl (zd ?_)))))))
 refine zX (fun out_0 : List Int => (⟨[(0, .ref 0 1 0 out_0.length)], [(0, .row 3 1 (encI out_0))], 1, [0], 26, 1⟩ : St)) (fun out_0 : List Int => zbg l 0 (out ++ [(l.length : Int)]) = out_0 ∧ (out_0.length = out.length + 1 + 3 * l.length)) ?_ ?_
 ·refine zw ?_
  refine z1 (fun w_ : Nat × (List Int) => match w_ with | (k0, out0) => (⟨[(0, .ref 0 1 0 out0.length), (2, .pv (.fn 65)), (14, .pv (.slc l.length l_f (l.flatMap zN))), (15, I l.length), (16, I k0)], [(0, .row 3 1 (encI out0))], 1, [0], 26, 1⟩ : St)) (fun w_ : Nat × (List Int) => match w_ with | (k0, out0) => zbg (l.drop k0) k0 out0 = zbg l 0 (out ++ [(l.length : Int)]) ∧ k0 ≤ l.length ∧ out0.length = out.length + 1 + 3 * k0) (fun w_ : Nat × (List Int) => match w_ with | (k0, out0) => l.length - k0) (0, (out ++ [(l.length : Int)])) (⟨rfl, Nat.zero_le _, by first | omega | simp | (simp; omega)⟩) ?_ (fun w_ hh_ => ?_)
  ·exact (zD.ren [] aP1 aP1 rfl ⟨⟨rfl, rfl⟩, ⟨rfl, rfl⟩, ⟨rfl, rfl⟩, ⟨rfl, rfl⟩, ⟨rfl, rfl⟩, trivial⟩ ⟨⟨rfl, rfl, rfl⟩, trivial⟩ aP0)
  obtain ⟨k0, out0⟩ := w_
  obtain ⟨hI0, hb0, hv0⟩ := hh_
  refine zg rfl (zi rfl rfl rfl rfl rfl trivial (zd (zm ?_)))
  refine zr rfl (fun h2 => ?_) (fun h2 => ?_)
  ·have g2 : (k0 : Int) < l.length := of_decide_eq_true h2
   have hk0 : k0 < l.length := by omega
   obtain ⟨x0, hx0⟩ : ∃ z_, l[k0]? = some z_ := ⟨_, List.getElem?_eq_getElem hk0⟩
   refine zt (zu (zm (zw (zg rfl (zJ (k := k0) rfl rfl rfl rfl hk0 (z3 (s := 3) (enc := zN) (fun _ => rfl) aP0 hk0) rfl (zF rfl rfl rfl (zai (s := 3) (enc := zN) (fun _ => rfl) hk0) (zZ (s := 3) (enc := zN) (fun _ => rfl) hx0) rfl (zz (o := .box [_, _, _]) (nx' := 2) rfl rfl rfl trivial ?_)))))))
   refine zH (H' := [(1, .box [_, _, _]), (0, _)]) rfl rfl rfl rfl rfl rfl (.inl rfl) rfl ?_
   refine zd (zy rfl (za rfl (za rfl (zh (v := (.agg [_, _, _])) rfl rfl (Nat.le_of_ble_eq_true rfl) ?_))))
   refine zar (Hin := [.row _ _ _]) (out' := .ref 0 _ _ _) (H' := [(1, .box [_, _, _]), (0, .row _ _ _)]) (nx' := 2) [0] rfl rfl rfl rfl (.inl rfl) rfl rfl rfl rfl (zun out0 x0 aP4) rfl aP0 rfl rfl (.keep rfl (.keep rfl .nil)) (.keep rfl (.lose (v' := .undef) rfl (.keep rfl (.keep rfl (.keep rfl (.keep rfl (.keep rfl (.lose (v' := .undef) rfl (.keep rfl (.keep rfl (.keep rfl (.keep rfl .nil)))))))))))) rfl rfl rfl rfl ?_
   have p3 := zn0 out0 x0
   refine za rfl (zq (zal (zu (zy rfl (zi rfl rfl rfl rfl rfl trivial (za rfl (zq ?_)))))))
   have e5 : zbg (l.drop k0) k0 out0 = zbg (l.drop (k0 + 1)) (k0 + 1) (effW out0 x0) := by
    rewrite [zT hx0]
    rewrite [zbg]
    try dsimp only
    all_goals rfl
   exact zQ (k0 + 1, (effW out0 x0)) ⟨e5.symm.trans hI0, hk0, by first | omega | assumption | (simp only [List.length_append, List.length_cons, List.length_nil, List.length_set]; omega) | (simp; omega) | grind⟩ (by show l.length - (k0 + 1) < l.length - k0; omega) (zD.ren [] aP1 aP1 rfl ⟨⟨rfl, rfl⟩, ⟨rfl, rfl⟩, ⟨rfl, rfl⟩, ⟨rfl, rfl⟩, ⟨congrArg (fun n => some (I n)) (zbS (k := k0) aP2), rfl⟩, trivial⟩ ⟨⟨rfl, rfl, rfl⟩, trivial⟩ aP0)
  ·have g2 : ¬ ((k0 : Int) < l.length) := of_decide_eq_false h2
   have hk0 : k0 = l.length := by omega
   refine zS (z5 (zag (zaf rfl ?_)))
   have e6 : zbg l 0 (out ++ [(l.length : Int)]) = out0 := by
    rewrite [← hI0, hk0, List.drop_length]
    rewrite [zbg]
    try dsimp only
    all_goals rfl
   exact z0 out0 ⟨e6, by first | assumption | omega | (simp; omega) | simp_all | grind⟩ (zD.ren [] aP1 aP1 rfl ⟨⟨rfl, rfl⟩, trivial⟩ ⟨⟨rfl, rfl, rfl⟩, trivial⟩ aP0)
 ·rintro out_0 ⟨(hJ1 : zbg l 0 (out ++ [(l.length : Int)]) = out_0), hE0⟩
  refine zu (zg rfl (za rfl (za rfl (zd (zl ?_)))))
  have e7 : ziB out l = out_0 := by
   unfold ziB
   try dsimp only
   rewrite [hJ1]
   try dsimp only
   all_goals rfl
  rw [e7]
  exact zaa [] [] rfl ⟨trivial, trivial⟩ rfl aP7 (rfl) rfl rfl rfl aP0 rfl rfl ⟨⟨rfl, rfl⟩, trivial⟩

def zbf : List zcc → Nat → (List Int) → List Int
  | [], k0, out0 => out0
  | x0 :: l_, k0, out0 => zbf l_ (k0 + 1) (zjN out0 x0)
def ze9 (out : List Int) (l : List zcc) : List Int :=
  (let out_0 := zbf l 0 (out ++ [(l.length : Int)]); out_0)
theorem zld (out : List Int) (l : List zcc) (l_f : Bool) (hb : out.length + 5 * l.length ≤ 15999000) : Ok Tryz.prog 67 [.ref 0 1 0 out.length, .pv (.slc l.length l_f (l.flatMap zU)), .fnc 68 []] [.row 3 1 (encI out)] (.ref 0 1 0 (ze9 out l).length) [.row 3 1 (encI (ze9 out l))] [0] := by
 refine Ok.len fun hlen => ?_
 have hl_l := hlL (n := l.length) hlen
 refine zx Tryz.func67 rfl ?_
 show zaG Tryz.prog _ _ ⟨[(0, .ref 0 1 0 out.length), (1, .pv (.slc l.length l_f (l.flatMap zU))), (2, .fnc 68 [])], [(0, .row 3 1 (encI out))], 1, [], 26, 1⟩
 refine zbq (zD.loose (T' := [(0, .ref 0 1 0 out.length), (1, .pv (.slc l.length l_f (l.flatMap zU))), (2, .pv (.fn 68))]) (H' := [(0, .row 3 1 (encI out))]) ⟨⟨_, rfl, .inl rfl⟩, ⟨_, rfl, .inl rfl⟩, ⟨_, rfl, .inr rfl⟩, trivial⟩ ⟨⟨_, rfl, .inl rfl⟩, trivial⟩) ?_
 refine zg rfl (zz (nx' := 2) rfl rfl rfl trivial (zd (zg rfl (za rfl (za rfl (za rfl (zz (o := .row _ _ [_]) (nx' := 3) rfl rfl rfl aP0 ?_)))))))
 refine zL (m := 1) (new := [_]) (cs' := encI (out ++ [(l.length : Int)])) (n' := (out ++ [(l.length : Int)]).length) (H' := [(2, .row _ _ _), (1, .row _ _ _), (0, .row _ _ _)]) rfl rfl rfl (rfl) rfl rfl rfl rfl rfl rfl (zab out) (rfl) aP3 (zaV out _) (((zbJ out (l.length : Int))).symm) (.inl rfl) rfl rfl (.keep rfl (.keep rfl (.keep rfl .nil))) (.keep rfl (.keep rfl (.keep rfl (.lose (v' := .undef) rfl (.keep rfl (.lose (v' := .undef) rfl (.keep rfl (.keep rfl .nil)))))))) ?_
 refine za rfl (zd (zm (zg rfl (za rfl (za rfl (za rfl (zd ?_)))))))
 refine zX (fun out_0 : List Int => (⟨[(0, .ref 0 1 0 out_0.length)], [(0, .row 3 1 (encI out_0))], 1, [0], 26, 1⟩ : St)) (fun out_0 : List Int => zbf l 0 (out ++ [(l.length : Int)]) = out_0 ∧ (out_0.length = out.length + 1 + 5 * l.length)) ?_ ?_
 ·refine zw ?_
  refine z1 (fun w_ : Nat × (List Int) => match w_ with | (k0, out0) => (⟨[(0, .ref 0 1 0 out0.length), (2, .pv (.fn 68)), (14, .pv (.slc l.length l_f (l.flatMap zU))), (15, I l.length), (16, I k0)], [(0, .row 3 1 (encI out0))], 1, [0], 26, 1⟩ : St)) (fun w_ : Nat × (List Int) => match w_ with | (k0, out0) => zbf (l.drop k0) k0 out0 = zbf l 0 (out ++ [(l.length : Int)]) ∧ k0 ≤ l.length ∧ out0.length = out.length + 1 + 5 * k0) (fun w_ : Nat × (List Int) => match w_ with | (k0, out0) => l.length - k0) (0, (out ++ [(l.length : Int)])) (⟨rfl, Nat.zero_le _, by first | omega | simp | (simp; omega)⟩) ?_ (fun w_ hh_ => ?_)
  ·exact (zD.ren [] aP1 aP1 rfl ⟨⟨rfl, rfl⟩, ⟨rfl, rfl⟩, ⟨rfl, rfl⟩, ⟨rfl, rfl⟩, ⟨rfl, rfl⟩, trivial⟩ ⟨⟨rfl, rfl, rfl⟩, trivial⟩ aP0)
  obtain ⟨k0, out0⟩ := w_
  obtain ⟨hI0, hb0, hv0⟩ := hh_
  refine zg rfl (zi rfl rfl rfl rfl rfl trivial (zd (zm ?_)))
  refine zr rfl (fun h2 => ?_) (fun h2 => ?_)
  ·have g2 : (k0 : Int) < l.length := of_decide_eq_true h2
   have hk0 : k0 < l.length := by omega
   obtain ⟨x0, hx0⟩ : ∃ z_, l[k0]? = some z_ := ⟨_, List.getElem?_eq_getElem hk0⟩
   refine zt (zu (zm (zw (zg rfl (zJ (k := k0) rfl rfl rfl rfl hk0 (z3 (s := 5) (enc := zU) (fun _ => rfl) aP0 hk0) rfl (zF rfl rfl rfl (zai (s := 5) (enc := zU) (fun _ => rfl) hk0) (zZ (s := 5) (enc := zU) (fun _ => rfl) hx0) rfl (zz (o := .box [_, _, _, _, _]) (nx' := 2) rfl rfl rfl trivial ?_)))))))
   refine zH (H' := [(1, .box [_, _, _, _, _]), (0, _)]) rfl rfl rfl rfl rfl rfl (.inl rfl) rfl ?_
   refine zd (zy rfl (za rfl (za rfl (zh (v := (.agg [_, _, _, _, _])) rfl rfl (Nat.le_of_ble_eq_true rfl) ?_))))
   refine zar (Hin := [.row _ _ _]) (out' := .ref 0 _ _ _) (H' := [(1, .box [_, _, _, _, _]), (0, .row _ _ _)]) (nx' := 2) [0] rfl rfl rfl rfl (.inl rfl) rfl rfl rfl rfl (zsK out0 x0 aP4) rfl aP0 rfl rfl (.keep rfl (.keep rfl .nil)) (.keep rfl (.lose (v' := .undef) rfl (.keep rfl (.keep rfl (.keep rfl (.keep rfl (.keep rfl (.lose (v' := .undef) rfl (.keep rfl (.keep rfl (.keep rfl (.keep rfl .nil)))))))))))) rfl rfl rfl rfl ?_
   have p3 := zlv out0 x0
   refine za rfl (zq (zal (zu (zy rfl (zi rfl rfl rfl rfl rfl trivial (za rfl (zq ?_)))))))
   have e5 : zbf (l.drop k0) k0 out0 = zbf (l.drop (k0 + 1)) (k0 + 1) (zjN out0 x0) := by
    rewrite [zT hx0]
    rewrite [zbf]
    try dsimp only
    all_goals rfl
   exact zQ (k0 + 1, (zjN out0 x0)) ⟨e5.symm.trans hI0, hk0, by first | omega | assumption | (simp only [List.length_append, List.length_cons, List.length_nil, List.length_set]; omega) | (simp; omega) | grind⟩ (by show l.length - (k0 + 1) < l.length - k0; omega) (zD.ren [] aP1 aP1 rfl ⟨⟨rfl, rfl⟩, ⟨rfl, rfl⟩, ⟨rfl, rfl⟩, ⟨rfl, rfl⟩, ⟨congrArg (fun n => some (I n)) (zbS (k := k0) aP2), rfl⟩, trivial⟩ ⟨⟨rfl, rfl, rfl⟩, trivial⟩ aP0)
  ·have g2 : ¬ ((k0 : Int) < l.length) := of_decide_eq_false h2
   have hk0 : k0 = l.length := by omega
   refine zS (z5 (zag (zaf rfl ?_)))
   have e6 : zbf l 0 (out ++ [(l.length : Int)]) = out0 := by
    rewrite [← hI0, hk0, List.drop_length]
    rewrite [zbf]
    try dsimp only
    all_goals rfl
   exact z0 out0 ⟨e6, by first | assumption | omega | (simp; omega) | simp_all | grind⟩ (zD.ren [] aP1 aP1 rfl ⟨⟨rfl, rfl⟩, trivial⟩ ⟨⟨rfl, rfl, rfl⟩, trivial⟩ aP0)
 ·rintro out_0 ⟨(hJ1 : zbf l 0 (out ++ [(l.length : Int)]) = out_0), hE0⟩
  refine zu (zg rfl (za rfl (za rfl (zd (zl ?_)))))
  have e7 : ze9 out l = out_0 := by
   unfold ze9
   try dsimp only
   rewrite [hJ1]
   try dsimp only
   all_goals rfl
  rw [e7]
  exact zaa [] [] rfl ⟨trivial, trivial⟩ rfl aP7 (rfl) rfl rfl rfl aP0 rfl rfl ⟨⟨rfl, rfl⟩, trivial⟩

def zbi : List zbD → Nat → (List Int) → List Int
  | [], k0, out0 => out0
  | x0 :: l_, k0, out0 => zbi l_ (k0 + 1) (zgc out0 x0)
def zhM (out : List Int) (l : List zbD) : List Int :=
  (let out_0 := zbi l 0 (out ++ [(l.length : Int)]); out_0)
theorem zkK (out : List Int) (l : List zbD) (l_f : Bool) (hb : out.length + 2 * l.length ≤ 15999000) : Ok Tryz.prog 66 [.ref 0 1 0 out.length, .pv (.slc l.length l_f (l.flatMap zM)), .fnc 69 []] [.row 3 1 (encI out)] (.ref 0 1 0 (zhM out l).length) [.row 3 1 (encI (zhM out l))] [0] := by
 refine Ok.len fun hlen => ?_
 have hl_l := hlL (n := l.length) hlen
 refine zx Tryz.func66 rfl ?_
 show zaG Tryz.prog _ _ ⟨[(0, .ref 0 1 0 out.length), (1, .pv (.slc l.length l_f (l.flatMap zM))), (2, .fnc 69 [])], [(0, .row 3 1 (encI out))], 1, [], 26, 1⟩
 refine zbq (zD.loose (T' := [(0, .ref 0 1 0 out.length), (1, .pv (.slc l.length l_f (l.flatMap zM))), (2, .pv (.fn 69))]) (H' := [(0, .row 3 1 (encI out))]) ⟨⟨_, rfl, .inl rfl⟩, ⟨_, rfl, .inl rfl⟩, ⟨_, rfl, .inr rfl⟩, trivial⟩ ⟨⟨_, rfl, .inl rfl⟩, trivial⟩) ?_
 refine zg rfl (zz (nx' := 2) rfl rfl rfl trivial (zd (zg rfl (za rfl (za rfl (za rfl (zz (o := .row _ _ [_]) (nx' := 3) rfl rfl rfl aP0 ?_)))))))
 refine zL (m := 1) (new := [_]) (cs' := encI (out ++ [(l.length : Int)])) (n' := (out ++ [(l.length : Int)]).length) (H' := [(2, .row _ _ _), (1, .row _ _ _), (0, .row _ _ _)]) rfl rfl rfl (rfl) rfl rfl rfl rfl rfl rfl (zab out) (rfl) aP3 (zaV out _) (((zbJ out (l.length : Int))).symm) (.inl rfl) rfl rfl (.keep rfl (.keep rfl (.keep rfl .nil))) (.keep rfl (.keep rfl (.keep rfl (.lose (v' := .undef) rfl (.keep rfl (.lose (v' := .undef) rfl (.keep rfl (.keep rfl .nil)))))))) ?_
 refine za rfl (zd (zm (zg rfl (za rfl (za rfl (za rfl (zd ?_)))))))
 refine zX (fun out_0 : List Int => (⟨[(0, .ref 0 1 0 out_0.length)], [(0, .row 3 1 (encI out_0))], 1, [0], 26, 1⟩ : St)) (fun out_0 : List Int => zbi l 0 (out ++ [(l.length : Int)]) = out_0 ∧ (out_0.length = out.length + 1 + 2 * l.length)) ?_ ?_
 ·refine zw ?_
  refine z1 (fun w_ : Nat × (List Int) => match w_ with | (k0, out0) => (⟨[(0, .ref 0 1 0 out0.length), (2, .pv (.fn 69)), (14, .pv (.slc l.length l_f (l.flatMap zM))), (15, I l.length), (16, I k0)], [(0, .row 3 1 (encI out0))], 1, [0], 26, 1⟩ : St)) (fun w_ : Nat × (List Int) => match w_ with | (k0, out0) => zbi (l.drop k0) k0 out0 = zbi l 0 (out ++ [(l.length : Int)]) ∧ k0 ≤ l.length ∧ out0.length = out.length + 1 + 2 * k0) (fun w_ : Nat × (List Int) => match w_ with | (k0, out0) => l.length - k0) (0, (out ++ [(l.length : Int)])) (⟨rfl, Nat.zero_le _, by first | omega | simp | (simp; omega)⟩) ?_ (fun w_ hh_ => ?_)
  ·exact (zD.ren [] aP1 aP1 rfl ⟨⟨rfl, rfl⟩, ⟨rfl, rfl⟩, ⟨rfl, rfl⟩, ⟨rfl, rfl⟩, ⟨rfl, rfl⟩, trivial⟩ ⟨⟨rfl, rfl, rfl⟩, trivial⟩ aP0)
  obtain ⟨k0, out0⟩ := w_
  obtain ⟨hI0, hb0, hv0⟩ := hh_
  refine zg rfl (zi rfl rfl rfl rfl rfl trivial (zd (zm ?_)))
  refine zr rfl (fun h2 => ?_) (fun h2 => ?_)
  ·have g2 : (k0 : Int) < l.length := of_decide_eq_true h2
   have hk0 : k0 < l.length := by omega
   obtain ⟨x0, hx0⟩ : ∃ z_, l[k0]? = some z_ := ⟨_, List.getElem?_eq_getElem hk0⟩
   refine zt (zu (zm (zw (zg rfl (zJ (k := k0) rfl rfl rfl rfl hk0 (z3 (s := 2) (enc := zM) (fun _ => rfl) aP0 hk0) rfl (zF rfl rfl rfl (zai (s := 2) (enc := zM) (fun _ => rfl) hk0) (zZ (s := 2) (enc := zM) (fun _ => rfl) hx0) rfl (zz (o := .box [_, _]) (nx' := 2) rfl rfl rfl trivial ?_)))))))
   refine zH (H' := [(1, .box [_, _]), (0, _)]) rfl rfl rfl rfl rfl rfl (.inl rfl) rfl ?_
   refine zd (zy rfl (za rfl (za rfl (zh (v := (.agg [_, _])) rfl rfl (Nat.le_of_ble_eq_true rfl) ?_))))
   refine zar (Hin := [.row _ _ _]) (out' := .ref 0 _ _ _) (H' := [(1, .box [_, _]), (0, .row _ _ _)]) (nx' := 2) [0] rfl rfl rfl rfl (.inl rfl) rfl rfl rfl rfl (zqZ out0 x0 aP4) rfl aP0 rfl rfl (.keep rfl (.keep rfl .nil)) (.keep rfl (.lose (v' := .undef) rfl (.keep rfl (.keep rfl (.keep rfl (.keep rfl (.keep rfl (.lose (v' := .undef) rfl (.keep rfl (.keep rfl (.keep rfl (.keep rfl .nil)))))))))))) rfl rfl rfl rfl ?_
   have p3 := zkr out0 x0
   refine za rfl (zq (zal (zu (zy rfl (zi rfl rfl rfl rfl rfl trivial (za rfl (zq ?_)))))))
   have e5 : zbi (l.drop k0) k0 out0 = zbi (l.drop (k0 + 1)) (k0 + 1) (zgc out0 x0) := by
    rewrite [zT hx0]
    rewrite [zbi]
    try dsimp only
    all_goals rfl
   exact zQ (k0 + 1, (zgc out0 x0)) ⟨e5.symm.trans hI0, hk0, by first | omega | assumption | (simp only [List.length_append, List.length_cons, List.length_nil, List.length_set]; omega) | (simp; omega) | grind⟩ (by show l.length - (k0 + 1) < l.length - k0; omega) (zD.ren [] aP1 aP1 rfl ⟨⟨rfl, rfl⟩, ⟨rfl, rfl⟩, ⟨rfl, rfl⟩, ⟨rfl, rfl⟩, ⟨congrArg (fun n => some (I n)) (zbS (k := k0) aP2), rfl⟩, trivial⟩ ⟨⟨rfl, rfl, rfl⟩, trivial⟩ aP0)
  ·have g2 : ¬ ((k0 : Int) < l.length) := of_decide_eq_false h2
   have hk0 : k0 = l.length := by omega
   refine zS (z5 (zag (zaf rfl ?_)))
   have e6 : zbi l 0 (out ++ [(l.length : Int)]) = out0 := by
    rewrite [← hI0, hk0, List.drop_length]
    rewrite [zbi]
    try dsimp only
    all_goals rfl
   exact z0 out0 ⟨e6, by first | assumption | omega | (simp; omega) | simp_all | grind⟩ (zD.ren [] aP1 aP1 rfl ⟨⟨rfl, rfl⟩, trivial⟩ ⟨⟨rfl, rfl, rfl⟩, trivial⟩ aP0)
 ·rintro out_0 ⟨(hJ1 : zbi l 0 (out ++ [(l.length : Int)]) = out_0), hE0⟩
  refine zu (zg rfl (za rfl (za rfl (zd (zl ?_)))))
  have e7 : zhM out l = out_0 := by
   unfold zhM
   try dsimp only
   rewrite [hJ1]
   try dsimp only
   all_goals rfl
  rw [e7]
  exact zaa [] [] rfl ⟨trivial, trivial⟩ rfl aP7 (rfl) rfl rfl rfl aP0 rfl rfl ⟨⟨rfl, rfl⟩, trivial⟩

def zbd : List Bool → Nat → (List Int) → List Int
  | [], k0, out0 => out0
  | x0 :: l_, k0, out0 => zbd l_ (k0 + 1) (zjE out0 x0)
def zel (out : List Int) (l : List Bool) : List Int :=
  (let out_0 := zbd l 0 (out ++ [(l.length : Int)]); out_0)
theorem zog (out : List Int) (l : List Bool) (l_f : Bool) (hb : out.length + 1 * l.length ≤ 15999000) : Ok Tryz.prog 30 [.ref 0 1 0 out.length, .pv (.slc l.length l_f (encB l)), .fnc 31 []] [.row 3 1 (encI out)] (.ref 0 1 0 (zel out l).length) [.row 3 1 (encI (zel out l))] [0] := by
 refine Ok.len fun hlen => ?_
 have hl_l := hlL (n := l.length) hlen
 refine zx Tryz.func30 rfl ?_
 show zaG Tryz.prog _ _ ⟨[(0, .ref 0 1 0 out.length), (1, .pv (.slc l.length l_f (encB l))), (2, .fnc 31 [])], [(0, .row 3 1 (encI out))], 1, [], 26, 1⟩
 refine zbq (zD.loose (T' := [(0, .ref 0 1 0 out.length), (1, .pv (.slc l.length l_f (encB l))), (2, .pv (.fn 31))]) (H' := [(0, .row 3 1 (encI out))]) ⟨⟨_, rfl, .inl rfl⟩, ⟨_, rfl, .inl rfl⟩, ⟨_, rfl, .inr rfl⟩, trivial⟩ ⟨⟨_, rfl, .inl rfl⟩, trivial⟩) ?_
 refine zg rfl (zz (nx' := 2) rfl rfl rfl trivial (zd (zg rfl (za rfl (za rfl (za rfl (zz (o := .row _ _ [_]) (nx' := 3) rfl rfl rfl aP0 ?_)))))))
 refine zL (m := 1) (new := [_]) (cs' := encI (out ++ [(l.length : Int)])) (n' := (out ++ [(l.length : Int)]).length) (H' := [(2, .row _ _ _), (1, .row _ _ _), (0, .row _ _ _)]) rfl rfl rfl (rfl) rfl rfl rfl rfl rfl rfl (zab out) (rfl) aP3 (zaV out _) (((zbJ out (l.length : Int))).symm) (.inl rfl) rfl rfl (.keep rfl (.keep rfl (.keep rfl .nil))) (.keep rfl (.keep rfl (.keep rfl (.lose (v' := .undef) rfl (.keep rfl (.lose (v' := .undef) rfl (.keep rfl (.keep rfl .nil)))))))) ?_
 refine za rfl (zd (zm (zg rfl (za rfl (za rfl (za rfl (zd ?_)))))))
 refine zX (fun out_0 : List Int => (⟨[(0, .ref 0 1 0 out_0.length)], [(0, .row 3 1 (encI out_0))], 1, [0], 26, 1⟩ : St)) (fun out_0 : List Int => zbd l 0 (out ++ [(l.length : Int)]) = out_0 ∧ (out_0.length = out.length + 1 + 1 * l.length)) ?_ ?_
 ·refine zw ?_
  refine z1 (fun w_ : Nat × (List Int) => match w_ with | (k0, out0) => (⟨[(0, .ref 0 1 0 out0.length), (2, .pv (.fn 31)), (14, .pv (.slc l.length l_f (encB l))), (15, I l.length), (16, I k0)], [(0, .row 3 1 (encI out0))], 1, [0], 26, 1⟩ : St)) (fun w_ : Nat × (List Int) => match w_ with | (k0, out0) => zbd (l.drop k0) k0 out0 = zbd l 0 (out ++ [(l.length : Int)]) ∧ k0 ≤ l.length ∧ out0.length = out.length + 1 + 1 * k0) (fun w_ : Nat × (List Int) => match w_ with | (k0, out0) => l.length - k0) (0, (out ++ [(l.length : Int)])) (⟨rfl, Nat.zero_le _, by first | omega | simp | (simp; omega)⟩) ?_ (fun w_ hh_ => ?_)
  ·exact (zD.ren [] aP1 aP1 rfl ⟨⟨rfl, rfl⟩, ⟨rfl, rfl⟩, ⟨rfl, rfl⟩, ⟨rfl, rfl⟩, ⟨rfl, rfl⟩, trivial⟩ ⟨⟨rfl, rfl, rfl⟩, trivial⟩ aP0)
  obtain ⟨k0, out0⟩ := w_
  obtain ⟨hI0, hb0, hv0⟩ := hh_
  refine zg rfl (zi rfl rfl rfl rfl rfl trivial (zd (zm ?_)))
  refine zr rfl (fun h2 => ?_) (fun h2 => ?_)
  ·have g2 : (k0 : Int) < l.length := of_decide_eq_true h2
   have hk0 : k0 < l.length := by omega
   obtain ⟨x0, hx0⟩ : ∃ z_, l[k0]? = some z_ := ⟨_, List.getElem?_eq_getElem hk0⟩
   refine zt (zu (zm (zw (zg rfl (zJ (k := k0) rfl rfl rfl rfl hk0 (zgl hk0) rfl (zO rfl rfl rfl (ze8 hx0) rfl (za rfl (zd (zy rfl (za rfl (za rfl (za rfl ?_))))))))))))
   refine zar (Hin := [.row _ _ _]) (out' := .ref 0 _ _ _) (H' := [(0, .row _ _ _)]) (nx' := 1) [0] rfl rfl rfl rfl (.inl rfl) rfl rfl rfl rfl (zsX out0 x0 aP4) rfl aP0 rfl rfl (.keep rfl .nil) (.keep rfl (.lose (v' := .undef) rfl (.keep rfl (.keep rfl (.keep rfl (.keep rfl (.keep rfl (.lose (v' := .undef) rfl (.keep rfl (.keep rfl (.keep rfl (.keep rfl .nil)))))))))))) rfl rfl rfl rfl ?_
   have p4 := zmw out0 x0
   refine za rfl (zq (zal (zu (zy rfl (zi rfl rfl rfl rfl rfl trivial (za rfl (zq ?_)))))))
   have e6 : zbd (l.drop k0) k0 out0 = zbd (l.drop (k0 + 1)) (k0 + 1) (zjE out0 x0) := by
    rewrite [zT hx0]
    rewrite [zbd]
    try dsimp only
    all_goals rfl
   exact zQ (k0 + 1, (zjE out0 x0)) ⟨e6.symm.trans hI0, hk0, by first | omega | assumption | (simp only [List.length_append, List.length_cons, List.length_nil, List.length_set]; omega) | (simp; omega) | grind⟩ (by show l.length - (k0 + 1) < l.length - k0; omega) (zD.ren [] aP1 aP1 rfl ⟨⟨rfl, rfl⟩, ⟨rfl, rfl⟩, ⟨rfl, rfl⟩, ⟨rfl, rfl⟩, ⟨congrArg (fun n => some (I n)) (zbS (k := k0) aP2), rfl⟩, trivial⟩ ⟨⟨rfl, rfl, rfl⟩, trivial⟩ aP0)
  ·have g2 : ¬ ((k0 : Int) < l.length) := of_decide_eq_false h2
   have hk0 : k0 = l.length := by omega
   refine zS (z5 (zag (zaf rfl ?_)))
   have e7 : zbd l 0 (out ++ [(l.length : Int)]) = out0 := by
    rewrite [← hI0, hk0, List.drop_length]
    rewrite [zbd]
    try dsimp only
    all_goals rfl
   exact z0 out0 ⟨e7, by first | assumption | omega | (simp; omega) | simp_all | grind⟩ (zD.ren [] aP1 aP1 rfl ⟨⟨rfl, rfl⟩, trivial⟩ ⟨⟨rfl, rfl, rfl⟩, trivial⟩ aP0)
 ·rintro out_0 ⟨(hJ1 : zbd l 0 (out ++ [(l.length : Int)]) = out_0), hE0⟩
  refine zu (zg rfl (za rfl (za rfl (zd (zl ?_)))))
  have e8 : zel out l = out_0 := by
   unfold zel
   try dsimp only
   rewrite [hJ1]
   try dsimp only
   all_goals rfl
  rw [e8]
  exact zaa [] [] rfl ⟨trivial, trivial⟩ rfl aP7 (rfl) rfl rfl rfl aP0 rfl rfl ⟨⟨rfl, rfl⟩, trivial⟩

def zbe : List zaI → Nat → (List Int) → List Int
  | [], k0, out0 => out0
  | x0 :: l_, k0, out0 => zbe l_ (k0 + 1) (zjK out0 x0)
def zbt (out : List Int) (l : List zaI) : List Int :=
  (let out_0 := zbe l 0 (out ++ [(l.length : Int)]); out_0)
theorem znJ (out : List Int) (l : List zaI) (l_f : Bool) (hb : out.length + 7 * l.length ≤ 15999000) : Ok Tryz.prog 25 [.ref 0 1 0 out.length, .pv (.slc l.length l_f (l.flatMap zp)), .fnc 28 []] [.row 3 1 (encI out)] (.ref 0 1 0 (zbt out l).length) [.row 3 1 (encI (zbt out l))] [0] := by
 refine Ok.len fun hlen => ?_
 have hl_l := hlL (n := l.length) hlen
 refine zx Tryz.func25 rfl ?_
 show zaG Tryz.prog _ _ ⟨[(0, .ref 0 1 0 out.length), (1, .pv (.slc l.length l_f (l.flatMap zp))), (2, .fnc 28 [])], [(0, .row 3 1 (encI out))], 1, [], 26, 1⟩
 refine zbq (zD.loose (T' := [(0, .ref 0 1 0 out.length), (1, .pv (.slc l.length l_f (l.flatMap zp))), (2, .pv (.fn 28))]) (H' := [(0, .row 3 1 (encI out))]) ⟨⟨_, rfl, .inl rfl⟩, ⟨_, rfl, .inl rfl⟩, ⟨_, rfl, .inr rfl⟩, trivial⟩ ⟨⟨_, rfl, .inl rfl⟩, trivial⟩) ?_
 refine zg rfl (zz (nx' := 2) rfl rfl rfl trivial (zd (zg rfl (za rfl (za rfl (za rfl (zz (o := .row _ _ [_]) (nx' := 3) rfl rfl rfl aP0 ?_)))))))
 refine zL (m := 1) (new := [_]) (cs' := encI (out ++ [(l.length : Int)])) (n' := (out ++ [(l.length : Int)]).length) (H' := [(2, .row _ _ _), (1, .row _ _ _), (0, .row _ _ _)]) rfl rfl rfl (rfl) rfl rfl rfl rfl rfl rfl (zab out) (rfl) aP3 (zaV out _) (((zbJ out (l.length : Int))).symm) (.inl rfl) rfl rfl (.keep rfl (.keep rfl (.keep rfl .nil))) (.keep rfl (.keep rfl (.keep rfl (.lose (v' := .undef) rfl (.keep rfl (.lose (v' := .undef) rfl (.keep rfl (.keep rfl .nil)))))))) ?_
 refine za rfl (zd (zm (zg rfl (za rfl (za rfl (za rfl (zd ?_)))))))
 refine zX (fun out_0 : List Int => (⟨[(0, .ref 0 1 0 out_0.length)], [(0, .row 3 1 (encI out_0))], 1, [0], 26, 1⟩ : St)) (fun out_0 : List Int => zbe l 0 (out ++ [(l.length : Int)]) = out_0 ∧ (out_0.length = out.length + 1 + 7 * l.length)) ?_ ?_
 ·refine zw ?_
  refine z1 (fun w_ : Nat × (List Int) => match w_ with | (k0, out0) => (⟨[(0, .ref 0 1 0 out0.length), (2, .pv (.fn 28)), (14, .pv (.slc l.length l_f (l.flatMap zp))), (15, I l.length), (16, I k0)], [(0, .row 3 1 (encI out0))], 1, [0], 26, 1⟩ : St)) (fun w_ : Nat × (List Int) => match w_ with | (k0, out0) => zbe (l.drop k0) k0 out0 = zbe l 0 (out ++ [(l.length : Int)]) ∧ k0 ≤ l.length ∧ out0.length = out.length + 1 + 7 * k0) (fun w_ : Nat × (List Int) => match w_ with | (k0, out0) => l.length - k0) (0, (out ++ [(l.length : Int)])) (⟨rfl, Nat.zero_le _, by first | omega | simp | (simp; omega)⟩) ?_ (fun w_ hh_ => ?_)
  ·exact (zD.ren [] aP1 aP1 rfl ⟨⟨rfl, rfl⟩, ⟨rfl, rfl⟩, ⟨rfl, rfl⟩, ⟨rfl, rfl⟩, ⟨rfl, rfl⟩, trivial⟩ ⟨⟨rfl, rfl, rfl⟩, trivial⟩ aP0)
  obtain ⟨k0, out0⟩ := w_
  obtain ⟨hI0, hb0, hv0⟩ := hh_
  refine zg rfl (zi rfl rfl rfl rfl rfl trivial (zd (zm ?_)))
  refine zr rfl (fun h2 => ?_) (fun h2 => ?_)
  ·have g2 : (k0 : Int) < l.length := of_decide_eq_true h2
   have hk0 : k0 < l.length := by omega
   obtain ⟨x0, hx0⟩ : ∃ z_, l[k0]? = some z_ := ⟨_, List.getElem?_eq_getElem hk0⟩
   refine zt (zu (zm (zw (zg rfl (zJ (k := k0) rfl rfl rfl rfl hk0 (z3 (s := 7) (enc := zp) (fun _ => rfl) aP0 hk0) rfl (zF rfl rfl rfl (zai (s := 7) (enc := zp) (fun _ => rfl) hk0) (zZ (s := 7) (enc := zp) (fun _ => rfl) hx0) rfl (zz (o := .box [_, _, _, _, _, _, _]) (nx' := 2) rfl rfl rfl trivial ?_)))))))
   refine zH (H' := [(1, .box [_, _, _, _, _, _, _]), (0, _)]) rfl rfl rfl rfl rfl rfl (.inl rfl) rfl ?_
   refine zd (zy rfl (za rfl (za rfl (zh (v := (.agg [_, _, _, _, _, _, _])) rfl rfl (Nat.le_of_ble_eq_true rfl) ?_))))
   refine zar (Hin := [.row _ _ _]) (out' := .ref 0 _ _ _) (H' := [(1, .box [_, _, _, _, _, _, _]), (0, .row _ _ _)]) (nx' := 2) [0] rfl rfl rfl rfl (.inl rfl) rfl rfl rfl rfl (zsi out0 x0 aP4) rfl aP0 rfl rfl (.keep rfl (.keep rfl .nil)) (.keep rfl (.lose (v' := .undef) rfl (.keep rfl (.keep rfl (.keep rfl (.keep rfl (.keep rfl (.lose (v' := .undef) rfl (.keep rfl (.keep rfl (.keep rfl (.keep rfl .nil)))))))))))) rfl rfl rfl rfl ?_
   have p3 := zlz out0 x0
   refine za rfl (zq (zal (zu (zy rfl (zi rfl rfl rfl rfl rfl trivial (za rfl (zq ?_)))))))
   have e5 : zbe (l.drop k0) k0 out0 = zbe (l.drop (k0 + 1)) (k0 + 1) (zjK out0 x0) := by
    rewrite [zT hx0]
    rewrite [zbe]
    try dsimp only
    all_goals rfl
   exact zQ (k0 + 1, (zjK out0 x0)) ⟨e5.symm.trans hI0, hk0, by first | omega | assumption | (simp only [List.length_append, List.length_cons, List.length_nil, List.length_set]; omega) | (simp; omega) | grind⟩ (by show l.length - (k0 + 1) < l.length - k0; omega) (zD.ren [] aP1 aP1 rfl ⟨⟨rfl, rfl⟩, ⟨rfl, rfl⟩, ⟨rfl, rfl⟩, ⟨rfl, rfl⟩, ⟨congrArg (fun n => some (I n)) (zbS (k := k0) aP2), rfl⟩, trivial⟩ ⟨⟨rfl, rfl, rfl⟩, trivial⟩ aP0)
  ·have g2 : ¬ ((k0 : Int) < l.length) := of_decide_eq_false h2
   have hk0 : k0 = l.length := by omega
   refine zS (z5 (zag (zaf rfl ?_)))
   have e6 : zbe l 0 (out ++ [(l.length : Int)]) = out0 := by
    rewrite [← hI0, hk0, List.drop_length]
    rewrite [zbe]
    try dsimp only
    all_goals rfl
   exact z0 out0 ⟨e6, by first | assumption | omega | (simp; omega) | simp_all | grind⟩ (zD.ren [] aP1 aP1 rfl ⟨⟨rfl, rfl⟩, trivial⟩ ⟨⟨rfl, rfl, rfl⟩, trivial⟩ aP0)
 ·rintro out_0 ⟨(hJ1 : zbe l 0 (out ++ [(l.length : Int)]) = out_0), hE0⟩
  refine zu (zg rfl (za rfl (za rfl (zd (zl ?_)))))
  have e7 : zbt out l = out_0 := by
   unfold zbt
   try dsimp only
   rewrite [hJ1]
   try dsimp only
   all_goals rfl
  rw [e7]
  exact zaa [] [] rfl ⟨trivial, trivial⟩ rfl aP7 (rfl) rfl rfl rfl aP0 rfl rfl ⟨⟨rfl, rfl⟩, trivial⟩

theorem zh9 : ∀ (l : List zaJ) (k : Nat) (out : List Int), (zbg l k out).length = out.length + 3 * l.length
  | [], k, out => by rw [zbg]; rfl
  | x :: l, k, out => by rw [zbg, zh9 l, zn0]; simp only [List.length_cons]; omega
theorem zl0 (out : List Int) (l : List zaJ) : (ziB out l).length = out.length + 1 + 3 * l.length := by
  unfold ziB; dsimp only; rw [zh9]; simp only [List.length_append, List.length_cons, List.length_nil]

theorem zhQ : ∀ (l : List zcc) (k : Nat) (out : List Int), (zbf l k out).length = out.length + 5 * l.length
  | [], k, out => by rw [zbf]; rfl
  | x :: l, k, out => by rw [zbf, zhQ l, zlv]; simp only [List.length_cons]; omega
theorem zhe (out : List Int) (l : List zcc) : (ze9 out l).length = out.length + 1 + 5 * l.length := by
  unfold ze9; dsimp only; rw [zhQ]; simp only [List.length_append, List.length_cons, List.length_nil]

theorem zh4 : ∀ (l : List zbD) (k : Nat) (out : List Int), (zbi l k out).length = out.length + 2 * l.length
  | [], k, out => by rw [zbi]; rfl
  | x :: l, k, out => by rw [zbi, zh4 l, zkr]; simp only [List.length_cons]; omega
theorem zgZ (out : List Int) (l : List zbD) : (zhM out l).length = out.length + 1 + 2 * l.length := by
  unfold zhM; dsimp only; rw [zh4]; simp only [List.length_append, List.length_cons, List.length_nil]

theorem zhP : ∀ (l : List Bool) (k : Nat) (out : List Int), (zbd l k out).length = out.length + 1 * l.length
  | [], k, out => by rw [zbd]; rfl
  | x :: l, k, out => by rw [zbd, zhP l, zmw]; simp only [List.length_cons]; omega
theorem zju (out : List Int) (l : List Bool) : (zel out l).length = out.length + 1 + 1 * l.length := by
  unfold zel; dsimp only; rw [zhP]; simp only [List.length_append, List.length_cons, List.length_nil]

theorem zh6 : ∀ (l : List zaI) (k : Nat) (out : List Int), (zbe l k out).length = out.length + 7 * l.length
  | [], k, out => by rw [zbe]; rfl
  | x :: l, k, out => by rw [zbe, zh6 l, zlz]; simp only [List.length_cons]; omega
theorem zgO (out : List Int) (l : List zaI) : (zbt out l).length = out.length + 1 + 7 * l.length := by
  unfold zbt; dsimp only; rw [zh6]; simp only [List.length_append, List.length_cons, List.length_nil]

def ablW (out : List Int) (a : zI) : List Int :=
  (ziB (out ++ [a.Id, a.Cast, a.Cool, a.Charges, a.Range, a.Cost, (zdm a.Sight)]) a.Effects)
theorem ztL (out : List Int) (a : zI) (hb : out.length ≤ 15000000) (hE : a.Effects.length ≤ 1000) : Ok Tryz.prog 27 [.ref 0 1 0 out.length, zaX a] [.row 3 1 (encI out)] (.ref 0 1 0 (ablW out a).length) [.row 3 1 (encI (ablW out a))] [0] := by
 refine Ok.len fun hlen => ?_
 have hl_a_Effects := hlL (n := a.Effects.length) hlen
 refine zx Tryz.func27 rfl ?_
 show zaG Tryz.prog _ _ ⟨[(0, .ref 0 1 0 out.length), (1, zaX a)], [(0, .row 3 1 (encI out))], 1, [], 27, 1⟩
 refine zg rfl (zz (o := .box [_, _, _, _, _, _, _, _]) (nx' := 2) rfl rfl rfl trivial (zz (nx' := 3) rfl rfl rfl trivial (zd (zm ?_))))
 refine zav rfl aP1 rfl ?_
 refine za rfl (zh rfl rfl aP0 (za rfl (zh rfl rfl aP0 (za rfl (zh rfl rfl aP0 (za rfl (zh rfl rfl aP0 (za rfl (zh rfl rfl aP0 (za rfl (zh rfl rfl aP0 (za rfl (zh rfl rfl aP0 (za rfl (zB rfl rfl rfl rfl (zkV a.Sight) rfl rfl rfl (zz (o := .row _ _ [_, _, _, _, _, _, _]) (nx' := 4) rfl rfl rfl aP0 ?_))))))))))))))))
 refine zL (m := 7) (new := [_, _, _, _, _, _, _]) (cs' := encI (out ++ [a.Id, a.Cast, a.Cool, a.Charges, a.Range, a.Cost, (zdm a.Sight)])) (n' := (out ++ [a.Id, a.Cast, a.Cool, a.Charges, a.Range, a.Cost, (zdm a.Sight)]).length) (H' := [(3, .row _ _ _), (2, .row _ _ _), (1, .box [_, _, _, _, _, _, _, _]), (0, .row _ _ _)]) rfl rfl rfl (rfl) rfl rfl rfl rfl rfl rfl (zab out) (rfl) aP3 (zaH out ([a.Id, a.Cast, a.Cool, a.Charges, a.Range, a.Cost, (zdm a.Sight)])) (zax out ([a.Id, a.Cast, a.Cool, a.Charges, a.Range, a.Cost, (zdm a.Sight)])) (.inr aP1) rfl rfl (.keep rfl (.keep rfl (.keep rfl (.keep rfl .nil)))) (.keep rfl (.keep rfl (.keep rfl (.keep rfl (.keep rfl (.keep rfl (.keep rfl (.keep rfl (.keep rfl (.keep rfl (.keep rfl (.keep rfl (.keep rfl (.keep rfl (.keep rfl (.keep rfl (.lose (v' := .undef) rfl (.keep rfl (.keep rfl (.lose (v' := .undef) rfl (.keep rfl .nil))))))))))))))))))))) ?_
 refine za rfl (zd (zg rfl (za rfl (zh rfl rfl aP0 (za rfl ?_)))))
 refine zar (Hin := [.row _ _ _]) (out' := .ref 0 _ _ _) (H' := [(3, .row _ _ _), (2, .row _ _ _), (1, .box [_, _, _, _, _, _, _, _]), (0, .row _ _ _)]) (nx' := 4) [0] rfl rfl rfl rfl (.inl rfl) rfl rfl rfl rfl (zrZ (out ++ [a.Id, a.Cast, a.Cool, a.Charges, a.Range, a.Cost, (zdm a.Sight)]) a.Effects false aP4) rfl aP0 rfl rfl (.keep rfl (.keep rfl (.keep rfl (.keep rfl .nil)))) (.keep rfl (.keep rfl (.lose (v' := .undef) rfl (.lose (v' := .undef) rfl (.lose (v' := .undef) rfl (.keep rfl (.keep rfl (.keep rfl (.keep rfl (.keep rfl (.keep rfl (.keep rfl (.keep rfl (.keep rfl (.keep rfl (.keep rfl (.keep rfl (.keep rfl (.keep rfl (.keep rfl (.keep rfl (.keep rfl (.keep rfl (.keep rfl (.keep rfl (.keep rfl .nil)))))))))))))))))))))))))) rfl rfl rfl rfl ?_
 have p1 := zl0 (out ++ [a.Id, a.Cast, a.Cool, a.Charges, a.Range, a.Cost, (zdm a.Sight)]) a.Effects
 refine za rfl (zd (zl ?_))
 have e2 : ablW out a = (ziB (out ++ [a.Id, a.Cast, a.Cool, a.Charges, a.Range, a.Cost, (zdm a.Sight)]) a.Effects) := by
  unfold ablW
  try dsimp only
  all_goals rfl
 rw [e2]
 exact zaa [] [] rfl ⟨trivial, trivial⟩ rfl aP7 (rfl) rfl rfl rfl aP0 rfl rfl ⟨⟨rfl, rfl⟩, trivial⟩

def foeW (out : List Int) (f : GFoe) : List Int :=
  (zhM (ze9 (out ++ [f.Id, f.Health, f.Hit, f.Every, f.Reach, f.Drops]) f.Script) f.Hoard)
theorem ztW (out : List Int) (f : GFoe) (hb : out.length ≤ 15000000) (hS : f.Script.length ≤ 1000) (hH : f.Hoard.length ≤ 1000) : Ok Tryz.prog 29 [.ref 0 1 0 out.length, zg9 f] [.row 3 1 (encI out)] (.ref 0 1 0 (foeW out f).length) [.row 3 1 (encI (foeW out f))] [0] := by
 refine Ok.len fun hlen => ?_
 have hl_f_Script := hlL (n := f.Script.length) hlen
 have hl_f_Hoard := hlL (n := f.Hoard.length) hlen
 refine zx Tryz.func29 rfl ?_
 show zaG Tryz.prog _ _ ⟨[(0, .ref 0 1 0 out.length), (1, zg9 f)], [(0, .row 3 1 (encI out))], 1, [], 27, 1⟩
 refine zg rfl (zz (o := .box [_, _, _, _, _, _, _, _]) (nx' := 2) rfl rfl rfl trivial (zz (nx' := 3) rfl rfl rfl trivial (zd (zg rfl (za rfl (zh rfl rfl aP0 (za rfl (zh rfl rfl aP0 (za rfl (zh rfl rfl aP0 (za rfl (zh rfl rfl aP0 (za rfl (zh rfl rfl aP0 ?_))))))))))))))
 refine za rfl (zh rfl rfl aP0 (za rfl (zz (o := .row _ _ [_, _, _, _, _, _]) (nx' := 4) rfl rfl rfl aP0 ?_)))
 refine zL (m := 6) (new := [_, _, _, _, _, _]) (cs' := encI (out ++ [f.Id, f.Health, f.Hit, f.Every, f.Reach, f.Drops])) (n' := (out ++ [f.Id, f.Health, f.Hit, f.Every, f.Reach, f.Drops]).length) (H' := [(3, .row _ _ _), (2, .row _ _ _), (1, .box [_, _, _, _, _, _, _, _]), (0, .row _ _ _)]) rfl rfl rfl (rfl) rfl rfl rfl rfl rfl rfl (zab out) (rfl) aP3 (zaH out ([f.Id, f.Health, f.Hit, f.Every, f.Reach, f.Drops])) (zax out ([f.Id, f.Health, f.Hit, f.Every, f.Reach, f.Drops])) (.inl rfl) rfl rfl (.keep rfl (.keep rfl (.keep rfl (.keep rfl .nil)))) (.keep rfl (.keep rfl (.keep rfl (.keep rfl (.keep rfl (.keep rfl (.keep rfl (.keep rfl (.keep rfl (.keep rfl (.keep rfl (.keep rfl (.keep rfl (.lose (v' := .undef) rfl (.keep rfl (.keep rfl (.lose (v' := .undef) rfl (.keep rfl .nil)))))))))))))))))) ?_
 refine za rfl (zd (zm ?_))
 refine zgP rfl (zfv [0, 1, 4, 2, 3, 5, 6, 7] aP1 (ze0 [(3, 2), (2, 1), (2, 0), (1, 0)] aP1 (ziY rfl ?_)))
 refine zcC (m1 := 0) aP1 rfl ?_
 refine za rfl (zq ?_)
 refine zcC (m1 := 1) aP1 rfl ?_
 refine zh rfl rfl aP0 (zq ?_)
 refine zcC (m1 := 2) aP1 rfl ?_
 refine zh rfl rfl aP0 (zq ?_)
 refine zh8 (m1 := 3) (m2 := 5) aP1 rfl rfl ?_ ?_
 ·refine za rfl (zq ?_)
  refine zh8 (m1 := 4) (m2 := 5) aP1 rfl rfl ?_ ?_
  ·refine zar (Hin := [.row _ _ _]) (out' := .ref 0 _ _ _) (H' := [(3, .row _ _ _), (2, .row _ _ _), (1, .box [_, _, _, _, _, _, _, _]), (0, .row _ _ _)]) (nx' := 4) [0] rfl rfl rfl rfl (.inl rfl) rfl rfl rfl rfl (zld (out ++ [f.Id, f.Health, f.Hit, f.Every, f.Reach, f.Drops]) f.Script false aP4) rfl aP0 rfl rfl (.keep rfl (.keep rfl (.keep rfl (.keep rfl .nil)))) (.keep rfl (.keep rfl (.keep rfl (.lose (v' := .undef) rfl (.lose (v' := .undef) rfl (.lose (v' := .undef) rfl (.keep rfl (.keep rfl (.keep rfl (.keep rfl (.keep rfl (.keep rfl (.keep rfl (.keep rfl (.keep rfl (.keep rfl (.keep rfl (.keep rfl (.keep rfl (.keep rfl (.keep rfl (.keep rfl (.keep rfl (.keep rfl .nil)))))))))))))))))))))))) rfl rfl rfl rfl ?_
   have p1 := zhe (out ++ [f.Id, f.Health, f.Hit, f.Every, f.Reach, f.Drops]) f.Script
   refine zq ?_
   refine zcC (m1 := 5) aP1 rfl ?_
   refine za rfl (zq ?_)
   refine zcC (m1 := 6) aP1 rfl ?_
   refine zar (Hin := [.row _ _ _]) (out' := .ref 0 _ _ _) (H' := [(3, .row _ _ _), (2, .row _ _ _), (1, .box [_, _, _, _, _, _, _, _]), (0, .row _ _ _)]) (nx' := 4) [0] rfl rfl rfl rfl (.inl rfl) rfl rfl rfl rfl (zkK (ze9 (out ++ [f.Id, f.Health, f.Hit, f.Every, f.Reach, f.Drops]) f.Script) f.Hoard false aP4) rfl aP0 rfl rfl (.keep rfl (.keep rfl (.keep rfl (.keep rfl .nil)))) (.keep rfl (.lose (v' := .undef) rfl (.keep rfl (.keep rfl (.keep rfl (.keep rfl (.keep rfl (.keep rfl (.keep rfl (.keep rfl (.keep rfl (.keep rfl (.keep rfl (.keep rfl (.keep rfl (.keep rfl (.keep rfl (.keep rfl (.keep rfl (.keep rfl (.keep rfl (.keep rfl (.keep rfl (.keep rfl (.keep rfl (.keep rfl .nil)))))))))))))))))))))))))) rfl rfl rfl rfl ?_
   have p2 := zgZ (ze9 (out ++ [f.Id, f.Health, f.Hit, f.Every, f.Reach, f.Drops]) f.Script) f.Hoard
   refine zq ?_
   refine zcC (m1 := 7) aP1 rfl ?_
   refine za rfl (zq ?_)
   refine zfA aP1 ?_
   refine zu (zl ?_)
   have e3 : foeW out f = (zhM (ze9 (out ++ [f.Id, f.Health, f.Hit, f.Every, f.Reach, f.Drops]) f.Script) f.Hoard) := by
    unfold foeW
    try dsimp only
    all_goals rfl
   rw [e3]
   exact zaa [] [] rfl ⟨trivial, trivial⟩ rfl aP7 (rfl) rfl rfl rfl aP0 rfl rfl ⟨⟨rfl, rfl⟩, trivial⟩
  ·refine za rfl (zq ?_)
   refine zcC (m1 := 4) aP1 rfl ?_
   refine zar (Hin := [.row _ _ _]) (out' := .ref 0 _ _ _) (H' := [(3, .row _ _ _), (2, .row _ _ _), (1, .box [_, _, _, _, _, _, _, _]), (0, .row _ _ _)]) (nx' := 4) [0] rfl rfl rfl rfl (.inl rfl) rfl rfl rfl rfl (zld (out ++ [f.Id, f.Health, f.Hit, f.Every, f.Reach, f.Drops]) f.Script false aP4) rfl aP0 rfl rfl (.keep rfl (.keep rfl (.keep rfl (.keep rfl .nil)))) (.keep rfl (.keep rfl (.keep rfl (.keep rfl (.lose (v' := .undef) rfl (.lose (v' := .undef) rfl (.lose (v' := .undef) rfl (.keep rfl (.keep rfl (.keep rfl (.keep rfl (.keep rfl (.keep rfl (.keep rfl (.keep rfl (.keep rfl (.keep rfl (.keep rfl (.keep rfl (.keep rfl (.keep rfl (.keep rfl (.keep rfl (.keep rfl (.keep rfl .nil))))))))))))))))))))))))) rfl rfl rfl rfl ?_
   have p4 := zhe (out ++ [f.Id, f.Health, f.Hit, f.Every, f.Reach, f.Drops]) f.Script
   refine zq ?_
   refine zcC (m1 := 6) aP1 rfl ?_
   refine zar (Hin := [.row _ _ _]) (out' := .ref 0 _ _ _) (H' := [(3, .row _ _ _), (2, .row _ _ _), (1, .box [_, _, _, _, _, _, _, _]), (0, .row _ _ _)]) (nx' := 4) [0] rfl rfl rfl rfl (.inl rfl) rfl rfl rfl rfl (zkK (ze9 (out ++ [f.Id, f.Health, f.Hit, f.Every, f.Reach, f.Drops]) f.Script) f.Hoard false aP4) rfl aP0 rfl rfl (.keep rfl (.keep rfl (.keep rfl (.keep rfl .nil)))) (.lose (v' := .undef) rfl (.keep rfl (.keep rfl (.keep rfl (.keep rfl (.keep rfl (.keep rfl (.keep rfl (.keep rfl (.keep rfl (.keep rfl (.keep rfl (.keep rfl (.keep rfl (.keep rfl (.keep rfl (.keep rfl (.keep rfl (.keep rfl (.keep rfl (.keep rfl (.keep rfl (.keep rfl (.keep rfl (.keep rfl (.keep rfl .nil)))))))))))))))))))))))))) rfl rfl rfl rfl ?_
   have p5 := zgZ (ze9 (out ++ [f.Id, f.Health, f.Hit, f.Every, f.Reach, f.Drops]) f.Script) f.Hoard
   refine zq ?_
   refine zcC (m1 := 7) aP1 rfl ?_
   refine za rfl (zq ?_)
   refine zfA aP1 ?_
   refine zu (zl ?_)
   have e6 : foeW out f = (zhM (ze9 (out ++ [f.Id, f.Health, f.Hit, f.Every, f.Reach, f.Drops]) f.Script) f.Hoard) := by
    unfold foeW
    try dsimp only
    all_goals rfl
   rw [e6]
   exact zaa [] [] rfl ⟨trivial, trivial⟩ rfl aP7 (rfl) rfl rfl rfl aP0 rfl rfl ⟨⟨rfl, rfl⟩, trivial⟩
 ·refine za rfl (zq ?_)
  refine zcC (m1 := 3) aP1 rfl ?_
  refine za rfl (zq ?_)
  refine zcC (m1 := 4) aP1 rfl ?_
  refine zar (Hin := [.row _ _ _]) (out' := .ref 0 _ _ _) (H' := [(3, .row _ _ _), (2, .row _ _ _), (1, .box [_, _, _, _, _, _, _, _]), (0, .row _ _ _)]) (nx' := 4) [0] rfl rfl rfl rfl (.inl rfl) rfl rfl rfl rfl (zld (out ++ [f.Id, f.Health, f.Hit, f.Every, f.Reach, f.Drops]) f.Script false aP4) rfl aP0 rfl rfl (.keep rfl (.keep rfl (.keep rfl (.keep rfl .nil)))) (.keep rfl (.keep rfl (.keep rfl (.keep rfl (.lose (v' := .undef) rfl (.lose (v' := .undef) rfl (.lose (v' := .undef) rfl (.keep rfl (.keep rfl (.keep rfl (.keep rfl (.keep rfl (.keep rfl (.keep rfl (.keep rfl (.keep rfl (.keep rfl (.keep rfl (.keep rfl (.keep rfl (.keep rfl (.keep rfl (.keep rfl (.keep rfl (.keep rfl .nil))))))))))))))))))))))))) rfl rfl rfl rfl ?_
  have p7 := zhe (out ++ [f.Id, f.Health, f.Hit, f.Every, f.Reach, f.Drops]) f.Script
  refine zq ?_
  refine zcC (m1 := 6) aP1 rfl ?_
  refine zar (Hin := [.row _ _ _]) (out' := .ref 0 _ _ _) (H' := [(3, .row _ _ _), (2, .row _ _ _), (1, .box [_, _, _, _, _, _, _, _]), (0, .row _ _ _)]) (nx' := 4) [0] rfl rfl rfl rfl (.inl rfl) rfl rfl rfl rfl (zkK (ze9 (out ++ [f.Id, f.Health, f.Hit, f.Every, f.Reach, f.Drops]) f.Script) f.Hoard false aP4) rfl aP0 rfl rfl (.keep rfl (.keep rfl (.keep rfl (.keep rfl .nil)))) (.lose (v' := .undef) rfl (.keep rfl (.keep rfl (.keep rfl (.keep rfl (.keep rfl (.keep rfl (.keep rfl (.keep rfl (.keep rfl (.keep rfl (.keep rfl (.keep rfl (.keep rfl (.keep rfl (.keep rfl (.keep rfl (.keep rfl (.keep rfl (.keep rfl (.keep rfl (.keep rfl (.keep rfl (.keep rfl (.keep rfl (.keep rfl .nil)))))))))))))))))))))))))) rfl rfl rfl rfl ?_
  have p8 := zgZ (ze9 (out ++ [f.Id, f.Health, f.Hit, f.Every, f.Reach, f.Drops]) f.Script) f.Hoard
  refine zq ?_
  refine zcC (m1 := 7) aP1 rfl ?_
  refine za rfl (zq ?_)
  refine zfA aP1 ?_
  refine zu (zl ?_)
  have e9 : foeW out f = (zhM (ze9 (out ++ [f.Id, f.Health, f.Hit, f.Every, f.Reach, f.Drops]) f.Script) f.Hoard) := by
   unfold foeW
   try dsimp only
   all_goals rfl
  rw [e9]
  exact zaa [] [] rfl ⟨trivial, trivial⟩ rfl aP7 (rfl) rfl rfl rfl aP0 rfl rfl ⟨⟨rfl, rfl⟩, trivial⟩

theorem zoH (out : List Int) (a : zI) : (ablW out a).length = out.length + 8 + 3 * a.Effects.length := by
  unfold ablW; rw [zl0, List.length_append]; simp only [List.length_cons, List.length_nil]; try omega
theorem zov (out : List Int) (f : GFoe) : (foeW out f).length = out.length + 8 + 5 * f.Script.length + 2 * f.Hoard.length := by
  unfold foeW; rw [zgZ, zhe, List.length_append]; simp only [List.length_cons, List.length_nil]; try omega
theorem zrl {α : Type} {l : List α} {P : α → Prop} (h : ∀ x ∈ l, P x) {k : Nat} {x : α} (hx : l[k]? = some x) : P x := h x (List.mem_of_getElem? hx)

def zes : List zI → Nat → (List Int) → List Int
  | [], k0, out0 => out0
  | x0 :: l_, k0, out0 => zes l_ (k0 + 1) (ablW out0 x0)
def zr0 (out : List Int) (l : List zI) : List Int :=
  (let out_0 := zes l 0 (out ++ [(l.length : Int)]); out_0)
def zbh : List GFoe → Nat → (List Int) → List Int
  | [], k0, out0 => out0
  | x0 :: l_, k0, out0 => zbh l_ (k0 + 1) (foeW out0 x0)
def zb2 (out : List Int) (l : List GFoe) : List Int :=
  (let out_0 := zbh l 0 (out ++ [(l.length : Int)]); out_0)
theorem zr7 (out : List Int) (l : List GFoe) (l_f : Bool) (hb : out.length + 7010 * l.length ≤ 14000000) (hF : ∀ x ∈ l, x.Script.length ≤ 1000 ∧ x.Hoard.length ≤ 1000) : Ok Tryz.prog 24 [.ref 0 1 0 out.length, .pv (.slc l.length l_f (l.flatMap zC)), .fnc 29 []] [.row 3 1 (encI out)] (.ref 0 1 0 (zb2 out l).length) [.row 3 1 (encI (zb2 out l))] [0] := by
 refine Ok.len fun hlen => ?_
 have hl_l := hlL (n := l.length) hlen
 refine zx Tryz.func24 rfl ?_
 show zaG Tryz.prog _ _ ⟨[(0, .ref 0 1 0 out.length), (1, .pv (.slc l.length l_f (l.flatMap zC))), (2, .fnc 29 [])], [(0, .row 3 1 (encI out))], 1, [], 26, 1⟩
 refine zbq (zD.loose (T' := [(0, .ref 0 1 0 out.length), (1, .pv (.slc l.length l_f (l.flatMap zC))), (2, .pv (.fn 29))]) (H' := [(0, .row 3 1 (encI out))]) ⟨⟨_, rfl, .inl rfl⟩, ⟨_, rfl, .inl rfl⟩, ⟨_, rfl, .inr rfl⟩, trivial⟩ ⟨⟨_, rfl, .inl rfl⟩, trivial⟩) ?_
 refine zg rfl (zz (nx' := 2) rfl rfl rfl trivial (zd (zg rfl (za rfl (za rfl (za rfl (zz (o := .row _ _ [_]) (nx' := 3) rfl rfl rfl aP0 ?_)))))))
 refine zL (m := 1) (new := [_]) (cs' := encI (out ++ [(l.length : Int)])) (n' := (out ++ [(l.length : Int)]).length) (H' := [(2, .row _ _ _), (1, .row _ _ _), (0, .row _ _ _)]) rfl rfl rfl (rfl) rfl rfl rfl rfl rfl rfl (zab out) (rfl) aP3 (zaV out _) (((zbJ out (l.length : Int))).symm) (.inl rfl) rfl rfl (.keep rfl (.keep rfl (.keep rfl .nil))) (.keep rfl (.keep rfl (.keep rfl (.lose (v' := .undef) rfl (.keep rfl (.lose (v' := .undef) rfl (.keep rfl (.keep rfl .nil)))))))) ?_
 refine za rfl (zd (zm (zg rfl (za rfl (za rfl (za rfl (zd ?_)))))))
 refine zX (fun out_0 : List Int => (⟨[(0, .ref 0 1 0 out_0.length)], [(0, .row 3 1 (encI out_0))], 1, [0], 26, 1⟩ : St)) (fun out_0 : List Int => zbh l 0 (out ++ [(l.length : Int)]) = out_0 ∧ (out_0.length ≤ out.length + 1 + 7008 * l.length)) ?_ ?_
 ·refine zw ?_
  refine z1 (fun w_ : Nat × (List Int) => match w_ with | (k0, out0) => (⟨[(0, .ref 0 1 0 out0.length), (2, .pv (.fn 29)), (14, .pv (.slc l.length l_f (l.flatMap zC))), (15, I l.length), (16, I k0)], [(0, .row 3 1 (encI out0))], 1, [0], 26, 1⟩ : St)) (fun w_ : Nat × (List Int) => match w_ with | (k0, out0) => zbh (l.drop k0) k0 out0 = zbh l 0 (out ++ [(l.length : Int)]) ∧ k0 ≤ l.length ∧ out.length + 1 ≤ out0.length ∧ out0.length ≤ out.length + 1 + 7008 * k0) (fun w_ : Nat × (List Int) => match w_ with | (k0, out0) => l.length - k0) (0, (out ++ [(l.length : Int)])) (⟨rfl, Nat.zero_le _, by first | omega | simp | (simp; omega)⟩) ?_ (fun w_ hh_ => ?_)
  ·exact (zD.ren [] aP1 aP1 rfl ⟨⟨rfl, rfl⟩, ⟨rfl, rfl⟩, ⟨rfl, rfl⟩, ⟨rfl, rfl⟩, ⟨rfl, rfl⟩, trivial⟩ ⟨⟨rfl, rfl, rfl⟩, trivial⟩ aP0)
  obtain ⟨k0, out0⟩ := w_
  obtain ⟨hI0, hb0, hv0⟩ := hh_
  refine zg rfl (zi rfl rfl rfl rfl rfl trivial (zd (zm ?_)))
  refine zr rfl (fun h2 => ?_) (fun h2 => ?_)
  ·have g2 : (k0 : Int) < l.length := of_decide_eq_true h2
   have hk0 : k0 < l.length := by omega
   obtain ⟨x0, hx0⟩ : ∃ z_, l[k0]? = some z_ := ⟨_, List.getElem?_eq_getElem hk0⟩
   refine zt (zu (zm (zw (zg rfl (zJ (k := k0) rfl rfl rfl rfl hk0 (z3 (s := 8) (enc := zC) (fun _ => rfl) aP0 hk0) rfl (zF rfl rfl rfl (zai (s := 8) (enc := zC) (fun _ => rfl) hk0) (zZ (s := 8) (enc := zC) (fun _ => rfl) hx0) rfl (zz (o := .box [_, _, _, _, _, _, _, _]) (nx' := 2) rfl rfl rfl trivial ?_)))))))
   refine zH (H' := [(1, .box [_, _, _, _, _, _, _, _]), (0, _)]) rfl rfl rfl rfl rfl rfl (.inl rfl) rfl ?_
   refine zd (zy rfl (za rfl (za rfl (zh (v := (.agg [_, _, _, _, _, _, _, _])) rfl rfl (Nat.le_of_ble_eq_true rfl) ?_))))
   refine zar (Hin := [.row _ _ _]) (out' := .ref 0 _ _ _) (H' := [(1, .box [_, _, _, _, _, _, _, _]), (0, .row _ _ _)]) (nx' := 2) [0] rfl rfl rfl rfl (.inl rfl) rfl rfl rfl rfl (ztW out0 x0 aP4 (by first | exact (zrl hF (by assumption)).1 | (first | omega | (simp; done) | (simp only [List.length_append, List.length_cons, List.length_nil] at *; omega) | (simp; omega))) (by first | exact (zrl hF (by assumption)).2 | (first | omega | (simp; done) | (simp only [List.length_append, List.length_cons, List.length_nil] at *; omega) | (simp; omega)))) rfl aP0 rfl rfl (.keep rfl (.keep rfl .nil)) (.keep rfl (.lose (v' := .undef) rfl (.keep rfl (.keep rfl (.keep rfl (.keep rfl (.keep rfl (.lose (v' := .undef) rfl (.keep rfl (.keep rfl (.keep rfl (.keep rfl .nil)))))))))))) rfl rfl rfl rfl ?_
   have p3 := zov out0 x0
   refine za rfl (zq (zal (zu (zy rfl (zi rfl rfl rfl rfl rfl trivial (za rfl (zq ?_)))))))
   have e5 : zbh (l.drop k0) k0 out0 = zbh (l.drop (k0 + 1)) (k0 + 1) (foeW out0 x0) := by
    rewrite [zT hx0]
    rewrite [zbh]
    try dsimp only
    all_goals rfl
   exact zQ (k0 + 1, (foeW out0 x0)) ⟨e5.symm.trans hI0, hk0, by first | omega | assumption | (simp only [List.length_append, List.length_cons, List.length_nil, List.length_set]; omega) | (simp; omega) | grind⟩ (by show l.length - (k0 + 1) < l.length - k0; omega) (zD.ren [] aP1 aP1 rfl ⟨⟨rfl, rfl⟩, ⟨rfl, rfl⟩, ⟨rfl, rfl⟩, ⟨rfl, rfl⟩, ⟨congrArg (fun n => some (I n)) (zbS (k := k0) aP2), rfl⟩, trivial⟩ ⟨⟨rfl, rfl, rfl⟩, trivial⟩ aP0)
  ·have g2 : ¬ ((k0 : Int) < l.length) := of_decide_eq_false h2
   have hk0 : k0 = l.length := by omega
   refine zS (z5 (zag (zaf rfl ?_)))
   have e6 : zbh l 0 (out ++ [(l.length : Int)]) = out0 := by
    rewrite [← hI0, hk0, List.drop_length]
    rewrite [zbh]
    try dsimp only
    all_goals rfl
   exact z0 out0 ⟨e6, by first | assumption | omega | (simp; omega) | simp_all | grind⟩ (zD.ren [] aP1 aP1 rfl ⟨⟨rfl, rfl⟩, trivial⟩ ⟨⟨rfl, rfl, rfl⟩, trivial⟩ aP0)
 ·rintro out_0 ⟨(hJ1 : zbh l 0 (out ++ [(l.length : Int)]) = out_0), hE0⟩
  refine zu (zg rfl (za rfl (za rfl (zd (zl ?_)))))
  have e7 : zb2 out l = out_0 := by
   unfold zb2
   try dsimp only
   rewrite [hJ1]
   try dsimp only
   all_goals rfl
  rw [e7]
  exact zaa [] [] rfl ⟨trivial, trivial⟩ rfl aP7 (rfl) rfl rfl rfl aP0 rfl rfl ⟨⟨rfl, rfl⟩, trivial⟩

structure Fits (c : zA) : Prop where
  ab : c.Abilities.length ≤ 1000
  eff : ∀ x ∈ c.Abilities, x.Effects.length ≤ 1000
  au : c.Auras.length ≤ 100000
  fo : c.Foes.length ≤ 1000
  sc : ∀ x ∈ c.Foes, x.Script.length ≤ 1000 ∧ x.Hoard.length ≤ 1000
  wall : c.Map.Wall.length ≤ 1000000
theorem zh3 : ∀ (l : List zI) (k : Nat) (out : List Int), (∀ x ∈ l, x.Effects.length ≤ 1000) → (zes l k out).length ≤ out.length + 3008 * l.length
  | [], k, out, _ => by rw [zes]; exact Nat.le_refl _
  | x :: l, k, out, h => by
    rw [zes]
    have h1 := zh3 l (k + 1) (ablW out x) (fun y hy => h y (List.mem_cons_of_mem _ hy))
    have h2 := zoH out x
    have h3 := h x List.mem_cons_self
    simp only [List.length_cons]; omega
theorem zra (out : List Int) (l : List zI) (h : ∀ x ∈ l, x.Effects.length ≤ 1000) : (zr0 out l).length ≤ out.length + 1 + 3008 * l.length := by
  unfold zr0; dsimp only
  have := zh3 l 0 (out ++ [(l.length : Int)]) h
  simp only [List.length_append, List.length_cons, List.length_nil] at this; omega
theorem zhV : ∀ (l : List GFoe) (k : Nat) (out : List Int), (∀ x ∈ l, x.Script.length ≤ 1000 ∧ x.Hoard.length ≤ 1000) → (zbh l k out).length ≤ out.length + 7008 * l.length
  | [], k, out, _ => by rw [zbh]; exact Nat.le_refl _
  | x :: l, k, out, h => by
    rw [zbh]
    have h1 := zhV l (k + 1) (foeW out x) (fun y hy => h y (List.mem_cons_of_mem _ hy))
    have h2 := zov out x
    have h3 := h x List.mem_cons_self
    simp only [List.length_cons]; omega
theorem ziJ (out : List Int) (l : List GFoe) (h : ∀ x ∈ l, x.Script.length ≤ 1000 ∧ x.Hoard.length ≤ 1000) : (zb2 out l).length ≤ out.length + 1 + 7008 * l.length := by
  unfold zb2; dsimp only
  have := zhV l 0 (out ++ [(l.length : Int)]) h
  simp only [List.length_append, List.length_cons, List.length_nil] at this; omega

def zaO : List zI → Nat → (List Int) → List Int
  | [], k0, out0 => out0
  | x0 :: l_, k0, out0 => zaO l_ (k0 + 1) (ablW out0 x0)
def zae (l : List zI) : List Int :=
  (let out_0 := zaO l 0 ([(l.length : Int)]); out_0)
theorem aP10 {p : Prop} (h : p := by first | rfl | simp only [List.length_set] | simp | omega | (simp; omega)) : p := h
theorem zg6 (l : List zI) (l_f : Bool) (hb : 3010 * l.length ≤ 12000000) (hE : ∀ x ∈ l, x.Effects.length ≤ 1000) : Ok Tryz.prog 26 [.pv (.slc 0 true []), .pv (.slc l.length l_f (l.flatMap zj)), .fnc 27 []] [] (.ref 0 1 0 (zae l).length) [.row 3 1 (encI (zae l))] [] := by
 refine Ok.len fun hlen => ?_
 have hl_l := hlL (n := l.length) hlen
 refine zx Tryz.func26 rfl ?_
 refine zbq (zD.loose (T' := [(0, .pv (.slc 0 true [])), (1, .pv (.slc l.length l_f (l.flatMap zj))), (2, .pv (.fn 27))]) (H' := []) ⟨⟨_, rfl, .inl rfl⟩, ⟨_, rfl, .inl rfl⟩, ⟨_, rfl, .inr rfl⟩, trivial⟩ trivial) ?_
 refine zg rfl (zz (nx' := 1) rfl rfl rfl trivial (zd (zg rfl (za rfl (za rfl (za rfl (zz (o := .row _ _ [_]) (nx' := 2) rfl rfl rfl aP0 ?_)))))))
 refine zbO (m := 1) (new := [_]) (cs' := encI [(l.length : Int)]) rfl rfl (rfl) rfl rfl rfl rfl rfl rfl (rfl) aP3 rfl rfl rfl rfl ?_
 refine za rfl (zd (zm (zg rfl (za rfl (za rfl (za rfl (zd ?_)))))))
 refine zX (fun out_0 : List Int => (⟨[(0, .ref 0 1 0 out_0.length)], [(0, .row 3 1 (encI out_0))], 1, [], 26, 0⟩ : St)) (fun out_0 : List Int => zaO l 0 ([(l.length : Int)]) = out_0 ∧ (out_0.length ≤ 1 + 3008 * l.length)) ?_ ?_
 ·refine zw ?_
  refine z1 (fun w_ : Nat × (List Int) => match w_ with | (k0, out0) => (⟨[(0, .ref 0 1 0 out0.length), (2, .pv (.fn 27)), (14, .pv (.slc l.length l_f (l.flatMap zj))), (15, I l.length), (16, I k0)], [(0, .row 3 1 (encI out0))], 1, [], 26, 0⟩ : St)) (fun w_ : Nat × (List Int) => match w_ with | (k0, out0) => zaO (l.drop k0) k0 out0 = zaO l 0 ([(l.length : Int)]) ∧ k0 ≤ l.length ∧ out0.length ≤ 1 + 3008 * k0) (fun w_ : Nat × (List Int) => match w_ with | (k0, out0) => l.length - k0) (0, [(l.length : Int)]) (⟨rfl, Nat.zero_le _, by first | omega | simp | (simp; omega)⟩) ?_ (fun w_ hh_ => ?_)
  ·exact (zD.ren [(0, 2), (2, 0)] aP1 aP1 rfl ⟨⟨congrArg (fun n => some (AV.ref 2 1 0 n)) aP10, rfl⟩, ⟨rfl, rfl⟩, ⟨rfl, rfl⟩, ⟨rfl, rfl⟩, ⟨rfl, rfl⟩, trivial⟩ ⟨⟨rfl, rfl, rfl⟩, trivial⟩ aP0)
  obtain ⟨k0, out0⟩ := w_
  obtain ⟨hI0, hb0, hv0⟩ := hh_
  refine zg rfl (zi rfl rfl rfl rfl rfl trivial (zd (zm ?_)))
  refine zr rfl (fun h2 => ?_) (fun h2 => ?_)
  ·have g2 : (k0 : Int) < l.length := of_decide_eq_true h2
   have hk0 : k0 < l.length := by omega
   obtain ⟨x0, hx0⟩ : ∃ z_, l[k0]? = some z_ := ⟨_, List.getElem?_eq_getElem hk0⟩
   refine zt (zu (zm (zw (zg rfl (zJ (k := k0) rfl rfl rfl rfl hk0 (z3 (s := 8) (enc := zj) (fun _ => rfl) aP0 hk0) rfl (zF rfl rfl rfl (zai (s := 8) (enc := zj) (fun _ => rfl) hk0) (zZ (s := 8) (enc := zj) (fun _ => rfl) hx0) rfl (zz (o := .box [_, _, _, _, _, _, _, _]) (nx' := 2) rfl rfl rfl trivial ?_)))))))
   refine zH (H' := [(1, .box [_, _, _, _, _, _, _, _]), (0, _)]) rfl rfl rfl rfl rfl rfl (.inl rfl) rfl ?_
   refine zd (zy rfl (za rfl (za rfl (zh (v := (.agg [_, _, _, _, _, _, _, _])) rfl rfl (Nat.le_of_ble_eq_true rfl) ?_))))
   refine zar (Hin := [.row _ _ _]) (out' := .ref 0 _ _ _) (H' := [(1, .box [_, _, _, _, _, _, _, _]), (0, .row _ _ _)]) (nx' := 2) [0] rfl rfl rfl rfl (.inl rfl) rfl rfl rfl rfl (ztL out0 x0 aP4 (by first | exact zrl hE (by assumption) | (first | omega | (simp; done) | (simp only [List.length_append, List.length_cons, List.length_nil] at *; omega) | (simp; omega)))) rfl aP0 rfl rfl (.keep rfl (.keep rfl .nil)) (.keep rfl (.lose (v' := .undef) rfl (.keep rfl (.keep rfl (.keep rfl (.keep rfl (.keep rfl (.lose (v' := .undef) rfl (.keep rfl (.keep rfl (.keep rfl (.keep rfl .nil)))))))))))) rfl rfl rfl rfl ?_
   have p3 := zoH out0 x0
   refine za rfl (zq (zal (zu (zy rfl (zi rfl rfl rfl rfl rfl trivial (za rfl (zq ?_)))))))
   have e5 : zaO (l.drop k0) k0 out0 = zaO (l.drop (k0 + 1)) (k0 + 1) (ablW out0 x0) := by
    rewrite [zT hx0]
    rewrite [zaO]
    try dsimp only
    all_goals rfl
   exact zQ (k0 + 1, (ablW out0 x0)) ⟨e5.symm.trans hI0, hk0, by first | omega | assumption | (simp only [List.length_append, List.length_cons, List.length_nil, List.length_set]; omega) | (simp; omega) | grind⟩ (by show l.length - (k0 + 1) < l.length - k0; omega) (zD.ren [] aP1 aP1 rfl ⟨⟨rfl, rfl⟩, ⟨rfl, rfl⟩, ⟨rfl, rfl⟩, ⟨rfl, rfl⟩, ⟨congrArg (fun n => some (I n)) (zbS (k := k0) aP2), rfl⟩, trivial⟩ ⟨⟨rfl, rfl, rfl⟩, trivial⟩ aP0)
  ·have g2 : ¬ ((k0 : Int) < l.length) := of_decide_eq_false h2
   have hk0 : k0 = l.length := by omega
   refine zS (z5 (zag (zaf rfl ?_)))
   have e6 : zaO l 0 ([(l.length : Int)]) = out0 := by
    rewrite [← hI0, hk0, List.drop_length]
    rewrite [zaO]
    try dsimp only
    all_goals rfl
   exact z0 out0 ⟨e6, by first | assumption | omega | (simp; omega) | simp_all | grind⟩ (zD.ren [] aP1 aP1 rfl ⟨⟨rfl, rfl⟩, trivial⟩ ⟨⟨rfl, rfl, rfl⟩, trivial⟩ aP0)
 ·rintro out_0 ⟨(hJ1 : zaO l 0 ([(l.length : Int)]) = out_0), hE0⟩
  refine zu (zg rfl (za rfl (za rfl (zd (zl ?_)))))
  have e7 : zae l = out_0 := by
   unfold zae
   try dsimp only
   rewrite [hJ1]
   try dsimp only
   all_goals rfl
  rw [e7]
  exact zaa [] [0] rfl ⟨trivial, trivial⟩ rfl aP7 (rfl) rfl rfl rfl aP0 rfl rfl ⟨⟨rfl, rfl⟩, trivial⟩

theorem zqz (l : List zI) : zae l = zr0 [] l := by
  have go : ∀ (l : List zI) (k : Nat) (out : List Int), zaO l k out = zes l k out := by
    intro l
    induction l with
    | nil => intro k out; rw [zaO, zes]
    | cons x l ih => intro k out; rw [zaO, zes, ih]
  unfold zae zr0; dsimp only; rw [go]; rfl
theorem zdZ (l : List zI) (h : ∀ x ∈ l, x.Effects.length ≤ 1000) : (zae l).length ≤ 1 + 3008 * l.length := by
  rw [zqz]
  have := zra [] l h
  simpa [Nat.add_assoc] using this

def flat (c : zA) : List Int :=
  ((zel ((zb2 (zbt (zae c.Abilities) c.Auras) c.Foes) ++ [c.Map.W, c.Map.H]) c.Map.Wall) ++ [c.Door.X, c.Door.Y, c.Lair.X, c.Lair.Y])
theorem zq9 (c : zA) (hF : Fits c) : Ok Tryz.prog 10 [zak c] [] (.ref 0 1 0 (flat c).length) [.row 3 1 (encI (flat c))] [] := by
 refine Ok.len fun hlen => ?_
 have hl_c_Abilities := hlL (n := c.Abilities.length) hlen
 have hl_c_Auras := hlL (n := c.Auras.length) hlen
 have hl_c_Foes := hlL (n := c.Foes.length) hlen
 have hl_c_Map_Wall := hlL (n := c.Map.Wall.length) hlen
 have hf1 := hF.ab
 have hf2 := hF.au
 have hf3 := hF.fo
 have hf4 := hF.wall
 refine zx Tryz.func10 rfl ?_
 refine zg rfl (zz (o := .box [_, _, _, _, _, _, _, _, _, _]) (nx' := 1) rfl rfl rfl trivial (zz (nx' := 2) rfl rfl rfl trivial (zd (zm ?_))))
 refine zgP rfl (zfv [0, 3, 6, 1, 2, 4, 5, 7, 8, 9] aP1 (ze0 [(5, 2), (3, 2), (3, 1), (2, 1), (2, 0), (1, 0)] aP1 (ziY rfl ?_)))
 have p1 := zdZ c.Abilities (by first | assumption | exact hF.eff)
 have p2 := zgO (zae c.Abilities) c.Auras
 have p3 := ziJ (zbt (zae c.Abilities) c.Auras) c.Foes (by first | assumption | exact hF.sc)
 refine zay (zqw [(10, #[false, false, false, false, false, false, false, false, false, false], (⟨[(1, .ptr 0 0)], [(0, .box [.pv (.slc c.Abilities.length false (c.Abilities.flatMap zj)), .pv (.slc c.Auras.length false (c.Auras.flatMap zp)), .pv (.slc c.Foes.length false (c.Foes.flatMap zC)), I c.Map.W, I c.Map.H, .pv (.slc c.Map.Wall.length false (encB c.Map.Wall)), I c.Door.X, I c.Door.Y, I c.Lair.X, I c.Lair.Y])], 2, [], 41, 0⟩ : St)), (9, #[true, false, false, false, false, false, false, false, false, false], (⟨[(1, .ptr 0 0), (4, .ptr 0 0)], [(0, .box [.pv (.slc c.Abilities.length false (c.Abilities.flatMap zj)), .pv (.slc c.Auras.length false (c.Auras.flatMap zp)), .pv (.slc c.Foes.length false (c.Foes.flatMap zC)), I c.Map.W, I c.Map.H, .pv (.slc c.Map.Wall.length false (encB c.Map.Wall)), I c.Door.X, I c.Door.Y, I c.Lair.X, I c.Lair.Y])], 2, [], 41, 0⟩ : St)), (8, #[true, true, false, false, false, false, false, false, false, false], (⟨[(1, .ptr 0 0), (4, .ptr 0 0), (7, .ptr 0 1)], [(0, .box [.pv (.slc c.Abilities.length false (c.Abilities.flatMap zj)), .pv (.slc c.Auras.length false (c.Auras.flatMap zp)), .pv (.slc c.Foes.length false (c.Foes.flatMap zC)), I c.Map.W, I c.Map.H, .pv (.slc c.Map.Wall.length false (encB c.Map.Wall)), I c.Door.X, I c.Door.Y, I c.Lair.X, I c.Lair.Y])], 2, [], 41, 0⟩ : St)), (7, #[true, true, true, false, false, false, false, false, false, false], (⟨[(1, .ptr 0 0), (4, .ptr 0 0), (7, .ptr 0 1), (10, .ptr 0 2)], [(0, .box [.pv (.slc c.Abilities.length false (c.Abilities.flatMap zj)), .pv (.slc c.Auras.length false (c.Auras.flatMap zp)), .pv (.slc c.Foes.length false (c.Foes.flatMap zC)), I c.Map.W, I c.Map.H, .pv (.slc c.Map.Wall.length false (encB c.Map.Wall)), I c.Door.X, I c.Door.Y, I c.Lair.X, I c.Lair.Y])], 2, [], 41, 0⟩ : St)), (6, #[true, true, true, true, false, false, false, false, false, false], (⟨[(1, .ptr 0 0), (5, .pv (.slc c.Abilities.length false (c.Abilities.flatMap zj))), (7, .ptr 0 1), (10, .ptr 0 2)], [(0, .box [.pv (.slc c.Abilities.length false (c.Abilities.flatMap zj)), .pv (.slc c.Auras.length false (c.Auras.flatMap zp)), .pv (.slc c.Foes.length false (c.Foes.flatMap zC)), I c.Map.W, I c.Map.H, .pv (.slc c.Map.Wall.length false (encB c.Map.Wall)), I c.Door.X, I c.Door.Y, I c.Lair.X, I c.Lair.Y])], 2, [], 41, 0⟩ : St)), (6, #[true, true, true, false, false, true, false, false, false, false], (⟨[(1, .ptr 0 0), (4, .ptr 0 0), (8, .pv (.slc c.Auras.length false (c.Auras.flatMap zp))), (10, .ptr 0 2)], [(0, .box [.pv (.slc c.Abilities.length false (c.Abilities.flatMap zj)), .pv (.slc c.Auras.length false (c.Auras.flatMap zp)), .pv (.slc c.Foes.length false (c.Foes.flatMap zC)), I c.Map.W, I c.Map.H, .pv (.slc c.Map.Wall.length false (encB c.Map.Wall)), I c.Door.X, I c.Door.Y, I c.Lair.X, I c.Lair.Y])], 2, [], 41, 0⟩ : St)), (6, #[true, true, true, false, false, false, false, true, false, false], (⟨[(1, .ptr 0 0), (4, .ptr 0 0), (7, .ptr 0 1), (11, .pv (.slc c.Foes.length false (c.Foes.flatMap zC)))], [(0, .box [.pv (.slc c.Abilities.length false (c.Abilities.flatMap zj)), .pv (.slc c.Auras.length false (c.Auras.flatMap zp)), .pv (.slc c.Foes.length false (c.Foes.flatMap zC)), I c.Map.W, I c.Map.H, .pv (.slc c.Map.Wall.length false (encB c.Map.Wall)), I c.Door.X, I c.Door.Y, I c.Lair.X, I c.Lair.Y])], 2, [], 41, 0⟩ : St)), (5, #[true, true, true, true, true, false, false, false, false, false], (⟨[(1, .ptr 0 0), (6, .ref 2 1 0 (zae c.Abilities).length), (7, .ptr 0 1), (10, .ptr 0 2)], [(2, .row 3 1 (encI (zae c.Abilities))), (0, .box [.pv (.slc c.Abilities.length false (c.Abilities.flatMap zj)), .pv (.slc c.Auras.length false (c.Auras.flatMap zp)), .pv (.slc c.Foes.length false (c.Foes.flatMap zC)), I c.Map.W, I c.Map.H, .pv (.slc c.Map.Wall.length false (encB c.Map.Wall)), I c.Door.X, I c.Door.Y, I c.Lair.X, I c.Lair.Y])], 3, [], 41, 0⟩ : St)), (5, #[true, true, true, true, false, true, false, false, false, false], (⟨[(1, .ptr 0 0), (5, .pv (.slc c.Abilities.length false (c.Abilities.flatMap zj))), (8, .pv (.slc c.Auras.length false (c.Auras.flatMap zp))), (10, .ptr 0 2)], [(0, .box [.pv (.slc c.Abilities.length false (c.Abilities.flatMap zj)), .pv (.slc c.Auras.length false (c.Auras.flatMap zp)), .pv (.slc c.Foes.length false (c.Foes.flatMap zC)), I c.Map.W, I c.Map.H, .pv (.slc c.Map.Wall.length false (encB c.Map.Wall)), I c.Door.X, I c.Door.Y, I c.Lair.X, I c.Lair.Y])], 2, [], 41, 0⟩ : St)), (5, #[true, true, true, true, false, false, false, true, false, false], (⟨[(1, .ptr 0 0), (5, .pv (.slc c.Abilities.length false (c.Abilities.flatMap zj))), (7, .ptr 0 1), (11, .pv (.slc c.Foes.length false (c.Foes.flatMap zC)))], [(0, .box [.pv (.slc c.Abilities.length false (c.Abilities.flatMap zj)), .pv (.slc c.Auras.length false (c.Auras.flatMap zp)), .pv (.slc c.Foes.length false (c.Foes.flatMap zC)), I c.Map.W, I c.Map.H, .pv (.slc c.Map.Wall.length false (encB c.Map.Wall)), I c.Door.X, I c.Door.Y, I c.Lair.X, I c.Lair.Y])], 2, [], 41, 0⟩ : St)), (5, #[true, true, true, false, false, true, false, true, false, false], (⟨[(1, .ptr 0 0), (4, .ptr 0 0), (8, .pv (.slc c.Auras.length false (c.Auras.flatMap zp))), (11, .pv (.slc c.Foes.length false (c.Foes.flatMap zC)))], [(0, .box [.pv (.slc c.Abilities.length false (c.Abilities.flatMap zj)), .pv (.slc c.Auras.length false (c.Auras.flatMap zp)), .pv (.slc c.Foes.length false (c.Foes.flatMap zC)), I c.Map.W, I c.Map.H, .pv (.slc c.Map.Wall.length false (encB c.Map.Wall)), I c.Door.X, I c.Door.Y, I c.Lair.X, I c.Lair.Y])], 2, [], 41, 0⟩ : St)), (4, #[true, true, true, true, true, true, false, false, false, false], (⟨[(1, .ptr 0 0), (6, .ref 2 1 0 (zae c.Abilities).length), (8, .pv (.slc c.Auras.length false (c.Auras.flatMap zp))), (10, .ptr 0 2)], [(2, .row 3 1 (encI (zae c.Abilities))), (0, .box [.pv (.slc c.Abilities.length false (c.Abilities.flatMap zj)), .pv (.slc c.Auras.length false (c.Auras.flatMap zp)), .pv (.slc c.Foes.length false (c.Foes.flatMap zC)), I c.Map.W, I c.Map.H, .pv (.slc c.Map.Wall.length false (encB c.Map.Wall)), I c.Door.X, I c.Door.Y, I c.Lair.X, I c.Lair.Y])], 3, [], 41, 0⟩ : St)), (4, #[true, true, true, true, true, false, false, true, false, false], (⟨[(1, .ptr 0 0), (6, .ref 2 1 0 (zae c.Abilities).length), (7, .ptr 0 1), (11, .pv (.slc c.Foes.length false (c.Foes.flatMap zC)))], [(2, .row 3 1 (encI (zae c.Abilities))), (0, .box [.pv (.slc c.Abilities.length false (c.Abilities.flatMap zj)), .pv (.slc c.Auras.length false (c.Auras.flatMap zp)), .pv (.slc c.Foes.length false (c.Foes.flatMap zC)), I c.Map.W, I c.Map.H, .pv (.slc c.Map.Wall.length false (encB c.Map.Wall)), I c.Door.X, I c.Door.Y, I c.Lair.X, I c.Lair.Y])], 3, [], 41, 0⟩ : St)), (4, #[true, true, true, true, false, true, false, true, false, false], (⟨[(1, .ptr 0 0), (5, .pv (.slc c.Abilities.length false (c.Abilities.flatMap zj))), (8, .pv (.slc c.Auras.length false (c.Auras.flatMap zp))), (11, .pv (.slc c.Foes.length false (c.Foes.flatMap zC)))], [(0, .box [.pv (.slc c.Abilities.length false (c.Abilities.flatMap zj)), .pv (.slc c.Auras.length false (c.Auras.flatMap zp)), .pv (.slc c.Foes.length false (c.Foes.flatMap zC)), I c.Map.W, I c.Map.H, .pv (.slc c.Map.Wall.length false (encB c.Map.Wall)), I c.Door.X, I c.Door.Y, I c.Lair.X, I c.Lair.Y])], 2, [], 41, 0⟩ : St)), (3, #[true, true, true, true, true, true, true, false, false, false], (⟨[(1, .ptr 0 0), (9, .ref 2 1 0 (zbt (zae c.Abilities) c.Auras).length), (10, .ptr 0 2)], [(2, .row 3 1 (encI (zbt (zae c.Abilities) c.Auras))), (0, .box [.pv (.slc c.Abilities.length false (c.Abilities.flatMap zj)), .pv (.slc c.Auras.length false (c.Auras.flatMap zp)), .pv (.slc c.Foes.length false (c.Foes.flatMap zC)), I c.Map.W, I c.Map.H, .pv (.slc c.Map.Wall.length false (encB c.Map.Wall)), I c.Door.X, I c.Door.Y, I c.Lair.X, I c.Lair.Y])], 3, [], 41, 0⟩ : St)), (3, #[true, true, true, true, true, true, false, true, false, false], (⟨[(1, .ptr 0 0), (6, .ref 2 1 0 (zae c.Abilities).length), (8, .pv (.slc c.Auras.length false (c.Auras.flatMap zp))), (11, .pv (.slc c.Foes.length false (c.Foes.flatMap zC)))], [(2, .row 3 1 (encI (zae c.Abilities))), (0, .box [.pv (.slc c.Abilities.length false (c.Abilities.flatMap zj)), .pv (.slc c.Auras.length false (c.Auras.flatMap zp)), .pv (.slc c.Foes.length false (c.Foes.flatMap zC)), I c.Map.W, I c.Map.H, .pv (.slc c.Map.Wall.length false (encB c.Map.Wall)), I c.Door.X, I c.Door.Y, I c.Lair.X, I c.Lair.Y])], 3, [], 41, 0⟩ : St)), (2, #[true, true, true, true, true, true, true, true, false, false], (⟨[(1, .ptr 0 0), (9, .ref 2 1 0 (zbt (zae c.Abilities) c.Auras).length), (11, .pv (.slc c.Foes.length false (c.Foes.flatMap zC)))], [(2, .row 3 1 (encI (zbt (zae c.Abilities) c.Auras))), (0, .box [.pv (.slc c.Abilities.length false (c.Abilities.flatMap zj)), .pv (.slc c.Auras.length false (c.Auras.flatMap zp)), .pv (.slc c.Foes.length false (c.Foes.flatMap zC)), I c.Map.W, I c.Map.H, .pv (.slc c.Map.Wall.length false (encB c.Map.Wall)), I c.Door.X, I c.Door.Y, I c.Lair.X, I c.Lair.Y])], 3, [], 41, 0⟩ : St)), (1, #[true, true, true, true, true, true, true, true, true, false], (⟨[(1, .ptr 0 0), (12, .ref 2 1 0 (zb2 (zbt (zae c.Abilities) c.Auras) c.Foes).length)], [(2, .row 3 1 (encI (zb2 (zbt (zae c.Abilities) c.Auras) c.Foes))), (0, .box [.pv (.slc c.Abilities.length false (c.Abilities.flatMap zj)), .pv (.slc c.Auras.length false (c.Auras.flatMap zp)), .pv (.slc c.Foes.length false (c.Foes.flatMap zC)), I c.Map.W, I c.Map.H, .pv (.slc c.Map.Wall.length false (encB c.Map.Wall)), I c.Door.X, I c.Door.Y, I c.Lair.X, I c.Lair.Y])], 3, [], 41, 0⟩ : St)), (0, #[true, true, true, true, true, true, true, true, true, true], (⟨[(1, .ptr 0 0), (3, .ref 2 1 0 (zb2 (zbt (zae c.Abilities) c.Auras) c.Foes).length)], [(2, .row 3 1 (encI (zb2 (zbt (zae c.Abilities) c.Auras) c.Foes))), (0, .box [.pv (.slc c.Abilities.length false (c.Abilities.flatMap zj)), .pv (.slc c.Auras.length false (c.Auras.flatMap zp)), .pv (.slc c.Foes.length false (c.Foes.flatMap zC)), I c.Map.W, I c.Map.H, .pv (.slc c.Map.Wall.length false (encB c.Map.Wall)), I c.Door.X, I c.Door.Y, I c.Lair.X, I c.Lair.Y])], 3, [], 41, 0⟩ : St))] ?_ 0 _ rfl) rfl (zD.of_less (zaj rfl ⟨⟨rfl, rfl⟩, trivial⟩ ⟨⟨rfl, rfl, rfl⟩, trivial⟩ (fun _ _ => .inr (Nat.zero_le _))))
 intro k_ x_ hx_ ih_
 match k_, x_, hx_, ih_ with
 | 0, _, rfl, ih_ =>
  show zca _ _ _ 10 #[false, false, false, false, false, false, false, false, false, false] _
  refine zcC (m1 := 0) aP1 rfl ?_
  refine zh rfl rfl aP0 ?_
  exact zq (zay (ih_ 1 _ aP0 rfl) rfl (zD.of_less (zaj rfl ⟨⟨rfl, rfl⟩, ⟨rfl, rfl⟩, trivial⟩ ⟨⟨rfl, rfl, rfl⟩, trivial⟩ (fun _ _ => .inr (Nat.zero_le _)))))
 | 1, _, rfl, ih_ =>
  show zca _ _ _ 9 #[true, false, false, false, false, false, false, false, false, false] _
  refine zcC (m1 := 1) aP1 rfl ?_
  refine zh rfl rfl aP0 ?_
  exact zq (zay (ih_ 2 _ aP0 rfl) rfl (zD.of_less (zaj rfl ⟨⟨rfl, rfl⟩, ⟨rfl, rfl⟩, ⟨rfl, rfl⟩, trivial⟩ ⟨⟨rfl, rfl, rfl⟩, trivial⟩ (fun _ _ => .inr (Nat.zero_le _)))))
 | 2, _, rfl, ih_ =>
  show zca _ _ _ 8 #[true, true, false, false, false, false, false, false, false, false] _
  refine zcC (m1 := 2) aP1 rfl ?_
  refine zh rfl rfl aP0 ?_
  exact zq (zay (ih_ 3 _ aP0 rfl) rfl (zD.of_less (zaj rfl ⟨⟨rfl, rfl⟩, ⟨rfl, rfl⟩, ⟨rfl, rfl⟩, ⟨rfl, rfl⟩, trivial⟩ ⟨⟨rfl, rfl, rfl⟩, trivial⟩ (fun _ _ => .inr (Nat.zero_le _)))))
 | 3, _, rfl, ih_ =>
  show zca _ _ _ 7 #[true, true, true, false, false, false, false, false, false, false] _
  refine ztt (m1 := 3) (m2 := 5) (m3 := 7) aP1 rfl rfl rfl ?_ ?_ ?_
  ·refine za rfl ?_
   exact zq (zay (ih_ 4 _ aP0 rfl) rfl (zD.of_less (zaj rfl ⟨⟨rfl, rfl⟩, ⟨rfl, rfl⟩, ⟨rfl, rfl⟩, ⟨rfl, rfl⟩, trivial⟩ ⟨⟨rfl, rfl, rfl⟩, trivial⟩ (fun _ _ => .inr (Nat.zero_le _)))))
  ·refine za rfl ?_
   exact zq (zay (ih_ 5 _ aP0 rfl) rfl (zD.of_less (zaj rfl ⟨⟨rfl, rfl⟩, ⟨rfl, rfl⟩, ⟨rfl, rfl⟩, ⟨rfl, rfl⟩, trivial⟩ ⟨⟨rfl, rfl, rfl⟩, trivial⟩ (fun _ _ => .inr (Nat.zero_le _)))))
  ·refine za rfl ?_
   exact zq (zay (ih_ 6 _ aP0 rfl) rfl (zD.of_less (zaj rfl ⟨⟨rfl, rfl⟩, ⟨rfl, rfl⟩, ⟨rfl, rfl⟩, ⟨rfl, rfl⟩, trivial⟩ ⟨⟨rfl, rfl, rfl⟩, trivial⟩ (fun _ _ => .inr (Nat.zero_le _)))))
 | 4, _, rfl, ih_ =>
  show zca _ _ _ 6 #[true, true, true, true, false, false, false, false, false, false] _
  refine ztt (m1 := 4) (m2 := 5) (m3 := 7) aP1 rfl rfl rfl ?_ ?_ ?_
  ·refine zfV (Hin := []) (out' := .ref 2 _ _ _) (H' := [(2, .row _ _ _), (0, .box [_, _, _, _, _, _, _, _, _, _])]) (nx' := 3) [] rfl rfl rfl rfl (.inl rfl) rfl rfl rfl rfl (zg6 c.Abilities false aP4 (by first | assumption | exact hF.eff)) rfl aP0 rfl rfl rfl rfl rfl ?_
   have p501 := zdZ c.Abilities (by first | assumption | exact hF.eff)
   exact zq (zay (ih_ 7 _ aP0 rfl) rfl (zD.of_less (zaj rfl ⟨⟨rfl, rfl⟩, ⟨rfl, rfl⟩, ⟨rfl, rfl⟩, ⟨rfl, rfl⟩, trivial⟩ ⟨⟨rfl, rfl, rfl⟩, ⟨rfl, rfl, rfl⟩, trivial⟩ (fun _ _ => .inr (Nat.zero_le _)))))
  ·refine za rfl ?_
   exact zq (zay (ih_ 8 _ aP0 rfl) rfl (zD.of_less (zaj rfl ⟨⟨rfl, rfl⟩, ⟨rfl, rfl⟩, ⟨rfl, rfl⟩, ⟨rfl, rfl⟩, trivial⟩ ⟨⟨rfl, rfl, rfl⟩, trivial⟩ (fun _ _ => .inr (Nat.zero_le _)))))
  ·refine za rfl ?_
   exact zq (zay (ih_ 9 _ aP0 rfl) rfl (zD.of_less (zaj rfl ⟨⟨rfl, rfl⟩, ⟨rfl, rfl⟩, ⟨rfl, rfl⟩, ⟨rfl, rfl⟩, trivial⟩ ⟨⟨rfl, rfl, rfl⟩, trivial⟩ (fun _ _ => .inr (Nat.zero_le _)))))
 | 5, _, rfl, ih_ =>
  show zca _ _ _ 6 #[true, true, true, false, false, true, false, false, false, false] _
  refine zh8 (m1 := 3) (m2 := 7) aP1 rfl rfl ?_ ?_
  ·refine za rfl ?_
   exact zq (zay (ih_ 8 _ aP0 rfl) rfl (zD.of_less (zaj rfl ⟨⟨rfl, rfl⟩, ⟨rfl, rfl⟩, ⟨rfl, rfl⟩, ⟨rfl, rfl⟩, trivial⟩ ⟨⟨rfl, rfl, rfl⟩, trivial⟩ (fun _ _ => .inr (Nat.zero_le _)))))
  ·refine za rfl ?_
   exact zq (zay (ih_ 10 _ aP0 rfl) rfl (zD.of_less (zaj rfl ⟨⟨rfl, rfl⟩, ⟨rfl, rfl⟩, ⟨rfl, rfl⟩, ⟨rfl, rfl⟩, trivial⟩ ⟨⟨rfl, rfl, rfl⟩, trivial⟩ (fun _ _ => .inr (Nat.zero_le _)))))
 | 6, _, rfl, ih_ =>
  show zca _ _ _ 6 #[true, true, true, false, false, false, false, true, false, false] _
  refine zh8 (m1 := 3) (m2 := 5) aP1 rfl rfl ?_ ?_
  ·refine za rfl ?_
   exact zq (zay (ih_ 9 _ aP0 rfl) rfl (zD.of_less (zaj rfl ⟨⟨rfl, rfl⟩, ⟨rfl, rfl⟩, ⟨rfl, rfl⟩, ⟨rfl, rfl⟩, trivial⟩ ⟨⟨rfl, rfl, rfl⟩, trivial⟩ (fun _ _ => .inr (Nat.zero_le _)))))
  ·refine za rfl ?_
   exact zq (zay (ih_ 10 _ aP0 rfl) rfl (zD.of_less (zaj rfl ⟨⟨rfl, rfl⟩, ⟨rfl, rfl⟩, ⟨rfl, rfl⟩, ⟨rfl, rfl⟩, trivial⟩ ⟨⟨rfl, rfl, rfl⟩, trivial⟩ (fun _ _ => .inr (Nat.zero_le _)))))
 | 7, _, rfl, ih_ =>
  show zca _ _ _ 5 #[true, true, true, true, true, false, false, false, false, false] _
  refine zh8 (m1 := 5) (m2 := 7) aP1 rfl rfl ?_ ?_
  ·refine za rfl ?_
   exact zq (zay (ih_ 11 _ aP0 rfl) rfl (zD.of_less (zaj rfl ⟨⟨rfl, rfl⟩, ⟨rfl, rfl⟩, ⟨rfl, rfl⟩, ⟨rfl, rfl⟩, trivial⟩ ⟨⟨rfl, rfl, rfl⟩, ⟨rfl, rfl, rfl⟩, trivial⟩ (fun _ _ => .inr (Nat.zero_le _)))))
  ·refine za rfl ?_
   exact zq (zay (ih_ 12 _ aP0 rfl) rfl (zD.of_less (zaj rfl ⟨⟨rfl, rfl⟩, ⟨rfl, rfl⟩, ⟨rfl, rfl⟩, ⟨rfl, rfl⟩, trivial⟩ ⟨⟨rfl, rfl, rfl⟩, ⟨rfl, rfl, rfl⟩, trivial⟩ (fun _ _ => .inr (Nat.zero_le _)))))
 | 8, _, rfl, ih_ =>
  show zca _ _ _ 5 #[true, true, true, true, false, true, false, false, false, false] _
  refine zh8 (m1 := 4) (m2 := 7) aP1 rfl rfl ?_ ?_
  ·refine zfV (Hin := []) (out' := .ref 2 _ _ _) (H' := [(2, .row _ _ _), (0, .box [_, _, _, _, _, _, _, _, _, _])]) (nx' := 3) [] rfl rfl rfl rfl (.inl rfl) rfl rfl rfl rfl (zg6 c.Abilities false aP4 (by first | assumption | exact hF.eff)) rfl aP0 rfl rfl rfl rfl rfl ?_
   have p502 := zdZ c.Abilities (by first | assumption | exact hF.eff)
   exact zq (zay (ih_ 11 _ aP0 rfl) rfl (zD.of_less (zaj rfl ⟨⟨rfl, rfl⟩, ⟨rfl, rfl⟩, ⟨rfl, rfl⟩, ⟨rfl, rfl⟩, trivial⟩ ⟨⟨rfl, rfl, rfl⟩, ⟨rfl, rfl, rfl⟩, trivial⟩ (fun _ _ => .inr (Nat.zero_le _)))))
  ·refine za rfl ?_
   exact zq (zay (ih_ 13 _ aP0 rfl) rfl (zD.of_less (zaj rfl ⟨⟨rfl, rfl⟩, ⟨rfl, rfl⟩, ⟨rfl, rfl⟩, ⟨rfl, rfl⟩, trivial⟩ ⟨⟨rfl, rfl, rfl⟩, trivial⟩ (fun _ _ => .inr (Nat.zero_le _)))))
 | 9, _, rfl, ih_ =>
  show zca _ _ _ 5 #[true, true, true, true, false, false, false, true, false, false] _
  refine zh8 (m1 := 4) (m2 := 5) aP1 rfl rfl ?_ ?_
  ·refine zfV (Hin := []) (out' := .ref 2 _ _ _) (H' := [(2, .row _ _ _), (0, .box [_, _, _, _, _, _, _, _, _, _])]) (nx' := 3) [] rfl rfl rfl rfl (.inl rfl) rfl rfl rfl rfl (zg6 c.Abilities false aP4 (by first | assumption | exact hF.eff)) rfl aP0 rfl rfl rfl rfl rfl ?_
   have p503 := zdZ c.Abilities (by first | assumption | exact hF.eff)
   exact zq (zay (ih_ 12 _ aP0 rfl) rfl (zD.of_less (zaj rfl ⟨⟨rfl, rfl⟩, ⟨rfl, rfl⟩, ⟨rfl, rfl⟩, ⟨rfl, rfl⟩, trivial⟩ ⟨⟨rfl, rfl, rfl⟩, ⟨rfl, rfl, rfl⟩, trivial⟩ (fun _ _ => .inr (Nat.zero_le _)))))
  ·refine za rfl ?_
   exact zq (zay (ih_ 13 _ aP0 rfl) rfl (zD.of_less (zaj rfl ⟨⟨rfl, rfl⟩, ⟨rfl, rfl⟩, ⟨rfl, rfl⟩, ⟨rfl, rfl⟩, trivial⟩ ⟨⟨rfl, rfl, rfl⟩, trivial⟩ (fun _ _ => .inr (Nat.zero_le _)))))
 | 10, _, rfl, ih_ =>
  show zca _ _ _ 5 #[true, true, true, false, false, true, false, true, false, false] _
  refine zcC (m1 := 3) aP1 rfl ?_
  refine za rfl ?_
  exact zq (zay (ih_ 13 _ aP0 rfl) rfl (zD.of_less (zaj rfl ⟨⟨rfl, rfl⟩, ⟨rfl, rfl⟩, ⟨rfl, rfl⟩, ⟨rfl, rfl⟩, trivial⟩ ⟨⟨rfl, rfl, rfl⟩, trivial⟩ (fun _ _ => .inr (Nat.zero_le _)))))
 | 11, _, rfl, ih_ =>
  show zca _ _ _ 4 #[true, true, true, true, true, true, false, false, false, false] _
  refine zh8 (m1 := 6) (m2 := 7) aP1 rfl rfl ?_ ?_
  ·refine zar (Hin := [.row _ _ _]) (out' := .ref 2 _ _ _) (H' := [(2, .row _ _ _), (0, .box [_, _, _, _, _, _, _, _, _, _])]) (nx' := 3) [2] rfl rfl rfl rfl (.inl rfl) rfl rfl rfl rfl (znJ (zae c.Abilities) c.Auras false aP4) rfl aP0 rfl rfl (.keep rfl (.keep rfl .nil)) (.keep rfl (.lose (v' := .undef) rfl (.keep rfl (.keep rfl .nil)))) rfl rfl rfl rfl ?_
   have p504 := zgO (zae c.Abilities) c.Auras
   exact zq (zay (ih_ 14 _ aP0 rfl) rfl (zD.of_less (zaj rfl ⟨⟨rfl, rfl⟩, ⟨rfl, rfl⟩, ⟨rfl, rfl⟩, trivial⟩ ⟨⟨rfl, rfl, rfl⟩, ⟨rfl, rfl, rfl⟩, trivial⟩ (fun _ _ => .inr (Nat.zero_le _)))))
  ·refine za rfl ?_
   exact zq (zay (ih_ 15 _ aP0 rfl) rfl (zD.of_less (zaj rfl ⟨⟨rfl, rfl⟩, ⟨rfl, rfl⟩, ⟨rfl, rfl⟩, ⟨rfl, rfl⟩, trivial⟩ ⟨⟨rfl, rfl, rfl⟩, ⟨rfl, rfl, rfl⟩, trivial⟩ (fun _ _ => .inr (Nat.zero_le _)))))
 | 12, _, rfl, ih_ =>
  show zca _ _ _ 4 #[true, true, true, true, true, false, false, true, false, false] _
  refine zcC (m1 := 5) aP1 rfl ?_
  refine za rfl ?_
  exact zq (zay (ih_ 15 _ aP0 rfl) rfl (zD.of_less (zaj rfl ⟨⟨rfl, rfl⟩, ⟨rfl, rfl⟩, ⟨rfl, rfl⟩, ⟨rfl, rfl⟩, trivial⟩ ⟨⟨rfl, rfl, rfl⟩, ⟨rfl, rfl, rfl⟩, trivial⟩ (fun _ _ => .inr (Nat.zero_le _)))))
 | 13, _, rfl, ih_ =>
  show zca _ _ _ 4 #[true, true, true, true, false, true, false, true, false, false] _
  refine zcC (m1 := 4) aP1 rfl ?_
  refine zfV (Hin := []) (out' := .ref 2 _ _ _) (H' := [(2, .row _ _ _), (0, .box [_, _, _, _, _, _, _, _, _, _])]) (nx' := 3) [] rfl rfl rfl rfl (.inl rfl) rfl rfl rfl rfl (zg6 c.Abilities false aP4 (by first | assumption | exact hF.eff)) rfl aP0 rfl rfl rfl rfl rfl ?_
  have p505 := zdZ c.Abilities (by first | assumption | exact hF.eff)
  exact zq (zay (ih_ 15 _ aP0 rfl) rfl (zD.of_less (zaj rfl ⟨⟨rfl, rfl⟩, ⟨rfl, rfl⟩, ⟨rfl, rfl⟩, ⟨rfl, rfl⟩, trivial⟩ ⟨⟨rfl, rfl, rfl⟩, ⟨rfl, rfl, rfl⟩, trivial⟩ (fun _ _ => .inr (Nat.zero_le _)))))
 | 14, _, rfl, ih_ =>
  show zca _ _ _ 3 #[true, true, true, true, true, true, true, false, false, false] _
  refine zcC (m1 := 7) aP1 rfl ?_
  refine za rfl ?_
  exact zq (zay (ih_ 16 _ aP0 rfl) rfl (zD.of_less (zaj rfl ⟨⟨rfl, rfl⟩, ⟨rfl, rfl⟩, ⟨rfl, rfl⟩, trivial⟩ ⟨⟨rfl, rfl, rfl⟩, ⟨rfl, rfl, rfl⟩, trivial⟩ (fun _ _ => .inr (Nat.zero_le _)))))
 | 15, _, rfl, ih_ =>
  show zca _ _ _ 3 #[true, true, true, true, true, true, false, true, false, false] _
  refine zcC (m1 := 6) aP1 rfl ?_
  refine zar (Hin := [.row _ _ _]) (out' := .ref 2 _ _ _) (H' := [(2, .row _ _ _), (0, .box [_, _, _, _, _, _, _, _, _, _])]) (nx' := 3) [2] rfl rfl rfl rfl (.inl rfl) rfl rfl rfl rfl (znJ (zae c.Abilities) c.Auras false aP4) rfl aP0 rfl rfl (.keep rfl (.keep rfl .nil)) (.keep rfl (.lose (v' := .undef) rfl (.keep rfl (.keep rfl .nil)))) rfl rfl rfl rfl ?_
  have p506 := zgO (zae c.Abilities) c.Auras
  exact zq (zay (ih_ 16 _ aP0 rfl) rfl (zD.of_less (zaj rfl ⟨⟨rfl, rfl⟩, ⟨rfl, rfl⟩, ⟨rfl, rfl⟩, trivial⟩ ⟨⟨rfl, rfl, rfl⟩, ⟨rfl, rfl, rfl⟩, trivial⟩ (fun _ _ => .inr (Nat.zero_le _)))))
 | 16, _, rfl, ih_ =>
  show zca _ _ _ 2 #[true, true, true, true, true, true, true, true, false, false] _
  refine zcC (m1 := 8) aP1 rfl ?_
  refine zar (Hin := [.row _ _ _]) (out' := .ref 2 _ _ _) (H' := [(2, .row _ _ _), (0, .box [_, _, _, _, _, _, _, _, _, _])]) (nx' := 3) [2] rfl rfl rfl rfl (.inl rfl) rfl rfl rfl rfl (zr7 (zbt (zae c.Abilities) c.Auras) c.Foes false aP4 (by first | assumption | exact hF.sc)) rfl aP0 rfl rfl (.keep rfl (.keep rfl .nil)) (.keep rfl (.lose (v' := .undef) rfl (.keep rfl .nil))) rfl rfl rfl rfl ?_
  have p507 := ziJ (zbt (zae c.Abilities) c.Auras) c.Foes (by first | assumption | exact hF.sc)
  exact zq (zay (ih_ 17 _ aP0 rfl) rfl (zD.of_less (zaj rfl ⟨⟨rfl, rfl⟩, ⟨rfl, rfl⟩, trivial⟩ ⟨⟨rfl, rfl, rfl⟩, ⟨rfl, rfl, rfl⟩, trivial⟩ (fun _ _ => .inr (Nat.zero_le _)))))
 | 17, _, rfl, ih_ =>
  show zca _ _ _ 1 #[true, true, true, true, true, true, true, true, true, false] _
  refine zcC (m1 := 9) aP1 rfl ?_
  refine za rfl ?_
  exact zq (zay (ih_ 18 _ aP0 rfl) rfl (zD.of_less (zaj rfl ⟨⟨rfl, rfl⟩, ⟨rfl, rfl⟩, trivial⟩ ⟨⟨rfl, rfl, rfl⟩, ⟨rfl, rfl, rfl⟩, trivial⟩ (fun _ _ => .inr (Nat.zero_le _)))))
 | 18, _, rfl, ih_ =>
  show zca _ _ _ 0 #[true, true, true, true, true, true, true, true, true, true] _
  refine zfA aP1 ?_
  refine zu (zm ?_)
  refine zgP rfl (zfv [0, 1, 2, 3, 4, 5, 6, 7, 9, 10, 8, 11, 12, 13] aP1 (ze0 [(10, 9), (10, 8)] aP1 (zjW 11 10 aP1 ?_ ?_)))
  ·refine zjA aP1 rfl ?_
   refine za rfl (zh rfl rfl aP0 (zh rfl rfl aP0 (za rfl (zh rfl rfl aP0 (zh rfl rfl aP0 (za rfl (zz (o := .row _ _ [_, _]) (nx' := 4) rfl rfl rfl aP0 (zh rfl rfl aP0 (zh rfl rfl aP0 ?_)))))))))
   refine zL (m := 2) (new := [_, _]) (cs' := encI ((zb2 (zbt (zae c.Abilities) c.Auras) c.Foes) ++ [c.Map.W, c.Map.H])) (n' := ((zb2 (zbt (zae c.Abilities) c.Auras) c.Foes) ++ [c.Map.W, c.Map.H]).length) (H' := [(3, .row _ _ _), (2, .row _ _ _), (0, .box [_, _, _, _, _, _, _, _, _, _])]) rfl rfl rfl (rfl) rfl rfl rfl rfl rfl rfl (zab (zb2 (zbt (zae c.Abilities) c.Auras) c.Foes)) (rfl) aP3 (zaH (zb2 (zbt (zae c.Abilities) c.Auras) c.Foes) ([c.Map.W, c.Map.H])) (zax (zb2 (zbt (zae c.Abilities) c.Auras) c.Foes) ([c.Map.W, c.Map.H])) (.inr aP1) rfl rfl (.keep rfl (.keep rfl (.keep rfl .nil))) (.keep rfl (.keep rfl (.keep rfl (.keep rfl (.keep rfl (.keep rfl (.keep rfl (.keep rfl (.keep rfl (.lose (v' := .undef) rfl (.keep rfl (.lose (v' := .undef) rfl .nil)))))))))))) ?_
   refine za rfl ?_
   refine zar (Hin := [.row _ _ _]) (out' := .ref 2 _ _ _) (H' := [(3, .row _ _ _), (2, .row _ _ _), (0, .box [_, _, _, _, _, _, _, _, _, _])]) (nx' := 4) [2] rfl rfl rfl rfl (.inr aP1) rfl rfl rfl rfl (zog ((zb2 (zbt (zae c.Abilities) c.Auras) c.Foes) ++ [c.Map.W, c.Map.H]) c.Map.Wall false aP4) rfl aP0 rfl rfl (.keep rfl (.keep rfl (.keep rfl .nil))) (.keep rfl (.lose (v' := .undef) rfl (.keep rfl (.keep rfl (.keep rfl (.keep rfl (.keep rfl (.keep rfl (.keep rfl (.keep rfl (.keep rfl (.keep rfl (.keep rfl (.keep rfl .nil)))))))))))))) rfl rfl rfl rfl ?_
   have p508 := zju ((zb2 (zbt (zae c.Abilities) c.Auras) c.Foes) ++ [c.Map.W, c.Map.H]) c.Map.Wall
   refine za rfl (zd (zg rfl (za rfl (zh rfl rfl aP0 (zh rfl rfl aP0 (za rfl (zh rfl rfl aP0 (zh rfl rfl aP0 (za rfl (zh rfl rfl aP0 (zh rfl rfl aP0 (za rfl (zh rfl rfl aP0 (zh rfl rfl aP0 (za rfl ?_)))))))))))))))
   refine zz (o := .row _ _ [_, _, _, _]) (nx' := 5) rfl rfl rfl aP0 ?_
   refine zL (m := 4) (new := [_, _, _, _]) (cs' := encI ((zel ((zb2 (zbt (zae c.Abilities) c.Auras) c.Foes) ++ [c.Map.W, c.Map.H]) c.Map.Wall) ++ [c.Door.X, c.Door.Y, c.Lair.X, c.Lair.Y])) (n' := ((zel ((zb2 (zbt (zae c.Abilities) c.Auras) c.Foes) ++ [c.Map.W, c.Map.H]) c.Map.Wall) ++ [c.Door.X, c.Door.Y, c.Lair.X, c.Lair.Y]).length) (H' := [(4, .row _ _ _), (3, .row _ _ _), (2, .row _ _ _), (0, .box [_, _, _, _, _, _, _, _, _, _])]) rfl rfl rfl (rfl) rfl rfl rfl rfl rfl rfl (zab (zel ((zb2 (zbt (zae c.Abilities) c.Auras) c.Foes) ++ [c.Map.W, c.Map.H]) c.Map.Wall)) (rfl) aP3 (zaH (zel ((zb2 (zbt (zae c.Abilities) c.Auras) c.Foes) ++ [c.Map.W, c.Map.H]) c.Map.Wall) ([c.Door.X, c.Door.Y, c.Lair.X, c.Lair.Y])) (zax (zel ((zb2 (zbt (zae c.Abilities) c.Auras) c.Foes) ++ [c.Map.W, c.Map.H]) c.Map.Wall) ([c.Door.X, c.Door.Y, c.Lair.X, c.Lair.Y])) (.inl rfl) rfl rfl (.keep rfl (.keep rfl (.keep rfl (.keep rfl .nil)))) (.keep rfl (.keep rfl (.keep rfl (.keep rfl (.keep rfl (.keep rfl (.keep rfl (.keep rfl (.keep rfl (.keep rfl (.keep rfl (.keep rfl (.keep rfl (.lose (v' := .undef) rfl (.lose (v' := .undef) rfl (.lose (v' := .undef) rfl (.keep rfl (.keep rfl (.keep rfl (.keep rfl (.keep rfl (.keep rfl (.keep rfl (.keep rfl (.keep rfl (.keep rfl (.keep rfl (.keep rfl (.keep rfl (.keep rfl .nil)))))))))))))))))))))))))))))) ?_
   refine za rfl (zd (zl ?_))
   have e509 : flat c = ((zel ((zb2 (zbt (zae c.Abilities) c.Auras) c.Foes) ++ [c.Map.W, c.Map.H]) c.Map.Wall) ++ [c.Door.X, c.Door.Y, c.Lair.X, c.Lair.Y]) := by
    unfold flat
    try dsimp only
    all_goals rfl
   rw [e509]
   exact zaa [] [2] rfl ⟨trivial, trivial⟩ rfl aP7 (rfl) rfl rfl rfl aP0 rfl rfl ⟨⟨rfl, rfl⟩, trivial⟩
  ·refine zfv [0, 1, 2, 3, 4, 5, 6, 7, 8, 9, 11, 10, 12, 13] aP1 (zjA aP1 rfl ?_)
   refine za rfl (zh rfl rfl aP0 (zh rfl rfl aP0 (za rfl (zh rfl rfl aP0 (zh rfl rfl aP0 (za rfl (zz (o := .row _ _ [_, _]) (nx' := 4) rfl rfl rfl aP0 (zh rfl rfl aP0 (zh rfl rfl aP0 (za rfl ?_))))))))))
   refine zL (m := 2) (new := [_, _]) (cs' := encI ((zb2 (zbt (zae c.Abilities) c.Auras) c.Foes) ++ [c.Map.W, c.Map.H])) (n' := ((zb2 (zbt (zae c.Abilities) c.Auras) c.Foes) ++ [c.Map.W, c.Map.H]).length) (H' := [(3, .row _ _ _), (2, .row _ _ _), (0, .box [_, _, _, _, _, _, _, _, _, _])]) rfl rfl rfl (rfl) rfl rfl rfl rfl rfl rfl (zab (zb2 (zbt (zae c.Abilities) c.Auras) c.Foes)) (rfl) aP3 (zaH (zb2 (zbt (zae c.Abilities) c.Auras) c.Foes) ([c.Map.W, c.Map.H])) (zax (zb2 (zbt (zae c.Abilities) c.Auras) c.Foes) ([c.Map.W, c.Map.H])) (.inr aP1) rfl rfl (.keep rfl (.keep rfl (.keep rfl .nil))) (.keep rfl (.keep rfl (.keep rfl (.keep rfl (.keep rfl (.keep rfl (.keep rfl (.keep rfl (.keep rfl (.keep rfl (.lose (v' := .undef) rfl (.keep rfl (.lose (v' := .undef) rfl .nil))))))))))))) ?_
   refine zar (Hin := [.row _ _ _]) (out' := .ref 2 _ _ _) (H' := [(3, .row _ _ _), (2, .row _ _ _), (0, .box [_, _, _, _, _, _, _, _, _, _])]) (nx' := 4) [2] rfl rfl rfl rfl (.inr aP1) rfl rfl rfl rfl (zog ((zb2 (zbt (zae c.Abilities) c.Auras) c.Foes) ++ [c.Map.W, c.Map.H]) c.Map.Wall false aP4) rfl aP0 rfl rfl (.keep rfl (.keep rfl (.keep rfl .nil))) (.lose (v' := .undef) rfl (.keep rfl (.keep rfl (.keep rfl (.keep rfl (.keep rfl (.keep rfl (.keep rfl (.keep rfl (.keep rfl (.keep rfl (.keep rfl (.keep rfl (.keep rfl .nil)))))))))))))) rfl rfl rfl rfl ?_
   have p510 := zju ((zb2 (zbt (zae c.Abilities) c.Auras) c.Foes) ++ [c.Map.W, c.Map.H]) c.Map.Wall
   refine za rfl (zd (zg rfl (za rfl (zh rfl rfl aP0 (zh rfl rfl aP0 (za rfl (zh rfl rfl aP0 (zh rfl rfl aP0 (za rfl (zh rfl rfl aP0 (zh rfl rfl aP0 (za rfl (zh rfl rfl aP0 (zh rfl rfl aP0 (za rfl ?_)))))))))))))))
   refine zz (o := .row _ _ [_, _, _, _]) (nx' := 5) rfl rfl rfl aP0 ?_
   refine zL (m := 4) (new := [_, _, _, _]) (cs' := encI ((zel ((zb2 (zbt (zae c.Abilities) c.Auras) c.Foes) ++ [c.Map.W, c.Map.H]) c.Map.Wall) ++ [c.Door.X, c.Door.Y, c.Lair.X, c.Lair.Y])) (n' := ((zel ((zb2 (zbt (zae c.Abilities) c.Auras) c.Foes) ++ [c.Map.W, c.Map.H]) c.Map.Wall) ++ [c.Door.X, c.Door.Y, c.Lair.X, c.Lair.Y]).length) (H' := [(4, .row _ _ _), (3, .row _ _ _), (2, .row _ _ _), (0, .box [_, _, _, _, _, _, _, _, _, _])]) rfl rfl rfl (rfl) rfl rfl rfl rfl rfl rfl (zab (zel ((zb2 (zbt (zae c.Abilities) c.Auras) c.Foes) ++ [c.Map.W, c.Map.H]) c.Map.Wall)) (rfl) aP3 (zaH (zel ((zb2 (zbt (zae c.Abilities) c.Auras) c.Foes) ++ [c.Map.W, c.Map.H]) c.Map.Wall) ([c.Door.X, c.Door.Y, c.Lair.X, c.Lair.Y])) (zax (zel ((zb2 (zbt (zae c.Abilities) c.Auras) c.Foes) ++ [c.Map.W, c.Map.H]) c.Map.Wall) ([c.Door.X, c.Door.Y, c.Lair.X, c.Lair.Y])) (.inl rfl) rfl rfl (.keep rfl (.keep rfl (.keep rfl (.keep rfl .nil)))) (.keep rfl (.keep rfl (.keep rfl (.keep rfl (.keep rfl (.keep rfl (.keep rfl (.keep rfl (.keep rfl (.keep rfl (.keep rfl (.keep rfl (.keep rfl (.lose (v' := .undef) rfl (.lose (v' := .undef) rfl (.lose (v' := .undef) rfl (.keep rfl (.keep rfl (.keep rfl (.keep rfl (.keep rfl (.keep rfl (.keep rfl (.keep rfl (.keep rfl (.keep rfl (.keep rfl (.keep rfl (.keep rfl (.keep rfl .nil)))))))))))))))))))))))))))))) ?_
   refine za rfl (zd (zl ?_))
   have e511 : flat c = ((zel ((zb2 (zbt (zae c.Abilities) c.Auras) c.Foes) ++ [c.Map.W, c.Map.H]) c.Map.Wall) ++ [c.Door.X, c.Door.Y, c.Lair.X, c.Lair.Y]) := by
    unfold flat
    try dsimp only
    all_goals rfl
   rw [e511]
   exact zaa [] [2] rfl ⟨trivial, trivial⟩ rfl aP7 (rfl) rfl rfl rfl aP0 rfl rfl ⟨⟨rfl, rfl⟩, trivial⟩
 | k_ + 19, _, hx_, _ => cases hx_
end Go.Proofs.YtppnccjeggnllaaGreat

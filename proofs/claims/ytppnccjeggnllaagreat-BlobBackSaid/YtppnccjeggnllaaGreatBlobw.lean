import Derived.Test.YtppnccjeggnllaaGreatFew
namespace Go.Proofs.YtppnccjeggnllaaGreat
open Go Go.RowKit Go.Proofs.YtppnccjeggnllaaGreatVm
attribute [local irreducible] zY zaM OpsS
set_option maxHeartbeats 400000
set_option maxRecDepth 100000
set_option linter.all false
def zcD (is : Bool) : Int :=
  if is = true then 1 else 0
theorem ziI (is : Bool) : Ok Tryz.prog 63 [B is] [] (I (zcD is)) [] [] := by
 refine zz Tryz.func63 rfl ?_
 show zO Tryz.prog _ _ ⟨[(0, B is)], [], 0, [], 4, 0⟩
 refine zd (zb rfl (za rfl rfl trivial (zc (ze (zd (zd (zb rfl (za rfl rfl trivial (zc (ze ?_))))))))))
 refine zy rfl (fun h2 => ?_) (fun h2 => ?_)
 ·have g2 : is = true := h2
  refine zd (zb rfl (za rfl rfl trivial (zc (ze (zo (zI ?_))))))
  have e3 : zcD is = 1 := by
   unfold zcD
   try dsimp only
   rewrite [if_pos g2]
   all_goals rfl
  rw [e3]
  exact zp rfl ⟨trivial, trivial⟩ (rfl) rfl
 ·have g2 : ¬ (is = true) := zaw h2
  refine zA (ze (zd (zb rfl (za rfl rfl trivial (zc (ze (zo ?_)))))))
  have e4 : zcD is = 0 := by
   unfold zcD
   try dsimp only
   rewrite [if_neg g2]
   all_goals rfl
  rw [e4]
  exact zp rfl ⟨trivial, trivial⟩ (rfl) rfl

def effW (out : List Int) (e : zan) : List Int :=
  (out ++ [e.Kind, e.Amount, e.Aura])
theorem zq2 (out : List Int) (e : zan) (hb : out.length ≤ 16000000) : Ok Tryz.prog 65 [.ref 0 1 0 out.length, zdo e] [.row 3 1 (encI out)] (.ref 0 1 0 (effW out e).length) [.row 3 1 (encI (effW out e))] [0] := by
 refine zz Tryz.func65 rfl ?_
 show zO Tryz.prog _ _ ⟨[(0, .ref 0 1 0 out.length), (1, zdo e)], [(0, .row 3 1 (encI out))], 1, [], 14, 1⟩
 refine zd (zb rfl (zB (o := .box [_, _, _]) (nx' := 2) rfl rfl rfl trivial (zB (nx' := 3) rfl rfl rfl trivial (zc (ze (zd (zb rfl (za rfl rfl trivial (za rfl rfl (by decide) (za rfl rfl trivial (za rfl rfl (by decide) ?_)))))))))))
 refine za rfl rfl trivial (za rfl rfl (by decide) (za rfl rfl trivial (zB (o := .row _ _ [_, _, _]) (nx' := 4) rfl rfl rfl (by decide) ?_)))
 refine z3 (m := 3) (new := [_, _, _]) (cs' := encI (out ++ [e.Kind, e.Amount, e.Aura])) (n' := (out ++ [e.Kind, e.Amount, e.Aura]).length) (H' := [(3, .row _ _ _), (2, .row _ _ _), (1, .box [_, _, _]), (0, .row _ _ _)]) rfl rfl rfl (rfl) rfl rfl rfl rfl rfl rfl (zk out) (rfl) (by first | decide | (unfold zM; omega) | (unfold zM; simp; omega) | (unfold zM; simp only [List.length_append, List.length_take, List.length_drop, List.length_cons, List.length_nil, IntKind.wrap_i64] at *; omega)) (zbY out ([e.Kind, e.Amount, e.Aura])) (zbx out ([e.Kind, e.Amount, e.Aura])) (.inl rfl) rfl rfl (.keep rfl (.keep rfl (.keep rfl (.keep rfl .nil)))) (.keep rfl (.keep rfl (.keep rfl (.keep rfl (.keep rfl (.keep rfl (.keep rfl (.lose (v' := .undef) rfl (.keep rfl (.keep rfl (.lose (v' := .undef) rfl (.keep rfl .nil)))))))))))) ?_
 refine za rfl rfl trivial (zc (ze (zo ?_)))
 have e1 : effW out e = (out ++ [e.Kind, e.Amount, e.Aura]) := by
  unfold effW
  try dsimp only
  all_goals rfl
 rw [e1]
 exact zL [] [] rfl ⟨trivial, trivial⟩ rfl (by (repeat' apply And.intro) <;> first | trivial | rfl | exact zi (fun _ => rfl) _ | exact zk _ | assumption) (rfl) rfl rfl rfl (by decide) rfl rfl ⟨⟨rfl, rfl⟩, trivial⟩

theorem zlq (out : List Int) (e : zan) : (effW out e).length = out.length + 3 := by unfold effW; rw [List.length_append]; rfl

def zhU (out : List Int) (l : zbO) : List Int :=
  (out ++ [l.Phase, l.When, l.Arg, l.Do, l.Value])
theorem zp6 (out : List Int) (l : zbO) (hb : out.length ≤ 16000000) : Ok Tryz.prog 68 [.ref 0 1 0 out.length, zfF l] [.row 3 1 (encI out)] (.ref 0 1 0 (zhU out l).length) [.row 3 1 (encI (zhU out l))] [0] := by
 refine zz Tryz.func68 rfl ?_
 show zO Tryz.prog _ _ ⟨[(0, .ref 0 1 0 out.length), (1, zfF l)], [(0, .row 3 1 (encI out))], 1, [], 18, 1⟩
 refine zd (zb rfl (zB (o := .box [_, _, _, _, _]) (nx' := 2) rfl rfl rfl trivial (zB (nx' := 3) rfl rfl rfl trivial (zc (ze (zd (zb rfl (za rfl rfl trivial (za rfl rfl (by decide) (za rfl rfl trivial (za rfl rfl (by decide) ?_)))))))))))
 refine za rfl rfl trivial (za rfl rfl (by decide) (za rfl rfl trivial (za rfl rfl (by decide) (za rfl rfl trivial (za rfl rfl (by decide) (za rfl rfl trivial (zB (o := .row _ _ [_, _, _, _, _]) (nx' := 4) rfl rfl rfl (by decide) ?_)))))))
 refine z3 (m := 5) (new := [_, _, _, _, _]) (cs' := encI (out ++ [l.Phase, l.When, l.Arg, l.Do, l.Value])) (n' := (out ++ [l.Phase, l.When, l.Arg, l.Do, l.Value]).length) (H' := [(3, .row _ _ _), (2, .row _ _ _), (1, .box [_, _, _, _, _]), (0, .row _ _ _)]) rfl rfl rfl (rfl) rfl rfl rfl rfl rfl rfl (zk out) (rfl) (by first | decide | (unfold zM; omega) | (unfold zM; simp; omega) | (unfold zM; simp only [List.length_append, List.length_take, List.length_drop, List.length_cons, List.length_nil, IntKind.wrap_i64] at *; omega)) (zbY out ([l.Phase, l.When, l.Arg, l.Do, l.Value])) (zbx out ([l.Phase, l.When, l.Arg, l.Do, l.Value])) (.inl rfl) rfl rfl (.keep rfl (.keep rfl (.keep rfl (.keep rfl .nil)))) (.keep rfl (.keep rfl (.keep rfl (.keep rfl (.keep rfl (.keep rfl (.keep rfl (.keep rfl (.keep rfl (.keep rfl (.keep rfl (.lose (v' := .undef) rfl (.keep rfl (.keep rfl (.lose (v' := .undef) rfl (.keep rfl .nil)))))))))))))))) ?_
 refine za rfl rfl trivial (zc (ze (zo ?_)))
 have e1 : zhU out l = (out ++ [l.Phase, l.When, l.Arg, l.Do, l.Value]) := by
  unfold zhU
  try dsimp only
  all_goals rfl
 rw [e1]
 exact zL [] [] rfl ⟨trivial, trivial⟩ rfl (by (repeat' apply And.intro) <;> first | trivial | rfl | exact zi (fun _ => rfl) _ | exact zk _ | assumption) (rfl) rfl rfl rfl (by decide) rfl rfl ⟨⟨rfl, rfl⟩, trivial⟩

theorem zjS (out : List Int) (l : zbO) : (zhU out l).length = out.length + 5 := by unfold zhU; rw [List.length_append]; rfl

def ze6 (out : List Int) (p : zaU) : List Int :=
  (out ++ [p.Item, p.Weight])
theorem zmM (out : List Int) (p : zaU) (hb : out.length ≤ 16000000) : Ok Tryz.prog 69 [.ref 0 1 0 out.length, zen p] [.row 3 1 (encI out)] (.ref 0 1 0 (ze6 out p).length) [.row 3 1 (encI (ze6 out p))] [0] := by
 refine zz Tryz.func69 rfl ?_
 show zO Tryz.prog _ _ ⟨[(0, .ref 0 1 0 out.length), (1, zen p)], [(0, .row 3 1 (encI out))], 1, [], 12, 1⟩
 refine zd (zb rfl (zB (o := .box [_, _]) (nx' := 2) rfl rfl rfl trivial (zB (nx' := 3) rfl rfl rfl trivial (zc (ze (zd (zb rfl (za rfl rfl trivial (za rfl rfl (by decide) (za rfl rfl trivial (za rfl rfl (by decide) ?_)))))))))))
 refine za rfl rfl trivial (zB (o := .row _ _ [_, _]) (nx' := 4) rfl rfl rfl (by decide) ?_)
 refine z3 (m := 2) (new := [_, _]) (cs' := encI (out ++ [p.Item, p.Weight])) (n' := (out ++ [p.Item, p.Weight]).length) (H' := [(3, .row _ _ _), (2, .row _ _ _), (1, .box [_, _]), (0, .row _ _ _)]) rfl rfl rfl (rfl) rfl rfl rfl rfl rfl rfl (zk out) (rfl) (by first | decide | (unfold zM; omega) | (unfold zM; simp; omega) | (unfold zM; simp only [List.length_append, List.length_take, List.length_drop, List.length_cons, List.length_nil, IntKind.wrap_i64] at *; omega)) (zbY out ([p.Item, p.Weight])) (zbx out ([p.Item, p.Weight])) (.inl rfl) rfl rfl (.keep rfl (.keep rfl (.keep rfl (.keep rfl .nil)))) (.keep rfl (.keep rfl (.keep rfl (.keep rfl (.keep rfl (.lose (v' := .undef) rfl (.keep rfl (.keep rfl (.lose (v' := .undef) rfl (.keep rfl .nil)))))))))) ?_
 refine za rfl rfl trivial (zc (ze (zo ?_)))
 have e1 : ze6 out p = (out ++ [p.Item, p.Weight]) := by
  unfold ze6
  try dsimp only
  all_goals rfl
 rw [e1]
 exact zL [] [] rfl ⟨trivial, trivial⟩ rfl (by (repeat' apply And.intro) <;> first | trivial | rfl | exact zi (fun _ => rfl) _ | exact zk _ | assumption) (rfl) rfl rfl rfl (by decide) rfl rfl ⟨⟨rfl, rfl⟩, trivial⟩

theorem zio (out : List Int) (p : zaU) : (ze6 out p).length = out.length + 2 := by unfold ze6; rw [List.length_append]; rfl

def zhY (out : List Int) (is : Bool) : List Int :=
  (out ++ [(zcD is)])
theorem zpe (out : List Int) (is : Bool) (hb : out.length ≤ 16000000) : Ok Tryz.prog 31 [.ref 0 1 0 out.length, B is] [.row 3 1 (encI out)] (.ref 0 1 0 (zhY out is).length) [.row 3 1 (encI (zhY out is))] [0] := by
 refine zz Tryz.func31 rfl ?_
 show zO Tryz.prog _ _ ⟨[(0, .ref 0 1 0 out.length), (1, B is)], [(0, .row 3 1 (encI out))], 1, [], 10, 1⟩
 refine zd (zb rfl (zB (nx' := 2) rfl rfl rfl trivial (zc (ze (zd (zb rfl (za rfl rfl trivial (za rfl rfl trivial (zF rfl rfl rfl rfl (ziI is) rfl rfl rfl (zB (o := .row _ _ [_]) (nx' := 3) rfl rfl rfl (by decide) ?_))))))))))
 refine z3 (m := 1) (new := [_]) (cs' := encI (out ++ [(zcD is)])) (n' := (out ++ [(zcD is)]).length) (H' := [(2, .row _ _ _), (1, .row _ _ _), (0, .row _ _ _)]) rfl rfl rfl (rfl) rfl rfl rfl rfl rfl rfl (zk out) (rfl) (by first | decide | (unfold zM; omega) | (unfold zM; simp; omega) | (unfold zM; simp only [List.length_append, List.length_take, List.length_drop, List.length_cons, List.length_nil, IntKind.wrap_i64] at *; omega)) (zbt out _) (((zc6 out (zcD is))).symm) (.inl rfl) rfl rfl (.keep rfl (.keep rfl (.keep rfl .nil))) (.keep rfl (.keep rfl (.keep rfl (.lose (v' := .undef) rfl (.keep rfl (.lose (v' := .undef) rfl (.keep rfl .nil))))))) ?_
 refine za rfl rfl trivial (zc (ze (zo ?_)))
 have e2 : zhY out is = (out ++ [(zcD is)]) := by
  unfold zhY
  try dsimp only
  all_goals rfl
 rw [e2]
 exact zL [] [] rfl ⟨trivial, trivial⟩ rfl (by (repeat' apply And.intro) <;> first | trivial | rfl | exact zi (fun _ => rfl) _ | exact zk _ | assumption) (rfl) rfl rfl rfl (by decide) rfl rfl ⟨⟨rfl, rfl⟩, trivial⟩

theorem zjE (out : List Int) (is : Bool) : (zhY out is).length = out.length + 1 := by unfold zhY; rw [List.length_append]; rfl

def zh3 (out : List Int) (a : zaB) : List Int :=
  (out ++ [a.Id, a.Kind, a.Ticks, a.Every, a.Stacks, a.Amount, (zcD a.Harm)])
theorem zo4 (out : List Int) (a : zaB) (hb : out.length ≤ 16000000) : Ok Tryz.prog 28 [.ref 0 1 0 out.length, zdG a] [.row 3 1 (encI out)] (.ref 0 1 0 (zh3 out a).length) [.row 3 1 (encI (zh3 out a))] [0] := by
 refine zz Tryz.func28 rfl ?_
 show zO Tryz.prog _ _ ⟨[(0, .ref 0 1 0 out.length), (1, zdG a)], [(0, .row 3 1 (encI out))], 1, [], 23, 1⟩
 refine zd (zb rfl (zB (o := .box [_, _, _, _, _, _, _]) (nx' := 2) rfl rfl rfl trivial (zB (nx' := 3) rfl rfl rfl trivial (zc (ze (zd ?_))))))
 refine zaW rfl (by decide +kernel) rfl ?_
 refine za rfl rfl trivial (za rfl rfl (by decide) (za rfl rfl trivial (za rfl rfl (by decide) (za rfl rfl trivial (za rfl rfl (by decide) (za rfl rfl trivial (za rfl rfl (by decide) (za rfl rfl trivial (za rfl rfl (by decide) (za rfl rfl trivial (za rfl rfl (by decide) ?_)))))))))))
 refine za rfl rfl trivial (za rfl rfl (by decide) (za rfl rfl trivial (zF rfl rfl rfl rfl (ziI a.Harm) rfl rfl rfl (zB (o := .row _ _ [_, _, _, _, _, _, _]) (nx' := 4) rfl rfl rfl (by decide) ?_))))
 refine z3 (m := 7) (new := [_, _, _, _, _, _, _]) (cs' := encI (out ++ [a.Id, a.Kind, a.Ticks, a.Every, a.Stacks, a.Amount, (zcD a.Harm)])) (n' := (out ++ [a.Id, a.Kind, a.Ticks, a.Every, a.Stacks, a.Amount, (zcD a.Harm)]).length) (H' := [(3, .row _ _ _), (2, .row _ _ _), (1, .box [_, _, _, _, _, _, _]), (0, .row _ _ _)]) rfl rfl rfl (rfl) rfl rfl rfl rfl rfl rfl (zk out) (rfl) (by first | decide | (unfold zM; omega) | (unfold zM; simp; omega) | (unfold zM; simp only [List.length_append, List.length_take, List.length_drop, List.length_cons, List.length_nil, IntKind.wrap_i64] at *; omega)) (zbY out ([a.Id, a.Kind, a.Ticks, a.Every, a.Stacks, a.Amount, (zcD a.Harm)])) (zbx out ([a.Id, a.Kind, a.Ticks, a.Every, a.Stacks, a.Amount, (zcD a.Harm)])) (.inr (by decide +kernel)) rfl rfl (.keep rfl (.keep rfl (.keep rfl (.keep rfl .nil)))) (.keep rfl (.keep rfl (.keep rfl (.keep rfl (.keep rfl (.keep rfl (.keep rfl (.keep rfl (.keep rfl (.keep rfl (.keep rfl (.keep rfl (.keep rfl (.keep rfl (.keep rfl (.keep rfl (.lose (v' := .undef) rfl (.keep rfl (.keep rfl (.lose (v' := .undef) rfl (.keep rfl .nil))))))))))))))))))))) ?_
 refine za rfl rfl trivial (zc (ze (zo ?_)))
 have e1 : zh3 out a = (out ++ [a.Id, a.Kind, a.Ticks, a.Every, a.Stacks, a.Amount, (zcD a.Harm)]) := by
  unfold zh3
  try dsimp only
  all_goals rfl
 rw [e1]
 exact zL [] [] rfl ⟨trivial, trivial⟩ rfl (by (repeat' apply And.intro) <;> first | trivial | rfl | exact zi (fun _ => rfl) _ | exact zk _ | assumption) (rfl) rfl rfl rfl (by decide) rfl rfl ⟨⟨rfl, rfl⟩, trivial⟩

theorem zjq (out : List Int) (a : zaB) : (zh3 out a).length = out.length + 7 := by unfold zh3; rw [List.length_append]; rfl

def zbu : List zan → Nat → (List Int) → List Int
  | [], k0, out0 => out0
  | x0 :: l_, k0, out0 => zbu l_ (k0 + 1) (effW out0 x0)
def zh0 (out : List Int) (l : List zan) : List Int :=
  (let out_0 := zbu l 0 (out ++ [(l.length : Int)]); out_0)
theorem zo1 (out : List Int) (l : List zan) (l_f : Bool) (hb : out.length + 3 * l.length ≤ 15999000) : Ok Tryz.prog 64 [.ref 0 1 0 out.length, .pv (.slc l.length l_f (l.flatMap zD)), .fnc 65 []] [.row 3 1 (encI out)] (.ref 0 1 0 (zh0 out l).length) [.row 3 1 (encI (zh0 out l))] [0] := by
 refine Ok.len fun hlen => ?_
 have hl_l : l.length ≤ maxLen := hlen _ (by simp [zT, lens, zU])
 unfold maxLen at hl_l
 refine zz Tryz.func64 rfl ?_
 show zO Tryz.prog _ _ ⟨[(0, .ref 0 1 0 out.length), (1, .pv (.slc l.length l_f (l.flatMap zD))), (2, .fnc 65 [])], [(0, .row 3 1 (encI out))], 1, [], 26, 1⟩
 refine zaV (zH.loose (T' := [(0, .ref 0 1 0 out.length), (1, .pv (.slc l.length l_f (l.flatMap zD))), (2, .pv (.fn 65))]) (H' := [(0, .row 3 1 (encI out))]) ⟨⟨_, rfl, .inl rfl⟩, ⟨_, rfl, .inl rfl⟩, ⟨_, rfl, .inr rfl⟩, trivial⟩ ⟨⟨_, rfl, .inl rfl⟩, trivial⟩) ?_
 refine zd (zb rfl (zB (nx' := 2) rfl rfl rfl trivial (zc (ze (zd (zb rfl (za rfl rfl trivial (za rfl rfl trivial (za rfl rfl trivial (zB (o := .row _ _ [_]) (nx' := 3) rfl rfl rfl (by decide) ?_))))))))))
 refine z3 (m := 1) (new := [_]) (cs' := encI (out ++ [(l.length : Int)])) (n' := (out ++ [(l.length : Int)]).length) (H' := [(2, .row _ _ _), (1, .row _ _ _), (0, .row _ _ _)]) rfl rfl rfl (rfl) rfl rfl rfl rfl rfl rfl (zk out) (rfl) (by first | decide | (unfold zM; omega) | (unfold zM; simp; omega) | (unfold zM; simp only [List.length_append, List.length_take, List.length_drop, List.length_cons, List.length_nil, IntKind.wrap_i64] at *; omega)) (zbt out _) (((zc6 out (l.length : Int))).symm) (.inl rfl) rfl rfl (.keep rfl (.keep rfl (.keep rfl .nil))) (.keep rfl (.keep rfl (.keep rfl (.lose (v' := .undef) rfl (.keep rfl (.lose (v' := .undef) rfl (.keep rfl (.keep rfl .nil)))))))) ?_
 refine za rfl rfl trivial (zc (ze (zd (zd (zb rfl (za rfl rfl trivial (za rfl rfl trivial (za rfl rfl trivial (zc (ze ?_))))))))))
 refine z6 (fun out_0 : List Int => (⟨[(0, .ref 0 1 0 out_0.length)], [(0, .row 3 1 (encI out_0))], 1, [0], 26, 1⟩ : St)) (fun out_0 : List Int => zbu l 0 (out ++ [(l.length : Int)]) = out_0 ∧ (out_0.length = out.length + 1 + 3 * l.length)) ?_ ?_
 ·refine zC ?_
  refine z9 (fun w_ : Nat × (List Int) => match w_ with | (k0, out0) => (⟨[(0, .ref 0 1 0 out0.length), (2, .pv (.fn 65)), (14, .pv (.slc l.length l_f (l.flatMap zD))), (15, I l.length), (16, I k0)], [(0, .row 3 1 (encI out0))], 1, [0], 26, 1⟩ : St)) (fun w_ : Nat × (List Int) => match w_ with | (k0, out0) => zbu (l.drop k0) k0 out0 = zbu l 0 (out ++ [(l.length : Int)]) ∧ k0 ≤ l.length ∧ out0.length = out.length + 1 + 3 * k0) (fun w_ : Nat × (List Int) => match w_ with | (k0, out0) => l.length - k0) (0, (out ++ [(l.length : Int)])) (⟨rfl, Nat.zero_le _, by first | omega | simp | (simp; omega)⟩) ?_ (fun w_ hh_ => ?_)
  ·exact (zH.ren [] (by decide +kernel) (by decide +kernel) rfl ⟨⟨rfl, rfl⟩, ⟨rfl, rfl⟩, ⟨rfl, rfl⟩, ⟨rfl, rfl⟩, ⟨rfl, rfl⟩, trivial⟩ ⟨⟨rfl, rfl, rfl⟩, trivial⟩ (by decide))
  obtain ⟨k0, out0⟩ := w_
  obtain ⟨hI0, hb0, hv0⟩ := hh_
  show zO Tryz.prog _ _ (⟨[(0, .ref 0 1 0 out0.length), (2, .pv (.fn 65)), (14, .pv (.slc l.length l_f (l.flatMap zD))), (15, I l.length), (16, I k0)], [(0, .row 3 1 (encI out0))], 1, [0], 26, 1⟩ : St)
  refine zd (zb rfl (zl rfl rfl rfl rfl rfl trivial (zc (ze (zd ?_)))))
  refine zy rfl (fun h2 => ?_) (fun h2 => ?_)
  ·have g2 : (k0 : Int) < l.length := of_decide_eq_true h2
   have hk0 : k0 < l.length := by omega
   obtain ⟨x0, hx0⟩ : ∃ z_, l[k0]? = some z_ := ⟨_, List.getElem?_eq_getElem hk0⟩
   refine zA (ze (zd (zC (zd (zb rfl (zS (k := k0) rfl rfl rfl rfl hk0 (zaj (s := 3) (enc := zD) (fun _ => rfl) (by decide) hk0) rfl (zJ rfl rfl rfl (zap (s := 3) (enc := zD) (fun _ => rfl) hk0) (z2 (s := 3) (enc := zD) (fun _ => rfl) hx0) rfl (zB (o := .box [_, _, _]) (nx' := 2) rfl rfl rfl trivial ?_))))))))
   refine zx (H' := [(1, .box [_, _, _]), (0, _)]) rfl rfl rfl rfl rfl rfl (.inl rfl) rfl ?_
   refine zc (ze (zb rfl (za rfl rfl trivial (za rfl rfl trivial (za (v := (.agg [_, _, _])) rfl rfl (Nat.le_of_ble_eq_true rfl) ?_)))))
   refine zas (Hin := [.row _ _ _]) (out' := .ref 0 _ _ _) (H' := [(1, .box [_, _, _]), (0, .row _ _ _)]) (nx' := 2) [0] rfl rfl rfl rfl (.inl rfl) rfl rfl rfl rfl (zq2 out0 x0 (by first | omega | (simp; done) | (simp only [List.length_append, List.length_cons, List.length_nil] at *; omega) | (simp; omega))) rfl (by decide) rfl rfl (.keep rfl (.keep rfl .nil)) (.keep rfl (.lose (v' := .undef) rfl (.keep rfl (.keep rfl (.keep rfl (.keep rfl (.keep rfl (.lose (v' := .undef) rfl (.keep rfl (.keep rfl (.keep rfl (.keep rfl .nil)))))))))))) rfl rfl rfl rfl ?_
   have p3 := zlq out0 x0
   refine za rfl rfl trivial (zc (zar (ze (zb rfl (zl rfl rfl rfl rfl rfl trivial (za rfl rfl trivial (zc ?_)))))))
   have e5 : zbu (l.drop k0) k0 out0 = zbu (l.drop (k0 + 1)) (k0 + 1) (effW out0 x0) := by
    rewrite [zau hx0]
    rewrite [zbu]
    try dsimp only
    all_goals rfl
   exact z5 (k0 + 1, (effW out0 x0)) ⟨e5.symm.trans hI0, hk0, by first | omega | assumption | (simp only [List.length_append, List.length_cons, List.length_nil, List.length_set]; omega) | (simp; omega) | grind⟩ (by show l.length - (k0 + 1) < l.length - k0; omega) (zH.ren [] (by decide +kernel) (by decide +kernel) rfl ⟨⟨rfl, rfl⟩, ⟨rfl, rfl⟩, ⟨rfl, rfl⟩, ⟨rfl, rfl⟩, ⟨congrArg (fun n => some (I n)) (zcv (k := k0) (by first | omega | (simp; omega))), rfl⟩, trivial⟩ ⟨⟨rfl, rfl, rfl⟩, trivial⟩ (by decide))
  ·have g2 : ¬ ((k0 : Int) < l.length) := of_decide_eq_false h2
   have hk0 : k0 = l.length := by omega
   refine zV (zac (zal (zak rfl ?_)))
   have e6 : zbu l 0 (out ++ [(l.length : Int)]) = out0 := by
    rewrite [← hI0, hk0, List.drop_length]
    rewrite [zbu]
    try dsimp only
    all_goals rfl
   exact zZ out0 ⟨e6, by first | assumption | omega | (simp; omega) | simp_all | grind⟩ (zH.ren [] (by decide +kernel) (by decide +kernel) rfl ⟨⟨rfl, rfl⟩, trivial⟩ ⟨⟨rfl, rfl, rfl⟩, trivial⟩ (by decide))
 ·rintro out_0 ⟨(hJ1 : zbu l 0 (out ++ [(l.length : Int)]) = out_0), hE0⟩
  show seqK _ _ _ .normal (⟨[(0, .ref 0 1 0 out_0.length)], [(0, .row 3 1 (encI out_0))], 1, [0], 26, 1⟩ : St)
  refine ze (zd (zb rfl (za rfl rfl trivial (za rfl rfl trivial (zc (ze (zo ?_)))))))
  have e7 : zh0 out l = out_0 := by
   unfold zh0
   try dsimp only
   rewrite [hJ1]
   try dsimp only
   all_goals rfl
  rw [e7]
  exact zL [] [] rfl ⟨trivial, trivial⟩ rfl (by (repeat' apply And.intro) <;> first | trivial | rfl | exact zi (fun _ => rfl) _ | exact zk _ | assumption) (rfl) rfl rfl rfl (by decide) rfl rfl ⟨⟨rfl, rfl⟩, trivial⟩

def zbw : List zbO → Nat → (List Int) → List Int
  | [], k0, out0 => out0
  | x0 :: l_, k0, out0 => zbw l_ (k0 + 1) (zhU out0 x0)
def zep (out : List Int) (l : List zbO) : List Int :=
  (let out_0 := zbw l 0 (out ++ [(l.length : Int)]); out_0)
theorem zjh (out : List Int) (l : List zbO) (l_f : Bool) (hb : out.length + 5 * l.length ≤ 15999000) : Ok Tryz.prog 67 [.ref 0 1 0 out.length, .pv (.slc l.length l_f (l.flatMap zN)), .fnc 68 []] [.row 3 1 (encI out)] (.ref 0 1 0 (zep out l).length) [.row 3 1 (encI (zep out l))] [0] := by
 refine Ok.len fun hlen => ?_
 have hl_l : l.length ≤ maxLen := hlen _ (by simp [zT, lens, zU])
 unfold maxLen at hl_l
 refine zz Tryz.func67 rfl ?_
 show zO Tryz.prog _ _ ⟨[(0, .ref 0 1 0 out.length), (1, .pv (.slc l.length l_f (l.flatMap zN))), (2, .fnc 68 [])], [(0, .row 3 1 (encI out))], 1, [], 26, 1⟩
 refine zaV (zH.loose (T' := [(0, .ref 0 1 0 out.length), (1, .pv (.slc l.length l_f (l.flatMap zN))), (2, .pv (.fn 68))]) (H' := [(0, .row 3 1 (encI out))]) ⟨⟨_, rfl, .inl rfl⟩, ⟨_, rfl, .inl rfl⟩, ⟨_, rfl, .inr rfl⟩, trivial⟩ ⟨⟨_, rfl, .inl rfl⟩, trivial⟩) ?_
 refine zd (zb rfl (zB (nx' := 2) rfl rfl rfl trivial (zc (ze (zd (zb rfl (za rfl rfl trivial (za rfl rfl trivial (za rfl rfl trivial (zB (o := .row _ _ [_]) (nx' := 3) rfl rfl rfl (by decide) ?_))))))))))
 refine z3 (m := 1) (new := [_]) (cs' := encI (out ++ [(l.length : Int)])) (n' := (out ++ [(l.length : Int)]).length) (H' := [(2, .row _ _ _), (1, .row _ _ _), (0, .row _ _ _)]) rfl rfl rfl (rfl) rfl rfl rfl rfl rfl rfl (zk out) (rfl) (by first | decide | (unfold zM; omega) | (unfold zM; simp; omega) | (unfold zM; simp only [List.length_append, List.length_take, List.length_drop, List.length_cons, List.length_nil, IntKind.wrap_i64] at *; omega)) (zbt out _) (((zc6 out (l.length : Int))).symm) (.inl rfl) rfl rfl (.keep rfl (.keep rfl (.keep rfl .nil))) (.keep rfl (.keep rfl (.keep rfl (.lose (v' := .undef) rfl (.keep rfl (.lose (v' := .undef) rfl (.keep rfl (.keep rfl .nil)))))))) ?_
 refine za rfl rfl trivial (zc (ze (zd (zd (zb rfl (za rfl rfl trivial (za rfl rfl trivial (za rfl rfl trivial (zc (ze ?_))))))))))
 refine z6 (fun out_0 : List Int => (⟨[(0, .ref 0 1 0 out_0.length)], [(0, .row 3 1 (encI out_0))], 1, [0], 26, 1⟩ : St)) (fun out_0 : List Int => zbw l 0 (out ++ [(l.length : Int)]) = out_0 ∧ (out_0.length = out.length + 1 + 5 * l.length)) ?_ ?_
 ·refine zC ?_
  refine z9 (fun w_ : Nat × (List Int) => match w_ with | (k0, out0) => (⟨[(0, .ref 0 1 0 out0.length), (2, .pv (.fn 68)), (14, .pv (.slc l.length l_f (l.flatMap zN))), (15, I l.length), (16, I k0)], [(0, .row 3 1 (encI out0))], 1, [0], 26, 1⟩ : St)) (fun w_ : Nat × (List Int) => match w_ with | (k0, out0) => zbw (l.drop k0) k0 out0 = zbw l 0 (out ++ [(l.length : Int)]) ∧ k0 ≤ l.length ∧ out0.length = out.length + 1 + 5 * k0) (fun w_ : Nat × (List Int) => match w_ with | (k0, out0) => l.length - k0) (0, (out ++ [(l.length : Int)])) (⟨rfl, Nat.zero_le _, by first | omega | simp | (simp; omega)⟩) ?_ (fun w_ hh_ => ?_)
  ·exact (zH.ren [] (by decide +kernel) (by decide +kernel) rfl ⟨⟨rfl, rfl⟩, ⟨rfl, rfl⟩, ⟨rfl, rfl⟩, ⟨rfl, rfl⟩, ⟨rfl, rfl⟩, trivial⟩ ⟨⟨rfl, rfl, rfl⟩, trivial⟩ (by decide))
  obtain ⟨k0, out0⟩ := w_
  obtain ⟨hI0, hb0, hv0⟩ := hh_
  show zO Tryz.prog _ _ (⟨[(0, .ref 0 1 0 out0.length), (2, .pv (.fn 68)), (14, .pv (.slc l.length l_f (l.flatMap zN))), (15, I l.length), (16, I k0)], [(0, .row 3 1 (encI out0))], 1, [0], 26, 1⟩ : St)
  refine zd (zb rfl (zl rfl rfl rfl rfl rfl trivial (zc (ze (zd ?_)))))
  refine zy rfl (fun h2 => ?_) (fun h2 => ?_)
  ·have g2 : (k0 : Int) < l.length := of_decide_eq_true h2
   have hk0 : k0 < l.length := by omega
   obtain ⟨x0, hx0⟩ : ∃ z_, l[k0]? = some z_ := ⟨_, List.getElem?_eq_getElem hk0⟩
   refine zA (ze (zd (zC (zd (zb rfl (zS (k := k0) rfl rfl rfl rfl hk0 (zaj (s := 5) (enc := zN) (fun _ => rfl) (by decide) hk0) rfl (zJ rfl rfl rfl (zap (s := 5) (enc := zN) (fun _ => rfl) hk0) (z2 (s := 5) (enc := zN) (fun _ => rfl) hx0) rfl (zB (o := .box [_, _, _, _, _]) (nx' := 2) rfl rfl rfl trivial ?_))))))))
   refine zx (H' := [(1, .box [_, _, _, _, _]), (0, _)]) rfl rfl rfl rfl rfl rfl (.inl rfl) rfl ?_
   refine zc (ze (zb rfl (za rfl rfl trivial (za rfl rfl trivial (za (v := (.agg [_, _, _, _, _])) rfl rfl (Nat.le_of_ble_eq_true rfl) ?_)))))
   refine zas (Hin := [.row _ _ _]) (out' := .ref 0 _ _ _) (H' := [(1, .box [_, _, _, _, _]), (0, .row _ _ _)]) (nx' := 2) [0] rfl rfl rfl rfl (.inl rfl) rfl rfl rfl rfl (zp6 out0 x0 (by first | omega | (simp; done) | (simp only [List.length_append, List.length_cons, List.length_nil] at *; omega) | (simp; omega))) rfl (by decide) rfl rfl (.keep rfl (.keep rfl .nil)) (.keep rfl (.lose (v' := .undef) rfl (.keep rfl (.keep rfl (.keep rfl (.keep rfl (.keep rfl (.lose (v' := .undef) rfl (.keep rfl (.keep rfl (.keep rfl (.keep rfl .nil)))))))))))) rfl rfl rfl rfl ?_
   have p3 := zjS out0 x0
   refine za rfl rfl trivial (zc (zar (ze (zb rfl (zl rfl rfl rfl rfl rfl trivial (za rfl rfl trivial (zc ?_)))))))
   have e5 : zbw (l.drop k0) k0 out0 = zbw (l.drop (k0 + 1)) (k0 + 1) (zhU out0 x0) := by
    rewrite [zau hx0]
    rewrite [zbw]
    try dsimp only
    all_goals rfl
   exact z5 (k0 + 1, (zhU out0 x0)) ⟨e5.symm.trans hI0, hk0, by first | omega | assumption | (simp only [List.length_append, List.length_cons, List.length_nil, List.length_set]; omega) | (simp; omega) | grind⟩ (by show l.length - (k0 + 1) < l.length - k0; omega) (zH.ren [] (by decide +kernel) (by decide +kernel) rfl ⟨⟨rfl, rfl⟩, ⟨rfl, rfl⟩, ⟨rfl, rfl⟩, ⟨rfl, rfl⟩, ⟨congrArg (fun n => some (I n)) (zcv (k := k0) (by first | omega | (simp; omega))), rfl⟩, trivial⟩ ⟨⟨rfl, rfl, rfl⟩, trivial⟩ (by decide))
  ·have g2 : ¬ ((k0 : Int) < l.length) := of_decide_eq_false h2
   have hk0 : k0 = l.length := by omega
   refine zV (zac (zal (zak rfl ?_)))
   have e6 : zbw l 0 (out ++ [(l.length : Int)]) = out0 := by
    rewrite [← hI0, hk0, List.drop_length]
    rewrite [zbw]
    try dsimp only
    all_goals rfl
   exact zZ out0 ⟨e6, by first | assumption | omega | (simp; omega) | simp_all | grind⟩ (zH.ren [] (by decide +kernel) (by decide +kernel) rfl ⟨⟨rfl, rfl⟩, trivial⟩ ⟨⟨rfl, rfl, rfl⟩, trivial⟩ (by decide))
 ·rintro out_0 ⟨(hJ1 : zbw l 0 (out ++ [(l.length : Int)]) = out_0), hE0⟩
  show seqK _ _ _ .normal (⟨[(0, .ref 0 1 0 out_0.length)], [(0, .row 3 1 (encI out_0))], 1, [0], 26, 1⟩ : St)
  refine ze (zd (zb rfl (za rfl rfl trivial (za rfl rfl trivial (zc (ze (zo ?_)))))))
  have e7 : zep out l = out_0 := by
   unfold zep
   try dsimp only
   rewrite [hJ1]
   try dsimp only
   all_goals rfl
  rw [e7]
  exact zL [] [] rfl ⟨trivial, trivial⟩ rfl (by (repeat' apply And.intro) <;> first | trivial | rfl | exact zi (fun _ => rfl) _ | exact zk _ | assumption) (rfl) rfl rfl rfl (by decide) rfl rfl ⟨⟨rfl, rfl⟩, trivial⟩

def zbo : List zaU → Nat → (List Int) → List Int
  | [], k0, out0 => out0
  | x0 :: l_, k0, out0 => zbo l_ (k0 + 1) (ze6 out0 x0)
def zgX (out : List Int) (l : List zaU) : List Int :=
  (let out_0 := zbo l 0 (out ++ [(l.length : Int)]); out_0)
theorem ziK (out : List Int) (l : List zaU) (l_f : Bool) (hb : out.length + 2 * l.length ≤ 15999000) : Ok Tryz.prog 66 [.ref 0 1 0 out.length, .pv (.slc l.length l_f (l.flatMap zE)), .fnc 69 []] [.row 3 1 (encI out)] (.ref 0 1 0 (zgX out l).length) [.row 3 1 (encI (zgX out l))] [0] := by
 refine Ok.len fun hlen => ?_
 have hl_l : l.length ≤ maxLen := hlen _ (by simp [zT, lens, zU])
 unfold maxLen at hl_l
 refine zz Tryz.func66 rfl ?_
 show zO Tryz.prog _ _ ⟨[(0, .ref 0 1 0 out.length), (1, .pv (.slc l.length l_f (l.flatMap zE))), (2, .fnc 69 [])], [(0, .row 3 1 (encI out))], 1, [], 26, 1⟩
 refine zaV (zH.loose (T' := [(0, .ref 0 1 0 out.length), (1, .pv (.slc l.length l_f (l.flatMap zE))), (2, .pv (.fn 69))]) (H' := [(0, .row 3 1 (encI out))]) ⟨⟨_, rfl, .inl rfl⟩, ⟨_, rfl, .inl rfl⟩, ⟨_, rfl, .inr rfl⟩, trivial⟩ ⟨⟨_, rfl, .inl rfl⟩, trivial⟩) ?_
 refine zd (zb rfl (zB (nx' := 2) rfl rfl rfl trivial (zc (ze (zd (zb rfl (za rfl rfl trivial (za rfl rfl trivial (za rfl rfl trivial (zB (o := .row _ _ [_]) (nx' := 3) rfl rfl rfl (by decide) ?_))))))))))
 refine z3 (m := 1) (new := [_]) (cs' := encI (out ++ [(l.length : Int)])) (n' := (out ++ [(l.length : Int)]).length) (H' := [(2, .row _ _ _), (1, .row _ _ _), (0, .row _ _ _)]) rfl rfl rfl (rfl) rfl rfl rfl rfl rfl rfl (zk out) (rfl) (by first | decide | (unfold zM; omega) | (unfold zM; simp; omega) | (unfold zM; simp only [List.length_append, List.length_take, List.length_drop, List.length_cons, List.length_nil, IntKind.wrap_i64] at *; omega)) (zbt out _) (((zc6 out (l.length : Int))).symm) (.inl rfl) rfl rfl (.keep rfl (.keep rfl (.keep rfl .nil))) (.keep rfl (.keep rfl (.keep rfl (.lose (v' := .undef) rfl (.keep rfl (.lose (v' := .undef) rfl (.keep rfl (.keep rfl .nil)))))))) ?_
 refine za rfl rfl trivial (zc (ze (zd (zd (zb rfl (za rfl rfl trivial (za rfl rfl trivial (za rfl rfl trivial (zc (ze ?_))))))))))
 refine z6 (fun out_0 : List Int => (⟨[(0, .ref 0 1 0 out_0.length)], [(0, .row 3 1 (encI out_0))], 1, [0], 26, 1⟩ : St)) (fun out_0 : List Int => zbo l 0 (out ++ [(l.length : Int)]) = out_0 ∧ (out_0.length = out.length + 1 + 2 * l.length)) ?_ ?_
 ·refine zC ?_
  refine z9 (fun w_ : Nat × (List Int) => match w_ with | (k0, out0) => (⟨[(0, .ref 0 1 0 out0.length), (2, .pv (.fn 69)), (14, .pv (.slc l.length l_f (l.flatMap zE))), (15, I l.length), (16, I k0)], [(0, .row 3 1 (encI out0))], 1, [0], 26, 1⟩ : St)) (fun w_ : Nat × (List Int) => match w_ with | (k0, out0) => zbo (l.drop k0) k0 out0 = zbo l 0 (out ++ [(l.length : Int)]) ∧ k0 ≤ l.length ∧ out0.length = out.length + 1 + 2 * k0) (fun w_ : Nat × (List Int) => match w_ with | (k0, out0) => l.length - k0) (0, (out ++ [(l.length : Int)])) (⟨rfl, Nat.zero_le _, by first | omega | simp | (simp; omega)⟩) ?_ (fun w_ hh_ => ?_)
  ·exact (zH.ren [] (by decide +kernel) (by decide +kernel) rfl ⟨⟨rfl, rfl⟩, ⟨rfl, rfl⟩, ⟨rfl, rfl⟩, ⟨rfl, rfl⟩, ⟨rfl, rfl⟩, trivial⟩ ⟨⟨rfl, rfl, rfl⟩, trivial⟩ (by decide))
  obtain ⟨k0, out0⟩ := w_
  obtain ⟨hI0, hb0, hv0⟩ := hh_
  show zO Tryz.prog _ _ (⟨[(0, .ref 0 1 0 out0.length), (2, .pv (.fn 69)), (14, .pv (.slc l.length l_f (l.flatMap zE))), (15, I l.length), (16, I k0)], [(0, .row 3 1 (encI out0))], 1, [0], 26, 1⟩ : St)
  refine zd (zb rfl (zl rfl rfl rfl rfl rfl trivial (zc (ze (zd ?_)))))
  refine zy rfl (fun h2 => ?_) (fun h2 => ?_)
  ·have g2 : (k0 : Int) < l.length := of_decide_eq_true h2
   have hk0 : k0 < l.length := by omega
   obtain ⟨x0, hx0⟩ : ∃ z_, l[k0]? = some z_ := ⟨_, List.getElem?_eq_getElem hk0⟩
   refine zA (ze (zd (zC (zd (zb rfl (zS (k := k0) rfl rfl rfl rfl hk0 (zaj (s := 2) (enc := zE) (fun _ => rfl) (by decide) hk0) rfl (zJ rfl rfl rfl (zap (s := 2) (enc := zE) (fun _ => rfl) hk0) (z2 (s := 2) (enc := zE) (fun _ => rfl) hx0) rfl (zB (o := .box [_, _]) (nx' := 2) rfl rfl rfl trivial ?_))))))))
   refine zx (H' := [(1, .box [_, _]), (0, _)]) rfl rfl rfl rfl rfl rfl (.inl rfl) rfl ?_
   refine zc (ze (zb rfl (za rfl rfl trivial (za rfl rfl trivial (za (v := (.agg [_, _])) rfl rfl (Nat.le_of_ble_eq_true rfl) ?_)))))
   refine zas (Hin := [.row _ _ _]) (out' := .ref 0 _ _ _) (H' := [(1, .box [_, _]), (0, .row _ _ _)]) (nx' := 2) [0] rfl rfl rfl rfl (.inl rfl) rfl rfl rfl rfl (zmM out0 x0 (by first | omega | (simp; done) | (simp only [List.length_append, List.length_cons, List.length_nil] at *; omega) | (simp; omega))) rfl (by decide) rfl rfl (.keep rfl (.keep rfl .nil)) (.keep rfl (.lose (v' := .undef) rfl (.keep rfl (.keep rfl (.keep rfl (.keep rfl (.keep rfl (.lose (v' := .undef) rfl (.keep rfl (.keep rfl (.keep rfl (.keep rfl .nil)))))))))))) rfl rfl rfl rfl ?_
   have p3 := zio out0 x0
   refine za rfl rfl trivial (zc (zar (ze (zb rfl (zl rfl rfl rfl rfl rfl trivial (za rfl rfl trivial (zc ?_)))))))
   have e5 : zbo (l.drop k0) k0 out0 = zbo (l.drop (k0 + 1)) (k0 + 1) (ze6 out0 x0) := by
    rewrite [zau hx0]
    rewrite [zbo]
    try dsimp only
    all_goals rfl
   exact z5 (k0 + 1, (ze6 out0 x0)) ⟨e5.symm.trans hI0, hk0, by first | omega | assumption | (simp only [List.length_append, List.length_cons, List.length_nil, List.length_set]; omega) | (simp; omega) | grind⟩ (by show l.length - (k0 + 1) < l.length - k0; omega) (zH.ren [] (by decide +kernel) (by decide +kernel) rfl ⟨⟨rfl, rfl⟩, ⟨rfl, rfl⟩, ⟨rfl, rfl⟩, ⟨rfl, rfl⟩, ⟨congrArg (fun n => some (I n)) (zcv (k := k0) (by first | omega | (simp; omega))), rfl⟩, trivial⟩ ⟨⟨rfl, rfl, rfl⟩, trivial⟩ (by decide))
  ·have g2 : ¬ ((k0 : Int) < l.length) := of_decide_eq_false h2
   have hk0 : k0 = l.length := by omega
   refine zV (zac (zal (zak rfl ?_)))
   have e6 : zbo l 0 (out ++ [(l.length : Int)]) = out0 := by
    rewrite [← hI0, hk0, List.drop_length]
    rewrite [zbo]
    try dsimp only
    all_goals rfl
   exact zZ out0 ⟨e6, by first | assumption | omega | (simp; omega) | simp_all | grind⟩ (zH.ren [] (by decide +kernel) (by decide +kernel) rfl ⟨⟨rfl, rfl⟩, trivial⟩ ⟨⟨rfl, rfl, rfl⟩, trivial⟩ (by decide))
 ·rintro out_0 ⟨(hJ1 : zbo l 0 (out ++ [(l.length : Int)]) = out_0), hE0⟩
  show seqK _ _ _ .normal (⟨[(0, .ref 0 1 0 out_0.length)], [(0, .row 3 1 (encI out_0))], 1, [0], 26, 1⟩ : St)
  refine ze (zd (zb rfl (za rfl rfl trivial (za rfl rfl trivial (zc (ze (zo ?_)))))))
  have e7 : zgX out l = out_0 := by
   unfold zgX
   try dsimp only
   rewrite [hJ1]
   try dsimp only
   all_goals rfl
  rw [e7]
  exact zL [] [] rfl ⟨trivial, trivial⟩ rfl (by (repeat' apply And.intro) <;> first | trivial | rfl | exact zi (fun _ => rfl) _ | exact zk _ | assumption) (rfl) rfl rfl rfl (by decide) rfl rfl ⟨⟨rfl, rfl⟩, trivial⟩

def zbv : List Bool → Nat → (List Int) → List Int
  | [], k0, out0 => out0
  | x0 :: l_, k0, out0 => zbv l_ (k0 + 1) (zhY out0 x0)
def zdT (out : List Int) (l : List Bool) : List Int :=
  (let out_0 := zbv l 0 (out ++ [(l.length : Int)]); out_0)
theorem zlP (out : List Int) (l : List Bool) (l_f : Bool) (hb : out.length + 1 * l.length ≤ 15999000) : Ok Tryz.prog 30 [.ref 0 1 0 out.length, .pv (.slc l.length l_f (encB l)), .fnc 31 []] [.row 3 1 (encI out)] (.ref 0 1 0 (zdT out l).length) [.row 3 1 (encI (zdT out l))] [0] := by
 refine Ok.len fun hlen => ?_
 have hl_l : l.length ≤ maxLen := hlen _ (by simp [zT, lens, zU])
 unfold maxLen at hl_l
 refine zz Tryz.func30 rfl ?_
 show zO Tryz.prog _ _ ⟨[(0, .ref 0 1 0 out.length), (1, .pv (.slc l.length l_f (encB l))), (2, .fnc 31 [])], [(0, .row 3 1 (encI out))], 1, [], 26, 1⟩
 refine zaV (zH.loose (T' := [(0, .ref 0 1 0 out.length), (1, .pv (.slc l.length l_f (encB l))), (2, .pv (.fn 31))]) (H' := [(0, .row 3 1 (encI out))]) ⟨⟨_, rfl, .inl rfl⟩, ⟨_, rfl, .inl rfl⟩, ⟨_, rfl, .inr rfl⟩, trivial⟩ ⟨⟨_, rfl, .inl rfl⟩, trivial⟩) ?_
 refine zd (zb rfl (zB (nx' := 2) rfl rfl rfl trivial (zc (ze (zd (zb rfl (za rfl rfl trivial (za rfl rfl trivial (za rfl rfl trivial (zB (o := .row _ _ [_]) (nx' := 3) rfl rfl rfl (by decide) ?_))))))))))
 refine z3 (m := 1) (new := [_]) (cs' := encI (out ++ [(l.length : Int)])) (n' := (out ++ [(l.length : Int)]).length) (H' := [(2, .row _ _ _), (1, .row _ _ _), (0, .row _ _ _)]) rfl rfl rfl (rfl) rfl rfl rfl rfl rfl rfl (zk out) (rfl) (by first | decide | (unfold zM; omega) | (unfold zM; simp; omega) | (unfold zM; simp only [List.length_append, List.length_take, List.length_drop, List.length_cons, List.length_nil, IntKind.wrap_i64] at *; omega)) (zbt out _) (((zc6 out (l.length : Int))).symm) (.inl rfl) rfl rfl (.keep rfl (.keep rfl (.keep rfl .nil))) (.keep rfl (.keep rfl (.keep rfl (.lose (v' := .undef) rfl (.keep rfl (.lose (v' := .undef) rfl (.keep rfl (.keep rfl .nil)))))))) ?_
 refine za rfl rfl trivial (zc (ze (zd (zd (zb rfl (za rfl rfl trivial (za rfl rfl trivial (za rfl rfl trivial (zc (ze ?_))))))))))
 refine z6 (fun out_0 : List Int => (⟨[(0, .ref 0 1 0 out_0.length)], [(0, .row 3 1 (encI out_0))], 1, [0], 26, 1⟩ : St)) (fun out_0 : List Int => zbv l 0 (out ++ [(l.length : Int)]) = out_0 ∧ (out_0.length = out.length + 1 + 1 * l.length)) ?_ ?_
 ·refine zC ?_
  refine z9 (fun w_ : Nat × (List Int) => match w_ with | (k0, out0) => (⟨[(0, .ref 0 1 0 out0.length), (2, .pv (.fn 31)), (14, .pv (.slc l.length l_f (encB l))), (15, I l.length), (16, I k0)], [(0, .row 3 1 (encI out0))], 1, [0], 26, 1⟩ : St)) (fun w_ : Nat × (List Int) => match w_ with | (k0, out0) => zbv (l.drop k0) k0 out0 = zbv l 0 (out ++ [(l.length : Int)]) ∧ k0 ≤ l.length ∧ out0.length = out.length + 1 + 1 * k0) (fun w_ : Nat × (List Int) => match w_ with | (k0, out0) => l.length - k0) (0, (out ++ [(l.length : Int)])) (⟨rfl, Nat.zero_le _, by first | omega | simp | (simp; omega)⟩) ?_ (fun w_ hh_ => ?_)
  ·exact (zH.ren [] (by decide +kernel) (by decide +kernel) rfl ⟨⟨rfl, rfl⟩, ⟨rfl, rfl⟩, ⟨rfl, rfl⟩, ⟨rfl, rfl⟩, ⟨rfl, rfl⟩, trivial⟩ ⟨⟨rfl, rfl, rfl⟩, trivial⟩ (by decide))
  obtain ⟨k0, out0⟩ := w_
  obtain ⟨hI0, hb0, hv0⟩ := hh_
  show zO Tryz.prog _ _ (⟨[(0, .ref 0 1 0 out0.length), (2, .pv (.fn 31)), (14, .pv (.slc l.length l_f (encB l))), (15, I l.length), (16, I k0)], [(0, .row 3 1 (encI out0))], 1, [0], 26, 1⟩ : St)
  refine zd (zb rfl (zl rfl rfl rfl rfl rfl trivial (zc (ze (zd ?_)))))
  refine zy rfl (fun h2 => ?_) (fun h2 => ?_)
  ·have g2 : (k0 : Int) < l.length := of_decide_eq_true h2
   have hk0 : k0 < l.length := by omega
   obtain ⟨x0, hx0⟩ : ∃ z_, l[k0]? = some z_ := ⟨_, List.getElem?_eq_getElem hk0⟩
   refine zA (ze (zd (zC (zd (zb rfl (zS (k := k0) rfl rfl rfl rfl hk0 (zgg hk0) rfl (zaf rfl rfl rfl (zeS hx0) rfl (za rfl rfl trivial (zc (ze (zb rfl ?_)))))))))))
   refine za rfl rfl trivial (za rfl rfl trivial (za rfl rfl trivial ?_))
   refine zas (Hin := [.row _ _ _]) (out' := .ref 0 _ _ _) (H' := [(0, .row _ _ _)]) (nx' := 1) [0] rfl rfl rfl rfl (.inl rfl) rfl rfl rfl rfl (zpe out0 x0 (by first | omega | (simp; done) | (simp only [List.length_append, List.length_cons, List.length_nil] at *; omega) | (simp; omega))) rfl (by decide) rfl rfl (.keep rfl .nil) (.keep rfl (.lose (v' := .undef) rfl (.keep rfl (.keep rfl (.keep rfl (.keep rfl (.keep rfl (.lose (v' := .undef) rfl (.keep rfl (.keep rfl (.keep rfl (.keep rfl .nil)))))))))))) rfl rfl rfl rfl ?_
   have p4 := zjE out0 x0
   refine za rfl rfl trivial (zc (zar (ze (zb rfl (zl rfl rfl rfl rfl rfl trivial (za rfl rfl trivial (zc ?_)))))))
   have e6 : zbv (l.drop k0) k0 out0 = zbv (l.drop (k0 + 1)) (k0 + 1) (zhY out0 x0) := by
    rewrite [zau hx0]
    rewrite [zbv]
    try dsimp only
    all_goals rfl
   exact z5 (k0 + 1, (zhY out0 x0)) ⟨e6.symm.trans hI0, hk0, by first | omega | assumption | (simp only [List.length_append, List.length_cons, List.length_nil, List.length_set]; omega) | (simp; omega) | grind⟩ (by show l.length - (k0 + 1) < l.length - k0; omega) (zH.ren [] (by decide +kernel) (by decide +kernel) rfl ⟨⟨rfl, rfl⟩, ⟨rfl, rfl⟩, ⟨rfl, rfl⟩, ⟨rfl, rfl⟩, ⟨congrArg (fun n => some (I n)) (zcv (k := k0) (by first | omega | (simp; omega))), rfl⟩, trivial⟩ ⟨⟨rfl, rfl, rfl⟩, trivial⟩ (by decide))
  ·have g2 : ¬ ((k0 : Int) < l.length) := of_decide_eq_false h2
   have hk0 : k0 = l.length := by omega
   refine zV (zac (zal (zak rfl ?_)))
   have e7 : zbv l 0 (out ++ [(l.length : Int)]) = out0 := by
    rewrite [← hI0, hk0, List.drop_length]
    rewrite [zbv]
    try dsimp only
    all_goals rfl
   exact zZ out0 ⟨e7, by first | assumption | omega | (simp; omega) | simp_all | grind⟩ (zH.ren [] (by decide +kernel) (by decide +kernel) rfl ⟨⟨rfl, rfl⟩, trivial⟩ ⟨⟨rfl, rfl, rfl⟩, trivial⟩ (by decide))
 ·rintro out_0 ⟨(hJ1 : zbv l 0 (out ++ [(l.length : Int)]) = out_0), hE0⟩
  show seqK _ _ _ .normal (⟨[(0, .ref 0 1 0 out_0.length)], [(0, .row 3 1 (encI out_0))], 1, [0], 26, 1⟩ : St)
  refine ze (zd (zb rfl (za rfl rfl trivial (za rfl rfl trivial (zc (ze (zo ?_)))))))
  have e8 : zdT out l = out_0 := by
   unfold zdT
   try dsimp only
   rewrite [hJ1]
   try dsimp only
   all_goals rfl
  rw [e8]
  exact zL [] [] rfl ⟨trivial, trivial⟩ rfl (by (repeat' apply And.intro) <;> first | trivial | rfl | exact zi (fun _ => rfl) _ | exact zk _ | assumption) (rfl) rfl rfl rfl (by decide) rfl rfl ⟨⟨rfl, rfl⟩, trivial⟩

def zbs : List zaB → Nat → (List Int) → List Int
  | [], k0, out0 => out0
  | x0 :: l_, k0, out0 => zbs l_ (k0 + 1) (zh3 out0 x0)
def zbh (out : List Int) (l : List zaB) : List Int :=
  (let out_0 := zbs l 0 (out ++ [(l.length : Int)]); out_0)
theorem zlm (out : List Int) (l : List zaB) (l_f : Bool) (hb : out.length + 7 * l.length ≤ 15999000) : Ok Tryz.prog 25 [.ref 0 1 0 out.length, .pv (.slc l.length l_f (l.flatMap zq)), .fnc 28 []] [.row 3 1 (encI out)] (.ref 0 1 0 (zbh out l).length) [.row 3 1 (encI (zbh out l))] [0] := by
 refine Ok.len fun hlen => ?_
 have hl_l : l.length ≤ maxLen := hlen _ (by simp [zT, lens, zU])
 unfold maxLen at hl_l
 refine zz Tryz.func25 rfl ?_
 show zO Tryz.prog _ _ ⟨[(0, .ref 0 1 0 out.length), (1, .pv (.slc l.length l_f (l.flatMap zq))), (2, .fnc 28 [])], [(0, .row 3 1 (encI out))], 1, [], 26, 1⟩
 refine zaV (zH.loose (T' := [(0, .ref 0 1 0 out.length), (1, .pv (.slc l.length l_f (l.flatMap zq))), (2, .pv (.fn 28))]) (H' := [(0, .row 3 1 (encI out))]) ⟨⟨_, rfl, .inl rfl⟩, ⟨_, rfl, .inl rfl⟩, ⟨_, rfl, .inr rfl⟩, trivial⟩ ⟨⟨_, rfl, .inl rfl⟩, trivial⟩) ?_
 refine zd (zb rfl (zB (nx' := 2) rfl rfl rfl trivial (zc (ze (zd (zb rfl (za rfl rfl trivial (za rfl rfl trivial (za rfl rfl trivial (zB (o := .row _ _ [_]) (nx' := 3) rfl rfl rfl (by decide) ?_))))))))))
 refine z3 (m := 1) (new := [_]) (cs' := encI (out ++ [(l.length : Int)])) (n' := (out ++ [(l.length : Int)]).length) (H' := [(2, .row _ _ _), (1, .row _ _ _), (0, .row _ _ _)]) rfl rfl rfl (rfl) rfl rfl rfl rfl rfl rfl (zk out) (rfl) (by first | decide | (unfold zM; omega) | (unfold zM; simp; omega) | (unfold zM; simp only [List.length_append, List.length_take, List.length_drop, List.length_cons, List.length_nil, IntKind.wrap_i64] at *; omega)) (zbt out _) (((zc6 out (l.length : Int))).symm) (.inl rfl) rfl rfl (.keep rfl (.keep rfl (.keep rfl .nil))) (.keep rfl (.keep rfl (.keep rfl (.lose (v' := .undef) rfl (.keep rfl (.lose (v' := .undef) rfl (.keep rfl (.keep rfl .nil)))))))) ?_
 refine za rfl rfl trivial (zc (ze (zd (zd (zb rfl (za rfl rfl trivial (za rfl rfl trivial (za rfl rfl trivial (zc (ze ?_))))))))))
 refine z6 (fun out_0 : List Int => (⟨[(0, .ref 0 1 0 out_0.length)], [(0, .row 3 1 (encI out_0))], 1, [0], 26, 1⟩ : St)) (fun out_0 : List Int => zbs l 0 (out ++ [(l.length : Int)]) = out_0 ∧ (out_0.length = out.length + 1 + 7 * l.length)) ?_ ?_
 ·refine zC ?_
  refine z9 (fun w_ : Nat × (List Int) => match w_ with | (k0, out0) => (⟨[(0, .ref 0 1 0 out0.length), (2, .pv (.fn 28)), (14, .pv (.slc l.length l_f (l.flatMap zq))), (15, I l.length), (16, I k0)], [(0, .row 3 1 (encI out0))], 1, [0], 26, 1⟩ : St)) (fun w_ : Nat × (List Int) => match w_ with | (k0, out0) => zbs (l.drop k0) k0 out0 = zbs l 0 (out ++ [(l.length : Int)]) ∧ k0 ≤ l.length ∧ out0.length = out.length + 1 + 7 * k0) (fun w_ : Nat × (List Int) => match w_ with | (k0, out0) => l.length - k0) (0, (out ++ [(l.length : Int)])) (⟨rfl, Nat.zero_le _, by first | omega | simp | (simp; omega)⟩) ?_ (fun w_ hh_ => ?_)
  ·exact (zH.ren [] (by decide +kernel) (by decide +kernel) rfl ⟨⟨rfl, rfl⟩, ⟨rfl, rfl⟩, ⟨rfl, rfl⟩, ⟨rfl, rfl⟩, ⟨rfl, rfl⟩, trivial⟩ ⟨⟨rfl, rfl, rfl⟩, trivial⟩ (by decide))
  obtain ⟨k0, out0⟩ := w_
  obtain ⟨hI0, hb0, hv0⟩ := hh_
  show zO Tryz.prog _ _ (⟨[(0, .ref 0 1 0 out0.length), (2, .pv (.fn 28)), (14, .pv (.slc l.length l_f (l.flatMap zq))), (15, I l.length), (16, I k0)], [(0, .row 3 1 (encI out0))], 1, [0], 26, 1⟩ : St)
  refine zd (zb rfl (zl rfl rfl rfl rfl rfl trivial (zc (ze (zd ?_)))))
  refine zy rfl (fun h2 => ?_) (fun h2 => ?_)
  ·have g2 : (k0 : Int) < l.length := of_decide_eq_true h2
   have hk0 : k0 < l.length := by omega
   obtain ⟨x0, hx0⟩ : ∃ z_, l[k0]? = some z_ := ⟨_, List.getElem?_eq_getElem hk0⟩
   refine zA (ze (zd (zC (zd (zb rfl (zS (k := k0) rfl rfl rfl rfl hk0 (zaj (s := 7) (enc := zq) (fun _ => rfl) (by decide) hk0) rfl (zJ rfl rfl rfl (zap (s := 7) (enc := zq) (fun _ => rfl) hk0) (z2 (s := 7) (enc := zq) (fun _ => rfl) hx0) rfl (zB (o := .box [_, _, _, _, _, _, _]) (nx' := 2) rfl rfl rfl trivial ?_))))))))
   refine zx (H' := [(1, .box [_, _, _, _, _, _, _]), (0, _)]) rfl rfl rfl rfl rfl rfl (.inl rfl) rfl ?_
   refine zc (ze (zb rfl (za rfl rfl trivial (za rfl rfl trivial (za (v := (.agg [_, _, _, _, _, _, _])) rfl rfl (Nat.le_of_ble_eq_true rfl) ?_)))))
   refine zas (Hin := [.row _ _ _]) (out' := .ref 0 _ _ _) (H' := [(1, .box [_, _, _, _, _, _, _]), (0, .row _ _ _)]) (nx' := 2) [0] rfl rfl rfl rfl (.inl rfl) rfl rfl rfl rfl (zo4 out0 x0 (by first | omega | (simp; done) | (simp only [List.length_append, List.length_cons, List.length_nil] at *; omega) | (simp; omega))) rfl (by decide) rfl rfl (.keep rfl (.keep rfl .nil)) (.keep rfl (.lose (v' := .undef) rfl (.keep rfl (.keep rfl (.keep rfl (.keep rfl (.keep rfl (.lose (v' := .undef) rfl (.keep rfl (.keep rfl (.keep rfl (.keep rfl .nil)))))))))))) rfl rfl rfl rfl ?_
   have p3 := zjq out0 x0
   refine za rfl rfl trivial (zc (zar (ze (zb rfl (zl rfl rfl rfl rfl rfl trivial (za rfl rfl trivial (zc ?_)))))))
   have e5 : zbs (l.drop k0) k0 out0 = zbs (l.drop (k0 + 1)) (k0 + 1) (zh3 out0 x0) := by
    rewrite [zau hx0]
    rewrite [zbs]
    try dsimp only
    all_goals rfl
   exact z5 (k0 + 1, (zh3 out0 x0)) ⟨e5.symm.trans hI0, hk0, by first | omega | assumption | (simp only [List.length_append, List.length_cons, List.length_nil, List.length_set]; omega) | (simp; omega) | grind⟩ (by show l.length - (k0 + 1) < l.length - k0; omega) (zH.ren [] (by decide +kernel) (by decide +kernel) rfl ⟨⟨rfl, rfl⟩, ⟨rfl, rfl⟩, ⟨rfl, rfl⟩, ⟨rfl, rfl⟩, ⟨congrArg (fun n => some (I n)) (zcv (k := k0) (by first | omega | (simp; omega))), rfl⟩, trivial⟩ ⟨⟨rfl, rfl, rfl⟩, trivial⟩ (by decide))
  ·have g2 : ¬ ((k0 : Int) < l.length) := of_decide_eq_false h2
   have hk0 : k0 = l.length := by omega
   refine zV (zac (zal (zak rfl ?_)))
   have e6 : zbs l 0 (out ++ [(l.length : Int)]) = out0 := by
    rewrite [← hI0, hk0, List.drop_length]
    rewrite [zbs]
    try dsimp only
    all_goals rfl
   exact zZ out0 ⟨e6, by first | assumption | omega | (simp; omega) | simp_all | grind⟩ (zH.ren [] (by decide +kernel) (by decide +kernel) rfl ⟨⟨rfl, rfl⟩, trivial⟩ ⟨⟨rfl, rfl, rfl⟩, trivial⟩ (by decide))
 ·rintro out_0 ⟨(hJ1 : zbs l 0 (out ++ [(l.length : Int)]) = out_0), hE0⟩
  show seqK _ _ _ .normal (⟨[(0, .ref 0 1 0 out_0.length)], [(0, .row 3 1 (encI out_0))], 1, [0], 26, 1⟩ : St)
  refine ze (zd (zb rfl (za rfl rfl trivial (za rfl rfl trivial (zc (ze (zo ?_)))))))
  have e7 : zbh out l = out_0 := by
   unfold zbh
   try dsimp only
   rewrite [hJ1]
   try dsimp only
   all_goals rfl
  rw [e7]
  exact zL [] [] rfl ⟨trivial, trivial⟩ rfl (by (repeat' apply And.intro) <;> first | trivial | rfl | exact zi (fun _ => rfl) _ | exact zk _ | assumption) (rfl) rfl rfl rfl (by decide) rfl rfl ⟨⟨rfl, rfl⟩, trivial⟩

theorem zgB : ∀ (l : List zan) (k : Nat) (out : List Int), (zbu l k out).length = out.length + 3 * l.length
  | [], k, out => by rw [zbu]; rfl
  | x :: l, k, out => by rw [zbu, zgB l, zlq]; simp only [List.length_cons]; omega
theorem zjw (out : List Int) (l : List zan) : (zh0 out l).length = out.length + 1 + 3 * l.length := by
  unfold zh0; dsimp only; rw [zgB]; simp only [List.length_append, List.length_cons, List.length_nil]

theorem zgT : ∀ (l : List zbO) (k : Nat) (out : List Int), (zbw l k out).length = out.length + 5 * l.length
  | [], k, out => by rw [zbw]; rfl
  | x :: l, k, out => by rw [zbw, zgT l, zjS]; simp only [List.length_cons]; omega
theorem zfK (out : List Int) (l : List zbO) : (zep out l).length = out.length + 1 + 5 * l.length := by
  unfold zep; dsimp only; rw [zgT]; simp only [List.length_append, List.length_cons, List.length_nil]

theorem zgO : ∀ (l : List zaU) (k : Nat) (out : List Int), (zbo l k out).length = out.length + 2 * l.length
  | [], k, out => by rw [zbo]; rfl
  | x :: l, k, out => by rw [zbo, zgO l, zio]; simp only [List.length_cons]; omega
theorem zfX (out : List Int) (l : List zaU) : (zgX out l).length = out.length + 1 + 2 * l.length := by
  unfold zgX; dsimp only; rw [zgO]; simp only [List.length_append, List.length_cons, List.length_nil]

theorem zgN : ∀ (l : List Bool) (k : Nat) (out : List Int), (zbv l k out).length = out.length + 1 * l.length
  | [], k, out => by rw [zbv]; rfl
  | x :: l, k, out => by rw [zbv, zgN l, zjE]; simp only [List.length_cons]; omega
theorem zg7 (out : List Int) (l : List Bool) : (zdT out l).length = out.length + 1 + 1 * l.length := by
  unfold zdT; dsimp only; rw [zgN]; simp only [List.length_append, List.length_cons, List.length_nil]

theorem zgS : ∀ (l : List zaB) (k : Nat) (out : List Int), (zbs l k out).length = out.length + 7 * l.length
  | [], k, out => by rw [zbs]; rfl
  | x :: l, k, out => by rw [zbs, zgS l, zjq]; simp only [List.length_cons]; omega
theorem zfz (out : List Int) (l : List zaB) : (zbh out l).length = out.length + 1 + 7 * l.length := by
  unfold zbh; dsimp only; rw [zgS]; simp only [List.length_append, List.length_cons, List.length_nil]

def ablW (out : List Int) (a : zG) : List Int :=
  (zh0 (out ++ [a.Id, a.Cast, a.Cool, a.Charges, a.Range, a.Cost, (zcD a.Sight)]) a.Effects)
theorem zra (out : List Int) (a : zG) (hb : out.length ≤ 15000000) (hE : a.Effects.length ≤ 1000) : Ok Tryz.prog 27 [.ref 0 1 0 out.length, zag a] [.row 3 1 (encI out)] (.ref 0 1 0 (ablW out a).length) [.row 3 1 (encI (ablW out a))] [0] := by
 refine Ok.len fun hlen => ?_
 have hl_a_Effects : a.Effects.length ≤ maxLen := hlen _ (by simp [zT, lens, zU])
 unfold maxLen at hl_a_Effects
 refine zz Tryz.func27 rfl ?_
 show zO Tryz.prog _ _ ⟨[(0, .ref 0 1 0 out.length), (1, zag a)], [(0, .row 3 1 (encI out))], 1, [], 27, 1⟩
 refine zd (zb rfl (zB (o := .box [_, _, _, _, _, _, _, _]) (nx' := 2) rfl rfl rfl trivial (zB (nx' := 3) rfl rfl rfl trivial (zc (ze (zd ?_))))))
 refine zaW rfl (by decide +kernel) rfl ?_
 refine za rfl rfl trivial (za rfl rfl (by decide) (za rfl rfl trivial (za rfl rfl (by decide) (za rfl rfl trivial (za rfl rfl (by decide) (za rfl rfl trivial (za rfl rfl (by decide) (za rfl rfl trivial (za rfl rfl (by decide) (za rfl rfl trivial (za rfl rfl (by decide) ?_)))))))))))
 refine za rfl rfl trivial (za rfl rfl (by decide) (za rfl rfl trivial (zF rfl rfl rfl rfl (ziI a.Sight) rfl rfl rfl (zB (o := .row _ _ [_, _, _, _, _, _, _]) (nx' := 4) rfl rfl rfl (by decide) ?_))))
 refine z3 (m := 7) (new := [_, _, _, _, _, _, _]) (cs' := encI (out ++ [a.Id, a.Cast, a.Cool, a.Charges, a.Range, a.Cost, (zcD a.Sight)])) (n' := (out ++ [a.Id, a.Cast, a.Cool, a.Charges, a.Range, a.Cost, (zcD a.Sight)]).length) (H' := [(3, .row _ _ _), (2, .row _ _ _), (1, .box [_, _, _, _, _, _, _, _]), (0, .row _ _ _)]) rfl rfl rfl (rfl) rfl rfl rfl rfl rfl rfl (zk out) (rfl) (by first | decide | (unfold zM; omega) | (unfold zM; simp; omega) | (unfold zM; simp only [List.length_append, List.length_take, List.length_drop, List.length_cons, List.length_nil, IntKind.wrap_i64] at *; omega)) (zbY out ([a.Id, a.Cast, a.Cool, a.Charges, a.Range, a.Cost, (zcD a.Sight)])) (zbx out ([a.Id, a.Cast, a.Cool, a.Charges, a.Range, a.Cost, (zcD a.Sight)])) (.inr (by decide +kernel)) rfl rfl (.keep rfl (.keep rfl (.keep rfl (.keep rfl .nil)))) (.keep rfl (.keep rfl (.keep rfl (.keep rfl (.keep rfl (.keep rfl (.keep rfl (.keep rfl (.keep rfl (.keep rfl (.keep rfl (.keep rfl (.keep rfl (.keep rfl (.keep rfl (.keep rfl (.lose (v' := .undef) rfl (.keep rfl (.keep rfl (.lose (v' := .undef) rfl (.keep rfl .nil))))))))))))))))))))) ?_
 refine za rfl rfl trivial (zc (ze (zd (zb rfl (za rfl rfl trivial (za rfl rfl (by decide) (za rfl rfl trivial ?_)))))))
 refine zas (Hin := [.row _ _ _]) (out' := .ref 0 _ _ _) (H' := [(3, .row _ _ _), (2, .row _ _ _), (1, .box [_, _, _, _, _, _, _, _]), (0, .row _ _ _)]) (nx' := 4) [0] rfl rfl rfl rfl (.inl rfl) rfl rfl rfl rfl (zo1 (out ++ [a.Id, a.Cast, a.Cool, a.Charges, a.Range, a.Cost, (zcD a.Sight)]) a.Effects false (by first | omega | (simp; done) | (simp only [List.length_append, List.length_cons, List.length_nil] at *; omega) | (simp; omega))) rfl (by decide) rfl rfl (.keep rfl (.keep rfl (.keep rfl (.keep rfl .nil)))) (.keep rfl (.keep rfl (.lose (v' := .undef) rfl (.lose (v' := .undef) rfl (.lose (v' := .undef) rfl (.keep rfl (.keep rfl (.keep rfl (.keep rfl (.keep rfl (.keep rfl (.keep rfl (.keep rfl (.keep rfl (.keep rfl (.keep rfl (.keep rfl (.keep rfl (.keep rfl (.keep rfl (.keep rfl (.keep rfl (.keep rfl (.keep rfl (.keep rfl (.keep rfl .nil)))))))))))))))))))))))))) rfl rfl rfl rfl ?_
 have p1 := zjw (out ++ [a.Id, a.Cast, a.Cool, a.Charges, a.Range, a.Cost, (zcD a.Sight)]) a.Effects
 refine za rfl rfl trivial (zc (ze (zo ?_)))
 have e2 : ablW out a = (zh0 (out ++ [a.Id, a.Cast, a.Cool, a.Charges, a.Range, a.Cost, (zcD a.Sight)]) a.Effects) := by
  unfold ablW
  try dsimp only
  all_goals rfl
 rw [e2]
 exact zL [] [] rfl ⟨trivial, trivial⟩ rfl (by (repeat' apply And.intro) <;> first | trivial | rfl | exact zi (fun _ => rfl) _ | exact zk _ | assumption) (rfl) rfl rfl rfl (by decide) rfl rfl ⟨⟨rfl, rfl⟩, trivial⟩

def foeW (out : List Int) (f : GFoe) : List Int :=
  (zgX (zep (out ++ [f.Id, f.Health, f.Hit, f.Every, f.Reach, f.Drops]) f.Script) f.Hoard)
theorem zqL (out : List Int) (f : GFoe) (hb : out.length ≤ 15000000) (hS : f.Script.length ≤ 1000) (hH : f.Hoard.length ≤ 1000) : Ok Tryz.prog 29 [.ref 0 1 0 out.length, zdO f] [.row 3 1 (encI out)] (.ref 0 1 0 (foeW out f).length) [.row 3 1 (encI (foeW out f))] [0] := by
 refine Ok.len fun hlen => ?_
 have hl_f_Script : f.Script.length ≤ maxLen := hlen _ (by simp [zT, lens, zU])
 have hl_f_Hoard : f.Hoard.length ≤ maxLen := hlen _ (by simp [zT, lens, zU])
 unfold maxLen at hl_f_Script hl_f_Hoard
 refine zz Tryz.func29 rfl ?_
 show zO Tryz.prog _ _ ⟨[(0, .ref 0 1 0 out.length), (1, zdO f)], [(0, .row 3 1 (encI out))], 1, [], 27, 1⟩
 refine zd (zb rfl (zB (o := .box [_, _, _, _, _, _, _, _]) (nx' := 2) rfl rfl rfl trivial (zB (nx' := 3) rfl rfl rfl trivial (zc (ze (zd (zb rfl (za rfl rfl trivial (za rfl rfl (by decide) (za rfl rfl trivial (za rfl rfl (by decide) ?_)))))))))))
 refine za rfl rfl trivial (za rfl rfl (by decide) (za rfl rfl trivial (za rfl rfl (by decide) (za rfl rfl trivial (za rfl rfl (by decide) (za rfl rfl trivial (za rfl rfl (by decide) (za rfl rfl trivial (zB (o := .row _ _ [_, _, _, _, _, _]) (nx' := 4) rfl rfl rfl (by decide) ?_)))))))))
 refine z3 (m := 6) (new := [_, _, _, _, _, _]) (cs' := encI (out ++ [f.Id, f.Health, f.Hit, f.Every, f.Reach, f.Drops])) (n' := (out ++ [f.Id, f.Health, f.Hit, f.Every, f.Reach, f.Drops]).length) (H' := [(3, .row _ _ _), (2, .row _ _ _), (1, .box [_, _, _, _, _, _, _, _]), (0, .row _ _ _)]) rfl rfl rfl (rfl) rfl rfl rfl rfl rfl rfl (zk out) (rfl) (by first | decide | (unfold zM; omega) | (unfold zM; simp; omega) | (unfold zM; simp only [List.length_append, List.length_take, List.length_drop, List.length_cons, List.length_nil, IntKind.wrap_i64] at *; omega)) (zbY out ([f.Id, f.Health, f.Hit, f.Every, f.Reach, f.Drops])) (zbx out ([f.Id, f.Health, f.Hit, f.Every, f.Reach, f.Drops])) (.inl rfl) rfl rfl (.keep rfl (.keep rfl (.keep rfl (.keep rfl .nil)))) (.keep rfl (.keep rfl (.keep rfl (.keep rfl (.keep rfl (.keep rfl (.keep rfl (.keep rfl (.keep rfl (.keep rfl (.keep rfl (.keep rfl (.keep rfl (.lose (v' := .undef) rfl (.keep rfl (.keep rfl (.lose (v' := .undef) rfl (.keep rfl .nil)))))))))))))))))) ?_
 refine za rfl rfl trivial (zc (ze (zd ?_)))
 refine zhh rfl (zfT [0, 1, 4, 2, 3, 5, 6, 7] (by decide +kernel) (zgf [(3, 2), (2, 1), (2, 0), (1, 0)] (by decide +kernel) (zjQ rfl ?_)))
 refine zcb (m1 := 0) (by decide +kernel) rfl ?_
 refine za rfl rfl trivial (zc ?_)
 refine zcb (m1 := 1) (by decide +kernel) rfl ?_
 refine za rfl rfl (by decide) (zc ?_)
 refine zcb (m1 := 2) (by decide +kernel) rfl ?_
 refine za rfl rfl (by decide) (zc ?_)
 refine zgG (m1 := 3) (m2 := 5) (by decide +kernel) rfl rfl ?_ ?_
 ·refine za rfl rfl trivial (zc ?_)
  refine zgG (m1 := 4) (m2 := 5) (by decide +kernel) rfl rfl ?_ ?_
  ·refine zas (Hin := [.row _ _ _]) (out' := .ref 0 _ _ _) (H' := [(3, .row _ _ _), (2, .row _ _ _), (1, .box [_, _, _, _, _, _, _, _]), (0, .row _ _ _)]) (nx' := 4) [0] rfl rfl rfl rfl (.inl rfl) rfl rfl rfl rfl (zjh (out ++ [f.Id, f.Health, f.Hit, f.Every, f.Reach, f.Drops]) f.Script false (by first | omega | (simp; done) | (simp only [List.length_append, List.length_cons, List.length_nil] at *; omega) | (simp; omega))) rfl (by decide) rfl rfl (.keep rfl (.keep rfl (.keep rfl (.keep rfl .nil)))) (.keep rfl (.keep rfl (.keep rfl (.lose (v' := .undef) rfl (.lose (v' := .undef) rfl (.lose (v' := .undef) rfl (.keep rfl (.keep rfl (.keep rfl (.keep rfl (.keep rfl (.keep rfl (.keep rfl (.keep rfl (.keep rfl (.keep rfl (.keep rfl (.keep rfl (.keep rfl (.keep rfl (.keep rfl (.keep rfl (.keep rfl (.keep rfl .nil)))))))))))))))))))))))) rfl rfl rfl rfl ?_
   have p1 := zfK (out ++ [f.Id, f.Health, f.Hit, f.Every, f.Reach, f.Drops]) f.Script
   refine zc ?_
   refine zcb (m1 := 5) (by decide +kernel) rfl ?_
   refine za rfl rfl trivial (zc ?_)
   refine zcb (m1 := 6) (by decide +kernel) rfl ?_
   refine zas (Hin := [.row _ _ _]) (out' := .ref 0 _ _ _) (H' := [(3, .row _ _ _), (2, .row _ _ _), (1, .box [_, _, _, _, _, _, _, _]), (0, .row _ _ _)]) (nx' := 4) [0] rfl rfl rfl rfl (.inl rfl) rfl rfl rfl rfl (ziK (zep (out ++ [f.Id, f.Health, f.Hit, f.Every, f.Reach, f.Drops]) f.Script) f.Hoard false (by first | omega | (simp; done) | (simp only [List.length_append, List.length_cons, List.length_nil] at *; omega) | (simp; omega))) rfl (by decide) rfl rfl (.keep rfl (.keep rfl (.keep rfl (.keep rfl .nil)))) (.keep rfl (.lose (v' := .undef) rfl (.keep rfl (.keep rfl (.keep rfl (.keep rfl (.keep rfl (.keep rfl (.keep rfl (.keep rfl (.keep rfl (.keep rfl (.keep rfl (.keep rfl (.keep rfl (.keep rfl (.keep rfl (.keep rfl (.keep rfl (.keep rfl (.keep rfl (.keep rfl (.keep rfl (.keep rfl (.keep rfl (.keep rfl .nil)))))))))))))))))))))))))) rfl rfl rfl rfl ?_
   have p2 := zfX (zep (out ++ [f.Id, f.Health, f.Hit, f.Every, f.Reach, f.Drops]) f.Script) f.Hoard
   refine zc ?_
   refine zcb (m1 := 7) (by decide +kernel) rfl ?_
   refine za rfl rfl trivial (zc ?_)
   refine zfM (by decide +kernel) ?_
   refine ze (zo ?_)
   have e3 : foeW out f = (zgX (zep (out ++ [f.Id, f.Health, f.Hit, f.Every, f.Reach, f.Drops]) f.Script) f.Hoard) := by
    unfold foeW
    try dsimp only
    all_goals rfl
   rw [e3]
   exact zL [] [] rfl ⟨trivial, trivial⟩ rfl (by (repeat' apply And.intro) <;> first | trivial | rfl | exact zi (fun _ => rfl) _ | exact zk _ | assumption) (rfl) rfl rfl rfl (by decide) rfl rfl ⟨⟨rfl, rfl⟩, trivial⟩
  ·refine za rfl rfl trivial (zc ?_)
   refine zcb (m1 := 4) (by decide +kernel) rfl ?_
   refine zas (Hin := [.row _ _ _]) (out' := .ref 0 _ _ _) (H' := [(3, .row _ _ _), (2, .row _ _ _), (1, .box [_, _, _, _, _, _, _, _]), (0, .row _ _ _)]) (nx' := 4) [0] rfl rfl rfl rfl (.inl rfl) rfl rfl rfl rfl (zjh (out ++ [f.Id, f.Health, f.Hit, f.Every, f.Reach, f.Drops]) f.Script false (by first | omega | (simp; done) | (simp only [List.length_append, List.length_cons, List.length_nil] at *; omega) | (simp; omega))) rfl (by decide) rfl rfl (.keep rfl (.keep rfl (.keep rfl (.keep rfl .nil)))) (.keep rfl (.keep rfl (.keep rfl (.keep rfl (.lose (v' := .undef) rfl (.lose (v' := .undef) rfl (.lose (v' := .undef) rfl (.keep rfl (.keep rfl (.keep rfl (.keep rfl (.keep rfl (.keep rfl (.keep rfl (.keep rfl (.keep rfl (.keep rfl (.keep rfl (.keep rfl (.keep rfl (.keep rfl (.keep rfl (.keep rfl (.keep rfl (.keep rfl .nil))))))))))))))))))))))))) rfl rfl rfl rfl ?_
   have p4 := zfK (out ++ [f.Id, f.Health, f.Hit, f.Every, f.Reach, f.Drops]) f.Script
   refine zc ?_
   refine zcb (m1 := 6) (by decide +kernel) rfl ?_
   refine zas (Hin := [.row _ _ _]) (out' := .ref 0 _ _ _) (H' := [(3, .row _ _ _), (2, .row _ _ _), (1, .box [_, _, _, _, _, _, _, _]), (0, .row _ _ _)]) (nx' := 4) [0] rfl rfl rfl rfl (.inl rfl) rfl rfl rfl rfl (ziK (zep (out ++ [f.Id, f.Health, f.Hit, f.Every, f.Reach, f.Drops]) f.Script) f.Hoard false (by first | omega | (simp; done) | (simp only [List.length_append, List.length_cons, List.length_nil] at *; omega) | (simp; omega))) rfl (by decide) rfl rfl (.keep rfl (.keep rfl (.keep rfl (.keep rfl .nil)))) (.lose (v' := .undef) rfl (.keep rfl (.keep rfl (.keep rfl (.keep rfl (.keep rfl (.keep rfl (.keep rfl (.keep rfl (.keep rfl (.keep rfl (.keep rfl (.keep rfl (.keep rfl (.keep rfl (.keep rfl (.keep rfl (.keep rfl (.keep rfl (.keep rfl (.keep rfl (.keep rfl (.keep rfl (.keep rfl (.keep rfl (.keep rfl .nil)))))))))))))))))))))))))) rfl rfl rfl rfl ?_
   have p5 := zfX (zep (out ++ [f.Id, f.Health, f.Hit, f.Every, f.Reach, f.Drops]) f.Script) f.Hoard
   refine zc ?_
   refine zcb (m1 := 7) (by decide +kernel) rfl ?_
   refine za rfl rfl trivial (zc ?_)
   refine zfM (by decide +kernel) ?_
   refine ze (zo ?_)
   have e6 : foeW out f = (zgX (zep (out ++ [f.Id, f.Health, f.Hit, f.Every, f.Reach, f.Drops]) f.Script) f.Hoard) := by
    unfold foeW
    try dsimp only
    all_goals rfl
   rw [e6]
   exact zL [] [] rfl ⟨trivial, trivial⟩ rfl (by (repeat' apply And.intro) <;> first | trivial | rfl | exact zi (fun _ => rfl) _ | exact zk _ | assumption) (rfl) rfl rfl rfl (by decide) rfl rfl ⟨⟨rfl, rfl⟩, trivial⟩
 ·refine za rfl rfl trivial (zc ?_)
  refine zcb (m1 := 3) (by decide +kernel) rfl ?_
  refine za rfl rfl trivial (zc ?_)
  refine zcb (m1 := 4) (by decide +kernel) rfl ?_
  refine zas (Hin := [.row _ _ _]) (out' := .ref 0 _ _ _) (H' := [(3, .row _ _ _), (2, .row _ _ _), (1, .box [_, _, _, _, _, _, _, _]), (0, .row _ _ _)]) (nx' := 4) [0] rfl rfl rfl rfl (.inl rfl) rfl rfl rfl rfl (zjh (out ++ [f.Id, f.Health, f.Hit, f.Every, f.Reach, f.Drops]) f.Script false (by first | omega | (simp; done) | (simp only [List.length_append, List.length_cons, List.length_nil] at *; omega) | (simp; omega))) rfl (by decide) rfl rfl (.keep rfl (.keep rfl (.keep rfl (.keep rfl .nil)))) (.keep rfl (.keep rfl (.keep rfl (.keep rfl (.lose (v' := .undef) rfl (.lose (v' := .undef) rfl (.lose (v' := .undef) rfl (.keep rfl (.keep rfl (.keep rfl (.keep rfl (.keep rfl (.keep rfl (.keep rfl (.keep rfl (.keep rfl (.keep rfl (.keep rfl (.keep rfl (.keep rfl (.keep rfl (.keep rfl (.keep rfl (.keep rfl (.keep rfl .nil))))))))))))))))))))))))) rfl rfl rfl rfl ?_
  have p7 := zfK (out ++ [f.Id, f.Health, f.Hit, f.Every, f.Reach, f.Drops]) f.Script
  refine zc ?_
  refine zcb (m1 := 6) (by decide +kernel) rfl ?_
  refine zas (Hin := [.row _ _ _]) (out' := .ref 0 _ _ _) (H' := [(3, .row _ _ _), (2, .row _ _ _), (1, .box [_, _, _, _, _, _, _, _]), (0, .row _ _ _)]) (nx' := 4) [0] rfl rfl rfl rfl (.inl rfl) rfl rfl rfl rfl (ziK (zep (out ++ [f.Id, f.Health, f.Hit, f.Every, f.Reach, f.Drops]) f.Script) f.Hoard false (by first | omega | (simp; done) | (simp only [List.length_append, List.length_cons, List.length_nil] at *; omega) | (simp; omega))) rfl (by decide) rfl rfl (.keep rfl (.keep rfl (.keep rfl (.keep rfl .nil)))) (.lose (v' := .undef) rfl (.keep rfl (.keep rfl (.keep rfl (.keep rfl (.keep rfl (.keep rfl (.keep rfl (.keep rfl (.keep rfl (.keep rfl (.keep rfl (.keep rfl (.keep rfl (.keep rfl (.keep rfl (.keep rfl (.keep rfl (.keep rfl (.keep rfl (.keep rfl (.keep rfl (.keep rfl (.keep rfl (.keep rfl (.keep rfl .nil)))))))))))))))))))))))))) rfl rfl rfl rfl ?_
  have p8 := zfX (zep (out ++ [f.Id, f.Health, f.Hit, f.Every, f.Reach, f.Drops]) f.Script) f.Hoard
  refine zc ?_
  refine zcb (m1 := 7) (by decide +kernel) rfl ?_
  refine za rfl rfl trivial (zc ?_)
  refine zfM (by decide +kernel) ?_
  refine ze (zo ?_)
  have e9 : foeW out f = (zgX (zep (out ++ [f.Id, f.Health, f.Hit, f.Every, f.Reach, f.Drops]) f.Script) f.Hoard) := by
   unfold foeW
   try dsimp only
   all_goals rfl
  rw [e9]
  exact zL [] [] rfl ⟨trivial, trivial⟩ rfl (by (repeat' apply And.intro) <;> first | trivial | rfl | exact zi (fun _ => rfl) _ | exact zk _ | assumption) (rfl) rfl rfl rfl (by decide) rfl rfl ⟨⟨rfl, rfl⟩, trivial⟩

theorem zlS (out : List Int) (a : zG) : (ablW out a).length = out.length + 8 + 3 * a.Effects.length := by
  unfold ablW; rw [zjw, List.length_append]; simp only [List.length_cons, List.length_nil]; try omega
theorem zlA (out : List Int) (f : GFoe) : (foeW out f).length = out.length + 8 + 5 * f.Script.length + 2 * f.Hoard.length := by
  unfold foeW; rw [zfX, zfK, List.length_append]; simp only [List.length_cons, List.length_nil]; try omega
theorem zna {α : Type} {l : List α} {P : α → Prop} (h : ∀ x ∈ l, P x) {k : Nat} {x : α} (hx : l[k]? = some x) : P x := h x (List.mem_of_getElem? hx)

def zdJ : List zG → Nat → (List Int) → List Int
  | [], k0, out0 => out0
  | x0 :: l_, k0, out0 => zdJ l_ (k0 + 1) (ablW out0 x0)
def zpE (out : List Int) (l : List zG) : List Int :=
  (let out_0 := zdJ l 0 (out ++ [(l.length : Int)]); out_0)
def zbq : List GFoe → Nat → (List Int) → List Int
  | [], k0, out0 => out0
  | x0 :: l_, k0, out0 => zbq l_ (k0 + 1) (foeW out0 x0)
def zbP (out : List Int) (l : List GFoe) : List Int :=
  (let out_0 := zbq l 0 (out ++ [(l.length : Int)]); out_0)
theorem zpJ (out : List Int) (l : List GFoe) (l_f : Bool) (hb : out.length + 7010 * l.length ≤ 14000000) (hF : ∀ x ∈ l, x.Script.length ≤ 1000 ∧ x.Hoard.length ≤ 1000) : Ok Tryz.prog 24 [.ref 0 1 0 out.length, .pv (.slc l.length l_f (l.flatMap zw)), .fnc 29 []] [.row 3 1 (encI out)] (.ref 0 1 0 (zbP out l).length) [.row 3 1 (encI (zbP out l))] [0] := by
 refine Ok.len fun hlen => ?_
 have hl_l : l.length ≤ maxLen := hlen _ (by simp [zT, lens, zU])
 unfold maxLen at hl_l
 refine zz Tryz.func24 rfl ?_
 show zO Tryz.prog _ _ ⟨[(0, .ref 0 1 0 out.length), (1, .pv (.slc l.length l_f (l.flatMap zw))), (2, .fnc 29 [])], [(0, .row 3 1 (encI out))], 1, [], 26, 1⟩
 refine zaV (zH.loose (T' := [(0, .ref 0 1 0 out.length), (1, .pv (.slc l.length l_f (l.flatMap zw))), (2, .pv (.fn 29))]) (H' := [(0, .row 3 1 (encI out))]) ⟨⟨_, rfl, .inl rfl⟩, ⟨_, rfl, .inl rfl⟩, ⟨_, rfl, .inr rfl⟩, trivial⟩ ⟨⟨_, rfl, .inl rfl⟩, trivial⟩) ?_
 refine zd (zb rfl (zB (nx' := 2) rfl rfl rfl trivial (zc (ze (zd (zb rfl (za rfl rfl trivial (za rfl rfl trivial (za rfl rfl trivial (zB (o := .row _ _ [_]) (nx' := 3) rfl rfl rfl (by decide) ?_))))))))))
 refine z3 (m := 1) (new := [_]) (cs' := encI (out ++ [(l.length : Int)])) (n' := (out ++ [(l.length : Int)]).length) (H' := [(2, .row _ _ _), (1, .row _ _ _), (0, .row _ _ _)]) rfl rfl rfl (rfl) rfl rfl rfl rfl rfl rfl (zk out) (rfl) (by first | decide | (unfold zM; omega) | (unfold zM; simp; omega) | (unfold zM; simp only [List.length_append, List.length_take, List.length_drop, List.length_cons, List.length_nil, IntKind.wrap_i64] at *; omega)) (zbt out _) (((zc6 out (l.length : Int))).symm) (.inl rfl) rfl rfl (.keep rfl (.keep rfl (.keep rfl .nil))) (.keep rfl (.keep rfl (.keep rfl (.lose (v' := .undef) rfl (.keep rfl (.lose (v' := .undef) rfl (.keep rfl (.keep rfl .nil)))))))) ?_
 refine za rfl rfl trivial (zc (ze (zd (zd (zb rfl (za rfl rfl trivial (za rfl rfl trivial (za rfl rfl trivial (zc (ze ?_))))))))))
 refine z6 (fun out_0 : List Int => (⟨[(0, .ref 0 1 0 out_0.length)], [(0, .row 3 1 (encI out_0))], 1, [0], 26, 1⟩ : St)) (fun out_0 : List Int => zbq l 0 (out ++ [(l.length : Int)]) = out_0 ∧ (out_0.length ≤ out.length + 1 + 7008 * l.length)) ?_ ?_
 ·refine zC ?_
  refine z9 (fun w_ : Nat × (List Int) => match w_ with | (k0, out0) => (⟨[(0, .ref 0 1 0 out0.length), (2, .pv (.fn 29)), (14, .pv (.slc l.length l_f (l.flatMap zw))), (15, I l.length), (16, I k0)], [(0, .row 3 1 (encI out0))], 1, [0], 26, 1⟩ : St)) (fun w_ : Nat × (List Int) => match w_ with | (k0, out0) => zbq (l.drop k0) k0 out0 = zbq l 0 (out ++ [(l.length : Int)]) ∧ k0 ≤ l.length ∧ out.length + 1 ≤ out0.length ∧ out0.length ≤ out.length + 1 + 7008 * k0) (fun w_ : Nat × (List Int) => match w_ with | (k0, out0) => l.length - k0) (0, (out ++ [(l.length : Int)])) (⟨rfl, Nat.zero_le _, by first | omega | simp | (simp; omega)⟩) ?_ (fun w_ hh_ => ?_)
  ·exact (zH.ren [] (by decide +kernel) (by decide +kernel) rfl ⟨⟨rfl, rfl⟩, ⟨rfl, rfl⟩, ⟨rfl, rfl⟩, ⟨rfl, rfl⟩, ⟨rfl, rfl⟩, trivial⟩ ⟨⟨rfl, rfl, rfl⟩, trivial⟩ (by decide))
  obtain ⟨k0, out0⟩ := w_
  obtain ⟨hI0, hb0, hv0⟩ := hh_
  show zO Tryz.prog _ _ (⟨[(0, .ref 0 1 0 out0.length), (2, .pv (.fn 29)), (14, .pv (.slc l.length l_f (l.flatMap zw))), (15, I l.length), (16, I k0)], [(0, .row 3 1 (encI out0))], 1, [0], 26, 1⟩ : St)
  refine zd (zb rfl (zl rfl rfl rfl rfl rfl trivial (zc (ze (zd ?_)))))
  refine zy rfl (fun h2 => ?_) (fun h2 => ?_)
  ·have g2 : (k0 : Int) < l.length := of_decide_eq_true h2
   have hk0 : k0 < l.length := by omega
   obtain ⟨x0, hx0⟩ : ∃ z_, l[k0]? = some z_ := ⟨_, List.getElem?_eq_getElem hk0⟩
   refine zA (ze (zd (zC (zd (zb rfl (zS (k := k0) rfl rfl rfl rfl hk0 (zaj (s := 8) (enc := zw) (fun _ => rfl) (by decide) hk0) rfl (zJ rfl rfl rfl (zap (s := 8) (enc := zw) (fun _ => rfl) hk0) (z2 (s := 8) (enc := zw) (fun _ => rfl) hx0) rfl (zB (o := .box [_, _, _, _, _, _, _, _]) (nx' := 2) rfl rfl rfl trivial ?_))))))))
   refine zx (H' := [(1, .box [_, _, _, _, _, _, _, _]), (0, _)]) rfl rfl rfl rfl rfl rfl (.inl rfl) rfl ?_
   refine zc (ze (zb rfl (za rfl rfl trivial (za rfl rfl trivial (za (v := (.agg [_, _, _, _, _, _, _, _])) rfl rfl (Nat.le_of_ble_eq_true rfl) ?_)))))
   refine zas (Hin := [.row _ _ _]) (out' := .ref 0 _ _ _) (H' := [(1, .box [_, _, _, _, _, _, _, _]), (0, .row _ _ _)]) (nx' := 2) [0] rfl rfl rfl rfl (.inl rfl) rfl rfl rfl rfl (zqL out0 x0 (by first | omega | (simp; done) | (simp only [List.length_append, List.length_cons, List.length_nil] at *; omega) | (simp; omega)) (by first | exact (zna hF (by assumption)).1 | (first | omega | (simp; done) | (simp only [List.length_append, List.length_cons, List.length_nil] at *; omega) | (simp; omega))) (by first | exact (zna hF (by assumption)).2 | (first | omega | (simp; done) | (simp only [List.length_append, List.length_cons, List.length_nil] at *; omega) | (simp; omega)))) rfl (by decide) rfl rfl (.keep rfl (.keep rfl .nil)) (.keep rfl (.lose (v' := .undef) rfl (.keep rfl (.keep rfl (.keep rfl (.keep rfl (.keep rfl (.lose (v' := .undef) rfl (.keep rfl (.keep rfl (.keep rfl (.keep rfl .nil)))))))))))) rfl rfl rfl rfl ?_
   have p3 := zlA out0 x0
   refine za rfl rfl trivial (zc (zar (ze (zb rfl (zl rfl rfl rfl rfl rfl trivial (za rfl rfl trivial (zc ?_)))))))
   have e5 : zbq (l.drop k0) k0 out0 = zbq (l.drop (k0 + 1)) (k0 + 1) (foeW out0 x0) := by
    rewrite [zau hx0]
    rewrite [zbq]
    try dsimp only
    all_goals rfl
   exact z5 (k0 + 1, (foeW out0 x0)) ⟨e5.symm.trans hI0, hk0, by first | omega | assumption | (simp only [List.length_append, List.length_cons, List.length_nil, List.length_set]; omega) | (simp; omega) | grind⟩ (by show l.length - (k0 + 1) < l.length - k0; omega) (zH.ren [] (by decide +kernel) (by decide +kernel) rfl ⟨⟨rfl, rfl⟩, ⟨rfl, rfl⟩, ⟨rfl, rfl⟩, ⟨rfl, rfl⟩, ⟨congrArg (fun n => some (I n)) (zcv (k := k0) (by first | omega | (simp; omega))), rfl⟩, trivial⟩ ⟨⟨rfl, rfl, rfl⟩, trivial⟩ (by decide))
  ·have g2 : ¬ ((k0 : Int) < l.length) := of_decide_eq_false h2
   have hk0 : k0 = l.length := by omega
   refine zV (zac (zal (zak rfl ?_)))
   have e6 : zbq l 0 (out ++ [(l.length : Int)]) = out0 := by
    rewrite [← hI0, hk0, List.drop_length]
    rewrite [zbq]
    try dsimp only
    all_goals rfl
   exact zZ out0 ⟨e6, by first | assumption | omega | (simp; omega) | simp_all | grind⟩ (zH.ren [] (by decide +kernel) (by decide +kernel) rfl ⟨⟨rfl, rfl⟩, trivial⟩ ⟨⟨rfl, rfl, rfl⟩, trivial⟩ (by decide))
 ·rintro out_0 ⟨(hJ1 : zbq l 0 (out ++ [(l.length : Int)]) = out_0), hE0⟩
  show seqK _ _ _ .normal (⟨[(0, .ref 0 1 0 out_0.length)], [(0, .row 3 1 (encI out_0))], 1, [0], 26, 1⟩ : St)
  refine ze (zd (zb rfl (za rfl rfl trivial (za rfl rfl trivial (zc (ze (zo ?_)))))))
  have e7 : zbP out l = out_0 := by
   unfold zbP
   try dsimp only
   rewrite [hJ1]
   try dsimp only
   all_goals rfl
  rw [e7]
  exact zL [] [] rfl ⟨trivial, trivial⟩ rfl (by (repeat' apply And.intro) <;> first | trivial | rfl | exact zi (fun _ => rfl) _ | exact zk _ | assumption) (rfl) rfl rfl rfl (by decide) rfl rfl ⟨⟨rfl, rfl⟩, trivial⟩

structure Fits (c : zu) : Prop where
  ab : c.Abilities.length ≤ 1000
  eff : ∀ x ∈ c.Abilities, x.Effects.length ≤ 1000
  au : c.Auras.length ≤ 100000
  fo : c.Foes.length ≤ 1000
  sc : ∀ x ∈ c.Foes, x.Script.length ≤ 1000 ∧ x.Hoard.length ≤ 1000
  wall : c.Map.Wall.length ≤ 1000000
theorem zgE : ∀ (l : List zG) (k : Nat) (out : List Int), (∀ x ∈ l, x.Effects.length ≤ 1000) → (zdJ l k out).length ≤ out.length + 3008 * l.length
  | [], k, out, _ => by rw [zdJ]; exact Nat.le_refl _
  | x :: l, k, out, h => by
    rw [zdJ]
    have h1 := zgE l (k + 1) (ablW out x) (fun y hy => h y (List.mem_cons_of_mem _ hy))
    have h2 := zlS out x
    have h3 := h x List.mem_cons_self
    simp only [List.length_cons]; omega
theorem zmB (out : List Int) (l : List zG) (h : ∀ x ∈ l, x.Effects.length ≤ 1000) : (zpE out l).length ≤ out.length + 1 + 3008 * l.length := by
  unfold zpE; dsimp only
  have := zgE l 0 (out ++ [(l.length : Int)]) h
  simp only [List.length_append, List.length_cons, List.length_nil] at this; omega
theorem zgQ : ∀ (l : List GFoe) (k : Nat) (out : List Int), (∀ x ∈ l, x.Script.length ≤ 1000 ∧ x.Hoard.length ≤ 1000) → (zbq l k out).length ≤ out.length + 7008 * l.length
  | [], k, out, _ => by rw [zbq]; exact Nat.le_refl _
  | x :: l, k, out, h => by
    rw [zbq]
    have h1 := zgQ l (k + 1) (foeW out x) (fun y hy => h y (List.mem_cons_of_mem _ hy))
    have h2 := zlA out x
    have h3 := h x List.mem_cons_self
    simp only [List.length_cons]; omega
theorem zhL (out : List Int) (l : List GFoe) (h : ∀ x ∈ l, x.Script.length ≤ 1000 ∧ x.Hoard.length ≤ 1000) : (zbP out l).length ≤ out.length + 1 + 7008 * l.length := by
  unfold zbP; dsimp only
  have := zgQ l 0 (out ++ [(l.length : Int)]) h
  simp only [List.length_append, List.length_cons, List.length_nil] at this; omega

def za3 : List zG → Nat → (List Int) → List Int
  | [], k0, out0 => out0
  | x0 :: l_, k0, out0 => za3 l_ (k0 + 1) (ablW out0 x0)
def zae (l : List zG) : List Int :=
  (let out_0 := za3 l 0 ([(l.length : Int)]); out_0)
theorem zfx (l : List zG) (l_f : Bool) (hb : 3010 * l.length ≤ 12000000) (hE : ∀ x ∈ l, x.Effects.length ≤ 1000) : Ok Tryz.prog 26 [.pv (.slc 0 true []), .pv (.slc l.length l_f (l.flatMap zj)), .fnc 27 []] [] (.ref 0 1 0 (zae l).length) [.row 3 1 (encI (zae l))] [] := by
 refine Ok.len fun hlen => ?_
 have hl_l : l.length ≤ maxLen := hlen _ (by simp [zT, lens, zU])
 unfold maxLen at hl_l
 refine zz Tryz.func26 rfl ?_
 show zO Tryz.prog _ _ ⟨[(0, .pv (.slc 0 true [])), (1, .pv (.slc l.length l_f (l.flatMap zj))), (2, .fnc 27 [])], [], 0, [], 26, 0⟩
 refine zaV (zH.loose (T' := [(0, .pv (.slc 0 true [])), (1, .pv (.slc l.length l_f (l.flatMap zj))), (2, .pv (.fn 27))]) (H' := []) ⟨⟨_, rfl, .inl rfl⟩, ⟨_, rfl, .inl rfl⟩, ⟨_, rfl, .inr rfl⟩, trivial⟩ trivial) ?_
 refine zd (zb rfl (zB (nx' := 1) rfl rfl rfl trivial (zc (ze (zd (zb rfl (za rfl rfl trivial (za rfl rfl trivial (za rfl rfl trivial (zB (o := .row _ _ [_]) (nx' := 2) rfl rfl rfl (by decide) ?_))))))))))
 refine zeD (m := 1) (new := [_]) (cs' := encI [(l.length : Int)]) rfl rfl (rfl) rfl rfl rfl rfl rfl rfl (rfl) (by first | decide | (unfold zM; omega) | (unfold zM; simp; omega) | (unfold zM; simp only [List.length_append, List.length_take, List.length_drop, List.length_cons, List.length_nil, IntKind.wrap_i64] at *; omega)) rfl rfl rfl rfl ?_
 refine za rfl rfl trivial (zc (ze (zd (zd (zb rfl (za rfl rfl trivial (za rfl rfl trivial (za rfl rfl trivial (zc (ze ?_))))))))))
 refine z6 (fun out_0 : List Int => (⟨[(0, .ref 0 1 0 out_0.length)], [(0, .row 3 1 (encI out_0))], 1, [], 26, 0⟩ : St)) (fun out_0 : List Int => za3 l 0 ([(l.length : Int)]) = out_0 ∧ (out_0.length ≤ 1 + 3008 * l.length)) ?_ ?_
 ·refine zC ?_
  refine z9 (fun w_ : Nat × (List Int) => match w_ with | (k0, out0) => (⟨[(0, .ref 0 1 0 out0.length), (2, .pv (.fn 27)), (14, .pv (.slc l.length l_f (l.flatMap zj))), (15, I l.length), (16, I k0)], [(0, .row 3 1 (encI out0))], 1, [], 26, 0⟩ : St)) (fun w_ : Nat × (List Int) => match w_ with | (k0, out0) => za3 (l.drop k0) k0 out0 = za3 l 0 ([(l.length : Int)]) ∧ k0 ≤ l.length ∧ out0.length ≤ 1 + 3008 * k0) (fun w_ : Nat × (List Int) => match w_ with | (k0, out0) => l.length - k0) (0, [(l.length : Int)]) (⟨rfl, Nat.zero_le _, by first | omega | simp | (simp; omega)⟩) ?_ (fun w_ hh_ => ?_)
  ·exact (zH.ren [(0, 2), (2, 0)] (by decide +kernel) (by decide +kernel) rfl ⟨⟨congrArg (fun n => some (AV.ref 2 1 0 n)) (by first | rfl | simp only [List.length_set] | simp | omega | (simp; omega)), rfl⟩, ⟨rfl, rfl⟩, ⟨rfl, rfl⟩, ⟨rfl, rfl⟩, ⟨rfl, rfl⟩, trivial⟩ ⟨⟨rfl, rfl, rfl⟩, trivial⟩ (by decide))
  obtain ⟨k0, out0⟩ := w_
  obtain ⟨hI0, hb0, hv0⟩ := hh_
  show zO Tryz.prog _ _ (⟨[(0, .ref 0 1 0 out0.length), (2, .pv (.fn 27)), (14, .pv (.slc l.length l_f (l.flatMap zj))), (15, I l.length), (16, I k0)], [(0, .row 3 1 (encI out0))], 1, [], 26, 0⟩ : St)
  refine zd (zb rfl (zl rfl rfl rfl rfl rfl trivial (zc (ze (zd ?_)))))
  refine zy rfl (fun h2 => ?_) (fun h2 => ?_)
  ·have g2 : (k0 : Int) < l.length := of_decide_eq_true h2
   have hk0 : k0 < l.length := by omega
   obtain ⟨x0, hx0⟩ : ∃ z_, l[k0]? = some z_ := ⟨_, List.getElem?_eq_getElem hk0⟩
   refine zA (ze (zd (zC (zd (zb rfl (zS (k := k0) rfl rfl rfl rfl hk0 (zaj (s := 8) (enc := zj) (fun _ => rfl) (by decide) hk0) rfl (zJ rfl rfl rfl (zap (s := 8) (enc := zj) (fun _ => rfl) hk0) (z2 (s := 8) (enc := zj) (fun _ => rfl) hx0) rfl (zB (o := .box [_, _, _, _, _, _, _, _]) (nx' := 2) rfl rfl rfl trivial ?_))))))))
   refine zx (H' := [(1, .box [_, _, _, _, _, _, _, _]), (0, _)]) rfl rfl rfl rfl rfl rfl (.inl rfl) rfl ?_
   refine zc (ze (zb rfl (za rfl rfl trivial (za rfl rfl trivial (za (v := (.agg [_, _, _, _, _, _, _, _])) rfl rfl (Nat.le_of_ble_eq_true rfl) ?_)))))
   refine zas (Hin := [.row _ _ _]) (out' := .ref 0 _ _ _) (H' := [(1, .box [_, _, _, _, _, _, _, _]), (0, .row _ _ _)]) (nx' := 2) [0] rfl rfl rfl rfl (.inl rfl) rfl rfl rfl rfl (zra out0 x0 (by first | omega | (simp; done) | (simp only [List.length_append, List.length_cons, List.length_nil] at *; omega) | (simp; omega)) (by first | exact zna hE (by assumption) | (first | omega | (simp; done) | (simp only [List.length_append, List.length_cons, List.length_nil] at *; omega) | (simp; omega)))) rfl (by decide) rfl rfl (.keep rfl (.keep rfl .nil)) (.keep rfl (.lose (v' := .undef) rfl (.keep rfl (.keep rfl (.keep rfl (.keep rfl (.keep rfl (.lose (v' := .undef) rfl (.keep rfl (.keep rfl (.keep rfl (.keep rfl .nil)))))))))))) rfl rfl rfl rfl ?_
   have p3 := zlS out0 x0
   refine za rfl rfl trivial (zc (zar (ze (zb rfl (zl rfl rfl rfl rfl rfl trivial (za rfl rfl trivial (zc ?_)))))))
   have e5 : za3 (l.drop k0) k0 out0 = za3 (l.drop (k0 + 1)) (k0 + 1) (ablW out0 x0) := by
    rewrite [zau hx0]
    rewrite [za3]
    try dsimp only
    all_goals rfl
   exact z5 (k0 + 1, (ablW out0 x0)) ⟨e5.symm.trans hI0, hk0, by first | omega | assumption | (simp only [List.length_append, List.length_cons, List.length_nil, List.length_set]; omega) | (simp; omega) | grind⟩ (by show l.length - (k0 + 1) < l.length - k0; omega) (zH.ren [] (by decide +kernel) (by decide +kernel) rfl ⟨⟨rfl, rfl⟩, ⟨rfl, rfl⟩, ⟨rfl, rfl⟩, ⟨rfl, rfl⟩, ⟨congrArg (fun n => some (I n)) (zcv (k := k0) (by first | omega | (simp; omega))), rfl⟩, trivial⟩ ⟨⟨rfl, rfl, rfl⟩, trivial⟩ (by decide))
  ·have g2 : ¬ ((k0 : Int) < l.length) := of_decide_eq_false h2
   have hk0 : k0 = l.length := by omega
   refine zV (zac (zal (zak rfl ?_)))
   have e6 : za3 l 0 ([(l.length : Int)]) = out0 := by
    rewrite [← hI0, hk0, List.drop_length]
    rewrite [za3]
    try dsimp only
    all_goals rfl
   exact zZ out0 ⟨e6, by first | assumption | omega | (simp; omega) | simp_all | grind⟩ (zH.ren [] (by decide +kernel) (by decide +kernel) rfl ⟨⟨rfl, rfl⟩, trivial⟩ ⟨⟨rfl, rfl, rfl⟩, trivial⟩ (by decide))
 ·rintro out_0 ⟨(hJ1 : za3 l 0 ([(l.length : Int)]) = out_0), hE0⟩
  show seqK _ _ _ .normal (⟨[(0, .ref 0 1 0 out_0.length)], [(0, .row 3 1 (encI out_0))], 1, [], 26, 0⟩ : St)
  refine ze (zd (zb rfl (za rfl rfl trivial (za rfl rfl trivial (zc (ze (zo ?_)))))))
  have e7 : zae l = out_0 := by
   unfold zae
   try dsimp only
   rewrite [hJ1]
   try dsimp only
   all_goals rfl
  rw [e7]
  exact zL [] [0] rfl ⟨trivial, trivial⟩ rfl (by (repeat' apply And.intro) <;> first | trivial | rfl | exact zi (fun _ => rfl) _ | exact zk _ | assumption) (rfl) rfl rfl rfl (by decide) rfl rfl ⟨⟨rfl, rfl⟩, trivial⟩

theorem zmR (l : List zG) : zae l = zpE [] l := by
  have go : ∀ (l : List zG) (k : Nat) (out : List Int), za3 l k out = zdJ l k out := by
    intro l
    induction l with
    | nil => intro k out; rw [za3, zdJ]
    | cons x l ih => intro k out; rw [za3, zdJ, ih]
  unfold zae zpE; dsimp only; rw [go]; rfl
theorem zds (l : List zG) (h : ∀ x ∈ l, x.Effects.length ≤ 1000) : (zae l).length ≤ 1 + 3008 * l.length := by
  rw [zmR]
  have := zmB [] l h
  simpa [Nat.add_assoc] using this

def flat (c : zu) : List Int :=
  ((zdT ((zbP (zbh (zae c.Abilities) c.Auras) c.Foes) ++ [c.Map.W, c.Map.H]) c.Map.Wall) ++ [c.Door.X, c.Door.Y, c.Lair.X, c.Lair.Y])
theorem zm2 (c : zu) (hF : Fits c) : Ok Tryz.prog 10 [z1 c] [] (.ref 0 1 0 (flat c).length) [.row 3 1 (encI (flat c))] [] := by
 refine Ok.len fun hlen => ?_
 have hl_c_Abilities : c.Abilities.length ≤ maxLen := hlen _ (by simp [zT, lens, zU])
 have hl_c_Auras : c.Auras.length ≤ maxLen := hlen _ (by simp [zT, lens, zU])
 have hl_c_Foes : c.Foes.length ≤ maxLen := hlen _ (by simp [zT, lens, zU])
 have hl_c_Map_Wall : c.Map.Wall.length ≤ maxLen := hlen _ (by simp [zT, lens, zU])
 unfold maxLen at hl_c_Abilities hl_c_Auras hl_c_Foes hl_c_Map_Wall
 have hf1 := hF.ab
 have hf2 := hF.au
 have hf3 := hF.fo
 have hf4 := hF.wall
 refine zz Tryz.func10 rfl ?_
 show zO Tryz.prog _ _ ⟨[(0, z1 c)], [], 0, [], 41, 0⟩
 refine zd (zb rfl (zB (o := .box [_, _, _, _, _, _, _, _, _, _]) (nx' := 1) rfl rfl rfl trivial (zB (nx' := 2) rfl rfl rfl trivial (zc (ze (zd ?_))))))
 refine zhh rfl (zfT [0, 3, 6, 1, 2, 4, 5, 7, 8, 9] (by decide +kernel) (zgf [(5, 2), (3, 2), (3, 1), (2, 1), (2, 0), (1, 0)] (by decide +kernel) (zjQ rfl ?_)))
 have p1 := zds c.Abilities (by first | assumption | exact hF.eff)
 have p2 := zfz (zae c.Abilities) c.Auras
 have p3 := zhL (zbh (zae c.Abilities) c.Auras) c.Foes (by first | assumption | exact hF.sc)
 refine zav (znj [(10, #[false, false, false, false, false, false, false, false, false, false], (⟨[(1, .ptr 0 0)], [(0, .box [.pv (.slc c.Abilities.length false (c.Abilities.flatMap zj)), .pv (.slc c.Auras.length false (c.Auras.flatMap zq)), .pv (.slc c.Foes.length false (c.Foes.flatMap zw)), I c.Map.W, I c.Map.H, .pv (.slc c.Map.Wall.length false (encB c.Map.Wall)), I c.Door.X, I c.Door.Y, I c.Lair.X, I c.Lair.Y])], 2, [], 41, 0⟩ : St)), (9, #[true, false, false, false, false, false, false, false, false, false], (⟨[(1, .ptr 0 0), (4, .ptr 0 0)], [(0, .box [.pv (.slc c.Abilities.length false (c.Abilities.flatMap zj)), .pv (.slc c.Auras.length false (c.Auras.flatMap zq)), .pv (.slc c.Foes.length false (c.Foes.flatMap zw)), I c.Map.W, I c.Map.H, .pv (.slc c.Map.Wall.length false (encB c.Map.Wall)), I c.Door.X, I c.Door.Y, I c.Lair.X, I c.Lair.Y])], 2, [], 41, 0⟩ : St)), (8, #[true, true, false, false, false, false, false, false, false, false], (⟨[(1, .ptr 0 0), (4, .ptr 0 0), (7, .ptr 0 1)], [(0, .box [.pv (.slc c.Abilities.length false (c.Abilities.flatMap zj)), .pv (.slc c.Auras.length false (c.Auras.flatMap zq)), .pv (.slc c.Foes.length false (c.Foes.flatMap zw)), I c.Map.W, I c.Map.H, .pv (.slc c.Map.Wall.length false (encB c.Map.Wall)), I c.Door.X, I c.Door.Y, I c.Lair.X, I c.Lair.Y])], 2, [], 41, 0⟩ : St)), (7, #[true, true, true, false, false, false, false, false, false, false], (⟨[(1, .ptr 0 0), (4, .ptr 0 0), (7, .ptr 0 1), (10, .ptr 0 2)], [(0, .box [.pv (.slc c.Abilities.length false (c.Abilities.flatMap zj)), .pv (.slc c.Auras.length false (c.Auras.flatMap zq)), .pv (.slc c.Foes.length false (c.Foes.flatMap zw)), I c.Map.W, I c.Map.H, .pv (.slc c.Map.Wall.length false (encB c.Map.Wall)), I c.Door.X, I c.Door.Y, I c.Lair.X, I c.Lair.Y])], 2, [], 41, 0⟩ : St)), (6, #[true, true, true, true, false, false, false, false, false, false], (⟨[(1, .ptr 0 0), (5, .pv (.slc c.Abilities.length false (c.Abilities.flatMap zj))), (7, .ptr 0 1), (10, .ptr 0 2)], [(0, .box [.pv (.slc c.Abilities.length false (c.Abilities.flatMap zj)), .pv (.slc c.Auras.length false (c.Auras.flatMap zq)), .pv (.slc c.Foes.length false (c.Foes.flatMap zw)), I c.Map.W, I c.Map.H, .pv (.slc c.Map.Wall.length false (encB c.Map.Wall)), I c.Door.X, I c.Door.Y, I c.Lair.X, I c.Lair.Y])], 2, [], 41, 0⟩ : St)), (6, #[true, true, true, false, false, true, false, false, false, false], (⟨[(1, .ptr 0 0), (4, .ptr 0 0), (8, .pv (.slc c.Auras.length false (c.Auras.flatMap zq))), (10, .ptr 0 2)], [(0, .box [.pv (.slc c.Abilities.length false (c.Abilities.flatMap zj)), .pv (.slc c.Auras.length false (c.Auras.flatMap zq)), .pv (.slc c.Foes.length false (c.Foes.flatMap zw)), I c.Map.W, I c.Map.H, .pv (.slc c.Map.Wall.length false (encB c.Map.Wall)), I c.Door.X, I c.Door.Y, I c.Lair.X, I c.Lair.Y])], 2, [], 41, 0⟩ : St)), (6, #[true, true, true, false, false, false, false, true, false, false], (⟨[(1, .ptr 0 0), (4, .ptr 0 0), (7, .ptr 0 1), (11, .pv (.slc c.Foes.length false (c.Foes.flatMap zw)))], [(0, .box [.pv (.slc c.Abilities.length false (c.Abilities.flatMap zj)), .pv (.slc c.Auras.length false (c.Auras.flatMap zq)), .pv (.slc c.Foes.length false (c.Foes.flatMap zw)), I c.Map.W, I c.Map.H, .pv (.slc c.Map.Wall.length false (encB c.Map.Wall)), I c.Door.X, I c.Door.Y, I c.Lair.X, I c.Lair.Y])], 2, [], 41, 0⟩ : St)), (5, #[true, true, true, true, true, false, false, false, false, false], (⟨[(1, .ptr 0 0), (6, .ref 2 1 0 (zae c.Abilities).length), (7, .ptr 0 1), (10, .ptr 0 2)], [(2, .row 3 1 (encI (zae c.Abilities))), (0, .box [.pv (.slc c.Abilities.length false (c.Abilities.flatMap zj)), .pv (.slc c.Auras.length false (c.Auras.flatMap zq)), .pv (.slc c.Foes.length false (c.Foes.flatMap zw)), I c.Map.W, I c.Map.H, .pv (.slc c.Map.Wall.length false (encB c.Map.Wall)), I c.Door.X, I c.Door.Y, I c.Lair.X, I c.Lair.Y])], 3, [], 41, 0⟩ : St)), (5, #[true, true, true, true, false, true, false, false, false, false], (⟨[(1, .ptr 0 0), (5, .pv (.slc c.Abilities.length false (c.Abilities.flatMap zj))), (8, .pv (.slc c.Auras.length false (c.Auras.flatMap zq))), (10, .ptr 0 2)], [(0, .box [.pv (.slc c.Abilities.length false (c.Abilities.flatMap zj)), .pv (.slc c.Auras.length false (c.Auras.flatMap zq)), .pv (.slc c.Foes.length false (c.Foes.flatMap zw)), I c.Map.W, I c.Map.H, .pv (.slc c.Map.Wall.length false (encB c.Map.Wall)), I c.Door.X, I c.Door.Y, I c.Lair.X, I c.Lair.Y])], 2, [], 41, 0⟩ : St)), (5, #[true, true, true, true, false, false, false, true, false, false], (⟨[(1, .ptr 0 0), (5, .pv (.slc c.Abilities.length false (c.Abilities.flatMap zj))), (7, .ptr 0 1), (11, .pv (.slc c.Foes.length false (c.Foes.flatMap zw)))], [(0, .box [.pv (.slc c.Abilities.length false (c.Abilities.flatMap zj)), .pv (.slc c.Auras.length false (c.Auras.flatMap zq)), .pv (.slc c.Foes.length false (c.Foes.flatMap zw)), I c.Map.W, I c.Map.H, .pv (.slc c.Map.Wall.length false (encB c.Map.Wall)), I c.Door.X, I c.Door.Y, I c.Lair.X, I c.Lair.Y])], 2, [], 41, 0⟩ : St)), (5, #[true, true, true, false, false, true, false, true, false, false], (⟨[(1, .ptr 0 0), (4, .ptr 0 0), (8, .pv (.slc c.Auras.length false (c.Auras.flatMap zq))), (11, .pv (.slc c.Foes.length false (c.Foes.flatMap zw)))], [(0, .box [.pv (.slc c.Abilities.length false (c.Abilities.flatMap zj)), .pv (.slc c.Auras.length false (c.Auras.flatMap zq)), .pv (.slc c.Foes.length false (c.Foes.flatMap zw)), I c.Map.W, I c.Map.H, .pv (.slc c.Map.Wall.length false (encB c.Map.Wall)), I c.Door.X, I c.Door.Y, I c.Lair.X, I c.Lair.Y])], 2, [], 41, 0⟩ : St)), (4, #[true, true, true, true, true, true, false, false, false, false], (⟨[(1, .ptr 0 0), (6, .ref 2 1 0 (zae c.Abilities).length), (8, .pv (.slc c.Auras.length false (c.Auras.flatMap zq))), (10, .ptr 0 2)], [(2, .row 3 1 (encI (zae c.Abilities))), (0, .box [.pv (.slc c.Abilities.length false (c.Abilities.flatMap zj)), .pv (.slc c.Auras.length false (c.Auras.flatMap zq)), .pv (.slc c.Foes.length false (c.Foes.flatMap zw)), I c.Map.W, I c.Map.H, .pv (.slc c.Map.Wall.length false (encB c.Map.Wall)), I c.Door.X, I c.Door.Y, I c.Lair.X, I c.Lair.Y])], 3, [], 41, 0⟩ : St)), (4, #[true, true, true, true, true, false, false, true, false, false], (⟨[(1, .ptr 0 0), (6, .ref 2 1 0 (zae c.Abilities).length), (7, .ptr 0 1), (11, .pv (.slc c.Foes.length false (c.Foes.flatMap zw)))], [(2, .row 3 1 (encI (zae c.Abilities))), (0, .box [.pv (.slc c.Abilities.length false (c.Abilities.flatMap zj)), .pv (.slc c.Auras.length false (c.Auras.flatMap zq)), .pv (.slc c.Foes.length false (c.Foes.flatMap zw)), I c.Map.W, I c.Map.H, .pv (.slc c.Map.Wall.length false (encB c.Map.Wall)), I c.Door.X, I c.Door.Y, I c.Lair.X, I c.Lair.Y])], 3, [], 41, 0⟩ : St)), (4, #[true, true, true, true, false, true, false, true, false, false], (⟨[(1, .ptr 0 0), (5, .pv (.slc c.Abilities.length false (c.Abilities.flatMap zj))), (8, .pv (.slc c.Auras.length false (c.Auras.flatMap zq))), (11, .pv (.slc c.Foes.length false (c.Foes.flatMap zw)))], [(0, .box [.pv (.slc c.Abilities.length false (c.Abilities.flatMap zj)), .pv (.slc c.Auras.length false (c.Auras.flatMap zq)), .pv (.slc c.Foes.length false (c.Foes.flatMap zw)), I c.Map.W, I c.Map.H, .pv (.slc c.Map.Wall.length false (encB c.Map.Wall)), I c.Door.X, I c.Door.Y, I c.Lair.X, I c.Lair.Y])], 2, [], 41, 0⟩ : St)), (3, #[true, true, true, true, true, true, true, false, false, false], (⟨[(1, .ptr 0 0), (9, .ref 2 1 0 (zbh (zae c.Abilities) c.Auras).length), (10, .ptr 0 2)], [(2, .row 3 1 (encI (zbh (zae c.Abilities) c.Auras))), (0, .box [.pv (.slc c.Abilities.length false (c.Abilities.flatMap zj)), .pv (.slc c.Auras.length false (c.Auras.flatMap zq)), .pv (.slc c.Foes.length false (c.Foes.flatMap zw)), I c.Map.W, I c.Map.H, .pv (.slc c.Map.Wall.length false (encB c.Map.Wall)), I c.Door.X, I c.Door.Y, I c.Lair.X, I c.Lair.Y])], 3, [], 41, 0⟩ : St)), (3, #[true, true, true, true, true, true, false, true, false, false], (⟨[(1, .ptr 0 0), (6, .ref 2 1 0 (zae c.Abilities).length), (8, .pv (.slc c.Auras.length false (c.Auras.flatMap zq))), (11, .pv (.slc c.Foes.length false (c.Foes.flatMap zw)))], [(2, .row 3 1 (encI (zae c.Abilities))), (0, .box [.pv (.slc c.Abilities.length false (c.Abilities.flatMap zj)), .pv (.slc c.Auras.length false (c.Auras.flatMap zq)), .pv (.slc c.Foes.length false (c.Foes.flatMap zw)), I c.Map.W, I c.Map.H, .pv (.slc c.Map.Wall.length false (encB c.Map.Wall)), I c.Door.X, I c.Door.Y, I c.Lair.X, I c.Lair.Y])], 3, [], 41, 0⟩ : St)), (2, #[true, true, true, true, true, true, true, true, false, false], (⟨[(1, .ptr 0 0), (9, .ref 2 1 0 (zbh (zae c.Abilities) c.Auras).length), (11, .pv (.slc c.Foes.length false (c.Foes.flatMap zw)))], [(2, .row 3 1 (encI (zbh (zae c.Abilities) c.Auras))), (0, .box [.pv (.slc c.Abilities.length false (c.Abilities.flatMap zj)), .pv (.slc c.Auras.length false (c.Auras.flatMap zq)), .pv (.slc c.Foes.length false (c.Foes.flatMap zw)), I c.Map.W, I c.Map.H, .pv (.slc c.Map.Wall.length false (encB c.Map.Wall)), I c.Door.X, I c.Door.Y, I c.Lair.X, I c.Lair.Y])], 3, [], 41, 0⟩ : St)), (1, #[true, true, true, true, true, true, true, true, true, false], (⟨[(1, .ptr 0 0), (12, .ref 2 1 0 (zbP (zbh (zae c.Abilities) c.Auras) c.Foes).length)], [(2, .row 3 1 (encI (zbP (zbh (zae c.Abilities) c.Auras) c.Foes))), (0, .box [.pv (.slc c.Abilities.length false (c.Abilities.flatMap zj)), .pv (.slc c.Auras.length false (c.Auras.flatMap zq)), .pv (.slc c.Foes.length false (c.Foes.flatMap zw)), I c.Map.W, I c.Map.H, .pv (.slc c.Map.Wall.length false (encB c.Map.Wall)), I c.Door.X, I c.Door.Y, I c.Lair.X, I c.Lair.Y])], 3, [], 41, 0⟩ : St)), (0, #[true, true, true, true, true, true, true, true, true, true], (⟨[(1, .ptr 0 0), (3, .ref 2 1 0 (zbP (zbh (zae c.Abilities) c.Auras) c.Foes).length)], [(2, .row 3 1 (encI (zbP (zbh (zae c.Abilities) c.Auras) c.Foes))), (0, .box [.pv (.slc c.Abilities.length false (c.Abilities.flatMap zj)), .pv (.slc c.Auras.length false (c.Auras.flatMap zq)), .pv (.slc c.Foes.length false (c.Foes.flatMap zw)), I c.Map.W, I c.Map.H, .pv (.slc c.Map.Wall.length false (encB c.Map.Wall)), I c.Door.X, I c.Door.Y, I c.Lair.X, I c.Lair.Y])], 3, [], 41, 0⟩ : St))] ?_ 0 _ rfl) rfl (zH.of_less (zaa rfl ⟨⟨rfl, rfl⟩, trivial⟩ ⟨⟨rfl, rfl, rfl⟩, trivial⟩ (fun _ _ => .inr (Nat.zero_le _))))
 intro k_ x_ hx_ ih_
 match k_, x_, hx_, ih_ with
 | 0, _, rfl, ih_ =>
  show zbU _ _ _ 10 #[false, false, false, false, false, false, false, false, false, false] _
  refine zcb (m1 := 0) (by decide +kernel) rfl ?_
  refine za rfl rfl (by decide) ?_
  exact zc (zav (ih_ 1 _ (by decide) rfl) rfl (zH.of_less (zaa rfl ⟨⟨rfl, rfl⟩, ⟨rfl, rfl⟩, trivial⟩ ⟨⟨rfl, rfl, rfl⟩, trivial⟩ (fun _ _ => .inr (Nat.zero_le _)))))
 | 1, _, rfl, ih_ =>
  show zbU _ _ _ 9 #[true, false, false, false, false, false, false, false, false, false] _
  refine zcb (m1 := 1) (by decide +kernel) rfl ?_
  refine za rfl rfl (by decide) ?_
  exact zc (zav (ih_ 2 _ (by decide) rfl) rfl (zH.of_less (zaa rfl ⟨⟨rfl, rfl⟩, ⟨rfl, rfl⟩, ⟨rfl, rfl⟩, trivial⟩ ⟨⟨rfl, rfl, rfl⟩, trivial⟩ (fun _ _ => .inr (Nat.zero_le _)))))
 | 2, _, rfl, ih_ =>
  show zbU _ _ _ 8 #[true, true, false, false, false, false, false, false, false, false] _
  refine zcb (m1 := 2) (by decide +kernel) rfl ?_
  refine za rfl rfl (by decide) ?_
  exact zc (zav (ih_ 3 _ (by decide) rfl) rfl (zH.of_less (zaa rfl ⟨⟨rfl, rfl⟩, ⟨rfl, rfl⟩, ⟨rfl, rfl⟩, ⟨rfl, rfl⟩, trivial⟩ ⟨⟨rfl, rfl, rfl⟩, trivial⟩ (fun _ _ => .inr (Nat.zero_le _)))))
 | 3, _, rfl, ih_ =>
  show zbU _ _ _ 7 #[true, true, true, false, false, false, false, false, false, false] _
  refine zqo (m1 := 3) (m2 := 5) (m3 := 7) (by decide +kernel) rfl rfl rfl ?_ ?_ ?_
  ·refine za rfl rfl trivial ?_
   exact zc (zav (ih_ 4 _ (by decide) rfl) rfl (zH.of_less (zaa rfl ⟨⟨rfl, rfl⟩, ⟨rfl, rfl⟩, ⟨rfl, rfl⟩, ⟨rfl, rfl⟩, trivial⟩ ⟨⟨rfl, rfl, rfl⟩, trivial⟩ (fun _ _ => .inr (Nat.zero_le _)))))
  ·refine za rfl rfl trivial ?_
   exact zc (zav (ih_ 5 _ (by decide) rfl) rfl (zH.of_less (zaa rfl ⟨⟨rfl, rfl⟩, ⟨rfl, rfl⟩, ⟨rfl, rfl⟩, ⟨rfl, rfl⟩, trivial⟩ ⟨⟨rfl, rfl, rfl⟩, trivial⟩ (fun _ _ => .inr (Nat.zero_le _)))))
  ·refine za rfl rfl trivial ?_
   exact zc (zav (ih_ 6 _ (by decide) rfl) rfl (zH.of_less (zaa rfl ⟨⟨rfl, rfl⟩, ⟨rfl, rfl⟩, ⟨rfl, rfl⟩, ⟨rfl, rfl⟩, trivial⟩ ⟨⟨rfl, rfl, rfl⟩, trivial⟩ (fun _ _ => .inr (Nat.zero_le _)))))
 | 4, _, rfl, ih_ =>
  show zbU _ _ _ 6 #[true, true, true, true, false, false, false, false, false, false] _
  refine zqo (m1 := 4) (m2 := 5) (m3 := 7) (by decide +kernel) rfl rfl rfl ?_ ?_ ?_
  ·refine zX (Hin := []) (out' := .ref 2 _ _ _) (H' := [(2, .row _ _ _), (0, .box [_, _, _, _, _, _, _, _, _, _])]) (nx' := 3) [] rfl rfl rfl rfl (.inl rfl) rfl rfl rfl rfl (zfx c.Abilities false (by first | omega | (simp; done) | (simp only [List.length_append, List.length_cons, List.length_nil] at *; omega) | (simp; omega)) (by first | assumption | exact hF.eff)) rfl (by decide) rfl rfl rfl rfl rfl ?_
   have p501 := zds c.Abilities (by first | assumption | exact hF.eff)
   exact zc (zav (ih_ 7 _ (by decide) rfl) rfl (zH.of_less (zaa rfl ⟨⟨rfl, rfl⟩, ⟨rfl, rfl⟩, ⟨rfl, rfl⟩, ⟨rfl, rfl⟩, trivial⟩ ⟨⟨rfl, rfl, rfl⟩, ⟨rfl, rfl, rfl⟩, trivial⟩ (fun _ _ => .inr (Nat.zero_le _)))))
  ·refine za rfl rfl trivial ?_
   exact zc (zav (ih_ 8 _ (by decide) rfl) rfl (zH.of_less (zaa rfl ⟨⟨rfl, rfl⟩, ⟨rfl, rfl⟩, ⟨rfl, rfl⟩, ⟨rfl, rfl⟩, trivial⟩ ⟨⟨rfl, rfl, rfl⟩, trivial⟩ (fun _ _ => .inr (Nat.zero_le _)))))
  ·refine za rfl rfl trivial ?_
   exact zc (zav (ih_ 9 _ (by decide) rfl) rfl (zH.of_less (zaa rfl ⟨⟨rfl, rfl⟩, ⟨rfl, rfl⟩, ⟨rfl, rfl⟩, ⟨rfl, rfl⟩, trivial⟩ ⟨⟨rfl, rfl, rfl⟩, trivial⟩ (fun _ _ => .inr (Nat.zero_le _)))))
 | 5, _, rfl, ih_ =>
  show zbU _ _ _ 6 #[true, true, true, false, false, true, false, false, false, false] _
  refine zgG (m1 := 3) (m2 := 7) (by decide +kernel) rfl rfl ?_ ?_
  ·refine za rfl rfl trivial ?_
   exact zc (zav (ih_ 8 _ (by decide) rfl) rfl (zH.of_less (zaa rfl ⟨⟨rfl, rfl⟩, ⟨rfl, rfl⟩, ⟨rfl, rfl⟩, ⟨rfl, rfl⟩, trivial⟩ ⟨⟨rfl, rfl, rfl⟩, trivial⟩ (fun _ _ => .inr (Nat.zero_le _)))))
  ·refine za rfl rfl trivial ?_
   exact zc (zav (ih_ 10 _ (by decide) rfl) rfl (zH.of_less (zaa rfl ⟨⟨rfl, rfl⟩, ⟨rfl, rfl⟩, ⟨rfl, rfl⟩, ⟨rfl, rfl⟩, trivial⟩ ⟨⟨rfl, rfl, rfl⟩, trivial⟩ (fun _ _ => .inr (Nat.zero_le _)))))
 | 6, _, rfl, ih_ =>
  show zbU _ _ _ 6 #[true, true, true, false, false, false, false, true, false, false] _
  refine zgG (m1 := 3) (m2 := 5) (by decide +kernel) rfl rfl ?_ ?_
  ·refine za rfl rfl trivial ?_
   exact zc (zav (ih_ 9 _ (by decide) rfl) rfl (zH.of_less (zaa rfl ⟨⟨rfl, rfl⟩, ⟨rfl, rfl⟩, ⟨rfl, rfl⟩, ⟨rfl, rfl⟩, trivial⟩ ⟨⟨rfl, rfl, rfl⟩, trivial⟩ (fun _ _ => .inr (Nat.zero_le _)))))
  ·refine za rfl rfl trivial ?_
   exact zc (zav (ih_ 10 _ (by decide) rfl) rfl (zH.of_less (zaa rfl ⟨⟨rfl, rfl⟩, ⟨rfl, rfl⟩, ⟨rfl, rfl⟩, ⟨rfl, rfl⟩, trivial⟩ ⟨⟨rfl, rfl, rfl⟩, trivial⟩ (fun _ _ => .inr (Nat.zero_le _)))))
 | 7, _, rfl, ih_ =>
  show zbU _ _ _ 5 #[true, true, true, true, true, false, false, false, false, false] _
  refine zgG (m1 := 5) (m2 := 7) (by decide +kernel) rfl rfl ?_ ?_
  ·refine za rfl rfl trivial ?_
   exact zc (zav (ih_ 11 _ (by decide) rfl) rfl (zH.of_less (zaa rfl ⟨⟨rfl, rfl⟩, ⟨rfl, rfl⟩, ⟨rfl, rfl⟩, ⟨rfl, rfl⟩, trivial⟩ ⟨⟨rfl, rfl, rfl⟩, ⟨rfl, rfl, rfl⟩, trivial⟩ (fun _ _ => .inr (Nat.zero_le _)))))
  ·refine za rfl rfl trivial ?_
   exact zc (zav (ih_ 12 _ (by decide) rfl) rfl (zH.of_less (zaa rfl ⟨⟨rfl, rfl⟩, ⟨rfl, rfl⟩, ⟨rfl, rfl⟩, ⟨rfl, rfl⟩, trivial⟩ ⟨⟨rfl, rfl, rfl⟩, ⟨rfl, rfl, rfl⟩, trivial⟩ (fun _ _ => .inr (Nat.zero_le _)))))
 | 8, _, rfl, ih_ =>
  show zbU _ _ _ 5 #[true, true, true, true, false, true, false, false, false, false] _
  refine zgG (m1 := 4) (m2 := 7) (by decide +kernel) rfl rfl ?_ ?_
  ·refine zX (Hin := []) (out' := .ref 2 _ _ _) (H' := [(2, .row _ _ _), (0, .box [_, _, _, _, _, _, _, _, _, _])]) (nx' := 3) [] rfl rfl rfl rfl (.inl rfl) rfl rfl rfl rfl (zfx c.Abilities false (by first | omega | (simp; done) | (simp only [List.length_append, List.length_cons, List.length_nil] at *; omega) | (simp; omega)) (by first | assumption | exact hF.eff)) rfl (by decide) rfl rfl rfl rfl rfl ?_
   have p502 := zds c.Abilities (by first | assumption | exact hF.eff)
   exact zc (zav (ih_ 11 _ (by decide) rfl) rfl (zH.of_less (zaa rfl ⟨⟨rfl, rfl⟩, ⟨rfl, rfl⟩, ⟨rfl, rfl⟩, ⟨rfl, rfl⟩, trivial⟩ ⟨⟨rfl, rfl, rfl⟩, ⟨rfl, rfl, rfl⟩, trivial⟩ (fun _ _ => .inr (Nat.zero_le _)))))
  ·refine za rfl rfl trivial ?_
   exact zc (zav (ih_ 13 _ (by decide) rfl) rfl (zH.of_less (zaa rfl ⟨⟨rfl, rfl⟩, ⟨rfl, rfl⟩, ⟨rfl, rfl⟩, ⟨rfl, rfl⟩, trivial⟩ ⟨⟨rfl, rfl, rfl⟩, trivial⟩ (fun _ _ => .inr (Nat.zero_le _)))))
 | 9, _, rfl, ih_ =>
  show zbU _ _ _ 5 #[true, true, true, true, false, false, false, true, false, false] _
  refine zgG (m1 := 4) (m2 := 5) (by decide +kernel) rfl rfl ?_ ?_
  ·refine zX (Hin := []) (out' := .ref 2 _ _ _) (H' := [(2, .row _ _ _), (0, .box [_, _, _, _, _, _, _, _, _, _])]) (nx' := 3) [] rfl rfl rfl rfl (.inl rfl) rfl rfl rfl rfl (zfx c.Abilities false (by first | omega | (simp; done) | (simp only [List.length_append, List.length_cons, List.length_nil] at *; omega) | (simp; omega)) (by first | assumption | exact hF.eff)) rfl (by decide) rfl rfl rfl rfl rfl ?_
   have p503 := zds c.Abilities (by first | assumption | exact hF.eff)
   exact zc (zav (ih_ 12 _ (by decide) rfl) rfl (zH.of_less (zaa rfl ⟨⟨rfl, rfl⟩, ⟨rfl, rfl⟩, ⟨rfl, rfl⟩, ⟨rfl, rfl⟩, trivial⟩ ⟨⟨rfl, rfl, rfl⟩, ⟨rfl, rfl, rfl⟩, trivial⟩ (fun _ _ => .inr (Nat.zero_le _)))))
  ·refine za rfl rfl trivial ?_
   exact zc (zav (ih_ 13 _ (by decide) rfl) rfl (zH.of_less (zaa rfl ⟨⟨rfl, rfl⟩, ⟨rfl, rfl⟩, ⟨rfl, rfl⟩, ⟨rfl, rfl⟩, trivial⟩ ⟨⟨rfl, rfl, rfl⟩, trivial⟩ (fun _ _ => .inr (Nat.zero_le _)))))
 | 10, _, rfl, ih_ =>
  show zbU _ _ _ 5 #[true, true, true, false, false, true, false, true, false, false] _
  refine zcb (m1 := 3) (by decide +kernel) rfl ?_
  refine za rfl rfl trivial ?_
  exact zc (zav (ih_ 13 _ (by decide) rfl) rfl (zH.of_less (zaa rfl ⟨⟨rfl, rfl⟩, ⟨rfl, rfl⟩, ⟨rfl, rfl⟩, ⟨rfl, rfl⟩, trivial⟩ ⟨⟨rfl, rfl, rfl⟩, trivial⟩ (fun _ _ => .inr (Nat.zero_le _)))))
 | 11, _, rfl, ih_ =>
  show zbU _ _ _ 4 #[true, true, true, true, true, true, false, false, false, false] _
  refine zgG (m1 := 6) (m2 := 7) (by decide +kernel) rfl rfl ?_ ?_
  ·refine zas (Hin := [.row _ _ _]) (out' := .ref 2 _ _ _) (H' := [(2, .row _ _ _), (0, .box [_, _, _, _, _, _, _, _, _, _])]) (nx' := 3) [2] rfl rfl rfl rfl (.inl rfl) rfl rfl rfl rfl (zlm (zae c.Abilities) c.Auras false (by first | omega | (simp; done) | (simp only [List.length_append, List.length_cons, List.length_nil] at *; omega) | (simp; omega))) rfl (by decide) rfl rfl (.keep rfl (.keep rfl .nil)) (.keep rfl (.lose (v' := .undef) rfl (.keep rfl (.keep rfl .nil)))) rfl rfl rfl rfl ?_
   have p504 := zfz (zae c.Abilities) c.Auras
   exact zc (zav (ih_ 14 _ (by decide) rfl) rfl (zH.of_less (zaa rfl ⟨⟨rfl, rfl⟩, ⟨rfl, rfl⟩, ⟨rfl, rfl⟩, trivial⟩ ⟨⟨rfl, rfl, rfl⟩, ⟨rfl, rfl, rfl⟩, trivial⟩ (fun _ _ => .inr (Nat.zero_le _)))))
  ·refine za rfl rfl trivial ?_
   exact zc (zav (ih_ 15 _ (by decide) rfl) rfl (zH.of_less (zaa rfl ⟨⟨rfl, rfl⟩, ⟨rfl, rfl⟩, ⟨rfl, rfl⟩, ⟨rfl, rfl⟩, trivial⟩ ⟨⟨rfl, rfl, rfl⟩, ⟨rfl, rfl, rfl⟩, trivial⟩ (fun _ _ => .inr (Nat.zero_le _)))))
 | 12, _, rfl, ih_ =>
  show zbU _ _ _ 4 #[true, true, true, true, true, false, false, true, false, false] _
  refine zcb (m1 := 5) (by decide +kernel) rfl ?_
  refine za rfl rfl trivial ?_
  exact zc (zav (ih_ 15 _ (by decide) rfl) rfl (zH.of_less (zaa rfl ⟨⟨rfl, rfl⟩, ⟨rfl, rfl⟩, ⟨rfl, rfl⟩, ⟨rfl, rfl⟩, trivial⟩ ⟨⟨rfl, rfl, rfl⟩, ⟨rfl, rfl, rfl⟩, trivial⟩ (fun _ _ => .inr (Nat.zero_le _)))))
 | 13, _, rfl, ih_ =>
  show zbU _ _ _ 4 #[true, true, true, true, false, true, false, true, false, false] _
  refine zcb (m1 := 4) (by decide +kernel) rfl ?_
  refine zX (Hin := []) (out' := .ref 2 _ _ _) (H' := [(2, .row _ _ _), (0, .box [_, _, _, _, _, _, _, _, _, _])]) (nx' := 3) [] rfl rfl rfl rfl (.inl rfl) rfl rfl rfl rfl (zfx c.Abilities false (by first | omega | (simp; done) | (simp only [List.length_append, List.length_cons, List.length_nil] at *; omega) | (simp; omega)) (by first | assumption | exact hF.eff)) rfl (by decide) rfl rfl rfl rfl rfl ?_
  have p505 := zds c.Abilities (by first | assumption | exact hF.eff)
  exact zc (zav (ih_ 15 _ (by decide) rfl) rfl (zH.of_less (zaa rfl ⟨⟨rfl, rfl⟩, ⟨rfl, rfl⟩, ⟨rfl, rfl⟩, ⟨rfl, rfl⟩, trivial⟩ ⟨⟨rfl, rfl, rfl⟩, ⟨rfl, rfl, rfl⟩, trivial⟩ (fun _ _ => .inr (Nat.zero_le _)))))
 | 14, _, rfl, ih_ =>
  show zbU _ _ _ 3 #[true, true, true, true, true, true, true, false, false, false] _
  refine zcb (m1 := 7) (by decide +kernel) rfl ?_
  refine za rfl rfl trivial ?_
  exact zc (zav (ih_ 16 _ (by decide) rfl) rfl (zH.of_less (zaa rfl ⟨⟨rfl, rfl⟩, ⟨rfl, rfl⟩, ⟨rfl, rfl⟩, trivial⟩ ⟨⟨rfl, rfl, rfl⟩, ⟨rfl, rfl, rfl⟩, trivial⟩ (fun _ _ => .inr (Nat.zero_le _)))))
 | 15, _, rfl, ih_ =>
  show zbU _ _ _ 3 #[true, true, true, true, true, true, false, true, false, false] _
  refine zcb (m1 := 6) (by decide +kernel) rfl ?_
  refine zas (Hin := [.row _ _ _]) (out' := .ref 2 _ _ _) (H' := [(2, .row _ _ _), (0, .box [_, _, _, _, _, _, _, _, _, _])]) (nx' := 3) [2] rfl rfl rfl rfl (.inl rfl) rfl rfl rfl rfl (zlm (zae c.Abilities) c.Auras false (by first | omega | (simp; done) | (simp only [List.length_append, List.length_cons, List.length_nil] at *; omega) | (simp; omega))) rfl (by decide) rfl rfl (.keep rfl (.keep rfl .nil)) (.keep rfl (.lose (v' := .undef) rfl (.keep rfl (.keep rfl .nil)))) rfl rfl rfl rfl ?_
  have p506 := zfz (zae c.Abilities) c.Auras
  exact zc (zav (ih_ 16 _ (by decide) rfl) rfl (zH.of_less (zaa rfl ⟨⟨rfl, rfl⟩, ⟨rfl, rfl⟩, ⟨rfl, rfl⟩, trivial⟩ ⟨⟨rfl, rfl, rfl⟩, ⟨rfl, rfl, rfl⟩, trivial⟩ (fun _ _ => .inr (Nat.zero_le _)))))
 | 16, _, rfl, ih_ =>
  show zbU _ _ _ 2 #[true, true, true, true, true, true, true, true, false, false] _
  refine zcb (m1 := 8) (by decide +kernel) rfl ?_
  refine zas (Hin := [.row _ _ _]) (out' := .ref 2 _ _ _) (H' := [(2, .row _ _ _), (0, .box [_, _, _, _, _, _, _, _, _, _])]) (nx' := 3) [2] rfl rfl rfl rfl (.inl rfl) rfl rfl rfl rfl (zpJ (zbh (zae c.Abilities) c.Auras) c.Foes false (by first | omega | (simp; done) | (simp only [List.length_append, List.length_cons, List.length_nil] at *; omega) | (simp; omega)) (by first | assumption | exact hF.sc)) rfl (by decide) rfl rfl (.keep rfl (.keep rfl .nil)) (.keep rfl (.lose (v' := .undef) rfl (.keep rfl .nil))) rfl rfl rfl rfl ?_
  have p507 := zhL (zbh (zae c.Abilities) c.Auras) c.Foes (by first | assumption | exact hF.sc)
  exact zc (zav (ih_ 17 _ (by decide) rfl) rfl (zH.of_less (zaa rfl ⟨⟨rfl, rfl⟩, ⟨rfl, rfl⟩, trivial⟩ ⟨⟨rfl, rfl, rfl⟩, ⟨rfl, rfl, rfl⟩, trivial⟩ (fun _ _ => .inr (Nat.zero_le _)))))
 | 17, _, rfl, ih_ =>
  show zbU _ _ _ 1 #[true, true, true, true, true, true, true, true, true, false] _
  refine zcb (m1 := 9) (by decide +kernel) rfl ?_
  refine za rfl rfl trivial ?_
  exact zc (zav (ih_ 18 _ (by decide) rfl) rfl (zH.of_less (zaa rfl ⟨⟨rfl, rfl⟩, ⟨rfl, rfl⟩, trivial⟩ ⟨⟨rfl, rfl, rfl⟩, ⟨rfl, rfl, rfl⟩, trivial⟩ (fun _ _ => .inr (Nat.zero_le _)))))
 | 18, _, rfl, ih_ =>
  show zbU _ _ _ 0 #[true, true, true, true, true, true, true, true, true, true] _
  refine zfM (by decide +kernel) ?_
  refine ze (zd ?_)
  refine zhh rfl (zfT [0, 1, 2, 3, 4, 5, 6, 7, 9, 10, 8, 11, 12, 13] (by decide +kernel) (zgf [(10, 9), (10, 8)] (by decide +kernel) (zmb 11 10 (by decide +kernel) ?_ ?_)))
  ·refine zjZ (by decide +kernel) rfl ?_
   refine za rfl rfl trivial (za rfl rfl (by decide) (za rfl rfl (by decide) (za rfl rfl trivial (za rfl rfl (by decide) (za rfl rfl (by decide) (za rfl rfl trivial (zB (o := .row _ _ [_, _]) (nx' := 4) rfl rfl rfl (by decide) (za rfl rfl (by decide) (za rfl rfl (by decide) ?_)))))))))
   refine z3 (m := 2) (new := [_, _]) (cs' := encI ((zbP (zbh (zae c.Abilities) c.Auras) c.Foes) ++ [c.Map.W, c.Map.H])) (n' := ((zbP (zbh (zae c.Abilities) c.Auras) c.Foes) ++ [c.Map.W, c.Map.H]).length) (H' := [(3, .row _ _ _), (2, .row _ _ _), (0, .box [_, _, _, _, _, _, _, _, _, _])]) rfl rfl rfl (rfl) rfl rfl rfl rfl rfl rfl (zk (zbP (zbh (zae c.Abilities) c.Auras) c.Foes)) (rfl) (by first | decide | (unfold zM; omega) | (unfold zM; simp; omega) | (unfold zM; simp only [List.length_append, List.length_take, List.length_drop, List.length_cons, List.length_nil, IntKind.wrap_i64] at *; omega)) (zbY (zbP (zbh (zae c.Abilities) c.Auras) c.Foes) ([c.Map.W, c.Map.H])) (zbx (zbP (zbh (zae c.Abilities) c.Auras) c.Foes) ([c.Map.W, c.Map.H])) (.inr (by decide +kernel)) rfl rfl (.keep rfl (.keep rfl (.keep rfl .nil))) (.keep rfl (.keep rfl (.keep rfl (.keep rfl (.keep rfl (.keep rfl (.keep rfl (.keep rfl (.keep rfl (.lose (v' := .undef) rfl (.keep rfl (.lose (v' := .undef) rfl .nil)))))))))))) ?_
   refine za rfl rfl trivial ?_
   refine zas (Hin := [.row _ _ _]) (out' := .ref 2 _ _ _) (H' := [(3, .row _ _ _), (2, .row _ _ _), (0, .box [_, _, _, _, _, _, _, _, _, _])]) (nx' := 4) [2] rfl rfl rfl rfl (.inr (by decide +kernel)) rfl rfl rfl rfl (zlP ((zbP (zbh (zae c.Abilities) c.Auras) c.Foes) ++ [c.Map.W, c.Map.H]) c.Map.Wall false (by first | omega | (simp; done) | (simp only [List.length_append, List.length_cons, List.length_nil] at *; omega) | (simp; omega))) rfl (by decide) rfl rfl (.keep rfl (.keep rfl (.keep rfl .nil))) (.keep rfl (.lose (v' := .undef) rfl (.keep rfl (.keep rfl (.keep rfl (.keep rfl (.keep rfl (.keep rfl (.keep rfl (.keep rfl (.keep rfl (.keep rfl (.keep rfl (.keep rfl .nil)))))))))))))) rfl rfl rfl rfl ?_
   have p508 := zg7 ((zbP (zbh (zae c.Abilities) c.Auras) c.Foes) ++ [c.Map.W, c.Map.H]) c.Map.Wall
   refine za rfl rfl trivial (zc (ze (zd (zb rfl (za rfl rfl trivial (za rfl rfl (by decide) (za rfl rfl (by decide) (za rfl rfl trivial (za rfl rfl (by decide) (za rfl rfl (by decide) (za rfl rfl trivial ?_)))))))))))
   refine za rfl rfl (by decide) (za rfl rfl (by decide) (za rfl rfl trivial (za rfl rfl (by decide) (za rfl rfl (by decide) (za rfl rfl trivial (zB (o := .row _ _ [_, _, _, _]) (nx' := 5) rfl rfl rfl (by decide) ?_))))))
   refine z3 (m := 4) (new := [_, _, _, _]) (cs' := encI ((zdT ((zbP (zbh (zae c.Abilities) c.Auras) c.Foes) ++ [c.Map.W, c.Map.H]) c.Map.Wall) ++ [c.Door.X, c.Door.Y, c.Lair.X, c.Lair.Y])) (n' := ((zdT ((zbP (zbh (zae c.Abilities) c.Auras) c.Foes) ++ [c.Map.W, c.Map.H]) c.Map.Wall) ++ [c.Door.X, c.Door.Y, c.Lair.X, c.Lair.Y]).length) (H' := [(4, .row _ _ _), (3, .row _ _ _), (2, .row _ _ _), (0, .box [_, _, _, _, _, _, _, _, _, _])]) rfl rfl rfl (rfl) rfl rfl rfl rfl rfl rfl (zk (zdT ((zbP (zbh (zae c.Abilities) c.Auras) c.Foes) ++ [c.Map.W, c.Map.H]) c.Map.Wall)) (rfl) (by first | decide | (unfold zM; omega) | (unfold zM; simp; omega) | (unfold zM; simp only [List.length_append, List.length_take, List.length_drop, List.length_cons, List.length_nil, IntKind.wrap_i64] at *; omega)) (zbY (zdT ((zbP (zbh (zae c.Abilities) c.Auras) c.Foes) ++ [c.Map.W, c.Map.H]) c.Map.Wall) ([c.Door.X, c.Door.Y, c.Lair.X, c.Lair.Y])) (zbx (zdT ((zbP (zbh (zae c.Abilities) c.Auras) c.Foes) ++ [c.Map.W, c.Map.H]) c.Map.Wall) ([c.Door.X, c.Door.Y, c.Lair.X, c.Lair.Y])) (.inl rfl) rfl rfl (.keep rfl (.keep rfl (.keep rfl (.keep rfl .nil)))) (.keep rfl (.keep rfl (.keep rfl (.keep rfl (.keep rfl (.keep rfl (.keep rfl (.keep rfl (.keep rfl (.keep rfl (.keep rfl (.keep rfl (.keep rfl (.lose (v' := .undef) rfl (.lose (v' := .undef) rfl (.lose (v' := .undef) rfl (.keep rfl (.keep rfl (.keep rfl (.keep rfl (.keep rfl (.keep rfl (.keep rfl (.keep rfl (.keep rfl (.keep rfl (.keep rfl (.keep rfl (.keep rfl (.keep rfl .nil)))))))))))))))))))))))))))))) ?_
   refine za rfl rfl trivial (zc (ze (zo ?_)))
   have e509 : flat c = ((zdT ((zbP (zbh (zae c.Abilities) c.Auras) c.Foes) ++ [c.Map.W, c.Map.H]) c.Map.Wall) ++ [c.Door.X, c.Door.Y, c.Lair.X, c.Lair.Y]) := by
    unfold flat
    try dsimp only
    all_goals rfl
   rw [e509]
   exact zL [] [2] rfl ⟨trivial, trivial⟩ rfl (by (repeat' apply And.intro) <;> first | trivial | rfl | exact zi (fun _ => rfl) _ | exact zk _ | assumption) (rfl) rfl rfl rfl (by decide) rfl rfl ⟨⟨rfl, rfl⟩, trivial⟩
  ·refine zfT [0, 1, 2, 3, 4, 5, 6, 7, 8, 9, 11, 10, 12, 13] (by decide +kernel) (zjZ (by decide +kernel) rfl ?_)
   refine za rfl rfl trivial (za rfl rfl (by decide) (za rfl rfl (by decide) (za rfl rfl trivial (za rfl rfl (by decide) (za rfl rfl (by decide) (za rfl rfl trivial (zB (o := .row _ _ [_, _]) (nx' := 4) rfl rfl rfl (by decide) (za rfl rfl (by decide) (za rfl rfl (by decide) (za rfl rfl trivial ?_))))))))))
   refine z3 (m := 2) (new := [_, _]) (cs' := encI ((zbP (zbh (zae c.Abilities) c.Auras) c.Foes) ++ [c.Map.W, c.Map.H])) (n' := ((zbP (zbh (zae c.Abilities) c.Auras) c.Foes) ++ [c.Map.W, c.Map.H]).length) (H' := [(3, .row _ _ _), (2, .row _ _ _), (0, .box [_, _, _, _, _, _, _, _, _, _])]) rfl rfl rfl (rfl) rfl rfl rfl rfl rfl rfl (zk (zbP (zbh (zae c.Abilities) c.Auras) c.Foes)) (rfl) (by first | decide | (unfold zM; omega) | (unfold zM; simp; omega) | (unfold zM; simp only [List.length_append, List.length_take, List.length_drop, List.length_cons, List.length_nil, IntKind.wrap_i64] at *; omega)) (zbY (zbP (zbh (zae c.Abilities) c.Auras) c.Foes) ([c.Map.W, c.Map.H])) (zbx (zbP (zbh (zae c.Abilities) c.Auras) c.Foes) ([c.Map.W, c.Map.H])) (.inr (by decide +kernel)) rfl rfl (.keep rfl (.keep rfl (.keep rfl .nil))) (.keep rfl (.keep rfl (.keep rfl (.keep rfl (.keep rfl (.keep rfl (.keep rfl (.keep rfl (.keep rfl (.keep rfl (.lose (v' := .undef) rfl (.keep rfl (.lose (v' := .undef) rfl .nil))))))))))))) ?_
   refine zas (Hin := [.row _ _ _]) (out' := .ref 2 _ _ _) (H' := [(3, .row _ _ _), (2, .row _ _ _), (0, .box [_, _, _, _, _, _, _, _, _, _])]) (nx' := 4) [2] rfl rfl rfl rfl (.inr (by decide +kernel)) rfl rfl rfl rfl (zlP ((zbP (zbh (zae c.Abilities) c.Auras) c.Foes) ++ [c.Map.W, c.Map.H]) c.Map.Wall false (by first | omega | (simp; done) | (simp only [List.length_append, List.length_cons, List.length_nil] at *; omega) | (simp; omega))) rfl (by decide) rfl rfl (.keep rfl (.keep rfl (.keep rfl .nil))) (.lose (v' := .undef) rfl (.keep rfl (.keep rfl (.keep rfl (.keep rfl (.keep rfl (.keep rfl (.keep rfl (.keep rfl (.keep rfl (.keep rfl (.keep rfl (.keep rfl (.keep rfl .nil)))))))))))))) rfl rfl rfl rfl ?_
   have p510 := zg7 ((zbP (zbh (zae c.Abilities) c.Auras) c.Foes) ++ [c.Map.W, c.Map.H]) c.Map.Wall
   refine za rfl rfl trivial (zc (ze (zd (zb rfl (za rfl rfl trivial (za rfl rfl (by decide) (za rfl rfl (by decide) (za rfl rfl trivial (za rfl rfl (by decide) (za rfl rfl (by decide) (za rfl rfl trivial ?_)))))))))))
   refine za rfl rfl (by decide) (za rfl rfl (by decide) (za rfl rfl trivial (za rfl rfl (by decide) (za rfl rfl (by decide) (za rfl rfl trivial (zB (o := .row _ _ [_, _, _, _]) (nx' := 5) rfl rfl rfl (by decide) ?_))))))
   refine z3 (m := 4) (new := [_, _, _, _]) (cs' := encI ((zdT ((zbP (zbh (zae c.Abilities) c.Auras) c.Foes) ++ [c.Map.W, c.Map.H]) c.Map.Wall) ++ [c.Door.X, c.Door.Y, c.Lair.X, c.Lair.Y])) (n' := ((zdT ((zbP (zbh (zae c.Abilities) c.Auras) c.Foes) ++ [c.Map.W, c.Map.H]) c.Map.Wall) ++ [c.Door.X, c.Door.Y, c.Lair.X, c.Lair.Y]).length) (H' := [(4, .row _ _ _), (3, .row _ _ _), (2, .row _ _ _), (0, .box [_, _, _, _, _, _, _, _, _, _])]) rfl rfl rfl (rfl) rfl rfl rfl rfl rfl rfl (zk (zdT ((zbP (zbh (zae c.Abilities) c.Auras) c.Foes) ++ [c.Map.W, c.Map.H]) c.Map.Wall)) (rfl) (by first | decide | (unfold zM; omega) | (unfold zM; simp; omega) | (unfold zM; simp only [List.length_append, List.length_take, List.length_drop, List.length_cons, List.length_nil, IntKind.wrap_i64] at *; omega)) (zbY (zdT ((zbP (zbh (zae c.Abilities) c.Auras) c.Foes) ++ [c.Map.W, c.Map.H]) c.Map.Wall) ([c.Door.X, c.Door.Y, c.Lair.X, c.Lair.Y])) (zbx (zdT ((zbP (zbh (zae c.Abilities) c.Auras) c.Foes) ++ [c.Map.W, c.Map.H]) c.Map.Wall) ([c.Door.X, c.Door.Y, c.Lair.X, c.Lair.Y])) (.inl rfl) rfl rfl (.keep rfl (.keep rfl (.keep rfl (.keep rfl .nil)))) (.keep rfl (.keep rfl (.keep rfl (.keep rfl (.keep rfl (.keep rfl (.keep rfl (.keep rfl (.keep rfl (.keep rfl (.keep rfl (.keep rfl (.keep rfl (.lose (v' := .undef) rfl (.lose (v' := .undef) rfl (.lose (v' := .undef) rfl (.keep rfl (.keep rfl (.keep rfl (.keep rfl (.keep rfl (.keep rfl (.keep rfl (.keep rfl (.keep rfl (.keep rfl (.keep rfl (.keep rfl (.keep rfl (.keep rfl .nil)))))))))))))))))))))))))))))) ?_
   refine za rfl rfl trivial (zc (ze (zo ?_)))
   have e511 : flat c = ((zdT ((zbP (zbh (zae c.Abilities) c.Auras) c.Foes) ++ [c.Map.W, c.Map.H]) c.Map.Wall) ++ [c.Door.X, c.Door.Y, c.Lair.X, c.Lair.Y]) := by
    unfold flat
    try dsimp only
    all_goals rfl
   rw [e511]
   exact zL [] [2] rfl ⟨trivial, trivial⟩ rfl (by (repeat' apply And.intro) <;> first | trivial | rfl | exact zi (fun _ => rfl) _ | exact zk _ | assumption) (rfl) rfl rfl rfl (by decide) rfl rfl ⟨⟨rfl, rfl⟩, trivial⟩
 | k_ + 19, _, hx_, _ => cases hx_
end Go.Proofs.YtppnccjeggnllaaGreat

import Derived.Test.YtppnccjeggnllaaGreatBlobe
namespace Go.Proofs.YtppnccjeggnllaaGreat
open Go Go.RowKit Go.Proofs.YtppnccjeggnllaaGreatVm
attribute [local irreducible] zY zaM OpsS
set_option maxHeartbeats 400000
set_option maxRecDepth 100000
set_option linter.all false
structure GTk where
  (all : List Int)
  (pos : Nat)
  (bad : Bool)
  deriving DecidableEq, Inhabited
def GTk.left (t : GTk) : Nat := t.all.length - t.pos
def one (t : GTk) : Int × GTk :=
  if (t.left : Int) = 0 then (0, (⟨t.all, t.pos, true⟩ : GTk)) else ((t.all.getD t.pos default), (⟨t.all, t.pos + 1, t.bad⟩ : GTk))
theorem zfC (t : GTk) : Ok Tryz.prog 77 [.ptr 1 0] [.row 3 1 (encI t.all), .box [.ref 0 1 t.pos t.left, B t.bad]] (I (one t).1) [.row 3 1 (encI (one t).2.all), .box [.ref 0 1 (one t).2.pos (one t).2.left, B (one t).2.bad]] [] := by
 refine zz Tryz.func77 rfl ?_
 show zO Tryz.prog _ _ ⟨[(0, .ptr 1 0)], [(0, .row 3 1 (encI t.all)), (1, .box [.ref 0 1 t.pos t.left, B t.bad])], 2, [], 28, 2⟩
 refine zd (zb rfl (za rfl rfl trivial (zc (ze (zd (zd (zb rfl (za rfl rfl trivial (za rfl rfl trivial (za rfl rfl (by decide) (za rfl rfl trivial ?_)))))))))))
 refine za rfl rfl trivial (zl rfl rfl rfl rfl rfl trivial (zc (ze ?_)))
 refine zy rfl (fun h1 => ?_) (fun h1 => ?_)
 ·have g1 : (t.left : Int) = 0 := zcF h1
  refine zd (zb rfl (za rfl rfl trivial (za rfl rfl trivial (za rfl rfl (by decide) ?_))))
  refine zx (H' := [(0, .row _ _ _), (1, .box [_, _])]) rfl rfl rfl rfl rfl rfl (.inl rfl) rfl ?_
  refine zc (ze (zd (zb rfl (za rfl rfl trivial (zc (ze (zo (zI ?_))))))))
  have e2 : one t = (0, (⟨t.all, t.pos, true⟩ : GTk)) := by
   unfold one
   rewrite [if_pos g1]
   rfl
  rw [e2]
  exact zL [] [] rfl ⟨trivial, trivial⟩ rfl trivial rfl rfl rfl rfl (by decide) rfl rfl ⟨⟨rfl, rfl⟩, ⟨rfl, rfl⟩, trivial⟩
 ·have g1 : ¬ ((t.left : Int) = 0) := zcL h1
  have hk : 0 < t.left := by omega
  have hk2 : t.pos < t.all.length := by unfold GTk.left at hk; omega
  refine zA (ze (zd (zb rfl (za rfl rfl trivial (za rfl rfl trivial (za rfl rfl (by decide) (za rfl rfl trivial ?_)))))))
  refine za (c := 0 ≤ (0 : Int) ∧ (0 : Int) < t.left) (v := .ptr 0 ((t.pos + 0) * 1)) rfl rfl ⟨by omega, by omega⟩ ?_
  refine zhZ rfl rfl rfl rfl (show (encI t.all)[(t.pos + 0) * 1]? = some _ by rw [Nat.add_zero]; exact zfJ (zaz hk2)) rfl ?_
  refine za rfl rfl trivial (zc (ze (zd (zb rfl (za rfl rfl trivial (za rfl rfl trivial (za rfl rfl trivial (za rfl rfl (by decide) (za rfl rfl trivial ?_)))))))))
  refine za (c := 0 ≤ (1 : Int) ∧ (1 : Int) ≤ t.left ∧ (t.left : Int) ≤ t.left) (v := .ref 0 1 (t.pos + 1) (t.left - 1)) rfl rfl ⟨by omega, by omega, by omega⟩ ?_
  refine za rfl rfl trivial (za rfl rfl (by decide) ?_)
  refine zx (H' := [(0, .row _ _ _), (1, .box [_, _])]) rfl rfl rfl rfl rfl rfl (.inl rfl) rfl ?_
  refine zc (ze (zd (zb rfl (za rfl rfl trivial (za rfl rfl trivial (zc (ze (zo ?_))))))))
  have e5 : one t = ((t.all.getD t.pos default), (⟨t.all, t.pos + 1, t.bad⟩ : GTk)) := by
   unfold one
   rewrite [if_neg g1]
   rfl
  rw [e5]
  exact zL [] [] rfl ⟨trivial, trivial⟩ rfl trivial rfl rfl rfl rfl (by decide) rfl rfl ⟨⟨rfl, rfl⟩, ⟨rfl, rfl⟩, trivial⟩


def zcz (t : GTk) : GTk :=
  if ((one t).1 : Int) < 0 then (⟨((one t).2).all, ((one t).2).pos, true⟩ : GTk) else if ((one t).1 : Int) > 1 then (⟨((one t).2).all, ((one t).2).pos, true⟩ : GTk) else ((one t).2)
def zba (t : GTk) : Bool × GTk :=
  (let o1_6 := zcz t; ((((one t).1 : Int) == 1), o1_6))
theorem zjd (t : GTk) : Ok Tryz.prog 46 [.ptr 1 0] [.row 3 1 (encI t.all), .box [.ref 0 1 t.pos t.left, B t.bad]] (B (zba t).1) [.row 3 1 (encI ((zba t).2).all), .box [.ref 0 1 ((zba t).2).pos ((zba t).2).left, B ((zba t).2).bad]] [] := by
 refine zz Tryz.func46 rfl ?_
 show zO Tryz.prog _ _ ⟨[(0, .ptr 1 0)], [(0, .row 3 1 (encI t.all)), (1, .box [.ref 0 1 t.pos t.left, B t.bad])], 2, [], 17, 2⟩
 refine zd (zb rfl (za rfl rfl trivial (zc (ze (zd (zb rfl (za rfl rfl trivial ?_)))))))
 refine zX (Hin := [.row _ _ _, .box [.ref 0 _ _ _, .pv _]]) (H' := [(0, .row _ _ _), (1, .box [_, _])]) (nx' := 2) [0, 1] rfl rfl rfl rfl (.inl rfl) rfl rfl rfl rfl (zfC t) rfl (by decide) rfl rfl rfl rfl rfl ?_
 refine za rfl rfl trivial (zc (ze (zd ?_)))
 refine z6 (fun o1_6 : GTk => (⟨[(3, I (one t).1)], [(0, .row 3 1 (encI o1_6.all)), (1, .box [.ref 0 1 o1_6.pos o1_6.left, B o1_6.bad])], 2, [], 17, 2⟩ : St)) (fun w_ => zcz t = w_) ?_ ?_
 ·refine zd (zb rfl (za rfl rfl trivial (zl rfl rfl rfl rfl rfl trivial (za rfl rfl trivial ?_))))
  refine zK rfl (fun h4 => ?_) (fun h4 => ?_)
  ·have g4 : ((one t).1 : Int) < 0 := of_decide_eq_true h4
   refine zh rfl h4 rfl (zh rfl h4 rfl (zr rfl h4 rfl rfl (zc (ze (zP rfl (zb rfl (za rfl rfl trivial (za rfl rfl trivial (za rfl rfl (by decide) ?_)))))))))
   refine zx (H' := [(0, _), (1, .box [_, _])]) rfl rfl rfl rfl rfl rfl (.inl rfl) rfl ?_
   refine zc ?_
   have e5 : zcz t = (⟨((one t).2).all, ((one t).2).pos, true⟩ : GTk) := by
    unfold zcz
    try dsimp only
    rewrite [if_pos g4]
    all_goals rfl
   exact zZ (⟨((one t).2).all, ((one t).2).pos, true⟩ : GTk) e5 (zH.ren [] (by decide +kernel) (by decide +kernel) rfl ⟨⟨rfl, rfl⟩, trivial⟩ ⟨⟨rfl, rfl, rfl⟩, ⟨rfl, rfl, rfl⟩, trivial⟩ (by decide))
  ·have g4 : ¬ (((one t).1 : Int) < 0) := of_decide_eq_false h4
   refine zg rfl h4 (za rfl rfl trivial (zg rfl h4 (zl rfl rfl rfl rfl rfl trivial (zt rfl h4 rfl rfl (zc (ze ?_))))))
   refine zy rfl (fun h7 => ?_) (fun h7 => ?_)
   ·have g7 : ((one t).1 : Int) > 1 := of_decide_eq_true h7
    refine zb rfl (za rfl rfl trivial (za rfl rfl trivial (za rfl rfl (by decide) ?_)))
    refine zx (H' := [(0, _), (1, .box [_, _])]) rfl rfl rfl rfl rfl rfl (.inl rfl) rfl ?_
    refine zc ?_
    have e8 : zcz t = (⟨((one t).2).all, ((one t).2).pos, true⟩ : GTk) := by
     unfold zcz
     try dsimp only
     rewrite [if_neg g4, if_pos g7]
     all_goals rfl
    exact zZ (⟨((one t).2).all, ((one t).2).pos, true⟩ : GTk) e8 (zH.ren [] (by decide +kernel) (by decide +kernel) rfl ⟨⟨rfl, rfl⟩, trivial⟩ ⟨⟨rfl, rfl, rfl⟩, ⟨rfl, rfl, rfl⟩, trivial⟩ (by decide))
   ·have g7 : ¬ (((one t).1 : Int) > 1) := of_decide_eq_false h7
    refine zA ?_
    have e9 : zcz t = ((one t).2) := by
     unfold zcz
     try dsimp only
     rewrite [if_neg g4, if_neg g7]
     all_goals rfl
    exact zZ ((one t).2) e9 (zH.ren [] (by decide +kernel) (by decide +kernel) rfl ⟨⟨rfl, rfl⟩, trivial⟩ ⟨⟨rfl, rfl, rfl⟩, ⟨rfl, rfl, rfl⟩, trivial⟩ (by decide))
 ·rintro o1_6 (hJ2 : zcz t = o1_6)
  show seqK _ _ _ .normal (⟨[(3, I (one t).1)], [(0, .row 3 1 (encI o1_6.all)), (1, .box [.ref 0 1 o1_6.pos o1_6.left, B o1_6.bad])], 2, [], 17, 2⟩ : St)
  refine ze (zd (zb rfl (za rfl rfl trivial (zl rfl rfl rfl rfl rfl trivial (za rfl rfl trivial (zc (ze (zo ?_))))))))
  have e12 : zba t = ((((one t).1 : Int) == 1), o1_6) := by
   unfold zba
   try dsimp only
   rewrite [hJ2]
   try dsimp only
   all_goals rfl
  rw [e12]
  exact zL [] [] rfl ⟨trivial, trivial⟩ rfl (by (repeat' apply And.intro) <;> first | trivial | rfl | exact zi (fun _ => rfl) _ | exact zk _ | exact zn _ | exact zm _ | assumption) (rfl) rfl rfl rfl (by decide) rfl rfl ⟨⟨rfl, rfl⟩, ⟨rfl, rfl⟩, trivial⟩

def zR (t : GTk) : Nat → GTk
  | 0 => t
  | k + 1 => (one (zR t k)).2
def tval (t : GTk) (k : Nat) : Int := (one (zR t k)).1
def wrN (t : GTk) (ds : List PV) (ps : List Nat) : Nat → List PV
  | 0 => ds
  | k + 1 => (wrN t ds ps k).set (ps.getD k 0) (.int .i64 (tval t k))
theorem zoA (t : GTk) (ds : List PV) (ps : List Nat) : ∀ k, (wrN t ds ps k).length = ds.length
  | 0 => rfl
  | k + 1 => by rw [wrN, List.length_set, zoA t ds ps k]
theorem zlO (ρ : Nat → Nat) : ∀ ds : List PV, renL ρ (ds.map .pv) = ds.map .pv
  | [] => rfl
  | d :: ds => by simp only [List.map_cons, renL, ren, zlO ρ ds]
theorem zib (n : Nat) : ∀ ds : List PV, za4 n (ds.map .pv) = true
  | [] => rfl
  | d :: ds => by simp only [List.map_cons, za4, za8, zib n ds, Bool.and_self]
theorem zjI (ρ : Nat → Nat) (i : Nat) : ∀ ps : List Nat, renL ρ (ps.map (AV.ptr i)) = ps.map (AV.ptr (ρ i))
  | [] => rfl
  | d :: ds => by simp only [List.map_cons, renL, ren, zjI ρ i ds]
theorem zhQ (n i : Nat) (h : i < n) : ∀ ps : List Nat, za4 n (ps.map (AV.ptr i)) = true
  | [] => rfl
  | d :: ds => by simp only [List.map_cons, za4, za8, zhQ n i h ds]; simpa using h
theorem zey (t : GTk) (ds : List PV) (ps : List Nat) (hp : ps.all (fun p => Nat.blt p ds.length) = true) (hm : Nat.ble ps.length 1000 = true) : Ok Tryz.prog 44 [.ptr 1 0, .view 2 0 ps.length] [.row 3 1 (encI t.all), .box [.ref 0 1 t.pos t.left, B t.bad], .box (ps.map (AV.ptr 3)), .box (ds.map .pv)] (.tup []) [.row 3 1 (encI (zR t ps.length).all), .box [.ref 0 1 (zR t ps.length).pos (zR t ps.length).left, B (zR t ps.length).bad], .box (ps.map (AV.ptr 3)), .box ((wrN t ds ps ps.length).map .pv)] [] := by
 have hp : ∀ p ∈ ps, p < ds.length := fun p h => by simpa [Nat.blt_eq] using List.all_eq_true.1 hp p h
 have hm : ps.length ≤ 1000 := by simpa [Nat.ble_eq] using hm
 refine zz Tryz.func44 rfl ?_
 show zO Tryz.prog _ _ ⟨[(0, .ptr 1 0), (1, .view 2 0 ps.length)], [(0, .row 3 1 (encI t.all)), (1, .box [.ref 0 1 t.pos t.left, B t.bad]), (2, .box (ps.map (AV.ptr 3))), (3, .box (ds.map .pv))], 4, [], 17, 4⟩
 refine zd (zb rfl (za rfl rfl trivial (za rfl rfl trivial (za rfl rfl trivial (zc (ze ?_))))))
 refine zC ?_
 refine z9 (fun k0 : Nat => (⟨[(0, .ptr 1 0), (6, .view 2 0 ps.length), (7, I ps.length), (8, I k0)], [(0, .row 3 1 (encI (zR t k0).all)), (1, .box [.ref 0 1 (zR t k0).pos (zR t k0).left, B (zR t k0).bad]), (2, .box (ps.map (AV.ptr 3))), (3, .box ((wrN t ds ps k0).map .pv))], 4, [], 17, 4⟩ : St)) (fun k0 : Nat => k0 ≤ ps.length) (fun k0 : Nat => ps.length - k0) 0 (Nat.zero_le _) ?_ (fun k0 hb0 => ?_)
 ·exact (zH.loose ⟨⟨_, rfl, .inl rfl⟩, ⟨_, rfl, .inl rfl⟩, ⟨_, rfl, .inl rfl⟩, ⟨_, rfl, .inl rfl⟩, trivial⟩ ⟨⟨_, rfl, .inl rfl⟩, ⟨_, rfl, .inl rfl⟩, ⟨_, rfl, .inl rfl⟩, ⟨_, rfl, .inl rfl⟩, trivial⟩)
 refine zd (zb rfl (zl rfl rfl rfl rfl rfl trivial (zc (ze (zd ?_)))))
 refine zy rfl (fun h2 => ?_) (fun h2 => ?_)
 ·have g2 : (k0 : Int) < ps.length := of_decide_eq_true h2
  have hk0 : k0 < ps.length := by omega
  have hg : (ps.map (AV.ptr 3))[k0]? = some (.ptr 3 (ps.getD k0 0)) := by rw [List.getElem?_map, List.getElem?_eq_getElem hk0]; simp [List.getD, List.getElem?_eq_getElem hk0]
  have hq : ps.getD k0 0 < ((wrN t ds ps k0).map AV.pv).length := by
   rw [List.length_map, zoA]
   exact hp _ (by simp [List.getD, List.getElem?_eq_getElem hk0])
  refine zA (ze (zd (zC (zd (zb rfl ?_)))))
  refine za (c := 0 ≤ (k0 : Int) ∧ (k0 : Int) < ps.length) (v := .ptr 2 (0 + Int.toNat (k0 : Int) * 1)) rfl rfl ⟨by omega, by omega⟩ ?_
  refine zh6 rfl rfl rfl rfl (show (ps.map (AV.ptr 3))[0 + Int.toNat (k0 : Int) * 1]? = some (.ptr 3 (ps.getD k0 0)) by rw [Int.toNat_natCast, Nat.zero_add, Nat.mul_one]; exact hg) rfl ?_
  refine za rfl rfl trivial (zc (ze (zb rfl (za rfl rfl trivial (za rfl rfl trivial ?_)))))
  refine zX (Hin := [.row _ _ _, .box [.ref 0 _ _ _, .pv _]]) (H' := [(0, .row _ _ _), (1, .box [_, _]), (2, _), (3, _)]) (nx' := 4) [0, 1] rfl rfl rfl rfl (.inl rfl) rfl rfl rfl rfl (zfC (zR t k0)) rfl (by decide) rfl rfl rfl rfl rfl ?_
  refine za rfl rfl trivial ?_
  refine zhJ (cs' := (wrN t ds ps (k0 + 1)).map AV.pv) (H' := [(0, _), (1, .box [_, _]), (2, _), (3, _)]) rfl rfl rfl rfl rfl rfl hq (by rw [wrN, List.map_set]; rfl) (.inl rfl) rfl ?_
  refine zc (zar (ze (zb rfl (zl rfl rfl rfl rfl rfl trivial (za rfl rfl trivial (zc ?_))))))
  exact z5 (k0 + 1) hk0 (by show ps.length - (k0 + 1) < ps.length - k0; omega) (zH.loose ⟨⟨_, rfl, .inl rfl⟩, ⟨_, rfl, .inl rfl⟩, ⟨_, rfl, .inl rfl⟩, ⟨_, rfl, .inl (congrArg (fun n => (I n)) (zcv (k := k0) (by omega)))⟩, trivial⟩ ⟨⟨_, rfl, .inl rfl⟩, ⟨_, rfl, .inl rfl⟩, ⟨_, rfl, .inl rfl⟩, ⟨_, rfl, .inl rfl⟩, trivial⟩)
 ·have g2 : ¬ ((k0 : Int) < ps.length) := of_decide_eq_false h2
  have hk0 : k0 = ps.length := by omega
  subst hk0
  refine zV (zac (zal (zak rfl ?_)))
  refine zm6 [] [] rfl trivial rfl trivial rfl rfl rfl rfl (by decide) rfl rfl ⟨⟨rfl, rfl⟩, ⟨rfl, rfl⟩, ⟨?_, ?_⟩, ⟨?_, ?_⟩, trivial⟩
  ·show _ = some (VObj.box (renL _ (ps.map (AV.ptr 3))))
   rw [zjI]; rfl
  ·exact zhQ 4 3 (by decide) ps
  ·show _ = some (VObj.box (renL _ (List.map AV.pv _)))
   rw [zlO]; rfl
  ·exact zib 4 _


theorem zb9 (t : GTk) : (one t).2.left ≤ t.left ∧ (one t).2.all = t.all := by
  unfold one; split
  · exact ⟨Nat.le_refl _, rfl⟩
  · exact ⟨by show t.all.length - (t.pos + 1) ≤ t.all.length - t.pos; omega, rfl⟩
theorem zea (t : GTk) : (zba t).2.left ≤ t.left ∧ (zba t).2.all = t.all := by
  have h := zb9 t
  unfold zba zcz; dsimp only
  split
  · exact h
  · split <;> exact h
theorem za7 (t : GTk) : ∀ k, (zR t k).left ≤ t.left ∧ (zR t k).all = t.all
  | 0 => by rw [zR]; exact ⟨Nat.le_refl _, rfl⟩
  | k + 1 => by
    rw [zR]
    have h1 := zb9 (zR t k)
    have h2 := za7 t k
    exact ⟨Nat.le_trans h1.1 h2.1, h1.2.trans h2.2⟩
theorem zfE {n s : Int} {m : Nat} (h : ¬ (n > IntKind.i64.wrap ((m : Int).tdiv s))) (hs : 0 < s) (hm : m ≤ 16000000) : n ≤ m := by
  have h1 : (m : Int).tdiv s = (m : Int) / s := Int.tdiv_eq_ediv_of_nonneg (by omega)
  have h2 : (m : Int) / s ≤ m := Int.ediv_le_self _ (by omega)
  have h3 : 0 ≤ (m : Int) / s := Int.ediv_nonneg (by omega) (by omega)
  rw [h1, zb1 (by omega) (by omega)] at h
  omega

attribute [local irreducible] zR tval zba one
def effR (t : GTk) : zan × GTk :=
  ((⟨(tval t 0), (tval t 1), (tval t 2)⟩ : zan), (zR t 3))
theorem zqv (t : GTk) : Ok Tryz.prog 79 [.ptr 1 0] [.row 3 1 (encI t.all), .box [.ref 0 1 t.pos t.left, B t.bad]] (zdo (effR t).1) [.row 3 1 (encI ((effR t).2).all), .box [.ref 0 1 ((effR t).2).pos ((effR t).2).left, B ((effR t).2).bad]] [] := by
 refine zz Tryz.func79 rfl ?_
 show zO Tryz.prog _ _ ⟨[(0, .ptr 1 0)], [(0, .row 3 1 (encI t.all)), (1, .box [.ref 0 1 t.pos t.left, B t.bad])], 2, [], 10, 2⟩
 refine zd (zb rfl (zB (o := .box [_, _, _]) (nx' := 3) rfl rfl rfl trivial (zc (ze (zd (zb rfl (za rfl rfl trivial (za rfl rfl (by decide) (za rfl rfl (by decide) (za rfl rfl (by decide) (zB (o := .box [_, _, _]) (nx' := 4) rfl rfl rfl (by decide) ?_)))))))))))
 refine zX (Hin := [.row _ _ _, .box [.ref 0 _ _ _, .pv _], .box [.ptr 3 0, .ptr 3 1, .ptr 3 2], .box [.pv _, .pv _, .pv _]]) (H' := [(3, .box [_, _, _]), (2, .box [_, _, _]), (0, .row _ _ _), (1, .box [_, _])]) (nx' := 4) [0, 1, 3, 2] rfl rfl rfl rfl (.inl rfl) rfl rfl rfl rfl (zey t [i64 0, i64 0, i64 0] [0, 1, 2] rfl rfl) rfl (by decide) rfl rfl rfl rfl rfl ?_
 have p1 := za7 t 3
 refine zc (ze (zd (zb rfl (za (v := (.agg [_, _, _])) rfl rfl (Nat.le_of_ble_eq_true rfl) ?_))))
 refine zx (H' := [(3, _), (2, .box [_, _, _]), (0, _), (1, _)]) rfl rfl rfl rfl rfl rfl (.inl rfl) rfl ?_
 refine zc (ze (zo ?_))
 have e2 : effR t = ((⟨(tval t 0), (tval t 1), (tval t 2)⟩ : zan), (zR t 3)) := by
  unfold effR
  try dsimp only
  all_goals rfl
 rw [e2]
 exact zL [] [] rfl ⟨Nat.le_of_ble_eq_true rfl, trivial⟩ rfl (by (repeat' apply And.intro) <;> first | trivial | rfl | exact zi (fun _ => rfl) _ | exact zk _ | exact zn _ | exact zm _ | assumption) (rfl) rfl rfl rfl (by decide) rfl rfl ⟨⟨rfl, rfl⟩, ⟨rfl, rfl⟩, trivial⟩

theorem znT (t : GTk) : (effR t).2.left ≤ t.left ∧ (effR t).2.all = t.all := by unfold effR; exact za7 t _

def zdi (t : GTk) : zbO × GTk :=
  ((⟨(tval t 0), (tval t 1), (tval t 2), (tval t 3), (tval t 4)⟩ : zbO), (zR t 5))
theorem zph (t : GTk) : Ok Tryz.prog 81 [.ptr 1 0] [.row 3 1 (encI t.all), .box [.ref 0 1 t.pos t.left, B t.bad]] (zfF (zdi t).1) [.row 3 1 (encI ((zdi t).2).all), .box [.ref 0 1 ((zdi t).2).pos ((zdi t).2).left, B ((zdi t).2).bad]] [] := by
 refine zz Tryz.func81 rfl ?_
 show zO Tryz.prog _ _ ⟨[(0, .ptr 1 0)], [(0, .row 3 1 (encI t.all)), (1, .box [.ref 0 1 t.pos t.left, B t.bad])], 2, [], 12, 2⟩
 refine zd (zb rfl (zB (o := .box [_, _, _, _, _]) (nx' := 3) rfl rfl rfl trivial (zc (ze (zd (zb rfl (za rfl rfl trivial (za rfl rfl (by decide) (za rfl rfl (by decide) (za rfl rfl (by decide) (za rfl rfl (by decide) ?_)))))))))))
 refine za rfl rfl (by decide) (zB (o := .box [_, _, _, _, _]) (nx' := 4) rfl rfl rfl (by decide) ?_)
 refine zX (Hin := [.row _ _ _, .box [.ref 0 _ _ _, .pv _], .box [.ptr 3 0, .ptr 3 1, .ptr 3 2, .ptr 3 3, .ptr 3 4], .box [.pv _, .pv _, .pv _, .pv _, .pv _]]) (H' := [(3, .box [_, _, _, _, _]), (2, .box [_, _, _, _, _]), (0, .row _ _ _), (1, .box [_, _])]) (nx' := 4) [0, 1, 3, 2] rfl rfl rfl rfl (.inl rfl) rfl rfl rfl rfl (zey t [i64 0, i64 0, i64 0, i64 0, i64 0] [0, 1, 2, 3, 4] rfl rfl) rfl (by decide) rfl rfl rfl rfl rfl ?_
 have p1 := za7 t 5
 refine zc (ze (zd (zb rfl (za (v := (.agg [_, _, _, _, _])) rfl rfl (Nat.le_of_ble_eq_true rfl) ?_))))
 refine zx (H' := [(3, _), (2, .box [_, _, _, _, _]), (0, _), (1, _)]) rfl rfl rfl rfl rfl rfl (.inl rfl) rfl ?_
 refine zc (ze (zo ?_))
 have e2 : zdi t = ((⟨(tval t 0), (tval t 1), (tval t 2), (tval t 3), (tval t 4)⟩ : zbO), (zR t 5)) := by
  unfold zdi
  try dsimp only
  all_goals rfl
 rw [e2]
 exact zL [] [] rfl ⟨Nat.le_of_ble_eq_true rfl, trivial⟩ rfl (by (repeat' apply And.intro) <;> first | trivial | rfl | exact zi (fun _ => rfl) _ | exact zk _ | exact zn _ | exact zm _ | assumption) (rfl) rfl rfl rfl (by decide) rfl rfl ⟨⟨rfl, rfl⟩, ⟨rfl, rfl⟩, trivial⟩

theorem zlk (t : GTk) : (zdi t).2.left ≤ t.left ∧ (zdi t).2.all = t.all := by unfold zdi; exact za7 t _

def zbX (t : GTk) : zaU × GTk :=
  ((⟨(tval t 0), (tval t 1)⟩ : zaU), (zR t 2))
theorem zof (t : GTk) : Ok Tryz.prog 83 [.ptr 1 0] [.row 3 1 (encI t.all), .box [.ref 0 1 t.pos t.left, B t.bad]] (zen (zbX t).1) [.row 3 1 (encI ((zbX t).2).all), .box [.ref 0 1 ((zbX t).2).pos ((zbX t).2).left, B ((zbX t).2).bad]] [] := by
 refine zz Tryz.func83 rfl ?_
 show zO Tryz.prog _ _ ⟨[(0, .ptr 1 0)], [(0, .row 3 1 (encI t.all)), (1, .box [.ref 0 1 t.pos t.left, B t.bad])], 2, [], 9, 2⟩
 refine zd (zb rfl (zB (o := .box [_, _]) (nx' := 3) rfl rfl rfl trivial (zc (ze (zd (zb rfl (za rfl rfl trivial (za rfl rfl (by decide) (za rfl rfl (by decide) (zB (o := .box [_, _]) (nx' := 4) rfl rfl rfl (by decide) ?_))))))))))
 refine zX (Hin := [.row _ _ _, .box [.ref 0 _ _ _, .pv _], .box [.ptr 3 0, .ptr 3 1], .box [.pv _, .pv _]]) (H' := [(3, .box [_, _]), (2, .box [_, _]), (0, .row _ _ _), (1, .box [_, _])]) (nx' := 4) [0, 1, 3, 2] rfl rfl rfl rfl (.inl rfl) rfl rfl rfl rfl (zey t [i64 0, i64 0] [0, 1] rfl rfl) rfl (by decide) rfl rfl rfl rfl rfl ?_
 have p1 := za7 t 2
 refine zc (ze (zd (zb rfl (za (v := (.agg [_, _])) rfl rfl (Nat.le_of_ble_eq_true rfl) ?_))))
 refine zx (H' := [(3, _), (2, .box [_, _]), (0, _), (1, _)]) rfl rfl rfl rfl rfl rfl (.inl rfl) rfl ?_
 refine zc (ze (zo ?_))
 have e2 : zbX t = ((⟨(tval t 0), (tval t 1)⟩ : zaU), (zR t 2)) := by
  unfold zbX
  try dsimp only
  all_goals rfl
 rw [e2]
 exact zL [] [] rfl ⟨Nat.le_of_ble_eq_true rfl, trivial⟩ rfl (by (repeat' apply And.intro) <;> first | trivial | rfl | exact zi (fun _ => rfl) _ | exact zk _ | exact zn _ | exact zm _ | assumption) (rfl) rfl rfl rfl (by decide) rfl rfl ⟨⟨rfl, rfl⟩, ⟨rfl, rfl⟩, trivial⟩

theorem zjo (t : GTk) : (zbX t).2.left ≤ t.left ∧ (zbX t).2.all = t.all := by unfold zbX; exact za7 t _

def zdj (t : GTk) : zaB × GTk :=
  ((⟨(tval t 0), (tval t 1), (tval t 2), (tval t 3), (tval t 4), (tval t 5), (zba (zR t 6)).1⟩ : zaB), ((zba (zR t 6)).2))
theorem zpb (t : GTk) : Ok Tryz.prog 41 [.ptr 1 0] [.row 3 1 (encI t.all), .box [.ref 0 1 t.pos t.left, B t.bad]] (zdG (zdj t).1) [.row 3 1 (encI ((zdj t).2).all), .box [.ref 0 1 ((zdj t).2).pos ((zdj t).2).left, B ((zdj t).2).bad]] [] := by
 refine zz Tryz.func41 rfl ?_
 show zO Tryz.prog _ _ ⟨[(0, .ptr 1 0)], [(0, .row 3 1 (encI t.all)), (1, .box [.ref 0 1 t.pos t.left, B t.bad])], 2, [], 16, 2⟩
 refine zd (zb rfl (zB (o := .box [_, _, _, _, _, _, _]) (nx' := 3) rfl rfl rfl trivial (zc (ze (zd (zb rfl (za rfl rfl trivial (za rfl rfl (by decide) (za rfl rfl (by decide) (za rfl rfl (by decide) (za rfl rfl (by decide) ?_)))))))))))
 refine za rfl rfl (by decide) (za rfl rfl (by decide) (zB (o := .box [_, _, _, _, _, _]) (nx' := 4) rfl rfl rfl (by decide) ?_))
 refine zX (Hin := [.row _ _ _, .box [.ref 0 _ _ _, .pv _], .box [.ptr 3 0, .ptr 3 1, .ptr 3 2, .ptr 3 3, .ptr 3 4, .ptr 3 5], .box [.pv _, .pv _, .pv _, .pv _, .pv _, .pv _, .pv _]]) (H' := [(3, .box [_, _, _, _, _, _]), (2, .box [_, _, _, _, _, _, _]), (0, .row _ _ _), (1, .box [_, _])]) (nx' := 4) [0, 1, 3, 2] rfl rfl rfl rfl (.inl rfl) rfl rfl rfl rfl (zey t [i64 0, i64 0, i64 0, i64 0, i64 0, i64 0, .bool false] [0, 1, 2, 3, 4, 5] rfl rfl) rfl (by decide) rfl rfl rfl rfl rfl ?_
 have p1 := za7 t 6
 refine zc (ze (zd (zb rfl (za rfl rfl trivial ?_))))
 refine zX (Hin := [.row _ _ _, .box [.ref 0 _ _ _, .pv _]]) (H' := [(3, .box [_, _, _, _, _, _]), (2, .box [_, _, _, _, _, _, _]), (0, .row _ _ _), (1, .box [_, _])]) (nx' := 4) [0, 1] rfl rfl rfl rfl (.inl rfl) rfl rfl rfl rfl (zjd (zR t 6)) rfl (by decide) rfl rfl rfl rfl rfl ?_
 have p2 := zea (zR t 6)
 refine za rfl rfl (by decide) ?_
 refine zx (H' := [(3, _), (2, .box [_, _, _, _, _, _, _]), (0, _), (1, _)]) rfl rfl rfl rfl rfl rfl (.inl rfl) rfl ?_
 refine zc (ze (zd (zb rfl (za (v := (.agg [_, _, _, _, _, _, _])) rfl rfl (Nat.le_of_ble_eq_true rfl) ?_))))
 refine zx (H' := [(3, _), (2, .box [_, _, _, _, _, _, _]), (0, _), (1, _)]) rfl rfl rfl rfl rfl rfl (.inl rfl) rfl ?_
 refine zc (ze (zo ?_))
 have e3 : zdj t = ((⟨(tval t 0), (tval t 1), (tval t 2), (tval t 3), (tval t 4), (tval t 5), (zba (zR t 6)).1⟩ : zaB), ((zba (zR t 6)).2)) := by
  unfold zdj
  try dsimp only
  all_goals rfl
 rw [e3]
 exact zL [] [] rfl ⟨Nat.le_of_ble_eq_true rfl, trivial⟩ rfl (by (repeat' apply And.intro) <;> first | trivial | rfl | exact zi (fun _ => rfl) _ | exact zk _ | exact zn _ | exact zm _ | assumption) (rfl) rfl rfl rfl (by decide) rfl rfl ⟨⟨rfl, rfl⟩, ⟨rfl, rfl⟩, trivial⟩

theorem zk5 (t : GTk) : (zdj t).2.left ≤ t.left ∧ (zdj t).2.all = t.all := by unfold zdj; exact ⟨Nat.le_trans (zea _).1 (za7 t 6).1, (zea _).2.trans (za7 t 6).2⟩

def zaL : Nat → Nat → (List zan) → GTk → (List zan) × GTk
  | 0, k0, out0, o10 => (out0, o10)
  | n_ + 1, k0, out0, o10 => zaL n_ (k0 + 1) (out0 ++ [((effR o10).1)]) ((effR o10).2)
def zco (t : GTk) : (List zan) × GTk :=
  if ((one t).2).bad = true then ([], (⟨((one t).2).all, ((one t).2).pos, true⟩ : GTk)) else if ((one t).1 : Int) < 0 then ([], (⟨((one t).2).all, ((one t).2).pos, true⟩ : GTk)) else if ((one t).1 : Int) > (IntKind.i64.wrap ((((one t).2).left : Int).tdiv 3)) then ([], (⟨((one t).2).all, ((one t).2).pos, true⟩ : GTk)) else (match zaL (((one t).1.toNat) - 0) 0 ([]) ((one t).2) with
    | (out_0, o1_0) => (out_0, o1_0))
theorem zoV (t : GTk) (hT : t.left ≤ 16000000) : Ok Tryz.prog 78 [.ptr 1 0, I 3, .bnd 79 1 [.ptr 1 0]] [.row 3 1 (encI t.all), .box [.ref 0 1 t.pos t.left, B t.bad]] (.ref 2 3 0 (zco t).1.length) [.row 3 1 (encI ((zco t).2).all), .box [.ref 0 1 ((zco t).2).pos ((zco t).2).left, B ((zco t).2).bad], .row 71 3 ((zco t).1.flatMap zD)] [] := by
 have h1t := zb9 t
 refine zz Tryz.func78 rfl ?_
 show zO Tryz.prog _ _ ⟨[(0, .ptr 1 0), (1, I 3), (2, .bnd 79 1 [.ptr 1 0])], [(0, .row 3 1 (encI t.all)), (1, .box [.ref 0 1 t.pos t.left, B t.bad])], 2, [], 43, 2⟩
 refine zd (zb rfl (zB (nx' := 3) rfl rfl rfl trivial (zc (ze (zd (zb rfl (za rfl rfl trivial ?_)))))))
 refine zX (Hin := [.row _ _ _, .box [.ref 0 _ _ _, .pv _]]) (H' := [(2, .row _ _ _), (0, .row _ _ _), (1, .box [_, _])]) (nx' := 3) [0, 1] rfl rfl rfl rfl (.inl rfl) rfl rfl rfl rfl (zfC t) rfl (by decide) rfl rfl rfl rfl rfl ?_
 refine za rfl rfl trivial (zc (ze (zd (zd (zb rfl (za rfl rfl trivial (za rfl rfl trivial (za rfl rfl (by decide) (za rfl rfl trivial (za rfl rfl trivial ?_))))))))))
 refine zK rfl (fun h3 => ?_) (fun h3 => ?_)
 ·have g3 : ((one t).2).bad = true := h3
  refine zh rfl h3 rfl (zh rfl h3 rfl (zr rfl h3 rfl rfl (za rfl rfl trivial (zf rfl rfl (zf rfl rfl (zf rfl rfl (zf rfl rfl (zf rfl rfl (zf rfl rfl (zf rfl rfl (zf rfl rfl ?_)))))))))))
  refine zf rfl rfl (za rfl rfl trivial (zc (ze (zP rfl (zd (zb rfl (za rfl rfl trivial (za rfl rfl trivial (za rfl rfl (by decide) ?_)))))))))
  refine zx (H' := [(2, _), (0, _), (1, .box [_, _])]) rfl rfl rfl rfl rfl rfl (.inl rfl) rfl ?_
  refine zc (ze (zd (zb rfl (zB (nx' := 4) rfl rfl rfl trivial (zc (ze (zo (zI ?_))))))))
  have e4 : zco t = ([], (⟨((one t).2).all, ((one t).2).pos, true⟩ : GTk)) := by
   unfold zco
   try dsimp only
   rewrite [if_pos g3]
   all_goals rfl
  rw [e4]
  exact zL [] [3] rfl ⟨trivial, trivial⟩ rfl (by (repeat' apply And.intro) <;> first | trivial | rfl | exact zi (fun _ => rfl) _ | exact zk _ | exact zn _ | exact zm _ | assumption) (rfl) rfl rfl rfl (by decide) rfl rfl ⟨⟨rfl, rfl⟩, ⟨rfl, rfl⟩, ⟨rfl, rfl⟩, trivial⟩
 ·have g3 : ¬ (((one t).2).bad = true) := zaw h3
  refine zg rfl h3 (za rfl rfl trivial (zg rfl h3 (zl rfl rfl rfl rfl rfl trivial (zt rfl h3 rfl rfl (za rfl rfl trivial ?_)))))
  refine zK rfl (fun h6 => ?_) (fun h6 => ?_)
  ·have g6 : ((one t).1 : Int) < 0 := of_decide_eq_true h6
   refine zh rfl h6 rfl (zh rfl h6 rfl (zh rfl h6 rfl (zh rfl h6 rfl (zh rfl h6 rfl (zh rfl h6 rfl (zh rfl h6 rfl (zh rfl h6 rfl (zh rfl h6 rfl (zr rfl h6 rfl rfl (zc (ze ?_)))))))))))
   refine zP rfl (zd (zb rfl (za rfl rfl trivial (za rfl rfl trivial (za rfl rfl (by decide) ?_)))))
   refine zx (H' := [(2, _), (0, _), (1, .box [_, _])]) rfl rfl rfl rfl rfl rfl (.inl rfl) rfl ?_
   refine zc (ze (zd (zb rfl (zB (nx' := 4) rfl rfl rfl trivial (zc (ze (zo (zI ?_))))))))
   have e7 : zco t = ([], (⟨((one t).2).all, ((one t).2).pos, true⟩ : GTk)) := by
    unfold zco
    try dsimp only
    rewrite [if_neg g3, if_pos g6]
    all_goals rfl
   rw [e7]
   exact zL [] [3] rfl ⟨trivial, trivial⟩ rfl (by (repeat' apply And.intro) <;> first | trivial | rfl | exact zi (fun _ => rfl) _ | exact zk _ | exact zn _ | exact zm _ | assumption) (rfl) rfl rfl rfl (by decide) rfl rfl ⟨⟨rfl, rfl⟩, ⟨rfl, rfl⟩, ⟨rfl, rfl⟩, trivial⟩
  ·have g6 : ¬ (((one t).1 : Int) < 0) := of_decide_eq_false h6
   refine zg rfl h6 (za rfl rfl trivial (zg rfl h6 (za rfl rfl trivial (zg rfl h6 (za rfl rfl trivial (zg rfl h6 (za rfl rfl (by decide) (zg rfl h6 (za rfl rfl trivial (zg rfl h6 (za rfl rfl trivial ?_)))))))))))
   refine zg rfl h6 (za rfl rfl trivial (zg rfl h6 ?_))
   refine zl rfl rfl rfl rfl rfl (by first | decide | omega | (show (0 : Int) ≤ IntKind.i64.wrap _; rw [zb1 (by omega) (by omega)]; omega) | simp_all) ?_
   refine zg rfl h6 (zl rfl rfl rfl rfl rfl trivial (zt rfl h6 rfl rfl (zc (ze ?_))))
   refine zy rfl (fun h10 => ?_) (fun h10 => ?_)
   ·have g10 : ((one t).1 : Int) > (IntKind.i64.wrap ((((one t).2).left : Int).tdiv 3)) := of_decide_eq_true h10
    refine zd (zb rfl (za rfl rfl trivial (za rfl rfl trivial (za rfl rfl (by decide) ?_))))
    refine zx (H' := [(2, _), (0, _), (1, .box [_, _])]) rfl rfl rfl rfl rfl rfl (.inl rfl) rfl ?_
    refine zc (ze (zd (zb rfl (zB (nx' := 4) rfl rfl rfl trivial (zc (ze (zo (zI ?_))))))))
    have e11 : zco t = ([], (⟨((one t).2).all, ((one t).2).pos, true⟩ : GTk)) := by
     unfold zco
     try dsimp only
     rewrite [if_neg g3, if_neg g6, if_pos g10]
     all_goals rfl
    rw [e11]
    exact zL [] [3] rfl ⟨trivial, trivial⟩ rfl (by (repeat' apply And.intro) <;> first | trivial | rfl | exact zi (fun _ => rfl) _ | exact zk _ | exact zn _ | exact zm _ | assumption) (rfl) rfl rfl rfl (by decide) rfl rfl ⟨⟨rfl, rfl⟩, ⟨rfl, rfl⟩, ⟨rfl, rfl⟩, trivial⟩
   ·have g10 : ¬ (((one t).1 : Int) > (IntKind.i64.wrap ((((one t).2).left : Int).tdiv 3))) := of_decide_eq_false h10
    refine zA (ze (zd (zb rfl (zB (nx' := 4) rfl rfl rfl trivial (zc (ze (zd (zd (zb rfl (za rfl rfl trivial (za rfl rfl trivial ?_)))))))))))
    refine zc (ze ?_)
    refine z6 (fun w_ : (List zan) × GTk => match w_ with | (out_0, o1_0) => (⟨[(8, .ref 2 3 0 out_0.length)], [(0, .row 3 1 (encI o1_0.all)), (1, .box [.ref 0 1 o1_0.pos o1_0.left, B o1_0.bad]), (2, .row 71 3 (out_0.flatMap zD))], 3, [], 43, 2⟩ : St)) (fun w_ => zaL (((one t).1.toNat) - 0) 0 ([]) ((one t).2) = w_) ?_ ?_
    ·refine zC ?_
     refine z9 (fun w_ : Nat × (List zan) × GTk => match w_ with | (k0, out0, o10) => (⟨[(2, .bnd 79 1 [.ptr 1 0]), (8, .ref 2 3 0 out0.length), (33, I (one t).1), (34, I k0)], [(0, .row 3 1 (encI o10.all)), (1, .box [.ref 0 1 o10.pos o10.left, B o10.bad]), (2, .row 71 3 (out0.flatMap zD))], 3, [], 43, 2⟩ : St)) (fun w_ : Nat × (List zan) × GTk => match w_ with | (k0, out0, o10) => zaL (((one t).1.toNat) - k0) k0 out0 o10 = zaL (((one t).1.toNat) - 0) 0 ([]) ((one t).2) ∧ k0 ≤ (one t).1.toNat ∧ out0.length ≤ k0 ∧ o10.left ≤ t.left) (fun w_ : Nat × (List zan) × GTk => match w_ with | (k0, out0, o10) => (one t).1.toNat - k0) (0, [], ((one t).2)) (⟨rfl, (by first | omega | (simp; omega)), ⟨Nat.zero_le _, (zb9 t).1⟩⟩) ?_ (fun w_ hh_ => ?_)
     ·exact (zH.ren [(2, 3), (3, 2)] (by decide +kernel) (by decide +kernel) rfl ⟨⟨rfl, rfl⟩, ⟨congrArg (fun n => some (AV.ref 3 3 0 n)) (by first | rfl | simp only [List.length_set] | simp | omega | (simp; omega)), rfl⟩, ⟨rfl, rfl⟩, ⟨rfl, rfl⟩, trivial⟩ ⟨⟨rfl, rfl, rfl⟩, ⟨rfl, rfl, rfl⟩, ⟨rfl, rfl, rfl⟩, trivial⟩ (by decide))
     obtain ⟨k0, out0, o10⟩ := w_
     obtain ⟨hI0, hb0, hv0⟩ := hh_
     show zO Tryz.prog _ _ (⟨[(2, .bnd 79 1 [.ptr 1 0]), (8, .ref 2 3 0 out0.length), (33, I (one t).1), (34, I k0)], [(0, .row 3 1 (encI o10.all)), (1, .box [.ref 0 1 o10.pos o10.left, B o10.bad]), (2, .row 71 3 (out0.flatMap zD))], 3, [], 43, 2⟩ : St)
     have hq0 := zfE (n := (one t).1) (m := (one t).2.left) (s := 3) (by assumption) (by decide) (by omega)
     refine zd (zb rfl (zl rfl rfl rfl rfl rfl trivial (zc (ze (zd ?_)))))
     refine zy rfl (fun h13 => ?_) (fun h13 => ?_)
     ·have g13 : (k0 : Int) < ((one t).1) := of_decide_eq_true h13
      have hm0 : (one t).1.toNat - k0 = ((one t).1.toNat - (k0 + 1)) + 1 := by omega
      refine zA (ze (zd (zC (zb rfl (za rfl rfl trivial (za rfl rfl trivial ?_))))))
      refine zX (Hin := [.row _ _ _, .box [.ref 0 _ _ _, .pv _]]) (H' := [(0, .row _ _ _), (1, .box [_, _]), (2, .row _ _ _)]) (nx' := 3) [0, 1] rfl rfl rfl rfl (.inl rfl) rfl rfl rfl rfl (zqv o10) rfl (by decide) rfl rfl rfl rfl rfl ?_
      have p14 := znT o10
      refine zB (o := .row _ _ [_, _, _]) (nx' := 4) rfl rfl rfl (by decide) ?_
      refine z3 (m := 1) (new := [_, _, _]) (cs' := (out0 ++ [((effR o10).1)]).flatMap zD) (n' := (out0 ++ [((effR o10).1)]).length) (H' := [(3, .row _ _ _), (0, .row _ _ _), (1, .box [_, _]), (2, .row _ _ _)]) rfl rfl rfl (rfl) rfl rfl rfl rfl rfl rfl (zi (s := 3) (enc := zD) (fun _ => rfl) out0) (rfl) (by first | decide | (unfold zM; omega) | (unfold zM; simp; omega) | (unfold zM; simp only [List.length_append, List.length_take, List.length_drop, List.length_cons, List.length_nil, IntKind.wrap_i64] at *; omega)) (zbt out0 _) (((zd0 (enc := zD) (l := out0) ((effR o10).1))).symm) (.inl rfl) rfl rfl (.keep rfl (.keep rfl (.keep rfl (.keep rfl .nil)))) (.keep rfl (.keep rfl (.keep rfl (.lose (v' := .undef) rfl (.keep rfl (.keep rfl (.lose (v' := .undef) rfl (.keep rfl (.keep rfl .nil))))))))) ?_
      refine za rfl rfl trivial (zc (zar (ze (zb rfl (zl rfl rfl rfl rfl rfl trivial (za rfl rfl trivial (zc ?_)))))))
      have e16 : zaL (((one t).1.toNat) - k0) k0 out0 o10 = zaL (((one t).1.toNat) - (k0 + 1)) (k0 + 1) (out0 ++ [((effR o10).1)]) ((effR o10).2) := by
       rewrite [hm0]
       rewrite [zaL]
       try dsimp only
       all_goals rfl
      exact z5 (k0 + 1, (out0 ++ [((effR o10).1)]), ((effR o10).2)) ⟨e16.symm.trans hI0, (by omega), ⟨by simp only [List.length_append, List.length_cons, List.length_nil]; omega, by omega⟩⟩ (by show (one t).1.toNat - (k0 + 1) < (one t).1.toNat - k0; omega) (zH.ren [] (by decide +kernel) (by decide +kernel) rfl ⟨⟨rfl, rfl⟩, ⟨rfl, rfl⟩, ⟨rfl, rfl⟩, ⟨congrArg (fun n => some (I n)) (zcv (k := k0) (by first | omega | (simp; omega))), rfl⟩, trivial⟩ ⟨⟨rfl, rfl, rfl⟩, ⟨rfl, rfl, rfl⟩, ⟨rfl, rfl, rfl⟩, trivial⟩ (by decide))
     ·have g13 : ¬ ((k0 : Int) < ((one t).1)) := of_decide_eq_false h13
      have hm0 : (one t).1.toNat - k0 = 0 := by omega
      refine zV (zac (zal (zak rfl ?_)))
      have e17 : zaL (((one t).1.toNat) - 0) 0 ([]) ((one t).2) = (out0, o10) := by
       rewrite [← hI0, hm0]
       rewrite [zaL]
       try dsimp only
       all_goals rfl
      exact zZ (out0, o10) e17 (zH.ren [] (by decide +kernel) (by decide +kernel) rfl ⟨⟨rfl, rfl⟩, trivial⟩ ⟨⟨rfl, rfl, rfl⟩, ⟨rfl, rfl, rfl⟩, ⟨rfl, rfl, rfl⟩, trivial⟩ (by decide))
    ·rintro ⟨out_0, o1_0⟩ (hJ12 : zaL (((one t).1.toNat) - 0) 0 ([]) ((one t).2) = (out_0, o1_0))
     show seqK _ _ _ .normal (⟨[(8, .ref 2 3 0 out_0.length)], [(0, .row 3 1 (encI o1_0.all)), (1, .box [.ref 0 1 o1_0.pos o1_0.left, B o1_0.bad]), (2, .row 71 3 (out_0.flatMap zD))], 3, [], 43, 2⟩ : St)
     refine ze (zd (zb rfl (za rfl rfl trivial (za rfl rfl trivial (zc (ze (zo ?_)))))))
     have e18 : zco t = (out_0, o1_0) := by
      unfold zco
      try dsimp only
      rewrite [if_neg g3, if_neg g6, if_neg g10, hJ12]
      try dsimp only
      all_goals rfl
     rw [e18]
     exact zL [] [2] rfl ⟨trivial, trivial⟩ rfl (by (repeat' apply And.intro) <;> first | trivial | rfl | exact zi (fun _ => rfl) _ | exact zk _ | exact zn _ | exact zm _ | assumption) (rfl) rfl rfl rfl (by decide) rfl rfl ⟨⟨rfl, rfl⟩, ⟨rfl, rfl⟩, ⟨rfl, rfl⟩, trivial⟩

theorem zhI (N : Nat) (hN : N ≤ 16000000) : ∀ (m k : Nat) (out : List zan) (t : GTk), t.left ≤ N → (∀ x ∈ out, True) → (zaL m k out t).1.length = out.length + m ∧ ((zaL m k out t).2.left ≤ t.left ∧ (zaL m k out t).2.all = t.all) ∧ ∀ x ∈ (zaL m k out t).1, True
  | 0, k, out, t, _, ho => by rw [zaL]; exact ⟨rfl, ⟨Nat.le_refl _, rfl⟩, ho⟩
  | m + 1, k, out, t, ht, ho => by
    rw [zaL]
    have h1 := znT t
    obtain ⟨h2, h3, h4⟩ := zhI N hN m (k + 1) (out ++ [(effR t).1]) (effR t).2 (by omega) (fun x hx => by
      rcases List.mem_append.1 hx with h | h
      · exact ho x h
      · simp only [List.mem_cons, List.not_mem_nil, or_false] at h; subst h; exact trivial)
    simp only [List.length_append, List.length_cons, List.length_nil] at h2
    exact ⟨by omega, ⟨by omega, h3.2.trans (h1.2)⟩, h4⟩
theorem zlf (t : GTk) (hT : t.left ≤ 16000000) : (zco t).1.length ≤ t.left ∧ ((zco t).2.left ≤ t.left ∧ (zco t).2.all = t.all) := by
  have h1 := zb9 t
  unfold zco
  dsimp only
  by_cases h2 : (one t).2.bad = true
  · rw [if_pos h2]; exact ⟨Nat.zero_le _, h1⟩
  rw [if_neg h2]
  by_cases h3 : (one t).1 < 0
  · rw [if_pos h3]; exact ⟨Nat.zero_le _, h1⟩
  rw [if_neg h3]
  by_cases h4 : (one t).1 > (IntKind.i64.wrap (((one t).2.left : Int).tdiv 3))
  · rw [if_pos h4]; exact ⟨Nat.zero_le _, h1⟩
  rw [if_neg h4]
  have hq := zfE h4 (by decide) (by omega)
  obtain ⟨h5, h6, h7⟩ := zhI t.left hT ((one t).1.toNat - 0) 0 [] (one t).2 h1.1 (fun x hx => by cases hx)
  simp only [List.length_nil] at h5
  refine ⟨?_, ⟨?_, h6.2.trans h1.2⟩⟩ <;> dsimp only <;> omega

def zaN : Nat → Nat → (List zbO) → GTk → (List zbO) × GTk
  | 0, k0, out0, o10 => (out0, o10)
  | n_ + 1, k0, out0, o10 => zaN n_ (k0 + 1) (out0 ++ [((zdi o10).1)]) ((zdi o10).2)
def zbb (t : GTk) : (List zbO) × GTk :=
  if ((one t).2).bad = true then ([], (⟨((one t).2).all, ((one t).2).pos, true⟩ : GTk)) else if ((one t).1 : Int) < 0 then ([], (⟨((one t).2).all, ((one t).2).pos, true⟩ : GTk)) else if ((one t).1 : Int) > (IntKind.i64.wrap ((((one t).2).left : Int).tdiv 5)) then ([], (⟨((one t).2).all, ((one t).2).pos, true⟩ : GTk)) else (match zaN (((one t).1.toNat) - 0) 0 ([]) ((one t).2) with
    | (out_0, o1_0) => (out_0, o1_0))
theorem zpx (t : GTk) (hT : t.left ≤ 16000000) : Ok Tryz.prog 80 [.ptr 1 0, I 5, .bnd 81 1 [.ptr 1 0]] [.row 3 1 (encI t.all), .box [.ref 0 1 t.pos t.left, B t.bad]] (.ref 2 5 0 (zbb t).1.length) [.row 3 1 (encI ((zbb t).2).all), .box [.ref 0 1 ((zbb t).2).pos ((zbb t).2).left, B ((zbb t).2).bad], .row 73 5 ((zbb t).1.flatMap zN)] [] := by
 have h1t := zb9 t
 refine zz Tryz.func80 rfl ?_
 show zO Tryz.prog _ _ ⟨[(0, .ptr 1 0), (1, I 5), (2, .bnd 81 1 [.ptr 1 0])], [(0, .row 3 1 (encI t.all)), (1, .box [.ref 0 1 t.pos t.left, B t.bad])], 2, [], 43, 2⟩
 refine zd (zb rfl (zB (nx' := 3) rfl rfl rfl trivial (zc (ze (zd (zb rfl (za rfl rfl trivial ?_)))))))
 refine zX (Hin := [.row _ _ _, .box [.ref 0 _ _ _, .pv _]]) (H' := [(2, .row _ _ _), (0, .row _ _ _), (1, .box [_, _])]) (nx' := 3) [0, 1] rfl rfl rfl rfl (.inl rfl) rfl rfl rfl rfl (zfC t) rfl (by decide) rfl rfl rfl rfl rfl ?_
 refine za rfl rfl trivial (zc (ze (zd (zd (zb rfl (za rfl rfl trivial (za rfl rfl trivial (za rfl rfl (by decide) (za rfl rfl trivial (za rfl rfl trivial ?_))))))))))
 refine zK rfl (fun h3 => ?_) (fun h3 => ?_)
 ·have g3 : ((one t).2).bad = true := h3
  refine zh rfl h3 rfl (zh rfl h3 rfl (zr rfl h3 rfl rfl (za rfl rfl trivial (zf rfl rfl (zf rfl rfl (zf rfl rfl (zf rfl rfl (zf rfl rfl (zf rfl rfl (zf rfl rfl (zf rfl rfl ?_)))))))))))
  refine zf rfl rfl (za rfl rfl trivial (zc (ze (zP rfl (zd (zb rfl (za rfl rfl trivial (za rfl rfl trivial (za rfl rfl (by decide) ?_)))))))))
  refine zx (H' := [(2, _), (0, _), (1, .box [_, _])]) rfl rfl rfl rfl rfl rfl (.inl rfl) rfl ?_
  refine zc (ze (zd (zb rfl (zB (nx' := 4) rfl rfl rfl trivial (zc (ze (zo (zI ?_))))))))
  have e4 : zbb t = ([], (⟨((one t).2).all, ((one t).2).pos, true⟩ : GTk)) := by
   unfold zbb
   try dsimp only
   rewrite [if_pos g3]
   all_goals rfl
  rw [e4]
  exact zL [] [3] rfl ⟨trivial, trivial⟩ rfl (by (repeat' apply And.intro) <;> first | trivial | rfl | exact zi (fun _ => rfl) _ | exact zk _ | exact zn _ | exact zm _ | assumption) (rfl) rfl rfl rfl (by decide) rfl rfl ⟨⟨rfl, rfl⟩, ⟨rfl, rfl⟩, ⟨rfl, rfl⟩, trivial⟩
 ·have g3 : ¬ (((one t).2).bad = true) := zaw h3
  refine zg rfl h3 (za rfl rfl trivial (zg rfl h3 (zl rfl rfl rfl rfl rfl trivial (zt rfl h3 rfl rfl (za rfl rfl trivial ?_)))))
  refine zK rfl (fun h6 => ?_) (fun h6 => ?_)
  ·have g6 : ((one t).1 : Int) < 0 := of_decide_eq_true h6
   refine zh rfl h6 rfl (zh rfl h6 rfl (zh rfl h6 rfl (zh rfl h6 rfl (zh rfl h6 rfl (zh rfl h6 rfl (zh rfl h6 rfl (zh rfl h6 rfl (zh rfl h6 rfl (zr rfl h6 rfl rfl (zc (ze ?_)))))))))))
   refine zP rfl (zd (zb rfl (za rfl rfl trivial (za rfl rfl trivial (za rfl rfl (by decide) ?_)))))
   refine zx (H' := [(2, _), (0, _), (1, .box [_, _])]) rfl rfl rfl rfl rfl rfl (.inl rfl) rfl ?_
   refine zc (ze (zd (zb rfl (zB (nx' := 4) rfl rfl rfl trivial (zc (ze (zo (zI ?_))))))))
   have e7 : zbb t = ([], (⟨((one t).2).all, ((one t).2).pos, true⟩ : GTk)) := by
    unfold zbb
    try dsimp only
    rewrite [if_neg g3, if_pos g6]
    all_goals rfl
   rw [e7]
   exact zL [] [3] rfl ⟨trivial, trivial⟩ rfl (by (repeat' apply And.intro) <;> first | trivial | rfl | exact zi (fun _ => rfl) _ | exact zk _ | exact zn _ | exact zm _ | assumption) (rfl) rfl rfl rfl (by decide) rfl rfl ⟨⟨rfl, rfl⟩, ⟨rfl, rfl⟩, ⟨rfl, rfl⟩, trivial⟩
  ·have g6 : ¬ (((one t).1 : Int) < 0) := of_decide_eq_false h6
   refine zg rfl h6 (za rfl rfl trivial (zg rfl h6 (za rfl rfl trivial (zg rfl h6 (za rfl rfl trivial (zg rfl h6 (za rfl rfl (by decide) (zg rfl h6 (za rfl rfl trivial (zg rfl h6 (za rfl rfl trivial ?_)))))))))))
   refine zg rfl h6 (za rfl rfl trivial (zg rfl h6 ?_))
   refine zl rfl rfl rfl rfl rfl (by first | decide | omega | (show (0 : Int) ≤ IntKind.i64.wrap _; rw [zb1 (by omega) (by omega)]; omega) | simp_all) ?_
   refine zg rfl h6 (zl rfl rfl rfl rfl rfl trivial (zt rfl h6 rfl rfl (zc (ze ?_))))
   refine zy rfl (fun h10 => ?_) (fun h10 => ?_)
   ·have g10 : ((one t).1 : Int) > (IntKind.i64.wrap ((((one t).2).left : Int).tdiv 5)) := of_decide_eq_true h10
    refine zd (zb rfl (za rfl rfl trivial (za rfl rfl trivial (za rfl rfl (by decide) ?_))))
    refine zx (H' := [(2, _), (0, _), (1, .box [_, _])]) rfl rfl rfl rfl rfl rfl (.inl rfl) rfl ?_
    refine zc (ze (zd (zb rfl (zB (nx' := 4) rfl rfl rfl trivial (zc (ze (zo (zI ?_))))))))
    have e11 : zbb t = ([], (⟨((one t).2).all, ((one t).2).pos, true⟩ : GTk)) := by
     unfold zbb
     try dsimp only
     rewrite [if_neg g3, if_neg g6, if_pos g10]
     all_goals rfl
    rw [e11]
    exact zL [] [3] rfl ⟨trivial, trivial⟩ rfl (by (repeat' apply And.intro) <;> first | trivial | rfl | exact zi (fun _ => rfl) _ | exact zk _ | exact zn _ | exact zm _ | assumption) (rfl) rfl rfl rfl (by decide) rfl rfl ⟨⟨rfl, rfl⟩, ⟨rfl, rfl⟩, ⟨rfl, rfl⟩, trivial⟩
   ·have g10 : ¬ (((one t).1 : Int) > (IntKind.i64.wrap ((((one t).2).left : Int).tdiv 5))) := of_decide_eq_false h10
    refine zA (ze (zd (zb rfl (zB (nx' := 4) rfl rfl rfl trivial (zc (ze (zd (zd (zb rfl (za rfl rfl trivial (za rfl rfl trivial ?_)))))))))))
    refine zc (ze ?_)
    refine z6 (fun w_ : (List zbO) × GTk => match w_ with | (out_0, o1_0) => (⟨[(8, .ref 2 5 0 out_0.length)], [(0, .row 3 1 (encI o1_0.all)), (1, .box [.ref 0 1 o1_0.pos o1_0.left, B o1_0.bad]), (2, .row 73 5 (out_0.flatMap zN))], 3, [], 43, 2⟩ : St)) (fun w_ => zaN (((one t).1.toNat) - 0) 0 ([]) ((one t).2) = w_) ?_ ?_
    ·refine zC ?_
     refine z9 (fun w_ : Nat × (List zbO) × GTk => match w_ with | (k0, out0, o10) => (⟨[(2, .bnd 81 1 [.ptr 1 0]), (8, .ref 2 5 0 out0.length), (33, I (one t).1), (34, I k0)], [(0, .row 3 1 (encI o10.all)), (1, .box [.ref 0 1 o10.pos o10.left, B o10.bad]), (2, .row 73 5 (out0.flatMap zN))], 3, [], 43, 2⟩ : St)) (fun w_ : Nat × (List zbO) × GTk => match w_ with | (k0, out0, o10) => zaN (((one t).1.toNat) - k0) k0 out0 o10 = zaN (((one t).1.toNat) - 0) 0 ([]) ((one t).2) ∧ k0 ≤ (one t).1.toNat ∧ out0.length ≤ k0 ∧ o10.left ≤ t.left) (fun w_ : Nat × (List zbO) × GTk => match w_ with | (k0, out0, o10) => (one t).1.toNat - k0) (0, [], ((one t).2)) (⟨rfl, (by first | omega | (simp; omega)), ⟨Nat.zero_le _, (zb9 t).1⟩⟩) ?_ (fun w_ hh_ => ?_)
     ·exact (zH.ren [(2, 3), (3, 2)] (by decide +kernel) (by decide +kernel) rfl ⟨⟨rfl, rfl⟩, ⟨congrArg (fun n => some (AV.ref 3 5 0 n)) (by first | rfl | simp only [List.length_set] | simp | omega | (simp; omega)), rfl⟩, ⟨rfl, rfl⟩, ⟨rfl, rfl⟩, trivial⟩ ⟨⟨rfl, rfl, rfl⟩, ⟨rfl, rfl, rfl⟩, ⟨rfl, rfl, rfl⟩, trivial⟩ (by decide))
     obtain ⟨k0, out0, o10⟩ := w_
     obtain ⟨hI0, hb0, hv0⟩ := hh_
     show zO Tryz.prog _ _ (⟨[(2, .bnd 81 1 [.ptr 1 0]), (8, .ref 2 5 0 out0.length), (33, I (one t).1), (34, I k0)], [(0, .row 3 1 (encI o10.all)), (1, .box [.ref 0 1 o10.pos o10.left, B o10.bad]), (2, .row 73 5 (out0.flatMap zN))], 3, [], 43, 2⟩ : St)
     have hq0 := zfE (n := (one t).1) (m := (one t).2.left) (s := 5) (by assumption) (by decide) (by omega)
     refine zd (zb rfl (zl rfl rfl rfl rfl rfl trivial (zc (ze (zd ?_)))))
     refine zy rfl (fun h13 => ?_) (fun h13 => ?_)
     ·have g13 : (k0 : Int) < ((one t).1) := of_decide_eq_true h13
      have hm0 : (one t).1.toNat - k0 = ((one t).1.toNat - (k0 + 1)) + 1 := by omega
      refine zA (ze (zd (zC (zb rfl (za rfl rfl trivial (za rfl rfl trivial ?_))))))
      refine zX (Hin := [.row _ _ _, .box [.ref 0 _ _ _, .pv _]]) (H' := [(0, .row _ _ _), (1, .box [_, _]), (2, .row _ _ _)]) (nx' := 3) [0, 1] rfl rfl rfl rfl (.inl rfl) rfl rfl rfl rfl (zph o10) rfl (by decide) rfl rfl rfl rfl rfl ?_
      have p14 := zlk o10
      refine zB (o := .row _ _ [_, _, _, _, _]) (nx' := 4) rfl rfl rfl (by decide) ?_
      refine z3 (m := 1) (new := [_, _, _, _, _]) (cs' := (out0 ++ [((zdi o10).1)]).flatMap zN) (n' := (out0 ++ [((zdi o10).1)]).length) (H' := [(3, .row _ _ _), (0, .row _ _ _), (1, .box [_, _]), (2, .row _ _ _)]) rfl rfl rfl (rfl) rfl rfl rfl rfl rfl rfl (zi (s := 5) (enc := zN) (fun _ => rfl) out0) (rfl) (by first | decide | (unfold zM; omega) | (unfold zM; simp; omega) | (unfold zM; simp only [List.length_append, List.length_take, List.length_drop, List.length_cons, List.length_nil, IntKind.wrap_i64] at *; omega)) (zbt out0 _) (((zd0 (enc := zN) (l := out0) ((zdi o10).1))).symm) (.inl rfl) rfl rfl (.keep rfl (.keep rfl (.keep rfl (.keep rfl .nil)))) (.keep rfl (.keep rfl (.keep rfl (.lose (v' := .undef) rfl (.keep rfl (.keep rfl (.lose (v' := .undef) rfl (.keep rfl (.keep rfl .nil))))))))) ?_
      refine za rfl rfl trivial (zc (zar (ze (zb rfl (zl rfl rfl rfl rfl rfl trivial (za rfl rfl trivial (zc ?_)))))))
      have e16 : zaN (((one t).1.toNat) - k0) k0 out0 o10 = zaN (((one t).1.toNat) - (k0 + 1)) (k0 + 1) (out0 ++ [((zdi o10).1)]) ((zdi o10).2) := by
       rewrite [hm0]
       rewrite [zaN]
       try dsimp only
       all_goals rfl
      exact z5 (k0 + 1, (out0 ++ [((zdi o10).1)]), ((zdi o10).2)) ⟨e16.symm.trans hI0, (by omega), ⟨by simp only [List.length_append, List.length_cons, List.length_nil]; omega, by omega⟩⟩ (by show (one t).1.toNat - (k0 + 1) < (one t).1.toNat - k0; omega) (zH.ren [] (by decide +kernel) (by decide +kernel) rfl ⟨⟨rfl, rfl⟩, ⟨rfl, rfl⟩, ⟨rfl, rfl⟩, ⟨congrArg (fun n => some (I n)) (zcv (k := k0) (by first | omega | (simp; omega))), rfl⟩, trivial⟩ ⟨⟨rfl, rfl, rfl⟩, ⟨rfl, rfl, rfl⟩, ⟨rfl, rfl, rfl⟩, trivial⟩ (by decide))
     ·have g13 : ¬ ((k0 : Int) < ((one t).1)) := of_decide_eq_false h13
      have hm0 : (one t).1.toNat - k0 = 0 := by omega
      refine zV (zac (zal (zak rfl ?_)))
      have e17 : zaN (((one t).1.toNat) - 0) 0 ([]) ((one t).2) = (out0, o10) := by
       rewrite [← hI0, hm0]
       rewrite [zaN]
       try dsimp only
       all_goals rfl
      exact zZ (out0, o10) e17 (zH.ren [] (by decide +kernel) (by decide +kernel) rfl ⟨⟨rfl, rfl⟩, trivial⟩ ⟨⟨rfl, rfl, rfl⟩, ⟨rfl, rfl, rfl⟩, ⟨rfl, rfl, rfl⟩, trivial⟩ (by decide))
    ·rintro ⟨out_0, o1_0⟩ (hJ12 : zaN (((one t).1.toNat) - 0) 0 ([]) ((one t).2) = (out_0, o1_0))
     show seqK _ _ _ .normal (⟨[(8, .ref 2 5 0 out_0.length)], [(0, .row 3 1 (encI o1_0.all)), (1, .box [.ref 0 1 o1_0.pos o1_0.left, B o1_0.bad]), (2, .row 73 5 (out_0.flatMap zN))], 3, [], 43, 2⟩ : St)
     refine ze (zd (zb rfl (za rfl rfl trivial (za rfl rfl trivial (zc (ze (zo ?_)))))))
     have e18 : zbb t = (out_0, o1_0) := by
      unfold zbb
      try dsimp only
      rewrite [if_neg g3, if_neg g6, if_neg g10, hJ12]
      try dsimp only
      all_goals rfl
     rw [e18]
     exact zL [] [2] rfl ⟨trivial, trivial⟩ rfl (by (repeat' apply And.intro) <;> first | trivial | rfl | exact zi (fun _ => rfl) _ | exact zk _ | exact zn _ | exact zm _ | assumption) (rfl) rfl rfl rfl (by decide) rfl rfl ⟨⟨rfl, rfl⟩, ⟨rfl, rfl⟩, ⟨rfl, rfl⟩, trivial⟩

theorem zhc (N : Nat) (hN : N ≤ 16000000) : ∀ (m k : Nat) (out : List zbO) (t : GTk), t.left ≤ N → (∀ x ∈ out, True) → (zaN m k out t).1.length = out.length + m ∧ ((zaN m k out t).2.left ≤ t.left ∧ (zaN m k out t).2.all = t.all) ∧ ∀ x ∈ (zaN m k out t).1, True
  | 0, k, out, t, _, ho => by rw [zaN]; exact ⟨rfl, ⟨Nat.le_refl _, rfl⟩, ho⟩
  | m + 1, k, out, t, ht, ho => by
    rw [zaN]
    have h1 := zlk t
    obtain ⟨h2, h3, h4⟩ := zhc N hN m (k + 1) (out ++ [(zdi t).1]) (zdi t).2 (by omega) (fun x hx => by
      rcases List.mem_append.1 hx with h | h
      · exact ho x h
      · simp only [List.mem_cons, List.not_mem_nil, or_false] at h; subst h; exact trivial)
    simp only [List.length_append, List.length_cons, List.length_nil] at h2
    exact ⟨by omega, ⟨by omega, h3.2.trans (h1.2)⟩, h4⟩
theorem zly (t : GTk) (hT : t.left ≤ 16000000) : (zbb t).1.length ≤ t.left ∧ ((zbb t).2.left ≤ t.left ∧ (zbb t).2.all = t.all) := by
  have h1 := zb9 t
  unfold zbb
  dsimp only
  by_cases h2 : (one t).2.bad = true
  · rw [if_pos h2]; exact ⟨Nat.zero_le _, h1⟩
  rw [if_neg h2]
  by_cases h3 : (one t).1 < 0
  · rw [if_pos h3]; exact ⟨Nat.zero_le _, h1⟩
  rw [if_neg h3]
  by_cases h4 : (one t).1 > (IntKind.i64.wrap (((one t).2.left : Int).tdiv 5))
  · rw [if_pos h4]; exact ⟨Nat.zero_le _, h1⟩
  rw [if_neg h4]
  have hq := zfE h4 (by decide) (by omega)
  obtain ⟨h5, h6, h7⟩ := zhc t.left hT ((one t).1.toNat - 0) 0 [] (one t).2 h1.1 (fun x hx => by cases hx)
  simp only [List.length_nil] at h5
  refine ⟨?_, ⟨?_, h6.2.trans h1.2⟩⟩ <;> dsimp only <;> omega

def zaO : Nat → Nat → (List zaU) → GTk → (List zaU) × GTk
  | 0, k0, out0, o10 => (out0, o10)
  | n_ + 1, k0, out0, o10 => zaO n_ (k0 + 1) (out0 ++ [((zbX o10).1)]) ((zbX o10).2)
def zcq (t : GTk) : (List zaU) × GTk :=
  if ((one t).2).bad = true then ([], (⟨((one t).2).all, ((one t).2).pos, true⟩ : GTk)) else if ((one t).1 : Int) < 0 then ([], (⟨((one t).2).all, ((one t).2).pos, true⟩ : GTk)) else if ((one t).1 : Int) > (IntKind.i64.wrap ((((one t).2).left : Int).tdiv 2)) then ([], (⟨((one t).2).all, ((one t).2).pos, true⟩ : GTk)) else (match zaO (((one t).1.toNat) - 0) 0 ([]) ((one t).2) with
    | (out_0, o1_0) => (out_0, o1_0))
theorem zpK (t : GTk) (hT : t.left ≤ 16000000) : Ok Tryz.prog 82 [.ptr 1 0, I 2, .bnd 83 1 [.ptr 1 0]] [.row 3 1 (encI t.all), .box [.ref 0 1 t.pos t.left, B t.bad]] (.ref 2 2 0 (zcq t).1.length) [.row 3 1 (encI ((zcq t).2).all), .box [.ref 0 1 ((zcq t).2).pos ((zcq t).2).left, B ((zcq t).2).bad], .row 75 2 ((zcq t).1.flatMap zE)] [] := by
 have h1t := zb9 t
 refine zz Tryz.func82 rfl ?_
 show zO Tryz.prog _ _ ⟨[(0, .ptr 1 0), (1, I 2), (2, .bnd 83 1 [.ptr 1 0])], [(0, .row 3 1 (encI t.all)), (1, .box [.ref 0 1 t.pos t.left, B t.bad])], 2, [], 43, 2⟩
 refine zd (zb rfl (zB (nx' := 3) rfl rfl rfl trivial (zc (ze (zd (zb rfl (za rfl rfl trivial ?_)))))))
 refine zX (Hin := [.row _ _ _, .box [.ref 0 _ _ _, .pv _]]) (H' := [(2, .row _ _ _), (0, .row _ _ _), (1, .box [_, _])]) (nx' := 3) [0, 1] rfl rfl rfl rfl (.inl rfl) rfl rfl rfl rfl (zfC t) rfl (by decide) rfl rfl rfl rfl rfl ?_
 refine za rfl rfl trivial (zc (ze (zd (zd (zb rfl (za rfl rfl trivial (za rfl rfl trivial (za rfl rfl (by decide) (za rfl rfl trivial (za rfl rfl trivial ?_))))))))))
 refine zK rfl (fun h3 => ?_) (fun h3 => ?_)
 ·have g3 : ((one t).2).bad = true := h3
  refine zh rfl h3 rfl (zh rfl h3 rfl (zr rfl h3 rfl rfl (za rfl rfl trivial (zf rfl rfl (zf rfl rfl (zf rfl rfl (zf rfl rfl (zf rfl rfl (zf rfl rfl (zf rfl rfl (zf rfl rfl ?_)))))))))))
  refine zf rfl rfl (za rfl rfl trivial (zc (ze (zP rfl (zd (zb rfl (za rfl rfl trivial (za rfl rfl trivial (za rfl rfl (by decide) ?_)))))))))
  refine zx (H' := [(2, _), (0, _), (1, .box [_, _])]) rfl rfl rfl rfl rfl rfl (.inl rfl) rfl ?_
  refine zc (ze (zd (zb rfl (zB (nx' := 4) rfl rfl rfl trivial (zc (ze (zo (zI ?_))))))))
  have e4 : zcq t = ([], (⟨((one t).2).all, ((one t).2).pos, true⟩ : GTk)) := by
   unfold zcq
   try dsimp only
   rewrite [if_pos g3]
   all_goals rfl
  rw [e4]
  exact zL [] [3] rfl ⟨trivial, trivial⟩ rfl (by (repeat' apply And.intro) <;> first | trivial | rfl | exact zi (fun _ => rfl) _ | exact zk _ | exact zn _ | exact zm _ | assumption) (rfl) rfl rfl rfl (by decide) rfl rfl ⟨⟨rfl, rfl⟩, ⟨rfl, rfl⟩, ⟨rfl, rfl⟩, trivial⟩
 ·have g3 : ¬ (((one t).2).bad = true) := zaw h3
  refine zg rfl h3 (za rfl rfl trivial (zg rfl h3 (zl rfl rfl rfl rfl rfl trivial (zt rfl h3 rfl rfl (za rfl rfl trivial ?_)))))
  refine zK rfl (fun h6 => ?_) (fun h6 => ?_)
  ·have g6 : ((one t).1 : Int) < 0 := of_decide_eq_true h6
   refine zh rfl h6 rfl (zh rfl h6 rfl (zh rfl h6 rfl (zh rfl h6 rfl (zh rfl h6 rfl (zh rfl h6 rfl (zh rfl h6 rfl (zh rfl h6 rfl (zh rfl h6 rfl (zr rfl h6 rfl rfl (zc (ze ?_)))))))))))
   refine zP rfl (zd (zb rfl (za rfl rfl trivial (za rfl rfl trivial (za rfl rfl (by decide) ?_)))))
   refine zx (H' := [(2, _), (0, _), (1, .box [_, _])]) rfl rfl rfl rfl rfl rfl (.inl rfl) rfl ?_
   refine zc (ze (zd (zb rfl (zB (nx' := 4) rfl rfl rfl trivial (zc (ze (zo (zI ?_))))))))
   have e7 : zcq t = ([], (⟨((one t).2).all, ((one t).2).pos, true⟩ : GTk)) := by
    unfold zcq
    try dsimp only
    rewrite [if_neg g3, if_pos g6]
    all_goals rfl
   rw [e7]
   exact zL [] [3] rfl ⟨trivial, trivial⟩ rfl (by (repeat' apply And.intro) <;> first | trivial | rfl | exact zi (fun _ => rfl) _ | exact zk _ | exact zn _ | exact zm _ | assumption) (rfl) rfl rfl rfl (by decide) rfl rfl ⟨⟨rfl, rfl⟩, ⟨rfl, rfl⟩, ⟨rfl, rfl⟩, trivial⟩
  ·have g6 : ¬ (((one t).1 : Int) < 0) := of_decide_eq_false h6
   refine zg rfl h6 (za rfl rfl trivial (zg rfl h6 (za rfl rfl trivial (zg rfl h6 (za rfl rfl trivial (zg rfl h6 (za rfl rfl (by decide) (zg rfl h6 (za rfl rfl trivial (zg rfl h6 (za rfl rfl trivial ?_)))))))))))
   refine zg rfl h6 (za rfl rfl trivial (zg rfl h6 ?_))
   refine zl rfl rfl rfl rfl rfl (by first | decide | omega | (show (0 : Int) ≤ IntKind.i64.wrap _; rw [zb1 (by omega) (by omega)]; omega) | simp_all) ?_
   refine zg rfl h6 (zl rfl rfl rfl rfl rfl trivial (zt rfl h6 rfl rfl (zc (ze ?_))))
   refine zy rfl (fun h10 => ?_) (fun h10 => ?_)
   ·have g10 : ((one t).1 : Int) > (IntKind.i64.wrap ((((one t).2).left : Int).tdiv 2)) := of_decide_eq_true h10
    refine zd (zb rfl (za rfl rfl trivial (za rfl rfl trivial (za rfl rfl (by decide) ?_))))
    refine zx (H' := [(2, _), (0, _), (1, .box [_, _])]) rfl rfl rfl rfl rfl rfl (.inl rfl) rfl ?_
    refine zc (ze (zd (zb rfl (zB (nx' := 4) rfl rfl rfl trivial (zc (ze (zo (zI ?_))))))))
    have e11 : zcq t = ([], (⟨((one t).2).all, ((one t).2).pos, true⟩ : GTk)) := by
     unfold zcq
     try dsimp only
     rewrite [if_neg g3, if_neg g6, if_pos g10]
     all_goals rfl
    rw [e11]
    exact zL [] [3] rfl ⟨trivial, trivial⟩ rfl (by (repeat' apply And.intro) <;> first | trivial | rfl | exact zi (fun _ => rfl) _ | exact zk _ | exact zn _ | exact zm _ | assumption) (rfl) rfl rfl rfl (by decide) rfl rfl ⟨⟨rfl, rfl⟩, ⟨rfl, rfl⟩, ⟨rfl, rfl⟩, trivial⟩
   ·have g10 : ¬ (((one t).1 : Int) > (IntKind.i64.wrap ((((one t).2).left : Int).tdiv 2))) := of_decide_eq_false h10
    refine zA (ze (zd (zb rfl (zB (nx' := 4) rfl rfl rfl trivial (zc (ze (zd (zd (zb rfl (za rfl rfl trivial (za rfl rfl trivial ?_)))))))))))
    refine zc (ze ?_)
    refine z6 (fun w_ : (List zaU) × GTk => match w_ with | (out_0, o1_0) => (⟨[(8, .ref 2 2 0 out_0.length)], [(0, .row 3 1 (encI o1_0.all)), (1, .box [.ref 0 1 o1_0.pos o1_0.left, B o1_0.bad]), (2, .row 75 2 (out_0.flatMap zE))], 3, [], 43, 2⟩ : St)) (fun w_ => zaO (((one t).1.toNat) - 0) 0 ([]) ((one t).2) = w_) ?_ ?_
    ·refine zC ?_
     refine z9 (fun w_ : Nat × (List zaU) × GTk => match w_ with | (k0, out0, o10) => (⟨[(2, .bnd 83 1 [.ptr 1 0]), (8, .ref 2 2 0 out0.length), (33, I (one t).1), (34, I k0)], [(0, .row 3 1 (encI o10.all)), (1, .box [.ref 0 1 o10.pos o10.left, B o10.bad]), (2, .row 75 2 (out0.flatMap zE))], 3, [], 43, 2⟩ : St)) (fun w_ : Nat × (List zaU) × GTk => match w_ with | (k0, out0, o10) => zaO (((one t).1.toNat) - k0) k0 out0 o10 = zaO (((one t).1.toNat) - 0) 0 ([]) ((one t).2) ∧ k0 ≤ (one t).1.toNat ∧ out0.length ≤ k0 ∧ o10.left ≤ t.left) (fun w_ : Nat × (List zaU) × GTk => match w_ with | (k0, out0, o10) => (one t).1.toNat - k0) (0, [], ((one t).2)) (⟨rfl, (by first | omega | (simp; omega)), ⟨Nat.zero_le _, (zb9 t).1⟩⟩) ?_ (fun w_ hh_ => ?_)
     ·exact (zH.ren [(2, 3), (3, 2)] (by decide +kernel) (by decide +kernel) rfl ⟨⟨rfl, rfl⟩, ⟨congrArg (fun n => some (AV.ref 3 2 0 n)) (by first | rfl | simp only [List.length_set] | simp | omega | (simp; omega)), rfl⟩, ⟨rfl, rfl⟩, ⟨rfl, rfl⟩, trivial⟩ ⟨⟨rfl, rfl, rfl⟩, ⟨rfl, rfl, rfl⟩, ⟨rfl, rfl, rfl⟩, trivial⟩ (by decide))
     obtain ⟨k0, out0, o10⟩ := w_
     obtain ⟨hI0, hb0, hv0⟩ := hh_
     show zO Tryz.prog _ _ (⟨[(2, .bnd 83 1 [.ptr 1 0]), (8, .ref 2 2 0 out0.length), (33, I (one t).1), (34, I k0)], [(0, .row 3 1 (encI o10.all)), (1, .box [.ref 0 1 o10.pos o10.left, B o10.bad]), (2, .row 75 2 (out0.flatMap zE))], 3, [], 43, 2⟩ : St)
     have hq0 := zfE (n := (one t).1) (m := (one t).2.left) (s := 2) (by assumption) (by decide) (by omega)
     refine zd (zb rfl (zl rfl rfl rfl rfl rfl trivial (zc (ze (zd ?_)))))
     refine zy rfl (fun h13 => ?_) (fun h13 => ?_)
     ·have g13 : (k0 : Int) < ((one t).1) := of_decide_eq_true h13
      have hm0 : (one t).1.toNat - k0 = ((one t).1.toNat - (k0 + 1)) + 1 := by omega
      refine zA (ze (zd (zC (zb rfl (za rfl rfl trivial (za rfl rfl trivial ?_))))))
      refine zX (Hin := [.row _ _ _, .box [.ref 0 _ _ _, .pv _]]) (H' := [(0, .row _ _ _), (1, .box [_, _]), (2, .row _ _ _)]) (nx' := 3) [0, 1] rfl rfl rfl rfl (.inl rfl) rfl rfl rfl rfl (zof o10) rfl (by decide) rfl rfl rfl rfl rfl ?_
      have p14 := zjo o10
      refine zB (o := .row _ _ [_, _]) (nx' := 4) rfl rfl rfl (by decide) ?_
      refine z3 (m := 1) (new := [_, _]) (cs' := (out0 ++ [((zbX o10).1)]).flatMap zE) (n' := (out0 ++ [((zbX o10).1)]).length) (H' := [(3, .row _ _ _), (0, .row _ _ _), (1, .box [_, _]), (2, .row _ _ _)]) rfl rfl rfl (rfl) rfl rfl rfl rfl rfl rfl (zi (s := 2) (enc := zE) (fun _ => rfl) out0) (rfl) (by first | decide | (unfold zM; omega) | (unfold zM; simp; omega) | (unfold zM; simp only [List.length_append, List.length_take, List.length_drop, List.length_cons, List.length_nil, IntKind.wrap_i64] at *; omega)) (zbt out0 _) (((zd0 (enc := zE) (l := out0) ((zbX o10).1))).symm) (.inl rfl) rfl rfl (.keep rfl (.keep rfl (.keep rfl (.keep rfl .nil)))) (.keep rfl (.keep rfl (.keep rfl (.lose (v' := .undef) rfl (.keep rfl (.keep rfl (.lose (v' := .undef) rfl (.keep rfl (.keep rfl .nil))))))))) ?_
      refine za rfl rfl trivial (zc (zar (ze (zb rfl (zl rfl rfl rfl rfl rfl trivial (za rfl rfl trivial (zc ?_)))))))
      have e16 : zaO (((one t).1.toNat) - k0) k0 out0 o10 = zaO (((one t).1.toNat) - (k0 + 1)) (k0 + 1) (out0 ++ [((zbX o10).1)]) ((zbX o10).2) := by
       rewrite [hm0]
       rewrite [zaO]
       try dsimp only
       all_goals rfl
      exact z5 (k0 + 1, (out0 ++ [((zbX o10).1)]), ((zbX o10).2)) ⟨e16.symm.trans hI0, (by omega), ⟨by simp only [List.length_append, List.length_cons, List.length_nil]; omega, by omega⟩⟩ (by show (one t).1.toNat - (k0 + 1) < (one t).1.toNat - k0; omega) (zH.ren [] (by decide +kernel) (by decide +kernel) rfl ⟨⟨rfl, rfl⟩, ⟨rfl, rfl⟩, ⟨rfl, rfl⟩, ⟨congrArg (fun n => some (I n)) (zcv (k := k0) (by first | omega | (simp; omega))), rfl⟩, trivial⟩ ⟨⟨rfl, rfl, rfl⟩, ⟨rfl, rfl, rfl⟩, ⟨rfl, rfl, rfl⟩, trivial⟩ (by decide))
     ·have g13 : ¬ ((k0 : Int) < ((one t).1)) := of_decide_eq_false h13
      have hm0 : (one t).1.toNat - k0 = 0 := by omega
      refine zV (zac (zal (zak rfl ?_)))
      have e17 : zaO (((one t).1.toNat) - 0) 0 ([]) ((one t).2) = (out0, o10) := by
       rewrite [← hI0, hm0]
       rewrite [zaO]
       try dsimp only
       all_goals rfl
      exact zZ (out0, o10) e17 (zH.ren [] (by decide +kernel) (by decide +kernel) rfl ⟨⟨rfl, rfl⟩, trivial⟩ ⟨⟨rfl, rfl, rfl⟩, ⟨rfl, rfl, rfl⟩, ⟨rfl, rfl, rfl⟩, trivial⟩ (by decide))
    ·rintro ⟨out_0, o1_0⟩ (hJ12 : zaO (((one t).1.toNat) - 0) 0 ([]) ((one t).2) = (out_0, o1_0))
     show seqK _ _ _ .normal (⟨[(8, .ref 2 2 0 out_0.length)], [(0, .row 3 1 (encI o1_0.all)), (1, .box [.ref 0 1 o1_0.pos o1_0.left, B o1_0.bad]), (2, .row 75 2 (out_0.flatMap zE))], 3, [], 43, 2⟩ : St)
     refine ze (zd (zb rfl (za rfl rfl trivial (za rfl rfl trivial (zc (ze (zo ?_)))))))
     have e18 : zcq t = (out_0, o1_0) := by
      unfold zcq
      try dsimp only
      rewrite [if_neg g3, if_neg g6, if_neg g10, hJ12]
      try dsimp only
      all_goals rfl
     rw [e18]
     exact zL [] [2] rfl ⟨trivial, trivial⟩ rfl (by (repeat' apply And.intro) <;> first | trivial | rfl | exact zi (fun _ => rfl) _ | exact zk _ | exact zn _ | exact zm _ | assumption) (rfl) rfl rfl rfl (by decide) rfl rfl ⟨⟨rfl, rfl⟩, ⟨rfl, rfl⟩, ⟨rfl, rfl⟩, trivial⟩

theorem zhl (N : Nat) (hN : N ≤ 16000000) : ∀ (m k : Nat) (out : List zaU) (t : GTk), t.left ≤ N → (∀ x ∈ out, True) → (zaO m k out t).1.length = out.length + m ∧ ((zaO m k out t).2.left ≤ t.left ∧ (zaO m k out t).2.all = t.all) ∧ ∀ x ∈ (zaO m k out t).1, True
  | 0, k, out, t, _, ho => by rw [zaO]; exact ⟨rfl, ⟨Nat.le_refl _, rfl⟩, ho⟩
  | m + 1, k, out, t, ht, ho => by
    rw [zaO]
    have h1 := zjo t
    obtain ⟨h2, h3, h4⟩ := zhl N hN m (k + 1) (out ++ [(zbX t).1]) (zbX t).2 (by omega) (fun x hx => by
      rcases List.mem_append.1 hx with h | h
      · exact ho x h
      · simp only [List.mem_cons, List.not_mem_nil, or_false] at h; subst h; exact trivial)
    simp only [List.length_append, List.length_cons, List.length_nil] at h2
    exact ⟨by omega, ⟨by omega, h3.2.trans (h1.2)⟩, h4⟩
theorem zlL (t : GTk) (hT : t.left ≤ 16000000) : (zcq t).1.length ≤ t.left ∧ ((zcq t).2.left ≤ t.left ∧ (zcq t).2.all = t.all) := by
  have h1 := zb9 t
  unfold zcq
  dsimp only
  by_cases h2 : (one t).2.bad = true
  · rw [if_pos h2]; exact ⟨Nat.zero_le _, h1⟩
  rw [if_neg h2]
  by_cases h3 : (one t).1 < 0
  · rw [if_pos h3]; exact ⟨Nat.zero_le _, h1⟩
  rw [if_neg h3]
  by_cases h4 : (one t).1 > (IntKind.i64.wrap (((one t).2.left : Int).tdiv 2))
  · rw [if_pos h4]; exact ⟨Nat.zero_le _, h1⟩
  rw [if_neg h4]
  have hq := zfE h4 (by decide) (by omega)
  obtain ⟨h5, h6, h7⟩ := zhl t.left hT ((one t).1.toNat - 0) 0 [] (one t).2 h1.1 (fun x hx => by cases hx)
  simp only [List.length_nil] at h5
  refine ⟨?_, ⟨?_, h6.2.trans h1.2⟩⟩ <;> dsimp only <;> omega

def zaK : Nat → Nat → (List zaB) → GTk → (List zaB) × GTk
  | 0, k0, out0, o10 => (out0, o10)
  | n_ + 1, k0, out0, o10 => zaK n_ (k0 + 1) (out0 ++ [((zdj o10).1)]) ((zdj o10).2)
def z8 (t : GTk) : (List zaB) × GTk :=
  if ((one t).2).bad = true then ([], (⟨((one t).2).all, ((one t).2).pos, true⟩ : GTk)) else if ((one t).1 : Int) < 0 then ([], (⟨((one t).2).all, ((one t).2).pos, true⟩ : GTk)) else if ((one t).1 : Int) > (IntKind.i64.wrap ((((one t).2).left : Int).tdiv 7)) then ([], (⟨((one t).2).all, ((one t).2).pos, true⟩ : GTk)) else (match zaK (((one t).1.toNat) - 0) 0 ([]) ((one t).2) with
    | (out_0, o1_0) => (out_0, o1_0))
theorem zoS (t : GTk) (hT : t.left ≤ 16000000) : Ok Tryz.prog 40 [.ptr 1 0, I 7, .bnd 41 1 [.ptr 1 0]] [.row 3 1 (encI t.all), .box [.ref 0 1 t.pos t.left, B t.bad]] (.ref 2 7 0 (z8 t).1.length) [.row 3 1 (encI ((z8 t).2).all), .box [.ref 0 1 ((z8 t).2).pos ((z8 t).2).left, B ((z8 t).2).bad], .row 62 7 ((z8 t).1.flatMap zq)] [] := by
 have h1t := zb9 t
 refine zz Tryz.func40 rfl ?_
 show zO Tryz.prog _ _ ⟨[(0, .ptr 1 0), (1, I 7), (2, .bnd 41 1 [.ptr 1 0])], [(0, .row 3 1 (encI t.all)), (1, .box [.ref 0 1 t.pos t.left, B t.bad])], 2, [], 43, 2⟩
 refine zd (zb rfl (zB (nx' := 3) rfl rfl rfl trivial (zc (ze (zd (zb rfl (za rfl rfl trivial ?_)))))))
 refine zX (Hin := [.row _ _ _, .box [.ref 0 _ _ _, .pv _]]) (H' := [(2, .row _ _ _), (0, .row _ _ _), (1, .box [_, _])]) (nx' := 3) [0, 1] rfl rfl rfl rfl (.inl rfl) rfl rfl rfl rfl (zfC t) rfl (by decide) rfl rfl rfl rfl rfl ?_
 refine za rfl rfl trivial (zc (ze (zd (zd (zb rfl (za rfl rfl trivial (za rfl rfl trivial (za rfl rfl (by decide) (za rfl rfl trivial (za rfl rfl trivial ?_))))))))))
 refine zK rfl (fun h3 => ?_) (fun h3 => ?_)
 ·have g3 : ((one t).2).bad = true := h3
  refine zh rfl h3 rfl (zh rfl h3 rfl (zr rfl h3 rfl rfl (za rfl rfl trivial (zf rfl rfl (zf rfl rfl (zf rfl rfl (zf rfl rfl (zf rfl rfl (zf rfl rfl (zf rfl rfl (zf rfl rfl ?_)))))))))))
  refine zf rfl rfl (za rfl rfl trivial (zc (ze (zP rfl (zd (zb rfl (za rfl rfl trivial (za rfl rfl trivial (za rfl rfl (by decide) ?_)))))))))
  refine zx (H' := [(2, _), (0, _), (1, .box [_, _])]) rfl rfl rfl rfl rfl rfl (.inl rfl) rfl ?_
  refine zc (ze (zd (zb rfl (zB (nx' := 4) rfl rfl rfl trivial (zc (ze (zo (zI ?_))))))))
  have e4 : z8 t = ([], (⟨((one t).2).all, ((one t).2).pos, true⟩ : GTk)) := by
   unfold z8
   try dsimp only
   rewrite [if_pos g3]
   all_goals rfl
  rw [e4]
  exact zL [] [3] rfl ⟨trivial, trivial⟩ rfl (by (repeat' apply And.intro) <;> first | trivial | rfl | exact zi (fun _ => rfl) _ | exact zk _ | exact zn _ | exact zm _ | assumption) (rfl) rfl rfl rfl (by decide) rfl rfl ⟨⟨rfl, rfl⟩, ⟨rfl, rfl⟩, ⟨rfl, rfl⟩, trivial⟩
 ·have g3 : ¬ (((one t).2).bad = true) := zaw h3
  refine zg rfl h3 (za rfl rfl trivial (zg rfl h3 (zl rfl rfl rfl rfl rfl trivial (zt rfl h3 rfl rfl (za rfl rfl trivial ?_)))))
  refine zK rfl (fun h6 => ?_) (fun h6 => ?_)
  ·have g6 : ((one t).1 : Int) < 0 := of_decide_eq_true h6
   refine zh rfl h6 rfl (zh rfl h6 rfl (zh rfl h6 rfl (zh rfl h6 rfl (zh rfl h6 rfl (zh rfl h6 rfl (zh rfl h6 rfl (zh rfl h6 rfl (zh rfl h6 rfl (zr rfl h6 rfl rfl (zc (ze ?_)))))))))))
   refine zP rfl (zd (zb rfl (za rfl rfl trivial (za rfl rfl trivial (za rfl rfl (by decide) ?_)))))
   refine zx (H' := [(2, _), (0, _), (1, .box [_, _])]) rfl rfl rfl rfl rfl rfl (.inl rfl) rfl ?_
   refine zc (ze (zd (zb rfl (zB (nx' := 4) rfl rfl rfl trivial (zc (ze (zo (zI ?_))))))))
   have e7 : z8 t = ([], (⟨((one t).2).all, ((one t).2).pos, true⟩ : GTk)) := by
    unfold z8
    try dsimp only
    rewrite [if_neg g3, if_pos g6]
    all_goals rfl
   rw [e7]
   exact zL [] [3] rfl ⟨trivial, trivial⟩ rfl (by (repeat' apply And.intro) <;> first | trivial | rfl | exact zi (fun _ => rfl) _ | exact zk _ | exact zn _ | exact zm _ | assumption) (rfl) rfl rfl rfl (by decide) rfl rfl ⟨⟨rfl, rfl⟩, ⟨rfl, rfl⟩, ⟨rfl, rfl⟩, trivial⟩
  ·have g6 : ¬ (((one t).1 : Int) < 0) := of_decide_eq_false h6
   refine zg rfl h6 (za rfl rfl trivial (zg rfl h6 (za rfl rfl trivial (zg rfl h6 (za rfl rfl trivial (zg rfl h6 (za rfl rfl (by decide) (zg rfl h6 (za rfl rfl trivial (zg rfl h6 (za rfl rfl trivial ?_)))))))))))
   refine zg rfl h6 (za rfl rfl trivial (zg rfl h6 ?_))
   refine zl rfl rfl rfl rfl rfl (by first | decide | omega | (show (0 : Int) ≤ IntKind.i64.wrap _; rw [zb1 (by omega) (by omega)]; omega) | simp_all) ?_
   refine zg rfl h6 (zl rfl rfl rfl rfl rfl trivial (zt rfl h6 rfl rfl (zc (ze ?_))))
   refine zy rfl (fun h10 => ?_) (fun h10 => ?_)
   ·have g10 : ((one t).1 : Int) > (IntKind.i64.wrap ((((one t).2).left : Int).tdiv 7)) := of_decide_eq_true h10
    refine zd (zb rfl (za rfl rfl trivial (za rfl rfl trivial (za rfl rfl (by decide) ?_))))
    refine zx (H' := [(2, _), (0, _), (1, .box [_, _])]) rfl rfl rfl rfl rfl rfl (.inl rfl) rfl ?_
    refine zc (ze (zd (zb rfl (zB (nx' := 4) rfl rfl rfl trivial (zc (ze (zo (zI ?_))))))))
    have e11 : z8 t = ([], (⟨((one t).2).all, ((one t).2).pos, true⟩ : GTk)) := by
     unfold z8
     try dsimp only
     rewrite [if_neg g3, if_neg g6, if_pos g10]
     all_goals rfl
    rw [e11]
    exact zL [] [3] rfl ⟨trivial, trivial⟩ rfl (by (repeat' apply And.intro) <;> first | trivial | rfl | exact zi (fun _ => rfl) _ | exact zk _ | exact zn _ | exact zm _ | assumption) (rfl) rfl rfl rfl (by decide) rfl rfl ⟨⟨rfl, rfl⟩, ⟨rfl, rfl⟩, ⟨rfl, rfl⟩, trivial⟩
   ·have g10 : ¬ (((one t).1 : Int) > (IntKind.i64.wrap ((((one t).2).left : Int).tdiv 7))) := of_decide_eq_false h10
    refine zA (ze (zd (zb rfl (zB (nx' := 4) rfl rfl rfl trivial (zc (ze (zd (zd (zb rfl (za rfl rfl trivial (za rfl rfl trivial ?_)))))))))))
    refine zc (ze ?_)
    refine z6 (fun w_ : (List zaB) × GTk => match w_ with | (out_0, o1_0) => (⟨[(8, .ref 2 7 0 out_0.length)], [(0, .row 3 1 (encI o1_0.all)), (1, .box [.ref 0 1 o1_0.pos o1_0.left, B o1_0.bad]), (2, .row 62 7 (out_0.flatMap zq))], 3, [], 43, 2⟩ : St)) (fun w_ => zaK (((one t).1.toNat) - 0) 0 ([]) ((one t).2) = w_) ?_ ?_
    ·refine zC ?_
     refine z9 (fun w_ : Nat × (List zaB) × GTk => match w_ with | (k0, out0, o10) => (⟨[(2, .bnd 41 1 [.ptr 1 0]), (8, .ref 2 7 0 out0.length), (33, I (one t).1), (34, I k0)], [(0, .row 3 1 (encI o10.all)), (1, .box [.ref 0 1 o10.pos o10.left, B o10.bad]), (2, .row 62 7 (out0.flatMap zq))], 3, [], 43, 2⟩ : St)) (fun w_ : Nat × (List zaB) × GTk => match w_ with | (k0, out0, o10) => zaK (((one t).1.toNat) - k0) k0 out0 o10 = zaK (((one t).1.toNat) - 0) 0 ([]) ((one t).2) ∧ k0 ≤ (one t).1.toNat ∧ out0.length ≤ k0 ∧ o10.left ≤ t.left) (fun w_ : Nat × (List zaB) × GTk => match w_ with | (k0, out0, o10) => (one t).1.toNat - k0) (0, [], ((one t).2)) (⟨rfl, (by first | omega | (simp; omega)), ⟨Nat.zero_le _, (zb9 t).1⟩⟩) ?_ (fun w_ hh_ => ?_)
     ·exact (zH.ren [(2, 3), (3, 2)] (by decide +kernel) (by decide +kernel) rfl ⟨⟨rfl, rfl⟩, ⟨congrArg (fun n => some (AV.ref 3 7 0 n)) (by first | rfl | simp only [List.length_set] | simp | omega | (simp; omega)), rfl⟩, ⟨rfl, rfl⟩, ⟨rfl, rfl⟩, trivial⟩ ⟨⟨rfl, rfl, rfl⟩, ⟨rfl, rfl, rfl⟩, ⟨rfl, rfl, rfl⟩, trivial⟩ (by decide))
     obtain ⟨k0, out0, o10⟩ := w_
     obtain ⟨hI0, hb0, hv0⟩ := hh_
     show zO Tryz.prog _ _ (⟨[(2, .bnd 41 1 [.ptr 1 0]), (8, .ref 2 7 0 out0.length), (33, I (one t).1), (34, I k0)], [(0, .row 3 1 (encI o10.all)), (1, .box [.ref 0 1 o10.pos o10.left, B o10.bad]), (2, .row 62 7 (out0.flatMap zq))], 3, [], 43, 2⟩ : St)
     have hq0 := zfE (n := (one t).1) (m := (one t).2.left) (s := 7) (by assumption) (by decide) (by omega)
     refine zd (zb rfl (zl rfl rfl rfl rfl rfl trivial (zc (ze (zd ?_)))))
     refine zy rfl (fun h13 => ?_) (fun h13 => ?_)
     ·have g13 : (k0 : Int) < ((one t).1) := of_decide_eq_true h13
      have hm0 : (one t).1.toNat - k0 = ((one t).1.toNat - (k0 + 1)) + 1 := by omega
      refine zA (ze (zd (zC (zb rfl (za rfl rfl trivial (za rfl rfl trivial ?_))))))
      refine zX (Hin := [.row _ _ _, .box [.ref 0 _ _ _, .pv _]]) (H' := [(0, .row _ _ _), (1, .box [_, _]), (2, .row _ _ _)]) (nx' := 3) [0, 1] rfl rfl rfl rfl (.inl rfl) rfl rfl rfl rfl (zpb o10) rfl (by decide) rfl rfl rfl rfl rfl ?_
      have p14 := zk5 o10
      refine zB (o := .row _ _ [_, _, _, _, _, _, _]) (nx' := 4) rfl rfl rfl (by decide) ?_
      refine z3 (m := 1) (new := [_, _, _, _, _, _, _]) (cs' := (out0 ++ [((zdj o10).1)]).flatMap zq) (n' := (out0 ++ [((zdj o10).1)]).length) (H' := [(3, .row _ _ _), (0, .row _ _ _), (1, .box [_, _]), (2, .row _ _ _)]) rfl rfl rfl (rfl) rfl rfl rfl rfl rfl rfl (zi (s := 7) (enc := zq) (fun _ => rfl) out0) (rfl) (by first | decide | (unfold zM; omega) | (unfold zM; simp; omega) | (unfold zM; simp only [List.length_append, List.length_take, List.length_drop, List.length_cons, List.length_nil, IntKind.wrap_i64] at *; omega)) (zbt out0 _) (((zd0 (enc := zq) (l := out0) ((zdj o10).1))).symm) (.inl rfl) rfl rfl (.keep rfl (.keep rfl (.keep rfl (.keep rfl .nil)))) (.keep rfl (.keep rfl (.keep rfl (.lose (v' := .undef) rfl (.keep rfl (.keep rfl (.lose (v' := .undef) rfl (.keep rfl (.keep rfl .nil))))))))) ?_
      refine za rfl rfl trivial (zc (zar (ze (zb rfl (zl rfl rfl rfl rfl rfl trivial (za rfl rfl trivial (zc ?_)))))))
      have e16 : zaK (((one t).1.toNat) - k0) k0 out0 o10 = zaK (((one t).1.toNat) - (k0 + 1)) (k0 + 1) (out0 ++ [((zdj o10).1)]) ((zdj o10).2) := by
       rewrite [hm0]
       rewrite [zaK]
       try dsimp only
       all_goals rfl
      exact z5 (k0 + 1, (out0 ++ [((zdj o10).1)]), ((zdj o10).2)) ⟨e16.symm.trans hI0, (by omega), ⟨by simp only [List.length_append, List.length_cons, List.length_nil]; omega, by omega⟩⟩ (by show (one t).1.toNat - (k0 + 1) < (one t).1.toNat - k0; omega) (zH.ren [] (by decide +kernel) (by decide +kernel) rfl ⟨⟨rfl, rfl⟩, ⟨rfl, rfl⟩, ⟨rfl, rfl⟩, ⟨congrArg (fun n => some (I n)) (zcv (k := k0) (by first | omega | (simp; omega))), rfl⟩, trivial⟩ ⟨⟨rfl, rfl, rfl⟩, ⟨rfl, rfl, rfl⟩, ⟨rfl, rfl, rfl⟩, trivial⟩ (by decide))
     ·have g13 : ¬ ((k0 : Int) < ((one t).1)) := of_decide_eq_false h13
      have hm0 : (one t).1.toNat - k0 = 0 := by omega
      refine zV (zac (zal (zak rfl ?_)))
      have e17 : zaK (((one t).1.toNat) - 0) 0 ([]) ((one t).2) = (out0, o10) := by
       rewrite [← hI0, hm0]
       rewrite [zaK]
       try dsimp only
       all_goals rfl
      exact zZ (out0, o10) e17 (zH.ren [] (by decide +kernel) (by decide +kernel) rfl ⟨⟨rfl, rfl⟩, trivial⟩ ⟨⟨rfl, rfl, rfl⟩, ⟨rfl, rfl, rfl⟩, ⟨rfl, rfl, rfl⟩, trivial⟩ (by decide))
    ·rintro ⟨out_0, o1_0⟩ (hJ12 : zaK (((one t).1.toNat) - 0) 0 ([]) ((one t).2) = (out_0, o1_0))
     show seqK _ _ _ .normal (⟨[(8, .ref 2 7 0 out_0.length)], [(0, .row 3 1 (encI o1_0.all)), (1, .box [.ref 0 1 o1_0.pos o1_0.left, B o1_0.bad]), (2, .row 62 7 (out_0.flatMap zq))], 3, [], 43, 2⟩ : St)
     refine ze (zd (zb rfl (za rfl rfl trivial (za rfl rfl trivial (zc (ze (zo ?_)))))))
     have e18 : z8 t = (out_0, o1_0) := by
      unfold z8
      try dsimp only
      rewrite [if_neg g3, if_neg g6, if_neg g10, hJ12]
      try dsimp only
      all_goals rfl
     rw [e18]
     exact zL [] [2] rfl ⟨trivial, trivial⟩ rfl (by (repeat' apply And.intro) <;> first | trivial | rfl | exact zi (fun _ => rfl) _ | exact zk _ | exact zn _ | exact zm _ | assumption) (rfl) rfl rfl rfl (by decide) rfl rfl ⟨⟨rfl, rfl⟩, ⟨rfl, rfl⟩, ⟨rfl, rfl⟩, trivial⟩

theorem zhn (N : Nat) (hN : N ≤ 16000000) : ∀ (m k : Nat) (out : List zaB) (t : GTk), t.left ≤ N → (∀ x ∈ out, True) → (zaK m k out t).1.length = out.length + m ∧ ((zaK m k out t).2.left ≤ t.left ∧ (zaK m k out t).2.all = t.all) ∧ ∀ x ∈ (zaK m k out t).1, True
  | 0, k, out, t, _, ho => by rw [zaK]; exact ⟨rfl, ⟨Nat.le_refl _, rfl⟩, ho⟩
  | m + 1, k, out, t, ht, ho => by
    rw [zaK]
    have h1 := zk5 t
    obtain ⟨h2, h3, h4⟩ := zhn N hN m (k + 1) (out ++ [(zdj t).1]) (zdj t).2 (by omega) (fun x hx => by
      rcases List.mem_append.1 hx with h | h
      · exact ho x h
      · simp only [List.mem_cons, List.not_mem_nil, or_false] at h; subst h; exact trivial)
    simp only [List.length_append, List.length_cons, List.length_nil] at h2
    exact ⟨by omega, ⟨by omega, h3.2.trans (h1.2)⟩, h4⟩
theorem zld (t : GTk) (hT : t.left ≤ 16000000) : (z8 t).1.length ≤ t.left ∧ ((z8 t).2.left ≤ t.left ∧ (z8 t).2.all = t.all) := by
  have h1 := zb9 t
  unfold z8
  dsimp only
  by_cases h2 : (one t).2.bad = true
  · rw [if_pos h2]; exact ⟨Nat.zero_le _, h1⟩
  rw [if_neg h2]
  by_cases h3 : (one t).1 < 0
  · rw [if_pos h3]; exact ⟨Nat.zero_le _, h1⟩
  rw [if_neg h3]
  by_cases h4 : (one t).1 > (IntKind.i64.wrap (((one t).2.left : Int).tdiv 7))
  · rw [if_pos h4]; exact ⟨Nat.zero_le _, h1⟩
  rw [if_neg h4]
  have hq := zfE h4 (by decide) (by omega)
  obtain ⟨h5, h6, h7⟩ := zhn t.left hT ((one t).1.toNat - 0) 0 [] (one t).2 h1.1 (fun x hx => by cases hx)
  simp only [List.length_nil] at h5
  refine ⟨?_, ⟨?_, h6.2.trans h1.2⟩⟩ <;> dsimp only <;> omega

def zaQ : Nat → Nat → (List Bool) → GTk → (List Bool) × GTk
  | 0, k0, out0, o10 => (out0, o10)
  | n_ + 1, k0, out0, o10 => zaQ n_ (k0 + 1) (out0 ++ [(zba o10).1]) ((zba o10).2)
def zaT (t : GTk) : (List Bool) × GTk :=
  if ((one t).2).bad = true then ([], (⟨((one t).2).all, ((one t).2).pos, true⟩ : GTk)) else if ((one t).1 : Int) < 0 then ([], (⟨((one t).2).all, ((one t).2).pos, true⟩ : GTk)) else if ((one t).1 : Int) > (IntKind.i64.wrap ((((one t).2).left : Int).tdiv 1)) then ([], (⟨((one t).2).all, ((one t).2).pos, true⟩ : GTk)) else (match zaQ (((one t).1.toNat) - 0) 0 ([]) ((one t).2) with
    | (out_0, o1_0) => (out_0, o1_0))
theorem zp3 (t : GTk) (hT : t.left ≤ 16000000) : Ok Tryz.prog 45 [.ptr 1 0, I 1, .bnd 46 1 [.ptr 1 0]] [.row 3 1 (encI t.all), .box [.ref 0 1 t.pos t.left, B t.bad]] (.ref 2 1 0 (zaT t).1.length) [.row 3 1 (encI ((zaT t).2).all), .box [.ref 0 1 ((zaT t).2).pos ((zaT t).2).left, B ((zaT t).2).bad], .row 4 1 (encB (zaT t).1)] [] := by
 have h1t := zb9 t
 refine zz Tryz.func45 rfl ?_
 show zO Tryz.prog _ _ ⟨[(0, .ptr 1 0), (1, I 1), (2, .bnd 46 1 [.ptr 1 0])], [(0, .row 3 1 (encI t.all)), (1, .box [.ref 0 1 t.pos t.left, B t.bad])], 2, [], 43, 2⟩
 refine zd (zb rfl (zB (nx' := 3) rfl rfl rfl trivial (zc (ze (zd (zb rfl (za rfl rfl trivial ?_)))))))
 refine zX (Hin := [.row _ _ _, .box [.ref 0 _ _ _, .pv _]]) (H' := [(2, .row _ _ _), (0, .row _ _ _), (1, .box [_, _])]) (nx' := 3) [0, 1] rfl rfl rfl rfl (.inl rfl) rfl rfl rfl rfl (zfC t) rfl (by decide) rfl rfl rfl rfl rfl ?_
 refine za rfl rfl trivial (zc (ze (zd (zd (zb rfl (za rfl rfl trivial (za rfl rfl trivial (za rfl rfl (by decide) (za rfl rfl trivial (za rfl rfl trivial ?_))))))))))
 refine zK rfl (fun h3 => ?_) (fun h3 => ?_)
 ·have g3 : ((one t).2).bad = true := h3
  refine zh rfl h3 rfl (zh rfl h3 rfl (zr rfl h3 rfl rfl (za rfl rfl trivial (zf rfl rfl (zf rfl rfl (zf rfl rfl (zf rfl rfl (zf rfl rfl (zf rfl rfl (zf rfl rfl (zf rfl rfl ?_)))))))))))
  refine zf rfl rfl (za rfl rfl trivial (zc (ze (zP rfl (zd (zb rfl (za rfl rfl trivial (za rfl rfl trivial (za rfl rfl (by decide) ?_)))))))))
  refine zx (H' := [(2, _), (0, _), (1, .box [_, _])]) rfl rfl rfl rfl rfl rfl (.inl rfl) rfl ?_
  refine zc (ze (zd (zb rfl (zB (nx' := 4) rfl rfl rfl trivial (zc (ze (zo (zI ?_))))))))
  have e4 : zaT t = ([], (⟨((one t).2).all, ((one t).2).pos, true⟩ : GTk)) := by
   unfold zaT
   try dsimp only
   rewrite [if_pos g3]
   all_goals rfl
  rw [e4]
  exact zL [] [3] rfl ⟨trivial, trivial⟩ rfl (by (repeat' apply And.intro) <;> first | trivial | rfl | exact zi (fun _ => rfl) _ | exact zk _ | exact zn _ | exact zm _ | assumption) (rfl) rfl rfl rfl (by decide) rfl rfl ⟨⟨rfl, rfl⟩, ⟨rfl, rfl⟩, ⟨rfl, rfl⟩, trivial⟩
 ·have g3 : ¬ (((one t).2).bad = true) := zaw h3
  refine zg rfl h3 (za rfl rfl trivial (zg rfl h3 (zl rfl rfl rfl rfl rfl trivial (zt rfl h3 rfl rfl (za rfl rfl trivial ?_)))))
  refine zK rfl (fun h6 => ?_) (fun h6 => ?_)
  ·have g6 : ((one t).1 : Int) < 0 := of_decide_eq_true h6
   refine zh rfl h6 rfl (zh rfl h6 rfl (zh rfl h6 rfl (zh rfl h6 rfl (zh rfl h6 rfl (zh rfl h6 rfl (zh rfl h6 rfl (zh rfl h6 rfl (zh rfl h6 rfl (zr rfl h6 rfl rfl (zc (ze ?_)))))))))))
   refine zP rfl (zd (zb rfl (za rfl rfl trivial (za rfl rfl trivial (za rfl rfl (by decide) ?_)))))
   refine zx (H' := [(2, _), (0, _), (1, .box [_, _])]) rfl rfl rfl rfl rfl rfl (.inl rfl) rfl ?_
   refine zc (ze (zd (zb rfl (zB (nx' := 4) rfl rfl rfl trivial (zc (ze (zo (zI ?_))))))))
   have e7 : zaT t = ([], (⟨((one t).2).all, ((one t).2).pos, true⟩ : GTk)) := by
    unfold zaT
    try dsimp only
    rewrite [if_neg g3, if_pos g6]
    all_goals rfl
   rw [e7]
   exact zL [] [3] rfl ⟨trivial, trivial⟩ rfl (by (repeat' apply And.intro) <;> first | trivial | rfl | exact zi (fun _ => rfl) _ | exact zk _ | exact zn _ | exact zm _ | assumption) (rfl) rfl rfl rfl (by decide) rfl rfl ⟨⟨rfl, rfl⟩, ⟨rfl, rfl⟩, ⟨rfl, rfl⟩, trivial⟩
  ·have g6 : ¬ (((one t).1 : Int) < 0) := of_decide_eq_false h6
   refine zg rfl h6 (za rfl rfl trivial (zg rfl h6 (za rfl rfl trivial (zg rfl h6 (za rfl rfl trivial (zg rfl h6 (za rfl rfl (by decide) (zg rfl h6 (za rfl rfl trivial (zg rfl h6 (za rfl rfl trivial ?_)))))))))))
   refine zg rfl h6 (za rfl rfl trivial (zg rfl h6 ?_))
   refine zl rfl rfl rfl rfl rfl (by first | decide | omega | (show (0 : Int) ≤ IntKind.i64.wrap _; rw [zb1 (by omega) (by omega)]; omega) | simp_all) ?_
   refine zg rfl h6 (zl rfl rfl rfl rfl rfl trivial (zt rfl h6 rfl rfl (zc (ze ?_))))
   refine zy rfl (fun h10 => ?_) (fun h10 => ?_)
   ·have g10 : ((one t).1 : Int) > (IntKind.i64.wrap ((((one t).2).left : Int).tdiv 1)) := of_decide_eq_true h10
    refine zd (zb rfl (za rfl rfl trivial (za rfl rfl trivial (za rfl rfl (by decide) ?_))))
    refine zx (H' := [(2, _), (0, _), (1, .box [_, _])]) rfl rfl rfl rfl rfl rfl (.inl rfl) rfl ?_
    refine zc (ze (zd (zb rfl (zB (nx' := 4) rfl rfl rfl trivial (zc (ze (zo (zI ?_))))))))
    have e11 : zaT t = ([], (⟨((one t).2).all, ((one t).2).pos, true⟩ : GTk)) := by
     unfold zaT
     try dsimp only
     rewrite [if_neg g3, if_neg g6, if_pos g10]
     all_goals rfl
    rw [e11]
    exact zL [] [3] rfl ⟨trivial, trivial⟩ rfl (by (repeat' apply And.intro) <;> first | trivial | rfl | exact zi (fun _ => rfl) _ | exact zk _ | exact zn _ | exact zm _ | assumption) (rfl) rfl rfl rfl (by decide) rfl rfl ⟨⟨rfl, rfl⟩, ⟨rfl, rfl⟩, ⟨rfl, rfl⟩, trivial⟩
   ·have g10 : ¬ (((one t).1 : Int) > (IntKind.i64.wrap ((((one t).2).left : Int).tdiv 1))) := of_decide_eq_false h10
    refine zA (ze (zd (zb rfl (zB (nx' := 4) rfl rfl rfl trivial (zc (ze (zd (zd (zb rfl (za rfl rfl trivial (za rfl rfl trivial ?_)))))))))))
    refine zc (ze ?_)
    refine z6 (fun w_ : (List Bool) × GTk => match w_ with | (out_0, o1_0) => (⟨[(8, .ref 2 1 0 out_0.length)], [(0, .row 3 1 (encI o1_0.all)), (1, .box [.ref 0 1 o1_0.pos o1_0.left, B o1_0.bad]), (2, .row 4 1 (encB out_0))], 3, [], 43, 2⟩ : St)) (fun w_ => zaQ (((one t).1.toNat) - 0) 0 ([]) ((one t).2) = w_) ?_ ?_
    ·refine zC ?_
     refine z9 (fun w_ : Nat × (List Bool) × GTk => match w_ with | (k0, out0, o10) => (⟨[(2, .bnd 46 1 [.ptr 1 0]), (8, .ref 2 1 0 out0.length), (33, I (one t).1), (34, I k0)], [(0, .row 3 1 (encI o10.all)), (1, .box [.ref 0 1 o10.pos o10.left, B o10.bad]), (2, .row 4 1 (encB out0))], 3, [], 43, 2⟩ : St)) (fun w_ : Nat × (List Bool) × GTk => match w_ with | (k0, out0, o10) => zaQ (((one t).1.toNat) - k0) k0 out0 o10 = zaQ (((one t).1.toNat) - 0) 0 ([]) ((one t).2) ∧ k0 ≤ (one t).1.toNat ∧ out0.length ≤ k0 ∧ o10.left ≤ t.left) (fun w_ : Nat × (List Bool) × GTk => match w_ with | (k0, out0, o10) => (one t).1.toNat - k0) (0, [], ((one t).2)) (⟨rfl, (by first | omega | (simp; omega)), ⟨Nat.zero_le _, (zb9 t).1⟩⟩) ?_ (fun w_ hh_ => ?_)
     ·exact (zH.ren [(2, 3), (3, 2)] (by decide +kernel) (by decide +kernel) rfl ⟨⟨rfl, rfl⟩, ⟨congrArg (fun n => some (AV.ref 3 1 0 n)) (by first | rfl | simp only [List.length_set] | simp | omega | (simp; omega)), rfl⟩, ⟨rfl, rfl⟩, ⟨rfl, rfl⟩, trivial⟩ ⟨⟨rfl, rfl, rfl⟩, ⟨rfl, rfl, rfl⟩, ⟨rfl, rfl, rfl⟩, trivial⟩ (by decide))
     obtain ⟨k0, out0, o10⟩ := w_
     obtain ⟨hI0, hb0, hv0⟩ := hh_
     show zO Tryz.prog _ _ (⟨[(2, .bnd 46 1 [.ptr 1 0]), (8, .ref 2 1 0 out0.length), (33, I (one t).1), (34, I k0)], [(0, .row 3 1 (encI o10.all)), (1, .box [.ref 0 1 o10.pos o10.left, B o10.bad]), (2, .row 4 1 (encB out0))], 3, [], 43, 2⟩ : St)
     have hq0 := zfE (n := (one t).1) (m := (one t).2.left) (s := 1) (by assumption) (by decide) (by omega)
     refine zd (zb rfl (zl rfl rfl rfl rfl rfl trivial (zc (ze (zd ?_)))))
     refine zy rfl (fun h13 => ?_) (fun h13 => ?_)
     ·have g13 : (k0 : Int) < ((one t).1) := of_decide_eq_true h13
      have hm0 : (one t).1.toNat - k0 = ((one t).1.toNat - (k0 + 1)) + 1 := by omega
      refine zA (ze (zd (zC (zb rfl (za rfl rfl trivial (za rfl rfl trivial ?_))))))
      refine zX (Hin := [.row _ _ _, .box [.ref 0 _ _ _, .pv _]]) (H' := [(0, .row _ _ _), (1, .box [_, _]), (2, .row _ _ _)]) (nx' := 3) [0, 1] rfl rfl rfl rfl (.inl rfl) rfl rfl rfl rfl (zjd o10) rfl (by decide) rfl rfl rfl rfl rfl ?_
      have p14 := zea o10
      refine zB (o := .row _ _ [_]) (nx' := 4) rfl rfl rfl (by decide) ?_
      refine z3 (m := 1) (new := [_]) (cs' := encB (out0 ++ [(zba o10).1])) (n' := (out0 ++ [(zba o10).1]).length) (H' := [(3, .row _ _ _), (0, .row _ _ _), (1, .box [_, _]), (2, .row _ _ _)]) rfl rfl rfl (rfl) rfl rfl rfl rfl rfl rfl (zn out0) (rfl) (by first | decide | (unfold zM; omega) | (unfold zM; simp; omega) | (unfold zM; simp only [List.length_append, List.length_take, List.length_drop, List.length_cons, List.length_nil, IntKind.wrap_i64] at *; omega)) (zbt out0 _) (((zny out0 ((zba o10).1))).symm) (.inl rfl) rfl rfl (.keep rfl (.keep rfl (.keep rfl (.keep rfl .nil)))) (.keep rfl (.keep rfl (.keep rfl (.lose (v' := .undef) rfl (.keep rfl (.keep rfl (.lose (v' := .undef) rfl (.keep rfl (.keep rfl .nil))))))))) ?_
      refine za rfl rfl trivial (zc (zar (ze (zb rfl (zl rfl rfl rfl rfl rfl trivial (za rfl rfl trivial (zc ?_)))))))
      have e16 : zaQ (((one t).1.toNat) - k0) k0 out0 o10 = zaQ (((one t).1.toNat) - (k0 + 1)) (k0 + 1) (out0 ++ [(zba o10).1]) ((zba o10).2) := by
       rewrite [hm0]
       rewrite [zaQ]
       try dsimp only
       all_goals rfl
      exact z5 (k0 + 1, (out0 ++ [(zba o10).1]), ((zba o10).2)) ⟨e16.symm.trans hI0, (by omega), ⟨by simp only [List.length_append, List.length_cons, List.length_nil]; omega, by omega⟩⟩ (by show (one t).1.toNat - (k0 + 1) < (one t).1.toNat - k0; omega) (zH.ren [] (by decide +kernel) (by decide +kernel) rfl ⟨⟨rfl, rfl⟩, ⟨rfl, rfl⟩, ⟨rfl, rfl⟩, ⟨congrArg (fun n => some (I n)) (zcv (k := k0) (by first | omega | (simp; omega))), rfl⟩, trivial⟩ ⟨⟨rfl, rfl, rfl⟩, ⟨rfl, rfl, rfl⟩, ⟨rfl, rfl, rfl⟩, trivial⟩ (by decide))
     ·have g13 : ¬ ((k0 : Int) < ((one t).1)) := of_decide_eq_false h13
      have hm0 : (one t).1.toNat - k0 = 0 := by omega
      refine zV (zac (zal (zak rfl ?_)))
      have e17 : zaQ (((one t).1.toNat) - 0) 0 ([]) ((one t).2) = (out0, o10) := by
       rewrite [← hI0, hm0]
       rewrite [zaQ]
       try dsimp only
       all_goals rfl
      exact zZ (out0, o10) e17 (zH.ren [] (by decide +kernel) (by decide +kernel) rfl ⟨⟨rfl, rfl⟩, trivial⟩ ⟨⟨rfl, rfl, rfl⟩, ⟨rfl, rfl, rfl⟩, ⟨rfl, rfl, rfl⟩, trivial⟩ (by decide))
    ·rintro ⟨out_0, o1_0⟩ (hJ12 : zaQ (((one t).1.toNat) - 0) 0 ([]) ((one t).2) = (out_0, o1_0))
     show seqK _ _ _ .normal (⟨[(8, .ref 2 1 0 out_0.length)], [(0, .row 3 1 (encI o1_0.all)), (1, .box [.ref 0 1 o1_0.pos o1_0.left, B o1_0.bad]), (2, .row 4 1 (encB out_0))], 3, [], 43, 2⟩ : St)
     refine ze (zd (zb rfl (za rfl rfl trivial (za rfl rfl trivial (zc (ze (zo ?_)))))))
     have e18 : zaT t = (out_0, o1_0) := by
      unfold zaT
      try dsimp only
      rewrite [if_neg g3, if_neg g6, if_neg g10, hJ12]
      try dsimp only
      all_goals rfl
     rw [e18]
     exact zL [] [2] rfl ⟨trivial, trivial⟩ rfl (by (repeat' apply And.intro) <;> first | trivial | rfl | exact zi (fun _ => rfl) _ | exact zk _ | exact zn _ | exact zm _ | assumption) (rfl) rfl rfl rfl (by decide) rfl rfl ⟨⟨rfl, rfl⟩, ⟨rfl, rfl⟩, ⟨rfl, rfl⟩, trivial⟩

theorem zg4 (N : Nat) (hN : N ≤ 16000000) : ∀ (m k : Nat) (out : List Bool) (t : GTk), t.left ≤ N → (∀ x ∈ out, True) → (zaQ m k out t).1.length = out.length + m ∧ ((zaQ m k out t).2.left ≤ t.left ∧ (zaQ m k out t).2.all = t.all) ∧ ∀ x ∈ (zaQ m k out t).1, True
  | 0, k, out, t, _, ho => by rw [zaQ]; exact ⟨rfl, ⟨Nat.le_refl _, rfl⟩, ho⟩
  | m + 1, k, out, t, ht, ho => by
    rw [zaQ]
    have h1 := zea t
    obtain ⟨h2, h3, h4⟩ := zg4 N hN m (k + 1) (out ++ [(zba t).1]) (zba t).2 (by omega) (fun x hx => by
      rcases List.mem_append.1 hx with h | h
      · exact ho x h
      · simp only [List.mem_cons, List.not_mem_nil, or_false] at h; subst h; exact trivial)
    simp only [List.length_append, List.length_cons, List.length_nil] at h2
    exact ⟨by omega, ⟨by omega, h3.2.trans (h1.2)⟩, h4⟩
theorem zlr (t : GTk) (hT : t.left ≤ 16000000) : (zaT t).1.length ≤ t.left ∧ ((zaT t).2.left ≤ t.left ∧ (zaT t).2.all = t.all) := by
  have h1 := zb9 t
  unfold zaT
  dsimp only
  by_cases h2 : (one t).2.bad = true
  · rw [if_pos h2]; exact ⟨Nat.zero_le _, h1⟩
  rw [if_neg h2]
  by_cases h3 : (one t).1 < 0
  · rw [if_pos h3]; exact ⟨Nat.zero_le _, h1⟩
  rw [if_neg h3]
  by_cases h4 : (one t).1 > (IntKind.i64.wrap (((one t).2.left : Int).tdiv 1))
  · rw [if_pos h4]; exact ⟨Nat.zero_le _, h1⟩
  rw [if_neg h4]
  have hq := zfE h4 (by decide) (by omega)
  obtain ⟨h5, h6, h7⟩ := zg4 t.left hT ((one t).1.toNat - 0) 0 [] (one t).2 h1.1 (fun x hx => by cases hx)
  simp only [List.length_nil] at h5
  refine ⟨?_, ⟨?_, h6.2.trans h1.2⟩⟩ <;> dsimp only <;> omega

def zc8 (t : GTk) : zG × GTk :=
  ((⟨(tval t 0), (tval t 1), (tval t 2), (tval t 3), (tval t 4), (tval t 5), (zba (zR t 6)).1, (zco ((zba (zR t 6)).2)).1⟩ : zG), ((zco ((zba (zR t 6)).2)).2))
theorem zqa (t : GTk) (hT : t.left ≤ 16000000) : Ok Tryz.prog 39 [.ptr 1 0] [.row 3 1 (encI t.all), .box [.ref 0 1 t.pos t.left, B t.bad]] (zag (zc8 t).1) [.row 3 1 (encI ((zc8 t).2).all), .box [.ref 0 1 ((zc8 t).2).pos ((zc8 t).2).left, B ((zc8 t).2).bad]] [] := by
 have h1t := za7 t 6
 refine zz Tryz.func39 rfl ?_
 show zO Tryz.prog _ _ ⟨[(0, .ptr 1 0)], [(0, .row 3 1 (encI t.all)), (1, .box [.ref 0 1 t.pos t.left, B t.bad])], 2, [], 21, 2⟩
 refine zd (zb rfl (zB (o := .box [_, _, _, _, _, _, _, _]) (nx' := 3) rfl rfl rfl trivial (zc (ze (zd (zb rfl (za rfl rfl trivial (za rfl rfl (by decide) (za rfl rfl (by decide) (za rfl rfl (by decide) (za rfl rfl (by decide) ?_)))))))))))
 refine za rfl rfl (by decide) (za rfl rfl (by decide) (zB (o := .box [_, _, _, _, _, _]) (nx' := 4) rfl rfl rfl (by decide) ?_))
 refine zX (Hin := [.row _ _ _, .box [.ref 0 _ _ _, .pv _], .box [.ptr 3 0, .ptr 3 1, .ptr 3 2, .ptr 3 3, .ptr 3 4, .ptr 3 5], .box [.pv _, .pv _, .pv _, .pv _, .pv _, .pv _, .pv _, .pv _]]) (H' := [(3, .box [_, _, _, _, _, _]), (2, .box [_, _, _, _, _, _, _, _]), (0, .row _ _ _), (1, .box [_, _])]) (nx' := 4) [0, 1, 3, 2] rfl rfl rfl rfl (.inl rfl) rfl rfl rfl rfl (zey t [i64 0, i64 0, i64 0, i64 0, i64 0, i64 0, .bool false, (.slc 0 true [])] [0, 1, 2, 3, 4, 5] rfl rfl) rfl (by decide) rfl rfl rfl rfl rfl ?_
 have p1 := za7 t 6
 refine zc (ze (zd (zb rfl (za rfl rfl trivial ?_))))
 refine zX (Hin := [.row _ _ _, .box [.ref 0 _ _ _, .pv _]]) (H' := [(3, .box [_, _, _, _, _, _]), (2, .box [_, _, _, _, _, _, _, _]), (0, .row _ _ _), (1, .box [_, _])]) (nx' := 4) [0, 1] rfl rfl rfl rfl (.inl rfl) rfl rfl rfl rfl (zjd (zR t 6)) rfl (by decide) rfl rfl rfl rfl rfl ?_
 have p2 := zea (zR t 6)
 refine za rfl rfl (by decide) ?_
 refine zx (H' := [(3, _), (2, .box [_, _, _, _, _, _, _, _]), (0, _), (1, _)]) rfl rfl rfl rfl rfl rfl (.inl rfl) rfl ?_
 refine zc (ze (zd ?_))
 refine zaY rfl (zcn 4 (j := 0) ?_)
 simp only [List.take_succ_cons, List.take_zero, List.drop_succ_cons, List.drop_zero]
 refine za rfl rfl trivial (za rfl rfl trivial (za (v := .bnd 79 1 [_]) rfl rfl trivial ?_))
 refine zX (Hin := [.row _ _ _, .box [.ref 0 _ _ _, .pv _]]) (out' := .ref 4 _ _ _) (H' := [(4, .row _ _ _), (3, .box [_, _, _, _, _, _]), (2, .box [_, _, _, _, _, _, _, _]), (0, .row _ _ _), (1, .box [_, _])]) (nx' := 5) [0, 1] rfl rfl rfl rfl (.inl rfl) rfl rfl rfl rfl (zoV ((zba (zR t 6)).2) (by first | assumption | omega | (dsimp only [GTk.left] at *; omega))) rfl (by decide) rfl rfl rfl rfl rfl ?_
 have p3 := zlf ((zba (zR t 6)).2) (by first | assumption | omega | (dsimp only [GTk.left] at *; omega))
 refine zc ?_
 refine zbz (zH.freezeJ (T' := [(0, .ptr 1 0), (2, .ptr 2 0), (3, .ptr 1 0), (10, .view 3 0 6), (12, .ptr 1 0), (13, B (zba (zR t 6)).1), (15, .ptr 1 0), (16, .ptr 1 0), (17, .bnd 79 1 [.ptr 1 0]), (18, .pv (.slc (zco ((zba (zR t 6)).2)).1.length false ((zco ((zba (zR t 6)).2)).1.flatMap zD)))]) (H' := [(2, .box [I (tval t 0), I (tval t 1), I (tval t 2), I (tval t 3), I (tval t 4), I (tval t 5), B (zba (zR t 6)).1, .pv (.slc 0 false [])]), (0, .row 3 1 (encI ((zco ((zba (zR t 6)).2)).2).all)), (1, .box [.ref 0 1 ((zco ((zba (zR t 6)).2)).2).pos ((zco ((zba (zR t 6)).2)).2).left, B ((zco ((zba (zR t 6)).2)).2).bad])]) [4] (by decide) ⟨⟨_, _, rfl, rfl, (by (repeat' apply And.intro) <;> first | trivial | rfl | exact zi (s := 3) (enc := zD) (fun _ => rfl) _ | exact zi (fun _ => rfl) _ | exact zk _ | exact zn _ | exact zm _ | exact Nat.le_of_ble_eq_true rfl | assumption)⟩, ⟨_, _, rfl, rfl, (by (repeat' apply And.intro) <;> first | trivial | rfl | exact zi (s := 3) (enc := zD) (fun _ => rfl) _ | exact zi (fun _ => rfl) _ | exact zk _ | exact zn _ | exact zm _ | exact Nat.le_of_ble_eq_true rfl | assumption)⟩, ⟨_, _, rfl, rfl, (by (repeat' apply And.intro) <;> first | trivial | rfl | exact zi (s := 3) (enc := zD) (fun _ => rfl) _ | exact zi (fun _ => rfl) _ | exact zk _ | exact zn _ | exact zm _ | exact Nat.le_of_ble_eq_true rfl | assumption)⟩, ⟨_, _, rfl, rfl, (by (repeat' apply And.intro) <;> first | trivial | rfl | exact zi (s := 3) (enc := zD) (fun _ => rfl) _ | exact zi (fun _ => rfl) _ | exact zk _ | exact zn _ | exact zm _ | exact Nat.le_of_ble_eq_true rfl | assumption)⟩, ⟨_, _, rfl, rfl, (by (repeat' apply And.intro) <;> first | trivial | rfl | exact zi (s := 3) (enc := zD) (fun _ => rfl) _ | exact zi (fun _ => rfl) _ | exact zk _ | exact zn _ | exact zm _ | exact Nat.le_of_ble_eq_true rfl | assumption)⟩, ⟨_, _, rfl, rfl, (by (repeat' apply And.intro) <;> first | trivial | rfl | exact zi (s := 3) (enc := zD) (fun _ => rfl) _ | exact zi (fun _ => rfl) _ | exact zk _ | exact zn _ | exact zm _ | exact Nat.le_of_ble_eq_true rfl | assumption)⟩, ⟨_, _, rfl, rfl, (by (repeat' apply And.intro) <;> first | trivial | rfl | exact zi (s := 3) (enc := zD) (fun _ => rfl) _ | exact zi (fun _ => rfl) _ | exact zk _ | exact zn _ | exact zm _ | exact Nat.le_of_ble_eq_true rfl | assumption)⟩, ⟨_, _, rfl, rfl, (by (repeat' apply And.intro) <;> first | trivial | rfl | exact zi (s := 3) (enc := zD) (fun _ => rfl) _ | exact zi (fun _ => rfl) _ | exact zk _ | exact zn _ | exact zm _ | exact Nat.le_of_ble_eq_true rfl | assumption)⟩, ⟨_, _, rfl, rfl, (by (repeat' apply And.intro) <;> first | trivial | rfl | exact zi (s := 3) (enc := zD) (fun _ => rfl) _ | exact zi (fun _ => rfl) _ | exact zk _ | exact zn _ | exact zm _ | exact Nat.le_of_ble_eq_true rfl | assumption)⟩, ⟨_, _, rfl, rfl, (by (repeat' apply And.intro) <;> first | trivial | rfl | exact zi (s := 3) (enc := zD) (fun _ => rfl) _ | exact zi (fun _ => rfl) _ | exact zk _ | exact zn _ | exact zm _ | exact Nat.le_of_ble_eq_true rfl | assumption)⟩, trivial⟩ ⟨⟨rfl, _, _, rfl, rfl, (by (repeat' apply And.intro) <;> first | trivial | rfl | exact zi (s := 3) (enc := zD) (fun _ => rfl) _ | exact zi (fun _ => rfl) _ | exact zk _ | exact zn _ | exact zm _ | exact Nat.le_of_ble_eq_true rfl | assumption)⟩, ⟨rfl, _, _, rfl, rfl, (by (repeat' apply And.intro) <;> first | trivial | rfl | exact zi (s := 3) (enc := zD) (fun _ => rfl) _ | exact zi (fun _ => rfl) _ | exact zk _ | exact zn _ | exact zm _ | exact Nat.le_of_ble_eq_true rfl | assumption)⟩, ⟨rfl, _, _, rfl, rfl, (by (repeat' apply And.intro) <;> first | trivial | rfl | exact zi (s := 3) (enc := zD) (fun _ => rfl) _ | exact zi (fun _ => rfl) _ | exact zk _ | exact zn _ | exact zm _ | exact Nat.le_of_ble_eq_true rfl | assumption)⟩, trivial⟩) ?_
 refine zc3 (j := 4) ?_
 refine za rfl rfl (by decide) ?_
 refine zx (H' := [(2, .box [_, _, _, _, _, _, _, _]), (0, _), (1, _)]) rfl rfl rfl rfl rfl rfl (.inl rfl) rfl ?_
 refine zc (ze (zd (zb rfl (za (v := (.agg [_, _, _, _, _, _, _, _])) rfl rfl (Nat.le_of_ble_eq_true rfl) ?_))))
 refine zx (H' := [(2, .box [_, _, _, _, _, _, _, _]), (0, _), (1, _)]) rfl rfl rfl rfl rfl rfl (.inl rfl) rfl ?_
 refine zc (ze (zo ?_))
 have e4 : zc8 t = ((⟨(tval t 0), (tval t 1), (tval t 2), (tval t 3), (tval t 4), (tval t 5), (zba (zR t 6)).1, (zco ((zba (zR t 6)).2)).1⟩ : zG), ((zco ((zba (zR t 6)).2)).2)) := by
  unfold zc8
  try dsimp only
  all_goals rfl
 rw [e4]
 exact zL [] [] rfl ⟨Nat.le_of_ble_eq_true rfl, trivial⟩ rfl (by (repeat' apply And.intro) <;> first | trivial | rfl | exact zi (fun _ => rfl) _ | exact zk _ | exact zn _ | exact zm _ | assumption) (rfl) rfl rfl rfl (by decide) rfl rfl ⟨⟨rfl, rfl⟩, ⟨rfl, rfl⟩, trivial⟩

theorem zlB (t : GTk) (hT : t.left ≤ 16000000) : (zc8 t).1.Effects.length ≤ t.left ∧ ((zc8 t).2.left ≤ t.left ∧ (zc8 t).2.all = t.all) := by
  have h1 := za7 t 6
  have h2 := zea (zR t 6)
  have h3 := zlf (zba (zR t 6)).2 (by omega)
  unfold zc8; dsimp only; exact ⟨by omega, by omega, h3.2.2.trans (h2.2.trans h1.2)⟩

def foeR (t : GTk) : GFoe × GTk :=
  ((⟨(tval t 0), (tval t 1), (tval t 2), (tval t 3), (tval t 4), (zbb (zR t 6)).1, (zcq ((zbb (zR t 6)).2)).1, (tval t 5)⟩ : GFoe), ((zcq ((zbb (zR t 6)).2)).2))
theorem zqT (t : GTk) (hT : t.left ≤ 16000000) : Ok Tryz.prog 43 [.ptr 1 0] [.row 3 1 (encI t.all), .box [.ref 0 1 t.pos t.left, B t.bad]] (zdO (foeR t).1) [.row 3 1 (encI ((foeR t).2).all), .box [.ref 0 1 ((foeR t).2).pos ((foeR t).2).left, B ((foeR t).2).bad]] [] := by
 have h1t := za7 t 6
 refine zz Tryz.func43 rfl ?_
 show zO Tryz.prog _ _ ⟨[(0, .ptr 1 0)], [(0, .row 3 1 (encI t.all)), (1, .box [.ref 0 1 t.pos t.left, B t.bad])], 2, [], 23, 2⟩
 refine zd (zb rfl (zB (o := .box [_, _, _, _, _, _, _, _]) (nx' := 3) rfl rfl rfl trivial (zc (ze (zd (zb rfl (za rfl rfl trivial (za rfl rfl (by decide) (za rfl rfl (by decide) (za rfl rfl (by decide) (za rfl rfl (by decide) ?_)))))))))))
 refine za rfl rfl (by decide) (za rfl rfl (by decide) (zB (o := .box [_, _, _, _, _, _]) (nx' := 4) rfl rfl rfl (by decide) ?_))
 refine zX (Hin := [.row _ _ _, .box [.ref 0 _ _ _, .pv _], .box [.ptr 3 0, .ptr 3 1, .ptr 3 2, .ptr 3 3, .ptr 3 4, .ptr 3 7], .box [.pv _, .pv _, .pv _, .pv _, .pv _, .pv _, .pv _, .pv _]]) (H' := [(3, .box [_, _, _, _, _, _]), (2, .box [_, _, _, _, _, _, _, _]), (0, .row _ _ _), (1, .box [_, _])]) (nx' := 4) [0, 1, 3, 2] rfl rfl rfl rfl (.inl rfl) rfl rfl rfl rfl (zey t [i64 0, i64 0, i64 0, i64 0, i64 0, (.slc 0 true []), (.slc 0 true []), i64 0] [0, 1, 2, 3, 4, 7] rfl rfl) rfl (by decide) rfl rfl rfl rfl rfl ?_
 have p1 := za7 t 6
 refine zc (ze (zd ?_))
 refine zaY rfl (zcn 4 (j := 0) ?_)
 simp only [List.take_succ_cons, List.take_zero, List.drop_succ_cons, List.drop_zero]
 refine za rfl rfl trivial (za rfl rfl trivial (za (v := .bnd 81 1 [_]) rfl rfl trivial ?_))
 refine zX (Hin := [.row _ _ _, .box [.ref 0 _ _ _, .pv _]]) (out' := .ref 4 _ _ _) (H' := [(4, .row _ _ _), (3, .box [_, _, _, _, _, _]), (2, .box [_, _, _, _, _, _, _, _]), (0, .row _ _ _), (1, .box [_, _])]) (nx' := 5) [0, 1] rfl rfl rfl rfl (.inl rfl) rfl rfl rfl rfl (zpx (zR t 6) (by first | assumption | omega | (dsimp only [GTk.left] at *; omega))) rfl (by decide) rfl rfl rfl rfl rfl ?_
 have p2 := zly (zR t 6) (by first | assumption | omega | (dsimp only [GTk.left] at *; omega))
 refine zc ?_
 refine zbz (zH.freezeJ (T' := [(0, .ptr 1 0), (2, .ptr 2 0), (3, .ptr 1 0), (10, .view 3 0 6), (12, .ptr 1 0), (13, .ptr 1 0), (14, .bnd 81 1 [.ptr 1 0]), (15, .pv (.slc (zbb (zR t 6)).1.length false ((zbb (zR t 6)).1.flatMap zN)))]) (H' := [(2, .box [I (tval t 0), I (tval t 1), I (tval t 2), I (tval t 3), I (tval t 4), .pv (.slc 0 false []), .pv (.slc 0 false []), I (tval t 5)]), (0, .row 3 1 (encI ((zbb (zR t 6)).2).all)), (1, .box [.ref 0 1 ((zbb (zR t 6)).2).pos ((zbb (zR t 6)).2).left, B ((zbb (zR t 6)).2).bad])]) [4] (by decide) ⟨⟨_, _, rfl, rfl, (by (repeat' apply And.intro) <;> first | trivial | rfl | exact zi (s := 5) (enc := zN) (fun _ => rfl) _ | exact zi (fun _ => rfl) _ | exact zk _ | exact zn _ | exact zm _ | exact Nat.le_of_ble_eq_true rfl | assumption)⟩, ⟨_, _, rfl, rfl, (by (repeat' apply And.intro) <;> first | trivial | rfl | exact zi (s := 5) (enc := zN) (fun _ => rfl) _ | exact zi (fun _ => rfl) _ | exact zk _ | exact zn _ | exact zm _ | exact Nat.le_of_ble_eq_true rfl | assumption)⟩, ⟨_, _, rfl, rfl, (by (repeat' apply And.intro) <;> first | trivial | rfl | exact zi (s := 5) (enc := zN) (fun _ => rfl) _ | exact zi (fun _ => rfl) _ | exact zk _ | exact zn _ | exact zm _ | exact Nat.le_of_ble_eq_true rfl | assumption)⟩, ⟨_, _, rfl, rfl, (by (repeat' apply And.intro) <;> first | trivial | rfl | exact zi (s := 5) (enc := zN) (fun _ => rfl) _ | exact zi (fun _ => rfl) _ | exact zk _ | exact zn _ | exact zm _ | exact Nat.le_of_ble_eq_true rfl | assumption)⟩, ⟨_, _, rfl, rfl, (by (repeat' apply And.intro) <;> first | trivial | rfl | exact zi (s := 5) (enc := zN) (fun _ => rfl) _ | exact zi (fun _ => rfl) _ | exact zk _ | exact zn _ | exact zm _ | exact Nat.le_of_ble_eq_true rfl | assumption)⟩, ⟨_, _, rfl, rfl, (by (repeat' apply And.intro) <;> first | trivial | rfl | exact zi (s := 5) (enc := zN) (fun _ => rfl) _ | exact zi (fun _ => rfl) _ | exact zk _ | exact zn _ | exact zm _ | exact Nat.le_of_ble_eq_true rfl | assumption)⟩, ⟨_, _, rfl, rfl, (by (repeat' apply And.intro) <;> first | trivial | rfl | exact zi (s := 5) (enc := zN) (fun _ => rfl) _ | exact zi (fun _ => rfl) _ | exact zk _ | exact zn _ | exact zm _ | exact Nat.le_of_ble_eq_true rfl | assumption)⟩, ⟨_, _, rfl, rfl, (by (repeat' apply And.intro) <;> first | trivial | rfl | exact zi (s := 5) (enc := zN) (fun _ => rfl) _ | exact zi (fun _ => rfl) _ | exact zk _ | exact zn _ | exact zm _ | exact Nat.le_of_ble_eq_true rfl | assumption)⟩, trivial⟩ ⟨⟨rfl, _, _, rfl, rfl, (by (repeat' apply And.intro) <;> first | trivial | rfl | exact zi (s := 5) (enc := zN) (fun _ => rfl) _ | exact zi (fun _ => rfl) _ | exact zk _ | exact zn _ | exact zm _ | exact Nat.le_of_ble_eq_true rfl | assumption)⟩, ⟨rfl, _, _, rfl, rfl, (by (repeat' apply And.intro) <;> first | trivial | rfl | exact zi (s := 5) (enc := zN) (fun _ => rfl) _ | exact zi (fun _ => rfl) _ | exact zk _ | exact zn _ | exact zm _ | exact Nat.le_of_ble_eq_true rfl | assumption)⟩, ⟨rfl, _, _, rfl, rfl, (by (repeat' apply And.intro) <;> first | trivial | rfl | exact zi (s := 5) (enc := zN) (fun _ => rfl) _ | exact zi (fun _ => rfl) _ | exact zk _ | exact zn _ | exact zm _ | exact Nat.le_of_ble_eq_true rfl | assumption)⟩, trivial⟩) ?_
 refine zc3 (j := 4) ?_
 refine za rfl rfl (by decide) ?_
 refine zx (H' := [(2, .box [_, _, _, _, _, _, _, _]), (0, _), (1, _)]) rfl rfl rfl rfl rfl rfl (.inl rfl) rfl ?_
 refine zc (ze (zd ?_))
 refine zaY rfl (zcn 4 (j := 0) ?_)
 simp only [List.take_succ_cons, List.take_zero, List.drop_succ_cons, List.drop_zero]
 refine za rfl rfl trivial (za rfl rfl trivial (za (v := .bnd 83 1 [_]) rfl rfl trivial ?_))
 refine zX (Hin := [.row _ _ _, .box [.ref 0 _ _ _, .pv _]]) (out' := .ref 5 _ _ _) (H' := [(5, .row _ _ _), (2, .box [_, _, _, _, _, _, _, _]), (0, .row _ _ _), (1, .box [_, _])]) (nx' := 6) [0, 1] rfl rfl rfl rfl (.inl rfl) rfl rfl rfl rfl (zpK ((zbb (zR t 6)).2) (by first | assumption | omega | (dsimp only [GTk.left] at *; omega))) rfl (by decide) rfl rfl rfl rfl rfl ?_
 have p3 := zlL ((zbb (zR t 6)).2) (by first | assumption | omega | (dsimp only [GTk.left] at *; omega))
 refine zc ?_
 refine zbz (zH.freezeJ (T' := [(0, .ptr 1 0), (2, .ptr 2 0), (3, .ptr 1 0), (10, .view 3 0 6), (12, .ptr 1 0), (13, .ptr 1 0), (14, .bnd 81 1 [.ptr 1 0]), (15, .pv (.slc (zbb (zR t 6)).1.length false ((zbb (zR t 6)).1.flatMap zN))), (17, .ptr 1 0), (18, .ptr 1 0), (19, .bnd 83 1 [.ptr 1 0]), (20, .pv (.slc (zcq ((zbb (zR t 6)).2)).1.length false ((zcq ((zbb (zR t 6)).2)).1.flatMap zE)))]) (H' := [(2, .box [I (tval t 0), I (tval t 1), I (tval t 2), I (tval t 3), I (tval t 4), .pv (.slc (zbb (zR t 6)).1.length false ((zbb (zR t 6)).1.flatMap zN)), .pv (.slc 0 false []), I (tval t 5)]), (0, .row 3 1 (encI ((zcq ((zbb (zR t 6)).2)).2).all)), (1, .box [.ref 0 1 ((zcq ((zbb (zR t 6)).2)).2).pos ((zcq ((zbb (zR t 6)).2)).2).left, B ((zcq ((zbb (zR t 6)).2)).2).bad])]) [5] (by decide) ⟨⟨_, _, rfl, rfl, (by (repeat' apply And.intro) <;> first | trivial | rfl | exact zi (s := 2) (enc := zE) (fun _ => rfl) _ | exact zi (fun _ => rfl) _ | exact zk _ | exact zn _ | exact zm _ | exact Nat.le_of_ble_eq_true rfl | assumption)⟩, ⟨_, _, rfl, rfl, (by (repeat' apply And.intro) <;> first | trivial | rfl | exact zi (s := 2) (enc := zE) (fun _ => rfl) _ | exact zi (fun _ => rfl) _ | exact zk _ | exact zn _ | exact zm _ | exact Nat.le_of_ble_eq_true rfl | assumption)⟩, ⟨_, _, rfl, rfl, (by (repeat' apply And.intro) <;> first | trivial | rfl | exact zi (s := 2) (enc := zE) (fun _ => rfl) _ | exact zi (fun _ => rfl) _ | exact zk _ | exact zn _ | exact zm _ | exact Nat.le_of_ble_eq_true rfl | assumption)⟩, ⟨_, _, rfl, rfl, (by (repeat' apply And.intro) <;> first | trivial | rfl | exact zi (s := 2) (enc := zE) (fun _ => rfl) _ | exact zi (fun _ => rfl) _ | exact zk _ | exact zn _ | exact zm _ | exact Nat.le_of_ble_eq_true rfl | assumption)⟩, ⟨_, _, rfl, rfl, (by (repeat' apply And.intro) <;> first | trivial | rfl | exact zi (s := 2) (enc := zE) (fun _ => rfl) _ | exact zi (fun _ => rfl) _ | exact zk _ | exact zn _ | exact zm _ | exact Nat.le_of_ble_eq_true rfl | assumption)⟩, ⟨_, _, rfl, rfl, (by (repeat' apply And.intro) <;> first | trivial | rfl | exact zi (s := 2) (enc := zE) (fun _ => rfl) _ | exact zi (fun _ => rfl) _ | exact zk _ | exact zn _ | exact zm _ | exact Nat.le_of_ble_eq_true rfl | assumption)⟩, ⟨_, _, rfl, rfl, (by (repeat' apply And.intro) <;> first | trivial | rfl | exact zi (s := 2) (enc := zE) (fun _ => rfl) _ | exact zi (fun _ => rfl) _ | exact zk _ | exact zn _ | exact zm _ | exact Nat.le_of_ble_eq_true rfl | assumption)⟩, ⟨_, _, rfl, rfl, (by (repeat' apply And.intro) <;> first | trivial | rfl | exact zi (s := 2) (enc := zE) (fun _ => rfl) _ | exact zi (fun _ => rfl) _ | exact zk _ | exact zn _ | exact zm _ | exact Nat.le_of_ble_eq_true rfl | assumption)⟩, ⟨_, _, rfl, rfl, (by (repeat' apply And.intro) <;> first | trivial | rfl | exact zi (s := 2) (enc := zE) (fun _ => rfl) _ | exact zi (fun _ => rfl) _ | exact zk _ | exact zn _ | exact zm _ | exact Nat.le_of_ble_eq_true rfl | assumption)⟩, ⟨_, _, rfl, rfl, (by (repeat' apply And.intro) <;> first | trivial | rfl | exact zi (s := 2) (enc := zE) (fun _ => rfl) _ | exact zi (fun _ => rfl) _ | exact zk _ | exact zn _ | exact zm _ | exact Nat.le_of_ble_eq_true rfl | assumption)⟩, ⟨_, _, rfl, rfl, (by (repeat' apply And.intro) <;> first | trivial | rfl | exact zi (s := 2) (enc := zE) (fun _ => rfl) _ | exact zi (fun _ => rfl) _ | exact zk _ | exact zn _ | exact zm _ | exact Nat.le_of_ble_eq_true rfl | assumption)⟩, ⟨_, _, rfl, rfl, (by (repeat' apply And.intro) <;> first | trivial | rfl | exact zi (s := 2) (enc := zE) (fun _ => rfl) _ | exact zi (fun _ => rfl) _ | exact zk _ | exact zn _ | exact zm _ | exact Nat.le_of_ble_eq_true rfl | assumption)⟩, trivial⟩ ⟨⟨rfl, _, _, rfl, rfl, (by (repeat' apply And.intro) <;> first | trivial | rfl | exact zi (s := 2) (enc := zE) (fun _ => rfl) _ | exact zi (fun _ => rfl) _ | exact zk _ | exact zn _ | exact zm _ | exact Nat.le_of_ble_eq_true rfl | assumption)⟩, ⟨rfl, _, _, rfl, rfl, (by (repeat' apply And.intro) <;> first | trivial | rfl | exact zi (s := 2) (enc := zE) (fun _ => rfl) _ | exact zi (fun _ => rfl) _ | exact zk _ | exact zn _ | exact zm _ | exact Nat.le_of_ble_eq_true rfl | assumption)⟩, ⟨rfl, _, _, rfl, rfl, (by (repeat' apply And.intro) <;> first | trivial | rfl | exact zi (s := 2) (enc := zE) (fun _ => rfl) _ | exact zi (fun _ => rfl) _ | exact zk _ | exact zn _ | exact zm _ | exact Nat.le_of_ble_eq_true rfl | assumption)⟩, trivial⟩) ?_
 refine zc3 (j := 4) ?_
 refine za rfl rfl (by decide) ?_
 refine zx (H' := [(2, .box [_, _, _, _, _, _, _, _]), (0, _), (1, _)]) rfl rfl rfl rfl rfl rfl (.inl rfl) rfl ?_
 refine zc (ze (zd (zb rfl (za (v := (.agg [_, _, _, _, _, _, _, _])) rfl rfl (Nat.le_of_ble_eq_true rfl) ?_))))
 refine zx (H' := [(2, .box [_, _, _, _, _, _, _, _]), (0, _), (1, _)]) rfl rfl rfl rfl rfl rfl (.inl rfl) rfl ?_
 refine zc (ze (zo ?_))
 have e4 : foeR t = ((⟨(tval t 0), (tval t 1), (tval t 2), (tval t 3), (tval t 4), (zbb (zR t 6)).1, (zcq ((zbb (zR t 6)).2)).1, (tval t 5)⟩ : GFoe), ((zcq ((zbb (zR t 6)).2)).2)) := by
  unfold foeR
  try dsimp only
  all_goals rfl
 rw [e4]
 exact zL [] [] rfl ⟨Nat.le_of_ble_eq_true rfl, trivial⟩ rfl (by (repeat' apply And.intro) <;> first | trivial | rfl | exact zi (fun _ => rfl) _ | exact zk _ | exact zn _ | exact zm _ | assumption) (rfl) rfl rfl rfl (by decide) rfl rfl ⟨⟨rfl, rfl⟩, ⟨rfl, rfl⟩, trivial⟩

theorem zn6 (t : GTk) (hT : t.left ≤ 16000000) : ((foeR t).1.Script.length ≤ t.left ∧ (foeR t).1.Hoard.length ≤ t.left) ∧ ((foeR t).2.left ≤ t.left ∧ (foeR t).2.all = t.all) := by
  have h1 := za7 t 6
  have h2 := zly (zR t 6) (by omega)
  have h3 := zlL (zbb (zR t 6)).2 (by omega)
  unfold foeR; dsimp only; exact ⟨⟨by omega, by omega⟩, by omega, h3.2.2.trans (h2.2.2.trans h1.2)⟩

def zaR : Nat → Nat → (List zG) → GTk → (List zG) × GTk
  | 0, k0, out0, o10 => (out0, o10)
  | n_ + 1, k0, out0, o10 => zaR n_ (k0 + 1) (out0 ++ [((zc8 o10).1)]) ((zc8 o10).2)
def zW (t : GTk) : (List zG) × GTk :=
  if ((one t).2).bad = true then ([], (⟨((one t).2).all, ((one t).2).pos, true⟩ : GTk)) else if ((one t).1 : Int) < 0 then ([], (⟨((one t).2).all, ((one t).2).pos, true⟩ : GTk)) else if ((one t).1 : Int) > (IntKind.i64.wrap ((((one t).2).left : Int).tdiv 8)) then ([], (⟨((one t).2).all, ((one t).2).pos, true⟩ : GTk)) else (match zaR (((one t).1.toNat) - 0) 0 ([]) ((one t).2) with
    | (out_0, o1_0) => (out_0, o1_0))
theorem zpz (t : GTk) (hT : t.left ≤ 16000000) : Ok Tryz.prog 38 [.ptr 1 0, I 8, .bnd 39 1 [.ptr 1 0]] [.row 3 1 (encI t.all), .box [.ref 0 1 t.pos t.left, B t.bad]] (.ref 2 8 0 (zW t).1.length) [.row 3 1 (encI ((zW t).2).all), .box [.ref 0 1 ((zW t).2).pos ((zW t).2).left, B ((zW t).2).bad], .row 52 8 ((zW t).1.flatMap zj)] [] := by
 have h1t := zb9 t
 refine zz Tryz.func38 rfl ?_
 show zO Tryz.prog _ _ ⟨[(0, .ptr 1 0), (1, I 8), (2, .bnd 39 1 [.ptr 1 0])], [(0, .row 3 1 (encI t.all)), (1, .box [.ref 0 1 t.pos t.left, B t.bad])], 2, [], 43, 2⟩
 refine zd (zb rfl (zB (nx' := 3) rfl rfl rfl trivial (zc (ze (zd (zb rfl (za rfl rfl trivial ?_)))))))
 refine zX (Hin := [.row _ _ _, .box [.ref 0 _ _ _, .pv _]]) (H' := [(2, .row _ _ _), (0, .row _ _ _), (1, .box [_, _])]) (nx' := 3) [0, 1] rfl rfl rfl rfl (.inl rfl) rfl rfl rfl rfl (zfC t) rfl (by decide) rfl rfl rfl rfl rfl ?_
 refine za rfl rfl trivial (zc (ze (zd (zd (zb rfl (za rfl rfl trivial (za rfl rfl trivial (za rfl rfl (by decide) (za rfl rfl trivial (za rfl rfl trivial ?_))))))))))
 refine zK rfl (fun h3 => ?_) (fun h3 => ?_)
 ·have g3 : ((one t).2).bad = true := h3
  refine zh rfl h3 rfl (zh rfl h3 rfl (zr rfl h3 rfl rfl (za rfl rfl trivial (zf rfl rfl (zf rfl rfl (zf rfl rfl (zf rfl rfl (zf rfl rfl (zf rfl rfl (zf rfl rfl (zf rfl rfl ?_)))))))))))
  refine zf rfl rfl (za rfl rfl trivial (zc (ze (zP rfl (zd (zb rfl (za rfl rfl trivial (za rfl rfl trivial (za rfl rfl (by decide) ?_)))))))))
  refine zx (H' := [(2, _), (0, _), (1, .box [_, _])]) rfl rfl rfl rfl rfl rfl (.inl rfl) rfl ?_
  refine zc (ze (zd (zb rfl (zB (nx' := 4) rfl rfl rfl trivial (zc (ze (zo (zI ?_))))))))
  have e4 : zW t = ([], (⟨((one t).2).all, ((one t).2).pos, true⟩ : GTk)) := by
   unfold zW
   try dsimp only
   rewrite [if_pos g3]
   all_goals rfl
  rw [e4]
  exact zL [] [3] rfl ⟨trivial, trivial⟩ rfl (by (repeat' apply And.intro) <;> first | trivial | rfl | exact zi (fun _ => rfl) _ | exact zk _ | exact zn _ | exact zm _ | assumption) (rfl) rfl rfl rfl (by decide) rfl rfl ⟨⟨rfl, rfl⟩, ⟨rfl, rfl⟩, ⟨rfl, rfl⟩, trivial⟩
 ·have g3 : ¬ (((one t).2).bad = true) := zaw h3
  refine zg rfl h3 (za rfl rfl trivial (zg rfl h3 (zl rfl rfl rfl rfl rfl trivial (zt rfl h3 rfl rfl (za rfl rfl trivial ?_)))))
  refine zK rfl (fun h6 => ?_) (fun h6 => ?_)
  ·have g6 : ((one t).1 : Int) < 0 := of_decide_eq_true h6
   refine zh rfl h6 rfl (zh rfl h6 rfl (zh rfl h6 rfl (zh rfl h6 rfl (zh rfl h6 rfl (zh rfl h6 rfl (zh rfl h6 rfl (zh rfl h6 rfl (zh rfl h6 rfl (zr rfl h6 rfl rfl (zc (ze ?_)))))))))))
   refine zP rfl (zd (zb rfl (za rfl rfl trivial (za rfl rfl trivial (za rfl rfl (by decide) ?_)))))
   refine zx (H' := [(2, _), (0, _), (1, .box [_, _])]) rfl rfl rfl rfl rfl rfl (.inl rfl) rfl ?_
   refine zc (ze (zd (zb rfl (zB (nx' := 4) rfl rfl rfl trivial (zc (ze (zo (zI ?_))))))))
   have e7 : zW t = ([], (⟨((one t).2).all, ((one t).2).pos, true⟩ : GTk)) := by
    unfold zW
    try dsimp only
    rewrite [if_neg g3, if_pos g6]
    all_goals rfl
   rw [e7]
   exact zL [] [3] rfl ⟨trivial, trivial⟩ rfl (by (repeat' apply And.intro) <;> first | trivial | rfl | exact zi (fun _ => rfl) _ | exact zk _ | exact zn _ | exact zm _ | assumption) (rfl) rfl rfl rfl (by decide) rfl rfl ⟨⟨rfl, rfl⟩, ⟨rfl, rfl⟩, ⟨rfl, rfl⟩, trivial⟩
  ·have g6 : ¬ (((one t).1 : Int) < 0) := of_decide_eq_false h6
   refine zg rfl h6 (za rfl rfl trivial (zg rfl h6 (za rfl rfl trivial (zg rfl h6 (za rfl rfl trivial (zg rfl h6 (za rfl rfl (by decide) (zg rfl h6 (za rfl rfl trivial (zg rfl h6 (za rfl rfl trivial ?_)))))))))))
   refine zg rfl h6 (za rfl rfl trivial (zg rfl h6 ?_))
   refine zl rfl rfl rfl rfl rfl (by first | decide | omega | (show (0 : Int) ≤ IntKind.i64.wrap _; rw [zb1 (by omega) (by omega)]; omega) | simp_all) ?_
   refine zg rfl h6 (zl rfl rfl rfl rfl rfl trivial (zt rfl h6 rfl rfl (zc (ze ?_))))
   refine zy rfl (fun h10 => ?_) (fun h10 => ?_)
   ·have g10 : ((one t).1 : Int) > (IntKind.i64.wrap ((((one t).2).left : Int).tdiv 8)) := of_decide_eq_true h10
    refine zd (zb rfl (za rfl rfl trivial (za rfl rfl trivial (za rfl rfl (by decide) ?_))))
    refine zx (H' := [(2, _), (0, _), (1, .box [_, _])]) rfl rfl rfl rfl rfl rfl (.inl rfl) rfl ?_
    refine zc (ze (zd (zb rfl (zB (nx' := 4) rfl rfl rfl trivial (zc (ze (zo (zI ?_))))))))
    have e11 : zW t = ([], (⟨((one t).2).all, ((one t).2).pos, true⟩ : GTk)) := by
     unfold zW
     try dsimp only
     rewrite [if_neg g3, if_neg g6, if_pos g10]
     all_goals rfl
    rw [e11]
    exact zL [] [3] rfl ⟨trivial, trivial⟩ rfl (by (repeat' apply And.intro) <;> first | trivial | rfl | exact zi (fun _ => rfl) _ | exact zk _ | exact zn _ | exact zm _ | assumption) (rfl) rfl rfl rfl (by decide) rfl rfl ⟨⟨rfl, rfl⟩, ⟨rfl, rfl⟩, ⟨rfl, rfl⟩, trivial⟩
   ·have g10 : ¬ (((one t).1 : Int) > (IntKind.i64.wrap ((((one t).2).left : Int).tdiv 8))) := of_decide_eq_false h10
    refine zA (ze (zd (zb rfl (zB (nx' := 4) rfl rfl rfl trivial (zc (ze (zd (zd (zb rfl (za rfl rfl trivial (za rfl rfl trivial ?_)))))))))))
    refine zc (ze ?_)
    refine z6 (fun w_ : (List zG) × GTk => match w_ with | (out_0, o1_0) => (⟨[(8, .ref 2 8 0 out_0.length)], [(0, .row 3 1 (encI o1_0.all)), (1, .box [.ref 0 1 o1_0.pos o1_0.left, B o1_0.bad]), (2, .row 52 8 (out_0.flatMap zj))], 3, [], 43, 2⟩ : St)) (fun w_ => zaR (((one t).1.toNat) - 0) 0 ([]) ((one t).2) = w_) ?_ ?_
    ·refine zC ?_
     refine z9 (fun w_ : Nat × (List zG) × GTk => match w_ with | (k0, out0, o10) => (⟨[(2, .bnd 39 1 [.ptr 1 0]), (8, .ref 2 8 0 out0.length), (33, I (one t).1), (34, I k0)], [(0, .row 3 1 (encI o10.all)), (1, .box [.ref 0 1 o10.pos o10.left, B o10.bad]), (2, .row 52 8 (out0.flatMap zj))], 3, [], 43, 2⟩ : St)) (fun w_ : Nat × (List zG) × GTk => match w_ with | (k0, out0, o10) => zaR (((one t).1.toNat) - k0) k0 out0 o10 = zaR (((one t).1.toNat) - 0) 0 ([]) ((one t).2) ∧ k0 ≤ (one t).1.toNat ∧ out0.length ≤ k0 ∧ o10.left ≤ t.left) (fun w_ : Nat × (List zG) × GTk => match w_ with | (k0, out0, o10) => (one t).1.toNat - k0) (0, [], ((one t).2)) (⟨rfl, (by first | omega | (simp; omega)), ⟨Nat.zero_le _, (zb9 t).1⟩⟩) ?_ (fun w_ hh_ => ?_)
     ·exact (zH.ren [(2, 3), (3, 2)] (by decide +kernel) (by decide +kernel) rfl ⟨⟨rfl, rfl⟩, ⟨congrArg (fun n => some (AV.ref 3 8 0 n)) (by first | rfl | simp only [List.length_set] | simp | omega | (simp; omega)), rfl⟩, ⟨rfl, rfl⟩, ⟨rfl, rfl⟩, trivial⟩ ⟨⟨rfl, rfl, rfl⟩, ⟨rfl, rfl, rfl⟩, ⟨rfl, rfl, rfl⟩, trivial⟩ (by decide))
     obtain ⟨k0, out0, o10⟩ := w_
     obtain ⟨hI0, hb0, hv0⟩ := hh_
     show zO Tryz.prog _ _ (⟨[(2, .bnd 39 1 [.ptr 1 0]), (8, .ref 2 8 0 out0.length), (33, I (one t).1), (34, I k0)], [(0, .row 3 1 (encI o10.all)), (1, .box [.ref 0 1 o10.pos o10.left, B o10.bad]), (2, .row 52 8 (out0.flatMap zj))], 3, [], 43, 2⟩ : St)
     have hq0 := zfE (n := (one t).1) (m := (one t).2.left) (s := 8) (by assumption) (by decide) (by omega)
     refine zd (zb rfl (zl rfl rfl rfl rfl rfl trivial (zc (ze (zd ?_)))))
     refine zy rfl (fun h13 => ?_) (fun h13 => ?_)
     ·have g13 : (k0 : Int) < ((one t).1) := of_decide_eq_true h13
      have hm0 : (one t).1.toNat - k0 = ((one t).1.toNat - (k0 + 1)) + 1 := by omega
      refine zA (ze (zd (zC (zb rfl (za rfl rfl trivial (za rfl rfl trivial ?_))))))
      refine zX (Hin := [.row _ _ _, .box [.ref 0 _ _ _, .pv _]]) (H' := [(0, .row _ _ _), (1, .box [_, _]), (2, .row _ _ _)]) (nx' := 3) [0, 1] rfl rfl rfl rfl (.inl rfl) rfl rfl rfl rfl (zqa o10 (by first | assumption | omega | (dsimp only [GTk.left] at *; omega))) rfl (by decide) rfl rfl rfl rfl rfl ?_
      have p14 := (zlB o10 (by first | assumption | omega)).2
      refine zB (o := .row _ _ [_, _, _, _, _, _, _, _]) (nx' := 4) rfl rfl rfl (by decide) ?_
      refine z3 (m := 1) (new := [_, _, _, _, _, _, _, _]) (cs' := (out0 ++ [((zc8 o10).1)]).flatMap zj) (n' := (out0 ++ [((zc8 o10).1)]).length) (H' := [(3, .row _ _ _), (0, .row _ _ _), (1, .box [_, _]), (2, .row _ _ _)]) rfl rfl rfl (rfl) rfl rfl rfl rfl rfl rfl (zi (s := 8) (enc := zj) (fun _ => rfl) out0) (rfl) (by first | decide | (unfold zM; omega) | (unfold zM; simp; omega) | (unfold zM; simp only [List.length_append, List.length_take, List.length_drop, List.length_cons, List.length_nil, IntKind.wrap_i64] at *; omega)) (zbt out0 _) (((zd0 (enc := zj) (l := out0) ((zc8 o10).1))).symm) (.inl rfl) rfl rfl (.keep rfl (.keep rfl (.keep rfl (.keep rfl .nil)))) (.keep rfl (.keep rfl (.keep rfl (.lose (v' := .undef) rfl (.keep rfl (.keep rfl (.lose (v' := .undef) rfl (.keep rfl (.keep rfl .nil))))))))) ?_
      refine za rfl rfl trivial (zc (zar (ze (zb rfl (zl rfl rfl rfl rfl rfl trivial (za rfl rfl trivial (zc ?_)))))))
      have e16 : zaR (((one t).1.toNat) - k0) k0 out0 o10 = zaR (((one t).1.toNat) - (k0 + 1)) (k0 + 1) (out0 ++ [((zc8 o10).1)]) ((zc8 o10).2) := by
       rewrite [hm0]
       rewrite [zaR]
       try dsimp only
       all_goals rfl
      exact z5 (k0 + 1, (out0 ++ [((zc8 o10).1)]), ((zc8 o10).2)) ⟨e16.symm.trans hI0, (by omega), ⟨by simp only [List.length_append, List.length_cons, List.length_nil]; omega, by omega⟩⟩ (by show (one t).1.toNat - (k0 + 1) < (one t).1.toNat - k0; omega) (zH.ren [] (by decide +kernel) (by decide +kernel) rfl ⟨⟨rfl, rfl⟩, ⟨rfl, rfl⟩, ⟨rfl, rfl⟩, ⟨congrArg (fun n => some (I n)) (zcv (k := k0) (by first | omega | (simp; omega))), rfl⟩, trivial⟩ ⟨⟨rfl, rfl, rfl⟩, ⟨rfl, rfl, rfl⟩, ⟨rfl, rfl, rfl⟩, trivial⟩ (by decide))
     ·have g13 : ¬ ((k0 : Int) < ((one t).1)) := of_decide_eq_false h13
      have hm0 : (one t).1.toNat - k0 = 0 := by omega
      refine zV (zac (zal (zak rfl ?_)))
      have e17 : zaR (((one t).1.toNat) - 0) 0 ([]) ((one t).2) = (out0, o10) := by
       rewrite [← hI0, hm0]
       rewrite [zaR]
       try dsimp only
       all_goals rfl
      exact zZ (out0, o10) e17 (zH.ren [] (by decide +kernel) (by decide +kernel) rfl ⟨⟨rfl, rfl⟩, trivial⟩ ⟨⟨rfl, rfl, rfl⟩, ⟨rfl, rfl, rfl⟩, ⟨rfl, rfl, rfl⟩, trivial⟩ (by decide))
    ·rintro ⟨out_0, o1_0⟩ (hJ12 : zaR (((one t).1.toNat) - 0) 0 ([]) ((one t).2) = (out_0, o1_0))
     show seqK _ _ _ .normal (⟨[(8, .ref 2 8 0 out_0.length)], [(0, .row 3 1 (encI o1_0.all)), (1, .box [.ref 0 1 o1_0.pos o1_0.left, B o1_0.bad]), (2, .row 52 8 (out_0.flatMap zj))], 3, [], 43, 2⟩ : St)
     refine ze (zd (zb rfl (za rfl rfl trivial (za rfl rfl trivial (zc (ze (zo ?_)))))))
     have e18 : zW t = (out_0, o1_0) := by
      unfold zW
      try dsimp only
      rewrite [if_neg g3, if_neg g6, if_neg g10, hJ12]
      try dsimp only
      all_goals rfl
     rw [e18]
     exact zL [] [2] rfl ⟨trivial, trivial⟩ rfl (by (repeat' apply And.intro) <;> first | trivial | rfl | exact zi (fun _ => rfl) _ | exact zk _ | exact zn _ | exact zm _ | assumption) (rfl) rfl rfl rfl (by decide) rfl rfl ⟨⟨rfl, rfl⟩, ⟨rfl, rfl⟩, ⟨rfl, rfl⟩, trivial⟩

theorem zhe (N : Nat) (hN : N ≤ 16000000) : ∀ (m k : Nat) (out : List zG) (t : GTk), t.left ≤ N → (∀ x ∈ out, x.Effects.length ≤ N) → (zaR m k out t).1.length = out.length + m ∧ ((zaR m k out t).2.left ≤ t.left ∧ (zaR m k out t).2.all = t.all) ∧ ∀ x ∈ (zaR m k out t).1, x.Effects.length ≤ N
  | 0, k, out, t, _, ho => by rw [zaR]; exact ⟨rfl, ⟨Nat.le_refl _, rfl⟩, ho⟩
  | m + 1, k, out, t, ht, ho => by
    rw [zaR]
    have h1 := zlB t (by omega)
    obtain ⟨h2, h3, h4⟩ := zhe N hN m (k + 1) (out ++ [(zc8 t).1]) (zc8 t).2 (by omega) (fun x hx => by
      rcases List.mem_append.1 hx with h | h
      · exact ho x h
      · simp only [List.mem_cons, List.not_mem_nil, or_false] at h; subst h; exact Nat.le_trans h1.1 ht)
    simp only [List.length_append, List.length_cons, List.length_nil] at h2
    exact ⟨by omega, ⟨by omega, h3.2.trans (h1.2.2)⟩, h4⟩
theorem zlH (t : GTk) (hT : t.left ≤ 16000000) : (zW t).1.length ≤ t.left ∧ ((zW t).2.left ≤ t.left ∧ (zW t).2.all = t.all) ∧ ∀ x ∈ (zW t).1, let N := t.left; x.Effects.length ≤ N := by
  have h1 := zb9 t
  unfold zW
  dsimp only
  by_cases h2 : (one t).2.bad = true
  · rw [if_pos h2]; exact ⟨Nat.zero_le _, h1, fun x hx => by cases hx⟩
  rw [if_neg h2]
  by_cases h3 : (one t).1 < 0
  · rw [if_pos h3]; exact ⟨Nat.zero_le _, h1, fun x hx => by cases hx⟩
  rw [if_neg h3]
  by_cases h4 : (one t).1 > (IntKind.i64.wrap (((one t).2.left : Int).tdiv 8))
  · rw [if_pos h4]; exact ⟨Nat.zero_le _, h1, fun x hx => by cases hx⟩
  rw [if_neg h4]
  have hq := zfE h4 (by decide) (by omega)
  obtain ⟨h5, h6, h7⟩ := zhe t.left hT ((one t).1.toNat - 0) 0 [] (one t).2 h1.1 (fun x hx => by cases hx)
  simp only [List.length_nil] at h5
  refine ⟨?_, ⟨?_, h6.2.trans h1.2⟩, h7⟩ <;> dsimp only <;> omega

def zaP : Nat → Nat → (List GFoe) → GTk → (List GFoe) × GTk
  | 0, k0, out0, o10 => (out0, o10)
  | n_ + 1, k0, out0, o10 => zaP n_ (k0 + 1) (out0 ++ [((foeR o10).1)]) ((foeR o10).2)
def zah (t : GTk) : (List GFoe) × GTk :=
  if ((one t).2).bad = true then ([], (⟨((one t).2).all, ((one t).2).pos, true⟩ : GTk)) else if ((one t).1 : Int) < 0 then ([], (⟨((one t).2).all, ((one t).2).pos, true⟩ : GTk)) else if ((one t).1 : Int) > (IntKind.i64.wrap ((((one t).2).left : Int).tdiv 8)) then ([], (⟨((one t).2).all, ((one t).2).pos, true⟩ : GTk)) else (match zaP (((one t).1.toNat) - 0) 0 ([]) ((one t).2) with
    | (out_0, o1_0) => (out_0, o1_0))
theorem zp4 (t : GTk) (hT : t.left ≤ 16000000) : Ok Tryz.prog 42 [.ptr 1 0, I 8, .bnd 43 1 [.ptr 1 0]] [.row 3 1 (encI t.all), .box [.ref 0 1 t.pos t.left, B t.bad]] (.ref 2 8 0 (zah t).1.length) [.row 3 1 (encI ((zah t).2).all), .box [.ref 0 1 ((zah t).2).pos ((zah t).2).left, B ((zah t).2).bad], .row 56 8 ((zah t).1.flatMap zw)] [] := by
 have h1t := zb9 t
 refine zz Tryz.func42 rfl ?_
 show zO Tryz.prog _ _ ⟨[(0, .ptr 1 0), (1, I 8), (2, .bnd 43 1 [.ptr 1 0])], [(0, .row 3 1 (encI t.all)), (1, .box [.ref 0 1 t.pos t.left, B t.bad])], 2, [], 43, 2⟩
 refine zd (zb rfl (zB (nx' := 3) rfl rfl rfl trivial (zc (ze (zd (zb rfl (za rfl rfl trivial ?_)))))))
 refine zX (Hin := [.row _ _ _, .box [.ref 0 _ _ _, .pv _]]) (H' := [(2, .row _ _ _), (0, .row _ _ _), (1, .box [_, _])]) (nx' := 3) [0, 1] rfl rfl rfl rfl (.inl rfl) rfl rfl rfl rfl (zfC t) rfl (by decide) rfl rfl rfl rfl rfl ?_
 refine za rfl rfl trivial (zc (ze (zd (zd (zb rfl (za rfl rfl trivial (za rfl rfl trivial (za rfl rfl (by decide) (za rfl rfl trivial (za rfl rfl trivial ?_))))))))))
 refine zK rfl (fun h3 => ?_) (fun h3 => ?_)
 ·have g3 : ((one t).2).bad = true := h3
  refine zh rfl h3 rfl (zh rfl h3 rfl (zr rfl h3 rfl rfl (za rfl rfl trivial (zf rfl rfl (zf rfl rfl (zf rfl rfl (zf rfl rfl (zf rfl rfl (zf rfl rfl (zf rfl rfl (zf rfl rfl ?_)))))))))))
  refine zf rfl rfl (za rfl rfl trivial (zc (ze (zP rfl (zd (zb rfl (za rfl rfl trivial (za rfl rfl trivial (za rfl rfl (by decide) ?_)))))))))
  refine zx (H' := [(2, _), (0, _), (1, .box [_, _])]) rfl rfl rfl rfl rfl rfl (.inl rfl) rfl ?_
  refine zc (ze (zd (zb rfl (zB (nx' := 4) rfl rfl rfl trivial (zc (ze (zo (zI ?_))))))))
  have e4 : zah t = ([], (⟨((one t).2).all, ((one t).2).pos, true⟩ : GTk)) := by
   unfold zah
   try dsimp only
   rewrite [if_pos g3]
   all_goals rfl
  rw [e4]
  exact zL [] [3] rfl ⟨trivial, trivial⟩ rfl (by (repeat' apply And.intro) <;> first | trivial | rfl | exact zi (fun _ => rfl) _ | exact zk _ | exact zn _ | exact zm _ | assumption) (rfl) rfl rfl rfl (by decide) rfl rfl ⟨⟨rfl, rfl⟩, ⟨rfl, rfl⟩, ⟨rfl, rfl⟩, trivial⟩
 ·have g3 : ¬ (((one t).2).bad = true) := zaw h3
  refine zg rfl h3 (za rfl rfl trivial (zg rfl h3 (zl rfl rfl rfl rfl rfl trivial (zt rfl h3 rfl rfl (za rfl rfl trivial ?_)))))
  refine zK rfl (fun h6 => ?_) (fun h6 => ?_)
  ·have g6 : ((one t).1 : Int) < 0 := of_decide_eq_true h6
   refine zh rfl h6 rfl (zh rfl h6 rfl (zh rfl h6 rfl (zh rfl h6 rfl (zh rfl h6 rfl (zh rfl h6 rfl (zh rfl h6 rfl (zh rfl h6 rfl (zh rfl h6 rfl (zr rfl h6 rfl rfl (zc (ze ?_)))))))))))
   refine zP rfl (zd (zb rfl (za rfl rfl trivial (za rfl rfl trivial (za rfl rfl (by decide) ?_)))))
   refine zx (H' := [(2, _), (0, _), (1, .box [_, _])]) rfl rfl rfl rfl rfl rfl (.inl rfl) rfl ?_
   refine zc (ze (zd (zb rfl (zB (nx' := 4) rfl rfl rfl trivial (zc (ze (zo (zI ?_))))))))
   have e7 : zah t = ([], (⟨((one t).2).all, ((one t).2).pos, true⟩ : GTk)) := by
    unfold zah
    try dsimp only
    rewrite [if_neg g3, if_pos g6]
    all_goals rfl
   rw [e7]
   exact zL [] [3] rfl ⟨trivial, trivial⟩ rfl (by (repeat' apply And.intro) <;> first | trivial | rfl | exact zi (fun _ => rfl) _ | exact zk _ | exact zn _ | exact zm _ | assumption) (rfl) rfl rfl rfl (by decide) rfl rfl ⟨⟨rfl, rfl⟩, ⟨rfl, rfl⟩, ⟨rfl, rfl⟩, trivial⟩
  ·have g6 : ¬ (((one t).1 : Int) < 0) := of_decide_eq_false h6
   refine zg rfl h6 (za rfl rfl trivial (zg rfl h6 (za rfl rfl trivial (zg rfl h6 (za rfl rfl trivial (zg rfl h6 (za rfl rfl (by decide) (zg rfl h6 (za rfl rfl trivial (zg rfl h6 (za rfl rfl trivial ?_)))))))))))
   refine zg rfl h6 (za rfl rfl trivial (zg rfl h6 ?_))
   refine zl rfl rfl rfl rfl rfl (by first | decide | omega | (show (0 : Int) ≤ IntKind.i64.wrap _; rw [zb1 (by omega) (by omega)]; omega) | simp_all) ?_
   refine zg rfl h6 (zl rfl rfl rfl rfl rfl trivial (zt rfl h6 rfl rfl (zc (ze ?_))))
   refine zy rfl (fun h10 => ?_) (fun h10 => ?_)
   ·have g10 : ((one t).1 : Int) > (IntKind.i64.wrap ((((one t).2).left : Int).tdiv 8)) := of_decide_eq_true h10
    refine zd (zb rfl (za rfl rfl trivial (za rfl rfl trivial (za rfl rfl (by decide) ?_))))
    refine zx (H' := [(2, _), (0, _), (1, .box [_, _])]) rfl rfl rfl rfl rfl rfl (.inl rfl) rfl ?_
    refine zc (ze (zd (zb rfl (zB (nx' := 4) rfl rfl rfl trivial (zc (ze (zo (zI ?_))))))))
    have e11 : zah t = ([], (⟨((one t).2).all, ((one t).2).pos, true⟩ : GTk)) := by
     unfold zah
     try dsimp only
     rewrite [if_neg g3, if_neg g6, if_pos g10]
     all_goals rfl
    rw [e11]
    exact zL [] [3] rfl ⟨trivial, trivial⟩ rfl (by (repeat' apply And.intro) <;> first | trivial | rfl | exact zi (fun _ => rfl) _ | exact zk _ | exact zn _ | exact zm _ | assumption) (rfl) rfl rfl rfl (by decide) rfl rfl ⟨⟨rfl, rfl⟩, ⟨rfl, rfl⟩, ⟨rfl, rfl⟩, trivial⟩
   ·have g10 : ¬ (((one t).1 : Int) > (IntKind.i64.wrap ((((one t).2).left : Int).tdiv 8))) := of_decide_eq_false h10
    refine zA (ze (zd (zb rfl (zB (nx' := 4) rfl rfl rfl trivial (zc (ze (zd (zd (zb rfl (za rfl rfl trivial (za rfl rfl trivial ?_)))))))))))
    refine zc (ze ?_)
    refine z6 (fun w_ : (List GFoe) × GTk => match w_ with | (out_0, o1_0) => (⟨[(8, .ref 2 8 0 out_0.length)], [(0, .row 3 1 (encI o1_0.all)), (1, .box [.ref 0 1 o1_0.pos o1_0.left, B o1_0.bad]), (2, .row 56 8 (out_0.flatMap zw))], 3, [], 43, 2⟩ : St)) (fun w_ => zaP (((one t).1.toNat) - 0) 0 ([]) ((one t).2) = w_) ?_ ?_
    ·refine zC ?_
     refine z9 (fun w_ : Nat × (List GFoe) × GTk => match w_ with | (k0, out0, o10) => (⟨[(2, .bnd 43 1 [.ptr 1 0]), (8, .ref 2 8 0 out0.length), (33, I (one t).1), (34, I k0)], [(0, .row 3 1 (encI o10.all)), (1, .box [.ref 0 1 o10.pos o10.left, B o10.bad]), (2, .row 56 8 (out0.flatMap zw))], 3, [], 43, 2⟩ : St)) (fun w_ : Nat × (List GFoe) × GTk => match w_ with | (k0, out0, o10) => zaP (((one t).1.toNat) - k0) k0 out0 o10 = zaP (((one t).1.toNat) - 0) 0 ([]) ((one t).2) ∧ k0 ≤ (one t).1.toNat ∧ out0.length ≤ k0 ∧ o10.left ≤ t.left) (fun w_ : Nat × (List GFoe) × GTk => match w_ with | (k0, out0, o10) => (one t).1.toNat - k0) (0, [], ((one t).2)) (⟨rfl, (by first | omega | (simp; omega)), ⟨Nat.zero_le _, (zb9 t).1⟩⟩) ?_ (fun w_ hh_ => ?_)
     ·exact (zH.ren [(2, 3), (3, 2)] (by decide +kernel) (by decide +kernel) rfl ⟨⟨rfl, rfl⟩, ⟨congrArg (fun n => some (AV.ref 3 8 0 n)) (by first | rfl | simp only [List.length_set] | simp | omega | (simp; omega)), rfl⟩, ⟨rfl, rfl⟩, ⟨rfl, rfl⟩, trivial⟩ ⟨⟨rfl, rfl, rfl⟩, ⟨rfl, rfl, rfl⟩, ⟨rfl, rfl, rfl⟩, trivial⟩ (by decide))
     obtain ⟨k0, out0, o10⟩ := w_
     obtain ⟨hI0, hb0, hv0⟩ := hh_
     show zO Tryz.prog _ _ (⟨[(2, .bnd 43 1 [.ptr 1 0]), (8, .ref 2 8 0 out0.length), (33, I (one t).1), (34, I k0)], [(0, .row 3 1 (encI o10.all)), (1, .box [.ref 0 1 o10.pos o10.left, B o10.bad]), (2, .row 56 8 (out0.flatMap zw))], 3, [], 43, 2⟩ : St)
     have hq0 := zfE (n := (one t).1) (m := (one t).2.left) (s := 8) (by assumption) (by decide) (by omega)
     refine zd (zb rfl (zl rfl rfl rfl rfl rfl trivial (zc (ze (zd ?_)))))
     refine zy rfl (fun h13 => ?_) (fun h13 => ?_)
     ·have g13 : (k0 : Int) < ((one t).1) := of_decide_eq_true h13
      have hm0 : (one t).1.toNat - k0 = ((one t).1.toNat - (k0 + 1)) + 1 := by omega
      refine zA (ze (zd (zC (zb rfl (za rfl rfl trivial (za rfl rfl trivial ?_))))))
      refine zX (Hin := [.row _ _ _, .box [.ref 0 _ _ _, .pv _]]) (H' := [(0, .row _ _ _), (1, .box [_, _]), (2, .row _ _ _)]) (nx' := 3) [0, 1] rfl rfl rfl rfl (.inl rfl) rfl rfl rfl rfl (zqT o10 (by first | assumption | omega | (dsimp only [GTk.left] at *; omega))) rfl (by decide) rfl rfl rfl rfl rfl ?_
      have p14 := (zn6 o10 (by first | assumption | omega)).2
      refine zB (o := .row _ _ [_, _, _, _, _, _, _, _]) (nx' := 4) rfl rfl rfl (by decide) ?_
      refine z3 (m := 1) (new := [_, _, _, _, _, _, _, _]) (cs' := (out0 ++ [((foeR o10).1)]).flatMap zw) (n' := (out0 ++ [((foeR o10).1)]).length) (H' := [(3, .row _ _ _), (0, .row _ _ _), (1, .box [_, _]), (2, .row _ _ _)]) rfl rfl rfl (rfl) rfl rfl rfl rfl rfl rfl (zi (s := 8) (enc := zw) (fun _ => rfl) out0) (rfl) (by first | decide | (unfold zM; omega) | (unfold zM; simp; omega) | (unfold zM; simp only [List.length_append, List.length_take, List.length_drop, List.length_cons, List.length_nil, IntKind.wrap_i64] at *; omega)) (zbt out0 _) (((zd0 (enc := zw) (l := out0) ((foeR o10).1))).symm) (.inl rfl) rfl rfl (.keep rfl (.keep rfl (.keep rfl (.keep rfl .nil)))) (.keep rfl (.keep rfl (.keep rfl (.lose (v' := .undef) rfl (.keep rfl (.keep rfl (.lose (v' := .undef) rfl (.keep rfl (.keep rfl .nil))))))))) ?_
      refine za rfl rfl trivial (zc (zar (ze (zb rfl (zl rfl rfl rfl rfl rfl trivial (za rfl rfl trivial (zc ?_)))))))
      have e16 : zaP (((one t).1.toNat) - k0) k0 out0 o10 = zaP (((one t).1.toNat) - (k0 + 1)) (k0 + 1) (out0 ++ [((foeR o10).1)]) ((foeR o10).2) := by
       rewrite [hm0]
       rewrite [zaP]
       try dsimp only
       all_goals rfl
      exact z5 (k0 + 1, (out0 ++ [((foeR o10).1)]), ((foeR o10).2)) ⟨e16.symm.trans hI0, (by omega), ⟨by simp only [List.length_append, List.length_cons, List.length_nil]; omega, by omega⟩⟩ (by show (one t).1.toNat - (k0 + 1) < (one t).1.toNat - k0; omega) (zH.ren [] (by decide +kernel) (by decide +kernel) rfl ⟨⟨rfl, rfl⟩, ⟨rfl, rfl⟩, ⟨rfl, rfl⟩, ⟨congrArg (fun n => some (I n)) (zcv (k := k0) (by first | omega | (simp; omega))), rfl⟩, trivial⟩ ⟨⟨rfl, rfl, rfl⟩, ⟨rfl, rfl, rfl⟩, ⟨rfl, rfl, rfl⟩, trivial⟩ (by decide))
     ·have g13 : ¬ ((k0 : Int) < ((one t).1)) := of_decide_eq_false h13
      have hm0 : (one t).1.toNat - k0 = 0 := by omega
      refine zV (zac (zal (zak rfl ?_)))
      have e17 : zaP (((one t).1.toNat) - 0) 0 ([]) ((one t).2) = (out0, o10) := by
       rewrite [← hI0, hm0]
       rewrite [zaP]
       try dsimp only
       all_goals rfl
      exact zZ (out0, o10) e17 (zH.ren [] (by decide +kernel) (by decide +kernel) rfl ⟨⟨rfl, rfl⟩, trivial⟩ ⟨⟨rfl, rfl, rfl⟩, ⟨rfl, rfl, rfl⟩, ⟨rfl, rfl, rfl⟩, trivial⟩ (by decide))
    ·rintro ⟨out_0, o1_0⟩ (hJ12 : zaP (((one t).1.toNat) - 0) 0 ([]) ((one t).2) = (out_0, o1_0))
     show seqK _ _ _ .normal (⟨[(8, .ref 2 8 0 out_0.length)], [(0, .row 3 1 (encI o1_0.all)), (1, .box [.ref 0 1 o1_0.pos o1_0.left, B o1_0.bad]), (2, .row 56 8 (out_0.flatMap zw))], 3, [], 43, 2⟩ : St)
     refine ze (zd (zb rfl (za rfl rfl trivial (za rfl rfl trivial (zc (ze (zo ?_)))))))
     have e18 : zah t = (out_0, o1_0) := by
      unfold zah
      try dsimp only
      rewrite [if_neg g3, if_neg g6, if_neg g10, hJ12]
      try dsimp only
      all_goals rfl
     rw [e18]
     exact zL [] [2] rfl ⟨trivial, trivial⟩ rfl (by (repeat' apply And.intro) <;> first | trivial | rfl | exact zi (fun _ => rfl) _ | exact zk _ | exact zn _ | exact zm _ | assumption) (rfl) rfl rfl rfl (by decide) rfl rfl ⟨⟨rfl, rfl⟩, ⟨rfl, rfl⟩, ⟨rfl, rfl⟩, trivial⟩

theorem zha (N : Nat) (hN : N ≤ 16000000) : ∀ (m k : Nat) (out : List GFoe) (t : GTk), t.left ≤ N → (∀ x ∈ out, x.Script.length ≤ N ∧ x.Hoard.length ≤ N) → (zaP m k out t).1.length = out.length + m ∧ ((zaP m k out t).2.left ≤ t.left ∧ (zaP m k out t).2.all = t.all) ∧ ∀ x ∈ (zaP m k out t).1, x.Script.length ≤ N ∧ x.Hoard.length ≤ N
  | 0, k, out, t, _, ho => by rw [zaP]; exact ⟨rfl, ⟨Nat.le_refl _, rfl⟩, ho⟩
  | m + 1, k, out, t, ht, ho => by
    rw [zaP]
    have h1 := zn6 t (by omega)
    obtain ⟨h2, h3, h4⟩ := zha N hN m (k + 1) (out ++ [(foeR t).1]) (foeR t).2 (by omega) (fun x hx => by
      rcases List.mem_append.1 hx with h | h
      · exact ho x h
      · simp only [List.mem_cons, List.not_mem_nil, or_false] at h; subst h; exact ⟨Nat.le_trans h1.1.1 ht, Nat.le_trans h1.1.2 ht⟩)
    simp only [List.length_append, List.length_cons, List.length_nil] at h2
    exact ⟨by omega, ⟨by omega, h3.2.trans (h1.2.2)⟩, h4⟩
theorem zlv (t : GTk) (hT : t.left ≤ 16000000) : (zah t).1.length ≤ t.left ∧ ((zah t).2.left ≤ t.left ∧ (zah t).2.all = t.all) ∧ ∀ x ∈ (zah t).1, let N := t.left; x.Script.length ≤ N ∧ x.Hoard.length ≤ N := by
  have h1 := zb9 t
  unfold zah
  dsimp only
  by_cases h2 : (one t).2.bad = true
  · rw [if_pos h2]; exact ⟨Nat.zero_le _, h1, fun x hx => by cases hx⟩
  rw [if_neg h2]
  by_cases h3 : (one t).1 < 0
  · rw [if_pos h3]; exact ⟨Nat.zero_le _, h1, fun x hx => by cases hx⟩
  rw [if_neg h3]
  by_cases h4 : (one t).1 > (IntKind.i64.wrap (((one t).2.left : Int).tdiv 8))
  · rw [if_pos h4]; exact ⟨Nat.zero_le _, h1, fun x hx => by cases hx⟩
  rw [if_neg h4]
  have hq := zfE h4 (by decide) (by omega)
  obtain ⟨h5, h6, h7⟩ := zha t.left hT ((one t).1.toNat - 0) 0 [] (one t).2 h1.1 (fun x hx => by cases hx)
  simp only [List.length_nil] at h5
  refine ⟨?_, ⟨?_, h6.2.trans h1.2⟩, h7⟩ <;> dsimp only <;> omega

def zct (l : List Int) : zu × Bool × (List Int) :=
  if (zR ((zaT (zR ((zah ((z8 ((zW (⟨l, 0, false⟩ : GTk)).2)).2)).2) 2)).2) 4).bad = true then ((⟨[], [], [], (⟨0, 0, []⟩ : zax), (⟨0, 0⟩ : GPos), (⟨0, 0⟩ : GPos)⟩ : zu), false, (zR ((zaT (zR ((zah ((z8 ((zW (⟨l, 0, false⟩ : GTk)).2)).2)).2) 2)).2) 4).all) else if ((zR ((zaT (zR ((zah ((z8 ((zW (⟨l, 0, false⟩ : GTk)).2)).2)).2) 2)).2) 4).left : Int) > 0 then ((⟨[], [], [], (⟨0, 0, []⟩ : zax), (⟨0, 0⟩ : GPos), (⟨0, 0⟩ : GPos)⟩ : zu), false, (zR ((zaT (zR ((zah ((z8 ((zW (⟨l, 0, false⟩ : GTk)).2)).2)).2) 2)).2) 4).all) else ((⟨(zW (⟨l, 0, false⟩ : GTk)).1, (z8 ((zW (⟨l, 0, false⟩ : GTk)).2)).1, (zah ((z8 ((zW (⟨l, 0, false⟩ : GTk)).2)).2)).1, (⟨(tval ((zah ((z8 ((zW (⟨l, 0, false⟩ : GTk)).2)).2)).2) 0), (tval ((zah ((z8 ((zW (⟨l, 0, false⟩ : GTk)).2)).2)).2) 1), (zaT (zR ((zah ((z8 ((zW (⟨l, 0, false⟩ : GTk)).2)).2)).2) 2)).1⟩ : zax), (⟨(tval ((zaT (zR ((zah ((z8 ((zW (⟨l, 0, false⟩ : GTk)).2)).2)).2) 2)).2) 0), (tval ((zaT (zR ((zah ((z8 ((zW (⟨l, 0, false⟩ : GTk)).2)).2)).2) 2)).2) 1)⟩ : GPos), (⟨(tval ((zaT (zR ((zah ((z8 ((zW (⟨l, 0, false⟩ : GTk)).2)).2)).2) 2)).2) 2), (tval ((zaT (zR ((zah ((z8 ((zW (⟨l, 0, false⟩ : GTk)).2)).2)).2) 2)).2) 3)⟩ : GPos)⟩ : zu), true, (zR ((zaT (zR ((zah ((z8 ((zW (⟨l, 0, false⟩ : GTk)).2)).2)).2) 2)).2) 4).all)
theorem zmk (l : List Int) (hT : l.length ≤ 16000000) : Ok Tryz.prog 16 [.ref 0 1 0 l.length] [.row 3 1 (encI l)] (.tup [z1 (zct l).1, B (zct l).2.1]) [.row 3 1 (encI ((zct l).2.2))] [] := by
 refine zz Tryz.func16 rfl ?_
 show zO Tryz.prog _ _ ⟨[(0, .ref 0 1 0 l.length)], [(0, .row 3 1 (encI l))], 1, [], 61, 1⟩
 refine zd (zb rfl (zB (o := .box [_, _, _, _, _, _, _, _, _, _]) (nx' := 2) rfl rfl rfl trivial (za rfl rfl trivial (zc (ze (zd (zb rfl (za rfl rfl trivial (za (v := (.agg [_, _])) rfl rfl trivial (zB (o := .box [_, _]) (nx' := 3) rfl rfl rfl trivial (za rfl rfl trivial ?_)))))))))))
 refine zc (ze (zd ?_))
 refine zaY rfl (zcn 4 (j := 0) ?_)
 simp only [List.take_succ_cons, List.take_zero, List.drop_succ_cons, List.drop_zero]
 refine za rfl rfl trivial (za rfl rfl trivial (za (v := .bnd 39 1 [_]) rfl rfl trivial ?_))
 refine zX (Hin := [.row _ _ _, .box [.ref 0 _ _ _, .pv _]]) (out' := .ref 3 _ _ _) (H' := [(3, .row _ _ _), (2, .box [_, _]), (1, .box [_, _, _, _, _, _, _, _, _, _]), (0, .row _ _ _)]) (nx' := 4) [0, 2] rfl rfl rfl rfl (.inl rfl) rfl rfl rfl rfl (zpz (⟨l, 0, false⟩ : GTk) (by first | assumption | omega | (dsimp only [GTk.left] at *; omega))) rfl (by decide) rfl rfl rfl rfl rfl ?_
 have p1 := zlH (⟨l, 0, false⟩ : GTk) (by first | assumption | omega | (dsimp only [GTk.left] at *; omega))
 refine zc ?_
 refine zbz (zH.freezeJ (T' := [(0, .ref 0 1 0 l.length), (2, .ptr 1 0), (3, B false), (4, .ptr 2 0), (5, .ref 0 1 0 l.length), (6, .agg [.ref 0 1 0 l.length, B false]), (7, .ptr 2 0), (8, .ptr 2 0), (9, .ptr 2 0), (10, .bnd 39 1 [.ptr 2 0]), (11, .pv (.slc (zW (⟨l, 0, false⟩ : GTk)).1.length false ((zW (⟨l, 0, false⟩ : GTk)).1.flatMap zj)))]) (H' := [(2, .box [.ref 0 1 ((zW (⟨l, 0, false⟩ : GTk)).2).pos ((zW (⟨l, 0, false⟩ : GTk)).2).left, B ((zW (⟨l, 0, false⟩ : GTk)).2).bad]), (1, .box [.pv (.slc 0 false []), .pv (.slc 0 false []), .pv (.slc 0 false []), I 0, I 0, .pv (.slc 0 false []), I 0, I 0, I 0, I 0]), (0, .row 3 1 (encI ((zW (⟨l, 0, false⟩ : GTk)).2).all))]) [3] (by decide) ⟨⟨_, _, rfl, rfl, (by (repeat' apply And.intro) <;> first | trivial | rfl | exact zi (s := 8) (enc := zj) (fun _ => rfl) _ | exact zi (fun _ => rfl) _ | exact zk _ | exact zn _ | exact zm _ | exact Nat.le_of_ble_eq_true rfl | assumption)⟩, ⟨_, _, rfl, rfl, (by (repeat' apply And.intro) <;> first | trivial | rfl | exact zi (s := 8) (enc := zj) (fun _ => rfl) _ | exact zi (fun _ => rfl) _ | exact zk _ | exact zn _ | exact zm _ | exact Nat.le_of_ble_eq_true rfl | assumption)⟩, ⟨_, _, rfl, rfl, (by (repeat' apply And.intro) <;> first | trivial | rfl | exact zi (s := 8) (enc := zj) (fun _ => rfl) _ | exact zi (fun _ => rfl) _ | exact zk _ | exact zn _ | exact zm _ | exact Nat.le_of_ble_eq_true rfl | assumption)⟩, ⟨_, _, rfl, rfl, (by (repeat' apply And.intro) <;> first | trivial | rfl | exact zi (s := 8) (enc := zj) (fun _ => rfl) _ | exact zi (fun _ => rfl) _ | exact zk _ | exact zn _ | exact zm _ | exact Nat.le_of_ble_eq_true rfl | assumption)⟩, ⟨_, _, rfl, rfl, (by (repeat' apply And.intro) <;> first | trivial | rfl | exact zi (s := 8) (enc := zj) (fun _ => rfl) _ | exact zi (fun _ => rfl) _ | exact zk _ | exact zn _ | exact zm _ | exact Nat.le_of_ble_eq_true rfl | assumption)⟩, ⟨_, _, rfl, rfl, (by (repeat' apply And.intro) <;> first | trivial | rfl | exact zi (s := 8) (enc := zj) (fun _ => rfl) _ | exact zi (fun _ => rfl) _ | exact zk _ | exact zn _ | exact zm _ | exact Nat.le_of_ble_eq_true rfl | assumption)⟩, ⟨_, _, rfl, rfl, (by (repeat' apply And.intro) <;> first | trivial | rfl | exact zi (s := 8) (enc := zj) (fun _ => rfl) _ | exact zi (fun _ => rfl) _ | exact zk _ | exact zn _ | exact zm _ | exact Nat.le_of_ble_eq_true rfl | assumption)⟩, ⟨_, _, rfl, rfl, (by (repeat' apply And.intro) <;> first | trivial | rfl | exact zi (s := 8) (enc := zj) (fun _ => rfl) _ | exact zi (fun _ => rfl) _ | exact zk _ | exact zn _ | exact zm _ | exact Nat.le_of_ble_eq_true rfl | assumption)⟩, ⟨_, _, rfl, rfl, (by (repeat' apply And.intro) <;> first | trivial | rfl | exact zi (s := 8) (enc := zj) (fun _ => rfl) _ | exact zi (fun _ => rfl) _ | exact zk _ | exact zn _ | exact zm _ | exact Nat.le_of_ble_eq_true rfl | assumption)⟩, ⟨_, _, rfl, rfl, (by (repeat' apply And.intro) <;> first | trivial | rfl | exact zi (s := 8) (enc := zj) (fun _ => rfl) _ | exact zi (fun _ => rfl) _ | exact zk _ | exact zn _ | exact zm _ | exact Nat.le_of_ble_eq_true rfl | assumption)⟩, ⟨_, _, rfl, rfl, (by (repeat' apply And.intro) <;> first | trivial | rfl | exact zi (s := 8) (enc := zj) (fun _ => rfl) _ | exact zi (fun _ => rfl) _ | exact zk _ | exact zn _ | exact zm _ | exact Nat.le_of_ble_eq_true rfl | assumption)⟩, trivial⟩ ⟨⟨rfl, _, _, rfl, rfl, (by (repeat' apply And.intro) <;> first | trivial | rfl | exact zi (s := 8) (enc := zj) (fun _ => rfl) _ | exact zi (fun _ => rfl) _ | exact zk _ | exact zn _ | exact zm _ | exact Nat.le_of_ble_eq_true rfl | assumption)⟩, ⟨rfl, _, _, rfl, rfl, (by (repeat' apply And.intro) <;> first | trivial | rfl | exact zi (s := 8) (enc := zj) (fun _ => rfl) _ | exact zi (fun _ => rfl) _ | exact zk _ | exact zn _ | exact zm _ | exact Nat.le_of_ble_eq_true rfl | assumption)⟩, ⟨rfl, _, _, rfl, rfl, (by (repeat' apply And.intro) <;> first | trivial | rfl | exact zi (s := 8) (enc := zj) (fun _ => rfl) _ | exact zi (fun _ => rfl) _ | exact zk _ | exact zn _ | exact zm _ | exact Nat.le_of_ble_eq_true rfl | assumption)⟩, trivial⟩) ?_
 refine zc3 (j := 4) ?_
 refine za rfl rfl (by decide) ?_
 refine zx (H' := [(2, _), (1, .box [_, _, _, _, _, _, _, _, _, _]), (0, _)]) rfl rfl rfl rfl rfl rfl (.inl rfl) rfl ?_
 refine zc (ze (zd ?_))
 refine zaY rfl (zcn 4 (j := 0) ?_)
 simp only [List.take_succ_cons, List.take_zero, List.drop_succ_cons, List.drop_zero]
 refine za rfl rfl trivial (za rfl rfl trivial (za (v := .bnd 41 1 [_]) rfl rfl trivial ?_))
 refine zX (Hin := [.row _ _ _, .box [.ref 0 _ _ _, .pv _]]) (out' := .ref 4 _ _ _) (H' := [(4, .row _ _ _), (2, .box [_, _]), (1, .box [_, _, _, _, _, _, _, _, _, _]), (0, .row _ _ _)]) (nx' := 5) [0, 2] rfl rfl rfl rfl (.inl rfl) rfl rfl rfl rfl (zoS ((zW (⟨l, 0, false⟩ : GTk)).2) (by first | assumption | omega | (dsimp only [GTk.left] at *; omega))) rfl (by decide) rfl rfl rfl rfl rfl ?_
 have p2 := zld ((zW (⟨l, 0, false⟩ : GTk)).2) (by first | assumption | omega | (dsimp only [GTk.left] at *; omega))
 refine zc ?_
 refine zbz (zH.freezeJ (T' := [(0, .ref 0 1 0 l.length), (2, .ptr 1 0), (3, B false), (4, .ptr 2 0), (5, .ref 0 1 0 l.length), (6, .agg [.ref 0 1 0 l.length, B false]), (7, .ptr 2 0), (8, .ptr 2 0), (9, .ptr 2 0), (10, .bnd 39 1 [.ptr 2 0]), (11, .pv (.slc (zW (⟨l, 0, false⟩ : GTk)).1.length false ((zW (⟨l, 0, false⟩ : GTk)).1.flatMap zj))), (13, .ptr 2 0), (14, .ptr 2 0), (15, .bnd 41 1 [.ptr 2 0]), (16, .pv (.slc (z8 ((zW (⟨l, 0, false⟩ : GTk)).2)).1.length false ((z8 ((zW (⟨l, 0, false⟩ : GTk)).2)).1.flatMap zq)))]) (H' := [(2, .box [.ref 0 1 ((z8 ((zW (⟨l, 0, false⟩ : GTk)).2)).2).pos ((z8 ((zW (⟨l, 0, false⟩ : GTk)).2)).2).left, B ((z8 ((zW (⟨l, 0, false⟩ : GTk)).2)).2).bad]), (1, .box [.pv (.slc (zW (⟨l, 0, false⟩ : GTk)).1.length false ((zW (⟨l, 0, false⟩ : GTk)).1.flatMap zj)), .pv (.slc 0 false []), .pv (.slc 0 false []), I 0, I 0, .pv (.slc 0 false []), I 0, I 0, I 0, I 0]), (0, .row 3 1 (encI ((z8 ((zW (⟨l, 0, false⟩ : GTk)).2)).2).all))]) [4] (by decide) ⟨⟨_, _, rfl, rfl, (by (repeat' apply And.intro) <;> first | trivial | rfl | exact zi (s := 7) (enc := zq) (fun _ => rfl) _ | exact zi (fun _ => rfl) _ | exact zk _ | exact zn _ | exact zm _ | exact Nat.le_of_ble_eq_true rfl | assumption)⟩, ⟨_, _, rfl, rfl, (by (repeat' apply And.intro) <;> first | trivial | rfl | exact zi (s := 7) (enc := zq) (fun _ => rfl) _ | exact zi (fun _ => rfl) _ | exact zk _ | exact zn _ | exact zm _ | exact Nat.le_of_ble_eq_true rfl | assumption)⟩, ⟨_, _, rfl, rfl, (by (repeat' apply And.intro) <;> first | trivial | rfl | exact zi (s := 7) (enc := zq) (fun _ => rfl) _ | exact zi (fun _ => rfl) _ | exact zk _ | exact zn _ | exact zm _ | exact Nat.le_of_ble_eq_true rfl | assumption)⟩, ⟨_, _, rfl, rfl, (by (repeat' apply And.intro) <;> first | trivial | rfl | exact zi (s := 7) (enc := zq) (fun _ => rfl) _ | exact zi (fun _ => rfl) _ | exact zk _ | exact zn _ | exact zm _ | exact Nat.le_of_ble_eq_true rfl | assumption)⟩, ⟨_, _, rfl, rfl, (by (repeat' apply And.intro) <;> first | trivial | rfl | exact zi (s := 7) (enc := zq) (fun _ => rfl) _ | exact zi (fun _ => rfl) _ | exact zk _ | exact zn _ | exact zm _ | exact Nat.le_of_ble_eq_true rfl | assumption)⟩, ⟨_, _, rfl, rfl, (by (repeat' apply And.intro) <;> first | trivial | rfl | exact zi (s := 7) (enc := zq) (fun _ => rfl) _ | exact zi (fun _ => rfl) _ | exact zk _ | exact zn _ | exact zm _ | exact Nat.le_of_ble_eq_true rfl | assumption)⟩, ⟨_, _, rfl, rfl, (by (repeat' apply And.intro) <;> first | trivial | rfl | exact zi (s := 7) (enc := zq) (fun _ => rfl) _ | exact zi (fun _ => rfl) _ | exact zk _ | exact zn _ | exact zm _ | exact Nat.le_of_ble_eq_true rfl | assumption)⟩, ⟨_, _, rfl, rfl, (by (repeat' apply And.intro) <;> first | trivial | rfl | exact zi (s := 7) (enc := zq) (fun _ => rfl) _ | exact zi (fun _ => rfl) _ | exact zk _ | exact zn _ | exact zm _ | exact Nat.le_of_ble_eq_true rfl | assumption)⟩, ⟨_, _, rfl, rfl, (by (repeat' apply And.intro) <;> first | trivial | rfl | exact zi (s := 7) (enc := zq) (fun _ => rfl) _ | exact zi (fun _ => rfl) _ | exact zk _ | exact zn _ | exact zm _ | exact Nat.le_of_ble_eq_true rfl | assumption)⟩, ⟨_, _, rfl, rfl, (by (repeat' apply And.intro) <;> first | trivial | rfl | exact zi (s := 7) (enc := zq) (fun _ => rfl) _ | exact zi (fun _ => rfl) _ | exact zk _ | exact zn _ | exact zm _ | exact Nat.le_of_ble_eq_true rfl | assumption)⟩, ⟨_, _, rfl, rfl, (by (repeat' apply And.intro) <;> first | trivial | rfl | exact zi (s := 7) (enc := zq) (fun _ => rfl) _ | exact zi (fun _ => rfl) _ | exact zk _ | exact zn _ | exact zm _ | exact Nat.le_of_ble_eq_true rfl | assumption)⟩, ⟨_, _, rfl, rfl, (by (repeat' apply And.intro) <;> first | trivial | rfl | exact zi (s := 7) (enc := zq) (fun _ => rfl) _ | exact zi (fun _ => rfl) _ | exact zk _ | exact zn _ | exact zm _ | exact Nat.le_of_ble_eq_true rfl | assumption)⟩, ⟨_, _, rfl, rfl, (by (repeat' apply And.intro) <;> first | trivial | rfl | exact zi (s := 7) (enc := zq) (fun _ => rfl) _ | exact zi (fun _ => rfl) _ | exact zk _ | exact zn _ | exact zm _ | exact Nat.le_of_ble_eq_true rfl | assumption)⟩, ⟨_, _, rfl, rfl, (by (repeat' apply And.intro) <;> first | trivial | rfl | exact zi (s := 7) (enc := zq) (fun _ => rfl) _ | exact zi (fun _ => rfl) _ | exact zk _ | exact zn _ | exact zm _ | exact Nat.le_of_ble_eq_true rfl | assumption)⟩, ⟨_, _, rfl, rfl, (by (repeat' apply And.intro) <;> first | trivial | rfl | exact zi (s := 7) (enc := zq) (fun _ => rfl) _ | exact zi (fun _ => rfl) _ | exact zk _ | exact zn _ | exact zm _ | exact Nat.le_of_ble_eq_true rfl | assumption)⟩, trivial⟩ ⟨⟨rfl, _, _, rfl, rfl, (by (repeat' apply And.intro) <;> first | trivial | rfl | exact zi (s := 7) (enc := zq) (fun _ => rfl) _ | exact zi (fun _ => rfl) _ | exact zk _ | exact zn _ | exact zm _ | exact Nat.le_of_ble_eq_true rfl | assumption)⟩, ⟨rfl, _, _, rfl, rfl, (by (repeat' apply And.intro) <;> first | trivial | rfl | exact zi (s := 7) (enc := zq) (fun _ => rfl) _ | exact zi (fun _ => rfl) _ | exact zk _ | exact zn _ | exact zm _ | exact Nat.le_of_ble_eq_true rfl | assumption)⟩, ⟨rfl, _, _, rfl, rfl, (by (repeat' apply And.intro) <;> first | trivial | rfl | exact zi (s := 7) (enc := zq) (fun _ => rfl) _ | exact zi (fun _ => rfl) _ | exact zk _ | exact zn _ | exact zm _ | exact Nat.le_of_ble_eq_true rfl | assumption)⟩, trivial⟩) ?_
 refine zc3 (j := 4) ?_
 refine za rfl rfl (by decide) ?_
 refine zx (H' := [(2, _), (1, .box [_, _, _, _, _, _, _, _, _, _]), (0, _)]) rfl rfl rfl rfl rfl rfl (.inl rfl) rfl ?_
 refine zc (ze (zd ?_))
 refine zaY rfl (zcn 4 (j := 0) ?_)
 simp only [List.take_succ_cons, List.take_zero, List.drop_succ_cons, List.drop_zero]
 refine za rfl rfl trivial (za rfl rfl trivial (za (v := .bnd 43 1 [_]) rfl rfl trivial ?_))
 refine zX (Hin := [.row _ _ _, .box [.ref 0 _ _ _, .pv _]]) (out' := .ref 5 _ _ _) (H' := [(5, .row _ _ _), (2, .box [_, _]), (1, .box [_, _, _, _, _, _, _, _, _, _]), (0, .row _ _ _)]) (nx' := 6) [0, 2] rfl rfl rfl rfl (.inl rfl) rfl rfl rfl rfl (zp4 ((z8 ((zW (⟨l, 0, false⟩ : GTk)).2)).2) (by first | assumption | omega | (dsimp only [GTk.left] at *; omega))) rfl (by decide) rfl rfl rfl rfl rfl ?_
 have p3 := zlv ((z8 ((zW (⟨l, 0, false⟩ : GTk)).2)).2) (by first | assumption | omega | (dsimp only [GTk.left] at *; omega))
 refine zc ?_
 refine zbz (zH.freezeJ (T' := [(0, .ref 0 1 0 l.length), (2, .ptr 1 0), (3, B false), (4, .ptr 2 0), (5, .ref 0 1 0 l.length), (6, .agg [.ref 0 1 0 l.length, B false]), (7, .ptr 2 0), (8, .ptr 2 0), (9, .ptr 2 0), (10, .bnd 39 1 [.ptr 2 0]), (11, .pv (.slc (zW (⟨l, 0, false⟩ : GTk)).1.length false ((zW (⟨l, 0, false⟩ : GTk)).1.flatMap zj))), (13, .ptr 2 0), (14, .ptr 2 0), (15, .bnd 41 1 [.ptr 2 0]), (16, .pv (.slc (z8 ((zW (⟨l, 0, false⟩ : GTk)).2)).1.length false ((z8 ((zW (⟨l, 0, false⟩ : GTk)).2)).1.flatMap zq))), (18, .ptr 2 0), (19, .ptr 2 0), (20, .bnd 43 1 [.ptr 2 0]), (21, .pv (.slc (zah ((z8 ((zW (⟨l, 0, false⟩ : GTk)).2)).2)).1.length false ((zah ((z8 ((zW (⟨l, 0, false⟩ : GTk)).2)).2)).1.flatMap zw)))]) (H' := [(2, .box [.ref 0 1 ((zah ((z8 ((zW (⟨l, 0, false⟩ : GTk)).2)).2)).2).pos ((zah ((z8 ((zW (⟨l, 0, false⟩ : GTk)).2)).2)).2).left, B ((zah ((z8 ((zW (⟨l, 0, false⟩ : GTk)).2)).2)).2).bad]), (1, .box [.pv (.slc (zW (⟨l, 0, false⟩ : GTk)).1.length false ((zW (⟨l, 0, false⟩ : GTk)).1.flatMap zj)), .pv (.slc (z8 ((zW (⟨l, 0, false⟩ : GTk)).2)).1.length false ((z8 ((zW (⟨l, 0, false⟩ : GTk)).2)).1.flatMap zq)), .pv (.slc 0 false []), I 0, I 0, .pv (.slc 0 false []), I 0, I 0, I 0, I 0]), (0, .row 3 1 (encI ((zah ((z8 ((zW (⟨l, 0, false⟩ : GTk)).2)).2)).2).all))]) [5] (by decide) ⟨⟨_, _, rfl, rfl, (by (repeat' apply And.intro) <;> first | trivial | rfl | exact zi (s := 8) (enc := zw) (fun _ => rfl) _ | exact zi (fun _ => rfl) _ | exact zk _ | exact zn _ | exact zm _ | exact Nat.le_of_ble_eq_true rfl | assumption)⟩, ⟨_, _, rfl, rfl, (by (repeat' apply And.intro) <;> first | trivial | rfl | exact zi (s := 8) (enc := zw) (fun _ => rfl) _ | exact zi (fun _ => rfl) _ | exact zk _ | exact zn _ | exact zm _ | exact Nat.le_of_ble_eq_true rfl | assumption)⟩, ⟨_, _, rfl, rfl, (by (repeat' apply And.intro) <;> first | trivial | rfl | exact zi (s := 8) (enc := zw) (fun _ => rfl) _ | exact zi (fun _ => rfl) _ | exact zk _ | exact zn _ | exact zm _ | exact Nat.le_of_ble_eq_true rfl | assumption)⟩, ⟨_, _, rfl, rfl, (by (repeat' apply And.intro) <;> first | trivial | rfl | exact zi (s := 8) (enc := zw) (fun _ => rfl) _ | exact zi (fun _ => rfl) _ | exact zk _ | exact zn _ | exact zm _ | exact Nat.le_of_ble_eq_true rfl | assumption)⟩, ⟨_, _, rfl, rfl, (by (repeat' apply And.intro) <;> first | trivial | rfl | exact zi (s := 8) (enc := zw) (fun _ => rfl) _ | exact zi (fun _ => rfl) _ | exact zk _ | exact zn _ | exact zm _ | exact Nat.le_of_ble_eq_true rfl | assumption)⟩, ⟨_, _, rfl, rfl, (by (repeat' apply And.intro) <;> first | trivial | rfl | exact zi (s := 8) (enc := zw) (fun _ => rfl) _ | exact zi (fun _ => rfl) _ | exact zk _ | exact zn _ | exact zm _ | exact Nat.le_of_ble_eq_true rfl | assumption)⟩, ⟨_, _, rfl, rfl, (by (repeat' apply And.intro) <;> first | trivial | rfl | exact zi (s := 8) (enc := zw) (fun _ => rfl) _ | exact zi (fun _ => rfl) _ | exact zk _ | exact zn _ | exact zm _ | exact Nat.le_of_ble_eq_true rfl | assumption)⟩, ⟨_, _, rfl, rfl, (by (repeat' apply And.intro) <;> first | trivial | rfl | exact zi (s := 8) (enc := zw) (fun _ => rfl) _ | exact zi (fun _ => rfl) _ | exact zk _ | exact zn _ | exact zm _ | exact Nat.le_of_ble_eq_true rfl | assumption)⟩, ⟨_, _, rfl, rfl, (by (repeat' apply And.intro) <;> first | trivial | rfl | exact zi (s := 8) (enc := zw) (fun _ => rfl) _ | exact zi (fun _ => rfl) _ | exact zk _ | exact zn _ | exact zm _ | exact Nat.le_of_ble_eq_true rfl | assumption)⟩, ⟨_, _, rfl, rfl, (by (repeat' apply And.intro) <;> first | trivial | rfl | exact zi (s := 8) (enc := zw) (fun _ => rfl) _ | exact zi (fun _ => rfl) _ | exact zk _ | exact zn _ | exact zm _ | exact Nat.le_of_ble_eq_true rfl | assumption)⟩, ⟨_, _, rfl, rfl, (by (repeat' apply And.intro) <;> first | trivial | rfl | exact zi (s := 8) (enc := zw) (fun _ => rfl) _ | exact zi (fun _ => rfl) _ | exact zk _ | exact zn _ | exact zm _ | exact Nat.le_of_ble_eq_true rfl | assumption)⟩, ⟨_, _, rfl, rfl, (by (repeat' apply And.intro) <;> first | trivial | rfl | exact zi (s := 8) (enc := zw) (fun _ => rfl) _ | exact zi (fun _ => rfl) _ | exact zk _ | exact zn _ | exact zm _ | exact Nat.le_of_ble_eq_true rfl | assumption)⟩, ⟨_, _, rfl, rfl, (by (repeat' apply And.intro) <;> first | trivial | rfl | exact zi (s := 8) (enc := zw) (fun _ => rfl) _ | exact zi (fun _ => rfl) _ | exact zk _ | exact zn _ | exact zm _ | exact Nat.le_of_ble_eq_true rfl | assumption)⟩, ⟨_, _, rfl, rfl, (by (repeat' apply And.intro) <;> first | trivial | rfl | exact zi (s := 8) (enc := zw) (fun _ => rfl) _ | exact zi (fun _ => rfl) _ | exact zk _ | exact zn _ | exact zm _ | exact Nat.le_of_ble_eq_true rfl | assumption)⟩, ⟨_, _, rfl, rfl, (by (repeat' apply And.intro) <;> first | trivial | rfl | exact zi (s := 8) (enc := zw) (fun _ => rfl) _ | exact zi (fun _ => rfl) _ | exact zk _ | exact zn _ | exact zm _ | exact Nat.le_of_ble_eq_true rfl | assumption)⟩, ⟨_, _, rfl, rfl, (by (repeat' apply And.intro) <;> first | trivial | rfl | exact zi (s := 8) (enc := zw) (fun _ => rfl) _ | exact zi (fun _ => rfl) _ | exact zk _ | exact zn _ | exact zm _ | exact Nat.le_of_ble_eq_true rfl | assumption)⟩, ⟨_, _, rfl, rfl, (by (repeat' apply And.intro) <;> first | trivial | rfl | exact zi (s := 8) (enc := zw) (fun _ => rfl) _ | exact zi (fun _ => rfl) _ | exact zk _ | exact zn _ | exact zm _ | exact Nat.le_of_ble_eq_true rfl | assumption)⟩, ⟨_, _, rfl, rfl, (by (repeat' apply And.intro) <;> first | trivial | rfl | exact zi (s := 8) (enc := zw) (fun _ => rfl) _ | exact zi (fun _ => rfl) _ | exact zk _ | exact zn _ | exact zm _ | exact Nat.le_of_ble_eq_true rfl | assumption)⟩, ⟨_, _, rfl, rfl, (by (repeat' apply And.intro) <;> first | trivial | rfl | exact zi (s := 8) (enc := zw) (fun _ => rfl) _ | exact zi (fun _ => rfl) _ | exact zk _ | exact zn _ | exact zm _ | exact Nat.le_of_ble_eq_true rfl | assumption)⟩, trivial⟩ ⟨⟨rfl, _, _, rfl, rfl, (by (repeat' apply And.intro) <;> first | trivial | rfl | exact zi (s := 8) (enc := zw) (fun _ => rfl) _ | exact zi (fun _ => rfl) _ | exact zk _ | exact zn _ | exact zm _ | exact Nat.le_of_ble_eq_true rfl | assumption)⟩, ⟨rfl, _, _, rfl, rfl, (by (repeat' apply And.intro) <;> first | trivial | rfl | exact zi (s := 8) (enc := zw) (fun _ => rfl) _ | exact zi (fun _ => rfl) _ | exact zk _ | exact zn _ | exact zm _ | exact Nat.le_of_ble_eq_true rfl | assumption)⟩, ⟨rfl, _, _, rfl, rfl, (by (repeat' apply And.intro) <;> first | trivial | rfl | exact zi (s := 8) (enc := zw) (fun _ => rfl) _ | exact zi (fun _ => rfl) _ | exact zk _ | exact zn _ | exact zm _ | exact Nat.le_of_ble_eq_true rfl | assumption)⟩, trivial⟩) ?_
 refine zc3 (j := 4) ?_
 refine za rfl rfl (by decide) ?_
 refine zx (H' := [(2, _), (1, .box [_, _, _, _, _, _, _, _, _, _]), (0, _)]) rfl rfl rfl rfl rfl rfl (.inl rfl) rfl ?_
 refine zc (ze (zd (zb rfl (za rfl rfl trivial (za rfl rfl (by decide) (za rfl rfl (by decide) (za rfl rfl (by decide) (za rfl rfl (by decide) (zB (o := .box [_, _]) (nx' := 7) rfl rfl rfl (by decide) ?_)))))))))
 refine zX (Hin := [.row _ _ _, .box [.ref 0 _ _ _, .pv _], .box [.ptr 3 3, .ptr 3 4], .box [.pv _, .pv _, .pv _, .pv _, .pv _, .pv _, .pv _, .pv _, .pv _, .pv _]]) (H' := [(6, .box [_, _]), (2, .box [_, _]), (1, .box [_, _, _, _, _, _, _, _, _, _]), (0, .row _ _ _)]) (nx' := 7) [0, 2, 6, 1] rfl rfl rfl rfl (.inl rfl) rfl rfl rfl rfl (zey ((zah ((z8 ((zW (⟨l, 0, false⟩ : GTk)).2)).2)).2) [(.slc (zW (⟨l, 0, false⟩ : GTk)).1.length false ((zW (⟨l, 0, false⟩ : GTk)).1.flatMap zj)), (.slc (z8 ((zW (⟨l, 0, false⟩ : GTk)).2)).1.length false ((z8 ((zW (⟨l, 0, false⟩ : GTk)).2)).1.flatMap zq)), (.slc (zah ((z8 ((zW (⟨l, 0, false⟩ : GTk)).2)).2)).1.length false ((zah ((z8 ((zW (⟨l, 0, false⟩ : GTk)).2)).2)).1.flatMap zw)), i64 0, i64 0, (.slc 0 false []), i64 0, i64 0, i64 0, i64 0] [3, 4] rfl rfl) rfl (by decide) rfl rfl rfl rfl rfl ?_
 have p4 := za7 ((zah ((z8 ((zW (⟨l, 0, false⟩ : GTk)).2)).2)).2) 2
 refine zc (ze (zd ?_))
 refine zaY rfl (zcn 4 (j := 0) ?_)
 simp only [List.take_succ_cons, List.take_zero, List.drop_succ_cons, List.drop_zero]
 refine za rfl rfl trivial (za rfl rfl trivial (za (v := .bnd 46 1 [_]) rfl rfl trivial ?_))
 refine zX (Hin := [.row _ _ _, .box [.ref 0 _ _ _, .pv _]]) (out' := .ref 7 _ _ _) (H' := [(7, .row _ _ _), (6, .box [_, _]), (2, .box [_, _]), (1, .box [_, _, _, _, _, _, _, _, _, _]), (0, .row _ _ _)]) (nx' := 8) [0, 2] rfl rfl rfl rfl (.inl rfl) rfl rfl rfl rfl (zp3 (zR ((zah ((z8 ((zW (⟨l, 0, false⟩ : GTk)).2)).2)).2) 2) (by first | assumption | omega | (dsimp only [GTk.left] at *; omega))) rfl (by decide) rfl rfl rfl rfl rfl ?_
 have p5 := zlr (zR ((zah ((z8 ((zW (⟨l, 0, false⟩ : GTk)).2)).2)).2) 2) (by first | assumption | omega | (dsimp only [GTk.left] at *; omega))
 refine zc ?_
 refine zbz (zH.freezeJ (T' := [(0, .ref 0 1 0 l.length), (2, .ptr 1 0), (3, B false), (4, .ptr 2 0), (5, .ref 0 1 0 l.length), (6, .agg [.ref 0 1 0 l.length, B false]), (7, .ptr 2 0), (8, .ptr 2 0), (9, .ptr 2 0), (10, .bnd 39 1 [.ptr 2 0]), (11, .pv (.slc (zW (⟨l, 0, false⟩ : GTk)).1.length false ((zW (⟨l, 0, false⟩ : GTk)).1.flatMap zj))), (13, .ptr 2 0), (14, .ptr 2 0), (15, .bnd 41 1 [.ptr 2 0]), (16, .pv (.slc (z8 ((zW (⟨l, 0, false⟩ : GTk)).2)).1.length false ((z8 ((zW (⟨l, 0, false⟩ : GTk)).2)).1.flatMap zq))), (18, .ptr 2 0), (19, .ptr 2 0), (20, .bnd 43 1 [.ptr 2 0]), (21, .pv (.slc (zah ((z8 ((zW (⟨l, 0, false⟩ : GTk)).2)).2)).1.length false ((zah ((z8 ((zW (⟨l, 0, false⟩ : GTk)).2)).2)).1.flatMap zw))), (23, .ptr 2 0), (28, .view 6 0 2), (30, .ptr 2 0), (31, .ptr 2 0), (32, .bnd 46 1 [.ptr 2 0]), (33, .pv (.slc (zaT (zR ((zah ((z8 ((zW (⟨l, 0, false⟩ : GTk)).2)).2)).2) 2)).1.length false (encB (zaT (zR ((zah ((z8 ((zW (⟨l, 0, false⟩ : GTk)).2)).2)).2) 2)).1)))]) (H' := [(2, .box [.ref 0 1 ((zaT (zR ((zah ((z8 ((zW (⟨l, 0, false⟩ : GTk)).2)).2)).2) 2)).2).pos ((zaT (zR ((zah ((z8 ((zW (⟨l, 0, false⟩ : GTk)).2)).2)).2) 2)).2).left, B ((zaT (zR ((zah ((z8 ((zW (⟨l, 0, false⟩ : GTk)).2)).2)).2) 2)).2).bad]), (1, .box [.pv (.slc (zW (⟨l, 0, false⟩ : GTk)).1.length false ((zW (⟨l, 0, false⟩ : GTk)).1.flatMap zj)), .pv (.slc (z8 ((zW (⟨l, 0, false⟩ : GTk)).2)).1.length false ((z8 ((zW (⟨l, 0, false⟩ : GTk)).2)).1.flatMap zq)), .pv (.slc (zah ((z8 ((zW (⟨l, 0, false⟩ : GTk)).2)).2)).1.length false ((zah ((z8 ((zW (⟨l, 0, false⟩ : GTk)).2)).2)).1.flatMap zw)), I (tval ((zah ((z8 ((zW (⟨l, 0, false⟩ : GTk)).2)).2)).2) 0), I (tval ((zah ((z8 ((zW (⟨l, 0, false⟩ : GTk)).2)).2)).2) 1), .pv (.slc 0 false []), I 0, I 0, I 0, I 0]), (0, .row 3 1 (encI ((zaT (zR ((zah ((z8 ((zW (⟨l, 0, false⟩ : GTk)).2)).2)).2) 2)).2).all))]) [7] (by decide) ⟨⟨_, _, rfl, rfl, (by (repeat' apply And.intro) <;> first | trivial | rfl | exact zi (fun _ => rfl) _ | exact zk _ | exact zn _ | exact zm _ | exact Nat.le_of_ble_eq_true rfl | assumption)⟩, ⟨_, _, rfl, rfl, (by (repeat' apply And.intro) <;> first | trivial | rfl | exact zi (fun _ => rfl) _ | exact zk _ | exact zn _ | exact zm _ | exact Nat.le_of_ble_eq_true rfl | assumption)⟩, ⟨_, _, rfl, rfl, (by (repeat' apply And.intro) <;> first | trivial | rfl | exact zi (fun _ => rfl) _ | exact zk _ | exact zn _ | exact zm _ | exact Nat.le_of_ble_eq_true rfl | assumption)⟩, ⟨_, _, rfl, rfl, (by (repeat' apply And.intro) <;> first | trivial | rfl | exact zi (fun _ => rfl) _ | exact zk _ | exact zn _ | exact zm _ | exact Nat.le_of_ble_eq_true rfl | assumption)⟩, ⟨_, _, rfl, rfl, (by (repeat' apply And.intro) <;> first | trivial | rfl | exact zi (fun _ => rfl) _ | exact zk _ | exact zn _ | exact zm _ | exact Nat.le_of_ble_eq_true rfl | assumption)⟩, ⟨_, _, rfl, rfl, (by (repeat' apply And.intro) <;> first | trivial | rfl | exact zi (fun _ => rfl) _ | exact zk _ | exact zn _ | exact zm _ | exact Nat.le_of_ble_eq_true rfl | assumption)⟩, ⟨_, _, rfl, rfl, (by (repeat' apply And.intro) <;> first | trivial | rfl | exact zi (fun _ => rfl) _ | exact zk _ | exact zn _ | exact zm _ | exact Nat.le_of_ble_eq_true rfl | assumption)⟩, ⟨_, _, rfl, rfl, (by (repeat' apply And.intro) <;> first | trivial | rfl | exact zi (fun _ => rfl) _ | exact zk _ | exact zn _ | exact zm _ | exact Nat.le_of_ble_eq_true rfl | assumption)⟩, ⟨_, _, rfl, rfl, (by (repeat' apply And.intro) <;> first | trivial | rfl | exact zi (fun _ => rfl) _ | exact zk _ | exact zn _ | exact zm _ | exact Nat.le_of_ble_eq_true rfl | assumption)⟩, ⟨_, _, rfl, rfl, (by (repeat' apply And.intro) <;> first | trivial | rfl | exact zi (fun _ => rfl) _ | exact zk _ | exact zn _ | exact zm _ | exact Nat.le_of_ble_eq_true rfl | assumption)⟩, ⟨_, _, rfl, rfl, (by (repeat' apply And.intro) <;> first | trivial | rfl | exact zi (fun _ => rfl) _ | exact zk _ | exact zn _ | exact zm _ | exact Nat.le_of_ble_eq_true rfl | assumption)⟩, ⟨_, _, rfl, rfl, (by (repeat' apply And.intro) <;> first | trivial | rfl | exact zi (fun _ => rfl) _ | exact zk _ | exact zn _ | exact zm _ | exact Nat.le_of_ble_eq_true rfl | assumption)⟩, ⟨_, _, rfl, rfl, (by (repeat' apply And.intro) <;> first | trivial | rfl | exact zi (fun _ => rfl) _ | exact zk _ | exact zn _ | exact zm _ | exact Nat.le_of_ble_eq_true rfl | assumption)⟩, ⟨_, _, rfl, rfl, (by (repeat' apply And.intro) <;> first | trivial | rfl | exact zi (fun _ => rfl) _ | exact zk _ | exact zn _ | exact zm _ | exact Nat.le_of_ble_eq_true rfl | assumption)⟩, ⟨_, _, rfl, rfl, (by (repeat' apply And.intro) <;> first | trivial | rfl | exact zi (fun _ => rfl) _ | exact zk _ | exact zn _ | exact zm _ | exact Nat.le_of_ble_eq_true rfl | assumption)⟩, ⟨_, _, rfl, rfl, (by (repeat' apply And.intro) <;> first | trivial | rfl | exact zi (fun _ => rfl) _ | exact zk _ | exact zn _ | exact zm _ | exact Nat.le_of_ble_eq_true rfl | assumption)⟩, ⟨_, _, rfl, rfl, (by (repeat' apply And.intro) <;> first | trivial | rfl | exact zi (fun _ => rfl) _ | exact zk _ | exact zn _ | exact zm _ | exact Nat.le_of_ble_eq_true rfl | assumption)⟩, ⟨_, _, rfl, rfl, (by (repeat' apply And.intro) <;> first | trivial | rfl | exact zi (fun _ => rfl) _ | exact zk _ | exact zn _ | exact zm _ | exact Nat.le_of_ble_eq_true rfl | assumption)⟩, ⟨_, _, rfl, rfl, (by (repeat' apply And.intro) <;> first | trivial | rfl | exact zi (fun _ => rfl) _ | exact zk _ | exact zn _ | exact zm _ | exact Nat.le_of_ble_eq_true rfl | assumption)⟩, ⟨_, _, rfl, rfl, (by (repeat' apply And.intro) <;> first | trivial | rfl | exact zi (fun _ => rfl) _ | exact zk _ | exact zn _ | exact zm _ | exact Nat.le_of_ble_eq_true rfl | assumption)⟩, ⟨_, _, rfl, rfl, (by (repeat' apply And.intro) <;> first | trivial | rfl | exact zi (fun _ => rfl) _ | exact zk _ | exact zn _ | exact zm _ | exact Nat.le_of_ble_eq_true rfl | assumption)⟩, ⟨_, _, rfl, rfl, (by (repeat' apply And.intro) <;> first | trivial | rfl | exact zi (fun _ => rfl) _ | exact zk _ | exact zn _ | exact zm _ | exact Nat.le_of_ble_eq_true rfl | assumption)⟩, ⟨_, _, rfl, rfl, (by (repeat' apply And.intro) <;> first | trivial | rfl | exact zi (fun _ => rfl) _ | exact zk _ | exact zn _ | exact zm _ | exact Nat.le_of_ble_eq_true rfl | assumption)⟩, ⟨_, _, rfl, rfl, (by (repeat' apply And.intro) <;> first | trivial | rfl | exact zi (fun _ => rfl) _ | exact zk _ | exact zn _ | exact zm _ | exact Nat.le_of_ble_eq_true rfl | assumption)⟩, ⟨_, _, rfl, rfl, (by (repeat' apply And.intro) <;> first | trivial | rfl | exact zi (fun _ => rfl) _ | exact zk _ | exact zn _ | exact zm _ | exact Nat.le_of_ble_eq_true rfl | assumption)⟩, trivial⟩ ⟨⟨rfl, _, _, rfl, rfl, (by (repeat' apply And.intro) <;> first | trivial | rfl | exact zi (fun _ => rfl) _ | exact zk _ | exact zn _ | exact zm _ | exact Nat.le_of_ble_eq_true rfl | assumption)⟩, ⟨rfl, _, _, rfl, rfl, (by (repeat' apply And.intro) <;> first | trivial | rfl | exact zi (fun _ => rfl) _ | exact zk _ | exact zn _ | exact zm _ | exact Nat.le_of_ble_eq_true rfl | assumption)⟩, ⟨rfl, _, _, rfl, rfl, (by (repeat' apply And.intro) <;> first | trivial | rfl | exact zi (fun _ => rfl) _ | exact zk _ | exact zn _ | exact zm _ | exact Nat.le_of_ble_eq_true rfl | assumption)⟩, trivial⟩) ?_
 refine zc3 (j := 4) ?_
 refine za rfl rfl (by decide) (za rfl rfl (by decide) ?_)
 refine zx (H' := [(2, _), (1, .box [_, _, _, _, _, _, _, _, _, _]), (0, _)]) rfl rfl rfl rfl rfl rfl (.inl rfl) rfl ?_
 refine zc (ze (zd (zb rfl (za rfl rfl trivial (za rfl rfl (by decide) (za rfl rfl (by decide) (za rfl rfl (by decide) (za rfl rfl (by decide) (za rfl rfl (by decide) (za rfl rfl (by decide) (za rfl rfl (by decide) ?_)))))))))))
 refine za rfl rfl (by decide) (zB (o := .box [_, _, _, _]) (nx' := 9) rfl rfl rfl (by decide) ?_)
 refine zX (Hin := [.row _ _ _, .box [.ref 0 _ _ _, .pv _], .box [.ptr 3 6, .ptr 3 7, .ptr 3 8, .ptr 3 9], .box [.pv _, .pv _, .pv _, .pv _, .pv _, .pv _, .pv _, .pv _, .pv _, .pv _]]) (H' := [(8, .box [_, _, _, _]), (2, .box [_, _]), (1, .box [_, _, _, _, _, _, _, _, _, _]), (0, .row _ _ _)]) (nx' := 9) [0, 2, 8, 1] rfl rfl rfl rfl (.inl rfl) rfl rfl rfl rfl (zey ((zaT (zR ((zah ((z8 ((zW (⟨l, 0, false⟩ : GTk)).2)).2)).2) 2)).2) [(.slc (zW (⟨l, 0, false⟩ : GTk)).1.length false ((zW (⟨l, 0, false⟩ : GTk)).1.flatMap zj)), (.slc (z8 ((zW (⟨l, 0, false⟩ : GTk)).2)).1.length false ((z8 ((zW (⟨l, 0, false⟩ : GTk)).2)).1.flatMap zq)), (.slc (zah ((z8 ((zW (⟨l, 0, false⟩ : GTk)).2)).2)).1.length false ((zah ((z8 ((zW (⟨l, 0, false⟩ : GTk)).2)).2)).1.flatMap zw)), i64 (tval ((zah ((z8 ((zW (⟨l, 0, false⟩ : GTk)).2)).2)).2) 0), i64 (tval ((zah ((z8 ((zW (⟨l, 0, false⟩ : GTk)).2)).2)).2) 1), (.slc (zaT (zR ((zah ((z8 ((zW (⟨l, 0, false⟩ : GTk)).2)).2)).2) 2)).1.length false (encB (zaT (zR ((zah ((z8 ((zW (⟨l, 0, false⟩ : GTk)).2)).2)).2) 2)).1)), i64 0, i64 0, i64 0, i64 0] [6, 7, 8, 9] rfl rfl) rfl (by decide) rfl rfl rfl rfl rfl ?_
 have p6 := za7 ((zaT (zR ((zah ((z8 ((zW (⟨l, 0, false⟩ : GTk)).2)).2)).2) 2)).2) 4
 refine zc (ze (zd (zd (zb rfl (za rfl rfl trivial (za rfl rfl trivial (za rfl rfl (by decide) (za rfl rfl trivial (za rfl rfl trivial ?_)))))))))
 refine zK rfl (fun h8 => ?_) (fun h8 => ?_)
 ·have g8 : (zR ((zaT (zR ((zah ((z8 ((zW (⟨l, 0, false⟩ : GTk)).2)).2)).2) 2)).2) 4).bad = true := h8
  refine zh rfl h8 rfl (zh rfl h8 rfl (zh rfl h8 rfl (zh rfl h8 rfl (zh rfl h8 rfl (zh rfl h8 rfl (zr rfl h8 rfl rfl (zc (ze (zP rfl (zd (zb rfl ?_)))))))))))
  refine za (v := (.agg [_, _, _, _, _, _, _, _, _, _])) rfl rfl trivial ?_
  refine zx (H' := [(8, _), (2, _), (1, .box [_, _, _, _, _, _, _, _, _, _]), (0, _)]) rfl rfl rfl rfl rfl rfl (.inl rfl) rfl ?_
  refine za rfl rfl trivial (zc (ze ?_))
  refine zaV (zH.loose (T' := [(2, .ptr 1 0), (3, B false)]) (H' := [(0, .row 3 1 (encI (zR ((zaT (zR ((zah ((z8 ((zW (⟨l, 0, false⟩ : GTk)).2)).2)).2) 2)).2) 4).all)), (1, .box [.pv (.slc 0 false []), .pv (.slc 0 false []), .pv (.slc 0 false []), I 0, I 0, .pv (.slc 0 false []), I 0, I 0, I 0, I 0])]) ⟨⟨_, rfl, .inl rfl⟩, ⟨_, rfl, .inl rfl⟩, trivial⟩ ⟨⟨_, rfl, .inl rfl⟩, ⟨_, rfl, .inr rfl⟩, trivial⟩) ?_
  refine zo (zI ?_)
  have e9 : zct l = ((⟨[], [], [], (⟨0, 0, []⟩ : zax), (⟨0, 0⟩ : GPos), (⟨0, 0⟩ : GPos)⟩ : zu), false, (zR ((zaT (zR ((zah ((z8 ((zW (⟨l, 0, false⟩ : GTk)).2)).2)).2) 2)).2) 4).all) := by
   unfold zct
   try dsimp only
   rewrite [if_pos g8]
   all_goals rfl
  rw [e9]
  exact zL [] [] rfl ⟨Nat.le_of_ble_eq_true rfl, trivial, trivial⟩ rfl (by (repeat' apply And.intro) <;> first | trivial | rfl | exact zi (fun _ => rfl) _ | exact zk _ | exact zn _ | exact zm _ | assumption) (rfl) rfl rfl rfl (by decide) rfl rfl ⟨⟨rfl, rfl⟩, trivial⟩
 ·have g8 : ¬ ((zR ((zaT (zR ((zah ((z8 ((zW (⟨l, 0, false⟩ : GTk)).2)).2)).2) 2)).2) 4).bad = true) := zaw h8
  refine zg rfl h8 (za rfl rfl trivial (zg rfl h8 (za rfl rfl trivial (zg rfl h8 (za rfl rfl (by decide) (zg rfl h8 (za rfl rfl trivial (zg rfl h8 (za rfl rfl trivial (zg rfl h8 (zl rfl rfl rfl rfl rfl trivial ?_)))))))))))
  refine zt rfl h8 rfl rfl (zc (ze ?_))
  refine zy rfl (fun h11 => ?_) (fun h11 => ?_)
  ·have g11 : ((zR ((zaT (zR ((zah ((z8 ((zW (⟨l, 0, false⟩ : GTk)).2)).2)).2) 2)).2) 4).left : Int) > 0 := of_decide_eq_true h11
   refine zd (zb rfl (za (v := (.agg [_, _, _, _, _, _, _, _, _, _])) rfl rfl trivial ?_))
   refine zx (H' := [(8, _), (2, _), (1, .box [_, _, _, _, _, _, _, _, _, _]), (0, _)]) rfl rfl rfl rfl rfl rfl (.inl rfl) rfl ?_
   refine za rfl rfl trivial (zc (ze ?_))
   refine zaV (zH.loose (T' := [(2, .ptr 1 0), (3, B false)]) (H' := [(0, .row 3 1 (encI (zR ((zaT (zR ((zah ((z8 ((zW (⟨l, 0, false⟩ : GTk)).2)).2)).2) 2)).2) 4).all)), (1, .box [.pv (.slc 0 false []), .pv (.slc 0 false []), .pv (.slc 0 false []), I 0, I 0, .pv (.slc 0 false []), I 0, I 0, I 0, I 0])]) ⟨⟨_, rfl, .inl rfl⟩, ⟨_, rfl, .inl rfl⟩, trivial⟩ ⟨⟨_, rfl, .inl rfl⟩, ⟨_, rfl, .inr rfl⟩, trivial⟩) ?_
   refine zo (zI ?_)
   have e12 : zct l = ((⟨[], [], [], (⟨0, 0, []⟩ : zax), (⟨0, 0⟩ : GPos), (⟨0, 0⟩ : GPos)⟩ : zu), false, (zR ((zaT (zR ((zah ((z8 ((zW (⟨l, 0, false⟩ : GTk)).2)).2)).2) 2)).2) 4).all) := by
    unfold zct
    try dsimp only
    rewrite [if_neg g8, if_pos g11]
    all_goals rfl
   rw [e12]
   exact zL [] [] rfl ⟨Nat.le_of_ble_eq_true rfl, trivial, trivial⟩ rfl (by (repeat' apply And.intro) <;> first | trivial | rfl | exact zi (fun _ => rfl) _ | exact zk _ | exact zn _ | exact zm _ | assumption) (rfl) rfl rfl rfl (by decide) rfl rfl ⟨⟨rfl, rfl⟩, trivial⟩
  ·have g11 : ¬ (((zR ((zaT (zR ((zah ((z8 ((zW (⟨l, 0, false⟩ : GTk)).2)).2)).2) 2)).2) 4).left : Int) > 0) := of_decide_eq_false h11
   refine zA (ze (zd (zb rfl (za (v := (.agg [_, _, _, _, _, _, _, _, _, _])) rfl rfl (Nat.le_of_ble_eq_true rfl) ?_))))
   refine zx (H' := [(8, _), (2, _), (1, .box [_, _, _, _, _, _, _, _, _, _]), (0, _)]) rfl rfl rfl rfl rfl rfl (.inl rfl) rfl ?_
   refine za rfl rfl trivial (zc (ze (zo ?_)))
   have e13 : zct l = ((⟨(zW (⟨l, 0, false⟩ : GTk)).1, (z8 ((zW (⟨l, 0, false⟩ : GTk)).2)).1, (zah ((z8 ((zW (⟨l, 0, false⟩ : GTk)).2)).2)).1, (⟨(tval ((zah ((z8 ((zW (⟨l, 0, false⟩ : GTk)).2)).2)).2) 0), (tval ((zah ((z8 ((zW (⟨l, 0, false⟩ : GTk)).2)).2)).2) 1), (zaT (zR ((zah ((z8 ((zW (⟨l, 0, false⟩ : GTk)).2)).2)).2) 2)).1⟩ : zax), (⟨(tval ((zaT (zR ((zah ((z8 ((zW (⟨l, 0, false⟩ : GTk)).2)).2)).2) 2)).2) 0), (tval ((zaT (zR ((zah ((z8 ((zW (⟨l, 0, false⟩ : GTk)).2)).2)).2) 2)).2) 1)⟩ : GPos), (⟨(tval ((zaT (zR ((zah ((z8 ((zW (⟨l, 0, false⟩ : GTk)).2)).2)).2) 2)).2) 2), (tval ((zaT (zR ((zah ((z8 ((zW (⟨l, 0, false⟩ : GTk)).2)).2)).2) 2)).2) 3)⟩ : GPos)⟩ : zu), true, (zR ((zaT (zR ((zah ((z8 ((zW (⟨l, 0, false⟩ : GTk)).2)).2)).2) 2)).2) 4).all) := by
    unfold zct
    try dsimp only
    rewrite [if_neg g8, if_neg g11]
    all_goals rfl
   rw [e13]
   exact zL [] [] rfl ⟨Nat.le_of_ble_eq_true rfl, trivial, trivial⟩ rfl (by (repeat' apply And.intro) <;> first | trivial | rfl | exact zi (fun _ => rfl) _ | exact zk _ | exact zn _ | exact zm _ | assumption) (rfl) rfl rfl rfl (by decide) rfl rfl ⟨⟨rfl, rfl⟩, trivial⟩

theorem zjV : Few9 (⟨[], [], [], (⟨0, 0, []⟩ : zax), (⟨0, 0⟩ : GPos), (⟨0, 0⟩ : GPos)⟩ : zu) := zcO rfl
theorem zif (l : List Int) (hT : l.length ≤ 16000000) : Few9 (zct l).1 ∧ (zct l).2.2 = l := by
  obtain ⟨h1, ⟨h2, a1⟩, h3⟩ := zlH (⟨l, 0, false⟩ : GTk) hT
  have hl : (⟨l, 0, false⟩ : GTk).left = l.length := rfl
  dsimp only at h3 a1
  rw [hl] at h1 h2 h3
  unfold zct
  generalize zW (⟨l, 0, false⟩ : GTk) = A at h1 h2 h3 a1 ⊢
  obtain ⟨h4, h5, a2⟩ := zld A.2 (by omega)
  generalize z8 A.2 = U at h4 h5 a2 ⊢
  obtain ⟨h6, ⟨h7, a3⟩, h8⟩ := zlv U.2 (by omega)
  dsimp only at h8
  generalize zah U.2 = F at h6 h7 h8 a3 ⊢
  obtain ⟨h9, a4⟩ := za7 F.2 2
  obtain ⟨h10, h11, a5⟩ := zlr (zR F.2 2) (by omega)
  generalize zaT (zR F.2 2) = W at h10 h11 a5 ⊢
  have a6 : (zR W.2 4).all = l := (za7 W.2 4).2.trans (a5.trans (a4.trans (a3.trans (a2.trans a1))))
  split
  · exact ⟨zjV, a6⟩
  split
  · exact ⟨zjV, a6⟩
  exact ⟨⟨fun x hx => by have := h3 x hx; omega, fun x hx => by have := (h8 x hx).1; omega, fun x hx => by have := (h8 x hx).2; omega, by dsimp only; omega, by dsimp only; omega, by dsimp only; omega, by dsimp only; omega⟩, a6⟩
def zbN (l : List Int) : zu × Bool := ((zct l).1, (zct l).2.1)
theorem zoZ (l : List Int) (hT : l.length ≤ 16000000) : Few9 (zbN l).1 := (zif l hT).1
theorem zmE (l : List Int) (hT : l.length ≤ 16000000) : Ok Tryz.prog 16 [.ref 0 1 0 l.length] [.row 3 1 (encI l)] (.tup [z1 (zbN l).1, B (zbN l).2]) [.row 3 1 (encI l)] [] := by
  have h := zmk l hT
  rw [(zif l hT).2] at h
  exact h
end Go.Proofs.YtppnccjeggnllaaGreat

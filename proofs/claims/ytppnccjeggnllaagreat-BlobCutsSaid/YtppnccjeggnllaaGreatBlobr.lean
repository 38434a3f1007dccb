import Derived.Test.YtppnccjeggnllaaGreatBlobe
namespace Go.Proofs.YtppnccjeggnllaaGreat
open Go Go.RowKit Go.Proofs.YtppnccjeggnllaaGreatVm
attribute [local irreducible] opsWp AnswersE OpsS
set_option maxHeartbeats 400000
set_option maxRecDepth 100000
set_option linter.all false
/-- a taker: all numbers, how many are taken, whether something was wrong -/
structure GTk where
  (all : List Int)
  (pos : Nat)
  (bad : Bool)
  deriving DecidableEq, Inhabited
def GTk.left (t : GTk) : Nat := t.all.length - t.pos
def one (t : GTk) : Int × GTk :=
  if (t.left : Int) = 0 then (0, (⟨t.all, t.pos, true⟩ : GTk)) else ((t.all.getD t.pos default), (⟨t.all, t.pos + 1, t.bad⟩ : GTk))
theorem one_ok (t : GTk) : Ok Tryz.prog 77 [.ptr 1 0] [.row 3 1 (encI t.all), .box [.ref 0 1 t.pos t.left, B t.bad]] (I (one t).1) [.row 3 1 (encI (one t).2.all), .box [.ref 0 1 (one t).2.pos (one t).2.left, B (one t).2.bad]] [] := by
 refine ok_of_sem Tryz.func77 rfl ?_
 show Walks Tryz.prog _ _ ⟨[(0, .ptr 1 0)], [(0, .row 3 1 (encI t.all)), (1, .box [.ref 0 1 t.pos t.left, B t.bad])], 2, [], 28, 2⟩
 refine sem_seq (sem_region rfl (step_r rfl rfl trivial (step_nil (seqK_n (sem_seq (sem_seq (sem_region rfl (step_r rfl rfl trivial (step_r rfl rfl trivial (step_r rfl rfl (by decide) (step_r rfl rfl trivial ?_)))))))))))
 refine step_r rfl rfl trivial (step_bin rfl rfl rfl rfl rfl trivial (step_nil (seqK_n ?_)))
 refine sem_cond rfl (fun h1 => ?_) (fun h1 => ?_)
 ·have g1 : (t.left : Int) = 0 := beq_t h1
  refine sem_seq (sem_region rfl (step_r rfl rfl trivial (step_r rfl rfl trivial (step_r rfl rfl (by decide) ?_))))
  refine step_storeB (H' := [(0, .row _ _ _), (1, .box [_, _])]) rfl rfl rfl rfl rfl rfl (.inl rfl) rfl ?_
  refine step_nil (seqK_n (sem_seq (sem_region rfl (step_r rfl rfl trivial (step_nil (seqK_n (sem_ret (seqK_r ?_))))))))
  have e2 : one t = (0, (⟨t.all, t.pos, true⟩ : GTk)) := by
   unfold one
   rewrite [if_pos g1]
   rfl
  rw [e2]
  exact answersGR [] [] rfl ⟨trivial, trivial⟩ rfl trivial rfl rfl rfl rfl (by decide) rfl rfl ⟨⟨rfl, rfl⟩, ⟨rfl, rfl⟩, trivial⟩
 ·have g1 : ¬ ((t.left : Int) = 0) := beq_f h1
  have hk : 0 < t.left := by omega
  have hk2 : t.pos < t.all.length := by unfold GTk.left at hk; omega
  refine sem_skip (seqK_n (sem_seq (sem_region rfl (step_r rfl rfl trivial (step_r rfl rfl trivial (step_r rfl rfl (by decide) (step_r rfl rfl trivial ?_)))))))
  refine step_r (c := 0 ≤ (0 : Int) ∧ (0 : Int) < t.left) (v := .ptr 0 ((t.pos + 0) * 1)) rfl rfl ⟨by omega, by omega⟩ ?_
  refine step_load_oneR rfl rfl rfl rfl (show (encI t.all)[(t.pos + 0) * 1]? = some _ by rw [Nat.add_zero]; exact encI_get (get_getD hk2)) rfl ?_
  refine step_r rfl rfl trivial (step_nil (seqK_n (sem_seq (sem_region rfl (step_r rfl rfl trivial (step_r rfl rfl trivial (step_r rfl rfl trivial (step_r rfl rfl (by decide) (step_r rfl rfl trivial ?_)))))))))
  refine step_r (c := 0 ≤ (1 : Int) ∧ (1 : Int) ≤ t.left ∧ (t.left : Int) ≤ t.left) (v := .ref 0 1 (t.pos + 1) (t.left - 1)) rfl rfl ⟨by omega, by omega, by omega⟩ ?_
  refine step_r rfl rfl trivial (step_r rfl rfl (by decide) ?_)
  refine step_storeB (H' := [(0, .row _ _ _), (1, .box [_, _])]) rfl rfl rfl rfl rfl rfl (.inl rfl) rfl ?_
  refine step_nil (seqK_n (sem_seq (sem_region rfl (step_r rfl rfl trivial (step_r rfl rfl trivial (step_nil (seqK_n (sem_ret ?_))))))))
  have e5 : one t = ((t.all.getD t.pos default), (⟨t.all, t.pos + 1, t.bad⟩ : GTk)) := by
   unfold one
   rewrite [if_neg g1]
   rfl
  rw [e5]
  exact answersGR [] [] rfl ⟨trivial, trivial⟩ rfl trivial rfl rfl rfl rfl (by decide) rfl rfl ⟨⟨rfl, rfl⟩, ⟨rfl, rfl⟩, trivial⟩


def flagR_J6 (t : GTk) : GTk :=
  if ((one t).1 : Int) < 0 then (⟨((one t).2).all, ((one t).2).pos, true⟩ : GTk) else if ((one t).1 : Int) > 1 then (⟨((one t).2).all, ((one t).2).pos, true⟩ : GTk) else ((one t).2)
def flagR (t : GTk) : Bool × GTk :=
  (let o1_6 := flagR_J6 t; ((((one t).1 : Int) == 1), o1_6))
theorem flagR_ok (t : GTk) : Ok Tryz.prog 46 [.ptr 1 0] [.row 3 1 (encI t.all), .box [.ref 0 1 t.pos t.left, B t.bad]] (B (flagR t).1) [.row 3 1 (encI ((flagR t).2).all), .box [.ref 0 1 ((flagR t).2).pos ((flagR t).2).left, B ((flagR t).2).bad]] [] := by
 refine ok_of_sem Tryz.func46 rfl ?_
 show Walks Tryz.prog _ _ ⟨[(0, .ptr 1 0)], [(0, .row 3 1 (encI t.all)), (1, .box [.ref 0 1 t.pos t.left, B t.bad])], 2, [], 17, 2⟩
 refine sem_seq (sem_region rfl (step_r rfl rfl trivial (step_nil (seqK_n (sem_seq (sem_region rfl (step_r rfl rfl trivial ?_)))))))
 refine step_callM (Hin := [.row _ _ _, .box [.ref 0 _ _ _, .pv _]]) (H' := [(0, .row _ _ _), (1, .box [_, _])]) (nx' := 2) [0, 1] rfl rfl rfl rfl (.inl rfl) rfl rfl rfl rfl (one_ok t) rfl (by decide) rfl rfl rfl rfl rfl ?_
 refine step_r rfl rfl trivial (step_nil (seqK_n (sem_seq ?_)))
 refine sem_cutW (fun o1_6 : GTk => (⟨[(3, I (one t).1)], [(0, .row 3 1 (encI o1_6.all)), (1, .box [.ref 0 1 o1_6.pos o1_6.left, B o1_6.bad])], 2, [], 17, 2⟩ : St)) (fun w_ => flagR_J6 t = w_) ?_ ?_
 ·refine sem_seq (sem_region rfl (step_r rfl rfl trivial (step_bin rfl rfl rfl rfl rfl trivial (step_r rfl rfl trivial ?_))))
  refine step_gs rfl (fun h4 => ?_) (fun h4 => ?_)
  ·have g4 : ((one t).1 : Int) < 0 := of_decide_eq_true h4
   refine step_g0 rfl h4 rfl (step_g0 rfl h4 rfl (step_pickT rfl h4 rfl rfl (step_nil (seqK_n (sem_condT rfl (sem_region rfl (step_r rfl rfl trivial (step_r rfl rfl trivial (step_r rfl rfl (by decide) ?_)))))))))
   refine step_storeB (H' := [(0, _), (1, .box [_, _])]) rfl rfl rfl rfl rfl rfl (.inl rfl) rfl ?_
   refine step_nil ?_
   have e5 : flagR_J6 t = (⟨((one t).2).all, ((one t).2).pos, true⟩ : GTk) := by
    unfold flagR_J6
    try dsimp only
    rewrite [if_pos g4]
    all_goals rfl
   exact cutW_n (⟨((one t).2).all, ((one t).2).pos, true⟩ : GTk) e5 (Trans.ren [] (by decide +kernel) (by decide +kernel) rfl ⟨⟨rfl, rfl⟩, trivial⟩ ⟨⟨rfl, rfl, rfl⟩, ⟨rfl, rfl, rfl⟩, trivial⟩ (by decide))
  ·have g4 : ¬ (((one t).1 : Int) < 0) := of_decide_eq_false h4
   refine step_g1 rfl h4 (step_r rfl rfl trivial (step_g1 rfl h4 (step_bin rfl rfl rfl rfl rfl trivial (step_pickF rfl h4 rfl rfl (step_nil (seqK_n ?_))))))
   refine sem_cond rfl (fun h7 => ?_) (fun h7 => ?_)
   ·have g7 : ((one t).1 : Int) > 1 := of_decide_eq_true h7
    refine sem_region rfl (step_r rfl rfl trivial (step_r rfl rfl trivial (step_r rfl rfl (by decide) ?_)))
    refine step_storeB (H' := [(0, _), (1, .box [_, _])]) rfl rfl rfl rfl rfl rfl (.inl rfl) rfl ?_
    refine step_nil ?_
    have e8 : flagR_J6 t = (⟨((one t).2).all, ((one t).2).pos, true⟩ : GTk) := by
     unfold flagR_J6
     try dsimp only
     rewrite [if_neg g4, if_pos g7]
     all_goals rfl
    exact cutW_n (⟨((one t).2).all, ((one t).2).pos, true⟩ : GTk) e8 (Trans.ren [] (by decide +kernel) (by decide +kernel) rfl ⟨⟨rfl, rfl⟩, trivial⟩ ⟨⟨rfl, rfl, rfl⟩, ⟨rfl, rfl, rfl⟩, trivial⟩ (by decide))
   ·have g7 : ¬ (((one t).1 : Int) > 1) := of_decide_eq_false h7
    refine sem_skip ?_
    have e9 : flagR_J6 t = ((one t).2) := by
     unfold flagR_J6
     try dsimp only
     rewrite [if_neg g4, if_neg g7]
     all_goals rfl
    exact cutW_n ((one t).2) e9 (Trans.ren [] (by decide +kernel) (by decide +kernel) rfl ⟨⟨rfl, rfl⟩, trivial⟩ ⟨⟨rfl, rfl, rfl⟩, ⟨rfl, rfl, rfl⟩, trivial⟩ (by decide))
 ·rintro o1_6 (hJ2 : flagR_J6 t = o1_6)
  show seqK _ _ _ .normal (⟨[(3, I (one t).1)], [(0, .row 3 1 (encI o1_6.all)), (1, .box [.ref 0 1 o1_6.pos o1_6.left, B o1_6.bad])], 2, [], 17, 2⟩ : St)
  refine seqK_n (sem_seq (sem_region rfl (step_r rfl rfl trivial (step_bin rfl rfl rfl rfl rfl trivial (step_r rfl rfl trivial (step_nil (seqK_n (sem_ret ?_))))))))
  have e12 : flagR t = ((((one t).1 : Int) == 1), o1_6) := by
   unfold flagR
   try dsimp only
   rewrite [hJ2]
   try dsimp only
   all_goals rfl
  rw [e12]
  exact answersGR [] [] rfl ⟨trivial, trivial⟩ rfl (by (repeat' apply And.intro) <;> first | trivial | rfl | exact flat_len (fun _ => rfl) _ | exact encI_len _ | exact encB_len _ | exact encY_len _ | assumption) (rfl) rfl rfl rfl (by decide) rfl rfl ⟨⟨rfl, rfl⟩, ⟨rfl, rfl⟩, trivial⟩

def takeN (t : GTk) : Nat → GTk
  | 0 => t
  | k + 1 => (one (takeN t k)).2
def tval (t : GTk) (k : Nat) : Int := (one (takeN t k)).1
/-- what the first of these places hold then -/
def wrN (t : GTk) (ds : List PV) (ps : List Nat) : Nat → List PV
  | 0 => ds
  | k + 1 => (wrN t ds ps k).set (ps.getD k 0) (.int .i64 (tval t k))
theorem wrN_len (t : GTk) (ds : List PV) (ps : List Nat) : ∀ k, (wrN t ds ps k).length = ds.length
  | 0 => rfl
  | k + 1 => by rw [wrN, List.length_set, wrN_len t ds ps k]
theorem renL_pvs (ρ : Nat → Nat) : ∀ ds : List PV, renL ρ (ds.map .pv) = ds.map .pv
  | [] => rfl
  | d :: ds => by simp only [List.map_cons, renL, ren, renL_pvs ρ ds]
theorem belowL_pvs (n : Nat) : ∀ ds : List PV, belowL n (ds.map .pv) = true
  | [] => rfl
  | d :: ds => by simp only [List.map_cons, belowL, below, belowL_pvs n ds, Bool.and_self]
theorem renL_ptrs (ρ : Nat → Nat) (i : Nat) : ∀ ps : List Nat, renL ρ (ps.map (AV.ptr i)) = ps.map (AV.ptr (ρ i))
  | [] => rfl
  | d :: ds => by simp only [List.map_cons, renL, ren, renL_ptrs ρ i ds]
theorem belowL_ptrs (n i : Nat) (h : i < n) : ∀ ps : List Nat, belowL n (ps.map (AV.ptr i)) = true
  | [] => rfl
  | d :: ds => by simp only [List.map_cons, belowL, below, belowL_ptrs n i h ds]; simpa using h
theorem into_ok (t : GTk) (ds : List PV) (ps : List Nat) (hp : ps.all (fun p => Nat.blt p ds.length) = true) (hm : Nat.ble ps.length 1000 = true) : Ok Tryz.prog 44 [.ptr 1 0, .view 2 0 ps.length] [.row 3 1 (encI t.all), .box [.ref 0 1 t.pos t.left, B t.bad], .box (ps.map (AV.ptr 3)), .box (ds.map .pv)] (.tup []) [.row 3 1 (encI (takeN t ps.length).all), .box [.ref 0 1 (takeN t ps.length).pos (takeN t ps.length).left, B (takeN t ps.length).bad], .box (ps.map (AV.ptr 3)), .box ((wrN t ds ps ps.length).map .pv)] [] := by
 have hp : ∀ p ∈ ps, p < ds.length := fun p h => by simpa [Nat.blt_eq] using List.all_eq_true.1 hp p h
 have hm : ps.length ≤ 1000 := by simpa [Nat.ble_eq] using hm
 refine ok_of_sem Tryz.func44 rfl ?_
 show Walks Tryz.prog _ _ ⟨[(0, .ptr 1 0), (1, .view 2 0 ps.length)], [(0, .row 3 1 (encI t.all)), (1, .box [.ref 0 1 t.pos t.left, B t.bad]), (2, .box (ps.map (AV.ptr 3))), (3, .box (ds.map .pv))], 4, [], 17, 4⟩
 refine sem_seq (sem_region rfl (step_r rfl rfl trivial (step_r rfl rfl trivial (step_r rfl rfl trivial (step_nil (seqK_n ?_))))))
 refine sem_block ?_
 refine sem_loopT (fun k0 : Nat => (⟨[(0, .ptr 1 0), (6, .view 2 0 ps.length), (7, I ps.length), (8, I k0)], [(0, .row 3 1 (encI (takeN t k0).all)), (1, .box [.ref 0 1 (takeN t k0).pos (takeN t k0).left, B (takeN t k0).bad]), (2, .box (ps.map (AV.ptr 3))), (3, .box ((wrN t ds ps k0).map .pv))], 4, [], 17, 4⟩ : St)) (fun k0 : Nat => k0 ≤ ps.length) (fun k0 : Nat => ps.length - k0) 0 (Nat.zero_le _) ?_ (fun k0 hb0 => ?_)
 ·exact (Trans.loose ⟨⟨_, rfl, .inl rfl⟩, ⟨_, rfl, .inl rfl⟩, ⟨_, rfl, .inl rfl⟩, ⟨_, rfl, .inl rfl⟩, trivial⟩ ⟨⟨_, rfl, .inl rfl⟩, ⟨_, rfl, .inl rfl⟩, ⟨_, rfl, .inl rfl⟩, ⟨_, rfl, .inl rfl⟩, trivial⟩)
 refine sem_seq (sem_region rfl (step_bin rfl rfl rfl rfl rfl trivial (step_nil (seqK_n (sem_seq ?_)))))
 refine sem_cond rfl (fun h2 => ?_) (fun h2 => ?_)
 ·have g2 : (k0 : Int) < ps.length := of_decide_eq_true h2
  have hk0 : k0 < ps.length := by omega
  have hg : (ps.map (AV.ptr 3))[k0]? = some (.ptr 3 (ps.getD k0 0)) := by rw [List.getElem?_map, List.getElem?_eq_getElem hk0]; simp [List.getD, List.getElem?_eq_getElem hk0]
  have hq : ps.getD k0 0 < ((wrN t ds ps k0).map AV.pv).length := by
   rw [List.length_map, wrN_len]
   exact hp _ (by simp [List.getD, List.getElem?_eq_getElem hk0])
  refine sem_skip (seqK_n (sem_seq (sem_block (sem_seq (sem_region rfl ?_)))))
  refine step_r (c := 0 ≤ (k0 : Int) ∧ (k0 : Int) < ps.length) (v := .ptr 2 (0 + Int.toNat (k0 : Int) * 1)) rfl rfl ⟨by omega, by omega⟩ ?_
  refine step_load_boxA rfl rfl rfl rfl (show (ps.map (AV.ptr 3))[0 + Int.toNat (k0 : Int) * 1]? = some (.ptr 3 (ps.getD k0 0)) by rw [Int.toNat_natCast, Nat.zero_add, Nat.mul_one]; exact hg) rfl ?_
  refine step_r rfl rfl trivial (step_nil (seqK_n (sem_region rfl (step_r rfl rfl trivial (step_r rfl rfl trivial ?_)))))
  refine step_callM (Hin := [.row _ _ _, .box [.ref 0 _ _ _, .pv _]]) (H' := [(0, .row _ _ _), (1, .box [_, _]), (2, _), (3, _)]) (nx' := 4) [0, 1] rfl rfl rfl rfl (.inl rfl) rfl rfl rfl rfl (one_ok (takeN t k0)) rfl (by decide) rfl rfl rfl rfl rfl ?_
  refine step_r rfl rfl trivial ?_
  refine step_store_boxA (cs' := (wrN t ds ps (k0 + 1)).map AV.pv) (H' := [(0, _), (1, .box [_, _]), (2, _), (3, _)]) rfl rfl rfl rfl rfl rfl hq (by rw [wrN, List.map_set]; rfl) (.inl rfl) rfl ?_
  refine step_nil (blkK_n (seqK_n (sem_region rfl (step_bin rfl rfl rfl rfl rfl trivial (step_r rfl rfl trivial (step_nil ?_))))))
  exact lup_againT (k0 + 1) hk0 (by show ps.length - (k0 + 1) < ps.length - k0; omega) (Trans.loose ⟨⟨_, rfl, .inl rfl⟩, ⟨_, rfl, .inl rfl⟩, ⟨_, rfl, .inl rfl⟩, ⟨_, rfl, .inl (congrArg (fun n => (I n)) (wrapI (k := k0) (by omega)))⟩, trivial⟩ ⟨⟨_, rfl, .inl rfl⟩, ⟨_, rfl, .inl rfl⟩, ⟨_, rfl, .inl rfl⟩, ⟨_, rfl, .inl rfl⟩, trivial⟩)
 ·have g2 : ¬ ((k0 : Int) < ps.length) := of_decide_eq_false h2
  have hk0 : k0 = ps.length := by omega
  subst hk0
  refine sem_exit (seqK_e (lupK_e (blkK_t rfl ?_)))
  refine answersGN [] [] rfl trivial rfl trivial rfl rfl rfl rfl (by decide) rfl rfl ⟨⟨rfl, rfl⟩, ⟨rfl, rfl⟩, ⟨?_, ?_⟩, ⟨?_, ?_⟩, trivial⟩
  ·show _ = some (VObj.box (renL _ (ps.map (AV.ptr 3))))
   rw [renL_ptrs]; rfl
  ·exact belowL_ptrs 4 3 (by decide) ps
  ·show _ = some (VObj.box (renL _ (List.map AV.pv _)))
   rw [renL_pvs]; rfl
  ·exact belowL_pvs 4 _


theorem one_le (t : GTk) : (one t).2.left ≤ t.left ∧ (one t).2.all = t.all := by
  unfold one; split
  · exact ⟨Nat.le_refl _, rfl⟩
  · exact ⟨by show t.all.length - (t.pos + 1) ≤ t.all.length - t.pos; omega, rfl⟩
theorem flagR_le (t : GTk) : (flagR t).2.left ≤ t.left ∧ (flagR t).2.all = t.all := by
  have h := one_le t
  unfold flagR flagR_J6; dsimp only
  split
  · exact h
  · split <;> exact h
theorem takeN_le (t : GTk) : ∀ k, (takeN t k).left ≤ t.left ∧ (takeN t k).all = t.all
  | 0 => by rw [takeN]; exact ⟨Nat.le_refl _, rfl⟩
  | k + 1 => by
    rw [takeN]
    have h1 := one_le (takeN t k)
    have h2 := takeN_le t k
    exact ⟨Nat.le_trans h1.1 h2.1, h1.2.trans h2.2⟩
theorem takeq {n s : Int} {m : Nat} (h : ¬ (n > IntKind.i64.wrap ((m : Int).tdiv s))) (hs : 0 < s) (hm : m ≤ 16000000) : n ≤ m := by
  have h1 : (m : Int).tdiv s = (m : Int) / s := Int.tdiv_eq_ediv_of_nonneg (by omega)
  have h2 : (m : Int) / s ≤ m := Int.ediv_le_self _ (by omega)
  have h3 : 0 ≤ (m : Int) / s := Int.ediv_nonneg (by omega) (by omega)
  rw [h1, wrap_lt (by omega) (by omega)] at h
  omega

attribute [local irreducible] takeN tval flagR one
def effR (t : GTk) : GEffect × GTk :=
  ((⟨(tval t 0), (tval t 1), (tval t 2)⟩ : GEffect), (takeN t 3))
theorem effR_ok (t : GTk) : Ok Tryz.prog 79 [.ptr 1 0] [.row 3 1 (encI t.all), .box [.ref 0 1 t.pos t.left, B t.bad]] (aGEffect (effR t).1) [.row 3 1 (encI ((effR t).2).all), .box [.ref 0 1 ((effR t).2).pos ((effR t).2).left, B ((effR t).2).bad]] [] := by
 refine ok_of_sem Tryz.func79 rfl ?_
 show Walks Tryz.prog _ _ ⟨[(0, .ptr 1 0)], [(0, .row 3 1 (encI t.all)), (1, .box [.ref 0 1 t.pos t.left, B t.bad])], 2, [], 10, 2⟩
 refine sem_seq (sem_region rfl (step_n (o := .box [_, _, _]) (nx' := 3) rfl rfl rfl trivial (step_nil (seqK_n (sem_seq (sem_region rfl (step_r rfl rfl trivial (step_r rfl rfl (by decide) (step_r rfl rfl (by decide) (step_r rfl rfl (by decide) (step_n (o := .box [_, _, _]) (nx' := 4) rfl rfl rfl (by decide) ?_)))))))))))
 refine step_callM (Hin := [.row _ _ _, .box [.ref 0 _ _ _, .pv _], .box [.ptr 3 0, .ptr 3 1, .ptr 3 2], .box [.pv _, .pv _, .pv _]]) (H' := [(3, .box [_, _, _]), (2, .box [_, _, _]), (0, .row _ _ _), (1, .box [_, _])]) (nx' := 4) [0, 1, 3, 2] rfl rfl rfl rfl (.inl rfl) rfl rfl rfl rfl (into_ok t [i64 0, i64 0, i64 0] [0, 1, 2] rfl rfl) rfl (by decide) rfl rfl rfl rfl rfl ?_
 have p1 := takeN_le t 3
 refine step_nil (seqK_n (sem_seq (sem_region rfl (step_r (v := (.agg [_, _, _])) rfl rfl (Nat.le_of_ble_eq_true rfl) ?_))))
 refine step_storeB (H' := [(3, _), (2, .box [_, _, _]), (0, _), (1, _)]) rfl rfl rfl rfl rfl rfl (.inl rfl) rfl ?_
 refine step_nil (seqK_n (sem_ret ?_))
 have e2 : effR t = ((⟨(tval t 0), (tval t 1), (tval t 2)⟩ : GEffect), (takeN t 3)) := by
  unfold effR
  try dsimp only
  all_goals rfl
 rw [e2]
 exact answersGR [] [] rfl ⟨Nat.le_of_ble_eq_true rfl, trivial⟩ rfl (by (repeat' apply And.intro) <;> first | trivial | rfl | exact flat_len (fun _ => rfl) _ | exact encI_len _ | exact encB_len _ | exact encY_len _ | assumption) (rfl) rfl rfl rfl (by decide) rfl rfl ⟨⟨rfl, rfl⟩, ⟨rfl, rfl⟩, trivial⟩

theorem effR_le (t : GTk) : (effR t).2.left ≤ t.left ∧ (effR t).2.all = t.all := by unfold effR; exact takeN_le t _

def lineR (t : GTk) : GLine × GTk :=
  ((⟨(tval t 0), (tval t 1), (tval t 2), (tval t 3), (tval t 4)⟩ : GLine), (takeN t 5))
theorem lineR_ok (t : GTk) : Ok Tryz.prog 81 [.ptr 1 0] [.row 3 1 (encI t.all), .box [.ref 0 1 t.pos t.left, B t.bad]] (aGLine (lineR t).1) [.row 3 1 (encI ((lineR t).2).all), .box [.ref 0 1 ((lineR t).2).pos ((lineR t).2).left, B ((lineR t).2).bad]] [] := by
 refine ok_of_sem Tryz.func81 rfl ?_
 show Walks Tryz.prog _ _ ⟨[(0, .ptr 1 0)], [(0, .row 3 1 (encI t.all)), (1, .box [.ref 0 1 t.pos t.left, B t.bad])], 2, [], 12, 2⟩
 refine sem_seq (sem_region rfl (step_n (o := .box [_, _, _, _, _]) (nx' := 3) rfl rfl rfl trivial (step_nil (seqK_n (sem_seq (sem_region rfl (step_r rfl rfl trivial (step_r rfl rfl (by decide) (step_r rfl rfl (by decide) (step_r rfl rfl (by decide) (step_r rfl rfl (by decide) ?_)))))))))))
 refine step_r rfl rfl (by decide) (step_n (o := .box [_, _, _, _, _]) (nx' := 4) rfl rfl rfl (by decide) ?_)
 refine step_callM (Hin := [.row _ _ _, .box [.ref 0 _ _ _, .pv _], .box [.ptr 3 0, .ptr 3 1, .ptr 3 2, .ptr 3 3, .ptr 3 4], .box [.pv _, .pv _, .pv _, .pv _, .pv _]]) (H' := [(3, .box [_, _, _, _, _]), (2, .box [_, _, _, _, _]), (0, .row _ _ _), (1, .box [_, _])]) (nx' := 4) [0, 1, 3, 2] rfl rfl rfl rfl (.inl rfl) rfl rfl rfl rfl (into_ok t [i64 0, i64 0, i64 0, i64 0, i64 0] [0, 1, 2, 3, 4] rfl rfl) rfl (by decide) rfl rfl rfl rfl rfl ?_
 have p1 := takeN_le t 5
 refine step_nil (seqK_n (sem_seq (sem_region rfl (step_r (v := (.agg [_, _, _, _, _])) rfl rfl (Nat.le_of_ble_eq_true rfl) ?_))))
 refine step_storeB (H' := [(3, _), (2, .box [_, _, _, _, _]), (0, _), (1, _)]) rfl rfl rfl rfl rfl rfl (.inl rfl) rfl ?_
 refine step_nil (seqK_n (sem_ret ?_))
 have e2 : lineR t = ((⟨(tval t 0), (tval t 1), (tval t 2), (tval t 3), (tval t 4)⟩ : GLine), (takeN t 5)) := by
  unfold lineR
  try dsimp only
  all_goals rfl
 rw [e2]
 exact answersGR [] [] rfl ⟨Nat.le_of_ble_eq_true rfl, trivial⟩ rfl (by (repeat' apply And.intro) <;> first | trivial | rfl | exact flat_len (fun _ => rfl) _ | exact encI_len _ | exact encB_len _ | exact encY_len _ | assumption) (rfl) rfl rfl rfl (by decide) rfl rfl ⟨⟨rfl, rfl⟩, ⟨rfl, rfl⟩, trivial⟩

theorem lineR_le (t : GTk) : (lineR t).2.left ≤ t.left ∧ (lineR t).2.all = t.all := by unfold lineR; exact takeN_le t _

def prizeR (t : GTk) : GPrize × GTk :=
  ((⟨(tval t 0), (tval t 1)⟩ : GPrize), (takeN t 2))
theorem prizeR_ok (t : GTk) : Ok Tryz.prog 83 [.ptr 1 0] [.row 3 1 (encI t.all), .box [.ref 0 1 t.pos t.left, B t.bad]] (aGPrize (prizeR t).1) [.row 3 1 (encI ((prizeR t).2).all), .box [.ref 0 1 ((prizeR t).2).pos ((prizeR t).2).left, B ((prizeR t).2).bad]] [] := by
 refine ok_of_sem Tryz.func83 rfl ?_
 show Walks Tryz.prog _ _ ⟨[(0, .ptr 1 0)], [(0, .row 3 1 (encI t.all)), (1, .box [.ref 0 1 t.pos t.left, B t.bad])], 2, [], 9, 2⟩
 refine sem_seq (sem_region rfl (step_n (o := .box [_, _]) (nx' := 3) rfl rfl rfl trivial (step_nil (seqK_n (sem_seq (sem_region rfl (step_r rfl rfl trivial (step_r rfl rfl (by decide) (step_r rfl rfl (by decide) (step_n (o := .box [_, _]) (nx' := 4) rfl rfl rfl (by decide) ?_))))))))))
 refine step_callM (Hin := [.row _ _ _, .box [.ref 0 _ _ _, .pv _], .box [.ptr 3 0, .ptr 3 1], .box [.pv _, .pv _]]) (H' := [(3, .box [_, _]), (2, .box [_, _]), (0, .row _ _ _), (1, .box [_, _])]) (nx' := 4) [0, 1, 3, 2] rfl rfl rfl rfl (.inl rfl) rfl rfl rfl rfl (into_ok t [i64 0, i64 0] [0, 1] rfl rfl) rfl (by decide) rfl rfl rfl rfl rfl ?_
 have p1 := takeN_le t 2
 refine step_nil (seqK_n (sem_seq (sem_region rfl (step_r (v := (.agg [_, _])) rfl rfl (Nat.le_of_ble_eq_true rfl) ?_))))
 refine step_storeB (H' := [(3, _), (2, .box [_, _]), (0, _), (1, _)]) rfl rfl rfl rfl rfl rfl (.inl rfl) rfl ?_
 refine step_nil (seqK_n (sem_ret ?_))
 have e2 : prizeR t = ((⟨(tval t 0), (tval t 1)⟩ : GPrize), (takeN t 2)) := by
  unfold prizeR
  try dsimp only
  all_goals rfl
 rw [e2]
 exact answersGR [] [] rfl ⟨Nat.le_of_ble_eq_true rfl, trivial⟩ rfl (by (repeat' apply And.intro) <;> first | trivial | rfl | exact flat_len (fun _ => rfl) _ | exact encI_len _ | exact encB_len _ | exact encY_len _ | assumption) (rfl) rfl rfl rfl (by decide) rfl rfl ⟨⟨rfl, rfl⟩, ⟨rfl, rfl⟩, trivial⟩

theorem prizeR_le (t : GTk) : (prizeR t).2.left ≤ t.left ∧ (prizeR t).2.all = t.all := by unfold prizeR; exact takeN_le t _

def auraR (t : GTk) : GAura × GTk :=
  ((⟨(tval t 0), (tval t 1), (tval t 2), (tval t 3), (tval t 4), (tval t 5), (flagR (takeN t 6)).1⟩ : GAura), ((flagR (takeN t 6)).2))
theorem auraR_ok (t : GTk) : Ok Tryz.prog 41 [.ptr 1 0] [.row 3 1 (encI t.all), .box [.ref 0 1 t.pos t.left, B t.bad]] (aGAura (auraR t).1) [.row 3 1 (encI ((auraR t).2).all), .box [.ref 0 1 ((auraR t).2).pos ((auraR t).2).left, B ((auraR t).2).bad]] [] := by
 refine ok_of_sem Tryz.func41 rfl ?_
 show Walks Tryz.prog _ _ ⟨[(0, .ptr 1 0)], [(0, .row 3 1 (encI t.all)), (1, .box [.ref 0 1 t.pos t.left, B t.bad])], 2, [], 16, 2⟩
 refine sem_seq (sem_region rfl (step_n (o := .box [_, _, _, _, _, _, _]) (nx' := 3) rfl rfl rfl trivial (step_nil (seqK_n (sem_seq (sem_region rfl (step_r rfl rfl trivial (step_r rfl rfl (by decide) (step_r rfl rfl (by decide) (step_r rfl rfl (by decide) (step_r rfl rfl (by decide) ?_)))))))))))
 refine step_r rfl rfl (by decide) (step_r rfl rfl (by decide) (step_n (o := .box [_, _, _, _, _, _]) (nx' := 4) rfl rfl rfl (by decide) ?_))
 refine step_callM (Hin := [.row _ _ _, .box [.ref 0 _ _ _, .pv _], .box [.ptr 3 0, .ptr 3 1, .ptr 3 2, .ptr 3 3, .ptr 3 4, .ptr 3 5], .box [.pv _, .pv _, .pv _, .pv _, .pv _, .pv _, .pv _]]) (H' := [(3, .box [_, _, _, _, _, _]), (2, .box [_, _, _, _, _, _, _]), (0, .row _ _ _), (1, .box [_, _])]) (nx' := 4) [0, 1, 3, 2] rfl rfl rfl rfl (.inl rfl) rfl rfl rfl rfl (into_ok t [i64 0, i64 0, i64 0, i64 0, i64 0, i64 0, .bool false] [0, 1, 2, 3, 4, 5] rfl rfl) rfl (by decide) rfl rfl rfl rfl rfl ?_
 have p1 := takeN_le t 6
 refine step_nil (seqK_n (sem_seq (sem_region rfl (step_r rfl rfl trivial ?_))))
 refine step_callM (Hin := [.row _ _ _, .box [.ref 0 _ _ _, .pv _]]) (H' := [(3, .box [_, _, _, _, _, _]), (2, .box [_, _, _, _, _, _, _]), (0, .row _ _ _), (1, .box [_, _])]) (nx' := 4) [0, 1] rfl rfl rfl rfl (.inl rfl) rfl rfl rfl rfl (flagR_ok (takeN t 6)) rfl (by decide) rfl rfl rfl rfl rfl ?_
 have p2 := flagR_le (takeN t 6)
 refine step_r rfl rfl (by decide) ?_
 refine step_storeB (H' := [(3, _), (2, .box [_, _, _, _, _, _, _]), (0, _), (1, _)]) rfl rfl rfl rfl rfl rfl (.inl rfl) rfl ?_
 refine step_nil (seqK_n (sem_seq (sem_region rfl (step_r (v := (.agg [_, _, _, _, _, _, _])) rfl rfl (Nat.le_of_ble_eq_true rfl) ?_))))
 refine step_storeB (H' := [(3, _), (2, .box [_, _, _, _, _, _, _]), (0, _), (1, _)]) rfl rfl rfl rfl rfl rfl (.inl rfl) rfl ?_
 refine step_nil (seqK_n (sem_ret ?_))
 have e3 : auraR t = ((⟨(tval t 0), (tval t 1), (tval t 2), (tval t 3), (tval t 4), (tval t 5), (flagR (takeN t 6)).1⟩ : GAura), ((flagR (takeN t 6)).2)) := by
  unfold auraR
  try dsimp only
  all_goals rfl
 rw [e3]
 exact answersGR [] [] rfl ⟨Nat.le_of_ble_eq_true rfl, trivial⟩ rfl (by (repeat' apply And.intro) <;> first | trivial | rfl | exact flat_len (fun _ => rfl) _ | exact encI_len _ | exact encB_len _ | exact encY_len _ | assumption) (rfl) rfl rfl rfl (by decide) rfl rfl ⟨⟨rfl, rfl⟩, ⟨rfl, rfl⟩, trivial⟩

theorem auraR_le (t : GTk) : (auraR t).2.left ≤ t.left ∧ (auraR t).2.all = t.all := by unfold auraR; exact ⟨Nat.le_trans (flagR_le _).1 (takeN_le t 6).1, (flagR_le _).2.trans (takeN_le t 6).2⟩

def takeE_L0 : Nat → Nat → (List GEffect) → GTk → (List GEffect) × GTk
  | 0, k0, out0, o10 => (out0, o10)
  | n_ + 1, k0, out0, o10 => takeE_L0 n_ (k0 + 1) (out0 ++ [((effR o10).1)]) ((effR o10).2)
def takeE (t : GTk) : (List GEffect) × GTk :=
  if ((one t).2).bad = true then ([], (⟨((one t).2).all, ((one t).2).pos, true⟩ : GTk)) else if ((one t).1 : Int) < 0 then ([], (⟨((one t).2).all, ((one t).2).pos, true⟩ : GTk)) else if ((one t).1 : Int) > (IntKind.i64.wrap ((((one t).2).left : Int).tdiv 3)) then ([], (⟨((one t).2).all, ((one t).2).pos, true⟩ : GTk)) else (match takeE_L0 (((one t).1.toNat) - 0) 0 ([]) ((one t).2) with
    | (out_0, o1_0) => (out_0, o1_0))
theorem takeE_ok (t : GTk) (hT : t.left ≤ 16000000) : Ok Tryz.prog 78 [.ptr 1 0, I 3, .bnd 79 1 [.ptr 1 0]] [.row 3 1 (encI t.all), .box [.ref 0 1 t.pos t.left, B t.bad]] (.ref 2 3 0 (takeE t).1.length) [.row 3 1 (encI ((takeE t).2).all), .box [.ref 0 1 ((takeE t).2).pos ((takeE t).2).left, B ((takeE t).2).bad], .row 71 3 ((takeE t).1.flatMap encGEffect)] [] := by
 have h1t := one_le t
 refine ok_of_sem Tryz.func78 rfl ?_
 show Walks Tryz.prog _ _ ⟨[(0, .ptr 1 0), (1, I 3), (2, .bnd 79 1 [.ptr 1 0])], [(0, .row 3 1 (encI t.all)), (1, .box [.ref 0 1 t.pos t.left, B t.bad])], 2, [], 43, 2⟩
 refine sem_seq (sem_region rfl (step_n (nx' := 3) rfl rfl rfl trivial (step_nil (seqK_n (sem_seq (sem_region rfl (step_r rfl rfl trivial ?_)))))))
 refine step_callM (Hin := [.row _ _ _, .box [.ref 0 _ _ _, .pv _]]) (H' := [(2, .row _ _ _), (0, .row _ _ _), (1, .box [_, _])]) (nx' := 3) [0, 1] rfl rfl rfl rfl (.inl rfl) rfl rfl rfl rfl (one_ok t) rfl (by decide) rfl rfl rfl rfl rfl ?_
 refine step_r rfl rfl trivial (step_nil (seqK_n (sem_seq (sem_seq (sem_region rfl (step_r rfl rfl trivial (step_r rfl rfl trivial (step_r rfl rfl (by decide) (step_r rfl rfl trivial (step_r rfl rfl trivial ?_))))))))))
 refine step_gs rfl (fun h3 => ?_) (fun h3 => ?_)
 ·have g3 : ((one t).2).bad = true := h3
  refine step_g0 rfl h3 rfl (step_g0 rfl h3 rfl (step_pickT rfl h3 rfl rfl (step_r rfl rfl trivial (step_gf rfl rfl (step_gf rfl rfl (step_gf rfl rfl (step_gf rfl rfl (step_gf rfl rfl (step_gf rfl rfl (step_gf rfl rfl (step_gf rfl rfl ?_)))))))))))
  refine step_gf rfl rfl (step_r rfl rfl trivial (step_nil (seqK_n (sem_condT rfl (sem_seq (sem_region rfl (step_r rfl rfl trivial (step_r rfl rfl trivial (step_r rfl rfl (by decide) ?_)))))))))
  refine step_storeB (H' := [(2, _), (0, _), (1, .box [_, _])]) rfl rfl rfl rfl rfl rfl (.inl rfl) rfl ?_
  refine step_nil (seqK_n (sem_seq (sem_region rfl (step_n (nx' := 4) rfl rfl rfl trivial (step_nil (seqK_n (sem_ret (seqK_r ?_))))))))
  have e4 : takeE t = ([], (⟨((one t).2).all, ((one t).2).pos, true⟩ : GTk)) := by
   unfold takeE
   try dsimp only
   rewrite [if_pos g3]
   all_goals rfl
  rw [e4]
  exact answersGR [] [3] rfl ⟨trivial, trivial⟩ rfl (by (repeat' apply And.intro) <;> first | trivial | rfl | exact flat_len (fun _ => rfl) _ | exact encI_len _ | exact encB_len _ | exact encY_len _ | assumption) (rfl) rfl rfl rfl (by decide) rfl rfl ⟨⟨rfl, rfl⟩, ⟨rfl, rfl⟩, ⟨rfl, rfl⟩, trivial⟩
 ·have g3 : ¬ (((one t).2).bad = true) := boo_f h3
  refine step_g1 rfl h3 (step_r rfl rfl trivial (step_g1 rfl h3 (step_bin rfl rfl rfl rfl rfl trivial (step_pickF rfl h3 rfl rfl (step_r rfl rfl trivial ?_)))))
  refine step_gs rfl (fun h6 => ?_) (fun h6 => ?_)
  ·have g6 : ((one t).1 : Int) < 0 := of_decide_eq_true h6
   refine step_g0 rfl h6 rfl (step_g0 rfl h6 rfl (step_g0 rfl h6 rfl (step_g0 rfl h6 rfl (step_g0 rfl h6 rfl (step_g0 rfl h6 rfl (step_g0 rfl h6 rfl (step_g0 rfl h6 rfl (step_g0 rfl h6 rfl (step_pickT rfl h6 rfl rfl (step_nil (seqK_n ?_)))))))))))
   refine sem_condT rfl (sem_seq (sem_region rfl (step_r rfl rfl trivial (step_r rfl rfl trivial (step_r rfl rfl (by decide) ?_)))))
   refine step_storeB (H' := [(2, _), (0, _), (1, .box [_, _])]) rfl rfl rfl rfl rfl rfl (.inl rfl) rfl ?_
   refine step_nil (seqK_n (sem_seq (sem_region rfl (step_n (nx' := 4) rfl rfl rfl trivial (step_nil (seqK_n (sem_ret (seqK_r ?_))))))))
   have e7 : takeE t = ([], (⟨((one t).2).all, ((one t).2).pos, true⟩ : GTk)) := by
    unfold takeE
    try dsimp only
    rewrite [if_neg g3, if_pos g6]
    all_goals rfl
   rw [e7]
   exact answersGR [] [3] rfl ⟨trivial, trivial⟩ rfl (by (repeat' apply And.intro) <;> first | trivial | rfl | exact flat_len (fun _ => rfl) _ | exact encI_len _ | exact encB_len _ | exact encY_len _ | assumption) (rfl) rfl rfl rfl (by decide) rfl rfl ⟨⟨rfl, rfl⟩, ⟨rfl, rfl⟩, ⟨rfl, rfl⟩, trivial⟩
  ·have g6 : ¬ (((one t).1 : Int) < 0) := of_decide_eq_false h6
   refine step_g1 rfl h6 (step_r rfl rfl trivial (step_g1 rfl h6 (step_r rfl rfl trivial (step_g1 rfl h6 (step_r rfl rfl trivial (step_g1 rfl h6 (step_r rfl rfl (by decide) (step_g1 rfl h6 (step_r rfl rfl trivial (step_g1 rfl h6 (step_r rfl rfl trivial ?_)))))))))))
   refine step_g1 rfl h6 (step_r rfl rfl trivial (step_g1 rfl h6 ?_))
   refine step_bin rfl rfl rfl rfl rfl (by first | decide | omega | (show (0 : Int) ≤ IntKind.i64.wrap _; rw [wrap_lt (by omega) (by omega)]; omega) | simp_all) ?_
   refine step_g1 rfl h6 (step_bin rfl rfl rfl rfl rfl trivial (step_pickF rfl h6 rfl rfl (step_nil (seqK_n ?_))))
   refine sem_cond rfl (fun h10 => ?_) (fun h10 => ?_)
   ·have g10 : ((one t).1 : Int) > (IntKind.i64.wrap ((((one t).2).left : Int).tdiv 3)) := of_decide_eq_true h10
    refine sem_seq (sem_region rfl (step_r rfl rfl trivial (step_r rfl rfl trivial (step_r rfl rfl (by decide) ?_))))
    refine step_storeB (H' := [(2, _), (0, _), (1, .box [_, _])]) rfl rfl rfl rfl rfl rfl (.inl rfl) rfl ?_
    refine step_nil (seqK_n (sem_seq (sem_region rfl (step_n (nx' := 4) rfl rfl rfl trivial (step_nil (seqK_n (sem_ret (seqK_r ?_))))))))
    have e11 : takeE t = ([], (⟨((one t).2).all, ((one t).2).pos, true⟩ : GTk)) := by
     unfold takeE
     try dsimp only
     rewrite [if_neg g3, if_neg g6, if_pos g10]
     all_goals rfl
    rw [e11]
    exact answersGR [] [3] rfl ⟨trivial, trivial⟩ rfl (by (repeat' apply And.intro) <;> first | trivial | rfl | exact flat_len (fun _ => rfl) _ | exact encI_len _ | exact encB_len _ | exact encY_len _ | assumption) (rfl) rfl rfl rfl (by decide) rfl rfl ⟨⟨rfl, rfl⟩, ⟨rfl, rfl⟩, ⟨rfl, rfl⟩, trivial⟩
   ·have g10 : ¬ (((one t).1 : Int) > (IntKind.i64.wrap ((((one t).2).left : Int).tdiv 3))) := of_decide_eq_false h10
    refine sem_skip (seqK_n (sem_seq (sem_region rfl (step_n (nx' := 4) rfl rfl rfl trivial (step_nil (seqK_n (sem_seq (sem_seq (sem_region rfl (step_r rfl rfl trivial (step_r rfl rfl trivial ?_)))))))))))
    refine step_nil (seqK_n ?_)
    refine sem_cutW (fun w_ : (List GEffect) × GTk => match w_ with | (out_0, o1_0) => (⟨[(8, .ref 2 3 0 out_0.length)], [(0, .row 3 1 (encI o1_0.all)), (1, .box [.ref 0 1 o1_0.pos o1_0.left, B o1_0.bad]), (2, .row 71 3 (out_0.flatMap encGEffect))], 3, [], 43, 2⟩ : St)) (fun w_ => takeE_L0 (((one t).1.toNat) - 0) 0 ([]) ((one t).2) = w_) ?_ ?_
    ·refine sem_block ?_
     refine sem_loopT (fun w_ : Nat × (List GEffect) × GTk => match w_ with | (k0, out0, o10) => (⟨[(2, .bnd 79 1 [.ptr 1 0]), (8, .ref 2 3 0 out0.length), (33, I (one t).1), (34, I k0)], [(0, .row 3 1 (encI o10.all)), (1, .box [.ref 0 1 o10.pos o10.left, B o10.bad]), (2, .row 71 3 (out0.flatMap encGEffect))], 3, [], 43, 2⟩ : St)) (fun w_ : Nat × (List GEffect) × GTk => match w_ with | (k0, out0, o10) => takeE_L0 (((one t).1.toNat) - k0) k0 out0 o10 = takeE_L0 (((one t).1.toNat) - 0) 0 ([]) ((one t).2) ∧ k0 ≤ (one t).1.toNat ∧ out0.length ≤ k0 ∧ o10.left ≤ t.left) (fun w_ : Nat × (List GEffect) × GTk => match w_ with | (k0, out0, o10) => (one t).1.toNat - k0) (0, [], ((one t).2)) (⟨rfl, (by first | omega | (simp; omega)), ⟨Nat.zero_le _, (one_le t).1⟩⟩) ?_ (fun w_ hh_ => ?_)
     ·exact (Trans.ren [(2, 3), (3, 2)] (by decide +kernel) (by decide +kernel) rfl ⟨⟨rfl, rfl⟩, ⟨congrArg (fun n => some (AV.ref 3 3 0 n)) (by first | rfl | simp only [List.length_set] | simp | omega | (simp; omega)), rfl⟩, ⟨rfl, rfl⟩, ⟨rfl, rfl⟩, trivial⟩ ⟨⟨rfl, rfl, rfl⟩, ⟨rfl, rfl, rfl⟩, ⟨rfl, rfl, rfl⟩, trivial⟩ (by decide))
     obtain ⟨k0, out0, o10⟩ := w_
     obtain ⟨hI0, hb0, hv0⟩ := hh_
     show Walks Tryz.prog _ _ (⟨[(2, .bnd 79 1 [.ptr 1 0]), (8, .ref 2 3 0 out0.length), (33, I (one t).1), (34, I k0)], [(0, .row 3 1 (encI o10.all)), (1, .box [.ref 0 1 o10.pos o10.left, B o10.bad]), (2, .row 71 3 (out0.flatMap encGEffect))], 3, [], 43, 2⟩ : St)
     have hq0 := takeq (n := (one t).1) (m := (one t).2.left) (s := 3) (by assumption) (by decide) (by omega)
     refine sem_seq (sem_region rfl (step_bin rfl rfl rfl rfl rfl trivial (step_nil (seqK_n (sem_seq ?_)))))
     refine sem_cond rfl (fun h13 => ?_) (fun h13 => ?_)
     ·have g13 : (k0 : Int) < ((one t).1) := of_decide_eq_true h13
      have hm0 : (one t).1.toNat - k0 = ((one t).1.toNat - (k0 + 1)) + 1 := by omega
      refine sem_skip (seqK_n (sem_seq (sem_block (sem_region rfl (step_r rfl rfl trivial (step_r rfl rfl trivial ?_))))))
      refine step_callM (Hin := [.row _ _ _, .box [.ref 0 _ _ _, .pv _]]) (H' := [(0, .row _ _ _), (1, .box [_, _]), (2, .row _ _ _)]) (nx' := 3) [0, 1] rfl rfl rfl rfl (.inl rfl) rfl rfl rfl rfl (effR_ok o10) rfl (by decide) rfl rfl rfl rfl rfl ?_
      have p14 := effR_le o10
      refine step_n (o := .row _ _ [_, _, _]) (nx' := 4) rfl rfl rfl (by decide) ?_
      refine step_appendC (m := 1) (new := [_, _, _]) (cs' := (out0 ++ [((effR o10).1)]).flatMap encGEffect) (n' := (out0 ++ [((effR o10).1)]).length) (H' := [(3, .row _ _ _), (0, .row _ _ _), (1, .box [_, _]), (2, .row _ _ _)]) rfl rfl rfl (rfl) rfl rfl rfl rfl rfl rfl (flat_len (s := 3) (enc := encGEffect) (fun _ => rfl) out0) (rfl) (by first | decide | (unfold maxGrow; omega) | (unfold maxGrow; simp; omega) | (unfold maxGrow; simp only [List.length_append, List.length_take, List.length_drop, List.length_cons, List.length_nil, IntKind.wrap_i64] at *; omega)) (len_snoc out0 _) (((flat_snoc (enc := encGEffect) (l := out0) ((effR o10).1))).symm) (.inl rfl) rfl rfl (.keep rfl (.keep rfl (.keep rfl (.keep rfl .nil)))) (.keep rfl (.keep rfl (.keep rfl (.lose (v' := .undef) rfl (.keep rfl (.keep rfl (.lose (v' := .undef) rfl (.keep rfl (.keep rfl .nil))))))))) ?_
      refine step_r rfl rfl trivial (step_nil (blkK_n (seqK_n (sem_region rfl (step_bin rfl rfl rfl rfl rfl trivial (step_r rfl rfl trivial (step_nil ?_)))))))
      have e16 : takeE_L0 (((one t).1.toNat) - k0) k0 out0 o10 = takeE_L0 (((one t).1.toNat) - (k0 + 1)) (k0 + 1) (out0 ++ [((effR o10).1)]) ((effR o10).2) := by
       rewrite [hm0]
       rewrite [takeE_L0]
       try dsimp only
       all_goals rfl
      exact lup_againT (k0 + 1, (out0 ++ [((effR o10).1)]), ((effR o10).2)) ⟨e16.symm.trans hI0, (by omega), ⟨by simp only [List.length_append, List.length_cons, List.length_nil]; omega, by omega⟩⟩ (by show (one t).1.toNat - (k0 + 1) < (one t).1.toNat - k0; omega) (Trans.ren [] (by decide +kernel) (by decide +kernel) rfl ⟨⟨rfl, rfl⟩, ⟨rfl, rfl⟩, ⟨rfl, rfl⟩, ⟨congrArg (fun n => some (I n)) (wrapI (k := k0) (by first | omega | (simp; omega))), rfl⟩, trivial⟩ ⟨⟨rfl, rfl, rfl⟩, ⟨rfl, rfl, rfl⟩, ⟨rfl, rfl, rfl⟩, trivial⟩ (by decide))
     ·have g13 : ¬ ((k0 : Int) < ((one t).1)) := of_decide_eq_false h13
      have hm0 : (one t).1.toNat - k0 = 0 := by omega
      refine sem_exit (seqK_e (lupK_e (blkK_t rfl ?_)))
      have e17 : takeE_L0 (((one t).1.toNat) - 0) 0 ([]) ((one t).2) = (out0, o10) := by
       rewrite [← hI0, hm0]
       rewrite [takeE_L0]
       try dsimp only
       all_goals rfl
      exact cutW_n (out0, o10) e17 (Trans.ren [] (by decide +kernel) (by decide +kernel) rfl ⟨⟨rfl, rfl⟩, trivial⟩ ⟨⟨rfl, rfl, rfl⟩, ⟨rfl, rfl, rfl⟩, ⟨rfl, rfl, rfl⟩, trivial⟩ (by decide))
    ·rintro ⟨out_0, o1_0⟩ (hJ12 : takeE_L0 (((one t).1.toNat) - 0) 0 ([]) ((one t).2) = (out_0, o1_0))
     show seqK _ _ _ .normal (⟨[(8, .ref 2 3 0 out_0.length)], [(0, .row 3 1 (encI o1_0.all)), (1, .box [.ref 0 1 o1_0.pos o1_0.left, B o1_0.bad]), (2, .row 71 3 (out_0.flatMap encGEffect))], 3, [], 43, 2⟩ : St)
     refine seqK_n (sem_seq (sem_region rfl (step_r rfl rfl trivial (step_r rfl rfl trivial (step_nil (seqK_n (sem_ret ?_)))))))
     have e18 : takeE t = (out_0, o1_0) := by
      unfold takeE
      try dsimp only
      rewrite [if_neg g3, if_neg g6, if_neg g10, hJ12]
      try dsimp only
      all_goals rfl
     rw [e18]
     exact answersGR [] [2] rfl ⟨trivial, trivial⟩ rfl (by (repeat' apply And.intro) <;> first | trivial | rfl | exact flat_len (fun _ => rfl) _ | exact encI_len _ | exact encB_len _ | exact encY_len _ | assumption) (rfl) rfl rfl rfl (by decide) rfl rfl ⟨⟨rfl, rfl⟩, ⟨rfl, rfl⟩, ⟨rfl, rfl⟩, trivial⟩

theorem takeE_L0_le (N : Nat) (hN : N ≤ 16000000) : ∀ (m k : Nat) (out : List GEffect) (t : GTk), t.left ≤ N → (∀ x ∈ out, True) → (takeE_L0 m k out t).1.length = out.length + m ∧ ((takeE_L0 m k out t).2.left ≤ t.left ∧ (takeE_L0 m k out t).2.all = t.all) ∧ ∀ x ∈ (takeE_L0 m k out t).1, True
  | 0, k, out, t, _, ho => by rw [takeE_L0]; exact ⟨rfl, ⟨Nat.le_refl _, rfl⟩, ho⟩
  | m + 1, k, out, t, ht, ho => by
    rw [takeE_L0]
    have h1 := effR_le t
    obtain ⟨h2, h3, h4⟩ := takeE_L0_le N hN m (k + 1) (out ++ [(effR t).1]) (effR t).2 (by omega) (fun x hx => by
      rcases List.mem_append.1 hx with h | h
      · exact ho x h
      · simp only [List.mem_cons, List.not_mem_nil, or_false] at h; subst h; exact trivial)
    simp only [List.length_append, List.length_cons, List.length_nil] at h2
    exact ⟨by omega, ⟨by omega, h3.2.trans (h1.2)⟩, h4⟩
theorem takeE_le (t : GTk) (hT : t.left ≤ 16000000) : (takeE t).1.length ≤ t.left ∧ ((takeE t).2.left ≤ t.left ∧ (takeE t).2.all = t.all) := by
  have h1 := one_le t
  unfold takeE
  dsimp only
  by_cases h2 : (one t).2.bad = true
  · rw [if_pos h2]; exact ⟨Nat.zero_le _, h1⟩
  rw [if_neg h2]
  by_cases h3 : (one t).1 < 0
  · rw [if_pos h3]; exact ⟨Nat.zero_le _, h1⟩
  rw [if_neg h3]
  by_cases h4 : (one t).1 > (IntKind.i64.wrap (((one t).2.left : Int).tdiv 3))
  · rw [if_pos h4]; exact ⟨Nat.zero_le _, h1⟩
  rw [if_neg h4]
  have hq := takeq h4 (by decide) (by omega)
  obtain ⟨h5, h6, h7⟩ := takeE_L0_le t.left hT ((one t).1.toNat - 0) 0 [] (one t).2 h1.1 (fun x hx => by cases hx)
  simp only [List.length_nil] at h5
  refine ⟨?_, ⟨?_, h6.2.trans h1.2⟩⟩ <;> dsimp only <;> omega

def takeL_L0 : Nat → Nat → (List GLine) → GTk → (List GLine) × GTk
  | 0, k0, out0, o10 => (out0, o10)
  | n_ + 1, k0, out0, o10 => takeL_L0 n_ (k0 + 1) (out0 ++ [((lineR o10).1)]) ((lineR o10).2)
def takeL (t : GTk) : (List GLine) × GTk :=
  if ((one t).2).bad = true then ([], (⟨((one t).2).all, ((one t).2).pos, true⟩ : GTk)) else if ((one t).1 : Int) < 0 then ([], (⟨((one t).2).all, ((one t).2).pos, true⟩ : GTk)) else if ((one t).1 : Int) > (IntKind.i64.wrap ((((one t).2).left : Int).tdiv 5)) then ([], (⟨((one t).2).all, ((one t).2).pos, true⟩ : GTk)) else (match takeL_L0 (((one t).1.toNat) - 0) 0 ([]) ((one t).2) with
    | (out_0, o1_0) => (out_0, o1_0))
theorem takeL_ok (t : GTk) (hT : t.left ≤ 16000000) : Ok Tryz.prog 80 [.ptr 1 0, I 5, .bnd 81 1 [.ptr 1 0]] [.row 3 1 (encI t.all), .box [.ref 0 1 t.pos t.left, B t.bad]] (.ref 2 5 0 (takeL t).1.length) [.row 3 1 (encI ((takeL t).2).all), .box [.ref 0 1 ((takeL t).2).pos ((takeL t).2).left, B ((takeL t).2).bad], .row 73 5 ((takeL t).1.flatMap encGLine)] [] := by
 have h1t := one_le t
 refine ok_of_sem Tryz.func80 rfl ?_
 show Walks Tryz.prog _ _ ⟨[(0, .ptr 1 0), (1, I 5), (2, .bnd 81 1 [.ptr 1 0])], [(0, .row 3 1 (encI t.all)), (1, .box [.ref 0 1 t.pos t.left, B t.bad])], 2, [], 43, 2⟩
 refine sem_seq (sem_region rfl (step_n (nx' := 3) rfl rfl rfl trivial (step_nil (seqK_n (sem_seq (sem_region rfl (step_r rfl rfl trivial ?_)))))))
 refine step_callM (Hin := [.row _ _ _, .box [.ref 0 _ _ _, .pv _]]) (H' := [(2, .row _ _ _), (0, .row _ _ _), (1, .box [_, _])]) (nx' := 3) [0, 1] rfl rfl rfl rfl (.inl rfl) rfl rfl rfl rfl (one_ok t) rfl (by decide) rfl rfl rfl rfl rfl ?_
 refine step_r rfl rfl trivial (step_nil (seqK_n (sem_seq (sem_seq (sem_region rfl (step_r rfl rfl trivial (step_r rfl rfl trivial (step_r rfl rfl (by decide) (step_r rfl rfl trivial (step_r rfl rfl trivial ?_))))))))))
 refine step_gs rfl (fun h3 => ?_) (fun h3 => ?_)
 ·have g3 : ((one t).2).bad = true := h3
  refine step_g0 rfl h3 rfl (step_g0 rfl h3 rfl (step_pickT rfl h3 rfl rfl (step_r rfl rfl trivial (step_gf rfl rfl (step_gf rfl rfl (step_gf rfl rfl (step_gf rfl rfl (step_gf rfl rfl (step_gf rfl rfl (step_gf rfl rfl (step_gf rfl rfl ?_)))))))))))
  refine step_gf rfl rfl (step_r rfl rfl trivial (step_nil (seqK_n (sem_condT rfl (sem_seq (sem_region rfl (step_r rfl rfl trivial (step_r rfl rfl trivial (step_r rfl rfl (by decide) ?_)))))))))
  refine step_storeB (H' := [(2, _), (0, _), (1, .box [_, _])]) rfl rfl rfl rfl rfl rfl (.inl rfl) rfl ?_
  refine step_nil (seqK_n (sem_seq (sem_region rfl (step_n (nx' := 4) rfl rfl rfl trivial (step_nil (seqK_n (sem_ret (seqK_r ?_))))))))
  have e4 : takeL t = ([], (⟨((one t).2).all, ((one t).2).pos, true⟩ : GTk)) := by
   unfold takeL
   try dsimp only
   rewrite [if_pos g3]
   all_goals rfl
  rw [e4]
  exact answersGR [] [3] rfl ⟨trivial, trivial⟩ rfl (by (repeat' apply And.intro) <;> first | trivial | rfl | exact flat_len (fun _ => rfl) _ | exact encI_len _ | exact encB_len _ | exact encY_len _ | assumption) (rfl) rfl rfl rfl (by decide) rfl rfl ⟨⟨rfl, rfl⟩, ⟨rfl, rfl⟩, ⟨rfl, rfl⟩, trivial⟩
 ·have g3 : ¬ (((one t).2).bad = true) := boo_f h3
  refine step_g1 rfl h3 (step_r rfl rfl trivial (step_g1 rfl h3 (step_bin rfl rfl rfl rfl rfl trivial (step_pickF rfl h3 rfl rfl (step_r rfl rfl trivial ?_)))))
  refine step_gs rfl (fun h6 => ?_) (fun h6 => ?_)
  ·have g6 : ((one t).1 : Int) < 0 := of_decide_eq_true h6
   refine step_g0 rfl h6 rfl (step_g0 rfl h6 rfl (step_g0 rfl h6 rfl (step_g0 rfl h6 rfl (step_g0 rfl h6 rfl (step_g0 rfl h6 rfl (step_g0 rfl h6 rfl (step_g0 rfl h6 rfl (step_g0 rfl h6 rfl (step_pickT rfl h6 rfl rfl (step_nil (seqK_n ?_)))))))))))
   refine sem_condT rfl (sem_seq (sem_region rfl (step_r rfl rfl trivial (step_r rfl rfl trivial (step_r rfl rfl (by decide) ?_)))))
   refine step_storeB (H' := [(2, _), (0, _), (1, .box [_, _])]) rfl rfl rfl rfl rfl rfl (.inl rfl) rfl ?_
   refine step_nil (seqK_n (sem_seq (sem_region rfl (step_n (nx' := 4) rfl rfl rfl trivial (step_nil (seqK_n (sem_ret (seqK_r ?_))))))))
   have e7 : takeL t = ([], (⟨((one t).2).all, ((one t).2).pos, true⟩ : GTk)) := by
    unfold takeL
    try dsimp only
    rewrite [if_neg g3, if_pos g6]
    all_goals rfl
   rw [e7]
   exact answersGR [] [3] rfl ⟨trivial, trivial⟩ rfl (by (repeat' apply And.intro) <;> first | trivial | rfl | exact flat_len (fun _ => rfl) _ | exact encI_len _ | exact encB_len _ | exact encY_len _ | assumption) (rfl) rfl rfl rfl (by decide) rfl rfl ⟨⟨rfl, rfl⟩, ⟨rfl, rfl⟩, ⟨rfl, rfl⟩, trivial⟩
  ·have g6 : ¬ (((one t).1 : Int) < 0) := of_decide_eq_false h6
   refine step_g1 rfl h6 (step_r rfl rfl trivial (step_g1 rfl h6 (step_r rfl rfl trivial (step_g1 rfl h6 (step_r rfl rfl trivial (step_g1 rfl h6 (step_r rfl rfl (by decide) (step_g1 rfl h6 (step_r rfl rfl trivial (step_g1 rfl h6 (step_r rfl rfl trivial ?_)))))))))))
   refine step_g1 rfl h6 (step_r rfl rfl trivial (step_g1 rfl h6 ?_))
   refine step_bin rfl rfl rfl rfl rfl (by first | decide | omega | (show (0 : Int) ≤ IntKind.i64.wrap _; rw [wrap_lt (by omega) (by omega)]; omega) | simp_all) ?_
   refine step_g1 rfl h6 (step_bin rfl rfl rfl rfl rfl trivial (step_pickF rfl h6 rfl rfl (step_nil (seqK_n ?_))))
   refine sem_cond rfl (fun h10 => ?_) (fun h10 => ?_)
   ·have g10 : ((one t).1 : Int) > (IntKind.i64.wrap ((((one t).2).left : Int).tdiv 5)) := of_decide_eq_true h10
    refine sem_seq (sem_region rfl (step_r rfl rfl trivial (step_r rfl rfl trivial (step_r rfl rfl (by decide) ?_))))
    refine step_storeB (H' := [(2, _), (0, _), (1, .box [_, _])]) rfl rfl rfl rfl rfl rfl (.inl rfl) rfl ?_
    refine step_nil (seqK_n (sem_seq (sem_region rfl (step_n (nx' := 4) rfl rfl rfl trivial (step_nil (seqK_n (sem_ret (seqK_r ?_))))))))
    have e11 : takeL t = ([], (⟨((one t).2).all, ((one t).2).pos, true⟩ : GTk)) := by
     unfold takeL
     try dsimp only
     rewrite [if_neg g3, if_neg g6, if_pos g10]
     all_goals rfl
    rw [e11]
    exact answersGR [] [3] rfl ⟨trivial, trivial⟩ rfl (by (repeat' apply And.intro) <;> first | trivial | rfl | exact flat_len (fun _ => rfl) _ | exact encI_len _ | exact encB_len _ | exact encY_len _ | assumption) (rfl) rfl rfl rfl (by decide) rfl rfl ⟨⟨rfl, rfl⟩, ⟨rfl, rfl⟩, ⟨rfl, rfl⟩, trivial⟩
   ·have g10 : ¬ (((one t).1 : Int) > (IntKind.i64.wrap ((((one t).2).left : Int).tdiv 5))) := of_decide_eq_false h10
    refine sem_skip (seqK_n (sem_seq (sem_region rfl (step_n (nx' := 4) rfl rfl rfl trivial (step_nil (seqK_n (sem_seq (sem_seq (sem_region rfl (step_r rfl rfl trivial (step_r rfl rfl trivial ?_)))))))))))
    refine step_nil (seqK_n ?_)
    refine sem_cutW (fun w_ : (List GLine) × GTk => match w_ with | (out_0, o1_0) => (⟨[(8, .ref 2 5 0 out_0.length)], [(0, .row 3 1 (encI o1_0.all)), (1, .box [.ref 0 1 o1_0.pos o1_0.left, B o1_0.bad]), (2, .row 73 5 (out_0.flatMap encGLine))], 3, [], 43, 2⟩ : St)) (fun w_ => takeL_L0 (((one t).1.toNat) - 0) 0 ([]) ((one t).2) = w_) ?_ ?_
    ·refine sem_block ?_
     refine sem_loopT (fun w_ : Nat × (List GLine) × GTk => match w_ with | (k0, out0, o10) => (⟨[(2, .bnd 81 1 [.ptr 1 0]), (8, .ref 2 5 0 out0.length), (33, I (one t).1), (34, I k0)], [(0, .row 3 1 (encI o10.all)), (1, .box [.ref 0 1 o10.pos o10.left, B o10.bad]), (2, .row 73 5 (out0.flatMap encGLine))], 3, [], 43, 2⟩ : St)) (fun w_ : Nat × (List GLine) × GTk => match w_ with | (k0, out0, o10) => takeL_L0 (((one t).1.toNat) - k0) k0 out0 o10 = takeL_L0 (((one t).1.toNat) - 0) 0 ([]) ((one t).2) ∧ k0 ≤ (one t).1.toNat ∧ out0.length ≤ k0 ∧ o10.left ≤ t.left) (fun w_ : Nat × (List GLine) × GTk => match w_ with | (k0, out0, o10) => (one t).1.toNat - k0) (0, [], ((one t).2)) (⟨rfl, (by first | omega | (simp; omega)), ⟨Nat.zero_le _, (one_le t).1⟩⟩) ?_ (fun w_ hh_ => ?_)
     ·exact (Trans.ren [(2, 3), (3, 2)] (by decide +kernel) (by decide +kernel) rfl ⟨⟨rfl, rfl⟩, ⟨congrArg (fun n => some (AV.ref 3 5 0 n)) (by first | rfl | simp only [List.length_set] | simp | omega | (simp; omega)), rfl⟩, ⟨rfl, rfl⟩, ⟨rfl, rfl⟩, trivial⟩ ⟨⟨rfl, rfl, rfl⟩, ⟨rfl, rfl, rfl⟩, ⟨rfl, rfl, rfl⟩, trivial⟩ (by decide))
     obtain ⟨k0, out0, o10⟩ := w_
     obtain ⟨hI0, hb0, hv0⟩ := hh_
     show Walks Tryz.prog _ _ (⟨[(2, .bnd 81 1 [.ptr 1 0]), (8, .ref 2 5 0 out0.length), (33, I (one t).1), (34, I k0)], [(0, .row 3 1 (encI o10.all)), (1, .box [.ref 0 1 o10.pos o10.left, B o10.bad]), (2, .row 73 5 (out0.flatMap encGLine))], 3, [], 43, 2⟩ : St)
     have hq0 := takeq (n := (one t).1) (m := (one t).2.left) (s := 5) (by assumption) (by decide) (by omega)
     refine sem_seq (sem_region rfl (step_bin rfl rfl rfl rfl rfl trivial (step_nil (seqK_n (sem_seq ?_)))))
     refine sem_cond rfl (fun h13 => ?_) (fun h13 => ?_)
     ·have g13 : (k0 : Int) < ((one t).1) := of_decide_eq_true h13
      have hm0 : (one t).1.toNat - k0 = ((one t).1.toNat - (k0 + 1)) + 1 := by omega
      refine sem_skip (seqK_n (sem_seq (sem_block (sem_region rfl (step_r rfl rfl trivial (step_r rfl rfl trivial ?_))))))
      refine step_callM (Hin := [.row _ _ _, .box [.ref 0 _ _ _, .pv _]]) (H' := [(0, .row _ _ _), (1, .box [_, _]), (2, .row _ _ _)]) (nx' := 3) [0, 1] rfl rfl rfl rfl (.inl rfl) rfl rfl rfl rfl (lineR_ok o10) rfl (by decide) rfl rfl rfl rfl rfl ?_
      have p14 := lineR_le o10
      refine step_n (o := .row _ _ [_, _, _, _, _]) (nx' := 4) rfl rfl rfl (by decide) ?_
      refine step_appendC (m := 1) (new := [_, _, _, _, _]) (cs' := (out0 ++ [((lineR o10).1)]).flatMap encGLine) (n' := (out0 ++ [((lineR o10).1)]).length) (H' := [(3, .row _ _ _), (0, .row _ _ _), (1, .box [_, _]), (2, .row _ _ _)]) rfl rfl rfl (rfl) rfl rfl rfl rfl rfl rfl (flat_len (s := 5) (enc := encGLine) (fun _ => rfl) out0) (rfl) (by first | decide | (unfold maxGrow; omega) | (unfold maxGrow; simp; omega) | (unfold maxGrow; simp only [List.length_append, List.length_take, List.length_drop, List.length_cons, List.length_nil, IntKind.wrap_i64] at *; omega)) (len_snoc out0 _) (((flat_snoc (enc := encGLine) (l := out0) ((lineR o10).1))).symm) (.inl rfl) rfl rfl (.keep rfl (.keep rfl (.keep rfl (.keep rfl .nil)))) (.keep rfl (.keep rfl (.keep rfl (.lose (v' := .undef) rfl (.keep rfl (.keep rfl (.lose (v' := .undef) rfl (.keep rfl (.keep rfl .nil))))))))) ?_
      refine step_r rfl rfl trivial (step_nil (blkK_n (seqK_n (sem_region rfl (step_bin rfl rfl rfl rfl rfl trivial (step_r rfl rfl trivial (step_nil ?_)))))))
      have e16 : takeL_L0 (((one t).1.toNat) - k0) k0 out0 o10 = takeL_L0 (((one t).1.toNat) - (k0 + 1)) (k0 + 1) (out0 ++ [((lineR o10).1)]) ((lineR o10).2) := by
       rewrite [hm0]
       rewrite [takeL_L0]
       try dsimp only
       all_goals rfl
      exact lup_againT (k0 + 1, (out0 ++ [((lineR o10).1)]), ((lineR o10).2)) ⟨e16.symm.trans hI0, (by omega), ⟨by simp only [List.length_append, List.length_cons, List.length_nil]; omega, by omega⟩⟩ (by show (one t).1.toNat - (k0 + 1) < (one t).1.toNat - k0; omega) (Trans.ren [] (by decide +kernel) (by decide +kernel) rfl ⟨⟨rfl, rfl⟩, ⟨rfl, rfl⟩, ⟨rfl, rfl⟩, ⟨congrArg (fun n => some (I n)) (wrapI (k := k0) (by first | omega | (simp; omega))), rfl⟩, trivial⟩ ⟨⟨rfl, rfl, rfl⟩, ⟨rfl, rfl, rfl⟩, ⟨rfl, rfl, rfl⟩, trivial⟩ (by decide))
     ·have g13 : ¬ ((k0 : Int) < ((one t).1)) := of_decide_eq_false h13
      have hm0 : (one t).1.toNat - k0 = 0 := by omega
      refine sem_exit (seqK_e (lupK_e (blkK_t rfl ?_)))
      have e17 : takeL_L0 (((one t).1.toNat) - 0) 0 ([]) ((one t).2) = (out0, o10) := by
       rewrite [← hI0, hm0]
       rewrite [takeL_L0]
       try dsimp only
       all_goals rfl
      exact cutW_n (out0, o10) e17 (Trans.ren [] (by decide +kernel) (by decide +kernel) rfl ⟨⟨rfl, rfl⟩, trivial⟩ ⟨⟨rfl, rfl, rfl⟩, ⟨rfl, rfl, rfl⟩, ⟨rfl, rfl, rfl⟩, trivial⟩ (by decide))
    ·rintro ⟨out_0, o1_0⟩ (hJ12 : takeL_L0 (((one t).1.toNat) - 0) 0 ([]) ((one t).2) = (out_0, o1_0))
     show seqK _ _ _ .normal (⟨[(8, .ref 2 5 0 out_0.length)], [(0, .row 3 1 (encI o1_0.all)), (1, .box [.ref 0 1 o1_0.pos o1_0.left, B o1_0.bad]), (2, .row 73 5 (out_0.flatMap encGLine))], 3, [], 43, 2⟩ : St)
     refine seqK_n (sem_seq (sem_region rfl (step_r rfl rfl trivial (step_r rfl rfl trivial (step_nil (seqK_n (sem_ret ?_)))))))
     have e18 : takeL t = (out_0, o1_0) := by
      unfold takeL
      try dsimp only
      rewrite [if_neg g3, if_neg g6, if_neg g10, hJ12]
      try dsimp only
      all_goals rfl
     rw [e18]
     exact answersGR [] [2] rfl ⟨trivial, trivial⟩ rfl (by (repeat' apply And.intro) <;> first | trivial | rfl | exact flat_len (fun _ => rfl) _ | exact encI_len _ | exact encB_len _ | exact encY_len _ | assumption) (rfl) rfl rfl rfl (by decide) rfl rfl ⟨⟨rfl, rfl⟩, ⟨rfl, rfl⟩, ⟨rfl, rfl⟩, trivial⟩

theorem takeL_L0_le (N : Nat) (hN : N ≤ 16000000) : ∀ (m k : Nat) (out : List GLine) (t : GTk), t.left ≤ N → (∀ x ∈ out, True) → (takeL_L0 m k out t).1.length = out.length + m ∧ ((takeL_L0 m k out t).2.left ≤ t.left ∧ (takeL_L0 m k out t).2.all = t.all) ∧ ∀ x ∈ (takeL_L0 m k out t).1, True
  | 0, k, out, t, _, ho => by rw [takeL_L0]; exact ⟨rfl, ⟨Nat.le_refl _, rfl⟩, ho⟩
  | m + 1, k, out, t, ht, ho => by
    rw [takeL_L0]
    have h1 := lineR_le t
    obtain ⟨h2, h3, h4⟩ := takeL_L0_le N hN m (k + 1) (out ++ [(lineR t).1]) (lineR t).2 (by omega) (fun x hx => by
      rcases List.mem_append.1 hx with h | h
      · exact ho x h
      · simp only [List.mem_cons, List.not_mem_nil, or_false] at h; subst h; exact trivial)
    simp only [List.length_append, List.length_cons, List.length_nil] at h2
    exact ⟨by omega, ⟨by omega, h3.2.trans (h1.2)⟩, h4⟩
theorem takeL_le (t : GTk) (hT : t.left ≤ 16000000) : (takeL t).1.length ≤ t.left ∧ ((takeL t).2.left ≤ t.left ∧ (takeL t).2.all = t.all) := by
  have h1 := one_le t
  unfold takeL
  dsimp only
  by_cases h2 : (one t).2.bad = true
  · rw [if_pos h2]; exact ⟨Nat.zero_le _, h1⟩
  rw [if_neg h2]
  by_cases h3 : (one t).1 < 0
  · rw [if_pos h3]; exact ⟨Nat.zero_le _, h1⟩
  rw [if_neg h3]
  by_cases h4 : (one t).1 > (IntKind.i64.wrap (((one t).2.left : Int).tdiv 5))
  · rw [if_pos h4]; exact ⟨Nat.zero_le _, h1⟩
  rw [if_neg h4]
  have hq := takeq h4 (by decide) (by omega)
  obtain ⟨h5, h6, h7⟩ := takeL_L0_le t.left hT ((one t).1.toNat - 0) 0 [] (one t).2 h1.1 (fun x hx => by cases hx)
  simp only [List.length_nil] at h5
  refine ⟨?_, ⟨?_, h6.2.trans h1.2⟩⟩ <;> dsimp only <;> omega

def takeP_L0 : Nat → Nat → (List GPrize) → GTk → (List GPrize) × GTk
  | 0, k0, out0, o10 => (out0, o10)
  | n_ + 1, k0, out0, o10 => takeP_L0 n_ (k0 + 1) (out0 ++ [((prizeR o10).1)]) ((prizeR o10).2)
def takeP (t : GTk) : (List GPrize) × GTk :=
  if ((one t).2).bad = true then ([], (⟨((one t).2).all, ((one t).2).pos, true⟩ : GTk)) else if ((one t).1 : Int) < 0 then ([], (⟨((one t).2).all, ((one t).2).pos, true⟩ : GTk)) else if ((one t).1 : Int) > (IntKind.i64.wrap ((((one t).2).left : Int).tdiv 2)) then ([], (⟨((one t).2).all, ((one t).2).pos, true⟩ : GTk)) else (match takeP_L0 (((one t).1.toNat) - 0) 0 ([]) ((one t).2) with
    | (out_0, o1_0) => (out_0, o1_0))
theorem takeP_ok (t : GTk) (hT : t.left ≤ 16000000) : Ok Tryz.prog 82 [.ptr 1 0, I 2, .bnd 83 1 [.ptr 1 0]] [.row 3 1 (encI t.all), .box [.ref 0 1 t.pos t.left, B t.bad]] (.ref 2 2 0 (takeP t).1.length) [.row 3 1 (encI ((takeP t).2).all), .box [.ref 0 1 ((takeP t).2).pos ((takeP t).2).left, B ((takeP t).2).bad], .row 75 2 ((takeP t).1.flatMap encGPrize)] [] := by
 have h1t := one_le t
 refine ok_of_sem Tryz.func82 rfl ?_
 show Walks Tryz.prog _ _ ⟨[(0, .ptr 1 0), (1, I 2), (2, .bnd 83 1 [.ptr 1 0])], [(0, .row 3 1 (encI t.all)), (1, .box [.ref 0 1 t.pos t.left, B t.bad])], 2, [], 43, 2⟩
 refine sem_seq (sem_region rfl (step_n (nx' := 3) rfl rfl rfl trivial (step_nil (seqK_n (sem_seq (sem_region rfl (step_r rfl rfl trivial ?_)))))))
 refine step_callM (Hin := [.row _ _ _, .box [.ref 0 _ _ _, .pv _]]) (H' := [(2, .row _ _ _), (0, .row _ _ _), (1, .box [_, _])]) (nx' := 3) [0, 1] rfl rfl rfl rfl (.inl rfl) rfl rfl rfl rfl (one_ok t) rfl (by decide) rfl rfl rfl rfl rfl ?_
 refine step_r rfl rfl trivial (step_nil (seqK_n (sem_seq (sem_seq (sem_region rfl (step_r rfl rfl trivial (step_r rfl rfl trivial (step_r rfl rfl (by decide) (step_r rfl rfl trivial (step_r rfl rfl trivial ?_))))))))))
 refine step_gs rfl (fun h3 => ?_) (fun h3 => ?_)
 ·have g3 : ((one t).2).bad = true := h3
  refine step_g0 rfl h3 rfl (step_g0 rfl h3 rfl (step_pickT rfl h3 rfl rfl (step_r rfl rfl trivial (step_gf rfl rfl (step_gf rfl rfl (step_gf rfl rfl (step_gf rfl rfl (step_gf rfl rfl (step_gf rfl rfl (step_gf rfl rfl (step_gf rfl rfl ?_)))))))))))
  refine step_gf rfl rfl (step_r rfl rfl trivial (step_nil (seqK_n (sem_condT rfl (sem_seq (sem_region rfl (step_r rfl rfl trivial (step_r rfl rfl trivial (step_r rfl rfl (by decide) ?_)))))))))
  refine step_storeB (H' := [(2, _), (0, _), (1, .box [_, _])]) rfl rfl rfl rfl rfl rfl (.inl rfl) rfl ?_
  refine step_nil (seqK_n (sem_seq (sem_region rfl (step_n (nx' := 4) rfl rfl rfl trivial (step_nil (seqK_n (sem_ret (seqK_r ?_))))))))
  have e4 : takeP t = ([], (⟨((one t).2).all, ((one t).2).pos, true⟩ : GTk)) := by
   unfold takeP
   try dsimp only
   rewrite [if_pos g3]
   all_goals rfl
  rw [e4]
  exact answersGR [] [3] rfl ⟨trivial, trivial⟩ rfl (by (repeat' apply And.intro) <;> first | trivial | rfl | exact flat_len (fun _ => rfl) _ | exact encI_len _ | exact encB_len _ | exact encY_len _ | assumption) (rfl) rfl rfl rfl (by decide) rfl rfl ⟨⟨rfl, rfl⟩, ⟨rfl, rfl⟩, ⟨rfl, rfl⟩, trivial⟩
 ·have g3 : ¬ (((one t).2).bad = true) := boo_f h3
  refine step_g1 rfl h3 (step_r rfl rfl trivial (step_g1 rfl h3 (step_bin rfl rfl rfl rfl rfl trivial (step_pickF rfl h3 rfl rfl (step_r rfl rfl trivial ?_)))))
  refine step_gs rfl (fun h6 => ?_) (fun h6 => ?_)
  ·have g6 : ((one t).1 : Int) < 0 := of_decide_eq_true h6
   refine step_g0 rfl h6 rfl (step_g0 rfl h6 rfl (step_g0 rfl h6 rfl (step_g0 rfl h6 rfl (step_g0 rfl h6 rfl (step_g0 rfl h6 rfl (step_g0 rfl h6 rfl (step_g0 rfl h6 rfl (step_g0 rfl h6 rfl (step_pickT rfl h6 rfl rfl (step_nil (seqK_n ?_)))))))))))
   refine sem_condT rfl (sem_seq (sem_region rfl (step_r rfl rfl trivial (step_r rfl rfl trivial (step_r rfl rfl (by decide) ?_)))))
   refine step_storeB (H' := [(2, _), (0, _), (1, .box [_, _])]) rfl rfl rfl rfl rfl rfl (.inl rfl) rfl ?_
   refine step_nil (seqK_n (sem_seq (sem_region rfl (step_n (nx' := 4) rfl rfl rfl trivial (step_nil (seqK_n (sem_ret (seqK_r ?_))))))))
   have e7 : takeP t = ([], (⟨((one t).2).all, ((one t).2).pos, true⟩ : GTk)) := by
    unfold takeP
    try dsimp only
    rewrite [if_neg g3, if_pos g6]
    all_goals rfl
   rw [e7]
   exact answersGR [] [3] rfl ⟨trivial, trivial⟩ rfl (by (repeat' apply And.intro) <;> first | trivial | rfl | exact flat_len (fun _ => rfl) _ | exact encI_len _ | exact encB_len _ | exact encY_len _ | assumption) (rfl) rfl rfl rfl (by decide) rfl rfl ⟨⟨rfl, rfl⟩, ⟨rfl, rfl⟩, ⟨rfl, rfl⟩, trivial⟩
  ·have g6 : ¬ (((one t).1 : Int) < 0) := of_decide_eq_false h6
   refine step_g1 rfl h6 (step_r rfl rfl trivial (step_g1 rfl h6 (step_r rfl rfl trivial (step_g1 rfl h6 (step_r rfl rfl trivial (step_g1 rfl h6 (step_r rfl rfl (by decide) (step_g1 rfl h6 (step_r rfl rfl trivial (step_g1 rfl h6 (step_r rfl rfl trivial ?_)))))))))))
   refine step_g1 rfl h6 (step_r rfl rfl trivial (step_g1 rfl h6 ?_))
   refine step_bin rfl rfl rfl rfl rfl (by first | decide | omega | (show (0 : Int) ≤ IntKind.i64.wrap _; rw [wrap_lt (by omega) (by omega)]; omega) | simp_all) ?_
   refine step_g1 rfl h6 (step_bin rfl rfl rfl rfl rfl trivial (step_pickF rfl h6 rfl rfl (step_nil (seqK_n ?_))))
   refine sem_cond rfl (fun h10 => ?_) (fun h10 => ?_)
   ·have g10 : ((one t).1 : Int) > (IntKind.i64.wrap ((((one t).2).left : Int).tdiv 2)) := of_decide_eq_true h10
    refine sem_seq (sem_region rfl (step_r rfl rfl trivial (step_r rfl rfl trivial (step_r rfl rfl (by decide) ?_))))
    refine step_storeB (H' := [(2, _), (0, _), (1, .box [_, _])]) rfl rfl rfl rfl rfl rfl (.inl rfl) rfl ?_
    refine step_nil (seqK_n (sem_seq (sem_region rfl (step_n (nx' := 4) rfl rfl rfl trivial (step_nil (seqK_n (sem_ret (seqK_r ?_))))))))
    have e11 : takeP t = ([], (⟨((one t).2).all, ((one t).2).pos, true⟩ : GTk)) := by
     unfold takeP
     try dsimp only
     rewrite [if_neg g3, if_neg g6, if_pos g10]
     all_goals rfl
    rw [e11]
    exact answersGR [] [3] rfl ⟨trivial, trivial⟩ rfl (by (repeat' apply And.intro) <;> first | trivial | rfl | exact flat_len (fun _ => rfl) _ | exact encI_len _ | exact encB_len _ | exact encY_len _ | assumption) (rfl) rfl rfl rfl (by decide) rfl rfl ⟨⟨rfl, rfl⟩, ⟨rfl, rfl⟩, ⟨rfl, rfl⟩, trivial⟩
   ·have g10 : ¬ (((one t).1 : Int) > (IntKind.i64.wrap ((((one t).2).left : Int).tdiv 2))) := of_decide_eq_false h10
    refine sem_skip (seqK_n (sem_seq (sem_region rfl (step_n (nx' := 4) rfl rfl rfl trivial (step_nil (seqK_n (sem_seq (sem_seq (sem_region rfl (step_r rfl rfl trivial (step_r rfl rfl trivial ?_)))))))))))
    refine step_nil (seqK_n ?_)
    refine sem_cutW (fun w_ : (List GPrize) × GTk => match w_ with | (out_0, o1_0) => (⟨[(8, .ref 2 2 0 out_0.length)], [(0, .row 3 1 (encI o1_0.all)), (1, .box [.ref 0 1 o1_0.pos o1_0.left, B o1_0.bad]), (2, .row 75 2 (out_0.flatMap encGPrize))], 3, [], 43, 2⟩ : St)) (fun w_ => takeP_L0 (((one t).1.toNat) - 0) 0 ([]) ((one t).2) = w_) ?_ ?_
    ·refine sem_block ?_
     refine sem_loopT (fun w_ : Nat × (List GPrize) × GTk => match w_ with | (k0, out0, o10) => (⟨[(2, .bnd 83 1 [.ptr 1 0]), (8, .ref 2 2 0 out0.length), (33, I (one t).1), (34, I k0)], [(0, .row 3 1 (encI o10.all)), (1, .box [.ref 0 1 o10.pos o10.left, B o10.bad]), (2, .row 75 2 (out0.flatMap encGPrize))], 3, [], 43, 2⟩ : St)) (fun w_ : Nat × (List GPrize) × GTk => match w_ with | (k0, out0, o10) => takeP_L0 (((one t).1.toNat) - k0) k0 out0 o10 = takeP_L0 (((one t).1.toNat) - 0) 0 ([]) ((one t).2) ∧ k0 ≤ (one t).1.toNat ∧ out0.length ≤ k0 ∧ o10.left ≤ t.left) (fun w_ : Nat × (List GPrize) × GTk => match w_ with | (k0, out0, o10) => (one t).1.toNat - k0) (0, [], ((one t).2)) (⟨rfl, (by first | omega | (simp; omega)), ⟨Nat.zero_le _, (one_le t).1⟩⟩) ?_ (fun w_ hh_ => ?_)
     ·exact (Trans.ren [(2, 3), (3, 2)] (by decide +kernel) (by decide +kernel) rfl ⟨⟨rfl, rfl⟩, ⟨congrArg (fun n => some (AV.ref 3 2 0 n)) (by first | rfl | simp only [List.length_set] | simp | omega | (simp; omega)), rfl⟩, ⟨rfl, rfl⟩, ⟨rfl, rfl⟩, trivial⟩ ⟨⟨rfl, rfl, rfl⟩, ⟨rfl, rfl, rfl⟩, ⟨rfl, rfl, rfl⟩, trivial⟩ (by decide))
     obtain ⟨k0, out0, o10⟩ := w_
     obtain ⟨hI0, hb0, hv0⟩ := hh_
     show Walks Tryz.prog _ _ (⟨[(2, .bnd 83 1 [.ptr 1 0]), (8, .ref 2 2 0 out0.length), (33, I (one t).1), (34, I k0)], [(0, .row 3 1 (encI o10.all)), (1, .box [.ref 0 1 o10.pos o10.left, B o10.bad]), (2, .row 75 2 (out0.flatMap encGPrize))], 3, [], 43, 2⟩ : St)
     have hq0 := takeq (n := (one t).1) (m := (one t).2.left) (s := 2) (by assumption) (by decide) (by omega)
     refine sem_seq (sem_region rfl (step_bin rfl rfl rfl rfl rfl trivial (step_nil (seqK_n (sem_seq ?_)))))
     refine sem_cond rfl (fun h13 => ?_) (fun h13 => ?_)
     ·have g13 : (k0 : Int) < ((one t).1) := of_decide_eq_true h13
      have hm0 : (one t).1.toNat - k0 = ((one t).1.toNat - (k0 + 1)) + 1 := by omega
      refine sem_skip (seqK_n (sem_seq (sem_block (sem_region rfl (step_r rfl rfl trivial (step_r rfl rfl trivial ?_))))))
      refine step_callM (Hin := [.row _ _ _, .box [.ref 0 _ _ _, .pv _]]) (H' := [(0, .row _ _ _), (1, .box [_, _]), (2, .row _ _ _)]) (nx' := 3) [0, 1] rfl rfl rfl rfl (.inl rfl) rfl rfl rfl rfl (prizeR_ok o10) rfl (by decide) rfl rfl rfl rfl rfl ?_
      have p14 := prizeR_le o10
      refine step_n (o := .row _ _ [_, _]) (nx' := 4) rfl rfl rfl (by decide) ?_
      refine step_appendC (m := 1) (new := [_, _]) (cs' := (out0 ++ [((prizeR o10).1)]).flatMap encGPrize) (n' := (out0 ++ [((prizeR o10).1)]).length) (H' := [(3, .row _ _ _), (0, .row _ _ _), (1, .box [_, _]), (2, .row _ _ _)]) rfl rfl rfl (rfl) rfl rfl rfl rfl rfl rfl (flat_len (s := 2) (enc := encGPrize) (fun _ => rfl) out0) (rfl) (by first | decide | (unfold maxGrow; omega) | (unfold maxGrow; simp; omega) | (unfold maxGrow; simp only [List.length_append, List.length_take, List.length_drop, List.length_cons, List.length_nil, IntKind.wrap_i64] at *; omega)) (len_snoc out0 _) (((flat_snoc (enc := encGPrize) (l := out0) ((prizeR o10).1))).symm) (.inl rfl) rfl rfl (.keep rfl (.keep rfl (.keep rfl (.keep rfl .nil)))) (.keep rfl (.keep rfl (.keep rfl (.lose (v' := .undef) rfl (.keep rfl (.keep rfl (.lose (v' := .undef) rfl (.keep rfl (.keep rfl .nil))))))))) ?_
      refine step_r rfl rfl trivial (step_nil (blkK_n (seqK_n (sem_region rfl (step_bin rfl rfl rfl rfl rfl trivial (step_r rfl rfl trivial (step_nil ?_)))))))
      have e16 : takeP_L0 (((one t).1.toNat) - k0) k0 out0 o10 = takeP_L0 (((one t).1.toNat) - (k0 + 1)) (k0 + 1) (out0 ++ [((prizeR o10).1)]) ((prizeR o10).2) := by
       rewrite [hm0]
       rewrite [takeP_L0]
       try dsimp only
       all_goals rfl
      exact lup_againT (k0 + 1, (out0 ++ [((prizeR o10).1)]), ((prizeR o10).2)) ⟨e16.symm.trans hI0, (by omega), ⟨by simp only [List.length_append, List.length_cons, List.length_nil]; omega, by omega⟩⟩ (by show (one t).1.toNat - (k0 + 1) < (one t).1.toNat - k0; omega) (Trans.ren [] (by decide +kernel) (by decide +kernel) rfl ⟨⟨rfl, rfl⟩, ⟨rfl, rfl⟩, ⟨rfl, rfl⟩, ⟨congrArg (fun n => some (I n)) (wrapI (k := k0) (by first | omega | (simp; omega))), rfl⟩, trivial⟩ ⟨⟨rfl, rfl, rfl⟩, ⟨rfl, rfl, rfl⟩, ⟨rfl, rfl, rfl⟩, trivial⟩ (by decide))
     ·have g13 : ¬ ((k0 : Int) < ((one t).1)) := of_decide_eq_false h13
      have hm0 : (one t).1.toNat - k0 = 0 := by omega
      refine sem_exit (seqK_e (lupK_e (blkK_t rfl ?_)))
      have e17 : takeP_L0 (((one t).1.toNat) - 0) 0 ([]) ((one t).2) = (out0, o10) := by
       rewrite [← hI0, hm0]
       rewrite [takeP_L0]
       try dsimp only
       all_goals rfl
      exact cutW_n (out0, o10) e17 (Trans.ren [] (by decide +kernel) (by decide +kernel) rfl ⟨⟨rfl, rfl⟩, trivial⟩ ⟨⟨rfl, rfl, rfl⟩, ⟨rfl, rfl, rfl⟩, ⟨rfl, rfl, rfl⟩, trivial⟩ (by decide))
    ·rintro ⟨out_0, o1_0⟩ (hJ12 : takeP_L0 (((one t).1.toNat) - 0) 0 ([]) ((one t).2) = (out_0, o1_0))
     show seqK _ _ _ .normal (⟨[(8, .ref 2 2 0 out_0.length)], [(0, .row 3 1 (encI o1_0.all)), (1, .box [.ref 0 1 o1_0.pos o1_0.left, B o1_0.bad]), (2, .row 75 2 (out_0.flatMap encGPrize))], 3, [], 43, 2⟩ : St)
     refine seqK_n (sem_seq (sem_region rfl (step_r rfl rfl trivial (step_r rfl rfl trivial (step_nil (seqK_n (sem_ret ?_)))))))
     have e18 : takeP t = (out_0, o1_0) := by
      unfold takeP
      try dsimp only
      rewrite [if_neg g3, if_neg g6, if_neg g10, hJ12]
      try dsimp only
      all_goals rfl
     rw [e18]
     exact answersGR [] [2] rfl ⟨trivial, trivial⟩ rfl (by (repeat' apply And.intro) <;> first | trivial | rfl | exact flat_len (fun _ => rfl) _ | exact encI_len _ | exact encB_len _ | exact encY_len _ | assumption) (rfl) rfl rfl rfl (by decide) rfl rfl ⟨⟨rfl, rfl⟩, ⟨rfl, rfl⟩, ⟨rfl, rfl⟩, trivial⟩

theorem takeP_L0_le (N : Nat) (hN : N ≤ 16000000) : ∀ (m k : Nat) (out : List GPrize) (t : GTk), t.left ≤ N → (∀ x ∈ out, True) → (takeP_L0 m k out t).1.length = out.length + m ∧ ((takeP_L0 m k out t).2.left ≤ t.left ∧ (takeP_L0 m k out t).2.all = t.all) ∧ ∀ x ∈ (takeP_L0 m k out t).1, True
  | 0, k, out, t, _, ho => by rw [takeP_L0]; exact ⟨rfl, ⟨Nat.le_refl _, rfl⟩, ho⟩
  | m + 1, k, out, t, ht, ho => by
    rw [takeP_L0]
    have h1 := prizeR_le t
    obtain ⟨h2, h3, h4⟩ := takeP_L0_le N hN m (k + 1) (out ++ [(prizeR t).1]) (prizeR t).2 (by omega) (fun x hx => by
      rcases List.mem_append.1 hx with h | h
      · exact ho x h
      · simp only [List.mem_cons, List.not_mem_nil, or_false] at h; subst h; exact trivial)
    simp only [List.length_append, List.length_cons, List.length_nil] at h2
    exact ⟨by omega, ⟨by omega, h3.2.trans (h1.2)⟩, h4⟩
theorem takeP_le (t : GTk) (hT : t.left ≤ 16000000) : (takeP t).1.length ≤ t.left ∧ ((takeP t).2.left ≤ t.left ∧ (takeP t).2.all = t.all) := by
  have h1 := one_le t
  unfold takeP
  dsimp only
  by_cases h2 : (one t).2.bad = true
  · rw [if_pos h2]; exact ⟨Nat.zero_le _, h1⟩
  rw [if_neg h2]
  by_cases h3 : (one t).1 < 0
  · rw [if_pos h3]; exact ⟨Nat.zero_le _, h1⟩
  rw [if_neg h3]
  by_cases h4 : (one t).1 > (IntKind.i64.wrap (((one t).2.left : Int).tdiv 2))
  · rw [if_pos h4]; exact ⟨Nat.zero_le _, h1⟩
  rw [if_neg h4]
  have hq := takeq h4 (by decide) (by omega)
  obtain ⟨h5, h6, h7⟩ := takeP_L0_le t.left hT ((one t).1.toNat - 0) 0 [] (one t).2 h1.1 (fun x hx => by cases hx)
  simp only [List.length_nil] at h5
  refine ⟨?_, ⟨?_, h6.2.trans h1.2⟩⟩ <;> dsimp only <;> omega

def takeU_L0 : Nat → Nat → (List GAura) → GTk → (List GAura) × GTk
  | 0, k0, out0, o10 => (out0, o10)
  | n_ + 1, k0, out0, o10 => takeU_L0 n_ (k0 + 1) (out0 ++ [((auraR o10).1)]) ((auraR o10).2)
def takeU (t : GTk) : (List GAura) × GTk :=
  if ((one t).2).bad = true then ([], (⟨((one t).2).all, ((one t).2).pos, true⟩ : GTk)) else if ((one t).1 : Int) < 0 then ([], (⟨((one t).2).all, ((one t).2).pos, true⟩ : GTk)) else if ((one t).1 : Int) > (IntKind.i64.wrap ((((one t).2).left : Int).tdiv 7)) then ([], (⟨((one t).2).all, ((one t).2).pos, true⟩ : GTk)) else (match takeU_L0 (((one t).1.toNat) - 0) 0 ([]) ((one t).2) with
    | (out_0, o1_0) => (out_0, o1_0))
theorem takeU_ok (t : GTk) (hT : t.left ≤ 16000000) : Ok Tryz.prog 40 [.ptr 1 0, I 7, .bnd 41 1 [.ptr 1 0]] [.row 3 1 (encI t.all), .box [.ref 0 1 t.pos t.left, B t.bad]] (.ref 2 7 0 (takeU t).1.length) [.row 3 1 (encI ((takeU t).2).all), .box [.ref 0 1 ((takeU t).2).pos ((takeU t).2).left, B ((takeU t).2).bad], .row 62 7 ((takeU t).1.flatMap encGAura)] [] := by
 have h1t := one_le t
 refine ok_of_sem Tryz.func40 rfl ?_
 show Walks Tryz.prog _ _ ⟨[(0, .ptr 1 0), (1, I 7), (2, .bnd 41 1 [.ptr 1 0])], [(0, .row 3 1 (encI t.all)), (1, .box [.ref 0 1 t.pos t.left, B t.bad])], 2, [], 43, 2⟩
 refine sem_seq (sem_region rfl (step_n (nx' := 3) rfl rfl rfl trivial (step_nil (seqK_n (sem_seq (sem_region rfl (step_r rfl rfl trivial ?_)))))))
 refine step_callM (Hin := [.row _ _ _, .box [.ref 0 _ _ _, .pv _]]) (H' := [(2, .row _ _ _), (0, .row _ _ _), (1, .box [_, _])]) (nx' := 3) [0, 1] rfl rfl rfl rfl (.inl rfl) rfl rfl rfl rfl (one_ok t) rfl (by decide) rfl rfl rfl rfl rfl ?_
 refine step_r rfl rfl trivial (step_nil (seqK_n (sem_seq (sem_seq (sem_region rfl (step_r rfl rfl trivial (step_r rfl rfl trivial (step_r rfl rfl (by decide) (step_r rfl rfl trivial (step_r rfl rfl trivial ?_))))))))))
 refine step_gs rfl (fun h3 => ?_) (fun h3 => ?_)
 ·have g3 : ((one t).2).bad = true := h3
  refine step_g0 rfl h3 rfl (step_g0 rfl h3 rfl (step_pickT rfl h3 rfl rfl (step_r rfl rfl trivial (step_gf rfl rfl (step_gf rfl rfl (step_gf rfl rfl (step_gf rfl rfl (step_gf rfl rfl (step_gf rfl rfl (step_gf rfl rfl (step_gf rfl rfl ?_)))))))))))
  refine step_gf rfl rfl (step_r rfl rfl trivial (step_nil (seqK_n (sem_condT rfl (sem_seq (sem_region rfl (step_r rfl rfl trivial (step_r rfl rfl trivial (step_r rfl rfl (by decide) ?_)))))))))
  refine step_storeB (H' := [(2, _), (0, _), (1, .box [_, _])]) rfl rfl rfl rfl rfl rfl (.inl rfl) rfl ?_
  refine step_nil (seqK_n (sem_seq (sem_region rfl (step_n (nx' := 4) rfl rfl rfl trivial (step_nil (seqK_n (sem_ret (seqK_r ?_))))))))
  have e4 : takeU t = ([], (⟨((one t).2).all, ((one t).2).pos, true⟩ : GTk)) := by
   unfold takeU
   try dsimp only
   rewrite [if_pos g3]
   all_goals rfl
  rw [e4]
  exact answersGR [] [3] rfl ⟨trivial, trivial⟩ rfl (by (repeat' apply And.intro) <;> first | trivial | rfl | exact flat_len (fun _ => rfl) _ | exact encI_len _ | exact encB_len _ | exact encY_len _ | assumption) (rfl) rfl rfl rfl (by decide) rfl rfl ⟨⟨rfl, rfl⟩, ⟨rfl, rfl⟩, ⟨rfl, rfl⟩, trivial⟩
 ·have g3 : ¬ (((one t).2).bad = true) := boo_f h3
  refine step_g1 rfl h3 (step_r rfl rfl trivial (step_g1 rfl h3 (step_bin rfl rfl rfl rfl rfl trivial (step_pickF rfl h3 rfl rfl (step_r rfl rfl trivial ?_)))))
  refine step_gs rfl (fun h6 => ?_) (fun h6 => ?_)
  ·have g6 : ((one t).1 : Int) < 0 := of_decide_eq_true h6
   refine step_g0 rfl h6 rfl (step_g0 rfl h6 rfl (step_g0 rfl h6 rfl (step_g0 rfl h6 rfl (step_g0 rfl h6 rfl (step_g0 rfl h6 rfl (step_g0 rfl h6 rfl (step_g0 rfl h6 rfl (step_g0 rfl h6 rfl (step_pickT rfl h6 rfl rfl (step_nil (seqK_n ?_)))))))))))
   refine sem_condT rfl (sem_seq (sem_region rfl (step_r rfl rfl trivial (step_r rfl rfl trivial (step_r rfl rfl (by decide) ?_)))))
   refine step_storeB (H' := [(2, _), (0, _), (1, .box [_, _])]) rfl rfl rfl rfl rfl rfl (.inl rfl) rfl ?_
   refine step_nil (seqK_n (sem_seq (sem_region rfl (step_n (nx' := 4) rfl rfl rfl trivial (step_nil (seqK_n (sem_ret (seqK_r ?_))))))))
   have e7 : takeU t = ([], (⟨((one t).2).all, ((one t).2).pos, true⟩ : GTk)) := by
    unfold takeU
    try dsimp only
    rewrite [if_neg g3, if_pos g6]
    all_goals rfl
   rw [e7]
   exact answersGR [] [3] rfl ⟨trivial, trivial⟩ rfl (by (repeat' apply And.intro) <;> first | trivial | rfl | exact flat_len (fun _ => rfl) _ | exact encI_len _ | exact encB_len _ | exact encY_len _ | assumption) (rfl) rfl rfl rfl (by decide) rfl rfl ⟨⟨rfl, rfl⟩, ⟨rfl, rfl⟩, ⟨rfl, rfl⟩, trivial⟩
  ·have g6 : ¬ (((one t).1 : Int) < 0) := of_decide_eq_false h6
   refine step_g1 rfl h6 (step_r rfl rfl trivial (step_g1 rfl h6 (step_r rfl rfl trivial (step_g1 rfl h6 (step_r rfl rfl trivial (step_g1 rfl h6 (step_r rfl rfl (by decide) (step_g1 rfl h6 (step_r rfl rfl trivial (step_g1 rfl h6 (step_r rfl rfl trivial ?_)))))))))))
   refine step_g1 rfl h6 (step_r rfl rfl trivial (step_g1 rfl h6 ?_))
   refine step_bin rfl rfl rfl rfl rfl (by first | decide | omega | (show (0 : Int) ≤ IntKind.i64.wrap _; rw [wrap_lt (by omega) (by omega)]; omega) | simp_all) ?_
   refine step_g1 rfl h6 (step_bin rfl rfl rfl rfl rfl trivial (step_pickF rfl h6 rfl rfl (step_nil (seqK_n ?_))))
   refine sem_cond rfl (fun h10 => ?_) (fun h10 => ?_)
   ·have g10 : ((one t).1 : Int) > (IntKind.i64.wrap ((((one t).2).left : Int).tdiv 7)) := of_decide_eq_true h10
    refine sem_seq (sem_region rfl (step_r rfl rfl trivial (step_r rfl rfl trivial (step_r rfl rfl (by decide) ?_))))
    refine step_storeB (H' := [(2, _), (0, _), (1, .box [_, _])]) rfl rfl rfl rfl rfl rfl (.inl rfl) rfl ?_
    refine step_nil (seqK_n (sem_seq (sem_region rfl (step_n (nx' := 4) rfl rfl rfl trivial (step_nil (seqK_n (sem_ret (seqK_r ?_))))))))
    have e11 : takeU t = ([], (⟨((one t).2).all, ((one t).2).pos, true⟩ : GTk)) := by
     unfold takeU
     try dsimp only
     rewrite [if_neg g3, if_neg g6, if_pos g10]
     all_goals rfl
    rw [e11]
    exact answersGR [] [3] rfl ⟨trivial, trivial⟩ rfl (by (repeat' apply And.intro) <;> first | trivial | rfl | exact flat_len (fun _ => rfl) _ | exact encI_len _ | exact encB_len _ | exact encY_len _ | assumption) (rfl) rfl rfl rfl (by decide) rfl rfl ⟨⟨rfl, rfl⟩, ⟨rfl, rfl⟩, ⟨rfl, rfl⟩, trivial⟩
   ·have g10 : ¬ (((one t).1 : Int) > (IntKind.i64.wrap ((((one t).2).left : Int).tdiv 7))) := of_decide_eq_false h10
    refine sem_skip (seqK_n (sem_seq (sem_region rfl (step_n (nx' := 4) rfl rfl rfl trivial (step_nil (seqK_n (sem_seq (sem_seq (sem_region rfl (step_r rfl rfl trivial (step_r rfl rfl trivial ?_)))))))))))
    refine step_nil (seqK_n ?_)
    refine sem_cutW (fun w_ : (List GAura) × GTk => match w_ with | (out_0, o1_0) => (⟨[(8, .ref 2 7 0 out_0.length)], [(0, .row 3 1 (encI o1_0.all)), (1, .box [.ref 0 1 o1_0.pos o1_0.left, B o1_0.bad]), (2, .row 62 7 (out_0.flatMap encGAura))], 3, [], 43, 2⟩ : St)) (fun w_ => takeU_L0 (((one t).1.toNat) - 0) 0 ([]) ((one t).2) = w_) ?_ ?_
    ·refine sem_block ?_
     refine sem_loopT (fun w_ : Nat × (List GAura) × GTk => match w_ with | (k0, out0, o10) => (⟨[(2, .bnd 41 1 [.ptr 1 0]), (8, .ref 2 7 0 out0.length), (33, I (one t).1), (34, I k0)], [(0, .row 3 1 (encI o10.all)), (1, .box [.ref 0 1 o10.pos o10.left, B o10.bad]), (2, .row 62 7 (out0.flatMap encGAura))], 3, [], 43, 2⟩ : St)) (fun w_ : Nat × (List GAura) × GTk => match w_ with | (k0, out0, o10) => takeU_L0 (((one t).1.toNat) - k0) k0 out0 o10 = takeU_L0 (((one t).1.toNat) - 0) 0 ([]) ((one t).2) ∧ k0 ≤ (one t).1.toNat ∧ out0.length ≤ k0 ∧ o10.left ≤ t.left) (fun w_ : Nat × (List GAura) × GTk => match w_ with | (k0, out0, o10) => (one t).1.toNat - k0) (0, [], ((one t).2)) (⟨rfl, (by first | omega | (simp; omega)), ⟨Nat.zero_le _, (one_le t).1⟩⟩) ?_ (fun w_ hh_ => ?_)
     ·exact (Trans.ren [(2, 3), (3, 2)] (by decide +kernel) (by decide +kernel) rfl ⟨⟨rfl, rfl⟩, ⟨congrArg (fun n => some (AV.ref 3 7 0 n)) (by first | rfl | simp only [List.length_set] | simp | omega | (simp; omega)), rfl⟩, ⟨rfl, rfl⟩, ⟨rfl, rfl⟩, trivial⟩ ⟨⟨rfl, rfl, rfl⟩, ⟨rfl, rfl, rfl⟩, ⟨rfl, rfl, rfl⟩, trivial⟩ (by decide))
     obtain ⟨k0, out0, o10⟩ := w_
     obtain ⟨hI0, hb0, hv0⟩ := hh_
     show Walks Tryz.prog _ _ (⟨[(2, .bnd 41 1 [.ptr 1 0]), (8, .ref 2 7 0 out0.length), (33, I (one t).1), (34, I k0)], [(0, .row 3 1 (encI o10.all)), (1, .box [.ref 0 1 o10.pos o10.left, B o10.bad]), (2, .row 62 7 (out0.flatMap encGAura))], 3, [], 43, 2⟩ : St)
     have hq0 := takeq (n := (one t).1) (m := (one t).2.left) (s := 7) (by assumption) (by decide) (by omega)
     refine sem_seq (sem_region rfl (step_bin rfl rfl rfl rfl rfl trivial (step_nil (seqK_n (sem_seq ?_)))))
     refine sem_cond rfl (fun h13 => ?_) (fun h13 => ?_)
     ·have g13 : (k0 : Int) < ((one t).1) := of_decide_eq_true h13
      have hm0 : (one t).1.toNat - k0 = ((one t).1.toNat - (k0 + 1)) + 1 := by omega
      refine sem_skip (seqK_n (sem_seq (sem_block (sem_region rfl (step_r rfl rfl trivial (step_r rfl rfl trivial ?_))))))
      refine step_callM (Hin := [.row _ _ _, .box [.ref 0 _ _ _, .pv _]]) (H' := [(0, .row _ _ _), (1, .box [_, _]), (2, .row _ _ _)]) (nx' := 3) [0, 1] rfl rfl rfl rfl (.inl rfl) rfl rfl rfl rfl (auraR_ok o10) rfl (by decide) rfl rfl rfl rfl rfl ?_
      have p14 := auraR_le o10
      refine step_n (o := .row _ _ [_, _, _, _, _, _, _]) (nx' := 4) rfl rfl rfl (by decide) ?_
      refine step_appendC (m := 1) (new := [_, _, _, _, _, _, _]) (cs' := (out0 ++ [((auraR o10).1)]).flatMap encGAura) (n' := (out0 ++ [((auraR o10).1)]).length) (H' := [(3, .row _ _ _), (0, .row _ _ _), (1, .box [_, _]), (2, .row _ _ _)]) rfl rfl rfl (rfl) rfl rfl rfl rfl rfl rfl (flat_len (s := 7) (enc := encGAura) (fun _ => rfl) out0) (rfl) (by first | decide | (unfold maxGrow; omega) | (unfold maxGrow; simp; omega) | (unfold maxGrow; simp only [List.length_append, List.length_take, List.length_drop, List.length_cons, List.length_nil, IntKind.wrap_i64] at *; omega)) (len_snoc out0 _) (((flat_snoc (enc := encGAura) (l := out0) ((auraR o10).1))).symm) (.inl rfl) rfl rfl (.keep rfl (.keep rfl (.keep rfl (.keep rfl .nil)))) (.keep rfl (.keep rfl (.keep rfl (.lose (v' := .undef) rfl (.keep rfl (.keep rfl (.lose (v' := .undef) rfl (.keep rfl (.keep rfl .nil))))))))) ?_
      refine step_r rfl rfl trivial (step_nil (blkK_n (seqK_n (sem_region rfl (step_bin rfl rfl rfl rfl rfl trivial (step_r rfl rfl trivial (step_nil ?_)))))))
      have e16 : takeU_L0 (((one t).1.toNat) - k0) k0 out0 o10 = takeU_L0 (((one t).1.toNat) - (k0 + 1)) (k0 + 1) (out0 ++ [((auraR o10).1)]) ((auraR o10).2) := by
       rewrite [hm0]
       rewrite [takeU_L0]
       try dsimp only
       all_goals rfl
      exact lup_againT (k0 + 1, (out0 ++ [((auraR o10).1)]), ((auraR o10).2)) ⟨e16.symm.trans hI0, (by omega), ⟨by simp only [List.length_append, List.length_cons, List.length_nil]; omega, by omega⟩⟩ (by show (one t).1.toNat - (k0 + 1) < (one t).1.toNat - k0; omega) (Trans.ren [] (by decide +kernel) (by decide +kernel) rfl ⟨⟨rfl, rfl⟩, ⟨rfl, rfl⟩, ⟨rfl, rfl⟩, ⟨congrArg (fun n => some (I n)) (wrapI (k := k0) (by first | omega | (simp; omega))), rfl⟩, trivial⟩ ⟨⟨rfl, rfl, rfl⟩, ⟨rfl, rfl, rfl⟩, ⟨rfl, rfl, rfl⟩, trivial⟩ (by decide))
     ·have g13 : ¬ ((k0 : Int) < ((one t).1)) := of_decide_eq_false h13
      have hm0 : (one t).1.toNat - k0 = 0 := by omega
      refine sem_exit (seqK_e (lupK_e (blkK_t rfl ?_)))
      have e17 : takeU_L0 (((one t).1.toNat) - 0) 0 ([]) ((one t).2) = (out0, o10) := by
       rewrite [← hI0, hm0]
       rewrite [takeU_L0]
       try dsimp only
       all_goals rfl
      exact cutW_n (out0, o10) e17 (Trans.ren [] (by decide +kernel) (by decide +kernel) rfl ⟨⟨rfl, rfl⟩, trivial⟩ ⟨⟨rfl, rfl, rfl⟩, ⟨rfl, rfl, rfl⟩, ⟨rfl, rfl, rfl⟩, trivial⟩ (by decide))
    ·rintro ⟨out_0, o1_0⟩ (hJ12 : takeU_L0 (((one t).1.toNat) - 0) 0 ([]) ((one t).2) = (out_0, o1_0))
     show seqK _ _ _ .normal (⟨[(8, .ref 2 7 0 out_0.length)], [(0, .row 3 1 (encI o1_0.all)), (1, .box [.ref 0 1 o1_0.pos o1_0.left, B o1_0.bad]), (2, .row 62 7 (out_0.flatMap encGAura))], 3, [], 43, 2⟩ : St)
     refine seqK_n (sem_seq (sem_region rfl (step_r rfl rfl trivial (step_r rfl rfl trivial (step_nil (seqK_n (sem_ret ?_)))))))
     have e18 : takeU t = (out_0, o1_0) := by
      unfold takeU
      try dsimp only
      rewrite [if_neg g3, if_neg g6, if_neg g10, hJ12]
      try dsimp only
      all_goals rfl
     rw [e18]
     exact answersGR [] [2] rfl ⟨trivial, trivial⟩ rfl (by (repeat' apply And.intro) <;> first | trivial | rfl | exact flat_len (fun _ => rfl) _ | exact encI_len _ | exact encB_len _ | exact encY_len _ | assumption) (rfl) rfl rfl rfl (by decide) rfl rfl ⟨⟨rfl, rfl⟩, ⟨rfl, rfl⟩, ⟨rfl, rfl⟩, trivial⟩

theorem takeU_L0_le (N : Nat) (hN : N ≤ 16000000) : ∀ (m k : Nat) (out : List GAura) (t : GTk), t.left ≤ N → (∀ x ∈ out, True) → (takeU_L0 m k out t).1.length = out.length + m ∧ ((takeU_L0 m k out t).2.left ≤ t.left ∧ (takeU_L0 m k out t).2.all = t.all) ∧ ∀ x ∈ (takeU_L0 m k out t).1, True
  | 0, k, out, t, _, ho => by rw [takeU_L0]; exact ⟨rfl, ⟨Nat.le_refl _, rfl⟩, ho⟩
  | m + 1, k, out, t, ht, ho => by
    rw [takeU_L0]
    have h1 := auraR_le t
    obtain ⟨h2, h3, h4⟩ := takeU_L0_le N hN m (k + 1) (out ++ [(auraR t).1]) (auraR t).2 (by omega) (fun x hx => by
      rcases List.mem_append.1 hx with h | h
      · exact ho x h
      · simp only [List.mem_cons, List.not_mem_nil, or_false] at h; subst h; exact trivial)
    simp only [List.length_append, List.length_cons, List.length_nil] at h2
    exact ⟨by omega, ⟨by omega, h3.2.trans (h1.2)⟩, h4⟩
theorem takeU_le (t : GTk) (hT : t.left ≤ 16000000) : (takeU t).1.length ≤ t.left ∧ ((takeU t).2.left ≤ t.left ∧ (takeU t).2.all = t.all) := by
  have h1 := one_le t
  unfold takeU
  dsimp only
  by_cases h2 : (one t).2.bad = true
  · rw [if_pos h2]; exact ⟨Nat.zero_le _, h1⟩
  rw [if_neg h2]
  by_cases h3 : (one t).1 < 0
  · rw [if_pos h3]; exact ⟨Nat.zero_le _, h1⟩
  rw [if_neg h3]
  by_cases h4 : (one t).1 > (IntKind.i64.wrap (((one t).2.left : Int).tdiv 7))
  · rw [if_pos h4]; exact ⟨Nat.zero_le _, h1⟩
  rw [if_neg h4]
  have hq := takeq h4 (by decide) (by omega)
  obtain ⟨h5, h6, h7⟩ := takeU_L0_le t.left hT ((one t).1.toNat - 0) 0 [] (one t).2 h1.1 (fun x hx => by cases hx)
  simp only [List.length_nil] at h5
  refine ⟨?_, ⟨?_, h6.2.trans h1.2⟩⟩ <;> dsimp only <;> omega

def takeW_L0 : Nat → Nat → (List Bool) → GTk → (List Bool) × GTk
  | 0, k0, out0, o10 => (out0, o10)
  | n_ + 1, k0, out0, o10 => takeW_L0 n_ (k0 + 1) (out0 ++ [(flagR o10).1]) ((flagR o10).2)
def takeW (t : GTk) : (List Bool) × GTk :=
  if ((one t).2).bad = true then ([], (⟨((one t).2).all, ((one t).2).pos, true⟩ : GTk)) else if ((one t).1 : Int) < 0 then ([], (⟨((one t).2).all, ((one t).2).pos, true⟩ : GTk)) else if ((one t).1 : Int) > (IntKind.i64.wrap ((((one t).2).left : Int).tdiv 1)) then ([], (⟨((one t).2).all, ((one t).2).pos, true⟩ : GTk)) else (match takeW_L0 (((one t).1.toNat) - 0) 0 ([]) ((one t).2) with
    | (out_0, o1_0) => (out_0, o1_0))
theorem takeW_ok (t : GTk) (hT : t.left ≤ 16000000) : Ok Tryz.prog 45 [.ptr 1 0, I 1, .bnd 46 1 [.ptr 1 0]] [.row 3 1 (encI t.all), .box [.ref 0 1 t.pos t.left, B t.bad]] (.ref 2 1 0 (takeW t).1.length) [.row 3 1 (encI ((takeW t).2).all), .box [.ref 0 1 ((takeW t).2).pos ((takeW t).2).left, B ((takeW t).2).bad], .row 4 1 (encB (takeW t).1)] [] := by
 have h1t := one_le t
 refine ok_of_sem Tryz.func45 rfl ?_
 show Walks Tryz.prog _ _ ⟨[(0, .ptr 1 0), (1, I 1), (2, .bnd 46 1 [.ptr 1 0])], [(0, .row 3 1 (encI t.all)), (1, .box [.ref 0 1 t.pos t.left, B t.bad])], 2, [], 43, 2⟩
 refine sem_seq (sem_region rfl (step_n (nx' := 3) rfl rfl rfl trivial (step_nil (seqK_n (sem_seq (sem_region rfl (step_r rfl rfl trivial ?_)))))))
 refine step_callM (Hin := [.row _ _ _, .box [.ref 0 _ _ _, .pv _]]) (H' := [(2, .row _ _ _), (0, .row _ _ _), (1, .box [_, _])]) (nx' := 3) [0, 1] rfl rfl rfl rfl (.inl rfl) rfl rfl rfl rfl (one_ok t) rfl (by decide) rfl rfl rfl rfl rfl ?_
 refine step_r rfl rfl trivial (step_nil (seqK_n (sem_seq (sem_seq (sem_region rfl (step_r rfl rfl trivial (step_r rfl rfl trivial (step_r rfl rfl (by decide) (step_r rfl rfl trivial (step_r rfl rfl trivial ?_))))))))))
 refine step_gs rfl (fun h3 => ?_) (fun h3 => ?_)
 ·have g3 : ((one t).2).bad = true := h3
  refine step_g0 rfl h3 rfl (step_g0 rfl h3 rfl (step_pickT rfl h3 rfl rfl (step_r rfl rfl trivial (step_gf rfl rfl (step_gf rfl rfl (step_gf rfl rfl (step_gf rfl rfl (step_gf rfl rfl (step_gf rfl rfl (step_gf rfl rfl (step_gf rfl rfl ?_)))))))))))
  refine step_gf rfl rfl (step_r rfl rfl trivial (step_nil (seqK_n (sem_condT rfl (sem_seq (sem_region rfl (step_r rfl rfl trivial (step_r rfl rfl trivial (step_r rfl rfl (by decide) ?_)))))))))
  refine step_storeB (H' := [(2, _), (0, _), (1, .box [_, _])]) rfl rfl rfl rfl rfl rfl (.inl rfl) rfl ?_
  refine step_nil (seqK_n (sem_seq (sem_region rfl (step_n (nx' := 4) rfl rfl rfl trivial (step_nil (seqK_n (sem_ret (seqK_r ?_))))))))
  have e4 : takeW t = ([], (⟨((one t).2).all, ((one t).2).pos, true⟩ : GTk)) := by
   unfold takeW
   try dsimp only
   rewrite [if_pos g3]
   all_goals rfl
  rw [e4]
  exact answersGR [] [3] rfl ⟨trivial, trivial⟩ rfl (by (repeat' apply And.intro) <;> first | trivial | rfl | exact flat_len (fun _ => rfl) _ | exact encI_len _ | exact encB_len _ | exact encY_len _ | assumption) (rfl) rfl rfl rfl (by decide) rfl rfl ⟨⟨rfl, rfl⟩, ⟨rfl, rfl⟩, ⟨rfl, rfl⟩, trivial⟩
 ·have g3 : ¬ (((one t).2).bad = true) := boo_f h3
  refine step_g1 rfl h3 (step_r rfl rfl trivial (step_g1 rfl h3 (step_bin rfl rfl rfl rfl rfl trivial (step_pickF rfl h3 rfl rfl (step_r rfl rfl trivial ?_)))))
  refine step_gs rfl (fun h6 => ?_) (fun h6 => ?_)
  ·have g6 : ((one t).1 : Int) < 0 := of_decide_eq_true h6
   refine step_g0 rfl h6 rfl (step_g0 rfl h6 rfl (step_g0 rfl h6 rfl (step_g0 rfl h6 rfl (step_g0 rfl h6 rfl (step_g0 rfl h6 rfl (step_g0 rfl h6 rfl (step_g0 rfl h6 rfl (step_g0 rfl h6 rfl (step_pickT rfl h6 rfl rfl (step_nil (seqK_n ?_)))))))))))
   refine sem_condT rfl (sem_seq (sem_region rfl (step_r rfl rfl trivial (step_r rfl rfl trivial (step_r rfl rfl (by decide) ?_)))))
   refine step_storeB (H' := [(2, _), (0, _), (1, .box [_, _])]) rfl rfl rfl rfl rfl rfl (.inl rfl) rfl ?_
   refine step_nil (seqK_n (sem_seq (sem_region rfl (step_n (nx' := 4) rfl rfl rfl trivial (step_nil (seqK_n (sem_ret (seqK_r ?_))))))))
   have e7 : takeW t = ([], (⟨((one t).2).all, ((one t).2).pos, true⟩ : GTk)) := by
    unfold takeW
    try dsimp only
    rewrite [if_neg g3, if_pos g6]
    all_goals rfl
   rw [e7]
   exact answersGR [] [3] rfl ⟨trivial, trivial⟩ rfl (by (repeat' apply And.intro) <;> first | trivial | rfl | exact flat_len (fun _ => rfl) _ | exact encI_len _ | exact encB_len _ | exact encY_len _ | assumption) (rfl) rfl rfl rfl (by decide) rfl rfl ⟨⟨rfl, rfl⟩, ⟨rfl, rfl⟩, ⟨rfl, rfl⟩, trivial⟩
  ·have g6 : ¬ (((one t).1 : Int) < 0) := of_decide_eq_false h6
   refine step_g1 rfl h6 (step_r rfl rfl trivial (step_g1 rfl h6 (step_r rfl rfl trivial (step_g1 rfl h6 (step_r rfl rfl trivial (step_g1 rfl h6 (step_r rfl rfl (by decide) (step_g1 rfl h6 (step_r rfl rfl trivial (step_g1 rfl h6 (step_r rfl rfl trivial ?_)))))))))))
   refine step_g1 rfl h6 (step_r rfl rfl trivial (step_g1 rfl h6 ?_))
   refine step_bin rfl rfl rfl rfl rfl (by first | decide | omega | (show (0 : Int) ≤ IntKind.i64.wrap _; rw [wrap_lt (by omega) (by omega)]; omega) | simp_all) ?_
   refine step_g1 rfl h6 (step_bin rfl rfl rfl rfl rfl trivial (step_pickF rfl h6 rfl rfl (step_nil (seqK_n ?_))))
   refine sem_cond rfl (fun h10 => ?_) (fun h10 => ?_)
   ·have g10 : ((one t).1 : Int) > (IntKind.i64.wrap ((((one t).2).left : Int).tdiv 1)) := of_decide_eq_true h10
    refine sem_seq (sem_region rfl (step_r rfl rfl trivial (step_r rfl rfl trivial (step_r rfl rfl (by decide) ?_))))
    refine step_storeB (H' := [(2, _), (0, _), (1, .box [_, _])]) rfl rfl rfl rfl rfl rfl (.inl rfl) rfl ?_
    refine step_nil (seqK_n (sem_seq (sem_region rfl (step_n (nx' := 4) rfl rfl rfl trivial (step_nil (seqK_n (sem_ret (seqK_r ?_))))))))
    have e11 : takeW t = ([], (⟨((one t).2).all, ((one t).2).pos, true⟩ : GTk)) := by
     unfold takeW
     try dsimp only
     rewrite [if_neg g3, if_neg g6, if_pos g10]
     all_goals rfl
    rw [e11]
    exact answersGR [] [3] rfl ⟨trivial, trivial⟩ rfl (by (repeat' apply And.intro) <;> first | trivial | rfl | exact flat_len (fun _ => rfl) _ | exact encI_len _ | exact encB_len _ | exact encY_len _ | assumption) (rfl) rfl rfl rfl (by decide) rfl rfl ⟨⟨rfl, rfl⟩, ⟨rfl, rfl⟩, ⟨rfl, rfl⟩, trivial⟩
   ·have g10 : ¬ (((one t).1 : Int) > (IntKind.i64.wrap ((((one t).2).left : Int).tdiv 1))) := of_decide_eq_false h10
    refine sem_skip (seqK_n (sem_seq (sem_region rfl (step_n (nx' := 4) rfl rfl rfl trivial (step_nil (seqK_n (sem_seq (sem_seq (sem_region rfl (step_r rfl rfl trivial (step_r rfl rfl trivial ?_)))))))))))
    refine step_nil (seqK_n ?_)
    refine sem_cutW (fun w_ : (List Bool) × GTk => match w_ with | (out_0, o1_0) => (⟨[(8, .ref 2 1 0 out_0.length)], [(0, .row 3 1 (encI o1_0.all)), (1, .box [.ref 0 1 o1_0.pos o1_0.left, B o1_0.bad]), (2, .row 4 1 (encB out_0))], 3, [], 43, 2⟩ : St)) (fun w_ => takeW_L0 (((one t).1.toNat) - 0) 0 ([]) ((one t).2) = w_) ?_ ?_
    ·refine sem_block ?_
     refine sem_loopT (fun w_ : Nat × (List Bool) × GTk => match w_ with | (k0, out0, o10) => (⟨[(2, .bnd 46 1 [.ptr 1 0]), (8, .ref 2 1 0 out0.length), (33, I (one t).1), (34, I k0)], [(0, .row 3 1 (encI o10.all)), (1, .box [.ref 0 1 o10.pos o10.left, B o10.bad]), (2, .row 4 1 (encB out0))], 3, [], 43, 2⟩ : St)) (fun w_ : Nat × (List Bool) × GTk => match w_ with | (k0, out0, o10) => takeW_L0 (((one t).1.toNat) - k0) k0 out0 o10 = takeW_L0 (((one t).1.toNat) - 0) 0 ([]) ((one t).2) ∧ k0 ≤ (one t).1.toNat ∧ out0.length ≤ k0 ∧ o10.left ≤ t.left) (fun w_ : Nat × (List Bool) × GTk => match w_ with | (k0, out0, o10) => (one t).1.toNat - k0) (0, [], ((one t).2)) (⟨rfl, (by first | omega | (simp; omega)), ⟨Nat.zero_le _, (one_le t).1⟩⟩) ?_ (fun w_ hh_ => ?_)
     ·exact (Trans.ren [(2, 3), (3, 2)] (by decide +kernel) (by decide +kernel) rfl ⟨⟨rfl, rfl⟩, ⟨congrArg (fun n => some (AV.ref 3 1 0 n)) (by first | rfl | simp only [List.length_set] | simp | omega | (simp; omega)), rfl⟩, ⟨rfl, rfl⟩, ⟨rfl, rfl⟩, trivial⟩ ⟨⟨rfl, rfl, rfl⟩, ⟨rfl, rfl, rfl⟩, ⟨rfl, rfl, rfl⟩, trivial⟩ (by decide))
     obtain ⟨k0, out0, o10⟩ := w_
     obtain ⟨hI0, hb0, hv0⟩ := hh_
     show Walks Tryz.prog _ _ (⟨[(2, .bnd 46 1 [.ptr 1 0]), (8, .ref 2 1 0 out0.length), (33, I (one t).1), (34, I k0)], [(0, .row 3 1 (encI o10.all)), (1, .box [.ref 0 1 o10.pos o10.left, B o10.bad]), (2, .row 4 1 (encB out0))], 3, [], 43, 2⟩ : St)
     have hq0 := takeq (n := (one t).1) (m := (one t).2.left) (s := 1) (by assumption) (by decide) (by omega)
     refine sem_seq (sem_region rfl (step_bin rfl rfl rfl rfl rfl trivial (step_nil (seqK_n (sem_seq ?_)))))
     refine sem_cond rfl (fun h13 => ?_) (fun h13 => ?_)
     ·have g13 : (k0 : Int) < ((one t).1) := of_decide_eq_true h13
      have hm0 : (one t).1.toNat - k0 = ((one t).1.toNat - (k0 + 1)) + 1 := by omega
      refine sem_skip (seqK_n (sem_seq (sem_block (sem_region rfl (step_r rfl rfl trivial (step_r rfl rfl trivial ?_))))))
      refine step_callM (Hin := [.row _ _ _, .box [.ref 0 _ _ _, .pv _]]) (H' := [(0, .row _ _ _), (1, .box [_, _]), (2, .row _ _ _)]) (nx' := 3) [0, 1] rfl rfl rfl rfl (.inl rfl) rfl rfl rfl rfl (flagR_ok o10) rfl (by decide) rfl rfl rfl rfl rfl ?_
      have p14 := flagR_le o10
      refine step_n (o := .row _ _ [_]) (nx' := 4) rfl rfl rfl (by decide) ?_
      refine step_appendC (m := 1) (new := [_]) (cs' := encB (out0 ++ [(flagR o10).1])) (n' := (out0 ++ [(flagR o10).1]).length) (H' := [(3, .row _ _ _), (0, .row _ _ _), (1, .box [_, _]), (2, .row _ _ _)]) rfl rfl rfl (rfl) rfl rfl rfl rfl rfl rfl (encB_len out0) (rfl) (by first | decide | (unfold maxGrow; omega) | (unfold maxGrow; simp; omega) | (unfold maxGrow; simp only [List.length_append, List.length_take, List.length_drop, List.length_cons, List.length_nil, IntKind.wrap_i64] at *; omega)) (len_snoc out0 _) (((encB_snoc out0 ((flagR o10).1))).symm) (.inl rfl) rfl rfl (.keep rfl (.keep rfl (.keep rfl (.keep rfl .nil)))) (.keep rfl (.keep rfl (.keep rfl (.lose (v' := .undef) rfl (.keep rfl (.keep rfl (.lose (v' := .undef) rfl (.keep rfl (.keep rfl .nil))))))))) ?_
      refine step_r rfl rfl trivial (step_nil (blkK_n (seqK_n (sem_region rfl (step_bin rfl rfl rfl rfl rfl trivial (step_r rfl rfl trivial (step_nil ?_)))))))
      have e16 : takeW_L0 (((one t).1.toNat) - k0) k0 out0 o10 = takeW_L0 (((one t).1.toNat) - (k0 + 1)) (k0 + 1) (out0 ++ [(flagR o10).1]) ((flagR o10).2) := by
       rewrite [hm0]
       rewrite [takeW_L0]
       try dsimp only
       all_goals rfl
      exact lup_againT (k0 + 1, (out0 ++ [(flagR o10).1]), ((flagR o10).2)) ⟨e16.symm.trans hI0, (by omega), ⟨by simp only [List.length_append, List.length_cons, List.length_nil]; omega, by omega⟩⟩ (by show (one t).1.toNat - (k0 + 1) < (one t).1.toNat - k0; omega) (Trans.ren [] (by decide +kernel) (by decide +kernel) rfl ⟨⟨rfl, rfl⟩, ⟨rfl, rfl⟩, ⟨rfl, rfl⟩, ⟨congrArg (fun n => some (I n)) (wrapI (k := k0) (by first | omega | (simp; omega))), rfl⟩, trivial⟩ ⟨⟨rfl, rfl, rfl⟩, ⟨rfl, rfl, rfl⟩, ⟨rfl, rfl, rfl⟩, trivial⟩ (by decide))
     ·have g13 : ¬ ((k0 : Int) < ((one t).1)) := of_decide_eq_false h13
      have hm0 : (one t).1.toNat - k0 = 0 := by omega
      refine sem_exit (seqK_e (lupK_e (blkK_t rfl ?_)))
      have e17 : takeW_L0 (((one t).1.toNat) - 0) 0 ([]) ((one t).2) = (out0, o10) := by
       rewrite [← hI0, hm0]
       rewrite [takeW_L0]
       try dsimp only
       all_goals rfl
      exact cutW_n (out0, o10) e17 (Trans.ren [] (by decide +kernel) (by decide +kernel) rfl ⟨⟨rfl, rfl⟩, trivial⟩ ⟨⟨rfl, rfl, rfl⟩, ⟨rfl, rfl, rfl⟩, ⟨rfl, rfl, rfl⟩, trivial⟩ (by decide))
    ·rintro ⟨out_0, o1_0⟩ (hJ12 : takeW_L0 (((one t).1.toNat) - 0) 0 ([]) ((one t).2) = (out_0, o1_0))
     show seqK _ _ _ .normal (⟨[(8, .ref 2 1 0 out_0.length)], [(0, .row 3 1 (encI o1_0.all)), (1, .box [.ref 0 1 o1_0.pos o1_0.left, B o1_0.bad]), (2, .row 4 1 (encB out_0))], 3, [], 43, 2⟩ : St)
     refine seqK_n (sem_seq (sem_region rfl (step_r rfl rfl trivial (step_r rfl rfl trivial (step_nil (seqK_n (sem_ret ?_)))))))
     have e18 : takeW t = (out_0, o1_0) := by
      unfold takeW
      try dsimp only
      rewrite [if_neg g3, if_neg g6, if_neg g10, hJ12]
      try dsimp only
      all_goals rfl
     rw [e18]
     exact answersGR [] [2] rfl ⟨trivial, trivial⟩ rfl (by (repeat' apply And.intro) <;> first | trivial | rfl | exact flat_len (fun _ => rfl) _ | exact encI_len _ | exact encB_len _ | exact encY_len _ | assumption) (rfl) rfl rfl rfl (by decide) rfl rfl ⟨⟨rfl, rfl⟩, ⟨rfl, rfl⟩, ⟨rfl, rfl⟩, trivial⟩

theorem takeW_L0_le (N : Nat) (hN : N ≤ 16000000) : ∀ (m k : Nat) (out : List Bool) (t : GTk), t.left ≤ N → (∀ x ∈ out, True) → (takeW_L0 m k out t).1.length = out.length + m ∧ ((takeW_L0 m k out t).2.left ≤ t.left ∧ (takeW_L0 m k out t).2.all = t.all) ∧ ∀ x ∈ (takeW_L0 m k out t).1, True
  | 0, k, out, t, _, ho => by rw [takeW_L0]; exact ⟨rfl, ⟨Nat.le_refl _, rfl⟩, ho⟩
  | m + 1, k, out, t, ht, ho => by
    rw [takeW_L0]
    have h1 := flagR_le t
    obtain ⟨h2, h3, h4⟩ := takeW_L0_le N hN m (k + 1) (out ++ [(flagR t).1]) (flagR t).2 (by omega) (fun x hx => by
      rcases List.mem_append.1 hx with h | h
      · exact ho x h
      · simp only [List.mem_cons, List.not_mem_nil, or_false] at h; subst h; exact trivial)
    simp only [List.length_append, List.length_cons, List.length_nil] at h2
    exact ⟨by omega, ⟨by omega, h3.2.trans (h1.2)⟩, h4⟩
theorem takeW_le (t : GTk) (hT : t.left ≤ 16000000) : (takeW t).1.length ≤ t.left ∧ ((takeW t).2.left ≤ t.left ∧ (takeW t).2.all = t.all) := by
  have h1 := one_le t
  unfold takeW
  dsimp only
  by_cases h2 : (one t).2.bad = true
  · rw [if_pos h2]; exact ⟨Nat.zero_le _, h1⟩
  rw [if_neg h2]
  by_cases h3 : (one t).1 < 0
  · rw [if_pos h3]; exact ⟨Nat.zero_le _, h1⟩
  rw [if_neg h3]
  by_cases h4 : (one t).1 > (IntKind.i64.wrap (((one t).2.left : Int).tdiv 1))
  · rw [if_pos h4]; exact ⟨Nat.zero_le _, h1⟩
  rw [if_neg h4]
  have hq := takeq h4 (by decide) (by omega)
  obtain ⟨h5, h6, h7⟩ := takeW_L0_le t.left hT ((one t).1.toNat - 0) 0 [] (one t).2 h1.1 (fun x hx => by cases hx)
  simp only [List.length_nil] at h5
  refine ⟨?_, ⟨?_, h6.2.trans h1.2⟩⟩ <;> dsimp only <;> omega

def abilR (t : GTk) : GAbility × GTk :=
  ((⟨(tval t 0), (tval t 1), (tval t 2), (tval t 3), (tval t 4), (tval t 5), (flagR (takeN t 6)).1, (takeE ((flagR (takeN t 6)).2)).1⟩ : GAbility), ((takeE ((flagR (takeN t 6)).2)).2))
theorem abilR_ok (t : GTk) (hT : t.left ≤ 16000000) : Ok Tryz.prog 39 [.ptr 1 0] [.row 3 1 (encI t.all), .box [.ref 0 1 t.pos t.left, B t.bad]] (aGAbility (abilR t).1) [.row 3 1 (encI ((abilR t).2).all), .box [.ref 0 1 ((abilR t).2).pos ((abilR t).2).left, B ((abilR t).2).bad]] [] := by
 have h1t := takeN_le t 6
 refine ok_of_sem Tryz.func39 rfl ?_
 show Walks Tryz.prog _ _ ⟨[(0, .ptr 1 0)], [(0, .row 3 1 (encI t.all)), (1, .box [.ref 0 1 t.pos t.left, B t.bad])], 2, [], 21, 2⟩
 refine sem_seq (sem_region rfl (step_n (o := .box [_, _, _, _, _, _, _, _]) (nx' := 3) rfl rfl rfl trivial (step_nil (seqK_n (sem_seq (sem_region rfl (step_r rfl rfl trivial (step_r rfl rfl (by decide) (step_r rfl rfl (by decide) (step_r rfl rfl (by decide) (step_r rfl rfl (by decide) ?_)))))))))))
 refine step_r rfl rfl (by decide) (step_r rfl rfl (by decide) (step_n (o := .box [_, _, _, _, _, _]) (nx' := 4) rfl rfl rfl (by decide) ?_))
 refine step_callM (Hin := [.row _ _ _, .box [.ref 0 _ _ _, .pv _], .box [.ptr 3 0, .ptr 3 1, .ptr 3 2, .ptr 3 3, .ptr 3 4, .ptr 3 5], .box [.pv _, .pv _, .pv _, .pv _, .pv _, .pv _, .pv _, .pv _]]) (H' := [(3, .box [_, _, _, _, _, _]), (2, .box [_, _, _, _, _, _, _, _]), (0, .row _ _ _), (1, .box [_, _])]) (nx' := 4) [0, 1, 3, 2] rfl rfl rfl rfl (.inl rfl) rfl rfl rfl rfl (into_ok t [i64 0, i64 0, i64 0, i64 0, i64 0, i64 0, .bool false, (.slc 0 true [])] [0, 1, 2, 3, 4, 5] rfl rfl) rfl (by decide) rfl rfl rfl rfl rfl ?_
 have p1 := takeN_le t 6
 refine step_nil (seqK_n (sem_seq (sem_region rfl (step_r rfl rfl trivial ?_))))
 refine step_callM (Hin := [.row _ _ _, .box [.ref 0 _ _ _, .pv _]]) (H' := [(3, .box [_, _, _, _, _, _]), (2, .box [_, _, _, _, _, _, _, _]), (0, .row _ _ _), (1, .box [_, _])]) (nx' := 4) [0, 1] rfl rfl rfl rfl (.inl rfl) rfl rfl rfl rfl (flagR_ok (takeN t 6)) rfl (by decide) rfl rfl rfl rfl rfl ?_
 have p2 := flagR_le (takeN t 6)
 refine step_r rfl rfl (by decide) ?_
 refine step_storeB (H' := [(3, _), (2, .box [_, _, _, _, _, _, _, _]), (0, _), (1, _)]) rfl rfl rfl rfl rfl rfl (.inl rfl) rfl ?_
 refine step_nil (seqK_n (sem_seq ?_))
 refine sem_regionS rfl (opsS_cut 4 (j := 0) ?_)
 simp only [List.take_succ_cons, List.take_zero, List.drop_succ_cons, List.drop_zero]
 refine step_r rfl rfl trivial (step_r rfl rfl trivial (step_r (v := .bnd 79 1 [_]) rfl rfl trivial ?_))
 refine step_callM (Hin := [.row _ _ _, .box [.ref 0 _ _ _, .pv _]]) (out' := .ref 4 _ _ _) (H' := [(4, .row _ _ _), (3, .box [_, _, _, _, _, _]), (2, .box [_, _, _, _, _, _, _, _]), (0, .row _ _ _), (1, .box [_, _])]) (nx' := 5) [0, 1] rfl rfl rfl rfl (.inl rfl) rfl rfl rfl rfl (takeE_ok ((flagR (takeN t 6)).2) (by first | assumption | omega | (dsimp only [GTk.left] at *; omega))) rfl (by decide) rfl rfl rfl rfl rfl ?_
 have p3 := takeE_le ((flagR (takeN t 6)).2) (by first | assumption | omega | (dsimp only [GTk.left] at *; omega))
 refine step_nil ?_
 refine opsS_trans (Trans.freezeJ (T' := [(0, .ptr 1 0), (2, .ptr 2 0), (3, .ptr 1 0), (10, .view 3 0 6), (12, .ptr 1 0), (13, B (flagR (takeN t 6)).1), (15, .ptr 1 0), (16, .ptr 1 0), (17, .bnd 79 1 [.ptr 1 0]), (18, .pv (.slc (takeE ((flagR (takeN t 6)).2)).1.length false ((takeE ((flagR (takeN t 6)).2)).1.flatMap encGEffect)))]) (H' := [(2, .box [I (tval t 0), I (tval t 1), I (tval t 2), I (tval t 3), I (tval t 4), I (tval t 5), B (flagR (takeN t 6)).1, .pv (.slc 0 false [])]), (0, .row 3 1 (encI ((takeE ((flagR (takeN t 6)).2)).2).all)), (1, .box [.ref 0 1 ((takeE ((flagR (takeN t 6)).2)).2).pos ((takeE ((flagR (takeN t 6)).2)).2).left, B ((takeE ((flagR (takeN t 6)).2)).2).bad])]) [4] (by decide) ⟨⟨_, _, rfl, rfl, (by (repeat' apply And.intro) <;> first | trivial | rfl | exact flat_len (s := 3) (enc := encGEffect) (fun _ => rfl) _ | exact flat_len (fun _ => rfl) _ | exact encI_len _ | exact encB_len _ | exact encY_len _ | exact Nat.le_of_ble_eq_true rfl | assumption)⟩, ⟨_, _, rfl, rfl, (by (repeat' apply And.intro) <;> first | trivial | rfl | exact flat_len (s := 3) (enc := encGEffect) (fun _ => rfl) _ | exact flat_len (fun _ => rfl) _ | exact encI_len _ | exact encB_len _ | exact encY_len _ | exact Nat.le_of_ble_eq_true rfl | assumption)⟩, ⟨_, _, rfl, rfl, (by (repeat' apply And.intro) <;> first | trivial | rfl | exact flat_len (s := 3) (enc := encGEffect) (fun _ => rfl) _ | exact flat_len (fun _ => rfl) _ | exact encI_len _ | exact encB_len _ | exact encY_len _ | exact Nat.le_of_ble_eq_true rfl | assumption)⟩, ⟨_, _, rfl, rfl, (by (repeat' apply And.intro) <;> first | trivial | rfl | exact flat_len (s := 3) (enc := encGEffect) (fun _ => rfl) _ | exact flat_len (fun _ => rfl) _ | exact encI_len _ | exact encB_len _ | exact encY_len _ | exact Nat.le_of_ble_eq_true rfl | assumption)⟩, ⟨_, _, rfl, rfl, (by (repeat' apply And.intro) <;> first | trivial | rfl | exact flat_len (s := 3) (enc := encGEffect) (fun _ => rfl) _ | exact flat_len (fun _ => rfl) _ | exact encI_len _ | exact encB_len _ | exact encY_len _ | exact Nat.le_of_ble_eq_true rfl | assumption)⟩, ⟨_, _, rfl, rfl, (by (repeat' apply And.intro) <;> first | trivial | rfl | exact flat_len (s := 3) (enc := encGEffect) (fun _ => rfl) _ | exact flat_len (fun _ => rfl) _ | exact encI_len _ | exact encB_len _ | exact encY_len _ | exact Nat.le_of_ble_eq_true rfl | assumption)⟩, ⟨_, _, rfl, rfl, (by (repeat' apply And.intro) <;> first | trivial | rfl | exact flat_len (s := 3) (enc := encGEffect) (fun _ => rfl) _ | exact flat_len (fun _ => rfl) _ | exact encI_len _ | exact encB_len _ | exact encY_len _ | exact Nat.le_of_ble_eq_true rfl | assumption)⟩, ⟨_, _, rfl, rfl, (by (repeat' apply And.intro) <;> first | trivial | rfl | exact flat_len (s := 3) (enc := encGEffect) (fun _ => rfl) _ | exact flat_len (fun _ => rfl) _ | exact encI_len _ | exact encB_len _ | exact encY_len _ | exact Nat.le_of_ble_eq_true rfl | assumption)⟩, ⟨_, _, rfl, rfl, (by (repeat' apply And.intro) <;> first | trivial | rfl | exact flat_len (s := 3) (enc := encGEffect) (fun _ => rfl) _ | exact flat_len (fun _ => rfl) _ | exact encI_len _ | exact encB_len _ | exact encY_len _ | exact Nat.le_of_ble_eq_true rfl | assumption)⟩, ⟨_, _, rfl, rfl, (by (repeat' apply And.intro) <;> first | trivial | rfl | exact flat_len (s := 3) (enc := encGEffect) (fun _ => rfl) _ | exact flat_len (fun _ => rfl) _ | exact encI_len _ | exact encB_len _ | exact encY_len _ | exact Nat.le_of_ble_eq_true rfl | assumption)⟩, trivial⟩ ⟨⟨rfl, _, _, rfl, rfl, (by (repeat' apply And.intro) <;> first | trivial | rfl | exact flat_len (s := 3) (enc := encGEffect) (fun _ => rfl) _ | exact flat_len (fun _ => rfl) _ | exact encI_len _ | exact encB_len _ | exact encY_len _ | exact Nat.le_of_ble_eq_true rfl | assumption)⟩, ⟨rfl, _, _, rfl, rfl, (by (repeat' apply And.intro) <;> first | trivial | rfl | exact flat_len (s := 3) (enc := encGEffect) (fun _ => rfl) _ | exact flat_len (fun _ => rfl) _ | exact encI_len _ | exact encB_len _ | exact encY_len _ | exact Nat.le_of_ble_eq_true rfl | assumption)⟩, ⟨rfl, _, _, rfl, rfl, (by (repeat' apply And.intro) <;> first | trivial | rfl | exact flat_len (s := 3) (enc := encGEffect) (fun _ => rfl) _ | exact flat_len (fun _ => rfl) _ | exact encI_len _ | exact encB_len _ | exact encY_len _ | exact Nat.le_of_ble_eq_true rfl | assumption)⟩, trivial⟩) ?_
 refine opsS_of (j := 4) ?_
 refine step_r rfl rfl (by decide) ?_
 refine step_storeB (H' := [(2, .box [_, _, _, _, _, _, _, _]), (0, _), (1, _)]) rfl rfl rfl rfl rfl rfl (.inl rfl) rfl ?_
 refine step_nil (seqK_n (sem_seq (sem_region rfl (step_r (v := (.agg [_, _, _, _, _, _, _, _])) rfl rfl (Nat.le_of_ble_eq_true rfl) ?_))))
 refine step_storeB (H' := [(2, .box [_, _, _, _, _, _, _, _]), (0, _), (1, _)]) rfl rfl rfl rfl rfl rfl (.inl rfl) rfl ?_
 refine step_nil (seqK_n (sem_ret ?_))
 have e4 : abilR t = ((⟨(tval t 0), (tval t 1), (tval t 2), (tval t 3), (tval t 4), (tval t 5), (flagR (takeN t 6)).1, (takeE ((flagR (takeN t 6)).2)).1⟩ : GAbility), ((takeE ((flagR (takeN t 6)).2)).2)) := by
  unfold abilR
  try dsimp only
  all_goals rfl
 rw [e4]
 exact answersGR [] [] rfl ⟨Nat.le_of_ble_eq_true rfl, trivial⟩ rfl (by (repeat' apply And.intro) <;> first | trivial | rfl | exact flat_len (fun _ => rfl) _ | exact encI_len _ | exact encB_len _ | exact encY_len _ | assumption) (rfl) rfl rfl rfl (by decide) rfl rfl ⟨⟨rfl, rfl⟩, ⟨rfl, rfl⟩, trivial⟩

theorem abilR_le (t : GTk) (hT : t.left ≤ 16000000) : (abilR t).1.Effects.length ≤ t.left ∧ ((abilR t).2.left ≤ t.left ∧ (abilR t).2.all = t.all) := by
  have h1 := takeN_le t 6
  have h2 := flagR_le (takeN t 6)
  have h3 := takeE_le (flagR (takeN t 6)).2 (by omega)
  unfold abilR; dsimp only; exact ⟨by omega, by omega, h3.2.2.trans (h2.2.trans h1.2)⟩

def foeR (t : GTk) : GFoe × GTk :=
  ((⟨(tval t 0), (tval t 1), (tval t 2), (tval t 3), (tval t 4), (takeL (takeN t 6)).1, (takeP ((takeL (takeN t 6)).2)).1, (tval t 5)⟩ : GFoe), ((takeP ((takeL (takeN t 6)).2)).2))
theorem foeR_ok (t : GTk) (hT : t.left ≤ 16000000) : Ok Tryz.prog 43 [.ptr 1 0] [.row 3 1 (encI t.all), .box [.ref 0 1 t.pos t.left, B t.bad]] (aGFoe (foeR t).1) [.row 3 1 (encI ((foeR t).2).all), .box [.ref 0 1 ((foeR t).2).pos ((foeR t).2).left, B ((foeR t).2).bad]] [] := by
 have h1t := takeN_le t 6
 refine ok_of_sem Tryz.func43 rfl ?_
 show Walks Tryz.prog _ _ ⟨[(0, .ptr 1 0)], [(0, .row 3 1 (encI t.all)), (1, .box [.ref 0 1 t.pos t.left, B t.bad])], 2, [], 23, 2⟩
 refine sem_seq (sem_region rfl (step_n (o := .box [_, _, _, _, _, _, _, _]) (nx' := 3) rfl rfl rfl trivial (step_nil (seqK_n (sem_seq (sem_region rfl (step_r rfl rfl trivial (step_r rfl rfl (by decide) (step_r rfl rfl (by decide) (step_r rfl rfl (by decide) (step_r rfl rfl (by decide) ?_)))))))))))
 refine step_r rfl rfl (by decide) (step_r rfl rfl (by decide) (step_n (o := .box [_, _, _, _, _, _]) (nx' := 4) rfl rfl rfl (by decide) ?_))
 refine step_callM (Hin := [.row _ _ _, .box [.ref 0 _ _ _, .pv _], .box [.ptr 3 0, .ptr 3 1, .ptr 3 2, .ptr 3 3, .ptr 3 4, .ptr 3 7], .box [.pv _, .pv _, .pv _, .pv _, .pv _, .pv _, .pv _, .pv _]]) (H' := [(3, .box [_, _, _, _, _, _]), (2, .box [_, _, _, _, _, _, _, _]), (0, .row _ _ _), (1, .box [_, _])]) (nx' := 4) [0, 1, 3, 2] rfl rfl rfl rfl (.inl rfl) rfl rfl rfl rfl (into_ok t [i64 0, i64 0, i64 0, i64 0, i64 0, (.slc 0 true []), (.slc 0 true []), i64 0] [0, 1, 2, 3, 4, 7] rfl rfl) rfl (by decide) rfl rfl rfl rfl rfl ?_
 have p1 := takeN_le t 6
 refine step_nil (seqK_n (sem_seq ?_))
 refine sem_regionS rfl (opsS_cut 4 (j := 0) ?_)
 simp only [List.take_succ_cons, List.take_zero, List.drop_succ_cons, List.drop_zero]
 refine step_r rfl rfl trivial (step_r rfl rfl trivial (step_r (v := .bnd 81 1 [_]) rfl rfl trivial ?_))
 refine step_callM (Hin := [.row _ _ _, .box [.ref 0 _ _ _, .pv _]]) (out' := .ref 4 _ _ _) (H' := [(4, .row _ _ _), (3, .box [_, _, _, _, _, _]), (2, .box [_, _, _, _, _, _, _, _]), (0, .row _ _ _), (1, .box [_, _])]) (nx' := 5) [0, 1] rfl rfl rfl rfl (.inl rfl) rfl rfl rfl rfl (takeL_ok (takeN t 6) (by first | assumption | omega | (dsimp only [GTk.left] at *; omega))) rfl (by decide) rfl rfl rfl rfl rfl ?_
 have p2 := takeL_le (takeN t 6) (by first | assumption | omega | (dsimp only [GTk.left] at *; omega))
 refine step_nil ?_
 refine opsS_trans (Trans.freezeJ (T' := [(0, .ptr 1 0), (2, .ptr 2 0), (3, .ptr 1 0), (10, .view 3 0 6), (12, .ptr 1 0), (13, .ptr 1 0), (14, .bnd 81 1 [.ptr 1 0]), (15, .pv (.slc (takeL (takeN t 6)).1.length false ((takeL (takeN t 6)).1.flatMap encGLine)))]) (H' := [(2, .box [I (tval t 0), I (tval t 1), I (tval t 2), I (tval t 3), I (tval t 4), .pv (.slc 0 false []), .pv (.slc 0 false []), I (tval t 5)]), (0, .row 3 1 (encI ((takeL (takeN t 6)).2).all)), (1, .box [.ref 0 1 ((takeL (takeN t 6)).2).pos ((takeL (takeN t 6)).2).left, B ((takeL (takeN t 6)).2).bad])]) [4] (by decide) ⟨⟨_, _, rfl, rfl, (by (repeat' apply And.intro) <;> first | trivial | rfl | exact flat_len (s := 5) (enc := encGLine) (fun _ => rfl) _ | exact flat_len (fun _ => rfl) _ | exact encI_len _ | exact encB_len _ | exact encY_len _ | exact Nat.le_of_ble_eq_true rfl | assumption)⟩, ⟨_, _, rfl, rfl, (by (repeat' apply And.intro) <;> first | trivial | rfl | exact flat_len (s := 5) (enc := encGLine) (fun _ => rfl) _ | exact flat_len (fun _ => rfl) _ | exact encI_len _ | exact encB_len _ | exact encY_len _ | exact Nat.le_of_ble_eq_true rfl | assumption)⟩, ⟨_, _, rfl, rfl, (by (repeat' apply And.intro) <;> first | trivial | rfl | exact flat_len (s := 5) (enc := encGLine) (fun _ => rfl) _ | exact flat_len (fun _ => rfl) _ | exact encI_len _ | exact encB_len _ | exact encY_len _ | exact Nat.le_of_ble_eq_true rfl | assumption)⟩, ⟨_, _, rfl, rfl, (by (repeat' apply And.intro) <;> first | trivial | rfl | exact flat_len (s := 5) (enc := encGLine) (fun _ => rfl) _ | exact flat_len (fun _ => rfl) _ | exact encI_len _ | exact encB_len _ | exact encY_len _ | exact Nat.le_of_ble_eq_true rfl | assumption)⟩, ⟨_, _, rfl, rfl, (by (repeat' apply And.intro) <;> first | trivial | rfl | exact flat_len (s := 5) (enc := encGLine) (fun _ => rfl) _ | exact flat_len (fun _ => rfl) _ | exact encI_len _ | exact encB_len _ | exact encY_len _ | exact Nat.le_of_ble_eq_true rfl | assumption)⟩, ⟨_, _, rfl, rfl, (by (repeat' apply And.intro) <;> first | trivial | rfl | exact flat_len (s := 5) (enc := encGLine) (fun _ => rfl) _ | exact flat_len (fun _ => rfl) _ | exact encI_len _ | exact encB_len _ | exact encY_len _ | exact Nat.le_of_ble_eq_true rfl | assumption)⟩, ⟨_, _, rfl, rfl, (by (repeat' apply And.intro) <;> first | trivial | rfl | exact flat_len (s := 5) (enc := encGLine) (fun _ => rfl) _ | exact flat_len (fun _ => rfl) _ | exact encI_len _ | exact encB_len _ | exact encY_len _ | exact Nat.le_of_ble_eq_true rfl | assumption)⟩, ⟨_, _, rfl, rfl, (by (repeat' apply And.intro) <;> first | trivial | rfl | exact flat_len (s := 5) (enc := encGLine) (fun _ => rfl) _ | exact flat_len (fun _ => rfl) _ | exact encI_len _ | exact encB_len _ | exact encY_len _ | exact Nat.le_of_ble_eq_true rfl | assumption)⟩, trivial⟩ ⟨⟨rfl, _, _, rfl, rfl, (by (repeat' apply And.intro) <;> first | trivial | rfl | exact flat_len (s := 5) (enc := encGLine) (fun _ => rfl) _ | exact flat_len (fun _ => rfl) _ | exact encI_len _ | exact encB_len _ | exact encY_len _ | exact Nat.le_of_ble_eq_true rfl | assumption)⟩, ⟨rfl, _, _, rfl, rfl, (by (repeat' apply And.intro) <;> first | trivial | rfl | exact flat_len (s := 5) (enc := encGLine) (fun _ => rfl) _ | exact flat_len (fun _ => rfl) _ | exact encI_len _ | exact encB_len _ | exact encY_len _ | exact Nat.le_of_ble_eq_true rfl | assumption)⟩, ⟨rfl, _, _, rfl, rfl, (by (repeat' apply And.intro) <;> first | trivial | rfl | exact flat_len (s := 5) (enc := encGLine) (fun _ => rfl) _ | exact flat_len (fun _ => rfl) _ | exact encI_len _ | exact encB_len _ | exact encY_len _ | exact Nat.le_of_ble_eq_true rfl | assumption)⟩, trivial⟩) ?_
 refine opsS_of (j := 4) ?_
 refine step_r rfl rfl (by decide) ?_
 refine step_storeB (H' := [(2, .box [_, _, _, _, _, _, _, _]), (0, _), (1, _)]) rfl rfl rfl rfl rfl rfl (.inl rfl) rfl ?_
 refine step_nil (seqK_n (sem_seq ?_))
 refine sem_regionS rfl (opsS_cut 4 (j := 0) ?_)
 simp only [List.take_succ_cons, List.take_zero, List.drop_succ_cons, List.drop_zero]
 refine step_r rfl rfl trivial (step_r rfl rfl trivial (step_r (v := .bnd 83 1 [_]) rfl rfl trivial ?_))
 refine step_callM (Hin := [.row _ _ _, .box [.ref 0 _ _ _, .pv _]]) (out' := .ref 5 _ _ _) (H' := [(5, .row _ _ _), (2, .box [_, _, _, _, _, _, _, _]), (0, .row _ _ _), (1, .box [_, _])]) (nx' := 6) [0, 1] rfl rfl rfl rfl (.inl rfl) rfl rfl rfl rfl (takeP_ok ((takeL (takeN t 6)).2) (by first | assumption | omega | (dsimp only [GTk.left] at *; omega))) rfl (by decide) rfl rfl rfl rfl rfl ?_
 have p3 := takeP_le ((takeL (takeN t 6)).2) (by first | assumption | omega | (dsimp only [GTk.left] at *; omega))
 refine step_nil ?_
 refine opsS_trans (Trans.freezeJ (T' := [(0, .ptr 1 0), (2, .ptr 2 0), (3, .ptr 1 0), (10, .view 3 0 6), (12, .ptr 1 0), (13, .ptr 1 0), (14, .bnd 81 1 [.ptr 1 0]), (15, .pv (.slc (takeL (takeN t 6)).1.length false ((takeL (takeN t 6)).1.flatMap encGLine))), (17, .ptr 1 0), (18, .ptr 1 0), (19, .bnd 83 1 [.ptr 1 0]), (20, .pv (.slc (takeP ((takeL (takeN t 6)).2)).1.length false ((takeP ((takeL (takeN t 6)).2)).1.flatMap encGPrize)))]) (H' := [(2, .box [I (tval t 0), I (tval t 1), I (tval t 2), I (tval t 3), I (tval t 4), .pv (.slc (takeL (takeN t 6)).1.length false ((takeL (takeN t 6)).1.flatMap encGLine)), .pv (.slc 0 false []), I (tval t 5)]), (0, .row 3 1 (encI ((takeP ((takeL (takeN t 6)).2)).2).all)), (1, .box [.ref 0 1 ((takeP ((takeL (takeN t 6)).2)).2).pos ((takeP ((takeL (takeN t 6)).2)).2).left, B ((takeP ((takeL (takeN t 6)).2)).2).bad])]) [5] (by decide) ⟨⟨_, _, rfl, rfl, (by (repeat' apply And.intro) <;> first | trivial | rfl | exact flat_len (s := 2) (enc := encGPrize) (fun _ => rfl) _ | exact flat_len (fun _ => rfl) _ | exact encI_len _ | exact encB_len _ | exact encY_len _ | exact Nat.le_of_ble_eq_true rfl | assumption)⟩, ⟨_, _, rfl, rfl, (by (repeat' apply And.intro) <;> first | trivial | rfl | exact flat_len (s := 2) (enc := encGPrize) (fun _ => rfl) _ | exact flat_len (fun _ => rfl) _ | exact encI_len _ | exact encB_len _ | exact encY_len _ | exact Nat.le_of_ble_eq_true rfl | assumption)⟩, ⟨_, _, rfl, rfl, (by (repeat' apply And.intro) <;> first | trivial | rfl | exact flat_len (s := 2) (enc := encGPrize) (fun _ => rfl) _ | exact flat_len (fun _ => rfl) _ | exact encI_len _ | exact encB_len _ | exact encY_len _ | exact Nat.le_of_ble_eq_true rfl | assumption)⟩, ⟨_, _, rfl, rfl, (by (repeat' apply And.intro) <;> first | trivial | rfl | exact flat_len (s := 2) (enc := encGPrize) (fun _ => rfl) _ | exact flat_len (fun _ => rfl) _ | exact encI_len _ | exact encB_len _ | exact encY_len _ | exact Nat.le_of_ble_eq_true rfl | assumption)⟩, ⟨_, _, rfl, rfl, (by (repeat' apply And.intro) <;> first | trivial | rfl | exact flat_len (s := 2) (enc := encGPrize) (fun _ => rfl) _ | exact flat_len (fun _ => rfl) _ | exact encI_len _ | exact encB_len _ | exact encY_len _ | exact Nat.le_of_ble_eq_true rfl | assumption)⟩, ⟨_, _, rfl, rfl, (by (repeat' apply And.intro) <;> first | trivial | rfl | exact flat_len (s := 2) (enc := encGPrize) (fun _ => rfl) _ | exact flat_len (fun _ => rfl) _ | exact encI_len _ | exact encB_len _ | exact encY_len _ | exact Nat.le_of_ble_eq_true rfl | assumption)⟩, ⟨_, _, rfl, rfl, (by (repeat' apply And.intro) <;> first | trivial | rfl | exact flat_len (s := 2) (enc := encGPrize) (fun _ => rfl) _ | exact flat_len (fun _ => rfl) _ | exact encI_len _ | exact encB_len _ | exact encY_len _ | exact Nat.le_of_ble_eq_true rfl | assumption)⟩, ⟨_, _, rfl, rfl, (by (repeat' apply And.intro) <;> first | trivial | rfl | exact flat_len (s := 2) (enc := encGPrize) (fun _ => rfl) _ | exact flat_len (fun _ => rfl) _ | exact encI_len _ | exact encB_len _ | exact encY_len _ | exact Nat.le_of_ble_eq_true rfl | assumption)⟩, ⟨_, _, rfl, rfl, (by (repeat' apply And.intro) <;> first | trivial | rfl | exact flat_len (s := 2) (enc := encGPrize) (fun _ => rfl) _ | exact flat_len (fun _ => rfl) _ | exact encI_len _ | exact encB_len _ | exact encY_len _ | exact Nat.le_of_ble_eq_true rfl | assumption)⟩, ⟨_, _, rfl, rfl, (by (repeat' apply And.intro) <;> first | trivial | rfl | exact flat_len (s := 2) (enc := encGPrize) (fun _ => rfl) _ | exact flat_len (fun _ => rfl) _ | exact encI_len _ | exact encB_len _ | exact encY_len _ | exact Nat.le_of_ble_eq_true rfl | assumption)⟩, ⟨_, _, rfl, rfl, (by (repeat' apply And.intro) <;> first | trivial | rfl | exact flat_len (s := 2) (enc := encGPrize) (fun _ => rfl) _ | exact flat_len (fun _ => rfl) _ | exact encI_len _ | exact encB_len _ | exact encY_len _ | exact Nat.le_of_ble_eq_true rfl | assumption)⟩, ⟨_, _, rfl, rfl, (by (repeat' apply And.intro) <;> first | trivial | rfl | exact flat_len (s := 2) (enc := encGPrize) (fun _ => rfl) _ | exact flat_len (fun _ => rfl) _ | exact encI_len _ | exact encB_len _ | exact encY_len _ | exact Nat.le_of_ble_eq_true rfl | assumption)⟩, trivial⟩ ⟨⟨rfl, _, _, rfl, rfl, (by (repeat' apply And.intro) <;> first | trivial | rfl | exact flat_len (s := 2) (enc := encGPrize) (fun _ => rfl) _ | exact flat_len (fun _ => rfl) _ | exact encI_len _ | exact encB_len _ | exact encY_len _ | exact Nat.le_of_ble_eq_true rfl | assumption)⟩, ⟨rfl, _, _, rfl, rfl, (by (repeat' apply And.intro) <;> first | trivial | rfl | exact flat_len (s := 2) (enc := encGPrize) (fun _ => rfl) _ | exact flat_len (fun _ => rfl) _ | exact encI_len _ | exact encB_len _ | exact encY_len _ | exact Nat.le_of_ble_eq_true rfl | assumption)⟩, ⟨rfl, _, _, rfl, rfl, (by (repeat' apply And.intro) <;> first | trivial | rfl | exact flat_len (s := 2) (enc := encGPrize) (fun _ => rfl) _ | exact flat_len (fun _ => rfl) _ | exact encI_len _ | exact encB_len _ | exact encY_len _ | exact Nat.le_of_ble_eq_true rfl | assumption)⟩, trivial⟩) ?_
 refine opsS_of (j := 4) ?_
 refine step_r rfl rfl (by decide) ?_
 refine step_storeB (H' := [(2, .box [_, _, _, _, _, _, _, _]), (0, _), (1, _)]) rfl rfl rfl rfl rfl rfl (.inl rfl) rfl ?_
 refine step_nil (seqK_n (sem_seq (sem_region rfl (step_r (v := (.agg [_, _, _, _, _, _, _, _])) rfl rfl (Nat.le_of_ble_eq_true rfl) ?_))))
 refine step_storeB (H' := [(2, .box [_, _, _, _, _, _, _, _]), (0, _), (1, _)]) rfl rfl rfl rfl rfl rfl (.inl rfl) rfl ?_
 refine step_nil (seqK_n (sem_ret ?_))
 have e4 : foeR t = ((⟨(tval t 0), (tval t 1), (tval t 2), (tval t 3), (tval t 4), (takeL (takeN t 6)).1, (takeP ((takeL (takeN t 6)).2)).1, (tval t 5)⟩ : GFoe), ((takeP ((takeL (takeN t 6)).2)).2)) := by
  unfold foeR
  try dsimp only
  all_goals rfl
 rw [e4]
 exact answersGR [] [] rfl ⟨Nat.le_of_ble_eq_true rfl, trivial⟩ rfl (by (repeat' apply And.intro) <;> first | trivial | rfl | exact flat_len (fun _ => rfl) _ | exact encI_len _ | exact encB_len _ | exact encY_len _ | assumption) (rfl) rfl rfl rfl (by decide) rfl rfl ⟨⟨rfl, rfl⟩, ⟨rfl, rfl⟩, trivial⟩

theorem foeR_le (t : GTk) (hT : t.left ≤ 16000000) : ((foeR t).1.Script.length ≤ t.left ∧ (foeR t).1.Hoard.length ≤ t.left) ∧ ((foeR t).2.left ≤ t.left ∧ (foeR t).2.all = t.all) := by
  have h1 := takeN_le t 6
  have h2 := takeL_le (takeN t 6) (by omega)
  have h3 := takeP_le (takeL (takeN t 6)).2 (by omega)
  unfold foeR; dsimp only; exact ⟨⟨by omega, by omega⟩, by omega, h3.2.2.trans (h2.2.2.trans h1.2)⟩

def takeA_L0 : Nat → Nat → (List GAbility) → GTk → (List GAbility) × GTk
  | 0, k0, out0, o10 => (out0, o10)
  | n_ + 1, k0, out0, o10 => takeA_L0 n_ (k0 + 1) (out0 ++ [((abilR o10).1)]) ((abilR o10).2)
def takeA (t : GTk) : (List GAbility) × GTk :=
  if ((one t).2).bad = true then ([], (⟨((one t).2).all, ((one t).2).pos, true⟩ : GTk)) else if ((one t).1 : Int) < 0 then ([], (⟨((one t).2).all, ((one t).2).pos, true⟩ : GTk)) else if ((one t).1 : Int) > (IntKind.i64.wrap ((((one t).2).left : Int).tdiv 8)) then ([], (⟨((one t).2).all, ((one t).2).pos, true⟩ : GTk)) else (match takeA_L0 (((one t).1.toNat) - 0) 0 ([]) ((one t).2) with
    | (out_0, o1_0) => (out_0, o1_0))
theorem takeA_ok (t : GTk) (hT : t.left ≤ 16000000) : Ok Tryz.prog 38 [.ptr 1 0, I 8, .bnd 39 1 [.ptr 1 0]] [.row 3 1 (encI t.all), .box [.ref 0 1 t.pos t.left, B t.bad]] (.ref 2 8 0 (takeA t).1.length) [.row 3 1 (encI ((takeA t).2).all), .box [.ref 0 1 ((takeA t).2).pos ((takeA t).2).left, B ((takeA t).2).bad], .row 52 8 ((takeA t).1.flatMap encGAbility)] [] := by
 have h1t := one_le t
 refine ok_of_sem Tryz.func38 rfl ?_
 show Walks Tryz.prog _ _ ⟨[(0, .ptr 1 0), (1, I 8), (2, .bnd 39 1 [.ptr 1 0])], [(0, .row 3 1 (encI t.all)), (1, .box [.ref 0 1 t.pos t.left, B t.bad])], 2, [], 43, 2⟩
 refine sem_seq (sem_region rfl (step_n (nx' := 3) rfl rfl rfl trivial (step_nil (seqK_n (sem_seq (sem_region rfl (step_r rfl rfl trivial ?_)))))))
 refine step_callM (Hin := [.row _ _ _, .box [.ref 0 _ _ _, .pv _]]) (H' := [(2, .row _ _ _), (0, .row _ _ _), (1, .box [_, _])]) (nx' := 3) [0, 1] rfl rfl rfl rfl (.inl rfl) rfl rfl rfl rfl (one_ok t) rfl (by decide) rfl rfl rfl rfl rfl ?_
 refine step_r rfl rfl trivial (step_nil (seqK_n (sem_seq (sem_seq (sem_region rfl (step_r rfl rfl trivial (step_r rfl rfl trivial (step_r rfl rfl (by decide) (step_r rfl rfl trivial (step_r rfl rfl trivial ?_))))))))))
 refine step_gs rfl (fun h3 => ?_) (fun h3 => ?_)
 ·have g3 : ((one t).2).bad = true := h3
  refine step_g0 rfl h3 rfl (step_g0 rfl h3 rfl (step_pickT rfl h3 rfl rfl (step_r rfl rfl trivial (step_gf rfl rfl (step_gf rfl rfl (step_gf rfl rfl (step_gf rfl rfl (step_gf rfl rfl (step_gf rfl rfl (step_gf rfl rfl (step_gf rfl rfl ?_)))))))))))
  refine step_gf rfl rfl (step_r rfl rfl trivial (step_nil (seqK_n (sem_condT rfl (sem_seq (sem_region rfl (step_r rfl rfl trivial (step_r rfl rfl trivial (step_r rfl rfl (by decide) ?_)))))))))
  refine step_storeB (H' := [(2, _), (0, _), (1, .box [_, _])]) rfl rfl rfl rfl rfl rfl (.inl rfl) rfl ?_
  refine step_nil (seqK_n (sem_seq (sem_region rfl (step_n (nx' := 4) rfl rfl rfl trivial (step_nil (seqK_n (sem_ret (seqK_r ?_))))))))
  have e4 : takeA t = ([], (⟨((one t).2).all, ((one t).2).pos, true⟩ : GTk)) := by
   unfold takeA
   try dsimp only
   rewrite [if_pos g3]
   all_goals rfl
  rw [e4]
  exact answersGR [] [3] rfl ⟨trivial, trivial⟩ rfl (by (repeat' apply And.intro) <;> first | trivial | rfl | exact flat_len (fun _ => rfl) _ | exact encI_len _ | exact encB_len _ | exact encY_len _ | assumption) (rfl) rfl rfl rfl (by decide) rfl rfl ⟨⟨rfl, rfl⟩, ⟨rfl, rfl⟩, ⟨rfl, rfl⟩, trivial⟩
 ·have g3 : ¬ (((one t).2).bad = true) := boo_f h3
  refine step_g1 rfl h3 (step_r rfl rfl trivial (step_g1 rfl h3 (step_bin rfl rfl rfl rfl rfl trivial (step_pickF rfl h3 rfl rfl (step_r rfl rfl trivial ?_)))))
  refine step_gs rfl (fun h6 => ?_) (fun h6 => ?_)
  ·have g6 : ((one t).1 : Int) < 0 := of_decide_eq_true h6
   refine step_g0 rfl h6 rfl (step_g0 rfl h6 rfl (step_g0 rfl h6 rfl (step_g0 rfl h6 rfl (step_g0 rfl h6 rfl (step_g0 rfl h6 rfl (step_g0 rfl h6 rfl (step_g0 rfl h6 rfl (step_g0 rfl h6 rfl (step_pickT rfl h6 rfl rfl (step_nil (seqK_n ?_)))))))))))
   refine sem_condT rfl (sem_seq (sem_region rfl (step_r rfl rfl trivial (step_r rfl rfl trivial (step_r rfl rfl (by decide) ?_)))))
   refine step_storeB (H' := [(2, _), (0, _), (1, .box [_, _])]) rfl rfl rfl rfl rfl rfl (.inl rfl) rfl ?_
   refine step_nil (seqK_n (sem_seq (sem_region rfl (step_n (nx' := 4) rfl rfl rfl trivial (step_nil (seqK_n (sem_ret (seqK_r ?_))))))))
   have e7 : takeA t = ([], (⟨((one t).2).all, ((one t).2).pos, true⟩ : GTk)) := by
    unfold takeA
    try dsimp only
    rewrite [if_neg g3, if_pos g6]
    all_goals rfl
   rw [e7]
   exact answersGR [] [3] rfl ⟨trivial, trivial⟩ rfl (by (repeat' apply And.intro) <;> first | trivial | rfl | exact flat_len (fun _ => rfl) _ | exact encI_len _ | exact encB_len _ | exact encY_len _ | assumption) (rfl) rfl rfl rfl (by decide) rfl rfl ⟨⟨rfl, rfl⟩, ⟨rfl, rfl⟩, ⟨rfl, rfl⟩, trivial⟩
  ·have g6 : ¬ (((one t).1 : Int) < 0) := of_decide_eq_false h6
   refine step_g1 rfl h6 (step_r rfl rfl trivial (step_g1 rfl h6 (step_r rfl rfl trivial (step_g1 rfl h6 (step_r rfl rfl trivial (step_g1 rfl h6 (step_r rfl rfl (by decide) (step_g1 rfl h6 (step_r rfl rfl trivial (step_g1 rfl h6 (step_r rfl rfl trivial ?_)))))))))))
   refine step_g1 rfl h6 (step_r rfl rfl trivial (step_g1 rfl h6 ?_))
   refine step_bin rfl rfl rfl rfl rfl (by first | decide | omega | (show (0 : Int) ≤ IntKind.i64.wrap _; rw [wrap_lt (by omega) (by omega)]; omega) | simp_all) ?_
   refine step_g1 rfl h6 (step_bin rfl rfl rfl rfl rfl trivial (step_pickF rfl h6 rfl rfl (step_nil (seqK_n ?_))))
   refine sem_cond rfl (fun h10 => ?_) (fun h10 => ?_)
   ·have g10 : ((one t).1 : Int) > (IntKind.i64.wrap ((((one t).2).left : Int).tdiv 8)) := of_decide_eq_true h10
    refine sem_seq (sem_region rfl (step_r rfl rfl trivial (step_r rfl rfl trivial (step_r rfl rfl (by decide) ?_))))
    refine step_storeB (H' := [(2, _), (0, _), (1, .box [_, _])]) rfl rfl rfl rfl rfl rfl (.inl rfl) rfl ?_
    refine step_nil (seqK_n (sem_seq (sem_region rfl (step_n (nx' := 4) rfl rfl rfl trivial (step_nil (seqK_n (sem_ret (seqK_r ?_))))))))
    have e11 : takeA t = ([], (⟨((one t).2).all, ((one t).2).pos, true⟩ : GTk)) := by
     unfold takeA
     try dsimp only
     rewrite [if_neg g3, if_neg g6, if_pos g10]
     all_goals rfl
    rw [e11]
    exact answersGR [] [3] rfl ⟨trivial, trivial⟩ rfl (by (repeat' apply And.intro) <;> first | trivial | rfl | exact flat_len (fun _ => rfl) _ | exact encI_len _ | exact encB_len _ | exact encY_len _ | assumption) (rfl) rfl rfl rfl (by decide) rfl rfl ⟨⟨rfl, rfl⟩, ⟨rfl, rfl⟩, ⟨rfl, rfl⟩, trivial⟩
   ·have g10 : ¬ (((one t).1 : Int) > (IntKind.i64.wrap ((((one t).2).left : Int).tdiv 8))) := of_decide_eq_false h10
    refine sem_skip (seqK_n (sem_seq (sem_region rfl (step_n (nx' := 4) rfl rfl rfl trivial (step_nil (seqK_n (sem_seq (sem_seq (sem_region rfl (step_r rfl rfl trivial (step_r rfl rfl trivial ?_)))))))))))
    refine step_nil (seqK_n ?_)
    refine sem_cutW (fun w_ : (List GAbility) × GTk => match w_ with | (out_0, o1_0) => (⟨[(8, .ref 2 8 0 out_0.length)], [(0, .row 3 1 (encI o1_0.all)), (1, .box [.ref 0 1 o1_0.pos o1_0.left, B o1_0.bad]), (2, .row 52 8 (out_0.flatMap encGAbility))], 3, [], 43, 2⟩ : St)) (fun w_ => takeA_L0 (((one t).1.toNat) - 0) 0 ([]) ((one t).2) = w_) ?_ ?_
    ·refine sem_block ?_
     refine sem_loopT (fun w_ : Nat × (List GAbility) × GTk => match w_ with | (k0, out0, o10) => (⟨[(2, .bnd 39 1 [.ptr 1 0]), (8, .ref 2 8 0 out0.length), (33, I (one t).1), (34, I k0)], [(0, .row 3 1 (encI o10.all)), (1, .box [.ref 0 1 o10.pos o10.left, B o10.bad]), (2, .row 52 8 (out0.flatMap encGAbility))], 3, [], 43, 2⟩ : St)) (fun w_ : Nat × (List GAbility) × GTk => match w_ with | (k0, out0, o10) => takeA_L0 (((one t).1.toNat) - k0) k0 out0 o10 = takeA_L0 (((one t).1.toNat) - 0) 0 ([]) ((one t).2) ∧ k0 ≤ (one t).1.toNat ∧ out0.length ≤ k0 ∧ o10.left ≤ t.left) (fun w_ : Nat × (List GAbility) × GTk => match w_ with | (k0, out0, o10) => (one t).1.toNat - k0) (0, [], ((one t).2)) (⟨rfl, (by first | omega | (simp; omega)), ⟨Nat.zero_le _, (one_le t).1⟩⟩) ?_ (fun w_ hh_ => ?_)
     ·exact (Trans.ren [(2, 3), (3, 2)] (by decide +kernel) (by decide +kernel) rfl ⟨⟨rfl, rfl⟩, ⟨congrArg (fun n => some (AV.ref 3 8 0 n)) (by first | rfl | simp only [List.length_set] | simp | omega | (simp; omega)), rfl⟩, ⟨rfl, rfl⟩, ⟨rfl, rfl⟩, trivial⟩ ⟨⟨rfl, rfl, rfl⟩, ⟨rfl, rfl, rfl⟩, ⟨rfl, rfl, rfl⟩, trivial⟩ (by decide))
     obtain ⟨k0, out0, o10⟩ := w_
     obtain ⟨hI0, hb0, hv0⟩ := hh_
     show Walks Tryz.prog _ _ (⟨[(2, .bnd 39 1 [.ptr 1 0]), (8, .ref 2 8 0 out0.length), (33, I (one t).1), (34, I k0)], [(0, .row 3 1 (encI o10.all)), (1, .box [.ref 0 1 o10.pos o10.left, B o10.bad]), (2, .row 52 8 (out0.flatMap encGAbility))], 3, [], 43, 2⟩ : St)
     have hq0 := takeq (n := (one t).1) (m := (one t).2.left) (s := 8) (by assumption) (by decide) (by omega)
     refine sem_seq (sem_region rfl (step_bin rfl rfl rfl rfl rfl trivial (step_nil (seqK_n (sem_seq ?_)))))
     refine sem_cond rfl (fun h13 => ?_) (fun h13 => ?_)
     ·have g13 : (k0 : Int) < ((one t).1) := of_decide_eq_true h13
      have hm0 : (one t).1.toNat - k0 = ((one t).1.toNat - (k0 + 1)) + 1 := by omega
      refine sem_skip (seqK_n (sem_seq (sem_block (sem_region rfl (step_r rfl rfl trivial (step_r rfl rfl trivial ?_))))))
      refine step_callM (Hin := [.row _ _ _, .box [.ref 0 _ _ _, .pv _]]) (H' := [(0, .row _ _ _), (1, .box [_, _]), (2, .row _ _ _)]) (nx' := 3) [0, 1] rfl rfl rfl rfl (.inl rfl) rfl rfl rfl rfl (abilR_ok o10 (by first | assumption | omega | (dsimp only [GTk.left] at *; omega))) rfl (by decide) rfl rfl rfl rfl rfl ?_
      have p14 := (abilR_le o10 (by first | assumption | omega)).2
      refine step_n (o := .row _ _ [_, _, _, _, _, _, _, _]) (nx' := 4) rfl rfl rfl (by decide) ?_
      refine step_appendC (m := 1) (new := [_, _, _, _, _, _, _, _]) (cs' := (out0 ++ [((abilR o10).1)]).flatMap encGAbility) (n' := (out0 ++ [((abilR o10).1)]).length) (H' := [(3, .row _ _ _), (0, .row _ _ _), (1, .box [_, _]), (2, .row _ _ _)]) rfl rfl rfl (rfl) rfl rfl rfl rfl rfl rfl (flat_len (s := 8) (enc := encGAbility) (fun _ => rfl) out0) (rfl) (by first | decide | (unfold maxGrow; omega) | (unfold maxGrow; simp; omega) | (unfold maxGrow; simp only [List.length_append, List.length_take, List.length_drop, List.length_cons, List.length_nil, IntKind.wrap_i64] at *; omega)) (len_snoc out0 _) (((flat_snoc (enc := encGAbility) (l := out0) ((abilR o10).1))).symm) (.inl rfl) rfl rfl (.keep rfl (.keep rfl (.keep rfl (.keep rfl .nil)))) (.keep rfl (.keep rfl (.keep rfl (.lose (v' := .undef) rfl (.keep rfl (.keep rfl (.lose (v' := .undef) rfl (.keep rfl (.keep rfl .nil))))))))) ?_
      refine step_r rfl rfl trivial (step_nil (blkK_n (seqK_n (sem_region rfl (step_bin rfl rfl rfl rfl rfl trivial (step_r rfl rfl trivial (step_nil ?_)))))))
      have e16 : takeA_L0 (((one t).1.toNat) - k0) k0 out0 o10 = takeA_L0 (((one t).1.toNat) - (k0 + 1)) (k0 + 1) (out0 ++ [((abilR o10).1)]) ((abilR o10).2) := by
       rewrite [hm0]
       rewrite [takeA_L0]
       try dsimp only
       all_goals rfl
      exact lup_againT (k0 + 1, (out0 ++ [((abilR o10).1)]), ((abilR o10).2)) ⟨e16.symm.trans hI0, (by omega), ⟨by simp only [List.length_append, List.length_cons, List.length_nil]; omega, by omega⟩⟩ (by show (one t).1.toNat - (k0 + 1) < (one t).1.toNat - k0; omega) (Trans.ren [] (by decide +kernel) (by decide +kernel) rfl ⟨⟨rfl, rfl⟩, ⟨rfl, rfl⟩, ⟨rfl, rfl⟩, ⟨congrArg (fun n => some (I n)) (wrapI (k := k0) (by first | omega | (simp; omega))), rfl⟩, trivial⟩ ⟨⟨rfl, rfl, rfl⟩, ⟨rfl, rfl, rfl⟩, ⟨rfl, rfl, rfl⟩, trivial⟩ (by decide))
     ·have g13 : ¬ ((k0 : Int) < ((one t).1)) := of_decide_eq_false h13
      have hm0 : (one t).1.toNat - k0 = 0 := by omega
      refine sem_exit (seqK_e (lupK_e (blkK_t rfl ?_)))
      have e17 : takeA_L0 (((one t).1.toNat) - 0) 0 ([]) ((one t).2) = (out0, o10) := by
       rewrite [← hI0, hm0]
       rewrite [takeA_L0]
       try dsimp only
       all_goals rfl
      exact cutW_n (out0, o10) e17 (Trans.ren [] (by decide +kernel) (by decide +kernel) rfl ⟨⟨rfl, rfl⟩, trivial⟩ ⟨⟨rfl, rfl, rfl⟩, ⟨rfl, rfl, rfl⟩, ⟨rfl, rfl, rfl⟩, trivial⟩ (by decide))
    ·rintro ⟨out_0, o1_0⟩ (hJ12 : takeA_L0 (((one t).1.toNat) - 0) 0 ([]) ((one t).2) = (out_0, o1_0))
     show seqK _ _ _ .normal (⟨[(8, .ref 2 8 0 out_0.length)], [(0, .row 3 1 (encI o1_0.all)), (1, .box [.ref 0 1 o1_0.pos o1_0.left, B o1_0.bad]), (2, .row 52 8 (out_0.flatMap encGAbility))], 3, [], 43, 2⟩ : St)
     refine seqK_n (sem_seq (sem_region rfl (step_r rfl rfl trivial (step_r rfl rfl trivial (step_nil (seqK_n (sem_ret ?_)))))))
     have e18 : takeA t = (out_0, o1_0) := by
      unfold takeA
      try dsimp only
      rewrite [if_neg g3, if_neg g6, if_neg g10, hJ12]
      try dsimp only
      all_goals rfl
     rw [e18]
     exact answersGR [] [2] rfl ⟨trivial, trivial⟩ rfl (by (repeat' apply And.intro) <;> first | trivial | rfl | exact flat_len (fun _ => rfl) _ | exact encI_len _ | exact encB_len _ | exact encY_len _ | assumption) (rfl) rfl rfl rfl (by decide) rfl rfl ⟨⟨rfl, rfl⟩, ⟨rfl, rfl⟩, ⟨rfl, rfl⟩, trivial⟩

theorem takeA_L0_le (N : Nat) (hN : N ≤ 16000000) : ∀ (m k : Nat) (out : List GAbility) (t : GTk), t.left ≤ N → (∀ x ∈ out, x.Effects.length ≤ N) → (takeA_L0 m k out t).1.length = out.length + m ∧ ((takeA_L0 m k out t).2.left ≤ t.left ∧ (takeA_L0 m k out t).2.all = t.all) ∧ ∀ x ∈ (takeA_L0 m k out t).1, x.Effects.length ≤ N
  | 0, k, out, t, _, ho => by rw [takeA_L0]; exact ⟨rfl, ⟨Nat.le_refl _, rfl⟩, ho⟩
  | m + 1, k, out, t, ht, ho => by
    rw [takeA_L0]
    have h1 := abilR_le t (by omega)
    obtain ⟨h2, h3, h4⟩ := takeA_L0_le N hN m (k + 1) (out ++ [(abilR t).1]) (abilR t).2 (by omega) (fun x hx => by
      rcases List.mem_append.1 hx with h | h
      · exact ho x h
      · simp only [List.mem_cons, List.not_mem_nil, or_false] at h; subst h; exact Nat.le_trans h1.1 ht)
    simp only [List.length_append, List.length_cons, List.length_nil] at h2
    exact ⟨by omega, ⟨by omega, h3.2.trans (h1.2.2)⟩, h4⟩
theorem takeA_le (t : GTk) (hT : t.left ≤ 16000000) : (takeA t).1.length ≤ t.left ∧ ((takeA t).2.left ≤ t.left ∧ (takeA t).2.all = t.all) ∧ ∀ x ∈ (takeA t).1, let N := t.left; x.Effects.length ≤ N := by
  have h1 := one_le t
  unfold takeA
  dsimp only
  by_cases h2 : (one t).2.bad = true
  · rw [if_pos h2]; exact ⟨Nat.zero_le _, h1, fun x hx => by cases hx⟩
  rw [if_neg h2]
  by_cases h3 : (one t).1 < 0
  · rw [if_pos h3]; exact ⟨Nat.zero_le _, h1, fun x hx => by cases hx⟩
  rw [if_neg h3]
  by_cases h4 : (one t).1 > (IntKind.i64.wrap (((one t).2.left : Int).tdiv 8))
  · rw [if_pos h4]; exact ⟨Nat.zero_le _, h1, fun x hx => by cases hx⟩
  rw [if_neg h4]
  have hq := takeq h4 (by decide) (by omega)
  obtain ⟨h5, h6, h7⟩ := takeA_L0_le t.left hT ((one t).1.toNat - 0) 0 [] (one t).2 h1.1 (fun x hx => by cases hx)
  simp only [List.length_nil] at h5
  refine ⟨?_, ⟨?_, h6.2.trans h1.2⟩, h7⟩ <;> dsimp only <;> omega

def takeF_L0 : Nat → Nat → (List GFoe) → GTk → (List GFoe) × GTk
  | 0, k0, out0, o10 => (out0, o10)
  | n_ + 1, k0, out0, o10 => takeF_L0 n_ (k0 + 1) (out0 ++ [((foeR o10).1)]) ((foeR o10).2)
def takeF (t : GTk) : (List GFoe) × GTk :=
  if ((one t).2).bad = true then ([], (⟨((one t).2).all, ((one t).2).pos, true⟩ : GTk)) else if ((one t).1 : Int) < 0 then ([], (⟨((one t).2).all, ((one t).2).pos, true⟩ : GTk)) else if ((one t).1 : Int) > (IntKind.i64.wrap ((((one t).2).left : Int).tdiv 8)) then ([], (⟨((one t).2).all, ((one t).2).pos, true⟩ : GTk)) else (match takeF_L0 (((one t).1.toNat) - 0) 0 ([]) ((one t).2) with
    | (out_0, o1_0) => (out_0, o1_0))
theorem takeF_ok (t : GTk) (hT : t.left ≤ 16000000) : Ok Tryz.prog 42 [.ptr 1 0, I 8, .bnd 43 1 [.ptr 1 0]] [.row 3 1 (encI t.all), .box [.ref 0 1 t.pos t.left, B t.bad]] (.ref 2 8 0 (takeF t).1.length) [.row 3 1 (encI ((takeF t).2).all), .box [.ref 0 1 ((takeF t).2).pos ((takeF t).2).left, B ((takeF t).2).bad], .row 56 8 ((takeF t).1.flatMap encGFoe)] [] := by
 have h1t := one_le t
 refine ok_of_sem Tryz.func42 rfl ?_
 show Walks Tryz.prog _ _ ⟨[(0, .ptr 1 0), (1, I 8), (2, .bnd 43 1 [.ptr 1 0])], [(0, .row 3 1 (encI t.all)), (1, .box [.ref 0 1 t.pos t.left, B t.bad])], 2, [], 43, 2⟩
 refine sem_seq (sem_region rfl (step_n (nx' := 3) rfl rfl rfl trivial (step_nil (seqK_n (sem_seq (sem_region rfl (step_r rfl rfl trivial ?_)))))))
 refine step_callM (Hin := [.row _ _ _, .box [.ref 0 _ _ _, .pv _]]) (H' := [(2, .row _ _ _), (0, .row _ _ _), (1, .box [_, _])]) (nx' := 3) [0, 1] rfl rfl rfl rfl (.inl rfl) rfl rfl rfl rfl (one_ok t) rfl (by decide) rfl rfl rfl rfl rfl ?_
 refine step_r rfl rfl trivial (step_nil (seqK_n (sem_seq (sem_seq (sem_region rfl (step_r rfl rfl trivial (step_r rfl rfl trivial (step_r rfl rfl (by decide) (step_r rfl rfl trivial (step_r rfl rfl trivial ?_))))))))))
 refine step_gs rfl (fun h3 => ?_) (fun h3 => ?_)
 ·have g3 : ((one t).2).bad = true := h3
  refine step_g0 rfl h3 rfl (step_g0 rfl h3 rfl (step_pickT rfl h3 rfl rfl (step_r rfl rfl trivial (step_gf rfl rfl (step_gf rfl rfl (step_gf rfl rfl (step_gf rfl rfl (step_gf rfl rfl (step_gf rfl rfl (step_gf rfl rfl (step_gf rfl rfl ?_)))))))))))
  refine step_gf rfl rfl (step_r rfl rfl trivial (step_nil (seqK_n (sem_condT rfl (sem_seq (sem_region rfl (step_r rfl rfl trivial (step_r rfl rfl trivial (step_r rfl rfl (by decide) ?_)))))))))
  refine step_storeB (H' := [(2, _), (0, _), (1, .box [_, _])]) rfl rfl rfl rfl rfl rfl (.inl rfl) rfl ?_
  refine step_nil (seqK_n (sem_seq (sem_region rfl (step_n (nx' := 4) rfl rfl rfl trivial (step_nil (seqK_n (sem_ret (seqK_r ?_))))))))
  have e4 : takeF t = ([], (⟨((one t).2).all, ((one t).2).pos, true⟩ : GTk)) := by
   unfold takeF
   try dsimp only
   rewrite [if_pos g3]
   all_goals rfl
  rw [e4]
  exact answersGR [] [3] rfl ⟨trivial, trivial⟩ rfl (by (repeat' apply And.intro) <;> first | trivial | rfl | exact flat_len (fun _ => rfl) _ | exact encI_len _ | exact encB_len _ | exact encY_len _ | assumption) (rfl) rfl rfl rfl (by decide) rfl rfl ⟨⟨rfl, rfl⟩, ⟨rfl, rfl⟩, ⟨rfl, rfl⟩, trivial⟩
 ·have g3 : ¬ (((one t).2).bad = true) := boo_f h3
  refine step_g1 rfl h3 (step_r rfl rfl trivial (step_g1 rfl h3 (step_bin rfl rfl rfl rfl rfl trivial (step_pickF rfl h3 rfl rfl (step_r rfl rfl trivial ?_)))))
  refine step_gs rfl (fun h6 => ?_) (fun h6 => ?_)
  ·have g6 : ((one t).1 : Int) < 0 := of_decide_eq_true h6
   refine step_g0 rfl h6 rfl (step_g0 rfl h6 rfl (step_g0 rfl h6 rfl (step_g0 rfl h6 rfl (step_g0 rfl h6 rfl (step_g0 rfl h6 rfl (step_g0 rfl h6 rfl (step_g0 rfl h6 rfl (step_g0 rfl h6 rfl (step_pickT rfl h6 rfl rfl (step_nil (seqK_n ?_)))))))))))
   refine sem_condT rfl (sem_seq (sem_region rfl (step_r rfl rfl trivial (step_r rfl rfl trivial (step_r rfl rfl (by decide) ?_)))))
   refine step_storeB (H' := [(2, _), (0, _), (1, .box [_, _])]) rfl rfl rfl rfl rfl rfl (.inl rfl) rfl ?_
   refine step_nil (seqK_n (sem_seq (sem_region rfl (step_n (nx' := 4) rfl rfl rfl trivial (step_nil (seqK_n (sem_ret (seqK_r ?_))))))))
   have e7 : takeF t = ([], (⟨((one t).2).all, ((one t).2).pos, true⟩ : GTk)) := by
    unfold takeF
    try dsimp only
    rewrite [if_neg g3, if_pos g6]
    all_goals rfl
   rw [e7]
   exact answersGR [] [3] rfl ⟨trivial, trivial⟩ rfl (by (repeat' apply And.intro) <;> first | trivial | rfl | exact flat_len (fun _ => rfl) _ | exact encI_len _ | exact encB_len _ | exact encY_len _ | assumption) (rfl) rfl rfl rfl (by decide) rfl rfl ⟨⟨rfl, rfl⟩, ⟨rfl, rfl⟩, ⟨rfl, rfl⟩, trivial⟩
  ·have g6 : ¬ (((one t).1 : Int) < 0) := of_decide_eq_false h6
   refine step_g1 rfl h6 (step_r rfl rfl trivial (step_g1 rfl h6 (step_r rfl rfl trivial (step_g1 rfl h6 (step_r rfl rfl trivial (step_g1 rfl h6 (step_r rfl rfl (by decide) (step_g1 rfl h6 (step_r rfl rfl trivial (step_g1 rfl h6 (step_r rfl rfl trivial ?_)))))))))))
   refine step_g1 rfl h6 (step_r rfl rfl trivial (step_g1 rfl h6 ?_))
   refine step_bin rfl rfl rfl rfl rfl (by first | decide | omega | (show (0 : Int) ≤ IntKind.i64.wrap _; rw [wrap_lt (by omega) (by omega)]; omega) | simp_all) ?_
   refine step_g1 rfl h6 (step_bin rfl rfl rfl rfl rfl trivial (step_pickF rfl h6 rfl rfl (step_nil (seqK_n ?_))))
   refine sem_cond rfl (fun h10 => ?_) (fun h10 => ?_)
   ·have g10 : ((one t).1 : Int) > (IntKind.i64.wrap ((((one t).2).left : Int).tdiv 8)) := of_decide_eq_true h10
    refine sem_seq (sem_region rfl (step_r rfl rfl trivial (step_r rfl rfl trivial (step_r rfl rfl (by decide) ?_))))
    refine step_storeB (H' := [(2, _), (0, _), (1, .box [_, _])]) rfl rfl rfl rfl rfl rfl (.inl rfl) rfl ?_
    refine step_nil (seqK_n (sem_seq (sem_region rfl (step_n (nx' := 4) rfl rfl rfl trivial (step_nil (seqK_n (sem_ret (seqK_r ?_))))))))
    have e11 : takeF t = ([], (⟨((one t).2).all, ((one t).2).pos, true⟩ : GTk)) := by
     unfold takeF
     try dsimp only
     rewrite [if_neg g3, if_neg g6, if_pos g10]
     all_goals rfl
    rw [e11]
    exact answersGR [] [3] rfl ⟨trivial, trivial⟩ rfl (by (repeat' apply And.intro) <;> first | trivial | rfl | exact flat_len (fun _ => rfl) _ | exact encI_len _ | exact encB_len _ | exact encY_len _ | assumption) (rfl) rfl rfl rfl (by decide) rfl rfl ⟨⟨rfl, rfl⟩, ⟨rfl, rfl⟩, ⟨rfl, rfl⟩, trivial⟩
   ·have g10 : ¬ (((one t).1 : Int) > (IntKind.i64.wrap ((((one t).2).left : Int).tdiv 8))) := of_decide_eq_false h10
    refine sem_skip (seqK_n (sem_seq (sem_region rfl (step_n (nx' := 4) rfl rfl rfl trivial (step_nil (seqK_n (sem_seq (sem_seq (sem_region rfl (step_r rfl rfl trivial (step_r rfl rfl trivial ?_)))))))))))
    refine step_nil (seqK_n ?_)
    refine sem_cutW (fun w_ : (List GFoe) × GTk => match w_ with | (out_0, o1_0) => (⟨[(8, .ref 2 8 0 out_0.length)], [(0, .row 3 1 (encI o1_0.all)), (1, .box [.ref 0 1 o1_0.pos o1_0.left, B o1_0.bad]), (2, .row 56 8 (out_0.flatMap encGFoe))], 3, [], 43, 2⟩ : St)) (fun w_ => takeF_L0 (((one t).1.toNat) - 0) 0 ([]) ((one t).2) = w_) ?_ ?_
    ·refine sem_block ?_
     refine sem_loopT (fun w_ : Nat × (List GFoe) × GTk => match w_ with | (k0, out0, o10) => (⟨[(2, .bnd 43 1 [.ptr 1 0]), (8, .ref 2 8 0 out0.length), (33, I (one t).1), (34, I k0)], [(0, .row 3 1 (encI o10.all)), (1, .box [.ref 0 1 o10.pos o10.left, B o10.bad]), (2, .row 56 8 (out0.flatMap encGFoe))], 3, [], 43, 2⟩ : St)) (fun w_ : Nat × (List GFoe) × GTk => match w_ with | (k0, out0, o10) => takeF_L0 (((one t).1.toNat) - k0) k0 out0 o10 = takeF_L0 (((one t).1.toNat) - 0) 0 ([]) ((one t).2) ∧ k0 ≤ (one t).1.toNat ∧ out0.length ≤ k0 ∧ o10.left ≤ t.left) (fun w_ : Nat × (List GFoe) × GTk => match w_ with | (k0, out0, o10) => (one t).1.toNat - k0) (0, [], ((one t).2)) (⟨rfl, (by first | omega | (simp; omega)), ⟨Nat.zero_le _, (one_le t).1⟩⟩) ?_ (fun w_ hh_ => ?_)
     ·exact (Trans.ren [(2, 3), (3, 2)] (by decide +kernel) (by decide +kernel) rfl ⟨⟨rfl, rfl⟩, ⟨congrArg (fun n => some (AV.ref 3 8 0 n)) (by first | rfl | simp only [List.length_set] | simp | omega | (simp; omega)), rfl⟩, ⟨rfl, rfl⟩, ⟨rfl, rfl⟩, trivial⟩ ⟨⟨rfl, rfl, rfl⟩, ⟨rfl, rfl, rfl⟩, ⟨rfl, rfl, rfl⟩, trivial⟩ (by decide))
     obtain ⟨k0, out0, o10⟩ := w_
     obtain ⟨hI0, hb0, hv0⟩ := hh_
     show Walks Tryz.prog _ _ (⟨[(2, .bnd 43 1 [.ptr 1 0]), (8, .ref 2 8 0 out0.length), (33, I (one t).1), (34, I k0)], [(0, .row 3 1 (encI o10.all)), (1, .box [.ref 0 1 o10.pos o10.left, B o10.bad]), (2, .row 56 8 (out0.flatMap encGFoe))], 3, [], 43, 2⟩ : St)
     have hq0 := takeq (n := (one t).1) (m := (one t).2.left) (s := 8) (by assumption) (by decide) (by omega)
     refine sem_seq (sem_region rfl (step_bin rfl rfl rfl rfl rfl trivial (step_nil (seqK_n (sem_seq ?_)))))
     refine sem_cond rfl (fun h13 => ?_) (fun h13 => ?_)
     ·have g13 : (k0 : Int) < ((one t).1) := of_decide_eq_true h13
      have hm0 : (one t).1.toNat - k0 = ((one t).1.toNat - (k0 + 1)) + 1 := by omega
      refine sem_skip (seqK_n (sem_seq (sem_block (sem_region rfl (step_r rfl rfl trivial (step_r rfl rfl trivial ?_))))))
      refine step_callM (Hin := [.row _ _ _, .box [.ref 0 _ _ _, .pv _]]) (H' := [(0, .row _ _ _), (1, .box [_, _]), (2, .row _ _ _)]) (nx' := 3) [0, 1] rfl rfl rfl rfl (.inl rfl) rfl rfl rfl rfl (foeR_ok o10 (by first | assumption | omega | (dsimp only [GTk.left] at *; omega))) rfl (by decide) rfl rfl rfl rfl rfl ?_
      have p14 := (foeR_le o10 (by first | assumption | omega)).2
      refine step_n (o := .row _ _ [_, _, _, _, _, _, _, _]) (nx' := 4) rfl rfl rfl (by decide) ?_
      refine step_appendC (m := 1) (new := [_, _, _, _, _, _, _, _]) (cs' := (out0 ++ [((foeR o10).1)]).flatMap encGFoe) (n' := (out0 ++ [((foeR o10).1)]).length) (H' := [(3, .row _ _ _), (0, .row _ _ _), (1, .box [_, _]), (2, .row _ _ _)]) rfl rfl rfl (rfl) rfl rfl rfl rfl rfl rfl (flat_len (s := 8) (enc := encGFoe) (fun _ => rfl) out0) (rfl) (by first | decide | (unfold maxGrow; omega) | (unfold maxGrow; simp; omega) | (unfold maxGrow; simp only [List.length_append, List.length_take, List.length_drop, List.length_cons, List.length_nil, IntKind.wrap_i64] at *; omega)) (len_snoc out0 _) (((flat_snoc (enc := encGFoe) (l := out0) ((foeR o10).1))).symm) (.inl rfl) rfl rfl (.keep rfl (.keep rfl (.keep rfl (.keep rfl .nil)))) (.keep rfl (.keep rfl (.keep rfl (.lose (v' := .undef) rfl (.keep rfl (.keep rfl (.lose (v' := .undef) rfl (.keep rfl (.keep rfl .nil))))))))) ?_
      refine step_r rfl rfl trivial (step_nil (blkK_n (seqK_n (sem_region rfl (step_bin rfl rfl rfl rfl rfl trivial (step_r rfl rfl trivial (step_nil ?_)))))))
      have e16 : takeF_L0 (((one t).1.toNat) - k0) k0 out0 o10 = takeF_L0 (((one t).1.toNat) - (k0 + 1)) (k0 + 1) (out0 ++ [((foeR o10).1)]) ((foeR o10).2) := by
       rewrite [hm0]
       rewrite [takeF_L0]
       try dsimp only
       all_goals rfl
      exact lup_againT (k0 + 1, (out0 ++ [((foeR o10).1)]), ((foeR o10).2)) ⟨e16.symm.trans hI0, (by omega), ⟨by simp only [List.length_append, List.length_cons, List.length_nil]; omega, by omega⟩⟩ (by show (one t).1.toNat - (k0 + 1) < (one t).1.toNat - k0; omega) (Trans.ren [] (by decide +kernel) (by decide +kernel) rfl ⟨⟨rfl, rfl⟩, ⟨rfl, rfl⟩, ⟨rfl, rfl⟩, ⟨congrArg (fun n => some (I n)) (wrapI (k := k0) (by first | omega | (simp; omega))), rfl⟩, trivial⟩ ⟨⟨rfl, rfl, rfl⟩, ⟨rfl, rfl, rfl⟩, ⟨rfl, rfl, rfl⟩, trivial⟩ (by decide))
     ·have g13 : ¬ ((k0 : Int) < ((one t).1)) := of_decide_eq_false h13
      have hm0 : (one t).1.toNat - k0 = 0 := by omega
      refine sem_exit (seqK_e (lupK_e (blkK_t rfl ?_)))
      have e17 : takeF_L0 (((one t).1.toNat) - 0) 0 ([]) ((one t).2) = (out0, o10) := by
       rewrite [← hI0, hm0]
       rewrite [takeF_L0]
       try dsimp only
       all_goals rfl
      exact cutW_n (out0, o10) e17 (Trans.ren [] (by decide +kernel) (by decide +kernel) rfl ⟨⟨rfl, rfl⟩, trivial⟩ ⟨⟨rfl, rfl, rfl⟩, ⟨rfl, rfl, rfl⟩, ⟨rfl, rfl, rfl⟩, trivial⟩ (by decide))
    ·rintro ⟨out_0, o1_0⟩ (hJ12 : takeF_L0 (((one t).1.toNat) - 0) 0 ([]) ((one t).2) = (out_0, o1_0))
     show seqK _ _ _ .normal (⟨[(8, .ref 2 8 0 out_0.length)], [(0, .row 3 1 (encI o1_0.all)), (1, .box [.ref 0 1 o1_0.pos o1_0.left, B o1_0.bad]), (2, .row 56 8 (out_0.flatMap encGFoe))], 3, [], 43, 2⟩ : St)
     refine seqK_n (sem_seq (sem_region rfl (step_r rfl rfl trivial (step_r rfl rfl trivial (step_nil (seqK_n (sem_ret ?_)))))))
     have e18 : takeF t = (out_0, o1_0) := by
      unfold takeF
      try dsimp only
      rewrite [if_neg g3, if_neg g6, if_neg g10, hJ12]
      try dsimp only
      all_goals rfl
     rw [e18]
     exact answersGR [] [2] rfl ⟨trivial, trivial⟩ rfl (by (repeat' apply And.intro) <;> first | trivial | rfl | exact flat_len (fun _ => rfl) _ | exact encI_len _ | exact encB_len _ | exact encY_len _ | assumption) (rfl) rfl rfl rfl (by decide) rfl rfl ⟨⟨rfl, rfl⟩, ⟨rfl, rfl⟩, ⟨rfl, rfl⟩, trivial⟩

theorem takeF_L0_le (N : Nat) (hN : N ≤ 16000000) : ∀ (m k : Nat) (out : List GFoe) (t : GTk), t.left ≤ N → (∀ x ∈ out, x.Script.length ≤ N ∧ x.Hoard.length ≤ N) → (takeF_L0 m k out t).1.length = out.length + m ∧ ((takeF_L0 m k out t).2.left ≤ t.left ∧ (takeF_L0 m k out t).2.all = t.all) ∧ ∀ x ∈ (takeF_L0 m k out t).1, x.Script.length ≤ N ∧ x.Hoard.length ≤ N
  | 0, k, out, t, _, ho => by rw [takeF_L0]; exact ⟨rfl, ⟨Nat.le_refl _, rfl⟩, ho⟩
  | m + 1, k, out, t, ht, ho => by
    rw [takeF_L0]
    have h1 := foeR_le t (by omega)
    obtain ⟨h2, h3, h4⟩ := takeF_L0_le N hN m (k + 1) (out ++ [(foeR t).1]) (foeR t).2 (by omega) (fun x hx => by
      rcases List.mem_append.1 hx with h | h
      · exact ho x h
      · simp only [List.mem_cons, List.not_mem_nil, or_false] at h; subst h; exact ⟨Nat.le_trans h1.1.1 ht, Nat.le_trans h1.1.2 ht⟩)
    simp only [List.length_append, List.length_cons, List.length_nil] at h2
    exact ⟨by omega, ⟨by omega, h3.2.trans (h1.2.2)⟩, h4⟩
theorem takeF_le (t : GTk) (hT : t.left ≤ 16000000) : (takeF t).1.length ≤ t.left ∧ ((takeF t).2.left ≤ t.left ∧ (takeF t).2.all = t.all) ∧ ∀ x ∈ (takeF t).1, let N := t.left; x.Script.length ≤ N ∧ x.Hoard.length ≤ N := by
  have h1 := one_le t
  unfold takeF
  dsimp only
  by_cases h2 : (one t).2.bad = true
  · rw [if_pos h2]; exact ⟨Nat.zero_le _, h1, fun x hx => by cases hx⟩
  rw [if_neg h2]
  by_cases h3 : (one t).1 < 0
  · rw [if_pos h3]; exact ⟨Nat.zero_le _, h1, fun x hx => by cases hx⟩
  rw [if_neg h3]
  by_cases h4 : (one t).1 > (IntKind.i64.wrap (((one t).2.left : Int).tdiv 8))
  · rw [if_pos h4]; exact ⟨Nat.zero_le _, h1, fun x hx => by cases hx⟩
  rw [if_neg h4]
  have hq := takeq h4 (by decide) (by omega)
  obtain ⟨h5, h6, h7⟩ := takeF_L0_le t.left hT ((one t).1.toNat - 0) 0 [] (one t).2 h1.1 (fun x hx => by cases hx)
  simp only [List.length_nil] at h5
  refine ⟨?_, ⟨?_, h6.2.trans h1.2⟩, h7⟩ <;> dsimp only <;> omega

def unflat0 (l : List Int) : GContent × Bool × (List Int) :=
  if (takeN ((takeW (takeN ((takeF ((takeU ((takeA (⟨l, 0, false⟩ : GTk)).2)).2)).2) 2)).2) 4).bad = true then ((⟨[], [], [], (⟨0, 0, []⟩ : GGrid), (⟨0, 0⟩ : GPos), (⟨0, 0⟩ : GPos)⟩ : GContent), false, (takeN ((takeW (takeN ((takeF ((takeU ((takeA (⟨l, 0, false⟩ : GTk)).2)).2)).2) 2)).2) 4).all) else if ((takeN ((takeW (takeN ((takeF ((takeU ((takeA (⟨l, 0, false⟩ : GTk)).2)).2)).2) 2)).2) 4).left : Int) > 0 then ((⟨[], [], [], (⟨0, 0, []⟩ : GGrid), (⟨0, 0⟩ : GPos), (⟨0, 0⟩ : GPos)⟩ : GContent), false, (takeN ((takeW (takeN ((takeF ((takeU ((takeA (⟨l, 0, false⟩ : GTk)).2)).2)).2) 2)).2) 4).all) else ((⟨(takeA (⟨l, 0, false⟩ : GTk)).1, (takeU ((takeA (⟨l, 0, false⟩ : GTk)).2)).1, (takeF ((takeU ((takeA (⟨l, 0, false⟩ : GTk)).2)).2)).1, (⟨(tval ((takeF ((takeU ((takeA (⟨l, 0, false⟩ : GTk)).2)).2)).2) 0), (tval ((takeF ((takeU ((takeA (⟨l, 0, false⟩ : GTk)).2)).2)).2) 1), (takeW (takeN ((takeF ((takeU ((takeA (⟨l, 0, false⟩ : GTk)).2)).2)).2) 2)).1⟩ : GGrid), (⟨(tval ((takeW (takeN ((takeF ((takeU ((takeA (⟨l, 0, false⟩ : GTk)).2)).2)).2) 2)).2) 0), (tval ((takeW (takeN ((takeF ((takeU ((takeA (⟨l, 0, false⟩ : GTk)).2)).2)).2) 2)).2) 1)⟩ : GPos), (⟨(tval ((takeW (takeN ((takeF ((takeU ((takeA (⟨l, 0, false⟩ : GTk)).2)).2)).2) 2)).2) 2), (tval ((takeW (takeN ((takeF ((takeU ((takeA (⟨l, 0, false⟩ : GTk)).2)).2)).2) 2)).2) 3)⟩ : GPos)⟩ : GContent), true, (takeN ((takeW (takeN ((takeF ((takeU ((takeA (⟨l, 0, false⟩ : GTk)).2)).2)).2) 2)).2) 4).all)
theorem unflat0_ok (l : List Int) (hT : l.length ≤ 16000000) : Ok Tryz.prog 16 [.ref 0 1 0 l.length] [.row 3 1 (encI l)] (.tup [aGContent (unflat0 l).1, B (unflat0 l).2.1]) [.row 3 1 (encI ((unflat0 l).2.2))] [] := by
 refine ok_of_sem Tryz.func16 rfl ?_
 show Walks Tryz.prog _ _ ⟨[(0, .ref 0 1 0 l.length)], [(0, .row 3 1 (encI l))], 1, [], 61, 1⟩
 refine sem_seq (sem_region rfl (step_n (o := .box [_, _, _, _, _, _, _, _, _, _]) (nx' := 2) rfl rfl rfl trivial (step_r rfl rfl trivial (step_nil (seqK_n (sem_seq (sem_region rfl (step_r rfl rfl trivial (step_r (v := (.agg [_, _])) rfl rfl trivial (step_n (o := .box [_, _]) (nx' := 3) rfl rfl rfl trivial (step_r rfl rfl trivial ?_)))))))))))
 refine step_nil (seqK_n (sem_seq ?_))
 refine sem_regionS rfl (opsS_cut 4 (j := 0) ?_)
 simp only [List.take_succ_cons, List.take_zero, List.drop_succ_cons, List.drop_zero]
 refine step_r rfl rfl trivial (step_r rfl rfl trivial (step_r (v := .bnd 39 1 [_]) rfl rfl trivial ?_))
 refine step_callM (Hin := [.row _ _ _, .box [.ref 0 _ _ _, .pv _]]) (out' := .ref 3 _ _ _) (H' := [(3, .row _ _ _), (2, .box [_, _]), (1, .box [_, _, _, _, _, _, _, _, _, _]), (0, .row _ _ _)]) (nx' := 4) [0, 2] rfl rfl rfl rfl (.inl rfl) rfl rfl rfl rfl (takeA_ok (⟨l, 0, false⟩ : GTk) (by first | assumption | omega | (dsimp only [GTk.left] at *; omega))) rfl (by decide) rfl rfl rfl rfl rfl ?_
 have p1 := takeA_le (⟨l, 0, false⟩ : GTk) (by first | assumption | omega | (dsimp only [GTk.left] at *; omega))
 refine step_nil ?_
 refine opsS_trans (Trans.freezeJ (T' := [(0, .ref 0 1 0 l.length), (2, .ptr 1 0), (3, B false), (4, .ptr 2 0), (5, .ref 0 1 0 l.length), (6, .agg [.ref 0 1 0 l.length, B false]), (7, .ptr 2 0), (8, .ptr 2 0), (9, .ptr 2 0), (10, .bnd 39 1 [.ptr 2 0]), (11, .pv (.slc (takeA (⟨l, 0, false⟩ : GTk)).1.length false ((takeA (⟨l, 0, false⟩ : GTk)).1.flatMap encGAbility)))]) (H' := [(2, .box [.ref 0 1 ((takeA (⟨l, 0, false⟩ : GTk)).2).pos ((takeA (⟨l, 0, false⟩ : GTk)).2).left, B ((takeA (⟨l, 0, false⟩ : GTk)).2).bad]), (1, .box [.pv (.slc 0 false []), .pv (.slc 0 false []), .pv (.slc 0 false []), I 0, I 0, .pv (.slc 0 false []), I 0, I 0, I 0, I 0]), (0, .row 3 1 (encI ((takeA (⟨l, 0, false⟩ : GTk)).2).all))]) [3] (by decide) ⟨⟨_, _, rfl, rfl, (by (repeat' apply And.intro) <;> first | trivial | rfl | exact flat_len (s := 8) (enc := encGAbility) (fun _ => rfl) _ | exact flat_len (fun _ => rfl) _ | exact encI_len _ | exact encB_len _ | exact encY_len _ | exact Nat.le_of_ble_eq_true rfl | assumption)⟩, ⟨_, _, rfl, rfl, (by (repeat' apply And.intro) <;> first | trivial | rfl | exact flat_len (s := 8) (enc := encGAbility) (fun _ => rfl) _ | exact flat_len (fun _ => rfl) _ | exact encI_len _ | exact encB_len _ | exact encY_len _ | exact Nat.le_of_ble_eq_true rfl | assumption)⟩, ⟨_, _, rfl, rfl, (by (repeat' apply And.intro) <;> first | trivial | rfl | exact flat_len (s := 8) (enc := encGAbility) (fun _ => rfl) _ | exact flat_len (fun _ => rfl) _ | exact encI_len _ | exact encB_len _ | exact encY_len _ | exact Nat.le_of_ble_eq_true rfl | assumption)⟩, ⟨_, _, rfl, rfl, (by (repeat' apply And.intro) <;> first | trivial | rfl | exact flat_len (s := 8) (enc := encGAbility) (fun _ => rfl) _ | exact flat_len (fun _ => rfl) _ | exact encI_len _ | exact encB_len _ | exact encY_len _ | exact Nat.le_of_ble_eq_true rfl | assumption)⟩, ⟨_, _, rfl, rfl, (by (repeat' apply And.intro) <;> first | trivial | rfl | exact flat_len (s := 8) (enc := encGAbility) (fun _ => rfl) _ | exact flat_len (fun _ => rfl) _ | exact encI_len _ | exact encB_len _ | exact encY_len _ | exact Nat.le_of_ble_eq_true rfl | assumption)⟩, ⟨_, _, rfl, rfl, (by (repeat' apply And.intro) <;> first | trivial | rfl | exact flat_len (s := 8) (enc := encGAbility) (fun _ => rfl) _ | exact flat_len (fun _ => rfl) _ | exact encI_len _ | exact encB_len _ | exact encY_len _ | exact Nat.le_of_ble_eq_true rfl | assumption)⟩, ⟨_, _, rfl, rfl, (by (repeat' apply And.intro) <;> first | trivial | rfl | exact flat_len (s := 8) (enc := encGAbility) (fun _ => rfl) _ | exact flat_len (fun _ => rfl) _ | exact encI_len _ | exact encB_len _ | exact encY_len _ | exact Nat.le_of_ble_eq_true rfl | assumption)⟩, ⟨_, _, rfl, rfl, (by (repeat' apply And.intro) <;> first | trivial | rfl | exact flat_len (s := 8) (enc := encGAbility) (fun _ => rfl) _ | exact flat_len (fun _ => rfl) _ | exact encI_len _ | exact encB_len _ | exact encY_len _ | exact Nat.le_of_ble_eq_true rfl | assumption)⟩, ⟨_, _, rfl, rfl, (by (repeat' apply And.intro) <;> first | trivial | rfl | exact flat_len (s := 8) (enc := encGAbility) (fun _ => rfl) _ | exact flat_len (fun _ => rfl) _ | exact encI_len _ | exact encB_len _ | exact encY_len _ | exact Nat.le_of_ble_eq_true rfl | assumption)⟩, ⟨_, _, rfl, rfl, (by (repeat' apply And.intro) <;> first | trivial | rfl | exact flat_len (s := 8) (enc := encGAbility) (fun _ => rfl) _ | exact flat_len (fun _ => rfl) _ | exact encI_len _ | exact encB_len _ | exact encY_len _ | exact Nat.le_of_ble_eq_true rfl | assumption)⟩, ⟨_, _, rfl, rfl, (by (repeat' apply And.intro) <;> first | trivial | rfl | exact flat_len (s := 8) (enc := encGAbility) (fun _ => rfl) _ | exact flat_len (fun _ => rfl) _ | exact encI_len _ | exact encB_len _ | exact encY_len _ | exact Nat.le_of_ble_eq_true rfl | assumption)⟩, trivial⟩ ⟨⟨rfl, _, _, rfl, rfl, (by (repeat' apply And.intro) <;> first | trivial | rfl | exact flat_len (s := 8) (enc := encGAbility) (fun _ => rfl) _ | exact flat_len (fun _ => rfl) _ | exact encI_len _ | exact encB_len _ | exact encY_len _ | exact Nat.le_of_ble_eq_true rfl | assumption)⟩, ⟨rfl, _, _, rfl, rfl, (by (repeat' apply And.intro) <;> first | trivial | rfl | exact flat_len (s := 8) (enc := encGAbility) (fun _ => rfl) _ | exact flat_len (fun _ => rfl) _ | exact encI_len _ | exact encB_len _ | exact encY_len _ | exact Nat.le_of_ble_eq_true rfl | assumption)⟩, ⟨rfl, _, _, rfl, rfl, (by (repeat' apply And.intro) <;> first | trivial | rfl | exact flat_len (s := 8) (enc := encGAbility) (fun _ => rfl) _ | exact flat_len (fun _ => rfl) _ | exact encI_len _ | exact encB_len _ | exact encY_len _ | exact Nat.le_of_ble_eq_true rfl | assumption)⟩, trivial⟩) ?_
 refine opsS_of (j := 4) ?_
 refine step_r rfl rfl (by decide) ?_
 refine step_storeB (H' := [(2, _), (1, .box [_, _, _, _, _, _, _, _, _, _]), (0, _)]) rfl rfl rfl rfl rfl rfl (.inl rfl) rfl ?_
 refine step_nil (seqK_n (sem_seq ?_))
 refine sem_regionS rfl (opsS_cut 4 (j := 0) ?_)
 simp only [List.take_succ_cons, List.take_zero, List.drop_succ_cons, List.drop_zero]
 refine step_r rfl rfl trivial (step_r rfl rfl trivial (step_r (v := .bnd 41 1 [_]) rfl rfl trivial ?_))
 refine step_callM (Hin := [.row _ _ _, .box [.ref 0 _ _ _, .pv _]]) (out' := .ref 4 _ _ _) (H' := [(4, .row _ _ _), (2, .box [_, _]), (1, .box [_, _, _, _, _, _, _, _, _, _]), (0, .row _ _ _)]) (nx' := 5) [0, 2] rfl rfl rfl rfl (.inl rfl) rfl rfl rfl rfl (takeU_ok ((takeA (⟨l, 0, false⟩ : GTk)).2) (by first | assumption | omega | (dsimp only [GTk.left] at *; omega))) rfl (by decide) rfl rfl rfl rfl rfl ?_
 have p2 := takeU_le ((takeA (⟨l, 0, false⟩ : GTk)).2) (by first | assumption | omega | (dsimp only [GTk.left] at *; omega))
 refine step_nil ?_
 refine opsS_trans (Trans.freezeJ (T' := [(0, .ref 0 1 0 l.length), (2, .ptr 1 0), (3, B false), (4, .ptr 2 0), (5, .ref 0 1 0 l.length), (6, .agg [.ref 0 1 0 l.length, B false]), (7, .ptr 2 0), (8, .ptr 2 0), (9, .ptr 2 0), (10, .bnd 39 1 [.ptr 2 0]), (11, .pv (.slc (takeA (⟨l, 0, false⟩ : GTk)).1.length false ((takeA (⟨l, 0, false⟩ : GTk)).1.flatMap encGAbility))), (13, .ptr 2 0), (14, .ptr 2 0), (15, .bnd 41 1 [.ptr 2 0]), (16, .pv (.slc (takeU ((takeA (⟨l, 0, false⟩ : GTk)).2)).1.length false ((takeU ((takeA (⟨l, 0, false⟩ : GTk)).2)).1.flatMap encGAura)))]) (H' := [(2, .box [.ref 0 1 ((takeU ((takeA (⟨l, 0, false⟩ : GTk)).2)).2).pos ((takeU ((takeA (⟨l, 0, false⟩ : GTk)).2)).2).left, B ((takeU ((takeA (⟨l, 0, false⟩ : GTk)).2)).2).bad]), (1, .box [.pv (.slc (takeA (⟨l, 0, false⟩ : GTk)).1.length false ((takeA (⟨l, 0, false⟩ : GTk)).1.flatMap encGAbility)), .pv (.slc 0 false []), .pv (.slc 0 false []), I 0, I 0, .pv (.slc 0 false []), I 0, I 0, I 0, I 0]), (0, .row 3 1 (encI ((takeU ((takeA (⟨l, 0, false⟩ : GTk)).2)).2).all))]) [4] (by decide) ⟨⟨_, _, rfl, rfl, (by (repeat' apply And.intro) <;> first | trivial | rfl | exact flat_len (s := 7) (enc := encGAura) (fun _ => rfl) _ | exact flat_len (fun _ => rfl) _ | exact encI_len _ | exact encB_len _ | exact encY_len _ | exact Nat.le_of_ble_eq_true rfl | assumption)⟩, ⟨_, _, rfl, rfl, (by (repeat' apply And.intro) <;> first | trivial | rfl | exact flat_len (s := 7) (enc := encGAura) (fun _ => rfl) _ | exact flat_len (fun _ => rfl) _ | exact encI_len _ | exact encB_len _ | exact encY_len _ | exact Nat.le_of_ble_eq_true rfl | assumption)⟩, ⟨_, _, rfl, rfl, (by (repeat' apply And.intro) <;> first | trivial | rfl | exact flat_len (s := 7) (enc := encGAura) (fun _ => rfl) _ | exact flat_len (fun _ => rfl) _ | exact encI_len _ | exact encB_len _ | exact encY_len _ | exact Nat.le_of_ble_eq_true rfl | assumption)⟩, ⟨_, _, rfl, rfl, (by (repeat' apply And.intro) <;> first | trivial | rfl | exact flat_len (s := 7) (enc := encGAura) (fun _ => rfl) _ | exact flat_len (fun _ => rfl) _ | exact encI_len _ | exact encB_len _ | exact encY_len _ | exact Nat.le_of_ble_eq_true rfl | assumption)⟩, ⟨_, _, rfl, rfl, (by (repeat' apply And.intro) <;> first | trivial | rfl | exact flat_len (s := 7) (enc := encGAura) (fun _ => rfl) _ | exact flat_len (fun _ => rfl) _ | exact encI_len _ | exact encB_len _ | exact encY_len _ | exact Nat.le_of_ble_eq_true rfl | assumption)⟩, ⟨_, _, rfl, rfl, (by (repeat' apply And.intro) <;> first | trivial | rfl | exact flat_len (s := 7) (enc := encGAura) (fun _ => rfl) _ | exact flat_len (fun _ => rfl) _ | exact encI_len _ | exact encB_len _ | exact encY_len _ | exact Nat.le_of_ble_eq_true rfl | assumption)⟩, ⟨_, _, rfl, rfl, (by (repeat' apply And.intro) <;> first | trivial | rfl | exact flat_len (s := 7) (enc := encGAura) (fun _ => rfl) _ | exact flat_len (fun _ => rfl) _ | exact encI_len _ | exact encB_len _ | exact encY_len _ | exact Nat.le_of_ble_eq_true rfl | assumption)⟩, ⟨_, _, rfl, rfl, (by (repeat' apply And.intro) <;> first | trivial | rfl | exact flat_len (s := 7) (enc := encGAura) (fun _ => rfl) _ | exact flat_len (fun _ => rfl) _ | exact encI_len _ | exact encB_len _ | exact encY_len _ | exact Nat.le_of_ble_eq_true rfl | assumption)⟩, ⟨_, _, rfl, rfl, (by (repeat' apply And.intro) <;> first | trivial | rfl | exact flat_len (s := 7) (enc := encGAura) (fun _ => rfl) _ | exact flat_len (fun _ => rfl) _ | exact encI_len _ | exact encB_len _ | exact encY_len _ | exact Nat.le_of_ble_eq_true rfl | assumption)⟩, ⟨_, _, rfl, rfl, (by (repeat' apply And.intro) <;> first | trivial | rfl | exact flat_len (s := 7) (enc := encGAura) (fun _ => rfl) _ | exact flat_len (fun _ => rfl) _ | exact encI_len _ | exact encB_len _ | exact encY_len _ | exact Nat.le_of_ble_eq_true rfl | assumption)⟩, ⟨_, _, rfl, rfl, (by (repeat' apply And.intro) <;> first | trivial | rfl | exact flat_len (s := 7) (enc := encGAura) (fun _ => rfl) _ | exact flat_len (fun _ => rfl) _ | exact encI_len _ | exact encB_len _ | exact encY_len _ | exact Nat.le_of_ble_eq_true rfl | assumption)⟩, ⟨_, _, rfl, rfl, (by (repeat' apply And.intro) <;> first | trivial | rfl | exact flat_len (s := 7) (enc := encGAura) (fun _ => rfl) _ | exact flat_len (fun _ => rfl) _ | exact encI_len _ | exact encB_len _ | exact encY_len _ | exact Nat.le_of_ble_eq_true rfl | assumption)⟩, ⟨_, _, rfl, rfl, (by (repeat' apply And.intro) <;> first | trivial | rfl | exact flat_len (s := 7) (enc := encGAura) (fun _ => rfl) _ | exact flat_len (fun _ => rfl) _ | exact encI_len _ | exact encB_len _ | exact encY_len _ | exact Nat.le_of_ble_eq_true rfl | assumption)⟩, ⟨_, _, rfl, rfl, (by (repeat' apply And.intro) <;> first | trivial | rfl | exact flat_len (s := 7) (enc := encGAura) (fun _ => rfl) _ | exact flat_len (fun _ => rfl) _ | exact encI_len _ | exact encB_len _ | exact encY_len _ | exact Nat.le_of_ble_eq_true rfl | assumption)⟩, ⟨_, _, rfl, rfl, (by (repeat' apply And.intro) <;> first | trivial | rfl | exact flat_len (s := 7) (enc := encGAura) (fun _ => rfl) _ | exact flat_len (fun _ => rfl) _ | exact encI_len _ | exact encB_len _ | exact encY_len _ | exact Nat.le_of_ble_eq_true rfl | assumption)⟩, trivial⟩ ⟨⟨rfl, _, _, rfl, rfl, (by (repeat' apply And.intro) <;> first | trivial | rfl | exact flat_len (s := 7) (enc := encGAura) (fun _ => rfl) _ | exact flat_len (fun _ => rfl) _ | exact encI_len _ | exact encB_len _ | exact encY_len _ | exact Nat.le_of_ble_eq_true rfl | assumption)⟩, ⟨rfl, _, _, rfl, rfl, (by (repeat' apply And.intro) <;> first | trivial | rfl | exact flat_len (s := 7) (enc := encGAura) (fun _ => rfl) _ | exact flat_len (fun _ => rfl) _ | exact encI_len _ | exact encB_len _ | exact encY_len _ | exact Nat.le_of_ble_eq_true rfl | assumption)⟩, ⟨rfl, _, _, rfl, rfl, (by (repeat' apply And.intro) <;> first | trivial | rfl | exact flat_len (s := 7) (enc := encGAura) (fun _ => rfl) _ | exact flat_len (fun _ => rfl) _ | exact encI_len _ | exact encB_len _ | exact encY_len _ | exact Nat.le_of_ble_eq_true rfl | assumption)⟩, trivial⟩) ?_
 refine opsS_of (j := 4) ?_
 refine step_r rfl rfl (by decide) ?_
 refine step_storeB (H' := [(2, _), (1, .box [_, _, _, _, _, _, _, _, _, _]), (0, _)]) rfl rfl rfl rfl rfl rfl (.inl rfl) rfl ?_
 refine step_nil (seqK_n (sem_seq ?_))
 refine sem_regionS rfl (opsS_cut 4 (j := 0) ?_)
 simp only [List.take_succ_cons, List.take_zero, List.drop_succ_cons, List.drop_zero]
 refine step_r rfl rfl trivial (step_r rfl rfl trivial (step_r (v := .bnd 43 1 [_]) rfl rfl trivial ?_))
 refine step_callM (Hin := [.row _ _ _, .box [.ref 0 _ _ _, .pv _]]) (out' := .ref 5 _ _ _) (H' := [(5, .row _ _ _), (2, .box [_, _]), (1, .box [_, _, _, _, _, _, _, _, _, _]), (0, .row _ _ _)]) (nx' := 6) [0, 2] rfl rfl rfl rfl (.inl rfl) rfl rfl rfl rfl (takeF_ok ((takeU ((takeA (⟨l, 0, false⟩ : GTk)).2)).2) (by first | assumption | omega | (dsimp only [GTk.left] at *; omega))) rfl (by decide) rfl rfl rfl rfl rfl ?_
 have p3 := takeF_le ((takeU ((takeA (⟨l, 0, false⟩ : GTk)).2)).2) (by first | assumption | omega | (dsimp only [GTk.left] at *; omega))
 refine step_nil ?_
 refine opsS_trans (Trans.freezeJ (T' := [(0, .ref 0 1 0 l.length), (2, .ptr 1 0), (3, B false), (4, .ptr 2 0), (5, .ref 0 1 0 l.length), (6, .agg [.ref 0 1 0 l.length, B false]), (7, .ptr 2 0), (8, .ptr 2 0), (9, .ptr 2 0), (10, .bnd 39 1 [.ptr 2 0]), (11, .pv (.slc (takeA (⟨l, 0, false⟩ : GTk)).1.length false ((takeA (⟨l, 0, false⟩ : GTk)).1.flatMap encGAbility))), (13, .ptr 2 0), (14, .ptr 2 0), (15, .bnd 41 1 [.ptr 2 0]), (16, .pv (.slc (takeU ((takeA (⟨l, 0, false⟩ : GTk)).2)).1.length false ((takeU ((takeA (⟨l, 0, false⟩ : GTk)).2)).1.flatMap encGAura))), (18, .ptr 2 0), (19, .ptr 2 0), (20, .bnd 43 1 [.ptr 2 0]), (21, .pv (.slc (takeF ((takeU ((takeA (⟨l, 0, false⟩ : GTk)).2)).2)).1.length false ((takeF ((takeU ((takeA (⟨l, 0, false⟩ : GTk)).2)).2)).1.flatMap encGFoe)))]) (H' := [(2, .box [.ref 0 1 ((takeF ((takeU ((takeA (⟨l, 0, false⟩ : GTk)).2)).2)).2).pos ((takeF ((takeU ((takeA (⟨l, 0, false⟩ : GTk)).2)).2)).2).left, B ((takeF ((takeU ((takeA (⟨l, 0, false⟩ : GTk)).2)).2)).2).bad]), (1, .box [.pv (.slc (takeA (⟨l, 0, false⟩ : GTk)).1.length false ((takeA (⟨l, 0, false⟩ : GTk)).1.flatMap encGAbility)), .pv (.slc (takeU ((takeA (⟨l, 0, false⟩ : GTk)).2)).1.length false ((takeU ((takeA (⟨l, 0, false⟩ : GTk)).2)).1.flatMap encGAura)), .pv (.slc 0 false []), I 0, I 0, .pv (.slc 0 false []), I 0, I 0, I 0, I 0]), (0, .row 3 1 (encI ((takeF ((takeU ((takeA (⟨l, 0, false⟩ : GTk)).2)).2)).2).all))]) [5] (by decide) ⟨⟨_, _, rfl, rfl, (by (repeat' apply And.intro) <;> first | trivial | rfl | exact flat_len (s := 8) (enc := encGFoe) (fun _ => rfl) _ | exact flat_len (fun _ => rfl) _ | exact encI_len _ | exact encB_len _ | exact encY_len _ | exact Nat.le_of_ble_eq_true rfl | assumption)⟩, ⟨_, _, rfl, rfl, (by (repeat' apply And.intro) <;> first | trivial | rfl | exact flat_len (s := 8) (enc := encGFoe) (fun _ => rfl) _ | exact flat_len (fun _ => rfl) _ | exact encI_len _ | exact encB_len _ | exact encY_len _ | exact Nat.le_of_ble_eq_true rfl | assumption)⟩, ⟨_, _, rfl, rfl, (by (repeat' apply And.intro) <;> first | trivial | rfl | exact flat_len (s := 8) (enc := encGFoe) (fun _ => rfl) _ | exact flat_len (fun _ => rfl) _ | exact encI_len _ | exact encB_len _ | exact encY_len _ | exact Nat.le_of_ble_eq_true rfl | assumption)⟩, ⟨_, _, rfl, rfl, (by (repeat' apply And.intro) <;> first | trivial | rfl | exact flat_len (s := 8) (enc := encGFoe) (fun _ => rfl) _ | exact flat_len (fun _ => rfl) _ | exact encI_len _ | exact encB_len _ | exact encY_len _ | exact Nat.le_of_ble_eq_true rfl | assumption)⟩, ⟨_, _, rfl, rfl, (by (repeat' apply And.intro) <;> first | trivial | rfl | exact flat_len (s := 8) (enc := encGFoe) (fun _ => rfl) _ | exact flat_len (fun _ => rfl) _ | exact encI_len _ | exact encB_len _ | exact encY_len _ | exact Nat.le_of_ble_eq_true rfl | assumption)⟩, ⟨_, _, rfl, rfl, (by (repeat' apply And.intro) <;> first | trivial | rfl | exact flat_len (s := 8) (enc := encGFoe) (fun _ => rfl) _ | exact flat_len (fun _ => rfl) _ | exact encI_len _ | exact encB_len _ | exact encY_len _ | exact Nat.le_of_ble_eq_true rfl | assumption)⟩, ⟨_, _, rfl, rfl, (by (repeat' apply And.intro) <;> first | trivial | rfl | exact flat_len (s := 8) (enc := encGFoe) (fun _ => rfl) _ | exact flat_len (fun _ => rfl) _ | exact encI_len _ | exact encB_len _ | exact encY_len _ | exact Nat.le_of_ble_eq_true rfl | assumption)⟩, ⟨_, _, rfl, rfl, (by (repeat' apply And.intro) <;> first | trivial | rfl | exact flat_len (s := 8) (enc := encGFoe) (fun _ => rfl) _ | exact flat_len (fun _ => rfl) _ | exact encI_len _ | exact encB_len _ | exact encY_len _ | exact Nat.le_of_ble_eq_true rfl | assumption)⟩, ⟨_, _, rfl, rfl, (by (repeat' apply And.intro) <;> first | trivial | rfl | exact flat_len (s := 8) (enc := encGFoe) (fun _ => rfl) _ | exact flat_len (fun _ => rfl) _ | exact encI_len _ | exact encB_len _ | exact encY_len _ | exact Nat.le_of_ble_eq_true rfl | assumption)⟩, ⟨_, _, rfl, rfl, (by (repeat' apply And.intro) <;> first | trivial | rfl | exact flat_len (s := 8) (enc := encGFoe) (fun _ => rfl) _ | exact flat_len (fun _ => rfl) _ | exact encI_len _ | exact encB_len _ | exact encY_len _ | exact Nat.le_of_ble_eq_true rfl | assumption)⟩, ⟨_, _, rfl, rfl, (by (repeat' apply And.intro) <;> first | trivial | rfl | exact flat_len (s := 8) (enc := encGFoe) (fun _ => rfl) _ | exact flat_len (fun _ => rfl) _ | exact encI_len _ | exact encB_len _ | exact encY_len _ | exact Nat.le_of_ble_eq_true rfl | assumption)⟩, ⟨_, _, rfl, rfl, (by (repeat' apply And.intro) <;> first | trivial | rfl | exact flat_len (s := 8) (enc := encGFoe) (fun _ => rfl) _ | exact flat_len (fun _ => rfl) _ | exact encI_len _ | exact encB_len _ | exact encY_len _ | exact Nat.le_of_ble_eq_true rfl | assumption)⟩, ⟨_, _, rfl, rfl, (by (repeat' apply And.intro) <;> first | trivial | rfl | exact flat_len (s := 8) (enc := encGFoe) (fun _ => rfl) _ | exact flat_len (fun _ => rfl) _ | exact encI_len _ | exact encB_len _ | exact encY_len _ | exact Nat.le_of_ble_eq_true rfl | assumption)⟩, ⟨_, _, rfl, rfl, (by (repeat' apply And.intro) <;> first | trivial | rfl | exact flat_len (s := 8) (enc := encGFoe) (fun _ => rfl) _ | exact flat_len (fun _ => rfl) _ | exact encI_len _ | exact encB_len _ | exact encY_len _ | exact Nat.le_of_ble_eq_true rfl | assumption)⟩, ⟨_, _, rfl, rfl, (by (repeat' apply And.intro) <;> first | trivial | rfl | exact flat_len (s := 8) (enc := encGFoe) (fun _ => rfl) _ | exact flat_len (fun _ => rfl) _ | exact encI_len _ | exact encB_len _ | exact encY_len _ | exact Nat.le_of_ble_eq_true rfl | assumption)⟩, ⟨_, _, rfl, rfl, (by (repeat' apply And.intro) <;> first | trivial | rfl | exact flat_len (s := 8) (enc := encGFoe) (fun _ => rfl) _ | exact flat_len (fun _ => rfl) _ | exact encI_len _ | exact encB_len _ | exact encY_len _ | exact Nat.le_of_ble_eq_true rfl | assumption)⟩, ⟨_, _, rfl, rfl, (by (repeat' apply And.intro) <;> first | trivial | rfl | exact flat_len (s := 8) (enc := encGFoe) (fun _ => rfl) _ | exact flat_len (fun _ => rfl) _ | exact encI_len _ | exact encB_len _ | exact encY_len _ | exact Nat.le_of_ble_eq_true rfl | assumption)⟩, ⟨_, _, rfl, rfl, (by (repeat' apply And.intro) <;> first | trivial | rfl | exact flat_len (s := 8) (enc := encGFoe) (fun _ => rfl) _ | exact flat_len (fun _ => rfl) _ | exact encI_len _ | exact encB_len _ | exact encY_len _ | exact Nat.le_of_ble_eq_true rfl | assumption)⟩, ⟨_, _, rfl, rfl, (by (repeat' apply And.intro) <;> first | trivial | rfl | exact flat_len (s := 8) (enc := encGFoe) (fun _ => rfl) _ | exact flat_len (fun _ => rfl) _ | exact encI_len _ | exact encB_len _ | exact encY_len _ | exact Nat.le_of_ble_eq_true rfl | assumption)⟩, trivial⟩ ⟨⟨rfl, _, _, rfl, rfl, (by (repeat' apply And.intro) <;> first | trivial | rfl | exact flat_len (s := 8) (enc := encGFoe) (fun _ => rfl) _ | exact flat_len (fun _ => rfl) _ | exact encI_len _ | exact encB_len _ | exact encY_len _ | exact Nat.le_of_ble_eq_true rfl | assumption)⟩, ⟨rfl, _, _, rfl, rfl, (by (repeat' apply And.intro) <;> first | trivial | rfl | exact flat_len (s := 8) (enc := encGFoe) (fun _ => rfl) _ | exact flat_len (fun _ => rfl) _ | exact encI_len _ | exact encB_len _ | exact encY_len _ | exact Nat.le_of_ble_eq_true rfl | assumption)⟩, ⟨rfl, _, _, rfl, rfl, (by (repeat' apply And.intro) <;> first | trivial | rfl | exact flat_len (s := 8) (enc := encGFoe) (fun _ => rfl) _ | exact flat_len (fun _ => rfl) _ | exact encI_len _ | exact encB_len _ | exact encY_len _ | exact Nat.le_of_ble_eq_true rfl | assumption)⟩, trivial⟩) ?_
 refine opsS_of (j := 4) ?_
 refine step_r rfl rfl (by decide) ?_
 refine step_storeB (H' := [(2, _), (1, .box [_, _, _, _, _, _, _, _, _, _]), (0, _)]) rfl rfl rfl rfl rfl rfl (.inl rfl) rfl ?_
 refine step_nil (seqK_n (sem_seq (sem_region rfl (step_r rfl rfl trivial (step_r rfl rfl (by decide) (step_r rfl rfl (by decide) (step_r rfl rfl (by decide) (step_r rfl rfl (by decide) (step_n (o := .box [_, _]) (nx' := 7) rfl rfl rfl (by decide) ?_)))))))))
 refine step_callM (Hin := [.row _ _ _, .box [.ref 0 _ _ _, .pv _], .box [.ptr 3 3, .ptr 3 4], .box [.pv _, .pv _, .pv _, .pv _, .pv _, .pv _, .pv _, .pv _, .pv _, .pv _]]) (H' := [(6, .box [_, _]), (2, .box [_, _]), (1, .box [_, _, _, _, _, _, _, _, _, _]), (0, .row _ _ _)]) (nx' := 7) [0, 2, 6, 1] rfl rfl rfl rfl (.inl rfl) rfl rfl rfl rfl (into_ok ((takeF ((takeU ((takeA (⟨l, 0, false⟩ : GTk)).2)).2)).2) [(.slc (takeA (⟨l, 0, false⟩ : GTk)).1.length false ((takeA (⟨l, 0, false⟩ : GTk)).1.flatMap encGAbility)), (.slc (takeU ((takeA (⟨l, 0, false⟩ : GTk)).2)).1.length false ((takeU ((takeA (⟨l, 0, false⟩ : GTk)).2)).1.flatMap encGAura)), (.slc (takeF ((takeU ((takeA (⟨l, 0, false⟩ : GTk)).2)).2)).1.length false ((takeF ((takeU ((takeA (⟨l, 0, false⟩ : GTk)).2)).2)).1.flatMap encGFoe)), i64 0, i64 0, (.slc 0 false []), i64 0, i64 0, i64 0, i64 0] [3, 4] rfl rfl) rfl (by decide) rfl rfl rfl rfl rfl ?_
 have p4 := takeN_le ((takeF ((takeU ((takeA (⟨l, 0, false⟩ : GTk)).2)).2)).2) 2
 refine step_nil (seqK_n (sem_seq ?_))
 refine sem_regionS rfl (opsS_cut 4 (j := 0) ?_)
 simp only [List.take_succ_cons, List.take_zero, List.drop_succ_cons, List.drop_zero]
 refine step_r rfl rfl trivial (step_r rfl rfl trivial (step_r (v := .bnd 46 1 [_]) rfl rfl trivial ?_))
 refine step_callM (Hin := [.row _ _ _, .box [.ref 0 _ _ _, .pv _]]) (out' := .ref 7 _ _ _) (H' := [(7, .row _ _ _), (6, .box [_, _]), (2, .box [_, _]), (1, .box [_, _, _, _, _, _, _, _, _, _]), (0, .row _ _ _)]) (nx' := 8) [0, 2] rfl rfl rfl rfl (.inl rfl) rfl rfl rfl rfl (takeW_ok (takeN ((takeF ((takeU ((takeA (⟨l, 0, false⟩ : GTk)).2)).2)).2) 2) (by first | assumption | omega | (dsimp only [GTk.left] at *; omega))) rfl (by decide) rfl rfl rfl rfl rfl ?_
 have p5 := takeW_le (takeN ((takeF ((takeU ((takeA (⟨l, 0, false⟩ : GTk)).2)).2)).2) 2) (by first | assumption | omega | (dsimp only [GTk.left] at *; omega))
 refine step_nil ?_
 refine opsS_trans (Trans.freezeJ (T' := [(0, .ref 0 1 0 l.length), (2, .ptr 1 0), (3, B false), (4, .ptr 2 0), (5, .ref 0 1 0 l.length), (6, .agg [.ref 0 1 0 l.length, B false]), (7, .ptr 2 0), (8, .ptr 2 0), (9, .ptr 2 0), (10, .bnd 39 1 [.ptr 2 0]), (11, .pv (.slc (takeA (⟨l, 0, false⟩ : GTk)).1.length false ((takeA (⟨l, 0, false⟩ : GTk)).1.flatMap encGAbility))), (13, .ptr 2 0), (14, .ptr 2 0), (15, .bnd 41 1 [.ptr 2 0]), (16, .pv (.slc (takeU ((takeA (⟨l, 0, false⟩ : GTk)).2)).1.length false ((takeU ((takeA (⟨l, 0, false⟩ : GTk)).2)).1.flatMap encGAura))), (18, .ptr 2 0), (19, .ptr 2 0), (20, .bnd 43 1 [.ptr 2 0]), (21, .pv (.slc (takeF ((takeU ((takeA (⟨l, 0, false⟩ : GTk)).2)).2)).1.length false ((takeF ((takeU ((takeA (⟨l, 0, false⟩ : GTk)).2)).2)).1.flatMap encGFoe))), (23, .ptr 2 0), (28, .view 6 0 2), (30, .ptr 2 0), (31, .ptr 2 0), (32, .bnd 46 1 [.ptr 2 0]), (33, .pv (.slc (takeW (takeN ((takeF ((takeU ((takeA (⟨l, 0, false⟩ : GTk)).2)).2)).2) 2)).1.length false (encB (takeW (takeN ((takeF ((takeU ((takeA (⟨l, 0, false⟩ : GTk)).2)).2)).2) 2)).1)))]) (H' := [(2, .box [.ref 0 1 ((takeW (takeN ((takeF ((takeU ((takeA (⟨l, 0, false⟩ : GTk)).2)).2)).2) 2)).2).pos ((takeW (takeN ((takeF ((takeU ((takeA (⟨l, 0, false⟩ : GTk)).2)).2)).2) 2)).2).left, B ((takeW (takeN ((takeF ((takeU ((takeA (⟨l, 0, false⟩ : GTk)).2)).2)).2) 2)).2).bad]), (1, .box [.pv (.slc (takeA (⟨l, 0, false⟩ : GTk)).1.length false ((takeA (⟨l, 0, false⟩ : GTk)).1.flatMap encGAbility)), .pv (.slc (takeU ((takeA (⟨l, 0, false⟩ : GTk)).2)).1.length false ((takeU ((takeA (⟨l, 0, false⟩ : GTk)).2)).1.flatMap encGAura)), .pv (.slc (takeF ((takeU ((takeA (⟨l, 0, false⟩ : GTk)).2)).2)).1.length false ((takeF ((takeU ((takeA (⟨l, 0, false⟩ : GTk)).2)).2)).1.flatMap encGFoe)), I (tval ((takeF ((takeU ((takeA (⟨l, 0, false⟩ : GTk)).2)).2)).2) 0), I (tval ((takeF ((takeU ((takeA (⟨l, 0, false⟩ : GTk)).2)).2)).2) 1), .pv (.slc 0 false []), I 0, I 0, I 0, I 0]), (0, .row 3 1 (encI ((takeW (takeN ((takeF ((takeU ((takeA (⟨l, 0, false⟩ : GTk)).2)).2)).2) 2)).2).all))]) [7] (by decide) ⟨⟨_, _, rfl, rfl, (by (repeat' apply And.intro) <;> first | trivial | rfl | exact flat_len (fun _ => rfl) _ | exact encI_len _ | exact encB_len _ | exact encY_len _ | exact Nat.le_of_ble_eq_true rfl | assumption)⟩, ⟨_, _, rfl, rfl, (by (repeat' apply And.intro) <;> first | trivial | rfl | exact flat_len (fun _ => rfl) _ | exact encI_len _ | exact encB_len _ | exact encY_len _ | exact Nat.le_of_ble_eq_true rfl | assumption)⟩, ⟨_, _, rfl, rfl, (by (repeat' apply And.intro) <;> first | trivial | rfl | exact flat_len (fun _ => rfl) _ | exact encI_len _ | exact encB_len _ | exact encY_len _ | exact Nat.le_of_ble_eq_true rfl | assumption)⟩, ⟨_, _, rfl, rfl, (by (repeat' apply And.intro) <;> first | trivial | rfl | exact flat_len (fun _ => rfl) _ | exact encI_len _ | exact encB_len _ | exact encY_len _ | exact Nat.le_of_ble_eq_true rfl | assumption)⟩, ⟨_, _, rfl, rfl, (by (repeat' apply And.intro) <;> first | trivial | rfl | exact flat_len (fun _ => rfl) _ | exact encI_len _ | exact encB_len _ | exact encY_len _ | exact Nat.le_of_ble_eq_true rfl | assumption)⟩, ⟨_, _, rfl, rfl, (by (repeat' apply And.intro) <;> first | trivial | rfl | exact flat_len (fun _ => rfl) _ | exact encI_len _ | exact encB_len _ | exact encY_len _ | exact Nat.le_of_ble_eq_true rfl | assumption)⟩, ⟨_, _, rfl, rfl, (by (repeat' apply And.intro) <;> first | trivial | rfl | exact flat_len (fun _ => rfl) _ | exact encI_len _ | exact encB_len _ | exact encY_len _ | exact Nat.le_of_ble_eq_true rfl | assumption)⟩, ⟨_, _, rfl, rfl, (by (repeat' apply And.intro) <;> first | trivial | rfl | exact flat_len (fun _ => rfl) _ | exact encI_len _ | exact encB_len _ | exact encY_len _ | exact Nat.le_of_ble_eq_true rfl | assumption)⟩, ⟨_, _, rfl, rfl, (by (repeat' apply And.intro) <;> first | trivial | rfl | exact flat_len (fun _ => rfl) _ | exact encI_len _ | exact encB_len _ | exact encY_len _ | exact Nat.le_of_ble_eq_true rfl | assumption)⟩, ⟨_, _, rfl, rfl, (by (repeat' apply And.intro) <;> first | trivial | rfl | exact flat_len (fun _ => rfl) _ | exact encI_len _ | exact encB_len _ | exact encY_len _ | exact Nat.le_of_ble_eq_true rfl | assumption)⟩, ⟨_, _, rfl, rfl, (by (repeat' apply And.intro) <;> first | trivial | rfl | exact flat_len (fun _ => rfl) _ | exact encI_len _ | exact encB_len _ | exact encY_len _ | exact Nat.le_of_ble_eq_true rfl | assumption)⟩, ⟨_, _, rfl, rfl, (by (repeat' apply And.intro) <;> first | trivial | rfl | exact flat_len (fun _ => rfl) _ | exact encI_len _ | exact encB_len _ | exact encY_len _ | exact Nat.le_of_ble_eq_true rfl | assumption)⟩, ⟨_, _, rfl, rfl, (by (repeat' apply And.intro) <;> first | trivial | rfl | exact flat_len (fun _ => rfl) _ | exact encI_len _ | exact encB_len _ | exact encY_len _ | exact Nat.le_of_ble_eq_true rfl | assumption)⟩, ⟨_, _, rfl, rfl, (by (repeat' apply And.intro) <;> first | trivial | rfl | exact flat_len (fun _ => rfl) _ | exact encI_len _ | exact encB_len _ | exact encY_len _ | exact Nat.le_of_ble_eq_true rfl | assumption)⟩, ⟨_, _, rfl, rfl, (by (repeat' apply And.intro) <;> first | trivial | rfl | exact flat_len (fun _ => rfl) _ | exact encI_len _ | exact encB_len _ | exact encY_len _ | exact Nat.le_of_ble_eq_true rfl | assumption)⟩, ⟨_, _, rfl, rfl, (by (repeat' apply And.intro) <;> first | trivial | rfl | exact flat_len (fun _ => rfl) _ | exact encI_len _ | exact encB_len _ | exact encY_len _ | exact Nat.le_of_ble_eq_true rfl | assumption)⟩, ⟨_, _, rfl, rfl, (by (repeat' apply And.intro) <;> first | trivial | rfl | exact flat_len (fun _ => rfl) _ | exact encI_len _ | exact encB_len _ | exact encY_len _ | exact Nat.le_of_ble_eq_true rfl | assumption)⟩, ⟨_, _, rfl, rfl, (by (repeat' apply And.intro) <;> first | trivial | rfl | exact flat_len (fun _ => rfl) _ | exact encI_len _ | exact encB_len _ | exact encY_len _ | exact Nat.le_of_ble_eq_true rfl | assumption)⟩, ⟨_, _, rfl, rfl, (by (repeat' apply And.intro) <;> first | trivial | rfl | exact flat_len (fun _ => rfl) _ | exact encI_len _ | exact encB_len _ | exact encY_len _ | exact Nat.le_of_ble_eq_true rfl | assumption)⟩, ⟨_, _, rfl, rfl, (by (repeat' apply And.intro) <;> first | trivial | rfl | exact flat_len (fun _ => rfl) _ | exact encI_len _ | exact encB_len _ | exact encY_len _ | exact Nat.le_of_ble_eq_true rfl | assumption)⟩, ⟨_, _, rfl, rfl, (by (repeat' apply And.intro) <;> first | trivial | rfl | exact flat_len (fun _ => rfl) _ | exact encI_len _ | exact encB_len _ | exact encY_len _ | exact Nat.le_of_ble_eq_true rfl | assumption)⟩, ⟨_, _, rfl, rfl, (by (repeat' apply And.intro) <;> first | trivial | rfl | exact flat_len (fun _ => rfl) _ | exact encI_len _ | exact encB_len _ | exact encY_len _ | exact Nat.le_of_ble_eq_true rfl | assumption)⟩, ⟨_, _, rfl, rfl, (by (repeat' apply And.intro) <;> first | trivial | rfl | exact flat_len (fun _ => rfl) _ | exact encI_len _ | exact encB_len _ | exact encY_len _ | exact Nat.le_of_ble_eq_true rfl | assumption)⟩, ⟨_, _, rfl, rfl, (by (repeat' apply And.intro) <;> first | trivial | rfl | exact flat_len (fun _ => rfl) _ | exact encI_len _ | exact encB_len _ | exact encY_len _ | exact Nat.le_of_ble_eq_true rfl | assumption)⟩, ⟨_, _, rfl, rfl, (by (repeat' apply And.intro) <;> first | trivial | rfl | exact flat_len (fun _ => rfl) _ | exact encI_len _ | exact encB_len _ | exact encY_len _ | exact Nat.le_of_ble_eq_true rfl | assumption)⟩, trivial⟩ ⟨⟨rfl, _, _, rfl, rfl, (by (repeat' apply And.intro) <;> first | trivial | rfl | exact flat_len (fun _ => rfl) _ | exact encI_len _ | exact encB_len _ | exact encY_len _ | exact Nat.le_of_ble_eq_true rfl | assumption)⟩, ⟨rfl, _, _, rfl, rfl, (by (repeat' apply And.intro) <;> first | trivial | rfl | exact flat_len (fun _ => rfl) _ | exact encI_len _ | exact encB_len _ | exact encY_len _ | exact Nat.le_of_ble_eq_true rfl | assumption)⟩, ⟨rfl, _, _, rfl, rfl, (by (repeat' apply And.intro) <;> first | trivial | rfl | exact flat_len (fun _ => rfl) _ | exact encI_len _ | exact encB_len _ | exact encY_len _ | exact Nat.le_of_ble_eq_true rfl | assumption)⟩, trivial⟩) ?_
 refine opsS_of (j := 4) ?_
 refine step_r rfl rfl (by decide) (step_r rfl rfl (by decide) ?_)
 refine step_storeB (H' := [(2, _), (1, .box [_, _, _, _, _, _, _, _, _, _]), (0, _)]) rfl rfl rfl rfl rfl rfl (.inl rfl) rfl ?_
 refine step_nil (seqK_n (sem_seq (sem_region rfl (step_r rfl rfl trivial (step_r rfl rfl (by decide) (step_r rfl rfl (by decide) (step_r rfl rfl (by decide) (step_r rfl rfl (by decide) (step_r rfl rfl (by decide) (step_r rfl rfl (by decide) (step_r rfl rfl (by decide) ?_)))))))))))
 refine step_r rfl rfl (by decide) (step_n (o := .box [_, _, _, _]) (nx' := 9) rfl rfl rfl (by decide) ?_)
 refine step_callM (Hin := [.row _ _ _, .box [.ref 0 _ _ _, .pv _], .box [.ptr 3 6, .ptr 3 7, .ptr 3 8, .ptr 3 9], .box [.pv _, .pv _, .pv _, .pv _, .pv _, .pv _, .pv _, .pv _, .pv _, .pv _]]) (H' := [(8, .box [_, _, _, _]), (2, .box [_, _]), (1, .box [_, _, _, _, _, _, _, _, _, _]), (0, .row _ _ _)]) (nx' := 9) [0, 2, 8, 1] rfl rfl rfl rfl (.inl rfl) rfl rfl rfl rfl (into_ok ((takeW (takeN ((takeF ((takeU ((takeA (⟨l, 0, false⟩ : GTk)).2)).2)).2) 2)).2) [(.slc (takeA (⟨l, 0, false⟩ : GTk)).1.length false ((takeA (⟨l, 0, false⟩ : GTk)).1.flatMap encGAbility)), (.slc (takeU ((takeA (⟨l, 0, false⟩ : GTk)).2)).1.length false ((takeU ((takeA (⟨l, 0, false⟩ : GTk)).2)).1.flatMap encGAura)), (.slc (takeF ((takeU ((takeA (⟨l, 0, false⟩ : GTk)).2)).2)).1.length false ((takeF ((takeU ((takeA (⟨l, 0, false⟩ : GTk)).2)).2)).1.flatMap encGFoe)), i64 (tval ((takeF ((takeU ((takeA (⟨l, 0, false⟩ : GTk)).2)).2)).2) 0), i64 (tval ((takeF ((takeU ((takeA (⟨l, 0, false⟩ : GTk)).2)).2)).2) 1), (.slc (takeW (takeN ((takeF ((takeU ((takeA (⟨l, 0, false⟩ : GTk)).2)).2)).2) 2)).1.length false (encB (takeW (takeN ((takeF ((takeU ((takeA (⟨l, 0, false⟩ : GTk)).2)).2)).2) 2)).1)), i64 0, i64 0, i64 0, i64 0] [6, 7, 8, 9] rfl rfl) rfl (by decide) rfl rfl rfl rfl rfl ?_
 have p6 := takeN_le ((takeW (takeN ((takeF ((takeU ((takeA (⟨l, 0, false⟩ : GTk)).2)).2)).2) 2)).2) 4
 refine step_nil (seqK_n (sem_seq (sem_seq (sem_region rfl (step_r rfl rfl trivial (step_r rfl rfl trivial (step_r rfl rfl (by decide) (step_r rfl rfl trivial (step_r rfl rfl trivial ?_)))))))))
 refine step_gs rfl (fun h8 => ?_) (fun h8 => ?_)
 ·have g8 : (takeN ((takeW (takeN ((takeF ((takeU ((takeA (⟨l, 0, false⟩ : GTk)).2)).2)).2) 2)).2) 4).bad = true := h8
  refine step_g0 rfl h8 rfl (step_g0 rfl h8 rfl (step_g0 rfl h8 rfl (step_g0 rfl h8 rfl (step_g0 rfl h8 rfl (step_g0 rfl h8 rfl (step_pickT rfl h8 rfl rfl (step_nil (seqK_n (sem_condT rfl (sem_seq (sem_region rfl ?_)))))))))))
  refine step_r (v := (.agg [_, _, _, _, _, _, _, _, _, _])) rfl rfl trivial ?_
  refine step_storeB (H' := [(8, _), (2, _), (1, .box [_, _, _, _, _, _, _, _, _, _]), (0, _)]) rfl rfl rfl rfl rfl rfl (.inl rfl) rfl ?_
  refine step_r rfl rfl trivial (step_nil (seqK_n ?_))
  refine sem_trans (Trans.loose (T' := [(2, .ptr 1 0), (3, B false)]) (H' := [(0, .row 3 1 (encI (takeN ((takeW (takeN ((takeF ((takeU ((takeA (⟨l, 0, false⟩ : GTk)).2)).2)).2) 2)).2) 4).all)), (1, .box [.pv (.slc 0 false []), .pv (.slc 0 false []), .pv (.slc 0 false []), I 0, I 0, .pv (.slc 0 false []), I 0, I 0, I 0, I 0])]) ⟨⟨_, rfl, .inl rfl⟩, ⟨_, rfl, .inl rfl⟩, trivial⟩ ⟨⟨_, rfl, .inl rfl⟩, ⟨_, rfl, .inr rfl⟩, trivial⟩) ?_
  refine sem_ret (seqK_r ?_)
  have e9 : unflat0 l = ((⟨[], [], [], (⟨0, 0, []⟩ : GGrid), (⟨0, 0⟩ : GPos), (⟨0, 0⟩ : GPos)⟩ : GContent), false, (takeN ((takeW (takeN ((takeF ((takeU ((takeA (⟨l, 0, false⟩ : GTk)).2)).2)).2) 2)).2) 4).all) := by
   unfold unflat0
   try dsimp only
   rewrite [if_pos g8]
   all_goals rfl
  rw [e9]
  exact answersGR [] [] rfl ⟨Nat.le_of_ble_eq_true rfl, trivial, trivial⟩ rfl (by (repeat' apply And.intro) <;> first | trivial | rfl | exact flat_len (fun _ => rfl) _ | exact encI_len _ | exact encB_len _ | exact encY_len _ | assumption) (rfl) rfl rfl rfl (by decide) rfl rfl ⟨⟨rfl, rfl⟩, trivial⟩
 ·have g8 : ¬ ((takeN ((takeW (takeN ((takeF ((takeU ((takeA (⟨l, 0, false⟩ : GTk)).2)).2)).2) 2)).2) 4).bad = true) := boo_f h8
  refine step_g1 rfl h8 (step_r rfl rfl trivial (step_g1 rfl h8 (step_r rfl rfl trivial (step_g1 rfl h8 (step_r rfl rfl (by decide) (step_g1 rfl h8 (step_r rfl rfl trivial (step_g1 rfl h8 (step_r rfl rfl trivial (step_g1 rfl h8 (step_bin rfl rfl rfl rfl rfl trivial ?_)))))))))))
  refine step_pickF rfl h8 rfl rfl (step_nil (seqK_n ?_))
  refine sem_cond rfl (fun h11 => ?_) (fun h11 => ?_)
  ·have g11 : ((takeN ((takeW (takeN ((takeF ((takeU ((takeA (⟨l, 0, false⟩ : GTk)).2)).2)).2) 2)).2) 4).left : Int) > 0 := of_decide_eq_true h11
   refine sem_seq (sem_region rfl (step_r (v := (.agg [_, _, _, _, _, _, _, _, _, _])) rfl rfl trivial ?_))
   refine step_storeB (H' := [(8, _), (2, _), (1, .box [_, _, _, _, _, _, _, _, _, _]), (0, _)]) rfl rfl rfl rfl rfl rfl (.inl rfl) rfl ?_
   refine step_r rfl rfl trivial (step_nil (seqK_n ?_))
   refine sem_trans (Trans.loose (T' := [(2, .ptr 1 0), (3, B false)]) (H' := [(0, .row 3 1 (encI (takeN ((takeW (takeN ((takeF ((takeU ((takeA (⟨l, 0, false⟩ : GTk)).2)).2)).2) 2)).2) 4).all)), (1, .box [.pv (.slc 0 false []), .pv (.slc 0 false []), .pv (.slc 0 false []), I 0, I 0, .pv (.slc 0 false []), I 0, I 0, I 0, I 0])]) ⟨⟨_, rfl, .inl rfl⟩, ⟨_, rfl, .inl rfl⟩, trivial⟩ ⟨⟨_, rfl, .inl rfl⟩, ⟨_, rfl, .inr rfl⟩, trivial⟩) ?_
   refine sem_ret (seqK_r ?_)
   have e12 : unflat0 l = ((⟨[], [], [], (⟨0, 0, []⟩ : GGrid), (⟨0, 0⟩ : GPos), (⟨0, 0⟩ : GPos)⟩ : GContent), false, (takeN ((takeW (takeN ((takeF ((takeU ((takeA (⟨l, 0, false⟩ : GTk)).2)).2)).2) 2)).2) 4).all) := by
    unfold unflat0
    try dsimp only
    rewrite [if_neg g8, if_pos g11]
    all_goals rfl
   rw [e12]
   exact answersGR [] [] rfl ⟨Nat.le_of_ble_eq_true rfl, trivial, trivial⟩ rfl (by (repeat' apply And.intro) <;> first | trivial | rfl | exact flat_len (fun _ => rfl) _ | exact encI_len _ | exact encB_len _ | exact encY_len _ | assumption) (rfl) rfl rfl rfl (by decide) rfl rfl ⟨⟨rfl, rfl⟩, trivial⟩
  ·have g11 : ¬ (((takeN ((takeW (takeN ((takeF ((takeU ((takeA (⟨l, 0, false⟩ : GTk)).2)).2)).2) 2)).2) 4).left : Int) > 0) := of_decide_eq_false h11
   refine sem_skip (seqK_n (sem_seq (sem_region rfl (step_r (v := (.agg [_, _, _, _, _, _, _, _, _, _])) rfl rfl (Nat.le_of_ble_eq_true rfl) ?_))))
   refine step_storeB (H' := [(8, _), (2, _), (1, .box [_, _, _, _, _, _, _, _, _, _]), (0, _)]) rfl rfl rfl rfl rfl rfl (.inl rfl) rfl ?_
   refine step_r rfl rfl trivial (step_nil (seqK_n (sem_ret ?_)))
   have e13 : unflat0 l = ((⟨(takeA (⟨l, 0, false⟩ : GTk)).1, (takeU ((takeA (⟨l, 0, false⟩ : GTk)).2)).1, (takeF ((takeU ((takeA (⟨l, 0, false⟩ : GTk)).2)).2)).1, (⟨(tval ((takeF ((takeU ((takeA (⟨l, 0, false⟩ : GTk)).2)).2)).2) 0), (tval ((takeF ((takeU ((takeA (⟨l, 0, false⟩ : GTk)).2)).2)).2) 1), (takeW (takeN ((takeF ((takeU ((takeA (⟨l, 0, false⟩ : GTk)).2)).2)).2) 2)).1⟩ : GGrid), (⟨(tval ((takeW (takeN ((takeF ((takeU ((takeA (⟨l, 0, false⟩ : GTk)).2)).2)).2) 2)).2) 0), (tval ((takeW (takeN ((takeF ((takeU ((takeA (⟨l, 0, false⟩ : GTk)).2)).2)).2) 2)).2) 1)⟩ : GPos), (⟨(tval ((takeW (takeN ((takeF ((takeU ((takeA (⟨l, 0, false⟩ : GTk)).2)).2)).2) 2)).2) 2), (tval ((takeW (takeN ((takeF ((takeU ((takeA (⟨l, 0, false⟩ : GTk)).2)).2)).2) 2)).2) 3)⟩ : GPos)⟩ : GContent), true, (takeN ((takeW (takeN ((takeF ((takeU ((takeA (⟨l, 0, false⟩ : GTk)).2)).2)).2) 2)).2) 4).all) := by
    unfold unflat0
    try dsimp only
    rewrite [if_neg g8, if_neg g11]
    all_goals rfl
   rw [e13]
   exact answersGR [] [] rfl ⟨Nat.le_of_ble_eq_true rfl, trivial, trivial⟩ rfl (by (repeat' apply And.intro) <;> first | trivial | rfl | exact flat_len (fun _ => rfl) _ | exact encI_len _ | exact encB_len _ | exact encY_len _ | assumption) (rfl) rfl rfl rfl (by decide) rfl rfl ⟨⟨rfl, rfl⟩, trivial⟩

theorem empty_few : Few9 (⟨[], [], [], (⟨0, 0, []⟩ : GGrid), (⟨0, 0⟩ : GPos), (⟨0, 0⟩ : GPos)⟩ : GContent) := few_small rfl
theorem unflat_few (l : List Int) (hT : l.length ≤ 16000000) : Few9 (unflat0 l).1 ∧ (unflat0 l).2.2 = l := by
  obtain ⟨h1, ⟨h2, a1⟩, h3⟩ := takeA_le (⟨l, 0, false⟩ : GTk) hT
  have hl : (⟨l, 0, false⟩ : GTk).left = l.length := rfl
  dsimp only at h3 a1
  rw [hl] at h1 h2 h3
  unfold unflat0
  generalize takeA (⟨l, 0, false⟩ : GTk) = A at h1 h2 h3 a1 ⊢
  obtain ⟨h4, h5, a2⟩ := takeU_le A.2 (by omega)
  generalize takeU A.2 = U at h4 h5 a2 ⊢
  obtain ⟨h6, ⟨h7, a3⟩, h8⟩ := takeF_le U.2 (by omega)
  dsimp only at h8
  generalize takeF U.2 = F at h6 h7 h8 a3 ⊢
  obtain ⟨h9, a4⟩ := takeN_le F.2 2
  obtain ⟨h10, h11, a5⟩ := takeW_le (takeN F.2 2) (by omega)
  generalize takeW (takeN F.2 2) = W at h10 h11 a5 ⊢
  have a6 : (takeN W.2 4).all = l := (takeN_le W.2 4).2.trans (a5.trans (a4.trans (a3.trans (a2.trans a1))))
  split
  · exact ⟨empty_few, a6⟩
  split
  · exact ⟨empty_few, a6⟩
  exact ⟨⟨fun x hx => by have := h3 x hx; omega, fun x hx => by have := (h8 x hx).1; omega, fun x hx => by have := (h8 x hx).2; omega, by dsimp only; omega, by dsimp only; omega, by dsimp only; omega, by dsimp only; omega⟩, a6⟩
def unflat (l : List Int) : GContent × Bool := ((unflat0 l).1, (unflat0 l).2.1)
theorem unflat_9 (l : List Int) (hT : l.length ≤ 16000000) : Few9 (unflat l).1 := (unflat_few l hT).1
theorem unflat_ok (l : List Int) (hT : l.length ≤ 16000000) : Ok Tryz.prog 16 [.ref 0 1 0 l.length] [.row 3 1 (encI l)] (.tup [aGContent (unflat l).1, B (unflat l).2]) [.row 3 1 (encI l)] [] := by
  have h := unflat0_ok l hT
  rw [(unflat_few l hT).2] at h
  exact h
end Go.Proofs.YtppnccjeggnllaaGreat

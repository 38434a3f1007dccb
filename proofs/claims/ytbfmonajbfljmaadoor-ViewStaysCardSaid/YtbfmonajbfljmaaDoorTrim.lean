import Derived.Test.YtbfmonajbfljmaaDoorBase
namespace Go.Proofs.YtbfmonajbfljmaaDoor
open Go Go.RowKit Go.Proofs.YtbfmonajbfljmaaDoorVm
attribute [local irreducible] opsWp AnswersE OpsS
set_option maxHeartbeats 400000
set_option maxRecDepth 100000
set_option linter.all false

abbrev letters : List UInt8 := [97, 98, 99, 100, 101, 102, 103, 104, 105, 106, 107, 108, 109, 110, 111, 112, 113, 114, 115, 116, 117, 118, 119, 120, 121, 122, 65, 66, 67, 68, 69, 70, 71, 72, 73, 74, 75, 76, 77, 78, 79, 80, 81, 82, 83, 84, 85, 86, 87, 88, 89, 90, 48, 49, 50, 51, 52, 53, 54, 55, 56, 57, 45]
def setL : List Bool := [false, false, false, false, false, false, false, false, false, false, false, false, false, false, false, false, false, false, false, false, false, false, false, false, false, false, false, false, false, false, false, false, false, false, false, false, false, false, false, false, false, false, false, false, false, true, false, false, true, true, true, true, true, true, true, true, true, true, false, false, false, false, false, false, false, true, true, true, true, true, true, true, true, true, true, true, true, true, true, true, true, true, true, true, true, true, true, true, true, true, true, false, false, false, false, false, false, true, true, true, true, true, true, true, true, true, true, true, true, true, true, true, true, true, true, true, true, true, true, true, true, true, true, false, false, false, false, false, false, false, false, false, false, false, false, false, false, false, false, false, false, false, false, false, false, false, false, false, false, false, false, false, false, false, false, false, false, false, false, false, false, false, false, false, false, false, false, false, false, false, false, false, false, false, false, false, false, false, false, false, false, false, false, false, false, false, false, false, false, false, false, false, false, false, false, false, false, false, false, false, false, false, false, false, false, false, false, false, false, false, false, false, false, false, false, false, false, false, false, false, false, false, false, false, false, false, false, false, false, false, false, false, false, false, false, false, false, false, false, false, false, false, false, false, false, false, false, false, false, false, false, false, false, false, false, false]
def isLet (c : UInt8) : Bool := setL.getD c.toNat false
def bcells (l : List Bool) : List AV := l.map fun b => B b
def encSET (l : List Bool) : List PV := l.map fun b => PV.bool b
abbrev aSET (l : List Bool) : AV := .agg (bcells l)
theorem bcells_len (l : List Bool) : (bcells l).length = l.length := by simp [bcells]
theorem bcells_set (l : List Bool) (k : Nat) (b : Bool) : (bcells l).set (0 + k * 1) (B b) = bcells (l.set k b) := by simp [bcells, List.map_set]
theorem bcells_one : ∀ l : List Bool, (bcells l).all one = true
  | [] => rfl
  | _ :: l => by simp only [bcells, List.map_cons, List.all_cons]; exact bcells_one l
theorem pvs_bcells : ∀ l : List Bool, pvs (bcells l) = some (encSET l)
  | [] => rfl
  | b :: l => by have := pvs_bcells l; simp only [bcells, encSET] at this; simp only [bcells, List.map_cons, B, pvs, this, Option.map_some, encSET]
theorem encSET_get (c : UInt8) : (encSET setL)[0 + c.toNat * 1]? = some (.bool (isLet c)) := by
  have h : c.toNat < setL.length := UInt8.toNat_lt c
  rw [Nat.zero_add, Nat.mul_one, encSET, List.getElem?_map, List.getElem?_eq_getElem h, isLet, List.getD_eq_getElem?_getD, List.getElem?_eq_getElem h]; rfl
theorem letters_small {k : Nat} (h : k < letters.length) : (letters.getD k 0).toNat < 128 := by
  have : ∀ k : Fin letters.length, (letters.getD k.1 0).toNat < 128 := by decide +kernel
  exact this ⟨k, h⟩
theorem frz_set (s : List UInt8) (l : List Bool) : frzBL (idx 0 [VObj.box (bcells l)]) (List.range 1) [.pv (.str s), .ptr 0 0] = some (True ∧ True ∧ True, [.pv (.str s), .pptr (encSET l) 0]) := by
  simp [frzBL, frzB, idx, hget, pvs_bcells]
theorem bc_renL (ρ : Nat → Nat) : ∀ l : List Bool, renL ρ (bcells l) = bcells l
  | [] => rfl
  | b :: l => by have := bc_renL ρ l; simp only [bcells, List.map_cons] at this ⊢; rw [renL, this]; rfl
theorem bc_ren (ρ : Nat → Nat) (l : List Bool) : VObj.box (bcells l) = renO ρ (.box (bcells l)) := by rw [renO, bc_renL]
theorem bc_below (m : Nat) : ∀ l : List Bool, belowL m (bcells l) = true
  | [] => rfl
  | b :: l => by have := bc_below m l; simp only [bcells, List.map_cons] at this ⊢; rw [belowL, this]; rfl
section
variable {P : Program} {ops : Array Oper} {dr : Bool} {j : Nat} {d : Nat} {op : Op} {type : TypeId} {pos : String} {after : Array Edge} {r : List Oper} {T : Tm} {H : Heap} {nx : Nat} {mv : List Nat} {nt lo : Nat} {Q : St → Prop} {c : Prop} {v : AV}
theorem step_loadW {t : TypeId} {ad : Operand} {id s : Nat} {cs : List AV} (ha : St.ev ⟨T, H, nx, mv, nt, lo⟩ ad = some (.ptr id 0)) (ho : hget H id = some (.box cs)) (hg : tagg P t = some true) (hs : tsz P t = some s) (hl : cs.length = s)
    (hd : Nat.blt d nt = true) (h : opsWp P ops dr (j + 1) r ⟨(d, .agg cs) :: T, H, nx, mv, nt, lo⟩ Q) :
    opsWp P ops dr j ({ dst := some d, op := .load t ad, type := type, pos := pos, after := after, guard := none } :: r) ⟨T, H, nx, mv, nt, lo⟩ Q := by
  refine step_r (c := 0 + s ≤ cs.length) ?_ hd (by omega) h
  subst hl
  simp only [evalR, ha, ho, partA, hg, hs, Option.map_some, List.drop_zero, List.take_length]
theorem step_storeW {t : TypeId} {ad x : Operand} {id s : Nat} {l : List Bool} {cs : List AV} {H' : Heap} (ha : St.ev ⟨T, H, nx, mv, nt, lo⟩ ad = some (.ptr id 0)) (hx : St.ev ⟨T, H, nx, mv, nt, lo⟩ x = some (.agg (bcells l))) (hs : tsz P t = some s) (hl : l.length = s)
    (hg : hget H id = some (.box cs)) (hc : cs.length = s) (htot : dr = false ∨ total ops j = true)
    (hH : hset H id (.box (bcells l)) = H') (h : opsWp P ops dr (j + 1) r ⟨T, H', nx, mv, nt, lo⟩ Q) :
    opsWp P ops dr j ({ dst := none, op := .store t ad x, type := type, pos := pos, after := after, guard := none } :: r) ⟨T, H, nx, mv, nt, lo⟩ Q := by
  refine step_storeB ha hx hs ?_ hg ?_ htot ?_ h
  · simp only [told, avCells, bcells_one, bcells_len, hl, Nat.beq_refl, Bool.and_true]
  · simp only [avCells, bcells_len, hl, Nat.zero_add, hc]; simp [Nat.ble_eq]
  · rw [← hH]; simp only [avCells, bcells_len, hl, Nat.zero_add, List.take_zero, List.nil_append]
    rw [← hc, List.drop_length, List.append_nil]
theorem step_idxP {t e : TypeId} {x i : Operand} {s n k off : Nat} {cs : List PV} {kk : IntKind} {m : Int} (hx : St.ev ⟨T, H, nx, mv, nt, lo⟩ x = some (.pptr cs off)) (hi : St.ev ⟨T, H, nx, mv, nt, lo⟩ i = some (.pv (.int kk m))) (hm : m = (k : Int)) (ht : tarr P t = some (n, e)) (hs : tsz P e = some s)
    (hk : k < n) (hd : Nat.blt d nt = true) (h : opsWp P ops dr (j + 1) r ⟨(d, .pptr cs (off + k * s)) :: T, H, nx, mv, nt, lo⟩ Q) :
    opsWp P ops dr j ({ dst := some d, op := .indexAddr t x i, type := type, pos := pos, after := after, guard := none } :: r) ⟨T, H, nx, mv, nt, lo⟩ Q := by
  subst hm
  refine step_r (c := 0 ≤ (k : Int) ∧ (k : Int) < n) ?_ hd ⟨by omega, by omega⟩ h
  simp only [evalR, hx, hi, intA, indexA, ht, hs, Option.map_some, Int.toNat_natCast]
end


def contains (c : UInt8) : Bool :=
  (isLet c)
theorem contains_ok (c : UInt8) : Ok Tryd.prog 57 [.pptr (encSET (setL)) 0, .pv (.int .u8 c.toNat)] [] (B (contains c)) [] [] := by
 refine ok_of_sem Tryd.func57 rfl ?_
 show Walks Tryd.prog _ _ ⟨[(0, .pptr (encSET (setL)) 0), (1, .pv (.int .u8 c.toNat))], [], 0, [], 10, 0⟩
 refine sem_seq (sem_region rfl (step_r rfl rfl trivial (step_nil (seqK_n (sem_seq (sem_region rfl (step_r rfl rfl trivial (step_r rfl rfl trivial (step_r rfl rfl trivial ?_)))))))))
 refine step_idxP (k := c.toNat) rfl rfl rfl rfl rfl (UInt8.toNat_lt _) rfl ?_
 refine step_load_one rfl rfl rfl (encSET_get c) rfl (step_r rfl rfl trivial (step_nil (seqK_n (sem_ret ?_))))
 have e3 : contains c = (isLet c) := by
  unfold contains
  try dsimp only
  all_goals rfl
 rw [e3]
 exact answersR rfl ⟨trivial, trivial⟩ (rfl) rfl

def mkset_L0 : List UInt8 → Nat → (List Bool) → List Bool
  | [], k0, as0 => as0
  | x0 :: l_, k0, as0 => mkset_L0 l_ (k0 + 1) (as0.set (letters.getD k0 0).toNat true)
def mkset : (List Bool) × Bool :=
  (let as_0 := mkset_L0 letters 0 (List.replicate 256 false); (as_0, true))
theorem mkset_ok  : Ok Tryd.prog 49 [.pv (.str letters)] [] (.tup [aSET (mkset).1, B (mkset).2]) [] [] := by
 refine ok_of_sem Tryd.func49 rfl ?_
 show Walks Tryd.prog _ _ ⟨[(0, .pv (.str letters))], [], 0, [], 21, 0⟩
 refine sem_seq (sem_region rfl (step_n (o := .box (bcells ((List.replicate 256 false)))) (nx' := 1) rfl rfl rfl trivial (step_r rfl rfl trivial (step_nil (seqK_n (sem_seq (sem_seq (sem_region rfl (step_r rfl rfl trivial (step_nil (seqK_n ?_)))))))))))
 refine sem_cutW (fun as_0 : List Bool => (⟨[(2, .ptr 0 0)], [(0, .box (bcells (as_0)))], 1, [], 21, 0⟩ : St)) (fun as_0 : List Bool => mkset_L0 letters 0 (List.replicate 256 false) = as_0 ∧ (as_0.length = 256)) ?_ ?_
 ·refine sem_block ?_
  refine sem_loopT (fun w_ : Nat × (List Bool) => match w_ with | (k0, as0) => (⟨[(0, .pv (.str letters)), (2, .ptr 0 0), (4, I k0)], [(0, .box (bcells (as0)))], 1, [], 21, 0⟩ : St)) (fun w_ : Nat × (List Bool) => match w_ with | (k0, as0) => mkset_L0 (letters.drop k0) k0 as0 = mkset_L0 letters 0 (List.replicate 256 false) ∧ k0 ≤ letters.length ∧ as0.length = 256) (fun w_ : Nat × (List Bool) => match w_ with | (k0, as0) => letters.length - k0) (0, (List.replicate 256 false)) (⟨rfl, Nat.zero_le _, List.length_replicate ..⟩) ?_ (fun w_ hh_ => ?_)
  ·exact (Trans.ren [] (by decide +kernel) (by decide +kernel) rfl ⟨⟨rfl, rfl⟩, ⟨rfl, rfl⟩, ⟨rfl, rfl⟩, trivial⟩ ⟨⟨congrArg some (bc_ren _ _), bc_below _ _, rfl⟩, trivial⟩ (by decide))
  obtain ⟨k0, as0⟩ := w_
  obtain ⟨hI0, hb0, hv0⟩ := hh_
  show Walks Tryd.prog _ _ (⟨[(0, .pv (.str letters)), (2, .ptr 0 0), (4, I k0)], [(0, .box (bcells (as0)))], 1, [], 21, 0⟩ : St)
  refine sem_seq (sem_seq (sem_region rfl (step_r rfl rfl trivial (step_r rfl rfl trivial (step_r rfl rfl trivial (step_bin rfl rfl rfl rfl rfl trivial (step_nil (seqK_n ?_))))))))
  refine sem_cond rfl (fun h4 => ?_) (fun h4 => ?_)
  ·have g4 : (k0 : Int) < letters.length := of_decide_eq_true h4
   have hk0 : k0 < letters.length := by omega
   obtain ⟨x0, hx0⟩ : ∃ z_, letters[k0]? = some z_ := ⟨_, List.getElem?_eq_getElem hk0⟩
   refine sem_skip (seqK_n (sem_seq (sem_block (sem_seq (sem_region rfl (step_r rfl rfl trivial (step_r rfl rfl trivial ?_)))))))
   refine step_idxStr (k := k0) rfl rfl rfl rfl (by first | assumption | omega | (simp only [IntKind.wrap_i64]; omega) | (simp only [IntKind.wrap_i64] at *; omega) | (simp; omega)) rfl ?_
   refine step_r rfl rfl trivial (step_nil (seqK_n (sem_seq (sem_seq (sem_region rfl (step_r rfl rfl trivial (step_bin rfl rfl rfl rfl rfl trivial (step_nil (seqK_n ?_)))))))))
   refine sem_cond rfl (fun h6 => ?_) (fun h6 => ?_)
   ·exact absurd (of_decide_eq_true h6 : ((letters.getD k0 0).toNat : Int) ≥ 128) (Int.not_le.2 (Int.ofNat_lt.2 (letters_small hk0)))
   ·have g6 : ¬ (((letters.getD k0 0).toNat : Int) ≥ 128) := of_decide_eq_false h6
    refine sem_skip (seqK_n (sem_region rfl (step_r rfl rfl trivial ?_)))
    refine step_idxA (k := (letters.getD k0 0).toNat) rfl rfl rfl rfl rfl (UInt8.toNat_lt _) rfl ?_
    refine step_store_boxA (cs' := bcells (as0.set (letters.getD k0 0).toNat true)) (H' := [(0, .box (bcells (as0.set (letters.getD k0 0).toNat true)))]) rfl rfl rfl rfl rfl rfl (by show 0 + (letters.getD k0 0).toNat * 1 < (bcells as0).length; rw [bcells_len]; have := UInt8.toNat_lt (letters.getD k0 0); omega) (bcells_set _ _ _) (.inl rfl) rfl ?_
    refine step_nil (blkK_n (seqK_n (sem_region rfl (step_r rfl rfl trivial (step_bin rfl rfl rfl rfl rfl trivial (step_r rfl rfl trivial (step_nil ?_)))))))
    have e8 : mkset_L0 (letters.drop k0) k0 as0 = mkset_L0 (letters.drop (k0 + 1)) (k0 + 1) (as0.set (letters.getD k0 0).toNat true) := by
     rewrite [drop_cons hx0]
     rewrite [mkset_L0]
     try dsimp only
     all_goals rfl
    exact lup_againT (k0 + 1, (as0.set (letters.getD k0 0).toNat true)) ⟨e8.symm.trans hI0, hk0, by rw [List.length_set]; assumption⟩ (by show letters.length - (k0 + 1) < letters.length - k0; omega) (Trans.ren [] (by decide +kernel) (by decide +kernel) rfl ⟨⟨rfl, rfl⟩, ⟨rfl, rfl⟩, ⟨congrArg (fun n => some (I n)) (wrapI (k := k0) (by have h63 : letters.length = 63 := rfl; omega)), rfl⟩, trivial⟩ ⟨⟨congrArg some (bc_ren _ _), bc_below _ _, rfl⟩, trivial⟩ (by decide))
  ·have g4 : ¬ ((k0 : Int) < letters.length) := of_decide_eq_false h4
   have hk0 : k0 = letters.length := by omega
   refine sem_exit (seqK_e (lupK_e (blkK_t rfl ?_)))
   have e9 : mkset_L0 letters 0 (List.replicate 256 false) = as0 := by
    rewrite [← hI0, hk0, List.drop_length]
    rewrite [mkset_L0]
    try dsimp only
    all_goals rfl
   exact cutW_n as0 ⟨e9, by first | assumption | omega | (simp; omega) | simp_all | grind⟩ (Trans.ren [] (by decide +kernel) (by decide +kernel) rfl ⟨⟨rfl, rfl⟩, trivial⟩ ⟨⟨congrArg some (bc_ren _ _), bc_below _ _, rfl⟩, trivial⟩ (by decide))
 ·rintro as_0 ⟨(hJ1 : mkset_L0 letters 0 (List.replicate 256 false) = as_0), hE0⟩
  show seqK _ _ _ .normal (⟨[(2, .ptr 0 0)], [(0, .box (bcells (as_0)))], 1, [], 21, 0⟩ : St)
  refine seqK_n (sem_seq (sem_region rfl ?_))
  refine step_loadW rfl rfl rfl rfl (by simp only [bcells_len]; first | assumption | simp) rfl ?_
  refine step_storeW rfl rfl rfl (by first | assumption | rfl) rfl (by first | rfl | (simp only [bcells_len]; first | assumption | simp)) (.inl rfl) rfl ?_
  refine step_r rfl rfl trivial (step_nil (seqK_n (sem_ret ?_)))
  have e10 : mkset = (as_0, true) := by
   unfold mkset
   try dsimp only
   rewrite [hJ1]
   try dsimp only
   all_goals rfl
  rw [e10]
  refine answersR (vs := [_, _]) rfl ⟨(by show 0 + 256 ≤ (bcells as_0).length; rw [bcells_len]; omega), trivial, trivial⟩ (by show AV.tup [.agg (((bcells as_0).drop 0).take 256), B true] = .tup [.agg (bcells as_0), B true]; rw [List.drop_zero, List.take_of_length_le (by rw [bcells_len]; omega)]) (show (below 0 (.agg (bcells as_0)) && (below 0 (B true) && true)) = true by have := bc_below 0 as_0; simp only [below, this]; rfl)

theorem mkset_eq : mkset = (setL, true) := by decide +kernel
theorem mkset_ok' : Ok Tryd.prog 49 [.pv (.str letters)] [] (.tup [aSET setL, B true]) [] [] := by
  have h := mkset_ok; rw [mkset_eq] at h; exact h


def trimL_L0 : Nat → (List UInt8) → List UInt8
  | 0, _ => default
  | n_ + 1, s0 => if (s0.length : Int) > 0 then (if contains (s0.getD 0 0) = true then trimL_L0 n_ (s0.drop 1) else s0) else s0
def trimL (s : List UInt8) : List UInt8 :=
  (let s_0 := trimL_L0 (s.length + 1) s; s_0)
theorem trimL_ok (s : List UInt8) (h24 : s.length ≤ 24) : Ok Tryd.prog 50 [.pv (.str s), .pptr (encSET (setL)) 0] [] (.pv (.str (trimL s))) [] [] := by
 refine ok_of_sem Tryd.func50 rfl ?_
 show Walks Tryd.prog _ _ ⟨[(0, .pv (.str s)), (1, .pptr (encSET (setL)) 0)], [], 0, [], 16, 0⟩
 refine sem_seq (sem_region rfl (step_r rfl rfl trivial (step_nil (seqK_n (sem_seq ?_)))))
 refine sem_cutW (fun s_0 : List UInt8 => (⟨[(0, .pv (.str s_0))], [], 0, [], 16, 0⟩ : St)) (fun s_0 : List UInt8 => trimL_L0 (s.length + 1) s = s_0 ∧ (s_0.length ≤ 24)) ?_ ?_
 ·refine sem_block ?_
  refine sem_loopT (fun w_ : Nat × (List UInt8) => match w_ with | (f0, s0) => (⟨[(0, .pv (.str s0)), (1, .pptr (encSET (setL)) 0)], [], 0, [], 16, 0⟩ : St)) (fun w_ : Nat × (List UInt8) => match w_ with | (f0, s0) => trimL_L0 f0 s0 = trimL_L0 (s.length + 1) s ∧ s0.length < f0 ∧ s0.length ≤ 24) (fun w_ : Nat × (List UInt8) => match w_ with | (f0, s0) => f0) (s.length + 1, s) (⟨rfl, (by first | omega | (simp; omega)), h24⟩) ?_ (fun w_ hh_ => ?_)
  ·exact (Trans.ren [] (by decide +kernel) (by decide +kernel) rfl ⟨⟨rfl, rfl⟩, ⟨rfl, rfl⟩, trivial⟩ trivial (by decide))
  obtain ⟨f0, s0⟩ := w_
  obtain ⟨hI0, hb0, hv0⟩ := hh_
  obtain ⟨f0, rfl⟩ : ∃ z_, f0 = z_ + 1 := ⟨f0 - 1, by omega⟩
  show Walks Tryd.prog _ _ (⟨[(0, .pv (.str s0)), (1, .pptr (encSET (setL)) 0)], [], 0, [], 16, 0⟩ : St)
  refine sem_seq (sem_seq (sem_region rfl (step_r rfl rfl trivial (step_r rfl rfl trivial (step_bin rfl rfl rfl rfl rfl trivial (step_nil (seqK_n ?_)))))))
  refine sem_cond rfl (fun h3 => ?_) (fun h3 => ?_)
  ·have g3 : (s0.length : Int) > 0 := of_decide_eq_true h3
   refine sem_skip (seqK_n (sem_block (sem_seq (sem_seq (sem_region rfl (step_r rfl rfl trivial (step_r rfl rfl trivial ?_)))))))
   refine step_idxStr (k := 0) rfl rfl rfl rfl (by first | assumption | omega | (simp only [IntKind.wrap_i64]; omega) | (simp only [IntKind.wrap_i64] at *; omega) | (simp; omega)) rfl ?_
   refine step_call rfl rfl rfl rfl (contains_ok (s0.getD 0 0)) rfl rfl rfl (step_r rfl rfl trivial (step_nil (seqK_n ?_)))
   refine sem_cond rfl (fun h4 => ?_) (fun h4 => ?_)
   ·have g4 : ¬ (contains (s0.getD 0 0) = true) := boo_f (not_t h4)
    refine sem_exit (seqK_e ?_)
    refine blkK_f rfl ?_
    refine lupK_e (blkK_t rfl ?_)
    have e5 : trimL_L0 (s.length + 1) s = s0 := by
     rewrite [← hI0]
     rewrite [trimL_L0]
     try dsimp only
     rewrite [if_pos g3, if_neg g4]
     all_goals rfl
    exact cutW_n s0 ⟨e5, by first | assumption | omega | (simp; omega) | simp_all | grind⟩ (Trans.ren [] (by decide +kernel) (by decide +kernel) rfl ⟨⟨rfl, rfl⟩, trivial⟩ trivial (by decide))
   ·have g4 : contains (s0.getD 0 0) = true := (not_f h4)
    refine sem_skip (seqK_n (sem_region rfl (step_r rfl rfl trivial ?_)))
    refine step_strFrom (k := 1) rfl rfl rfl rfl (by first | omega | (simp only [IntKind.wrap_i64]; omega) | (simp only [IntKind.wrap_i64] at *; omega) | (simp; omega)) rfl ?_
    refine step_r rfl rfl trivial (step_nil (blkK_n ?_))
    have e7 : trimL_L0 (f0 + 1) s0 = trimL_L0 f0 (s0.drop 1) := by
     rewrite [trimL_L0]
     try dsimp only
     rewrite [if_pos g3, if_pos g4]
     all_goals rfl
    exact lup_againT (f0, (s0.drop 1)) ⟨e7.symm.trans hI0, (by simp only [List.length_drop, List.length_take, IntKind.wrap_i64]; omega), (by simp only [List.length_drop, List.length_take, IntKind.wrap_i64]; omega)⟩ (Nat.lt_succ_self _) (Trans.ren [] (by decide +kernel) (by decide +kernel) rfl ⟨⟨rfl, rfl⟩, ⟨rfl, rfl⟩, trivial⟩ trivial (by decide))
  ·have g3 : ¬ ((s0.length : Int) > 0) := of_decide_eq_false h3
   refine sem_exit (seqK_e (lupK_e (blkK_t rfl ?_)))
   have e8 : trimL_L0 (s.length + 1) s = s0 := by
    rewrite [← hI0]
    rewrite [trimL_L0]
    try dsimp only
    rewrite [if_neg g3]
    all_goals rfl
   exact cutW_n s0 ⟨e8, by first | assumption | omega | (simp; omega) | simp_all | grind⟩ (Trans.ren [] (by decide +kernel) (by decide +kernel) rfl ⟨⟨rfl, rfl⟩, trivial⟩ trivial (by decide))
 ·rintro s_0 ⟨(hJ1 : trimL_L0 (s.length + 1) s = s_0), hE0⟩
  show seqK _ _ _ .normal (⟨[(0, .pv (.str s_0))], [], 0, [], 16, 0⟩ : St)
  refine seqK_n (sem_seq (sem_region rfl (step_r rfl rfl trivial (step_r rfl rfl trivial (step_nil (seqK_n (sem_ret ?_)))))))
  have e10 : trimL s = s_0 := by
   unfold trimL
   try dsimp only
   rewrite [hJ1]
   try dsimp only
   all_goals rfl
  rw [e10]
  exact answersR rfl ⟨trivial, trivial⟩ (rfl) rfl

def trimR_L0 : Nat → (List UInt8) → List UInt8
  | 0, _ => default
  | n_ + 1, s0 => if (s0.length : Int) > 0 then (if contains (s0.getD ((IntKind.i64.wrap (s0.length - 1)).toNat) 0) = true then trimR_L0 n_ (s0.take ((IntKind.i64.wrap (s0.length - 1)).toNat)) else s0) else s0
def trimR (s : List UInt8) : List UInt8 :=
  (let s_0 := trimR_L0 (s.length + 1) s; s_0)
theorem trimR_ok (s : List UInt8) (h24 : s.length ≤ 24) : Ok Tryd.prog 51 [.pv (.str s), .pptr (encSET (setL)) 0] [] (.pv (.str (trimR s))) [] [] := by
 refine ok_of_sem Tryd.func51 rfl ?_
 show Walks Tryd.prog _ _ ⟨[(0, .pv (.str s)), (1, .pptr (encSET (setL)) 0)], [], 0, [], 22, 0⟩
 refine sem_seq (sem_region rfl (step_r rfl rfl trivial (step_nil (seqK_n (sem_seq ?_)))))
 refine sem_cutW (fun s_0 : List UInt8 => (⟨[(0, .pv (.str s_0))], [], 0, [], 22, 0⟩ : St)) (fun s_0 : List UInt8 => trimR_L0 (s.length + 1) s = s_0 ∧ (s_0.length ≤ 24)) ?_ ?_
 ·refine sem_block ?_
  refine sem_loopT (fun w_ : Nat × (List UInt8) => match w_ with | (f0, s0) => (⟨[(0, .pv (.str s0)), (1, .pptr (encSET (setL)) 0)], [], 0, [], 22, 0⟩ : St)) (fun w_ : Nat × (List UInt8) => match w_ with | (f0, s0) => trimR_L0 f0 s0 = trimR_L0 (s.length + 1) s ∧ s0.length < f0 ∧ s0.length ≤ 24) (fun w_ : Nat × (List UInt8) => match w_ with | (f0, s0) => f0) (s.length + 1, s) (⟨rfl, (by first | omega | (simp; omega)), h24⟩) ?_ (fun w_ hh_ => ?_)
  ·exact (Trans.ren [] (by decide +kernel) (by decide +kernel) rfl ⟨⟨rfl, rfl⟩, ⟨rfl, rfl⟩, trivial⟩ trivial (by decide))
  obtain ⟨f0, s0⟩ := w_
  obtain ⟨hI0, hb0, hv0⟩ := hh_
  obtain ⟨f0, rfl⟩ : ∃ z_, f0 = z_ + 1 := ⟨f0 - 1, by omega⟩
  show Walks Tryd.prog _ _ (⟨[(0, .pv (.str s0)), (1, .pptr (encSET (setL)) 0)], [], 0, [], 22, 0⟩ : St)
  refine sem_seq (sem_seq (sem_region rfl (step_r rfl rfl trivial (step_r rfl rfl trivial (step_bin rfl rfl rfl rfl rfl trivial (step_nil (seqK_n ?_)))))))
  refine sem_cond rfl (fun h3 => ?_) (fun h3 => ?_)
  ·have g3 : (s0.length : Int) > 0 := of_decide_eq_true h3
   refine sem_skip (seqK_n (sem_block (sem_seq (sem_seq (sem_region rfl (step_r rfl rfl trivial (step_r rfl rfl trivial (step_r rfl rfl trivial (step_r rfl rfl trivial (step_bin rfl rfl rfl rfl rfl trivial ?_))))))))))
   refine step_idxStr (k := (IntKind.i64.wrap (s0.length - 1)).toNat) rfl rfl (Int.toNat_of_nonneg (by first | omega | (simp only [IntKind.wrap_i64]; omega) | (simp only [IntKind.wrap_i64] at *; omega) | (simp; omega))).symm rfl (by first | assumption | omega | (simp only [IntKind.wrap_i64]; omega) | (simp only [IntKind.wrap_i64] at *; omega) | (simp; omega)) rfl ?_
   refine step_call rfl rfl rfl rfl (contains_ok (s0.getD ((IntKind.i64.wrap (s0.length - 1)).toNat) 0)) rfl rfl rfl (step_r rfl rfl trivial (step_nil (seqK_n ?_)))
   refine sem_cond rfl (fun h4 => ?_) (fun h4 => ?_)
   ·have g4 : ¬ (contains (s0.getD ((IntKind.i64.wrap (s0.length - 1)).toNat) 0) = true) := boo_f (not_t h4)
    refine sem_exit (seqK_e ?_)
    refine blkK_f rfl ?_
    refine lupK_e (blkK_t rfl ?_)
    have e5 : trimR_L0 (s.length + 1) s = s0 := by
     rewrite [← hI0]
     rewrite [trimR_L0]
     try dsimp only
     rewrite [if_pos g3, if_neg g4]
     all_goals rfl
    exact cutW_n s0 ⟨e5, by first | assumption | omega | (simp; omega) | simp_all | grind⟩ (Trans.ren [] (by decide +kernel) (by decide +kernel) rfl ⟨⟨rfl, rfl⟩, trivial⟩ trivial (by decide))
   ·have g4 : contains (s0.getD ((IntKind.i64.wrap (s0.length - 1)).toNat) 0) = true := (not_f h4)
    refine sem_skip (seqK_n (sem_region rfl (step_r rfl rfl trivial (step_r rfl rfl trivial (step_r rfl rfl trivial (step_bin rfl rfl rfl rfl rfl trivial ?_))))))
    refine step_strTo (k := (IntKind.i64.wrap (s0.length - 1)).toNat) rfl rfl (Int.toNat_of_nonneg (by first | omega | (simp only [IntKind.wrap_i64]; omega) | (simp only [IntKind.wrap_i64] at *; omega) | (simp; omega))).symm rfl (by first | omega | (simp only [IntKind.wrap_i64]; omega) | (simp only [IntKind.wrap_i64] at *; omega) | (simp; omega)) rfl ?_
    refine step_r rfl rfl trivial (step_nil (blkK_n ?_))
    have e7 : trimR_L0 (f0 + 1) s0 = trimR_L0 f0 (s0.take ((IntKind.i64.wrap (s0.length - 1)).toNat)) := by
     rewrite [trimR_L0]
     try dsimp only
     rewrite [if_pos g3, if_pos g4]
     all_goals rfl
    exact lup_againT (f0, (s0.take ((IntKind.i64.wrap (s0.length - 1)).toNat))) ⟨e7.symm.trans hI0, (by simp only [List.length_drop, List.length_take, IntKind.wrap_i64]; omega), (by simp only [List.length_drop, List.length_take, IntKind.wrap_i64]; omega)⟩ (Nat.lt_succ_self _) (Trans.ren [] (by decide +kernel) (by decide +kernel) rfl ⟨⟨rfl, rfl⟩, ⟨rfl, rfl⟩, trivial⟩ trivial (by decide))
  ·have g3 : ¬ ((s0.length : Int) > 0) := of_decide_eq_false h3
   refine sem_exit (seqK_e (lupK_e (blkK_t rfl ?_)))
   have e8 : trimR_L0 (s.length + 1) s = s0 := by
    rewrite [← hI0]
    rewrite [trimR_L0]
    try dsimp only
    rewrite [if_neg g3]
    all_goals rfl
   exact cutW_n s0 ⟨e8, by first | assumption | omega | (simp; omega) | simp_all | grind⟩ (Trans.ren [] (by decide +kernel) (by decide +kernel) rfl ⟨⟨rfl, rfl⟩, trivial⟩ trivial (by decide))
 ·rintro s_0 ⟨(hJ1 : trimR_L0 (s.length + 1) s = s_0), hE0⟩
  show seqK _ _ _ .normal (⟨[(0, .pv (.str s_0))], [], 0, [], 22, 0⟩ : St)
  refine seqK_n (sem_seq (sem_region rfl (step_r rfl rfl trivial (step_r rfl rfl trivial (step_nil (seqK_n (sem_ret ?_)))))))
  have e10 : trimR s = s_0 := by
   unfold trimR
   try dsimp only
   rewrite [hJ1]
   try dsimp only
   all_goals rfl
  rw [e10]
  exact answersR rfl ⟨trivial, trivial⟩ (rfl) rfl

theorem trimR_L0_len : ∀ (n : Nat) (s : List UInt8), s.length < n → (trimR_L0 n s).length ≤ s.length
  | 0, s, h => by omega
  | n + 1, s, h => by
    rw [trimR_L0]
    split
    · split
      · have h1 : (s.take (IntKind.i64.wrap (s.length - 1)).toNat).length ≤ s.length := by rw [List.length_take]; exact Nat.min_le_right _ _
        by_cases h2 : (s.take (IntKind.i64.wrap (s.length - 1)).toNat).length < n
        · exact Nat.le_trans (trimR_L0_len n _ h2) h1
        · exfalso; rename_i h3 _; simp only [List.length_take, IntKind.wrap_i64] at h2 h1; omega
      · exact Nat.le_refl _
    · exact Nat.le_refl _
theorem trimR_len (s : List UInt8) : (trimR s).length ≤ s.length := trimR_L0_len _ _ (Nat.lt_succ_self _)


def trim (s : List UInt8) : List UInt8 :=
  if s = ([]) then s else if letters = ([]) then s else (trimL (trimR s))
theorem trim_ok (s : List UInt8) (h24 : s.length ≤ 24) : Ok Tryd.prog 36 [.pv (.str s), .pv (.str letters)] [] (.pv (.str (trim s))) [] [] := by
 have h24x := Nat.le_trans (trimR_len s) h24
 refine ok_of_sem Tryd.func36 rfl ?_
 show Walks Tryd.prog _ _ ⟨[(0, .pv (.str s)), (1, .pv (.str letters))], [], 0, [], 43, 0⟩
 refine sem_seq (sem_region rfl (step_r rfl rfl trivial (step_nil (seqK_n (sem_seq (sem_seq (sem_region rfl (step_r rfl rfl trivial (step_bin rfl rfl rfl rfl rfl trivial (step_r rfl rfl trivial ?_))))))))))
 refine step_gs rfl (fun h3 => ?_) (fun h3 => ?_)
 ·have g3 : s = ([]) := beq_t h3
  refine step_g0 rfl h3 rfl (step_g0 rfl h3 rfl (step_pickT rfl h3 rfl rfl (step_nil (seqK_n (sem_condT rfl (sem_seq (sem_region rfl (step_r rfl rfl trivial (step_r rfl rfl trivial (step_nil (seqK_n ?_)))))))))))
  refine sem_ret (seqK_r ?_)
  have e4 : trim s = s := by
   unfold trim
   try dsimp only
   rewrite [if_pos g3]
   all_goals rfl
  rw [e4]
  exact answersR rfl ⟨trivial, trivial⟩ (rfl) rfl
 ·have g3 : ¬ (s = ([])) := beq_f h3
  refine step_g1 rfl h3 (step_r rfl rfl trivial (step_g1 rfl h3 (step_bin rfl rfl rfl rfl rfl trivial (step_pickF rfl h3 rfl rfl (step_nil (seqK_n ?_))))))
  refine sem_cond rfl (fun h7 => ?_) (fun h7 => ?_)
  ·have g7 : letters = ([]) := beq_t h7
   refine sem_seq (sem_region rfl (step_r rfl rfl trivial (step_r rfl rfl trivial (step_nil (seqK_n (sem_ret (seqK_r ?_)))))))
   have e8 : trim s = s := by
    unfold trim
    try dsimp only
    rewrite [if_neg g3, if_pos g7]
    all_goals rfl
   rw [e8]
   exact answersR rfl ⟨trivial, trivial⟩ (rfl) rfl
  ·have g7 : ¬ (letters = ([])) := beq_f h7
   refine sem_skip (seqK_n (sem_seq (sem_seq (sem_region rfl (step_r rfl rfl trivial (step_r rfl rfl trivial (step_bin rfl rfl rfl rfl rfl trivial (step_r rfl rfl trivial ?_))))))))
   refine step_gs rfl (fun h10 => ?_) (fun h10 => ?_)
   ·exact absurd h10 (by decide +kernel)
   ·have g10 : ¬ ((letters.length : Int) = 1) := beq_f h10
    refine step_g0 rfl h10 rfl (step_g0 rfl h10 rfl (step_g0 rfl h10 rfl (step_pickF rfl h10 rfl rfl (step_nil (seqK_n (sem_condF rfl (sem_skip (seqK_n (sem_seq (sem_seq (sem_region rfl ?_)))))))))))
    refine step_r rfl rfl trivial (step_call rfl rfl rfl rfl (mkset_ok') rfl rfl rfl (step_r rfl rfl trivial (step_r rfl rfl trivial (step_r rfl rfl trivial (step_n (o := .box (bcells ((List.replicate 256 false)))) (nx' := 1) rfl rfl rfl trivial ?_)))))
    refine step_storeW rfl rfl rfl (by first | assumption | rfl) rfl (by first | rfl | (simp only [bcells_len]; first | assumption | simp)) (.inl rfl) rfl ?_
    refine step_r rfl rfl trivial (step_nil (seqK_n (sem_seq (sem_region rfl (step_r rfl rfl trivial (step_nil (seqK_n (sem_condT rfl (sem_seq (sem_region rfl (step_r rfl rfl trivial ?_)))))))))))
    refine step_callJ (Hin := [.box (bcells setL)]) (Hnew := []) (H' := [(0, .box (bcells setL))]) (nx' := 1) [0] rfl rfl rfl rfl (show [some (VObj.box (bcells setL))] = [some (renO _ (.box (bcells setL)))] by rw [← bc_ren]) (by show (belowL 1 (bcells setL) && true) = true; rw [bc_below]; rfl) rfl rfl (frz_set _ _) ⟨trivial, trivial, trivial⟩ (trimR_ok s (by first | assumption | exact h24x)) rfl (by decide) rfl rfl trivial rfl rfl rfl rfl ?_
    refine step_callJ (Hin := [.box (bcells setL)]) (Hnew := []) (H' := [(0, .box (bcells setL))]) (nx' := 1) [0] rfl rfl rfl rfl (show [some (VObj.box (bcells setL))] = [some (renO _ (.box (bcells setL)))] by rw [← bc_ren]) (by show (belowL 1 (bcells setL) && true) = true; rw [bc_below]; rfl) rfl rfl (frz_set _ _) ⟨trivial, trivial, trivial⟩ (trimL_ok (trimR s) (by first | assumption | exact h24x)) rfl (by decide) rfl rfl trivial rfl rfl rfl rfl ?_
    refine step_r rfl rfl trivial (step_nil (seqK_n (sem_ret (seqK_r ?_))))
    have e12 : trim s = (trimL (trimR s)) := by
     unfold trim
     try dsimp only
     rewrite [if_neg g3, if_neg g7]
     all_goals rfl
    rw [e12]
    exact answersR rfl ⟨trivial, trivial⟩ (rfl) rfl
end Go.Proofs.YtbfmonajbfljmaaDoor

import Derived.Test.YtppnccjeggnllaaGreatBase
namespace Go.Proofs.YtppnccjeggnllaaGreat
open Go Go.RowKit Go.Proofs.YtppnccjeggnllaaGreatVm
attribute [local irreducible] zY zaM OpsS
set_option maxHeartbeats 400000
set_option maxRecDepth 100000
set_option linter.all false
theorem zmi (a : List Bool) (a_f : Bool) (b : List Bool) (b_f : Bool) : Ok Tryz.prog 57 [.pv (.slc a.length a_f (encB a)), .pv (.slc b.length b_f (encB b))] [] (B (decide (a = b))) [] [] := by
 refine Ok.len fun hlen => ?_
 have hl_a : a.length ≤ maxLen := hlen _ (by simp [zT, lens, zU])
 have hl_b : b.length ≤ maxLen := hlen _ (by simp [zT, lens, zU])
 unfold maxLen at hl_a hl_b
 refine zz Tryz.func57 rfl ?_
 show zO Tryz.prog _ _ ⟨[(0, .pv (.slc a.length a_f (encB a))), (1, .pv (.slc b.length b_f (encB b)))], [], 0, [], 26, 0⟩
 refine zd (zb rfl (za rfl rfl trivial (zc (ze (zd (zd (zb rfl (za rfl rfl trivial (za rfl rfl trivial (za rfl rfl trivial (za rfl rfl trivial ?_)))))))))))
 refine zl rfl rfl rfl rfl rfl trivial (zc (ze ?_))
 refine zy rfl (fun h1 => ?_) (fun h1 => ?_)
 ·skip
  refine zd (zb rfl (za rfl rfl trivial (zc (ze (zo (zI ?_))))))
  have hne : ¬ a.length = b.length := by
   have h := h1; simp at h; omega
  exact zp rfl (by simp) (congrArg B (decide_eq_false (fun e => hne (by rw [e]))).symm) rfl
 ·have hlen : a.length = b.length := by
   have h := h1; simp at h; omega
  refine zA (ze (zd (zd (zb rfl (za rfl rfl trivial (za rfl rfl trivial (za rfl rfl trivial (zc (ze (zC ?_))))))))))
  refine zbk (fun k : Nat => (⟨[(0, .pv (.slc a.length a_f (encB a))), (1, .pv (.slc b.length b_f (encB b))), (12, I a.length), (13, I k)], [], 0, [], 26, 0⟩ : St)) (fun k : Nat => k ≤ a.length ∧ a.take k = b.take k) (fun k : Nat => a.length - k) 0 (⟨Nat.zero_le _, rfl⟩) (zaa rfl ⟨⟨rfl, rfl⟩, ⟨rfl, rfl⟩, ⟨rfl, rfl⟩, ⟨rfl, rfl⟩, trivial⟩ trivial (fun _ _ => .inr (Nat.zero_le _))) (fun k hI => ?_)
  show zO Tryz.prog _ _ (⟨[(0, .pv (.slc a.length a_f (encB a))), (1, .pv (.slc b.length b_f (encB b))), (12, I a.length), (13, I k)], [], 0, [], 26, 0⟩ : St)
  refine zd (zb rfl (zl rfl rfl rfl rfl rfl trivial (zc (ze (zd ?_)))))
  refine zy rfl (fun h2 => ?_) (fun h2 => ?_)
  ·have hk : k < a.length := by simpa using h2
   have hk2 : k < b.length := by omega
   obtain ⟨x, hx⟩ : ∃ x, a[k]? = some x := ⟨_, List.getElem?_eq_getElem hk⟩
   obtain ⟨y, hy⟩ : ∃ y, b[k]? = some y := ⟨_, List.getElem?_eq_getElem hk2⟩
   refine zA (ze (zd (zC (zd (zb rfl (za rfl rfl trivial (za rfl rfl trivial (zc (ze (zd ?_))))))))))
   refine zaW rfl (by decide +kernel) rfl ?_
   refine za rfl rfl trivial (za rfl rfl trivial (zS (k := k) rfl rfl rfl rfl hk (zgg hk) rfl (zaf rfl rfl rfl (zeS hx) rfl (za rfl rfl trivial (za rfl rfl trivial (zS (k := k) rfl rfl rfl rfl hk2 (zgg hk2) rfl (zaf rfl rfl rfl (zeS hy) rfl (zl rfl rfl rfl rfl rfl trivial (zc (ze ?_))))))))))
   refine zy rfl (fun h4 => ?_) (fun h4 => ?_)
   ·have hne : x ≠ y := by
     intro e; subst e; simp at h4
    refine zd (zb rfl (za rfl rfl trivial (zc (ze (zo (zad (zI (zbH (zad (zI ?_))))))))))
    exact zp rfl (by simp) (congrArg B (decide_eq_false (zhw hx hy hne)).symm) rfl
   ·have hxy : x = y := by
     have h := h4
     simp at h
     simpa using h
    refine zA (zar (ze (zb rfl (zl rfl rfl rfl rfl rfl trivial (za rfl rfl trivial (zc ?_))))))
    exact zca (k+1) (⟨hk, by rw [zcc hx, zcc hy, hI.2, hxy]⟩) (by omega) (zaa rfl ⟨⟨rfl, rfl⟩, ⟨rfl, rfl⟩, ⟨rfl, rfl⟩, ⟨congrArg (fun n => some (I n)) (zg6 hk hl_a), rfl⟩, trivial⟩ trivial (fun _ _ => .inr (Nat.zero_le _)))
  ·have hk : k = a.length := by have := of_decide_eq_false h2; have := hI.1; omega
   refine zV (zac (zal (zak rfl (ze (zd (zb rfl (za rfl rfl trivial (zc (ze (zo ?_))))))))))
   exact zp rfl (by simp) (congrArg B (decide_eq_true (zfP hI.2 hk hlen)).symm) rfl

structure zaB where
  (Id : Int)
  (Kind : Int)
  (Ticks : Int)
  (Every : Int)
  (Stacks : Int)
  (Amount : Int)
  (Harm : Bool)
  deriving DecidableEq, Inhabited
def zq (x : zaB) : List PV := [i64 x.Id, i64 x.Kind, i64 x.Ticks, i64 x.Every, i64 x.Stacks, i64 x.Amount, .bool x.Harm]
abbrev zdG (x : zaB) : AV := .agg [I x.Id, I x.Kind, I x.Ticks, I x.Every, I x.Stacks, I x.Amount, B x.Harm]
def zhA (x : zaB) : Prop := (InR x.Id) ∧ (InR x.Kind) ∧ (InR x.Ticks) ∧ (InR x.Every) ∧ (InR x.Stacks) ∧ (InR x.Amount)
theorem zkB (a : List zaB) (a_f : Bool) (b : List zaB) (b_f : Bool) : Ok Tryz.prog 58 [.pv (.slc a.length a_f (a.flatMap zq)), .pv (.slc b.length b_f (b.flatMap zq))] [] (B (decide (a = b))) [] [] := by
 refine Ok.len fun hlen => ?_
 have hl_a : a.length ≤ maxLen := hlen _ (by simp [zT, lens, zU])
 have hl_b : b.length ≤ maxLen := hlen _ (by simp [zT, lens, zU])
 unfold maxLen at hl_a hl_b
 refine zz Tryz.func58 rfl ?_
 show zO Tryz.prog _ _ ⟨[(0, .pv (.slc a.length a_f (a.flatMap zq))), (1, .pv (.slc b.length b_f (b.flatMap zq)))], [], 0, [], 26, 0⟩
 refine zd (zb rfl (za rfl rfl trivial (zc (ze (zd (zd (zb rfl (za rfl rfl trivial (za rfl rfl trivial (za rfl rfl trivial (za rfl rfl trivial ?_)))))))))))
 refine zl rfl rfl rfl rfl rfl trivial (zc (ze ?_))
 refine zy rfl (fun h1 => ?_) (fun h1 => ?_)
 ·skip
  refine zd (zb rfl (za rfl rfl trivial (zc (ze (zo (zI ?_))))))
  have hne : ¬ a.length = b.length := by
   have h := h1; simp at h; omega
  exact zp rfl (by simp) (congrArg B (decide_eq_false (fun e => hne (by rw [e]))).symm) rfl
 ·have hlen : a.length = b.length := by
   have h := h1; simp at h; omega
  refine zA (ze (zd (zd (zb rfl (za rfl rfl trivial (za rfl rfl trivial (za rfl rfl trivial (zc (ze (zC ?_))))))))))
  refine zbk (fun k : Nat => (⟨[(0, .pv (.slc a.length a_f (a.flatMap zq))), (1, .pv (.slc b.length b_f (b.flatMap zq))), (12, I a.length), (13, I k)], [], 0, [], 26, 0⟩ : St)) (fun k : Nat => k ≤ a.length ∧ a.take k = b.take k) (fun k : Nat => a.length - k) 0 (⟨Nat.zero_le _, rfl⟩) (zaa rfl ⟨⟨rfl, rfl⟩, ⟨rfl, rfl⟩, ⟨rfl, rfl⟩, ⟨rfl, rfl⟩, trivial⟩ trivial (fun _ _ => .inr (Nat.zero_le _))) (fun k hI => ?_)
  show zO Tryz.prog _ _ (⟨[(0, .pv (.slc a.length a_f (a.flatMap zq))), (1, .pv (.slc b.length b_f (b.flatMap zq))), (12, I a.length), (13, I k)], [], 0, [], 26, 0⟩ : St)
  refine zd (zb rfl (zl rfl rfl rfl rfl rfl trivial (zc (ze (zd ?_)))))
  refine zy rfl (fun h2 => ?_) (fun h2 => ?_)
  ·have hk : k < a.length := by simpa using h2
   have hk2 : k < b.length := by omega
   obtain ⟨x, hx⟩ : ∃ x, a[k]? = some x := ⟨_, List.getElem?_eq_getElem hk⟩
   obtain ⟨y, hy⟩ : ∃ y, b[k]? = some y := ⟨_, List.getElem?_eq_getElem hk2⟩
   refine zA (ze (zd (zC (zd (zb rfl (za rfl rfl trivial (za rfl rfl trivial (zc (ze (zd ?_))))))))))
   refine zaW rfl (by decide +kernel) rfl ?_
   refine za rfl rfl trivial (za rfl rfl trivial (zS (k := k) rfl rfl rfl rfl hk (zaj (s := 7) (enc := zq) (fun _ => rfl) (by decide) hk) rfl (zJ rfl rfl rfl (zap (s := 7) (enc := zq) (fun _ => rfl) hk) (z2 (s := 7) (enc := zq) (fun _ => rfl) hx) rfl (za rfl rfl trivial (za rfl rfl trivial (zS (k := k) rfl rfl rfl rfl hk2 (zaj (s := 7) (enc := zq) (fun _ => rfl) (by decide) hk2) rfl (zJ rfl rfl rfl (zap (s := 7) (enc := zq) (fun _ => rfl) hk2) (z2 (s := 7) (enc := zq) (fun _ => rfl) hy) rfl ?_)))))))
   refine zcw rfl rfl rfl (by kernel_rfl) rfl rfl rfl rfl rfl ?_
   refine zc (ze ?_)
   refine zy rfl (fun h4 => ?_) (fun h4 => ?_)
   ·have hne : x ≠ y := by
     intro e; subst e; simp at h4
    refine zd (zb rfl (za rfl rfl trivial (zc (ze (zo (zad (zI (zbH (zad (zI ?_))))))))))
    exact zp rfl (by simp) (congrArg B (decide_eq_false (zhw hx hy hne)).symm) rfl
   ·have hxy : x = y := by
     have h := h4
     simp at h
     rcases x with ⟨⟩; rcases y with ⟨⟩; simp_all
    refine zA (zar (ze (zb rfl (zl rfl rfl rfl rfl rfl trivial (za rfl rfl trivial (zc ?_))))))
    exact zca (k+1) (⟨hk, by rw [zcc hx, zcc hy, hI.2, hxy]⟩) (by omega) (zaa rfl ⟨⟨rfl, rfl⟩, ⟨rfl, rfl⟩, ⟨rfl, rfl⟩, ⟨congrArg (fun n => some (I n)) (zg6 hk hl_a), rfl⟩, trivial⟩ trivial (fun _ _ => .inr (Nat.zero_le _)))
  ·have hk : k = a.length := by have := of_decide_eq_false h2; have := hI.1; omega
   refine zV (zac (zal (zak rfl (ze (zd (zb rfl (za rfl rfl trivial (zc (ze (zo ?_))))))))))
   exact zp rfl (by simp) (congrArg B (decide_eq_true (zfP hI.2 hk hlen)).symm) rfl

structure zan where
  (Kind : Int)
  (Amount : Int)
  (Aura : Int)
  deriving DecidableEq, Inhabited
def zD (x : zan) : List PV := [i64 x.Kind, i64 x.Amount, i64 x.Aura]
abbrev zdo (x : zan) : AV := .agg [I x.Kind, I x.Amount, I x.Aura]
def zd6 (x : zan) : Prop := (InR x.Kind) ∧ (InR x.Amount) ∧ (InR x.Aura)
structure zG where
  (Id : Int)
  (Cast : Int)
  (Cool : Int)
  (Charges : Int)
  (Range : Int)
  (Cost : Int)
  (Sight : Bool)
  (Effects : List zan)
  deriving DecidableEq, Inhabited
def zj (x : zG) : List PV := [i64 x.Id, i64 x.Cast, i64 x.Cool, i64 x.Charges, i64 x.Range, i64 x.Cost, .bool x.Sight, .slc x.Effects.length false (x.Effects.flatMap zD)]
abbrev zag (x : zG) : AV := .agg [I x.Id, I x.Cast, I x.Cool, I x.Charges, I x.Range, I x.Cost, B x.Sight, .pv (.slc x.Effects.length false (x.Effects.flatMap zD))]
def zdV (x : zG) : Prop := (InR x.Id) ∧ (InR x.Cast) ∧ (InR x.Cool) ∧ (InR x.Charges) ∧ (InR x.Range) ∧ (InR x.Cost) ∧ ((∀ y ∈ x.Effects, zd6 y) ∧ x.Effects.length ≤ 140737488355328)

structure zbO where
  (Phase : Int)
  (When : Int)
  (Arg : Int)
  (Do : Int)
  (Value : Int)
  deriving DecidableEq, Inhabited
def zN (x : zbO) : List PV := [i64 x.Phase, i64 x.When, i64 x.Arg, i64 x.Do, i64 x.Value]
abbrev zfF (x : zbO) : AV := .agg [I x.Phase, I x.When, I x.Arg, I x.Do, I x.Value]
def zga (x : zbO) : Prop := (InR x.Phase) ∧ (InR x.When) ∧ (InR x.Arg) ∧ (InR x.Do) ∧ (InR x.Value)
structure zaU where
  (Item : Int)
  (Weight : Int)
  deriving DecidableEq, Inhabited
def zE (x : zaU) : List PV := [i64 x.Item, i64 x.Weight]
abbrev zen (x : zaU) : AV := .agg [I x.Item, I x.Weight]
def zeR (x : zaU) : Prop := (InR x.Item) ∧ (InR x.Weight)
structure GFoe where
  (Id : Int)
  (Health : Int)
  (Hit : Int)
  (Every : Int)
  (Reach : Int)
  (Script : List zbO)
  (Hoard : List zaU)
  (Drops : Int)
  deriving DecidableEq, Inhabited
def zw (x : GFoe) : List PV := [i64 x.Id, i64 x.Health, i64 x.Hit, i64 x.Every, i64 x.Reach, .slc x.Script.length false (x.Script.flatMap zN), .slc x.Hoard.length false (x.Hoard.flatMap zE), i64 x.Drops]
abbrev zdO (x : GFoe) : AV := .agg [I x.Id, I x.Health, I x.Hit, I x.Every, I x.Reach, .pv (.slc x.Script.length false (x.Script.flatMap zN)), .pv (.slc x.Hoard.length false (x.Hoard.flatMap zE)), I x.Drops]
def zjU (x : GFoe) : Prop := (InR x.Id) ∧ (InR x.Health) ∧ (InR x.Hit) ∧ (InR x.Every) ∧ (InR x.Reach) ∧ ((∀ y ∈ x.Script, zga y) ∧ x.Script.length ≤ 140737488355328) ∧ ((∀ y ∈ x.Hoard, zeR y) ∧ x.Hoard.length ≤ 140737488355328) ∧ (InR x.Drops)

theorem ziD (a : List zan) (a_f : Bool) (b : List zan) (b_f : Bool) : Ok Tryz.prog 101 [.pv (.slc a.length a_f (a.flatMap zD)), .pv (.slc b.length b_f (b.flatMap zD))] [] (B (decide (a = b))) [] [] := by
 refine Ok.len fun hlen => ?_
 have hl_a : a.length ≤ maxLen := hlen _ (by simp [zT, lens, zU])
 have hl_b : b.length ≤ maxLen := hlen _ (by simp [zT, lens, zU])
 unfold maxLen at hl_a hl_b
 refine zz Tryz.func101 rfl ?_
 show zO Tryz.prog _ _ ⟨[(0, .pv (.slc a.length a_f (a.flatMap zD))), (1, .pv (.slc b.length b_f (b.flatMap zD)))], [], 0, [], 26, 0⟩
 refine zd (zb rfl (za rfl rfl trivial (zc (ze (zd (zd (zb rfl (za rfl rfl trivial (za rfl rfl trivial (za rfl rfl trivial (za rfl rfl trivial ?_)))))))))))
 refine zl rfl rfl rfl rfl rfl trivial (zc (ze ?_))
 refine zy rfl (fun h1 => ?_) (fun h1 => ?_)
 ·skip
  refine zd (zb rfl (za rfl rfl trivial (zc (ze (zo (zI ?_))))))
  have hne : ¬ a.length = b.length := by
   have h := h1; simp at h; omega
  exact zp rfl (by simp) (congrArg B (decide_eq_false (fun e => hne (by rw [e]))).symm) rfl
 ·have hlen : a.length = b.length := by
   have h := h1; simp at h; omega
  refine zA (ze (zd (zd (zb rfl (za rfl rfl trivial (za rfl rfl trivial (za rfl rfl trivial (zc (ze (zC ?_))))))))))
  refine zbk (fun k : Nat => (⟨[(0, .pv (.slc a.length a_f (a.flatMap zD))), (1, .pv (.slc b.length b_f (b.flatMap zD))), (12, I a.length), (13, I k)], [], 0, [], 26, 0⟩ : St)) (fun k : Nat => k ≤ a.length ∧ a.take k = b.take k) (fun k : Nat => a.length - k) 0 (⟨Nat.zero_le _, rfl⟩) (zaa rfl ⟨⟨rfl, rfl⟩, ⟨rfl, rfl⟩, ⟨rfl, rfl⟩, ⟨rfl, rfl⟩, trivial⟩ trivial (fun _ _ => .inr (Nat.zero_le _))) (fun k hI => ?_)
  show zO Tryz.prog _ _ (⟨[(0, .pv (.slc a.length a_f (a.flatMap zD))), (1, .pv (.slc b.length b_f (b.flatMap zD))), (12, I a.length), (13, I k)], [], 0, [], 26, 0⟩ : St)
  refine zd (zb rfl (zl rfl rfl rfl rfl rfl trivial (zc (ze (zd ?_)))))
  refine zy rfl (fun h2 => ?_) (fun h2 => ?_)
  ·have hk : k < a.length := by simpa using h2
   have hk2 : k < b.length := by omega
   obtain ⟨x, hx⟩ : ∃ x, a[k]? = some x := ⟨_, List.getElem?_eq_getElem hk⟩
   obtain ⟨y, hy⟩ : ∃ y, b[k]? = some y := ⟨_, List.getElem?_eq_getElem hk2⟩
   refine zA (ze (zd (zC (zd (zb rfl (za rfl rfl trivial (za rfl rfl trivial (zc (ze (zd ?_))))))))))
   refine zaW rfl (by decide +kernel) rfl ?_
   refine za rfl rfl trivial (za rfl rfl trivial (zS (k := k) rfl rfl rfl rfl hk (zaj (s := 3) (enc := zD) (fun _ => rfl) (by decide) hk) rfl (zJ rfl rfl rfl (zap (s := 3) (enc := zD) (fun _ => rfl) hk) (z2 (s := 3) (enc := zD) (fun _ => rfl) hx) rfl (za rfl rfl trivial (za rfl rfl trivial (zS (k := k) rfl rfl rfl rfl hk2 (zaj (s := 3) (enc := zD) (fun _ => rfl) (by decide) hk2) rfl (zJ rfl rfl rfl (zap (s := 3) (enc := zD) (fun _ => rfl) hk2) (z2 (s := 3) (enc := zD) (fun _ => rfl) hy) rfl ?_)))))))
   refine zcw rfl rfl rfl (by kernel_rfl) rfl rfl rfl rfl rfl ?_
   refine zc (ze ?_)
   refine zy rfl (fun h4 => ?_) (fun h4 => ?_)
   ·have hne : x ≠ y := by
     intro e; subst e; simp at h4
    refine zd (zb rfl (za rfl rfl trivial (zc (ze (zo (zad (zI (zbH (zad (zI ?_))))))))))
    exact zp rfl (by simp) (congrArg B (decide_eq_false (zhw hx hy hne)).symm) rfl
   ·have hxy : x = y := by
     have h := h4
     simp at h
     rcases x with ⟨⟩; rcases y with ⟨⟩; simp_all
    refine zA (zar (ze (zb rfl (zl rfl rfl rfl rfl rfl trivial (za rfl rfl trivial (zc ?_))))))
    exact zca (k+1) (⟨hk, by rw [zcc hx, zcc hy, hI.2, hxy]⟩) (by omega) (zaa rfl ⟨⟨rfl, rfl⟩, ⟨rfl, rfl⟩, ⟨rfl, rfl⟩, ⟨congrArg (fun n => some (I n)) (zg6 hk hl_a), rfl⟩, trivial⟩ trivial (fun _ _ => .inr (Nat.zero_le _)))
  ·have hk : k = a.length := by have := of_decide_eq_false h2; have := hI.1; omega
   refine zV (zac (zal (zak rfl (ze (zd (zb rfl (za rfl rfl trivial (zc (ze (zo ?_))))))))))
   exact zp rfl (by simp) (congrArg B (decide_eq_true (zfP hI.2 hk hlen)).symm) rfl

theorem zk1 (a : List zbO) (a_f : Bool) (b : List zbO) (b_f : Bool) : Ok Tryz.prog 102 [.pv (.slc a.length a_f (a.flatMap zN)), .pv (.slc b.length b_f (b.flatMap zN))] [] (B (decide (a = b))) [] [] := by
 refine Ok.len fun hlen => ?_
 have hl_a : a.length ≤ maxLen := hlen _ (by simp [zT, lens, zU])
 have hl_b : b.length ≤ maxLen := hlen _ (by simp [zT, lens, zU])
 unfold maxLen at hl_a hl_b
 refine zz Tryz.func102 rfl ?_
 show zO Tryz.prog _ _ ⟨[(0, .pv (.slc a.length a_f (a.flatMap zN))), (1, .pv (.slc b.length b_f (b.flatMap zN)))], [], 0, [], 26, 0⟩
 refine zd (zb rfl (za rfl rfl trivial (zc (ze (zd (zd (zb rfl (za rfl rfl trivial (za rfl rfl trivial (za rfl rfl trivial (za rfl rfl trivial ?_)))))))))))
 refine zl rfl rfl rfl rfl rfl trivial (zc (ze ?_))
 refine zy rfl (fun h1 => ?_) (fun h1 => ?_)
 ·skip
  refine zd (zb rfl (za rfl rfl trivial (zc (ze (zo (zI ?_))))))
  have hne : ¬ a.length = b.length := by
   have h := h1; simp at h; omega
  exact zp rfl (by simp) (congrArg B (decide_eq_false (fun e => hne (by rw [e]))).symm) rfl
 ·have hlen : a.length = b.length := by
   have h := h1; simp at h; omega
  refine zA (ze (zd (zd (zb rfl (za rfl rfl trivial (za rfl rfl trivial (za rfl rfl trivial (zc (ze (zC ?_))))))))))
  refine zbk (fun k : Nat => (⟨[(0, .pv (.slc a.length a_f (a.flatMap zN))), (1, .pv (.slc b.length b_f (b.flatMap zN))), (12, I a.length), (13, I k)], [], 0, [], 26, 0⟩ : St)) (fun k : Nat => k ≤ a.length ∧ a.take k = b.take k) (fun k : Nat => a.length - k) 0 (⟨Nat.zero_le _, rfl⟩) (zaa rfl ⟨⟨rfl, rfl⟩, ⟨rfl, rfl⟩, ⟨rfl, rfl⟩, ⟨rfl, rfl⟩, trivial⟩ trivial (fun _ _ => .inr (Nat.zero_le _))) (fun k hI => ?_)
  show zO Tryz.prog _ _ (⟨[(0, .pv (.slc a.length a_f (a.flatMap zN))), (1, .pv (.slc b.length b_f (b.flatMap zN))), (12, I a.length), (13, I k)], [], 0, [], 26, 0⟩ : St)
  refine zd (zb rfl (zl rfl rfl rfl rfl rfl trivial (zc (ze (zd ?_)))))
  refine zy rfl (fun h2 => ?_) (fun h2 => ?_)
  ·have hk : k < a.length := by simpa using h2
   have hk2 : k < b.length := by omega
   obtain ⟨x, hx⟩ : ∃ x, a[k]? = some x := ⟨_, List.getElem?_eq_getElem hk⟩
   obtain ⟨y, hy⟩ : ∃ y, b[k]? = some y := ⟨_, List.getElem?_eq_getElem hk2⟩
   refine zA (ze (zd (zC (zd (zb rfl (za rfl rfl trivial (za rfl rfl trivial (zc (ze (zd ?_))))))))))
   refine zaW rfl (by decide +kernel) rfl ?_
   refine za rfl rfl trivial (za rfl rfl trivial (zS (k := k) rfl rfl rfl rfl hk (zaj (s := 5) (enc := zN) (fun _ => rfl) (by decide) hk) rfl (zJ rfl rfl rfl (zap (s := 5) (enc := zN) (fun _ => rfl) hk) (z2 (s := 5) (enc := zN) (fun _ => rfl) hx) rfl (za rfl rfl trivial (za rfl rfl trivial (zS (k := k) rfl rfl rfl rfl hk2 (zaj (s := 5) (enc := zN) (fun _ => rfl) (by decide) hk2) rfl (zJ rfl rfl rfl (zap (s := 5) (enc := zN) (fun _ => rfl) hk2) (z2 (s := 5) (enc := zN) (fun _ => rfl) hy) rfl ?_)))))))
   refine zcw rfl rfl rfl (by kernel_rfl) rfl rfl rfl rfl rfl ?_
   refine zc (ze ?_)
   refine zy rfl (fun h4 => ?_) (fun h4 => ?_)
   ·have hne : x ≠ y := by
     intro e; subst e; simp at h4
    refine zd (zb rfl (za rfl rfl trivial (zc (ze (zo (zad (zI (zbH (zad (zI ?_))))))))))
    exact zp rfl (by simp) (congrArg B (decide_eq_false (zhw hx hy hne)).symm) rfl
   ·have hxy : x = y := by
     have h := h4
     simp at h
     rcases x with ⟨⟩; rcases y with ⟨⟩; simp_all
    refine zA (zar (ze (zb rfl (zl rfl rfl rfl rfl rfl trivial (za rfl rfl trivial (zc ?_))))))
    exact zca (k+1) (⟨hk, by rw [zcc hx, zcc hy, hI.2, hxy]⟩) (by omega) (zaa rfl ⟨⟨rfl, rfl⟩, ⟨rfl, rfl⟩, ⟨rfl, rfl⟩, ⟨congrArg (fun n => some (I n)) (zg6 hk hl_a), rfl⟩, trivial⟩ trivial (fun _ _ => .inr (Nat.zero_le _)))
  ·have hk : k = a.length := by have := of_decide_eq_false h2; have := hI.1; omega
   refine zV (zac (zal (zak rfl (ze (zd (zb rfl (za rfl rfl trivial (zc (ze (zo ?_))))))))))
   exact zp rfl (by simp) (congrArg B (decide_eq_true (zfP hI.2 hk hlen)).symm) rfl

theorem zjy (a : List zaU) (a_f : Bool) (b : List zaU) (b_f : Bool) : Ok Tryz.prog 103 [.pv (.slc a.length a_f (a.flatMap zE)), .pv (.slc b.length b_f (b.flatMap zE))] [] (B (decide (a = b))) [] [] := by
 refine Ok.len fun hlen => ?_
 have hl_a : a.length ≤ maxLen := hlen _ (by simp [zT, lens, zU])
 have hl_b : b.length ≤ maxLen := hlen _ (by simp [zT, lens, zU])
 unfold maxLen at hl_a hl_b
 refine zz Tryz.func103 rfl ?_
 show zO Tryz.prog _ _ ⟨[(0, .pv (.slc a.length a_f (a.flatMap zE))), (1, .pv (.slc b.length b_f (b.flatMap zE)))], [], 0, [], 26, 0⟩
 refine zd (zb rfl (za rfl rfl trivial (zc (ze (zd (zd (zb rfl (za rfl rfl trivial (za rfl rfl trivial (za rfl rfl trivial (za rfl rfl trivial ?_)))))))))))
 refine zl rfl rfl rfl rfl rfl trivial (zc (ze ?_))
 refine zy rfl (fun h1 => ?_) (fun h1 => ?_)
 ·skip
  refine zd (zb rfl (za rfl rfl trivial (zc (ze (zo (zI ?_))))))
  have hne : ¬ a.length = b.length := by
   have h := h1; simp at h; omega
  exact zp rfl (by simp) (congrArg B (decide_eq_false (fun e => hne (by rw [e]))).symm) rfl
 ·have hlen : a.length = b.length := by
   have h := h1; simp at h; omega
  refine zA (ze (zd (zd (zb rfl (za rfl rfl trivial (za rfl rfl trivial (za rfl rfl trivial (zc (ze (zC ?_))))))))))
  refine zbk (fun k : Nat => (⟨[(0, .pv (.slc a.length a_f (a.flatMap zE))), (1, .pv (.slc b.length b_f (b.flatMap zE))), (12, I a.length), (13, I k)], [], 0, [], 26, 0⟩ : St)) (fun k : Nat => k ≤ a.length ∧ a.take k = b.take k) (fun k : Nat => a.length - k) 0 (⟨Nat.zero_le _, rfl⟩) (zaa rfl ⟨⟨rfl, rfl⟩, ⟨rfl, rfl⟩, ⟨rfl, rfl⟩, ⟨rfl, rfl⟩, trivial⟩ trivial (fun _ _ => .inr (Nat.zero_le _))) (fun k hI => ?_)
  show zO Tryz.prog _ _ (⟨[(0, .pv (.slc a.length a_f (a.flatMap zE))), (1, .pv (.slc b.length b_f (b.flatMap zE))), (12, I a.length), (13, I k)], [], 0, [], 26, 0⟩ : St)
  refine zd (zb rfl (zl rfl rfl rfl rfl rfl trivial (zc (ze (zd ?_)))))
  refine zy rfl (fun h2 => ?_) (fun h2 => ?_)
  ·have hk : k < a.length := by simpa using h2
   have hk2 : k < b.length := by omega
   obtain ⟨x, hx⟩ : ∃ x, a[k]? = some x := ⟨_, List.getElem?_eq_getElem hk⟩
   obtain ⟨y, hy⟩ : ∃ y, b[k]? = some y := ⟨_, List.getElem?_eq_getElem hk2⟩
   refine zA (ze (zd (zC (zd (zb rfl (za rfl rfl trivial (za rfl rfl trivial (zc (ze (zd ?_))))))))))
   refine zaW rfl (by decide +kernel) rfl ?_
   refine za rfl rfl trivial (za rfl rfl trivial (zS (k := k) rfl rfl rfl rfl hk (zaj (s := 2) (enc := zE) (fun _ => rfl) (by decide) hk) rfl (zJ rfl rfl rfl (zap (s := 2) (enc := zE) (fun _ => rfl) hk) (z2 (s := 2) (enc := zE) (fun _ => rfl) hx) rfl (za rfl rfl trivial (za rfl rfl trivial (zS (k := k) rfl rfl rfl rfl hk2 (zaj (s := 2) (enc := zE) (fun _ => rfl) (by decide) hk2) rfl (zJ rfl rfl rfl (zap (s := 2) (enc := zE) (fun _ => rfl) hk2) (z2 (s := 2) (enc := zE) (fun _ => rfl) hy) rfl ?_)))))))
   refine zcw rfl rfl rfl (by kernel_rfl) rfl rfl rfl rfl rfl ?_
   refine zc (ze ?_)
   refine zy rfl (fun h4 => ?_) (fun h4 => ?_)
   ·have hne : x ≠ y := by
     intro e; subst e; simp at h4
    refine zd (zb rfl (za rfl rfl trivial (zc (ze (zo (zad (zI (zbH (zad (zI ?_))))))))))
    exact zp rfl (by simp) (congrArg B (decide_eq_false (zhw hx hy hne)).symm) rfl
   ·have hxy : x = y := by
     have h := h4
     simp at h
     rcases x with ⟨⟩; rcases y with ⟨⟩; simp_all
    refine zA (zar (ze (zb rfl (zl rfl rfl rfl rfl rfl trivial (za rfl rfl trivial (zc ?_))))))
    exact zca (k+1) (⟨hk, by rw [zcc hx, zcc hy, hI.2, hxy]⟩) (by omega) (zaa rfl ⟨⟨rfl, rfl⟩, ⟨rfl, rfl⟩, ⟨rfl, rfl⟩, ⟨congrArg (fun n => some (I n)) (zg6 hk hl_a), rfl⟩, trivial⟩ trivial (fun _ _ => .inr (Nat.zero_le _)))
  ·have hk : k = a.length := by have := of_decide_eq_false h2; have := hI.1; omega
   refine zV (zac (zal (zak rfl (ze (zd (zb rfl (za rfl rfl trivial (zc (ze (zo ?_))))))))))
   exact zp rfl (by simp) (congrArg B (decide_eq_true (zfP hI.2 hk hlen)).symm) rfl

theorem zhj  : Ok Tryz.prog 104 [.pv .nils] [] (.ref 0 1 0 0) [.row 5 1 []] [] := by
 refine zz Tryz.func104 rfl ?_
 show zO Tryz.prog _ _ ⟨[(0, .pv .nils)], [], 0, [], 8, 0⟩
 refine zd (zb rfl (zB (nx' := 1) rfl rfl rfl trivial (zc (ze (zd (zd (zb rfl (za rfl rfl trivial (za rfl rfl trivial (zc (ze ?_)))))))))))
 refine zy rfl (fun h1 => ?_) (fun h1 => ?_)
 ·skip
  refine zd (zb rfl (zB (nx' := 2) rfl rfl rfl trivial (zc (ze (zo (zI ?_))))))
  exact zL [] [1] rfl ⟨trivial, trivial⟩ rfl (by (repeat' apply And.intro) <;> first | trivial | rfl | exact zi (fun _ => rfl) _ | exact zk _ | assumption) (rfl) rfl rfl rfl (by decide) rfl rfl ⟨⟨rfl, rfl⟩, trivial⟩
 ·cases h1

theorem zhC (l : List UInt8) (hl : l.length ≤ 16777216) : Ok Tryz.prog 104 [.pv (.nnl l.length (encY l))] [] (.ref 0 1 0 l.length) [.row 5 1 (encY l)] [] := by
 refine zz Tryz.func104 rfl ?_
 show zO Tryz.prog _ _ ⟨[(0, .pv (.nnl l.length (encY l)))], [], 0, [], 8, 0⟩
 refine zd (zb rfl (zB (nx' := 1) rfl rfl rfl trivial (zc (ze (zd (zd (zb rfl (za rfl rfl trivial (za rfl rfl trivial (zc (ze ?_)))))))))))
 refine zy rfl (fun h1 => ?_) (fun h1 => ?_)
 ·cases h1
 ·skip
  refine zA (ze (zd (zb rfl (za rfl rfl ⟨by decide, rfl⟩ (za rfl rfl trivial ?_)))))
  refine zeD (m := l.length) (new := encY l) (cs' := encY l) (n' := l.length) rfl rfl (rfl) rfl rfl rfl rfl rfl rfl (zm l) (by first | decide | (unfold zM; omega) | (unfold zM; simp; omega) | (unfold zM; simp only [List.length_append, List.length_take, List.length_drop, List.length_cons, List.length_nil, IntKind.wrap_i64] at *; omega)) rfl rfl rfl rfl ?_
  refine za rfl rfl trivial (zc (ze (zo ?_)))
  exact zL [] [1] rfl ⟨trivial, trivial⟩ rfl (by (repeat' apply And.intro) <;> first | trivial | rfl | exact zi (fun _ => rfl) _ | exact zk _ | assumption) (rfl) rfl rfl rfl (by decide) rfl rfl ⟨⟨rfl, rfl⟩, trivial⟩

theorem zkP (l : List UInt8) (full : Bool) (hl : l.length ≤ 16777216) : Ok Tryz.prog 104 [.pv (.slc l.length full (encY l))] [] (.ref 0 1 0 l.length) [.row 5 1 (encY l)] [] := by
  refine Ok.slc1 (fun h1 h2 => ?_) (zhC l hl)
  rw [h1, h2]; exact zhj

theorem zkt (l : List zan) (l_f : Bool) (cl : FuncId) (caps : List AV) (p : zan → Bool) (hcl : Fn1 Tryz.prog cl caps (fun x => [zdo x]) (fun x => B (p x))) : Ok Tryz.prog 135 [.pv (.slc l.length l_f (l.flatMap zD)), .fnc cl caps] [] (I (fidx p l)) [] [] := by
 refine Ok.len fun hlen => ?_
 have hl_l : l.length ≤ maxLen := hlen _ (by simp [zT, lens, zU])
 unfold maxLen at hl_l
 refine zz Tryz.func135 rfl ?_
 show zO Tryz.prog _ _ ⟨[(0, .pv (.slc l.length l_f (l.flatMap zD))), (1, .fnc cl caps)], [], 0, [], 19, 0⟩
 refine zd (zb rfl (za rfl rfl trivial (zc (ze (zd (zd (zb rfl (za rfl rfl trivial (za rfl rfl trivial (za rfl rfl trivial (zc ?_)))))))))))
 refine ze (zC ?_)
 refine zbk (fun k : Nat => (⟨[(0, .pv (.slc l.length l_f (l.flatMap zD))), (1, .fnc cl caps), (7, I l.length), (8, I k)], [], 0, [], 19, 0⟩ : St)) (fun k : Nat => k ≤ l.length ∧ ∀ y ∈ l.take k, p y = false) (fun k : Nat => l.length - k) 0 (⟨Nat.zero_le _, by simp⟩) (zaa rfl ⟨⟨rfl, rfl⟩, ⟨rfl, hcl.belN⟩, ⟨rfl, rfl⟩, ⟨rfl, rfl⟩, trivial⟩ trivial (fun _ _ => .inr (Nat.zero_le _))) (fun k hI => ?_)
 show zO Tryz.prog _ _ (⟨[(0, .pv (.slc l.length l_f (l.flatMap zD))), (1, .fnc cl caps), (7, I l.length), (8, I k)], [], 0, [], 19, 0⟩ : St)
 refine zd (zb rfl (zl rfl rfl rfl rfl rfl trivial (zc (ze (zd ?_)))))
 refine zy rfl (fun h1 => ?_) (fun h1 => ?_)
 ·have hk : k < l.length := by have h := of_decide_eq_true h1; omega
  obtain ⟨x, hx⟩ : ∃ x, l[k]? = some x := ⟨_, List.getElem?_eq_getElem hk⟩
  refine zA (ze (zd (zC (zd (zb rfl (za rfl rfl trivial (za rfl rfl trivial (zc (ze (zd (zb rfl ?_)))))))))))
  refine za rfl rfl trivial (za rfl rfl trivial (za rfl rfl trivial (zS (k := k) rfl rfl rfl rfl hk (zaj (s := 3) (enc := zD) (fun _ => rfl) (by decide) hk) rfl (zJ rfl rfl rfl (zap (s := 3) (enc := zD) (fun _ => rfl) hk) (z2 (s := 3) (enc := zD) (fun _ => rfl) hx) rfl ?_))))
  refine zaJ hcl x rfl rfl rfl rfl rfl rfl ?_
  refine zc (ze ?_)
  refine zy rfl (fun h3 => ?_) (fun h3 => ?_)
  ·have gp := h3
   refine zd (zb rfl (za rfl rfl trivial (za rfl rfl trivial (zc (ze (zo (zad (zI (zbH (zad (zI ?_)))))))))))
   exact zp rfl ⟨trivial, trivial⟩ (congrArg I (zdt (p := p) hI.2 hx gp).symm) rfl
  ·have gp := h3
   refine zA (zar (ze (zb rfl (zl rfl rfl rfl rfl rfl trivial (za rfl rfl trivial (zc ?_))))))
   exact zca (k+1) (⟨hk, zcg hI.2 hx gp⟩) (by omega) (zaa rfl ⟨⟨rfl, rfl⟩, ⟨rfl, hcl.belN⟩, ⟨rfl, rfl⟩, ⟨congrArg (fun n => some (I n)) (zg6 hk (by assumption)), rfl⟩, trivial⟩ trivial (fun _ _ => .inr (Nat.zero_le _)))
 ·have hk : k = l.length := by have h := of_decide_eq_false h1; have := hI; omega
  refine zV (zac (zal (zak rfl (ze (zd (zb rfl (za rfl rfl trivial (zc (ze (zo ?_))))))))))
  exact zp rfl ⟨trivial, trivial⟩ (congrArg I (zd8 (p := p) hI.2 hk).symm) rfl

theorem znm (l : List zbO) (l_f : Bool) (cl : FuncId) (caps : List AV) (p : zbO → Bool) (hcl : Fn1 Tryz.prog cl caps (fun x => [zfF x]) (fun x => B (p x))) : Ok Tryz.prog 137 [.pv (.slc l.length l_f (l.flatMap zN)), .fnc cl caps] [] (I (fidx p l)) [] [] := by
 refine Ok.len fun hlen => ?_
 have hl_l : l.length ≤ maxLen := hlen _ (by simp [zT, lens, zU])
 unfold maxLen at hl_l
 refine zz Tryz.func137 rfl ?_
 show zO Tryz.prog _ _ ⟨[(0, .pv (.slc l.length l_f (l.flatMap zN))), (1, .fnc cl caps)], [], 0, [], 19, 0⟩
 refine zd (zb rfl (za rfl rfl trivial (zc (ze (zd (zd (zb rfl (za rfl rfl trivial (za rfl rfl trivial (za rfl rfl trivial (zc ?_)))))))))))
 refine ze (zC ?_)
 refine zbk (fun k : Nat => (⟨[(0, .pv (.slc l.length l_f (l.flatMap zN))), (1, .fnc cl caps), (7, I l.length), (8, I k)], [], 0, [], 19, 0⟩ : St)) (fun k : Nat => k ≤ l.length ∧ ∀ y ∈ l.take k, p y = false) (fun k : Nat => l.length - k) 0 (⟨Nat.zero_le _, by simp⟩) (zaa rfl ⟨⟨rfl, rfl⟩, ⟨rfl, hcl.belN⟩, ⟨rfl, rfl⟩, ⟨rfl, rfl⟩, trivial⟩ trivial (fun _ _ => .inr (Nat.zero_le _))) (fun k hI => ?_)
 show zO Tryz.prog _ _ (⟨[(0, .pv (.slc l.length l_f (l.flatMap zN))), (1, .fnc cl caps), (7, I l.length), (8, I k)], [], 0, [], 19, 0⟩ : St)
 refine zd (zb rfl (zl rfl rfl rfl rfl rfl trivial (zc (ze (zd ?_)))))
 refine zy rfl (fun h1 => ?_) (fun h1 => ?_)
 ·have hk : k < l.length := by have h := of_decide_eq_true h1; omega
  obtain ⟨x, hx⟩ : ∃ x, l[k]? = some x := ⟨_, List.getElem?_eq_getElem hk⟩
  refine zA (ze (zd (zC (zd (zb rfl (za rfl rfl trivial (za rfl rfl trivial (zc (ze (zd (zb rfl ?_)))))))))))
  refine za rfl rfl trivial (za rfl rfl trivial (za rfl rfl trivial (zS (k := k) rfl rfl rfl rfl hk (zaj (s := 5) (enc := zN) (fun _ => rfl) (by decide) hk) rfl (zJ rfl rfl rfl (zap (s := 5) (enc := zN) (fun _ => rfl) hk) (z2 (s := 5) (enc := zN) (fun _ => rfl) hx) rfl ?_))))
  refine zaJ hcl x rfl rfl rfl rfl rfl rfl ?_
  refine zc (ze ?_)
  refine zy rfl (fun h3 => ?_) (fun h3 => ?_)
  ·have gp := h3
   refine zd (zb rfl (za rfl rfl trivial (za rfl rfl trivial (zc (ze (zo (zad (zI (zbH (zad (zI ?_)))))))))))
   exact zp rfl ⟨trivial, trivial⟩ (congrArg I (zdt (p := p) hI.2 hx gp).symm) rfl
  ·have gp := h3
   refine zA (zar (ze (zb rfl (zl rfl rfl rfl rfl rfl trivial (za rfl rfl trivial (zc ?_))))))
   exact zca (k+1) (⟨hk, zcg hI.2 hx gp⟩) (by omega) (zaa rfl ⟨⟨rfl, rfl⟩, ⟨rfl, hcl.belN⟩, ⟨rfl, rfl⟩, ⟨congrArg (fun n => some (I n)) (zg6 hk (by assumption)), rfl⟩, trivial⟩ trivial (fun _ _ => .inr (Nat.zero_le _)))
 ·have hk : k = l.length := by have h := of_decide_eq_false h1; have := hI; omega
  refine zV (zac (zal (zak rfl (ze (zd (zb rfl (za rfl rfl trivial (zc (ze (zo ?_))))))))))
  exact zp rfl ⟨trivial, trivial⟩ (congrArg I (zd8 (p := p) hI.2 hk).symm) rfl

theorem zl4 (l : List zaU) (l_f : Bool) (cl : FuncId) (caps : List AV) (p : zaU → Bool) (hcl : Fn1 Tryz.prog cl caps (fun x => [zen x]) (fun x => B (p x))) : Ok Tryz.prog 139 [.pv (.slc l.length l_f (l.flatMap zE)), .fnc cl caps] [] (I (fidx p l)) [] [] := by
 refine Ok.len fun hlen => ?_
 have hl_l : l.length ≤ maxLen := hlen _ (by simp [zT, lens, zU])
 unfold maxLen at hl_l
 refine zz Tryz.func139 rfl ?_
 show zO Tryz.prog _ _ ⟨[(0, .pv (.slc l.length l_f (l.flatMap zE))), (1, .fnc cl caps)], [], 0, [], 19, 0⟩
 refine zd (zb rfl (za rfl rfl trivial (zc (ze (zd (zd (zb rfl (za rfl rfl trivial (za rfl rfl trivial (za rfl rfl trivial (zc ?_)))))))))))
 refine ze (zC ?_)
 refine zbk (fun k : Nat => (⟨[(0, .pv (.slc l.length l_f (l.flatMap zE))), (1, .fnc cl caps), (7, I l.length), (8, I k)], [], 0, [], 19, 0⟩ : St)) (fun k : Nat => k ≤ l.length ∧ ∀ y ∈ l.take k, p y = false) (fun k : Nat => l.length - k) 0 (⟨Nat.zero_le _, by simp⟩) (zaa rfl ⟨⟨rfl, rfl⟩, ⟨rfl, hcl.belN⟩, ⟨rfl, rfl⟩, ⟨rfl, rfl⟩, trivial⟩ trivial (fun _ _ => .inr (Nat.zero_le _))) (fun k hI => ?_)
 show zO Tryz.prog _ _ (⟨[(0, .pv (.slc l.length l_f (l.flatMap zE))), (1, .fnc cl caps), (7, I l.length), (8, I k)], [], 0, [], 19, 0⟩ : St)
 refine zd (zb rfl (zl rfl rfl rfl rfl rfl trivial (zc (ze (zd ?_)))))
 refine zy rfl (fun h1 => ?_) (fun h1 => ?_)
 ·have hk : k < l.length := by have h := of_decide_eq_true h1; omega
  obtain ⟨x, hx⟩ : ∃ x, l[k]? = some x := ⟨_, List.getElem?_eq_getElem hk⟩
  refine zA (ze (zd (zC (zd (zb rfl (za rfl rfl trivial (za rfl rfl trivial (zc (ze (zd (zb rfl ?_)))))))))))
  refine za rfl rfl trivial (za rfl rfl trivial (za rfl rfl trivial (zS (k := k) rfl rfl rfl rfl hk (zaj (s := 2) (enc := zE) (fun _ => rfl) (by decide) hk) rfl (zJ rfl rfl rfl (zap (s := 2) (enc := zE) (fun _ => rfl) hk) (z2 (s := 2) (enc := zE) (fun _ => rfl) hx) rfl ?_))))
  refine zaJ hcl x rfl rfl rfl rfl rfl rfl ?_
  refine zc (ze ?_)
  refine zy rfl (fun h3 => ?_) (fun h3 => ?_)
  ·have gp := h3
   refine zd (zb rfl (za rfl rfl trivial (za rfl rfl trivial (zc (ze (zo (zad (zI (zbH (zad (zI ?_)))))))))))
   exact zp rfl ⟨trivial, trivial⟩ (congrArg I (zdt (p := p) hI.2 hx gp).symm) rfl
  ·have gp := h3
   refine zA (zar (ze (zb rfl (zl rfl rfl rfl rfl rfl trivial (za rfl rfl trivial (zc ?_))))))
   exact zca (k+1) (⟨hk, zcg hI.2 hx gp⟩) (by omega) (zaa rfl ⟨⟨rfl, rfl⟩, ⟨rfl, hcl.belN⟩, ⟨rfl, rfl⟩, ⟨congrArg (fun n => some (I n)) (zg6 hk (by assumption)), rfl⟩, trivial⟩ trivial (fun _ _ => .inr (Nat.zero_le _)))
 ·have hk : k = l.length := by have h := of_decide_eq_false h1; have := hI; omega
  refine zV (zac (zal (zak rfl (ze (zd (zb rfl (za rfl rfl trivial (zc (ze (zo ?_))))))))))
  exact zp rfl ⟨trivial, trivial⟩ (congrArg I (zd8 (p := p) hI.2 hk).symm) rfl

theorem zq5 (l : List Int) (l_f : Bool) (cl : FuncId) (caps : List AV) (p : Int → Bool) (hcl : Fn1 Tryz.prog cl caps (fun x => [I x]) (fun x => B (p x))) : Ok Tryz.prog 144 [.pv (.slc l.length l_f (encI l)), .fnc cl caps] [] (I (fidx p l)) [] [] := by
 refine Ok.len fun hlen => ?_
 have hl_l : l.length ≤ maxLen := hlen _ (by simp [zT, lens, zU])
 unfold maxLen at hl_l
 refine zz Tryz.func144 rfl ?_
 show zO Tryz.prog _ _ ⟨[(0, .pv (.slc l.length l_f (encI l))), (1, .fnc cl caps)], [], 0, [], 19, 0⟩
 refine zd (zb rfl (za rfl rfl trivial (zc (ze (zd (zd (zb rfl (za rfl rfl trivial (za rfl rfl trivial (za rfl rfl trivial (zc ?_)))))))))))
 refine ze (zC ?_)
 refine zbk (fun k : Nat => (⟨[(0, .pv (.slc l.length l_f (encI l))), (1, .fnc cl caps), (7, I l.length), (8, I k)], [], 0, [], 19, 0⟩ : St)) (fun k : Nat => k ≤ l.length ∧ ∀ y ∈ l.take k, p y = false) (fun k : Nat => l.length - k) 0 (⟨Nat.zero_le _, by simp⟩) (zaa rfl ⟨⟨rfl, rfl⟩, ⟨rfl, hcl.belN⟩, ⟨rfl, rfl⟩, ⟨rfl, rfl⟩, trivial⟩ trivial (fun _ _ => .inr (Nat.zero_le _))) (fun k hI => ?_)
 show zO Tryz.prog _ _ (⟨[(0, .pv (.slc l.length l_f (encI l))), (1, .fnc cl caps), (7, I l.length), (8, I k)], [], 0, [], 19, 0⟩ : St)
 refine zd (zb rfl (zl rfl rfl rfl rfl rfl trivial (zc (ze (zd ?_)))))
 refine zy rfl (fun h1 => ?_) (fun h1 => ?_)
 ·have hk : k < l.length := by have h := of_decide_eq_true h1; omega
  obtain ⟨x, hx⟩ : ∃ x, l[k]? = some x := ⟨_, List.getElem?_eq_getElem hk⟩
  refine zA (ze (zd (zC (zd (zb rfl (za rfl rfl trivial (za rfl rfl trivial (zc (ze (zd (zb rfl ?_)))))))))))
  refine za rfl rfl trivial (za rfl rfl trivial (za rfl rfl trivial (zS (k := k) rfl rfl rfl rfl hk (zjf hk) rfl (zaf rfl rfl rfl (zfJ hx) rfl ?_))))
  refine zaJ hcl x rfl rfl rfl rfl rfl rfl ?_
  refine zc (ze ?_)
  refine zy rfl (fun h3 => ?_) (fun h3 => ?_)
  ·have gp := h3
   refine zd (zb rfl (za rfl rfl trivial (za rfl rfl trivial (zc (ze (zo (zad (zI (zbH (zad (zI ?_)))))))))))
   exact zp rfl ⟨trivial, trivial⟩ (congrArg I (zdt (p := p) hI.2 hx gp).symm) rfl
  ·have gp := h3
   refine zA (zar (ze (zb rfl (zl rfl rfl rfl rfl rfl trivial (za rfl rfl trivial (zc ?_))))))
   exact zca (k+1) (⟨hk, zcg hI.2 hx gp⟩) (by omega) (zaa rfl ⟨⟨rfl, rfl⟩, ⟨rfl, hcl.belN⟩, ⟨rfl, rfl⟩, ⟨congrArg (fun n => some (I n)) (zg6 hk (by assumption)), rfl⟩, trivial⟩ trivial (fun _ _ => .inr (Nat.zero_le _)))
 ·have hk : k = l.length := by have h := of_decide_eq_false h1; have := hI; omega
  refine zV (zac (zal (zak rfl (ze (zd (zb rfl (za rfl rfl trivial (zc (ze (zo ?_))))))))))
  exact zp rfl ⟨trivial, trivial⟩ (congrArg I (zd8 (p := p) hI.2 hk).symm) rfl

theorem zod (l : List zaB) (l_f : Bool) (cl : FuncId) (caps : List AV) (p : zaB → Bool) (hcl : Fn1 Tryz.prog cl caps (fun x => [zdG x]) (fun x => B (p x))) : Ok Tryz.prog 149 [.pv (.slc l.length l_f (l.flatMap zq)), .fnc cl caps] [] (I (fidx p l)) [] [] := by
 refine Ok.len fun hlen => ?_
 have hl_l : l.length ≤ maxLen := hlen _ (by simp [zT, lens, zU])
 unfold maxLen at hl_l
 refine zz Tryz.func149 rfl ?_
 show zO Tryz.prog _ _ ⟨[(0, .pv (.slc l.length l_f (l.flatMap zq))), (1, .fnc cl caps)], [], 0, [], 19, 0⟩
 refine zd (zb rfl (za rfl rfl trivial (zc (ze (zd (zd (zb rfl (za rfl rfl trivial (za rfl rfl trivial (za rfl rfl trivial (zc ?_)))))))))))
 refine ze (zC ?_)
 refine zbk (fun k : Nat => (⟨[(0, .pv (.slc l.length l_f (l.flatMap zq))), (1, .fnc cl caps), (7, I l.length), (8, I k)], [], 0, [], 19, 0⟩ : St)) (fun k : Nat => k ≤ l.length ∧ ∀ y ∈ l.take k, p y = false) (fun k : Nat => l.length - k) 0 (⟨Nat.zero_le _, by simp⟩) (zaa rfl ⟨⟨rfl, rfl⟩, ⟨rfl, hcl.belN⟩, ⟨rfl, rfl⟩, ⟨rfl, rfl⟩, trivial⟩ trivial (fun _ _ => .inr (Nat.zero_le _))) (fun k hI => ?_)
 show zO Tryz.prog _ _ (⟨[(0, .pv (.slc l.length l_f (l.flatMap zq))), (1, .fnc cl caps), (7, I l.length), (8, I k)], [], 0, [], 19, 0⟩ : St)
 refine zd (zb rfl (zl rfl rfl rfl rfl rfl trivial (zc (ze (zd ?_)))))
 refine zy rfl (fun h1 => ?_) (fun h1 => ?_)
 ·have hk : k < l.length := by have h := of_decide_eq_true h1; omega
  obtain ⟨x, hx⟩ : ∃ x, l[k]? = some x := ⟨_, List.getElem?_eq_getElem hk⟩
  refine zA (ze (zd (zC (zd (zb rfl (za rfl rfl trivial (za rfl rfl trivial (zc (ze (zd (zb rfl ?_)))))))))))
  refine za rfl rfl trivial (za rfl rfl trivial (za rfl rfl trivial (zS (k := k) rfl rfl rfl rfl hk (zaj (s := 7) (enc := zq) (fun _ => rfl) (by decide) hk) rfl (zJ rfl rfl rfl (zap (s := 7) (enc := zq) (fun _ => rfl) hk) (z2 (s := 7) (enc := zq) (fun _ => rfl) hx) rfl ?_))))
  refine zaJ hcl x rfl rfl rfl rfl rfl rfl ?_
  refine zc (ze ?_)
  refine zy rfl (fun h3 => ?_) (fun h3 => ?_)
  ·have gp := h3
   refine zd (zb rfl (za rfl rfl trivial (za rfl rfl trivial (zc (ze (zo (zad (zI (zbH (zad (zI ?_)))))))))))
   exact zp rfl ⟨trivial, trivial⟩ (congrArg I (zdt (p := p) hI.2 hx gp).symm) rfl
  ·have gp := h3
   refine zA (zar (ze (zb rfl (zl rfl rfl rfl rfl rfl trivial (za rfl rfl trivial (zc ?_))))))
   exact zca (k+1) (⟨hk, zcg hI.2 hx gp⟩) (by omega) (zaa rfl ⟨⟨rfl, rfl⟩, ⟨rfl, hcl.belN⟩, ⟨rfl, rfl⟩, ⟨congrArg (fun n => some (I n)) (zg6 hk (by assumption)), rfl⟩, trivial⟩ trivial (fun _ _ => .inr (Nat.zero_le _)))
 ·have hk : k = l.length := by have h := of_decide_eq_false h1; have := hI; omega
  refine zV (zac (zal (zak rfl (ze (zd (zb rfl (za rfl rfl trivial (zc (ze (zo ?_))))))))))
  exact zp rfl ⟨trivial, trivial⟩ (congrArg I (zd8 (p := p) hI.2 hk).symm) rfl

theorem zjO (l : List zG) (l_f : Bool) (cl : FuncId) (caps : List AV) (p : zG → Bool) (hcl : Fn1 Tryz.prog cl caps (fun x => [zag x]) (fun x => B (p x))) : Ok Tryz.prog 151 [.pv (.slc l.length l_f (l.flatMap zj)), .fnc cl caps] [] (I (fidx p l)) [] [] := by
 refine Ok.len fun hlen => ?_
 have hl_l : l.length ≤ maxLen := hlen _ (by simp [zT, lens, zU])
 unfold maxLen at hl_l
 refine zz Tryz.func151 rfl ?_
 show zO Tryz.prog _ _ ⟨[(0, .pv (.slc l.length l_f (l.flatMap zj))), (1, .fnc cl caps)], [], 0, [], 19, 0⟩
 refine zd (zb rfl (za rfl rfl trivial (zc (ze (zd (zd (zb rfl (za rfl rfl trivial (za rfl rfl trivial (za rfl rfl trivial (zc ?_)))))))))))
 refine ze (zC ?_)
 refine zbk (fun k : Nat => (⟨[(0, .pv (.slc l.length l_f (l.flatMap zj))), (1, .fnc cl caps), (7, I l.length), (8, I k)], [], 0, [], 19, 0⟩ : St)) (fun k : Nat => k ≤ l.length ∧ ∀ y ∈ l.take k, p y = false) (fun k : Nat => l.length - k) 0 (⟨Nat.zero_le _, by simp⟩) (zaa rfl ⟨⟨rfl, rfl⟩, ⟨rfl, hcl.belN⟩, ⟨rfl, rfl⟩, ⟨rfl, rfl⟩, trivial⟩ trivial (fun _ _ => .inr (Nat.zero_le _))) (fun k hI => ?_)
 show zO Tryz.prog _ _ (⟨[(0, .pv (.slc l.length l_f (l.flatMap zj))), (1, .fnc cl caps), (7, I l.length), (8, I k)], [], 0, [], 19, 0⟩ : St)
 refine zd (zb rfl (zl rfl rfl rfl rfl rfl trivial (zc (ze (zd ?_)))))
 refine zy rfl (fun h1 => ?_) (fun h1 => ?_)
 ·have hk : k < l.length := by have h := of_decide_eq_true h1; omega
  obtain ⟨x, hx⟩ : ∃ x, l[k]? = some x := ⟨_, List.getElem?_eq_getElem hk⟩
  refine zA (ze (zd (zC (zd (zb rfl (za rfl rfl trivial (za rfl rfl trivial (zc (ze (zd (zb rfl ?_)))))))))))
  refine za rfl rfl trivial (za rfl rfl trivial (za rfl rfl trivial (zS (k := k) rfl rfl rfl rfl hk (zaj (s := 8) (enc := zj) (fun _ => rfl) (by decide) hk) rfl (zJ rfl rfl rfl (zap (s := 8) (enc := zj) (fun _ => rfl) hk) (z2 (s := 8) (enc := zj) (fun _ => rfl) hx) rfl ?_))))
  refine zaJ hcl x rfl rfl rfl rfl rfl rfl ?_
  refine zc (ze ?_)
  refine zy rfl (fun h3 => ?_) (fun h3 => ?_)
  ·have gp := h3
   refine zd (zb rfl (za rfl rfl trivial (za rfl rfl trivial (zc (ze (zo (zad (zI (zbH (zad (zI ?_)))))))))))
   exact zp rfl ⟨trivial, trivial⟩ (congrArg I (zdt (p := p) hI.2 hx gp).symm) rfl
  ·have gp := h3
   refine zA (zar (ze (zb rfl (zl rfl rfl rfl rfl rfl trivial (za rfl rfl trivial (zc ?_))))))
   exact zca (k+1) (⟨hk, zcg hI.2 hx gp⟩) (by omega) (zaa rfl ⟨⟨rfl, rfl⟩, ⟨rfl, hcl.belN⟩, ⟨rfl, rfl⟩, ⟨congrArg (fun n => some (I n)) (zg6 hk (by assumption)), rfl⟩, trivial⟩ trivial (fun _ _ => .inr (Nat.zero_le _)))
 ·have hk : k = l.length := by have h := of_decide_eq_false h1; have := hI; omega
  refine zV (zac (zal (zak rfl (ze (zd (zb rfl (za rfl rfl trivial (zc (ze (zo ?_))))))))))
  exact zp rfl ⟨trivial, trivial⟩ (congrArg I (zd8 (p := p) hI.2 hk).symm) rfl

theorem zgb  : Ok Tryz.prog 153 [.pv .nils] [] (.ref 0 3 0 0) [.row 71 3 []] [] := by
 refine zz Tryz.func153 rfl ?_
 show zO Tryz.prog _ _ ⟨[(0, .pv .nils)], [], 0, [], 8, 0⟩
 refine zd (zb rfl (zB (nx' := 1) rfl rfl rfl trivial (zc (ze (zd (zd (zb rfl (za rfl rfl trivial (za rfl rfl trivial (zc (ze ?_)))))))))))
 refine zy rfl (fun h1 => ?_) (fun h1 => ?_)
 ·skip
  refine zd (zb rfl (zB (nx' := 2) rfl rfl rfl trivial (zc (ze (zo (zI ?_))))))
  exact zL [] [1] rfl ⟨trivial, trivial⟩ rfl (by (repeat' apply And.intro) <;> first | trivial | rfl | exact zi (fun _ => rfl) _ | exact zk _ | assumption) (rfl) rfl rfl rfl (by decide) rfl rfl ⟨⟨rfl, rfl⟩, trivial⟩
 ·cases h1

theorem zgw (l : List zan) (hl : l.length ≤ 16777216) : Ok Tryz.prog 153 [.pv (.nnl l.length (l.flatMap zD))] [] (.ref 0 3 0 l.length) [.row 71 3 (l.flatMap zD)] [] := by
 refine zz Tryz.func153 rfl ?_
 show zO Tryz.prog _ _ ⟨[(0, .pv (.nnl l.length (l.flatMap zD)))], [], 0, [], 8, 0⟩
 refine zd (zb rfl (zB (nx' := 1) rfl rfl rfl trivial (zc (ze (zd (zd (zb rfl (za rfl rfl trivial (za rfl rfl trivial (zc (ze ?_)))))))))))
 refine zy rfl (fun h1 => ?_) (fun h1 => ?_)
 ·cases h1
 ·skip
  refine zA (ze (zd (zb rfl (za rfl rfl ⟨by decide, rfl⟩ (za rfl rfl trivial ?_)))))
  refine zeD (m := l.length) (new := l.flatMap zD) (cs' := l.flatMap zD) (n' := l.length) rfl rfl (rfl) rfl rfl rfl rfl rfl rfl (zi (s := 3) (enc := zD) (fun _ => rfl) l) (by first | decide | (unfold zM; omega) | (unfold zM; simp; omega) | (unfold zM; simp only [List.length_append, List.length_take, List.length_drop, List.length_cons, List.length_nil, IntKind.wrap_i64] at *; omega)) rfl rfl rfl rfl ?_
  refine za rfl rfl trivial (zc (ze (zo ?_)))
  exact zL [] [1] rfl ⟨trivial, trivial⟩ rfl (by (repeat' apply And.intro) <;> first | trivial | rfl | exact zi (fun _ => rfl) _ | exact zk _ | assumption) (rfl) rfl rfl rfl (by decide) rfl rfl ⟨⟨rfl, rfl⟩, trivial⟩

theorem ziQ (l : List zan) (full : Bool) (hl : l.length ≤ 16777216) : Ok Tryz.prog 153 [.pv (.slc l.length full (l.flatMap zD))] [] (.ref 0 3 0 l.length) [.row 71 3 (l.flatMap zD)] [] := by
  refine Ok.slc1 (fun h1 h2 => ?_) (zgw l hl)
  rw [h1, h2]; exact zgb

theorem zjr (l : List zan) (l_f : Bool) (cl : FuncId) (caps : List AV) (p : zan → Bool) (hcl : Fn1 Tryz.prog cl caps (fun x => [zdo x]) (fun x => B (p x))) : Ok Tryz.prog 117 [.pv (.slc l.length l_f (l.flatMap zD)), .fnc cl caps] [] (B (l.any p)) [] [] := by
 refine Ok.len fun hlen => ?_
 have hl_l : l.length ≤ maxLen := hlen _ (by simp [zT, lens, zU])
 unfold maxLen at hl_l
 refine zz Tryz.func117 rfl ?_
 show zO Tryz.prog _ _ ⟨[(0, .pv (.slc l.length l_f (l.flatMap zD))), (1, .fnc cl caps)], [], 0, [], 9, 0⟩
 refine zd (zb rfl (za rfl rfl trivial (zc (ze (zd (zb rfl (za rfl rfl trivial (za rfl rfl trivial (zF rfl rfl rfl rfl (zkt l l_f cl caps p hcl) hcl.belA rfl rfl (zl rfl rfl rfl rfl rfl trivial (za rfl rfl trivial ?_)))))))))))
 refine zc (ze (zo ?_))
 exact zp rfl ⟨trivial, trivial⟩ (congrArg B zg1) rfl

theorem zmr (l : List zbO) (l_f : Bool) (cl : FuncId) (caps : List AV) (p : zbO → Bool) (hcl : Fn1 Tryz.prog cl caps (fun x => [zfF x]) (fun x => B (p x))) : Ok Tryz.prog 120 [.pv (.slc l.length l_f (l.flatMap zN)), .fnc cl caps] [] (B (l.any p)) [] [] := by
 refine Ok.len fun hlen => ?_
 have hl_l : l.length ≤ maxLen := hlen _ (by simp [zT, lens, zU])
 unfold maxLen at hl_l
 refine zz Tryz.func120 rfl ?_
 show zO Tryz.prog _ _ ⟨[(0, .pv (.slc l.length l_f (l.flatMap zN))), (1, .fnc cl caps)], [], 0, [], 9, 0⟩
 refine zd (zb rfl (za rfl rfl trivial (zc (ze (zd (zb rfl (za rfl rfl trivial (za rfl rfl trivial (zF rfl rfl rfl rfl (znm l l_f cl caps p hcl) hcl.belA rfl rfl (zl rfl rfl rfl rfl rfl trivial (za rfl rfl trivial ?_)))))))))))
 refine zc (ze (zo ?_))
 exact zp rfl ⟨trivial, trivial⟩ (congrArg B zg1) rfl

theorem zkl (l : List zaU) (l_f : Bool) (cl : FuncId) (caps : List AV) (p : zaU → Bool) (hcl : Fn1 Tryz.prog cl caps (fun x => [zen x]) (fun x => B (p x))) : Ok Tryz.prog 123 [.pv (.slc l.length l_f (l.flatMap zE)), .fnc cl caps] [] (B (l.any p)) [] [] := by
 refine Ok.len fun hlen => ?_
 have hl_l : l.length ≤ maxLen := hlen _ (by simp [zT, lens, zU])
 unfold maxLen at hl_l
 refine zz Tryz.func123 rfl ?_
 show zO Tryz.prog _ _ ⟨[(0, .pv (.slc l.length l_f (l.flatMap zE))), (1, .fnc cl caps)], [], 0, [], 9, 0⟩
 refine zd (zb rfl (za rfl rfl trivial (zc (ze (zd (zb rfl (za rfl rfl trivial (za rfl rfl trivial (zF rfl rfl rfl rfl (zl4 l l_f cl caps p hcl) hcl.belA rfl rfl (zl rfl rfl rfl rfl rfl trivial (za rfl rfl trivial ?_)))))))))))
 refine zc (ze (zo ?_))
 exact zp rfl ⟨trivial, trivial⟩ (congrArg B zg1) rfl

theorem zo2 (l : List Int) (l_f : Bool) (cl : FuncId) (caps : List AV) (p : Int → Bool) (hcl : Fn1 Tryz.prog cl caps (fun x => [I x]) (fun x => B (p x))) : Ok Tryz.prog 133 [.pv (.slc l.length l_f (encI l)), .fnc cl caps] [] (B (l.any p)) [] [] := by
 refine Ok.len fun hlen => ?_
 have hl_l : l.length ≤ maxLen := hlen _ (by simp [zT, lens, zU])
 unfold maxLen at hl_l
 refine zz Tryz.func133 rfl ?_
 show zO Tryz.prog _ _ ⟨[(0, .pv (.slc l.length l_f (encI l))), (1, .fnc cl caps)], [], 0, [], 9, 0⟩
 refine zd (zb rfl (za rfl rfl trivial (zc (ze (zd (zb rfl (za rfl rfl trivial (za rfl rfl trivial (zF rfl rfl rfl rfl (zq5 l l_f cl caps p hcl) hcl.belA rfl rfl (zl rfl rfl rfl rfl rfl trivial (za rfl rfl trivial ?_)))))))))))
 refine zc (ze (zo ?_))
 exact zp rfl ⟨trivial, trivial⟩ (congrArg B zg1) rfl
end Go.Proofs.YtppnccjeggnllaaGreat

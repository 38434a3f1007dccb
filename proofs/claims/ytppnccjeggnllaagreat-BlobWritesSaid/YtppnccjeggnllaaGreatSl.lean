import Derived.Test.YtppnccjeggnllaaGreatVmZB
import Derived.Test.YtppnccjeggnllaaGreatProg
namespace Go.Proofs.YtppnccjeggnllaaGreat
open Go Go.RowKit Go.Proofs.YtppnccjeggnllaaGreatVm
attribute [local irreducible] zY zas OpsS
set_option maxHeartbeats 400000
set_option maxRecDepth 100000
set_option linter.all false
theorem zqR {α : Type} {a b : List α} {k : Nat} {x y : α} (hx : a[k]? = some x) (hy : b[k]? = some y) (h : x ≠ y) : ¬ a = b := by
 intro e; subst e; rw [hx] at hy; exact h (Option.some.inj hy)
theorem zow {α : Type} {a b : List α} {k : Nat} (h : a.take k = b.take k) (hk : k = a.length) (hl : a.length = b.length) : a = b := by
 have := h; rw [hk, List.take_length, hl, List.take_length] at this; exact this

end Go.Proofs.YtppnccjeggnllaaGreat
namespace Go.Proofs.YtppnccjeggnllaaGreat
open Go Go.RowKit Go.Proofs.YtppnccjeggnllaaGreatVm
attribute [local irreducible] zY zas OpsS
set_option maxHeartbeats 400000
set_option maxRecDepth 100000
set_option linter.all false
theorem aP1 {p : Prop} (h : p := by decide +kernel) : p := h
theorem aP5 {p : Prop} (h : p := by omega) : p := h
structure zaI where
  (Id : Int)
  (Kind : Int)
  (Ticks : Int)
  (Every : Int)
  (Stacks : Int)
  (Amount : Int)
  (Harm : Bool)
  deriving DecidableEq, Inhabited
def zp (x : zaI) : List PV := [i64 x.Id, i64 x.Kind, i64 x.Ticks, i64 x.Every, i64 x.Stacks, i64 x.Amount, .bool x.Harm]
abbrev zfk (x : zaI) : AV := .agg [I x.Id, I x.Kind, I x.Ticks, I x.Every, I x.Stacks, I x.Amount, B x.Harm]
def ziP (x : zaI) : Prop := (InR x.Id) ∧ (InR x.Kind) ∧ (InR x.Ticks) ∧ (InR x.Every) ∧ (InR x.Stacks) ∧ (InR x.Amount)
theorem aP0 {p : Prop} (h : p := by decide) : p := h
structure zaJ where
  (Kind : Int)
  (Amount : Int)
  (Aura : Int)
  deriving DecidableEq, Inhabited
def zN (x : zaJ) : List PV := [i64 x.Kind, i64 x.Amount, i64 x.Aura]
abbrev zfO (x : zaJ) : AV := .agg [I x.Kind, I x.Amount, I x.Aura]
def zeE (x : zaJ) : Prop := (InR x.Kind) ∧ (InR x.Amount) ∧ (InR x.Aura)
structure zI where
  (Id : Int)
  (Cast : Int)
  (Cool : Int)
  (Charges : Int)
  (Range : Int)
  (Cost : Int)
  (Sight : Bool)
  (Effects : List zaJ)
  deriving DecidableEq, Inhabited
def zj (x : zI) : List PV := [i64 x.Id, i64 x.Cast, i64 x.Cool, i64 x.Charges, i64 x.Range, i64 x.Cost, .bool x.Sight, .slc x.Effects.length false (x.Effects.flatMap zN)]
abbrev zaX (x : zI) : AV := .agg [I x.Id, I x.Cast, I x.Cool, I x.Charges, I x.Range, I x.Cost, B x.Sight, .pv (.slc x.Effects.length false (x.Effects.flatMap zN))]
def zeX (x : zI) : Prop := (InR x.Id) ∧ (InR x.Cast) ∧ (InR x.Cool) ∧ (InR x.Charges) ∧ (InR x.Range) ∧ (InR x.Cost) ∧ ((∀ y ∈ x.Effects, zeE y) ∧ x.Effects.length ≤ 140737488355328)

structure zcc where
  (Phase : Int)
  (When : Int)
  (Arg : Int)
  (Do : Int)
  (Value : Int)
  deriving DecidableEq, Inhabited
def zU (x : zcc) : List PV := [i64 x.Phase, i64 x.When, i64 x.Arg, i64 x.Do, i64 x.Value]
abbrev ziE (x : zcc) : AV := .agg [I x.Phase, I x.When, I x.Arg, I x.Do, I x.Value]
def zhC (x : zcc) : Prop := (InR x.Phase) ∧ (InR x.When) ∧ (InR x.Arg) ∧ (InR x.Do) ∧ (InR x.Value)
structure zbD where
  (Item : Int)
  (Weight : Int)
  deriving DecidableEq, Inhabited
def zM (x : zbD) : List PV := [i64 x.Item, i64 x.Weight]
abbrev zhH (x : zbD) : AV := .agg [I x.Item, I x.Weight]
def zfQ (x : zbD) : Prop := (InR x.Item) ∧ (InR x.Weight)
structure GFoe where
  (Id : Int)
  (Health : Int)
  (Hit : Int)
  (Every : Int)
  (Reach : Int)
  (Script : List zcc)
  (Hoard : List zbD)
  (Drops : Int)
  deriving DecidableEq, Inhabited
def zC (x : GFoe) : List PV := [i64 x.Id, i64 x.Health, i64 x.Hit, i64 x.Every, i64 x.Reach, .slc x.Script.length false (x.Script.flatMap zU), .slc x.Hoard.length false (x.Hoard.flatMap zM), i64 x.Drops]
abbrev zg9 (x : GFoe) : AV := .agg [I x.Id, I x.Health, I x.Hit, I x.Every, I x.Reach, .pv (.slc x.Script.length false (x.Script.flatMap zU)), .pv (.slc x.Hoard.length false (x.Hoard.flatMap zM)), I x.Drops]
def zmv (x : GFoe) : Prop := (InR x.Id) ∧ (InR x.Health) ∧ (InR x.Hit) ∧ (InR x.Every) ∧ (InR x.Reach) ∧ ((∀ y ∈ x.Script, zhC y) ∧ x.Script.length ≤ 140737488355328) ∧ ((∀ y ∈ x.Hoard, zfQ y) ∧ x.Hoard.length ≤ 140737488355328) ∧ (InR x.Drops)

theorem zmO (a : List zcc) (a_f : Bool) (b : List zcc) (b_f : Bool) : Ok Tryz.prog 102 [.pv (.slc a.length a_f (a.flatMap zU)), .pv (.slc b.length b_f (b.flatMap zU))] [] (B (decide (a = b))) [] [] := by
 refine Ok.len fun hlen => ?_
 have hl_a := hlL (n := a.length) hlen
 have hl_b := hlL (n := b.length) hlen
 refine zx Tryz.func102 rfl ?_
 refine zg rfl (za rfl (zd (zm (zg rfl (za rfl (za rfl (za rfl (za rfl (zi rfl rfl rfl rfl rfl trivial (zd ?_))))))))))
 refine zr rfl (fun h1 => ?_) (fun h1 => ?_)
 ·skip
  refine zg rfl (za rfl (zd (zl (zE ?_))))
  have hne : ¬ a.length = b.length := by
   have h := h1; simp at h; omega
  exact zk rfl (by simp) (congrArg B (decide_eq_false (fun e => hne (by rw [e]))).symm) rfl
 ·have hlen : a.length = b.length := by
   have h := h1; simp at h; omega
  refine zt (zu (zm (zg rfl (za rfl (za rfl (za rfl (zd (zw ?_))))))))
  refine zcu (fun k : Nat => (⟨[(0, .pv (.slc a.length a_f (a.flatMap zU))), (1, .pv (.slc b.length b_f (b.flatMap zU))), (12, I a.length), (13, I k)], [], 0, [], 26, 0⟩ : St)) (fun k : Nat => k ≤ a.length ∧ a.take k = b.take k) (fun k : Nat => a.length - k) 0 (⟨Nat.zero_le _, rfl⟩) (zaj rfl ⟨⟨rfl, rfl⟩, ⟨rfl, rfl⟩, ⟨rfl, rfl⟩, ⟨rfl, rfl⟩, trivial⟩ trivial (fun _ _ => .inr (Nat.zero_le _))) (fun k hI => ?_)
  refine zg rfl (zi rfl rfl rfl rfl rfl trivial (zd (zm ?_)))
  refine zr rfl (fun h2 => ?_) (fun h2 => ?_)
  ·have hk : k < a.length := by simpa using h2
   have hk2 : k < b.length := by omega
   obtain ⟨x, hx⟩ : ∃ x, a[k]? = some x := ⟨_, List.getElem?_eq_getElem hk⟩
   obtain ⟨y, hy⟩ : ∃ y, b[k]? = some y := ⟨_, List.getElem?_eq_getElem hk2⟩
   refine zt (zu (zm (zw (zg rfl (za rfl (za rfl (zd (zm ?_))))))))
   refine zav rfl aP1 rfl ?_
   refine za rfl (za rfl (zJ (k := k) rfl rfl rfl rfl hk (z3 (s := 5) (enc := zU) (fun _ => rfl) aP0 hk) rfl (zF rfl rfl rfl (zai (s := 5) (enc := zU) (fun _ => rfl) hk) (zZ (s := 5) (enc := zU) (fun _ => rfl) hx) rfl (za rfl (za rfl (zJ (k := k) rfl rfl rfl rfl hk2 (z3 (s := 5) (enc := zU) (fun _ => rfl) aP0 hk2) rfl (zF rfl rfl rfl (zai (s := 5) (enc := zU) (fun _ => rfl) hk2) (zZ (s := 5) (enc := zU) (fun _ => rfl) hy) rfl ?_)))))))
   refine zdF rfl rfl rfl (by kernel_rfl) rfl rfl rfl rfl rfl ?_
   refine zd ?_
   refine zr rfl (fun h4 => ?_) (fun h4 => ?_)
   ·have hne : x ≠ y := by
     intro e; subst e; simp at h4
    refine zg rfl (za rfl (zd (zl (z8 (zE (zbm (z8 (zE ?_))))))))
    exact zk rfl (by simp) (congrArg B (decide_eq_false (zqR hx hy hne)).symm) rfl
   ·have hxy : x = y := by
     have h := h4
     simp at h
     rcases x with ⟨⟩; rcases y with ⟨⟩; simp_all
    refine zt (zal (zu (zy rfl (zi rfl rfl rfl rfl rfl trivial (za rfl (zq ?_))))))
    exact zdL (k+1) (⟨hk, by rw [zfC hx, zfC hy, hI.2, hxy]⟩) aP5 (zaj rfl ⟨⟨rfl, rfl⟩, ⟨rfl, rfl⟩, ⟨rfl, rfl⟩, ⟨congrArg (fun n => some (I n)) (zmi hk hl_a), rfl⟩, trivial⟩ trivial (fun _ _ => .inr (Nat.zero_le _)))
  ·have hk : k = a.length := by have := of_decide_eq_false h2; have := hI.1; omega
   refine zS (z5 (zag (zaf rfl (zu (zg rfl (za rfl (zd (zl ?_))))))))
   exact zk rfl (by simp) (congrArg B (decide_eq_true (zow hI.2 hk hlen)).symm) rfl

theorem zlT (a : List zbD) (a_f : Bool) (b : List zbD) (b_f : Bool) : Ok Tryz.prog 103 [.pv (.slc a.length a_f (a.flatMap zM)), .pv (.slc b.length b_f (b.flatMap zM))] [] (B (decide (a = b))) [] [] := by
 refine Ok.len fun hlen => ?_
 have hl_a := hlL (n := a.length) hlen
 have hl_b := hlL (n := b.length) hlen
 refine zx Tryz.func103 rfl ?_
 refine zg rfl (za rfl (zd (zm (zg rfl (za rfl (za rfl (za rfl (za rfl (zi rfl rfl rfl rfl rfl trivial (zd ?_))))))))))
 refine zr rfl (fun h1 => ?_) (fun h1 => ?_)
 ·skip
  refine zg rfl (za rfl (zd (zl (zE ?_))))
  have hne : ¬ a.length = b.length := by
   have h := h1; simp at h; omega
  exact zk rfl (by simp) (congrArg B (decide_eq_false (fun e => hne (by rw [e]))).symm) rfl
 ·have hlen : a.length = b.length := by
   have h := h1; simp at h; omega
  refine zt (zu (zm (zg rfl (za rfl (za rfl (za rfl (zd (zw ?_))))))))
  refine zcu (fun k : Nat => (⟨[(0, .pv (.slc a.length a_f (a.flatMap zM))), (1, .pv (.slc b.length b_f (b.flatMap zM))), (12, I a.length), (13, I k)], [], 0, [], 26, 0⟩ : St)) (fun k : Nat => k ≤ a.length ∧ a.take k = b.take k) (fun k : Nat => a.length - k) 0 (⟨Nat.zero_le _, rfl⟩) (zaj rfl ⟨⟨rfl, rfl⟩, ⟨rfl, rfl⟩, ⟨rfl, rfl⟩, ⟨rfl, rfl⟩, trivial⟩ trivial (fun _ _ => .inr (Nat.zero_le _))) (fun k hI => ?_)
  refine zg rfl (zi rfl rfl rfl rfl rfl trivial (zd (zm ?_)))
  refine zr rfl (fun h2 => ?_) (fun h2 => ?_)
  ·have hk : k < a.length := by simpa using h2
   have hk2 : k < b.length := by omega
   obtain ⟨x, hx⟩ : ∃ x, a[k]? = some x := ⟨_, List.getElem?_eq_getElem hk⟩
   obtain ⟨y, hy⟩ : ∃ y, b[k]? = some y := ⟨_, List.getElem?_eq_getElem hk2⟩
   refine zt (zu (zm (zw (zg rfl (za rfl (za rfl (zd (zm ?_))))))))
   refine zav rfl aP1 rfl ?_
   refine za rfl (za rfl (zJ (k := k) rfl rfl rfl rfl hk (z3 (s := 2) (enc := zM) (fun _ => rfl) aP0 hk) rfl (zF rfl rfl rfl (zai (s := 2) (enc := zM) (fun _ => rfl) hk) (zZ (s := 2) (enc := zM) (fun _ => rfl) hx) rfl (za rfl (za rfl (zJ (k := k) rfl rfl rfl rfl hk2 (z3 (s := 2) (enc := zM) (fun _ => rfl) aP0 hk2) rfl (zF rfl rfl rfl (zai (s := 2) (enc := zM) (fun _ => rfl) hk2) (zZ (s := 2) (enc := zM) (fun _ => rfl) hy) rfl ?_)))))))
   refine zdF rfl rfl rfl (by kernel_rfl) rfl rfl rfl rfl rfl ?_
   refine zd ?_
   refine zr rfl (fun h4 => ?_) (fun h4 => ?_)
   ·have hne : x ≠ y := by
     intro e; subst e; simp at h4
    refine zg rfl (za rfl (zd (zl (z8 (zE (zbm (z8 (zE ?_))))))))
    exact zk rfl (by simp) (congrArg B (decide_eq_false (zqR hx hy hne)).symm) rfl
   ·have hxy : x = y := by
     have h := h4
     simp at h
     rcases x with ⟨⟩; rcases y with ⟨⟩; simp_all
    refine zt (zal (zu (zy rfl (zi rfl rfl rfl rfl rfl trivial (za rfl (zq ?_))))))
    exact zdL (k+1) (⟨hk, by rw [zfC hx, zfC hy, hI.2, hxy]⟩) aP5 (zaj rfl ⟨⟨rfl, rfl⟩, ⟨rfl, rfl⟩, ⟨rfl, rfl⟩, ⟨congrArg (fun n => some (I n)) (zmi hk hl_a), rfl⟩, trivial⟩ trivial (fun _ _ => .inr (Nat.zero_le _)))
  ·have hk : k = a.length := by have := of_decide_eq_false h2; have := hI.1; omega
   refine zS (z5 (zag (zaf rfl (zu (zg rfl (za rfl (zd (zl ?_))))))))
   exact zk rfl (by simp) (congrArg B (decide_eq_true (zow hI.2 hk hlen)).symm) rfl

theorem aP7 {p : Prop} (h : p := by (repeat' apply And.intro) <;> first | trivial | rfl | exact zaZ (fun _ => rfl) _ | exact zab _ | assumption) : p := h
theorem ziy  : Ok Tryz.prog 104 [.pv .nils] [] (.ref 0 1 0 0) [.row 5 1 []] [] := by
 refine zx Tryz.func104 rfl ?_
 refine zg rfl (zz (nx' := 1) rfl rfl rfl trivial (zd (zm (zg rfl (za rfl (za rfl (zd ?_)))))))
 refine zr rfl (fun h1 => ?_) (fun h1 => ?_)
 ·skip
  refine zg rfl (zz (nx' := 2) rfl rfl rfl trivial (zd (zl (zE ?_))))
  exact zaa [] [1] rfl ⟨trivial, trivial⟩ rfl aP7 (rfl) rfl rfl rfl aP0 rfl rfl ⟨⟨rfl, rfl⟩, trivial⟩
 ·cases h1

theorem aP3 {p : Prop} (h : p := by first | decide | (unfold zaW; omega) | (unfold zaW; simp; omega) | (unfold zaW; simp only [List.length_append, List.length_take, List.length_drop, List.length_cons, List.length_nil, IntKind.wrap_i64] at *; omega)) : p := h
theorem zjb (l : List UInt8) (hl : l.length ≤ 16777216) : Ok Tryz.prog 104 [.pv (.nnl l.length (encY l))] [] (.ref 0 1 0 l.length) [.row 5 1 (encY l)] [] := by
 refine zx Tryz.func104 rfl ?_
 refine zg rfl (zz (nx' := 1) rfl rfl rfl trivial (zd (zm (zg rfl (za rfl (za rfl (zd ?_)))))))
 refine zr rfl (fun h1 => ?_) (fun h1 => ?_)
 ·cases h1
 ·skip
  refine zt (zu (zg rfl (zh rfl rfl ⟨by decide, rfl⟩ (za rfl ?_))))
  refine zbO (m := l.length) (new := encY l) (cs' := encY l) (n' := l.length) rfl rfl (rfl) rfl rfl rfl rfl rfl rfl (zdj l) aP3 rfl rfl rfl rfl ?_
  refine za rfl (zd (zl ?_))
  exact zaa [] [1] rfl ⟨trivial, trivial⟩ rfl aP7 (rfl) rfl rfl rfl aP0 rfl rfl ⟨⟨rfl, rfl⟩, trivial⟩

theorem znm (l : List UInt8) (full : Bool) (hl : l.length ≤ 16777216) : Ok Tryz.prog 104 [.pv (.slc l.length full (encY l))] [] (.ref 0 1 0 l.length) [.row 5 1 (encY l)] [] := by
  refine Ok.slc1 (fun h1 h2 => ?_) (zjb l hl)
  rw [h1, h2]; exact ziy

theorem znh (l : List zaJ) (l_f : Bool) (cl : FuncId) (caps : List AV) (p : zaJ → Bool) (hcl : Fn1 Tryz.prog cl caps (fun x => [zfO x]) (fun x => B (p x))) : Ok Tryz.prog 135 [.pv (.slc l.length l_f (l.flatMap zN)), .fnc cl caps] [] (I (fidx p l)) [] [] := by
 refine Ok.len fun hlen => ?_
 have hl_l := hlL (n := l.length) hlen
 refine zx Tryz.func135 rfl ?_
 refine zg rfl (za rfl (zd (zm (zg rfl (za rfl (za rfl (za rfl (zd (zw ?_)))))))))
 refine zcu (fun k : Nat => (⟨[(0, .pv (.slc l.length l_f (l.flatMap zN))), (1, .fnc cl caps), (7, I l.length), (8, I k)], [], 0, [], 19, 0⟩ : St)) (fun k : Nat => k ≤ l.length ∧ ∀ y ∈ l.take k, p y = false) (fun k : Nat => l.length - k) 0 (⟨Nat.zero_le _, by simp⟩) (zaj rfl ⟨⟨rfl, rfl⟩, ⟨rfl, hcl.belN⟩, ⟨rfl, rfl⟩, ⟨rfl, rfl⟩, trivial⟩ trivial (fun _ _ => .inr (Nat.zero_le _))) (fun k hI => ?_)
 refine zg rfl (zi rfl rfl rfl rfl rfl trivial (zd (zm ?_)))
 refine zr rfl (fun h1 => ?_) (fun h1 => ?_)
 ·have hk : k < l.length := by have h := of_decide_eq_true h1; omega
  obtain ⟨x, hx⟩ : ∃ x, l[k]? = some x := ⟨_, List.getElem?_eq_getElem hk⟩
  refine zt (zu (zm (zw (zg rfl (za rfl (za rfl (zd (zg rfl (za rfl (za rfl (za rfl (zJ (k := k) rfl rfl rfl rfl hk (z3 (s := 3) (enc := zN) (fun _ => rfl) aP0 hk) rfl (zF rfl rfl rfl (zai (s := 3) (enc := zN) (fun _ => rfl) hk) (zZ (s := 3) (enc := zN) (fun _ => rfl) hx) rfl ?_)))))))))))))
  refine za8 hcl x rfl rfl rfl rfl rfl rfl ?_
  refine zd ?_
  refine zr rfl (fun h3 => ?_) (fun h3 => ?_)
  ·have gp := h3
   refine zg rfl (za rfl (za rfl (zd (zl (z8 (zE (zbm (z8 (zE ?_)))))))))
   exact zk rfl ⟨trivial, trivial⟩ (congrArg I (zd4 (p := p) hI.2 hx gp).symm) rfl
  ·have gp := h3
   refine zt (zal (zu (zy rfl (zi rfl rfl rfl rfl rfl trivial (za rfl (zq ?_))))))
   exact zdL (k+1) (⟨hk, zcF hI.2 hx gp⟩) aP5 (zaj rfl ⟨⟨rfl, rfl⟩, ⟨rfl, hcl.belN⟩, ⟨rfl, rfl⟩, ⟨congrArg (fun n => some (I n)) (zmi hk (by assumption)), rfl⟩, trivial⟩ trivial (fun _ _ => .inr (Nat.zero_le _)))
 ·have hk : k = l.length := by have h := of_decide_eq_false h1; have := hI; omega
  refine zS (z5 (zag (zaf rfl (zu (zg rfl (za rfl (zd (zl ?_))))))))
  exact zk rfl ⟨trivial, trivial⟩ (congrArg I (zeQ (p := p) hI.2 hk).symm) rfl

theorem zqc (l : List zcc) (l_f : Bool) (cl : FuncId) (caps : List AV) (p : zcc → Bool) (hcl : Fn1 Tryz.prog cl caps (fun x => [ziE x]) (fun x => B (p x))) : Ok Tryz.prog 137 [.pv (.slc l.length l_f (l.flatMap zU)), .fnc cl caps] [] (I (fidx p l)) [] [] := by
 refine Ok.len fun hlen => ?_
 have hl_l := hlL (n := l.length) hlen
 refine zx Tryz.func137 rfl ?_
 refine zg rfl (za rfl (zd (zm (zg rfl (za rfl (za rfl (za rfl (zd (zw ?_)))))))))
 refine zcu (fun k : Nat => (⟨[(0, .pv (.slc l.length l_f (l.flatMap zU))), (1, .fnc cl caps), (7, I l.length), (8, I k)], [], 0, [], 19, 0⟩ : St)) (fun k : Nat => k ≤ l.length ∧ ∀ y ∈ l.take k, p y = false) (fun k : Nat => l.length - k) 0 (⟨Nat.zero_le _, by simp⟩) (zaj rfl ⟨⟨rfl, rfl⟩, ⟨rfl, hcl.belN⟩, ⟨rfl, rfl⟩, ⟨rfl, rfl⟩, trivial⟩ trivial (fun _ _ => .inr (Nat.zero_le _))) (fun k hI => ?_)
 refine zg rfl (zi rfl rfl rfl rfl rfl trivial (zd (zm ?_)))
 refine zr rfl (fun h1 => ?_) (fun h1 => ?_)
 ·have hk : k < l.length := by have h := of_decide_eq_true h1; omega
  obtain ⟨x, hx⟩ : ∃ x, l[k]? = some x := ⟨_, List.getElem?_eq_getElem hk⟩
  refine zt (zu (zm (zw (zg rfl (za rfl (za rfl (zd (zg rfl (za rfl (za rfl (za rfl (zJ (k := k) rfl rfl rfl rfl hk (z3 (s := 5) (enc := zU) (fun _ => rfl) aP0 hk) rfl (zF rfl rfl rfl (zai (s := 5) (enc := zU) (fun _ => rfl) hk) (zZ (s := 5) (enc := zU) (fun _ => rfl) hx) rfl ?_)))))))))))))
  refine za8 hcl x rfl rfl rfl rfl rfl rfl ?_
  refine zd ?_
  refine zr rfl (fun h3 => ?_) (fun h3 => ?_)
  ·have gp := h3
   refine zg rfl (za rfl (za rfl (zd (zl (z8 (zE (zbm (z8 (zE ?_)))))))))
   exact zk rfl ⟨trivial, trivial⟩ (congrArg I (zd4 (p := p) hI.2 hx gp).symm) rfl
  ·have gp := h3
   refine zt (zal (zu (zy rfl (zi rfl rfl rfl rfl rfl trivial (za rfl (zq ?_))))))
   exact zdL (k+1) (⟨hk, zcF hI.2 hx gp⟩) aP5 (zaj rfl ⟨⟨rfl, rfl⟩, ⟨rfl, hcl.belN⟩, ⟨rfl, rfl⟩, ⟨congrArg (fun n => some (I n)) (zmi hk (by assumption)), rfl⟩, trivial⟩ trivial (fun _ _ => .inr (Nat.zero_le _)))
 ·have hk : k = l.length := by have h := of_decide_eq_false h1; have := hI; omega
  refine zS (z5 (zag (zaf rfl (zu (zg rfl (za rfl (zd (zl ?_))))))))
  exact zk rfl ⟨trivial, trivial⟩ (congrArg I (zeQ (p := p) hI.2 hk).symm) rfl

theorem zpu (l : List zbD) (l_f : Bool) (cl : FuncId) (caps : List AV) (p : zbD → Bool) (hcl : Fn1 Tryz.prog cl caps (fun x => [zhH x]) (fun x => B (p x))) : Ok Tryz.prog 139 [.pv (.slc l.length l_f (l.flatMap zM)), .fnc cl caps] [] (I (fidx p l)) [] [] := by
 refine Ok.len fun hlen => ?_
 have hl_l := hlL (n := l.length) hlen
 refine zx Tryz.func139 rfl ?_
 refine zg rfl (za rfl (zd (zm (zg rfl (za rfl (za rfl (za rfl (zd (zw ?_)))))))))
 refine zcu (fun k : Nat => (⟨[(0, .pv (.slc l.length l_f (l.flatMap zM))), (1, .fnc cl caps), (7, I l.length), (8, I k)], [], 0, [], 19, 0⟩ : St)) (fun k : Nat => k ≤ l.length ∧ ∀ y ∈ l.take k, p y = false) (fun k : Nat => l.length - k) 0 (⟨Nat.zero_le _, by simp⟩) (zaj rfl ⟨⟨rfl, rfl⟩, ⟨rfl, hcl.belN⟩, ⟨rfl, rfl⟩, ⟨rfl, rfl⟩, trivial⟩ trivial (fun _ _ => .inr (Nat.zero_le _))) (fun k hI => ?_)
 refine zg rfl (zi rfl rfl rfl rfl rfl trivial (zd (zm ?_)))
 refine zr rfl (fun h1 => ?_) (fun h1 => ?_)
 ·have hk : k < l.length := by have h := of_decide_eq_true h1; omega
  obtain ⟨x, hx⟩ : ∃ x, l[k]? = some x := ⟨_, List.getElem?_eq_getElem hk⟩
  refine zt (zu (zm (zw (zg rfl (za rfl (za rfl (zd (zg rfl (za rfl (za rfl (za rfl (zJ (k := k) rfl rfl rfl rfl hk (z3 (s := 2) (enc := zM) (fun _ => rfl) aP0 hk) rfl (zF rfl rfl rfl (zai (s := 2) (enc := zM) (fun _ => rfl) hk) (zZ (s := 2) (enc := zM) (fun _ => rfl) hx) rfl ?_)))))))))))))
  refine za8 hcl x rfl rfl rfl rfl rfl rfl ?_
  refine zd ?_
  refine zr rfl (fun h3 => ?_) (fun h3 => ?_)
  ·have gp := h3
   refine zg rfl (za rfl (za rfl (zd (zl (z8 (zE (zbm (z8 (zE ?_)))))))))
   exact zk rfl ⟨trivial, trivial⟩ (congrArg I (zd4 (p := p) hI.2 hx gp).symm) rfl
  ·have gp := h3
   refine zt (zal (zu (zy rfl (zi rfl rfl rfl rfl rfl trivial (za rfl (zq ?_))))))
   exact zdL (k+1) (⟨hk, zcF hI.2 hx gp⟩) aP5 (zaj rfl ⟨⟨rfl, rfl⟩, ⟨rfl, hcl.belN⟩, ⟨rfl, rfl⟩, ⟨congrArg (fun n => some (I n)) (zmi hk (by assumption)), rfl⟩, trivial⟩ trivial (fun _ _ => .inr (Nat.zero_le _)))
 ·have hk : k = l.length := by have h := of_decide_eq_false h1; have := hI; omega
  refine zS (z5 (zag (zaf rfl (zu (zg rfl (za rfl (zd (zl ?_))))))))
  exact zk rfl ⟨trivial, trivial⟩ (congrArg I (zeQ (p := p) hI.2 hk).symm) rfl

theorem zuu (l : List Int) (l_f : Bool) (cl : FuncId) (caps : List AV) (p : Int → Bool) (hcl : Fn1 Tryz.prog cl caps (fun x => [I x]) (fun x => B (p x))) : Ok Tryz.prog 144 [.pv (.slc l.length l_f (encI l)), .fnc cl caps] [] (I (fidx p l)) [] [] := by
 refine Ok.len fun hlen => ?_
 have hl_l := hlL (n := l.length) hlen
 refine zx Tryz.func144 rfl ?_
 refine zg rfl (za rfl (zd (zm (zg rfl (za rfl (za rfl (za rfl (zd (zw ?_)))))))))
 refine zcu (fun k : Nat => (⟨[(0, .pv (.slc l.length l_f (encI l))), (1, .fnc cl caps), (7, I l.length), (8, I k)], [], 0, [], 19, 0⟩ : St)) (fun k : Nat => k ≤ l.length ∧ ∀ y ∈ l.take k, p y = false) (fun k : Nat => l.length - k) 0 (⟨Nat.zero_le _, by simp⟩) (zaj rfl ⟨⟨rfl, rfl⟩, ⟨rfl, hcl.belN⟩, ⟨rfl, rfl⟩, ⟨rfl, rfl⟩, trivial⟩ trivial (fun _ _ => .inr (Nat.zero_le _))) (fun k hI => ?_)
 refine zg rfl (zi rfl rfl rfl rfl rfl trivial (zd (zm ?_)))
 refine zr rfl (fun h1 => ?_) (fun h1 => ?_)
 ·have hk : k < l.length := by have h := of_decide_eq_true h1; omega
  obtain ⟨x, hx⟩ : ∃ x, l[k]? = some x := ⟨_, List.getElem?_eq_getElem hk⟩
  refine zt (zu (zm (zw (zg rfl (za rfl (za rfl (zd (zg rfl (za rfl (za rfl (za rfl (zJ (k := k) rfl rfl rfl rfl hk (zfF hk) rfl (zO rfl rfl rfl (zep hx) rfl ?_)))))))))))))
  refine za8 hcl x rfl rfl rfl rfl rfl rfl ?_
  refine zd ?_
  refine zr rfl (fun h3 => ?_) (fun h3 => ?_)
  ·have gp := h3
   refine zg rfl (za rfl (za rfl (zd (zl (z8 (zE (zbm (z8 (zE ?_)))))))))
   exact zk rfl ⟨trivial, trivial⟩ (congrArg I (zd4 (p := p) hI.2 hx gp).symm) rfl
  ·have gp := h3
   refine zt (zal (zu (zy rfl (zi rfl rfl rfl rfl rfl trivial (za rfl (zq ?_))))))
   exact zdL (k+1) (⟨hk, zcF hI.2 hx gp⟩) aP5 (zaj rfl ⟨⟨rfl, rfl⟩, ⟨rfl, hcl.belN⟩, ⟨rfl, rfl⟩, ⟨congrArg (fun n => some (I n)) (zmi hk (by assumption)), rfl⟩, trivial⟩ trivial (fun _ _ => .inr (Nat.zero_le _)))
 ·have hk : k = l.length := by have h := of_decide_eq_false h1; have := hI; omega
  refine zS (z5 (zag (zaf rfl (zu (zg rfl (za rfl (zd (zl ?_))))))))
  exact zk rfl ⟨trivial, trivial⟩ (congrArg I (zeQ (p := p) hI.2 hk).symm) rfl

theorem zqO (l : List zaI) (l_f : Bool) (cl : FuncId) (caps : List AV) (p : zaI → Bool) (hcl : Fn1 Tryz.prog cl caps (fun x => [zfk x]) (fun x => B (p x))) : Ok Tryz.prog 149 [.pv (.slc l.length l_f (l.flatMap zp)), .fnc cl caps] [] (I (fidx p l)) [] [] := by
 refine Ok.len fun hlen => ?_
 have hl_l := hlL (n := l.length) hlen
 refine zx Tryz.func149 rfl ?_
 refine zg rfl (za rfl (zd (zm (zg rfl (za rfl (za rfl (za rfl (zd (zw ?_)))))))))
 refine zcu (fun k : Nat => (⟨[(0, .pv (.slc l.length l_f (l.flatMap zp))), (1, .fnc cl caps), (7, I l.length), (8, I k)], [], 0, [], 19, 0⟩ : St)) (fun k : Nat => k ≤ l.length ∧ ∀ y ∈ l.take k, p y = false) (fun k : Nat => l.length - k) 0 (⟨Nat.zero_le _, by simp⟩) (zaj rfl ⟨⟨rfl, rfl⟩, ⟨rfl, hcl.belN⟩, ⟨rfl, rfl⟩, ⟨rfl, rfl⟩, trivial⟩ trivial (fun _ _ => .inr (Nat.zero_le _))) (fun k hI => ?_)
 refine zg rfl (zi rfl rfl rfl rfl rfl trivial (zd (zm ?_)))
 refine zr rfl (fun h1 => ?_) (fun h1 => ?_)
 ·have hk : k < l.length := by have h := of_decide_eq_true h1; omega
  obtain ⟨x, hx⟩ : ∃ x, l[k]? = some x := ⟨_, List.getElem?_eq_getElem hk⟩
  refine zt (zu (zm (zw (zg rfl (za rfl (za rfl (zd (zg rfl (za rfl (za rfl (za rfl (zJ (k := k) rfl rfl rfl rfl hk (z3 (s := 7) (enc := zp) (fun _ => rfl) aP0 hk) rfl (zF rfl rfl rfl (zai (s := 7) (enc := zp) (fun _ => rfl) hk) (zZ (s := 7) (enc := zp) (fun _ => rfl) hx) rfl ?_)))))))))))))
  refine za8 hcl x rfl rfl rfl rfl rfl rfl ?_
  refine zd ?_
  refine zr rfl (fun h3 => ?_) (fun h3 => ?_)
  ·have gp := h3
   refine zg rfl (za rfl (za rfl (zd (zl (z8 (zE (zbm (z8 (zE ?_)))))))))
   exact zk rfl ⟨trivial, trivial⟩ (congrArg I (zd4 (p := p) hI.2 hx gp).symm) rfl
  ·have gp := h3
   refine zt (zal (zu (zy rfl (zi rfl rfl rfl rfl rfl trivial (za rfl (zq ?_))))))
   exact zdL (k+1) (⟨hk, zcF hI.2 hx gp⟩) aP5 (zaj rfl ⟨⟨rfl, rfl⟩, ⟨rfl, hcl.belN⟩, ⟨rfl, rfl⟩, ⟨congrArg (fun n => some (I n)) (zmi hk (by assumption)), rfl⟩, trivial⟩ trivial (fun _ _ => .inr (Nat.zero_le _)))
 ·have hk : k = l.length := by have h := of_decide_eq_false h1; have := hI; omega
  refine zS (z5 (zag (zaf rfl (zu (zg rfl (za rfl (zd (zl ?_))))))))
  exact zk rfl ⟨trivial, trivial⟩ (congrArg I (zeQ (p := p) hI.2 hk).symm) rfl

theorem zlx (l : List zI) (l_f : Bool) (cl : FuncId) (caps : List AV) (p : zI → Bool) (hcl : Fn1 Tryz.prog cl caps (fun x => [zaX x]) (fun x => B (p x))) : Ok Tryz.prog 151 [.pv (.slc l.length l_f (l.flatMap zj)), .fnc cl caps] [] (I (fidx p l)) [] [] := by
 refine Ok.len fun hlen => ?_
 have hl_l := hlL (n := l.length) hlen
 refine zx Tryz.func151 rfl ?_
 refine zg rfl (za rfl (zd (zm (zg rfl (za rfl (za rfl (za rfl (zd (zw ?_)))))))))
 refine zcu (fun k : Nat => (⟨[(0, .pv (.slc l.length l_f (l.flatMap zj))), (1, .fnc cl caps), (7, I l.length), (8, I k)], [], 0, [], 19, 0⟩ : St)) (fun k : Nat => k ≤ l.length ∧ ∀ y ∈ l.take k, p y = false) (fun k : Nat => l.length - k) 0 (⟨Nat.zero_le _, by simp⟩) (zaj rfl ⟨⟨rfl, rfl⟩, ⟨rfl, hcl.belN⟩, ⟨rfl, rfl⟩, ⟨rfl, rfl⟩, trivial⟩ trivial (fun _ _ => .inr (Nat.zero_le _))) (fun k hI => ?_)
 refine zg rfl (zi rfl rfl rfl rfl rfl trivial (zd (zm ?_)))
 refine zr rfl (fun h1 => ?_) (fun h1 => ?_)
 ·have hk : k < l.length := by have h := of_decide_eq_true h1; omega
  obtain ⟨x, hx⟩ : ∃ x, l[k]? = some x := ⟨_, List.getElem?_eq_getElem hk⟩
  refine zt (zu (zm (zw (zg rfl (za rfl (za rfl (zd (zg rfl (za rfl (za rfl (za rfl (zJ (k := k) rfl rfl rfl rfl hk (z3 (s := 8) (enc := zj) (fun _ => rfl) aP0 hk) rfl (zF rfl rfl rfl (zai (s := 8) (enc := zj) (fun _ => rfl) hk) (zZ (s := 8) (enc := zj) (fun _ => rfl) hx) rfl ?_)))))))))))))
  refine za8 hcl x rfl rfl rfl rfl rfl rfl ?_
  refine zd ?_
  refine zr rfl (fun h3 => ?_) (fun h3 => ?_)
  ·have gp := h3
   refine zg rfl (za rfl (za rfl (zd (zl (z8 (zE (zbm (z8 (zE ?_)))))))))
   exact zk rfl ⟨trivial, trivial⟩ (congrArg I (zd4 (p := p) hI.2 hx gp).symm) rfl
  ·have gp := h3
   refine zt (zal (zu (zy rfl (zi rfl rfl rfl rfl rfl trivial (za rfl (zq ?_))))))
   exact zdL (k+1) (⟨hk, zcF hI.2 hx gp⟩) aP5 (zaj rfl ⟨⟨rfl, rfl⟩, ⟨rfl, hcl.belN⟩, ⟨rfl, rfl⟩, ⟨congrArg (fun n => some (I n)) (zmi hk (by assumption)), rfl⟩, trivial⟩ trivial (fun _ _ => .inr (Nat.zero_le _)))
 ·have hk : k = l.length := by have h := of_decide_eq_false h1; have := hI; omega
  refine zS (z5 (zag (zaf rfl (zu (zg rfl (za rfl (zd (zl ?_))))))))
  exact zk rfl ⟨trivial, trivial⟩ (congrArg I (zeQ (p := p) hI.2 hk).symm) rfl

theorem zhw  : Ok Tryz.prog 153 [.pv .nils] [] (.ref 0 3 0 0) [.row 71 3 []] [] := by
 refine zx Tryz.func153 rfl ?_
 refine zg rfl (zz (nx' := 1) rfl rfl rfl trivial (zd (zm (zg rfl (za rfl (za rfl (zd ?_)))))))
 refine zr rfl (fun h1 => ?_) (fun h1 => ?_)
 ·skip
  refine zg rfl (zz (nx' := 2) rfl rfl rfl trivial (zd (zl (zE ?_))))
  exact zaa [] [1] rfl ⟨trivial, trivial⟩ rfl aP7 (rfl) rfl rfl rfl aP0 rfl rfl ⟨⟨rfl, rfl⟩, trivial⟩
 ·cases h1

theorem zhA (l : List zaJ) (hl : l.length ≤ 16777216) : Ok Tryz.prog 153 [.pv (.nnl l.length (l.flatMap zN))] [] (.ref 0 3 0 l.length) [.row 71 3 (l.flatMap zN)] [] := by
 refine zx Tryz.func153 rfl ?_
 refine zg rfl (zz (nx' := 1) rfl rfl rfl trivial (zd (zm (zg rfl (za rfl (za rfl (zd ?_)))))))
 refine zr rfl (fun h1 => ?_) (fun h1 => ?_)
 ·cases h1
 ·skip
  refine zt (zu (zg rfl (zh rfl rfl ⟨by decide, rfl⟩ (za rfl ?_))))
  refine zbO (m := l.length) (new := l.flatMap zN) (cs' := l.flatMap zN) (n' := l.length) rfl rfl (rfl) rfl rfl rfl rfl rfl rfl (zaZ (s := 3) (enc := zN) (fun _ => rfl) l) aP3 rfl rfl rfl rfl ?_
  refine za rfl (zd (zl ?_))
  exact zaa [] [1] rfl ⟨trivial, trivial⟩ rfl aP7 (rfl) rfl rfl rfl aP0 rfl rfl ⟨⟨rfl, rfl⟩, trivial⟩

theorem zkw (l : List zaJ) (full : Bool) (hl : l.length ≤ 16777216) : Ok Tryz.prog 153 [.pv (.slc l.length full (l.flatMap zN))] [] (.ref 0 3 0 l.length) [.row 71 3 (l.flatMap zN)] [] := by
  refine Ok.slc1 (fun h1 h2 => ?_) (zhA l hl)
  rw [h1, h2]; exact zhw

theorem zmc (l : List zaJ) (l_f : Bool) (cl : FuncId) (caps : List AV) (p : zaJ → Bool) (hcl : Fn1 Tryz.prog cl caps (fun x => [zfO x]) (fun x => B (p x))) : Ok Tryz.prog 117 [.pv (.slc l.length l_f (l.flatMap zN)), .fnc cl caps] [] (B (l.any p)) [] [] := by
 refine Ok.len fun hlen => ?_
 have hl_l := hlL (n := l.length) hlen
 refine zx Tryz.func117 rfl ?_
 refine zg rfl (za rfl (zd (zg rfl (za rfl (za rfl (zB rfl rfl rfl rfl (znh l l_f cl caps p hcl) hcl.belA rfl rfl (zi rfl rfl rfl rfl rfl trivial (za rfl (zd (zl ?_))))))))))
 exact zk rfl ⟨trivial, trivial⟩ (congrArg B zin) rfl

theorem zo9 (l : List zcc) (l_f : Bool) (cl : FuncId) (caps : List AV) (p : zcc → Bool) (hcl : Fn1 Tryz.prog cl caps (fun x => [ziE x]) (fun x => B (p x))) : Ok Tryz.prog 120 [.pv (.slc l.length l_f (l.flatMap zU)), .fnc cl caps] [] (B (l.any p)) [] [] := by
 refine Ok.len fun hlen => ?_
 have hl_l := hlL (n := l.length) hlen
 refine zx Tryz.func120 rfl ?_
 refine zg rfl (za rfl (zd (zg rfl (za rfl (za rfl (zB rfl rfl rfl rfl (zqc l l_f cl caps p hcl) hcl.belA rfl rfl (zi rfl rfl rfl rfl rfl trivial (za rfl (zd (zl ?_))))))))))
 exact zk rfl ⟨trivial, trivial⟩ (congrArg B zin) rfl

theorem zni (l : List zbD) (l_f : Bool) (cl : FuncId) (caps : List AV) (p : zbD → Bool) (hcl : Fn1 Tryz.prog cl caps (fun x => [zhH x]) (fun x => B (p x))) : Ok Tryz.prog 123 [.pv (.slc l.length l_f (l.flatMap zM)), .fnc cl caps] [] (B (l.any p)) [] [] := by
 refine Ok.len fun hlen => ?_
 have hl_l := hlL (n := l.length) hlen
 refine zx Tryz.func123 rfl ?_
 refine zg rfl (za rfl (zd (zg rfl (za rfl (za rfl (zB rfl rfl rfl rfl (zpu l l_f cl caps p hcl) hcl.belA rfl rfl (zi rfl rfl rfl rfl rfl trivial (za rfl (zd (zl ?_))))))))))
 exact zk rfl ⟨trivial, trivial⟩ (congrArg B zin) rfl

theorem zsc (l : List Int) (l_f : Bool) (cl : FuncId) (caps : List AV) (p : Int → Bool) (hcl : Fn1 Tryz.prog cl caps (fun x => [I x]) (fun x => B (p x))) : Ok Tryz.prog 133 [.pv (.slc l.length l_f (encI l)), .fnc cl caps] [] (B (l.any p)) [] [] := by
 refine Ok.len fun hlen => ?_
 have hl_l := hlL (n := l.length) hlen
 refine zx Tryz.func133 rfl ?_
 refine zg rfl (za rfl (zd (zg rfl (za rfl (za rfl (zB rfl rfl rfl rfl (zuu l l_f cl caps p hcl) hcl.belA rfl rfl (zi rfl rfl rfl rfl rfl trivial (za rfl (zd (zl ?_))))))))))
 exact zk rfl ⟨trivial, trivial⟩ (congrArg B zin) rfl
end Go.Proofs.YtppnccjeggnllaaGreat

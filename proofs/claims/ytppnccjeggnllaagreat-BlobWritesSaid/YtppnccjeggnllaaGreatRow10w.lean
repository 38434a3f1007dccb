import Derived.Test.YtppnccjeggnllaaGreatRows
import Derived.Test.YtppnccjeggnllaaGreatVmZB
import Derived.Test.YtppnccjeggnllaaGreatPl10w
import Derived.WalkKit
namespace Go.Proofs.YtppnccjeggnllaaGreat
open Go Go.RowKit Go.Proofs.YtppnccjeggnllaaGreatVm
set_option linter.all false
set_option maxHeartbeats 400000
theorem zmE {ps : List PV} (h : Shp Tryz.prog 71 ps) : ∃ x : zaJ, ps = zN x ∧ zeE x := by
 obtain ⟨xs, rfl, hl, hx⟩ := h.structInv Tryz.underlying71
 match xs, hl, hx with
 | [a0, a1, a2], _, hx =>
  obtain ⟨n0, rfl, w0⟩ := (hx 0 _ _ rfl rfl).i64Inv Tryz.underlying3
  obtain ⟨n1, rfl, w1⟩ := (hx 1 _ _ rfl rfl).i64Inv Tryz.underlying3
  obtain ⟨n2, rfl, w2⟩ := (hx 2 _ _ rfl rfl).i64Inv Tryz.underlying3
  exact ⟨⟨n0, n1, n2⟩, rfl, by unfold zeE; exact ⟨w0, w1, w2⟩⟩

theorem zrE {ps : List PV} (h : Shp Tryz.prog 50 ps) : ∃ l : List zaJ, ps = [.slc l.length false (l.flatMap zN)] ∧ (∀ y ∈ l, zeE y) ∧ l.length ≤ 140737488355328 := by
 obtain ⟨xs, h1, h2, h3, h8⟩ := h.slcInv Tryz.underlying50
 have h9 : 1 ≤ Tryz.prog.bytesOf 71 := of_decide_eq_true (by kernel_rfl)
 have h7 : xs.length * 1 ≤ reachBytes := Nat.le_trans (Nat.mul_le_mul_left _ h9) h8
 unfold reachBytes at h7
 obtain ⟨l, h4, h5, h6⟩ := zgr (enc := zN) (G := fun y => zeE y) (fun x hx => zmE (h2 x hx))
 exact ⟨l, by rw [h1, h4, h5] <;> rfl, h6, by omega⟩

theorem zl3 {ps : List PV} (h : Shp Tryz.prog 52 ps) : ∃ x : zI, ps = zj x ∧ zeX x := by
 obtain ⟨xs, rfl, hl, hx⟩ := h.structInv Tryz.underlying52
 match xs, hl, hx with
 | [a0, a1, a2, a3, a4, a5, a6, a7], _, hx =>
  obtain ⟨n0, rfl, w0⟩ := (hx 0 _ _ rfl rfl).i64Inv Tryz.underlying3
  obtain ⟨n1, rfl, w1⟩ := (hx 1 _ _ rfl rfl).i64Inv Tryz.underlying3
  obtain ⟨n2, rfl, w2⟩ := (hx 2 _ _ rfl rfl).i64Inv Tryz.underlying3
  obtain ⟨n3, rfl, w3⟩ := (hx 3 _ _ rfl rfl).i64Inv Tryz.underlying3
  obtain ⟨n4, rfl, w4⟩ := (hx 4 _ _ rfl rfl).i64Inv Tryz.underlying3
  obtain ⟨n5, rfl, w5⟩ := (hx 5 _ _ rfl rfl).i64Inv Tryz.underlying3
  obtain ⟨n6, rfl⟩ := (hx 6 _ _ rfl rfl).boolInv Tryz.underlying4
  obtain ⟨n7, rfl, w7⟩ := zrE (hx 7 _ _ rfl rfl)
  exact ⟨⟨n0, n1, n2, n3, n4, n5, n6, n7⟩, rfl, by unfold zeX; exact ⟨w0, w1, w2, w3, w4, w5, w7⟩⟩

theorem zpB {ps : List PV} (h : Shp Tryz.prog 22 ps) : ∃ l : List zI, ps = [.slc l.length false (l.flatMap zj)] ∧ (∀ y ∈ l, zeX y) ∧ l.length ≤ 140737488355328 := by
 obtain ⟨xs, h1, h2, h3, h8⟩ := h.slcInv Tryz.underlying22
 have h9 : 1 ≤ Tryz.prog.bytesOf 52 := of_decide_eq_true (by kernel_rfl)
 have h7 : xs.length * 1 ≤ reachBytes := Nat.le_trans (Nat.mul_le_mul_left _ h9) h8
 unfold reachBytes at h7
 obtain ⟨l, h4, h5, h6⟩ := zgr (enc := zj) (G := fun y => zeX y) (fun x hx => zl3 (h2 x hx))
 exact ⟨l, by rw [h1, h4, h5] <;> rfl, h6, by omega⟩

theorem zqg {ps : List PV} (h : Shp Tryz.prog 62 ps) : ∃ x : zaI, ps = zp x ∧ ziP x := by
 obtain ⟨xs, rfl, hl, hx⟩ := h.structInv Tryz.underlying62
 match xs, hl, hx with
 | [a0, a1, a2, a3, a4, a5, a6], _, hx =>
  obtain ⟨n0, rfl, w0⟩ := (hx 0 _ _ rfl rfl).i64Inv Tryz.underlying3
  obtain ⟨n1, rfl, w1⟩ := (hx 1 _ _ rfl rfl).i64Inv Tryz.underlying3
  obtain ⟨n2, rfl, w2⟩ := (hx 2 _ _ rfl rfl).i64Inv Tryz.underlying3
  obtain ⟨n3, rfl, w3⟩ := (hx 3 _ _ rfl rfl).i64Inv Tryz.underlying3
  obtain ⟨n4, rfl, w4⟩ := (hx 4 _ _ rfl rfl).i64Inv Tryz.underlying3
  obtain ⟨n5, rfl, w5⟩ := (hx 5 _ _ rfl rfl).i64Inv Tryz.underlying3
  obtain ⟨n6, rfl⟩ := (hx 6 _ _ rfl rfl).boolInv Tryz.underlying4
  exact ⟨⟨n0, n1, n2, n3, n4, n5, n6⟩, rfl, by unfold ziP; exact ⟨w0, w1, w2, w3, w4, w5⟩⟩

theorem zq5 {ps : List PV} (h : Shp Tryz.prog 23 ps) : ∃ l : List zaI, ps = [.slc l.length false (l.flatMap zp)] ∧ (∀ y ∈ l, ziP y) ∧ l.length ≤ 140737488355328 := by
 obtain ⟨xs, h1, h2, h3, h8⟩ := h.slcInv Tryz.underlying23
 have h9 : 1 ≤ Tryz.prog.bytesOf 62 := of_decide_eq_true (by kernel_rfl)
 have h7 : xs.length * 1 ≤ reachBytes := Nat.le_trans (Nat.mul_le_mul_left _ h9) h8
 unfold reachBytes at h7
 obtain ⟨l, h4, h5, h6⟩ := zgr (enc := zp) (G := fun y => ziP y) (fun x hx => zqg (h2 x hx))
 exact ⟨l, by rw [h1, h4, h5] <;> rfl, h6, by omega⟩

theorem zqB {ps : List PV} (h : Shp Tryz.prog 73 ps) : ∃ x : zcc, ps = zU x ∧ zhC x := by
 obtain ⟨xs, rfl, hl, hx⟩ := h.structInv Tryz.underlying73
 match xs, hl, hx with
 | [a0, a1, a2, a3, a4], _, hx =>
  obtain ⟨n0, rfl, w0⟩ := (hx 0 _ _ rfl rfl).i64Inv Tryz.underlying3
  obtain ⟨n1, rfl, w1⟩ := (hx 1 _ _ rfl rfl).i64Inv Tryz.underlying3
  obtain ⟨n2, rfl, w2⟩ := (hx 2 _ _ rfl rfl).i64Inv Tryz.underlying3
  obtain ⟨n3, rfl, w3⟩ := (hx 3 _ _ rfl rfl).i64Inv Tryz.underlying3
  obtain ⟨n4, rfl, w4⟩ := (hx 4 _ _ rfl rfl).i64Inv Tryz.underlying3
  exact ⟨⟨n0, n1, n2, n3, n4⟩, rfl, by unfold zhC; exact ⟨w0, w1, w2, w3, w4⟩⟩

theorem zqN {ps : List PV} (h : Shp Tryz.prog 53 ps) : ∃ l : List zcc, ps = [.slc l.length false (l.flatMap zU)] ∧ (∀ y ∈ l, zhC y) ∧ l.length ≤ 140737488355328 := by
 obtain ⟨xs, h1, h2, h3, h8⟩ := h.slcInv Tryz.underlying53
 have h9 : 1 ≤ Tryz.prog.bytesOf 73 := of_decide_eq_true (by kernel_rfl)
 have h7 : xs.length * 1 ≤ reachBytes := Nat.le_trans (Nat.mul_le_mul_left _ h9) h8
 unfold reachBytes at h7
 obtain ⟨l, h4, h5, h6⟩ := zgr (enc := zU) (G := fun y => zhC y) (fun x hx => zqB (h2 x hx))
 exact ⟨l, by rw [h1, h4, h5] <;> rfl, h6, by omega⟩

theorem zo5 {ps : List PV} (h : Shp Tryz.prog 75 ps) : ∃ x : zbD, ps = zM x ∧ zfQ x := by
 obtain ⟨xs, rfl, hl, hx⟩ := h.structInv Tryz.underlying75
 match xs, hl, hx with
 | [a0, a1], _, hx =>
  obtain ⟨n0, rfl, w0⟩ := (hx 0 _ _ rfl rfl).i64Inv Tryz.underlying3
  obtain ⟨n1, rfl, w1⟩ := (hx 1 _ _ rfl rfl).i64Inv Tryz.underlying3
  exact ⟨⟨n0, n1⟩, rfl, by unfold zfQ; exact ⟨w0, w1⟩⟩

theorem zqG {ps : List PV} (h : Shp Tryz.prog 54 ps) : ∃ l : List zbD, ps = [.slc l.length false (l.flatMap zM)] ∧ (∀ y ∈ l, zfQ y) ∧ l.length ≤ 140737488355328 := by
 obtain ⟨xs, h1, h2, h3, h8⟩ := h.slcInv Tryz.underlying54
 have h9 : 1 ≤ Tryz.prog.bytesOf 75 := of_decide_eq_true (by kernel_rfl)
 have h7 : xs.length * 1 ≤ reachBytes := Nat.le_trans (Nat.mul_le_mul_left _ h9) h8
 unfold reachBytes at h7
 obtain ⟨l, h4, h5, h6⟩ := zgr (enc := zM) (G := fun y => zfQ y) (fun x hx => zo5 (h2 x hx))
 exact ⟨l, by rw [h1, h4, h5] <;> rfl, h6, by omega⟩

theorem zr8 {ps : List PV} (h : Shp Tryz.prog 56 ps) : ∃ x : GFoe, ps = zC x ∧ zmv x := by
 obtain ⟨xs, rfl, hl, hx⟩ := h.structInv Tryz.underlying56
 match xs, hl, hx with
 | [a0, a1, a2, a3, a4, a5, a6, a7], _, hx =>
  obtain ⟨n0, rfl, w0⟩ := (hx 0 _ _ rfl rfl).i64Inv Tryz.underlying3
  obtain ⟨n1, rfl, w1⟩ := (hx 1 _ _ rfl rfl).i64Inv Tryz.underlying3
  obtain ⟨n2, rfl, w2⟩ := (hx 2 _ _ rfl rfl).i64Inv Tryz.underlying3
  obtain ⟨n3, rfl, w3⟩ := (hx 3 _ _ rfl rfl).i64Inv Tryz.underlying3
  obtain ⟨n4, rfl, w4⟩ := (hx 4 _ _ rfl rfl).i64Inv Tryz.underlying3
  obtain ⟨n5, rfl, w5⟩ := zqN (hx 5 _ _ rfl rfl)
  obtain ⟨n6, rfl, w6⟩ := zqG (hx 6 _ _ rfl rfl)
  obtain ⟨n7, rfl, w7⟩ := (hx 7 _ _ rfl rfl).i64Inv Tryz.underlying3
  exact ⟨⟨n0, n1, n2, n3, n4, n5, n6, n7⟩, rfl, by unfold zmv; exact ⟨w0, w1, w2, w3, w4, w5, w6, w7⟩⟩

theorem zqU {ps : List PV} (h : Shp Tryz.prog 24 ps) : ∃ l : List GFoe, ps = [.slc l.length false (l.flatMap zC)] ∧ (∀ y ∈ l, zmv y) ∧ l.length ≤ 140737488355328 := by
 obtain ⟨xs, h1, h2, h3, h8⟩ := h.slcInv Tryz.underlying24
 have h9 : 1 ≤ Tryz.prog.bytesOf 56 := of_decide_eq_true (by kernel_rfl)
 have h7 : xs.length * 1 ≤ reachBytes := Nat.le_trans (Nat.mul_le_mul_left _ h9) h8
 unfold reachBytes at h7
 obtain ⟨l, h4, h5, h6⟩ := zgr (enc := zC) (G := fun y => zmv y) (fun x hx => zr8 (h2 x hx))
 exact ⟨l, by rw [h1, h4, h5] <;> rfl, h6, by omega⟩

theorem zqE {ps : List PV} (h : Shp Tryz.prog 25 ps) : ∃ l : List Bool, ps = [.slc l.length false (encB l)] ∧ l.length ≤ 140737488355328 := by
 obtain ⟨xs, h1, h2, h3, h8⟩ := h.slcInv Tryz.underlying25
 have h9 : 1 ≤ Tryz.prog.bytesOf 4 := of_decide_eq_true (by kernel_rfl)
 have h7 : xs.length * 1 ≤ reachBytes := Nat.le_trans (Nat.mul_le_mul_left _ h9) h8
 unfold reachBytes at h7
 obtain ⟨l, h4, h5, h6⟩ := zn2 (g := PV.bool) (G := fun _ => True) (fun x hx => (let ⟨b, h⟩ := (h2 x hx).boolInv Tryz.underlying4; ⟨b, h, trivial⟩))
 exact ⟨l, by rw [h1, h4, h5] <;> rfl, by omega⟩

theorem zpD {ps : List PV} (h : Shp Tryz.prog 27 ps) : ∃ x : zdd, ps = zsa x ∧ zmG x := by
 obtain ⟨xs, rfl, hl, hx⟩ := h.structInv Tryz.underlying27
 match xs, hl, hx with
 | [a0, a1, a2], _, hx =>
  obtain ⟨n0, rfl, w0⟩ := (hx 0 _ _ rfl rfl).i64Inv Tryz.underlying3
  obtain ⟨n1, rfl, w1⟩ := (hx 1 _ _ rfl rfl).i64Inv Tryz.underlying3
  obtain ⟨n2, rfl, w2⟩ := zqE (hx 2 _ _ rfl rfl)
  exact ⟨⟨n0, n1, n2⟩, rfl, by unfold zmG; exact ⟨w0, w1, w2⟩⟩

theorem zod {ps : List PV} (h : Shp Tryz.prog 29 ps) : ∃ x : GPos, ps = ztN x ∧ zoa x := by
 obtain ⟨xs, rfl, hl, hx⟩ := h.structInv Tryz.underlying29
 match xs, hl, hx with
 | [a0, a1], _, hx =>
  obtain ⟨n0, rfl, w0⟩ := (hx 0 _ _ rfl rfl).i64Inv Tryz.underlying3
  obtain ⟨n1, rfl, w1⟩ := (hx 1 _ _ rfl rfl).i64Inv Tryz.underlying3
  exact ⟨⟨n0, n1⟩, rfl, by unfold zoa; exact ⟨w0, w1⟩⟩

theorem zmg {ps : List PV} (h : Shp Tryz.prog 31 ps) : ∃ x : zA, ps = zmN x ∧ zd0 x := by
 obtain ⟨xs, rfl, hl, hx⟩ := h.structInv Tryz.underlying31
 match xs, hl, hx with
 | [a0, a1, a2, a3, a4, a5], _, hx =>
  obtain ⟨n0, rfl, w0⟩ := zpB (hx 0 _ _ rfl rfl)
  obtain ⟨n1, rfl, w1⟩ := zq5 (hx 1 _ _ rfl rfl)
  obtain ⟨n2, rfl, w2⟩ := zqU (hx 2 _ _ rfl rfl)
  obtain ⟨n3, rfl, w3⟩ := zpD (hx 3 _ _ rfl rfl)
  obtain ⟨n4, rfl, w4⟩ := zod (hx 4 _ _ rfl rfl)
  obtain ⟨n5, rfl, w5⟩ := zod (hx 5 _ _ rfl rfl)
  exact ⟨⟨n0, n1, n2, n3, n4, n5⟩, rfl, by unfold zd0; exact ⟨w0, w1, w2, w3, w4, w5⟩⟩

namespace blobWrites
open Go.ChangeShapes Go.WideShapes Go.ChangeAt
theorem own : ownKnob Tryz.prog.godebug = none := by kernel_rfl
theorem ztV : laidOutB Tryz.prog = true := by kernel_rfl
set_option maxRecDepth 100000 in
theorem zuZ (os : Os) (started : os.Started) (H : Type) (enc : TypeId × Value → H) :
    ReturnsInHanded {} Tryz.checked os 3 .any (Rows.blobWritesSpec.pre6 enc Tryz.prog Tryz.f3 Rows.blobWritesRow.domain false) (Rows.blobWritesSpec.post enc Tryz.prog Tryz.f3 false true false false) := by
  refine returnsInHanded_of_change_sized (C := Tryz.checked) own started (by kernel_rfl) Tryz.func3
    (ChangeSpec.witness6 (enc := enc) (C := Tryz.checked) false ⟨#[], #[.agg #[.slice none 0 0, .slice none 0 0, .slice none 0 0, .int .i64 0, .int .i64 0, .slice none 0 0, .int .i64 0, .int .i64 0, .int .i64 0, .int .i64 0]], []⟩ 8 (by kernel_rfl) (by kernel_rfl) (by kernel_rfl) (by kernel_rfl)) ?_
  intro W base args ds gs before hval0 hW hcnd hsz0 _
  have hval : ∀ (j : Nat) t v, Tryz.f3.params[j]? = some t → args[j]? = some v → Value.okWide Tryz.prog W .any base t v := hval0
  have hW' := hW
  obtain ⟨p, q, hA0, hV, rfl, hfz, hnd⟩ := hW
  have hA : DataW.TrodAll enc Tryz.prog W 0 (fun _ => true) true Tryz.f3.params.toList args.toList ds p := hA0
  rw [Tryz.params3] at hA hval
  obtain ⟨v0, vs0, d0, ds0, p0, q0, hargs, rfl, rfl, h0, r0⟩ := trodAll_cons hA
  obtain ⟨rfl, rfl, rfl⟩ := trodAll_nil r0
  obtain rfl : args = #[v0] := by cases args; simp_all
  obtain ⟨rfl, rfl⟩ := trodVars_none hV
  have hwt := fun n hn => of_decide_eq_true (List.all_eq_true.1 hsz0 n hn)
  have hv0 := hval 0 31 v0 rfl rfl
  have k0 := h0
  have lt0 : ∀ x ∈ p0, x.block < W.heap.size := by obtain ⟨m, hm⟩ := k0; exact DataW.trod_lt m _ _ _ hm
  obtain ⟨fu0, hf0⟩ := h0
  obtain ⟨ps0, hs0, hr0, _⟩ := ziq (c := zlV W) (fun _ h => h) fu0 60 31 _ _ (by kernel_rfl) hf0 (fun n hn => hwt n (zd7 (i := 0) rfl rfl hn))
  obtain ⟨c, rfl, w_c⟩ := zmg hs0
  have hR0 : Rep _ _ (zak c) v0 := zui hv0 (by kernel_rfl) hr0
  clear hA0 hval0 hsz0
  refine (zry (zmo c w_c) (vals := [v0]) ⟨hR0, trivial⟩).mono fun e W' ⟨he, bel⟩ => ?_
  subst he
  exact ⟨_, rfl, _, _, _, [], _, [], hW', trodAll_mk1 (shut_bool Tryz.underlying4 _), (trodAll_cons_mk (Below.trod ztV (by kernel_rfl) (of_decide_eq_true (by kernel_rfl)) k0 bel lt0) trodAll_mk0), rfl, bel.frame _, fun h => by cases h⟩
theorem over : Rows.blobWritesRow.holds Tryz.pinned (OpenSpec.ofChange Rows.blobWritesSpec) :=
  OpenClaim.holds_of_wide 3 Tryz.f3 rfl rfl rfl rfl rfl rfl rfl ⟨rfl, rfl, rfl, rfl, rfl⟩ rfl rfl rfl rfl rfl (by kernel_rfl) Tryz.func3 (by kernel_rfl)
    (of_decide_eq_true (by kernel_rfl)) (by unfold Func.isWrapper; first | (rw [if_pos (by decide +kernel)]; kernel_rfl) | (rw [if_neg (by decide +kernel)]; exact ⟨rfl, rfl⟩))
    (fun os started H enc _ => zuZ os started H enc)
end blobWrites
theorem blobWrites_holds : Rows.BlobWritesSaid := blobWrites.over
end Go.Proofs.YtppnccjeggnllaaGreat

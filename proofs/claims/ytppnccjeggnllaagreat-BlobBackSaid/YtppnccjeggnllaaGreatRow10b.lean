import Derived.Test.YtppnccjeggnllaaGreatRows
import Derived.Test.YtppnccjeggnllaaGreatVmZB
import Derived.Test.YtppnccjeggnllaaGreatPl10back
import Derived.WalkKit
namespace Go.Proofs.YtppnccjeggnllaaGreat
open Go Go.RowKit Go.Proofs.YtppnccjeggnllaaGreatVm
set_option linter.all false
set_option maxHeartbeats 400000
theorem zkY {ps : List PV} (h : Shp Tryz.prog 71 ps) : ∃ x : zan, ps = zD x ∧ zd6 x := by
 obtain ⟨xs, rfl, hl, hx⟩ := h.structInv Tryz.underlying71
 match xs, hl, hx with
 | [a0, a1, a2], _, hx =>
  obtain ⟨n0, rfl, w0⟩ := (hx 0 _ _ rfl rfl).i64Inv Tryz.underlying3
  obtain ⟨n1, rfl, w1⟩ := (hx 1 _ _ rfl rfl).i64Inv Tryz.underlying3
  obtain ⟨n2, rfl, w2⟩ := (hx 2 _ _ rfl rfl).i64Inv Tryz.underlying3
  exact ⟨⟨n0, n1, n2⟩, rfl, by unfold zd6; exact ⟨w0, w1, w2⟩⟩

theorem zmK {ps : List PV} (h : Shp Tryz.prog 50 ps) : ∃ l : List zan, ps = [.slc l.length false (l.flatMap zD)] ∧ (∀ y ∈ l, zd6 y) ∧ l.length ≤ 140737488355328 := by
 obtain ⟨xs, h1, h2, h3, h8⟩ := h.slcInv Tryz.underlying50
 have h9 : 1 ≤ Tryz.prog.bytesOf 71 := of_decide_eq_true (by kernel_rfl)
 have h7 : xs.length * 1 ≤ reachBytes := Nat.le_trans (Nat.mul_le_mul_left _ h9) h8
 unfold reachBytes at h7
 obtain ⟨l, h4, h5, h6⟩ := zff (enc := zD) (G := fun y => zd6 y) (fun x hx => zkY (h2 x hx))
 exact ⟨l, by rw [h1, h4, h5] <;> rfl, h6, by omega⟩

theorem zjM {ps : List PV} (h : Shp Tryz.prog 52 ps) : ∃ x : zG, ps = zj x ∧ zdV x := by
 obtain ⟨xs, rfl, hl, hx⟩ := h.structInv Tryz.underlying52
 match xs, hl, hx with
 | [a0, a1, a2, a3, a4, a5, a6, a7], _, hx =>
  obtain ⟨n0, rfl, w0⟩ := (hx 0 _ _ rfl rfl).i64Inv Tryz.underlying3
  obtain ⟨n1, rfl, w1⟩ := (hx 1 _ _ rfl rfl).i64Inv Tryz.underlying3
  obtain ⟨n2, rfl, w2⟩ := (hx 2 _ _ rfl rfl).i64Inv Tryz.underlying3
  obtain ⟨n3, rfl, w3⟩ := (hx 3 _ _ rfl rfl).i64Inv Tryz.underlying3
  obtain ⟨n4, rfl, w4⟩ := (hx 4 _ _ rfl rfl).i64Inv Tryz.underlying3
  obtain ⟨n5, rfl, w5⟩ := (hx 5 _ _ rfl rfl).i64Inv Tryz.underlying3
  obtain ⟨n6, rfl⟩ := (hx 6 _ _ rfl rfl).boolInv Tryz.underlying4
  obtain ⟨n7, rfl, w7⟩ := zmK (hx 7 _ _ rfl rfl)
  exact ⟨⟨n0, n1, n2, n3, n4, n5, n6, n7⟩, rfl, by unfold zdV; exact ⟨w0, w1, w2, w3, w4, w5, w7⟩⟩

theorem znW {ps : List PV} (h : Shp Tryz.prog 22 ps) : ∃ l : List zG, ps = [.slc l.length false (l.flatMap zj)] ∧ (∀ y ∈ l, zdV y) ∧ l.length ≤ 140737488355328 := by
 obtain ⟨xs, h1, h2, h3, h8⟩ := h.slcInv Tryz.underlying22
 have h9 : 1 ≤ Tryz.prog.bytesOf 52 := of_decide_eq_true (by kernel_rfl)
 have h7 : xs.length * 1 ≤ reachBytes := Nat.le_trans (Nat.mul_le_mul_left _ h9) h8
 unfold reachBytes at h7
 obtain ⟨l, h4, h5, h6⟩ := zff (enc := zj) (G := fun y => zdV y) (fun x hx => zjM (h2 x hx))
 exact ⟨l, by rw [h1, h4, h5] <;> rfl, h6, by omega⟩

theorem zmP {ps : List PV} (h : Shp Tryz.prog 62 ps) : ∃ x : zaB, ps = zq x ∧ zhA x := by
 obtain ⟨xs, rfl, hl, hx⟩ := h.structInv Tryz.underlying62
 match xs, hl, hx with
 | [a0, a1, a2, a3, a4, a5, a6], _, hx =>
  obtain ⟨n0, rfl, w0⟩ := (hx 0 _ _ rfl rfl).i64Inv Tryz.underlying3
  obtain ⟨n1, rfl, w1⟩ := (hx 1 _ _ rfl rfl).i64Inv Tryz.underlying3
  obtain ⟨n2, rfl, w2⟩ := (hx 2 _ _ rfl rfl).i64Inv Tryz.underlying3
  obtain ⟨n3, rfl, w3⟩ := (hx 3 _ _ rfl rfl).i64Inv Tryz.underlying3
  obtain ⟨n4, rfl, w4⟩ := (hx 4 _ _ rfl rfl).i64Inv Tryz.underlying3
  obtain ⟨n5, rfl, w5⟩ := (hx 5 _ _ rfl rfl).i64Inv Tryz.underlying3
  obtain ⟨n6, rfl⟩ := (hx 6 _ _ rfl rfl).boolInv Tryz.underlying4
  exact ⟨⟨n0, n1, n2, n3, n4, n5, n6⟩, rfl, by unfold zhA; exact ⟨w0, w1, w2, w3, w4, w5⟩⟩

theorem zn3 {ps : List PV} (h : Shp Tryz.prog 23 ps) : ∃ l : List zaB, ps = [.slc l.length false (l.flatMap zq)] ∧ (∀ y ∈ l, zhA y) ∧ l.length ≤ 140737488355328 := by
 obtain ⟨xs, h1, h2, h3, h8⟩ := h.slcInv Tryz.underlying23
 have h9 : 1 ≤ Tryz.prog.bytesOf 62 := of_decide_eq_true (by kernel_rfl)
 have h7 : xs.length * 1 ≤ reachBytes := Nat.le_trans (Nat.mul_le_mul_left _ h9) h8
 unfold reachBytes at h7
 obtain ⟨l, h4, h5, h6⟩ := zff (enc := zq) (G := fun y => zhA y) (fun x hx => zmP (h2 x hx))
 exact ⟨l, by rw [h1, h4, h5] <;> rfl, h6, by omega⟩

theorem zou {ps : List PV} (h : Shp Tryz.prog 73 ps) : ∃ x : zbO, ps = zN x ∧ zga x := by
 obtain ⟨xs, rfl, hl, hx⟩ := h.structInv Tryz.underlying73
 match xs, hl, hx with
 | [a0, a1, a2, a3, a4], _, hx =>
  obtain ⟨n0, rfl, w0⟩ := (hx 0 _ _ rfl rfl).i64Inv Tryz.underlying3
  obtain ⟨n1, rfl, w1⟩ := (hx 1 _ _ rfl rfl).i64Inv Tryz.underlying3
  obtain ⟨n2, rfl, w2⟩ := (hx 2 _ _ rfl rfl).i64Inv Tryz.underlying3
  obtain ⟨n3, rfl, w3⟩ := (hx 3 _ _ rfl rfl).i64Inv Tryz.underlying3
  obtain ⟨n4, rfl, w4⟩ := (hx 4 _ _ rfl rfl).i64Inv Tryz.underlying3
  exact ⟨⟨n0, n1, n2, n3, n4⟩, rfl, by unfold zga; exact ⟨w0, w1, w2, w3, w4⟩⟩

theorem zmN {ps : List PV} (h : Shp Tryz.prog 53 ps) : ∃ l : List zbO, ps = [.slc l.length false (l.flatMap zN)] ∧ (∀ y ∈ l, zga y) ∧ l.length ≤ 140737488355328 := by
 obtain ⟨xs, h1, h2, h3, h8⟩ := h.slcInv Tryz.underlying53
 have h9 : 1 ≤ Tryz.prog.bytesOf 73 := of_decide_eq_true (by kernel_rfl)
 have h7 : xs.length * 1 ≤ reachBytes := Nat.le_trans (Nat.mul_le_mul_left _ h9) h8
 unfold reachBytes at h7
 obtain ⟨l, h4, h5, h6⟩ := zff (enc := zN) (G := fun y => zga y) (fun x hx => zou (h2 x hx))
 exact ⟨l, by rw [h1, h4, h5] <;> rfl, h6, by omega⟩

theorem zmj {ps : List PV} (h : Shp Tryz.prog 75 ps) : ∃ x : zaU, ps = zE x ∧ zeR x := by
 obtain ⟨xs, rfl, hl, hx⟩ := h.structInv Tryz.underlying75
 match xs, hl, hx with
 | [a0, a1], _, hx =>
  obtain ⟨n0, rfl, w0⟩ := (hx 0 _ _ rfl rfl).i64Inv Tryz.underlying3
  obtain ⟨n1, rfl, w1⟩ := (hx 1 _ _ rfl rfl).i64Inv Tryz.underlying3
  exact ⟨⟨n0, n1⟩, rfl, by unfold zeR; exact ⟨w0, w1⟩⟩

theorem znt {ps : List PV} (h : Shp Tryz.prog 54 ps) : ∃ l : List zaU, ps = [.slc l.length false (l.flatMap zE)] ∧ (∀ y ∈ l, zeR y) ∧ l.length ≤ 140737488355328 := by
 obtain ⟨xs, h1, h2, h3, h8⟩ := h.slcInv Tryz.underlying54
 have h9 : 1 ≤ Tryz.prog.bytesOf 75 := of_decide_eq_true (by kernel_rfl)
 have h7 : xs.length * 1 ≤ reachBytes := Nat.le_trans (Nat.mul_le_mul_left _ h9) h8
 unfold reachBytes at h7
 obtain ⟨l, h4, h5, h6⟩ := zff (enc := zE) (G := fun y => zeR y) (fun x hx => zmj (h2 x hx))
 exact ⟨l, by rw [h1, h4, h5] <;> rfl, h6, by omega⟩

theorem zoM {ps : List PV} (h : Shp Tryz.prog 56 ps) : ∃ x : GFoe, ps = zw x ∧ zjU x := by
 obtain ⟨xs, rfl, hl, hx⟩ := h.structInv Tryz.underlying56
 match xs, hl, hx with
 | [a0, a1, a2, a3, a4, a5, a6, a7], _, hx =>
  obtain ⟨n0, rfl, w0⟩ := (hx 0 _ _ rfl rfl).i64Inv Tryz.underlying3
  obtain ⟨n1, rfl, w1⟩ := (hx 1 _ _ rfl rfl).i64Inv Tryz.underlying3
  obtain ⟨n2, rfl, w2⟩ := (hx 2 _ _ rfl rfl).i64Inv Tryz.underlying3
  obtain ⟨n3, rfl, w3⟩ := (hx 3 _ _ rfl rfl).i64Inv Tryz.underlying3
  obtain ⟨n4, rfl, w4⟩ := (hx 4 _ _ rfl rfl).i64Inv Tryz.underlying3
  obtain ⟨n5, rfl, w5⟩ := zmN (hx 5 _ _ rfl rfl)
  obtain ⟨n6, rfl, w6⟩ := znt (hx 6 _ _ rfl rfl)
  obtain ⟨n7, rfl, w7⟩ := (hx 7 _ _ rfl rfl).i64Inv Tryz.underlying3
  exact ⟨⟨n0, n1, n2, n3, n4, n5, n6, n7⟩, rfl, by unfold zjU; exact ⟨w0, w1, w2, w3, w4, w5, w6, w7⟩⟩

theorem znM {ps : List PV} (h : Shp Tryz.prog 24 ps) : ∃ l : List GFoe, ps = [.slc l.length false (l.flatMap zw)] ∧ (∀ y ∈ l, zjU y) ∧ l.length ≤ 140737488355328 := by
 obtain ⟨xs, h1, h2, h3, h8⟩ := h.slcInv Tryz.underlying24
 have h9 : 1 ≤ Tryz.prog.bytesOf 56 := of_decide_eq_true (by kernel_rfl)
 have h7 : xs.length * 1 ≤ reachBytes := Nat.le_trans (Nat.mul_le_mul_left _ h9) h8
 unfold reachBytes at h7
 obtain ⟨l, h4, h5, h6⟩ := zff (enc := zw) (G := fun y => zjU y) (fun x hx => zoM (h2 x hx))
 exact ⟨l, by rw [h1, h4, h5] <;> rfl, h6, by omega⟩

theorem zor {ps : List PV} (h : Shp Tryz.prog 25 ps) : ∃ l : List Bool, ps = [.slc l.length false (encB l)] ∧ l.length ≤ 140737488355328 := by
 obtain ⟨xs, h1, h2, h3, h8⟩ := h.slcInv Tryz.underlying25
 have h9 : 1 ≤ Tryz.prog.bytesOf 4 := of_decide_eq_true (by kernel_rfl)
 have h7 : xs.length * 1 ≤ reachBytes := Nat.le_trans (Nat.mul_le_mul_left _ h9) h8
 unfold reachBytes at h7
 obtain ⟨l, h4, h5, h6⟩ := ziM (g := PV.bool) (G := fun _ => True) (fun x hx => (let ⟨b, h⟩ := (h2 x hx).boolInv Tryz.underlying4; ⟨b, h, trivial⟩))
 exact ⟨l, by rw [h1, h4, h5] <;> rfl, by omega⟩

theorem zmZ {ps : List PV} (h : Shp Tryz.prog 27 ps) : ∃ x : zax, ps = zqe x ∧ zko x := by
 obtain ⟨xs, rfl, hl, hx⟩ := h.structInv Tryz.underlying27
 match xs, hl, hx with
 | [a0, a1, a2], _, hx =>
  obtain ⟨n0, rfl, w0⟩ := (hx 0 _ _ rfl rfl).i64Inv Tryz.underlying3
  obtain ⟨n1, rfl, w1⟩ := (hx 1 _ _ rfl rfl).i64Inv Tryz.underlying3
  obtain ⟨n2, rfl, w2⟩ := zor (hx 2 _ _ rfl rfl)
  exact ⟨⟨n0, n1, n2⟩, rfl, by unfold zko; exact ⟨w0, w1, w2⟩⟩

theorem zlj {ps : List PV} (h : Shp Tryz.prog 29 ps) : ∃ x : GPos, ps = zqO x ∧ zk6 x := by
 obtain ⟨xs, rfl, hl, hx⟩ := h.structInv Tryz.underlying29
 match xs, hl, hx with
 | [a0, a1], _, hx =>
  obtain ⟨n0, rfl, w0⟩ := (hx 0 _ _ rfl rfl).i64Inv Tryz.underlying3
  obtain ⟨n1, rfl, w1⟩ := (hx 1 _ _ rfl rfl).i64Inv Tryz.underlying3
  exact ⟨⟨n0, n1⟩, rfl, by unfold zk6; exact ⟨w0, w1⟩⟩

theorem zgI {ps : List PV} (h : Shp Tryz.prog 31 ps) : ∃ x : zu, ps = zkj x ∧ zcZ x := by
 obtain ⟨xs, rfl, hl, hx⟩ := h.structInv Tryz.underlying31
 match xs, hl, hx with
 | [a0, a1, a2, a3, a4, a5], _, hx =>
  obtain ⟨n0, rfl, w0⟩ := znW (hx 0 _ _ rfl rfl)
  obtain ⟨n1, rfl, w1⟩ := zn3 (hx 1 _ _ rfl rfl)
  obtain ⟨n2, rfl, w2⟩ := znM (hx 2 _ _ rfl rfl)
  obtain ⟨n3, rfl, w3⟩ := zmZ (hx 3 _ _ rfl rfl)
  obtain ⟨n4, rfl, w4⟩ := zlj (hx 4 _ _ rfl rfl)
  obtain ⟨n5, rfl, w5⟩ := zlj (hx 5 _ _ rfl rfl)
  exact ⟨⟨n0, n1, n2, n3, n4, n5⟩, rfl, by unfold zcZ; exact ⟨w0, w1, w2, w3, w4, w5⟩⟩

theorem zne {ps : List PV} (h : Shp Tryz.prog 38 ps) : ∃ l : List UInt8, ps = [.slc l.length false (encY l)] ∧ l.length ≤ 140737488355328 := by
 obtain ⟨xs, h1, h2, h3, h8⟩ := h.slcInv Tryz.underlying38
 have h9 : 1 ≤ Tryz.prog.bytesOf 5 := of_decide_eq_true (by kernel_rfl)
 have h7 : xs.length * 1 ≤ reachBytes := Nat.le_trans (Nat.mul_le_mul_left _ h9) h8
 unfold reachBytes at h7
 obtain ⟨l, h4, h5, h6⟩ := ziM (g := fun b : UInt8 => PV.int .u8 b.toNat) (G := fun _ => True) (fun x hx => (h2 x hx).u8Inv Tryz.underlying5)
 exact ⟨l, by rw [h1, h4, h5] <;> rfl, by omega⟩

namespace blobBack
open Go.ChangeShapes Go.WideShapes Go.ChangeAt
theorem own : ownKnob Tryz.prog.godebug = none := by kernel_rfl
theorem zkC : laidOutB Tryz.prog = true := by kernel_rfl
set_option maxRecDepth 100000 in
theorem zrH (os : Os) (started : os.Started) (H : Type) (enc : TypeId × Value → H) :
    ReturnsInHanded {} Tryz.checked os 6 .any (Rows.blobBackSpec.pre6 enc Tryz.prog Tryz.f6 Rows.blobBackRow.domain false) (Rows.blobBackSpec.post enc Tryz.prog Tryz.f6 false true false false) := by
  refine returnsInHanded_of_change_sized (C := Tryz.checked) own started (by kernel_rfl) Tryz.func6
    (ChangeSpec.witness6 (enc := enc) (C := Tryz.checked) false ⟨#[], #[.agg #[.slice none 0 0, .slice none 0 0, .slice none 0 0, .int .i64 0, .int .i64 0, .slice none 0 0, .int .i64 0, .int .i64 0, .int .i64 0, .int .i64 0], .agg #[.slice none 0 0, .slice none 0 0, .slice none 0 0, .int .i64 0, .int .i64 0, .slice none 0 0, .int .i64 0, .int .i64 0, .int .i64 0, .int .i64 0], .slice none 0 0], []⟩ 8 (by kernel_rfl) (by kernel_rfl) (by kernel_rfl) (by kernel_rfl)) ?_
  intro W base args ds gs before hval0 hW hcnd hsz0 _
  have hval : ∀ (j : Nat) t v, Tryz.f6.params[j]? = some t → args[j]? = some v → Value.okWide Tryz.prog W .any base t v := hval0
  have hW' := hW
  obtain ⟨p, q, hA0, hV, rfl, hfz, hnd⟩ := hW
  have hA : DataW.TrodAll enc Tryz.prog W 0 (fun _ => true) true Tryz.f6.params.toList args.toList ds p := hA0
  rw [Tryz.params6] at hA hval
  obtain ⟨v0, vs0, d0, ds0, p0, q0, hargs, rfl, rfl, h0, r0⟩ := trodAll_cons hA
  obtain ⟨v1, vs1, d1, ds1, p1, q1, rfl, rfl, rfl, h1, r1⟩ := trodAll_cons r0
  obtain ⟨v2, vs2, d2, ds2, p2, q2, rfl, rfl, rfl, h2, r2⟩ := trodAll_cons r1
  obtain ⟨rfl, rfl, rfl⟩ := trodAll_nil r2
  obtain rfl : args = #[v0, v1, v2] := by cases args; simp_all
  obtain ⟨rfl, rfl⟩ := trodVars_none hV
  have hwt := fun n hn => of_decide_eq_true (List.all_eq_true.1 hsz0 n hn)
  have hv0 := hval 0 31 v0 rfl rfl
  have k0 := h0
  have lt0 : ∀ x ∈ p0, x.block < W.heap.size := by obtain ⟨m, hm⟩ := k0; exact DataW.trod_lt m _ _ _ hm
  obtain ⟨fu0, hf0⟩ := h0
  obtain ⟨ps0, hs0, hr0, _⟩ := zeP (c := zhq W) (fun _ h => h) fu0 60 31 _ _ (by kernel_rfl) hf0 (fun n hn => hwt n (zcf (i := 0) rfl rfl hn))
  obtain ⟨c, rfl, w_c⟩ := zgI hs0
  have hR0 : Rep _ _ (z1 c) v0 := znr hv0 (by kernel_rfl) hr0
  have hv1 := hval 1 31 v1 rfl rfl
  have k1 := h1
  have lt1 : ∀ x ∈ p1, x.block < W.heap.size := by obtain ⟨m, hm⟩ := k1; exact DataW.trod_lt m _ _ _ hm
  obtain ⟨fu1, hf1⟩ := h1
  obtain ⟨ps1, hs1, hr1, _⟩ := zeP (c := zhq W) (fun _ h => h) fu1 60 31 _ _ (by kernel_rfl) hf1 (fun n hn => hwt n (zcf (i := 1) rfl rfl hn))
  obtain ⟨d, rfl, w_d⟩ := zgI hs1
  have hR1 : Rep _ _ (z1 d) v1 := znr hv1 (by kernel_rfl) hr1
  have hv2 := hval 2 38 v2 rfl rfl
  have k2 := h2
  have lt2 : ∀ x ∈ p2, x.block < W.heap.size := by obtain ⟨m, hm⟩ := k2; exact DataW.trod_lt m _ _ _ hm
  obtain ⟨fu2, hf2⟩ := h2
  obtain ⟨ps2, hs2, hr2, _⟩ := zeP (c := zhq W) (fun _ h => h) fu2 60 38 _ _ (by kernel_rfl) hf2 (fun n hn => hwt n (zcf (i := 2) rfl rfl hn))
  obtain ⟨b, rfl, w_b⟩ := zne hs2
  have hR2 := zpt hr2 (zrE hv2 (by kernel_rfl))
  clear hA0 hval0 hsz0
  refine (znx (zmc c d b false w_c w_d) (vals := [v0, v1, v2]) ⟨hR0, hR1, hR2, trivial⟩).mono fun e W' ⟨he, bel⟩ => ?_
  subst he
  exact ⟨_, rfl, _, _, _, [], _, [], hW', trodAll_mk1 (shut_bool Tryz.underlying4 _), (trodAll_cons_mk (Below.trod zkC (by kernel_rfl) (of_decide_eq_true (by kernel_rfl)) k0 bel lt0) (trodAll_cons_mk (Below.trod zkC (by kernel_rfl) (of_decide_eq_true (by kernel_rfl)) k1 bel lt1) (trodAll_cons_mk (Below.trod zkC (by kernel_rfl) (of_decide_eq_true (by kernel_rfl)) k2 bel lt2) trodAll_mk0))), rfl, bel.frame _, fun h => by cases h⟩
theorem over : Rows.blobBackRow.holds Tryz.pinned (OpenSpec.ofChange Rows.blobBackSpec) :=
  OpenClaim.holds_of_wide 6 Tryz.f6 rfl rfl rfl rfl rfl rfl rfl ⟨rfl, rfl, rfl, rfl, rfl⟩ rfl rfl rfl rfl rfl (by kernel_rfl) Tryz.func6 (by kernel_rfl)
    (of_decide_eq_true (by kernel_rfl)) (by unfold Func.isWrapper; first | (rw [if_pos (by decide +kernel)]; kernel_rfl) | (rw [if_neg (by decide +kernel)]; exact ⟨rfl, rfl⟩))
    (fun os started H enc _ => zrH os started H enc)
end blobBack
theorem blobBack_holds : Rows.BlobBackSaid := blobBack.over
end Go.Proofs.YtppnccjeggnllaaGreat

import Derived.Test.YtppnccjeggnllaaGreatRows
import Derived.Test.YtppnccjeggnllaaGreatVmZB
import Derived.Test.YtppnccjeggnllaaGreatPl10cuts
import Derived.WalkKit
namespace Go.Proofs.YtppnccjeggnllaaGreat
open Go Go.RowKit Go.Proofs.YtppnccjeggnllaaGreatVm
set_option linter.all false
set_option maxHeartbeats 400000
theorem GEffect_inv {ps : List PV} (h : Shp Tryz.prog 71 ps) : ∃ x : GEffect, ps = encGEffect x ∧ wfGEffect x := by
 obtain ⟨xs, rfl, hl, hx⟩ := h.structInv Tryz.underlying71
 match xs, hl, hx with
 | [a0, a1, a2], _, hx =>
  obtain ⟨n0, rfl, w0⟩ := (hx 0 _ _ rfl rfl).i64Inv Tryz.underlying3
  obtain ⟨n1, rfl, w1⟩ := (hx 1 _ _ rfl rfl).i64Inv Tryz.underlying3
  obtain ⟨n2, rfl, w2⟩ := (hx 2 _ _ rfl rfl).i64Inv Tryz.underlying3
  exact ⟨⟨n0, n1, n2⟩, rfl, by unfold wfGEffect; exact ⟨w0, w1, w2⟩⟩

theorem slc50_inv {ps : List PV} (h : Shp Tryz.prog 50 ps) : ∃ l : List GEffect, ps = [.slc l.length false (l.flatMap encGEffect)] ∧ (∀ y ∈ l, wfGEffect y) ∧ l.length ≤ 140737488355328 := by
 obtain ⟨xs, h1, h2, h3, h8⟩ := h.slcInv Tryz.underlying50
 have h9 : 1 ≤ Tryz.prog.bytesOf 71 := of_decide_eq_true (by kernel_rfl)
 have h7 : xs.length * 1 ≤ reachBytes := Nat.le_trans (Nat.mul_le_mul_left _ h9) h8
 unfold reachBytes at h7
 obtain ⟨l, h4, h5, h6⟩ := list_of (enc := encGEffect) (G := fun y => wfGEffect y) (fun x hx => GEffect_inv (h2 x hx))
 exact ⟨l, by rw [h1, h4, h5] <;> rfl, h6, by omega⟩

theorem GAbility_inv {ps : List PV} (h : Shp Tryz.prog 52 ps) : ∃ x : GAbility, ps = encGAbility x ∧ wfGAbility x := by
 obtain ⟨xs, rfl, hl, hx⟩ := h.structInv Tryz.underlying52
 match xs, hl, hx with
 | [a0, a1, a2, a3, a4, a5, a6, a7], _, hx =>
  obtain ⟨n0, rfl, w0⟩ := (hx 0 _ _ rfl rfl).i64Inv Tryz.underlying3
  obtain ⟨n1, rfl, w1⟩ := (hx 1 _ _ rfl rfl).i64Inv Tryz.underlying3
  obtain ⟨n2, rfl, w2⟩ := (hx 2 _ _ rfl rfl).i64Inv Tryz.underlying3
  obtain ⟨n3, rfl, w3⟩ := (hx 3 _ _ rfl rfl).i64Inv Tryz.underlying3
  obtain ⟨n4, rfl, w4⟩ := (hx 4 _ _ rfl rfl).i64Inv Tryz.underlying3
  obtain ⟨n5, rfl, w5⟩ := (hx 5 _ _ rfl rfl).i64Inv Tryz.underlying3
  obtain ⟨n6, rfl⟩ := (hx 6 _ _ rfl rfl).boolInv Tryz.underlying4
  obtain ⟨n7, rfl, w7⟩ := slc50_inv (hx 7 _ _ rfl rfl)
  exact ⟨⟨n0, n1, n2, n3, n4, n5, n6, n7⟩, rfl, by unfold wfGAbility; exact ⟨w0, w1, w2, w3, w4, w5, w7⟩⟩

theorem slc22_inv {ps : List PV} (h : Shp Tryz.prog 22 ps) : ∃ l : List GAbility, ps = [.slc l.length false (l.flatMap encGAbility)] ∧ (∀ y ∈ l, wfGAbility y) ∧ l.length ≤ 140737488355328 := by
 obtain ⟨xs, h1, h2, h3, h8⟩ := h.slcInv Tryz.underlying22
 have h9 : 1 ≤ Tryz.prog.bytesOf 52 := of_decide_eq_true (by kernel_rfl)
 have h7 : xs.length * 1 ≤ reachBytes := Nat.le_trans (Nat.mul_le_mul_left _ h9) h8
 unfold reachBytes at h7
 obtain ⟨l, h4, h5, h6⟩ := list_of (enc := encGAbility) (G := fun y => wfGAbility y) (fun x hx => GAbility_inv (h2 x hx))
 exact ⟨l, by rw [h1, h4, h5] <;> rfl, h6, by omega⟩

theorem GAura_inv {ps : List PV} (h : Shp Tryz.prog 62 ps) : ∃ x : GAura, ps = encGAura x ∧ wfGAura x := by
 obtain ⟨xs, rfl, hl, hx⟩ := h.structInv Tryz.underlying62
 match xs, hl, hx with
 | [a0, a1, a2, a3, a4, a5, a6], _, hx =>
  obtain ⟨n0, rfl, w0⟩ := (hx 0 _ _ rfl rfl).i64Inv Tryz.underlying3
  obtain ⟨n1, rfl, w1⟩ := (hx 1 _ _ rfl rfl).i64Inv Tryz.underlying3
  obtain ⟨n2, rfl, w2⟩ := (hx 2 _ _ rfl rfl).i64Inv Tryz.underlying3
  obtain ⟨n3, rfl, w3⟩ := (hx 3 _ _ rfl rfl).i64Inv Tryz.underlying3
  obtain ⟨n4, rfl, w4⟩ := (hx 4 _ _ rfl rfl).i64Inv Tryz.underlying3
  obtain ⟨n5, rfl, w5⟩ := (hx 5 _ _ rfl rfl).i64Inv Tryz.underlying3
  obtain ⟨n6, rfl⟩ := (hx 6 _ _ rfl rfl).boolInv Tryz.underlying4
  exact ⟨⟨n0, n1, n2, n3, n4, n5, n6⟩, rfl, by unfold wfGAura; exact ⟨w0, w1, w2, w3, w4, w5⟩⟩

theorem slc23_inv {ps : List PV} (h : Shp Tryz.prog 23 ps) : ∃ l : List GAura, ps = [.slc l.length false (l.flatMap encGAura)] ∧ (∀ y ∈ l, wfGAura y) ∧ l.length ≤ 140737488355328 := by
 obtain ⟨xs, h1, h2, h3, h8⟩ := h.slcInv Tryz.underlying23
 have h9 : 1 ≤ Tryz.prog.bytesOf 62 := of_decide_eq_true (by kernel_rfl)
 have h7 : xs.length * 1 ≤ reachBytes := Nat.le_trans (Nat.mul_le_mul_left _ h9) h8
 unfold reachBytes at h7
 obtain ⟨l, h4, h5, h6⟩ := list_of (enc := encGAura) (G := fun y => wfGAura y) (fun x hx => GAura_inv (h2 x hx))
 exact ⟨l, by rw [h1, h4, h5] <;> rfl, h6, by omega⟩

theorem GLine_inv {ps : List PV} (h : Shp Tryz.prog 73 ps) : ∃ x : GLine, ps = encGLine x ∧ wfGLine x := by
 obtain ⟨xs, rfl, hl, hx⟩ := h.structInv Tryz.underlying73
 match xs, hl, hx with
 | [a0, a1, a2, a3, a4], _, hx =>
  obtain ⟨n0, rfl, w0⟩ := (hx 0 _ _ rfl rfl).i64Inv Tryz.underlying3
  obtain ⟨n1, rfl, w1⟩ := (hx 1 _ _ rfl rfl).i64Inv Tryz.underlying3
  obtain ⟨n2, rfl, w2⟩ := (hx 2 _ _ rfl rfl).i64Inv Tryz.underlying3
  obtain ⟨n3, rfl, w3⟩ := (hx 3 _ _ rfl rfl).i64Inv Tryz.underlying3
  obtain ⟨n4, rfl, w4⟩ := (hx 4 _ _ rfl rfl).i64Inv Tryz.underlying3
  exact ⟨⟨n0, n1, n2, n3, n4⟩, rfl, by unfold wfGLine; exact ⟨w0, w1, w2, w3, w4⟩⟩

theorem slc53_inv {ps : List PV} (h : Shp Tryz.prog 53 ps) : ∃ l : List GLine, ps = [.slc l.length false (l.flatMap encGLine)] ∧ (∀ y ∈ l, wfGLine y) ∧ l.length ≤ 140737488355328 := by
 obtain ⟨xs, h1, h2, h3, h8⟩ := h.slcInv Tryz.underlying53
 have h9 : 1 ≤ Tryz.prog.bytesOf 73 := of_decide_eq_true (by kernel_rfl)
 have h7 : xs.length * 1 ≤ reachBytes := Nat.le_trans (Nat.mul_le_mul_left _ h9) h8
 unfold reachBytes at h7
 obtain ⟨l, h4, h5, h6⟩ := list_of (enc := encGLine) (G := fun y => wfGLine y) (fun x hx => GLine_inv (h2 x hx))
 exact ⟨l, by rw [h1, h4, h5] <;> rfl, h6, by omega⟩

theorem GPrize_inv {ps : List PV} (h : Shp Tryz.prog 75 ps) : ∃ x : GPrize, ps = encGPrize x ∧ wfGPrize x := by
 obtain ⟨xs, rfl, hl, hx⟩ := h.structInv Tryz.underlying75
 match xs, hl, hx with
 | [a0, a1], _, hx =>
  obtain ⟨n0, rfl, w0⟩ := (hx 0 _ _ rfl rfl).i64Inv Tryz.underlying3
  obtain ⟨n1, rfl, w1⟩ := (hx 1 _ _ rfl rfl).i64Inv Tryz.underlying3
  exact ⟨⟨n0, n1⟩, rfl, by unfold wfGPrize; exact ⟨w0, w1⟩⟩

theorem slc54_inv {ps : List PV} (h : Shp Tryz.prog 54 ps) : ∃ l : List GPrize, ps = [.slc l.length false (l.flatMap encGPrize)] ∧ (∀ y ∈ l, wfGPrize y) ∧ l.length ≤ 140737488355328 := by
 obtain ⟨xs, h1, h2, h3, h8⟩ := h.slcInv Tryz.underlying54
 have h9 : 1 ≤ Tryz.prog.bytesOf 75 := of_decide_eq_true (by kernel_rfl)
 have h7 : xs.length * 1 ≤ reachBytes := Nat.le_trans (Nat.mul_le_mul_left _ h9) h8
 unfold reachBytes at h7
 obtain ⟨l, h4, h5, h6⟩ := list_of (enc := encGPrize) (G := fun y => wfGPrize y) (fun x hx => GPrize_inv (h2 x hx))
 exact ⟨l, by rw [h1, h4, h5] <;> rfl, h6, by omega⟩

theorem GFoe_inv {ps : List PV} (h : Shp Tryz.prog 56 ps) : ∃ x : GFoe, ps = encGFoe x ∧ wfGFoe x := by
 obtain ⟨xs, rfl, hl, hx⟩ := h.structInv Tryz.underlying56
 match xs, hl, hx with
 | [a0, a1, a2, a3, a4, a5, a6, a7], _, hx =>
  obtain ⟨n0, rfl, w0⟩ := (hx 0 _ _ rfl rfl).i64Inv Tryz.underlying3
  obtain ⟨n1, rfl, w1⟩ := (hx 1 _ _ rfl rfl).i64Inv Tryz.underlying3
  obtain ⟨n2, rfl, w2⟩ := (hx 2 _ _ rfl rfl).i64Inv Tryz.underlying3
  obtain ⟨n3, rfl, w3⟩ := (hx 3 _ _ rfl rfl).i64Inv Tryz.underlying3
  obtain ⟨n4, rfl, w4⟩ := (hx 4 _ _ rfl rfl).i64Inv Tryz.underlying3
  obtain ⟨n5, rfl, w5⟩ := slc53_inv (hx 5 _ _ rfl rfl)
  obtain ⟨n6, rfl, w6⟩ := slc54_inv (hx 6 _ _ rfl rfl)
  obtain ⟨n7, rfl, w7⟩ := (hx 7 _ _ rfl rfl).i64Inv Tryz.underlying3
  exact ⟨⟨n0, n1, n2, n3, n4, n5, n6, n7⟩, rfl, by unfold wfGFoe; exact ⟨w0, w1, w2, w3, w4, w5, w6, w7⟩⟩

theorem slc24_inv {ps : List PV} (h : Shp Tryz.prog 24 ps) : ∃ l : List GFoe, ps = [.slc l.length false (l.flatMap encGFoe)] ∧ (∀ y ∈ l, wfGFoe y) ∧ l.length ≤ 140737488355328 := by
 obtain ⟨xs, h1, h2, h3, h8⟩ := h.slcInv Tryz.underlying24
 have h9 : 1 ≤ Tryz.prog.bytesOf 56 := of_decide_eq_true (by kernel_rfl)
 have h7 : xs.length * 1 ≤ reachBytes := Nat.le_trans (Nat.mul_le_mul_left _ h9) h8
 unfold reachBytes at h7
 obtain ⟨l, h4, h5, h6⟩ := list_of (enc := encGFoe) (G := fun y => wfGFoe y) (fun x hx => GFoe_inv (h2 x hx))
 exact ⟨l, by rw [h1, h4, h5] <;> rfl, h6, by omega⟩

theorem slc25_inv {ps : List PV} (h : Shp Tryz.prog 25 ps) : ∃ l : List Bool, ps = [.slc l.length false (encB l)] ∧ l.length ≤ 140737488355328 := by
 obtain ⟨xs, h1, h2, h3, h8⟩ := h.slcInv Tryz.underlying25
 have h9 : 1 ≤ Tryz.prog.bytesOf 4 := of_decide_eq_true (by kernel_rfl)
 have h7 : xs.length * 1 ≤ reachBytes := Nat.le_trans (Nat.mul_le_mul_left _ h9) h8
 unfold reachBytes at h7
 obtain ⟨l, h4, h5, h6⟩ := list_map (g := PV.bool) (G := fun _ => True) (fun x hx => (let ⟨b, h⟩ := (h2 x hx).boolInv Tryz.underlying4; ⟨b, h, trivial⟩))
 exact ⟨l, by rw [h1, h4, h5] <;> rfl, by omega⟩

theorem GGrid_inv {ps : List PV} (h : Shp Tryz.prog 27 ps) : ∃ x : GGrid, ps = encGGrid x ∧ wfGGrid x := by
 obtain ⟨xs, rfl, hl, hx⟩ := h.structInv Tryz.underlying27
 match xs, hl, hx with
 | [a0, a1, a2], _, hx =>
  obtain ⟨n0, rfl, w0⟩ := (hx 0 _ _ rfl rfl).i64Inv Tryz.underlying3
  obtain ⟨n1, rfl, w1⟩ := (hx 1 _ _ rfl rfl).i64Inv Tryz.underlying3
  obtain ⟨n2, rfl, w2⟩ := slc25_inv (hx 2 _ _ rfl rfl)
  exact ⟨⟨n0, n1, n2⟩, rfl, by unfold wfGGrid; exact ⟨w0, w1, w2⟩⟩

theorem GPos_inv {ps : List PV} (h : Shp Tryz.prog 29 ps) : ∃ x : GPos, ps = encGPos x ∧ wfGPos x := by
 obtain ⟨xs, rfl, hl, hx⟩ := h.structInv Tryz.underlying29
 match xs, hl, hx with
 | [a0, a1], _, hx =>
  obtain ⟨n0, rfl, w0⟩ := (hx 0 _ _ rfl rfl).i64Inv Tryz.underlying3
  obtain ⟨n1, rfl, w1⟩ := (hx 1 _ _ rfl rfl).i64Inv Tryz.underlying3
  exact ⟨⟨n0, n1⟩, rfl, by unfold wfGPos; exact ⟨w0, w1⟩⟩

theorem GContent_inv {ps : List PV} (h : Shp Tryz.prog 31 ps) : ∃ x : GContent, ps = encGContent x ∧ wfGContent x := by
 obtain ⟨xs, rfl, hl, hx⟩ := h.structInv Tryz.underlying31
 match xs, hl, hx with
 | [a0, a1, a2, a3, a4, a5], _, hx =>
  obtain ⟨n0, rfl, w0⟩ := slc22_inv (hx 0 _ _ rfl rfl)
  obtain ⟨n1, rfl, w1⟩ := slc23_inv (hx 1 _ _ rfl rfl)
  obtain ⟨n2, rfl, w2⟩ := slc24_inv (hx 2 _ _ rfl rfl)
  obtain ⟨n3, rfl, w3⟩ := GGrid_inv (hx 3 _ _ rfl rfl)
  obtain ⟨n4, rfl, w4⟩ := GPos_inv (hx 4 _ _ rfl rfl)
  obtain ⟨n5, rfl, w5⟩ := GPos_inv (hx 5 _ _ rfl rfl)
  exact ⟨⟨n0, n1, n2, n3, n4, n5⟩, rfl, by unfold wfGContent; exact ⟨w0, w1, w2, w3, w4, w5⟩⟩

namespace blobCuts
open Go.ChangeShapes Go.WideShapes Go.ChangeAt
theorem own : ownKnob Tryz.prog.godebug = none := by kernel_rfl
theorem laidOut : laidOutB Tryz.prog = true := by kernel_rfl
set_option maxRecDepth 100000 in
theorem lifted (os : Os) (started : os.Started) (H : Type) (enc : TypeId × Value → H) :
    ReturnsInHanded {} Tryz.checked os 5 .any (Rows.blobCutsSpec.pre6 enc Tryz.prog Tryz.f5 Rows.blobCutsRow.domain false) (Rows.blobCutsSpec.post enc Tryz.prog Tryz.f5 false true false false) := by
  refine returnsInHanded_of_change_sized (C := Tryz.checked) own started (by kernel_rfl) Tryz.func5
    (ChangeSpec.witness6 (enc := enc) (C := Tryz.checked) false ⟨#[], #[.agg #[.slice none 0 0, .slice none 0 0, .slice none 0 0, .int .i64 0, .int .i64 0, .slice none 0 0, .int .i64 0, .int .i64 0, .int .i64 0, .int .i64 0], .int .i64 0, .int .u8 0], []⟩ 8 (by kernel_rfl) (by kernel_rfl) (by kernel_rfl) (by kernel_rfl)) ?_
  intro W base args ds gs before hval0 hW hcnd hsz0 _
  have hval : ∀ (j : Nat) t v, Tryz.f5.params[j]? = some t → args[j]? = some v → Value.okWide Tryz.prog W .any base t v := hval0
  have hW' := hW
  obtain ⟨p, q, hA0, hV, rfl, hfz, hnd⟩ := hW
  have hA : DataW.TrodAll enc Tryz.prog W 0 (fun _ => true) true Tryz.f5.params.toList args.toList ds p := hA0
  rw [Tryz.params5] at hA hval
  obtain ⟨v0, vs0, d0, ds0, p0, q0, hargs, rfl, rfl, h0, r0⟩ := trodAll_cons hA
  obtain ⟨v1, vs1, d1, ds1, p1, q1, rfl, rfl, rfl, h1, r1⟩ := trodAll_cons r0
  obtain ⟨v2, vs2, d2, ds2, p2, q2, rfl, rfl, rfl, h2, r2⟩ := trodAll_cons r1
  obtain ⟨rfl, rfl, rfl⟩ := trodAll_nil r2
  obtain rfl : args = #[v0, v1, v2] := by cases args; simp_all
  obtain ⟨rfl, rfl⟩ := trodVars_none hV
  have hwt := fun n hn => of_decide_eq_true (List.all_eq_true.1 hsz0 n hn)
  have hv0 := hval 0 31 v0 rfl rfl
  have k0 := h0
  have lt0 : ∀ x ∈ p0, x.block < W.heap.size := by obtain ⟨m, hm⟩ := k0; exact DataW.trod_lt m _ _ _ hm
  obtain ⟨fu0, hf0⟩ := h0
  obtain ⟨ps0, hs0, hr0, _⟩ := trod_shp (c := world0 W) (fun _ h => h) fu0 60 31 _ _ (by kernel_rfl) hf0 (fun n hn => hwt n (weightsEach_mem (i := 0) rfl rfl hn))
  obtain ⟨c, rfl, w_c⟩ := GContent_inv hs0
  have hR0 : Rep _ _ (aGContent c) v0 := rep_agg hv0 (by kernel_rfl) hr0
  have hv1 := hval 1 3 v1 rfl rfl
  have k1 := h1
  have lt1 : ∀ x ∈ p1, x.block < W.heap.size := by obtain ⟨m, hm⟩ := k1; exact DataW.trod_lt m _ _ _ hm
  obtain ⟨fu1, hf1⟩ := h1
  obtain ⟨ps1, hs1, hr1, _⟩ := trod_shp (c := world0 W) (fun _ h => h) fu1 60 3 _ _ (by kernel_rfl) hf1 (fun n hn => hwt n (weightsEach_mem (i := 1) rfl rfl hn))
  obtain ⟨at_, rfl, w_at_⟩ := hs1.i64Inv Tryz.underlying3
  have hR1 := rep_cell hr1 (notAgg hv1 (by kernel_rfl))
  have hv2 := hval 2 5 v2 rfl rfl
  have k2 := h2
  have lt2 : ∀ x ∈ p2, x.block < W.heap.size := by obtain ⟨m, hm⟩ := k2; exact DataW.trod_lt m _ _ _ hm
  obtain ⟨fu2, hf2⟩ := h2
  obtain ⟨ps2, hs2, hr2, _⟩ := trod_shp (c := world0 W) (fun _ h => h) fu2 60 5 _ _ (by kernel_rfl) hf2 (fun n hn => hwt n (weightsEach_mem (i := 2) rfl rfl hn))
  obtain ⟨more, rfl, _⟩ := hs2.u8Inv Tryz.underlying5
  have hR2 := rep_cell hr2 (notAgg hv2 (by kernel_rfl))
  clear hA0 hval0 hsz0
  refine (law_calls (cuts10_yes c at_ more w_c) (vals := [v0, v1, v2]) ⟨hR0, hR1, hR2, trivial⟩).mono fun e W' ⟨he, bel⟩ => ?_
  subst he
  exact ⟨_, rfl, _, _, _, [], _, [], hW', trodAll_mk1 (shut_bool Tryz.underlying4 _), (trodAll_cons_mk (Below.trod laidOut (by kernel_rfl) (of_decide_eq_true (by kernel_rfl)) k0 bel lt0) (trodAll_cons_mk (Below.trod laidOut (by kernel_rfl) (of_decide_eq_true (by kernel_rfl)) k1 bel lt1) (trodAll_cons_mk (Below.trod laidOut (by kernel_rfl) (of_decide_eq_true (by kernel_rfl)) k2 bel lt2) trodAll_mk0))), rfl, bel.frame _, fun h => by cases h⟩
theorem over : Rows.blobCutsRow.holds Tryz.pinned (OpenSpec.ofChange Rows.blobCutsSpec) :=
  OpenClaim.holds_of_wide 5 Tryz.f5 rfl rfl rfl rfl rfl rfl rfl ⟨rfl, rfl, rfl, rfl, rfl⟩ rfl rfl rfl rfl rfl (by kernel_rfl) Tryz.func5 (by kernel_rfl)
    (of_decide_eq_true (by kernel_rfl)) (by unfold Func.isWrapper; first | (rw [if_pos (by decide +kernel)]; kernel_rfl) | (rw [if_neg (by decide +kernel)]; exact ⟨rfl, rfl⟩))
    (fun os started H enc _ => lifted os started H enc)
end blobCuts
theorem blobCuts_holds : Rows.BlobCutsSaid := blobCuts.over
end Go.Proofs.YtppnccjeggnllaaGreat

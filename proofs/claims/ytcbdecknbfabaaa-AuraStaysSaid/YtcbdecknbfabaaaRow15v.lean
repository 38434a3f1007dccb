import Derived.Test.YtcbdecknbfabaaaRows
import Derived.Test.YtcbdecknbfabaaaVmY
import Derived.Test.YtcbdecknbfabaaaPlain15v
import Derived.WalkKit
namespace Go.Proofs.Ytcbdecknbfabaaa
open Go Go.RowKit Go.Proofs.YtcbdecknbfabaaaVm
set_option linter.all false
set_option maxHeartbeats 400000
theorem GEffect_inv {ps : List PV} (h : Shp Try.prog 122 ps) : ∃ x : GEffect, ps = encGEffect x ∧ wfGEffect x := by
 obtain ⟨xs, rfl, hl, hx⟩ := h.structInv Try.underlying122
 match xs, hl, hx with
 | [a0, a1, a2], _, hx =>
  obtain ⟨n0, rfl, w0⟩ := (hx 0 _ _ rfl rfl).i64Inv Try.underlying3
  obtain ⟨n1, rfl, w1⟩ := (hx 1 _ _ rfl rfl).i64Inv Try.underlying3
  obtain ⟨n2, rfl, w2⟩ := (hx 2 _ _ rfl rfl).i64Inv Try.underlying3
  exact ⟨⟨n0, n1, n2⟩, rfl, by unfold wfGEffect; exact ⟨w0, w1, w2⟩⟩

theorem slc60_inv {ps : List PV} (h : Shp Try.prog 60 ps) : ∃ l : List GEffect, ps = [.slc l.length false (l.flatMap encGEffect)] ∧ (∀ y ∈ l, wfGEffect y) ∧ l.length ≤ 140737488355328 := by
 obtain ⟨xs, h1, h2, h3, h8⟩ := h.slcInv Try.underlying60
 have h9 : 1 ≤ Try.prog.bytesOf 122 := of_decide_eq_true (by kernel_rfl)
 have h7 : xs.length * 1 ≤ reachBytes := Nat.le_trans (Nat.mul_le_mul_left _ h9) h8
 unfold reachBytes at h7
 obtain ⟨l, h4, h5, h6⟩ := list_of (enc := encGEffect) (G := fun y => wfGEffect y) (fun x hx => GEffect_inv (h2 x hx))
 exact ⟨l, by rw [h1, h4, h5] <;> rfl, h6, by omega⟩

theorem GAbility_inv {ps : List PV} (h : Shp Try.prog 62 ps) : ∃ x : GAbility, ps = encGAbility x ∧ wfGAbility x := by
 obtain ⟨xs, rfl, hl, hx⟩ := h.structInv Try.underlying62
 match xs, hl, hx with
 | [a0, a1, a2, a3, a4, a5, a6, a7], _, hx =>
  obtain ⟨n0, rfl, w0⟩ := (hx 0 _ _ rfl rfl).i64Inv Try.underlying3
  obtain ⟨n1, rfl, w1⟩ := (hx 1 _ _ rfl rfl).i64Inv Try.underlying3
  obtain ⟨n2, rfl, w2⟩ := (hx 2 _ _ rfl rfl).i64Inv Try.underlying3
  obtain ⟨n3, rfl, w3⟩ := (hx 3 _ _ rfl rfl).i64Inv Try.underlying3
  obtain ⟨n4, rfl, w4⟩ := (hx 4 _ _ rfl rfl).i64Inv Try.underlying3
  obtain ⟨n5, rfl, w5⟩ := (hx 5 _ _ rfl rfl).i64Inv Try.underlying3
  obtain ⟨n6, rfl⟩ := (hx 6 _ _ rfl rfl).boolInv Try.underlying4
  obtain ⟨n7, rfl, w7⟩ := slc60_inv (hx 7 _ _ rfl rfl)
  exact ⟨⟨n0, n1, n2, n3, n4, n5, n6, n7⟩, rfl, by unfold wfGAbility; exact ⟨w0, w1, w2, w3, w4, w5, w7⟩⟩

theorem slc22_inv {ps : List PV} (h : Shp Try.prog 22 ps) : ∃ l : List GAbility, ps = [.slc l.length false (l.flatMap encGAbility)] ∧ (∀ y ∈ l, wfGAbility y) ∧ l.length ≤ 140737488355328 := by
 obtain ⟨xs, h1, h2, h3, h8⟩ := h.slcInv Try.underlying22
 have h9 : 1 ≤ Try.prog.bytesOf 62 := of_decide_eq_true (by kernel_rfl)
 have h7 : xs.length * 1 ≤ reachBytes := Nat.le_trans (Nat.mul_le_mul_left _ h9) h8
 unfold reachBytes at h7
 obtain ⟨l, h4, h5, h6⟩ := list_of (enc := encGAbility) (G := fun y => wfGAbility y) (fun x hx => GAbility_inv (h2 x hx))
 exact ⟨l, by rw [h1, h4, h5] <;> rfl, h6, by omega⟩

theorem GAura_inv {ps : List PV} (h : Shp Try.prog 48 ps) : ∃ x : GAura, ps = encGAura x ∧ wfGAura x := by
 obtain ⟨xs, rfl, hl, hx⟩ := h.structInv Try.underlying48
 match xs, hl, hx with
 | [a0, a1, a2, a3, a4, a5, a6], _, hx =>
  obtain ⟨n0, rfl, w0⟩ := (hx 0 _ _ rfl rfl).i64Inv Try.underlying3
  obtain ⟨n1, rfl, w1⟩ := (hx 1 _ _ rfl rfl).i64Inv Try.underlying3
  obtain ⟨n2, rfl, w2⟩ := (hx 2 _ _ rfl rfl).i64Inv Try.underlying3
  obtain ⟨n3, rfl, w3⟩ := (hx 3 _ _ rfl rfl).i64Inv Try.underlying3
  obtain ⟨n4, rfl, w4⟩ := (hx 4 _ _ rfl rfl).i64Inv Try.underlying3
  obtain ⟨n5, rfl, w5⟩ := (hx 5 _ _ rfl rfl).i64Inv Try.underlying3
  obtain ⟨n6, rfl⟩ := (hx 6 _ _ rfl rfl).boolInv Try.underlying4
  exact ⟨⟨n0, n1, n2, n3, n4, n5, n6⟩, rfl, by unfold wfGAura; exact ⟨w0, w1, w2, w3, w4, w5⟩⟩

theorem slc23_inv {ps : List PV} (h : Shp Try.prog 23 ps) : ∃ l : List GAura, ps = [.slc l.length false (l.flatMap encGAura)] ∧ (∀ y ∈ l, wfGAura y) ∧ l.length ≤ 140737488355328 := by
 obtain ⟨xs, h1, h2, h3, h8⟩ := h.slcInv Try.underlying23
 have h9 : 1 ≤ Try.prog.bytesOf 48 := of_decide_eq_true (by kernel_rfl)
 have h7 : xs.length * 1 ≤ reachBytes := Nat.le_trans (Nat.mul_le_mul_left _ h9) h8
 unfold reachBytes at h7
 obtain ⟨l, h4, h5, h6⟩ := list_of (enc := encGAura) (G := fun y => wfGAura y) (fun x hx => GAura_inv (h2 x hx))
 exact ⟨l, by rw [h1, h4, h5] <;> rfl, h6, by omega⟩

theorem GLine_inv {ps : List PV} (h : Shp Try.prog 127 ps) : ∃ x : GLine, ps = encGLine x ∧ wfGLine x := by
 obtain ⟨xs, rfl, hl, hx⟩ := h.structInv Try.underlying127
 match xs, hl, hx with
 | [a0, a1, a2, a3, a4], _, hx =>
  obtain ⟨n0, rfl, w0⟩ := (hx 0 _ _ rfl rfl).i64Inv Try.underlying3
  obtain ⟨n1, rfl, w1⟩ := (hx 1 _ _ rfl rfl).i64Inv Try.underlying3
  obtain ⟨n2, rfl, w2⟩ := (hx 2 _ _ rfl rfl).i64Inv Try.underlying3
  obtain ⟨n3, rfl, w3⟩ := (hx 3 _ _ rfl rfl).i64Inv Try.underlying3
  obtain ⟨n4, rfl, w4⟩ := (hx 4 _ _ rfl rfl).i64Inv Try.underlying3
  exact ⟨⟨n0, n1, n2, n3, n4⟩, rfl, by unfold wfGLine; exact ⟨w0, w1, w2, w3, w4⟩⟩

theorem slc63_inv {ps : List PV} (h : Shp Try.prog 63 ps) : ∃ l : List GLine, ps = [.slc l.length false (l.flatMap encGLine)] ∧ (∀ y ∈ l, wfGLine y) ∧ l.length ≤ 140737488355328 := by
 obtain ⟨xs, h1, h2, h3, h8⟩ := h.slcInv Try.underlying63
 have h9 : 1 ≤ Try.prog.bytesOf 127 := of_decide_eq_true (by kernel_rfl)
 have h7 : xs.length * 1 ≤ reachBytes := Nat.le_trans (Nat.mul_le_mul_left _ h9) h8
 unfold reachBytes at h7
 obtain ⟨l, h4, h5, h6⟩ := list_of (enc := encGLine) (G := fun y => wfGLine y) (fun x hx => GLine_inv (h2 x hx))
 exact ⟨l, by rw [h1, h4, h5] <;> rfl, h6, by omega⟩

theorem GPrize_inv {ps : List PV} (h : Shp Try.prog 132 ps) : ∃ x : GPrize, ps = encGPrize x ∧ wfGPrize x := by
 obtain ⟨xs, rfl, hl, hx⟩ := h.structInv Try.underlying132
 match xs, hl, hx with
 | [a0, a1], _, hx =>
  obtain ⟨n0, rfl, w0⟩ := (hx 0 _ _ rfl rfl).i64Inv Try.underlying3
  obtain ⟨n1, rfl, w1⟩ := (hx 1 _ _ rfl rfl).i64Inv Try.underlying3
  exact ⟨⟨n0, n1⟩, rfl, by unfold wfGPrize; exact ⟨w0, w1⟩⟩

theorem slc64_inv {ps : List PV} (h : Shp Try.prog 64 ps) : ∃ l : List GPrize, ps = [.slc l.length false (l.flatMap encGPrize)] ∧ (∀ y ∈ l, wfGPrize y) ∧ l.length ≤ 140737488355328 := by
 obtain ⟨xs, h1, h2, h3, h8⟩ := h.slcInv Try.underlying64
 have h9 : 1 ≤ Try.prog.bytesOf 132 := of_decide_eq_true (by kernel_rfl)
 have h7 : xs.length * 1 ≤ reachBytes := Nat.le_trans (Nat.mul_le_mul_left _ h9) h8
 unfold reachBytes at h7
 obtain ⟨l, h4, h5, h6⟩ := list_of (enc := encGPrize) (G := fun y => wfGPrize y) (fun x hx => GPrize_inv (h2 x hx))
 exact ⟨l, by rw [h1, h4, h5] <;> rfl, h6, by omega⟩

theorem GFoe_inv {ps : List PV} (h : Shp Try.prog 66 ps) : ∃ x : GFoe, ps = encGFoe x ∧ wfGFoe x := by
 obtain ⟨xs, rfl, hl, hx⟩ := h.structInv Try.underlying66
 match xs, hl, hx with
 | [a0, a1, a2, a3, a4, a5, a6, a7], _, hx =>
  obtain ⟨n0, rfl, w0⟩ := (hx 0 _ _ rfl rfl).i64Inv Try.underlying3
  obtain ⟨n1, rfl, w1⟩ := (hx 1 _ _ rfl rfl).i64Inv Try.underlying3
  obtain ⟨n2, rfl, w2⟩ := (hx 2 _ _ rfl rfl).i64Inv Try.underlying3
  obtain ⟨n3, rfl, w3⟩ := (hx 3 _ _ rfl rfl).i64Inv Try.underlying3
  obtain ⟨n4, rfl, w4⟩ := (hx 4 _ _ rfl rfl).i64Inv Try.underlying3
  obtain ⟨n5, rfl, w5⟩ := slc63_inv (hx 5 _ _ rfl rfl)
  obtain ⟨n6, rfl, w6⟩ := slc64_inv (hx 6 _ _ rfl rfl)
  obtain ⟨n7, rfl, w7⟩ := (hx 7 _ _ rfl rfl).i64Inv Try.underlying3
  exact ⟨⟨n0, n1, n2, n3, n4, n5, n6, n7⟩, rfl, by unfold wfGFoe; exact ⟨w0, w1, w2, w3, w4, w5, w6, w7⟩⟩

theorem slc24_inv {ps : List PV} (h : Shp Try.prog 24 ps) : ∃ l : List GFoe, ps = [.slc l.length false (l.flatMap encGFoe)] ∧ (∀ y ∈ l, wfGFoe y) ∧ l.length ≤ 140737488355328 := by
 obtain ⟨xs, h1, h2, h3, h8⟩ := h.slcInv Try.underlying24
 have h9 : 1 ≤ Try.prog.bytesOf 66 := of_decide_eq_true (by kernel_rfl)
 have h7 : xs.length * 1 ≤ reachBytes := Nat.le_trans (Nat.mul_le_mul_left _ h9) h8
 unfold reachBytes at h7
 obtain ⟨l, h4, h5, h6⟩ := list_of (enc := encGFoe) (G := fun y => wfGFoe y) (fun x hx => GFoe_inv (h2 x hx))
 exact ⟨l, by rw [h1, h4, h5] <;> rfl, h6, by omega⟩

theorem slc25_inv {ps : List PV} (h : Shp Try.prog 25 ps) : ∃ l : List Bool, ps = [.slc l.length false (encB l)] ∧ l.length ≤ 140737488355328 := by
 obtain ⟨xs, h1, h2, h3, h8⟩ := h.slcInv Try.underlying25
 have h9 : 1 ≤ Try.prog.bytesOf 4 := of_decide_eq_true (by kernel_rfl)
 have h7 : xs.length * 1 ≤ reachBytes := Nat.le_trans (Nat.mul_le_mul_left _ h9) h8
 unfold reachBytes at h7
 obtain ⟨l, h4, h5, h6⟩ := list_map (g := PV.bool) (G := fun _ => True) (fun x hx => (let ⟨b, h⟩ := (h2 x hx).boolInv Try.underlying4; ⟨b, h, trivial⟩))
 exact ⟨l, by rw [h1, h4, h5] <;> rfl, by omega⟩

theorem GGrid_inv {ps : List PV} (h : Shp Try.prog 27 ps) : ∃ x : GGrid, ps = encGGrid x ∧ wfGGrid x := by
 obtain ⟨xs, rfl, hl, hx⟩ := h.structInv Try.underlying27
 match xs, hl, hx with
 | [a0, a1, a2], _, hx =>
  obtain ⟨n0, rfl, w0⟩ := (hx 0 _ _ rfl rfl).i64Inv Try.underlying3
  obtain ⟨n1, rfl, w1⟩ := (hx 1 _ _ rfl rfl).i64Inv Try.underlying3
  obtain ⟨n2, rfl, w2⟩ := slc25_inv (hx 2 _ _ rfl rfl)
  exact ⟨⟨n0, n1, n2⟩, rfl, by unfold wfGGrid; exact ⟨w0, w1, w2⟩⟩

theorem GPos_inv {ps : List PV} (h : Shp Try.prog 29 ps) : ∃ x : GPos, ps = encGPos x ∧ wfGPos x := by
 obtain ⟨xs, rfl, hl, hx⟩ := h.structInv Try.underlying29
 match xs, hl, hx with
 | [a0, a1], _, hx =>
  obtain ⟨n0, rfl, w0⟩ := (hx 0 _ _ rfl rfl).i64Inv Try.underlying3
  obtain ⟨n1, rfl, w1⟩ := (hx 1 _ _ rfl rfl).i64Inv Try.underlying3
  exact ⟨⟨n0, n1⟩, rfl, by unfold wfGPos; exact ⟨w0, w1⟩⟩

theorem GContent_inv {ps : List PV} (h : Shp Try.prog 31 ps) : ∃ x : GContent, ps = encGContent x ∧ wfGContent x := by
 obtain ⟨xs, rfl, hl, hx⟩ := h.structInv Try.underlying31
 match xs, hl, hx with
 | [a0, a1, a2, a3, a4, a5], _, hx =>
  obtain ⟨n0, rfl, w0⟩ := slc22_inv (hx 0 _ _ rfl rfl)
  obtain ⟨n1, rfl, w1⟩ := slc23_inv (hx 1 _ _ rfl rfl)
  obtain ⟨n2, rfl, w2⟩ := slc24_inv (hx 2 _ _ rfl rfl)
  obtain ⟨n3, rfl, w3⟩ := GGrid_inv (hx 3 _ _ rfl rfl)
  obtain ⟨n4, rfl, w4⟩ := GPos_inv (hx 4 _ _ rfl rfl)
  obtain ⟨n5, rfl, w5⟩ := GPos_inv (hx 5 _ _ rfl rfl)
  exact ⟨⟨n0, n1, n2, n3, n4, n5⟩, rfl, by unfold wfGContent; exact ⟨w0, w1, w2, w3, w4, w5⟩⟩

theorem GActive_inv {ps : List PV} (h : Shp Try.prog 42 ps) : ∃ x : GActive, ps = encGActive x ∧ wfGActive x := by
 obtain ⟨xs, rfl, hl, hx⟩ := h.structInv Try.underlying42
 match xs, hl, hx with
 | [a0, a1, a2, a3, a4, a5], _, hx =>
  obtain ⟨n0, rfl, w0⟩ := (hx 0 _ _ rfl rfl).i64Inv Try.underlying3
  obtain ⟨n1, rfl, w1⟩ := (hx 1 _ _ rfl rfl).i64Inv Try.underlying3
  obtain ⟨n2, rfl, w2⟩ := (hx 2 _ _ rfl rfl).i64Inv Try.underlying3
  obtain ⟨n3, rfl, w3⟩ := (hx 3 _ _ rfl rfl).i64Inv Try.underlying3
  obtain ⟨n4, rfl, w4⟩ := (hx 4 _ _ rfl rfl).i64Inv Try.underlying3
  obtain ⟨n5, rfl, w5⟩ := (hx 5 _ _ rfl rfl).i64Inv Try.underlying3
  exact ⟨⟨n0, n1, n2, n3, n4, n5⟩, rfl, by unfold wfGActive; exact ⟨w0, w1, w2, w3, w4, w5⟩⟩

theorem slc32_inv {ps : List PV} (h : Shp Try.prog 32 ps) : ∃ l : List GActive, ps = [.slc l.length false (l.flatMap encGActive)] ∧ (∀ y ∈ l, wfGActive y) ∧ l.length ≤ 140737488355328 := by
 obtain ⟨xs, h1, h2, h3, h8⟩ := h.slcInv Try.underlying32
 have h9 : 1 ≤ Try.prog.bytesOf 42 := of_decide_eq_true (by kernel_rfl)
 have h7 : xs.length * 1 ≤ reachBytes := Nat.le_trans (Nat.mul_le_mul_left _ h9) h8
 unfold reachBytes at h7
 obtain ⟨l, h4, h5, h6⟩ := list_of (enc := encGActive) (G := fun y => wfGActive y) (fun x hx => GActive_inv (h2 x hx))
 exact ⟨l, by rw [h1, h4, h5] <;> rfl, h6, by omega⟩

theorem A4int_inv {ps : List PV} (h : Shp Try.prog 51 ps) : ∃ x : A4int, ps = encA4int x ∧ wfA4int x := by
 obtain ⟨xs, rfl, hl, hx⟩ := h.arrInv Try.underlying51
 match xs, hl, hx with
 | [a0, a1, a2, a3], _, hx =>
  obtain ⟨n0, rfl, w0⟩ := (hx a0 (by simp)).i64Inv Try.underlying3
  obtain ⟨n1, rfl, w1⟩ := (hx a1 (by simp)).i64Inv Try.underlying3
  obtain ⟨n2, rfl, w2⟩ := (hx a2 (by simp)).i64Inv Try.underlying3
  obtain ⟨n3, rfl, w3⟩ := (hx a3 (by simp)).i64Inv Try.underlying3
  exact ⟨⟨n0, n1, n2, n3⟩, rfl, by unfold wfA4int; exact ⟨w0, w1, w2, w3⟩⟩

theorem slc50_inv {ps : List PV} (h : Shp Try.prog 50 ps) : ∃ l : List A4int, ps = [.slc l.length false (l.flatMap encA4int)] ∧ (∀ y ∈ l, wfA4int y) ∧ l.length ≤ 140737488355328 := by
 obtain ⟨xs, h1, h2, h3, h8⟩ := h.slcInv Try.underlying50
 have h9 : 1 ≤ Try.prog.bytesOf 51 := of_decide_eq_true (by kernel_rfl)
 have h7 : xs.length * 1 ≤ reachBytes := Nat.le_trans (Nat.mul_le_mul_left _ h9) h8
 unfold reachBytes at h7
 obtain ⟨l, h4, h5, h6⟩ := list_of (enc := encA4int) (G := fun y => wfA4int y) (fun x hx => A4int_inv (h2 x hx))
 exact ⟨l, by rw [h1, h4, h5] <;> rfl, h6, by omega⟩

namespace auraStays
open Go.ChangeShapes Go.WideShapes Go.ChangeAt
theorem own : ownKnob Try.prog.godebug = none := by kernel_rfl
theorem laidOut : laidOutB Try.prog = true := by kernel_rfl
set_option maxRecDepth 100000 in
theorem lifted (os : Os) (started : os.Started) (H : Type) (enc : TypeId × Value → H) :
    ReturnsInHanded {} Try.checked os 5 .any (Rows.auraStaysSpec.pre6 enc Try.prog Try.f5 Rows.auraStaysRow.domain false) (Rows.auraStaysSpec.post enc Try.prog Try.f5 false true false false) := by
  refine returnsInHanded_of_change_sized (C := Try.checked) own started (by kernel_rfl) Try.func5
    (ChangeSpec.witness6 (enc := enc) (C := Try.checked) false ⟨#[], #[.agg #[.slice none 0 0, .slice none 0 0, .slice none 0 0, .int .i64 0, .int .i64 0, .slice none 0 0, .int .i64 0, .int .i64 0, .int .i64 0, .int .i64 0], .slice none 0 0, .slice none 0 0], []⟩ 8 (by kernel_rfl) (by kernel_rfl) (by kernel_rfl) (by kernel_rfl)) ?_
  intro W base args ds gs before hval0 hW hcnd hsz0 _
  have hval : ∀ (j : Nat) t v, Try.f5.params[j]? = some t → args[j]? = some v → Value.okWide Try.prog W .any base t v := hval0
  have hW' := hW
  obtain ⟨p, q, hA0, hV, rfl, hfz, hnd⟩ := hW
  have hA : DataW.TrodAll enc Try.prog W 0 (fun _ => true) true Try.f5.params.toList args.toList ds p := hA0
  rw [Try.params5] at hA hval
  obtain ⟨v0, vs0, d0, ds0, p0, q0, hargs, rfl, rfl, h0, r0⟩ := trodAll_cons hA
  obtain ⟨v1, vs1, d1, ds1, p1, q1, rfl, rfl, rfl, h1, r1⟩ := trodAll_cons r0
  obtain ⟨v2, vs2, d2, ds2, p2, q2, rfl, rfl, rfl, h2, r2⟩ := trodAll_cons r1
  obtain ⟨rfl, rfl, rfl⟩ := trodAll_nil r2
  obtain rfl : args = #[v0, v1, v2] := by cases args; simp_all
  obtain ⟨rfl, rfl⟩ := trodVars_none hV
  have hwt := fun n hn => of_decide_eq_true (List.all_eq_true.1 hsz0 n hn)
  have hv0 := hval 0 31 v0 rfl rfl
  have k0 := h0
  have lt0 : ∀ x ∈ p0, x.block < W.heap.size := by obtain ⟨m, hm⟩ := k0; exact DataW.trod_lt m _ _ _ hm
  obtain ⟨fu0, hf0⟩ := h0
  obtain ⟨ps0, hs0, hr0, _⟩ := trod_shp (c := world0 W) (fun _ h => h) fu0 60 31 _ _ (by kernel_rfl) hf0 (fun n hn => hwt n (weightsEach_mem (i := 0) rfl rfl hn))
  obtain ⟨c, rfl, w_c⟩ := GContent_inv hs0
  have hR0 : Rep _ _ (aGContent c) v0 := rep_agg hv0 (by kernel_rfl) hr0
  have hv1 := hval 1 32 v1 rfl rfl
  have k1 := h1
  have lt1 : ∀ x ∈ p1, x.block < W.heap.size := by obtain ⟨m, hm⟩ := k1; exact DataW.trod_lt m _ _ _ hm
  obtain ⟨fu1, hf1⟩ := h1
  obtain ⟨ps1, hs1, hr1, _⟩ := trod_shp (c := world0 W) (fun _ h => h) fu1 60 32 _ _ (by kernel_rfl) hf1 (fun n hn => hwt n (weightsEach_mem (i := 1) rfl rfl hn))
  obtain ⟨l, rfl, w_l⟩ := slc32_inv hs1
  have hR1 := rep_cell hr1 (notAgg hv1 (by kernel_rfl))
  have hv2 := hval 2 50 v2 rfl rfl
  have k2 := h2
  have lt2 : ∀ x ∈ p2, x.block < W.heap.size := by obtain ⟨m, hm⟩ := k2; exact DataW.trod_lt m _ _ _ hm
  obtain ⟨fu2, hf2⟩ := h2
  obtain ⟨ps2, hs2, hr2, _⟩ := trod_shp (c := world0 W) (fun _ h => h) fu2 60 50 _ _ (by kernel_rfl) hf2 (fun n hn => hwt n (weightsEach_mem (i := 2) rfl rfl hn))
  obtain ⟨t, rfl, w_t⟩ := slc50_inv hs2
  have hR2 := rep_cell hr2 (notAgg hv2 (by kernel_rfl))
  clear hA0 hval0 hsz0
  refine (law_calls (stays15_yes c l false t false (fun x hx => have h := w_l.1 x hx; h.2.2.2.2.2)) (vals := [v0, v1, v2]) ⟨hR0, hR1, hR2, trivial⟩).mono fun e W' ⟨he, bel⟩ => ?_
  subst he
  exact ⟨_, rfl, _, _, _, [], _, [], hW', trodAll_mk1 (shut_bool Try.underlying4 _), (trodAll_cons_mk (Below.trod laidOut (by kernel_rfl) (of_decide_eq_true (by kernel_rfl)) k0 bel lt0) (trodAll_cons_mk (Below.trod laidOut (by kernel_rfl) (of_decide_eq_true (by kernel_rfl)) k1 bel lt1) (trodAll_cons_mk (Below.trod laidOut (by kernel_rfl) (of_decide_eq_true (by kernel_rfl)) k2 bel lt2) trodAll_mk0))), rfl, bel.frame _, fun h => by cases h⟩
theorem over : Rows.auraStaysRow.holds Try.pinned (OpenSpec.ofChange Rows.auraStaysSpec) :=
  OpenClaim.holds_of_wide 5 Try.f5 rfl rfl rfl rfl rfl rfl rfl ⟨rfl, rfl, rfl, rfl, rfl⟩ rfl rfl rfl rfl rfl (by kernel_rfl) Try.func5 (by kernel_rfl)
    (of_decide_eq_true (by kernel_rfl)) (by unfold Func.isWrapper; first | (rw [if_pos (by decide +kernel)]; kernel_rfl) | (rw [if_neg (by decide +kernel)]; exact ⟨rfl, rfl⟩))
    (fun os started H enc _ => lifted os started H enc)
end auraStays
theorem auraStays_holds : Rows.AuraStaysSaid := auraStays.over
end Go.Proofs.Ytcbdecknbfabaaa

import Derived.Test.YtmijbjpdjggppaaRows
import Derived.Test.YtmijbjpdjggppaaVmZ
import Derived.Test.YtmijbjpdjggppaaPlain18d
import Derived.WalkKit
namespace Go.Proofs.Ytmijbjpdjggppaa
open Go Go.RowKit Go.Proofs.YtmijbjpdjggppaaVm
set_option linter.all false
set_option maxHeartbeats 400000
theorem GEffect_inv {ps : List PV} (h : Shp Try.prog 43 ps) : ∃ x : GEffect, ps = encGEffect x ∧ wfGEffect x := by
 obtain ⟨xs, rfl, hl, hx⟩ := h.structInv Try.underlying43
 match xs, hl, hx with
 | [a0, a1, a2], _, hx =>
  obtain ⟨n0, rfl, w0⟩ := (hx 0 _ _ rfl rfl).i64Inv Try.underlying3
  obtain ⟨n1, rfl, w1⟩ := (hx 1 _ _ rfl rfl).i64Inv Try.underlying3
  obtain ⟨n2, rfl, w2⟩ := (hx 2 _ _ rfl rfl).i64Inv Try.underlying3
  exact ⟨⟨n0, n1, n2⟩, rfl, by unfold wfGEffect; exact ⟨w0, w1, w2⟩⟩

theorem slc63_inv {ps : List PV} (h : Shp Try.prog 63 ps) : ∃ l : List GEffect, ps = [.slc l.length false (l.flatMap encGEffect)] ∧ (∀ y ∈ l, wfGEffect y) ∧ l.length ≤ 140737488355328 := by
 obtain ⟨xs, h1, h2, h3, h8⟩ := h.slcInv Try.underlying63
 have h9 : 1 ≤ Try.prog.bytesOf 43 := of_decide_eq_true (by kernel_rfl)
 have h7 : xs.length * 1 ≤ reachBytes := Nat.le_trans (Nat.mul_le_mul_left _ h9) h8
 unfold reachBytes at h7
 obtain ⟨l, h4, h5, h6⟩ := list_of (enc := encGEffect) (G := fun y => wfGEffect y) (fun x hx => GEffect_inv (h2 x hx))
 exact ⟨l, by rw [h1, h4, h5] <;> rfl, h6, by omega⟩

theorem GAbility_inv {ps : List PV} (h : Shp Try.prog 65 ps) : ∃ x : GAbility, ps = encGAbility x ∧ wfGAbility x := by
 obtain ⟨xs, rfl, hl, hx⟩ := h.structInv Try.underlying65
 match xs, hl, hx with
 | [a0, a1, a2, a3, a4, a5, a6, a7], _, hx =>
  obtain ⟨n0, rfl, w0⟩ := (hx 0 _ _ rfl rfl).i64Inv Try.underlying3
  obtain ⟨n1, rfl, w1⟩ := (hx 1 _ _ rfl rfl).i64Inv Try.underlying3
  obtain ⟨n2, rfl, w2⟩ := (hx 2 _ _ rfl rfl).i64Inv Try.underlying3
  obtain ⟨n3, rfl, w3⟩ := (hx 3 _ _ rfl rfl).i64Inv Try.underlying3
  obtain ⟨n4, rfl, w4⟩ := (hx 4 _ _ rfl rfl).i64Inv Try.underlying3
  obtain ⟨n5, rfl, w5⟩ := (hx 5 _ _ rfl rfl).i64Inv Try.underlying3
  obtain ⟨n6, rfl⟩ := (hx 6 _ _ rfl rfl).boolInv Try.underlying4
  obtain ⟨n7, rfl, w7⟩ := slc63_inv (hx 7 _ _ rfl rfl)
  exact ⟨⟨n0, n1, n2, n3, n4, n5, n6, n7⟩, rfl, by unfold wfGAbility; exact ⟨w0, w1, w2, w3, w4, w5, w7⟩⟩

theorem slc22_inv {ps : List PV} (h : Shp Try.prog 22 ps) : ∃ l : List GAbility, ps = [.slc l.length false (l.flatMap encGAbility)] ∧ (∀ y ∈ l, wfGAbility y) ∧ l.length ≤ 140737488355328 := by
 obtain ⟨xs, h1, h2, h3, h8⟩ := h.slcInv Try.underlying22
 have h9 : 1 ≤ Try.prog.bytesOf 65 := of_decide_eq_true (by kernel_rfl)
 have h7 : xs.length * 1 ≤ reachBytes := Nat.le_trans (Nat.mul_le_mul_left _ h9) h8
 unfold reachBytes at h7
 obtain ⟨l, h4, h5, h6⟩ := list_of (enc := encGAbility) (G := fun y => wfGAbility y) (fun x hx => GAbility_inv (h2 x hx))
 exact ⟨l, by rw [h1, h4, h5] <;> rfl, h6, by omega⟩

theorem GAura_inv {ps : List PV} (h : Shp Try.prog 58 ps) : ∃ x : GAura, ps = encGAura x ∧ wfGAura x := by
 obtain ⟨xs, rfl, hl, hx⟩ := h.structInv Try.underlying58
 match xs, hl, hx with
 | [a0, a1, a2, a3, a4, a5, a6], _, hx =>
  obtain ⟨n0, rfl, w0⟩ := (hx 0 _ _ rfl rfl).i64Inv Try.underlying3
  obtain ⟨n1, rfl, w1⟩ := (hx 1 _ _ rfl rfl).i64Inv Try.underlying3
  obtain ⟨n2, rfl, w2⟩ := (hx 2 _ _ rfl rfl).i64Inv Try.underlying3
  obtain ⟨n3, rfl, w3⟩ := (hx 3 _ _ rfl rfl).i64Inv Try.underlying3
  obtain ⟨n4, rfl, w4⟩ := (hx 4 _ _ rfl rfl).i64Inv Try.underlying3
  obtain ⟨n5, rfl, w5⟩ := (hx 5 _ _ rfl rfl).i64Inv Try.underlying3
  obtain ⟨n6, rfl⟩ := (hx 6 _ _ rfl rfl).boolInv Try.underlying4
  exact ⟨⟨n0, n1, n2, n3, n4, n5, n6⟩, rfl, by unfold wfGAura; exact ⟨w0, w1, w2, w3, w4, w5⟩⟩

theorem slc23_inv {ps : List PV} (h : Shp Try.prog 23 ps) : ∃ l : List GAura, ps = [.slc l.length false (l.flatMap encGAura)] ∧ (∀ y ∈ l, wfGAura y) ∧ l.length ≤ 140737488355328 := by
 obtain ⟨xs, h1, h2, h3, h8⟩ := h.slcInv Try.underlying23
 have h9 : 1 ≤ Try.prog.bytesOf 58 := of_decide_eq_true (by kernel_rfl)
 have h7 : xs.length * 1 ≤ reachBytes := Nat.le_trans (Nat.mul_le_mul_left _ h9) h8
 unfold reachBytes at h7
 obtain ⟨l, h4, h5, h6⟩ := list_of (enc := encGAura) (G := fun y => wfGAura y) (fun x hx => GAura_inv (h2 x hx))
 exact ⟨l, by rw [h1, h4, h5] <;> rfl, h6, by omega⟩

theorem GLine_inv {ps : List PV} (h : Shp Try.prog 154 ps) : ∃ x : GLine, ps = encGLine x ∧ wfGLine x := by
 obtain ⟨xs, rfl, hl, hx⟩ := h.structInv Try.underlying154
 match xs, hl, hx with
 | [a0, a1, a2, a3, a4], _, hx =>
  obtain ⟨n0, rfl, w0⟩ := (hx 0 _ _ rfl rfl).i64Inv Try.underlying3
  obtain ⟨n1, rfl, w1⟩ := (hx 1 _ _ rfl rfl).i64Inv Try.underlying3
  obtain ⟨n2, rfl, w2⟩ := (hx 2 _ _ rfl rfl).i64Inv Try.underlying3
  obtain ⟨n3, rfl, w3⟩ := (hx 3 _ _ rfl rfl).i64Inv Try.underlying3
  obtain ⟨n4, rfl, w4⟩ := (hx 4 _ _ rfl rfl).i64Inv Try.underlying3
  exact ⟨⟨n0, n1, n2, n3, n4⟩, rfl, by unfold wfGLine; exact ⟨w0, w1, w2, w3, w4⟩⟩

theorem slc66_inv {ps : List PV} (h : Shp Try.prog 66 ps) : ∃ l : List GLine, ps = [.slc l.length false (l.flatMap encGLine)] ∧ (∀ y ∈ l, wfGLine y) ∧ l.length ≤ 140737488355328 := by
 obtain ⟨xs, h1, h2, h3, h8⟩ := h.slcInv Try.underlying66
 have h9 : 1 ≤ Try.prog.bytesOf 154 := of_decide_eq_true (by kernel_rfl)
 have h7 : xs.length * 1 ≤ reachBytes := Nat.le_trans (Nat.mul_le_mul_left _ h9) h8
 unfold reachBytes at h7
 obtain ⟨l, h4, h5, h6⟩ := list_of (enc := encGLine) (G := fun y => wfGLine y) (fun x hx => GLine_inv (h2 x hx))
 exact ⟨l, by rw [h1, h4, h5] <;> rfl, h6, by omega⟩

theorem GPrize_inv {ps : List PV} (h : Shp Try.prog 156 ps) : ∃ x : GPrize, ps = encGPrize x ∧ wfGPrize x := by
 obtain ⟨xs, rfl, hl, hx⟩ := h.structInv Try.underlying156
 match xs, hl, hx with
 | [a0, a1], _, hx =>
  obtain ⟨n0, rfl, w0⟩ := (hx 0 _ _ rfl rfl).i64Inv Try.underlying3
  obtain ⟨n1, rfl, w1⟩ := (hx 1 _ _ rfl rfl).i64Inv Try.underlying3
  exact ⟨⟨n0, n1⟩, rfl, by unfold wfGPrize; exact ⟨w0, w1⟩⟩

theorem slc67_inv {ps : List PV} (h : Shp Try.prog 67 ps) : ∃ l : List GPrize, ps = [.slc l.length false (l.flatMap encGPrize)] ∧ (∀ y ∈ l, wfGPrize y) ∧ l.length ≤ 140737488355328 := by
 obtain ⟨xs, h1, h2, h3, h8⟩ := h.slcInv Try.underlying67
 have h9 : 1 ≤ Try.prog.bytesOf 156 := of_decide_eq_true (by kernel_rfl)
 have h7 : xs.length * 1 ≤ reachBytes := Nat.le_trans (Nat.mul_le_mul_left _ h9) h8
 unfold reachBytes at h7
 obtain ⟨l, h4, h5, h6⟩ := list_of (enc := encGPrize) (G := fun y => wfGPrize y) (fun x hx => GPrize_inv (h2 x hx))
 exact ⟨l, by rw [h1, h4, h5] <;> rfl, h6, by omega⟩

theorem GFoe_inv {ps : List PV} (h : Shp Try.prog 69 ps) : ∃ x : GFoe, ps = encGFoe x ∧ wfGFoe x := by
 obtain ⟨xs, rfl, hl, hx⟩ := h.structInv Try.underlying69
 match xs, hl, hx with
 | [a0, a1, a2, a3, a4, a5, a6, a7], _, hx =>
  obtain ⟨n0, rfl, w0⟩ := (hx 0 _ _ rfl rfl).i64Inv Try.underlying3
  obtain ⟨n1, rfl, w1⟩ := (hx 1 _ _ rfl rfl).i64Inv Try.underlying3
  obtain ⟨n2, rfl, w2⟩ := (hx 2 _ _ rfl rfl).i64Inv Try.underlying3
  obtain ⟨n3, rfl, w3⟩ := (hx 3 _ _ rfl rfl).i64Inv Try.underlying3
  obtain ⟨n4, rfl, w4⟩ := (hx 4 _ _ rfl rfl).i64Inv Try.underlying3
  obtain ⟨n5, rfl, w5⟩ := slc66_inv (hx 5 _ _ rfl rfl)
  obtain ⟨n6, rfl, w6⟩ := slc67_inv (hx 6 _ _ rfl rfl)
  obtain ⟨n7, rfl, w7⟩ := (hx 7 _ _ rfl rfl).i64Inv Try.underlying3
  exact ⟨⟨n0, n1, n2, n3, n4, n5, n6, n7⟩, rfl, by unfold wfGFoe; exact ⟨w0, w1, w2, w3, w4, w5, w6, w7⟩⟩

theorem slc24_inv {ps : List PV} (h : Shp Try.prog 24 ps) : ∃ l : List GFoe, ps = [.slc l.length false (l.flatMap encGFoe)] ∧ (∀ y ∈ l, wfGFoe y) ∧ l.length ≤ 140737488355328 := by
 obtain ⟨xs, h1, h2, h3, h8⟩ := h.slcInv Try.underlying24
 have h9 : 1 ≤ Try.prog.bytesOf 69 := of_decide_eq_true (by kernel_rfl)
 have h7 : xs.length * 1 ≤ reachBytes := Nat.le_trans (Nat.mul_le_mul_left _ h9) h8
 unfold reachBytes at h7
 obtain ⟨l, h4, h5, h6⟩ := list_of (enc := encGFoe) (G := fun y => wfGFoe y) (fun x hx => GFoe_inv (h2 x hx))
 exact ⟨l, by rw [h1, h4, h5] <;> rfl, h6, by omega⟩

theorem slc25_inv {ps : List PV} (h : Shp Try.prog 25 ps) : ∃ l : List Bool, ps = [.slc l.length false (encB l)] ∧ l.length ≤ 140737488355328 := by
 obtain ⟨xs, h1, h2, h3, h8⟩ := h.slcInv Try.underlying25
 have h9 : 1 ≤ Try.prog.bytesOf 4 := of_decide_eq_true (by kernel_rfl)
 have h7 : xs.length * 1 ≤ reachBytes := Nat.le_trans (Nat.mul_le_mul_left _ h9) h8
 unfold reachBytes at h7
 obtain ⟨l, h4, h5, h6⟩ := list_map (g := PV.bool) (G := fun _ => True) (fun x hx => (let ⟨b, h⟩ := (h2 x hx).boolInv Try.underlying4; ⟨b, h, trivial⟩))
 exact ⟨l, by rw [h1, h4, h5] <;> rfl, by omega⟩

theorem GGrid_inv {ps : List PV} (h : Shp Try.prog 27 ps) : ∃ x : GGrid, ps = encGGrid x ∧ wfGGrid x := by
 obtain ⟨xs, rfl, hl, hx⟩ := h.structInv Try.underlying27
 match xs, hl, hx with
 | [a0, a1, a2], _, hx =>
  obtain ⟨n0, rfl, w0⟩ := (hx 0 _ _ rfl rfl).i64Inv Try.underlying3
  obtain ⟨n1, rfl, w1⟩ := (hx 1 _ _ rfl rfl).i64Inv Try.underlying3
  obtain ⟨n2, rfl, w2⟩ := slc25_inv (hx 2 _ _ rfl rfl)
  exact ⟨⟨n0, n1, n2⟩, rfl, by unfold wfGGrid; exact ⟨w0, w1, w2⟩⟩

theorem GPos_inv {ps : List PV} (h : Shp Try.prog 29 ps) : ∃ x : GPos, ps = encGPos x ∧ wfGPos x := by
 obtain ⟨xs, rfl, hl, hx⟩ := h.structInv Try.underlying29
 match xs, hl, hx with
 | [a0, a1], _, hx =>
  obtain ⟨n0, rfl, w0⟩ := (hx 0 _ _ rfl rfl).i64Inv Try.underlying3
  obtain ⟨n1, rfl, w1⟩ := (hx 1 _ _ rfl rfl).i64Inv Try.underlying3
  exact ⟨⟨n0, n1⟩, rfl, by unfold wfGPos; exact ⟨w0, w1⟩⟩

theorem GContent_inv {ps : List PV} (h : Shp Try.prog 31 ps) : ∃ x : GContent, ps = encGContent x ∧ wfGContent x := by
 obtain ⟨xs, rfl, hl, hx⟩ := h.structInv Try.underlying31
 match xs, hl, hx with
 | [a0, a1, a2, a3, a4, a5], _, hx =>
  obtain ⟨n0, rfl, w0⟩ := slc22_inv (hx 0 _ _ rfl rfl)
  obtain ⟨n1, rfl, w1⟩ := slc23_inv (hx 1 _ _ rfl rfl)
  obtain ⟨n2, rfl, w2⟩ := slc24_inv (hx 2 _ _ rfl rfl)
  obtain ⟨n3, rfl, w3⟩ := GGrid_inv (hx 3 _ _ rfl rfl)
  obtain ⟨n4, rfl, w4⟩ := GPos_inv (hx 4 _ _ rfl rfl)
  obtain ⟨n5, rfl, w5⟩ := GPos_inv (hx 5 _ _ rfl rfl)
  exact ⟨⟨n0, n1, n2, n3, n4, n5⟩, rfl, by unfold wfGContent; exact ⟨w0, w1, w2, w3, w4, w5⟩⟩

theorem GUnit_inv {ps : List PV} (h : Shp Try.prog 33 ps) : ∃ x : GUnit, ps = encGUnit x ∧ wfGUnit x := by
 obtain ⟨xs, rfl, hl, hx⟩ := h.structInv Try.underlying33
 match xs, hl, hx with
 | [a0, a1, a2, a3, a4, a5, a6, a7, a8], _, hx =>
  obtain ⟨n0, rfl, w0⟩ := (hx 0 _ _ rfl rfl).i64Inv Try.underlying3
  obtain ⟨n1, rfl, w1⟩ := (hx 1 _ _ rfl rfl).i64Inv Try.underlying3
  obtain ⟨n2, rfl, w2⟩ := (hx 2 _ _ rfl rfl).i64Inv Try.underlying3
  obtain ⟨n3, rfl, w3⟩ := (hx 3 _ _ rfl rfl).i64Inv Try.underlying3
  obtain ⟨n4, rfl, w4⟩ := (hx 4 _ _ rfl rfl).i64Inv Try.underlying3
  obtain ⟨n5, rfl, w5⟩ := (hx 5 _ _ rfl rfl).i64Inv Try.underlying3
  obtain ⟨n6, rfl, w6⟩ := (hx 6 _ _ rfl rfl).i64Inv Try.underlying3
  obtain ⟨n7, rfl, w7⟩ := GPos_inv (hx 7 _ _ rfl rfl)
  obtain ⟨n8, rfl, w8⟩ := (hx 8 _ _ rfl rfl).i64Inv Try.underlying3
  exact ⟨⟨n0, n1, n2, n3, n4, n5, n6, n7, n8⟩, rfl, by unfold wfGUnit; exact ⟨w0, w1, w2, w3, w4, w5, w6, w7, w8⟩⟩

theorem GActive_inv {ps : List PV} (h : Shp Try.prog 61 ps) : ∃ x : GActive, ps = encGActive x ∧ wfGActive x := by
 obtain ⟨xs, rfl, hl, hx⟩ := h.structInv Try.underlying61
 match xs, hl, hx with
 | [a0, a1, a2, a3, a4, a5], _, hx =>
  obtain ⟨n0, rfl, w0⟩ := (hx 0 _ _ rfl rfl).i64Inv Try.underlying3
  obtain ⟨n1, rfl, w1⟩ := (hx 1 _ _ rfl rfl).i64Inv Try.underlying3
  obtain ⟨n2, rfl, w2⟩ := (hx 2 _ _ rfl rfl).i64Inv Try.underlying3
  obtain ⟨n3, rfl, w3⟩ := (hx 3 _ _ rfl rfl).i64Inv Try.underlying3
  obtain ⟨n4, rfl, w4⟩ := (hx 4 _ _ rfl rfl).i64Inv Try.underlying3
  obtain ⟨n5, rfl, w5⟩ := (hx 5 _ _ rfl rfl).i64Inv Try.underlying3
  exact ⟨⟨n0, n1, n2, n3, n4, n5⟩, rfl, by unfold wfGActive; exact ⟨w0, w1, w2, w3, w4, w5⟩⟩

theorem slc34_inv {ps : List PV} (h : Shp Try.prog 34 ps) : ∃ l : List GActive, ps = [.slc l.length false (l.flatMap encGActive)] ∧ (∀ y ∈ l, wfGActive y) ∧ l.length ≤ 140737488355328 := by
 obtain ⟨xs, h1, h2, h3, h8⟩ := h.slcInv Try.underlying34
 have h9 : 1 ≤ Try.prog.bytesOf 61 := of_decide_eq_true (by kernel_rfl)
 have h7 : xs.length * 1 ≤ reachBytes := Nat.le_trans (Nat.mul_le_mul_left _ h9) h8
 unfold reachBytes at h7
 obtain ⟨l, h4, h5, h6⟩ := list_of (enc := encGActive) (G := fun y => wfGActive y) (fun x hx => GActive_inv (h2 x hx))
 exact ⟨l, by rw [h1, h4, h5] <;> rfl, h6, by omega⟩

theorem slc70_inv {ps : List PV} (h : Shp Try.prog 70 ps) : ∃ l : List Int, ps = [.slc l.length false (encI l)] ∧ (∀ y ∈ l, InR y) ∧ l.length ≤ 140737488355328 := by
 obtain ⟨xs, h1, h2, h3, h8⟩ := h.slcInv Try.underlying70
 have h9 : 1 ≤ Try.prog.bytesOf 3 := of_decide_eq_true (by kernel_rfl)
 have h7 : xs.length * 1 ≤ reachBytes := Nat.le_trans (Nat.mul_le_mul_left _ h9) h8
 unfold reachBytes at h7
 obtain ⟨l, h4, h5, h6⟩ := list_map (g := fun n => PV.int .i64 n) (G := fun y => InR y) (fun x hx => (h2 x hx).i64Inv Try.underlying3)
 exact ⟨l, by rw [h1, h4, h5] <;> rfl, h6, by omega⟩

theorem GCool_inv {ps : List PV} (h : Shp Try.prog 72 ps) : ∃ x : GCool, ps = encGCool x ∧ wfGCool x := by
 obtain ⟨xs, rfl, hl, hx⟩ := h.structInv Try.underlying72
 match xs, hl, hx with
 | [a0, a1], _, hx =>
  obtain ⟨n0, rfl, w0⟩ := (hx 0 _ _ rfl rfl).i64Inv Try.underlying3
  obtain ⟨n1, rfl, w1⟩ := slc70_inv (hx 1 _ _ rfl rfl)
  exact ⟨⟨n0, n1⟩, rfl, by unfold wfGCool; exact ⟨w0, w1⟩⟩

theorem slc35_inv {ps : List PV} (h : Shp Try.prog 35 ps) : ∃ l : List GCool, ps = [.slc l.length false (l.flatMap encGCool)] ∧ (∀ y ∈ l, wfGCool y) ∧ l.length ≤ 140737488355328 := by
 obtain ⟨xs, h1, h2, h3, h8⟩ := h.slcInv Try.underlying35
 have h9 : 1 ≤ Try.prog.bytesOf 72 := of_decide_eq_true (by kernel_rfl)
 have h7 : xs.length * 1 ≤ reachBytes := Nat.le_trans (Nat.mul_le_mul_left _ h9) h8
 unfold reachBytes at h7
 obtain ⟨l, h4, h5, h6⟩ := list_of (enc := encGCool) (G := fun y => wfGCool y) (fun x hx => GCool_inv (h2 x hx))
 exact ⟨l, by rw [h1, h4, h5] <;> rfl, h6, by omega⟩

theorem GCast_inv {ps : List PV} (h : Shp Try.prog 37 ps) : ∃ x : GCast, ps = encGCast x ∧ wfGCast x := by
 obtain ⟨xs, rfl, hl, hx⟩ := h.structInv Try.underlying37
 match xs, hl, hx with
 | [a0, a1, a2, a3], _, hx =>
  obtain ⟨n0, rfl, w0⟩ := (hx 0 _ _ rfl rfl).i64Inv Try.underlying3
  obtain ⟨n1, rfl, w1⟩ := (hx 1 _ _ rfl rfl).i64Inv Try.underlying3
  obtain ⟨n2, rfl, w2⟩ := (hx 2 _ _ rfl rfl).i64Inv Try.underlying3
  obtain ⟨n3, rfl, w3⟩ := (hx 3 _ _ rfl rfl).i64Inv Try.underlying3
  exact ⟨⟨n0, n1, n2, n3⟩, rfl, by unfold wfGCast; exact ⟨w0, w1, w2, w3⟩⟩

theorem GCasting_inv {ps : List PV} (h : Shp Try.prog 39 ps) : ∃ x : GCasting, ps = encGCasting x ∧ wfGCasting x := by
 obtain ⟨xs, rfl, hl, hx⟩ := h.structInv Try.underlying39
 match xs, hl, hx with
 | [a0, a1, a2], _, hx =>
  obtain ⟨n0, rfl, w0⟩ := GCast_inv (hx 0 _ _ rfl rfl)
  obtain ⟨n1, rfl, w1⟩ := GCast_inv (hx 1 _ _ rfl rfl)
  obtain ⟨n2, rfl, w2⟩ := (hx 2 _ _ rfl rfl).i64Inv Try.underlying3
  exact ⟨⟨n0, n1, n2⟩, rfl, by unfold wfGCasting; exact ⟨w0, w1, w2⟩⟩

theorem GActor_inv {ps : List PV} (h : Shp Try.prog 41 ps) : ∃ x : GActor, ps = encGActor x ∧ wfGActor x := by
 obtain ⟨xs, rfl, hl, hx⟩ := h.structInv Try.underlying41
 match xs, hl, hx with
 | [a0, a1, a2, a3, a4], _, hx =>
  obtain ⟨n0, rfl, w0⟩ := GUnit_inv (hx 0 _ _ rfl rfl)
  obtain ⟨n1, rfl, w1⟩ := (hx 1 _ _ rfl rfl).strInv Try.underlying9
  obtain ⟨n2, rfl, w2⟩ := slc34_inv (hx 2 _ _ rfl rfl)
  obtain ⟨n3, rfl, w3⟩ := slc35_inv (hx 3 _ _ rfl rfl)
  obtain ⟨n4, rfl, w4⟩ := GCasting_inv (hx 4 _ _ rfl rfl)
  exact ⟨⟨n0, n1, n2, n3, n4⟩, rfl, by unfold wfGActor; exact ⟨w0, w1, w2, w3, w4⟩⟩

namespace effectDead
open Go.ChangeShapes Go.WideShapes Go.ChangeAt
theorem own : ownKnob Try.prog.godebug = none := by kernel_rfl
theorem laidOut : laidOutB Try.prog = true := by kernel_rfl
set_option maxRecDepth 100000 in
theorem lifted (os : Os) (started : os.Started) (H : Type) (enc : TypeId × Value → H) :
    ReturnsInHanded {} Try.checked os 3 .any (Rows.effectDeadSpec.pre6 enc Try.prog Try.f3 Rows.effectDeadRow.domain false) (Rows.effectDeadSpec.post enc Try.prog Try.f3 false true false false) := by
  refine returnsInHanded_of_change_sized (C := Try.checked) own started (by kernel_rfl) Try.func3
    (ChangeSpec.witness6 (enc := enc) (C := Try.checked) false ⟨#[], #[.agg #[.slice none 0 0, .slice none 0 0, .slice none 0 0, .int .i64 0, .int .i64 0, .slice none 0 0, .int .i64 0, .int .i64 0, .int .i64 0, .int .i64 0], .agg #[.int .i64 0, .int .i64 0, .int .i64 0, .int .i64 0, .int .i64 0, .int .i64 0, .int .i64 0, .int .i64 0, .int .i64 0, .int .i64 0, .string ⟨#[]⟩, .slice none 0 0, .slice none 0 0, .int .i64 0, .int .i64 0, .int .i64 0, .int .i64 0, .int .i64 0, .int .i64 0, .int .i64 0, .int .i64 0, .int .i64 0], .agg #[.int .i64 0, .int .i64 0, .int .i64 0, .int .i64 0, .int .i64 0, .int .i64 0, .int .i64 0, .int .i64 0, .int .i64 0, .int .i64 0, .string ⟨#[]⟩, .slice none 0 0, .slice none 0 0, .int .i64 0, .int .i64 0, .int .i64 0, .int .i64 0, .int .i64 0, .int .i64 0, .int .i64 0, .int .i64 0, .int .i64 0], .agg #[.int .i64 0, .int .i64 0, .int .i64 0], .int .i64 0], []⟩ 8 (by kernel_rfl) (by kernel_rfl) (by kernel_rfl) (by kernel_rfl)) ?_
  intro W base args ds gs before hval0 hW hcnd hsz0 _
  have hval : ∀ (j : Nat) t v, Try.f3.params[j]? = some t → args[j]? = some v → Value.okWide Try.prog W .any base t v := hval0
  have hW' := hW
  obtain ⟨p, q, hA0, hV, rfl, hfz, hnd⟩ := hW
  have hA : DataW.TrodAll enc Try.prog W 0 (fun _ => true) true Try.f3.params.toList args.toList ds p := hA0
  rw [Try.params3] at hA hval
  obtain ⟨v0, vs0, d0, ds0, p0, q0, hargs, rfl, rfl, h0, r0⟩ := trodAll_cons hA
  obtain ⟨v1, vs1, d1, ds1, p1, q1, rfl, rfl, rfl, h1, r1⟩ := trodAll_cons r0
  obtain ⟨v2, vs2, d2, ds2, p2, q2, rfl, rfl, rfl, h2, r2⟩ := trodAll_cons r1
  obtain ⟨v3, vs3, d3, ds3, p3, q3, rfl, rfl, rfl, h3, r3⟩ := trodAll_cons r2
  obtain ⟨v4, vs4, d4, ds4, p4, q4, rfl, rfl, rfl, h4, r4⟩ := trodAll_cons r3
  obtain ⟨rfl, rfl, rfl⟩ := trodAll_nil r4
  obtain rfl : args = #[v0, v1, v2, v3, v4] := by cases args; simp_all
  obtain ⟨rfl, rfl⟩ := trodVars_none hV
  have hwt := fun n hn => of_decide_eq_true (List.all_eq_true.1 hsz0 n hn)
  have hv0 := hval 0 31 v0 rfl rfl
  have k0 := h0
  have lt0 : ∀ x ∈ p0, x.block < W.heap.size := by obtain ⟨m, hm⟩ := k0; exact DataW.trod_lt m _ _ _ hm
  obtain ⟨fu0, hf0⟩ := h0
  obtain ⟨ps0, hs0, hr0, _⟩ := trod_shp (c := world0 W) (fun _ h => h) fu0 60 31 _ _ (by kernel_rfl) hf0 (fun n hn => hwt n (weightsEach_mem (i := 0) rfl rfl hn))
  obtain ⟨c, rfl, w_c⟩ := GContent_inv hs0
  have hR0 : Rep _ _ (aGContent c) v0 := rep_agg hv0 (by kernel_rfl) hr0
  have hv1 := hval 1 41 v1 rfl rfl
  have k1 := h1
  have lt1 : ∀ x ∈ p1, x.block < W.heap.size := by obtain ⟨m, hm⟩ := k1; exact DataW.trod_lt m _ _ _ hm
  obtain ⟨fu1, hf1⟩ := h1
  obtain ⟨ps1, hs1, hr1, _⟩ := trod_shp (c := world0 W) (fun _ h => h) fu1 60 41 _ _ (by kernel_rfl) hf1 (fun n hn => hwt n (weightsEach_mem (i := 1) rfl rfl hn))
  obtain ⟨f, rfl, w_f⟩ := GActor_inv hs1
  have hR1 : Rep _ _ (aGActor f) v1 := rep_agg hv1 (by kernel_rfl) hr1
  have hv2 := hval 2 41 v2 rfl rfl
  have k2 := h2
  have lt2 : ∀ x ∈ p2, x.block < W.heap.size := by obtain ⟨m, hm⟩ := k2; exact DataW.trod_lt m _ _ _ hm
  obtain ⟨fu2, hf2⟩ := h2
  obtain ⟨ps2, hs2, hr2, _⟩ := trod_shp (c := world0 W) (fun _ h => h) fu2 60 41 _ _ (by kernel_rfl) hf2 (fun n hn => hwt n (weightsEach_mem (i := 2) rfl rfl hn))
  obtain ⟨t, rfl, w_t⟩ := GActor_inv hs2
  have hR2 : Rep _ _ (aGActor t) v2 := rep_agg hv2 (by kernel_rfl) hr2
  have hv3 := hval 3 43 v3 rfl rfl
  have k3 := h3
  have lt3 : ∀ x ∈ p3, x.block < W.heap.size := by obtain ⟨m, hm⟩ := k3; exact DataW.trod_lt m _ _ _ hm
  obtain ⟨fu3, hf3⟩ := h3
  obtain ⟨ps3, hs3, hr3, _⟩ := trod_shp (c := world0 W) (fun _ h => h) fu3 60 43 _ _ (by kernel_rfl) hf3 (fun n hn => hwt n (weightsEach_mem (i := 3) rfl rfl hn))
  obtain ⟨e, rfl, w_e⟩ := GEffect_inv hs3
  have hR3 : Rep _ _ (aGEffect e) v3 := rep_agg hv3 (by kernel_rfl) hr3
  have hv4 := hval 4 3 v4 rfl rfl
  have k4 := h4
  have lt4 : ∀ x ∈ p4, x.block < W.heap.size := by obtain ⟨m, hm⟩ := k4; exact DataW.trod_lt m _ _ _ hm
  obtain ⟨fu4, hf4⟩ := h4
  obtain ⟨ps4, hs4, hr4, _⟩ := trod_shp (c := world0 W) (fun _ h => h) fu4 60 3 _ _ (by kernel_rfl) hf4 (fun n hn => hwt n (weightsEach_mem (i := 4) rfl rfl hn))
  obtain ⟨n, rfl, w_n⟩ := hs4.i64Inv Try.underlying3
  have hR4 := rep_cell hr4 (notAgg hv4 (by kernel_rfl))
  clear hA0 hval0 hsz0
  refine (law_calls (dead18_yes c f t e n) (vals := [v0, v1, v2, v3, v4]) ⟨hR0, hR1, hR2, hR3, hR4, trivial⟩).mono fun e W' ⟨he, bel⟩ => ?_
  subst he
  exact ⟨_, rfl, _, _, _, [], _, [], hW', trodAll_mk1 (shut_bool Try.underlying4 _), (trodAll_cons_mk (Below.trod laidOut (by kernel_rfl) (of_decide_eq_true (by kernel_rfl)) k0 bel lt0) (trodAll_cons_mk (Below.trod laidOut (by kernel_rfl) (of_decide_eq_true (by kernel_rfl)) k1 bel lt1) (trodAll_cons_mk (Below.trod laidOut (by kernel_rfl) (of_decide_eq_true (by kernel_rfl)) k2 bel lt2) (trodAll_cons_mk (Below.trod laidOut (by kernel_rfl) (of_decide_eq_true (by kernel_rfl)) k3 bel lt3) (trodAll_cons_mk (Below.trod laidOut (by kernel_rfl) (of_decide_eq_true (by kernel_rfl)) k4 bel lt4) trodAll_mk0))))), rfl, bel.frame _, fun h => by cases h⟩
theorem over : Rows.effectDeadRow.holds Try.pinned (OpenSpec.ofChange Rows.effectDeadSpec) :=
  OpenClaim.holds_of_wide 3 Try.f3 rfl rfl rfl rfl rfl rfl rfl ⟨rfl, rfl, rfl, rfl, rfl⟩ rfl rfl rfl rfl rfl (by kernel_rfl) Try.func3 (by kernel_rfl)
    (of_decide_eq_true (by kernel_rfl)) (by unfold Func.isWrapper; first | (rw [if_pos (by decide +kernel)]; kernel_rfl) | (rw [if_neg (by decide +kernel)]; exact ⟨rfl, rfl⟩))
    (fun os started H enc _ => lifted os started H enc)
end effectDead
theorem effectDead_holds : Rows.EffectDeadSaid := effectDead.over
end Go.Proofs.Ytmijbjpdjggppaa

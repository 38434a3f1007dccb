import Derived.Test.YtgopngmofcohnaaRows
import Derived.Test.YtgopngmofcohnaaVmS
import Derived.Test.YtgopngmofcohnaaWa
import Derived.WalkKit
namespace Go.Proofs.Ytgopngmofcohnaa
open Go Go.RowKit Go.Proofs.YtgopngmofcohnaaVm
set_option linter.all false
set_option maxHeartbeats 400000

theorem shInv {ps : List PV} (h : Shp Try.prog 31 ps) : ∃ x : Sh, ps = encS1 x ∧ InR x.aura ∧ InR x.left := by
  obtain ⟨xs, rfl, hl, hx⟩ := h.structInv Try.underlying31
  match xs, hl, hx with
  | [a, b], _, hx =>
    obtain ⟨m, rfl, hm⟩ := (hx 0 _ a rfl rfl).i64Inv Try.underlying3
    obtain ⟨n, rfl, hn⟩ := (hx 1 _ b rfl rfl).i64Inv Try.underlying3
    exact ⟨⟨m, n⟩, rfl, hm, hn⟩
theorem shsInv {ps : List PV} (h : Shp Try.prog 22 ps) : ∃ l : List Sh, ps = [.slc l.length false (encS l)] ∧ (∀ x ∈ l, InR x.aura ∧ InR x.left) ∧ l.length ≤ maxLen := by
  obtain ⟨xs, h1, h2, h3⟩ := h.slcInv Try.underlying22
  obtain ⟨l, h4, h5, h6⟩ := list_of (enc := encS1) (G := fun x => InR x.aura ∧ InR x.left) (fun x hx => shInv (h2 x hx))
  exact ⟨l, by rw [h1, h4, h5], h6, by omega⟩

namespace shieldTakes
open Go.ChangeShapes Go.WideShapes Go.ChangeAt
theorem own : ownKnob Try.prog.godebug = none := by kernel_rfl
theorem laidOut : laidOutB Try.prog = true := by kernel_rfl
set_option maxRecDepth 100000 in
theorem lifted (os : Os) (started : os.Started) (H : Type) (enc : TypeId × Value → H) :
    ReturnsInHanded {} Try.checked os 3 .any (Rows.shieldTakesSpec.pre6 enc Try.prog Try.f3 Rows.shieldTakesRow.domain false) (Rows.shieldTakesSpec.post enc Try.prog Try.f3 false true false false) := by
  refine returnsInHanded_of_change_sized (C := Try.checked) own started (by kernel_rfl) Try.func3
    (ChangeSpec.witness6 (enc := enc) (C := Try.checked) false ⟨#[], #[.slice none 0 0, .int .i64 0], []⟩ 8 (by kernel_rfl) (by kernel_rfl) (by kernel_rfl) (by kernel_rfl)) ?_
  intro W base args ds gs before hval0 hW hcnd hsz0 _
  have hval : ∀ (j : Nat) t v, Try.f3.params[j]? = some t → args[j]? = some v → Value.okWide Try.prog W .any base t v := hval0
  have hW' := hW
  obtain ⟨p, q, hA0, hV, rfl, hfz, hnd⟩ := hW
  have hA : DataW.TrodAll enc Try.prog W 0 (fun _ => true) true Try.f3.params.toList args.toList ds p := hA0
  rw [Try.params3] at hA hval
  obtain ⟨v0, vs0, d0, ds0, p0, q0, hargs, rfl, rfl, h0, r0⟩ := trodAll_cons hA
  obtain ⟨v1, vs1, d1, ds1, p1, q1, rfl, rfl, rfl, h1, r1⟩ := trodAll_cons r0
  obtain ⟨rfl, rfl, rfl⟩ := trodAll_nil r1
  obtain rfl : args = #[v0, v1] := by cases args; simp_all
  obtain ⟨rfl, rfl⟩ := trodVars_none hV
  have hv0 := hval 0 22 v0 rfl rfl
  have k0 := h0
  have lt0 : ∀ x ∈ p0, x.block < W.heap.size := by obtain ⟨m, hm⟩ := k0; exact DataW.trod_lt m _ _ _ hm
  obtain ⟨fu0, hf0⟩ := h0
  obtain ⟨ps0, hs0, hr0, _⟩ := trod_shp (c := world0 W) (fun _ h => h) fu0 60 22 _ _ (by kernel_rfl) hf0
  obtain ⟨l0, rfl, w0, y0⟩ := shsInv hs0
  have hR0 := rep_cell hr0 (notAgg hv0 (by kernel_rfl))
  have hv1 := hval 1 3 v1 rfl rfl
  have k1 := h1
  have lt1 : ∀ x ∈ p1, x.block < W.heap.size := by obtain ⟨m, hm⟩ := k1; exact DataW.trod_lt m _ _ _ hm
  obtain ⟨fu1, hf1⟩ := h1
  obtain ⟨ps1, hs1, hr1, _⟩ := trod_shp (c := world0 W) (fun _ h => h) fu1 60 3 _ _ (by kernel_rfl) hf1
  obtain ⟨n1, rfl, w1⟩ := hs1.i64Inv Try.underlying3
  have hR1 := rep_cell hr1 (notAgg hv1 (by kernel_rfl))
  clear hA0 hval0 hsz0
  refine (law_calls (shieldTakes_ok l0 n1 false (fun x hx => (w0 x hx).2) w1) (vals := [v0, v1]) ⟨hR0, hR1, trivial⟩).mono fun e W' ⟨he, bel⟩ => ?_
  subst he
  exact ⟨_, rfl, _, _, _, [], _, [], hW', trodAll_mk1 (shut_bool Try.underlying4 _), (trodAll_cons_mk (Below.trod laidOut (by kernel_rfl) (of_decide_eq_true (by kernel_rfl)) k0 bel lt0) (trodAll_cons_mk (Below.trod laidOut (by kernel_rfl) (of_decide_eq_true (by kernel_rfl)) k1 bel lt1) trodAll_mk0)), rfl, bel.frame _, fun h => by cases h⟩
theorem over : Rows.shieldTakesRow.holds Try.pinned (OpenSpec.ofChange Rows.shieldTakesSpec) :=
  OpenClaim.holds_of_wide 3 Try.f3 rfl rfl rfl rfl rfl rfl rfl ⟨rfl, rfl, rfl, rfl, rfl⟩ rfl rfl rfl rfl rfl (by kernel_rfl) Try.func3 (by kernel_rfl)
    (of_decide_eq_true (by kernel_rfl)) (by unfold Func.isWrapper; first | (rw [if_pos (by decide +kernel)]; kernel_rfl) | (rw [if_neg (by decide +kernel)]; exact ⟨rfl, rfl⟩))
    (fun os started H enc _ => lifted os started H enc)
end shieldTakes
theorem shieldTakes_holds : Rows.ShieldTakesSaid := shieldTakes.over

namespace shieldSums
open Go.ChangeShapes Go.WideShapes Go.ChangeAt
theorem own : ownKnob Try.prog.godebug = none := by kernel_rfl
theorem laidOut : laidOutB Try.prog = true := by kernel_rfl
set_option maxRecDepth 100000 in
theorem lifted (os : Os) (started : os.Started) (H : Type) (enc : TypeId × Value → H) :
    ReturnsInHanded {} Try.checked os 5 .any (Rows.shieldSumsSpec.pre6 enc Try.prog Try.f5 Rows.shieldSumsRow.domain false) (Rows.shieldSumsSpec.post enc Try.prog Try.f5 false true false false) := by
  refine returnsInHanded_of_change_sized (C := Try.checked) own started (by kernel_rfl) Try.func5
    (ChangeSpec.witness6 (enc := enc) (C := Try.checked) false ⟨#[], #[.slice none 0 0, .int .i64 0], []⟩ 8 (by kernel_rfl) (by kernel_rfl) (by kernel_rfl) (by kernel_rfl)) ?_
  intro W base args ds gs before hval0 hW hcnd hsz0 _
  have hval : ∀ (j : Nat) t v, Try.f5.params[j]? = some t → args[j]? = some v → Value.okWide Try.prog W .any base t v := hval0
  have hW' := hW
  obtain ⟨p, q, hA0, hV, rfl, hfz, hnd⟩ := hW
  have hA : DataW.TrodAll enc Try.prog W 0 (fun _ => true) true Try.f5.params.toList args.toList ds p := hA0
  rw [Try.params5] at hA hval
  obtain ⟨v0, vs0, d0, ds0, p0, q0, hargs, rfl, rfl, h0, r0⟩ := trodAll_cons hA
  obtain ⟨v1, vs1, d1, ds1, p1, q1, rfl, rfl, rfl, h1, r1⟩ := trodAll_cons r0
  obtain ⟨rfl, rfl, rfl⟩ := trodAll_nil r1
  obtain rfl : args = #[v0, v1] := by cases args; simp_all
  obtain ⟨rfl, rfl⟩ := trodVars_none hV
  have hv0 := hval 0 22 v0 rfl rfl
  have k0 := h0
  have lt0 : ∀ x ∈ p0, x.block < W.heap.size := by obtain ⟨m, hm⟩ := k0; exact DataW.trod_lt m _ _ _ hm
  obtain ⟨fu0, hf0⟩ := h0
  obtain ⟨ps0, hs0, hr0, _⟩ := trod_shp (c := world0 W) (fun _ h => h) fu0 60 22 _ _ (by kernel_rfl) hf0
  obtain ⟨l0, rfl, w0, y0⟩ := shsInv hs0
  have hR0 := rep_cell hr0 (notAgg hv0 (by kernel_rfl))
  have hv1 := hval 1 3 v1 rfl rfl
  have k1 := h1
  have lt1 : ∀ x ∈ p1, x.block < W.heap.size := by obtain ⟨m, hm⟩ := k1; exact DataW.trod_lt m _ _ _ hm
  obtain ⟨fu1, hf1⟩ := h1
  obtain ⟨ps1, hs1, hr1, _⟩ := trod_shp (c := world0 W) (fun _ h => h) fu1 60 3 _ _ (by kernel_rfl) hf1
  obtain ⟨n1, rfl, w1⟩ := hs1.i64Inv Try.underlying3
  have hR1 := rep_cell hr1 (notAgg hv1 (by kernel_rfl))
  clear hA0 hval0 hsz0
  refine (law_calls (shieldSums_ok l0 n1 false) (vals := [v0, v1]) ⟨hR0, hR1, trivial⟩).mono fun e W' ⟨he, bel⟩ => ?_
  subst he
  exact ⟨_, rfl, _, _, _, [], _, [], hW', trodAll_mk1 (shut_bool Try.underlying4 _), (trodAll_cons_mk (Below.trod laidOut (by kernel_rfl) (of_decide_eq_true (by kernel_rfl)) k0 bel lt0) (trodAll_cons_mk (Below.trod laidOut (by kernel_rfl) (of_decide_eq_true (by kernel_rfl)) k1 bel lt1) trodAll_mk0)), rfl, bel.frame _, fun h => by cases h⟩
theorem over : Rows.shieldSumsRow.holds Try.pinned (OpenSpec.ofChange Rows.shieldSumsSpec) :=
  OpenClaim.holds_of_wide 5 Try.f5 rfl rfl rfl rfl rfl rfl rfl ⟨rfl, rfl, rfl, rfl, rfl⟩ rfl rfl rfl rfl rfl (by kernel_rfl) Try.func5 (by kernel_rfl)
    (of_decide_eq_true (by kernel_rfl)) (by unfold Func.isWrapper; first | (rw [if_pos (by decide +kernel)]; kernel_rfl) | (rw [if_neg (by decide +kernel)]; exact ⟨rfl, rfl⟩))
    (fun os started H enc _ => lifted os started H enc)
end shieldSums
theorem shieldSums_holds : Rows.ShieldSumsSaid := shieldSums.over

namespace shieldParts
open Go.ChangeShapes Go.WideShapes Go.ChangeAt
theorem own : ownKnob Try.prog.godebug = none := by kernel_rfl
theorem laidOut : laidOutB Try.prog = true := by kernel_rfl
set_option maxRecDepth 100000 in
theorem lifted (os : Os) (started : os.Started) (H : Type) (enc : TypeId × Value → H) :
    ReturnsInHanded {} Try.checked os 4 .any (Rows.shieldPartsSpec.pre6 enc Try.prog Try.f4 Rows.shieldPartsRow.domain false) (Rows.shieldPartsSpec.post enc Try.prog Try.f4 false true false false) := by
  refine returnsInHanded_of_change_sized (C := Try.checked) own started (by kernel_rfl) Try.func4
    (ChangeSpec.witness6 (enc := enc) (C := Try.checked) false ⟨#[], #[.int .i64 0, .slice none 0 0], []⟩ 8 (by kernel_rfl) (by kernel_rfl) (by kernel_rfl) (by kernel_rfl)) ?_
  intro W base args ds gs before hval0 hW hcnd hsz0 _
  have hval : ∀ (j : Nat) t v, Try.f4.params[j]? = some t → args[j]? = some v → Value.okWide Try.prog W .any base t v := hval0
  have hW' := hW
  obtain ⟨p, q, hA0, hV, rfl, hfz, hnd⟩ := hW
  have hA : DataW.TrodAll enc Try.prog W 0 (fun _ => true) true Try.f4.params.toList args.toList ds p := hA0
  rw [Try.params4] at hA hval
  obtain ⟨v0, vs0, d0, ds0, p0, q0, hargs, rfl, rfl, h0, r0⟩ := trodAll_cons hA
  obtain ⟨v1, vs1, d1, ds1, p1, q1, rfl, rfl, rfl, h1, r1⟩ := trodAll_cons r0
  obtain ⟨rfl, rfl, rfl⟩ := trodAll_nil r1
  obtain rfl : args = #[v0, v1] := by cases args; simp_all
  obtain ⟨rfl, rfl⟩ := trodVars_none hV
  have hv0 := hval 0 3 v0 rfl rfl
  have k0 := h0
  have lt0 : ∀ x ∈ p0, x.block < W.heap.size := by obtain ⟨m, hm⟩ := k0; exact DataW.trod_lt m _ _ _ hm
  obtain ⟨fu0, hf0⟩ := h0
  obtain ⟨ps0, hs0, hr0, _⟩ := trod_shp (c := world0 W) (fun _ h => h) fu0 60 3 _ _ (by kernel_rfl) hf0
  obtain ⟨n0, rfl, w0⟩ := hs0.i64Inv Try.underlying3
  have hR0 := rep_cell hr0 (notAgg hv0 (by kernel_rfl))
  have hv1 := hval 1 24 v1 rfl rfl
  have k1 := h1
  have lt1 : ∀ x ∈ p1, x.block < W.heap.size := by obtain ⟨m, hm⟩ := k1; exact DataW.trod_lt m _ _ _ hm
  obtain ⟨fu1, hf1⟩ := h1
  obtain ⟨ps1, hs1, hr1, _⟩ := trod_shp (c := world0 W) (fun _ h => h) fu1 60 24 _ _ (by kernel_rfl) hf1
  obtain ⟨l1, rfl, w1, y1⟩ := hs1.i64s Try.underlying24 Try.underlying3
  have hR1 := rep_cell hr1 (notAgg hv1 (by kernel_rfl))
  clear hA0 hval0 hsz0
  refine (law_calls (shieldParts_ok n0 l1 false w1) (vals := [v0, v1]) ⟨hR0, hR1, trivial⟩).mono fun e W' ⟨he, bel⟩ => ?_
  subst he
  exact ⟨_, rfl, _, _, _, [], _, [], hW', trodAll_mk1 (shut_bool Try.underlying4 _), (trodAll_cons_mk (Below.trod laidOut (by kernel_rfl) (of_decide_eq_true (by kernel_rfl)) k0 bel lt0) (trodAll_cons_mk (Below.trod laidOut (by kernel_rfl) (of_decide_eq_true (by kernel_rfl)) k1 bel lt1) trodAll_mk0)), rfl, bel.frame _, fun h => by cases h⟩
theorem over : Rows.shieldPartsRow.holds Try.pinned (OpenSpec.ofChange Rows.shieldPartsSpec) :=
  OpenClaim.holds_of_wide 4 Try.f4 rfl rfl rfl rfl rfl rfl rfl ⟨rfl, rfl, rfl, rfl, rfl⟩ rfl rfl rfl rfl rfl (by kernel_rfl) Try.func4 (by kernel_rfl)
    (of_decide_eq_true (by kernel_rfl)) (by unfold Func.isWrapper; first | (rw [if_pos (by decide +kernel)]; kernel_rfl) | (rw [if_neg (by decide +kernel)]; exact ⟨rfl, rfl⟩))
    (fun os started H enc _ => lifted os started H enc)
end shieldParts
theorem shieldParts_holds : Rows.ShieldPartsSaid := shieldParts.over

end Go.Proofs.Ytgopngmofcohnaa

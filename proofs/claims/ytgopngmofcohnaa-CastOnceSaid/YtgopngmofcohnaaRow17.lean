import Derived.Test.YtgopngmofcohnaaRows
import Derived.Test.YtgopngmofcohnaaVmX
import Derived.Test.YtgopngmofcohnaaOnce17
import Derived.WalkKit
namespace Go.Proofs.Ytgopngmofcohnaa
open Go Go.RowKit Go.Proofs.YtgopngmofcohnaaVm
set_option linter.all false
set_option maxHeartbeats 400000
theorem GCast_inv {ps : List PV} (h : Shp Try.prog 52 ps) : ∃ x : GCast, ps = encGCast x ∧ wfGCast x := by
 obtain ⟨xs, rfl, hl, hx⟩ := h.structInv Try.underlying52
 match xs, hl, hx with
 | [a0, a1, a2, a3], _, hx =>
  obtain ⟨n0, rfl, w0⟩ := (hx 0 _ _ rfl rfl).i64Inv Try.underlying3
  obtain ⟨n1, rfl, w1⟩ := (hx 1 _ _ rfl rfl).i64Inv Try.underlying3
  obtain ⟨n2, rfl, w2⟩ := (hx 2 _ _ rfl rfl).i64Inv Try.underlying3
  obtain ⟨n3, rfl, w3⟩ := (hx 3 _ _ rfl rfl).i64Inv Try.underlying3
  exact ⟨⟨n0, n1, n2, n3⟩, rfl, by unfold wfGCast; exact ⟨w0, w1, w2, w3⟩⟩

theorem GCasting_inv {ps : List PV} (h : Shp Try.prog 54 ps) : ∃ x : GCasting, ps = encGCasting x ∧ wfGCasting x := by
 obtain ⟨xs, rfl, hl, hx⟩ := h.structInv Try.underlying54
 match xs, hl, hx with
 | [a0, a1, a2], _, hx =>
  obtain ⟨n0, rfl, w0⟩ := GCast_inv (hx 0 _ _ rfl rfl)
  obtain ⟨n1, rfl, w1⟩ := GCast_inv (hx 1 _ _ rfl rfl)
  obtain ⟨n2, rfl, w2⟩ := (hx 2 _ _ rfl rfl).i64Inv Try.underlying3
  exact ⟨⟨n0, n1, n2⟩, rfl, by unfold wfGCasting; exact ⟨w0, w1, w2⟩⟩

namespace castWaits
open Go.ChangeShapes Go.WideShapes Go.ChangeAt
theorem own : ownKnob Try.prog.godebug = none := by kernel_rfl
theorem laidOut : laidOutB Try.prog = true := by kernel_rfl
set_option maxRecDepth 100000 in
theorem lifted (os : Os) (started : os.Started) (H : Type) (enc : TypeId × Value → H) :
    ReturnsInHanded {} Try.checked os 9 .any (Rows.castWaitsSpec.pre6 enc Try.prog Try.f9 Rows.castWaitsRow.domain false) (Rows.castWaitsSpec.post enc Try.prog Try.f9 false true false false) := by
  refine returnsInHanded_of_change_sized (C := Try.checked) own started (by kernel_rfl) Try.func9
    (ChangeSpec.witness6 (enc := enc) (C := Try.checked) false ⟨#[], #[.agg #[.int .i64 0, .int .i64 0, .int .i64 0, .int .i64 0, .int .i64 0, .int .i64 0, .int .i64 0, .int .i64 0, .int .i64 0], .int .i64 0, .int .i64 0], []⟩ 8 (by kernel_rfl) (by kernel_rfl) (by kernel_rfl) (by kernel_rfl)) ?_
  intro W base args ds gs before hval0 hW hcnd hsz0 _
  have hval : ∀ (j : Nat) t v, Try.f9.params[j]? = some t → args[j]? = some v → Value.okWide Try.prog W .any base t v := hval0
  have hW' := hW
  obtain ⟨p, q, hA0, hV, rfl, hfz, hnd⟩ := hW
  have hA : DataW.TrodAll enc Try.prog W 0 (fun _ => true) true Try.f9.params.toList args.toList ds p := hA0
  rw [Try.params9] at hA hval
  obtain ⟨v0, vs0, d0, ds0, p0, q0, hargs, rfl, rfl, h0, r0⟩ := trodAll_cons hA
  obtain ⟨v1, vs1, d1, ds1, p1, q1, rfl, rfl, rfl, h1, r1⟩ := trodAll_cons r0
  obtain ⟨v2, vs2, d2, ds2, p2, q2, rfl, rfl, rfl, h2, r2⟩ := trodAll_cons r1
  obtain ⟨rfl, rfl, rfl⟩ := trodAll_nil r2
  obtain rfl : args = #[v0, v1, v2] := by cases args; simp_all
  obtain ⟨rfl, rfl⟩ := trodVars_none hV
  have hv0 := hval 0 54 v0 rfl rfl
  have k0 := h0
  have lt0 : ∀ x ∈ p0, x.block < W.heap.size := by obtain ⟨m, hm⟩ := k0; exact DataW.trod_lt m _ _ _ hm
  obtain ⟨fu0, hf0⟩ := h0
  obtain ⟨ps0, hs0, hr0, _⟩ := trod_shp (c := world0 W) (fun _ h => h) fu0 60 54 _ _ (by kernel_rfl) hf0
  obtain ⟨s, rfl, w_s⟩ := GCasting_inv hs0
  have hR0 : Rep _ _ (aGCasting s) v0 := rep_agg hv0 (by kernel_rfl) hr0
  have hv1 := hval 1 3 v1 rfl rfl
  have k1 := h1
  have lt1 : ∀ x ∈ p1, x.block < W.heap.size := by obtain ⟨m, hm⟩ := k1; exact DataW.trod_lt m _ _ _ hm
  obtain ⟨fu1, hf1⟩ := h1
  obtain ⟨ps1, hs1, hr1, _⟩ := trod_shp (c := world0 W) (fun _ h => h) fu1 60 3 _ _ (by kernel_rfl) hf1
  obtain ⟨a, rfl, w_a⟩ := hs1.i64Inv Try.underlying3
  have hR1 := rep_cell hr1 (notAgg hv1 (by kernel_rfl))
  have hv2 := hval 2 3 v2 rfl rfl
  have k2 := h2
  have lt2 : ∀ x ∈ p2, x.block < W.heap.size := by obtain ⟨m, hm⟩ := k2; exact DataW.trod_lt m _ _ _ hm
  obtain ⟨fu2, hf2⟩ := h2
  obtain ⟨ps2, hs2, hr2, _⟩ := trod_shp (c := world0 W) (fun _ h => h) fu2 60 3 _ _ (by kernel_rfl) hf2
  obtain ⟨l, rfl, w_l⟩ := hs2.i64Inv Try.underlying3
  have hR2 := rep_cell hr2 (notAgg hv2 (by kernel_rfl))
  clear hA0 hval0 hsz0
  refine (law_calls (castWaits_ok s a l) (vals := [v0, v1, v2]) ⟨hR0, hR1, hR2, trivial⟩).mono fun e W' ⟨he, bel⟩ => ?_
  subst he
  exact ⟨_, rfl, _, _, _, [], _, [], hW', trodAll_mk1 (shut_bool Try.underlying4 _), (trodAll_cons_mk (Below.trod laidOut (by kernel_rfl) (of_decide_eq_true (by kernel_rfl)) k0 bel lt0) (trodAll_cons_mk (Below.trod laidOut (by kernel_rfl) (of_decide_eq_true (by kernel_rfl)) k1 bel lt1) (trodAll_cons_mk (Below.trod laidOut (by kernel_rfl) (of_decide_eq_true (by kernel_rfl)) k2 bel lt2) trodAll_mk0))), rfl, bel.frame _, fun h => by cases h⟩
theorem over : Rows.castWaitsRow.holds Try.pinned (OpenSpec.ofChange Rows.castWaitsSpec) :=
  OpenClaim.holds_of_wide 9 Try.f9 rfl rfl rfl rfl rfl rfl rfl ⟨rfl, rfl, rfl, rfl, rfl⟩ rfl rfl rfl rfl rfl (by kernel_rfl) Try.func9 (by kernel_rfl)
    (of_decide_eq_true (by kernel_rfl)) (by unfold Func.isWrapper; first | (rw [if_pos (by decide +kernel)]; kernel_rfl) | (rw [if_neg (by decide +kernel)]; exact ⟨rfl, rfl⟩))
    (fun os started H enc _ => lifted os started H enc)
end castWaits
theorem castWaits_holds : Rows.CastWaitsSaid := castWaits.over

theorem A3int_inv {ps : List PV} (h : Shp Try.prog 56 ps) : ∃ x : A3int, ps = encA3int x ∧ wfA3int x := by
 obtain ⟨xs, rfl, hl, hx⟩ := h.arrInv Try.underlying56
 match xs, hl, hx with
 | [a0, a1, a2], _, hx =>
  obtain ⟨n0, rfl, w0⟩ := (hx a0 (by simp)).i64Inv Try.underlying3
  obtain ⟨n1, rfl, w1⟩ := (hx a1 (by simp)).i64Inv Try.underlying3
  obtain ⟨n2, rfl, w2⟩ := (hx a2 (by simp)).i64Inv Try.underlying3
  exact ⟨⟨n0, n1, n2⟩, rfl, by unfold wfA3int; exact ⟨w0, w1, w2⟩⟩

theorem slc50_inv {ps : List PV} (h : Shp Try.prog 50 ps) : ∃ l : List A3int, ps = [.slc l.length false (l.flatMap encA3int)] ∧ (∀ y ∈ l, wfA3int y) ∧ l.length ≤ maxLen := by
 obtain ⟨xs, h1, h2, h3⟩ := h.slcInv Try.underlying50
 obtain ⟨l, h4, h5, h6⟩ := list_of (enc := encA3int) (G := fun y => wfA3int y) (fun x hx => A3int_inv (h2 x hx))
 exact ⟨l, by rw [h1, h4, h5] <;> rfl, h6, by omega⟩

namespace castOnce
open Go.ChangeShapes Go.WideShapes Go.ChangeAt
theorem own : ownKnob Try.prog.godebug = none := by kernel_rfl
theorem laidOut : laidOutB Try.prog = true := by kernel_rfl
set_option maxRecDepth 100000 in
theorem lifted (os : Os) (started : os.Started) (H : Type) (enc : TypeId × Value → H) :
    ReturnsInHanded {} Try.checked os 8 .any (Rows.castOnceSpec.pre6 enc Try.prog Try.f8 Rows.castOnceRow.domain false) (Rows.castOnceSpec.post enc Try.prog Try.f8 false true false false) := by
  refine returnsInHanded_of_change_sized (C := Try.checked) own started (by kernel_rfl) Try.func8
    (ChangeSpec.witness6 (enc := enc) (C := Try.checked) false ⟨#[], #[.slice none 0 0], []⟩ 8 (by kernel_rfl) (by kernel_rfl) (by kernel_rfl) (by kernel_rfl)) ?_
  intro W base args ds gs before hval0 hW hcnd hsz0 _
  have hval : ∀ (j : Nat) t v, Try.f8.params[j]? = some t → args[j]? = some v → Value.okWide Try.prog W .any base t v := hval0
  have hW' := hW
  obtain ⟨p, q, hA0, hV, rfl, hfz, hnd⟩ := hW
  have hA : DataW.TrodAll enc Try.prog W 0 (fun _ => true) true Try.f8.params.toList args.toList ds p := hA0
  rw [Try.params8] at hA hval
  obtain ⟨v0, vs0, d0, ds0, p0, q0, hargs, rfl, rfl, h0, r0⟩ := trodAll_cons hA
  obtain ⟨rfl, rfl, rfl⟩ := trodAll_nil r0
  obtain rfl : args = #[v0] := by cases args; simp_all
  obtain ⟨rfl, rfl⟩ := trodVars_none hV
  have hv0 := hval 0 50 v0 rfl rfl
  have k0 := h0
  have lt0 : ∀ x ∈ p0, x.block < W.heap.size := by obtain ⟨m, hm⟩ := k0; exact DataW.trod_lt m _ _ _ hm
  obtain ⟨fu0, hf0⟩ := h0
  obtain ⟨ps0, hs0, hr0, _⟩ := trod_shp (c := world0 W) (fun _ h => h) fu0 60 50 _ _ (by kernel_rfl) hf0
  obtain ⟨l, rfl, w_l⟩ := slc50_inv hs0
  have hR0 := rep_cell hr0 (notAgg hv0 (by kernel_rfl))
  clear hA0 hval0 hsz0
  refine (law_calls (castOnce_ok l false) (vals := [v0]) ⟨hR0, trivial⟩).mono fun e W' ⟨he, bel⟩ => ?_
  subst he
  exact ⟨_, rfl, _, _, _, [], _, [], hW', trodAll_mk1 (shut_bool Try.underlying4 _), (trodAll_cons_mk (Below.trod laidOut (by kernel_rfl) (of_decide_eq_true (by kernel_rfl)) k0 bel lt0) trodAll_mk0), rfl, bel.frame _, fun h => by cases h⟩
theorem over : Rows.castOnceRow.holds Try.pinned (OpenSpec.ofChange Rows.castOnceSpec) :=
  OpenClaim.holds_of_wide 8 Try.f8 rfl rfl rfl rfl rfl rfl rfl ⟨rfl, rfl, rfl, rfl, rfl⟩ rfl rfl rfl rfl rfl (by kernel_rfl) Try.func8 (by kernel_rfl)
    (of_decide_eq_true (by kernel_rfl)) (by unfold Func.isWrapper; first | (rw [if_pos (by decide +kernel)]; kernel_rfl) | (rw [if_neg (by decide +kernel)]; exact ⟨rfl, rfl⟩))
    (fun os started H enc _ => lifted os started H enc)
end castOnce
theorem castOnce_holds : Rows.CastOnceSaid := castOnce.over
end Go.Proofs.Ytgopngmofcohnaa

import Derived.Test.YtcbdecknbfabaaaRows
import Derived.Test.YtcbdecknbfabaaaVmY
import Derived.Test.YtcbdecknbfabaaaPlain15
import Derived.WalkKit
namespace Go.Proofs.Ytcbdecknbfabaaa
open Go Go.RowKit Go.Proofs.YtcbdecknbfabaaaVm
set_option linter.all false
set_option maxHeartbeats 400000
namespace auraTicks
open Go.ChangeShapes Go.WideShapes Go.ChangeAt
theorem own : ownKnob Try.prog.godebug = none := by kernel_rfl
theorem laidOut : laidOutB Try.prog = true := by kernel_rfl
set_option maxRecDepth 100000 in
theorem lifted (os : Os) (started : os.Started) (H : Type) (enc : TypeId × Value → H) :
    ReturnsInHanded {} Try.checked os 4 .any (Rows.auraTicksSpec.pre6 enc Try.prog Try.f4 Rows.auraTicksRow.domain false) (Rows.auraTicksSpec.post enc Try.prog Try.f4 false true false false) := by
  refine returnsInHanded_of_change_sized (C := Try.checked) own started (by kernel_rfl) Try.func4
    (ChangeSpec.witness6 (enc := enc) (C := Try.checked) false ⟨#[], #[.int .i64 0, .int .i64 0, .int .i64 0, .int .i64 0], []⟩ 8 (by kernel_rfl) (by kernel_rfl) (by kernel_rfl) (by kernel_rfl)) ?_
  intro W base args ds gs before hval0 hW hcnd hsz0 _
  have hval : ∀ (j : Nat) t v, Try.f4.params[j]? = some t → args[j]? = some v → Value.okWide Try.prog W .any base t v := hval0
  have hW' := hW
  obtain ⟨p, q, hA0, hV, rfl, hfz, hnd⟩ := hW
  have hA : DataW.TrodAll enc Try.prog W 0 (fun _ => true) true Try.f4.params.toList args.toList ds p := hA0
  rw [Try.params4] at hA hval
  obtain ⟨v0, vs0, d0, ds0, p0, q0, hargs, rfl, rfl, h0, r0⟩ := trodAll_cons hA
  obtain ⟨v1, vs1, d1, ds1, p1, q1, rfl, rfl, rfl, h1, r1⟩ := trodAll_cons r0
  obtain ⟨v2, vs2, d2, ds2, p2, q2, rfl, rfl, rfl, h2, r2⟩ := trodAll_cons r1
  obtain ⟨v3, vs3, d3, ds3, p3, q3, rfl, rfl, rfl, h3, r3⟩ := trodAll_cons r2
  obtain ⟨rfl, rfl, rfl⟩ := trodAll_nil r3
  obtain rfl : args = #[v0, v1, v2, v3] := by cases args; simp_all
  obtain ⟨rfl, rfl⟩ := trodVars_none hV
  have hwt := fun n hn => of_decide_eq_true (List.all_eq_true.1 hsz0 n hn)
  have hv0 := hval 0 3 v0 rfl rfl
  have k0 := h0
  have lt0 : ∀ x ∈ p0, x.block < W.heap.size := by obtain ⟨m, hm⟩ := k0; exact DataW.trod_lt m _ _ _ hm
  obtain ⟨fu0, hf0⟩ := h0
  obtain ⟨ps0, hs0, hr0, _⟩ := trod_shp (c := world0 W) (fun _ h => h) fu0 60 3 _ _ (by kernel_rfl) hf0 (fun n hn => hwt n (weightsEach_mem (i := 0) rfl rfl hn))
  obtain ⟨a, rfl, w_a⟩ := hs0.i64Inv Try.underlying3
  have hR0 := rep_cell hr0 (notAgg hv0 (by kernel_rfl))
  have hv1 := hval 1 3 v1 rfl rfl
  have k1 := h1
  have lt1 : ∀ x ∈ p1, x.block < W.heap.size := by obtain ⟨m, hm⟩ := k1; exact DataW.trod_lt m _ _ _ hm
  obtain ⟨fu1, hf1⟩ := h1
  obtain ⟨ps1, hs1, hr1, _⟩ := trod_shp (c := world0 W) (fun _ h => h) fu1 60 3 _ _ (by kernel_rfl) hf1 (fun n hn => hwt n (weightsEach_mem (i := 1) rfl rfl hn))
  obtain ⟨b, rfl, w_b⟩ := hs1.i64Inv Try.underlying3
  have hR1 := rep_cell hr1 (notAgg hv1 (by kernel_rfl))
  have hv2 := hval 2 3 v2 rfl rfl
  have k2 := h2
  have lt2 : ∀ x ∈ p2, x.block < W.heap.size := by obtain ⟨m, hm⟩ := k2; exact DataW.trod_lt m _ _ _ hm
  obtain ⟨fu2, hf2⟩ := h2
  obtain ⟨ps2, hs2, hr2, _⟩ := trod_shp (c := world0 W) (fun _ h => h) fu2 60 3 _ _ (by kernel_rfl) hf2 (fun n hn => hwt n (weightsEach_mem (i := 2) rfl rfl hn))
  obtain ⟨m, rfl, w_m⟩ := hs2.i64Inv Try.underlying3
  have hR2 := rep_cell hr2 (notAgg hv2 (by kernel_rfl))
  have hv3 := hval 3 3 v3 rfl rfl
  have k3 := h3
  have lt3 : ∀ x ∈ p3, x.block < W.heap.size := by obtain ⟨m, hm⟩ := k3; exact DataW.trod_lt m _ _ _ hm
  obtain ⟨fu3, hf3⟩ := h3
  obtain ⟨ps3, hs3, hr3, _⟩ := trod_shp (c := world0 W) (fun _ h => h) fu3 60 3 _ _ (by kernel_rfl) hf3 (fun n hn => hwt n (weightsEach_mem (i := 3) rfl rfl hn))
  obtain ⟨n, rfl, w_n⟩ := hs3.i64Inv Try.underlying3
  have hR3 := rep_cell hr3 (notAgg hv3 (by kernel_rfl))
  clear hA0 hval0 hsz0
  refine (law_calls (ticks15_yes a b m n) (vals := [v0, v1, v2, v3]) ⟨hR0, hR1, hR2, hR3, trivial⟩).mono fun e W' ⟨he, bel⟩ => ?_
  subst he
  exact ⟨_, rfl, _, _, _, [], _, [], hW', trodAll_mk1 (shut_bool Try.underlying4 _), (trodAll_cons_mk (Below.trod laidOut (by kernel_rfl) (of_decide_eq_true (by kernel_rfl)) k0 bel lt0) (trodAll_cons_mk (Below.trod laidOut (by kernel_rfl) (of_decide_eq_true (by kernel_rfl)) k1 bel lt1) (trodAll_cons_mk (Below.trod laidOut (by kernel_rfl) (of_decide_eq_true (by kernel_rfl)) k2 bel lt2) (trodAll_cons_mk (Below.trod laidOut (by kernel_rfl) (of_decide_eq_true (by kernel_rfl)) k3 bel lt3) trodAll_mk0)))), rfl, bel.frame _, fun h => by cases h⟩
theorem over : Rows.auraTicksRow.holds Try.pinned (OpenSpec.ofChange Rows.auraTicksSpec) :=
  OpenClaim.holds_of_wide 4 Try.f4 rfl rfl rfl rfl rfl rfl rfl ⟨rfl, rfl, rfl, rfl, rfl⟩ rfl rfl rfl rfl rfl (by kernel_rfl) Try.func4 (by kernel_rfl)
    (of_decide_eq_true (by kernel_rfl)) (by unfold Func.isWrapper; first | (rw [if_pos (by decide +kernel)]; kernel_rfl) | (rw [if_neg (by decide +kernel)]; exact ⟨rfl, rfl⟩))
    (fun os started H enc _ => lifted os started H enc)
end auraTicks
theorem auraTicks_holds : Rows.AuraTicksSaid := auraTicks.over
end Go.Proofs.Ytcbdecknbfabaaa

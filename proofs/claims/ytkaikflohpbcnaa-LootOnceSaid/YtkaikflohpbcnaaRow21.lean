import Derived.Test.YtkaikflohpbcnaaRows
import Derived.Test.YtkaikflohpbcnaaVmX
import Derived.Test.YtkaikflohpbcnaaLaw21
import Derived.WalkKit
namespace Go.Proofs.Ytkaikflohpbcnaa
open Go Go.RowKit Go.Proofs.YtkaikflohpbcnaaVm
set_option linter.all false
set_option maxHeartbeats 400000
theorem slc22_inv {ps : List PV} (h : Shp Try.prog 22 ps) : ∃ l : List Int, ps = [.slc l.length false (encI l)] ∧ (∀ y ∈ l, InR y) ∧ l.length ≤ maxLen := by
 obtain ⟨xs, h1, h2, h3⟩ := h.slcInv Try.underlying22
 obtain ⟨l, h4, h5, h6⟩ := list_map (g := fun n => PV.int .i64 n) (G := fun y => InR y) (fun x hx => (h2 x hx).i64Inv Try.underlying3)
 exact ⟨l, by rw [h1, h4, h5] <;> rfl, h6, by omega⟩

theorem GDrop_inv {ps : List PV} (h : Shp Try.prog 24 ps) : ∃ x : GDrop, ps = encGDrop x ∧ wfGDrop x := by
 obtain ⟨xs, rfl, hl, hx⟩ := h.structInv Try.underlying24
 match xs, hl, hx with
 | [a0, a1, a2, a3, a4], _, hx =>
  obtain ⟨n0, rfl, w0⟩ := (hx 0 _ _ rfl rfl).i64Inv Try.underlying3
  obtain ⟨n1, rfl, w1⟩ := (hx 1 _ _ rfl rfl).i64Inv Try.underlying3
  obtain ⟨n2, rfl, w2⟩ := (hx 2 _ _ rfl rfl).i64Inv Try.underlying3
  obtain ⟨n3, rfl, w3⟩ := slc22_inv (hx 3 _ _ rfl rfl)
  obtain ⟨n4, rfl, w4⟩ := slc22_inv (hx 4 _ _ rfl rfl)
  exact ⟨⟨n0, n1, n2, n3, n4⟩, rfl, by unfold wfGDrop; exact ⟨w0, w1, w2, w3, w4⟩⟩

namespace lootTells
open Go.ChangeShapes Go.WideShapes Go.ChangeAt
theorem own : ownKnob Try.prog.godebug = none := by kernel_rfl
theorem laidOut : laidOutB Try.prog = true := by kernel_rfl
set_option maxRecDepth 100000 in
theorem lifted (os : Os) (started : os.Started) (H : Type) (enc : TypeId × Value → H) :
    ReturnsInHanded {} Try.checked os 3 .any (Rows.lootTellsSpec.pre6 enc Try.prog Try.f3 Rows.lootTellsRow.domain false) (Rows.lootTellsSpec.post enc Try.prog Try.f3 false true false false) := by
  refine returnsInHanded_of_change_sized (C := Try.checked) own started (by kernel_rfl) Try.func3
    (ChangeSpec.witness6 (enc := enc) (C := Try.checked) false ⟨#[], #[.agg #[.int .i64 0, .int .i64 0, .int .i64 0, .slice none 0 0, .slice none 0 0], .int .i64 0, .int .i64 0, .int .i64 0], []⟩ 8 (by kernel_rfl) (by kernel_rfl) (by kernel_rfl) (by kernel_rfl)) ?_
  intro W base args ds gs before hval0 hW hcnd hsz0 _
  have hval : ∀ (j : Nat) t v, Try.f3.params[j]? = some t → args[j]? = some v → Value.okWide Try.prog W .any base t v := hval0
  have hW' := hW
  obtain ⟨p, q, hA0, hV, rfl, hfz, hnd⟩ := hW
  have hA : DataW.TrodAll enc Try.prog W 0 (fun _ => true) true Try.f3.params.toList args.toList ds p := hA0
  rw [Try.params3] at hA hval
  obtain ⟨v0, vs0, d0, ds0, p0, q0, hargs, rfl, rfl, h0, r0⟩ := trodAll_cons hA
  obtain ⟨v1, vs1, d1, ds1, p1, q1, rfl, rfl, rfl, h1, r1⟩ := trodAll_cons r0
  obtain ⟨v2, vs2, d2, ds2, p2, q2, rfl, rfl, rfl, h2, r2⟩ := trodAll_cons r1
  obtain ⟨v3, vs3, d3, ds3, p3, q3, rfl, rfl, rfl, h3, r3⟩ := trodAll_cons r2
  obtain ⟨rfl, rfl, rfl⟩ := trodAll_nil r3
  obtain rfl : args = #[v0, v1, v2, v3] := by cases args; simp_all
  obtain ⟨rfl, rfl⟩ := trodVars_none hV
  have hv0 := hval 0 24 v0 rfl rfl
  have k0 := h0
  have lt0 : ∀ x ∈ p0, x.block < W.heap.size := by obtain ⟨m, hm⟩ := k0; exact DataW.trod_lt m _ _ _ hm
  obtain ⟨fu0, hf0⟩ := h0
  obtain ⟨ps0, hs0, hr0, _⟩ := trod_shp (c := world0 W) (fun _ h => h) fu0 60 24 _ _ (by kernel_rfl) hf0
  obtain ⟨d, rfl, w_d⟩ := GDrop_inv hs0
  have hR0 : Rep _ _ (aGDrop d) v0 := rep_agg hv0 (by kernel_rfl) hr0
  have hv1 := hval 1 3 v1 rfl rfl
  have k1 := h1
  have lt1 : ∀ x ∈ p1, x.block < W.heap.size := by obtain ⟨m, hm⟩ := k1; exact DataW.trod_lt m _ _ _ hm
  obtain ⟨fu1, hf1⟩ := h1
  obtain ⟨ps1, hs1, hr1, _⟩ := trod_shp (c := world0 W) (fun _ h => h) fu1 60 3 _ _ (by kernel_rfl) hf1
  obtain ⟨u, rfl, w_u⟩ := hs1.i64Inv Try.underlying3
  have hR1 := rep_cell hr1 (notAgg hv1 (by kernel_rfl))
  have hv2 := hval 2 3 v2 rfl rfl
  have k2 := h2
  have lt2 : ∀ x ∈ p2, x.block < W.heap.size := by obtain ⟨m, hm⟩ := k2; exact DataW.trod_lt m _ _ _ hm
  obtain ⟨fu2, hf2⟩ := h2
  obtain ⟨ps2, hs2, hr2, _⟩ := trod_shp (c := world0 W) (fun _ h => h) fu2 60 3 _ _ (by kernel_rfl) hf2
  obtain ⟨c, rfl, w_c⟩ := hs2.i64Inv Try.underlying3
  have hR2 := rep_cell hr2 (notAgg hv2 (by kernel_rfl))
  have hv3 := hval 3 3 v3 rfl rfl
  have k3 := h3
  have lt3 : ∀ x ∈ p3, x.block < W.heap.size := by obtain ⟨m, hm⟩ := k3; exact DataW.trod_lt m _ _ _ hm
  obtain ⟨fu3, hf3⟩ := h3
  obtain ⟨ps3, hs3, hr3, _⟩ := trod_shp (c := world0 W) (fun _ h => h) fu3 60 3 _ _ (by kernel_rfl) hf3
  obtain ⟨n, rfl, w_n⟩ := hs3.i64Inv Try.underlying3
  have hR3 := rep_cell hr3 (notAgg hv3 (by kernel_rfl))
  clear hA0 hval0 hsz0
  refine (law_calls (lootTells_ok d u c n) (vals := [v0, v1, v2, v3]) ⟨hR0, hR1, hR2, hR3, trivial⟩).mono fun e W' ⟨he, bel⟩ => ?_
  subst he
  exact ⟨_, rfl, _, _, _, [], _, [], hW', trodAll_mk1 (shut_bool Try.underlying4 _), (trodAll_cons_mk (Below.trod laidOut (by kernel_rfl) (of_decide_eq_true (by kernel_rfl)) k0 bel lt0) (trodAll_cons_mk (Below.trod laidOut (by kernel_rfl) (of_decide_eq_true (by kernel_rfl)) k1 bel lt1) (trodAll_cons_mk (Below.trod laidOut (by kernel_rfl) (of_decide_eq_true (by kernel_rfl)) k2 bel lt2) (trodAll_cons_mk (Below.trod laidOut (by kernel_rfl) (of_decide_eq_true (by kernel_rfl)) k3 bel lt3) trodAll_mk0)))), rfl, bel.frame _, fun h => by cases h⟩
theorem over : Rows.lootTellsRow.holds Try.pinned (OpenSpec.ofChange Rows.lootTellsSpec) :=
  OpenClaim.holds_of_wide 3 Try.f3 rfl rfl rfl rfl rfl rfl rfl ⟨rfl, rfl, rfl, rfl, rfl⟩ rfl rfl rfl rfl rfl (by kernel_rfl) Try.func3 (by kernel_rfl)
    (of_decide_eq_true (by kernel_rfl)) (by unfold Func.isWrapper; first | (rw [if_pos (by decide +kernel)]; kernel_rfl) | (rw [if_neg (by decide +kernel)]; exact ⟨rfl, rfl⟩))
    (fun os started H enc _ => lifted os started H enc)
end lootTells
theorem lootTells_holds : Rows.LootTellsSaid := lootTells.over

namespace lootRolls
open Go.ChangeShapes Go.WideShapes Go.ChangeAt
theorem own : ownKnob Try.prog.godebug = none := by kernel_rfl
theorem laidOut : laidOutB Try.prog = true := by kernel_rfl
set_option maxRecDepth 100000 in
theorem lifted (os : Os) (started : os.Started) (H : Type) (enc : TypeId × Value → H) :
    ReturnsInHanded {} Try.checked os 4 .any (Rows.lootRollsSpec.pre6 enc Try.prog Try.f4 Rows.lootRollsRow.domain false) (Rows.lootRollsSpec.post enc Try.prog Try.f4 false true false false) := by
  refine returnsInHanded_of_change_sized (C := Try.checked) own started (by kernel_rfl) Try.func4
    (ChangeSpec.witness6 (enc := enc) (C := Try.checked) false ⟨#[], #[.agg #[.int .i64 0, .int .i64 0, .int .i64 0, .slice none 0 0, .slice none 0 0], .slice none 0 0, .int .i64 0], []⟩ 8 (by kernel_rfl) (by kernel_rfl) (by kernel_rfl) (by kernel_rfl)) ?_
  intro W base args ds gs before hval0 hW hcnd hsz0 _
  have hval : ∀ (j : Nat) t v, Try.f4.params[j]? = some t → args[j]? = some v → Value.okWide Try.prog W .any base t v := hval0
  have hW' := hW
  obtain ⟨p, q, hA0, hV, rfl, hfz, hnd⟩ := hW
  have hA : DataW.TrodAll enc Try.prog W 0 (fun _ => true) true Try.f4.params.toList args.toList ds p := hA0
  rw [Try.params4] at hA hval
  obtain ⟨v0, vs0, d0, ds0, p0, q0, hargs, rfl, rfl, h0, r0⟩ := trodAll_cons hA
  obtain ⟨v1, vs1, d1, ds1, p1, q1, rfl, rfl, rfl, h1, r1⟩ := trodAll_cons r0
  obtain ⟨v2, vs2, d2, ds2, p2, q2, rfl, rfl, rfl, h2, r2⟩ := trodAll_cons r1
  obtain ⟨rfl, rfl, rfl⟩ := trodAll_nil r2
  obtain rfl : args = #[v0, v1, v2] := by cases args; simp_all
  obtain ⟨rfl, rfl⟩ := trodVars_none hV
  have hv0 := hval 0 24 v0 rfl rfl
  have k0 := h0
  have lt0 : ∀ x ∈ p0, x.block < W.heap.size := by obtain ⟨m, hm⟩ := k0; exact DataW.trod_lt m _ _ _ hm
  obtain ⟨fu0, hf0⟩ := h0
  obtain ⟨ps0, hs0, hr0, _⟩ := trod_shp (c := world0 W) (fun _ h => h) fu0 60 24 _ _ (by kernel_rfl) hf0
  obtain ⟨d, rfl, w_d⟩ := GDrop_inv hs0
  have hR0 : Rep _ _ (aGDrop d) v0 := rep_agg hv0 (by kernel_rfl) hr0
  have hv1 := hval 1 22 v1 rfl rfl
  have k1 := h1
  have lt1 : ∀ x ∈ p1, x.block < W.heap.size := by obtain ⟨m, hm⟩ := k1; exact DataW.trod_lt m _ _ _ hm
  obtain ⟨fu1, hf1⟩ := h1
  obtain ⟨ps1, hs1, hr1, _⟩ := trod_shp (c := world0 W) (fun _ h => h) fu1 60 22 _ _ (by kernel_rfl) hf1
  obtain ⟨l, rfl, w_l⟩ := slc22_inv hs1
  have hR1 := rep_cell hr1 (notAgg hv1 (by kernel_rfl))
  have hv2 := hval 2 3 v2 rfl rfl
  have k2 := h2
  have lt2 : ∀ x ∈ p2, x.block < W.heap.size := by obtain ⟨m, hm⟩ := k2; exact DataW.trod_lt m _ _ _ hm
  obtain ⟨fu2, hf2⟩ := h2
  obtain ⟨ps2, hs2, hr2, _⟩ := trod_shp (c := world0 W) (fun _ h => h) fu2 60 3 _ _ (by kernel_rfl) hf2
  obtain ⟨n, rfl, w_n⟩ := hs2.i64Inv Try.underlying3
  have hR2 := rep_cell hr2 (notAgg hv2 (by kernel_rfl))
  clear hA0 hval0 hsz0
  refine (law_calls (lootRolls_ok d l false n) (vals := [v0, v1, v2]) ⟨hR0, hR1, hR2, trivial⟩).mono fun e W' ⟨he, bel⟩ => ?_
  subst he
  exact ⟨_, rfl, _, _, _, [], _, [], hW', trodAll_mk1 (shut_bool Try.underlying4 _), (trodAll_cons_mk (Below.trod laidOut (by kernel_rfl) (of_decide_eq_true (by kernel_rfl)) k0 bel lt0) (trodAll_cons_mk (Below.trod laidOut (by kernel_rfl) (of_decide_eq_true (by kernel_rfl)) k1 bel lt1) (trodAll_cons_mk (Below.trod laidOut (by kernel_rfl) (of_decide_eq_true (by kernel_rfl)) k2 bel lt2) trodAll_mk0))), rfl, bel.frame _, fun h => by cases h⟩
theorem over : Rows.lootRollsRow.holds Try.pinned (OpenSpec.ofChange Rows.lootRollsSpec) :=
  OpenClaim.holds_of_wide 4 Try.f4 rfl rfl rfl rfl rfl rfl rfl ⟨rfl, rfl, rfl, rfl, rfl⟩ rfl rfl rfl rfl rfl (by kernel_rfl) Try.func4 (by kernel_rfl)
    (of_decide_eq_true (by kernel_rfl)) (by unfold Func.isWrapper; first | (rw [if_pos (by decide +kernel)]; kernel_rfl) | (rw [if_neg (by decide +kernel)]; exact ⟨rfl, rfl⟩))
    (fun os started H enc _ => lifted os started H enc)
end lootRolls
theorem lootRolls_holds : Rows.LootRollsSaid := lootRolls.over

theorem A3int_inv {ps : List PV} (h : Shp Try.prog 44 ps) : ∃ x : A3int, ps = encA3int x ∧ wfA3int x := by
 obtain ⟨xs, rfl, hl, hx⟩ := h.arrInv Try.underlying44
 match xs, hl, hx with
 | [a0, a1, a2], _, hx =>
  obtain ⟨n0, rfl, w0⟩ := (hx a0 (by simp)).i64Inv Try.underlying3
  obtain ⟨n1, rfl, w1⟩ := (hx a1 (by simp)).i64Inv Try.underlying3
  obtain ⟨n2, rfl, w2⟩ := (hx a2 (by simp)).i64Inv Try.underlying3
  exact ⟨⟨n0, n1, n2⟩, rfl, by unfold wfA3int; exact ⟨w0, w1, w2⟩⟩

theorem slc43_inv {ps : List PV} (h : Shp Try.prog 43 ps) : ∃ l : List A3int, ps = [.slc l.length false (l.flatMap encA3int)] ∧ (∀ y ∈ l, wfA3int y) ∧ l.length ≤ maxLen := by
 obtain ⟨xs, h1, h2, h3⟩ := h.slcInv Try.underlying43
 obtain ⟨l, h4, h5, h6⟩ := list_of (enc := encA3int) (G := fun y => wfA3int y) (fun x hx => A3int_inv (h2 x hx))
 exact ⟨l, by rw [h1, h4, h5] <;> rfl, h6, by omega⟩

namespace lootOnce
open Go.ChangeShapes Go.WideShapes Go.ChangeAt
theorem own : ownKnob Try.prog.godebug = none := by kernel_rfl
theorem laidOut : laidOutB Try.prog = true := by kernel_rfl
set_option maxRecDepth 100000 in
theorem lifted (os : Os) (started : os.Started) (H : Type) (enc : TypeId × Value → H) :
    ReturnsInHanded {} Try.checked os 6 .any (Rows.lootOnceSpec.pre6 enc Try.prog Try.f6 Rows.lootOnceRow.domain false) (Rows.lootOnceSpec.post enc Try.prog Try.f6 false true false false) := by
  refine returnsInHanded_of_change_sized (C := Try.checked) own started (by kernel_rfl) Try.func6
    (ChangeSpec.witness6 (enc := enc) (C := Try.checked) false ⟨#[], #[.slice none 0 0, .slice none 0 0], []⟩ 8 (by kernel_rfl) (by kernel_rfl) (by kernel_rfl) (by kernel_rfl)) ?_
  intro W base args ds gs before hval0 hW hcnd hsz0 _
  have hval : ∀ (j : Nat) t v, Try.f6.params[j]? = some t → args[j]? = some v → Value.okWide Try.prog W .any base t v := hval0
  have hW' := hW
  obtain ⟨p, q, hA0, hV, rfl, hfz, hnd⟩ := hW
  have hA : DataW.TrodAll enc Try.prog W 0 (fun _ => true) true Try.f6.params.toList args.toList ds p := hA0
  rw [Try.params6] at hA hval
  obtain ⟨v0, vs0, d0, ds0, p0, q0, hargs, rfl, rfl, h0, r0⟩ := trodAll_cons hA
  obtain ⟨v1, vs1, d1, ds1, p1, q1, rfl, rfl, rfl, h1, r1⟩ := trodAll_cons r0
  obtain ⟨rfl, rfl, rfl⟩ := trodAll_nil r1
  obtain rfl : args = #[v0, v1] := by cases args; simp_all
  obtain ⟨rfl, rfl⟩ := trodVars_none hV
  have hv0 := hval 0 22 v0 rfl rfl
  have k0 := h0
  have lt0 : ∀ x ∈ p0, x.block < W.heap.size := by obtain ⟨m, hm⟩ := k0; exact DataW.trod_lt m _ _ _ hm
  obtain ⟨fu0, hf0⟩ := h0
  obtain ⟨ps0, hs0, hr0, _⟩ := trod_shp (c := world0 W) (fun _ h => h) fu0 60 22 _ _ (by kernel_rfl) hf0
  obtain ⟨units, rfl, w_units⟩ := slc22_inv hs0
  have hR0 := rep_cell hr0 (notAgg hv0 (by kernel_rfl))
  have hv1 := hval 1 43 v1 rfl rfl
  have k1 := h1
  have lt1 : ∀ x ∈ p1, x.block < W.heap.size := by obtain ⟨m, hm⟩ := k1; exact DataW.trod_lt m _ _ _ hm
  obtain ⟨fu1, hf1⟩ := h1
  obtain ⟨ps1, hs1, hr1, _⟩ := trod_shp (c := world0 W) (fun _ h => h) fu1 60 43 _ _ (by kernel_rfl) hf1
  obtain ⟨steps, rfl, w_steps⟩ := slc43_inv hs1
  have hR1 := rep_cell hr1 (notAgg hv1 (by kernel_rfl))
  clear hA0 hval0 hsz0
  refine (law_calls (lootOnce_ok units false steps false) (vals := [v0, v1]) ⟨hR0, hR1, trivial⟩).mono fun e W' ⟨he, bel⟩ => ?_
  subst he
  exact ⟨_, rfl, _, _, _, [], _, [], hW', trodAll_mk1 (shut_bool Try.underlying4 _), (trodAll_cons_mk (Below.trod laidOut (by kernel_rfl) (of_decide_eq_true (by kernel_rfl)) k0 bel lt0) (trodAll_cons_mk (Below.trod laidOut (by kernel_rfl) (of_decide_eq_true (by kernel_rfl)) k1 bel lt1) trodAll_mk0)), rfl, bel.frame _, fun h => by cases h⟩
theorem over : Rows.lootOnceRow.holds Try.pinned (OpenSpec.ofChange Rows.lootOnceSpec) :=
  OpenClaim.holds_of_wide 6 Try.f6 rfl rfl rfl rfl rfl rfl rfl ⟨rfl, rfl, rfl, rfl, rfl⟩ rfl rfl rfl rfl rfl (by kernel_rfl) Try.func6 (by kernel_rfl)
    (of_decide_eq_true (by kernel_rfl)) (by unfold Func.isWrapper; first | (rw [if_pos (by decide +kernel)]; kernel_rfl) | (rw [if_neg (by decide +kernel)]; exact ⟨rfl, rfl⟩))
    (fun os started H enc _ => lifted os started H enc)
end lootOnce
theorem lootOnce_holds : Rows.LootOnceSaid := lootOnce.over
end Go.Proofs.Ytkaikflohpbcnaa

import Derived.Test.YtnboadipofkcjaaDoorTie
import Derived.Test.YtnboadipofkcjaaDoorCards
import Derived.LaidMore
import Derived.OpenShut
import Derived.Stop.Joined
import Derived.SevenTiedAt
import Derived.Test.YtnboadipofkcjaaDoorRows
import Derived.Test.YtnboadipofkcjaaDoorVmZB
import Derived.Test.YtnboadipofkcjaaDoorPlain37
import Derived.WalkKit
namespace Go.Proofs.YtnboadipofkcjaaDoor
open Go Go.RowKit Go.Proofs.YtnboadipofkcjaaDoorVm
set_option linter.all false
set_option maxHeartbeats 400000
open Go.ChangeShapes Go.WideShapes Go.ChangeAt
set_option maxRecDepth 100000
abbrev laid2 : List (String × DataW Unit) := [("unicode/utf8.acceptRanges", Rows.laid_unicode_utf8_acceptRanges), ("unicode/utf8.first", Rows.laid_unicode_utf8_first)]
def tab : Array Value := (Pinned.utf8FirstZ.map fun (z : Nat) => Value.int .u8 (z : Int)).toArray
noncomputable def wit (os : Os) : World := { World.doorLaid Tryd.prog 400 os with heap := (World.doorLaid Tryd.prog 400 os).heap.setIfInBounds 0 (.cells tab 78 (0, 0)) }
theorem wit_shaped (os : Os) (args : Array Value) : ((wit os).forCall (fun _ _ => 0) ⟨#[], args, []⟩).Shaped Tryd.prog := World.shaped_of_RefB (by kernel_rfl) (by kernel_rfl)
theorem wit_met (os : Os) (args : Array Value) : laidMetH Tryd.prog laid2 ((wit os).forCall (fun _ _ => 0) ⟨#[], args, []⟩).memory :=
  laidMetH_of_parts3 (fuel := 8) (laidMet_of_run' 8 (by kernel_rfl) (by kernel_rfl)) (by kernel_rfl) (by kernel_rfl)

theorem GLock_inv {ps : List PV} (h : Shp Tryd.prog 24 ps) : ∃ x : GLock, ps = encGLock x ∧ wfGLock x := by
 obtain ⟨xs, rfl, hl, hx⟩ := h.structInv Tryd.underlying24
 match xs, hl, hx with
 | [a0, a1, a2], _, hx =>
  obtain ⟨n0, rfl, w0⟩ := (hx 0 _ _ rfl rfl).strInv Tryd.underlying9
  obtain ⟨n1, rfl, w1⟩ := (hx 1 _ _ rfl rfl).i64Inv Tryd.underlying3
  obtain ⟨n2, rfl, w2⟩ := (hx 2 _ _ rfl rfl).i64Inv Tryd.underlying3
  exact ⟨⟨n0, n1, n2⟩, rfl, by unfold wfGLock; exact ⟨w0, w1, w2⟩⟩

theorem slc22_inv {ps : List PV} (h : Shp Tryd.prog 22 ps) : ∃ l : List GLock, ps = [.slc l.length false (l.flatMap encGLock)] ∧ (∀ y ∈ l, wfGLock y) ∧ l.length ≤ 140737488355328 := by
 obtain ⟨xs, h1, h2, h3, h8⟩ := h.slcInv Tryd.underlying22
 have h9 : 1 ≤ Tryd.prog.bytesOf 24 := of_decide_eq_true (by kernel_rfl)
 have h7 : xs.length * 1 ≤ reachBytes := Nat.le_trans (Nat.mul_le_mul_left _ h9) h8
 unfold reachBytes at h7
 obtain ⟨l, h4, h5, h6⟩ := list_of (enc := encGLock) (G := fun y => wfGLock y) (fun x hx => GLock_inv (h2 x hx))
 exact ⟨l, by rw [h1, h4, h5] <;> rfl, h6, by omega⟩

theorem slc25_inv {ps : List PV} (h : Shp Tryd.prog 25 ps) : ∃ l : List (List UInt8), ps = [.slc l.length false (encS l)] ∧ (∀ y ∈ l, y.length ≤ maxLen) ∧ l.length ≤ 140737488355328 := by
 obtain ⟨xs, h1, h2, h3, h8⟩ := h.slcInv Tryd.underlying25
 have h9 : 1 ≤ Tryd.prog.bytesOf 9 := of_decide_eq_true (by kernel_rfl)
 have h7 : xs.length * 1 ≤ reachBytes := Nat.le_trans (Nat.mul_le_mul_left _ h9) h8
 unfold reachBytes at h7
 obtain ⟨l, h4, h5, h6⟩ := list_map (g := PV.str) (G := fun y => y.length ≤ maxLen) (fun x hx => (h2 x hx).strInv Tryd.underlying9)
 exact ⟨l, by rw [h1, h4, h5] <;> rfl, h6, by omega⟩

namespace lockTells
open Go.ChangeShapes Go.WideShapes Go.ChangeAt
theorem own : ownKnob Tryd.prog.godebug = none := by kernel_rfl
theorem laidOut : laidOutB Tryd.prog = true := by kernel_rfl
set_option maxRecDepth 100000 in
theorem lifted (os : Os) (started : os.Started) (H : Type) (enc : TypeId × Value → H) :
    ReturnsInHanded {} Tryd.checked os 3 .any (fun w args => (Rows.lockTellsSpec.pre enc Tryd.prog Tryd.f3 [] false w args ∧ laidMetH Tryd.prog laid2 w) ∧ sizedMet enc Tryd.prog Tryd.f3 (OpenSpec.ofChange Rows.lockTellsSpec) false w args) (Rows.lockTellsSpec.post enc Tryd.prog Tryd.f3 false true false false) := by
  refine returnsInHanded_of_change_and (C := Tryd.checked) (X := fun w _ => laidMetH Tryd.prog laid2 w) (fun _ _ _ hh h => h.of_heap hh) own started (by kernel_rfl) Tryd.func3 (ChangeSpec.witness_shaped (enc := enc) (C := Tryd.checked) (os := os) (X := fun w _ => laidMetH Tryd.prog laid2 w) false (wit os) #[.slice none 0 0, .agg #[.string ⟨#[]⟩, .int .i64 0, .int .i64 0], .int .i64 0, .slice none 0 0] 8 rfl (wit_shaped os _) (by kernel_rfl) (by kernel_rfl) (by kernel_rfl) (wit_met os _)) ?_
  intro W base args ds gs before hval0 hW hcnd hsz0 _ _
  have hval : ∀ (j : Nat) t v, Tryd.f3.params[j]? = some t → args[j]? = some v → Value.okWide Tryd.prog W .any base t v := hval0
  have hW' := hW
  obtain ⟨p, q, hA0, hV, rfl, hfz, hnd⟩ := hW
  have hA : DataW.TrodAll enc Tryd.prog W 0 (fun _ => true) true Tryd.f3.params.toList args.toList ds p := hA0
  rw [Tryd.params3] at hA hval
  obtain ⟨v0, vs0, d0, ds0, p0, q0, hargs, rfl, rfl, h0, r0⟩ := trodAll_cons hA
  obtain ⟨v1, vs1, d1, ds1, p1, q1, rfl, rfl, rfl, h1, r1⟩ := trodAll_cons r0
  obtain ⟨v2, vs2, d2, ds2, p2, q2, rfl, rfl, rfl, h2, r2⟩ := trodAll_cons r1
  obtain ⟨v3, vs3, d3, ds3, p3, q3, rfl, rfl, rfl, h3, r3⟩ := trodAll_cons r2
  obtain ⟨rfl, rfl, rfl⟩ := trodAll_nil r3
  obtain rfl : args = #[v0, v1, v2, v3] := by cases args; simp_all
  obtain ⟨rfl, rfl⟩ := trodVars_none hV
  have hwt := fun n hn => of_decide_eq_true (List.all_eq_true.1 hsz0 n hn)
  have hv0 := hval 0 22 v0 rfl rfl
  have k0 := h0
  have lt0 : ∀ x ∈ p0, x.block < W.heap.size := by obtain ⟨m, hm⟩ := k0; exact DataW.trod_lt m _ _ _ hm
  obtain ⟨fu0, hf0⟩ := h0
  obtain ⟨ps0, hs0, hr0, _⟩ := trod_shp (c := world0 W) (fun _ h => h) fu0 60 22 _ _ (by kernel_rfl) hf0 (fun n hn => hwt n (weightsEach_mem (i := 0) rfl rfl hn))
  obtain ⟨l, rfl, w_l⟩ := slc22_inv hs0
  have hR0 := rep_cell hr0 (notAgg hv0 (by kernel_rfl))
  have hv1 := hval 1 24 v1 rfl rfl
  have k1 := h1
  have lt1 : ∀ x ∈ p1, x.block < W.heap.size := by obtain ⟨m, hm⟩ := k1; exact DataW.trod_lt m _ _ _ hm
  obtain ⟨fu1, hf1⟩ := h1
  obtain ⟨ps1, hs1, hr1, _⟩ := trod_shp (c := world0 W) (fun _ h => h) fu1 60 24 _ _ (by kernel_rfl) hf1 (fun n hn => hwt n (weightsEach_mem (i := 1) rfl rfl hn))
  obtain ⟨x, rfl, w_x⟩ := GLock_inv hs1
  have hR1 : Rep _ _ (aGLock x) v1 := rep_agg hv1 (by kernel_rfl) hr1
  have hv2 := hval 2 3 v2 rfl rfl
  have k2 := h2
  have lt2 : ∀ x ∈ p2, x.block < W.heap.size := by obtain ⟨m, hm⟩ := k2; exact DataW.trod_lt m _ _ _ hm
  obtain ⟨fu2, hf2⟩ := h2
  obtain ⟨ps2, hs2, hr2, _⟩ := trod_shp (c := world0 W) (fun _ h => h) fu2 60 3 _ _ (by kernel_rfl) hf2 (fun n hn => hwt n (weightsEach_mem (i := 2) rfl rfl hn))
  obtain ⟨now, rfl, w_now⟩ := hs2.i64Inv Tryd.underlying3
  have hR2 := rep_cell hr2 (notAgg hv2 (by kernel_rfl))
  have hv3 := hval 3 25 v3 rfl rfl
  have k3 := h3
  have lt3 : ∀ x ∈ p3, x.block < W.heap.size := by obtain ⟨m, hm⟩ := k3; exact DataW.trod_lt m _ _ _ hm
  obtain ⟨fu3, hf3⟩ := h3
  obtain ⟨ps3, hs3, hr3, _⟩ := trod_shp (c := world0 W) (fun _ h => h) fu3 60 25 _ _ (by kernel_rfl) hf3 (fun n hn => hwt n (weightsEach_mem (i := 3) rfl rfl hn))
  obtain ⟨names, rfl, w_names⟩ := slc25_inv hs3
  have hR3 := rep_cell hr3 (notAgg hv3 (by kernel_rfl))
  clear hA0 hval0 hsz0
  refine (law_calls (tells37_yes l false x now names false) (vals := [v0, v1, v2, v3]) ⟨hR0, hR1, hR2, hR3, trivial⟩).mono fun e W' ⟨he, bel⟩ => ?_
  subst he
  exact ⟨_, rfl, _, _, _, [], _, [], hW', trodAll_mk1 (shut_bool Tryd.underlying4 _), (trodAll_cons_mk (Below.trod laidOut (by kernel_rfl) (of_decide_eq_true (by kernel_rfl)) k0 bel lt0) (trodAll_cons_mk (Below.trod laidOut (by kernel_rfl) (of_decide_eq_true (by kernel_rfl)) k1 bel lt1) (trodAll_cons_mk (Below.trod laidOut (by kernel_rfl) (of_decide_eq_true (by kernel_rfl)) k2 bel lt2) (trodAll_cons_mk (Below.trod laidOut (by kernel_rfl) (of_decide_eq_true (by kernel_rfl)) k3 bel lt3) trodAll_mk0)))), rfl, bel.frame _, fun h => by cases h⟩
theorem over : Rows.lockTellsRow.holds Tryd.pinned (OpenSpec.ofChange Rows.lockTellsSpec) :=
  OpenClaim.holds_of_wide 3 Tryd.f3 rfl rfl rfl rfl rfl rfl rfl ⟨rfl, rfl, rfl, rfl, rfl⟩ rfl rfl rfl rfl rfl (by kernel_rfl) Tryd.func3 (by kernel_rfl)
    (of_decide_eq_true (by kernel_rfl)) (by unfold Func.isWrapper; first | (rw [if_pos (by decide +kernel)]; kernel_rfl) | (rw [if_neg (by decide +kernel)]; exact ⟨rfl, rfl⟩))
    (fun os started H enc _ => lifted os started H enc)
end lockTells
theorem lockTellsCard_holds : Rows.LockTellsCardSaid :=
  Claim7.holds_tied_plain_at .later [] [.data, .pinned] true (true, "4ce64b662d36620ab5f7ae0f21d73363c3ec5eb66a15d53c88148c378e5a8dca") false lockTells.over (fun _ h => by cases h) (by kernel_rfl) (fun _ h => by cases h) lockTells_row_tie rfl ⟨rfl, rfl⟩ (by kernel_rfl) rfl
    (fun f fn hf hfn => by
      obtain rfl : f = 3 := Option.some.inj ((show Tryd.prog.funcNamed "barrow/barrowlaw37.LockTells" = some 3 by kernel_rfl).symm.trans hf) |>.symm
      obtain rfl : fn = Tryd.f3 := (Option.some.inj (Tryd.func3.symm.trans hfn)).symm
      exact ⟨by kernel_rfl, fun j t ht => by
        rw [Tryd.params3] at ht
        have hm : t ∈ [22, 24, 3, 25] := by simpa using Array.mem_of_getElem? ht
        have hall : ([22, 24, 3, 25].all fun u => !Tryd.prog.wantsStandIn u) = true := by kernel_rfl
        exact (show Tryd.prog.wantsStandIn t = false by simpa using List.all_eq_true.1 hall t hm)⟩)
    (by kernel_rfl)

namespace lockHolds
open Go.ChangeShapes Go.WideShapes Go.ChangeAt
theorem own : ownKnob Tryd.prog.godebug = none := by kernel_rfl
theorem laidOut : laidOutB Tryd.prog = true := by kernel_rfl
set_option maxRecDepth 100000 in
theorem lifted (os : Os) (started : os.Started) (H : Type) (enc : TypeId × Value → H) :
    ReturnsInHanded {} Tryd.checked os 4 .any (fun w args => (Rows.lockHoldsSpec.pre enc Tryd.prog Tryd.f4 [] false w args ∧ laidMetH Tryd.prog laid2 w) ∧ sizedMet enc Tryd.prog Tryd.f4 (OpenSpec.ofChange Rows.lockHoldsSpec) false w args) (Rows.lockHoldsSpec.post enc Tryd.prog Tryd.f4 false true false false) := by
  refine returnsInHanded_of_change_and (C := Tryd.checked) (X := fun w _ => laidMetH Tryd.prog laid2 w) (fun _ _ _ hh h => h.of_heap hh) own started (by kernel_rfl) Tryd.func4 (ChangeSpec.witness_shaped (enc := enc) (C := Tryd.checked) (os := os) (X := fun w _ => laidMetH Tryd.prog laid2 w) false (wit os) #[.slice none 0 0, .string ⟨#[]⟩, .int .i64 0, .int .i64 0, .int .i64 0] 8 rfl (wit_shaped os _) (by kernel_rfl) (by kernel_rfl) (by kernel_rfl) (wit_met os _)) ?_
  intro W base args ds gs before hval0 hW hcnd hsz0 _ _
  have hval : ∀ (j : Nat) t v, Tryd.f4.params[j]? = some t → args[j]? = some v → Value.okWide Tryd.prog W .any base t v := hval0
  have hW' := hW
  obtain ⟨p, q, hA0, hV, rfl, hfz, hnd⟩ := hW
  have hA : DataW.TrodAll enc Tryd.prog W 0 (fun _ => true) true Tryd.f4.params.toList args.toList ds p := hA0
  rw [Tryd.params4] at hA hval
  obtain ⟨v0, vs0, d0, ds0, p0, q0, hargs, rfl, rfl, h0, r0⟩ := trodAll_cons hA
  obtain ⟨v1, vs1, d1, ds1, p1, q1, rfl, rfl, rfl, h1, r1⟩ := trodAll_cons r0
  obtain ⟨v2, vs2, d2, ds2, p2, q2, rfl, rfl, rfl, h2, r2⟩ := trodAll_cons r1
  obtain ⟨v3, vs3, d3, ds3, p3, q3, rfl, rfl, rfl, h3, r3⟩ := trodAll_cons r2
  obtain ⟨v4, vs4, d4, ds4, p4, q4, rfl, rfl, rfl, h4, r4⟩ := trodAll_cons r3
  obtain ⟨rfl, rfl, rfl⟩ := trodAll_nil r4
  obtain rfl : args = #[v0, v1, v2, v3, v4] := by cases args; simp_all
  obtain ⟨rfl, rfl⟩ := trodVars_none hV
  have hwt := fun n hn => of_decide_eq_true (List.all_eq_true.1 hsz0 n hn)
  have hv0 := hval 0 22 v0 rfl rfl
  have k0 := h0
  have lt0 : ∀ x ∈ p0, x.block < W.heap.size := by obtain ⟨m, hm⟩ := k0; exact DataW.trod_lt m _ _ _ hm
  obtain ⟨fu0, hf0⟩ := h0
  obtain ⟨ps0, hs0, hr0, _⟩ := trod_shp (c := world0 W) (fun _ h => h) fu0 60 22 _ _ (by kernel_rfl) hf0 (fun n hn => hwt n (weightsEach_mem (i := 0) rfl rfl hn))
  obtain ⟨l, rfl, w_l⟩ := slc22_inv hs0
  have hR0 := rep_cell hr0 (notAgg hv0 (by kernel_rfl))
  have hv1 := hval 1 9 v1 rfl rfl
  have k1 := h1
  have lt1 : ∀ x ∈ p1, x.block < W.heap.size := by obtain ⟨m, hm⟩ := k1; exact DataW.trod_lt m _ _ _ hm
  obtain ⟨fu1, hf1⟩ := h1
  obtain ⟨ps1, hs1, hr1, _⟩ := trod_shp (c := world0 W) (fun _ h => h) fu1 60 9 _ _ (by kernel_rfl) hf1 (fun n hn => hwt n (weightsEach_mem (i := 1) rfl rfl hn))
  obtain ⟨name, rfl, w_name⟩ := hs1.strInv Tryd.underlying9
  have hR1 := rep_cell hr1 (notAgg hv1 (by kernel_rfl))
  have hv2 := hval 2 3 v2 rfl rfl
  have k2 := h2
  have lt2 : ∀ x ∈ p2, x.block < W.heap.size := by obtain ⟨m, hm⟩ := k2; exact DataW.trod_lt m _ _ _ hm
  obtain ⟨fu2, hf2⟩ := h2
  obtain ⟨ps2, hs2, hr2, _⟩ := trod_shp (c := world0 W) (fun _ h => h) fu2 60 3 _ _ (by kernel_rfl) hf2 (fun n hn => hwt n (weightsEach_mem (i := 2) rfl rfl hn))
  obtain ⟨foe, rfl, w_foe⟩ := hs2.i64Inv Tryd.underlying3
  have hR2 := rep_cell hr2 (notAgg hv2 (by kernel_rfl))
  have hv3 := hval 3 3 v3 rfl rfl
  have k3 := h3
  have lt3 : ∀ x ∈ p3, x.block < W.heap.size := by obtain ⟨m, hm⟩ := k3; exact DataW.trod_lt m _ _ _ hm
  obtain ⟨fu3, hf3⟩ := h3
  obtain ⟨ps3, hs3, hr3, _⟩ := trod_shp (c := world0 W) (fun _ h => h) fu3 60 3 _ _ (by kernel_rfl) hf3 (fun n hn => hwt n (weightsEach_mem (i := 3) rfl rfl hn))
  obtain ⟨u, rfl, w_u⟩ := hs3.i64Inv Tryd.underlying3
  have hR3 := rep_cell hr3 (notAgg hv3 (by kernel_rfl))
  have hv4 := hval 4 3 v4 rfl rfl
  have k4 := h4
  have lt4 : ∀ x ∈ p4, x.block < W.heap.size := by obtain ⟨m, hm⟩ := k4; exact DataW.trod_lt m _ _ _ hm
  obtain ⟨fu4, hf4⟩ := h4
  obtain ⟨ps4, hs4, hr4, _⟩ := trod_shp (c := world0 W) (fun _ h => h) fu4 60 3 _ _ (by kernel_rfl) hf4 (fun n hn => hwt n (weightsEach_mem (i := 4) rfl rfl hn))
  obtain ⟨now, rfl, w_now⟩ := hs4.i64Inv Tryd.underlying3
  have hR4 := rep_cell hr4 (notAgg hv4 (by kernel_rfl))
  clear hA0 hval0 hsz0
  refine (law_calls (holds37_yes l false name foe u now) (vals := [v0, v1, v2, v3, v4]) ⟨hR0, hR1, hR2, hR3, hR4, trivial⟩).mono fun e W' ⟨he, bel⟩ => ?_
  subst he
  exact ⟨_, rfl, _, _, _, [], _, [], hW', trodAll_mk1 (shut_bool Tryd.underlying4 _), (trodAll_cons_mk (Below.trod laidOut (by kernel_rfl) (of_decide_eq_true (by kernel_rfl)) k0 bel lt0) (trodAll_cons_mk (Below.trod laidOut (by kernel_rfl) (of_decide_eq_true (by kernel_rfl)) k1 bel lt1) (trodAll_cons_mk (Below.trod laidOut (by kernel_rfl) (of_decide_eq_true (by kernel_rfl)) k2 bel lt2) (trodAll_cons_mk (Below.trod laidOut (by kernel_rfl) (of_decide_eq_true (by kernel_rfl)) k3 bel lt3) (trodAll_cons_mk (Below.trod laidOut (by kernel_rfl) (of_decide_eq_true (by kernel_rfl)) k4 bel lt4) trodAll_mk0))))), rfl, bel.frame _, fun h => by cases h⟩
theorem over : Rows.lockHoldsRow.holds Tryd.pinned (OpenSpec.ofChange Rows.lockHoldsSpec) :=
  OpenClaim.holds_of_wide 4 Tryd.f4 rfl rfl rfl rfl rfl rfl rfl ⟨rfl, rfl, rfl, rfl, rfl⟩ rfl rfl rfl rfl rfl (by kernel_rfl) Tryd.func4 (by kernel_rfl)
    (of_decide_eq_true (by kernel_rfl)) (by unfold Func.isWrapper; first | (rw [if_pos (by decide +kernel)]; kernel_rfl) | (rw [if_neg (by decide +kernel)]; exact ⟨rfl, rfl⟩))
    (fun os started H enc _ => lifted os started H enc)
end lockHolds
theorem lockHoldsCard_holds : Rows.LockHoldsCardSaid :=
  Claim7.holds_tied_plain_at .later [] [.data, .pinned] true (true, "4ce64b662d36620ab5f7ae0f21d73363c3ec5eb66a15d53c88148c378e5a8dca") false lockHolds.over (fun _ h => by cases h) (by kernel_rfl) (fun _ h => by cases h) lockHolds_row_tie rfl ⟨rfl, rfl⟩ (by kernel_rfl) rfl
    (fun f fn hf hfn => by
      obtain rfl : f = 4 := Option.some.inj ((show Tryd.prog.funcNamed "barrow/barrowlaw37.LockHolds" = some 4 by kernel_rfl).symm.trans hf) |>.symm
      obtain rfl : fn = Tryd.f4 := (Option.some.inj (Tryd.func4.symm.trans hfn)).symm
      exact ⟨by kernel_rfl, fun j t ht => by
        rw [Tryd.params4] at ht
        have hm : t ∈ [22, 9, 3, 3, 3] := by simpa using Array.mem_of_getElem? ht
        have hall : ([22, 9, 3, 3, 3].all fun u => !Tryd.prog.wantsStandIn u) = true := by kernel_rfl
        exact (show Tryd.prog.wantsStandIn t = false by simpa using List.all_eq_true.1 hall t hm)⟩)
    (by kernel_rfl)

namespace lockJoins
open Go.ChangeShapes Go.WideShapes Go.ChangeAt
theorem own : ownKnob Tryd.prog.godebug = none := by kernel_rfl
theorem laidOut : laidOutB Tryd.prog = true := by kernel_rfl
set_option maxRecDepth 100000 in
theorem lifted (os : Os) (started : os.Started) (H : Type) (enc : TypeId × Value → H) :
    ReturnsInHanded {} Tryd.checked os 5 .any (fun w args => (Rows.lockJoinsSpec.pre enc Tryd.prog Tryd.f5 [] false w args ∧ laidMetH Tryd.prog laid2 w) ∧ sizedMet enc Tryd.prog Tryd.f5 (OpenSpec.ofChange Rows.lockJoinsSpec) false w args) (Rows.lockJoinsSpec.post enc Tryd.prog Tryd.f5 false true false false) := by
  refine returnsInHanded_of_change_and (C := Tryd.checked) (X := fun w _ => laidMetH Tryd.prog laid2 w) (fun _ _ _ hh h => h.of_heap hh) own started (by kernel_rfl) Tryd.func5 (ChangeSpec.witness_shaped (enc := enc) (C := Tryd.checked) (os := os) (X := fun w _ => laidMetH Tryd.prog laid2 w) false (wit os) #[.slice none 0 0, .slice none 0 0, .int .i64 0, .int .i64 0, .int .i64 0] 8 rfl (wit_shaped os _) (by kernel_rfl) (by kernel_rfl) (by kernel_rfl) (wit_met os _)) ?_
  intro W base args ds gs before hval0 hW hcnd hsz0 _ _
  have hval : ∀ (j : Nat) t v, Tryd.f5.params[j]? = some t → args[j]? = some v → Value.okWide Tryd.prog W .any base t v := hval0
  have hW' := hW
  obtain ⟨p, q, hA0, hV, rfl, hfz, hnd⟩ := hW
  have hA : DataW.TrodAll enc Tryd.prog W 0 (fun _ => true) true Tryd.f5.params.toList args.toList ds p := hA0
  rw [Tryd.params5] at hA hval
  obtain ⟨v0, vs0, d0, ds0, p0, q0, hargs, rfl, rfl, h0, r0⟩ := trodAll_cons hA
  obtain ⟨v1, vs1, d1, ds1, p1, q1, rfl, rfl, rfl, h1, r1⟩ := trodAll_cons r0
  obtain ⟨v2, vs2, d2, ds2, p2, q2, rfl, rfl, rfl, h2, r2⟩ := trodAll_cons r1
  obtain ⟨v3, vs3, d3, ds3, p3, q3, rfl, rfl, rfl, h3, r3⟩ := trodAll_cons r2
  obtain ⟨v4, vs4, d4, ds4, p4, q4, rfl, rfl, rfl, h4, r4⟩ := trodAll_cons r3
  obtain ⟨rfl, rfl, rfl⟩ := trodAll_nil r4
  obtain rfl : args = #[v0, v1, v2, v3, v4] := by cases args; simp_all
  obtain ⟨rfl, rfl⟩ := trodVars_none hV
  have hwt := fun n hn => of_decide_eq_true (List.all_eq_true.1 hsz0 n hn)
  have hv0 := hval 0 22 v0 rfl rfl
  have k0 := h0
  have lt0 : ∀ x ∈ p0, x.block < W.heap.size := by obtain ⟨m, hm⟩ := k0; exact DataW.trod_lt m _ _ _ hm
  obtain ⟨fu0, hf0⟩ := h0
  obtain ⟨ps0, hs0, hr0, _⟩ := trod_shp (c := world0 W) (fun _ h => h) fu0 60 22 _ _ (by kernel_rfl) hf0 (fun n hn => hwt n (weightsEach_mem (i := 0) rfl rfl hn))
  obtain ⟨a, rfl, w_a⟩ := slc22_inv hs0
  have hR0 := rep_cell hr0 (notAgg hv0 (by kernel_rfl))
  have hv1 := hval 1 22 v1 rfl rfl
  have k1 := h1
  have lt1 : ∀ x ∈ p1, x.block < W.heap.size := by obtain ⟨m, hm⟩ := k1; exact DataW.trod_lt m _ _ _ hm
  obtain ⟨fu1, hf1⟩ := h1
  obtain ⟨ps1, hs1, hr1, _⟩ := trod_shp (c := world0 W) (fun _ h => h) fu1 60 22 _ _ (by kernel_rfl) hf1 (fun n hn => hwt n (weightsEach_mem (i := 1) rfl rfl hn))
  obtain ⟨b, rfl, w_b⟩ := slc22_inv hs1
  have hR1 := rep_cell hr1 (notAgg hv1 (by kernel_rfl))
  have hv2 := hval 2 3 v2 rfl rfl
  have k2 := h2
  have lt2 : ∀ x ∈ p2, x.block < W.heap.size := by obtain ⟨m, hm⟩ := k2; exact DataW.trod_lt m _ _ _ hm
  obtain ⟨fu2, hf2⟩ := h2
  obtain ⟨ps2, hs2, hr2, _⟩ := trod_shp (c := world0 W) (fun _ h => h) fu2 60 3 _ _ (by kernel_rfl) hf2 (fun n hn => hwt n (weightsEach_mem (i := 2) rfl rfl hn))
  obtain ⟨now, rfl, w_now⟩ := hs2.i64Inv Tryd.underlying3
  have hR2 := rep_cell hr2 (notAgg hv2 (by kernel_rfl))
  have hv3 := hval 3 3 v3 rfl rfl
  have k3 := h3
  have lt3 : ∀ x ∈ p3, x.block < W.heap.size := by obtain ⟨m, hm⟩ := k3; exact DataW.trod_lt m _ _ _ hm
  obtain ⟨fu3, hf3⟩ := h3
  obtain ⟨ps3, hs3, hr3, _⟩ := trod_shp (c := world0 W) (fun _ h => h) fu3 60 3 _ _ (by kernel_rfl) hf3 (fun n hn => hwt n (weightsEach_mem (i := 3) rfl rfl hn))
  obtain ⟨period, rfl, w_period⟩ := hs3.i64Inv Tryd.underlying3
  have hR3 := rep_cell hr3 (notAgg hv3 (by kernel_rfl))
  have hv4 := hval 4 3 v4 rfl rfl
  have k4 := h4
  have lt4 : ∀ x ∈ p4, x.block < W.heap.size := by obtain ⟨m, hm⟩ := k4; exact DataW.trod_lt m _ _ _ hm
  obtain ⟨fu4, hf4⟩ := h4
  obtain ⟨ps4, hs4, hr4, _⟩ := trod_shp (c := world0 W) (fun _ h => h) fu4 60 3 _ _ (by kernel_rfl) hf4 (fun n hn => hwt n (weightsEach_mem (i := 4) rfl rfl hn))
  obtain ⟨offset, rfl, w_offset⟩ := hs4.i64Inv Tryd.underlying3
  have hR4 := rep_cell hr4 (notAgg hv4 (by kernel_rfl))
  clear hA0 hval0 hsz0
  refine (law_calls (joins37_yes a false b false now period offset) (vals := [v0, v1, v2, v3, v4]) ⟨hR0, hR1, hR2, hR3, hR4, trivial⟩).mono fun e W' ⟨he, bel⟩ => ?_
  subst he
  exact ⟨_, rfl, _, _, _, [], _, [], hW', trodAll_mk1 (shut_bool Tryd.underlying4 _), (trodAll_cons_mk (Below.trod laidOut (by kernel_rfl) (of_decide_eq_true (by kernel_rfl)) k0 bel lt0) (trodAll_cons_mk (Below.trod laidOut (by kernel_rfl) (of_decide_eq_true (by kernel_rfl)) k1 bel lt1) (trodAll_cons_mk (Below.trod laidOut (by kernel_rfl) (of_decide_eq_true (by kernel_rfl)) k2 bel lt2) (trodAll_cons_mk (Below.trod laidOut (by kernel_rfl) (of_decide_eq_true (by kernel_rfl)) k3 bel lt3) (trodAll_cons_mk (Below.trod laidOut (by kernel_rfl) (of_decide_eq_true (by kernel_rfl)) k4 bel lt4) trodAll_mk0))))), rfl, bel.frame _, fun h => by cases h⟩
theorem over : Rows.lockJoinsRow.holds Tryd.pinned (OpenSpec.ofChange Rows.lockJoinsSpec) :=
  OpenClaim.holds_of_wide 5 Tryd.f5 rfl rfl rfl rfl rfl rfl rfl ⟨rfl, rfl, rfl, rfl, rfl⟩ rfl rfl rfl rfl rfl (by kernel_rfl) Tryd.func5 (by kernel_rfl)
    (of_decide_eq_true (by kernel_rfl)) (by unfold Func.isWrapper; first | (rw [if_pos (by decide +kernel)]; kernel_rfl) | (rw [if_neg (by decide +kernel)]; exact ⟨rfl, rfl⟩))
    (fun os started H enc _ => lifted os started H enc)
end lockJoins
theorem lockJoinsCard_holds : Rows.LockJoinsCardSaid :=
  Claim7.holds_tied_plain_at .later [] [.data, .pinned] true (true, "4ce64b662d36620ab5f7ae0f21d73363c3ec5eb66a15d53c88148c378e5a8dca") false lockJoins.over (fun _ h => by cases h) (by kernel_rfl) (fun _ h => by cases h) lockJoins_row_tie rfl ⟨rfl, rfl⟩ (by kernel_rfl) rfl
    (fun f fn hf hfn => by
      obtain rfl : f = 5 := Option.some.inj ((show Tryd.prog.funcNamed "barrow/barrowlaw37.LockJoins" = some 5 by kernel_rfl).symm.trans hf) |>.symm
      obtain rfl : fn = Tryd.f5 := (Option.some.inj (Tryd.func5.symm.trans hfn)).symm
      exact ⟨by kernel_rfl, fun j t ht => by
        rw [Tryd.params5] at ht
        have hm : t ∈ [22, 22, 3, 3, 3] := by simpa using Array.mem_of_getElem? ht
        have hall : ([22, 22, 3, 3, 3].all fun u => !Tryd.prog.wantsStandIn u) = true := by kernel_rfl
        exact (show Tryd.prog.wantsStandIn t = false by simpa using List.all_eq_true.1 hall t hm)⟩)
    (by kernel_rfl)

namespace lockBoth
open Go.ChangeShapes Go.WideShapes Go.ChangeAt
theorem own : ownKnob Tryd.prog.godebug = none := by kernel_rfl
theorem laidOut : laidOutB Tryd.prog = true := by kernel_rfl
set_option maxRecDepth 100000 in
theorem lifted (os : Os) (started : os.Started) (H : Type) (enc : TypeId × Value → H) :
    ReturnsInHanded {} Tryd.checked os 6 .any (fun w args => (Rows.lockBothSpec.pre enc Tryd.prog Tryd.f6 [] false w args ∧ laidMetH Tryd.prog laid2 w) ∧ sizedMet enc Tryd.prog Tryd.f6 (OpenSpec.ofChange Rows.lockBothSpec) false w args) (Rows.lockBothSpec.post enc Tryd.prog Tryd.f6 false true false false) := by
  refine returnsInHanded_of_change_and (C := Tryd.checked) (X := fun w _ => laidMetH Tryd.prog laid2 w) (fun _ _ _ hh h => h.of_heap hh) own started (by kernel_rfl) Tryd.func6 (ChangeSpec.witness_shaped (enc := enc) (C := Tryd.checked) (os := os) (X := fun w _ => laidMetH Tryd.prog laid2 w) false (wit os) #[.slice none 0 0, .slice none 0 0, .int .i64 0, .int .i64 0, .int .i64 0] 8 rfl (wit_shaped os _) (by kernel_rfl) (by kernel_rfl) (by kernel_rfl) (wit_met os _)) ?_
  intro W base args ds gs before hval0 hW hcnd hsz0 _ _
  have hval : ∀ (j : Nat) t v, Tryd.f6.params[j]? = some t → args[j]? = some v → Value.okWide Tryd.prog W .any base t v := hval0
  have hW' := hW
  obtain ⟨p, q, hA0, hV, rfl, hfz, hnd⟩ := hW
  have hA : DataW.TrodAll enc Tryd.prog W 0 (fun _ => true) true Tryd.f6.params.toList args.toList ds p := hA0
  rw [Tryd.params6] at hA hval
  obtain ⟨v0, vs0, d0, ds0, p0, q0, hargs, rfl, rfl, h0, r0⟩ := trodAll_cons hA
  obtain ⟨v1, vs1, d1, ds1, p1, q1, rfl, rfl, rfl, h1, r1⟩ := trodAll_cons r0
  obtain ⟨v2, vs2, d2, ds2, p2, q2, rfl, rfl, rfl, h2, r2⟩ := trodAll_cons r1
  obtain ⟨v3, vs3, d3, ds3, p3, q3, rfl, rfl, rfl, h3, r3⟩ := trodAll_cons r2
  obtain ⟨v4, vs4, d4, ds4, p4, q4, rfl, rfl, rfl, h4, r4⟩ := trodAll_cons r3
  obtain ⟨rfl, rfl, rfl⟩ := trodAll_nil r4
  obtain rfl : args = #[v0, v1, v2, v3, v4] := by cases args; simp_all
  obtain ⟨rfl, rfl⟩ := trodVars_none hV
  have hwt := fun n hn => of_decide_eq_true (List.all_eq_true.1 hsz0 n hn)
  have hv0 := hval 0 22 v0 rfl rfl
  have k0 := h0
  have lt0 : ∀ x ∈ p0, x.block < W.heap.size := by obtain ⟨m, hm⟩ := k0; exact DataW.trod_lt m _ _ _ hm
  obtain ⟨fu0, hf0⟩ := h0
  obtain ⟨ps0, hs0, hr0, _⟩ := trod_shp (c := world0 W) (fun _ h => h) fu0 60 22 _ _ (by kernel_rfl) hf0 (fun n hn => hwt n (weightsEach_mem (i := 0) rfl rfl hn))
  obtain ⟨a, rfl, w_a⟩ := slc22_inv hs0
  have hR0 := rep_cell hr0 (notAgg hv0 (by kernel_rfl))
  have hv1 := hval 1 22 v1 rfl rfl
  have k1 := h1
  have lt1 : ∀ x ∈ p1, x.block < W.heap.size := by obtain ⟨m, hm⟩ := k1; exact DataW.trod_lt m _ _ _ hm
  obtain ⟨fu1, hf1⟩ := h1
  obtain ⟨ps1, hs1, hr1, _⟩ := trod_shp (c := world0 W) (fun _ h => h) fu1 60 22 _ _ (by kernel_rfl) hf1 (fun n hn => hwt n (weightsEach_mem (i := 1) rfl rfl hn))
  obtain ⟨b, rfl, w_b⟩ := slc22_inv hs1
  have hR1 := rep_cell hr1 (notAgg hv1 (by kernel_rfl))
  have hv2 := hval 2 3 v2 rfl rfl
  have k2 := h2
  have lt2 : ∀ x ∈ p2, x.block < W.heap.size := by obtain ⟨m, hm⟩ := k2; exact DataW.trod_lt m _ _ _ hm
  obtain ⟨fu2, hf2⟩ := h2
  obtain ⟨ps2, hs2, hr2, _⟩ := trod_shp (c := world0 W) (fun _ h => h) fu2 60 3 _ _ (by kernel_rfl) hf2 (fun n hn => hwt n (weightsEach_mem (i := 2) rfl rfl hn))
  obtain ⟨now, rfl, w_now⟩ := hs2.i64Inv Tryd.underlying3
  have hR2 := rep_cell hr2 (notAgg hv2 (by kernel_rfl))
  have hv3 := hval 3 3 v3 rfl rfl
  have k3 := h3
  have lt3 : ∀ x ∈ p3, x.block < W.heap.size := by obtain ⟨m, hm⟩ := k3; exact DataW.trod_lt m _ _ _ hm
  obtain ⟨fu3, hf3⟩ := h3
  obtain ⟨ps3, hs3, hr3, _⟩ := trod_shp (c := world0 W) (fun _ h => h) fu3 60 3 _ _ (by kernel_rfl) hf3 (fun n hn => hwt n (weightsEach_mem (i := 3) rfl rfl hn))
  obtain ⟨period, rfl, w_period⟩ := hs3.i64Inv Tryd.underlying3
  have hR3 := rep_cell hr3 (notAgg hv3 (by kernel_rfl))
  have hv4 := hval 4 3 v4 rfl rfl
  have k4 := h4
  have lt4 : ∀ x ∈ p4, x.block < W.heap.size := by obtain ⟨m, hm⟩ := k4; exact DataW.trod_lt m _ _ _ hm
  obtain ⟨fu4, hf4⟩ := h4
  obtain ⟨ps4, hs4, hr4, _⟩ := trod_shp (c := world0 W) (fun _ h => h) fu4 60 3 _ _ (by kernel_rfl) hf4 (fun n hn => hwt n (weightsEach_mem (i := 4) rfl rfl hn))
  obtain ⟨offset, rfl, w_offset⟩ := hs4.i64Inv Tryd.underlying3
  have hR4 := rep_cell hr4 (notAgg hv4 (by kernel_rfl))
  clear hA0 hval0 hsz0
  refine (law_calls (both37_yes a false b false now period offset) (vals := [v0, v1, v2, v3, v4]) ⟨hR0, hR1, hR2, hR3, hR4, trivial⟩).mono fun e W' ⟨he, bel⟩ => ?_
  subst he
  exact ⟨_, rfl, _, _, _, [], _, [], hW', trodAll_mk1 (shut_bool Tryd.underlying4 _), (trodAll_cons_mk (Below.trod laidOut (by kernel_rfl) (of_decide_eq_true (by kernel_rfl)) k0 bel lt0) (trodAll_cons_mk (Below.trod laidOut (by kernel_rfl) (of_decide_eq_true (by kernel_rfl)) k1 bel lt1) (trodAll_cons_mk (Below.trod laidOut (by kernel_rfl) (of_decide_eq_true (by kernel_rfl)) k2 bel lt2) (trodAll_cons_mk (Below.trod laidOut (by kernel_rfl) (of_decide_eq_true (by kernel_rfl)) k3 bel lt3) (trodAll_cons_mk (Below.trod laidOut (by kernel_rfl) (of_decide_eq_true (by kernel_rfl)) k4 bel lt4) trodAll_mk0))))), rfl, bel.frame _, fun h => by cases h⟩
theorem over : Rows.lockBothRow.holds Tryd.pinned (OpenSpec.ofChange Rows.lockBothSpec) :=
  OpenClaim.holds_of_wide 6 Tryd.f6 rfl rfl rfl rfl rfl rfl rfl ⟨rfl, rfl, rfl, rfl, rfl⟩ rfl rfl rfl rfl rfl (by kernel_rfl) Tryd.func6 (by kernel_rfl)
    (of_decide_eq_true (by kernel_rfl)) (by unfold Func.isWrapper; first | (rw [if_pos (by decide +kernel)]; kernel_rfl) | (rw [if_neg (by decide +kernel)]; exact ⟨rfl, rfl⟩))
    (fun os started H enc _ => lifted os started H enc)
end lockBoth
theorem lockBothCard_holds : Rows.LockBothCardSaid :=
  Claim7.holds_tied_plain_at .later [] [.data, .pinned] true (true, "4ce64b662d36620ab5f7ae0f21d73363c3ec5eb66a15d53c88148c378e5a8dca") false lockBoth.over (fun _ h => by cases h) (by kernel_rfl) (fun _ h => by cases h) lockBoth_row_tie rfl ⟨rfl, rfl⟩ (by kernel_rfl) rfl
    (fun f fn hf hfn => by
      obtain rfl : f = 6 := Option.some.inj ((show Tryd.prog.funcNamed "barrow/barrowlaw37.LockBoth" = some 6 by kernel_rfl).symm.trans hf) |>.symm
      obtain rfl : fn = Tryd.f6 := (Option.some.inj (Tryd.func6.symm.trans hfn)).symm
      exact ⟨by kernel_rfl, fun j t ht => by
        rw [Tryd.params6] at ht
        have hm : t ∈ [22, 22, 3, 3, 3] := by simpa using Array.mem_of_getElem? ht
        have hall : ([22, 22, 3, 3, 3].all fun u => !Tryd.prog.wantsStandIn u) = true := by kernel_rfl
        exact (show Tryd.prog.wantsStandIn t = false by simpa using List.all_eq_true.1 hall t hm)⟩)
    (by kernel_rfl)
end Go.Proofs.YtnboadipofkcjaaDoor

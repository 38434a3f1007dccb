import Derived.Test.YtbfmonajbfljmaaDoorTie
import Derived.Test.YtbfmonajbfljmaaDoorCards
import Derived.LaidMore
import Derived.OpenShut
import Derived.Stop.Joined
import Derived.SevenTiedAt
import Derived.Test.YtbfmonajbfljmaaDoorRows
import Derived.Test.YtbfmonajbfljmaaDoorVmZB
import Derived.Test.YtbfmonajbfljmaaDoorPlain25
import Derived.WalkKit
namespace Go.Proofs.YtbfmonajbfljmaaDoor
open Go Go.RowKit Go.Proofs.YtbfmonajbfljmaaDoorVm
set_option linter.all false
set_option maxHeartbeats 400000
open Go.ChangeShapes Go.WideShapes Go.ChangeAt
set_option maxRecDepth 100000
abbrev laid2 : List (String × DataW Unit) := [("unicode/utf8.acceptRanges", Rows.laid_unicode_utf8_acceptRanges), ("unicode/utf8.first", Rows.laid_unicode_utf8_first)]
def tab : Array Value := (Pinned.utf8FirstZ.map fun (z : Nat) => Value.int .u8 (z : Int)).toArray
noncomputable def wit (os : Os) : World := { World.doorLaid Tryd.prog 400 os with heap := (World.doorLaid Tryd.prog 400 os).heap.setIfInBounds 0 (.cells tab 115 (0, 0)) }
theorem wit_shaped (os : Os) (args : Array Value) : ((wit os).forCall (fun _ _ => 0) ⟨#[], args, []⟩).Shaped Tryd.prog := World.shaped_of_RefB (by kernel_rfl) (by kernel_rfl)
theorem wit_met (os : Os) (args : Array Value) : laidMetH Tryd.prog laid2 ((wit os).forCall (fun _ _ => 0) ⟨#[], args, []⟩).memory :=
  laidMetH_of_parts3 (fuel := 8) (laidMet_of_run' 8 (by kernel_rfl) (by kernel_rfl)) (by kernel_rfl) (by kernel_rfl)

theorem A9int_inv {ps : List PV} (h : Shp Tryd.prog 58 ps) : ∃ x : A9int, ps = encA9int x ∧ wfA9int x := by
 obtain ⟨xs, rfl, hl, hx⟩ := h.arrInv Tryd.underlying58
 match xs, hl, hx with
 | [a0, a1, a2, a3, a4, a5, a6, a7, a8], _, hx =>
  obtain ⟨n0, rfl, w0⟩ := (hx a0 (by simp)).i64Inv Tryd.underlying3
  obtain ⟨n1, rfl, w1⟩ := (hx a1 (by simp)).i64Inv Tryd.underlying3
  obtain ⟨n2, rfl, w2⟩ := (hx a2 (by simp)).i64Inv Tryd.underlying3
  obtain ⟨n3, rfl, w3⟩ := (hx a3 (by simp)).i64Inv Tryd.underlying3
  obtain ⟨n4, rfl, w4⟩ := (hx a4 (by simp)).i64Inv Tryd.underlying3
  obtain ⟨n5, rfl, w5⟩ := (hx a5 (by simp)).i64Inv Tryd.underlying3
  obtain ⟨n6, rfl, w6⟩ := (hx a6 (by simp)).i64Inv Tryd.underlying3
  obtain ⟨n7, rfl, w7⟩ := (hx a7 (by simp)).i64Inv Tryd.underlying3
  obtain ⟨n8, rfl, w8⟩ := (hx a8 (by simp)).i64Inv Tryd.underlying3
  exact ⟨⟨n0, n1, n2, n3, n4, n5, n6, n7, n8⟩, rfl, by unfold wfA9int; exact ⟨w0, w1, w2, w3, w4, w5, w6, w7, w8⟩⟩

theorem GSeen_inv {ps : List PV} (h : Shp Tryd.prog 60 ps) : ∃ x : GSeen, ps = encGSeen x ∧ wfGSeen x := by
 obtain ⟨xs, rfl, hl, hx⟩ := h.structInv Tryd.underlying60
 match xs, hl, hx with
 | [a0, a1, a2], _, hx =>
  obtain ⟨n0, rfl, w0⟩ := (hx 0 _ _ rfl rfl).i64Inv Tryd.underlying3
  obtain ⟨n1, rfl, w1⟩ := (hx 1 _ _ rfl rfl).strInv Tryd.underlying9
  obtain ⟨n2, rfl, w2⟩ := A9int_inv (hx 2 _ _ rfl rfl)
  exact ⟨⟨n0, n1, n2⟩, rfl, by unfold wfGSeen; exact ⟨w0, w1, w2⟩⟩

theorem slc22_inv {ps : List PV} (h : Shp Tryd.prog 22 ps) : ∃ l : List GSeen, ps = [.slc l.length false (l.flatMap encGSeen)] ∧ (∀ y ∈ l, wfGSeen y) ∧ l.length ≤ 140737488355328 := by
 obtain ⟨xs, h1, h2, h3, h8⟩ := h.slcInv Tryd.underlying22
 have h9 : 1 ≤ Tryd.prog.bytesOf 60 := of_decide_eq_true (by kernel_rfl)
 have h7 : xs.length * 1 ≤ reachBytes := Nat.le_trans (Nat.mul_le_mul_left _ h9) h8
 unfold reachBytes at h7
 obtain ⟨l, h4, h5, h6⟩ := list_of (enc := encGSeen) (G := fun y => wfGSeen y) (fun x hx => GSeen_inv (h2 x hx))
 exact ⟨l, by rw [h1, h4, h5] <;> rfl, h6, by omega⟩

theorem A5int_inv {ps : List PV} (h : Shp Tryd.prog 68 ps) : ∃ x : A5int, ps = encA5int x ∧ wfA5int x := by
 obtain ⟨xs, rfl, hl, hx⟩ := h.arrInv Tryd.underlying68
 match xs, hl, hx with
 | [a0, a1, a2, a3, a4], _, hx =>
  obtain ⟨n0, rfl, w0⟩ := (hx a0 (by simp)).i64Inv Tryd.underlying3
  obtain ⟨n1, rfl, w1⟩ := (hx a1 (by simp)).i64Inv Tryd.underlying3
  obtain ⟨n2, rfl, w2⟩ := (hx a2 (by simp)).i64Inv Tryd.underlying3
  obtain ⟨n3, rfl, w3⟩ := (hx a3 (by simp)).i64Inv Tryd.underlying3
  obtain ⟨n4, rfl, w4⟩ := (hx a4 (by simp)).i64Inv Tryd.underlying3
  exact ⟨⟨n0, n1, n2, n3, n4⟩, rfl, by unfold wfA5int; exact ⟨w0, w1, w2, w3, w4⟩⟩

theorem slc23_inv {ps : List PV} (h : Shp Tryd.prog 23 ps) : ∃ l : List A5int, ps = [.slc l.length false (l.flatMap encA5int)] ∧ (∀ y ∈ l, wfA5int y) ∧ l.length ≤ 140737488355328 := by
 obtain ⟨xs, h1, h2, h3, h8⟩ := h.slcInv Tryd.underlying23
 have h9 : 1 ≤ Tryd.prog.bytesOf 68 := of_decide_eq_true (by kernel_rfl)
 have h7 : xs.length * 1 ≤ reachBytes := Nat.le_trans (Nat.mul_le_mul_left _ h9) h8
 unfold reachBytes at h7
 obtain ⟨l, h4, h5, h6⟩ := list_of (enc := encA5int) (G := fun y => wfA5int y) (fun x hx => A5int_inv (h2 x hx))
 exact ⟨l, by rw [h1, h4, h5] <;> rfl, h6, by omega⟩

theorem GWorld_inv {ps : List PV} (h : Shp Tryd.prog 25 ps) : ∃ x : GWorld, ps = encGWorld x ∧ wfGWorld x := by
 obtain ⟨xs, rfl, hl, hx⟩ := h.structInv Tryd.underlying25
 match xs, hl, hx with
 | [a0, a1, a2, a3], _, hx =>
  obtain ⟨n0, rfl, w0⟩ := (hx 0 _ _ rfl rfl).i64Inv Tryd.underlying3
  obtain ⟨n1, rfl, w1⟩ := slc22_inv (hx 1 _ _ rfl rfl)
  obtain ⟨n2, rfl, w2⟩ := slc23_inv (hx 2 _ _ rfl rfl)
  obtain ⟨n3, rfl⟩ := (hx 3 _ _ rfl rfl).boolInv Tryd.underlying4
  exact ⟨⟨n0, n1, n2, n3⟩, rfl, by unfold wfGWorld; exact ⟨w0, w1, w2⟩⟩

namespace viewFollows
open Go.ChangeShapes Go.WideShapes Go.ChangeAt
theorem own : ownKnob Tryd.prog.godebug = none := by kernel_rfl
theorem laidOut : laidOutB Tryd.prog = true := by kernel_rfl
set_option maxRecDepth 100000 in
theorem lifted (os : Os) (started : os.Started) (H : Type) (enc : TypeId × Value → H) :
    ReturnsInHanded {} Tryd.checked os 3 .any (fun w args => (Rows.viewFollowsSpec.pre enc Tryd.prog Tryd.f3 [] false w args ∧ laidMetH Tryd.prog laid2 w) ∧ sizedMet enc Tryd.prog Tryd.f3 (OpenSpec.ofChange Rows.viewFollowsSpec) false w args) (Rows.viewFollowsSpec.post enc Tryd.prog Tryd.f3 false true false false) := by
  refine returnsInHanded_of_change_and (C := Tryd.checked) (X := fun w _ => laidMetH Tryd.prog laid2 w) (fun _ _ _ hh h => h.of_heap hh) own started (by kernel_rfl) Tryd.func3 (ChangeSpec.witness_shaped (enc := enc) (C := Tryd.checked) (os := os) (X := fun w _ => laidMetH Tryd.prog laid2 w) false (wit os) #[.agg #[.int .i64 0, .slice none 0 0, .slice none 0 0, .bool false], .slice none 0 0, .slice none 0 0, .int .i64 0] 8 rfl (wit_shaped os _) (by kernel_rfl) (by kernel_rfl) (by kernel_rfl) (wit_met os _)) ?_
  intro W base args ds gs before hval0 hW hcnd hsz0 _ _
  have hval : ∀ (j : Nat) t v, Tryd.f3.params[j]? = some t → args[j]? = some v → Value.okWide Tryd.prog W .any base t v := hval0
  have hW' := hW
  obtain ⟨p, q, hA0, hV, rfl, hfz, hnd⟩ := hW
  have hA : DataW.TrodAll enc Tryd.prog W 0 (fun _ => true) true Tryd.f3.params.toList args.toList ds p := hA0
  rw [Tryd.params3] at hA hval
  obtain ⟨v0, vs0, d0, ds0, p0, q0, hargs, rfl, rfl, h0, r0⟩ := trodAll_cons hA
  obtain ⟨v1, vs1, d1, ds1, p1, q1, rfl, rfl, rfl, h1, r1⟩ := trodAll_cons r0
  obtain ⟨v2, vs2, d2, ds2, p2, q2, rfl, rfl, rfl, h2, r2⟩ := trodAll_cons r1
  obtain ⟨v3, vs3, d3, ds3, p3, q3, rfl, rfl, rfl, h3, r3⟩ := trodAll_cons r2
  obtain ⟨rfl, rfl, rfl⟩ := trodAll_nil r3
  obtain rfl : args = #[v0, v1, v2, v3] := by cases args; simp_all
  obtain ⟨rfl, rfl⟩ := trodVars_none hV
  have hwt := fun n hn => of_decide_eq_true (List.all_eq_true.1 hsz0 n hn)
  have hv0 := hval 0 25 v0 rfl rfl
  have k0 := h0
  have lt0 : ∀ x ∈ p0, x.block < W.heap.size := by obtain ⟨m, hm⟩ := k0; exact DataW.trod_lt m _ _ _ hm
  obtain ⟨fu0, hf0⟩ := h0
  obtain ⟨ps0, hs0, hr0, _⟩ := trod_shp (c := world0 W) (fun _ h => h) fu0 60 25 _ _ (by kernel_rfl) hf0 (fun n hn => hwt n (weightsEach_mem (i := 0) rfl rfl hn))
  obtain ⟨w, rfl, w_w⟩ := GWorld_inv hs0
  have hR0 : Rep _ _ (aGWorld w) v0 := rep_agg hv0 (by kernel_rfl) hr0
  have hv1 := hval 1 22 v1 rfl rfl
  have k1 := h1
  have lt1 : ∀ x ∈ p1, x.block < W.heap.size := by obtain ⟨m, hm⟩ := k1; exact DataW.trod_lt m _ _ _ hm
  obtain ⟨fu1, hf1⟩ := h1
  obtain ⟨ps1, hs1, hr1, _⟩ := trod_shp (c := world0 W) (fun _ h => h) fu1 60 22 _ _ (by kernel_rfl) hf1 (fun n hn => hwt n (weightsEach_mem (i := 1) rfl rfl hn))
  obtain ⟨old, rfl, w_old⟩ := slc22_inv hs1
  have hR1 := rep_cell hr1 (notAgg hv1 (by kernel_rfl))
  have hv2 := hval 2 22 v2 rfl rfl
  have k2 := h2
  have lt2 : ∀ x ∈ p2, x.block < W.heap.size := by obtain ⟨m, hm⟩ := k2; exact DataW.trod_lt m _ _ _ hm
  obtain ⟨fu2, hf2⟩ := h2
  obtain ⟨ps2, hs2, hr2, _⟩ := trod_shp (c := world0 W) (fun _ h => h) fu2 60 22 _ _ (by kernel_rfl) hf2 (fun n hn => hwt n (weightsEach_mem (i := 2) rfl rfl hn))
  obtain ⟨now, rfl, w_now⟩ := slc22_inv hs2
  have hR2 := rep_cell hr2 (notAgg hv2 (by kernel_rfl))
  have hv3 := hval 3 3 v3 rfl rfl
  have k3 := h3
  have lt3 : ∀ x ∈ p3, x.block < W.heap.size := by obtain ⟨m, hm⟩ := k3; exact DataW.trod_lt m _ _ _ hm
  obtain ⟨fu3, hf3⟩ := h3
  obtain ⟨ps3, hs3, hr3, _⟩ := trod_shp (c := world0 W) (fun _ h => h) fu3 60 3 _ _ (by kernel_rfl) hf3 (fun n hn => hwt n (weightsEach_mem (i := 3) rfl rfl hn))
  obtain ⟨me, rfl, w_me⟩ := hs3.i64Inv Tryd.underlying3
  have hR3 := rep_cell hr3 (notAgg hv3 (by kernel_rfl))
  clear hA0 hval0 hsz0
  refine (law_calls (follows25_yes w old false now false me) (vals := [v0, v1, v2, v3]) ⟨hR0, hR1, hR2, hR3, trivial⟩).mono fun e W' ⟨he, bel⟩ => ?_
  subst he
  exact ⟨_, rfl, _, _, _, [], _, [], hW', trodAll_mk1 (shut_bool Tryd.underlying4 _), (trodAll_cons_mk (Below.trod laidOut (by kernel_rfl) (of_decide_eq_true (by kernel_rfl)) k0 bel lt0) (trodAll_cons_mk (Below.trod laidOut (by kernel_rfl) (of_decide_eq_true (by kernel_rfl)) k1 bel lt1) (trodAll_cons_mk (Below.trod laidOut (by kernel_rfl) (of_decide_eq_true (by kernel_rfl)) k2 bel lt2) (trodAll_cons_mk (Below.trod laidOut (by kernel_rfl) (of_decide_eq_true (by kernel_rfl)) k3 bel lt3) trodAll_mk0)))), rfl, bel.frame _, fun h => by cases h⟩
theorem over : Rows.viewFollowsRow.holds Tryd.pinned (OpenSpec.ofChange Rows.viewFollowsSpec) :=
  OpenClaim.holds_of_wide 3 Tryd.f3 rfl rfl rfl rfl rfl rfl rfl ⟨rfl, rfl, rfl, rfl, rfl⟩ rfl rfl rfl rfl rfl (by kernel_rfl) Tryd.func3 (by kernel_rfl)
    (of_decide_eq_true (by kernel_rfl)) (by unfold Func.isWrapper; first | (rw [if_pos (by decide +kernel)]; kernel_rfl) | (rw [if_neg (by decide +kernel)]; exact ⟨rfl, rfl⟩))
    (fun os started H enc _ => lifted os started H enc)
end viewFollows
theorem viewFollowsCard_holds : Rows.ViewFollowsCardSaid :=
  Claim7.holds_tied_plain_at .later [] [.data, .pinned] true (true, "e8cd4af507c36579b61a8c63176942285acc4aa8ecffa7b48b6642b1983a34d1") false viewFollows.over (fun _ h => by cases h) (by kernel_rfl) (fun _ h => by cases h) viewFollows_row_tie rfl ⟨rfl, rfl⟩ (by kernel_rfl) rfl
    (fun f fn hf hfn => by
      obtain rfl : f = 3 := Option.some.inj ((show Tryd.prog.funcNamed "barrow/barrowlaw25.ViewFollows" = some 3 by kernel_rfl).symm.trans hf) |>.symm
      obtain rfl : fn = Tryd.f3 := (Option.some.inj (Tryd.func3.symm.trans hfn)).symm
      exact ⟨by kernel_rfl, fun j t ht => by
        rw [Tryd.params3] at ht
        have hm : t ∈ [25, 22, 22, 3] := by simpa using Array.mem_of_getElem? ht
        have hall : ([25, 22, 22, 3].all fun u => !Tryd.prog.wantsStandIn u) = true := by kernel_rfl
        exact (show Tryd.prog.wantsStandIn t = false by simpa using List.all_eq_true.1 hall t hm)⟩)
    (by kernel_rfl)

theorem slc35_inv {ps : List PV} (h : Shp Tryd.prog 35 ps) : ∃ l : List Int, ps = [.slc l.length false (encI l)] ∧ (∀ y ∈ l, InR y) ∧ l.length ≤ 140737488355328 := by
 obtain ⟨xs, h1, h2, h3, h8⟩ := h.slcInv Tryd.underlying35
 have h9 : 1 ≤ Tryd.prog.bytesOf 3 := of_decide_eq_true (by kernel_rfl)
 have h7 : xs.length * 1 ≤ reachBytes := Nat.le_trans (Nat.mul_le_mul_left _ h9) h8
 unfold reachBytes at h7
 obtain ⟨l, h4, h5, h6⟩ := list_map (g := fun n => PV.int .i64 n) (G := fun y => InR y) (fun x hx => (h2 x hx).i64Inv Tryd.underlying3)
 exact ⟨l, by rw [h1, h4, h5] <;> rfl, h6, by omega⟩

theorem GMessage_inv {ps : List PV} (h : Shp Tryd.prog 37 ps) : ∃ x : GMessage, ps = encGMessage x ∧ wfGMessage x := by
 obtain ⟨xs, rfl, hl, hx⟩ := h.structInv Tryd.underlying37
 match xs, hl, hx with
 | [a0, a1, a2], _, hx =>
  obtain ⟨n0, rfl, w0⟩ := (hx 0 _ _ rfl rfl).i64Inv Tryd.underlying3
  obtain ⟨n1, rfl, w1⟩ := slc35_inv (hx 1 _ _ rfl rfl)
  obtain ⟨n2, rfl, w2⟩ := (hx 2 _ _ rfl rfl).strInv Tryd.underlying9
  exact ⟨⟨n0, n1, n2⟩, rfl, by unfold wfGMessage; exact ⟨w0, w1, w2⟩⟩

theorem slc30_inv {ps : List PV} (h : Shp Tryd.prog 30 ps) : ∃ l : List GMessage, ps = [.slc l.length false (l.flatMap encGMessage)] ∧ (∀ y ∈ l, wfGMessage y) ∧ l.length ≤ 140737488355328 := by
 obtain ⟨xs, h1, h2, h3, h8⟩ := h.slcInv Tryd.underlying30
 have h9 : 1 ≤ Tryd.prog.bytesOf 37 := of_decide_eq_true (by kernel_rfl)
 have h7 : xs.length * 1 ≤ reachBytes := Nat.le_trans (Nat.mul_le_mul_left _ h9) h8
 unfold reachBytes at h7
 obtain ⟨l, h4, h5, h6⟩ := list_of (enc := encGMessage) (G := fun y => wfGMessage y) (fun x hx => GMessage_inv (h2 x hx))
 exact ⟨l, by rw [h1, h4, h5] <;> rfl, h6, by omega⟩

namespace viewStays
open Go.ChangeShapes Go.WideShapes Go.ChangeAt
theorem own : ownKnob Tryd.prog.godebug = none := by kernel_rfl
theorem laidOut : laidOutB Tryd.prog = true := by kernel_rfl
set_option maxRecDepth 100000 in
theorem lifted (os : Os) (started : os.Started) (H : Type) (enc : TypeId × Value → H) :
    ReturnsInHanded {} Tryd.checked os 4 .any (fun w args => (Rows.viewStaysSpec.pre enc Tryd.prog Tryd.f4 [] false w args ∧ laidMetH Tryd.prog laid2 w) ∧ sizedMet enc Tryd.prog Tryd.f4 (OpenSpec.ofChange Rows.viewStaysSpec) false w args) (Rows.viewStaysSpec.post enc Tryd.prog Tryd.f4 false true false false) := by
  refine returnsInHanded_of_change_and (C := Tryd.checked) (X := fun w _ => laidMetH Tryd.prog laid2 w) (fun _ _ _ hh h => h.of_heap hh) own started (by kernel_rfl) Tryd.func4 (ChangeSpec.witness_shaped (enc := enc) (C := Tryd.checked) (os := os) (X := fun w _ => laidMetH Tryd.prog laid2 w) false (wit os) #[.slice none 0 0] 8 rfl (wit_shaped os _) (by kernel_rfl) (by kernel_rfl) (by kernel_rfl) (wit_met os _)) ?_
  intro W base args ds gs before hval0 hW hcnd hsz0 _ _
  have hval : ∀ (j : Nat) t v, Tryd.f4.params[j]? = some t → args[j]? = some v → Value.okWide Tryd.prog W .any base t v := hval0
  have hW' := hW
  obtain ⟨p, q, hA0, hV, rfl, hfz, hnd⟩ := hW
  have hA : DataW.TrodAll enc Tryd.prog W 0 (fun _ => true) true Tryd.f4.params.toList args.toList ds p := hA0
  rw [Tryd.params4] at hA hval
  obtain ⟨v0, vs0, d0, ds0, p0, q0, hargs, rfl, rfl, h0, r0⟩ := trodAll_cons hA
  obtain ⟨rfl, rfl, rfl⟩ := trodAll_nil r0
  obtain rfl : args = #[v0] := by cases args; simp_all
  obtain ⟨rfl, rfl⟩ := trodVars_none hV
  have hwt := fun n hn => of_decide_eq_true (List.all_eq_true.1 hsz0 n hn)
  have hv0 := hval 0 30 v0 rfl rfl
  have k0 := h0
  have lt0 : ∀ x ∈ p0, x.block < W.heap.size := by obtain ⟨m, hm⟩ := k0; exact DataW.trod_lt m _ _ _ hm
  obtain ⟨fu0, hf0⟩ := h0
  obtain ⟨ps0, hs0, hr0, _⟩ := trod_shp (c := world0 W) (fun _ h => h) fu0 60 30 _ _ (by kernel_rfl) hf0 (fun n hn => hwt n (weightsEach_mem (i := 0) rfl rfl hn))
  obtain ⟨l, rfl, w_l⟩ := slc30_inv hs0
  have hR0 := rep_cell hr0 (notAgg hv0 (by kernel_rfl))
  clear hA0 hval0 hsz0
  refine (law_calls (stays25_yes l false (fun m hm => (w_l.1 m hm).2.1.1)) (vals := [v0]) ⟨hR0, trivial⟩).mono fun e W' ⟨he, bel⟩ => ?_
  subst he
  exact ⟨_, rfl, _, _, _, [], _, [], hW', trodAll_mk1 (shut_bool Tryd.underlying4 _), (trodAll_cons_mk (Below.trod laidOut (by kernel_rfl) (of_decide_eq_true (by kernel_rfl)) k0 bel lt0) trodAll_mk0), rfl, bel.frame _, fun h => by cases h⟩
theorem over : Rows.viewStaysRow.holds Tryd.pinned (OpenSpec.ofChange Rows.viewStaysSpec) :=
  OpenClaim.holds_of_wide 4 Tryd.f4 rfl rfl rfl rfl rfl rfl rfl ⟨rfl, rfl, rfl, rfl, rfl⟩ rfl rfl rfl rfl rfl (by kernel_rfl) Tryd.func4 (by kernel_rfl)
    (of_decide_eq_true (by kernel_rfl)) (by unfold Func.isWrapper; first | (rw [if_pos (by decide +kernel)]; kernel_rfl) | (rw [if_neg (by decide +kernel)]; exact ⟨rfl, rfl⟩))
    (fun os started H enc _ => lifted os started H enc)
end viewStays
theorem viewStaysCard_holds : Rows.ViewStaysCardSaid :=
  Claim7.holds_tied_plain_at .later [] [.data, .pinned] true (true, "e8cd4af507c36579b61a8c63176942285acc4aa8ecffa7b48b6642b1983a34d1") false viewStays.over (fun _ h => by cases h) (by kernel_rfl) (fun _ h => by cases h) viewStays_row_tie rfl ⟨rfl, rfl⟩ (by kernel_rfl) rfl
    (fun f fn hf hfn => by
      obtain rfl : f = 4 := Option.some.inj ((show Tryd.prog.funcNamed "barrow/barrowlaw25.ViewStays" = some 4 by kernel_rfl).symm.trans hf) |>.symm
      obtain rfl : fn = Tryd.f4 := (Option.some.inj (Tryd.func4.symm.trans hfn)).symm
      exact ⟨by kernel_rfl, fun j t ht => by
        rw [Tryd.params4] at ht
        have hm : t ∈ [30] := by simpa using Array.mem_of_getElem? ht
        have hall : ([30].all fun u => !Tryd.prog.wantsStandIn u) = true := by kernel_rfl
        exact (show Tryd.prog.wantsStandIn t = false by simpa using List.all_eq_true.1 hall t hm)⟩)
    (by kernel_rfl)
end Go.Proofs.YtbfmonajbfljmaaDoor

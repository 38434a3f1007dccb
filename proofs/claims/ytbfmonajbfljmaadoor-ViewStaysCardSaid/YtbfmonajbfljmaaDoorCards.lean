/-
  DERIVED. GIVEN WITH THE SEED: THE CARDS: each row of YtbfmonajbfljmaaDoorRows.lean that lists a variable, with what it lists TIED to the program's text (the seventh form; the later family's looks); each row that meets fmt, with fmt's text TOLD by the authors' own Lean function (tested against real Go, not proved from fmt's source: count such statements apart). THE CARD IS WHAT COUNTS. Prove the row's statement (the work); the ties are given (YtbfmonajbfljmaaDoorTie.lean); close each card by the builder's one call (the guide's Derived/Test/ToyasCard.lean, 'card_holds'). Laid BY PROGRAM, IN A SANDBOX (cutbox-door.mjs). By AI agents, Wed Nov 11 2026. No macro, syntax, notation, axiom, sorry.
-/
import Derived.Test.YtbfmonajbfljmaaDoorRows
import GoSem.ClaimSeven
namespace Go.Proofs.YtbfmonajbfljmaaDoor
namespace Rows

/-- THE TIED CARD OF 'barrowlaw25.ViewFollows'. -/
def viewFollowsCard : Claim7 := { stood := { row := viewFollowsRow, standIns := [], harness := (true, "e8cd4af507c36579b61a8c63176942285acc4aa8ecffa7b48b6642b1983a34d1"), looks := false }, kinds := [], alts := [], laidByText := true, laidKinds := [.data, .pinned], laidTests := true, laidLooks := .later }
def ViewFollowsCardSaid : Prop := Claim7.holds Tryd.pinned (.plain (OpenSpec.ofChange viewFollowsSpec)) viewFollowsCard

/-- THE TIED CARD OF 'barrowlaw25.ViewStays'. -/
def viewStaysCard : Claim7 := { stood := { row := viewStaysRow, standIns := [], harness := (true, "e8cd4af507c36579b61a8c63176942285acc4aa8ecffa7b48b6642b1983a34d1"), looks := false }, kinds := [], alts := [], laidByText := true, laidKinds := [.data, .pinned], laidTests := true, laidLooks := .later }
def ViewStaysCardSaid : Prop := Claim7.holds Tryd.pinned (.plain (OpenSpec.ofChange viewStaysSpec)) viewStaysCard

/-- THE SECOND FORM's CARD OF 'barrowlaw25.ViewFollows'. -/
def viewFollowsUptoCard : Claim7 := { stood := { row := viewFollowsUptoRow, standIns := [], harness := (true, "e8cd4af507c36579b61a8c63176942285acc4aa8ecffa7b48b6642b1983a34d1"), looks := false }, kinds := [], alts := [], laidByText := true, laidKinds := [.data, .pinned], laidTests := true, laidLooks := .later }
def ViewFollowsUptoCardSaid : Prop := Claim7.holds Tryd.pinned (.plain (OpenSpec.upto viewFollowsSpec)) viewFollowsUptoCard

/-- THE SECOND FORM's CARD OF 'barrowlaw25.ViewStays'. -/
def viewStaysUptoCard : Claim7 := { stood := { row := viewStaysUptoRow, standIns := [], harness := (true, "e8cd4af507c36579b61a8c63176942285acc4aa8ecffa7b48b6642b1983a34d1"), looks := false }, kinds := [], alts := [], laidByText := true, laidKinds := [.data, .pinned], laidTests := true, laidLooks := .later }
def ViewStaysUptoCardSaid : Prop := Claim7.holds Tryd.pinned (.plain (OpenSpec.upto viewStaysSpec)) viewStaysUptoCard
end Rows
end Go.Proofs.YtbfmonajbfljmaaDoor

/-
  DERIVED. GIVEN WITH THE SEED: THE CARDS: each row of YtnboadipofkcjaaDoorRows.lean that lists a variable, with what it lists TIED to the program's text (the seventh form; the later family's looks); each row that meets fmt, with fmt's text TOLD by the authors' own Lean function (tested against real Go, not proved from fmt's source: count such statements apart). THE CARD IS WHAT COUNTS. Prove the row's statement (the work); the ties are given (YtnboadipofkcjaaDoorTie.lean); close each card by the builder's one call (the guide's Derived/Test/ToyasCard.lean, 'card_holds'). Laid BY PROGRAM, IN A SANDBOX (cutbox-door.mjs). By AI agents, Wed Nov 11 2026. No macro, syntax, notation, axiom, sorry.
-/
import Derived.Test.YtnboadipofkcjaaDoorRows
import GoSem.ClaimSeven
namespace Go.Proofs.YtnboadipofkcjaaDoor
namespace Rows

/-- THE TIED CARD OF 'barrowlaw37.LockTells'. -/
def lockTellsCard : Claim7 := { stood := { row := lockTellsRow, standIns := [], harness := (true, "4ce64b662d36620ab5f7ae0f21d73363c3ec5eb66a15d53c88148c378e5a8dca"), looks := false }, kinds := [], alts := [], laidByText := true, laidKinds := [.data, .pinned], laidTests := true, laidLooks := .later }
def LockTellsCardSaid : Prop := Claim7.holds Tryd.pinned (.plain (OpenSpec.ofChange lockTellsSpec)) lockTellsCard

/-- THE TIED CARD OF 'barrowlaw37.LockHolds'. -/
def lockHoldsCard : Claim7 := { stood := { row := lockHoldsRow, standIns := [], harness := (true, "4ce64b662d36620ab5f7ae0f21d73363c3ec5eb66a15d53c88148c378e5a8dca"), looks := false }, kinds := [], alts := [], laidByText := true, laidKinds := [.data, .pinned], laidTests := true, laidLooks := .later }
def LockHoldsCardSaid : Prop := Claim7.holds Tryd.pinned (.plain (OpenSpec.ofChange lockHoldsSpec)) lockHoldsCard

/-- THE TIED CARD OF 'barrowlaw37.LockJoins'. -/
def lockJoinsCard : Claim7 := { stood := { row := lockJoinsRow, standIns := [], harness := (true, "4ce64b662d36620ab5f7ae0f21d73363c3ec5eb66a15d53c88148c378e5a8dca"), looks := false }, kinds := [], alts := [], laidByText := true, laidKinds := [.data, .pinned], laidTests := true, laidLooks := .later }
def LockJoinsCardSaid : Prop := Claim7.holds Tryd.pinned (.plain (OpenSpec.ofChange lockJoinsSpec)) lockJoinsCard

/-- THE TIED CARD OF 'barrowlaw37.LockBoth'. -/
def lockBothCard : Claim7 := { stood := { row := lockBothRow, standIns := [], harness := (true, "4ce64b662d36620ab5f7ae0f21d73363c3ec5eb66a15d53c88148c378e5a8dca"), looks := false }, kinds := [], alts := [], laidByText := true, laidKinds := [.data, .pinned], laidTests := true, laidLooks := .later }
def LockBothCardSaid : Prop := Claim7.holds Tryd.pinned (.plain (OpenSpec.ofChange lockBothSpec)) lockBothCard

/-- THE SECOND FORM's CARD OF 'barrowlaw37.LockTells'. -/
def lockTellsUptoCard : Claim7 := { stood := { row := lockTellsUptoRow, standIns := [], harness := (true, "4ce64b662d36620ab5f7ae0f21d73363c3ec5eb66a15d53c88148c378e5a8dca"), looks := false }, kinds := [], alts := [], laidByText := true, laidKinds := [.data, .pinned], laidTests := true, laidLooks := .later }
def LockTellsUptoCardSaid : Prop := Claim7.holds Tryd.pinned (.plain (OpenSpec.upto lockTellsSpec)) lockTellsUptoCard

/-- THE SECOND FORM's CARD OF 'barrowlaw37.LockHolds'. -/
def lockHoldsUptoCard : Claim7 := { stood := { row := lockHoldsUptoRow, standIns := [], harness := (true, "4ce64b662d36620ab5f7ae0f21d73363c3ec5eb66a15d53c88148c378e5a8dca"), looks := false }, kinds := [], alts := [], laidByText := true, laidKinds := [.data, .pinned], laidTests := true, laidLooks := .later }
def LockHoldsUptoCardSaid : Prop := Claim7.holds Tryd.pinned (.plain (OpenSpec.upto lockHoldsSpec)) lockHoldsUptoCard

/-- THE SECOND FORM's CARD OF 'barrowlaw37.LockJoins'. -/
def lockJoinsUptoCard : Claim7 := { stood := { row := lockJoinsUptoRow, standIns := [], harness := (true, "4ce64b662d36620ab5f7ae0f21d73363c3ec5eb66a15d53c88148c378e5a8dca"), looks := false }, kinds := [], alts := [], laidByText := true, laidKinds := [.data, .pinned], laidTests := true, laidLooks := .later }
def LockJoinsUptoCardSaid : Prop := Claim7.holds Tryd.pinned (.plain (OpenSpec.upto lockJoinsSpec)) lockJoinsUptoCard

/-- THE SECOND FORM's CARD OF 'barrowlaw37.LockBoth'. -/
def lockBothUptoCard : Claim7 := { stood := { row := lockBothUptoRow, standIns := [], harness := (true, "4ce64b662d36620ab5f7ae0f21d73363c3ec5eb66a15d53c88148c378e5a8dca"), looks := false }, kinds := [], alts := [], laidByText := true, laidKinds := [.data, .pinned], laidTests := true, laidLooks := .later }
def LockBothUptoCardSaid : Prop := Claim7.holds Tryd.pinned (.plain (OpenSpec.upto lockBothSpec)) lockBothUptoCard
end Rows
end Go.Proofs.YtnboadipofkcjaaDoor

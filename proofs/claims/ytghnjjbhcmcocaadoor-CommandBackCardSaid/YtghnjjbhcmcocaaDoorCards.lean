/-
  DERIVED. GIVEN WITH THE SEED: THE CARDS: each row of YtghnjjbhcmcocaaDoorRows.lean that lists a variable, with what it lists TIED to the program's text (the seventh form; the later family's looks); each row that meets fmt, with fmt's text TOLD by the authors' own Lean function (tested against real Go, not proved from fmt's source: count such statements apart). THE CARD IS WHAT COUNTS. Prove the row's statement (the work); the ties are given (YtghnjjbhcmcocaaDoorTie.lean); close each card by the builder's one call (the guide's Derived/Test/ToyasCard.lean, 'card_holds'). Laid BY PROGRAM, IN A SANDBOX (cutbox-door.mjs). By AI agents, Wed Nov 11 2026. No macro, syntax, notation, axiom, sorry.
-/
import Derived.Test.YtghnjjbhcmcocaaDoorRows
import GoSem.ClaimSeven
namespace Go.Proofs.YtghnjjbhcmcocaaDoor
namespace Rows

/-- THE TIED CARD OF 'barrowlaw11.CommandWrites'. -/
def commandWritesCard : Claim7 := { stood := { row := commandWritesRow, standIns := [], harness := (true, "4ab79da58d4b98d401e38d9507e89ce5288db08d898c7dc375d6817c3b3efadd"), looks := false }, kinds := [], alts := [], laidByText := true, laidKinds := [.data, .pinned], laidTests := true, laidLooks := .later }
def CommandWritesCardSaid : Prop := Claim7.holds Tryd.pinned (.plain (OpenSpec.ofChange commandWritesSpec)) commandWritesCard

/-- THE TIED CARD OF 'barrowlaw11.CommandReads'. -/
def commandReadsCard : Claim7 := { stood := { row := commandReadsRow, standIns := [], harness := (true, "4ab79da58d4b98d401e38d9507e89ce5288db08d898c7dc375d6817c3b3efadd"), looks := false }, kinds := [], alts := [], laidByText := true, laidKinds := [.data, .pinned], laidTests := true, laidLooks := .later }
def CommandReadsCardSaid : Prop := Claim7.holds Tryd.pinned (.plain (OpenSpec.ofChange commandReadsSpec)) commandReadsCard

/-- THE TIED CARD OF 'barrowlaw11.CommandBack'. -/
def commandBackCard : Claim7 := { stood := { row := commandBackRow, standIns := [], harness := (true, "4ab79da58d4b98d401e38d9507e89ce5288db08d898c7dc375d6817c3b3efadd"), looks := false }, kinds := [], alts := [], laidByText := true, laidKinds := [.data, .pinned], laidTests := true, laidLooks := .later }
def CommandBackCardSaid : Prop := Claim7.holds Tryd.pinned (.plain (OpenSpec.ofChange commandBackSpec)) commandBackCard

/-- THE SECOND FORM's CARD OF 'barrowlaw11.CommandWrites'. -/
def commandWritesUptoCard : Claim7 := { stood := { row := commandWritesUptoRow, standIns := [], harness := (true, "4ab79da58d4b98d401e38d9507e89ce5288db08d898c7dc375d6817c3b3efadd"), looks := false }, kinds := [], alts := [], laidByText := true, laidKinds := [.data, .pinned], laidTests := true, laidLooks := .later }
def CommandWritesUptoCardSaid : Prop := Claim7.holds Tryd.pinned (.plain (OpenSpec.upto commandWritesSpec)) commandWritesUptoCard

/-- THE SECOND FORM's CARD OF 'barrowlaw11.CommandReads'. -/
def commandReadsUptoCard : Claim7 := { stood := { row := commandReadsUptoRow, standIns := [], harness := (true, "4ab79da58d4b98d401e38d9507e89ce5288db08d898c7dc375d6817c3b3efadd"), looks := false }, kinds := [], alts := [], laidByText := true, laidKinds := [.data, .pinned], laidTests := true, laidLooks := .later }
def CommandReadsUptoCardSaid : Prop := Claim7.holds Tryd.pinned (.plain (OpenSpec.upto commandReadsSpec)) commandReadsUptoCard

/-- THE SECOND FORM's CARD OF 'barrowlaw11.CommandBack'. -/
def commandBackUptoCard : Claim7 := { stood := { row := commandBackUptoRow, standIns := [], harness := (true, "4ab79da58d4b98d401e38d9507e89ce5288db08d898c7dc375d6817c3b3efadd"), looks := false }, kinds := [], alts := [], laidByText := true, laidKinds := [.data, .pinned], laidTests := true, laidLooks := .later }
def CommandBackUptoCardSaid : Prop := Claim7.holds Tryd.pinned (.plain (OpenSpec.upto commandBackSpec)) commandBackUptoCard
end Rows
end Go.Proofs.YtghnjjbhcmcocaaDoor

/-
  No cell of these rows narrows 'for every input' (looked for: loops, veiled, ifaces, maps, wideKeys, modest, calm, conditions, laid).
  DERIVED. THE GIVEN ROWS OF THIS SEAT. 3 by the template 'for every input the law returns true; each argument reads behind the call as it read before'; 0 by the template 'total and deterministic' (their statements: YtlcdcechaogofaaTotals.lean).
  GIVEN WITH THE SEED: the statements are not yours to turn. If you find one false, say at which input.
  Laid BY PROGRAM, IN A SANDBOX (cutbox-rows.mjs): the forced cells as the released guide's own fill.sh prints them over the translation 858c957100d63aab… (all of the seat's roots in one cut). By AI agents, Wed Nov 11 2026. No macro, syntax, notation, axiom, sorry.
-/
import Derived.Test.YtlcdcechaogofaaChecked
import GoSem.Claim
import GoSem.ClaimJoined
import GoSem.ClaimMapViews
import Derived.JoinedTies
import Derived.KernelRfl
namespace Go.Proofs.Ytlcdcechaogofaa
/- THE CELL 'sum', in the pinned program and in every row, IS THE sha256 OF THE DUMP (.gsa) THAT YtlcdcechaogofaaProg.lean LOADS. Nothing in Lean hashes anything: it is a label: what it is worth is what the hold of that sum in a sandbox is worth. -/
noncomputable def Try.pinned : Pinned := { name := "ytlcdcechaogofaa", sum := "858c957100d63aabc2619972edfa79e7d9d0e80c2e50aa24b1a7d5d9c4079e0d", checked := Try.checked }
namespace Rows
def none {H : Type} : Left H := { results := [], args := [] }

/-- 'barrowlaw22.RosterTurns': WHATEVER THE INPUT: true; the input reads as it did. -/
def rosterTurnsSpec : ChangeSpec := { name := "rosterTurns", fn := fun _ => fun
  | [d1, d2, d3, d4] => { results := [.lit (.bool true)], args := [d1, d2, d3, d4] }
  | _ => none }
def rosterTurnsRow : OpenClaim := { program := "ytlcdcechaogofaa", sum := "858c957100d63aabc2619972edfa79e7d9d0e80c2e50aa24b1a7d5d9c4079e0d", func := "barrow/barrowlaw22.RosterTurns", spec := "rosterTurns", unfollowed := true, recurses := true, apart := false }
def RosterTurnsSaid : Prop := rosterTurnsRow.holds Try.pinned (OpenSpec.ofChange rosterTurnsSpec)

/-- ITS FALSE NEIGHBOUR: 'it returns false'. Refute it at one input. -/
def rosterTurnsWrong : ChangeSpec := { name := "rosterTurns", fn := fun _ => fun
  | [d1, d2, d3, d4] => { results := [.lit (.bool false)], args := [d1, d2, d3, d4] }
  | _ => none }
def RosterTurnsWrongFalsely : Prop := rosterTurnsRow.holds Try.pinned (OpenSpec.ofChange rosterTurnsWrong)

/-- 'barrowlaw22.RosterStays': WHATEVER THE INPUT: true; the input reads as it did. -/
def rosterStaysSpec : ChangeSpec := { name := "rosterStays", fn := fun _ => fun
  | [d] => { results := [.lit (.bool true)], args := [d] }
  | _ => none }
def rosterStaysRow : OpenClaim := { program := "ytlcdcechaogofaa", sum := "858c957100d63aabc2619972edfa79e7d9d0e80c2e50aa24b1a7d5d9c4079e0d", func := "barrow/barrowlaw22.RosterStays", spec := "rosterStays", unfollowed := true, recurses := true, apart := false }
def RosterStaysSaid : Prop := rosterStaysRow.holds Try.pinned (OpenSpec.ofChange rosterStaysSpec)

/-- ITS FALSE NEIGHBOUR: 'it returns false'. Refute it at one input. -/
def rosterStaysWrong : ChangeSpec := { name := "rosterStays", fn := fun _ => fun
  | [d] => { results := [.lit (.bool false)], args := [d] }
  | _ => none }
def RosterStaysWrongFalsely : Prop := rosterStaysRow.holds Try.pinned (OpenSpec.ofChange rosterStaysWrong)

/-- 'barrowlaw22.RosterFills': WHATEVER THE INPUT: true; the input reads as it did. -/
def rosterFillsSpec : ChangeSpec := { name := "rosterFills", fn := fun _ => fun
  | [d1, d2] => { results := [.lit (.bool true)], args := [d1, d2] }
  | _ => none }
def rosterFillsRow : OpenClaim := { program := "ytlcdcechaogofaa", sum := "858c957100d63aabc2619972edfa79e7d9d0e80c2e50aa24b1a7d5d9c4079e0d", func := "barrow/barrowlaw22.RosterFills", spec := "rosterFills", unfollowed := true, recurses := true, apart := false }
def RosterFillsSaid : Prop := rosterFillsRow.holds Try.pinned (OpenSpec.ofChange rosterFillsSpec)

/-- ITS FALSE NEIGHBOUR: 'it returns false'. Refute it at one input. -/
def rosterFillsWrong : ChangeSpec := { name := "rosterFills", fn := fun _ => fun
  | [d1, d2] => { results := [.lit (.bool false)], args := [d1, d2] }
  | _ => none }
def RosterFillsWrongFalsely : Prop := rosterFillsRow.holds Try.pinned (OpenSpec.ofChange rosterFillsWrong)

/- THE SECOND FORM. 'bulk': how many values and letters a reading holds, each counted each time it is reached (what is shared counts as often as it is met; a slice's spare places count too). A statement '..UptoSaid' is the law's where the arguments, and the package variables that the reading takes, are together of bulk at most 1048576: NARROWER than '..Said'. Prove '..Said' where nothing that the law and all that it calls make is longer than what came in: it says more and counts as full. Else prove '..UptoSaid'. A law counts once. -/
mutual
def uptoBulk {H : Type} : DataW H → Nat
  | .lit (.string bytes) => bytes.length + 1
  | .lit _ => 1
  | .nil => 1
  | .ptr d => uptoBulk d + 1
  | .slice elems spare => uptoBulkAll elems + uptoBulkAll spare + 1
  | .agg parts => uptoBulkAll parts + 1
  | .iface _ d => uptoBulk d + 1
  | .map entries => uptoBulkEntries entries + 1
  | .held _ => 1
def uptoBulkAll {H : Type} : List (DataW H) → Nat
  | [] => 0
  | d :: r => uptoBulk d + uptoBulkAll r
def uptoBulkEntries {H : Type} : List (Lit × DataW H) → Nat
  | [] => 0
  | x :: r => uptoBulkEntry x + uptoBulkEntries r
def uptoBulkEntry {H : Type} : Lit × DataW H → Nat
  | (.string bytes, d) => bytes.length + uptoBulk d + 1
  | (_, d) => uptoBulk d + 1
 end
def uptoSmall : (H : Type) → List (DataW H) → Bool := fun _ ds => decide (uptoBulkAll ds ≤ 1048576)
def OpenSpec.upto (s : _root_.Go.ChangeSpec) : _root_.Go.OpenSpec := { _root_.Go.OpenSpec.ofChange s with cond := some uptoSmall }

/-- 'barrowlaw22.RosterTurns', WHERE WHAT IT READS IS OF BULK AT MOST 1048576: true; the input reads as it did. -/
def rosterTurnsUptoRow : OpenClaim := { program := "ytlcdcechaogofaa", sum := "858c957100d63aabc2619972edfa79e7d9d0e80c2e50aa24b1a7d5d9c4079e0d", func := "barrow/barrowlaw22.RosterTurns", spec := "rosterTurns", unfollowed := true, recurses := true, apart := false, narrowed := true }
def RosterTurnsUptoSaid : Prop := rosterTurnsUptoRow.holds Try.pinned (OpenSpec.upto rosterTurnsSpec)

/-- 'barrowlaw22.RosterStays', WHERE WHAT IT READS IS OF BULK AT MOST 1048576: true; the input reads as it did. -/
def rosterStaysUptoRow : OpenClaim := { program := "ytlcdcechaogofaa", sum := "858c957100d63aabc2619972edfa79e7d9d0e80c2e50aa24b1a7d5d9c4079e0d", func := "barrow/barrowlaw22.RosterStays", spec := "rosterStays", unfollowed := true, recurses := true, apart := false, narrowed := true }
def RosterStaysUptoSaid : Prop := rosterStaysUptoRow.holds Try.pinned (OpenSpec.upto rosterStaysSpec)

/-- 'barrowlaw22.RosterFills', WHERE WHAT IT READS IS OF BULK AT MOST 1048576: true; the input reads as it did. -/
def rosterFillsUptoRow : OpenClaim := { program := "ytlcdcechaogofaa", sum := "858c957100d63aabc2619972edfa79e7d9d0e80c2e50aa24b1a7d5d9c4079e0d", func := "barrow/barrowlaw22.RosterFills", spec := "rosterFills", unfollowed := true, recurses := true, apart := false, narrowed := true }
def RosterFillsUptoSaid : Prop := rosterFillsUptoRow.holds Try.pinned (OpenSpec.upto rosterFillsSpec)

end Rows
end Go.Proofs.Ytlcdcechaogofaa

/-
  No cell of these rows narrows 'for every input' (looked for: loops, veiled, ifaces, maps, wideKeys, modest, calm, conditions, laid).
  DERIVED. THE GIVEN ROWS OF THIS SEAT. 4 by the template 'for every input the law returns true; each argument reads behind the call as it read before'; 0 by the template 'total and deterministic' (their statements: YtcahldiaeamgaaaTotals.lean).
  GIVEN WITH THE SEED: the statements are not yours to turn. If you find one false, say at which input.
  Laid BY PROGRAM, IN A SANDBOX (cutbox-rows.mjs): the forced cells as the released guide's own fill.sh prints them over the translation de8768091ae293cc… (all of the seat's roots in one cut). By AI agents, Wed Nov 11 2026. No macro, syntax, notation, axiom, sorry.
-/
import Derived.Test.YtcahldiaeamgaaaChecked
import GoSem.Claim
import GoSem.ClaimJoined
import GoSem.ClaimMapViews
import Derived.JoinedTies
import Derived.KernelRfl
namespace Go.Proofs.Ytcahldiaeamgaaa
/- THE CELL 'sum', in the pinned program and in every row, IS THE sha256 OF THE DUMP (.gsa) THAT YtcahldiaeamgaaaProg.lean LOADS. Nothing in Lean hashes anything: it is a label: what it is worth is what the hold of that sum in a sandbox is worth. -/
noncomputable def Try.pinned : Pinned := { name := "ytcahldiaeamgaaa", sum := "de8768091ae293cc8f4793d1da38439f481d2ba3d6d733dc575fa9dfddecd70a", checked := Try.checked }
namespace Rows
def none {H : Type} : Left H := { results := [], args := [] }

/-- 'barrowlaw19.ThreatTargets': WHATEVER THE INPUT: true; the input reads as it did. -/
def threatTargetsSpec : ChangeSpec := { name := "threatTargets", fn := fun _ => fun
  | [d1, d2, d3, d4] => { results := [.lit (.bool true)], args := [d1, d2, d3, d4] }
  | _ => none }
def threatTargetsRow : OpenClaim := { program := "ytcahldiaeamgaaa", sum := "de8768091ae293cc8f4793d1da38439f481d2ba3d6d733dc575fa9dfddecd70a", func := "barrow/barrowlaw19.ThreatTargets", spec := "threatTargets", unfollowed := true, recurses := true, apart := false }
def ThreatTargetsSaid : Prop := threatTargetsRow.holds Try.pinned (OpenSpec.ofChange threatTargetsSpec)

/-- ITS FALSE NEIGHBOUR: 'it returns false'. Refute it at one input. -/
def threatTargetsWrong : ChangeSpec := { name := "threatTargets", fn := fun _ => fun
  | [d1, d2, d3, d4] => { results := [.lit (.bool false)], args := [d1, d2, d3, d4] }
  | _ => none }
def ThreatTargetsWrongFalsely : Prop := threatTargetsRow.holds Try.pinned (OpenSpec.ofChange threatTargetsWrong)

/-- 'barrowlaw19.ThreatKeeps': WHATEVER THE INPUT: true; the input reads as it did. -/
def threatKeepsSpec : ChangeSpec := { name := "threatKeeps", fn := fun _ => fun
  | [d1, d2, d3] => { results := [.lit (.bool true)], args := [d1, d2, d3] }
  | _ => none }
def threatKeepsRow : OpenClaim := { program := "ytcahldiaeamgaaa", sum := "de8768091ae293cc8f4793d1da38439f481d2ba3d6d733dc575fa9dfddecd70a", func := "barrow/barrowlaw19.ThreatKeeps", spec := "threatKeeps", unfollowed := true, recurses := true, apart := false }
def ThreatKeepsSaid : Prop := threatKeepsRow.holds Try.pinned (OpenSpec.ofChange threatKeepsSpec)

/-- ITS FALSE NEIGHBOUR: 'it returns false'. Refute it at one input. -/
def threatKeepsWrong : ChangeSpec := { name := "threatKeeps", fn := fun _ => fun
  | [d1, d2, d3] => { results := [.lit (.bool false)], args := [d1, d2, d3] }
  | _ => none }
def ThreatKeepsWrongFalsely : Prop := threatKeepsRow.holds Try.pinned (OpenSpec.ofChange threatKeepsWrong)

/-- 'barrowlaw19.ThreatStays': WHATEVER THE INPUT: true; the input reads as it did. -/
def threatStaysSpec : ChangeSpec := { name := "threatStays", fn := fun _ => fun
  | [d1, d2] => { results := [.lit (.bool true)], args := [d1, d2] }
  | _ => none }
def threatStaysRow : OpenClaim := { program := "ytcahldiaeamgaaa", sum := "de8768091ae293cc8f4793d1da38439f481d2ba3d6d733dc575fa9dfddecd70a", func := "barrow/barrowlaw19.ThreatStays", spec := "threatStays", unfollowed := true, recurses := true, apart := false }
def ThreatStaysSaid : Prop := threatStaysRow.holds Try.pinned (OpenSpec.ofChange threatStaysSpec)

/-- ITS FALSE NEIGHBOUR: 'it returns false'. Refute it at one input. -/
def threatStaysWrong : ChangeSpec := { name := "threatStays", fn := fun _ => fun
  | [d1, d2] => { results := [.lit (.bool false)], args := [d1, d2] }
  | _ => none }
def ThreatStaysWrongFalsely : Prop := threatStaysRow.holds Try.pinned (OpenSpec.ofChange threatStaysWrong)

/-- 'barrowlaw19.ThreatTurns': WHATEVER THE INPUT: true; the input reads as it did. -/
def threatTurnsSpec : ChangeSpec := { name := "threatTurns", fn := fun _ => fun
  | [d1, d2, d3, d4] => { results := [.lit (.bool true)], args := [d1, d2, d3, d4] }
  | _ => none }
def threatTurnsRow : OpenClaim := { program := "ytcahldiaeamgaaa", sum := "de8768091ae293cc8f4793d1da38439f481d2ba3d6d733dc575fa9dfddecd70a", func := "barrow/barrowlaw19.ThreatTurns", spec := "threatTurns", unfollowed := true, recurses := true, apart := false }
def ThreatTurnsSaid : Prop := threatTurnsRow.holds Try.pinned (OpenSpec.ofChange threatTurnsSpec)

/-- ITS FALSE NEIGHBOUR: 'it returns false'. Refute it at one input. -/
def threatTurnsWrong : ChangeSpec := { name := "threatTurns", fn := fun _ => fun
  | [d1, d2, d3, d4] => { results := [.lit (.bool false)], args := [d1, d2, d3, d4] }
  | _ => none }
def ThreatTurnsWrongFalsely : Prop := threatTurnsRow.holds Try.pinned (OpenSpec.ofChange threatTurnsWrong)

/- THE SECOND FORM. 'bulk': how many values and letters a reading holds, each counted each time it is reached (what is shared counts as often as it is met; a slice's spare places count too). A statement '..UptoSaid' is the law's where the arguments, and the package variables that the reading takes, are together of bulk at most 1048576: NARROWER than '..Said'. Prove '..Said' where nothing that the law and all that it calls make is longer than what came in: it says more and counts as full. Else prove '..UptoSaid'. A law counts once. -/
mutual
def uptoBulk {H : Type} : DataW H → Nat
  | .lit (.string bytes) => bytes.length + 1
  | .lit _ => 1
  | .nil => 1
  | .ptr d => uptoBulk d + 1
  | .slice elems spare => uptoBulkAll elems + uptoBulkAll spare + 1
  | .agg parts => uptoBulkAll parts + 1
  | .iface _ d => uptoBulk d + 1
  | .map entries => uptoBulkEntries entries + 1
  | .held _ => 1
def uptoBulkAll {H : Type} : List (DataW H) → Nat
  | [] => 0
  | d :: r => uptoBulk d + uptoBulkAll r
def uptoBulkEntries {H : Type} : List (Lit × DataW H) → Nat
  | [] => 0
  | x :: r => uptoBulkEntry x + uptoBulkEntries r
def uptoBulkEntry {H : Type} : Lit × DataW H → Nat
  | (.string bytes, d) => bytes.length + uptoBulk d + 1
  | (_, d) => uptoBulk d + 1
 end
def uptoSmall : (H : Type) → List (DataW H) → Bool := fun _ ds => decide (uptoBulkAll ds ≤ 1048576)
def OpenSpec.upto (s : _root_.Go.ChangeSpec) : _root_.Go.OpenSpec := { _root_.Go.OpenSpec.ofChange s with cond := some uptoSmall }

/-- 'barrowlaw19.ThreatTargets', WHERE WHAT IT READS IS OF BULK AT MOST 1048576: true; the input reads as it did. -/
def threatTargetsUptoRow : OpenClaim := { program := "ytcahldiaeamgaaa", sum := "de8768091ae293cc8f4793d1da38439f481d2ba3d6d733dc575fa9dfddecd70a", func := "barrow/barrowlaw19.ThreatTargets", spec := "threatTargets", unfollowed := true, recurses := true, apart := false, narrowed := true }
def ThreatTargetsUptoSaid : Prop := threatTargetsUptoRow.holds Try.pinned (OpenSpec.upto threatTargetsSpec)

/-- 'barrowlaw19.ThreatKeeps', WHERE WHAT IT READS IS OF BULK AT MOST 1048576: true; the input reads as it did. -/
def threatKeepsUptoRow : OpenClaim := { program := "ytcahldiaeamgaaa", sum := "de8768091ae293cc8f4793d1da38439f481d2ba3d6d733dc575fa9dfddecd70a", func := "barrow/barrowlaw19.ThreatKeeps", spec := "threatKeeps", unfollowed := true, recurses := true, apart := false, narrowed := true }
def ThreatKeepsUptoSaid : Prop := threatKeepsUptoRow.holds Try.pinned (OpenSpec.upto threatKeepsSpec)

/-- 'barrowlaw19.ThreatStays', WHERE WHAT IT READS IS OF BULK AT MOST 1048576: true; the input reads as it did. -/
def threatStaysUptoRow : OpenClaim := { program := "ytcahldiaeamgaaa", sum := "de8768091ae293cc8f4793d1da38439f481d2ba3d6d733dc575fa9dfddecd70a", func := "barrow/barrowlaw19.ThreatStays", spec := "threatStays", unfollowed := true, recurses := true, apart := false, narrowed := true }
def ThreatStaysUptoSaid : Prop := threatStaysUptoRow.holds Try.pinned (OpenSpec.upto threatStaysSpec)

/-- 'barrowlaw19.ThreatTurns', WHERE WHAT IT READS IS OF BULK AT MOST 1048576: true; the input reads as it did. -/
def threatTurnsUptoRow : OpenClaim := { program := "ytcahldiaeamgaaa", sum := "de8768091ae293cc8f4793d1da38439f481d2ba3d6d733dc575fa9dfddecd70a", func := "barrow/barrowlaw19.ThreatTurns", spec := "threatTurns", unfollowed := true, recurses := true, apart := false, narrowed := true }
def ThreatTurnsUptoSaid : Prop := threatTurnsUptoRow.holds Try.pinned (OpenSpec.upto threatTurnsSpec)

end Rows
end Go.Proofs.Ytcahldiaeamgaaa

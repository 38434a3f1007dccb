/-
  No cell of these rows narrows 'for every input' (looked for: loops, veiled, ifaces, maps, wideKeys, modest, calm, conditions, laid).
  DERIVED. THE GIVEN ROWS OF THIS SEAT. 3 by the template 'for every input the law returns true; each argument reads behind the call as it read before'; 0 by the template 'total and deterministic' (their statements: YtkncpoaddamlbaaTotals.lean).
  GIVEN WITH THE SEED: the statements are not yours to turn. If you find one false, say at which input.
  Laid BY PROGRAM, IN A SANDBOX (cutbox-rows.mjs): the forced cells as the released guide's own fill.sh prints them over the translation 1df8666f69d40c0c… (all of the seat's roots in one cut). By AI agents, Wed Nov 11 2026. No macro, syntax, notation, axiom, sorry.
-/
import Derived.Test.YtkncpoaddamlbaaChecked
import GoSem.Claim
import GoSem.ClaimJoined
import GoSem.ClaimMapViews
import Derived.JoinedTies
import Derived.KernelRfl
namespace Go.Proofs.Ytkncpoaddamlbaa
/- THE CELL 'sum', in the pinned program and in every row, IS THE sha256 OF THE DUMP (.gsa) THAT YtkncpoaddamlbaaProg.lean LOADS. Nothing in Lean hashes anything: it is a label: what it is worth is what the hold of that sum in a sandbox is worth. -/
noncomputable def Try.pinned : Pinned := { name := "ytkncpoaddamlbaa", sum := "1df8666f69d40c0c326cf579ce31d67eefe64df7d3b7279687dd8542eb587700", checked := Try.checked }
namespace Rows
def none {H : Type} : Left H := { results := [], args := [] }

/-- 'barrowlaw20.BossRuns': WHATEVER THE INPUT: true; the input reads as it did. -/
def bossRunsSpec : ChangeSpec := { name := "bossRuns", fn := fun _ => fun
  | [d1, d2, d3, d4, d5] => { results := [.lit (.bool true)], args := [d1, d2, d3, d4, d5] }
  | _ => none }
def bossRunsRow : OpenClaim := { program := "ytkncpoaddamlbaa", sum := "1df8666f69d40c0c326cf579ce31d67eefe64df7d3b7279687dd8542eb587700", func := "barrow/barrowlaw20.BossRuns", spec := "bossRuns", unfollowed := true, recurses := true, apart := false }
def BossRunsSaid : Prop := bossRunsRow.holds Try.pinned (OpenSpec.ofChange bossRunsSpec)

/-- ITS FALSE NEIGHBOUR: 'it returns false'. Refute it at one input. -/
def bossRunsWrong : ChangeSpec := { name := "bossRuns", fn := fun _ => fun
  | [d1, d2, d3, d4, d5] => { results := [.lit (.bool false)], args := [d1, d2, d3, d4, d5] }
  | _ => none }
def BossRunsWrongFalsely : Prop := bossRunsRow.holds Try.pinned (OpenSpec.ofChange bossRunsWrong)

/-- 'barrowlaw20.BossOnce': WHATEVER THE INPUT: true; the input reads as it did. -/
def bossOnceSpec : ChangeSpec := { name := "bossOnce", fn := fun _ => fun
  | [d1, d2] => { results := [.lit (.bool true)], args := [d1, d2] }
  | _ => none }
def bossOnceRow : OpenClaim := { program := "ytkncpoaddamlbaa", sum := "1df8666f69d40c0c326cf579ce31d67eefe64df7d3b7279687dd8542eb587700", func := "barrow/barrowlaw20.BossOnce", spec := "bossOnce", unfollowed := true, recurses := true, apart := false }
def BossOnceSaid : Prop := bossOnceRow.holds Try.pinned (OpenSpec.ofChange bossOnceSpec)

/-- ITS FALSE NEIGHBOUR: 'it returns false'. Refute it at one input. -/
def bossOnceWrong : ChangeSpec := { name := "bossOnce", fn := fun _ => fun
  | [d1, d2] => { results := [.lit (.bool false)], args := [d1, d2] }
  | _ => none }
def BossOnceWrongFalsely : Prop := bossOnceRow.holds Try.pinned (OpenSpec.ofChange bossOnceWrong)

/-- 'barrowlaw20.BossBeats': WHATEVER THE INPUT: true; the input reads as it did. -/
def bossBeatsSpec : ChangeSpec := { name := "bossBeats", fn := fun _ => fun
  | [d1, d2, d3] => { results := [.lit (.bool true)], args := [d1, d2, d3] }
  | _ => none }
def bossBeatsRow : OpenClaim := { program := "ytkncpoaddamlbaa", sum := "1df8666f69d40c0c326cf579ce31d67eefe64df7d3b7279687dd8542eb587700", func := "barrow/barrowlaw20.BossBeats", spec := "bossBeats", unfollowed := true, recurses := true, apart := false }
def BossBeatsSaid : Prop := bossBeatsRow.holds Try.pinned (OpenSpec.ofChange bossBeatsSpec)

/-- ITS FALSE NEIGHBOUR: 'it returns false'. Refute it at one input. -/
def bossBeatsWrong : ChangeSpec := { name := "bossBeats", fn := fun _ => fun
  | [d1, d2, d3] => { results := [.lit (.bool false)], args := [d1, d2, d3] }
  | _ => none }
def BossBeatsWrongFalsely : Prop := bossBeatsRow.holds Try.pinned (OpenSpec.ofChange bossBeatsWrong)

/- THE SECOND FORM. 'bulk': how many values and letters a reading holds, each counted each time it is reached (what is shared counts as often as it is met; a slice's spare places count too). A statement '..UptoSaid' is the law's where the arguments, and the package variables that the reading takes, are together of bulk at most 1048576: NARROWER than '..Said'. Prove '..Said' where nothing that the law and all that it calls make is longer than what came in: it says more and counts as full. Else prove '..UptoSaid'. A law counts once. -/
mutual
def uptoBulk {H : Type} : DataW H → Nat
  | .lit (.string bytes) => bytes.length + 1
  | .lit _ => 1
  | .nil => 1
  | .ptr d => uptoBulk d + 1
  | .slice elems spare => uptoBulkAll elems + uptoBulkAll spare + 1
  | .agg parts => uptoBulkAll parts + 1
  | .iface _ d => uptoBulk d + 1
  | .map entries => uptoBulkEntries entries + 1
  | .held _ => 1
def uptoBulkAll {H : Type} : List (DataW H) → Nat
  | [] => 0
  | d :: r => uptoBulk d + uptoBulkAll r
def uptoBulkEntries {H : Type} : List (Lit × DataW H) → Nat
  | [] => 0
  | x :: r => uptoBulkEntry x + uptoBulkEntries r
def uptoBulkEntry {H : Type} : Lit × DataW H → Nat
  | (.string bytes, d) => bytes.length + uptoBulk d + 1
  | (_, d) => uptoBulk d + 1
 end
def uptoSmall : (H : Type) → List (DataW H) → Bool := fun _ ds => decide (uptoBulkAll ds ≤ 1048576)
def OpenSpec.upto (s : _root_.Go.ChangeSpec) : _root_.Go.OpenSpec := { _root_.Go.OpenSpec.ofChange s with cond := some uptoSmall }

/-- 'barrowlaw20.BossRuns', WHERE WHAT IT READS IS OF BULK AT MOST 1048576: true; the input reads as it did. -/
def bossRunsUptoRow : OpenClaim := { program := "ytkncpoaddamlbaa", sum := "1df8666f69d40c0c326cf579ce31d67eefe64df7d3b7279687dd8542eb587700", func := "barrow/barrowlaw20.BossRuns", spec := "bossRuns", unfollowed := true, recurses := true, apart := false, narrowed := true }
def BossRunsUptoSaid : Prop := bossRunsUptoRow.holds Try.pinned (OpenSpec.upto bossRunsSpec)

/-- 'barrowlaw20.BossOnce', WHERE WHAT IT READS IS OF BULK AT MOST 1048576: true; the input reads as it did. -/
def bossOnceUptoRow : OpenClaim := { program := "ytkncpoaddamlbaa", sum := "1df8666f69d40c0c326cf579ce31d67eefe64df7d3b7279687dd8542eb587700", func := "barrow/barrowlaw20.BossOnce", spec := "bossOnce", unfollowed := true, recurses := true, apart := false, narrowed := true }
def BossOnceUptoSaid : Prop := bossOnceUptoRow.holds Try.pinned (OpenSpec.upto bossOnceSpec)

/-- 'barrowlaw20.BossBeats', WHERE WHAT IT READS IS OF BULK AT MOST 1048576: true; the input reads as it did. -/
def bossBeatsUptoRow : OpenClaim := { program := "ytkncpoaddamlbaa", sum := "1df8666f69d40c0c326cf579ce31d67eefe64df7d3b7279687dd8542eb587700", func := "barrow/barrowlaw20.BossBeats", spec := "bossBeats", unfollowed := true, recurses := true, apart := false, narrowed := true }
def BossBeatsUptoSaid : Prop := bossBeatsUptoRow.holds Try.pinned (OpenSpec.upto bossBeatsSpec)

end Rows
end Go.Proofs.Ytkncpoaddamlbaa

/-
  No cell of these rows narrows 'for every input' (looked for: loops, veiled, ifaces, maps, wideKeys, modest, calm, conditions, laid).
  DERIVED. THE GIVEN ROWS OF THIS SEAT. 4 by the template 'for every input the law returns true; each argument reads behind the call as it read before'; 0 by the template 'total and deterministic' (their statements: YtkaikflohpbcnaaTotals.lean).
  GIVEN WITH THE SEED: the statements are not yours to turn. If you find one false, say at which input.
  Laid BY PROGRAM, IN A SANDBOX (cutbox-rows.mjs): the forced cells as the released guide's own fill.sh prints them over the translation aaa78ac74d5b30de… (all of the seat's roots in one cut). By AI agents, Wed Nov 11 2026. No macro, syntax, notation, axiom, sorry.
-/
import Derived.Test.YtkaikflohpbcnaaChecked
import GoSem.Claim
import GoSem.ClaimJoined
import GoSem.ClaimMapViews
import Derived.JoinedTies
import Derived.KernelRfl
namespace Go.Proofs.Ytkaikflohpbcnaa
/- THE CELL 'sum', in the pinned program and in every row, IS THE sha256 OF THE DUMP (.gsa) THAT YtkaikflohpbcnaaProg.lean LOADS. Nothing in Lean hashes anything: it is a label: what it is worth is what the hold of that sum in a sandbox is worth. -/
noncomputable def Try.pinned : Pinned := { name := "ytkaikflohpbcnaa", sum := "aaa78ac74d5b30ded84187e6224b2a688b81e065674edbcd05cf55103eaed149", checked := Try.checked }
namespace Rows
def none {H : Type} : Left H := { results := [], args := [] }

/-- 'barrowlaw21.LootTells': WHATEVER THE INPUT: true; the input reads as it did. -/
def lootTellsSpec : ChangeSpec := { name := "lootTells", fn := fun _ => fun
  | [d1, d2, d3, d4] => { results := [.lit (.bool true)], args := [d1, d2, d3, d4] }
  | _ => none }
def lootTellsRow : OpenClaim := { program := "ytkaikflohpbcnaa", sum := "aaa78ac74d5b30ded84187e6224b2a688b81e065674edbcd05cf55103eaed149", func := "barrow/barrowlaw21.LootTells", spec := "lootTells", unfollowed := true, recurses := true, apart := false }
def LootTellsSaid : Prop := lootTellsRow.holds Try.pinned (OpenSpec.ofChange lootTellsSpec)

/-- ITS FALSE NEIGHBOUR: 'it returns false'. Refute it at one input. -/
def lootTellsWrong : ChangeSpec := { name := "lootTells", fn := fun _ => fun
  | [d1, d2, d3, d4] => { results := [.lit (.bool false)], args := [d1, d2, d3, d4] }
  | _ => none }
def LootTellsWrongFalsely : Prop := lootTellsRow.holds Try.pinned (OpenSpec.ofChange lootTellsWrong)

/-- 'barrowlaw21.LootRolls': WHATEVER THE INPUT: true; the input reads as it did. -/
def lootRollsSpec : ChangeSpec := { name := "lootRolls", fn := fun _ => fun
  | [d1, d2, d3] => { results := [.lit (.bool true)], args := [d1, d2, d3] }
  | _ => none }
def lootRollsRow : OpenClaim := { program := "ytkaikflohpbcnaa", sum := "aaa78ac74d5b30ded84187e6224b2a688b81e065674edbcd05cf55103eaed149", func := "barrow/barrowlaw21.LootRolls", spec := "lootRolls", unfollowed := true, recurses := true, apart := false }
def LootRollsSaid : Prop := lootRollsRow.holds Try.pinned (OpenSpec.ofChange lootRollsSpec)

/-- ITS FALSE NEIGHBOUR: 'it returns false'. Refute it at one input. -/
def lootRollsWrong : ChangeSpec := { name := "lootRolls", fn := fun _ => fun
  | [d1, d2, d3] => { results := [.lit (.bool false)], args := [d1, d2, d3] }
  | _ => none }
def LootRollsWrongFalsely : Prop := lootRollsRow.holds Try.pinned (OpenSpec.ofChange lootRollsWrong)

/-- 'barrowlaw21.LootFair': WHATEVER THE INPUT: true; the input reads as it did. -/
def lootFairSpec : ChangeSpec := { name := "lootFair", fn := fun _ => fun
  | [d1, d2, d3] => { results := [.lit (.bool true)], args := [d1, d2, d3] }
  | _ => none }
def lootFairRow : OpenClaim := { program := "ytkaikflohpbcnaa", sum := "aaa78ac74d5b30ded84187e6224b2a688b81e065674edbcd05cf55103eaed149", func := "barrow/barrowlaw21.LootFair", spec := "lootFair", unfollowed := true, recurses := true, apart := false }
def LootFairSaid : Prop := lootFairRow.holds Try.pinned (OpenSpec.ofChange lootFairSpec)

/-- ITS FALSE NEIGHBOUR: 'it returns false'. Refute it at one input. -/
def lootFairWrong : ChangeSpec := { name := "lootFair", fn := fun _ => fun
  | [d1, d2, d3] => { results := [.lit (.bool false)], args := [d1, d2, d3] }
  | _ => none }
def LootFairWrongFalsely : Prop := lootFairRow.holds Try.pinned (OpenSpec.ofChange lootFairWrong)

/-- 'barrowlaw21.LootOnce': WHATEVER THE INPUT: true; the input reads as it did. -/
def lootOnceSpec : ChangeSpec := { name := "lootOnce", fn := fun _ => fun
  | [d1, d2] => { results := [.lit (.bool true)], args := [d1, d2] }
  | _ => none }
def lootOnceRow : OpenClaim := { program := "ytkaikflohpbcnaa", sum := "aaa78ac74d5b30ded84187e6224b2a688b81e065674edbcd05cf55103eaed149", func := "barrow/barrowlaw21.LootOnce", spec := "lootOnce", unfollowed := true, recurses := true, apart := false }
def LootOnceSaid : Prop := lootOnceRow.holds Try.pinned (OpenSpec.ofChange lootOnceSpec)

/-- ITS FALSE NEIGHBOUR: 'it returns false'. Refute it at one input. -/
def lootOnceWrong : ChangeSpec := { name := "lootOnce", fn := fun _ => fun
  | [d1, d2] => { results := [.lit (.bool false)], args := [d1, d2] }
  | _ => none }
def LootOnceWrongFalsely : Prop := lootOnceRow.holds Try.pinned (OpenSpec.ofChange lootOnceWrong)

/- THE SECOND FORM. 'bulk': how many values and letters a reading holds, each counted each time it is reached (what is shared counts as often as it is met; a slice's spare places count too). A statement '..UptoSaid' is the law's where the arguments, and the package variables that the reading takes, are together of bulk at most 1048576: NARROWER than '..Said'. Prove '..Said' where nothing that the law and all that it calls make is longer than what came in: it says more and counts as full. Else prove '..UptoSaid'. A law counts once. -/
mutual
def uptoBulk {H : Type} : DataW H → Nat
  | .lit (.string bytes) => bytes.length + 1
  | .lit _ => 1
  | .nil => 1
  | .ptr d => uptoBulk d + 1
  | .slice elems spare => uptoBulkAll elems + uptoBulkAll spare + 1
  | .agg parts => uptoBulkAll parts + 1
  | .iface _ d => uptoBulk d + 1
  | .map entries => uptoBulkEntries entries + 1
  | .held _ => 1
def uptoBulkAll {H : Type} : List (DataW H) → Nat
  | [] => 0
  | d :: r => uptoBulk d + uptoBulkAll r
def uptoBulkEntries {H : Type} : List (Lit × DataW H) → Nat
  | [] => 0
  | x :: r => uptoBulkEntry x + uptoBulkEntries r
def uptoBulkEntry {H : Type} : Lit × DataW H → Nat
  | (.string bytes, d) => bytes.length + uptoBulk d + 1
  | (_, d) => uptoBulk d + 1
 end
def uptoSmall : (H : Type) → List (DataW H) → Bool := fun _ ds => decide (uptoBulkAll ds ≤ 1048576)
def OpenSpec.upto (s : _root_.Go.ChangeSpec) : _root_.Go.OpenSpec := { _root_.Go.OpenSpec.ofChange s with cond := some uptoSmall }

/-- 'barrowlaw21.LootTells', WHERE WHAT IT READS IS OF BULK AT MOST 1048576: true; the input reads as it did. -/
def lootTellsUptoRow : OpenClaim := { program := "ytkaikflohpbcnaa", sum := "aaa78ac74d5b30ded84187e6224b2a688b81e065674edbcd05cf55103eaed149", func := "barrow/barrowlaw21.LootTells", spec := "lootTells", unfollowed := true, recurses := true, apart := false, narrowed := true }
def LootTellsUptoSaid : Prop := lootTellsUptoRow.holds Try.pinned (OpenSpec.upto lootTellsSpec)

/-- 'barrowlaw21.LootRolls', WHERE WHAT IT READS IS OF BULK AT MOST 1048576: true; the input reads as it did. -/
def lootRollsUptoRow : OpenClaim := { program := "ytkaikflohpbcnaa", sum := "aaa78ac74d5b30ded84187e6224b2a688b81e065674edbcd05cf55103eaed149", func := "barrow/barrowlaw21.LootRolls", spec := "lootRolls", unfollowed := true, recurses := true, apart := false, narrowed := true }
def LootRollsUptoSaid : Prop := lootRollsUptoRow.holds Try.pinned (OpenSpec.upto lootRollsSpec)

/-- 'barrowlaw21.LootFair', WHERE WHAT IT READS IS OF BULK AT MOST 1048576: true; the input reads as it did. -/
def lootFairUptoRow : OpenClaim := { program := "ytkaikflohpbcnaa", sum := "aaa78ac74d5b30ded84187e6224b2a688b81e065674edbcd05cf55103eaed149", func := "barrow/barrowlaw21.LootFair", spec := "lootFair", unfollowed := true, recurses := true, apart := false, narrowed := true }
def LootFairUptoSaid : Prop := lootFairUptoRow.holds Try.pinned (OpenSpec.upto lootFairSpec)

/-- 'barrowlaw21.LootOnce', WHERE WHAT IT READS IS OF BULK AT MOST 1048576: true; the input reads as it did. -/
def lootOnceUptoRow : OpenClaim := { program := "ytkaikflohpbcnaa", sum := "aaa78ac74d5b30ded84187e6224b2a688b81e065674edbcd05cf55103eaed149", func := "barrow/barrowlaw21.LootOnce", spec := "lootOnce", unfollowed := true, recurses := true, apart := false, narrowed := true }
def LootOnceUptoSaid : Prop := lootOnceUptoRow.holds Try.pinned (OpenSpec.upto lootOnceSpec)

end Rows
end Go.Proofs.Ytkaikflohpbcnaa

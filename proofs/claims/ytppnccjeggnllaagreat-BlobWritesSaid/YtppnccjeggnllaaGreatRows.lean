/-
  No cell of these rows narrows 'for every input' (looked for: loops, veiled, ifaces, maps, wideKeys, modest, calm, conditions, laid).
  DERIVED. THE GIVEN ROWS OF THIS SEAT. 4 by the template 'for every input the law returns true; each argument reads behind the call as it read before'; 0 by the template 'total and deterministic' (their statements: YtppnccjeggnllaaGreatTotals.lean).
  GIVEN WITH THE SEED: the statements are not yours to turn. If you find one false, say at which input.
  Laid BY PROGRAM, IN A SANDBOX (cutbox-rows.mjs): the forced cells as the released guide's own fill.sh prints them over the translation a76f082076c406e5… (all of the seat's roots in one cut). By AI agents, Wed Nov 11 2026. No macro, syntax, notation, axiom, sorry.
-/
import Derived.Test.YtppnccjeggnllaaGreatChecked
import GoSem.Claim
import GoSem.ClaimJoined
import GoSem.ClaimMapViews
import Derived.JoinedTies
import Derived.KernelRfl
namespace Go.Proofs.YtppnccjeggnllaaGreat
/- THE CELL 'sum', in the pinned program and in every row, IS THE sha256 OF THE DUMP (.gsa) THAT YtppnccjeggnllaaGreatProg.lean LOADS. Nothing in Lean hashes anything: it is a label: what it is worth is what the hold of that sum in a sandbox is worth. -/
noncomputable def Tryz.pinned : Pinned := { name := "ytppnccjeggnllaagreat", sum := "a76f082076c406e58123db1c14ab18d6e4beb3a19e0244e163d269301d19d7be", checked := Tryz.checked }
namespace Rows
def none {H : Type} : Left H := { results := [], args := [] }

/-- 'barrowlaw10.BlobWrites': WHATEVER THE INPUT: true; the input reads as it did. -/
def blobWritesSpec : ChangeSpec := { name := "blobWrites", fn := fun _ => fun
  | [d] => { results := [.lit (.bool true)], args := [d] }
  | _ => none }
def blobWritesRow : OpenClaim := { program := "ytppnccjeggnllaagreat", sum := "a76f082076c406e58123db1c14ab18d6e4beb3a19e0244e163d269301d19d7be", func := "barrow/barrowlaw10.BlobWrites", spec := "blobWrites", unfollowed := true, recurses := true, apart := false }
def BlobWritesSaid : Prop := blobWritesRow.holds Tryz.pinned (OpenSpec.ofChange blobWritesSpec)

/-- ITS FALSE NEIGHBOUR: 'it returns false'. Refute it at one input. -/
def blobWritesWrong : ChangeSpec := { name := "blobWrites", fn := fun _ => fun
  | [d] => { results := [.lit (.bool false)], args := [d] }
  | _ => none }
def BlobWritesWrongFalsely : Prop := blobWritesRow.holds Tryz.pinned (OpenSpec.ofChange blobWritesWrong)

/-- 'barrowlaw10.BlobReads': WHATEVER THE INPUT: true; the input reads as it did. -/
def blobReadsSpec : ChangeSpec := { name := "blobReads", fn := fun _ => fun
  | [d1, d2] => { results := [.lit (.bool true)], args := [d1, d2] }
  | _ => none }
def blobReadsRow : OpenClaim := { program := "ytppnccjeggnllaagreat", sum := "a76f082076c406e58123db1c14ab18d6e4beb3a19e0244e163d269301d19d7be", func := "barrow/barrowlaw10.BlobReads", spec := "blobReads", unfollowed := true, recurses := true, apart := false }
def BlobReadsSaid : Prop := blobReadsRow.holds Tryz.pinned (OpenSpec.ofChange blobReadsSpec)

/-- ITS FALSE NEIGHBOUR: 'it returns false'. Refute it at one input. -/
def blobReadsWrong : ChangeSpec := { name := "blobReads", fn := fun _ => fun
  | [d1, d2] => { results := [.lit (.bool false)], args := [d1, d2] }
  | _ => none }
def BlobReadsWrongFalsely : Prop := blobReadsRow.holds Tryz.pinned (OpenSpec.ofChange blobReadsWrong)

/-- 'barrowlaw10.BlobCuts': WHATEVER THE INPUT: true; the input reads as it did. -/
def blobCutsSpec : ChangeSpec := { name := "blobCuts", fn := fun _ => fun
  | [d1, d2, d3] => { results := [.lit (.bool true)], args := [d1, d2, d3] }
  | _ => none }
def blobCutsRow : OpenClaim := { program := "ytppnccjeggnllaagreat", sum := "a76f082076c406e58123db1c14ab18d6e4beb3a19e0244e163d269301d19d7be", func := "barrow/barrowlaw10.BlobCuts", spec := "blobCuts", unfollowed := true, recurses := true, apart := false }
def BlobCutsSaid : Prop := blobCutsRow.holds Tryz.pinned (OpenSpec.ofChange blobCutsSpec)

/-- ITS FALSE NEIGHBOUR: 'it returns false'. Refute it at one input. -/
def blobCutsWrong : ChangeSpec := { name := "blobCuts", fn := fun _ => fun
  | [d1, d2, d3] => { results := [.lit (.bool false)], args := [d1, d2, d3] }
  | _ => none }
def BlobCutsWrongFalsely : Prop := blobCutsRow.holds Tryz.pinned (OpenSpec.ofChange blobCutsWrong)

/-- 'barrowlaw10.BlobBack': WHATEVER THE INPUT: true; the input reads as it did. -/
def blobBackSpec : ChangeSpec := { name := "blobBack", fn := fun _ => fun
  | [d1, d2, d3] => { results := [.lit (.bool true)], args := [d1, d2, d3] }
  | _ => none }
def blobBackRow : OpenClaim := { program := "ytppnccjeggnllaagreat", sum := "a76f082076c406e58123db1c14ab18d6e4beb3a19e0244e163d269301d19d7be", func := "barrow/barrowlaw10.BlobBack", spec := "blobBack", unfollowed := true, recurses := true, apart := false }
def BlobBackSaid : Prop := blobBackRow.holds Tryz.pinned (OpenSpec.ofChange blobBackSpec)

/-- ITS FALSE NEIGHBOUR: 'it returns false'. Refute it at one input. -/
def blobBackWrong : ChangeSpec := { name := "blobBack", fn := fun _ => fun
  | [d1, d2, d3] => { results := [.lit (.bool false)], args := [d1, d2, d3] }
  | _ => none }
def BlobBackWrongFalsely : Prop := blobBackRow.holds Tryz.pinned (OpenSpec.ofChange blobBackWrong)

/- THE SECOND FORM. 'bulk': how many values and letters a reading holds, each counted each time it is reached (what is shared counts as often as it is met; a slice's spare places count too). A statement '..UptoSaid' is the law's where the arguments, and the package variables that the reading takes, are together of bulk at most 1048576: NARROWER than '..Said'. Prove '..Said' where nothing that the law and all that it calls make is longer than what came in: it says more and counts as full. Else prove '..UptoSaid'. A law counts once. -/
mutual
def uptoBulk {H : Type} : DataW H → Nat
  | .lit (.string bytes) => bytes.length + 1
  | .lit _ => 1
  | .nil => 1
  | .ptr d => uptoBulk d + 1
  | .slice elems spare => uptoBulkAll elems + uptoBulkAll spare + 1
  | .agg parts => uptoBulkAll parts + 1
  | .iface _ d => uptoBulk d + 1
  | .map entries => uptoBulkEntries entries + 1
  | .held _ => 1
def uptoBulkAll {H : Type} : List (DataW H) → Nat
  | [] => 0
  | d :: r => uptoBulk d + uptoBulkAll r
def uptoBulkEntries {H : Type} : List (Lit × DataW H) → Nat
  | [] => 0
  | x :: r => uptoBulkEntry x + uptoBulkEntries r
def uptoBulkEntry {H : Type} : Lit × DataW H → Nat
  | (.string bytes, d) => bytes.length + uptoBulk d + 1
  | (_, d) => uptoBulk d + 1
 end
def uptoSmall : (H : Type) → List (DataW H) → Bool := fun _ ds => decide (uptoBulkAll ds ≤ 1048576)
def OpenSpec.upto (s : _root_.Go.ChangeSpec) : _root_.Go.OpenSpec := { _root_.Go.OpenSpec.ofChange s with cond := some uptoSmall }

/-- 'barrowlaw10.BlobWrites', WHERE WHAT IT READS IS OF BULK AT MOST 1048576: true; the input reads as it did. -/
def blobWritesUptoRow : OpenClaim := { program := "ytppnccjeggnllaagreat", sum := "a76f082076c406e58123db1c14ab18d6e4beb3a19e0244e163d269301d19d7be", func := "barrow/barrowlaw10.BlobWrites", spec := "blobWrites", unfollowed := true, recurses := true, apart := false, narrowed := true }
def BlobWritesUptoSaid : Prop := blobWritesUptoRow.holds Tryz.pinned (OpenSpec.upto blobWritesSpec)

/-- 'barrowlaw10.BlobReads', WHERE WHAT IT READS IS OF BULK AT MOST 1048576: true; the input reads as it did. -/
def blobReadsUptoRow : OpenClaim := { program := "ytppnccjeggnllaagreat", sum := "a76f082076c406e58123db1c14ab18d6e4beb3a19e0244e163d269301d19d7be", func := "barrow/barrowlaw10.BlobReads", spec := "blobReads", unfollowed := true, recurses := true, apart := false, narrowed := true }
def BlobReadsUptoSaid : Prop := blobReadsUptoRow.holds Tryz.pinned (OpenSpec.upto blobReadsSpec)

/-- 'barrowlaw10.BlobCuts', WHERE WHAT IT READS IS OF BULK AT MOST 1048576: true; the input reads as it did. -/
def blobCutsUptoRow : OpenClaim := { program := "ytppnccjeggnllaagreat", sum := "a76f082076c406e58123db1c14ab18d6e4beb3a19e0244e163d269301d19d7be", func := "barrow/barrowlaw10.BlobCuts", spec := "blobCuts", unfollowed := true, recurses := true, apart := false, narrowed := true }
def BlobCutsUptoSaid : Prop := blobCutsUptoRow.holds Tryz.pinned (OpenSpec.upto blobCutsSpec)

/-- 'barrowlaw10.BlobBack', WHERE WHAT IT READS IS OF BULK AT MOST 1048576: true; the input reads as it did. -/
def blobBackUptoRow : OpenClaim := { program := "ytppnccjeggnllaagreat", sum := "a76f082076c406e58123db1c14ab18d6e4beb3a19e0244e163d269301d19d7be", func := "barrow/barrowlaw10.BlobBack", spec := "blobBack", unfollowed := true, recurses := true, apart := false, narrowed := true }
def BlobBackUptoSaid : Prop := blobBackUptoRow.holds Tryz.pinned (OpenSpec.upto blobBackSpec)

end Rows
end Go.Proofs.YtppnccjeggnllaaGreat

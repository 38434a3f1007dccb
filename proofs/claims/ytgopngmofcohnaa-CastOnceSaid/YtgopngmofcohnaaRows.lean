/-
  No cell of these rows narrows 'for every input' (looked for: loops, veiled, ifaces, maps, wideKeys, modest, calm, conditions, laid).
  DERIVED. THE GIVEN ROWS OF THIS SEAT. 7 by the template 'for every input the law returns true; each argument reads behind the call as it read before'; 0 by the template 'total and deterministic' (their statements: YtgopngmofcohnaaTotals.lean).
  GIVEN WITH THE SEED: the statements are not yours to turn. If you find one false, say at which input.
  Laid BY PROGRAM, IN A SANDBOX (cutbox-rows.mjs): the forced cells as the released guide's own fill.sh prints them over the translation c7e48a5d7a5cb25d… (all of the seat's roots in one cut). By AI agents, Wed Nov 11 2026. No macro, syntax, notation, axiom, sorry.
-/
import Derived.Test.YtgopngmofcohnaaChecked
import GoSem.Claim
import GoSem.ClaimJoined
import GoSem.ClaimMapViews
import Derived.JoinedTies
import Derived.KernelRfl
namespace Go.Proofs.Ytgopngmofcohnaa
/- THE CELL 'sum', in the pinned program and in every row, IS THE sha256 OF THE DUMP (.gsa) THAT YtgopngmofcohnaaProg.lean LOADS. Nothing in Lean hashes anything: it is a label: what it is worth is what the hold of that sum in a sandbox is worth. -/
noncomputable def Try.pinned : Pinned := { name := "ytgopngmofcohnaa", sum := "c7e48a5d7a5cb25d7536bdc92e1076a510f140bb61e230a40593159a75699425", checked := Try.checked }
namespace Rows
def none {H : Type} : Left H := { results := [], args := [] }

/-- 'barrowlaw14.ShieldTakes': WHATEVER THE INPUT: true; the input reads as it did. -/
def shieldTakesSpec : ChangeSpec := { name := "shieldTakes", fn := fun _ => fun
  | [d1, d2] => { results := [.lit (.bool true)], args := [d1, d2] }
  | _ => none }
def shieldTakesRow : OpenClaim := { program := "ytgopngmofcohnaa", sum := "c7e48a5d7a5cb25d7536bdc92e1076a510f140bb61e230a40593159a75699425", func := "barrow/barrowlaw14.ShieldTakes", spec := "shieldTakes", unfollowed := true, recurses := true, apart := false }
def ShieldTakesSaid : Prop := shieldTakesRow.holds Try.pinned (OpenSpec.ofChange shieldTakesSpec)

/-- ITS FALSE NEIGHBOUR: 'it returns false'. Refute it at one input. -/
def shieldTakesWrong : ChangeSpec := { name := "shieldTakes", fn := fun _ => fun
  | [d1, d2] => { results := [.lit (.bool false)], args := [d1, d2] }
  | _ => none }
def ShieldTakesWrongFalsely : Prop := shieldTakesRow.holds Try.pinned (OpenSpec.ofChange shieldTakesWrong)

/-- 'barrowlaw14.ShieldParts': WHATEVER THE INPUT: true; the input reads as it did. -/
def shieldPartsSpec : ChangeSpec := { name := "shieldParts", fn := fun _ => fun
  | [d1, d2] => { results := [.lit (.bool true)], args := [d1, d2] }
  | _ => none }
def shieldPartsRow : OpenClaim := { program := "ytgopngmofcohnaa", sum := "c7e48a5d7a5cb25d7536bdc92e1076a510f140bb61e230a40593159a75699425", func := "barrow/barrowlaw14.ShieldParts", spec := "shieldParts", unfollowed := true, recurses := true, apart := false }
def ShieldPartsSaid : Prop := shieldPartsRow.holds Try.pinned (OpenSpec.ofChange shieldPartsSpec)

/-- ITS FALSE NEIGHBOUR: 'it returns false'. Refute it at one input. -/
def shieldPartsWrong : ChangeSpec := { name := "shieldParts", fn := fun _ => fun
  | [d1, d2] => { results := [.lit (.bool false)], args := [d1, d2] }
  | _ => none }
def ShieldPartsWrongFalsely : Prop := shieldPartsRow.holds Try.pinned (OpenSpec.ofChange shieldPartsWrong)

/-- 'barrowlaw14.ShieldSums': WHATEVER THE INPUT: true; the input reads as it did. -/
def shieldSumsSpec : ChangeSpec := { name := "shieldSums", fn := fun _ => fun
  | [d1, d2] => { results := [.lit (.bool true)], args := [d1, d2] }
  | _ => none }
def shieldSumsRow : OpenClaim := { program := "ytgopngmofcohnaa", sum := "c7e48a5d7a5cb25d7536bdc92e1076a510f140bb61e230a40593159a75699425", func := "barrow/barrowlaw14.ShieldSums", spec := "shieldSums", unfollowed := true, recurses := true, apart := false }
def ShieldSumsSaid : Prop := shieldSumsRow.holds Try.pinned (OpenSpec.ofChange shieldSumsSpec)

/-- ITS FALSE NEIGHBOUR: 'it returns false'. Refute it at one input. -/
def shieldSumsWrong : ChangeSpec := { name := "shieldSums", fn := fun _ => fun
  | [d1, d2] => { results := [.lit (.bool false)], args := [d1, d2] }
  | _ => none }
def ShieldSumsWrongFalsely : Prop := shieldSumsRow.holds Try.pinned (OpenSpec.ofChange shieldSumsWrong)

/-- 'barrowlaw13.BodyTells': WHATEVER THE INPUT: true; the input reads as it did. -/
def bodyTellsSpec : ChangeSpec := { name := "bodyTells", fn := fun _ => fun
  | [d1, d2, d3] => { results := [.lit (.bool true)], args := [d1, d2, d3] }
  | _ => none }
def bodyTellsRow : OpenClaim := { program := "ytgopngmofcohnaa", sum := "c7e48a5d7a5cb25d7536bdc92e1076a510f140bb61e230a40593159a75699425", func := "barrow/barrowlaw13.BodyTells", spec := "bodyTells", unfollowed := true, recurses := true, apart := false }
def BodyTellsSaid : Prop := bodyTellsRow.holds Try.pinned (OpenSpec.ofChange bodyTellsSpec)

/-- ITS FALSE NEIGHBOUR: 'it returns false'. Refute it at one input. -/
def bodyTellsWrong : ChangeSpec := { name := "bodyTells", fn := fun _ => fun
  | [d1, d2, d3] => { results := [.lit (.bool false)], args := [d1, d2, d3] }
  | _ => none }
def BodyTellsWrongFalsely : Prop := bodyTellsRow.holds Try.pinned (OpenSpec.ofChange bodyTellsWrong)

/-- 'barrowlaw13.BodyParts': WHATEVER THE INPUT: true; the input reads as it did. -/
def bodyPartsSpec : ChangeSpec := { name := "bodyParts", fn := fun _ => fun
  | [d1, d2, d3] => { results := [.lit (.bool true)], args := [d1, d2, d3] }
  | _ => none }
def bodyPartsRow : OpenClaim := { program := "ytgopngmofcohnaa", sum := "c7e48a5d7a5cb25d7536bdc92e1076a510f140bb61e230a40593159a75699425", func := "barrow/barrowlaw13.BodyParts", spec := "bodyParts", unfollowed := true, recurses := true, apart := false }
def BodyPartsSaid : Prop := bodyPartsRow.holds Try.pinned (OpenSpec.ofChange bodyPartsSpec)

/-- ITS FALSE NEIGHBOUR: 'it returns false'. Refute it at one input. -/
def bodyPartsWrong : ChangeSpec := { name := "bodyParts", fn := fun _ => fun
  | [d1, d2, d3] => { results := [.lit (.bool false)], args := [d1, d2, d3] }
  | _ => none }
def BodyPartsWrongFalsely : Prop := bodyPartsRow.holds Try.pinned (OpenSpec.ofChange bodyPartsWrong)

/-- 'barrowlaw17.CastOnce': WHATEVER THE INPUT: true; the input reads as it did. -/
def castOnceSpec : ChangeSpec := { name := "castOnce", fn := fun _ => fun
  | [d] => { results := [.lit (.bool true)], args := [d] }
  | _ => none }
def castOnceRow : OpenClaim := { program := "ytgopngmofcohnaa", sum := "c7e48a5d7a5cb25d7536bdc92e1076a510f140bb61e230a40593159a75699425", func := "barrow/barrowlaw17.CastOnce", spec := "castOnce", apart := false }
def CastOnceSaid : Prop := castOnceRow.holds Try.pinned (OpenSpec.ofChange castOnceSpec)

/-- ITS FALSE NEIGHBOUR: 'it returns false'. Refute it at one input. -/
def castOnceWrong : ChangeSpec := { name := "castOnce", fn := fun _ => fun
  | [d] => { results := [.lit (.bool false)], args := [d] }
  | _ => none }
def CastOnceWrongFalsely : Prop := castOnceRow.holds Try.pinned (OpenSpec.ofChange castOnceWrong)

/-- 'barrowlaw17.CastWaits': WHATEVER THE INPUT: true; the input reads as it did. -/
def castWaitsSpec : ChangeSpec := { name := "castWaits", fn := fun _ => fun
  | [d1, d2, d3] => { results := [.lit (.bool true)], args := [d1, d2, d3] }
  | _ => none }
def castWaitsRow : OpenClaim := { program := "ytgopngmofcohnaa", sum := "c7e48a5d7a5cb25d7536bdc92e1076a510f140bb61e230a40593159a75699425", func := "barrow/barrowlaw17.CastWaits", spec := "castWaits", apart := false }
def CastWaitsSaid : Prop := castWaitsRow.holds Try.pinned (OpenSpec.ofChange castWaitsSpec)

/-- ITS FALSE NEIGHBOUR: 'it returns false'. Refute it at one input. -/
def castWaitsWrong : ChangeSpec := { name := "castWaits", fn := fun _ => fun
  | [d1, d2, d3] => { results := [.lit (.bool false)], args := [d1, d2, d3] }
  | _ => none }
def CastWaitsWrongFalsely : Prop := castWaitsRow.holds Try.pinned (OpenSpec.ofChange castWaitsWrong)

/- THE SECOND FORM. 'bulk': how many values and letters a reading holds, each counted each time it is reached (what is shared counts as often as it is met; a slice's spare places count too). A statement '..UptoSaid' is the law's where the arguments, and the package variables that the reading takes, are together of bulk at most 1048576: NARROWER than '..Said'. Prove '..Said' where nothing that the law and all that it calls make is longer than what came in: it says more and counts as full. Else prove '..UptoSaid'. A law counts once. -/
mutual
def uptoBulk {H : Type} : DataW H → Nat
  | .lit (.string bytes) => bytes.length + 1
  | .lit _ => 1
  | .nil => 1
  | .ptr d => uptoBulk d + 1
  | .slice elems spare => uptoBulkAll elems + uptoBulkAll spare + 1
  | .agg parts => uptoBulkAll parts + 1
  | .iface _ d => uptoBulk d + 1
  | .map entries => uptoBulkEntries entries + 1
  | .held _ => 1
def uptoBulkAll {H : Type} : List (DataW H) → Nat
  | [] => 0
  | d :: r => uptoBulk d + uptoBulkAll r
def uptoBulkEntries {H : Type} : List (Lit × DataW H) → Nat
  | [] => 0
  | x :: r => uptoBulkEntry x + uptoBulkEntries r
def uptoBulkEntry {H : Type} : Lit × DataW H → Nat
  | (.string bytes, d) => bytes.length + uptoBulk d + 1
  | (_, d) => uptoBulk d + 1
 end
def uptoSmall : (H : Type) → List (DataW H) → Bool := fun _ ds => decide (uptoBulkAll ds ≤ 1048576)
def OpenSpec.upto (s : _root_.Go.ChangeSpec) : _root_.Go.OpenSpec := { _root_.Go.OpenSpec.ofChange s with cond := some uptoSmall }

/-- 'barrowlaw14.ShieldTakes', WHERE WHAT IT READS IS OF BULK AT MOST 1048576: true; the input reads as it did. -/
def shieldTakesUptoRow : OpenClaim := { program := "ytgopngmofcohnaa", sum := "c7e48a5d7a5cb25d7536bdc92e1076a510f140bb61e230a40593159a75699425", func := "barrow/barrowlaw14.ShieldTakes", spec := "shieldTakes", unfollowed := true, recurses := true, apart := false, narrowed := true }
def ShieldTakesUptoSaid : Prop := shieldTakesUptoRow.holds Try.pinned (OpenSpec.upto shieldTakesSpec)

/-- 'barrowlaw14.ShieldParts', WHERE WHAT IT READS IS OF BULK AT MOST 1048576: true; the input reads as it did. -/
def shieldPartsUptoRow : OpenClaim := { program := "ytgopngmofcohnaa", sum := "c7e48a5d7a5cb25d7536bdc92e1076a510f140bb61e230a40593159a75699425", func := "barrow/barrowlaw14.ShieldParts", spec := "shieldParts", unfollowed := true, recurses := true, apart := false, narrowed := true }
def ShieldPartsUptoSaid : Prop := shieldPartsUptoRow.holds Try.pinned (OpenSpec.upto shieldPartsSpec)

/-- 'barrowlaw14.ShieldSums', WHERE WHAT IT READS IS OF BULK AT MOST 1048576: true; the input reads as it did. -/
def shieldSumsUptoRow : OpenClaim := { program := "ytgopngmofcohnaa", sum := "c7e48a5d7a5cb25d7536bdc92e1076a510f140bb61e230a40593159a75699425", func := "barrow/barrowlaw14.ShieldSums", spec := "shieldSums", unfollowed := true, recurses := true, apart := false, narrowed := true }
def ShieldSumsUptoSaid : Prop := shieldSumsUptoRow.holds Try.pinned (OpenSpec.upto shieldSumsSpec)

/-- 'barrowlaw13.BodyTells', WHERE WHAT IT READS IS OF BULK AT MOST 1048576: true; the input reads as it did. -/
def bodyTellsUptoRow : OpenClaim := { program := "ytgopngmofcohnaa", sum := "c7e48a5d7a5cb25d7536bdc92e1076a510f140bb61e230a40593159a75699425", func := "barrow/barrowlaw13.BodyTells", spec := "bodyTells", unfollowed := true, recurses := true, apart := false, narrowed := true }
def BodyTellsUptoSaid : Prop := bodyTellsUptoRow.holds Try.pinned (OpenSpec.upto bodyTellsSpec)

/-- 'barrowlaw13.BodyParts', WHERE WHAT IT READS IS OF BULK AT MOST 1048576: true; the input reads as it did. -/
def bodyPartsUptoRow : OpenClaim := { program := "ytgopngmofcohnaa", sum := "c7e48a5d7a5cb25d7536bdc92e1076a510f140bb61e230a40593159a75699425", func := "barrow/barrowlaw13.BodyParts", spec := "bodyParts", unfollowed := true, recurses := true, apart := false, narrowed := true }
def BodyPartsUptoSaid : Prop := bodyPartsUptoRow.holds Try.pinned (OpenSpec.upto bodyPartsSpec)

/-- 'barrowlaw17.CastOnce', WHERE WHAT IT READS IS OF BULK AT MOST 1048576: true; the input reads as it did. -/
def castOnceUptoRow : OpenClaim := { program := "ytgopngmofcohnaa", sum := "c7e48a5d7a5cb25d7536bdc92e1076a510f140bb61e230a40593159a75699425", func := "barrow/barrowlaw17.CastOnce", spec := "castOnce", apart := false, narrowed := true }
def CastOnceUptoSaid : Prop := castOnceUptoRow.holds Try.pinned (OpenSpec.upto castOnceSpec)

/-- 'barrowlaw17.CastWaits', WHERE WHAT IT READS IS OF BULK AT MOST 1048576: true; the input reads as it did. -/
def castWaitsUptoRow : OpenClaim := { program := "ytgopngmofcohnaa", sum := "c7e48a5d7a5cb25d7536bdc92e1076a510f140bb61e230a40593159a75699425", func := "barrow/barrowlaw17.CastWaits", spec := "castWaits", apart := false, narrowed := true }
def CastWaitsUptoSaid : Prop := castWaitsUptoRow.holds Try.pinned (OpenSpec.upto castWaitsSpec)

end Rows
end Go.Proofs.Ytgopngmofcohnaa

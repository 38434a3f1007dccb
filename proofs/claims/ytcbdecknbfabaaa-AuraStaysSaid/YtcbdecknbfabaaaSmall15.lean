import Derived.Test.YtcbdecknbfabaaaLaw15
namespace Go.Proofs.Ytcbdecknbfabaaa
open Go Go.RowKit Go.Proofs.YtcbdecknbfabaaaVm
attribute [local irreducible] opsWp AnswersE OpsS
set_option maxHeartbeats 400000
set_option maxRecDepth 100000
set_option linter.all false
theorem small15_true : small15 = true := by decide +kernel

end Go.Proofs.Ytcbdecknbfabaaa

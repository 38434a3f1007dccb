import Derived.Test.YtppnccjeggnllaaGreatPl10b
namespace Go.Proofs.YtppnccjeggnllaaGreat
open Go Go.RowKit Go.Proofs.YtppnccjeggnllaaGreatVm
attribute [local irreducible] opsWp AnswersE OpsS
set_option maxHeartbeats 400000
set_option maxRecDepth 100000
set_option linter.all false
/-! content's numbers are read as that content -/
attribute [local irreducible] takeN tval flagR
attribute [local irreducible] takeE takeL takeP takeU takeW
attribute [local irreducible] takeA takeF
end Go.Proofs.YtppnccjeggnllaaGreat

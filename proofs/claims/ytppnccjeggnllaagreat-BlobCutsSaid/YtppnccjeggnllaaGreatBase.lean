import Derived.Test.YtppnccjeggnllaaGreatVmZB
import Derived.Test.YtppnccjeggnllaaGreatProg
namespace Go.Proofs.YtppnccjeggnllaaGreat
open Go Go.RowKit Go.Proofs.YtppnccjeggnllaaGreatVm
attribute [local irreducible] opsWp AnswersE OpsS
set_option maxHeartbeats 400000
set_option maxRecDepth 100000
set_option linter.all false
end Go.Proofs.YtppnccjeggnllaaGreat

import Derived.Test.YthgocgebpoeolaaDoorTQ
set_option maxRecDepth 100000
set_option maxHeartbeats 1000000
set_option linter.unusedSimpArgs false
set_option linter.unusedVariables false
namespace Go.Pi.Terms
open Go Go.Pi Go.Proofs.YthgocgebpoeolaaDoor
end Go.Pi.Terms

/- The struct types of this seat, as instances. Written by mkids.py. -/
import Derived.Test.YtcaikjefkkejbaaGreatIds
import Derived.Test.YtcaikjefkkejbaaGreatRl
import Derived.KernelRfl
set_option linter.unusedVariables false
namespace Go.Proofs.YtcaikjefkkejbaaGreat
open Go Go.Rx
end Go.Proofs.YtcaikjefkkejbaaGreat

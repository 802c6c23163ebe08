/- Intervals of rational numbers: the program's and the reference's. -/
import Derived.Test.YtcaikjefkkejbaaGreatSb
import Derived.Test.YtcaikjefkkejbaaGreatVy
set_option linter.unusedVariables false
set_option linter.unusedSimpArgs false
set_option maxRecDepth 10000
set_option maxHeartbeats 4000000
namespace Go.Proofs.YtcaikjefkkejbaaGreat
open Go Go.Rx Go.Num Go.Tow
section
def lo2 (x y : Rat) : Rat := if y < x then y else x
def hi2 (x y : Rat) : Rat := if x < y then y else x
def minL (x : Rat) (r : List Rat) : Rat := r.foldl lo2 x
def maxL (x : Rat) (r : List Rat) : Rat := r.foldl hi2 x
/-- the least interval with a list's numbers -/
def hl (x : Rat) (r : List Rat) : Raw × Raw := (cq (minL x r), cq (maxL x r))
section
variable {W : GW} {v v' : Value} {a b c d : Rat} {s t : Nat}
end
end
section
section
variable {W : GW} {v v' : Value} {a b c d : Rat} {s t : Nat}
end
end
end Go.Proofs.YtcaikjefkkejbaaGreat

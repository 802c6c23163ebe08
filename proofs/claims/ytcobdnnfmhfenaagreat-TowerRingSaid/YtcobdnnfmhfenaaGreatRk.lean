/- Functions that are values: they are made, with what they capture. -/
import Derived.Test.YtcobdnnfmhfenaaGreatRn
set_option linter.unusedVariables false
set_option linter.unusedSimpArgs false
namespace Go.Rx
open Go
section
variable {P : Program} {n : Nat} {ops : Array Oper} {l : List Oper} {K : List Kt} {fin : Exit → Act → World → Prop} {env : Env} {W : GW}
variable {d : Nat} {ty : TypeId} {pos : String} {aft : Array Edge}
theorem O.mkf {f : FuncId} {fs cs : List Operand} {vs ws : List Value} (h1 : getL env fs = some vs) (h2 : getL env cs = some ws)
    (k : JO P n ops l K fin ((d, .func (.func f) vs.toArray ws.toArray) :: env) W) : JO P n ops (⟨some d, .makeFunc (.func f) fs.toArray cs.toArray, ty, pos, aft, none⟩ :: l) K fin env W :=
  JO.value (fun a ha => by
    have e1 := ha.getL h1
    have e2 := ha.getL h2
    have e1' : fs.toArray.map a.eval = vs.toArray := by simpa using e1
    have e2' : cs.toArray.map a.eval = ws.toArray := by simpa using e2
    simp only [execOp, e1', e2', Instr.makeFunc]
    rfl) k
end
end Go.Rx

/- More rules: append(nil, make([]T, n)...), a new array with room. -/
import Derived.Test.YtcaikjefkkejbaaGreatRz
import Derived.Lib.AppendZeros
set_option linter.unusedVariables false
set_option linter.unusedSimpArgs false
set_option maxRecDepth 10000
namespace Go.Rx
open Go
section
variable {P : Program} {n : Nat} {ops : Array Oper} {l : List Oper} {K : List Kt} {fin : Exit → Act → World → Prop} {env : Env} {W : GW}
variable {d : Nat} {ty : TypeId} {pos : String} {aft : Array Edge}
theorem run_appN {T TI : TypeId} {x y : Operand} {v1 v2 v : Value} {W' : GW} {a : Act} (ha : Rel n env a) (hx : get env x = some v1) (hy : get env y = some v2) (h : (Builtin.append_ #[T, TI] ty #[v1, v2]).run P W.w = .ok v W'.w) :
    (execOp a.eval ⟨some d, .call ⟨.builtin .append, #[x, y], #[T, TI]⟩, ty, pos, aft, none⟩).run P W.w = .ok (.value v) W'.w := by
  simp only [execOp, resolve]
  have e : (#[x, y] : Array Operand).map a.eval = #[v1, v2] := by simp [ha.get hx, ha.get hy]
  rw [e, pure_bind]
  simp only [invoke, builtin]
  rw [Sem.run_bind, h]
  rfl
/-- append(nil, make([]T, m)...), of which only the room is used -/
theorem O.appMk {α : Type} (r : Rep α) {T TI E sz by' : Nat} {z : List Value} {x y : Operand} {m : Nat} {kk : IntKind} {mi : Int} [i : TSl P T E sz by' z] [j : TInt P TI kk] (hx : get env x = some (.slice none 0 0)) (hy : get env y = some (.int .i64 mi)) (hmi : mi = (m : Int)) (hm : 0 < m)
    (hr : r.size = sz) (hz : z.length = sz) (hz0 : 0 < sz) (hB : m * by' ≤ 140737488355328) (hL : m < 9223372036854775808)
    (k : ∀ W' b c, Lk1 W W' → Ext W W' → W.size ≤ b → m ≤ c → Ows r W' (some ⟨b, 0, none⟩) 0 c [] → JO P n ops l K fin ((d, .slice (some ⟨b, 0, none⟩) m c) :: env) W') :
    JO P n ops (⟨some d, .call ⟨.builtin .append, #[x, y], #[T, TI]⟩, ty, pos, aft, none⟩ :: l) K fin env W := by
  obtain ⟨ii, v, e1, e2, e3, e4, e5⟩ := i.i
  subst hmi
  have h1 := Go.Lib.run_append_nil_zeros (P := P) W.w T TI ty E ii v .i64 kk i.u j.u e1 e4 m hm (by omega) (by omega) (by rw [e3]; omega)
  have hle := push_ext W.tick (.cells (Builtin.zeroCells v.cells m ++ Builtin.zeroCells v.cells (grownCap W.w m 0 E - m)) E) true
  have hge := grownCap_ge W.w m 0 E
  have hlt : grownCap W.w m 0 E < 9223372036854775808 := by
    have := Nat.mod_lt (W.w.tape W.w.drawn (.appendCap m 0 E)) (show 0 < 2 ^ 63 - m by omega)
    simp only [grownCap, Question.cut] at *
    omega
  have hzs : v.cells.size = ii.size := by rw [e2, ← hz, ← e5]; simp
  refine JO.world (W' := W.tick.push (.cells (Builtin.zeroCells v.cells m ++ Builtin.zeroCells v.cells (grownCap W.w m 0 E - m)) E) true) (fun a ha => run_appN ha hx hy h1)
    (k _ _ _ ⟨((tick_ext W).trans hle).toLeK⟩ ((tick_ext W).trans hle) (Nat.le_refl _) hge ⟨rfl, Nat.zero_le _, hlt, .inr ⟨W.size, (Builtin.zeroCells v.cells m ++ Builtin.zeroCells v.cells (grownCap W.w m 0 E - m)).toList, E, rfl, List.mem_cons_self .., W.hm, ?_, ?_, fun i x hi => by simp at hi⟩⟩)
  · have := push_cells W.tick (Builtin.zeroCells v.cells m ++ Builtin.zeroCells v.cells (grownCap W.w m 0 E - m)) E true
    rw [show W.tick.size = W.size from rfl] at this
    rw [this]
  · rw [Array.length_toList, Array.size_append, size_zeroCells, size_zeroCells, hzs, hr, ← e2, ← Nat.add_mul]
    congr 1
    omega
theorem O.cap {T : TypeId} {x : Operand} {p : Option Addr} {m c : Nat} {E sz by' : Nat} {z : List Value} [i : TSl P T E sz by' z] (hx : get env x = some (.slice p m c))
    (k : JO P n ops l K fin ((d, .int .i64 (c : Int)) :: env) W) : JO P n ops (⟨some d, .call ⟨.builtin .cap, #[x], #[T]⟩, ty, pos, aft, none⟩ :: l) K fin env W :=
  JO.value (fun a ha => by
    simp [execOp, resolve, invoke, builtin, Builtin.cap_, ha.get hx, underlying, program, bind, Sem.bind, Sem.run, pure, i.u, goInt]) k
end
end Go.Rx

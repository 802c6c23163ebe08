/- The rules of the walk: operations. -/
import Derived.Test.YtcobdnnfmhfenaaGreatRy
set_option linter.unusedVariables false
set_option linter.unusedSimpArgs false
namespace Go.Rx
open Go

def JO (P : Program) (n : Nat) (ops : Array Oper) (l : List Oper) (K : List Kt) (fin : Exit → Act → World → Prop) (env : Env) (W : GW) : Prop :=
  opsOk n l = true → ∀ a, Rel n env a → wpL P ops (Done P fin K) l a W.w

section
variable {P : Program} {n : Nat} {ops : Array Oper} {l : List Oper} {K : List Kt} {fin : Exit → Act → World → Prop} {env : Env} {W : GW}

theorem J.reg {id : Nat} {l : List Oper} (hok : opsOk n l = true) (k : JO P n l.toArray l K fin env W) : J P n (.c (.region id l.toArray false) :: K) fin env W := by
  intro a ha
  refine wp_region ?_
  have := wpOps_of (P := P) (ops := l.toArray) (Q := Done P fin K) l 0 a W.w (by simp) (k hok a ha)
  rw [← List.range_eq_range'] at this
  simpa using this
theorem JO.nil (k : J P n K fin env W) : JO P n ops [] K fin env W := fun _ a ha => k a ha

theorem JO.unok {o : Oper} {l : List Oper} (h : opsOk n (o :: l) = true) : opsOk n l = true := by
  simp only [opsOk] at h
  split at h
  · exact h
  · split at h
    · exact h
    · cases h
theorem JO.dst {d : Nat} {op : Op} {ty : TypeId} {pos : String} {aft : Array Edge} {g : Option (Nat × Bool)} {l : List Oper} (h : opsOk n (⟨some d, op, ty, pos, aft, g⟩ :: l) = true) :
    Nat.blt d n = true := by
  simp only [opsOk] at h
  split at h
  · assumption
  · cases h

theorem JO.world {d : Nat} {op : Op} {ty : TypeId} {pos : String} {aft : Array Edge} {v : Value} {W' : GW}
    (hr : ∀ a : Act, Rel n env a → (execOp a.eval ⟨some d, op, ty, pos, aft, none⟩).run P W.w = .ok (.value v) W'.w)
    (k : JO P n ops l K fin ((d, v) :: env) W') : JO P n ops (⟨some d, op, ty, pos, aft, none⟩ :: l) K fin env W := by
  intro hok a ha
  have hw : Region.wanted ⟨some d, op, ty, pos, aft, none⟩ (yielded ops a.tmps) = true := rfl
  simp only [wpL, hw, if_true]
  unfold Oper.wp
  rw [hr a ha]
  exact k (JO.unok hok) _ (ha.put (JO.dst hok) v)
theorem JO.value {d : Nat} {op : Op} {ty : TypeId} {pos : String} {aft : Array Edge} {v : Value}
    (hr : ∀ a : Act, Rel n env a → (execOp a.eval ⟨some d, op, ty, pos, aft, none⟩).run P W.w = .ok (.value v) W.w)
    (k : JO P n ops l K fin ((d, v) :: env) W) : JO P n ops (⟨some d, op, ty, pos, aft, none⟩ :: l) K fin env W := JO.world hr k
theorem JO.unit {op : Op} {ty : TypeId} {pos : String} {aft : Array Edge} {W' : GW}
    (hr : ∀ a : Act, Rel n env a → (execOp a.eval ⟨none, op, ty, pos, aft, none⟩).run P W.w = .ok .skip W'.w)
    (k : JO P n ops l K fin env W') : JO P n ops (⟨none, op, ty, pos, aft, none⟩ :: l) K fin env W := by
  intro hok a ha
  have hw : Region.wanted ⟨none, op, ty, pos, aft, none⟩ (yielded ops a.tmps) = true := rfl
  simp only [wpL, hw, if_true]
  unfold Oper.wp
  rw [hr a ha]
  exact k (JO.unok hok) _ ha

/-! guards -/
def dstAt (ops : List Oper) (j : Nat) : Option Nat := match ops, j with
  | [], _ => none
  | o :: _, 0 => o.dst
  | _ :: l, j + 1 => dstAt l j
theorem dstAt_eq (ops : List Oper) (j : Nat) : dstAt ops j = (ops[j]?).bind (·.dst) := by
  induction ops generalizing j with
  | nil => simp [dstAt]
  | cons o l ih => cases j with
    | zero => rfl
    | succ j => simp [dstAt, ih]
theorem yielded_of {L : List Oper} {a : Act} {j t : Nat} {c : Bool} (ha : Rel n env a) (ho : dstAt L j = some t) (hv : look env t = some (.bool c)) : yielded L.toArray a.tmps j = some c := by
  rw [dstAt_eq] at ho
  have h1 := ha.has t _ hv
  have h2 : a.tmps[t]? = some (.bool c) := by
    simp only [Array.getD] at h1
    split at h1
    · rename_i hlt
      rw [Array.getElem?_eq_getElem hlt]
      exact congrArg some h1
    · simp [undef] at h1
  simp [yielded, ho, h2]
theorem O.gt {L : List Oper} {d : Option Nat} {op : Op} {ty : TypeId} {pos : String} {aft : Array Edge} {j t : Nat} {b : Bool}
    (ho : dstAt L j = some t) (hv : look env t = some (.bool b)) (k : JO P n L.toArray (⟨d, op, ty, pos, aft, none⟩ :: l) K fin env W) :
    JO P n L.toArray (⟨d, op, ty, pos, aft, some (j, b)⟩ :: l) K fin env W := by
  intro hok a ha
  have hy := yielded_of ha ho hv
  have := k hok a ha
  have hw : Region.wanted ⟨d, op, ty, pos, aft, some (j, b)⟩ (yielded L.toArray a.tmps) = true := by simp [Region.wanted, hy]
  have hw' : Region.wanted ⟨d, op, ty, pos, aft, none⟩ (yielded L.toArray a.tmps) = true := rfl
  simp only [wpL, hw, hw', if_true] at this ⊢
  exact this
theorem O.gs {L : List Oper} {d : Nat} {op : Op} {ty : TypeId} {pos : String} {aft : Array Edge} {j t : Nat} {b c : Bool}
    (ho : dstAt L j = some t) (hv : look env t = some (.bool c)) (hc : (c == b) = false) (k : JO P n L.toArray l K fin ((d, undef) :: env) W) :
    JO P n L.toArray (⟨some d, op, ty, pos, aft, some (j, b)⟩ :: l) K fin env W := by
  intro hok a ha
  have hy := yielded_of ha ho hv
  have hw : Region.wanted ⟨some d, op, ty, pos, aft, some (j, b)⟩ (yielded L.toArray a.tmps) = false := by
    simp only [Region.wanted, hy]
    cases b <;> cases c <;> first | rfl | cases hc
  simp only [wpL, hw, Bool.false_eq_true, if_false]
  exact k (JO.unok hok) _ (ha.put (JO.dst hok) undef)
theorem O.set {t : Nat} {v : Value} (v' : Value) (h : look env t = some v) (e : v = v') (k : JO P n ops l K fin ((t, v') :: env) W) : JO P n ops l K fin env W := by
  intro hok a ha
  refine k hok a ⟨ha.defers, ha.size, fun s u hs => ?_⟩
  rw [look_cons] at hs
  by_cases hts : s = t
  · subst hts; simp at hs; rw [← hs, ← e]; exact ha.has _ _ h
  · simp [hts] at hs; exact ha.has _ _ hs
theorem O.sub (E : Env) (h : SubL env E) (k : JO P n ops l K fin E W) : JO P n ops l K fin env W := fun hok a ha => k hok a (ha.sub h)

variable {d : Nat} {ty : TypeId} {pos : String} {aft : Array Edge}

/-! operations that only compute -/
theorem O.mv {x : Operand} {v : Value} (hx : get env x = some v) (k : JO P n ops l K fin ((d, v) :: env) W) : JO P n ops (⟨some d, .move x, ty, pos, aft, none⟩ :: l) K fin env W :=
  JO.value (fun a ha => by show Result.ok (Next.value (a.eval x)) W.w = _; rw [ha.get hx]) k
theorem O.as {x : Operand} {v : Value} (hx : get env x = some v) (k : JO P n ops l K fin ((d, v) :: env) W) : JO P n ops (⟨some d, .assign x, ty, pos, aft, none⟩ :: l) K fin env W :=
  JO.value (fun a ha => by show Result.ok (Next.value (a.eval x)) W.w = _; rw [ha.get hx]) k
theorem O.pickT {c x y : Operand} {v : Value} (hc : get env c = some (.bool true)) (hx : get env x = some v) (k : JO P n ops l K fin ((d, v) :: env) W) :
    JO P n ops (⟨some d, .pick c x y, ty, pos, aft, none⟩ :: l) K fin env W :=
  JO.value (fun a ha => by simp only [execOp, ha.get hc, ha.get hx]; rfl) k
theorem O.pickF {c x y : Operand} {v : Value} (hc : get env c = some (.bool false)) (hx : get env y = some v) (k : JO P n ops l K fin ((d, v) :: env) W) :
    JO P n ops (⟨some d, .pick c x y, ty, pos, aft, none⟩ :: l) K fin env W :=
  JO.value (fun a ha => by simp only [execOp, ha.get hc, ha.get hx]; rfl) k
theorem O.ext {x : Operand} {i : Nat} {vs : Array Value} {v : Value} (hx : get env x = some (.tuple vs)) (hv : vs[i]? = some v) (k : JO P n ops l K fin ((d, v) :: env) W) :
    JO P n ops (⟨some d, .extract x i, ty, pos, aft, none⟩ :: l) K fin env W :=
  JO.value (fun a ha => by simp only [execOp, ha.get hx, Instr.extract, hv]; rfl) k
theorem O.not {x : Operand} {T : TypeId} {b : Bool} (hx : get env x = some (.bool b)) (k : JO P n ops l K fin ((d, .bool (!b)) :: env) W) :
    JO P n ops (⟨some d, .unOp .not T x, ty, pos, aft, none⟩ :: l) K fin env W :=
  JO.value (fun a ha => by simp only [execOp, ha.get hx]; rfl) k

theorem beq_dec (a b : Int) : (a == b) = decide (a = b) := rfl
/-- arithmetic -/
theorem O.add {x y : Operand} {T T' : TypeId} {k' : IntKind} {a b r : Int} (hx : get env x = some (.int k' a)) (hy : get env y = some (.int k' b)) (hr : k'.wrap (a + b) = r)
    (k : JO P n ops l K fin ((d, .int k' r) :: env) W) : JO P n ops (⟨some d, .binOp .add T x y T', ty, pos, aft, none⟩ :: l) K fin env W :=
  JO.value (fun a ha => by simp only [execOp, ha.get hx, ha.get hy, eqGuard, binOp, Op.intArith, hr]; simp [bind, pure, Sem.bind, Sem.run]) k
theorem O.sb {x y : Operand} {T T' : TypeId} {k' : IntKind} {a b r : Int} (hx : get env x = some (.int k' a)) (hy : get env y = some (.int k' b)) (hr : k'.wrap (a - b) = r)
    (k : JO P n ops l K fin ((d, .int k' r) :: env) W) : JO P n ops (⟨some d, .binOp .sub T x y T', ty, pos, aft, none⟩ :: l) K fin env W :=
  JO.value (fun a ha => by simp only [execOp, ha.get hx, ha.get hy, eqGuard, binOp, Op.intArith, hr]; simp [bind, pure, Sem.bind, Sem.run]) k
theorem O.mul {x y : Operand} {T T' : TypeId} {k' : IntKind} {a b r : Int} (hx : get env x = some (.int k' a)) (hy : get env y = some (.int k' b)) (hr : k'.wrap (a * b) = r)
    (k : JO P n ops l K fin ((d, .int k' r) :: env) W) : JO P n ops (⟨some d, .binOp .mul T x y T', ty, pos, aft, none⟩ :: l) K fin env W :=
  JO.value (fun a ha => by simp only [execOp, ha.get hx, ha.get hy, eqGuard, binOp, Op.intArith, hr]; simp [bind, pure, Sem.bind, Sem.run]) k
theorem O.lt {x y : Operand} {T T' : TypeId} {k' : IntKind} {a b : Int} (hx : get env x = some (.int k' a)) (hy : get env y = some (.int k' b))
    (k : JO P n ops l K fin ((d, .bool (decide (a < b))) :: env) W) : JO P n ops (⟨some d, .binOp .lss T x y T', ty, pos, aft, none⟩ :: l) K fin env W :=
  JO.value (fun a ha => by simp only [execOp, ha.get hx, ha.get hy, eqGuard, binOp, Op.intCmp]; simp [bind, pure, Sem.bind, Sem.run]) k
theorem O.le {x y : Operand} {T T' : TypeId} {k' : IntKind} {a b : Int} (hx : get env x = some (.int k' a)) (hy : get env y = some (.int k' b))
    (k : JO P n ops l K fin ((d, .bool (decide (a ≤ b))) :: env) W) : JO P n ops (⟨some d, .binOp .leq T x y T', ty, pos, aft, none⟩ :: l) K fin env W :=
  JO.value (fun a ha => by simp only [execOp, ha.get hx, ha.get hy, eqGuard, binOp, Op.intCmp]; simp [bind, pure, Sem.bind, Sem.run]) k
theorem O.gtr {x y : Operand} {T T' : TypeId} {k' : IntKind} {a b : Int} (hx : get env x = some (.int k' a)) (hy : get env y = some (.int k' b))
    (k : JO P n ops l K fin ((d, .bool (decide (a > b))) :: env) W) : JO P n ops (⟨some d, .binOp .gtr T x y T', ty, pos, aft, none⟩ :: l) K fin env W :=
  JO.value (fun a ha => by simp only [execOp, ha.get hx, ha.get hy, eqGuard, binOp, Op.intCmp]; simp [bind, pure, Sem.bind, Sem.run]) k
theorem O.ge {x y : Operand} {T T' : TypeId} {k' : IntKind} {a b : Int} (hx : get env x = some (.int k' a)) (hy : get env y = some (.int k' b))
    (k : JO P n ops l K fin ((d, .bool (decide (a ≥ b))) :: env) W) : JO P n ops (⟨some d, .binOp .geq T x y T', ty, pos, aft, none⟩ :: l) K fin env W :=
  JO.value (fun a ha => by simp only [execOp, ha.get hx, ha.get hy, eqGuard, binOp, Op.intCmp]; simp [bind, pure, Sem.bind, Sem.run]) k
theorem O.eq {x y : Operand} {T T' : TypeId} {k' : IntKind} {a b : Int} (hx : get env x = some (.int k' a)) (hy : get env y = some (.int k' b))
    (k : JO P n ops l K fin ((d, .bool (decide (a = b))) :: env) W) : JO P n ops (⟨some d, .binOp .eql T x y T', ty, pos, aft, none⟩ :: l) K fin env W := by
  refine JO.value (v := .bool (decide (a = b))) (fun a ha => ?_) k
  simp only [execOp, ha.get hx, ha.get hy, eqGuard, binOp, Op.intCmp]
  simp [bind, pure, Sem.bind, Sem.run, beq_dec]
theorem O.ne {x y : Operand} {T T' : TypeId} {k' : IntKind} {a b : Int} (hx : get env x = some (.int k' a)) (hy : get env y = some (.int k' b))
    (k : JO P n ops l K fin ((d, .bool (decide (a ≠ b))) :: env) W) : JO P n ops (⟨some d, .binOp .neq T x y T', ty, pos, aft, none⟩ :: l) K fin env W := by
  refine JO.value (v := .bool (decide (a ≠ b))) (fun a ha => ?_) k
  simp only [execOp, ha.get hx, ha.get hy, eqGuard, binOp, Op.intCmp]
  simp [bind, pure, Sem.bind, Sem.run, bne, beq_dec]
theorem O.quo {x y : Operand} {T T' : TypeId} {k' : IntKind} {a b r : Int} (hx : get env x = some (.int k' a)) (hy : get env y = some (.int k' b)) (h0 : b ≠ 0) (hr : k'.wrap (a.tdiv b) = r)
    (k : JO P n ops l K fin ((d, .int k' r) :: env) W) : JO P n ops (⟨some d, .binOp .quo T x y T', ty, pos, aft, none⟩ :: l) K fin env W :=
  JO.value (fun a ha => by simp only [execOp, ha.get hx, ha.get hy, eqGuard, binOp, Op.intDiv, h0, hr]; simp [bind, pure, Sem.bind, Sem.run]) k
theorem O.rem {x y : Operand} {T T' : TypeId} {k' : IntKind} {a b r : Int} (hx : get env x = some (.int k' a)) (hy : get env y = some (.int k' b)) (h0 : b ≠ 0) (hr : a.tmod b = r)
    (k : JO P n ops l K fin ((d, .int k' r) :: env) W) : JO P n ops (⟨some d, .binOp .rem T x y T', ty, pos, aft, none⟩ :: l) K fin env W :=
  JO.value (fun a ha => by simp only [execOp, ha.get hx, ha.get hy, eqGuard, binOp, Op.intDiv, h0, hr]; simp [bind, pure, Sem.bind, Sem.run]) k
theorem O.shl {x y : Operand} {T T' : TypeId} {k' k'' : IntKind} {a b r : Int} (hx : get env x = some (.int k' a)) (hy : get env y = some (.int k'' b)) (h0 : ¬ b < 0) (hr : k'.wrap (a * 2 ^ (min b.toNat k'.bits)) = r)
    (k : JO P n ops l K fin ((d, .int k' r) :: env) W) : JO P n ops (⟨some d, .binOp .shl T x y T', ty, pos, aft, none⟩ :: l) K fin env W :=
  JO.value (fun a ha => by simp only [execOp, ha.get hx, ha.get hy, eqGuard, binOp, Op.shift, h0, hr]; simp [bind, pure, Sem.bind, Sem.run]) k
theorem O.shr {x y : Operand} {T T' : TypeId} {k' k'' : IntKind} {a b r : Int} (hx : get env x = some (.int k' a)) (hy : get env y = some (.int k'' b)) (h0 : ¬ b < 0) (hr : a.fdiv (2 ^ (min b.toNat k'.bits)) = r)
    (k : JO P n ops l K fin ((d, .int k' r) :: env) W) : JO P n ops (⟨some d, .binOp .shr T x y T', ty, pos, aft, none⟩ :: l) K fin env W :=
  JO.value (fun a ha => by simp only [execOp, ha.get hx, ha.get hy, eqGuard, binOp, Op.shift, h0, hr]; simp [bind, pure, Sem.bind, Sem.run]) k
end

/-! the program's types, as instances -/
class TInt (P : Program) (T : TypeId) (k : outParam IntKind) : Prop where
  u : P.underlying T = some (.int k)
class TBool (P : Program) (T : TypeId) : Prop where
  u : P.underlying T = some .bool
/-- a slice type: its element type, the element's cells and bytes, its zero -/
class TSl (P : Program) (T : TypeId) (E : outParam TypeId) (sz by' : outParam Nat) (z : outParam (List Value)) : Prop where
  u : P.underlying T = some (.slice E)
  i : ∃ i v, P.info? E = some i ∧ i.size = sz ∧ i.bytes = by' ∧ i.zero = some v ∧ v.cells.toList = z
/-- a variable's type: its cells, whether they are several, its zero -/
class TVar (P : Program) (T : TypeId) (sz : outParam Nat) (ag : outParam Bool) (z : outParam (List Value)) : Prop where
  u : ∃ t, P.underlying T = some t ∧ (t matches .struct _ | .array _ _) = ag
  i : ∃ i v, P.info? T = some i ∧ i.size = sz ∧ i.zero = some v ∧ v.cells.toList = z
class TStr (P : Program) (T : TypeId) : Prop where
  u : P.underlying T = some .string
/-- a struct of two fields -/
class TBld (P : Program) (T : TypeId) (n0 n1 : outParam Nat) : Prop where
  u : ∃ (fs : Array Field) (g0 g1 : Field) (i0 i1 ii : TypeInfo) (z : Value), P.underlying T = some (.struct fs) ∧ fs = #[g0, g1] ∧ g0.offset = 0 ∧ g1.offset = n0 ∧ P.info? g0.type = some i0 ∧ P.info? g1.type = some i1 ∧ i0.size = n0 ∧ i1.size = n1 ∧
    P.info? T = some ii ∧ ii.zero = some z ∧ z.cells.size = n0 + n1
/-- a field: where it lies -/
class TFld (P : Program) (T : TypeId) (f : Nat) (off : outParam Nat) : Prop where
  u : ∃ fs g, P.underlying T = some (.struct fs) ∧ fs[f]? = some g ∧ g.offset = off ∧ ∃ i, P.info? g.type = some i ∧ i.size ≠ 0

section
variable {P : Program} {n : Nat} {ops : Array Oper} {l : List Oper} {K : List Kt} {fin : Exit → Act → World → Prop} {env : Env} {W : GW}
variable {d : Nat} {ty : TypeId} {pos : String} {aft : Array Edge}

theorem run_und {T : TypeId} {t : TypeDesc} {w : World} (h : P.underlying T = some t) : (underlying T).run P w = .ok t w := by
  simp [underlying, program, bind, Sem.bind, Sem.run, pure, h]

theorem O.cv {S T : TypeId} {k' k'' : IntKind} {x : Operand} {a r : Int} [i : TInt P S k''] [j : TInt P T k'] (hx : get env x = some (.int k'' a)) (hr : k'.wrap a = r)
    (k : JO P n ops l K fin ((d, .int k' r) :: env) W) : JO P n ops (⟨some d, .convert S T x, ty, pos, aft, none⟩ :: l) K fin env W :=
  JO.value (fun a ha => by
    simp only [execOp, ha.get hx, convert, Conv.intToInt, hr, underlying, program, bind, Sem.bind, Sem.run, pure, i.u, j.u]) k
theorem O.len {T : TypeId} {x : Operand} {p : Option Addr} {m c : Nat} {E sz by' : Nat} {z : List Value} [i : TSl P T E sz by' z] (hx : get env x = some (.slice p m c))
    (k : JO P n ops l K fin ((d, .int .i64 (m : Int)) :: env) W) : JO P n ops (⟨some d, .call ⟨.builtin .len, #[x], #[T]⟩, ty, pos, aft, none⟩ :: l) K fin env W :=
  JO.value (fun a ha => by
    simp [execOp, resolve, invoke, builtin, Builtin.len_, ha.get hx, underlying, program, bind, Sem.bind, Sem.run, pure, i.u, goInt]) k
theorem run_bnd {α β : Type} (s : Sem α) (f : α → Sem β) (w w' : World) (x : α) (h : s.run P w = .ok x w') : (s.bind f).run P w = (f x).run P w' := by
  rw [Sem.run_bind', h]
  rfl
theorem run_eqIn {T : TypeId} (h : P.underlying T = some .bool) (a b : Bool) (w : World) (m : Nat) : (Op.equalIn (m + 1) T (.bool a) (.bool b)).run P w = .ok (a == b) w := by
  simp [Op.equalIn, underlying, program, bind, Sem.bind, Sem.run, pure, h]
theorem run_eq {T : TypeId} (h : P.underlying T = some .bool) (a b : Bool) (w : World) : (Op.equal T (.bool a) (.bool b)).run P w = .ok (a == b) w := run_eqIn h a b w 9999
theorem O.beq {T T' : TypeId} {x y : Operand} {a b : Bool} [i : TBool P T] (hx : get env x = some (.bool a)) (hy : get env y = some (.bool b))
    (k : JO P n ops l K fin ((d, .bool (a == b)) :: env) W) : JO P n ops (⟨some d, .binOp .eql T x y T', ty, pos, aft, none⟩ :: l) K fin env W :=
  JO.value (fun ac ha => by
    have h1 := run_eq i.u a b W.w
    simp only [execOp, ha.get hx, ha.get hy, eqGuard, binOp]
    show ((Sem.bind (Op.equal T (.bool a) (.bool b)) _).bind _).run P W.w = _
    rw [run_bnd _ _ W.w W.w (.bool (a == b)) (by rw [run_bnd _ _ _ _ _ h1]; rfl)]
    rfl) k
theorem O.bne {T T' : TypeId} {x y : Operand} {a b : Bool} [i : TBool P T] (hx : get env x = some (.bool a)) (hy : get env y = some (.bool b))
    (k : JO P n ops l K fin ((d, .bool (a != b)) :: env) W) : JO P n ops (⟨some d, .binOp .neq T x y T', ty, pos, aft, none⟩ :: l) K fin env W :=
  JO.value (fun ac ha => by
    have h1 := run_eq i.u a b W.w
    simp only [execOp, ha.get hx, ha.get hy, eqGuard, binOp]
    show ((Sem.bind (Op.equal T (.bool a) (.bool b)) _).bind _).run P W.w = _
    rw [run_bnd _ _ W.w W.w (.bool (a != b)) (by rw [run_bnd _ _ _ _ _ h1]; rfl)]
    rfl) k
theorem add0 (b off k : Nat) : (⟨b, off, none⟩ : Addr).add k = ⟨b, off + k, none⟩ := by
  unfold Addr.add; split
  · rename_i h; subst h; rfl
  · rfl
theorem O.fa {T f off o : Nat} {x : Operand} {b : Nat} [i : TFld P T f o] (hx : get env x = some (.pointer (some ⟨b, off, none⟩)))
    (k : JO P n ops l K fin ((d, .pointer (some ⟨b, off + o, none⟩)) :: env) W) : JO P n ops (⟨some d, .fieldAddr T x f, ty, pos, aft, none⟩ :: l) K fin env W := by
  obtain ⟨fs, g, h1, h2, h3, ii, h4, h5⟩ := i.u
  exact JO.value (fun a ha => by
    simp [execOp, ha.get hx, Instr.fieldAt, Instr.sureAddr, fieldPlace, sizeOf, typeInfo, underlying, program, bind, Sem.bind, Sem.run, pure, h1, h2, h3, h4, h5, add0]) k
theorem O.ia {T : TypeId} {E sz by' : Nat} {z : List Value} {x y : Operand} {b off m c j : Nat} {k' : IntKind} {jj : Int} [i : TSl P T E sz by' z]
    (hx : get env x = some (.slice (some ⟨b, off, none⟩) m c)) (hy : get env y = some (.int k' jj)) (hjj : jj = (j : Int)) (hj : j < m)
    (k : JO P n ops l K fin ((d, .pointer (some ⟨b, off + j * sz, none⟩)) :: env) W) : JO P n ops (⟨some d, .indexAddr T x y, ty, pos, aft, none⟩ :: l) K fin env W := by
  obtain ⟨ii, v, h1, h2, h3, h4, h5⟩ := i.i
  subst hjj
  exact JO.value (fun a ha => by
    simp [execOp, ha.get hx, ha.get hy, Instr.indexAt, asIntOf, sizeOf, typeInfo, underlying, program, bind, Sem.bind, Sem.run, pure, i.u, h1, h2, hj, add0]) k
/-- x[lo:hi] -/
theorem O.sl {T : TypeId} {E sz by' : Nat} {z : List Value} {x y1 y2 : Operand} {p : Option Addr} {m c lo hi : Nat} {k1 k2 : IntKind} {li hh : Int} [i : TSl P T E sz by' z]
    (hx : get env x = some (.slice p m c)) (h1 : get env y1 = some (.int k1 li)) (h2 : get env y2 = some (.int k2 hh)) (hli : li = (lo : Int)) (hhh : hh = (hi : Int)) (hlo : lo ≤ hi) (hhi : hi ≤ c)
    (k : JO P n ops l K fin ((d, .slice (if c = lo then p else p.map (·.add (lo * sz))) (hi - lo) (c - lo)) :: env) W) : JO P n ops (⟨some d, .slice T x (some y1) (some y2) none, ty, pos, aft, none⟩ :: l) K fin env W := by
  obtain ⟨ii, v, e1, e2, e3, e4, e5⟩ := i.i
  subst hli; subst hhh
  exact JO.value (fun a ha => by
    simp [execOp, ha.get hx, ha.get h1, ha.get h2, Instr.sliceAt, Instr.slice, Instr.sliceBounds, Instr.sliceBound, asIntOf, sizeOf, typeInfo, underlying, program, bind, Sem.bind, Sem.run, pure, i.u, e1, e2, hlo, hhi]) k
/-- x[:hi] -/
theorem O.slh {T : TypeId} {E sz by' : Nat} {z : List Value} {x y2 : Operand} {p : Option Addr} {m c hi : Nat} {k2 : IntKind} {hh : Int} [i : TSl P T E sz by' z]
    (hx : get env x = some (.slice p m c)) (h2 : get env y2 = some (.int k2 hh)) (hhh : hh = (hi : Int)) (hhi : hi ≤ c)
    (k : JO P n ops l K fin ((d, .slice p hi c) :: env) W) : JO P n ops (⟨some d, .slice T x none (some y2) none, ty, pos, aft, none⟩ :: l) K fin env W := by
  obtain ⟨ii, v, e1, e2, e3, e4, e5⟩ := i.i
  subst hhh
  have hp : p.map (·.add (0 * sz)) = p := by
    cases p with
    | none => rfl
    | some a => simp [Addr.add]
  exact JO.value (fun a ha => by
    simp [execOp, ha.get hx, ha.get h2, Instr.sliceAt, Instr.slice, Instr.sliceBounds, Instr.sliceBound, asIntOf, sizeOf, typeInfo, underlying, program, bind, Sem.bind, Sem.run, pure, i.u, e1, e2, hhi]
    cases p <;> simp [Addr.add]) k
/-- x[lo:] -/
theorem O.sll {T : TypeId} {E sz by' : Nat} {z : List Value} {x y1 : Operand} {p : Option Addr} {m c lo : Nat} {k1 : IntKind} {li : Int} [i : TSl P T E sz by' z]
    (hx : get env x = some (.slice p m c)) (h1 : get env y1 = some (.int k1 li)) (hli : li = (lo : Int)) (hlo : lo ≤ m)
    (k : JO P n ops l K fin ((d, .slice (if c = lo then p else p.map (·.add (lo * sz))) (m - lo) (c - lo)) :: env) W) : JO P n ops (⟨some d, .slice T x (some y1) none none, ty, pos, aft, none⟩ :: l) K fin env W := by
  obtain ⟨ii, v, e1, e2, e3, e4, e5⟩ := i.i
  subst hli
  exact JO.value (fun a ha => by
    simp [execOp, ha.get hx, ha.get h1, Instr.sliceAt, Instr.slice, Instr.sliceBounds, Instr.sliceBound, asIntOf, sizeOf, typeInfo, underlying, program, bind, Sem.bind, Sem.run, pure, i.u, e1, e2, hlo]) k

/-! loads -/
theorem run_load {a : Addr} {w : World} {v : Value} (h : w.cell? a = some v) : (load a).run P w = .ok v w := by
  simp [load, Sem.run, h]
theorem run_loadCells {b off : Nat} {w : World} (cs : List Value) : ∀ (i : Nat) (acc : Array Value), (∀ j v, cs[j]? = some v → w.cell? ⟨b, off + (i + j), none⟩ = some v) →
    (loadCellsFrom ⟨b, off, none⟩ i cs.length acc).run P w = .ok (acc ++ cs.toArray) w := by
  induction cs with
  | nil => intro i acc _; simp [loadCellsFrom, pure, Sem.run]
  | cons c cs ih =>
    intro i acc h
    have h0 := h 0 c rfl
    have hi := ih (i + 1) (acc.push c) (fun j v hj => by
      have := h (j + 1) v hj
      rwa [show off + (i + 1 + j) = off + (i + (j + 1)) from by omega])
    simp only [List.length_cons, loadCellsFrom, bind, load, Sem.bind, add0, Sem.run]
    rw [show off + (i + 0) = off + i from rfl] at h0
    rw [h0]
    simp only [pure, Sem.bind]
    rw [hi]
    simp
theorem O.ld {T sz : Nat} {ag : Bool} {z cs : List Value} {x : Operand} {b off : Nat} [i : TVar P T sz ag z] (hx : get env x = some (.pointer (some ⟨b, off, none⟩)))
    (hl : cs.length = sz) (hc : ∀ j v, cs[j]? = some v → W.w.cell? ⟨b, off + j, none⟩ = some v) (h1 : ag = false → sz = 1)
    (k : JO P n ops l K fin ((d, mkv ag cs) :: env) W) : JO P n ops (⟨some d, .load T x, ty, pos, aft, none⟩ :: l) K fin env W := by
  obtain ⟨t, u1, u2⟩ := i.u
  obtain ⟨ii, v, e1, e2, e3⟩ := i.i
  have hcells := run_loadCells (P := P) (b := b) (off := off) (w := W.w) cs 0 #[] (fun j v hj => by simpa using hc j v hj)
  have hs : (sizeOf T).run P W.w = .ok sz W.w := by simp [sizeOf, typeInfo, program, bind, Sem.bind, Sem.run, pure, e1, e2]
  have hag : (isAgg T).run P W.w = .ok ag W.w := by
    subst u2
    cases t <;> simp [isAgg, underlying, program, bind, Sem.bind, Sem.run, pure, u1]
  have hv : (loadVar T ⟨b, off, none⟩).run P W.w = .ok (mkv ag cs) W.w := by
    unfold loadVar
    rw [Sem.run_bind, hag]
    cases ag with
    | true =>
      subst hl
      simp only [Result.andThen_ok, if_true]
      rw [Sem.run_bind, hs]
      simp only [Result.andThen_ok]
      rw [Sem.run_bind]
      simp only [loadCells]
      rw [hcells]
      simp [mkv]
    | false =>
      have h2 := h1 rfl
      match cs, hl, hc with
      | [c], hl, hc => simpa [mkv] using run_load (P := P) (hc 0 c rfl)
      | [], hl, hc => simp at hl; omega
      | _ :: _ :: _, hl, hc => simp at hl; omega
  refine JO.value (fun a ha => ?_) k
  simp only [execOp, ha.get hx, Instr.loadAt, Instr.sureAddr]
  rw [Sem.run_bind]
  show Result.andThen ((loadVar T ⟨b, off, none⟩).run P W.w) _ = _
  rw [hv]
  rfl

/-- a load whose cell is known -/
theorem O.ldC {T : TypeId} {z : List Value} {x : Operand} {b off : Nat} {v : Value} [i : TVar P T 1 false z] (hx : get env x = some (.pointer (some ⟨b, off, none⟩))) (hc : W.w.cell? ⟨b, off, none⟩ = some v)
    (k : JO P n ops l K fin ((d, v) :: env) W) : JO P n ops (⟨some d, .load T x, ty, pos, aft, none⟩ :: l) K fin env W :=
  O.ld (ag := false) (cs := [v]) hx rfl (fun j u hj => by
    match j, hj with
    | 0, hj => simp at hj; subst hj; exact hc
    | j + 1, hj => simp at hj) (fun _ => rfl) k
theorem bv_or (w x y : Nat) (hx : x < 2 ^ w) (hy : y < 2 ^ w) : (BitVec.ofInt w (x : Int) ||| BitVec.ofInt w (y : Int)).toNat = x ||| y := by
  have e : ∀ z : Nat, z < 2 ^ w → (BitVec.ofInt w (z : Int)).toNat = z := by
    intro z hz
    rw [BitVec.ofInt_natCast, BitVec.toNat_ofNat, Nat.mod_eq_of_lt hz]
  rw [BitVec.toNat_or, e x hx, e y hy]
theorem bv_and (w x y : Nat) (hx : x < 2 ^ w) (hy : y < 2 ^ w) : (BitVec.ofInt w (x : Int) &&& BitVec.ofInt w (y : Int)).toNat = x &&& y := by
  have e : ∀ z : Nat, z < 2 ^ w → (BitVec.ofInt w (z : Int)).toNat = z := by
    intro z hz
    rw [BitVec.ofInt_natCast, BitVec.toNat_ofNat, Nat.mod_eq_of_lt hz]
  rw [BitVec.toNat_and, e x hx, e y hy]
theorem O.or {x y : Operand} {T T' : TypeId} {k' : IntKind} {p q : Nat} {pi qi r : Int} (hx : get env x = some (.int k' pi)) (hy : get env y = some (.int k' qi)) (hp : pi = (p : Int)) (hq : qi = (q : Int)) (hpl : p < 2 ^ k'.bits) (hql : q < 2 ^ k'.bits)
    (hr : k'.wrap ((p ||| q : Nat) : Int) = r) (k : JO P n ops l K fin ((d, .int k' r) :: env) W) : JO P n ops (⟨some d, .binOp .or T x y T', ty, pos, aft, none⟩ :: l) K fin env W := by
  subst hp; subst hq
  have e := bv_or k'.bits p q hpl hql
  have he : ∀ op : BinOp, op = .or → (Op.intBits op k' (p : Int) (q : Int)) = pure (.int k' r) := by
    intro op ho
    subst ho
    simp only [Op.intBits, e, hr]
  exact JO.value (fun a ha => by simp only [execOp, ha.get hx, ha.get hy, eqGuard, binOp, he]; simp [bind, pure, Sem.bind]) k
theorem O.and {x y : Operand} {T T' : TypeId} {k' : IntKind} {p q : Nat} {pi qi r : Int} (hx : get env x = some (.int k' pi)) (hy : get env y = some (.int k' qi)) (hp : pi = (p : Int)) (hq : qi = (q : Int)) (hpl : p < 2 ^ k'.bits) (hql : q < 2 ^ k'.bits)
    (hr : k'.wrap ((p &&& q : Nat) : Int) = r) (k : JO P n ops l K fin ((d, .int k' r) :: env) W) : JO P n ops (⟨some d, .binOp .and T x y T', ty, pos, aft, none⟩ :: l) K fin env W := by
  subst hp; subst hq
  have e := bv_and k'.bits p q hpl hql
  have he : ∀ op : BinOp, op = .and → (Op.intBits op k' (p : Int) (q : Int)) = pure (.int k' r) := by
    intro op ho
    subst ho
    simp only [Op.intBits, e, hr]
  exact JO.value (fun a ha => by simp only [execOp, ha.get hx, ha.get hy, eqGuard, binOp, he]; simp [bind, pure, Sem.bind]) k
/-- a slice against nil -/
theorem O.eqnil {T T' : TypeId} {E sz by' : Nat} {z : List Value} {x : Operand} {p : Option Addr} {m c : Nat} [i : TSl P T E sz by' z] (hx : get env x = some (.slice p m c))
    (k : JO P n ops l K fin ((d, .bool p.isNone) :: env) W) : JO P n ops (⟨some d, .binOp .eql T x (.const (.slice none 0 0)) T', ty, pos, aft, none⟩ :: l) K fin env W := by
  have h1 : (Op.equal T (.slice p m c) (.slice none 0 0)).run P W.w = .ok p.isNone W.w := by
    have : ∀ m' : Nat, (Op.equalIn (m' + 1) T (.slice p m c) (.slice none 0 0)).run P W.w = .ok p.isNone W.w := by
      intro m'
      cases p <;> simp [Op.equalIn, run_underlying i.u]
    exact this 9999
  exact JO.value (fun ac ha => by
    have hn : ac.eval (.const (.slice none 0 0)) = .slice none 0 0 := rfl
    simp only [execOp, ha.get hx, hn, eqGuard, binOp]
    show ((Sem.bind (Op.equal T (.slice p m c) (.slice none 0 0)) _).bind _).run P W.w = _
    rw [run_bnd _ _ W.w W.w (.bool p.isNone) (by rw [run_bnd _ _ _ _ _ h1]; rfl)]
    rfl) k

/-- a byte of a string -/
theorem O.idx {T : TypeId} {x y : Operand} {s : ByteArray} {k' : IntKind} {j : Nat} {jj : Int} {b : UInt8} [i : TStr P T] (hx : get env x = some (.string s)) (hy : get env y = some (.int k' jj)) (hjj : jj = (j : Int)) (hb : s[j]? = some b)
    (k : JO P n ops l K fin ((d, .int .u8 (b.toNat : Int)) :: env) W) : JO P n ops (⟨some d, .index T x y, ty, pos, aft, none⟩ :: l) K fin env W := by
  subst hjj
  exact JO.value (fun a ha => by
    simp [execOp, ha.get hx, ha.get hy, Instr.index, asIntOf, run_underlying i.u, hb]) k
end
end Go.Rx

/- More rules: an append to an empty slice whose result is written on. -/
import Derived.Test.YtklnoajdhknfnaaGreatRi
set_option linter.unusedVariables false
set_option linter.unusedSimpArgs false
set_option maxRecDepth 10000
set_option maxHeartbeats 4000000
namespace Go.Rx
open Go
section
variable {P : Program} {n : Nat} {ops : Array Oper} {l : List Oper} {K : List Kt} {fin : Exit → Act → World → Prop} {env : Env} {W : GW}
variable {d : Nat} {ty : TypeId} {pos : String} {aft : Array Edge}
theorem O.app0O {α : Type} {r : Rep α} {T E sz by' : Nat} {z : List Value} {x y : Operand} {v1 v2 : Value} {ys : List α} {W0 : GW} [i : TSl P T E sz by' z] (hx : get env x = some v1) (hy : get env y = some v2)
    (h1 : Nil0 W v1) (hs : V (RSl r) W v2 ys) (hr : r.size = sz) (hz : z.length = sz) (hB : ys.length * by' ≤ 140737488355328) (hL : ys.length < 9223372036854775808) (h0 : W0.size ≤ W.size)
    (kk : ∀ W' v, Lk1 W W' → Ext W W' → OwnR r W0 W' v ys → JO P n ops l K fin ((d, v) :: env) W') :
    JO P n ops (⟨some d, .call ⟨.builtin .append, #[x, y], #[T, T]⟩, ty, pos, aft, none⟩ :: l) K fin env W := by
  obtain ⟨p, rfl⟩ := h1
  obtain ⟨q, k, c2, rfl, s⟩ := hs.sl
  obtain ⟨p', c', W1, h1, h2, h3, h4⟩ := own_append (P := P) (T := T) (Ows.nil r W p) s hr hz (by rw [Nat.zero_add, s.hn]; exact hB) (by rw [Nat.zero_add, s.hn]; exact hL) ty
  have hE : Ext W W1 := { h2 with all := fun j hj => h4.same j hj fun _ _ h => absurd h (by omega) }
  exact JO.world (fun a ha => run_app ha hx hy h1) (kk W1 _ ⟨hE.toLeK⟩ hE ⟨p', _, c', rfl, h3, fun a ha hc => Nat.le_trans h0 ((h4.new a ha hc).elim (fun h => absurd h.2 (by omega)) id)⟩)
/-- a field's value: its place and its shape -/
class TFv (P : Program) (T : TypeId) (f : Nat) (off : outParam Nat) (sz : outParam Nat) : Prop where
  u : ∃ fs g t i, P.underlying T = some (.struct fs) ∧ fs[f]? = some g ∧ g.offset = off ∧ P.underlying g.type = some t ∧ (t matches .struct _ | .array _ _) = true ∧ P.info? g.type = some i ∧ i.size = sz
/-- the second field of a struct value -/
theorem O.fldS {α β : Type} {r : Rep α} {s : Rep β} {T o sz : Nat} {x : Operand} {v : Value} {u : α} {w : β} [i : TFv P T 1 o sz] (hx : get env x = some v) (h : V (RP r s) W v (u, w)) (ho : r.size = o) (hs : s.size = sz) (ha : s.agg = true)
    (k : ∀ v', V s W v' w → JO P n ops l K fin ((d, v') :: env) W) : JO P n ops (⟨some d, .field T x 1, ty, pos, aft, none⟩ :: l) K fin env W := by
  obtain ⟨cs, ⟨c, e, rfl, hc, he⟩, rfl⟩ := h
  obtain ⟨fs, g, t, ii, h1, h2, h3, h4, h5, h6, h7⟩ := i.u
  have l1 := r.len hc
  have l2 := s.len he
  refine JO.value (v := .agg e.toArray) (fun a ha' => ?_) (k _ ⟨e, he, by rw [ha]; rfl⟩)
  have hx' := ha'.get hx
  have hag : ∀ w : World, (isAgg g.type).run P w = .ok true w := by
    intro w
    cases t <;> simp [isAgg, underlying, program, bind, Sem.bind, Sem.run, pure, h4] at h5 ⊢
  have hsz : ∀ w : World, (sizeOf g.type).run P w = .ok sz w := by
    intro w
    simp [sizeOf, typeInfo, program, bind, Sem.bind, Sem.run, pure, h6, h7]
  have hex : (c ++ e).toArray.extract o (o + sz) = e.toArray := by
    apply Array.toList_inj.1
    rw [Array.toList_extract]
    simp [← ho, ← l1, ← hs, ← l2]
  have hpart : ∀ w : World, (part g.type (c ++ e).toArray g.offset).run P w = .ok (.agg e.toArray) w := by
    intro w
    unfold part
    rw [Sem.run_bind, hag]
    simp only [Result.andThen_ok, if_true]
    rw [Sem.run_bind, hsz]
    simp only [Result.andThen_ok]
    rw [h3, hex]
    rfl
  have hf : (Instr.field T (.agg (c ++ e).toArray) 1).run P W.w = .ok (.agg e.toArray) W.w := by
    unfold Instr.field
    rw [Sem.run_bind, run_und h1]
    simp only [Result.andThen_ok, h2]
    rw [Sem.run_bind]
    show Result.andThen (Result.ok _ _) _ = _
    simp only [Result.andThen_ok]
    exact hpart _
  simp only [execOp, hx']
  rw [Sem.run_bind, show mkv (RP r s).agg (c ++ e) = .agg (c ++ e).toArray from rfl, hf]
  rfl
end
end Go.Rx

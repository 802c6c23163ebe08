/- The rules of the walk, more: parameters that are written, last writes. -/
import Derived.Test.YtcobdnnfmhfenaaGreatRs
import Derived.Test.YtcobdnnfmhfenaaGreatRq
set_option linter.unusedVariables false
set_option linter.unusedSimpArgs false
namespace Go.Rx
open Go
section
variable {P : Program} {n : Nat} {ops : Array Oper} {l : List Oper} {K : List Kt} {fin : Exit → Act → World → Prop} {env : Env} {W : GW}
variable {d d2 : Nat} {ty ty2 : TypeId} {pos pos2 : String} {aft aft2 : Array Edge}
/-- a parameter's variable that is written later -/
theorem O.boxL {T : TypeId} {x : Operand} {v : Value} (hx : get env x = some v)
    (k : ∀ W' b, Lk1 W W' → Loc W' b v.cells.toList.length → Cnt W' b v.cells.toList → W.size ≤ b → JO P n ops l K fin ((d, .pointer (some ⟨b, 0, none⟩)) :: env) W') : JO P n ops (⟨some d, .box T x, ty, pos, aft, none⟩ :: l) K fin env W := by
  have hc : Cnt (W.push (.cells v.cells T) true) W.size v.cells.toList := ⟨T, push_cells ..⟩
  refine JO.world (W' := W.push (.cells v.cells T) true) (v := .pointer (some ⟨W.size, 0, none⟩)) (fun a ha => ?_)
    (k _ _ ⟨(push_ext ..).toLeK⟩ ⟨List.mem_cons_self .., W.hm, _, hc, rfl⟩ hc (Nat.le_refl _))
  simp only [execOp, ha.get hx]
  rfl
/-- the last write to a variable -/
theorem O.stP {T sz b : Nat} {ag : Bool} {z : List Value} {x y : Operand} {v : Value} [i : TVar P T sz ag z] (hx : get env x = some (.pointer (some ⟨b, 0, none⟩))) (hy : get env y = some v)
    (hl : Loc W b sz) (hs : v.cells.toList.length = sz) (h1 : ∀ u ∈ v.cells.toList, oneC u = true)
    (k : ∀ W', Le1 W W' → Blk W' b v.cells.toList → JO P n ops l K fin env W') : JO P n ops (⟨none, .store T x y, ty, pos, aft, none⟩ :: l) K fin env W := by
  refine O.st hx hy hl hs h1 fun W1 i1 hc => ?_
  have hm : W1.m ≤ b := by rw [i1.s.m]; exact hl.m
  obtain ⟨U, hb⟩ := hc
  exact k (W1.pubB b) ⟨i1.s.toLeS.trans (pubB_le W1 b hm)⟩ ⟨by simp [GW.pubB], U, (0, 0), hb⟩
theorem JO.pubV {b : Nat} {cs : List Value} (hm : W.m ≤ b) (hc : Cnt W b cs) (k : ∀ W', Le1 W W' → Blk W' b cs → JO P n ops l K fin env W') : JO P n ops l K fin env W := by
  obtain ⟨U, hb⟩ := hc
  exact k (W.pubB b) ⟨pubB_le W b hm⟩ ⟨by simp [GW.pubB], U, (0, 0), hb⟩
theorem J.pubV {b : Nat} {cs : List Value} (hm : W.m ≤ b) (hc : Cnt W b cs) (k : ∀ W', Le1 W W' → Blk W' b cs → J P n K fin env W') : J P n K fin env W := by
  obtain ⟨U, hb⟩ := hc
  exact k (W.pubB b) ⟨pubB_le W b hm⟩ ⟨by simp [GW.pubB], U, (0, 0), hb⟩
/-- a cell of a variable that is still written -/
theorem O.ldV {T : TypeId} {z : List Value} {x : Operand} {b off : Nat} {cs : List Value} {v : Value} [i : TVar P T 1 false z] (hx : get env x = some (.pointer (some ⟨b, off, none⟩)))
    (hb : Cnt W b cs) (hv : cs[off]? = some v) (k : JO P n ops l K fin ((d, v) :: env) W) : JO P n ops (⟨some d, .load T x, ty, pos, aft, none⟩ :: l) K fin env W :=
  O.ldC hx (by rw [hb.cell]; exact hv) k
theorem O.ldVw {T sz : Nat} {z : List Value} {x : Operand} {b : Nat} {cs : List Value} [i : TVar P T sz true z] (hx : get env x = some (.pointer (some ⟨b, 0, none⟩)))
    (hb : Cnt W b cs) (hs : cs.length = sz) (k : JO P n ops l K fin ((d, .agg cs.toArray) :: env) W) : JO P n ops (⟨some d, .load T x, ty, pos, aft, none⟩ :: l) K fin env W :=
  O.ld (ag := true) (cs := cs) hx hs (fun j w hj => by rw [hb.cell]; simpa using hj) (fun h => Bool.noConfusion h) k
/-- a variable, where the order is open -/
theorem O.allocE {T sz : Nat} {ag : Bool} {z : List Value} [i : TVar P T sz ag z]
    (k : ∀ W' b, Lk1 W W' → Ext W W' → Loc W' b z.length → Cnt W' b z → W.size ≤ b → JO P n ops l K fin ((d, .pointer (some ⟨b, 0, none⟩)) :: env) W') : JO P n ops (⟨some d, .alloc T, ty, pos, aft, none⟩ :: l) K fin env W := by
  obtain ⟨ii, v, e1, e2, e3, e4⟩ := i.i
  have hc : Cnt (W.push (.cells v.cells T) true) W.size z := ⟨T, by rw [← e4]; exact push_cells ..⟩
  refine JO.world (W' := W.push (.cells v.cells T) true) (v := .pointer (some ⟨W.size, 0, none⟩)) (fun a ha => ?_)
    (k _ _ ⟨(push_ext ..).toLeK⟩ (push_ext ..) ⟨List.mem_cons_self .., W.hm, z, hc, rfl⟩ hc (Nat.le_refl _))
  have hz : (zeroValue T).run P W.w = .ok v W.w := by simp [zeroValue, typeInfo, program, bind, Sem.bind, Sem.run, pure, e1, e3]
  simp only [execOp, Instr.alloc]
  rw [Sem.run_bind, Sem.run_bind, hz]
  rfl
/-- a pointer to a variable of one's own -/
def PLoc (sz lo : Nat) (W : GW) (v : Value) : Prop := ∃ b, v = .pointer (some ⟨b, 0, none⟩) ∧ Loc W b sz ∧ lo ≤ b
theorem PLoc.me {sz lo : Nat} : MonoR (PLoc sz lo) := fun _ _ _ e ⟨b, h1, h2, h3⟩ => ⟨b, h1, h2.mono e.toLeK, h3⟩
/-- A callee may read what the caller still writes. -/
theorem Ok.lend {f : FuncId} {vs : List Value} {R : GW → Value → Prop} {b : Nat} (hb : b ∈ W.A) (m : ∀ W1 W2 v, LeF W1 W2 → R W1 v → R W2 v) (h : Ok P f vs (W.pubB b) R) : Ok P f vs W fun W' v => R (W'.pubB b) v := by
  refine ⟨h.1, h.2.mono ?_⟩
  rintro e w' ⟨W1, v, he, hw, hE, hR⟩
  have hs : W.size ≤ W1.size := hE.size
  let W' : GW := { w := W1.w, A := b :: W1.A, m := W1.m, hA := fun k hk => (List.mem_cons.1 hk).elim (fun h => by subst h; exact Nat.lt_of_lt_of_le (W.hA _ hb) hs) (W1.hA k), hm := W1.hm }
  have hkeep : ∀ k, k ∈ W.A → k ∈ b :: W1.A := fun k hk => by
    by_cases hkb : k = b
    · subst hkb; exact List.mem_cons_self ..
    · exact List.mem_cons_of_mem _ (hE.keep k (List.mem_filter.2 ⟨hk, by simpa using hkb⟩))
  refine ⟨W', v, he, hw, { os := hE.os, out := hE.out, tape := hE.tape, m := hE.m, size := hs, same := fun k hk _ => hE.all k hk, stay := fun k hk hn hk2 => ?_, prot := fun k _ hA => hkeep k hA, row := hE.row, keep := hkeep, all := hE.all }, ?_⟩
  · rcases List.mem_cons.1 hk2 with h | h
    · subst h; exact hn hb
    · exact hE.stay k hk (fun h2 => hn (List.mem_filter.1 h2).1) h
  · refine m W1 (W'.pubB b) v ⟨Nat.le_refl _, fun _ _ _ => rfl, fun k _ hn hk2 => ?_⟩ hR
    obtain ⟨h1, h2⟩ := List.mem_filter.1 hk2
    rcases List.mem_cons.1 h1 with h | h
    · subst h; simp at h2
    · exact hn h
theorem Ows.lend {α : Type} {r : Rep α} {b m c : Nat} {xs : List α} (h : Ows r W (some ⟨b, 0, none⟩) m c xs) (h0 : 0 < m) : b ∈ W.A ∧ b < W.size ∧ W.m ≤ b ∧ Sl r (W.pubB b) (some ⟨b, 0, none⟩) m c xs := by
  rcases h.h with h1 | ⟨b', cs, T, hp, hA, hm, hb, hl, hx⟩
  · have := h.hc; omega
  · injection hp with hp
    injection hp with hp _ _
    subst hp
    refine ⟨hA, lt_of_heap hb, hm, h.hn, h.hc, h.hC, .inr ⟨b, 0, rfl, lt_of_heap hb, fun hh => by have := (List.mem_filter.1 hh).2; simp at this, fun i x hi => ?_⟩⟩
    obtain ⟨u, hu, hv⟩ := hx i x hi
    exact ⟨u, r.mono (pubB_le W b hm).f hu, fun j v hj => by
      show W.w.cell? _ = _
      rw [cell_of hb, Nat.zero_add]; exact hv j v hj⟩
theorem Sl.lend {α : Type} {r : Rep α} {b m c : Nat} {p : Option Addr} {xs : List α} (h : Sl r W p m c xs) : Sl r (W.pubB b) p m c xs :=
  Sl.mono (W := W) (W' := W.pubB b) ⟨Nat.le_refl _, fun _ _ _ => rfl, fun k _ hn hk => hn (List.mem_filter.1 hk).1⟩ h
theorem Sl.unlend {b b2 o m c : Nat} {xs : List Nat} (h : Sl RW (W.pubB b) (some ⟨b2, o, none⟩) m c xs) (hne : b2 ≠ b) : Sl RW W (some ⟨b2, o, none⟩) m c xs := by
  refine ⟨h.hn, h.hc, h.hC, ?_⟩
  rcases h.at' with h1 | ⟨b', o', hp, hb, hA, hx⟩
  · exact .inl h1
  · refine .inr ⟨b', o', hp, hb, fun hk => hA (List.mem_filter.2 ⟨hk, ?_⟩), hx⟩
    injection hp with hp
    injection hp with hp _ _
    subst hp
    simpa using hne
theorem Sl.part {b m c : Nat} {xs : List Nat} (h : Sl RW W (some ⟨b, 0, none⟩) m c xs) (lo k : Nat) (hk : lo + k ≤ m) (hlo : lo < c) : Sl RW W (some ⟨b, lo, none⟩) k (c - lo) ((xs.drop lo).take k) := by
  have h1 := Sl.take (Sl.drop h lo (by omega)) k (by omega)
  rw [if_neg (by omega)] at h1
  have : (some (⟨b, 0, none⟩ : Addr)).map (·.add (lo * RW.size)) = some ⟨b, lo, none⟩ := by
    show some (Addr.add _ _) = _
    rw [add0]
    show some (⟨b, 0 + lo * 1, none⟩ : Addr) = _
    rw [Nat.zero_add, Nat.mul_one]
  rwa [this] at h1
/-- A slice that the callee has made. -/
def NewR {α : Type} (r : Rep α) (W0 W : GW) (v : Value) (xs : List α) : Prop := ∃ b m c, v = .slice (some ⟨b, 0, none⟩) m c ∧ W0.size ≤ b ∧ Sl r W (some ⟨b, 0, none⟩) m c xs
theorem NewR.v {α : Type} {r : Rep α} {W0 W : GW} {v : Value} {xs : List α} (h : NewR r W0 W v xs) : V (RSl r) W v xs := by
  obtain ⟨b, m, c, rfl, _, hs⟩ := h
  exact hs.v
theorem NewR.mono {α : Type} {r : Rep α} {W0 W1 W2 : GW} {v : Value} {xs : List α} (l : LeF W1 W2) (h : NewR r W0 W1 v xs) : NewR r W0 W2 v xs := by
  obtain ⟨b, m, c, rfl, hb, hs⟩ := h
  exact ⟨b, m, c, rfl, hb, hs.mono l⟩
end
end Go.Rx

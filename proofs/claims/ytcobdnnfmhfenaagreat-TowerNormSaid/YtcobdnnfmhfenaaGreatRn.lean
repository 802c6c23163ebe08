/- The rules of the walk, more: variables that are written for the last time; what that leaves to the others. -/
import Derived.Test.YtcobdnnfmhfenaaGreatRl
set_option linter.unusedVariables false
namespace Go.Rx
open Go
section
variable {P : Program} {n : Nat} {ops : Array Oper} {l : List Oper} {K : List Kt} {fin : Exit → Act → World → Prop} {env : Env} {W : GW}
variable {d : Nat} {ty : TypeId} {pos : String} {aft : Array Edge}
theorem Cnt.lt {W : GW} {b : Nat} {cs : List Value} (h : Cnt W b cs) : b < W.size := by
  obtain ⟨T, hb⟩ := h
  exact lt_of_heap hb
/-- What a last write to variable b leaves to the others. -/
structure StF (b : Nat) (W W' : GW) : Prop where
  loc : ∀ {b2 sz : Nat}, Loc W b2 sz → b2 ≠ b → Loc W' b2 sz
  cnt : ∀ {b2 : Nat} {cs : List Value}, Cnt W b2 cs → b2 ≠ b → Cnt W' b2 cs
theorem O.stPF {T sz b : Nat} {ag : Bool} {z : List Value} {x y : Operand} {v : Value} [i : TVar P T sz ag z] (hx : get env x = some (.pointer (some ⟨b, 0, none⟩))) (hy : get env y = some v)
    (hl : Loc W b sz) (hs : v.cells.toList.length = sz) (h1 : ∀ u ∈ v.cells.toList, oneC u = true)
    (k : ∀ W', Le1 W W' → Blk W' b v.cells.toList → StF b W W' → JO P n ops l K fin env W') : JO P n ops (⟨none, .store T x y, ty, pos, aft, none⟩ :: l) K fin env W := by
  have hlm := hl.m
  refine O.stX hx hy hl hs h1 fun W1 i1 hc hf hz => ?_
  have hm : W1.m ≤ b := by rw [i1.s.m]; exact hlm
  obtain ⟨U, hb⟩ := hc
  refine k (W1.pubB b) ⟨i1.s.toLeS.trans (pubB_le W1 b hm)⟩ ⟨by simp [GW.pubB], U, (0, 0), hb⟩ ⟨fun {b2 sz} h hne => ?_, fun {b2 cs} h hne => h.only hf hne⟩
  obtain ⟨hA, hm2, cs, hc2, hl2⟩ := h
  refine ⟨List.mem_filter.2 ⟨i1.s.keep b2 hA, by simpa using hne⟩, by show W1.m ≤ b2; rw [i1.s.m]; exact hm2, cs, hc2.only hf hne, hl2⟩
/-- a parameter's variable that is written later -/
theorem O.boxE {T : TypeId} {x : Operand} {v : Value} (hx : get env x = some v)
    (k : ∀ W' b, Lk1 W W' → Ext W W' → Loc W' b v.cells.toList.length → Cnt W' b v.cells.toList → W.size ≤ b → JO P n ops l K fin ((d, .pointer (some ⟨b, 0, none⟩)) :: env) W') : JO P n ops (⟨some d, .box T x, ty, pos, aft, none⟩ :: l) K fin env W := by
  have hc : Cnt (W.push (.cells v.cells T) true) W.size v.cells.toList := ⟨T, push_cells ..⟩
  refine JO.world (W' := W.push (.cells v.cells T) true) (v := .pointer (some ⟨W.size, 0, none⟩)) (fun a ha => ?_)
    (k _ _ ⟨(push_ext ..).toLeK⟩ (push_ext ..) ⟨List.mem_cons_self .., W.hm, _, hc, rfl⟩ hc (Nat.le_refl _))
  simp only [execOp, ha.get hx]
  rfl
end

/-! ## data in variables, whatever their shape -/
theorem D.eq {P : Program} {n : Nat} {ops : Array Oper} {K : List Kt} {fin : Exit → Act → World → Prop} {E : Env} {W W1 : GW} {d : Nat} {v v' : Value} (e : Ext W1 W) (h : v = v') : JO P n ops [] (.l (DStop n E W1 d (.ex v')) :: K) fin ((d, v) :: E) W :=
  JO.nil fun a ha => ⟨W, v, rfl, e, ha, h, trivial⟩
theorem Loc.lt {W : GW} {b sz : Nat} (h : Loc W b sz) : b < W.size := by
  obtain ⟨cs, ⟨T, hb⟩, _⟩ := h.h
  exact lt_of_heap hb
/-- The values of a representation are single cells or structs. -/
class Shp {α : Type} (r : Rep α) : Prop where
  h : r.agg = true ∨ (r.agg = false ∧ r.size = 1)
instance {α : Type} {r : Rep α} : Shp (RSl r) := ⟨.inr ⟨rfl, rfl⟩⟩
instance : Shp RB := ⟨.inr ⟨rfl, rfl⟩⟩
instance : Shp RW := ⟨.inr ⟨rfl, rfl⟩⟩
instance {α β : Type} {r : Rep α} {s : Rep β} : Shp (RP r s) := ⟨.inl rfl⟩
theorem oneC_cells {v : Value} (h : oneC v = true) : v.cells.toList = [v] := by
  cases v <;> first | rfl | cases h
theorem V.cs {α : Type} {r : Rep α} [i : Shp r] {W : GW} {v : Value} {x : α} (h : V r W v x) : ∃ cs, r.At W cs x ∧ v.cells.toList = cs ∧ v = mkv r.agg cs := by
  obtain ⟨cs, hc, hv⟩ := h
  refine ⟨cs, hc, ?_, hv⟩
  subst hv
  rcases i.h with ha | ⟨ha, hs⟩
  · rw [ha]; rfl
  · rw [ha]
    have := r.len hc
    rw [hs] at this
    match cs, this with
    | [u], _ => exact oneC_cells (r.one hc u (List.mem_cons_self ..))
/-- At offset off of block b lies the datum x. -/
def Has {α : Type} (r : Rep α) (W : GW) (b off : Nat) (x : α) : Prop := ∃ cs, r.At W cs x ∧ ∀ i v, cs[i]? = some v → W.w.cell? ⟨b, off + i, none⟩ = some v
theorem Has.f {α β : Type} {r : Rep α} {s : Rep β} {W : GW} {b off : Nat} {x : α} {y : β} (h : Has (RP r s) W b off (x, y)) : Has r W b off x := by
  obtain ⟨cs, ⟨c, d, hcs, h1, h2⟩, hv⟩ := h
  refine ⟨c, h1, fun i v hi => hv i v ?_⟩
  rw [hcs]
  obtain ⟨hlt, _⟩ := List.getElem?_eq_some_iff.1 hi
  rw [List.getElem?_append_left hlt]
  exact hi
theorem Has.s {α β : Type} {r : Rep α} {s : Rep β} {W : GW} {b off : Nat} {x : α} {y : β} (h : Has (RP r s) W b off (x, y)) : Has s W b (off + r.size) y := by
  obtain ⟨cs, ⟨c, d, hcs, h1, h2⟩, hv⟩ := h
  refine ⟨d, h2, fun i v hi => ?_⟩
  have := hv (c.length + i) v (by rw [hcs, List.getElem?_append_right (by omega)]; simpa using hi)
  rw [r.len h1] at this
  rw [show off + r.size + i = off + (r.size + i) from by omega]
  exact this
/-- .. and nobody writes there any more. -/
structure Pt {α : Type} (r : Rep α) (W : GW) (b off : Nat) (x : α) : Prop where
  nA : b ∉ W.A
  lt : b < W.size
  h : Has r W b off x
theorem Pt.mono {α : Type} {r : Rep α} {W W' : GW} {b off : Nat} {x : α} (h : Pt r W b off x) (l : LeF W W') : Pt r W' b off x := by
  obtain ⟨hA, hl, cs, hc, hv⟩ := h
  refine ⟨l.stay b hl hA, Nat.lt_of_lt_of_le hl l.size, cs, r.mono l hc, fun i v hi => ?_⟩
  rw [cell_of_heap (l.same b hl hA)]
  exact hv i v hi
theorem Pt.to {α : Type} {r : Rep α} {W W' : GW} {b off : Nat} {x : α} (h : Pt r W b off x) [l : Lf W W'] : Pt r W' b off x := h.mono l.s
/-- Variable b holds x just now. -/
def Pc {α : Type} (r : Rep α) (W : GW) (b : Nat) (x : α) : Prop := ∃ cs, r.At W cs x ∧ Cnt W b cs
theorem Pc.h {α : Type} {r : Rep α} {W : GW} {b : Nat} {x : α} (h : Pc r W b x) : Has r W b 0 x := by
  obtain ⟨cs, hc, hb⟩ := h
  exact ⟨cs, hc, fun i v hi => by rw [hb.cell, Nat.zero_add]; exact hi⟩
theorem Pc.lt {α : Type} {r : Rep α} {W : GW} {b : Nat} {x : α} (h : Pc r W b x) : b < W.size := by
  obtain ⟨cs, hc, hb⟩ := h
  exact hb.lt
theorem Pc.ext {α : Type} {r : Rep α} {W W' : GW} {b : Nat} {x : α} (h : Pc r W b x) (e : Ext W W') : Pc r W' b x := by
  obtain ⟨cs, hc, hb⟩ := h
  exact ⟨cs, r.mono e.toLeS.f hc, hb.ext e⟩
theorem Pc.stf {α : Type} {r : Rep α} {W W' : GW} {b b2 : Nat} {x : α} (h : Pc r W b2 x) (f : StF b W W') (hne : b2 ≠ b) [l : Lf W W'] : Pc r W' b2 x := by
  obtain ⟨cs, hc, hb⟩ := h
  exact ⟨cs, r.mono l.s hc, f.cnt hb hne⟩
theorem Blk.pt {α : Type} {r : Rep α} {W : GW} {b : Nat} {cs : List Value} {x : α} (h : Blk W b cs) (hc : r.At W cs x) : Pt r W b 0 x := by
  obtain ⟨T, fr, hb⟩ := h.h
  exact ⟨h.nA, lt_of_heap hb, cs, hc, fun i v hi => by rw [h.cell, Nat.zero_add]; exact hi⟩
section
variable {P : Program} {n : Nat} {ops : Array Oper} {l : List Oper} {K : List Kt} {fin : Exit → Act → World → Prop} {env : Env} {W : GW}
variable {d : Nat} {ty : TypeId} {pos : String} {aft : Array Edge}
theorem V.b {b : Bool} : V RB W (.bool b) b := ⟨[_], rfl, rfl⟩
theorem O.boxT {α : Type} {r : Rep α} [sh : Shp r] {T : TypeId} {x : Operand} {v : Value} {a : α} (hx : get env x = some v) (h : V r W v a)
    (k : ∀ W' b, Lk1 W W' → Pt r W' b 0 a → JO P n ops l K fin ((d, .pointer (some ⟨b, 0, none⟩)) :: env) W') : JO P n ops (⟨some d, .box T x, ty, pos, aft, none⟩ :: l) K fin env W := by
  refine O.box hx fun W' b i hb => k W' b i ?_
  obtain ⟨cs, hc, hv, _⟩ := (h.mono i.s.toLeS.f).cs
  rw [hv] at hb
  exact hb.pt hc
/-- a parameter's variable that is written later -/
theorem O.boxC {α : Type} {r : Rep α} [sh : Shp r] {T : TypeId} {x : Operand} {v : Value} {a : α} (hx : get env x = some v) (h : V r W v a)
    (k : ∀ W' b, Lk1 W W' → Ext W W' → Loc W' b r.size → Pc r W' b a → W.size ≤ b → JO P n ops l K fin ((d, .pointer (some ⟨b, 0, none⟩)) :: env) W') : JO P n ops (⟨some d, .box T x, ty, pos, aft, none⟩ :: l) K fin env W := by
  obtain ⟨cs, hc, hv, _⟩ := h.cs
  refine O.boxE hx fun W' b i e hl hk hz => k W' b i e ?_ ?_ hz
  · rw [hv, r.len hc] at hl; exact hl
  · rw [hv] at hk; exact ⟨cs, r.mono i.s.toLeS.f hc, hk⟩
/-- the only write to a variable -/
theorem O.stT {α : Type} {r : Rep α} [sh : Shp r] {T sz b : Nat} {ag : Bool} {z : List Value} {x y : Operand} {v : Value} {a : α} [i : TVar P T sz ag z] (hx : get env x = some (.pointer (some ⟨b, 0, none⟩))) (hy : get env y = some v)
    (hl : Loc W b sz) (h : V r W v a) (hs : r.size = sz)
    (k : ∀ W', Le1 W W' → Pt r W' b 0 a → StF b W W' → JO P n ops l K fin env W') : JO P n ops (⟨none, .store T x y, ty, pos, aft, none⟩ :: l) K fin env W := by
  obtain ⟨cs, hc, hv, _⟩ := h.cs
  refine O.stPF hx hy hl (by rw [hv, r.len hc, hs]) (by rw [hv]; exact r.one hc) fun W' i' hb hf => k W' i' ?_ hf
  rw [hv] at hb
  exact hb.pt (r.mono i'.s.f hc)
/-- a write to a variable that is written again -/
theorem O.stM {α : Type} {r : Rep α} [sh : Shp r] {T sz b : Nat} {ag : Bool} {z : List Value} {x y : Operand} {v : Value} {a : α} [i : TVar P T sz ag z] (hx : get env x = some (.pointer (some ⟨b, 0, none⟩))) (hy : get env y = some v)
    (hl : Loc W b sz) (h : V r W v a) (hs : r.size = sz)
    (k : ∀ W', Lk1 W W' → Pc r W' b a → StF b W W' → JO P n ops l K fin env W') : JO P n ops (⟨none, .store T x y, ty, pos, aft, none⟩ :: l) K fin env W := by
  obtain ⟨cs, hc, hv, _⟩ := h.cs
  refine O.stX hx hy hl (by rw [hv, r.len hc, hs]) (by rw [hv]; exact r.one hc) fun W' i' hb hf _ => k W' i' ?_ ⟨fun h _ => h.mono i'.s, fun h hne => h.only hf hne⟩
  rw [hv] at hb
  exact ⟨cs, r.mono i'.s.toLeS.f hc, hb⟩
theorem O.ldT {α : Type} {r : Rep α} {T sz : Nat} {ag : Bool} {z : List Value} {x : Operand} {b off : Nat} {u : α} [i : TVar P T sz ag z] (hx : get env x = some (.pointer (some ⟨b, off, none⟩)))
    (h : Has r W b off u) (hr : r.size = sz) (hg : r.agg = ag) (h1 : ag = false → sz = 1)
    (k : ∀ v, V r W v u → JO P n ops l K fin ((d, v) :: env) W) : JO P n ops (⟨some d, .load T x, ty, pos, aft, none⟩ :: l) K fin env W := O.ldP hx h hr hg h1 k
theorem O.ldTb {T : TypeId} {z : List Value} {x : Operand} {b off : Nat} {u : Bool} [i : TVar P T 1 false z] (hx : get env x = some (.pointer (some ⟨b, off, none⟩))) (h : Has RB W b off u)
    (k : JO P n ops l K fin ((d, .bool u) :: env) W) : JO P n ops (⟨some d, .load T x, ty, pos, aft, none⟩ :: l) K fin env W := by
  obtain ⟨cs, hc, hv⟩ := h
  cases hc
  exact O.ldC hx (hv 0 _ rfl) k
theorem O.ldTs {α : Type} {r : Rep α} {T : TypeId} {z : List Value} {x : Operand} {b off : Nat} {xs : List α} [i : TVar P T 1 false z] (hx : get env x = some (.pointer (some ⟨b, off, none⟩))) (h : Has (RSl r) W b off xs)
    (k : ∀ p m c, Sl r W p m c xs → JO P n ops l K fin ((d, .slice p m c) :: env) W) : JO P n ops (⟨some d, .load T x, ty, pos, aft, none⟩ :: l) K fin env W := by
  obtain ⟨cs, ⟨p, m, c, rfl, hs⟩, hv⟩ := h
  exact O.ldC hx (hv 0 _ rfl) (k p m c hs)
/-- the same where the order is open -/
theorem O.ldTD {α : Type} {r : Rep α} {T sz : Nat} {ag : Bool} {z : List Value} {x : Operand} {b off : Nat} {u : α} [i : TVar P T sz ag z] (hx : get env x = some (.pointer (some ⟨b, off, none⟩)))
    (h : Has r W b off u) (hr : r.size = sz) (hg : r.agg = ag) (h1 : ag = false → sz = 1) : JO P n ops [⟨some d, .load T x, ty, pos, aft, none⟩] (.l (DStop n env W d (.rel fun W v => V r W v u)) :: K) fin env W :=
  O.ldT hx h hr hg h1 fun v hv => D.rel (R := fun W v => V r W v u) (Ext.refl _) hv V.me
theorem O.allocD {T sz lo : Nat} {ag : Bool} {z : List Value} [i : TVar P T sz ag z] (hz : z.length = sz) (hlo : lo ≤ W.size) :
    JO P n ops [⟨some d, .alloc T, ty, pos, aft, none⟩] (.l (DStop n env W d (.rel (PLoc sz lo))) :: K) fin env W :=
  O.allocE fun W5 b5 i5 e5 hl5 hc5 hb5 => D.rel (R := PLoc sz lo) e5 ⟨_, rfl, by rw [← hz]; exact hl5, Nat.le_trans hlo hb5⟩ PLoc.me
theorem O.bldT {α β : Type} {r : Rep α} {s : Rep β} [Shp r] [Shp s] {T n0 n1 : Nat} {x0 x1 : Operand} {v0 v1 : Value} {a : α} {c : β} [i : TBld P T n0 n1] (hx : get env x0 = some v0) (hy : get env x1 = some v1)
    (h0 : V r W v0 a) (h1 : V s W v1 c) (s0 : r.size = n0) (s1 : s.size = n1)
    (k : ∀ v, V (RP r s) W v (a, c) → JO P n ops l K fin ((d, v) :: env) W) : JO P n ops (⟨some d, .build T #[(0, x0), (1, x1)], ty, pos, aft, none⟩ :: l) K fin env W := by
  obtain ⟨c0, hc0, hv0, _⟩ := h0.cs
  obtain ⟨c1, hc1, hv1, _⟩ := h1.cs
  refine O.bld hx hy (by rw [← s0, ← r.len hc0, ← hv0]; simp) (by rw [← s1, ← s.len hc1, ← hv1]; simp) (k _ ⟨c0 ++ c1, ⟨c0, c1, rfl, hc0, hc1⟩, by rw [hv0, hv1]; rfl⟩)
theorem O.bldTD {α β : Type} {r : Rep α} {s : Rep β} [Shp r] [Shp s] {T n0 n1 : Nat} {x0 x1 : Operand} {v0 v1 : Value} {a : α} {c : β} [i : TBld P T n0 n1] (hx : get env x0 = some v0) (hy : get env x1 = some v1)
    (h0 : V r W v0 a) (h1 : V s W v1 c) (s0 : r.size = n0) (s1 : s.size = n1) : JO P n ops [⟨some d, .build T #[(0, x0), (1, x1)], ty, pos, aft, none⟩] (.l (DStop n env W d (.rel fun W v => V (RP r s) W v (a, c))) :: K) fin env W :=
  O.bldT hx hy h0 h1 s0 s1 fun v hv => D.rel (R := fun W v => V (RP r s) W v (a, c)) (Ext.refl _) hv V.me

/-! what a function returns -/
def ResG (P : Program) (n : Nat) (env : Env) (W : GW) (rv : ResultVar) (v : Value) : Prop := ∀ a : Act, Rel n env a → (resOne a.tmps rv).run P W.w = .ok v W.w
theorem ResG.tmp {t : Nat} {v : Value} (h : look env t = some v) : ResG P n env W (.tmp t) v := fun _ ha => resAt_run ha (.tmp h)
theorem ResG.pt {α : Type} {r : Rep α} {t T sz b : Nat} {z : List Value} {x : α} [i : TVar P T sz true z] (h : look env t = some (.pointer (some ⟨b, 0, none⟩))) (hp : Has r W b 0 x) (hr : r.size = sz) (hg : r.agg = true) :
    ∃ v, ResG P n env W (.cell t T) v ∧ V r W v x := by
  obtain ⟨cs, hc, hv⟩ := hp
  refine ⟨.agg cs.toArray, fun a ha => ?_, cs, hc, by rw [hg]; rfl⟩
  have hs : cs.length = sz := by rw [r.len hc, hr]
  simp only [resOne, ha.has _ _ h, asAddr]
  rw [Sem.run_bind]
  show Result.andThen (Result.ok _ _) _ = _
  simp only [Result.andThen_ok]
  obtain ⟨t', u1, u2⟩ := i.u
  obtain ⟨ii, v, e1, e2, e3⟩ := i.i
  have hcells := run_loadCells (P := P) (b := b) (off := 0) (w := W.w) cs 0 #[] (fun j v hj => by simpa using hv j v hj)
  have hsz : (sizeOf T).run P W.w = .ok sz W.w := by simp [sizeOf, typeInfo, program, bind, Sem.bind, Sem.run, pure, e1, e2]
  have hag : (isAgg T).run P W.w = .ok true W.w := by
    cases t' <;> simp [isAgg, underlying, program, bind, Sem.bind, Sem.run, pure, u1] at u2 ⊢
  unfold loadVar
  rw [Sem.run_bind, hag]
  subst hs
  simp only [Result.andThen_ok, if_true]
  rw [Sem.run_bind, hsz]
  simp only [Result.andThen_ok]
  rw [Sem.run_bind]
  simp only [loadCells]
  rw [hcells]
  simp
theorem resultsG1 {fn : Func} {r1 : ResultVar} {v1 : Value} {a : Act} (ha : Rel n env a) (hres : fn.results = #[r1]) (h1 : ResG P n env W r1 v1) : (results fn a.tmps).run P W.w = .ok v1 W.w := by
  have e1 := h1 a ha
  unfold results
  rw [hres, Sem.run_bind]
  simp only [List.mapM_toArray, List.mapM_cons, List.mapM_nil]
  rw [Sem.run_map, Sem.run_bind]
  erw [e1]
  simp
theorem resultsG2 {fn : Func} {r1 r2 : ResultVar} {v1 v2 : Value} {a : Act} (ha : Rel n env a) (hres : fn.results = #[r1, r2]) (h1 : ResG P n env W r1 v1) (h2 : ResG P n env W r2 v2) :
    (results fn a.tmps).run P W.w = .ok (.tuple #[v1, v2]) W.w := by
  have e1 := h1 a ha
  have e2 := h2 a ha
  unfold results
  rw [hres, Sem.run_bind]
  simp only [List.mapM_toArray, List.mapM_cons, List.mapM_nil]
  rw [Sem.run_map, Sem.run_bind]
  erw [e1]
  simp only [Result.andThen_ok]
  rw [Sem.run_bind, Sem.run_bind]
  erw [e2]
  simp
theorem resultsG3 {fn : Func} {r1 r2 r3 : ResultVar} {v1 v2 v3 : Value} {a : Act} (ha : Rel n env a) (hres : fn.results = #[r1, r2, r3]) (h1 : ResG P n env W r1 v1) (h2 : ResG P n env W r2 v2) (h3 : ResG P n env W r3 v3) :
    (results fn a.tmps).run P W.w = .ok (.tuple #[v1, v2, v3]) W.w := by
  have e1 := h1 a ha
  have e2 := h2 a ha
  have e3 := h3 a ha
  unfold results
  rw [hres, Sem.run_bind]
  simp only [List.mapM_toArray, List.mapM_cons, List.mapM_nil]
  rw [Sem.run_map, Sem.run_bind]
  erw [e1]
  simp only [Result.andThen_ok]
  rw [Sem.run_bind, Sem.run_bind]
  erw [e2]
  simp only [Result.andThen_ok]
  rw [Sem.run_bind, Sem.run_bind]
  erw [e3]
  simp
/-- one result, a variable -/
theorem J.retT {α : Type} {r : Rep α} {fn : Func} {W0 W1 : GW} {R : GW → Value → Prop} {t T sz b : Nat} {z : List Value} {x : α} [i : En W0 W1] [j : Le W1 W] [iv : TVar P T sz true z] (hres : fn.results = #[.cell t T])
    (hl : look env t = some (.pointer (some ⟨b, 0, none⟩))) (hp : Has r W b 0 x) (hr : r.size = sz) (hg : r.agg = true)
    (h : ∀ W' v, Ex W W' → Pub W W' → V r W v x → R W' v) : J P n (.c .ret :: K) (Fin P fn W0 R) env W := by
  obtain ⟨v, hv, hV⟩ := ResG.pt (i := iv) (n := n) hl hp hr hg
  exact J.ret fun a ha => ret_p i j ha (resultsG1 ha hres hv) fun W' e p => h W' v e p hV
/-- a variable and a value -/
theorem J.retTv {α : Type} {r : Rep α} {fn : Func} {W0 W1 : GW} {R : GW → Value → Prop} {t t2 T sz b : Nat} {v2 : Value} {z : List Value} {x : α} [i : En W0 W1] [j : Le W1 W] [iv : TVar P T sz true z] (hres : fn.results = #[.cell t T, .tmp t2])
    (hl : look env t = some (.pointer (some ⟨b, 0, none⟩))) (hp : Has r W b 0 x) (hr : r.size = sz) (hg : r.agg = true) (h2 : look env t2 = some v2)
    (h : ∀ W' v, Ex W W' → Pub W W' → V r W v x → R W' (.tuple #[v, v2])) : J P n (.c .ret :: K) (Fin P fn W0 R) env W := by
  obtain ⟨v, hv, hV⟩ := ResG.pt (i := iv) (n := n) hl hp hr hg
  exact J.ret fun a ha => ret_p i j ha (resultsG2 ha hres hv (ResG.tmp h2)) fun W' e p => h W' v e p hV
/-- two variables and a value -/
theorem J.retTTv {α β : Type} {r : Rep α} {s : Rep β} {fn : Func} {W0 W1 : GW} {R : GW → Value → Prop} {t t2 t3 T T2 sz sz2 b b2 : Nat} {v3 : Value} {z z2 : List Value} {x : α} {y : β} [i : En W0 W1] [j : Le W1 W] [iv : TVar P T sz true z] [iw : TVar P T2 sz2 true z2] (hres : fn.results = #[.cell t T, .cell t2 T2, .tmp t3])
    (hl : look env t = some (.pointer (some ⟨b, 0, none⟩))) (hp : Has r W b 0 x) (hr : r.size = sz) (hg : r.agg = true)
    (hl2 : look env t2 = some (.pointer (some ⟨b2, 0, none⟩))) (hp2 : Has s W b2 0 y) (hr2 : s.size = sz2) (hg2 : s.agg = true) (h3 : look env t3 = some v3)
    (h : ∀ W' v w, Ex W W' → Pub W W' → V r W v x → V s W w y → R W' (.tuple #[v, w, v3])) : J P n (.c .ret :: K) (Fin P fn W0 R) env W := by
  obtain ⟨v, hv, hV⟩ := ResG.pt (i := iv) (n := n) hl hp hr hg
  obtain ⟨w, hw, hW⟩ := ResG.pt (i := iw) (n := n) hl2 hp2 hr2 hg2
  exact J.ret fun a ha => ret_p i j ha (resultsG3 ha hres hv hw (ResG.tmp h3)) fun W' e p => h W' v w e p hV hW
/-! ## elements of slices -/
theorem Sl.placeP {α : Type} {r : Rep α} {p : Option Addr} {m c j : Nat} {xs : List α} {u : α} (hs : Sl r W p m c xs) (hj : xs[j]? = some u) :
    ∃ b off, p = some ⟨b, off, none⟩ ∧ j < m ∧ Pt r W b (off + j * r.size) u := by
  rcases hs.at' with h | ⟨b, off, hp, hb, hA, hx⟩
  · subst h; simp at hj
  · obtain ⟨cs, hc, hv⟩ := hx j u hj
    exact ⟨b, off, hp, hs.lt hj, hA, hb, cs, hc, fun i v hi => by rw [Nat.add_assoc]; exact hv i v hi⟩
theorem Sl.placeQ {α : Type} {r : Rep α} {b off m c j : Nat} {xs : List α} {u : α} (hs : Sl r W (some ⟨b, off, none⟩) m c xs) (hj : xs[j]? = some u) : j < m ∧ Pt r W b (off + j * r.size) u := by
  obtain ⟨b', off', hp, h1, h2⟩ := hs.placeP hj
  injection hp with hp
  injection hp with e1 e2 _
  subst e1; subst e2
  exact ⟨h1, h2⟩
theorem O.iaT {α : Type} {r : Rep α} {T E sz by' : Nat} {z : List Value} {x y : Operand} {p : Option Addr} {m c j : Nat} {k' : IntKind} {jj : Int} {xs : List α} {u : α} [i : TSl P T E sz by' z]
    (hx : get env x = some (.slice p m c)) (hy : get env y = some (.int k' jj)) (hjj : jj = (j : Int)) (hs : Sl r W p m c xs) (hj : xs[j]? = some u) (hr : r.size = sz)
    (k : ∀ b off, Pt r W b off u → JO P n ops l K fin ((d, .pointer (some ⟨b, off, none⟩)) :: env) W) :
    JO P n ops (⟨some d, .indexAddr T x y, ty, pos, aft, none⟩ :: l) K fin env W := by
  obtain ⟨b, off, hp, hj', hP⟩ := hs.placeP hj
  subst hp
  rw [hr] at hP
  exact O.ia hx hy hjj hj' (k _ _ hP)
theorem O.bs1D {α : Type} {r : Rep α} {T E sz by' : Nat} {z : List Value} {y : Operand} {v : Value} {u : α} [i : TSl P T E sz by' z] (hy : get env y = some v) (hv : V r W v u) (hr : r.size = sz) (hz : z.length = sz) (hz0 : 0 < sz) (hg : r.agg = true ∨ r.size = 1) (hL2 : 1 * sz ≤ 16777216) :
    JO P n ops [⟨some d, .buildSlice T 1 #[(0, y)], ty, pos, aft, none⟩] (.l (DStop n env W d (.rel fun W v => V (RSl r) W v [u])) :: K) fin env W :=
  O.bs (r := r) (ps := [(0, y)]) (vs := [v]) [u] (by simp [getIdx, hy]) ⟨hv, trivial⟩ rfl hr hz hz0 hg hL2 fun W1 p1 i1 e1 s1 => D.rel (R := fun W v => V (RSl r) W v [u]) e1 s1.v V.me
theorem O.ldTw {T : TypeId} {z : List Value} {x : Operand} {b off : Nat} {u : Nat} [i : TVar P T 1 false z] (hx : get env x = some (.pointer (some ⟨b, off, none⟩))) (h : Has RW W b off u)
    (k : u < 4294967296 → JO P n ops l K fin ((d, .int .u32 (u : Int)) :: env) W) : JO P n ops (⟨some d, .load T x, ty, pos, aft, none⟩ :: l) K fin env W := by
  obtain ⟨cs, ⟨hc, hu⟩, hv⟩ := h
  subst hc
  exact O.ldC hx (hv 0 _ rfl) (k hu)
end
end Go.Rx

/- The rules of the walk, more: variables that are written for the last time; what that leaves to the others. -/
import Derived.Test.YtcobdnnfmhfenaaGreatRl
set_option linter.unusedVariables false
set_option linter.unusedSimpArgs false
namespace Go.Rx
open Go
section
variable {P : Program} {n : Nat} {ops : Array Oper} {l : List Oper} {K : List Kt} {fin : Exit → Act → World → Prop} {env : Env} {W : GW}
variable {d : Nat} {ty : TypeId} {pos : String} {aft : Array Edge}
theorem Cnt.lt {W : GW} {b : Nat} {cs : List Value} (h : Cnt W b cs) : b < W.size := by
  obtain ⟨T, hb⟩ := h
  exact lt_of_heap hb
/-- What a last write to variable b leaves to the others. -/
structure StF (b : Nat) (W W' : GW) : Prop where
  loc : ∀ {b2 sz : Nat}, Loc W b2 sz → b2 ≠ b → Loc W' b2 sz
  cnt : ∀ {b2 : Nat} {cs : List Value}, Cnt W b2 cs → b2 ≠ b → Cnt W' b2 cs
theorem O.stPF {T sz b : Nat} {ag : Bool} {z : List Value} {x y : Operand} {v : Value} [i : TVar P T sz ag z] (hx : get env x = some (.pointer (some ⟨b, 0, none⟩))) (hy : get env y = some v)
    (hl : Loc W b sz) (hs : v.cells.toList.length = sz) (h1 : ∀ u ∈ v.cells.toList, oneC u = true)
    (k : ∀ W', Le1 W W' → Blk W' b v.cells.toList → StF b W W' → JO P n ops l K fin env W') : JO P n ops (⟨none, .store T x y, ty, pos, aft, none⟩ :: l) K fin env W := by
  have hlm := hl.m
  refine O.stX hx hy hl hs h1 fun W1 i1 hc hf hz => ?_
  have hm : W1.m ≤ b := by rw [i1.s.m]; exact hlm
  obtain ⟨U, hb⟩ := hc
  refine k (W1.pubB b) ⟨i1.s.toLeS.trans (pubB_le W1 b hm)⟩ ⟨by simp [GW.pubB], U, (0, 0), hb⟩ ⟨fun {b2 sz} h hne => ?_, fun {b2 cs} h hne => h.only hf hne⟩
  obtain ⟨hA, hm2, cs, hc2, hl2⟩ := h
  refine ⟨List.mem_filter.2 ⟨i1.s.keep b2 hA, by simpa using hne⟩, by show W1.m ≤ b2; rw [i1.s.m]; exact hm2, cs, hc2.only hf hne, hl2⟩
/-- a parameter's variable that is written later -/
theorem O.boxE {T : TypeId} {x : Operand} {v : Value} (hx : get env x = some v)
    (k : ∀ W' b, Lk1 W W' → Ext W W' → Loc W' b v.cells.toList.length → Cnt W' b v.cells.toList → W.size ≤ b → JO P n ops l K fin ((d, .pointer (some ⟨b, 0, none⟩)) :: env) W') : JO P n ops (⟨some d, .box T x, ty, pos, aft, none⟩ :: l) K fin env W := by
  have hc : Cnt (W.push (.cells v.cells T) true) W.size v.cells.toList := ⟨T, push_cells ..⟩
  refine JO.world (W' := W.push (.cells v.cells T) true) (v := .pointer (some ⟨W.size, 0, none⟩)) (fun a ha => ?_)
    (k _ _ ⟨(push_ext ..).toLeK⟩ (push_ext ..) ⟨List.mem_cons_self .., W.hm, _, hc, rfl⟩ hc (Nat.le_refl _))
  simp only [execOp, ha.get hx]
  rfl
end

/-! ## data in variables, whatever their shape -/
theorem D.eq {P : Program} {n : Nat} {ops : Array Oper} {K : List Kt} {fin : Exit → Act → World → Prop} {E : Env} {W W1 : GW} {d : Nat} {v v' : Value} (e : Ext W1 W) (h : v = v') : JO P n ops [] (.l (DStop n E W1 d (.ex v')) :: K) fin ((d, v) :: E) W :=
  JO.nil fun a ha => ⟨W, v, rfl, e, ha, h, trivial⟩
theorem Loc.lt {W : GW} {b sz : Nat} (h : Loc W b sz) : b < W.size := by
  obtain ⟨cs, ⟨T, hb⟩, _⟩ := h.h
  exact lt_of_heap hb
/-- The values of a representation are single cells or structs. -/
class Shp {α : Type} (r : Rep α) : Prop where
  h : r.agg = true ∨ (r.agg = false ∧ r.size = 1)
instance {α : Type} {r : Rep α} : Shp (RSl r) := ⟨.inr ⟨rfl, rfl⟩⟩
instance : Shp RB := ⟨.inr ⟨rfl, rfl⟩⟩
instance : Shp RW := ⟨.inr ⟨rfl, rfl⟩⟩
instance {α β : Type} {r : Rep α} {s : Rep β} : Shp (RP r s) := ⟨.inl rfl⟩
theorem oneC_cells {v : Value} (h : oneC v = true) : v.cells.toList = [v] := by
  cases v <;> first | rfl | cases h
theorem V.cs {α : Type} {r : Rep α} [i : Shp r] {W : GW} {v : Value} {x : α} (h : V r W v x) : ∃ cs, r.At W cs x ∧ v.cells.toList = cs ∧ v = mkv r.agg cs := by
  obtain ⟨cs, hc, hv⟩ := h
  refine ⟨cs, hc, ?_, hv⟩
  subst hv
  rcases i.h with ha | ⟨ha, hs⟩
  · rw [ha]; rfl
  · rw [ha]
    have := r.len hc
    rw [hs] at this
    match cs, this with
    | [u], _ => exact oneC_cells (r.one hc u (List.mem_cons_self ..))
/-- At offset off of block b lies the datum x. -/
def Has {α : Type} (r : Rep α) (W : GW) (b off : Nat) (x : α) : Prop := ∃ cs, r.At W cs x ∧ ∀ i v, cs[i]? = some v → W.w.cell? ⟨b, off + i, none⟩ = some v
theorem Has.f {α β : Type} {r : Rep α} {s : Rep β} {W : GW} {b off : Nat} {x : α} {y : β} (h : Has (RP r s) W b off (x, y)) : Has r W b off x := by
  obtain ⟨cs, ⟨c, d, hcs, h1, h2⟩, hv⟩ := h
  refine ⟨c, h1, fun i v hi => hv i v ?_⟩
  rw [hcs]
  obtain ⟨hlt, _⟩ := List.getElem?_eq_some_iff.1 hi
  rw [List.getElem?_append_left hlt]
  exact hi
theorem Has.s {α β : Type} {r : Rep α} {s : Rep β} {W : GW} {b off : Nat} {x : α} {y : β} (h : Has (RP r s) W b off (x, y)) : Has s W b (off + r.size) y := by
  obtain ⟨cs, ⟨c, d, hcs, h1, h2⟩, hv⟩ := h
  refine ⟨d, h2, fun i v hi => ?_⟩
  have := hv (c.length + i) v (by rw [hcs, List.getElem?_append_right (by omega)]; simpa using hi)
  rw [r.len h1] at this
  rw [show off + r.size + i = off + (r.size + i) from by omega]
  exact this
/-- .. and nobody writes there any more. -/
structure Pt {α : Type} (r : Rep α) (W : GW) (b off : Nat) (x : α) : Prop where
  nA : b ∉ W.A
  lt : b < W.size
  h : Has r W b off x
theorem Pt.mono {α : Type} {r : Rep α} {W W' : GW} {b off : Nat} {x : α} (h : Pt r W b off x) (l : LeF W W') : Pt r W' b off x := by
  obtain ⟨hA, hl, cs, hc, hv⟩ := h
  refine ⟨l.stay b hl hA, Nat.lt_of_lt_of_le hl l.size, cs, r.mono l hc, fun i v hi => ?_⟩
  rw [cell_of_heap (l.same b hl hA)]
  exact hv i v hi
theorem Pt.to {α : Type} {r : Rep α} {W W' : GW} {b off : Nat} {x : α} (h : Pt r W b off x) [l : Lf W W'] : Pt r W' b off x := h.mono l.s
/-- Variable b holds x just now. -/
def Pc {α : Type} (r : Rep α) (W : GW) (b : Nat) (x : α) : Prop := ∃ cs, r.At W cs x ∧ Cnt W b cs
theorem Pc.h {α : Type} {r : Rep α} {W : GW} {b : Nat} {x : α} (h : Pc r W b x) : Has r W b 0 x := by
  obtain ⟨cs, hc, hb⟩ := h
  exact ⟨cs, hc, fun i v hi => by rw [hb.cell, Nat.zero_add]; exact hi⟩
theorem Pc.lt {α : Type} {r : Rep α} {W : GW} {b : Nat} {x : α} (h : Pc r W b x) : b < W.size := by
  obtain ⟨cs, hc, hb⟩ := h
  exact hb.lt
theorem Pc.ext {α : Type} {r : Rep α} {W W' : GW} {b : Nat} {x : α} (h : Pc r W b x) (e : Ext W W') : Pc r W' b x := by
  obtain ⟨cs, hc, hb⟩ := h
  exact ⟨cs, r.mono e.toLeS.f hc, hb.ext e⟩
theorem Pc.stf {α : Type} {r : Rep α} {W W' : GW} {b b2 : Nat} {x : α} (h : Pc r W b2 x) (f : StF b W W') (hne : b2 ≠ b) [l : Lf W W'] : Pc r W' b2 x := by
  obtain ⟨cs, hc, hb⟩ := h
  exact ⟨cs, r.mono l.s hc, f.cnt hb hne⟩
theorem Blk.pt {α : Type} {r : Rep α} {W : GW} {b : Nat} {cs : List Value} {x : α} (h : Blk W b cs) (hc : r.At W cs x) : Pt r W b 0 x := by
  obtain ⟨T, fr, hb⟩ := h.h
  exact ⟨h.nA, lt_of_heap hb, cs, hc, fun i v hi => by rw [h.cell, Nat.zero_add]; exact hi⟩
section
variable {P : Program} {n : Nat} {ops : Array Oper} {l : List Oper} {K : List Kt} {fin : Exit → Act → World → Prop} {env : Env} {W : GW}
variable {d : Nat} {ty : TypeId} {pos : String} {aft : Array Edge}
theorem V.b {b : Bool} : V RB W (.bool b) b := ⟨[_], rfl, rfl⟩
theorem O.boxT {α : Type} {r : Rep α} [sh : Shp r] {T : TypeId} {x : Operand} {v : Value} {a : α} (hx : get env x = some v) (h : V r W v a)
    (k : ∀ W' b, Lk1 W W' → Pt r W' b 0 a → JO P n ops l K fin ((d, .pointer (some ⟨b, 0, none⟩)) :: env) W') : JO P n ops (⟨some d, .box T x, ty, pos, aft, none⟩ :: l) K fin env W := by
  refine O.box hx fun W' b i hb => k W' b i ?_
  obtain ⟨cs, hc, hv, _⟩ := (h.mono i.s.toLeS.f).cs
  rw [hv] at hb
  exact hb.pt hc
/-- a parameter's variable that is written later -/
theorem O.boxC {α : Type} {r : Rep α} [sh : Shp r] {T : TypeId} {x : Operand} {v : Value} {a : α} (hx : get env x = some v) (h : V r W v a)
    (k : ∀ W' b, Lk1 W W' → Ext W W' → Loc W' b r.size → Pc r W' b a → W.size ≤ b → JO P n ops l K fin ((d, .pointer (some ⟨b, 0, none⟩)) :: env) W') : JO P n ops (⟨some d, .box T x, ty, pos, aft, none⟩ :: l) K fin env W := by
  obtain ⟨cs, hc, hv, _⟩ := h.cs
  refine O.boxE hx fun W' b i e hl hk hz => k W' b i e ?_ ?_ hz
  · rw [hv, r.len hc] at hl; exact hl
  · rw [hv] at hk; exact ⟨cs, r.mono i.s.toLeS.f hc, hk⟩
/-- the only write to a variable -/
theorem O.stT {α : Type} {r : Rep α} [sh : Shp r] {T sz b : Nat} {ag : Bool} {z : List Value} {x y : Operand} {v : Value} {a : α} [i : TVar P T sz ag z] (hx : get env x = some (.pointer (some ⟨b, 0, none⟩))) (hy : get env y = some v)
    (hl : Loc W b sz) (h : V r W v a) (hs : r.size = sz)
    (k : ∀ W', Le1 W W' → Pt r W' b 0 a → StF b W W' → JO P n ops l K fin env W') : JO P n ops (⟨none, .store T x y, ty, pos, aft, none⟩ :: l) K fin env W := by
  obtain ⟨cs, hc, hv, _⟩ := h.cs
  refine O.stPF hx hy hl (by rw [hv, r.len hc, hs]) (by rw [hv]; exact r.one hc) fun W' i' hb hf => k W' i' ?_ hf
  rw [hv] at hb
  exact hb.pt (r.mono i'.s.f hc)
/-- a write to a variable that is written again -/
theorem O.stM {α : Type} {r : Rep α} [sh : Shp r] {T sz b : Nat} {ag : Bool} {z : List Value} {x y : Operand} {v : Value} {a : α} [i : TVar P T sz ag z] (hx : get env x = some (.pointer (some ⟨b, 0, none⟩))) (hy : get env y = some v)
    (hl : Loc W b sz) (h : V r W v a) (hs : r.size = sz)
    (k : ∀ W', Lk1 W W' → Pc r W' b a → StF b W W' → JO P n ops l K fin env W') : JO P n ops (⟨none, .store T x y, ty, pos, aft, none⟩ :: l) K fin env W := by
  obtain ⟨cs, hc, hv, _⟩ := h.cs
  refine O.stX hx hy hl (by rw [hv, r.len hc, hs]) (by rw [hv]; exact r.one hc) fun W' i' hb hf _ => k W' i' ?_ ⟨fun h _ => h.mono i'.s, fun h hne => h.only hf hne⟩
  rw [hv] at hb
  exact ⟨cs, r.mono i'.s.toLeS.f hc, hb⟩
theorem O.ldT {α : Type} {r : Rep α} {T sz : Nat} {ag : Bool} {z : List Value} {x : Operand} {b off : Nat} {u : α} [i : TVar P T sz ag z] (hx : get env x = some (.pointer (some ⟨b, off, none⟩)))
    (h : Has r W b off u) (hr : r.size = sz) (hg : r.agg = ag) (h1 : ag = false → sz = 1)
    (k : ∀ v, V r W v u → JO P n ops l K fin ((d, v) :: env) W) : JO P n ops (⟨some d, .load T x, ty, pos, aft, none⟩ :: l) K fin env W := O.ldP hx h hr hg h1 k
theorem O.ldTb {T : TypeId} {z : List Value} {x : Operand} {b off : Nat} {u : Bool} [i : TVar P T 1 false z] (hx : get env x = some (.pointer (some ⟨b, off, none⟩))) (h : Has RB W b off u)
    (k : JO P n ops l K fin ((d, .bool u) :: env) W) : JO P n ops (⟨some d, .load T x, ty, pos, aft, none⟩ :: l) K fin env W := by
  obtain ⟨cs, hc, hv⟩ := h
  cases hc
  exact O.ldC hx (hv 0 _ rfl) k
theorem O.ldTs {α : Type} {r : Rep α} {T : TypeId} {z : List Value} {x : Operand} {b off : Nat} {xs : List α} [i : TVar P T 1 false z] (hx : get env x = some (.pointer (some ⟨b, off, none⟩))) (h : Has (RSl r) W b off xs)
    (k : ∀ p m c, Sl r W p m c xs → JO P n ops l K fin ((d, .slice p m c) :: env) W) : JO P n ops (⟨some d, .load T x, ty, pos, aft, none⟩ :: l) K fin env W := by
  obtain ⟨cs, ⟨p, m, c, rfl, hs⟩, hv⟩ := h
  exact O.ldC hx (hv 0 _ rfl) (k p m c hs)
/-- the same where the order is open -/
theorem O.ldTD {α : Type} {r : Rep α} {T sz : Nat} {ag : Bool} {z : List Value} {x : Operand} {b off : Nat} {u : α} [i : TVar P T sz ag z] (hx : get env x = some (.pointer (some ⟨b, off, none⟩)))
    (h : Has r W b off u) (hr : r.size = sz) (hg : r.agg = ag) (h1 : ag = false → sz = 1) : JO P n ops [⟨some d, .load T x, ty, pos, aft, none⟩] (.l (DStop n env W d (.rel fun W v => V r W v u)) :: K) fin env W :=
  O.ldT hx h hr hg h1 fun v hv => D.rel (R := fun W v => V r W v u) (Ext.refl _) hv V.me
theorem O.allocD {T sz lo : Nat} {ag : Bool} {z : List Value} [i : TVar P T sz ag z] (hz : z.length = sz) (hlo : lo ≤ W.size) :
    JO P n ops [⟨some d, .alloc T, ty, pos, aft, none⟩] (.l (DStop n env W d (.rel (PLoc sz lo))) :: K) fin env W :=
  O.allocE fun W5 b5 i5 e5 hl5 hc5 hb5 => D.rel (R := PLoc sz lo) e5 ⟨_, rfl, by rw [← hz]; exact hl5, Nat.le_trans hlo hb5⟩ PLoc.me
theorem O.bldT {α β : Type} {r : Rep α} {s : Rep β} [Shp r] [Shp s] {T n0 n1 : Nat} {x0 x1 : Operand} {v0 v1 : Value} {a : α} {c : β} [i : TBld P T n0 n1] (hx : get env x0 = some v0) (hy : get env x1 = some v1)
    (h0 : V r W v0 a) (h1 : V s W v1 c) (s0 : r.size = n0) (s1 : s.size = n1)
    (k : ∀ v, V (RP r s) W v (a, c) → JO P n ops l K fin ((d, v) :: env) W) : JO P n ops (⟨some d, .build T #[(0, x0), (1, x1)], ty, pos, aft, none⟩ :: l) K fin env W := by
  obtain ⟨c0, hc0, hv0, _⟩ := h0.cs
  obtain ⟨c1, hc1, hv1, _⟩ := h1.cs
  refine O.bld hx hy (by rw [← s0, ← r.len hc0, ← hv0]; simp) (by rw [← s1, ← s.len hc1, ← hv1]; simp) (k _ ⟨c0 ++ c1, ⟨c0, c1, rfl, hc0, hc1⟩, by rw [hv0, hv1]; rfl⟩)
theorem O.bldTD {α β : Type} {r : Rep α} {s : Rep β} [Shp r] [Shp s] {T n0 n1 : Nat} {x0 x1 : Operand} {v0 v1 : Value} {a : α} {c : β} [i : TBld P T n0 n1] (hx : get env x0 = some v0) (hy : get env x1 = some v1)
    (h0 : V r W v0 a) (h1 : V s W v1 c) (s0 : r.size = n0) (s1 : s.size = n1) : JO P n ops [⟨some d, .build T #[(0, x0), (1, x1)], ty, pos, aft, none⟩] (.l (DStop n env W d (.rel fun W v => V (RP r s) W v (a, c))) :: K) fin env W :=
  O.bldT hx hy h0 h1 s0 s1 fun v hv => D.rel (R := fun W v => V (RP r s) W v (a, c)) (Ext.refl _) hv V.me

/-! what a function returns -/
def ResG (P : Program) (n : Nat) (env : Env) (W : GW) (rv : ResultVar) (v : Value) : Prop := ∀ a : Act, Rel n env a → (resOne a.tmps rv).run P W.w = .ok v W.w
theorem ResG.tmp {t : Nat} {v : Value} (h : look env t = some v) : ResG P n env W (.tmp t) v := fun _ ha => resAt_run ha (.tmp h)
theorem ResG.pt {α : Type} {r : Rep α} {t T sz b : Nat} {z : List Value} {x : α} [i : TVar P T sz true z] (h : look env t = some (.pointer (some ⟨b, 0, none⟩))) (hp : Has r W b 0 x) (hr : r.size = sz) (hg : r.agg = true) :
    ∃ v, ResG P n env W (.cell t T) v ∧ V r W v x := by
  obtain ⟨cs, hc, hv⟩ := hp
  refine ⟨.agg cs.toArray, fun a ha => ?_, cs, hc, by rw [hg]; rfl⟩
  have hs : cs.length = sz := by rw [r.len hc, hr]
  simp only [resOne, ha.has _ _ h, asAddr]
  rw [Sem.run_bind]
  show Result.andThen (Result.ok _ _) _ = _
  simp only [Result.andThen_ok]
  obtain ⟨t', u1, u2⟩ := i.u
  obtain ⟨ii, v, e1, e2, e3⟩ := i.i
  have hcells := run_loadCells (P := P) (b := b) (off := 0) (w := W.w) cs 0 #[] (fun j v hj => by simpa using hv j v hj)
  have hsz : (sizeOf T).run P W.w = .ok sz W.w := by simp [sizeOf, typeInfo, program, bind, Sem.bind, Sem.run, pure, e1, e2]
  have hag : (isAgg T).run P W.w = .ok true W.w := by
    cases t' <;> simp [isAgg, underlying, program, bind, Sem.bind, Sem.run, pure, u1] at u2 ⊢
  unfold loadVar
  rw [Sem.run_bind, hag]
  subst hs
  simp only [Result.andThen_ok, if_true]
  rw [Sem.run_bind, hsz]
  simp only [Result.andThen_ok]
  rw [Sem.run_bind]
  simp only [loadCells]
  rw [hcells]
  simp
theorem resultsG1 {fn : Func} {r1 : ResultVar} {v1 : Value} {a : Act} (ha : Rel n env a) (hres : fn.results = #[r1]) (h1 : ResG P n env W r1 v1) : (results fn a.tmps).run P W.w = .ok v1 W.w := by
  have e1 := h1 a ha
  unfold results
  rw [hres, Sem.run_bind]
  simp only [List.mapM_toArray, List.mapM_cons, List.mapM_nil]
  rw [Sem.run_map, Sem.run_bind]
  erw [e1]
  simp
theorem resultsG2 {fn : Func} {r1 r2 : ResultVar} {v1 v2 : Value} {a : Act} (ha : Rel n env a) (hres : fn.results = #[r1, r2]) (h1 : ResG P n env W r1 v1) (h2 : ResG P n env W r2 v2) :
    (results fn a.tmps).run P W.w = .ok (.tuple #[v1, v2]) W.w := by
  have e1 := h1 a ha
  have e2 := h2 a ha
  unfold results
  rw [hres, Sem.run_bind]
  simp only [List.mapM_toArray, List.mapM_cons, List.mapM_nil]
  rw [Sem.run_map, Sem.run_bind]
  erw [e1]
  simp only [Result.andThen_ok]
  rw [Sem.run_bind, Sem.run_bind]
  erw [e2]
  simp
theorem resultsG3 {fn : Func} {r1 r2 r3 : ResultVar} {v1 v2 v3 : Value} {a : Act} (ha : Rel n env a) (hres : fn.results = #[r1, r2, r3]) (h1 : ResG P n env W r1 v1) (h2 : ResG P n env W r2 v2) (h3 : ResG P n env W r3 v3) :
    (results fn a.tmps).run P W.w = .ok (.tuple #[v1, v2, v3]) W.w := by
  have e1 := h1 a ha
  have e2 := h2 a ha
  have e3 := h3 a ha
  unfold results
  rw [hres, Sem.run_bind]
  simp only [List.mapM_toArray, List.mapM_cons, List.mapM_nil]
  rw [Sem.run_map, Sem.run_bind]
  erw [e1]
  simp only [Result.andThen_ok]
  rw [Sem.run_bind, Sem.run_bind]
  erw [e2]
  simp only [Result.andThen_ok]
  rw [Sem.run_bind, Sem.run_bind]
  erw [e3]
  simp
/-- one result, a variable -/
theorem J.retT {α : Type} {r : Rep α} {fn : Func} {W0 W1 : GW} {R : GW → Value → Prop} {t T sz b : Nat} {z : List Value} {x : α} [i : En W0 W1] [j : Le W1 W] [iv : TVar P T sz true z] (hres : fn.results = #[.cell t T])
    (hl : look env t = some (.pointer (some ⟨b, 0, none⟩))) (hp : Has r W b 0 x) (hr : r.size = sz) (hg : r.agg = true)
    (h : ∀ W' v, Ex W W' → Pub W W' → V r W v x → R W' v) : J P n (.c .ret :: K) (Fin P fn W0 R) env W := by
  obtain ⟨v, hv, hV⟩ := ResG.pt (i := iv) (n := n) hl hp hr hg
  exact J.ret fun a ha => ret_p i j ha (resultsG1 ha hres hv) fun W' e p => h W' v e p hV
/-- a variable and a value -/
theorem J.retTv {α : Type} {r : Rep α} {fn : Func} {W0 W1 : GW} {R : GW → Value → Prop} {t t2 T sz b : Nat} {v2 : Value} {z : List Value} {x : α} [i : En W0 W1] [j : Le W1 W] [iv : TVar P T sz true z] (hres : fn.results = #[.cell t T, .tmp t2])
    (hl : look env t = some (.pointer (some ⟨b, 0, none⟩))) (hp : Has r W b 0 x) (hr : r.size = sz) (hg : r.agg = true) (h2 : look env t2 = some v2)
    (h : ∀ W' v, Ex W W' → Pub W W' → V r W v x → R W' (.tuple #[v, v2])) : J P n (.c .ret :: K) (Fin P fn W0 R) env W := by
  obtain ⟨v, hv, hV⟩ := ResG.pt (i := iv) (n := n) hl hp hr hg
  exact J.ret fun a ha => ret_p i j ha (resultsG2 ha hres hv (ResG.tmp h2)) fun W' e p => h W' v e p hV
/-- two variables and a value -/
theorem J.retTTv {α β : Type} {r : Rep α} {s : Rep β} {fn : Func} {W0 W1 : GW} {R : GW → Value → Prop} {t t2 t3 T T2 sz sz2 b b2 : Nat} {v3 : Value} {z z2 : List Value} {x : α} {y : β} [i : En W0 W1] [j : Le W1 W] [iv : TVar P T sz true z] [iw : TVar P T2 sz2 true z2] (hres : fn.results = #[.cell t T, .cell t2 T2, .tmp t3])
    (hl : look env t = some (.pointer (some ⟨b, 0, none⟩))) (hp : Has r W b 0 x) (hr : r.size = sz) (hg : r.agg = true)
    (hl2 : look env t2 = some (.pointer (some ⟨b2, 0, none⟩))) (hp2 : Has s W b2 0 y) (hr2 : s.size = sz2) (hg2 : s.agg = true) (h3 : look env t3 = some v3)
    (h : ∀ W' v w, Ex W W' → Pub W W' → V r W v x → V s W w y → R W' (.tuple #[v, w, v3])) : J P n (.c .ret :: K) (Fin P fn W0 R) env W := by
  obtain ⟨v, hv, hV⟩ := ResG.pt (i := iv) (n := n) hl hp hr hg
  obtain ⟨w, hw, hW⟩ := ResG.pt (i := iw) (n := n) hl2 hp2 hr2 hg2
  exact J.ret fun a ha => ret_p i j ha (resultsG3 ha hres hv hw (ResG.tmp h3)) fun W' e p => h W' v w e p hV hW
/-! ## elements of slices -/
theorem Sl.placeP {α : Type} {r : Rep α} {p : Option Addr} {m c j : Nat} {xs : List α} {u : α} (hs : Sl r W p m c xs) (hj : xs[j]? = some u) :
    ∃ b off, p = some ⟨b, off, none⟩ ∧ j < m ∧ Pt r W b (off + j * r.size) u := by
  rcases hs.at' with h | ⟨b, off, hp, hb, hA, hx⟩
  · subst h; simp at hj
  · obtain ⟨cs, hc, hv⟩ := hx j u hj
    exact ⟨b, off, hp, hs.lt hj, hA, hb, cs, hc, fun i v hi => by rw [Nat.add_assoc]; exact hv i v hi⟩
theorem Sl.placeQ {α : Type} {r : Rep α} {b off m c j : Nat} {xs : List α} {u : α} (hs : Sl r W (some ⟨b, off, none⟩) m c xs) (hj : xs[j]? = some u) : j < m ∧ Pt r W b (off + j * r.size) u := by
  obtain ⟨b', off', hp, h1, h2⟩ := hs.placeP hj
  injection hp with hp
  injection hp with e1 e2 _
  subst e1; subst e2
  exact ⟨h1, h2⟩
theorem O.iaT {α : Type} {r : Rep α} {T E sz by' : Nat} {z : List Value} {x y : Operand} {p : Option Addr} {m c j : Nat} {k' : IntKind} {jj : Int} {xs : List α} {u : α} [i : TSl P T E sz by' z]
    (hx : get env x = some (.slice p m c)) (hy : get env y = some (.int k' jj)) (hjj : jj = (j : Int)) (hs : Sl r W p m c xs) (hj : xs[j]? = some u) (hr : r.size = sz)
    (k : ∀ b off, Pt r W b off u → JO P n ops l K fin ((d, .pointer (some ⟨b, off, none⟩)) :: env) W) :
    JO P n ops (⟨some d, .indexAddr T x y, ty, pos, aft, none⟩ :: l) K fin env W := by
  obtain ⟨b, off, hp, hj', hP⟩ := hs.placeP hj
  subst hp
  rw [hr] at hP
  exact O.ia hx hy hjj hj' (k _ _ hP)
theorem O.bs1D {α : Type} {r : Rep α} {T E sz by' : Nat} {z : List Value} {y : Operand} {v : Value} {u : α} [i : TSl P T E sz by' z] (hy : get env y = some v) (hv : V r W v u) (hr : r.size = sz) (hz : z.length = sz) (hz0 : 0 < sz) (hg : r.agg = true ∨ r.size = 1) (hL2 : 1 * sz ≤ 16777216) :
    JO P n ops [⟨some d, .buildSlice T 1 #[(0, y)], ty, pos, aft, none⟩] (.l (DStop n env W d (.rel fun W v => V (RSl r) W v [u])) :: K) fin env W :=
  O.bs (r := r) (ps := [(0, y)]) (vs := [v]) [u] (by simp [getIdx, hy]) ⟨hv, trivial⟩ rfl hr hz hz0 hg hL2 fun W1 p1 i1 e1 s1 => D.rel (R := fun W v => V (RSl r) W v [u]) e1 s1.v V.me
theorem O.ldTw {T : TypeId} {z : List Value} {x : Operand} {b off : Nat} {u : Nat} [i : TVar P T 1 false z] (hx : get env x = some (.pointer (some ⟨b, off, none⟩))) (h : Has RW W b off u)
    (k : u < 4294967296 → JO P n ops l K fin ((d, .int .u32 (u : Int)) :: env) W) : JO P n ops (⟨some d, .load T x, ty, pos, aft, none⟩ :: l) K fin env W := by
  obtain ⟨cs, ⟨hc, hu⟩, hv⟩ := h
  subst hc
  exact O.ldC hx (hv 0 _ rfl) (k hu)
end
/-- The operation is done, and its value is a new variable. -/
def DStopN (n : Nat) (E : Env) (W1 : GW) (d : Nat) (s : Sp) (a : Act) (w : World) : Prop :=
  ∃ W2 v, W2.w = w ∧ Ext W1 W2 ∧ Rel n ((d, v) :: E) a ∧ s.ok W2 v ∧ s.mono ∧ ∃ b, v = .pointer (some ⟨b, 0, none⟩) ∧ W1.size ≤ b ∧ b < W2.size
def DStopF (f : Bool) (n : Nat) (E : Env) (W1 : GW) (d : Nat) (s : Sp) : Act → World → Prop := match f with
  | false => DStop n E W1 d s
  | true => DStopN n E W1 d s
theorem DStopF.get {f : Bool} {n : Nat} {E : Env} {W1 : GW} {d : Nat} {s : Sp} {a : Act} {w : World} (h : DStopF f n E W1 d s a w) :
    ∃ W2 v, W2.w = w ∧ Ext W1 W2 ∧ Rel n ((d, v) :: E) a ∧ s.ok W2 v ∧ s.mono ∧ (f = true → ∃ b, v = .pointer (some ⟨b, 0, none⟩) ∧ W1.size ≤ b ∧ b < W2.size) := by
  cases f with
  | false => obtain ⟨W2, v, h1, h2, h3, h4, h5⟩ := h; exact ⟨W2, v, h1, h2, h3, h4, h5, fun h => by cases h⟩
  | true => obtain ⟨W2, v, h1, h2, h3, h4, h5, h6⟩ := h; exact ⟨W2, v, h1, h2, h3, h4, h5, fun _ => h6⟩
def flD (fl : List Bool) (i : Nat) : Bool := match fl, i with
  | [], _ => false
  | f :: _, 0 => f
  | _ :: l, i + 1 => flD l i
def NeAll (x : Value) : List Value → Prop
  | [] => True
  | y :: l => x ≠ y ∧ NeAll x l
theorem NeAll.mk {x : Value} : ∀ {l : List Value}, (∀ y ∈ l, x ≠ y) → NeAll x l
  | [], _ => trivial
  | y :: l, h => ⟨h y (List.mem_cons_self ..), NeAll.mk fun z hz => h z (List.mem_cons_of_mem _ hz)⟩
/-- For all values that are as said, the new variables apart from each other. -/
def WithN (l : List Oper) (sp : List Sp) (fl : List Bool) (W : GW) : List Nat → List Value → Env → (Env → Prop) → Prop
  | [], _, acc, φ => φ acc
  | j :: js, pv, acc, φ => match spD sp j with
    | .ex v => WithN l sp fl W js (match flD fl j with | true => v :: pv | false => pv) ((dstD l j, v) :: acc) φ
    | .rel R => match flD fl j with
      | true => ∀ x, R W x → NeAll x pv → WithN l sp fl W js (x :: pv) ((dstD l j, x) :: acc) φ
      | false => ∀ x, R W x → WithN l sp fl W js pv ((dstD l j, x) :: acc) φ
theorem WithN.use {l : List Oper} {sp : List Sp} {fl : List Bool} {W : GW} (vals : Nat → Value) (js : List Nat) (hv : ∀ j ∈ js, (spD sp j).ok W (vals j)) (hd : ∀ i j, i ∈ js → j ∈ js → flD fl i = true → flD fl j = true → i ≠ j → vals i ≠ vals j) (hn : js.Nodup) :
    ∀ {pv : List Value} {acc : Env} {φ : Env → Prop}, (∀ j ∈ js, flD fl j = true → ∀ y ∈ pv, vals j ≠ y) → WithN l sp fl W js pv acc φ → φ ((js.reverse.map fun j => (dstD l j, vals j)) ++ acc) := by
  induction js with
  | nil => intro pv acc φ _ h; exact h
  | cons j js ih =>
    intro pv acc φ hp h
    have hj := hv j (List.mem_cons_self ..)
    have ht := fun k hk => hv k (List.mem_cons_of_mem _ hk)
    have hdt := fun i k hi hk => hd i k (List.mem_cons_of_mem _ hi) (List.mem_cons_of_mem _ hk)
    obtain ⟨hn1, hn2⟩ := List.nodup_cons.1 hn
    have hpt : ∀ (f : Bool), flD fl j = f → ∀ k ∈ js, flD fl k = true → ∀ y ∈ (match f with | true => vals j :: pv | false => pv), vals k ≠ y := by
      intro f hf k hk hkf y hy
      have hold := hp k (List.mem_cons_of_mem _ hk) hkf
      cases f with
      | false => exact hold y hy
      | true =>
        rcases List.mem_cons.1 hy with rfl | hy
        · exact hd k j (List.mem_cons_of_mem _ hk) (List.mem_cons_self ..) hkf hf (fun e => hn1 (e ▸ hk))
        · exact hold y hy
    simp only [WithN] at h
    cases hs : spD sp j with
    | ex v =>
      rw [hs] at h hj
      have hj' : vals j = v := hj
      subst hj'
      cases hf : flD fl j with
      | false =>
        rw [hf] at h
        have := ih ht hdt hn2 (hpt false hf) h
        simpa using this
      | true =>
        rw [hf] at h
        have := ih ht hdt hn2 (hpt true hf) h
        simpa using this
    | rel R =>
      rw [hs] at h hj
      cases hf : flD fl j with
      | false =>
        rw [hf] at h
        have := ih ht hdt hn2 (hpt false hf) (h (vals j) hj)
        simpa using this
      | true =>
        rw [hf] at h
        have := ih ht hdt hn2 (hpt true hf) (h (vals j) hj (NeAll.mk (hp j (List.mem_cons_self ..) hf)))
        simpa using this
def CloudHN (P : Program) (n : Nat) (L : List Oper) (K : List Kt) (fin : Exit → Act → World → Prop) (sp : List Sp) (env : Env) (W : GW) : Nat → List Oper → List Sp → List Bool → Prop
  | _, _, [], _ => True
  | _, [], _ :: _, _ => False
  | _, _, _ :: _, [] => False
  | i, o :: l, s :: ss, f :: fs => (∀ W1, Lk1 W W1 → Ext W W1 → ∀ tl : Env, WithD L sp W1 (depsD o) (env ++ tl) fun E => JO P n L.toArray [o] (.l (DStopF f n E W1 (dstD L i) s) :: K) fin E W1) ∧ CloudHN P n L K fin sp env W (i + 1) l ss fs
structure ClN (n : Nat) (L : List Oper) (sp : List Sp) (fl : List Bool) (env : Env) (W : GW) (ls : Nat → Bool) (a : Act) (w : World) : Prop where
  ex : ∃ (W1 : GW) (vals : Nat → Value), W1.w = w ∧ Ext W W1 ∧ (∀ i, i < sp.length → ls i = true → (spD sp i).ok W1 (vals i) ∧ (spD sp i).mono ∧ a.tmps.getD (dstD L i) undef = vals i) ∧
    (∀ i, i < sp.length → ls i = true → flD fl i = true → ∃ b, vals i = .pointer (some ⟨b, 0, none⟩) ∧ b < W1.size) ∧ (∀ i j, i < sp.length → j < sp.length → ls i = true → ls j = true → flD fl i = true → flD fl j = true → i ≠ j → vals i ≠ vals j)
  defers : a.defers = []
  size : a.tmps.size = n
  env : ∀ t v, look env t = some v → a.tmps.getD t undef = v
section
variable {P : Program} {n : Nat} {K : List Kt} {fin : Exit → Act → World → Prop} {env : Env} {W : GW}
theorem CloudHN.at' {L : List Oper} {sp : List Sp} {fl : List Bool} {i0 : Nat} {l : List Oper} {ss : List Sp} {fs : List Bool} (h : CloudHN P n L K fin sp env W i0 l ss fs) (hsp : ∀ j, j < ss.length → spD sp (i0 + j) = spD ss j) (hfl : ∀ j, j < ss.length → flD fl (i0 + j) = flD fs j) {i : Nat} (hi : i < ss.length) :
    ∃ o, l[i]? = some o ∧ ∀ W1, Lk1 W W1 → Ext W W1 → ∀ tl : Env, WithD L sp W1 (depsD o) (env ++ tl) fun E => JO P n L.toArray [o] (.l (DStopF (flD fl (i0 + i)) n E W1 (dstD L (i0 + i)) (spD sp (i0 + i))) :: K) fin E W1 := by
  induction ss generalizing i0 l i fs with
  | nil => simp at hi
  | cons s ss ih =>
    cases l with
    | nil => exact h.elim
    | cons o l =>
      cases fs with
      | nil => exact h.elim
      | cons f fs =>
      obtain ⟨h1, h2⟩ := h
      cases i with
      | zero =>
        have := hsp 0 (by simp)
        simp only [spD, Nat.add_zero] at this
        have hf := hfl 0 (by simp)
        simp only [flD, Nat.add_zero] at hf
        refine ⟨o, rfl, ?_⟩
        rw [Nat.add_zero, this, hf]
        exact h1
      | succ i =>
        have := ih h2 (fun j hj => by
          have := hsp (j + 1) (by simpa using hj)
          simp only [spD] at this
          rw [← this]; congr 1; omega) (fun j hj => by
          have := hfl (j + 1) (by simpa using hj)
          simp only [flD] at this
          rw [← this]; congr 1; omega) (by simpa using hi)
        obtain ⟨o', ho', h'⟩ := this
        refine ⟨o', by simpa using ho', ?_⟩
        rw [show i0 + (i + 1) = i0 + 1 + i from by omega]
        exact h'
/-- all of the cloud is done -/
theorem cl_doneN {rk : List Nat} {L : List Oper} {sp : List Sp} {fl : List Bool} {ls : Nat → Bool} {a : Act} {w : World} (F : CloudG n env L rk sp.length) (h : ClN n L sp fl env W ls a w) (hall : ∀ j, j < sp.length → ls j = true)
    (tail : ∀ W1, Ext W W1 → WithN L sp fl W1 (List.range sp.length) [] env fun E => JO P n L.toArray (L.drop sp.length) K fin E W1) : wpL P L.toArray (Done P fin K) (L.drop sp.length) a w := by
  obtain ⟨W1, vals, hw, he, hv, hp, hq⟩ := h.ex
  have h1 := WithN.use vals (List.range sp.length) (fun j hj => (hv j (List.mem_range.1 hj) (hall j (List.mem_range.1 hj))).1) (fun i j hi hj hfi hfj hne => hq i j (List.mem_range.1 hi) (List.mem_range.1 hj) (hall i (List.mem_range.1 hi)) (hall j (List.mem_range.1 hj)) hfi hfj hne) List.nodup_range (fun _ _ _ y hy => by cases hy) (tail W1 he)
  have hok : opsOk n (L.drop sp.length) = true := by
    have : ∀ (k : Nat) (l : List Oper), opsOk n l = true → opsOk n (l.drop k) = true := by
      intro k
      induction k with
      | zero => intro l h; simpa using h
      | succ k ih => intro l h; cases l with
        | nil => simpa using h
        | cons o l => simp only [List.drop_succ_cons]; exact ih l (JO.unok h)
    exact this _ _ F.ok
  rw [← hw]
  refine h1 hok a ⟨h.defers, h.size, fun t v ht => ?_⟩
  rw [look_append] at ht
  have key : ∀ js : List Nat, (∀ j ∈ js, j < sp.length) → ∀ u, look (js.map fun j => (dstD L j, vals j)) t = some u → a.tmps.getD t undef = u := by
    intro js
    induction js with
    | nil => intro _ u hu; simp [look] at hu
    | cons j js ih =>
      intro hj u hu
      simp only [List.map_cons] at hu
      rw [look_cons] at hu
      have hj1 := hj j (List.mem_cons_self ..)
      by_cases hts : t = dstD L j
      · rw [if_pos hts] at hu
        injection hu with hu
        rw [hts, (hv j hj1 (hall j hj1)).2.2, hu]
      · rw [if_neg hts] at hu
        exact ih (fun x hx => hj x (List.mem_cons_of_mem _ hx)) u hu
  cases hl : look (((List.range sp.length).reverse.map fun j => (dstD L j, vals j))) t with
  | some u =>
    rw [hl] at ht
    injection ht with ht
    rw [← ht]
    exact key _ (fun j hj => List.mem_range.1 (List.mem_reverse.1 hj)) u hl
  | none =>
    rw [hl] at ht
    exact h.env t v ht

theorem draw_coreN {rk : List Nat} {L : List Oper} {sp : List Sp} {fl : List Bool} (F : CloudG n env L rk sp.length) (hk : sp.length ≤ L.length) (cloud : CloudHN P n L K fin sp env W 0 L sp fl)
    (tail : ∀ W1, Ext W W1 → WithN L sp fl W1 (List.range sp.length) [] env fun E => JO P n L.toArray (L.drop sp.length) K fin E W1) (f : Nat) :
    ∀ (t : Nat) (ls : Array Bool) (a : Act) (w : World), ls.size = L.length → (∀ i, sp.length ≤ i → ls.getD i false = false) →
      (∀ i, i < L.length → ls.getD i false = true → ∀ j ∈ depsAt L i, ls.getD j false = true) →
      (List.range L.length).countP (fun i => !ls.getD i false) = f → ClN n L sp fl env W (fun i => ls.getD i false) a w →
      wpOps P L.toArray (Done P fin K) (Region.linearise.go .any L.toArray f t ls []) a w := by
  induction f with
  | zero =>
    intro t ls a w hs hb hcl hcnt hC
    have hall : ∀ j, j < L.length → ls.getD j false = true := by
      intro j hj
      have := List.countP_eq_zero.1 hcnt j (List.mem_range.2 hj)
      simpa using this
    have hkk : L.length = sp.length := by
      by_cases h : L.length ≤ sp.length
      · omega
      · have := hall sp.length (by omega)
        rw [hb sp.length (Nat.le_refl _)] at this; cases this
    have h1 := cl_doneN F hC (fun j hj => hall j (by omega)) tail
    rw [List.drop_eq_nil_of_le (by omega)] at h1
    simpa [Region.linearise.go, wpOps, wpL] using h1
  | succ f ih =>
    intro t ls a w hs hb hcl hcnt hC
    by_cases hall : ∀ j, j < sp.length → ls.getD j false = true
    · have hcount : L.length - sp.length = f + 1 := by
        rw [← hcnt]
        exact (cnt_range sp.length L.length (fun i => !ls.getD i false) (fun j hj => by simp [hall j hj]) (fun j hj => by simp [hb j hj])).symm
      rw [go_tailR F.lowT (f + 1) sp.length t ls (Nat.le_refl _) hs (by omega) hall hb F.tail]
      have h1 := wpOps_of (P := P) (ops := L.toArray) (Q := Done P fin K) (L.drop sp.length) sp.length a w (by simp) (cl_doneN F hC hall tail)
      rw [List.length_drop, hcount] at h1
      exact h1
    · have hex : ∃ j, j < sp.length ∧ ls.getD j false = false := by
        apply Classical.byContradiction
        intro hn
        apply hall
        intro j hj
        cases hv : ls.getD j false with
        | true => rfl
        | false => exact absurd ⟨j, hj, hv⟩ hn
      have hex2 : ∃ m, ∃ j, (j < sp.length ∧ ls.getD j false = false) ∧ rk.getD j 0 = m := by
        obtain ⟨j, hj⟩ := hex
        exact ⟨_, j, hj, rfl⟩
      obtain ⟨m0, ⟨j0, ⟨hj0, hj1⟩, hjm⟩, hmin⟩ := exists_min _ hex2
      have hready : j0 ∈ rdy L ls := by
        rw [rdy_mem hs]
        have hlt : j0 < L.length := by omega
        refine ⟨L[j0], List.getElem?_eq_getElem hlt, hj1, fun j hj => ?_⟩
        obtain ⟨hjl, hjr⟩ := F.rank j0 hj0 j (by rw [depsAt_eq L j0 _ (List.getElem?_eq_getElem hlt)]; exact hj)
        cases hv : ls.getD j false with
        | true => rfl
        | false => have := hmin _ ⟨j, ⟨hjl, hv⟩, rfl⟩; omega
      have hpos : 0 < (rdy L ls).length := List.length_pos_of_mem hready
      have hgo : Region.linearise.go .any L.toArray (f + 1) t ls [] = match (rdy L ls)[t % (rdy L ls).length]? with | some i => Region.linearise.go .any L.toArray f (t / (rdy L ls).length) (ls.setIfInBounds i true) [i] | none => [] := rfl
      have hlt := Nat.mod_lt t hpos
      rw [hgo, List.getElem?_eq_getElem hlt]
      generalize hi : (rdy L ls)[t % (rdy L ls).length] = i
      have him : i ∈ rdy L ls := by rw [← hi]; exact List.getElem_mem hlt
      obtain ⟨o, ho, hli, hdep⟩ := (rdy_mem hs).1 him
      have hil : i < L.length := by
        by_cases h : i < L.length
        · exact h
        · rw [List.getElem?_eq_none (by omega)] at ho; cases ho
      have hdi := depsAt_eq L i o ho
      have hik : i < sp.length := by
        apply Classical.byContradiction
        intro hn
        by_cases he : i = sp.length
        · have ha := ancs_listedR (L := L) (p := fun i => ls.getD i false) hcl F.inb L.length i hil (fun j hj => hdep j (by rw [← hdi]; exact hj))
          have := ha j0 (by rw [he]; exact F.anc (by omega) j0 hj0)
          rw [hj1] at this; cases this
        · have := hdep (i - 1) (by rw [← hdi]; exact F.tail i (by omega) hil)
          rw [hb (i - 1) (by omega)] at this; cases this
      simp only []
      rw [go_acc]
      show wpOps P L.toArray (Done P fin K) (i :: _) a w
      have ho' : L.toArray[i]? = some o := by simpa using ho
      simp only [wpOps, ho']
      obtain ⟨W1, vals, hw, he, hv, hp, hq⟩ := hC.ex
      obtain ⟨o2, ho2, hcl2⟩ := cloud.at' (fl := fl) (fun j hj => by rw [Nat.zero_add]) (fun j hj => by rw [Nat.zero_add]) hik
      rw [ho] at ho2
      injection ho2 with ho2
      subst ho2
      simp only [Nat.zero_add] at hcl2
      obtain ⟨d, hd, hde, hdd⟩ := F.dst i hik
      have hdn : d < n := by
        have : ∀ (l : List Oper) (i : Nat), opsOk n l = true → dstAt l i = some d → d < n := by
          intro l
          induction l with
          | nil => intro i _ h; simp [dstAt] at h
          | cons x l ih2 =>
            intro i hx h
            cases i with
            | zero =>
              simp only [dstAt] at h
              simp only [opsOk, h] at hx
              split at hx
              · rename_i hb; simpa using hb
              · cases hx
            | succ i => exact ih2 i (JO.unok hx) (by simpa [dstAt] using h)
        exact this L i F.ok hd
      have hdk : ∀ j ∈ depsD o, j < sp.length := fun j hj => by
        exact (F.rank i hik j (by rw [hdi]; exact hj)).1
      have hJ := WithD.use vals (depsD o) (fun j hj => (hv j (hdk j hj) (hdep j hj)).1) (hcl2 W1 ⟨he.toLeK⟩ he (allEnv a.tmps n))
      generalize hE : ((depsD o).reverse.map fun j => (dstD L j, vals j)) ++ (env ++ allEnv a.tmps n) = E at hJ
      have hRel : Rel n E a := by
        refine ⟨hC.defers, hC.size, fun t v ht => ?_⟩
        rw [← hE, look_append] at ht
        cases hl : look ((depsD o).reverse.map fun j => (dstD L j, vals j)) t with
        | some u =>
          rw [hl] at ht
          injection ht with ht
          rw [← ht]
          have key : ∀ js : List Nat, (∀ j ∈ js, j ∈ depsD o) → look (js.map fun j => (dstD L j, vals j)) t = some u → a.tmps.getD t undef = u := by
            intro js
            induction js with
            | nil => intro _ hu; simp [look] at hu
            | cons j js ih2 =>
              intro hj hu
              simp only [List.map_cons] at hu
              rw [look_cons] at hu
              have hj1 := hj j (List.mem_cons_self ..)
              by_cases hts : t = dstD L j
              · rw [if_pos hts] at hu
                injection hu with hu
                rw [hts, (hv j (hdk j hj1) (hdep j hj1)).2.2, hu]
              · rw [if_neg hts] at hu
                exact ih2 (fun x hx => hj x (List.mem_cons_of_mem _ hx)) hu
          exact key _ (fun j hj => List.mem_reverse.1 hj) hl
        | none =>
          rw [hl] at ht
          simp only [look_append] at ht
          cases hl2 : look env t with
          | some u =>
            rw [hl2] at ht
            injection ht with ht
            rw [← ht]
            exact hC.env t u hl2
          | none =>
            rw [hl2] at ht
            simp only [look_allEnv] at ht
            split at ht
            · injection ht
            · cases ht
      have hfull : ∀ t, t < n → ∃ u, look E t = some u := by
        intro t htn
        rw [← hE, look_append, look_append, look_allEnv, if_pos htn]
        split
        · exact ⟨_, rfl⟩
        · split
          · exact ⟨_, rfl⟩
          · exact ⟨_, rfl⟩
      have hoks : opsOk n [o] = true := by
        have hod : o.dst = some d := by
          have := dstAt_eq L i
          rw [hd, ho] at this
          simpa using this.symm
        simp only [opsOk, hod]
        have : Nat.blt d n = true := by simpa using hdn
        rw [this]
      have hrun := hJ hoks a hRel
      rw [hw] at hrun
      -- what the operation leaves serves the rest
      have hnext : ∀ a' w', DStopF (flD fl i) n E W1 (dstD L i) (spD sp i) a' w' → wpOps P L.toArray (Done P fin K) (Region.linearise.go .any L.toArray f (t / (rdy L ls).length) (ls.setIfInBounds i true) []) a' w' := by
        rintro a' w' hst
        obtain ⟨W2, v, hw2, he2, hr2, hok2, hm2, hnew⟩ := hst.get
        rw [dstD_of hd] at hr2
        have hsame : ∀ t, t ≠ d → a'.tmps.getD t undef = a.tmps.getD t undef := by
          intro t htd
          by_cases htn : t < n
          · obtain ⟨u, hu⟩ := hfull t htn
            rw [hRel.has t u hu]
            exact hr2.has t u (by rw [look_cons, if_neg htd]; exact hu)
          · have h1 : ¬ t < a.tmps.size := by rw [hC.size]; exact htn
            have h2 : ¬ t < a'.tmps.size := by rw [hr2.size]; exact htn
            simp [Array.getD, h1, h2]
        have hisz : i < ls.size := by omega
        have hset : ∀ j, (ls.setIfInBounds i true).getD j false = if j = i then true else ls.getD j false := by
          intro j
          by_cases hji : j = i
          · subst hji; simp [Array.getD, hisz]
          · rw [if_neg hji]
            by_cases hjs : j < ls.size
            · simp [Array.getD, hjs, Array.getElem_setIfInBounds, Ne.symm hji]
            · simp [Array.getD, hjs]
        refine ih _ _ a' w' (by simpa using hs) (fun j hj => by rw [hset, if_neg (by omega)]; exact hb j hj) (fun x hx hlx j hj => ?_) ?_ ⟨⟨W2, fun j => if j = i then v else vals j, hw2, he.trans he2, fun j hj hlj => ?_, fun j hj hlj hfj => ?_, fun x y hx hy hlx hly hfx hfy hxy => ?_⟩, hr2.defers, hr2.size, fun t u ht => ?_⟩
        · rw [hset] at hlx ⊢
          by_cases hji : j = i
          · rw [if_pos hji]
          · rw [if_neg hji]
            by_cases hxi : x = i
            · subst hxi
              exact hdep j (by rw [← hdi]; exact hj)
            · rw [if_neg hxi] at hlx
              exact hcl x hx hlx j hj
        · have hlt2 : (List.range L.length).countP (fun j => !(ls.setIfInBounds i true).getD j false) < (List.range L.length).countP (fun j => !ls.getD j false) :=
            countP_lt (List.mem_range.2 hil) (by simp [hli]) (by simp [hset]) (fun j hj => by
              rw [hset] at hj
              by_cases hji : j = i
              · rw [if_pos hji] at hj; cases hj
              · rw [if_neg hji] at hj; exact hj)
          have hge : (List.range L.length).countP (fun j => !ls.getD j false) ≤ (List.range L.length).countP (fun j => !(ls.setIfInBounds i true).getD j false) + 1 := by
            have : ∀ l : List Nat, l.Nodup → l.countP (fun j => !ls.getD j false) ≤ l.countP (fun j => !(ls.setIfInBounds i true).getD j false) + (if i ∈ l then 1 else 0) := by
              intro l
              induction l with
              | nil => intro _; simp
              | cons x l ih2 =>
                intro hnd
                have hnd2 := List.nodup_cons.1 hnd
                have := ih2 hnd2.2
                rw [List.countP_cons, List.countP_cons]
                by_cases hxi : x = i
                · subst hxi
                  rw [if_neg hnd2.1] at this
                  have e1 : (!ls.getD x false) = true := by rw [hli]; rfl
                  have e2 : (!(ls.setIfInBounds x true).getD x false) = false := by rw [hset, if_pos rfl]; rfl
                  rw [e1, e2, if_pos rfl, if_neg (by simp), if_pos (List.mem_cons_self ..)]
                  omega
                · have e : (!(ls.setIfInBounds i true).getD x false) = !ls.getD x false := by rw [hset, if_neg hxi]
                  rw [e]
                  have hm : (i ∈ x :: l) ↔ i ∈ l := by simp [Ne.symm hxi]
                  by_cases hil2 : i ∈ l
                  · rw [if_pos (hm.2 hil2)]; rw [if_pos hil2] at this; omega
                  · rw [if_neg (fun h => hil2 (hm.1 h))]; rw [if_neg hil2] at this; omega
            have := this (List.range L.length) List.nodup_range
            rw [if_pos (List.mem_range.2 hil)] at this
            exact this
          omega
        · by_cases hji : j = i
          · subst hji
            refine ⟨by simpa using hok2, hm2, ?_⟩
            rw [dstD_of hd]
            simpa using hr2.has d v (by rw [look_cons, if_pos rfl])
          · simp only [hset, if_neg hji] at hlj
            obtain ⟨g1, g2, g3⟩ := hv j hj hlj
            refine ⟨by simpa [hji] using Sp.up g2 he2 g1, g2, ?_⟩
            have hne : dstD L j ≠ d := by
              obtain ⟨dj, hdj, _, hjj⟩ := F.dst j hj
              rw [dstD_of hdj]
              by_cases hlt3 : j < i
              · obtain ⟨e, hee, hne⟩ := hdd j hlt3
                rw [hdj] at hee; injection hee with hee; rw [hee]; exact fun h => hne h.symm
              · obtain ⟨e, hee, hne⟩ := hjj i (by omega)
                rw [hd] at hee; injection hee with hee; rw [hee]; exact hne
            rw [hsame _ hne, g3]
            simp [hji]
        · by_cases hji : j = i
          · subst hji
            obtain ⟨b, hb1, hb2, hb3⟩ := hnew hfj
            exact ⟨b, by simpa using hb1, hb3⟩
          · simp only [hset, if_neg hji] at hlj
            obtain ⟨b, hb1, hb2⟩ := hp j hj hlj hfj
            exact ⟨b, by simpa [hji] using hb1, Nat.lt_of_lt_of_le hb2 he2.size⟩
        · by_cases hxi : x = i
          · subst hxi
            have hyx : y ≠ x := fun e => hxy e.symm
            simp only [hset, if_neg hyx] at hly
            obtain ⟨b, hb1, hb2, hb3⟩ := hnew hfx
            obtain ⟨b', hb1', hb2'⟩ := hp y hy hly hfy
            simp only [if_neg hyx, if_true]
            rw [hb1, hb1']
            intro e
            injection e with e; injection e with e; injection e with e
            omega
          · simp only [hset, if_neg hxi] at hlx
            by_cases hyi : y = i
            · subst hyi
              obtain ⟨b, hb1, hb2, hb3⟩ := hnew hfy
              obtain ⟨b', hb1', hb2'⟩ := hp x hx hlx hfx
              simp only [if_neg hxi, if_true]
              rw [hb1, hb1']
              intro e
              injection e with e; injection e with e; injection e with e
              omega
            · simp only [hset, if_neg hyi] at hly
              simp only [if_neg hxi, if_neg hyi]
              exact hq x y hx hy hlx hly hfx hfy hxy
        · have htd : t ≠ d := by
            intro h; subst h; rw [hde] at ht; cases ht
          rw [hsame t htd]
          exact hC.env t u ht
      simp only [wpL] at hrun
      split
      · rename_i hwant
        rw [if_pos hwant] at hrun
        exact .inl (Oper.wp_mono2 (fun a' w' h => hnext a' w' h) (fun e a' w' hne h => by cases e <;> first | exact absurd rfl hne | exact h) hrun)
      · rename_i hwant
        rw [if_neg hwant] at hrun
        exact hnext _ _ hrun

theorem J.drawN [mx : Mx P] {id : Nat} {L : List Oper} (sp : List Sp) (fl : List Bool) (rk : List Nat) (hchk : cloudOkR n env L rk sp.length = true) (hk : Nat.ble sp.length L.length = true) (cloud : CloudHN P n L K fin sp env W 0 L sp fl)
    (tail : ∀ W1, Lk1 W W1 → Ext W W1 → WithN L sp fl W1 (List.range sp.length) [] env fun E => JO P n L.toArray (L.drop sp.length) K fin E W1) : J P n (.c (.region id L.toArray true) :: K) fin env W := by
  intro a ha
  refine wp_region_draw fun t => ?_
  have hs : Region.schedule (P.follows .mixedOrders) L.toArray t = Region.linearise.go .any L.toArray L.length t (Array.replicate L.length false) [] := by
    rw [mx.h]
    simp [Region.schedule, Region.linearise]
  rw [hs]
  have hf : ∀ i, (Array.replicate L.length false).getD i false = false := by
    intro i
    by_cases h : i < L.length <;> simp [Array.getD, h]
  refine draw_coreN (cloudG (Nat.le_of_ble_eq_true hk) hchk) (Nat.le_of_ble_eq_true hk) cloud (fun W1 e => tail W1 ⟨e.toLeK⟩ e) L.length t _ a W.tick.w (by simp) (fun i _ => hf i) (fun i _ h => by rw [hf] at h; cases h) ?_
    ⟨⟨W.tick, fun _ => undef, rfl, tick_ext W, (fun i _ h => by rw [hf] at h; cases h), (fun i _ h => by rw [hf] at h; cases h), (fun i j _ _ h => by rw [hf] at h; cases h)⟩, ha.defers, ha.size, ha.has⟩
  have := cnt_range 0 L.length (fun i => !(Array.replicate L.length false).getD i false) (fun j hj => by omega) (fun j _ => by rw [hf]; rfl)
  rw [this]; rfl
end
section
variable {P : Program} {n : Nat} {ops : Array Oper} {K : List Kt} {fin : Exit → Act → World → Prop} {env : Env} {W : GW} {d : Nat} {ty : TypeId} {pos : String} {aft : Array Edge}
theorem O.allocN {T sz lo : Nat} {ag : Bool} {z : List Value} [i : TVar P T sz ag z] (hz : z.length = sz) (hlo : lo ≤ W.size) :
    JO P n ops [⟨some d, .alloc T, ty, pos, aft, none⟩] (.l (DStopN n env W d (.rel (PLoc sz lo))) :: K) fin env W :=
  O.allocE fun W5 b5 i5 e5 hl5 hc5 hb5 => JO.nil fun a ha => ⟨W5, _, rfl, e5, ha, ⟨b5, rfl, by rw [← hz]; exact hl5, Nat.le_trans hlo hb5⟩, PLoc.me, b5, rfl, hb5, hc5.lt⟩
end
end Go.Rx

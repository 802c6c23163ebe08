/- The rules of the walk: slices that are read, calls, entry and return. -/
import Derived.Test.YtcobdnnfmhfenaaGreatRw
set_option linter.unusedVariables false
set_option linter.unusedSimpArgs false
namespace Go.Rx
open Go

section
variable {P : Program} {n : Nat} {ops : Array Oper} {l : List Oper} {K : List Kt} {fin : Exit → Act → World → Prop} {env : Env} {W : GW}
variable {d d2 : Nat} {ty ty2 : TypeId} {pos pos2 : String} {aft aft2 : Array Edge}

theorem V.rw {v : Value} {x : Nat} (h : V RW W v x) : v = .int .u32 (x : Int) ∧ x < 4294967296 := by
  obtain ⟨cs, ⟨h1, h2⟩, h3⟩ := h
  subst h1
  exact ⟨h3, h2⟩
theorem rwv (x : Nat) (h : x < 4294967296) : V RW W (.int .u32 (x : Int)) x := ⟨_, ⟨rfl, h⟩, rfl⟩
theorem Sl.lt {α : Type} {r : Rep α} {p : Option Addr} {m c : Nat} {xs : List α} (h : Sl r W p m c xs) {j : Nat} {x : α} (hj : xs[j]? = some x) : j < m := by
  rw [h.hn]
  by_cases h : j < xs.length
  · exact h
  · rw [List.getElem?_eq_none (by omega)] at hj; cases hj

/-- x[j]: the address alone -/
theorem O.iaS {α : Type} {r : Rep α} {T E sz by' : Nat} {z : List Value} {x y : Operand} {p : Option Addr} {m c j : Nat} {k' : IntKind} {jj : Int} {xs : List α} {u : α} [i : TSl P T E sz by' z]
    (hx : get env x = some (.slice p m c)) (hy : get env y = some (.int k' jj)) (hjj : jj = (j : Int)) (hs : Sl r W p m c xs) (hj : xs[j]? = some u) (hr : r.size = sz)
    (k : ∀ b off cs, r.At W cs u → (∀ i v, cs[i]? = some v → W.w.cell? ⟨b, off + i, none⟩ = some v) → JO P n ops l K fin ((d, .pointer (some ⟨b, off, none⟩)) :: env) W) :
    JO P n ops (⟨some d, .indexAddr T x y, ty, pos, aft, none⟩ :: l) K fin env W := by
  obtain ⟨b, off, cs, hp, hc, hv⟩ := hs.cells hj
  subst hp
  subst hjj
  refine O.ia hx hy rfl (hs.lt hj) (k b (off + j * sz) cs hc fun i v hi => ?_)
  rw [Nat.add_assoc, ← hr]
  exact hv i v hi
/-- x[j] -/
theorem O.ix {α : Type} {r : Rep α} {T E sz by' : Nat} {z z' : List Value} {ag : Bool} {x y : Operand} {p : Option Addr} {m c j : Nat} {k' : IntKind} {jj : Int} {xs : List α} {u : α} [i : TSl P T E sz by' z] [i2 : TVar P E sz ag z']
    (hx : get env x = some (.slice p m c)) (hy : get env y = some (.int k' jj)) (hjj : jj = (j : Int)) (hs : Sl r W p m c xs) (hj : xs[j]? = some u) (hr : r.size = sz) (hg : r.agg = ag) (h1 : ag = false → sz = 1)
    (k : ∀ a v, V r W v u → JO P n ops l K fin ((d2, v) :: (d, .pointer (some a)) :: env) W) :
    JO P n ops (⟨some d, .indexAddr T x y, ty, pos, aft, none⟩ :: ⟨some d2, .load E (.tmp d), ty2, pos2, aft2, none⟩ :: l) K fin env W := by
  refine O.iaS hx hy hjj hs hj hr fun b off cs hc hv => ?_
  exact O.ld (i := i2) (b := b) (off := off) (cs := cs) (by simp [get, look_cons]) (by rw [r.len hc, hr]) hv h1 (k _ _ ⟨cs, hc, by rw [hg]⟩)
theorem O.ixW {T E by' : Nat} {z z' : List Value} {x y : Operand} {p : Option Addr} {m c j : Nat} {k' : IntKind} {jj : Int} {xs : List Nat} {u : Nat} [i : TSl P T E 1 by' z] [i2 : TVar P E 1 false z']
    (hx : get env x = some (.slice p m c)) (hy : get env y = some (.int k' jj)) (hjj : jj = (j : Int)) (hs : Sl RW W p m c xs) (hj : xs[j]? = some u)
    (k : ∀ a, JO P n ops l K fin ((d2, .int .u32 (u : Int)) :: (d, .pointer (some a)) :: env) W) :
    JO P n ops (⟨some d, .indexAddr T x y, ty, pos, aft, none⟩ :: ⟨some d2, .load E (.tmp d), ty2, pos2, aft2, none⟩ :: l) K fin env W :=
  O.ix hx hy hjj hs hj rfl rfl (fun _ => rfl) fun a v hv => by rw [hv.rw.1]; exact k a

/-- the address of a word -/
theorem O.iaW {T E by' : Nat} {z : List Value} {x y : Operand} {p : Option Addr} {m c j : Nat} {k' : IntKind} {jj : Int} {xs : List Nat} {u : Nat} [i : TSl P T E 1 by' z]
    (hx : get env x = some (.slice p m c)) (hy : get env y = some (.int k' jj)) (hjj : jj = (j : Int)) (hs : Sl RW W p m c xs) (hj : xs[j]? = some u)
    (k : ∀ b off, W.w.cell? ⟨b, off, none⟩ = some (.int .u32 (u : Int)) → JO P n ops l K fin ((d, .pointer (some ⟨b, off, none⟩)) :: env) W) :
    JO P n ops (⟨some d, .indexAddr T x y, ty, pos, aft, none⟩ :: l) K fin env W :=
  O.iaS hx hy hjj hs hj rfl fun b off cs hc hv => k b off (by have := hv 0 (.int .u32 (u : Int)) (by rw [hc.1]; rfl); simpa using this)
/-- the place of a word, once for all -/
theorem Sl.word {p : Option Addr} {m c j : Nat} {xs : List Nat} {u : Nat} (hs : Sl RW W p m c xs) (hj : xs[j]? = some u) :
    ∃ b off, p = some ⟨b, off, none⟩ ∧ j < m ∧ ∀ W' : GW, LeF W W' → W'.w.cell? ⟨b, off + j * 1, none⟩ = some (.int .u32 (u : Int)) := by
  obtain ⟨b, off, cs, hp, hc, hv⟩ := hs.cells hj
  refine ⟨b, off, hp, hs.lt hj, fun W' l => ?_⟩
  obtain ⟨b', off', cs', hp', hc', hv'⟩ := (hs.mono l).cells hj
  rw [hp] at hp'
  injection hp' with hp'
  injection hp' with h1 h2 _
  subst h1; subst h2
  exact hv' 0 (.int .u32 (u : Int)) (by rw [hc'.1]; rfl)
theorem Sl.take {α : Type} {r : Rep α} {p : Option Addr} {m c : Nat} {xs : List α} (h : Sl r W p m c xs) (k : Nat) (hk : k ≤ m) : Sl r W p k c (xs.take k) := by
  refine ⟨by rw [List.length_take, ← h.hn]; omega, Nat.le_trans hk h.hc, h.hC, ?_⟩
  have := SlAt.sub h.at' 0 k p (fun b off hp _ => by rw [hp, Nat.zero_mul, Nat.add_zero])
  simpa using this
theorem Sl.drop {α : Type} {r : Rep α} {p : Option Addr} {m c : Nat} {xs : List α} (h : Sl r W p m c xs) (k : Nat) (hk : k ≤ m) :
    Sl r W (if c = k then p else p.map (·.add (k * r.size))) (m - k) (c - k) (xs.drop k) := by
  have hc := h.hc
  have hn := h.hn
  refine ⟨by rw [List.length_drop, ← hn], by omega, by have := h.hC; omega, ?_⟩
  have := SlAt.sub h.at' k (m - k) (if c = k then p else p.map (·.add (k * r.size))) (fun b off hp hl => by
    rw [if_neg (by omega), hp]
    show some (Addr.add _ _) = _
    rw [add0])
  rwa [List.take_of_length_le (by rw [List.length_drop]; omega)] at this

/-! calls -/
/-- The call of f returns what R says. -/
def Ok (P : Program) (f : FuncId) (vs : List Value) (W : GW) (R : GW → Value → Prop) : Prop :=
  (∃ fn, P.funcs[f]? = some fn ∧ (fn.name == "runtime.NumGoroutine") = false ∧ fn.body.isSome = true) ∧
  Calls P f vs.toArray W.w fun e w' => ∃ W' v, e = .returned v ∧ W'.w = w' ∧ Ext W W' ∧ R W' v

theorem Ok.mono {f : FuncId} {vs : List Value} {R R' : GW → Value → Prop} (h : Ok P f vs W R) (hr : ∀ W' v, Ext W W' → R W' v → R' W' v) : Ok P f vs W R' :=
  ⟨h.1, h.2.mono fun e w' ⟨W', v, h1, h2, h3, h4⟩ => ⟨W', v, h1, h2, h3, hr W' v h3 h4⟩⟩

theorem O.callv {f : FuncId} {g : Operand} {args : List Operand} {tys : Array TypeId} {vs : List Value} {fs cap : Array Value} {R : GW → Value → Prop} (hg : get env g = some (.func (.func f) fs cap)) (hx : getL env args = some vs)
    (hc : Ok P f (fs.toList ++ vs ++ cap.toList) W R)
    (k : ∀ W' v, Lk1 W W' → Ext W W' → R W' v → JO P n ops l K fin ((d, v) :: env) W') : JO P n ops (⟨some d, .call ⟨.value g, args.toArray, tys⟩, ty, pos, aft, none⟩ :: l) K fin env W := by
  obtain ⟨⟨fn, h1, h2, h3⟩, hcl⟩ := hc
  intro hok a ha
  have hw : Region.wanted ⟨some d, .call ⟨.value g, args.toArray, tys⟩, ty, pos, aft, none⟩ (yielded ops a.tmps) = true := rfl
  simp only [wpL, hw, if_true]
  have hargs := ha.getL hx
  have hr : (execOp a.eval ⟨some d, .call ⟨.value g, args.toArray, tys⟩, ty, pos, aft, none⟩).run P W.w = .ok (.enter f (fs.toList ++ vs ++ cap.toList).toArray) W.w := by
    have hb : fn.body.isNone = false := by cases hh : fn.body <;> simp_all
    have ea : args.toArray.map a.eval = vs.toArray := by simpa using hargs
    simp only [execOp, resolve, ea, ha.get hg, Deferred.ofValue]
    simp [invoke, callFunc, program, bind, Sem.bind, Sem.run, pure, h1, hb]
    have h2' : ¬ fn.name = "runtime.NumGoroutine" := by simpa using h2
    simp only [h2', if_false]
    have hb' : ¬ fn.body = none := fun h => by rw [h] at h3; cases h3
    rw [if_neg hb']
    congr 2
    apply Array.ext'
    simp
  unfold Oper.wp
  rw [hr, Oper.upon_enter]
  refine hcl.mono ?_
  rintro e w' ⟨W', v, rfl, hW, hE, hR⟩
  rw [← hW]
  exact k W' v ⟨hE.toLeK⟩ hE hR (JO.unok hok) _ (ha.put (JO.dst hok) v)
theorem O.call {f : FuncId} {args : List Operand} {tys : Array TypeId} {vs : List Value} {R : GW → Value → Prop} (hx : getL env args = some vs) (hc : Ok P f vs W R)
    (k : ∀ W' v, Lk1 W W' → Ext W W' → R W' v → JO P n ops l K fin ((d, v) :: env) W') : JO P n ops (⟨some d, .call ⟨.value (.func f), args.toArray, tys⟩, ty, pos, aft, none⟩ :: l) K fin env W :=
  O.callv (fs := #[]) (cap := #[]) rfl hx (by simpa using hc) k

/-! entry and return -/
def Fin (P : Program) (fn : Func) (W0 : GW) (R : GW → Value → Prop) : Exit → Act → World → Prop :=
  bodyPost P fn (fun e w' => ∃ W' v, e = .returned v ∧ W'.w = w' ∧ Ext W0 W' ∧ R W' v)

def argEnv : Nat → List Value → Env
  | _, [] => []
  | i, v :: vs => (i, v) :: argEnv (i + 1) vs

theorem look_argEnv (i : Nat) (vs : List Value) (t : Nat) : look (argEnv i vs) t = if i ≤ t then vs[t - i]? else none := by
  induction vs generalizing i with
  | nil => simp [argEnv, look]
  | cons v vs ih =>
    simp only [argEnv]
    rw [look_cons, ih (i + 1)]
    by_cases h : t = i
    · subst h; simp
    · rw [if_neg h]
      by_cases h2 : i + 1 ≤ t
      · rw [if_pos h2, if_pos (by omega), show t - i = (t - (i + 1)) + 1 from by omega]; simp
      · rw [if_neg h2, if_neg (by omega)]

theorem Ok.enter {f N : Nat} {fn : Func} {c : Code} {vs : List Value} {R : GW → Value → Prop} (hf : P.funcs[f]? = some fn) (hname : (fn.name == "runtime.NumGoroutine") = false) (hb : fn.body = some c)
    (hN : fn.ntmps = N) (hl : Nat.ble vs.length N = true) (h : ∀ W1, En W W1 → J P N [.c c] (Fin P fn W R) (argEnv 0 vs) W1) : Ok P f vs W R := by
  refine ⟨⟨fn, hf, hname, by rw [hb]; rfl⟩, calls_of_wp hf hb ?_⟩
  let W1 : GW := { w := W.w, A := W.A, m := W.size, hA := W.hA, hm := Nat.le_refl _ }
  have hl' : vs.length ≤ N := Nat.le_of_ble_eq_true hl
  have := h W1 ⟨rfl, rfl, rfl⟩ { tmps := vs.toArray ++ Array.replicate (fn.ntmps - vs.toArray.size) undef, defers := [] } ⟨rfl, by simp [hN]; omega, fun t v ht => ?_⟩
  · refine wp_mono this ?_
    intro e a w h
    cases e <;> exact h
  · rw [look_argEnv] at ht
    simp at ht
    have hlt : t < vs.length := by
      by_cases h : t < vs.length
      · exact h
      · rw [List.getElem?_eq_none (by omega)] at ht; cases ht
    rw [List.getElem?_eq_getElem hlt] at ht
    injection ht with ht
    simp only [Array.getD]
    rw [dif_pos (by simp; omega)]
    simp [Array.getElem_append_left, hlt, ht]

/-- one result -/
inductive ResAt (P : Program) (env : Env) (W : GW) : ResultVar → Value → Prop where
  | tmp {t : Nat} {v : Value} (h : look env t = some v) : ResAt P env W (.tmp t) v
  | cell {t T sz b : Nat} {z cs : List Value} [i : TVar P T sz true z] (h : look env t = some (.pointer (some ⟨b, 0, none⟩))) (hc : Cnt W b cs) (hs : cs.length = sz) : ResAt P env W (.cell t T) (.agg cs.toArray)

def exitP (W0 W : GW) (h : W0.size ≤ W.size) : GW where
  w := W.w
  A := W0.A
  m := W0.m
  hA := fun k hk => Nat.lt_of_lt_of_le (W0.hA k hk) h
  hm := Nat.le_trans W0.hm h
def exitO (W0 W : GW) (h : W0.size ≤ W.size) : GW where
  w := W.w
  A := W.A
  m := W0.m
  hA := W.hA
  hm := Nat.le_trans W0.hm h

theorem out_le {W0 W1 : GW} (i : En W0 W1) (j : LeS W1 W) : W0.size ≤ W.size ∧ W.m = W0.size ∧ (∀ k, k < W0.size → W.w.heap[k]? = W0.w.heap[k]?) ∧ (∀ k, k < W0.size → k ∈ W0.A → k ∈ W.A) ∧ (∀ k, k < W0.size → k ∉ W0.A → k ∉ W.A) := by
  have hs : W1.size = W0.size := by rw [GW.size, GW.size, i.w]
  have hm := i.m
  refine ⟨by rw [← hs]; exact j.size, by rw [j.m, hm], fun k hk => ?_, fun k hk hA => ?_, fun k hk hA => ?_⟩
  · rw [j.same k (by omega) (.inl (by omega)), i.w]
  · exact j.prot k (by omega) (by rw [i.A]; exact hA)
  · exact j.stay k (by omega) (by rw [i.A]; exact hA)

theorem exitP_ext {W0 W1 : GW} (i : En W0 W1) (j : LeS W1 W) : Ext W0 (exitP W0 W (out_le i j).1) where
  os := j.os.trans (by rw [i.w])
  out := j.out.trans (by rw [i.w])
  tape := j.tape.trans (by rw [i.w])
  m := rfl
  size := (out_le i j).1
  same := fun k hk _ => (out_le i j).2.2.1 k hk
  stay := fun _ _ h => h
  prot := fun _ _ h => h
  keep := fun _ h => h
  row := fun k c T fr hc => ⟨c, by rw [← hc]; exact (out_le i j).2.2.1 k (lt_of_heap hc), rfl⟩
  all := (out_le i j).2.2.1
theorem exitO_ext {W0 W1 : GW} (i : En W0 W1) (j : LeS W1 W) : Ext W0 (exitO W0 W (out_le i j).1) where
  os := j.os.trans (by rw [i.w])
  out := j.out.trans (by rw [i.w])
  tape := j.tape.trans (by rw [i.w])
  m := rfl
  size := (out_le i j).1
  same := fun k hk _ => (out_le i j).2.2.1 k hk
  stay := fun k hk h => (out_le i j).2.2.2.2 k hk h
  prot := fun k hk h => (out_le i j).2.2.2.1 k (Nat.lt_of_lt_of_le hk W0.hm) h
  keep := fun k h => (out_le i j).2.2.2.1 k (W0.hA k h) h
  row := fun k c T fr hc => ⟨c, by rw [← hc]; exact (out_le i j).2.2.1 k (lt_of_heap hc), rfl⟩
  all := (out_le i j).2.2.1

def resOne (tmps : Array Value) : ResultVar → Sem Value
  | .tmp t => pure (tmps.getD t undef)
  | .cell a t => do loadVar t (← asAddr (tmps.getD a undef))
theorem resAt_run {env : Env} {rv : ResultVar} {v : Value} {a : Act} {n : Nat} (ha : Rel n env a) (h : ResAt P env W rv v) :
    (resOne a.tmps rv).run P W.w = .ok v W.w := by
  cases h with
  | tmp h => simp only [resOne]; rw [ha.has _ _ h]; rfl
  | @cell t T sz b z cs i h hc hs =>
    simp only [resOne, ha.has _ _ h, asAddr]
    rw [Sem.run_bind]
    show Result.andThen (Result.ok _ _) _ = _
    simp only [Result.andThen_ok]
    obtain ⟨t', u1, u2⟩ := i.u
    obtain ⟨ii, v, e1, e2, e3⟩ := i.i
    have hcells := run_loadCells (P := P) (b := b) (off := 0) (w := W.w) cs 0 #[] (fun j v hj => by rw [hc.cell]; simpa using hj)
    have hsz : (sizeOf T).run P W.w = .ok sz W.w := by simp [sizeOf, typeInfo, program, bind, Sem.bind, Sem.run, pure, e1, e2]
    have hag : (isAgg T).run P W.w = .ok true W.w := by
      cases t' <;> simp [isAgg, underlying, program, bind, Sem.bind, Sem.run, pure, u1] at u2 ⊢
    unfold loadVar
    rw [Sem.run_bind, hag]
    subst hs
    simp only [Result.andThen_ok, if_true]
    rw [Sem.run_bind, hsz]
    simp only [Result.andThen_ok]
    rw [Sem.run_bind]
    simp only [loadCells]
    rw [hcells]
    simp

theorem results1 {fn : Func} {r1 : ResultVar} {v1 : Value} {a : Act} (ha : Rel n env a) (hres : fn.results = #[r1]) (h1 : ResAt P env W r1 v1) : (results fn a.tmps).run P W.w = .ok v1 W.w := by
  have e1 := resAt_run ha h1
  unfold results
  rw [hres, Sem.run_bind]
  simp only [List.mapM_toArray, List.mapM_cons, List.mapM_nil]
  rw [Sem.run_map, Sem.run_bind]
  erw [e1]
  simp
theorem results2 {fn : Func} {r1 r2 : ResultVar} {v1 v2 : Value} {a : Act} (ha : Rel n env a) (hres : fn.results = #[r1, r2]) (h1 : ResAt P env W r1 v1) (h2 : ResAt P env W r2 v2) :
    (results fn a.tmps).run P W.w = .ok (.tuple #[v1, v2]) W.w := by
  have e1 := resAt_run ha h1
  have e2 := resAt_run ha h2
  unfold results
  rw [hres, Sem.run_bind]
  simp only [List.mapM_toArray, List.mapM_cons, List.mapM_nil]
  rw [Sem.run_map, Sem.run_bind]
  erw [e1]
  simp only [Result.andThen_ok]
  rw [Sem.run_bind, Sem.run_bind]
  erw [e2]
  simp
theorem results3 {fn : Func} {r1 r2 r3 : ResultVar} {v1 v2 v3 : Value} {a : Act} (ha : Rel n env a) (hres : fn.results = #[r1, r2, r3]) (h1 : ResAt P env W r1 v1) (h2 : ResAt P env W r2 v2) (h3 : ResAt P env W r3 v3) :
    (results fn a.tmps).run P W.w = .ok (.tuple #[v1, v2, v3]) W.w := by
  have e1 := resAt_run ha h1
  have e2 := resAt_run ha h2
  have e3 := resAt_run ha h3
  unfold results
  rw [hres, Sem.run_bind]
  simp only [List.mapM_toArray, List.mapM_cons, List.mapM_nil]
  rw [Sem.run_map, Sem.run_bind]
  erw [e1]
  simp only [Result.andThen_ok]
  rw [Sem.run_bind, Sem.run_bind]
  erw [e2]
  simp only [Result.andThen_ok]
  rw [Sem.run_bind, Sem.run_bind]
  erw [e3]
  simp

theorem ret_p {fn : Func} {W0 W1 : GW} {R : GW → Value → Prop} {v : Value} {a : Act} (i : En W0 W1) (j : Le W1 W) (ha : Rel n env a) (hr : (results fn a.tmps).run P W.w = .ok v W.w)
    (h : ∀ W', Ex W W' → Pub W W' → R W' v) : Fin P fn W0 R .ret a W.w :=
  ⟨ha.defers, v, hr, exitP W0 W (out_le i j.s).1, v, rfl, rfl, exitP_ext i j.s,
    h _ ⟨rfl, fun k hk => (out_le i j.s).2.2.2.1 k (W0.hA k hk) hk, by have := (out_le i j.s).2.1; have hh : W0.m ≤ W0.size := W0.hm; show W0.m ≤ W.m; omega⟩ ⟨fun k hk => by rw [(out_le i j.s).2.1]; exact W0.hA k hk⟩⟩
theorem ret_o {fn : Func} {W0 W1 : GW} {R : GW → Value → Prop} {v : Value} {a : Act} (i : En W0 W1) (j : Le W1 W) (ha : Rel n env a) (hr : (results fn a.tmps).run P W.w = .ok v W.w)
    (h : ∀ W', Ex W W' → Own1 W W' → R W' v) : Fin P fn W0 R .ret a W.w :=
  ⟨ha.defers, v, hr, exitO W0 W (out_le i j.s).1, v, rfl, rfl, exitO_ext i j.s,
    h _ ⟨rfl, fun k hk => hk, by have := (out_le i j.s).2.1; have hh : W0.m ≤ W0.size := W0.hm; show W0.m ≤ W.m; omega⟩ ⟨rfl⟩⟩

theorem J.ret1 {fn : Func} {W0 W1 : GW} {R : GW → Value → Prop} {r1 : ResultVar} {v1 : Value} [i : En W0 W1] [j : Le W1 W] (hres : fn.results = #[r1]) (h1 : ResAt P env W r1 v1)
    (h : ∀ W', Ex W W' → Pub W W' → R W' v1) : J P n (.c .ret :: K) (Fin P fn W0 R) env W :=
  J.ret fun a ha => ret_p i j ha (results1 ha hres h1) h
theorem J.ret2 {fn : Func} {W0 W1 : GW} {R : GW → Value → Prop} {r1 r2 : ResultVar} {v1 v2 : Value} [i : En W0 W1] [j : Le W1 W] (hres : fn.results = #[r1, r2]) (h1 : ResAt P env W r1 v1) (h2 : ResAt P env W r2 v2)
    (h : ∀ W', Ex W W' → Pub W W' → R W' (.tuple #[v1, v2])) : J P n (.c .ret :: K) (Fin P fn W0 R) env W :=
  J.ret fun a ha => ret_p i j ha (results2 ha hres h1 h2) h
theorem J.ret3 {fn : Func} {W0 W1 : GW} {R : GW → Value → Prop} {r1 r2 r3 : ResultVar} {v1 v2 v3 : Value} [i : En W0 W1] [j : Le W1 W] (hres : fn.results = #[r1, r2, r3]) (h1 : ResAt P env W r1 v1) (h2 : ResAt P env W r2 v2) (h3 : ResAt P env W r3 v3)
    (h : ∀ W', Ex W W' → Pub W W' → R W' (.tuple #[v1, v2, v3])) : J P n (.c .ret :: K) (Fin P fn W0 R) env W :=
  J.ret fun a ha => ret_p i j ha (results3 ha hres h1 h2 h3) h
theorem J.ret1o {fn : Func} {W0 W1 : GW} {R : GW → Value → Prop} {r1 : ResultVar} {v1 : Value} [i : En W0 W1] [j : Le W1 W] (hres : fn.results = #[r1]) (h1 : ResAt P env W r1 v1)
    (h : ∀ W', Ex W W' → Own1 W W' → R W' v1) : J P n (.c .ret :: K) (Fin P fn W0 R) env W :=
  J.ret fun a ha => ret_o i j ha (results1 ha hres h1) h
theorem J.ret2o {fn : Func} {W0 W1 : GW} {R : GW → Value → Prop} {r1 r2 : ResultVar} {v1 v2 : Value} [i : En W0 W1] [j : Le W1 W] (hres : fn.results = #[r1, r2]) (h1 : ResAt P env W r1 v1) (h2 : ResAt P env W r2 v2)
    (h : ∀ W', Ex W W' → Own1 W W' → R W' (.tuple #[v1, v2])) : J P n (.c .ret :: K) (Fin P fn W0 R) env W :=
  J.ret fun a ha => ret_o i j ha (results2 ha hres h1 h2) h
end
end Go.Rx

/- The rules of the walk: memory, calls, entry and return. -/
import Derived.Test.YtcobdnnfmhfenaaGreatRz
set_option linter.unusedVariables false
set_option linter.unusedSimpArgs false
namespace Go.Rx
open Go
section

/-! ghost worlds after a new block, after a write -/
def GW.push (W : GW) (o : Obj) (lock : Bool) : GW where
  w := W.w.alloc o
  A := if lock then W.size :: W.A else W.A
  m := W.m
  hA := by
    intro k hk
    rw [World.size_alloc]
    cases lock with
    | true =>
      rcases List.mem_cons.1 hk with h | h
      · subst h; exact Nat.lt_succ_self _
      · exact Nat.lt_succ_of_lt (W.hA k h)
    | false => exact Nat.lt_succ_of_lt (W.hA k hk)
  hm := by rw [World.size_alloc]; exact Nat.le_succ_of_le W.hm

theorem heap_push (w : World) (o : Obj) (k : Nat) (h : k < w.heap.size) : (w.alloc o).heap[k]? = w.heap[k]? := by
  show (w.heap.push o)[k]? = _
  rw [Array.getElem?_push, if_neg (by omega)]
theorem heap_push_self (w : World) (o : Obj) : (w.alloc o).heap[w.heap.size]? = some o := by
  show (w.heap.push o)[w.heap.size]? = _
  rw [Array.getElem?_push, if_pos rfl]

theorem push_cells (W : GW) (c : Array Value) (T : TypeId) (lock : Bool) : (W.push (.cells c T) lock).w.heap[W.size]? = some (.cells c.toList.toArray T (0, 0)) := by
  rw [Array.toArray_toList]; exact heap_push_self ..
theorem GW.size_push (W : GW) (o : Obj) (b : Bool) : (W.push o b).size = W.size + 1 := World.size_alloc ..
theorem push_ext (W : GW) (o : Obj) (lock : Bool) : Ext W (W.push o lock) where
  os := rfl
  out := rfl
  tape := rfl
  m := rfl
  size := by rw [GW.size_push]; omega
  same := fun k hk _ => heap_push _ _ _ hk
  stay := fun k hk hn => by
    cases lock with
    | true => intro h; rcases List.mem_cons.1 h with h | h
              · exact absurd h (by have : k < W.w.heap.size := hk; omega)
              · exact hn h
    | false => exact hn
  prot := fun k _ hn => by
    cases lock with
    | true => exact List.mem_cons_of_mem _ hn
    | false => exact hn
  row := fun k c T fr hc => by
    have hk : k < W.w.heap.size := by
      by_cases h : k < W.w.heap.size
      · exact h
      · rw [Array.getElem?_eq_none (by omega)] at hc; cases hc
    exact ⟨c, by rw [← hc]; exact heap_push _ _ _ hk, rfl⟩
  keep := fun k hn => by
    cases lock with
    | true => exact List.mem_cons_of_mem _ hn
    | false => exact hn
  all := fun k hk => heap_push _ _ _ hk

/-- The world with another block. -/
def setB (w : World) (b : Nat) (o : Obj) : World := { w with heap := w.heap.setIfInBounds b o }
def GW.put (W : GW) (b : Nat) (o : Obj) : GW where
  w := setB W.w b o
  A := W.A
  m := W.m
  hA := fun k hk => by simpa [setB] using W.hA k hk
  hm := by simpa [setB] using W.hm
theorem GW.size_put (W : GW) (b : Nat) (o : Obj) : (W.put b o).size = W.size := by simp [GW.size, GW.put, setB]
theorem heap_put (w : World) (b : Nat) (o : Obj) (k : Nat) (h : k ≠ b) : (setB w b o).heap[k]? = w.heap[k]? := by
  simp only [setB, Array.getElem?_setIfInBounds]
  rw [if_neg (fun e => h e.symm)]
theorem heap_put_self (w : World) (b : Nat) (o : Obj) (h : b < w.heap.size) : (setB w b o).heap[b]? = some o := by
  simp only [setB, Array.getElem?_setIfInBounds, if_true, h]
theorem lt_of_heap {w : World} {b : Nat} {o : Obj} (h : w.heap[b]? = some o) : b < w.heap.size := by
  by_cases hb : b < w.heap.size
  · exact hb
  · rw [Array.getElem?_eq_none (by omega)] at h; cases h

/-! facts on blocks -/
/-- A variable that is written no more. -/
structure Blk (W : GW) (b : Nat) (cs : List Value) : Prop where
  nA : b ∉ W.A
  h : ∃ T fr, W.w.heap[b]? = some (.cells cs.toArray T fr)
theorem Blk.mono {W W' : GW} {b : Nat} {cs : List Value} (h : Blk W b cs) (l : LeF W W') : Blk W' b cs := by
  obtain ⟨T, fr, hb⟩ := h.h
  exact ⟨l.stay b (lt_of_heap hb) h.nA, T, fr, by rw [l.same b (lt_of_heap hb) h.nA]; exact hb⟩
theorem Blk.to {W W' : GW} {b : Nat} {cs : List Value} (h : Blk W b cs) [l : Lf W W'] : Blk W' b cs := h.mono l.s
theorem cell_of {w : World} {b : Nat} {cs : List Value} {T : TypeId} {fr : Nat × Nat} (h : w.heap[b]? = some (.cells cs.toArray T fr)) (i : Nat) : w.cell? ⟨b, i, none⟩ = cs[i]? := by
  simp [World.cell?, h]
theorem Blk.cell {W : GW} {b : Nat} {cs : List Value} (h : Blk W b cs) (i : Nat) : W.w.cell? ⟨b, i, none⟩ = cs[i]? := by
  obtain ⟨T, fr, hb⟩ := h.h
  exact cell_of hb i

/-- What a block holds just now. -/
def Cnt (W : GW) (b : Nat) (cs : List Value) : Prop := ∃ T, W.w.heap[b]? = some (.cells cs.toArray T (0, 0))
theorem Cnt.cell {W : GW} {b : Nat} {cs : List Value} (h : Cnt W b cs) (i : Nat) : W.w.cell? ⟨b, i, none⟩ = cs[i]? := by
  obtain ⟨T, hb⟩ := h
  exact cell_of hb i
theorem Cnt.ext {W W' : GW} {b : Nat} {cs : List Value} (h : Cnt W b cs) (e : Ext W W') : Cnt W' b cs := by
  obtain ⟨T, hb⟩ := h
  exact ⟨T, by rw [e.all b (lt_of_heap hb)]; exact hb⟩
/-- A variable of sz cells that the function may write. -/
structure Loc (W : GW) (b sz : Nat) : Prop where
  A : b ∈ W.A
  m : W.m ≤ b
  h : ∃ cs, Cnt W b cs ∧ cs.length = sz
theorem Loc.mono {W W' : GW} {b sz : Nat} (h : Loc W b sz) (l : LeK W W') : Loc W' b sz := by
  obtain ⟨cs, ⟨T, hb⟩, hs⟩ := h.h
  obtain ⟨c', h1, h2⟩ := l.row b _ _ _ hb
  exact ⟨l.keep b h.A, by rw [l.m]; exact h.m, c'.toList, ⟨T, by simpa using h1⟩, by simpa [hs] using h2⟩
theorem Loc.to {W W' : GW} {b sz : Nat} (h : Loc W b sz) [l : Lk W W'] : Loc W' b sz := h.mono l.s

theorem put_lek (W : GW) (b : Nat) (c c' : Array Value) (T : TypeId) (fr : Nat × Nat) (hb : W.w.heap[b]? = some (.cells c T fr)) (hA : b ∈ W.A) (hm : W.m ≤ b) (hs : c'.size = c.size) : LeK W (W.put b (.cells c' T fr)) where
  os := rfl
  out := rfl
  tape := rfl
  m := rfl
  size := by rw [GW.size_put]; exact Nat.le_refl _
  same := fun k hk hp => heap_put _ _ _ _ (by
    rcases hp with hp | hp
    · omega
    · intro h; subst h; exact hp hA)
  stay := fun _ _ h => h
  prot := fun _ _ h => h
  keep := fun _ h => h
  row := fun k d U fs hd => by
    by_cases h : k = b
    · subst h
      rw [hb] at hd
      injection hd with hd
      injection hd with h1 h2 h3
      subst h1; subst h2; subst h3
      exact ⟨c', heap_put_self _ _ _ (lt_of_heap hb), hs⟩
    · exact ⟨d, by rw [← hd]; exact heap_put _ _ _ _ h, rfl⟩

/-! the operations -/
def spl (c : List Value) (o : Nat) : List Value → List Value
  | [] => c
  | v :: vs => spl (c.set o v) (o + 1) vs
theorem spl_length (c : List Value) (o : Nat) (vs : List Value) : (spl c o vs).length = c.length := by
  induction vs generalizing c o with
  | nil => rfl
  | cons v vs ih => simp [spl, ih]
theorem spl_get (c : List Value) (o : Nat) (vs : List Value) (i : Nat) (ho : o + vs.length ≤ c.length) :
    (spl c o vs)[i]? = if o ≤ i ∧ i < o + vs.length then vs[i - o]? else c[i]? := by
  induction vs generalizing c o with
  | nil => simp only [spl, List.length_nil]; rw [if_neg (by omega)]
  | cons v vs ih =>
    simp only [spl, List.length_cons] at ho ⊢
    rw [ih (c.set o v) (o + 1) (by simp; omega)]
    by_cases h1 : i = o
    · subst h1
      rw [if_neg (by omega), if_pos (by omega), List.getElem?_set_self (by omega)]
      simp
    · by_cases h2 : o + 1 ≤ i ∧ i < o + 1 + vs.length
      · rw [if_pos h2, if_pos (by omega), show i - o = (i - (o + 1)) + 1 from by omega]
        simp
      · rw [if_neg h2, if_neg (by omega), List.getElem?_set_ne (fun e => h1 e.symm)]
theorem spl_full (c vs : List Value) (h : vs.length = c.length) : spl c 0 vs = vs := by
  apply List.ext_getElem?
  intro i
  rw [spl_get _ _ _ _ (by omega)]
  by_cases hi : i < vs.length
  · rw [if_pos (by omega)]; simp
  · rw [if_neg (by omega), List.getElem?_eq_none (by omega), List.getElem?_eq_none (by omega)]

section
variable {P : Program}
theorem setCell_eq {w : World} {b : Nat} {c : List Value} {T : TypeId} {fr : Nat × Nat} (hb : w.heap[b]? = some (.cells c.toArray T fr)) (i : Nat) (v : Value) :
    w.setCell ⟨b, i, none⟩ v = setB w b (.cells (c.set i v).toArray T fr) := by
  unfold World.setCell setB
  congr 1
  apply Array.ext_getElem?
  intro k
  simp only [Array.getElem?_modify, Array.getElem?_setIfInBounds]
  by_cases h : b = k
  · subst h
    rw [if_pos rfl, if_pos rfl, if_pos (lt_of_heap hb), hb]
    simp
  · rw [if_neg h, if_neg h]
theorem setB_same {w : World} {b : Nat} {o : Obj} (hb : w.heap[b]? = some o) : setB w b o = w := by
  unfold setB
  have : w.heap.setIfInBounds b o = w.heap := by
    apply Array.ext_getElem?
    intro k
    simp only [Array.getElem?_setIfInBounds]
    by_cases h : b = k
    · subst h; rw [if_pos rfl, if_pos (lt_of_heap hb), hb]
    · rw [if_neg h]
  rw [this]
theorem setB_setB (w : World) (b : Nat) (o o' : Obj) : setB (setB w b o) b o' = setB w b o' := by
  unfold setB
  congr 1
  apply Array.ext_getElem?
  intro k
  simp only [Array.getElem?_setIfInBounds, Array.size_setIfInBounds]
  by_cases h : b = k <;> simp [h]
theorem run_storeCells {b off : Nat} {T : TypeId} (vs : List Value) : ∀ (w : World) (i : Nat) (c : List Value), w.heap[b]? = some (.cells c.toArray T (0, 0)) →
    off + i + vs.length ≤ c.length → (∀ v ∈ vs, oneC v = true) → (storeCells ⟨b, off, none⟩ vs i).run P w = .ok () (setB w b (.cells (spl c (off + i) vs).toArray T (0, 0))) := by
  induction vs with
  | nil => intro w i c hb _ _; simp only [storeCells, spl]; rw [setB_same hb]; rfl
  | cons v vs ih =>
    intro w i c hb hl h1
    simp only [List.length_cons] at hl
    have hc : w.cell? ⟨b, off + i, none⟩ = c[off + i]? := cell_of hb _
    have hlt : off + i < c.length := by omega
    rw [List.getElem?_eq_getElem hlt] at hc
    have hf : w.frozen? ⟨b, off + i, none⟩ = false := by simp [World.frozen?, hb]
    have hone := h1 v (List.mem_cons_self ..)
    have hst : (store (⟨b, off, none⟩ : Addr) v).run P w = (store (⟨b, off, none⟩ : Addr) v).run P w := rfl
    have hrun : (store ((⟨b, off, none⟩ : Addr).add i) v).run P w = .ok () (setB w b (.cells (c.set (off + i) v).toArray T (0, 0))) := by
      rw [add0, ← setCell_eq hb]
      cases v <;> simp_all [store, Sem.run, oneC]
    simp only [storeCells]
    rw [Sem.run_bind, hrun]
    simp only [Result.andThen_ok]
    rw [ih _ (i + 1) (c.set (off + i) v) (heap_put_self _ _ _ (lt_of_heap hb)) (by simp; omega) (fun u hu => h1 u (List.mem_cons_of_mem _ hu)), setB_setB]
    rfl
end

section
variable {P : Program} {n : Nat} {ops : Array Oper} {l : List Oper} {K : List Kt} {fin : Exit → Act → World → Prop} {env : Env} {W : GW}
variable {d : Nat} {ty : TypeId} {pos : String} {aft : Array Edge}

/-- a parameter's variable -/
theorem O.box {T : TypeId} {x : Operand} {v : Value} (hx : get env x = some v)
    (k : ∀ W' b, Lk1 W W' → Blk W' b v.cells.toList → JO P n ops l K fin ((d, .pointer (some ⟨b, 0, none⟩)) :: env) W') : JO P n ops (⟨some d, .box T x, ty, pos, aft, none⟩ :: l) K fin env W := by
  refine JO.world (W' := W.push (.cells v.cells T) false) (v := .pointer (some ⟨W.size, 0, none⟩)) (fun a ha => ?_)
    (k _ _ ⟨(push_ext ..).toLeK⟩ ⟨fun h => Nat.lt_irrefl _ (W.hA _ h), T, (0, 0), push_cells ..⟩)
  simp only [execOp, ha.get hx]
  rfl
/-- a variable -/
theorem O.alloc {T sz : Nat} {ag : Bool} {z : List Value} [i : TVar P T sz ag z]
    (k : ∀ W' b, Lk1 W W' → Loc W' b z.length → Cnt W' b z → W.size ≤ b → JO P n ops l K fin ((d, .pointer (some ⟨b, 0, none⟩)) :: env) W') : JO P n ops (⟨some d, .alloc T, ty, pos, aft, none⟩ :: l) K fin env W := by
  obtain ⟨ii, v, e1, e2, e3, e4⟩ := i.i
  have hc : Cnt (W.push (.cells v.cells T) true) W.size z := ⟨T, by rw [← e4]; exact push_cells ..⟩
  refine JO.world (W' := W.push (.cells v.cells T) true) (v := .pointer (some ⟨W.size, 0, none⟩)) (fun a ha => ?_)
    (k _ _ ⟨(push_ext ..).toLeK⟩ ⟨List.mem_cons_self .., W.hm, z, hc, rfl⟩ hc (Nat.le_refl _))
  have hz : (zeroValue T).run P W.w = .ok v W.w := by simp [zeroValue, typeInfo, program, bind, Sem.bind, Sem.run, pure, e1, e3]
  simp only [execOp, Instr.alloc]
  rw [Sem.run_bind, Sem.run_bind, hz]
  rfl
theorem run_storeVar {T sz b off : Nat} {ag : Bool} {z : List Value} [i : TVar P T sz ag z] {w : World} {U : TypeId} {c : List Value} {v : Value} (hb : w.heap[b]? = some (.cells c.toArray U (0, 0)))
    (hs : v.cells.toList.length = sz) (hl : off + sz ≤ c.length) (h1 : ∀ u ∈ v.cells.toList, oneC u = true) :
    (storeVar T ⟨b, off, none⟩ v).run P w = .ok () (setB w b (.cells (spl c off v.cells.toList).toArray U (0, 0))) := by
  obtain ⟨ii, u, e1, e2, e3⟩ := i.i
  have h2 : (sizeOf T).run P w = .ok sz w := by simp [sizeOf, typeInfo, program, bind, Sem.bind, Sem.run, pure, e1, e2]
  unfold storeVar
  rw [Sem.run_bind, h2]
  have h3 : v.cells.size = sz := by simpa using hs
  simp only [Result.andThen_ok, h3]
  simp only [ne_eq, not_true, if_false]
  have := run_storeCells (P := P) (off := off) v.cells.toList w 0 c hb (by rw [hs]; omega) h1
  simpa using this
/-- a variable is written whole -/
theorem O.st {T sz b : Nat} {ag : Bool} {z : List Value} {x y : Operand} {v : Value} [i : TVar P T sz ag z] (hx : get env x = some (.pointer (some ⟨b, 0, none⟩))) (hy : get env y = some v)
    (hl : Loc W b sz) (hs : v.cells.toList.length = sz) (h1 : ∀ u ∈ v.cells.toList, oneC u = true)
    (k : ∀ W', Lk1 W W' → Cnt W' b v.cells.toList → JO P n ops l K fin env W') : JO P n ops (⟨none, .store T x y, ty, pos, aft, none⟩ :: l) K fin env W := by
  obtain ⟨cs, ⟨U, hb⟩, hsz⟩ := hl.h
  have hr := run_storeVar (P := P) (T := T) (off := 0) (v := v) hb hs (by omega) h1
  rw [spl_full _ _ (by omega)] at hr
  refine JO.unit (W' := W.put b (.cells v.cells.toList.toArray U (0, 0))) (fun a ha => ?_)
    (k _ ⟨put_lek W b _ _ U (0, 0) hb hl.A hl.m (by simp; simpa using hs.trans hsz.symm)⟩ ⟨U, heap_put_self _ _ _ (lt_of_heap hb)⟩)
  simp only [execOp, ha.get hx, ha.get hy, Instr.storeAt, Instr.sureAddr]
  rw [Sem.run_bind, Sem.run_bind]
  show Result.andThen (Result.andThen (Result.ok _ _) _) _ = _
  simp only [Result.andThen_ok]
  rw [hr]
  rfl
/-- a variable is made and written at once -/
theorem O.als {T sz : Nat} {ag : Bool} {z : List Value} {y : Operand} {v : Value} {ty' : TypeId} {pos' : String} {aft' : Array Edge} [i : TVar P T sz ag z] (hy : ∀ u, get ((d, u) :: env) y = some v)
    (hs : v.cells.toList.length = sz) (hz : z.length = sz) (h1 : ∀ u ∈ v.cells.toList, oneC u = true)
    (k : ∀ W' b, Lk1 W W' → Blk W' b v.cells.toList → JO P n ops l K fin ((d, .pointer (some ⟨b, 0, none⟩)) :: env) W') :
    JO P n ops (⟨some d, .alloc T, ty, pos, aft, none⟩ :: ⟨none, .store T (.tmp d) y, ty', pos', aft', none⟩ :: l) K fin env W := by
  obtain ⟨ii, u, e1, e2, e3, e4⟩ := i.i
  have hzr : (zeroValue T).run P W.w = .ok u W.w := by simp [zeroValue, typeInfo, program, bind, Sem.bind, Sem.run, pure, e1, e3]
  refine JO.world (W' := W.push (.cells u.cells T) false) (v := .pointer (some ⟨W.size, 0, none⟩)) (fun a ha => ?_) ?_
  · simp only [execOp, Instr.alloc]
    rw [Sem.run_bind, Sem.run_bind, hzr]
    rfl
  · have hb : (W.push (.cells u.cells T) false).w.heap[W.size]? = some (.cells z.toArray T (0, 0)) := by rw [← e4]; exact push_cells ..
    have hr := run_storeVar (P := P) (T := T) (off := 0) (v := v) hb hs (by omega) h1
    rw [spl_full _ _ (by omega)] at hr
    refine JO.unit (W' := W.push (.cells v.cells T) false) (fun a ha => ?_) (k _ _ ⟨(push_ext ..).toLeK⟩ ⟨fun h => Nat.lt_irrefl _ (W.hA _ h), T, (0, 0), push_cells ..⟩)
    have hyy := hy (.pointer (some ⟨W.size, 0, none⟩))
    have hp : get ((d, Value.pointer (some ⟨W.size, 0, none⟩)) :: env) (.tmp d) = some (.pointer (some ⟨W.size, 0, none⟩)) := by simp [get, look_cons]
    · simp only [execOp, ha.get hp, ha.get hyy, Instr.storeAt, Instr.sureAddr]
      rw [Sem.run_bind, Sem.run_bind]
      show Result.andThen (Result.andThen (Result.ok _ _) _) _ = _
      simp only [Result.andThen_ok]
      rw [hr]
      have : setB (W.push (.cells u.cells T) false).w W.size (.cells v.cells.toList.toArray T (0, 0)) = (W.push (.cells v.cells T) false).w := by
        show setB (W.w.alloc _) _ _ = W.w.alloc _
        unfold setB World.alloc
        congr 1
        apply Array.ext_getElem?
        intro k
        simp only [Array.getElem?_setIfInBounds, Array.getElem?_push, Array.size_push]
        by_cases h : W.size = k
        · subst h; simp
        · simp [h, Ne.symm h]
      rw [this]
      rfl

/-! reads of variables -/
def sub2 : List Value → Nat → Option (Value × Value)
  | a :: b :: _, 0 => some (a, b)
  | _ :: l, k + 1 => sub2 l k
  | _, _ => none
theorem sub2_get {cs : List Value} {o : Nat} {u v : Value} (h : sub2 cs o = some (u, v)) : cs[o]? = some u ∧ cs[o + 1]? = some v := by
  induction cs generalizing o with
  | nil => cases o <;> simp [sub2] at h
  | cons c cs ih =>
    cases o with
    | zero => cases cs with
      | nil => simp [sub2] at h
      | cons c' cs => simp [sub2] at h; simp [h]
    | succ o => simp only [sub2] at h; simpa using ih h
theorem O.ldB {T : TypeId} {z : List Value} {x : Operand} {b off : Nat} {cs : List Value} {v : Value} [i : TVar P T 1 false z] (hx : get env x = some (.pointer (some ⟨b, off, none⟩)))
    (hb : Blk W b cs) (hv : cs[off]? = some v) (k : JO P n ops l K fin ((d, v) :: env) W) : JO P n ops (⟨some d, .load T x, ty, pos, aft, none⟩ :: l) K fin env W :=
  O.ld (ag := false) (cs := [v]) hx rfl (fun j u hj => by
    match j, hj with
    | 0, hj => simp at hj; subst hj; rw [hb.cell]; exact hv
    | j + 1, hj => simp at hj) (fun _ => rfl) k
theorem O.ldB2 {T : TypeId} {z : List Value} {x : Operand} {b off : Nat} {cs : List Value} {u v : Value} [i : TVar P T 2 true z] (hx : get env x = some (.pointer (some ⟨b, off, none⟩)))
    (hb : Blk W b cs) (hv : sub2 cs off = some (u, v)) (k : JO P n ops l K fin ((d, .agg #[u, v]) :: env) W) : JO P n ops (⟨some d, .load T x, ty, pos, aft, none⟩ :: l) K fin env W :=
  O.ld (ag := true) (cs := [u, v]) hx rfl (fun j w hj => by
    obtain ⟨h1, h2⟩ := sub2_get hv
    match j, hj with
    | 0, hj => simp at hj; subst hj; rw [hb.cell]; exact h1
    | 1, hj => simp at hj; subst hj; rw [hb.cell]; exact h2
    | j + 2, hj => simp at hj) (fun h => Bool.noConfusion h) k
/-- the whole variable -/
theorem O.ldBw {T sz : Nat} {z : List Value} {x : Operand} {b : Nat} {cs : List Value} [i : TVar P T sz true z] (hx : get env x = some (.pointer (some ⟨b, 0, none⟩)))
    (hb : Blk W b cs) (hs : cs.length = sz) (k : JO P n ops l K fin ((d, .agg cs.toArray) :: env) W) : JO P n ops (⟨some d, .load T x, ty, pos, aft, none⟩ :: l) K fin env W :=
  O.ld (ag := true) (cs := cs) hx hs (fun j w hj => by rw [hb.cell]; simpa using hj) (fun h => Bool.noConfusion h) k
end
end
section

section
variable {P : Program} {n : Nat} {ops : Array Oper} {l : List Oper} {K : List Kt} {fin : Exit → Act → World → Prop} {env : Env} {W : GW}
variable {d d2 : Nat} {ty ty2 : TypeId} {pos pos2 : String} {aft aft2 : Array Edge}

theorem V.rw {v : Value} {x : Nat} (h : V RW W v x) : v = .int .u32 (x : Int) ∧ x < 4294967296 := by
  obtain ⟨cs, ⟨h1, h2⟩, h3⟩ := h
  subst h1
  exact ⟨h3, h2⟩
theorem rwv (x : Nat) (h : x < 4294967296) : V RW W (.int .u32 (x : Int)) x := ⟨_, ⟨rfl, h⟩, rfl⟩
theorem Sl.lt {α : Type} {r : Rep α} {p : Option Addr} {m c : Nat} {xs : List α} (h : Sl r W p m c xs) {j : Nat} {x : α} (hj : xs[j]? = some x) : j < m := by
  rw [h.hn]
  by_cases h : j < xs.length
  · exact h
  · rw [List.getElem?_eq_none (by omega)] at hj; cases hj

/-- x[j]: the address alone -/
theorem O.iaS {α : Type} {r : Rep α} {T E sz by' : Nat} {z : List Value} {x y : Operand} {p : Option Addr} {m c j : Nat} {k' : IntKind} {jj : Int} {xs : List α} {u : α} [i : TSl P T E sz by' z]
    (hx : get env x = some (.slice p m c)) (hy : get env y = some (.int k' jj)) (hjj : jj = (j : Int)) (hs : Sl r W p m c xs) (hj : xs[j]? = some u) (hr : r.size = sz)
    (k : ∀ b off cs, r.At W cs u → (∀ i v, cs[i]? = some v → W.w.cell? ⟨b, off + i, none⟩ = some v) → JO P n ops l K fin ((d, .pointer (some ⟨b, off, none⟩)) :: env) W) :
    JO P n ops (⟨some d, .indexAddr T x y, ty, pos, aft, none⟩ :: l) K fin env W := by
  obtain ⟨b, off, cs, hp, hc, hv⟩ := hs.cells hj
  subst hp
  subst hjj
  refine O.ia hx hy rfl (hs.lt hj) (k b (off + j * sz) cs hc fun i v hi => ?_)
  rw [Nat.add_assoc, ← hr]
  exact hv i v hi
/-- x[j] -/
theorem O.ix {α : Type} {r : Rep α} {T E sz by' : Nat} {z z' : List Value} {ag : Bool} {x y : Operand} {p : Option Addr} {m c j : Nat} {k' : IntKind} {jj : Int} {xs : List α} {u : α} [i : TSl P T E sz by' z] [i2 : TVar P E sz ag z']
    (hx : get env x = some (.slice p m c)) (hy : get env y = some (.int k' jj)) (hjj : jj = (j : Int)) (hs : Sl r W p m c xs) (hj : xs[j]? = some u) (hr : r.size = sz) (hg : r.agg = ag) (h1 : ag = false → sz = 1)
    (k : ∀ a v, V r W v u → JO P n ops l K fin ((d2, v) :: (d, .pointer (some a)) :: env) W) :
    JO P n ops (⟨some d, .indexAddr T x y, ty, pos, aft, none⟩ :: ⟨some d2, .load E (.tmp d), ty2, pos2, aft2, none⟩ :: l) K fin env W := by
  refine O.iaS hx hy hjj hs hj hr fun b off cs hc hv => ?_
  exact O.ld (i := i2) (b := b) (off := off) (cs := cs) (by simp [get, look_cons]) (by rw [r.len hc, hr]) hv h1 (k _ _ ⟨cs, hc, by rw [hg]⟩)
theorem O.ixW {T E by' : Nat} {z z' : List Value} {x y : Operand} {p : Option Addr} {m c j : Nat} {k' : IntKind} {jj : Int} {xs : List Nat} {u : Nat} [i : TSl P T E 1 by' z] [i2 : TVar P E 1 false z']
    (hx : get env x = some (.slice p m c)) (hy : get env y = some (.int k' jj)) (hjj : jj = (j : Int)) (hs : Sl RW W p m c xs) (hj : xs[j]? = some u)
    (k : ∀ a, JO P n ops l K fin ((d2, .int .u32 (u : Int)) :: (d, .pointer (some a)) :: env) W) :
    JO P n ops (⟨some d, .indexAddr T x y, ty, pos, aft, none⟩ :: ⟨some d2, .load E (.tmp d), ty2, pos2, aft2, none⟩ :: l) K fin env W :=
  O.ix hx hy hjj hs hj rfl rfl (fun _ => rfl) fun a v hv => by rw [hv.rw.1]; exact k a

/-- the address of a word -/
theorem O.iaW {T E by' : Nat} {z : List Value} {x y : Operand} {p : Option Addr} {m c j : Nat} {k' : IntKind} {jj : Int} {xs : List Nat} {u : Nat} [i : TSl P T E 1 by' z]
    (hx : get env x = some (.slice p m c)) (hy : get env y = some (.int k' jj)) (hjj : jj = (j : Int)) (hs : Sl RW W p m c xs) (hj : xs[j]? = some u)
    (k : ∀ b off, W.w.cell? ⟨b, off, none⟩ = some (.int .u32 (u : Int)) → JO P n ops l K fin ((d, .pointer (some ⟨b, off, none⟩)) :: env) W) :
    JO P n ops (⟨some d, .indexAddr T x y, ty, pos, aft, none⟩ :: l) K fin env W :=
  O.iaS hx hy hjj hs hj rfl fun b off cs hc hv => k b off (by have := hv 0 (.int .u32 (u : Int)) (by rw [hc.1]; rfl); simpa using this)
/-- the place of a word, once for all -/
theorem Sl.word {p : Option Addr} {m c j : Nat} {xs : List Nat} {u : Nat} (hs : Sl RW W p m c xs) (hj : xs[j]? = some u) :
    ∃ b off, p = some ⟨b, off, none⟩ ∧ j < m ∧ ∀ W' : GW, LeF W W' → W'.w.cell? ⟨b, off + j * 1, none⟩ = some (.int .u32 (u : Int)) := by
  obtain ⟨b, off, cs, hp, hc, hv⟩ := hs.cells hj
  refine ⟨b, off, hp, hs.lt hj, fun W' l => ?_⟩
  obtain ⟨b', off', cs', hp', hc', hv'⟩ := (hs.mono l).cells hj
  rw [hp] at hp'
  injection hp' with hp'
  injection hp' with h1 h2 _
  subst h1; subst h2
  exact hv' 0 (.int .u32 (u : Int)) (by rw [hc'.1]; rfl)
theorem Sl.take {α : Type} {r : Rep α} {p : Option Addr} {m c : Nat} {xs : List α} (h : Sl r W p m c xs) (k : Nat) (hk : k ≤ m) : Sl r W p k c (xs.take k) := by
  refine ⟨by rw [List.length_take, ← h.hn]; omega, Nat.le_trans hk h.hc, h.hC, ?_⟩
  have := SlAt.sub h.at' 0 k p (fun b off hp _ => by rw [hp, Nat.zero_mul, Nat.add_zero])
  simpa using this
theorem Sl.drop {α : Type} {r : Rep α} {p : Option Addr} {m c : Nat} {xs : List α} (h : Sl r W p m c xs) (k : Nat) (hk : k ≤ m) :
    Sl r W (if c = k then p else p.map (·.add (k * r.size))) (m - k) (c - k) (xs.drop k) := by
  have hc := h.hc
  have hn := h.hn
  refine ⟨by rw [List.length_drop, ← hn], by omega, by have := h.hC; omega, ?_⟩
  have := SlAt.sub h.at' k (m - k) (if c = k then p else p.map (·.add (k * r.size))) (fun b off hp hl => by
    rw [if_neg (by omega), hp]
    show some (Addr.add _ _) = _
    rw [add0])
  rwa [List.take_of_length_le (by rw [List.length_drop]; omega)] at this

/-! calls -/
/-- The call of f returns what R says. -/
def Ok (P : Program) (f : FuncId) (vs : List Value) (W : GW) (R : GW → Value → Prop) : Prop :=
  (∃ fn, P.funcs[f]? = some fn ∧ (fn.name == "runtime.NumGoroutine") = false ∧ fn.body.isSome = true) ∧
  Calls P f vs.toArray W.w fun e w' => ∃ W' v, e = .returned v ∧ W'.w = w' ∧ Ext W W' ∧ R W' v

theorem Ok.mono {f : FuncId} {vs : List Value} {R R' : GW → Value → Prop} (h : Ok P f vs W R) (hr : ∀ W' v, Ext W W' → R W' v → R' W' v) : Ok P f vs W R' :=
  ⟨h.1, h.2.mono fun e w' ⟨W', v, h1, h2, h3, h4⟩ => ⟨W', v, h1, h2, h3, hr W' v h3 h4⟩⟩

theorem O.callv {f : FuncId} {g : Operand} {args : List Operand} {tys : Array TypeId} {vs : List Value} {fs cap : Array Value} {R : GW → Value → Prop} (hg : get env g = some (.func (.func f) fs cap)) (hx : getL env args = some vs)
    (hc : Ok P f (fs.toList ++ vs ++ cap.toList) W R)
    (k : ∀ W' v, Lk1 W W' → Ext W W' → R W' v → JO P n ops l K fin ((d, v) :: env) W') : JO P n ops (⟨some d, .call ⟨.value g, args.toArray, tys⟩, ty, pos, aft, none⟩ :: l) K fin env W := by
  obtain ⟨⟨fn, h1, h2, h3⟩, hcl⟩ := hc
  intro hok a ha
  have hw : Region.wanted ⟨some d, .call ⟨.value g, args.toArray, tys⟩, ty, pos, aft, none⟩ (yielded ops a.tmps) = true := rfl
  simp only [wpL, hw, if_true]
  have hargs := ha.getL hx
  have hr : (execOp a.eval ⟨some d, .call ⟨.value g, args.toArray, tys⟩, ty, pos, aft, none⟩).run P W.w = .ok (.enter f (fs.toList ++ vs ++ cap.toList).toArray) W.w := by
    have hb : fn.body.isNone = false := by cases hh : fn.body <;> simp_all
    have ea : args.toArray.map a.eval = vs.toArray := by simpa using hargs
    simp only [execOp, resolve, ea, ha.get hg, Deferred.ofValue]
    simp [invoke, callFunc, program, bind, Sem.bind, Sem.run, pure, h1, hb]
    have h2' : ¬ fn.name = "runtime.NumGoroutine" := by simpa using h2
    simp only [h2', if_false]
    have hb' : ¬ fn.body = none := fun h => by rw [h] at h3; cases h3
    rw [if_neg hb']
    congr 2
    apply Array.ext'
    simp
  unfold Oper.wp
  rw [hr, Oper.upon_enter]
  refine hcl.mono ?_
  rintro e w' ⟨W', v, rfl, hW, hE, hR⟩
  rw [← hW]
  exact k W' v ⟨hE.toLeK⟩ hE hR (JO.unok hok) _ (ha.put (JO.dst hok) v)
theorem O.call {f : FuncId} {args : List Operand} {tys : Array TypeId} {vs : List Value} {R : GW → Value → Prop} (hx : getL env args = some vs) (hc : Ok P f vs W R)
    (k : ∀ W' v, Lk1 W W' → Ext W W' → R W' v → JO P n ops l K fin ((d, v) :: env) W') : JO P n ops (⟨some d, .call ⟨.value (.func f), args.toArray, tys⟩, ty, pos, aft, none⟩ :: l) K fin env W :=
  O.callv (fs := #[]) (cap := #[]) rfl hx (by simpa using hc) k

/-! entry and return -/
def Fin (P : Program) (fn : Func) (W0 : GW) (R : GW → Value → Prop) : Exit → Act → World → Prop :=
  bodyPost P fn (fun e w' => ∃ W' v, e = .returned v ∧ W'.w = w' ∧ Ext W0 W' ∧ R W' v)

def argEnv : Nat → List Value → Env
  | _, [] => []
  | i, v :: vs => (i, v) :: argEnv (i + 1) vs

theorem look_argEnv (i : Nat) (vs : List Value) (t : Nat) : look (argEnv i vs) t = if i ≤ t then vs[t - i]? else none := by
  induction vs generalizing i with
  | nil => simp [argEnv, look]
  | cons v vs ih =>
    simp only [argEnv]
    rw [look_cons, ih (i + 1)]
    by_cases h : t = i
    · subst h; simp
    · rw [if_neg h]
      by_cases h2 : i + 1 ≤ t
      · rw [if_pos h2, if_pos (by omega), show t - i = (t - (i + 1)) + 1 from by omega]; simp
      · rw [if_neg h2, if_neg (by omega)]

theorem Ok.enter {f N : Nat} {fn : Func} {c : Code} {vs : List Value} {R : GW → Value → Prop} (hf : P.funcs[f]? = some fn) (hname : (fn.name == "runtime.NumGoroutine") = false) (hb : fn.body = some c)
    (hN : fn.ntmps = N) (hl : Nat.ble vs.length N = true) (h : ∀ W1, En W W1 → J P N [.c c] (Fin P fn W R) (argEnv 0 vs) W1) : Ok P f vs W R := by
  refine ⟨⟨fn, hf, hname, by rw [hb]; rfl⟩, calls_of_wp hf hb ?_⟩
  let W1 : GW := { w := W.w, A := W.A, m := W.size, hA := W.hA, hm := Nat.le_refl _ }
  have hl' : vs.length ≤ N := Nat.le_of_ble_eq_true hl
  have := h W1 ⟨rfl, rfl, rfl⟩ { tmps := vs.toArray ++ Array.replicate (fn.ntmps - vs.toArray.size) undef, defers := [] } ⟨rfl, by simp [hN]; omega, fun t v ht => ?_⟩
  · refine wp_mono this ?_
    intro e a w h
    cases e <;> exact h
  · rw [look_argEnv] at ht
    simp at ht
    have hlt : t < vs.length := by
      by_cases h : t < vs.length
      · exact h
      · rw [List.getElem?_eq_none (by omega)] at ht; cases ht
    rw [List.getElem?_eq_getElem hlt] at ht
    injection ht with ht
    simp only [Array.getD]
    rw [dif_pos (by simp; omega)]
    simp [Array.getElem_append_left, hlt, ht]

/-- one result -/
inductive ResAt (P : Program) (env : Env) (W : GW) : ResultVar → Value → Prop where
  | tmp {t : Nat} {v : Value} (h : look env t = some v) : ResAt P env W (.tmp t) v
  | cell {t T sz b : Nat} {z cs : List Value} [i : TVar P T sz true z] (h : look env t = some (.pointer (some ⟨b, 0, none⟩))) (hc : Cnt W b cs) (hs : cs.length = sz) : ResAt P env W (.cell t T) (.agg cs.toArray)

def exitP (W0 W : GW) (h : W0.size ≤ W.size) : GW where
  w := W.w
  A := W0.A
  m := W0.m
  hA := fun k hk => Nat.lt_of_lt_of_le (W0.hA k hk) h
  hm := Nat.le_trans W0.hm h
def exitO (W0 W : GW) (h : W0.size ≤ W.size) : GW where
  w := W.w
  A := W.A
  m := W0.m
  hA := W.hA
  hm := Nat.le_trans W0.hm h

theorem out_le {W0 W1 : GW} (i : En W0 W1) (j : LeS W1 W) : W0.size ≤ W.size ∧ W.m = W0.size ∧ (∀ k, k < W0.size → W.w.heap[k]? = W0.w.heap[k]?) ∧ (∀ k, k < W0.size → k ∈ W0.A → k ∈ W.A) ∧ (∀ k, k < W0.size → k ∉ W0.A → k ∉ W.A) := by
  have hs : W1.size = W0.size := by rw [GW.size, GW.size, i.w]
  have hm := i.m
  refine ⟨by rw [← hs]; exact j.size, by rw [j.m, hm], fun k hk => ?_, fun k hk hA => ?_, fun k hk hA => ?_⟩
  · rw [j.same k (by omega) (.inl (by omega)), i.w]
  · exact j.prot k (by omega) (by rw [i.A]; exact hA)
  · exact j.stay k (by omega) (by rw [i.A]; exact hA)

theorem exitP_ext {W0 W1 : GW} (i : En W0 W1) (j : LeS W1 W) : Ext W0 (exitP W0 W (out_le i j).1) where
  os := j.os.trans (by rw [i.w])
  out := j.out.trans (by rw [i.w])
  tape := j.tape.trans (by rw [i.w])
  m := rfl
  size := (out_le i j).1
  same := fun k hk _ => (out_le i j).2.2.1 k hk
  stay := fun _ _ h => h
  prot := fun _ _ h => h
  keep := fun _ h => h
  row := fun k c T fr hc => ⟨c, by rw [← hc]; exact (out_le i j).2.2.1 k (lt_of_heap hc), rfl⟩
  all := (out_le i j).2.2.1
theorem exitO_ext {W0 W1 : GW} (i : En W0 W1) (j : LeS W1 W) : Ext W0 (exitO W0 W (out_le i j).1) where
  os := j.os.trans (by rw [i.w])
  out := j.out.trans (by rw [i.w])
  tape := j.tape.trans (by rw [i.w])
  m := rfl
  size := (out_le i j).1
  same := fun k hk _ => (out_le i j).2.2.1 k hk
  stay := fun k hk h => (out_le i j).2.2.2.2 k hk h
  prot := fun k hk h => (out_le i j).2.2.2.1 k (Nat.lt_of_lt_of_le hk W0.hm) h
  keep := fun k h => (out_le i j).2.2.2.1 k (W0.hA k h) h
  row := fun k c T fr hc => ⟨c, by rw [← hc]; exact (out_le i j).2.2.1 k (lt_of_heap hc), rfl⟩
  all := (out_le i j).2.2.1

def resOne (tmps : Array Value) : ResultVar → Sem Value
  | .tmp t => pure (tmps.getD t undef)
  | .cell a t => do loadVar t (← asAddr (tmps.getD a undef))
theorem resAt_run {env : Env} {rv : ResultVar} {v : Value} {a : Act} {n : Nat} (ha : Rel n env a) (h : ResAt P env W rv v) :
    (resOne a.tmps rv).run P W.w = .ok v W.w := by
  cases h with
  | tmp h => simp only [resOne]; rw [ha.has _ _ h]; rfl
  | @cell t T sz b z cs i h hc hs =>
    simp only [resOne, ha.has _ _ h, asAddr]
    rw [Sem.run_bind]
    show Result.andThen (Result.ok _ _) _ = _
    simp only [Result.andThen_ok]
    obtain ⟨t', u1, u2⟩ := i.u
    obtain ⟨ii, v, e1, e2, e3⟩ := i.i
    have hcells := run_loadCells (P := P) (b := b) (off := 0) (w := W.w) cs 0 #[] (fun j v hj => by rw [hc.cell]; simpa using hj)
    have hsz : (sizeOf T).run P W.w = .ok sz W.w := by simp [sizeOf, typeInfo, program, bind, Sem.bind, Sem.run, pure, e1, e2]
    have hag : (isAgg T).run P W.w = .ok true W.w := by
      cases t' <;> simp [isAgg, underlying, program, bind, Sem.bind, Sem.run, pure, u1] at u2 ⊢
    unfold loadVar
    rw [Sem.run_bind, hag]
    subst hs
    simp only [Result.andThen_ok, if_true]
    rw [Sem.run_bind, hsz]
    simp only [Result.andThen_ok]
    rw [Sem.run_bind]
    simp only [loadCells]
    rw [hcells]
    simp

theorem results1 {fn : Func} {r1 : ResultVar} {v1 : Value} {a : Act} (ha : Rel n env a) (hres : fn.results = #[r1]) (h1 : ResAt P env W r1 v1) : (results fn a.tmps).run P W.w = .ok v1 W.w := by
  have e1 := resAt_run ha h1
  unfold results
  rw [hres, Sem.run_bind]
  simp only [List.mapM_toArray, List.mapM_cons, List.mapM_nil]
  rw [Sem.run_map, Sem.run_bind]
  erw [e1]
  simp
theorem results2 {fn : Func} {r1 r2 : ResultVar} {v1 v2 : Value} {a : Act} (ha : Rel n env a) (hres : fn.results = #[r1, r2]) (h1 : ResAt P env W r1 v1) (h2 : ResAt P env W r2 v2) :
    (results fn a.tmps).run P W.w = .ok (.tuple #[v1, v2]) W.w := by
  have e1 := resAt_run ha h1
  have e2 := resAt_run ha h2
  unfold results
  rw [hres, Sem.run_bind]
  simp only [List.mapM_toArray, List.mapM_cons, List.mapM_nil]
  rw [Sem.run_map, Sem.run_bind]
  erw [e1]
  simp only [Result.andThen_ok]
  rw [Sem.run_bind, Sem.run_bind]
  erw [e2]
  simp
theorem results3 {fn : Func} {r1 r2 r3 : ResultVar} {v1 v2 v3 : Value} {a : Act} (ha : Rel n env a) (hres : fn.results = #[r1, r2, r3]) (h1 : ResAt P env W r1 v1) (h2 : ResAt P env W r2 v2) (h3 : ResAt P env W r3 v3) :
    (results fn a.tmps).run P W.w = .ok (.tuple #[v1, v2, v3]) W.w := by
  have e1 := resAt_run ha h1
  have e2 := resAt_run ha h2
  have e3 := resAt_run ha h3
  unfold results
  rw [hres, Sem.run_bind]
  simp only [List.mapM_toArray, List.mapM_cons, List.mapM_nil]
  rw [Sem.run_map, Sem.run_bind]
  erw [e1]
  simp only [Result.andThen_ok]
  rw [Sem.run_bind, Sem.run_bind]
  erw [e2]
  simp only [Result.andThen_ok]
  rw [Sem.run_bind, Sem.run_bind]
  erw [e3]
  simp

theorem ret_p {fn : Func} {W0 W1 : GW} {R : GW → Value → Prop} {v : Value} {a : Act} (i : En W0 W1) (j : Le W1 W) (ha : Rel n env a) (hr : (results fn a.tmps).run P W.w = .ok v W.w)
    (h : ∀ W', Ex W W' → Pub W W' → R W' v) : Fin P fn W0 R .ret a W.w :=
  ⟨ha.defers, v, hr, exitP W0 W (out_le i j.s).1, v, rfl, rfl, exitP_ext i j.s,
    h _ ⟨rfl, fun k hk => (out_le i j.s).2.2.2.1 k (W0.hA k hk) hk, by have := (out_le i j.s).2.1; have hh : W0.m ≤ W0.size := W0.hm; show W0.m ≤ W.m; omega⟩ ⟨fun k hk => by rw [(out_le i j.s).2.1]; exact W0.hA k hk⟩⟩
theorem ret_o {fn : Func} {W0 W1 : GW} {R : GW → Value → Prop} {v : Value} {a : Act} (i : En W0 W1) (j : Le W1 W) (ha : Rel n env a) (hr : (results fn a.tmps).run P W.w = .ok v W.w)
    (h : ∀ W', Ex W W' → Own1 W W' → R W' v) : Fin P fn W0 R .ret a W.w :=
  ⟨ha.defers, v, hr, exitO W0 W (out_le i j.s).1, v, rfl, rfl, exitO_ext i j.s,
    h _ ⟨rfl, fun k hk => hk, by have := (out_le i j.s).2.1; have hh : W0.m ≤ W0.size := W0.hm; show W0.m ≤ W.m; omega⟩ ⟨rfl⟩⟩

theorem J.ret1 {fn : Func} {W0 W1 : GW} {R : GW → Value → Prop} {r1 : ResultVar} {v1 : Value} [i : En W0 W1] [j : Le W1 W] (hres : fn.results = #[r1]) (h1 : ResAt P env W r1 v1)
    (h : ∀ W', Ex W W' → Pub W W' → R W' v1) : J P n (.c .ret :: K) (Fin P fn W0 R) env W :=
  J.ret fun a ha => ret_p i j ha (results1 ha hres h1) h
theorem J.ret2 {fn : Func} {W0 W1 : GW} {R : GW → Value → Prop} {r1 r2 : ResultVar} {v1 v2 : Value} [i : En W0 W1] [j : Le W1 W] (hres : fn.results = #[r1, r2]) (h1 : ResAt P env W r1 v1) (h2 : ResAt P env W r2 v2)
    (h : ∀ W', Ex W W' → Pub W W' → R W' (.tuple #[v1, v2])) : J P n (.c .ret :: K) (Fin P fn W0 R) env W :=
  J.ret fun a ha => ret_p i j ha (results2 ha hres h1 h2) h
theorem J.ret3 {fn : Func} {W0 W1 : GW} {R : GW → Value → Prop} {r1 r2 r3 : ResultVar} {v1 v2 v3 : Value} [i : En W0 W1] [j : Le W1 W] (hres : fn.results = #[r1, r2, r3]) (h1 : ResAt P env W r1 v1) (h2 : ResAt P env W r2 v2) (h3 : ResAt P env W r3 v3)
    (h : ∀ W', Ex W W' → Pub W W' → R W' (.tuple #[v1, v2, v3])) : J P n (.c .ret :: K) (Fin P fn W0 R) env W :=
  J.ret fun a ha => ret_p i j ha (results3 ha hres h1 h2 h3) h
theorem J.ret1o {fn : Func} {W0 W1 : GW} {R : GW → Value → Prop} {r1 : ResultVar} {v1 : Value} [i : En W0 W1] [j : Le W1 W] (hres : fn.results = #[r1]) (h1 : ResAt P env W r1 v1)
    (h : ∀ W', Ex W W' → Own1 W W' → R W' v1) : J P n (.c .ret :: K) (Fin P fn W0 R) env W :=
  J.ret fun a ha => ret_o i j ha (results1 ha hres h1) h
theorem J.ret2o {fn : Func} {W0 W1 : GW} {R : GW → Value → Prop} {r1 r2 : ResultVar} {v1 v2 : Value} [i : En W0 W1] [j : Le W1 W] (hres : fn.results = #[r1, r2]) (h1 : ResAt P env W r1 v1) (h2 : ResAt P env W r2 v2)
    (h : ∀ W', Ex W W' → Own1 W W' → R W' (.tuple #[v1, v2])) : J P n (.c .ret :: K) (Fin P fn W0 R) env W :=
  J.ret fun a ha => ret_o i j ha (results2 ha hres h1 h2) h
end
end
section

class Mx (P : Program) : Prop where
  h : P.follows .mixedOrders = true

/-- What is known of the value of an operation of the cloud. -/
inductive Sp where
  | ex (v : Value)
  | rel (R : GW → Value → Prop)
def Sp.ok (s : Sp) (W : GW) (x : Value) : Prop := match s with
  | .ex v => x = v
  | .rel R => R W x
def MonoR (R : GW → Value → Prop) : Prop := ∀ W W' v, Ext W W' → R W v → R W' v
def Sp.mono (s : Sp) : Prop := match s with
  | .ex _ => True
  | .rel R => MonoR R
theorem Sp.up {s : Sp} {W W' : GW} {x : Value} (m : s.mono) (e : Ext W W') (h : s.ok W x) : s.ok W' x := by
  cases s with
  | ex v => exact h
  | rel R => exact m W W' x e h
theorem V.me {α : Type} {r : Rep α} {x : α} : MonoR (fun W v => V r W v x) := fun W W' v e h => h.mono e.toLeS.f

/-- The operation is done. -/
def DStop (n : Nat) (E : Env) (W1 : GW) (d : Nat) (s : Sp) (a : Act) (w : World) : Prop :=
  ∃ W2 v, W2.w = w ∧ Ext W1 W2 ∧ Rel n ((d, v) :: E) a ∧ s.ok W2 v ∧ s.mono

section
variable {P : Program} {n : Nat} {ops : Array Oper} {K : List Kt} {fin : Exit → Act → World → Prop} {E : Env} {W W1 : GW} {d : Nat}
theorem D.ex {v : Value} : JO P n ops [] (.l (DStop n E W d (.ex v)) :: K) fin ((d, v) :: E) W :=
  JO.nil fun a ha => ⟨W, v, rfl, Ext.refl W, ha, rfl, trivial⟩
theorem D.rel {v : Value} {R : GW → Value → Prop} (e : Ext W1 W) (h : R W v) (m : MonoR R) : JO P n ops [] (.l (DStop n E W1 d (.rel R)) :: K) fin ((d, v) :: E) W :=
  JO.nil fun a ha => ⟨W, v, rfl, e, ha, h, m⟩
end

def dstD (l : List Oper) (i : Nat) : Nat := match l, i with
  | [], _ => 0
  | o :: _, 0 => match o.dst with | some d => d | none => 0
  | _ :: l, i + 1 => dstD l i
def spD (sp : List Sp) (i : Nat) : Sp := match sp, i with
  | [], _ => .ex undef
  | s :: _, 0 => s
  | _ :: l, i + 1 => spD l i
/-- For all values that are as said: the entries stand in the list. -/
def WithD (l : List Oper) (sp : List Sp) (W : GW) : List Nat → Env → (Env → Prop) → Prop
  | [], acc, φ => φ acc
  | j :: js, acc, φ => match spD sp j with
    | .ex v => WithD l sp W js ((dstD l j, v) :: acc) φ
    | .rel R => ∀ x, R W x → WithD l sp W js ((dstD l j, x) :: acc) φ
theorem WithD.use {l : List Oper} {sp : List Sp} {W : GW} (vals : Nat → Value) (js : List Nat) (hv : ∀ j ∈ js, (spD sp j).ok W (vals j)) :
    ∀ {acc : Env} {φ : Env → Prop}, WithD l sp W js acc φ → φ ((js.reverse.map fun j => (dstD l j, vals j)) ++ acc) := by
  induction js with
  | nil => intro acc φ h; exact h
  | cons j js ih =>
    intro acc φ h
    have hj := hv j (List.mem_cons_self ..)
    have ht := fun k hk => hv k (List.mem_cons_of_mem _ hk)
    simp only [WithD] at h
    cases hs : spD sp j with
    | ex v =>
      rw [hs] at h hj
      have hj' : vals j = v := hj
      have := ih ht h
      simpa [hj'] using this
    | rel R =>
      rw [hs] at h hj
      have := ih ht (h (vals j) hj)
      simpa using this

def bnd (e : Edge) : Bool := Region.binds .any e
/-- The operations that must lie behind this one. -/
def depsD (o : Oper) : List Nat := (o.after.toList.filter bnd).map (·.on)
def depsAt (l : List Oper) (i : Nat) : List Nat := match l, i with
  | [], _ => []
  | o :: _, 0 => depsD o
  | _ :: l, i + 1 => depsAt l i

/-- each operation of the cloud -/
def CloudH (P : Program) (n : Nat) (L : List Oper) (K : List Kt) (fin : Exit → Act → World → Prop) (sp : List Sp) (env : Env) (W : GW) : Nat → List Oper → List Sp → Prop
  | _, _, [] => True
  | _, [], _ :: _ => False
  | i, o :: l, s :: ss => (∀ W1, Lk1 W W1 → Ext W W1 → ∀ tl : Env, WithD L sp W1 (depsD o) (env ++ tl) fun E => JO P n L.toArray [o] (.l (DStop n E W1 (dstD L i) s) :: K) fin E W1) ∧ CloudH P n L K fin sp env W (i + 1) l ss

def inE (env : Env) (d : Nat) : Bool := match look env d with
  | some _ => true
  | none => false
/-- The closed facts: the first k operations write slots of their own; whatever lies behind them comes in order. -/
def cloudOk (n : Nat) (env : Env) (L : List Oper) (k : Nat) : Bool :=
  opsOk n L && (List.range L.length).all (fun i => (depsAt L i).all (fun j => Nat.blt j i)) &&
  (List.range k).all (fun i => match dstAt L i with
    | some d => !inE env d && (List.range i).all (fun j => match dstAt L j with | some e => !(Nat.beq d e) | none => false)
    | none => false) &&
  (List.range L.length).all (fun i => Nat.ble i k || (depsAt L i).contains (i - 1)) && (Nat.ble L.length k || (List.range k).all (fun j => (ancs L (L.length) k).contains j))
where
  ancs (L : List Oper) : Nat → Nat → List Nat
    | 0, _ => []
    | f + 1, i => (depsAt L i).flatMap fun j => j :: ancs L f j

section
variable {P : Program} {n : Nat} {K : List Kt} {fin : Exit → Act → World → Prop} {env : Env} {W : GW}

theorem depsAt_eq (l : List Oper) (i : Nat) (o : Oper) (h : l[i]? = some o) : depsAt l i = depsD o := by
  induction l generalizing i with
  | nil => simp at h
  | cons a l ih => cases i with
    | zero => simp at h; subst h; rfl
    | succ i => simp only [depsAt]; exact ih i (by simpa using h)
theorem dstD_of {l : List Oper} {i d : Nat} (h : dstAt l i = some d) : dstD l i = d := by
  induction l generalizing i with
  | nil => simp [dstAt] at h
  | cons a l ih => cases i with
    | zero => simp only [dstAt] at h; simp only [dstD, h]
    | succ i => simp only [dstAt] at h; simp only [dstD]; exact ih h

theorem CloudH.at' {L : List Oper} {sp : List Sp} {i0 : Nat} {l : List Oper} {ss : List Sp} (h : CloudH P n L K fin sp env W i0 l ss) (hsp : ∀ j, j < ss.length → spD sp (i0 + j) = spD ss j) {i : Nat} (hi : i < ss.length) :
    ∃ o, l[i]? = some o ∧ ∀ W1, Lk1 W W1 → Ext W W1 → ∀ tl : Env, WithD L sp W1 (depsD o) (env ++ tl) fun E => JO P n L.toArray [o] (.l (DStop n E W1 (dstD L (i0 + i)) (spD sp (i0 + i))) :: K) fin E W1 := by
  induction ss generalizing i0 l i with
  | nil => simp at hi
  | cons s ss ih =>
    cases l with
    | nil => exact h.elim
    | cons o l =>
      obtain ⟨h1, h2⟩ := h
      cases i with
      | zero =>
        have := hsp 0 (by simp)
        simp only [spD, Nat.add_zero] at this
        refine ⟨o, rfl, ?_⟩
        rw [Nat.add_zero, this]
        exact h1
      | succ i =>
        have := ih h2 (fun j hj => by
          have := hsp (j + 1) (by simpa using hj)
          simp only [spD] at this
          rw [← this]; congr 1; omega) (by simpa using hi)
        obtain ⟨o', ho', h'⟩ := this
        refine ⟨o', by simpa using ho', ?_⟩
        rw [show i0 + (i + 1) = i0 + 1 + i from by omega]
        exact h'

/-- What is known while the cloud runs: `ls i` says that operation i is done. -/
structure Cl (n : Nat) (L : List Oper) (sp : List Sp) (env : Env) (W : GW) (ls : Nat → Bool) (a : Act) (w : World) : Prop where
  ex : ∃ (W1 : GW) (vals : Nat → Value), W1.w = w ∧ Ext W W1 ∧ (∀ i, i < sp.length → ls i = true → (spD sp i).ok W1 (vals i) ∧ (spD sp i).mono ∧ a.tmps.getD (dstD L i) undef = vals i)
  defers : a.defers = []
  size : a.tmps.size = n
  env : ∀ t v, look env t = some v → a.tmps.getD t undef = v

theorem look_append (e f : Env) (t : Nat) : look (e ++ f) t = match look e t with | some v => some v | none => look f t := by
  induction e with
  | nil => simp [look]
  | cons p e ih =>
    obtain ⟨s, v⟩ := p
    rw [List.cons_append, look_cons, look_cons, ih]
    by_cases h : t = s <;> simp [h]

/-- all slots -/
def allEnv (tm : Array Value) : Nat → Env
  | 0 => []
  | k + 1 => (k, tm.getD k undef) :: allEnv tm k
theorem look_allEnv (tm : Array Value) (k t : Nat) : look (allEnv tm k) t = if t < k then some (tm.getD t undef) else none := by
  induction k with
  | zero => simp [allEnv, look]
  | succ k ih =>
    simp only [allEnv]
    rw [look_cons, ih]
    by_cases h : t = k
    · subst h; simp
    · rw [if_neg h]
      by_cases h2 : t < k
      · rw [if_pos h2, if_pos (by omega)]
      · rw [if_neg h2, if_neg (by omega)]

theorem countP_lt {p q : Nat → Bool} {l : List Nat} {i : Nat} (hi : i ∈ l) (hp : p i = true) (hq : q i = false) (hpq : ∀ j, q j = true → p j = true) : l.countP q < l.countP p := by
  induction l with
  | nil => cases hi
  | cons a l ih =>
    rw [List.countP_cons, List.countP_cons]
    have hle : l.countP q ≤ l.countP p := List.countP_mono_left fun x _ h => hpq x h
    rcases List.mem_cons.1 hi with rfl | hi
    · simp [hp, hq]; omega
    · have := ih hi
      have h2 : (if q a = true then 1 else 0) ≤ (if p a = true then 1 else 0) := by
        by_cases h : q a = true
        · rw [if_pos h, if_pos (hpq a h)]; exact Nat.le_refl _
        · rw [if_neg h]; exact Nat.zero_le _
      omega

theorem go_acc (m : Region.Mode) (ops : Array Oper) (f : Nat) : ∀ (t : Nat) (ls : Array Bool) (acc : List Nat), Region.linearise.go m ops f t ls acc = acc.reverse ++ Region.linearise.go m ops f t ls [] := by
  induction f with
  | zero => intro t ls acc; simp [Region.linearise.go]
  | succ f ih =>
    intro t ls acc
    simp only [Region.linearise.go]
    split
    · rename_i i hi
      rw [ih _ _ (i :: acc), ih _ _ [i]]
      simp
    · simp

/-- ready operations -/
def rdy (L : List Oper) (ls : Array Bool) : List Nat :=
  (List.range L.toArray.size).filter fun i => !ls.getD i true && ((L.toArray[i]?).map (·.after.all fun e => !Region.binds .any e || ls.getD e.on false)).getD false
theorem rdy_mem {L : List Oper} {ls : Array Bool} (hs : ls.size = L.length) {i : Nat} : i ∈ rdy L ls ↔ ∃ o, L[i]? = some o ∧ ls.getD i false = false ∧ ∀ j ∈ depsD o, ls.getD j false = true := by
  unfold rdy
  rw [List.mem_filter]
  constructor
  · rintro ⟨h1, h2⟩
    have hi : i < L.length := by simpa using List.mem_range.1 h1
    rw [Bool.and_eq_true] at h2
    obtain ⟨h2, h3⟩ := h2
    have ho : L[i]? = some L[i] := List.getElem?_eq_getElem hi
    refine ⟨L[i], ho, ?_, ?_⟩
    · have : i < ls.size := by omega
      simp [Array.getD, this] at h2 ⊢
      exact h2
    · intro j hj
      have ho' : L.toArray[i]? = some L[i] := by simp
      rw [ho'] at h3
      simp only [Option.map_some, Option.getD_some] at h3
      rw [Array.all_eq_true'] at h3
      simp only [depsD, List.mem_map, List.mem_filter] at hj
      obtain ⟨e, ⟨he, hb⟩, rfl⟩ := hj
      have := h3 e (by simpa using he)
      have hb' : Region.binds .any e = true := hb
      rw [hb'] at this
      simpa using this
  · rintro ⟨o, ho, h2, h3⟩
    have hi : i < L.length := by
      by_cases h : i < L.length
      · exact h
      · rw [List.getElem?_eq_none (by omega)] at ho; cases ho
    refine ⟨by simpa using hi, ?_⟩
    rw [Bool.and_eq_true]
    refine ⟨?_, ?_⟩
    · have : i < ls.size := by omega
      simp [Array.getD, this] at h2 ⊢
      exact h2
    · have ho' : L.toArray[i]? = some o := by simpa using ho
      rw [ho']
      simp only [Option.map_some, Option.getD_some]
      rw [Array.all_eq_true']
      intro e he
      cases hb : Region.binds .any e with
      | false => rfl
      | true =>
        have := h3 e.on (by simp only [depsD, List.mem_map, List.mem_filter]; exact ⟨e, ⟨by simpa using he, hb⟩, rfl⟩)
        simp [this]

/-- The tail: all before i is listed, nothing behind: what is left comes in order. -/
theorem go_tail {L : List Oper} (hl : ∀ i, i < L.length → ∀ j ∈ depsAt L i, j < i) (f : Nat) : ∀ (i t : Nat) (ls : Array Bool), ls.size = L.length → i + f = L.length →
    (∀ j, j < i → ls.getD j false = true) → (∀ j, i ≤ j → ls.getD j false = false) → (∀ m, i < m → m < L.length → m - 1 ∈ depsAt L m) →
    Region.linearise.go .any L.toArray f t ls [] = List.range' i f := by
  induction f with
  | zero => intro i t ls _ _ _ _ _; simp [Region.linearise.go]
  | succ f ih =>
    intro i t ls hs hf h1 h2 h3
    have hr : rdy L ls = [i] := by
      have hmem : ∀ x, x ∈ rdy L ls ↔ x = i := by
        intro x
        rw [rdy_mem hs]
        constructor
        · rintro ⟨o, ho, hx, hd⟩
          have hx1 : x < L.length := by
            by_cases h : x < L.length
            · exact h
            · rw [List.getElem?_eq_none (by omega)] at ho; cases ho
          by_cases hlt : x < i
          · rw [h1 x hlt] at hx; cases hx
          · by_cases he : x = i
            · exact he
            · have hy := h3 x (by omega) hx1
              rw [depsAt_eq L x o ho] at hy
              have := hd _ hy
              rw [h2 (x - 1) (by omega)] at this; cases this
        · rintro rfl
          have hx1 : x < L.length := by omega
          refine ⟨L[x], List.getElem?_eq_getElem hx1, h2 x (Nat.le_refl _), fun j hj => h1 j ?_⟩
          exact hl x hx1 j (by rw [depsAt_eq L x _ (List.getElem?_eq_getElem hx1)]; exact hj)
      have hnd : (rdy L ls).Nodup := List.Pairwise.filter _ List.nodup_range
      match hq : rdy L ls with
      | [] => have := (hmem i).2 rfl; rw [hq] at this; cases this
      | [x] => have := (hmem x).1 (by rw [hq]; exact List.mem_cons_self ..); rw [this]
      | x :: y :: r =>
        have e1 := (hmem x).1 (by rw [hq]; exact List.mem_cons_self ..)
        have e2 := (hmem y).1 (by rw [hq]; simp)
        rw [hq] at hnd
        have := (List.nodup_cons.1 hnd).1
        rw [e1, e2] at this
        simp at this
    have hgo : Region.linearise.go .any L.toArray (f + 1) t ls [] = match (rdy L ls)[t % (rdy L ls).length]? with | some i => Region.linearise.go .any L.toArray f (t / (rdy L ls).length) (ls.setIfInBounds i true) [i] | none => [] := rfl
    rw [hgo, hr]
    simp only [List.length_cons, List.length_nil, Nat.zero_add, Nat.mod_one, List.getElem?_cons_zero]
    rw [go_acc, List.range'_succ]
    have hi : i < ls.size := by omega
    rw [ih (i + 1) _ _ (by simpa using hs) (by omega) (fun j hj => by
        by_cases he : j = i
        · subst he; simp [Array.getD, hi]
        · have := h1 j (by omega)
          have hj' : j < ls.size := by omega
          simp [Array.getD, hj', Array.getElem_setIfInBounds, Ne.symm he] at this ⊢
          exact this)
      (fun j hj => by
        have := h2 j (by omega)
        by_cases hj' : j < ls.size
        · simp [Array.getD, hj', Array.getElem_setIfInBounds, show ¬ i = j from by omega] at this ⊢
          exact this
        · simp [Array.getD, hj'])
      (fun m hm hm2 => h3 m (by omega) hm2)]
    rfl

theorem ancs_listed {L : List Oper} {p : Nat → Bool} (hcl : ∀ i, i < L.length → p i = true → ∀ j ∈ depsAt L i, p j = true) (hl : ∀ i, i < L.length → ∀ j ∈ depsAt L i, j < i) (f : Nat) :
    ∀ i, i < L.length → (∀ j ∈ depsAt L i, p j = true) → ∀ j ∈ cloudOk.ancs L f i, p j = true := by
  induction f with
  | zero => intro i _ _ j hj; simp [cloudOk.ancs] at hj
  | succ f ih =>
    intro i hi hd j hj
    simp only [cloudOk.ancs, List.mem_flatMap] at hj
    obtain ⟨y, hy, hj⟩ := hj
    rcases List.mem_cons.1 hj with rfl | hj
    · exact hd _ hy
    · have hyl : y < L.length := Nat.lt_trans (hl i hi y hy) hi
      exact ih y hyl (hcl y hyl (hd y hy)) j hj

structure CloudF (n : Nat) (env : Env) (L : List Oper) (k : Nat) : Prop where
  ok : opsOk n L = true
  low : ∀ i, i < L.length → ∀ j ∈ depsAt L i, j < i
  dst : ∀ i, i < k → ∃ d, dstAt L i = some d ∧ look env d = none ∧ ∀ j, j < i → ∃ e, dstAt L j = some e ∧ d ≠ e
  tail : ∀ m, k < m → m < L.length → m - 1 ∈ depsAt L m
  anc : k < L.length → ∀ j, j < k → j ∈ cloudOk.ancs L L.length k
theorem cloudF {n : Nat} {env : Env} {L : List Oper} {k : Nat} (h : cloudOk n env L k = true) : CloudF n env L k := by
  simp only [cloudOk, Bool.and_eq_true] at h
  obtain ⟨⟨⟨⟨h1, h2⟩, h3⟩, h4⟩, h5⟩ := h
  refine ⟨h1, fun i hi j hj => ?_, fun i hi => ?_, fun m hm hm2 => ?_, fun hk j hj => ?_⟩
  · have := List.all_eq_true.1 h2 i (List.mem_range.2 hi)
    have := List.all_eq_true.1 this j hj
    simpa using this
  · have := List.all_eq_true.1 h3 i (List.mem_range.2 hi)
    split at this
    · rename_i d hd
      rw [Bool.and_eq_true] at this
      obtain ⟨g1, g2⟩ := this
      refine ⟨d, hd, ?_, fun j hj => ?_⟩
      · cases hl : look env d with
        | none => rfl
        | some v => simp [inE, hl] at g1
      · have := List.all_eq_true.1 g2 j (List.mem_range.2 hj)
        split at this
        · rename_i e he
          refine ⟨e, he, ?_⟩
          intro h; subst h; simp at this
        · cases this
    · cases this
  · have := List.all_eq_true.1 h4 m (List.mem_range.2 hm2)
    rw [Bool.or_eq_true] at this
    rcases this with h | h
    · have := Nat.le_of_ble_eq_true h; omega
    · simpa using h
  · rw [Bool.or_eq_true] at h5
    rcases h5 with h | h
    · have := Nat.le_of_ble_eq_true h; omega
    · have := List.all_eq_true.1 h j (List.mem_range.2 hj)
      simpa using this

theorem Oper.wp_mono2 {o : Oper} {a : Act} {w : World} {K1 K2 : Act → World → Prop} {Q1 Q2 : Exit → Act → World → Prop} (h : ∀ a w, K1 a w → K2 a w) (hq : ∀ e a w, e ≠ .normal → Q1 e a w → Q2 e a w)
    (hh : o.wp P a w K1 Q1) : o.wp P a w K2 Q2 := by
  unfold Oper.wp at *
  have hL : LetsOut Q1 → LetsOut Q2 := fun ⟨a, w, q⟩ => ⟨a, w, hq _ _ _ (by simp) q⟩
  generalize (execOp a.eval o).run P w = r at *
  cases r with
  | ok n w' =>
    cases n <;> simp only [Oper.upon] at hh ⊢ <;>
      first
        | exact h _ _ hh
        | exact Calls.mono hh (fun e w'' he => by cases e <;> first | exact h _ _ he | exact hq _ _ _ (by simp) he | exact hL he)
        | exact Rows.mono hh (fun _ _ he => h _ _ he)
  | halt x w' => cases x <;> simp only [Oper.upon] at hh ⊢ <;> first | exact hh | exact hq _ _ _ (by simp) hh

theorem cnt_range (k m : Nat) (p : Nat → Bool) (h1 : ∀ j, j < k → p j = false) (h2 : ∀ j, k ≤ j → p j = true) : (List.range m).countP p = m - k := by
  induction m with
  | zero => simp
  | succ m ih =>
    rw [List.range_succ, List.countP_append, ih]
    by_cases h : m < k
    · simp [h1 m h]; omega
    · simp [h2 m (by omega)]; omega

/-- all of the cloud is done -/
theorem cl_done {L : List Oper} {sp : List Sp} {ls : Nat → Bool} {a : Act} {w : World} (F : CloudF n env L sp.length) (h : Cl n L sp env W ls a w) (hall : ∀ j, j < sp.length → ls j = true)
    (tail : ∀ W1, Ext W W1 → WithD L sp W1 (List.range sp.length) env fun E => JO P n L.toArray (L.drop sp.length) K fin E W1) : wpL P L.toArray (Done P fin K) (L.drop sp.length) a w := by
  obtain ⟨W1, vals, hw, he, hv⟩ := h.ex
  have h1 := WithD.use vals (List.range sp.length) (fun j hj => (hv j (List.mem_range.1 hj) (hall j (List.mem_range.1 hj))).1) (tail W1 he)
  have hok : opsOk n (L.drop sp.length) = true := by
    have : ∀ (k : Nat) (l : List Oper), opsOk n l = true → opsOk n (l.drop k) = true := by
      intro k
      induction k with
      | zero => intro l h; simpa using h
      | succ k ih => intro l h; cases l with
        | nil => simpa using h
        | cons o l => simp only [List.drop_succ_cons]; exact ih l (JO.unok h)
    exact this _ _ F.ok
  rw [← hw]
  refine h1 hok a ⟨h.defers, h.size, fun t v ht => ?_⟩
  rw [look_append] at ht
  have key : ∀ js : List Nat, (∀ j ∈ js, j < sp.length) → ∀ u, look (js.map fun j => (dstD L j, vals j)) t = some u → a.tmps.getD t undef = u := by
    intro js
    induction js with
    | nil => intro _ u hu; simp [look] at hu
    | cons j js ih =>
      intro hj u hu
      simp only [List.map_cons] at hu
      rw [look_cons] at hu
      have hj1 := hj j (List.mem_cons_self ..)
      by_cases hts : t = dstD L j
      · rw [if_pos hts] at hu
        injection hu with hu
        rw [hts, (hv j hj1 (hall j hj1)).2.2, hu]
      · rw [if_neg hts] at hu
        exact ih (fun x hx => hj x (List.mem_cons_of_mem _ hx)) u hu
  cases hl : look (((List.range sp.length).reverse.map fun j => (dstD L j, vals j))) t with
  | some u =>
    rw [hl] at ht
    injection ht with ht
    rw [← ht]
    exact key _ (fun j hj => List.mem_range.1 (List.mem_reverse.1 hj)) u hl
  | none =>
    rw [hl] at ht
    exact h.env t v ht

theorem draw_core {L : List Oper} {sp : List Sp} (F : CloudF n env L sp.length) (hk : sp.length ≤ L.length) (cloud : CloudH P n L K fin sp env W 0 L sp)
    (tail : ∀ W1, Ext W W1 → WithD L sp W1 (List.range sp.length) env fun E => JO P n L.toArray (L.drop sp.length) K fin E W1) (f : Nat) :
    ∀ (t : Nat) (ls : Array Bool) (a : Act) (w : World), ls.size = L.length → (∀ i, sp.length ≤ i → ls.getD i false = false) →
      (∀ i, i < L.length → ls.getD i false = true → ∀ j ∈ depsAt L i, ls.getD j false = true) →
      (List.range L.length).countP (fun i => !ls.getD i false) = f → Cl n L sp env W (fun i => ls.getD i false) a w →
      wpOps P L.toArray (Done P fin K) (Region.linearise.go .any L.toArray f t ls []) a w := by
  induction f with
  | zero =>
    intro t ls a w hs hb hcl hcnt hC
    have hall : ∀ j, j < L.length → ls.getD j false = true := by
      intro j hj
      have := List.countP_eq_zero.1 hcnt j (List.mem_range.2 hj)
      simpa using this
    have hkk : L.length = sp.length := by
      by_cases h : L.length ≤ sp.length
      · omega
      · have := hall sp.length (by omega)
        rw [hb sp.length (Nat.le_refl _)] at this; cases this
    have h1 := cl_done F hC (fun j hj => hall j (by omega)) tail
    rw [List.drop_eq_nil_of_le (by omega)] at h1
    simpa [Region.linearise.go, wpOps, wpL] using h1
  | succ f ih =>
    intro t ls a w hs hb hcl hcnt hC
    by_cases hall : ∀ j, j < sp.length → ls.getD j false = true
    · have hcount : L.length - sp.length = f + 1 := by
        rw [← hcnt]
        exact (cnt_range sp.length L.length (fun i => !ls.getD i false) (fun j hj => by simp [hall j hj]) (fun j hj => by simp [hb j hj])).symm
      rw [go_tail F.low (f + 1) sp.length t ls hs (by omega) hall hb F.tail]
      have h1 := wpOps_of (P := P) (ops := L.toArray) (Q := Done P fin K) (L.drop sp.length) sp.length a w (by simp) (cl_done F hC hall tail)
      rw [List.length_drop, hcount] at h1
      exact h1
    · have hex : ∃ j, j < sp.length ∧ ls.getD j false = false := by
        apply Classical.byContradiction
        intro hn
        apply hall
        intro j hj
        cases hv : ls.getD j false with
        | true => rfl
        | false => exact absurd ⟨j, hj, hv⟩ hn
      obtain ⟨j0, ⟨hj0, hj1⟩, hmin⟩ := exists_min _ hex
      have hready : j0 ∈ rdy L ls := by
        rw [rdy_mem hs]
        have hlt : j0 < L.length := by omega
        refine ⟨L[j0], List.getElem?_eq_getElem hlt, hj1, fun j hj => ?_⟩
        have hjl := F.low j0 hlt j (by rw [depsAt_eq L j0 _ (List.getElem?_eq_getElem hlt)]; exact hj)
        cases hv : ls.getD j false with
        | true => rfl
        | false => have := hmin j ⟨by omega, hv⟩; omega
      have hpos : 0 < (rdy L ls).length := List.length_pos_of_mem hready
      have hgo : Region.linearise.go .any L.toArray (f + 1) t ls [] = match (rdy L ls)[t % (rdy L ls).length]? with | some i => Region.linearise.go .any L.toArray f (t / (rdy L ls).length) (ls.setIfInBounds i true) [i] | none => [] := rfl
      have hlt := Nat.mod_lt t hpos
      rw [hgo, List.getElem?_eq_getElem hlt]
      generalize hi : (rdy L ls)[t % (rdy L ls).length] = i
      have him : i ∈ rdy L ls := by rw [← hi]; exact List.getElem_mem hlt
      obtain ⟨o, ho, hli, hdep⟩ := (rdy_mem hs).1 him
      have hil : i < L.length := by
        by_cases h : i < L.length
        · exact h
        · rw [List.getElem?_eq_none (by omega)] at ho; cases ho
      have hdi := depsAt_eq L i o ho
      have hik : i < sp.length := by
        apply Classical.byContradiction
        intro hn
        by_cases he : i = sp.length
        · have ha := ancs_listed (L := L) (p := fun i => ls.getD i false) hcl F.low L.length i hil (fun j hj => hdep j (by rw [← hdi]; exact hj))
          have := ha j0 (by rw [he]; exact F.anc (by omega) j0 hj0)
          rw [hj1] at this; cases this
        · have := hdep (i - 1) (by rw [← hdi]; exact F.tail i (by omega) hil)
          rw [hb (i - 1) (by omega)] at this; cases this
      simp only []
      rw [go_acc]
      show wpOps P L.toArray (Done P fin K) (i :: _) a w
      have ho' : L.toArray[i]? = some o := by simpa using ho
      simp only [wpOps, ho']
      obtain ⟨W1, vals, hw, he, hv⟩ := hC.ex
      obtain ⟨o2, ho2, hcl2⟩ := cloud.at' (fun j hj => by rw [Nat.zero_add]) hik
      rw [ho] at ho2
      injection ho2 with ho2
      subst ho2
      simp only [Nat.zero_add] at hcl2
      obtain ⟨d, hd, hde, hdd⟩ := F.dst i hik
      have hdn : d < n := by
        have : ∀ (l : List Oper) (i : Nat), opsOk n l = true → dstAt l i = some d → d < n := by
          intro l
          induction l with
          | nil => intro i _ h; simp [dstAt] at h
          | cons x l ih2 =>
            intro i hx h
            cases i with
            | zero =>
              simp only [dstAt] at h
              simp only [opsOk, h] at hx
              split at hx
              · rename_i hb; simpa using hb
              · cases hx
            | succ i => exact ih2 i (JO.unok hx) (by simpa [dstAt] using h)
        exact this L i F.ok hd
      have hdk : ∀ j ∈ depsD o, j < sp.length := fun j hj => by
        have := F.low i hil j (by rw [hdi]; exact hj); omega
      have hJ := WithD.use vals (depsD o) (fun j hj => (hv j (hdk j hj) (hdep j hj)).1) (hcl2 W1 ⟨he.toLeK⟩ he (allEnv a.tmps n))
      generalize hE : ((depsD o).reverse.map fun j => (dstD L j, vals j)) ++ (env ++ allEnv a.tmps n) = E at hJ
      have hRel : Rel n E a := by
        refine ⟨hC.defers, hC.size, fun t v ht => ?_⟩
        rw [← hE, look_append] at ht
        cases hl : look ((depsD o).reverse.map fun j => (dstD L j, vals j)) t with
        | some u =>
          rw [hl] at ht
          injection ht with ht
          rw [← ht]
          have key : ∀ js : List Nat, (∀ j ∈ js, j ∈ depsD o) → look (js.map fun j => (dstD L j, vals j)) t = some u → a.tmps.getD t undef = u := by
            intro js
            induction js with
            | nil => intro _ hu; simp [look] at hu
            | cons j js ih2 =>
              intro hj hu
              simp only [List.map_cons] at hu
              rw [look_cons] at hu
              have hj1 := hj j (List.mem_cons_self ..)
              by_cases hts : t = dstD L j
              · rw [if_pos hts] at hu
                injection hu with hu
                rw [hts, (hv j (hdk j hj1) (hdep j hj1)).2.2, hu]
              · rw [if_neg hts] at hu
                exact ih2 (fun x hx => hj x (List.mem_cons_of_mem _ hx)) hu
          exact key _ (fun j hj => List.mem_reverse.1 hj) hl
        | none =>
          rw [hl] at ht
          simp only [look_append] at ht
          cases hl2 : look env t with
          | some u =>
            rw [hl2] at ht
            injection ht with ht
            rw [← ht]
            exact hC.env t u hl2
          | none =>
            rw [hl2] at ht
            simp only [look_allEnv] at ht
            split at ht
            · injection ht
            · cases ht
      have hfull : ∀ t, t < n → ∃ u, look E t = some u := by
        intro t htn
        rw [← hE, look_append, look_append, look_allEnv, if_pos htn]
        split
        · exact ⟨_, rfl⟩
        · split
          · exact ⟨_, rfl⟩
          · exact ⟨_, rfl⟩
      have hoks : opsOk n [o] = true := by
        have hod : o.dst = some d := by
          have := dstAt_eq L i
          rw [hd, ho] at this
          simpa using this.symm
        simp only [opsOk, hod]
        have : Nat.blt d n = true := by simpa using hdn
        rw [this]
      have hrun := hJ hoks a hRel
      rw [hw] at hrun
      -- what the operation leaves serves the rest
      have hnext : ∀ a' w', DStop n E W1 (dstD L i) (spD sp i) a' w' → wpOps P L.toArray (Done P fin K) (Region.linearise.go .any L.toArray f (t / (rdy L ls).length) (ls.setIfInBounds i true) []) a' w' := by
        rintro a' w' ⟨W2, v, hw2, he2, hr2, hok2, hm2⟩
        rw [dstD_of hd] at hr2
        have hsame : ∀ t, t ≠ d → a'.tmps.getD t undef = a.tmps.getD t undef := by
          intro t htd
          by_cases htn : t < n
          · obtain ⟨u, hu⟩ := hfull t htn
            rw [hRel.has t u hu]
            exact hr2.has t u (by rw [look_cons, if_neg htd]; exact hu)
          · have h1 : ¬ t < a.tmps.size := by rw [hC.size]; exact htn
            have h2 : ¬ t < a'.tmps.size := by rw [hr2.size]; exact htn
            simp [Array.getD, h1, h2]
        have hisz : i < ls.size := by omega
        have hset : ∀ j, (ls.setIfInBounds i true).getD j false = if j = i then true else ls.getD j false := by
          intro j
          by_cases hji : j = i
          · subst hji; simp [Array.getD, hisz]
          · rw [if_neg hji]
            by_cases hjs : j < ls.size
            · simp [Array.getD, hjs, Array.getElem_setIfInBounds, Ne.symm hji]
            · simp [Array.getD, hjs]
        refine ih _ _ a' w' (by simpa using hs) (fun j hj => by rw [hset, if_neg (by omega)]; exact hb j hj) (fun x hx hlx j hj => ?_) ?_ ⟨⟨W2, fun j => if j = i then v else vals j, hw2, he.trans he2, fun j hj hlj => ?_⟩, hr2.defers, hr2.size, fun t u ht => ?_⟩
        · rw [hset] at hlx ⊢
          by_cases hji : j = i
          · rw [if_pos hji]
          · rw [if_neg hji]
            by_cases hxi : x = i
            · subst hxi
              exact hdep j (by rw [← hdi]; exact hj)
            · rw [if_neg hxi] at hlx
              exact hcl x hx hlx j hj
        · have hlt2 : (List.range L.length).countP (fun j => !(ls.setIfInBounds i true).getD j false) < (List.range L.length).countP (fun j => !ls.getD j false) :=
            countP_lt (List.mem_range.2 hil) (by simp [hli]) (by simp [hset]) (fun j hj => by
              rw [hset] at hj
              by_cases hji : j = i
              · rw [if_pos hji] at hj; cases hj
              · rw [if_neg hji] at hj; exact hj)
          have hge : (List.range L.length).countP (fun j => !ls.getD j false) ≤ (List.range L.length).countP (fun j => !(ls.setIfInBounds i true).getD j false) + 1 := by
            have : ∀ l : List Nat, l.Nodup → l.countP (fun j => !ls.getD j false) ≤ l.countP (fun j => !(ls.setIfInBounds i true).getD j false) + (if i ∈ l then 1 else 0) := by
              intro l
              induction l with
              | nil => intro _; simp
              | cons x l ih2 =>
                intro hnd
                have hnd2 := List.nodup_cons.1 hnd
                have := ih2 hnd2.2
                rw [List.countP_cons, List.countP_cons]
                by_cases hxi : x = i
                · subst hxi
                  rw [if_neg hnd2.1] at this
                  have e1 : (!ls.getD x false) = true := by rw [hli]; rfl
                  have e2 : (!(ls.setIfInBounds x true).getD x false) = false := by rw [hset, if_pos rfl]; rfl
                  rw [e1, e2, if_pos rfl, if_neg (by simp), if_pos (List.mem_cons_self ..)]
                  omega
                · have e : (!(ls.setIfInBounds i true).getD x false) = !ls.getD x false := by rw [hset, if_neg hxi]
                  rw [e]
                  have hm : (i ∈ x :: l) ↔ i ∈ l := by simp [Ne.symm hxi]
                  by_cases hil2 : i ∈ l
                  · rw [if_pos (hm.2 hil2)]; rw [if_pos hil2] at this; omega
                  · rw [if_neg (fun h => hil2 (hm.1 h))]; rw [if_neg hil2] at this; omega
            have := this (List.range L.length) List.nodup_range
            rw [if_pos (List.mem_range.2 hil)] at this
            exact this
          omega
        · by_cases hji : j = i
          · subst hji
            refine ⟨by simpa using hok2, hm2, ?_⟩
            rw [dstD_of hd]
            simpa using hr2.has d v (by rw [look_cons, if_pos rfl])
          · simp only [hset, if_neg hji] at hlj
            obtain ⟨g1, g2, g3⟩ := hv j hj hlj
            refine ⟨by simpa [hji] using Sp.up g2 he2 g1, g2, ?_⟩
            have hne : dstD L j ≠ d := by
              obtain ⟨dj, hdj, _, hjj⟩ := F.dst j hj
              rw [dstD_of hdj]
              by_cases hlt3 : j < i
              · obtain ⟨e, hee, hne⟩ := hdd j hlt3
                rw [hdj] at hee; injection hee with hee; rw [hee]; exact fun h => hne h.symm
              · obtain ⟨e, hee, hne⟩ := hjj i (by omega)
                rw [hd] at hee; injection hee with hee; rw [hee]; exact hne
            rw [hsame _ hne, g3]
            simp [hji]
        · have htd : t ≠ d := by
            intro h; subst h; rw [hde] at ht; cases ht
          rw [hsame t htd]
          exact hC.env t u ht
      simp only [wpL] at hrun
      split
      · rename_i hwant
        rw [if_pos hwant] at hrun
        exact .inl (Oper.wp_mono2 (fun a' w' h => hnext a' w' h) (fun e a' w' hne h => by cases e <;> first | exact absurd rfl hne | exact h) hrun)
      · rename_i hwant
        rw [if_neg hwant] at hrun
        exact hnext _ _ hrun

def GW.tick (W : GW) : GW where
  w := { W.w with drawn := W.w.drawn + 1 }
  A := W.A
  m := W.m
  hA := W.hA
  hm := W.hm
theorem tick_ext (W : GW) : Ext W W.tick where
  os := rfl
  out := rfl
  tape := rfl
  m := rfl
  size := Nat.le_refl _
  same := fun _ _ _ => rfl
  stay := fun _ _ h => h
  prot := fun _ _ h => h
  keep := fun _ h => h
  row := fun _ c _ _ h => ⟨c, h, rfl⟩
  all := fun _ _ => rfl

/-- THE RULE: the first operations, as many as `sp` has entries, in whatever order; the others behind them. -/
theorem J.draw [mx : Mx P] {id : Nat} {L : List Oper} (sp : List Sp) (hchk : cloudOk n env L sp.length = true) (hk : Nat.ble sp.length L.length = true) (cloud : CloudH P n L K fin sp env W 0 L sp)
    (tail : ∀ W1, Lk1 W W1 → Ext W W1 → WithD L sp W1 (List.range sp.length) env fun E => JO P n L.toArray (L.drop sp.length) K fin E W1) : J P n (.c (.region id L.toArray true) :: K) fin env W := by
  intro a ha
  refine wp_region_draw fun t => ?_
  have hs : Region.schedule (P.follows .mixedOrders) L.toArray t = Region.linearise.go .any L.toArray L.length t (Array.replicate L.length false) [] := by
    rw [mx.h]
    simp [Region.schedule, Region.linearise]
  rw [hs]
  have hf : ∀ i, (Array.replicate L.length false).getD i false = false := by
    intro i
    by_cases h : i < L.length <;> simp [Array.getD, h]
  refine draw_core (cloudF hchk) (Nat.le_of_ble_eq_true hk) cloud (fun W1 e => tail W1 ⟨e.toLeK⟩ e) L.length t _ a W.tick.w (by simp) (fun i _ => hf i) (fun i _ h => by rw [hf] at h; cases h) ?_
    ⟨⟨W.tick, fun _ => undef, rfl, tick_ext W, fun i _ h => by rw [hf] at h; cases h⟩, ha.defers, ha.size, ha.has⟩
  have := cnt_range 0 L.length (fun i => !(Array.replicate L.length false).getD i false) (fun j hj => by omega) (fun j _ => by rw [hf]; rfl)
  rw [this]; rfl
end
end
end Go.Rx

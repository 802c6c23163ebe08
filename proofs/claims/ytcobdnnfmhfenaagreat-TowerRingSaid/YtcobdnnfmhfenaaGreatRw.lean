/- The rules of the walk: memory, calls, entry and return. -/
import Derived.Test.YtcobdnnfmhfenaaGreatRz
set_option linter.unusedVariables false
set_option linter.unusedSimpArgs false
namespace Go.Rx
open Go

/-! ghost worlds after a new block, after a write -/
def GW.push (W : GW) (o : Obj) (lock : Bool) : GW where
  w := W.w.alloc o
  A := if lock then W.size :: W.A else W.A
  m := W.m
  hA := by
    intro k hk
    rw [World.size_alloc]
    cases lock with
    | true =>
      rcases List.mem_cons.1 hk with h | h
      · subst h; exact Nat.lt_succ_self _
      · exact Nat.lt_succ_of_lt (W.hA k h)
    | false => exact Nat.lt_succ_of_lt (W.hA k hk)
  hm := by rw [World.size_alloc]; exact Nat.le_succ_of_le W.hm

theorem heap_push (w : World) (o : Obj) (k : Nat) (h : k < w.heap.size) : (w.alloc o).heap[k]? = w.heap[k]? := by
  show (w.heap.push o)[k]? = _
  rw [Array.getElem?_push, if_neg (by omega)]
theorem heap_push_self (w : World) (o : Obj) : (w.alloc o).heap[w.heap.size]? = some o := by
  show (w.heap.push o)[w.heap.size]? = _
  rw [Array.getElem?_push, if_pos rfl]

theorem push_cells (W : GW) (c : Array Value) (T : TypeId) (lock : Bool) : (W.push (.cells c T) lock).w.heap[W.size]? = some (.cells c.toList.toArray T (0, 0)) := by
  rw [Array.toArray_toList]; exact heap_push_self ..
theorem GW.size_push (W : GW) (o : Obj) (b : Bool) : (W.push o b).size = W.size + 1 := World.size_alloc ..
theorem push_ext (W : GW) (o : Obj) (lock : Bool) : Ext W (W.push o lock) where
  os := rfl
  out := rfl
  tape := rfl
  m := rfl
  size := by rw [GW.size_push]; omega
  same := fun k hk _ => heap_push _ _ _ hk
  stay := fun k hk hn => by
    cases lock with
    | true => intro h; rcases List.mem_cons.1 h with h | h
              · exact absurd h (by have : k < W.w.heap.size := hk; omega)
              · exact hn h
    | false => exact hn
  prot := fun k _ hn => by
    cases lock with
    | true => exact List.mem_cons_of_mem _ hn
    | false => exact hn
  row := fun k c T fr hc => by
    have hk : k < W.w.heap.size := by
      by_cases h : k < W.w.heap.size
      · exact h
      · rw [Array.getElem?_eq_none (by omega)] at hc; cases hc
    exact ⟨c, by rw [← hc]; exact heap_push _ _ _ hk, rfl⟩
  keep := fun k hn => by
    cases lock with
    | true => exact List.mem_cons_of_mem _ hn
    | false => exact hn
  all := fun k hk => heap_push _ _ _ hk

/-- The world with another block. -/
def setB (w : World) (b : Nat) (o : Obj) : World := { w with heap := w.heap.setIfInBounds b o }
def GW.put (W : GW) (b : Nat) (o : Obj) : GW where
  w := setB W.w b o
  A := W.A
  m := W.m
  hA := fun k hk => by simpa [setB] using W.hA k hk
  hm := by simpa [setB] using W.hm
theorem GW.size_put (W : GW) (b : Nat) (o : Obj) : (W.put b o).size = W.size := by simp [GW.size, GW.put, setB]
theorem heap_put (w : World) (b : Nat) (o : Obj) (k : Nat) (h : k ≠ b) : (setB w b o).heap[k]? = w.heap[k]? := by
  simp only [setB, Array.getElem?_setIfInBounds]
  rw [if_neg (fun e => h e.symm)]
theorem heap_put_self (w : World) (b : Nat) (o : Obj) (h : b < w.heap.size) : (setB w b o).heap[b]? = some o := by
  simp only [setB, Array.getElem?_setIfInBounds, if_true, h]
theorem lt_of_heap {w : World} {b : Nat} {o : Obj} (h : w.heap[b]? = some o) : b < w.heap.size := by
  by_cases hb : b < w.heap.size
  · exact hb
  · rw [Array.getElem?_eq_none (by omega)] at h; cases h

/-! facts on blocks -/
/-- A variable that is written no more. -/
structure Blk (W : GW) (b : Nat) (cs : List Value) : Prop where
  nA : b ∉ W.A
  h : ∃ T fr, W.w.heap[b]? = some (.cells cs.toArray T fr)
theorem Blk.mono {W W' : GW} {b : Nat} {cs : List Value} (h : Blk W b cs) (l : LeF W W') : Blk W' b cs := by
  obtain ⟨T, fr, hb⟩ := h.h
  exact ⟨l.stay b (lt_of_heap hb) h.nA, T, fr, by rw [l.same b (lt_of_heap hb) h.nA]; exact hb⟩
theorem Blk.to {W W' : GW} {b : Nat} {cs : List Value} (h : Blk W b cs) [l : Lf W W'] : Blk W' b cs := h.mono l.s
theorem cell_of {w : World} {b : Nat} {cs : List Value} {T : TypeId} {fr : Nat × Nat} (h : w.heap[b]? = some (.cells cs.toArray T fr)) (i : Nat) : w.cell? ⟨b, i, none⟩ = cs[i]? := by
  simp [World.cell?, h]
theorem Blk.cell {W : GW} {b : Nat} {cs : List Value} (h : Blk W b cs) (i : Nat) : W.w.cell? ⟨b, i, none⟩ = cs[i]? := by
  obtain ⟨T, fr, hb⟩ := h.h
  exact cell_of hb i

/-- What a block holds just now. -/
def Cnt (W : GW) (b : Nat) (cs : List Value) : Prop := ∃ T, W.w.heap[b]? = some (.cells cs.toArray T (0, 0))
theorem Cnt.cell {W : GW} {b : Nat} {cs : List Value} (h : Cnt W b cs) (i : Nat) : W.w.cell? ⟨b, i, none⟩ = cs[i]? := by
  obtain ⟨T, hb⟩ := h
  exact cell_of hb i
theorem Cnt.ext {W W' : GW} {b : Nat} {cs : List Value} (h : Cnt W b cs) (e : Ext W W') : Cnt W' b cs := by
  obtain ⟨T, hb⟩ := h
  exact ⟨T, by rw [e.all b (lt_of_heap hb)]; exact hb⟩
/-- A variable of sz cells that the function may write. -/
structure Loc (W : GW) (b sz : Nat) : Prop where
  A : b ∈ W.A
  m : W.m ≤ b
  h : ∃ cs, Cnt W b cs ∧ cs.length = sz
theorem Loc.mono {W W' : GW} {b sz : Nat} (h : Loc W b sz) (l : LeK W W') : Loc W' b sz := by
  obtain ⟨cs, ⟨T, hb⟩, hs⟩ := h.h
  obtain ⟨c', h1, h2⟩ := l.row b _ _ _ hb
  exact ⟨l.keep b h.A, by rw [l.m]; exact h.m, c'.toList, ⟨T, by simpa using h1⟩, by simpa [hs] using h2⟩
theorem Loc.to {W W' : GW} {b sz : Nat} (h : Loc W b sz) [l : Lk W W'] : Loc W' b sz := h.mono l.s

theorem put_lek (W : GW) (b : Nat) (c c' : Array Value) (T : TypeId) (fr : Nat × Nat) (hb : W.w.heap[b]? = some (.cells c T fr)) (hA : b ∈ W.A) (hm : W.m ≤ b) (hs : c'.size = c.size) : LeK W (W.put b (.cells c' T fr)) where
  os := rfl
  out := rfl
  tape := rfl
  m := rfl
  size := by rw [GW.size_put]; exact Nat.le_refl _
  same := fun k hk hp => heap_put _ _ _ _ (by
    rcases hp with hp | hp
    · omega
    · intro h; subst h; exact hp hA)
  stay := fun _ _ h => h
  prot := fun _ _ h => h
  keep := fun _ h => h
  row := fun k d U fs hd => by
    by_cases h : k = b
    · subst h
      rw [hb] at hd
      injection hd with hd
      injection hd with h1 h2 h3
      subst h1; subst h2; subst h3
      exact ⟨c', heap_put_self _ _ _ (lt_of_heap hb), hs⟩
    · exact ⟨d, by rw [← hd]; exact heap_put _ _ _ _ h, rfl⟩

/-! the operations -/
def spl (c : List Value) (o : Nat) : List Value → List Value
  | [] => c
  | v :: vs => spl (c.set o v) (o + 1) vs
theorem spl_length (c : List Value) (o : Nat) (vs : List Value) : (spl c o vs).length = c.length := by
  induction vs generalizing c o with
  | nil => rfl
  | cons v vs ih => simp [spl, ih]
theorem spl_get (c : List Value) (o : Nat) (vs : List Value) (i : Nat) (ho : o + vs.length ≤ c.length) :
    (spl c o vs)[i]? = if o ≤ i ∧ i < o + vs.length then vs[i - o]? else c[i]? := by
  induction vs generalizing c o with
  | nil => simp only [spl, List.length_nil]; rw [if_neg (by omega)]
  | cons v vs ih =>
    simp only [spl, List.length_cons] at ho ⊢
    rw [ih (c.set o v) (o + 1) (by simp; omega)]
    by_cases h1 : i = o
    · subst h1
      rw [if_neg (by omega), if_pos (by omega), List.getElem?_set_self (by omega)]
      simp
    · by_cases h2 : o + 1 ≤ i ∧ i < o + 1 + vs.length
      · rw [if_pos h2, if_pos (by omega), show i - o = (i - (o + 1)) + 1 from by omega]
        simp
      · rw [if_neg h2, if_neg (by omega), List.getElem?_set_ne (fun e => h1 e.symm)]
theorem spl_full (c vs : List Value) (h : vs.length = c.length) : spl c 0 vs = vs := by
  apply List.ext_getElem?
  intro i
  rw [spl_get _ _ _ _ (by omega)]
  by_cases hi : i < vs.length
  · rw [if_pos (by omega)]; simp
  · rw [if_neg (by omega), List.getElem?_eq_none (by omega), List.getElem?_eq_none (by omega)]

section
variable {P : Program}
theorem setCell_eq {w : World} {b : Nat} {c : List Value} {T : TypeId} {fr : Nat × Nat} (hb : w.heap[b]? = some (.cells c.toArray T fr)) (i : Nat) (v : Value) :
    w.setCell ⟨b, i, none⟩ v = setB w b (.cells (c.set i v).toArray T fr) := by
  unfold World.setCell setB
  congr 1
  apply Array.ext_getElem?
  intro k
  simp only [Array.getElem?_modify, Array.getElem?_setIfInBounds]
  by_cases h : b = k
  · subst h
    rw [if_pos rfl, if_pos rfl, if_pos (lt_of_heap hb), hb]
    simp
  · rw [if_neg h, if_neg h]
theorem setB_same {w : World} {b : Nat} {o : Obj} (hb : w.heap[b]? = some o) : setB w b o = w := by
  unfold setB
  have : w.heap.setIfInBounds b o = w.heap := by
    apply Array.ext_getElem?
    intro k
    simp only [Array.getElem?_setIfInBounds]
    by_cases h : b = k
    · subst h; rw [if_pos rfl, if_pos (lt_of_heap hb), hb]
    · rw [if_neg h]
  rw [this]
theorem setB_setB (w : World) (b : Nat) (o o' : Obj) : setB (setB w b o) b o' = setB w b o' := by
  unfold setB
  congr 1
  apply Array.ext_getElem?
  intro k
  simp only [Array.getElem?_setIfInBounds, Array.size_setIfInBounds]
  by_cases h : b = k <;> simp [h]
theorem run_storeCells {b off : Nat} {T : TypeId} (vs : List Value) : ∀ (w : World) (i : Nat) (c : List Value), w.heap[b]? = some (.cells c.toArray T (0, 0)) →
    off + i + vs.length ≤ c.length → (∀ v ∈ vs, oneC v = true) → (storeCells ⟨b, off, none⟩ vs i).run P w = .ok () (setB w b (.cells (spl c (off + i) vs).toArray T (0, 0))) := by
  induction vs with
  | nil => intro w i c hb _ _; simp only [storeCells, spl]; rw [setB_same hb]; rfl
  | cons v vs ih =>
    intro w i c hb hl h1
    simp only [List.length_cons] at hl
    have hc : w.cell? ⟨b, off + i, none⟩ = c[off + i]? := cell_of hb _
    have hlt : off + i < c.length := by omega
    rw [List.getElem?_eq_getElem hlt] at hc
    have hf : w.frozen? ⟨b, off + i, none⟩ = false := by simp [World.frozen?, hb]
    have hone := h1 v (List.mem_cons_self ..)
    have hst : (store (⟨b, off, none⟩ : Addr) v).run P w = (store (⟨b, off, none⟩ : Addr) v).run P w := rfl
    have hrun : (store ((⟨b, off, none⟩ : Addr).add i) v).run P w = .ok () (setB w b (.cells (c.set (off + i) v).toArray T (0, 0))) := by
      rw [add0, ← setCell_eq hb]
      cases v <;> simp_all [store, Sem.run, oneC]
    simp only [storeCells]
    rw [Sem.run_bind, hrun]
    simp only [Result.andThen_ok]
    rw [ih _ (i + 1) (c.set (off + i) v) (heap_put_self _ _ _ (lt_of_heap hb)) (by simp; omega) (fun u hu => h1 u (List.mem_cons_of_mem _ hu)), setB_setB]
    rfl
end

section
variable {P : Program} {n : Nat} {ops : Array Oper} {l : List Oper} {K : List Kt} {fin : Exit → Act → World → Prop} {env : Env} {W : GW}
variable {d : Nat} {ty : TypeId} {pos : String} {aft : Array Edge}

/-- a parameter's variable -/
theorem O.box {T : TypeId} {x : Operand} {v : Value} (hx : get env x = some v)
    (k : ∀ W' b, Lk1 W W' → Blk W' b v.cells.toList → JO P n ops l K fin ((d, .pointer (some ⟨b, 0, none⟩)) :: env) W') : JO P n ops (⟨some d, .box T x, ty, pos, aft, none⟩ :: l) K fin env W := by
  refine JO.world (W' := W.push (.cells v.cells T) false) (v := .pointer (some ⟨W.size, 0, none⟩)) (fun a ha => ?_)
    (k _ _ ⟨(push_ext ..).toLeK⟩ ⟨fun h => Nat.lt_irrefl _ (W.hA _ h), T, (0, 0), push_cells ..⟩)
  simp only [execOp, ha.get hx]
  rfl
/-- a variable -/
theorem O.alloc {T sz : Nat} {ag : Bool} {z : List Value} [i : TVar P T sz ag z]
    (k : ∀ W' b, Lk1 W W' → Loc W' b z.length → Cnt W' b z → W.size ≤ b → JO P n ops l K fin ((d, .pointer (some ⟨b, 0, none⟩)) :: env) W') : JO P n ops (⟨some d, .alloc T, ty, pos, aft, none⟩ :: l) K fin env W := by
  obtain ⟨ii, v, e1, e2, e3, e4⟩ := i.i
  have hc : Cnt (W.push (.cells v.cells T) true) W.size z := ⟨T, by rw [← e4]; exact push_cells ..⟩
  refine JO.world (W' := W.push (.cells v.cells T) true) (v := .pointer (some ⟨W.size, 0, none⟩)) (fun a ha => ?_)
    (k _ _ ⟨(push_ext ..).toLeK⟩ ⟨List.mem_cons_self .., W.hm, z, hc, rfl⟩ hc (Nat.le_refl _))
  have hz : (zeroValue T).run P W.w = .ok v W.w := by simp [zeroValue, typeInfo, program, bind, Sem.bind, Sem.run, pure, e1, e3]
  simp only [execOp, Instr.alloc]
  rw [Sem.run_bind, Sem.run_bind, hz]
  rfl
theorem run_storeVar {T sz b off : Nat} {ag : Bool} {z : List Value} [i : TVar P T sz ag z] {w : World} {U : TypeId} {c : List Value} {v : Value} (hb : w.heap[b]? = some (.cells c.toArray U (0, 0)))
    (hs : v.cells.toList.length = sz) (hl : off + sz ≤ c.length) (h1 : ∀ u ∈ v.cells.toList, oneC u = true) :
    (storeVar T ⟨b, off, none⟩ v).run P w = .ok () (setB w b (.cells (spl c off v.cells.toList).toArray U (0, 0))) := by
  obtain ⟨ii, u, e1, e2, e3⟩ := i.i
  have h2 : (sizeOf T).run P w = .ok sz w := by simp [sizeOf, typeInfo, program, bind, Sem.bind, Sem.run, pure, e1, e2]
  unfold storeVar
  rw [Sem.run_bind, h2]
  have h3 : v.cells.size = sz := by simpa using hs
  simp only [Result.andThen_ok, h3]
  simp only [ne_eq, not_true, if_false]
  have := run_storeCells (P := P) (off := off) v.cells.toList w 0 c hb (by rw [hs]; omega) h1
  simpa using this
/-- a variable is written whole -/
theorem O.st {T sz b : Nat} {ag : Bool} {z : List Value} {x y : Operand} {v : Value} [i : TVar P T sz ag z] (hx : get env x = some (.pointer (some ⟨b, 0, none⟩))) (hy : get env y = some v)
    (hl : Loc W b sz) (hs : v.cells.toList.length = sz) (h1 : ∀ u ∈ v.cells.toList, oneC u = true)
    (k : ∀ W', Lk1 W W' → Cnt W' b v.cells.toList → JO P n ops l K fin env W') : JO P n ops (⟨none, .store T x y, ty, pos, aft, none⟩ :: l) K fin env W := by
  obtain ⟨cs, ⟨U, hb⟩, hsz⟩ := hl.h
  have hr := run_storeVar (P := P) (T := T) (off := 0) (v := v) hb hs (by omega) h1
  rw [spl_full _ _ (by omega)] at hr
  refine JO.unit (W' := W.put b (.cells v.cells.toList.toArray U (0, 0))) (fun a ha => ?_)
    (k _ ⟨put_lek W b _ _ U (0, 0) hb hl.A hl.m (by simp; simpa using hs.trans hsz.symm)⟩ ⟨U, heap_put_self _ _ _ (lt_of_heap hb)⟩)
  simp only [execOp, ha.get hx, ha.get hy, Instr.storeAt, Instr.sureAddr]
  rw [Sem.run_bind, Sem.run_bind]
  show Result.andThen (Result.andThen (Result.ok _ _) _) _ = _
  simp only [Result.andThen_ok]
  rw [hr]
  rfl
/-- a variable is made and written at once -/
theorem O.als {T sz : Nat} {ag : Bool} {z : List Value} {y : Operand} {v : Value} {ty' : TypeId} {pos' : String} {aft' : Array Edge} [i : TVar P T sz ag z] (hy : ∀ u, get ((d, u) :: env) y = some v)
    (hs : v.cells.toList.length = sz) (hz : z.length = sz) (h1 : ∀ u ∈ v.cells.toList, oneC u = true)
    (k : ∀ W' b, Lk1 W W' → Blk W' b v.cells.toList → JO P n ops l K fin ((d, .pointer (some ⟨b, 0, none⟩)) :: env) W') :
    JO P n ops (⟨some d, .alloc T, ty, pos, aft, none⟩ :: ⟨none, .store T (.tmp d) y, ty', pos', aft', none⟩ :: l) K fin env W := by
  obtain ⟨ii, u, e1, e2, e3, e4⟩ := i.i
  have hzr : (zeroValue T).run P W.w = .ok u W.w := by simp [zeroValue, typeInfo, program, bind, Sem.bind, Sem.run, pure, e1, e3]
  refine JO.world (W' := W.push (.cells u.cells T) false) (v := .pointer (some ⟨W.size, 0, none⟩)) (fun a ha => ?_) ?_
  · simp only [execOp, Instr.alloc]
    rw [Sem.run_bind, Sem.run_bind, hzr]
    rfl
  · have hb : (W.push (.cells u.cells T) false).w.heap[W.size]? = some (.cells z.toArray T (0, 0)) := by rw [← e4]; exact push_cells ..
    have hr := run_storeVar (P := P) (T := T) (off := 0) (v := v) hb hs (by omega) h1
    rw [spl_full _ _ (by omega)] at hr
    refine JO.unit (W' := W.push (.cells v.cells T) false) (fun a ha => ?_) (k _ _ ⟨(push_ext ..).toLeK⟩ ⟨fun h => Nat.lt_irrefl _ (W.hA _ h), T, (0, 0), push_cells ..⟩)
    have hyy := hy (.pointer (some ⟨W.size, 0, none⟩))
    have hp : get ((d, Value.pointer (some ⟨W.size, 0, none⟩)) :: env) (.tmp d) = some (.pointer (some ⟨W.size, 0, none⟩)) := by simp [get, look_cons]
    · simp only [execOp, ha.get hp, ha.get hyy, Instr.storeAt, Instr.sureAddr]
      rw [Sem.run_bind, Sem.run_bind]
      show Result.andThen (Result.andThen (Result.ok _ _) _) _ = _
      simp only [Result.andThen_ok]
      rw [hr]
      have : setB (W.push (.cells u.cells T) false).w W.size (.cells v.cells.toList.toArray T (0, 0)) = (W.push (.cells v.cells T) false).w := by
        show setB (W.w.alloc _) _ _ = W.w.alloc _
        unfold setB World.alloc
        congr 1
        apply Array.ext_getElem?
        intro k
        simp only [Array.getElem?_setIfInBounds, Array.getElem?_push, Array.size_push]
        by_cases h : W.size = k
        · subst h; simp
        · simp [h, Ne.symm h]
      rw [this]
      rfl

/-! reads of variables -/
def sub2 : List Value → Nat → Option (Value × Value)
  | a :: b :: _, 0 => some (a, b)
  | _ :: l, k + 1 => sub2 l k
  | _, _ => none
theorem sub2_get {cs : List Value} {o : Nat} {u v : Value} (h : sub2 cs o = some (u, v)) : cs[o]? = some u ∧ cs[o + 1]? = some v := by
  induction cs generalizing o with
  | nil => cases o <;> simp [sub2] at h
  | cons c cs ih =>
    cases o with
    | zero => cases cs with
      | nil => simp [sub2] at h
      | cons c' cs => simp [sub2] at h; simp [h]
    | succ o => simp only [sub2] at h; simpa using ih h
theorem O.ldB {T : TypeId} {z : List Value} {x : Operand} {b off : Nat} {cs : List Value} {v : Value} [i : TVar P T 1 false z] (hx : get env x = some (.pointer (some ⟨b, off, none⟩)))
    (hb : Blk W b cs) (hv : cs[off]? = some v) (k : JO P n ops l K fin ((d, v) :: env) W) : JO P n ops (⟨some d, .load T x, ty, pos, aft, none⟩ :: l) K fin env W :=
  O.ld (ag := false) (cs := [v]) hx rfl (fun j u hj => by
    match j, hj with
    | 0, hj => simp at hj; subst hj; rw [hb.cell]; exact hv
    | j + 1, hj => simp at hj) (fun _ => rfl) k
theorem O.ldB2 {T : TypeId} {z : List Value} {x : Operand} {b off : Nat} {cs : List Value} {u v : Value} [i : TVar P T 2 true z] (hx : get env x = some (.pointer (some ⟨b, off, none⟩)))
    (hb : Blk W b cs) (hv : sub2 cs off = some (u, v)) (k : JO P n ops l K fin ((d, .agg #[u, v]) :: env) W) : JO P n ops (⟨some d, .load T x, ty, pos, aft, none⟩ :: l) K fin env W :=
  O.ld (ag := true) (cs := [u, v]) hx rfl (fun j w hj => by
    obtain ⟨h1, h2⟩ := sub2_get hv
    match j, hj with
    | 0, hj => simp at hj; subst hj; rw [hb.cell]; exact h1
    | 1, hj => simp at hj; subst hj; rw [hb.cell]; exact h2
    | j + 2, hj => simp at hj) (fun h => Bool.noConfusion h) k
/-- the whole variable -/
theorem O.ldBw {T sz : Nat} {z : List Value} {x : Operand} {b : Nat} {cs : List Value} [i : TVar P T sz true z] (hx : get env x = some (.pointer (some ⟨b, 0, none⟩)))
    (hb : Blk W b cs) (hs : cs.length = sz) (k : JO P n ops l K fin ((d, .agg cs.toArray) :: env) W) : JO P n ops (⟨some d, .load T x, ty, pos, aft, none⟩ :: l) K fin env W :=
  O.ld (ag := true) (cs := cs) hx hs (fun j w hj => by rw [hb.cell]; simpa using hj) (fun h => Bool.noConfusion h) k
end
end Go.Rx

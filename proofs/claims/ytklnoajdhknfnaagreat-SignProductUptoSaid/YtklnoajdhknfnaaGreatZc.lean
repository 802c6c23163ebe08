/- Reading with a bound: what the statement's second form gives on the sizes of the data. -/
import Derived.Test.YtklnoajdhknfnaaGreatRows
import Derived.Test.YtklnoajdhknfnaaGreatZa
set_option linter.unusedVariables false
set_option linter.unusedSimpArgs false
set_option maxRecDepth 10000
namespace Go.Proofs.YtklnoajdhknfnaaGreat
open Go Go.Rx
section
theorem bulk_one {H : Type} (d : DataW H) : 1 ≤ Rows.uptoBulk d := by
  cases d with
  | lit l => cases l <;> simp [Rows.uptoBulk]
  | nil => simp [Rows.uptoBulk]
  | ptr d => simp [Rows.uptoBulk]
  | slice elems spare => simp [Rows.uptoBulk]
  | agg parts => simp [Rows.uptoBulk]
  | iface t d => simp [Rows.uptoBulk]
  | map entries => simp [Rows.uptoBulk]
  | held h => simp [Rows.uptoBulk]
theorem bulk_all {H : Type} (l : List (DataW H)) : Rows.uptoBulkAll l = (l.map Rows.uptoBulk).sum := by
  induction l with
  | nil => simp [Rows.uptoBulkAll]
  | cons x r ih => simp only [Rows.uptoBulkAll, ih, List.map_cons, List.sum_cons]
/-- how many values a datum has -/
class Bk (α : Type) where
  b : α → Nat
instance : Bk Bool := ⟨fun _ => 0⟩
instance : Bk Nat := ⟨fun _ => 0⟩
instance {α : Type} [i : Bk α] : Bk (List α) := ⟨fun l => (l.map fun x => i.b x + 1).sum⟩
instance {α β : Type} [i : Bk α] [j : Bk β] : Bk (α × β) := ⟨fun p => i.b p.1 + j.b p.2⟩
theorem Bk.len {α : Type} [i : Bk α] {l : List α} {N : Nat} (h : Bk.b l ≤ N) : l.length ≤ N := by
  have h1 : Bk.b l = (l.map fun x => i.b x + 1).sum := rfl
  have h2 : ∀ l : List α, l.length ≤ (l.map fun x => i.b x + 1).sum := by
    intro l
    induction l with
    | nil => exact Nat.zero_le _
    | cons y r ih => rw [List.map_cons, List.sum_cons, List.length_cons]; omega
  have := h2 l
  omega
theorem Bk.l {α β : Type} [i : Bk α] [j : Bk β] {p : α × β} {N : Nat} (h : Bk.b p ≤ N) : Bk.b p.1 ≤ N := by
  have : Bk.b p = i.b p.1 + j.b p.2 := rfl
  omega
/-- what the statement reads by type t is a datum of r, no larger than the reading -/
def ReadsB (P : Program) (t : TypeId) {α : Type} [Bk α] (r : Rep α) : Prop := ∀ (W : GW), W.A = [] → ∀ {H : Type} {enc : TypeId × Value → H} {spare : Nat → Bool} {held : Bool} {fuel : Nat} {cs : List Value} {x : DataW H × List MemPlace},
  DataW.trod enc P W.w 0 spare held fuel t cs = some x → ∃ i, r.At W cs i ∧ Bk.b i + 1 ≤ Rows.uptoBulk x.1
theorem readsB_bool {P : Program} {t : TypeId} (ht : P.underlying t = some .bool) : ReadsB P t RB := by
  intro W hA H enc spare held fuel cs x h
  obtain ⟨i, hi⟩ := reads_bool ht W hA h
  exact ⟨i, hi, bulk_one _⟩
theorem readsB_u32 {P : Program} {t : TypeId} (ht : P.underlying t = some (.int .u32)) : ReadsB P t RW := by
  intro W hA H enc spare held fuel cs x h
  obtain ⟨i, hi⟩ := reads_u32 ht W hA h
  exact ⟨i, hi, bulk_one _⟩
theorem readsB_slice {P : Program} {t e : TypeId} {α : Type} [bk : Bk α] {r : Rep α} (ht : P.underlying t = some (.slice e)) (he : ReadsB P e r) (hs : P.cellsOf e = r.size) (h0 : 0 < r.size) : ReadsB P t (RSl r) := by
  intro W hA H enc spare held fuel cs x h
  rcases DataW.trod_slice ht h with ⟨h1, _⟩ | ⟨a, len, cap, elems, rest, n, _, h1, hx0, hb, hl, hm, hlen, hel, _, _⟩
  · exact ⟨[], ⟨none, 0, 0, h1, nil_sl _ _ _⟩, bulk_one _⟩
  · have hcap : cap < 9223372036854775808 := by
      have : maxLen < 9223372036854775808 := by decide
      omega
    have hdat : ∀ i, i < len → ∃ cs' y d, W.w.cells? 0 (a.add (i * P.cellsOf e)) (P.cellsOf e) = some cs' ∧ r.At W cs' y ∧ elems[i]? = some d ∧ Bk.b y + 1 ≤ Rows.uptoBulk d.1 := by
      intro i hi
      have h2 := hel i hi
      rw [List.getElem?_eq_getElem (by omega)] at h2
      obtain ⟨cs', h3, h4⟩ := Option.bind_eq_some_iff.1 h2
      obtain ⟨y, hy, hb'⟩ := he W hA h4
      exact ⟨cs', y, _, h3, hy, List.getElem?_eq_getElem (by omega), hb'⟩
    have hlist : ∀ k, k ≤ len → ∃ ys : List α, ys.length = k ∧ (∀ i y, ys[i]? = some y → ∃ cs', W.w.cells? 0 (a.add (i * P.cellsOf e)) (P.cellsOf e) = some cs' ∧ r.At W cs' y) ∧ (ys.map fun x => bk.b x + 1).sum ≤ ((elems.take k).map fun d => Rows.uptoBulk d.1).sum := by
      intro k
      induction k with
      | zero => intro _; exact ⟨[], rfl, fun i y h => (nomatch h), Nat.zero_le _⟩
      | succ k ih =>
        intro hk
        obtain ⟨ys, h1, h2, h5⟩ := ih (by omega)
        obtain ⟨cs', y, d, h3, h4, h6, h7⟩ := hdat k (by omega)
        refine ⟨ys ++ [y], by simp [h1], fun i z hz => ?_, ?_⟩
        · by_cases hik : i < k
          · rw [List.getElem?_append_left (by omega)] at hz; exact h2 i z hz
          · rw [List.getElem?_append_right (by omega)] at hz
            by_cases hie : i = k
            · subst hie
              rw [h1, Nat.sub_self] at hz
              injection hz with hz
              subst hz
              exact ⟨cs', h3, h4⟩
            · rw [List.getElem?_eq_none (by simp; omega)] at hz; cases hz
        · rw [List.take_add_one, h6]
          simp only [List.map_append, List.sum_append, Option.toList, List.map_cons, List.map_nil, List.sum_cons, List.sum_nil, Nat.add_zero]
          exact Nat.add_le_add h5 h7
    obtain ⟨ys, hy1, hy2, hy3⟩ := hlist len (Nat.le_refl _)
    refine ⟨ys, ⟨some a, len, cap, h1, hy1.symm, hl, hcap, ?_⟩, ?_⟩
    · by_cases hz : len = 0
      · exact .inl (List.eq_nil_of_length_eq_zero (by omega))
      · obtain ⟨y0, hy0⟩ : ∃ y, ys[0]? = some y := ⟨_, List.getElem?_eq_getElem (by omega)⟩
        obtain ⟨cs0, h3, h4⟩ := hy2 0 y0 hy0
        obtain ⟨_, hl0, hc0⟩ := World.cells?_some h3
        have hcell0 := hc0 0 (by omega)
        have e0 : (a.add (0 * P.cellsOf e)).add 0 = a := by rw [Nat.zero_mul]; rfl
        rw [e0] at hcell0
        have hsome : ∃ v, cs0[0]? = some v := ⟨_, List.getElem?_eq_getElem (by omega)⟩
        obtain ⟨v0, hv0⟩ := hsome
        rw [hv0] at hcell0
        have hsp := cell_spot hcell0
        have hlt := cell_lt hcell0
        obtain ⟨b, off, sp⟩ := a
        have hsp' : sp = none := hsp
        subst hsp'
        refine .inr ⟨b, off, rfl, hlt, by rw [hA]; exact fun h => (nomatch h), fun i y hi => ?_⟩
        obtain ⟨cs', h5, h6⟩ := hy2 i y hi
        refine ⟨cs', h6, fun j v hj => ?_⟩
        obtain ⟨_, hl1, hc1⟩ := World.cells?_some h5
        have hjl : j < P.cellsOf e := by
          rw [← hl1]
          by_cases h : j < cs'.length
          · exact h
          · rw [List.getElem?_eq_none (by omega)] at hj; cases hj
        have := hc1 j hjl
        rw [add0, add0, hj, hs, Nat.add_assoc] at this
        exact this
    · rw [hx0]
      show (ys.map fun x => bk.b x + 1).sum + 1 ≤ Rows.uptoBulk (.slice (elems.map (·.1)) (rest.map (·.1)))
      rw [List.take_of_length_le (by omega)] at hy3
      simp only [Rows.uptoBulk, bulk_all, List.map_map]
      have e : (elems.map (Rows.uptoBulk ∘ fun x => x.1)) = elems.map fun d => Rows.uptoBulk d.1 := rfl
      rw [e]
      omega
/-- the fields of a struct -/
inductive FieldsB (P : Program) : List Field → Nat → {α : Type} → Bk α → Rep α → Prop where
  | one {f : Field} {o : Nat} {α : Type} {bk : Bk α} {r : Rep α} (h1 : f.offset = o) (h2 : ReadsB P f.type r) (h3 : P.cellsOf f.type = r.size) : FieldsB P [f] o bk r
  | cons {f : Field} {fs : List Field} {o : Nat} {α β : Type} {bk : Bk α} {bk2 : Bk β} {r : Rep α} {s : Rep β} (h1 : f.offset = o) (h2 : ReadsB P f.type r) (h3 : P.cellsOf f.type = r.size) (h4 : FieldsB P fs (o + r.size) bk2 s) : FieldsB P (f :: fs) o inferInstance (RP r s)
theorem FieldsB.read {P : Program} {fs : List Field} {o : Nat} {α : Type} {bk : Bk α} {r : Rep α} (hf : FieldsB P fs o bk r) {W : GW} (hA : W.A = []) {H : Type} {enc : TypeId × Value → H} {spare : Nat → Bool} {held : Bool} {n : Nat} {cs : List Value} :
    ∀ {xs : List (DataW H × List MemPlace)}, (∀ (i : Nat) (f : Field), fs[i]? = some f → DataW.trod enc P W.w 0 spare held n f.type ((cs.drop f.offset).take (P.cellsOf f.type)) = xs[i]?) → xs.length = fs.length → cs.length = o + r.size →
    ∃ i, r.At W (cs.drop o) i ∧ bk.b i ≤ Rows.uptoBulkAll (xs.map (·.1)) := by
  induction hf with
  | @one f o α bk r h1 h2 h3 =>
    intro xs h hx hl
    match xs, hx with
    | [x], _ =>
    have hx := h 0 f rfl
    rw [h1, h3, List.take_of_length_le (by rw [List.length_drop]; omega)] at hx
    obtain ⟨i, hi, hb⟩ := h2 W hA (x := x) hx
    refine ⟨i, hi, ?_⟩
    simp only [List.map_cons, List.map_nil, Rows.uptoBulkAll]
    omega
  | @cons f fs o α β bk bk2 r s h1 h2 h3 h4 ih =>
    intro xs h hx hl
    have hsz : (RP r s).size = r.size + s.size := rfl
    rw [hsz] at hl
    match xs, hx with
    | x :: xs, hx =>
    have h0 := h 0 f rfl
    rw [h1, h3] at h0
    obtain ⟨i, hi, hb⟩ := h2 W hA (x := x) h0
    obtain ⟨j, hj, hc⟩ := ih (xs := xs) (fun i g hg => h (i + 1) g hg) (by simpa using hx) (by omega)
    refine ⟨(i, j), ⟨_, _, ?_, hi, hj⟩, ?_⟩
    · rw [← List.drop_drop, List.take_append_drop]
    · simp only [List.map_cons, Rows.uptoBulkAll]
      show bk.b i + bk2.b j ≤ _
      omega
theorem readsB_struct {P : Program} {t : TypeId} {fs : Array Field} {α : Type} [bk : Bk α] {r : Rep α} (ht : P.underlying t = some (.struct fs)) (hf : FieldsB P fs.toList 0 bk r) (hs : P.cellsOf t = r.size) : ReadsB P t r := by
  intro W hA H enc spare held fuel cs x h
  obtain ⟨xs, n, _, rfl, hl, hxl, hx⟩ := DataW.trod_struct ht h
  obtain ⟨i, hi, hb⟩ := hf.read hA (enc := enc) (spare := spare) (held := held) (n := n) (cs := cs) (xs := xs) (fun i f hf => hx i f (by simpa using hf)) (by simpa using hxl) (by omega)
  refine ⟨i, by simpa using hi, ?_⟩
  simp only [Rows.uptoBulk]
  omega
theorem readsB_agg {P : Program} {t : TypeId} {fs : Array Field} {α : Type} [Bk α] {r : Rep α} (ht : P.underlying t = some (.struct fs)) (hr : ReadsB P t r) (hg : r.agg = true) {W : World} {base : Nat} {H : Type} {enc : TypeId × Value → H} {spare : Nat → Bool} {held : Bool} {v : Value} {d : DataW H} {p : List MemPlace}
    (hok : Value.okWide P W .any base t v) (h : DataW.Trod enc P W 0 spare held t v d p) : ∃ i, V r (gw0 W) v i ∧ Bk.b i + 1 ≤ Rows.uptoBulk d := by
  obtain ⟨cs, rfl⟩ := okWide_agg ht hok
  obtain ⟨fuel, h⟩ := h
  obtain ⟨i, hi, hb⟩ := hr (gw0 W) rfl h
  exact ⟨i, ⟨cs.toList, hi, by rw [hg]; simp [mkv]⟩, hb⟩
theorem bulk_bound {H : Type} {l : List (DataW H)} (hk : Rows.uptoSmall H l = true) : Rows.uptoBulkAll l ≤ 1048576 := of_decide_eq_true hk
end
section
theorem ownU : ownKnob Tryz.prog.godebug = none := by kernel_rfl
theorem laidOutU : laidOutB Tryz.prog = true := by kernel_rfl
open Go.ChangeShapes Go.WideShapes in
theorem reads_intU {P : Program} {t : TypeId} (ht : P.underlying t = some (.int .i64)) {W : World} {base : Nat} {H : Type} {enc : TypeId × Value → H} {spare : Nat → Bool} {held : Bool} {v : Value} {d : DataW H} {p : List MemPlace}
    (hok : Value.okWide P W .any base t v) (h : DataW.Trod enc P W 0 spare held t v d p) : ∃ z : Int, v = .int .i64 z ∧ -9223372036854775808 ≤ z ∧ z < 9223372036854775808 := by
  obtain ⟨z, rfl⟩ := okWide_int ht hok
  obtain ⟨fuel, h⟩ := h
  obtain ⟨n, h1, _, h2⟩ := DataW.trod_int ht h
  simp [Lit.wf, IntKind.min, IntKind.max, IntKind.signed, IntKind.bits] at h2
  have e : z = n := by
    have : [Value.int .i64 z] = [Value.int .i64 n] := h1
    simpa using this
  subst e
  exact ⟨z, rfl, by omega, by omega⟩
open Go.ChangeShapes Go.WideShapes Go.ChangeAt Go.RowKit in
theorem law1U {f : FuncId} {fn : Func} {s : ChangeSpec} {H : Type} {enc : TypeId × Value → H} {t0 : TypeId} {fs : Array Field} {α : Type} [Bk α] {r : Rep α} (ht : Tryz.prog.underlying t0 = some (.struct fs)) (hrd : ReadsB Tryz.prog t0 r) (hg : r.agg = true)
    (hc : Tryz.prog.readableRec t0 = true) (hcl : t0 < Tryz.prog.types.size) (hp : fn.params = #[t0]) (hr : fn.resultTypes = #[4]) (hv0 : s.vars = [])
    (hs : ∀ d : DataW H, s.fn H [d] = { results := [.lit (.bool true)], args := [d] })
    (law : ∀ (W : GW) (v : Value) (i : α), V r W v i → Bk.b i ≤ 1048576 → Ok Tryz.prog f [v] W fun _ r => r = .bool true)
    (W : World) (base : Nat) (args : Array Value) (ds gs : List (DataW H)) (before : List MemPlace)
    (hval : ∀ (j : Nat) t v, fn.params[j]? = some t → args[j]? = some v → Value.okWide Tryz.prog W .any base t v)
    (hW : DataW.Whole enc Tryz.prog fn.params.toList s.vars false W args.toList ds gs before) (hk : Rows.uptoSmall H (ds ++ gs) = true) :
    Calls Tryz.prog f args W fun e W' => ∃ v, e = .returned v ∧ s.post enc Tryz.prog fn false true false false W args v W' := by
  have hW' := hW
  have hlt := hW.lt
  rw [hp, hv0] at hW
  obtain ⟨p, q, hA, hV, rfl, hfz, hnd⟩ := hW
  obtain ⟨v0, d0, rfl, rfl, h0⟩ := trodAll_one hA
  obtain ⟨rfl, rfl⟩ := trodVars_none hV
  have hok := hval 0 t0 v0 (by rw [hp]; rfl) rfl
  obtain ⟨i, hi, hbi⟩ := readsB_agg ht hrd hg hok h0
  have hbd := bulk_bound hk
  simp only [List.append_nil, Rows.uptoBulkAll] at hbd
  have hl := law (gw0 W) v0 i hi (by omega)
  refine (show Calls Tryz.prog f #[v0] W _ from hl.2).mono ?_
  rintro e w' ⟨W1, v1, rfl, rfl, hE, rfl⟩
  have hb := below_of hE
  refine ⟨_, rfl, post_of_below (pa := p) (pv := []) hW' (fun _ _ _ => ?_) (fun sp hsp => ?_) (fun _ _ => ?_) (by simp) hb (ok_one hr rfl (okWide_bool_mk Tryz.underlying4 _))⟩
  · rw [hr, List.append_nil, hs]
    exact trodAll_mk1 (shut_bool Tryz.underlying4 _)
  · rw [hp, List.append_nil, hs]
    exact trodAll_mk1 (WideElems.Trod_stays laidOutU hc hcl h0 (fun x hx => hb.same (hlt x (by simpa using hx))) (fun x hx => hsp x (by simpa using hx)))
  · rw [hv0, List.append_nil, hs]; rfl
open Go.ChangeShapes Go.WideShapes Go.ChangeAt Go.RowKit in
theorem law2iU {f : FuncId} {fn : Func} {s : ChangeSpec} {H : Type} {enc : TypeId × Value → H} {t0 : TypeId} {fs : Array Field} {α : Type} [Bk α] {r : Rep α} (ht : Tryz.prog.underlying t0 = some (.struct fs)) (hrd : ReadsB Tryz.prog t0 r) (hg : r.agg = true)
    (hc : Tryz.prog.readableRec t0 = true) (hcl : t0 < Tryz.prog.types.size) (hp : fn.params = #[t0, 3]) (hr : fn.resultTypes = #[4]) (hv0 : s.vars = [])
    (hs : ∀ d d' : DataW H, s.fn H [d, d'] = { results := [.lit (.bool true)], args := [d, d'] })
    (law : ∀ (W : GW) (v : Value) (i : α) (z : Int), V r W v i → Bk.b i ≤ 1048576 → -9223372036854775808 ≤ z ∧ z < 9223372036854775808 → Ok Tryz.prog f [v, .int .i64 z] W fun _ r => r = .bool true)
    (W : World) (base : Nat) (args : Array Value) (ds gs : List (DataW H)) (before : List MemPlace)
    (hval : ∀ (j : Nat) t v, fn.params[j]? = some t → args[j]? = some v → Value.okWide Tryz.prog W .any base t v)
    (hW : DataW.Whole enc Tryz.prog fn.params.toList s.vars false W args.toList ds gs before) (hk : Rows.uptoSmall H (ds ++ gs) = true) :
    Calls Tryz.prog f args W fun e W' => ∃ v, e = .returned v ∧ s.post enc Tryz.prog fn false true false false W args v W' := by
  have hW' := hW
  have hlt := hW.lt
  rw [hp, hv0] at hW
  obtain ⟨p, q, hA, hV, rfl, hfz, hnd⟩ := hW
  obtain ⟨v0, v1, d0, d1, p0, p1, rfl, rfl, rfl, h0, h1⟩ := trodAll_two hA
  obtain ⟨rfl, rfl⟩ := trodVars_none hV
  have hok := hval 0 t0 v0 (by rw [hp]; rfl) rfl
  have hok1 := hval 1 3 v1 (by rw [hp]; rfl) rfl
  obtain ⟨i, hi, hbi⟩ := readsB_agg ht hrd hg hok h0
  obtain ⟨z, rfl, hz⟩ := reads_intU Tryz.underlying3 hok1 h1
  have hbd := bulk_bound hk
  simp only [List.append_nil, Rows.uptoBulkAll] at hbd
  have hl := law (gw0 W) v0 i z hi (by omega) hz
  refine (show Calls Tryz.prog f #[v0, .int .i64 z] W _ from hl.2).mono ?_
  rintro e w' ⟨W1, u1, rfl, rfl, hE, rfl⟩
  have hb := below_of hE
  refine ⟨_, rfl, post_of_below (pa := p0 ++ p1) (pv := []) hW' (fun _ _ _ => ?_) (fun sp hsp => ?_) (fun _ _ => ?_) (by simp) hb (ok_one hr rfl (okWide_bool_mk Tryz.underlying4 _))⟩
  · rw [hr, List.append_nil, hs]
    exact trodAll_mk1 (shut_bool Tryz.underlying4 _)
  · rw [hp, List.append_nil, hs]
    exact trodAll_mk2 (WideElems.Trod_stays laidOutU hc hcl h0 (fun x hx => hb.same (hlt x (by simp [hx]))) (fun x hx => hsp x (by simp [hx])))
      (WideElems.Trod_stays laidOutU (by kernel_rfl) (of_decide_eq_true (by kernel_rfl)) h1 (fun x hx => hb.same (hlt x (by simp [hx]))) (fun x hx => hsp x (by simp [hx])))
  · rw [hv0, List.append_nil, hs]; rfl
end
end Go.Proofs.YtklnoajdhknfnaaGreat

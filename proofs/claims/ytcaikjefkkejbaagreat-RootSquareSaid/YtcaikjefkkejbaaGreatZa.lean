/- From the statement's reading of the arguments to data, and back. Nothing of the program is named here. -/
import Derived.ProofKit
import Derived.WalkKit
import Derived.Test.YtcaikjefkkejbaaGreatRl
set_option linter.unusedVariables false
set_option linter.unusedSimpArgs false
namespace Go.Rx
open Go
/-- What the statement reads by type t is a datum of r. -/
def Reads (P : Program) (t : TypeId) {α : Type} (r : Rep α) : Prop := ∀ (W : GW), W.A = [] → ∀ {H : Type} {enc : TypeId × Value → H} {spare : Nat → Bool} {held : Bool} {fuel : Nat} {cs : List Value} {x : DataW H × List MemPlace},
  DataW.trod enc P W.w 0 spare held fuel t cs = some x → ∃ i, r.At W cs i
theorem reads_bool {P : Program} {t : TypeId} (ht : P.underlying t = some .bool) : Reads P t RB := by
  intro W hA H enc spare held fuel cs x h
  obtain ⟨b, h1, _⟩ := DataW.trod_bool ht h
  exact ⟨b, h1⟩
theorem reads_u32 {P : Program} {t : TypeId} (ht : P.underlying t = some (.int .u32)) : Reads P t RW := by
  intro W hA H enc spare held fuel cs x h
  obtain ⟨n, h1, _, h2⟩ := DataW.trod_int ht h
  simp [Lit.wf, IntKind.min, IntKind.max, IntKind.signed, IntKind.bits] at h2
  refine ⟨n.toNat, ?_, by omega⟩
  rw [h1, Int.toNat_of_nonneg (by omega)]
theorem cell_spot {w : World} {a : Addr} {v : Value} (h : w.cell? a = some v) : a.spot = none := by
  unfold World.cell? at h
  split at h
  · split at h
    · cases h
    · rename_i hs; cases hh : a.spot with
      | none => rfl
      | some s => rw [hh] at hs; simp at hs
  · cases h
theorem reads_slice {P : Program} {t e : TypeId} {α : Type} {r : Rep α} (ht : P.underlying t = some (.slice e)) (he : Reads P e r) (hs : P.cellsOf e = r.size) (h0 : 0 < r.size) : Reads P t (RSl r) := by
  intro W hA H enc spare held fuel cs x h
  rcases DataW.trod_slice ht h with ⟨h1, _⟩ | ⟨a, len, cap, elems, rest, n, _, h1, _, hb, hl, hm, hlen, hel, _, _⟩
  · exact ⟨[], none, 0, 0, h1, nil_sl _ _ _⟩
  · have hmax : maxLen = 140737488351232 ∨ cap < 9223372036854775808 := by
      right
      have : maxLen < 9223372036854775808 := by decide
      omega
    have hcap : cap < 9223372036854775808 := by
      have : maxLen < 9223372036854775808 := by decide
      omega
    have hall : ∀ i, i < len → ∃ cs' d, W.w.cells? 0 (a.add (i * P.cellsOf e)) (P.cellsOf e) = some cs' ∧ DataW.trod enc P W.w 0 spare held n e cs' = some d := by
      intro i hi
      have h2 := hel i hi
      rw [List.getElem?_eq_getElem (by omega)] at h2
      obtain ⟨cs', h3, h4⟩ := Option.bind_eq_some_iff.1 h2
      exact ⟨cs', _, h3, h4⟩
    have hdat : ∀ i, i < len → ∃ cs' y, W.w.cells? 0 (a.add (i * P.cellsOf e)) (P.cellsOf e) = some cs' ∧ r.At W cs' y := by
      intro i hi
      obtain ⟨cs', d, h3, h4⟩ := hall i hi
      obtain ⟨y, hy⟩ := he W hA h4
      exact ⟨cs', y, h3, hy⟩
    -- the data, as a list
    have hlist : ∀ k, k ≤ len → ∃ ys : List α, ys.length = k ∧ ∀ i y, ys[i]? = some y → ∃ cs', W.w.cells? 0 (a.add (i * P.cellsOf e)) (P.cellsOf e) = some cs' ∧ r.At W cs' y := by
      intro k
      induction k with
      | zero => intro _; exact ⟨[], rfl, fun i y h => nomatch h⟩
      | succ k ih =>
        intro hk
        obtain ⟨ys, h1, h2⟩ := ih (by omega)
        obtain ⟨cs', y, h3, h4⟩ := hdat k (by omega)
        refine ⟨ys ++ [y], by simp [h1], fun i z hz => ?_⟩
        by_cases hik : i < k
        · rw [List.getElem?_append_left (by omega)] at hz; exact h2 i z hz
        · rw [List.getElem?_append_right (by omega)] at hz
          by_cases hie : i = k
          · subst hie
            rw [h1, Nat.sub_self] at hz
            injection hz with hz
            subst hz
            exact ⟨cs', h3, h4⟩
          · rw [List.getElem?_eq_none (by simp; omega)] at hz; cases hz
    obtain ⟨ys, hy1, hy2⟩ := hlist len (Nat.le_refl _)
    refine ⟨ys, some a, len, cap, h1, hy1.symm, hl, hcap, ?_⟩
    by_cases hz : len = 0
    · exact .inl (List.eq_nil_of_length_eq_zero (by omega))
    · obtain ⟨y0, hy0⟩ : ∃ y, ys[0]? = some y := ⟨_, List.getElem?_eq_getElem (by omega)⟩
      obtain ⟨cs0, h3, h4⟩ := hy2 0 y0 hy0
      obtain ⟨_, hl0, hc0⟩ := World.cells?_some h3
      have hcell0 := hc0 0 (by omega)
      have e0 : (a.add (0 * P.cellsOf e)).add 0 = a := by rw [Nat.zero_mul]; rfl
      rw [e0] at hcell0
      have hsome : ∃ v, cs0[0]? = some v := ⟨_, List.getElem?_eq_getElem (by omega)⟩
      obtain ⟨v0, hv0⟩ := hsome
      rw [hv0] at hcell0
      have hsp := cell_spot hcell0
      have hlt := cell_lt hcell0
      obtain ⟨b, off, sp⟩ := a
      have hsp' : sp = none := hsp
      subst hsp'
      refine .inr ⟨b, off, rfl, hlt, by rw [hA]; exact fun h => (nomatch h), fun i y hi => ?_⟩
      obtain ⟨cs', h5, h6⟩ := hy2 i y hi
      refine ⟨cs', h6, fun j v hj => ?_⟩
      obtain ⟨_, hl1, hc1⟩ := World.cells?_some h5
      have hjl : j < P.cellsOf e := by
        rw [← hl1]
        by_cases h : j < cs'.length
        · exact h
        · rw [List.getElem?_eq_none (by omega)] at hj; cases hj
      have := hc1 j hjl
      rw [add0, add0, hj, hs, Nat.add_assoc] at this
      exact this
/-- the fields of a struct, one behind the other -/
inductive FieldsRd (P : Program) : List Field → Nat → {α : Type} → Rep α → Prop where
  | one {f : Field} {o : Nat} {α : Type} {r : Rep α} (h1 : f.offset = o) (h2 : Reads P f.type r) (h3 : P.cellsOf f.type = r.size) : FieldsRd P [f] o r
  | cons {f : Field} {fs : List Field} {o : Nat} {α β : Type} {r : Rep α} {s : Rep β} (h1 : f.offset = o) (h2 : Reads P f.type r) (h3 : P.cellsOf f.type = r.size) (h4 : FieldsRd P fs (o + r.size) s) : FieldsRd P (f :: fs) o (RP r s)
theorem FieldsRd.read {P : Program} {fs : List Field} {o : Nat} {α : Type} {r : Rep α} (hf : FieldsRd P fs o r) {W : GW} (hA : W.A = []) {H : Type} {enc : TypeId × Value → H} {spare : Nat → Bool} {held : Bool} {n : Nat} {cs : List Value}
    (h : ∀ f ∈ fs, ∃ x, DataW.trod enc P W.w 0 spare held n f.type ((cs.drop f.offset).take (P.cellsOf f.type)) = some x) (hl : cs.length = o + r.size) : ∃ i, r.At W (cs.drop o) i := by
  induction hf with
  | @one f o α r h1 h2 h3 =>
    obtain ⟨x, hx⟩ := h f (List.mem_cons_self ..)
    rw [h1, h3, List.take_of_length_le (by rw [List.length_drop]; omega)] at hx
    exact h2 W hA hx
  | @cons f fs o α β r s h1 h2 h3 h4 ih =>
    have hsz : (RP r s).size = r.size + s.size := rfl
    rw [hsz] at hl
    obtain ⟨x, hx⟩ := h f (List.mem_cons_self ..)
    rw [h1, h3] at hx
    obtain ⟨i, hi⟩ := h2 W hA hx
    obtain ⟨j, hj⟩ := ih (fun g hg => h g (List.mem_cons_of_mem _ hg)) (by omega)
    refine ⟨(i, j), _, _, ?_, hi, hj⟩
    rw [← List.drop_drop, List.take_append_drop]
theorem reads_struct {P : Program} {t : TypeId} {fs : Array Field} {α : Type} {r : Rep α} (ht : P.underlying t = some (.struct fs)) (hf : FieldsRd P fs.toList 0 r) (hs : P.cellsOf t = r.size) : Reads P t r := by
  intro W hA H enc spare held fuel cs x h
  obtain ⟨xs, n, _, _, hl, hxl, hx⟩ := DataW.trod_struct ht h
  have := hf.read hA (enc := enc) (spare := spare) (held := held) (n := n) (cs := cs) (fun f hfm => by
    obtain ⟨i, hi⟩ := List.getElem?_of_mem hfm
    have hi' : fs[i]? = some f := by simpa using hi
    have hil : i < fs.size := by
      by_cases h : i < fs.size
      · exact h
      · rw [Array.getElem?_eq_none (by omega)] at hi'; cases hi'
    exact ⟨_, (hx i f hi').trans (List.getElem?_eq_getElem (by omega))⟩) (by omega)
  simpa using this
/-- The world as a ghost world in which nothing is being written. -/
def gw0 (w : World) : GW := { w := w, A := [], m := 0, hA := fun _ h => (nomatch h), hm := Nat.zero_le _ }
open Go.RowKit in
theorem below_of {W : World} {W' : GW} (e : Ext (gw0 W) W') : Below W.heap.size W W'.w := ⟨e.os, e.tape, e.out, e.size, fun k hk => e.all k hk⟩
section
open Go.ChangeShapes Go.WideShapes Go.ChangeAt Go.RowKit
/-- What stands behind the call, where nothing old has turned. -/
theorem post_of_below {H : Type} {enc : TypeId × Value → H} {P : Program} {f : Func} {s : ChangeSpec} {apart fresh handsOn again : Bool} {W W' : World} {args : Array Value} {v : Value} {ds gs : List (DataW H)} {before pa pv : List MemPlace}
    (hW : DataW.Whole enc P f.params.toList s.vars apart W args.toList ds gs before)
    (hres : ∀ (b : Nat) (sp : Nat → Bool) (hd : Bool), DataW.TrodAll enc P W' b sp hd f.resultTypes.toList (v.resultList f.resultTypes.size) (s.fn H (ds ++ gs)).results [])
    (hargs : ∀ sp : Nat → Bool, (∀ p ∈ before, sp p.block = true) → DataW.TrodAll enc P W' 0 sp true f.params.toList args.toList (s.fn H (ds ++ gs)).args pa)
    (hvars : ∀ sp : Nat → Bool, (∀ p ∈ before, sp p.block = true) → DataW.TrodVars enc P W' sp s.vars (s.fn H (ds ++ gs)).vars pv)
    (hps : before = pa ++ pv) (hb : Below W.heap.size W W')
    (hok : ∀ (j : Nat) (t : TypeId) (r : Value), f.resultTypes[j]? = some t → (v.resultList f.resultTypes.size)[j]? = some r → Value.okWide P W' .any 0 t r) :
    s.post enc P f apart fresh handsOn again W args v W' := by
  have hlt := hW.lt
  have hold : ∀ p ∈ before, (fun b => decide (b < W.heap.size)) p.block = true := fun p hp => by simpa using hlt p hp
  refine ⟨ds, gs, before, [], pa, pv, hW, hres _ _ _, hargs _ hold, hvars _ hold, World.keptBut_mono (fun p hp => ⟨hp, ?_⟩) (hb.frame (· ∈ before)), fun _ => ?_⟩
  · rw [hps, List.mem_append] at hp
    exact Or.inr hp
  · obtain ⟨_, _, _, _, _, hz, hn⟩ := hW
    refine ⟨hok, _, _, ([] ++ pa) ++ pv, ⟨[] ++ pa, pv, trodAll_append (hargs _ (fun _ _ => rfl)) (hres _ _ _), hvars _ (fun _ _ => rfl), rfl, ?_, ?_⟩, ?_⟩
    · intro b off hp
      have hp' : MemPlace.cell b off ∈ before := by rw [hps]; simpa using hp
      rw [hb.frozen (hlt _ hp')]
      exact hz b off hp'
    · intro ha
      have := hn ha
      rw [hps] at this
      simpa using this
    · intro p hp _
      rw [hps]
      simpa using hp
end
end Go.Rx

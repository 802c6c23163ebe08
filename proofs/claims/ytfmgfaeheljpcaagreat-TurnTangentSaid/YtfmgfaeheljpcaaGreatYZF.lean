/- From the statement's reading of the arguments to data. -/
import Derived.ProofKit
import Derived.OpenShut
import Derived.Test.YtfmgfaeheljpcaaGreatYNUM
import Derived.Test.YtfmgfaeheljpcaaGreatYVO
set_option linter.unusedVariables false
set_option linter.unusedSimpArgs false
namespace Go.Vm
open Go
/-- the world as one in which nothing is being written -/
def gw0 (w : World) : GW := ⟨w, fun _ _ => False, fun _ _ h => h.elim⟩
/-- what the statement reads by type t is a datum of this kind -/
def Reads (P : Program) (t : TypeId) (r : D → Prop) : Prop := ∀ (w : World) {H : Type} {enc : TypeId × Value → H} {spare : Nat → Bool} {held : Bool} {fuel : Nat} {cs : List Value} {x : DataW H × List MemPlace},
  DataW.trod enc P w 0 spare held fuel t cs = some x → ∃ d, r d ∧ D.At (gw0 w) d cs
theorem Reads.mono {P : Program} {t : TypeId} {r s : D → Prop} (h : Reads P t r) (hr : ∀ d, r d → s d) : Reads P t s := fun w _ _ _ _ _ _ _ hx => let ⟨d, h1, h2⟩ := h w hx; ⟨d, hr d h1, h2⟩
theorem reads_int {P : Program} {t : TypeId} {k : IntKind} (ht : P.underlying t = some (.int k)) (hk : ∀ n, (Lit.int k n).wf = true → inR k n) : Reads P t fun d => ∃ z, d = .int k z ∧ (Lit.int k z).wf = true := fun w _ _ _ _ _ _ _ h =>
  let ⟨n, h1, _, h2⟩ := DataW.trod_int ht h
  ⟨_, ⟨n, rfl, h2⟩, h1, hk n h2⟩
theorem wf_u8 {n : Int} (h : (Lit.int .u8 n).wf = true) : 0 ≤ n ∧ n < 256 := by
  simp [Lit.wf, IntKind.min, IntKind.max, IntKind.signed, IntKind.bits] at h; omega
theorem wf_i8 {n : Int} (h : (Lit.int .i8 n).wf = true) : -128 ≤ n ∧ n < 128 := by
  simp [Lit.wf, IntKind.min, IntKind.max, IntKind.signed, IntKind.bits] at h; omega
theorem wf_i64 {n : Int} (h : (Lit.int .i64 n).wf = true) : -9223372036854775808 ≤ n ∧ n < 9223372036854775808 := by
  simp [Lit.wf, IntKind.min, IntKind.max, IntKind.signed, IntKind.bits] at h; omega
theorem reads_u8 {P : Program} {t : TypeId} (ht : P.underlying t = some (.int .u8)) : Reads P t fun d => ∃ n : Nat, d = .int .u8 n ∧ n < 256 :=
  (reads_int ht fun n h => by
    have := wf_u8 h
    show IntKind.u8.wrap n = n
    simp [IntKind.wrap, IntKind.bits, IntKind.signed]; omega).mono fun d ⟨z, e, h⟩ => ⟨z.toNat, by rw [e, Int.toNat_of_nonneg (wf_u8 h).1], by have := wf_u8 h; omega⟩
theorem reads_i8 {P : Program} {t : TypeId} (ht : P.underlying t = some (.int .i8)) : Reads P t fun d => ∃ n : Int, d = .int .i8 n ∧ -128 ≤ n ∧ n < 128 :=
  (reads_int ht fun n h => by
    have := wf_i8 h
    have e : IntKind.i8.wrap n = if n % 256 ≥ 128 then n % 256 - 256 else n % 256 := by simp [IntKind.wrap, IntKind.bits, IntKind.signed]
    show IntKind.i8.wrap n = n
    rw [e]; split <;> omega).mono fun d ⟨z, e, h⟩ => ⟨z, e, wf_i8 h⟩
theorem reads_i64 {P : Program} {t : TypeId} (ht : P.underlying t = some (.int .i64)) : Reads P t fun d => ∃ n : Int, d = .int .i64 n ∧ -9223372036854775808 ≤ n ∧ n < 9223372036854775808 :=
  (reads_int ht fun n h => Num.wI (wf_i64 h)).mono fun d ⟨z, e, h⟩ => ⟨z, e, wf_i64 h⟩
theorem reads_slice {P : Program} {t e : TypeId} {r : D → Prop} {sz : Nat} (ht : P.underlying t = some (.slice e)) (he : Reads P e r) (hs : P.cellsOf e = sz) (h0 : 0 < sz) : Reads P t fun d => ∃ l : List D, d = .sl sz l ∧ l.length < 9223372036854775808 ∧ ∀ y ∈ l, r y := by
  intro w H enc spare held fuel cs x h
  rcases DataW.trod_slice ht h with ⟨h1, _⟩ | ⟨a, len, cap, elems, rest, n, _, h1, _, hb, hl, hm, hlen, hel, _, _⟩
  · exact ⟨_, ⟨[], rfl, by decide, fun y hy => nomatch hy⟩, none, 0, h1, by decide, by decide, .inl rfl⟩
  · have hcap : cap < 9223372036854775808 := by
      have : maxLen < 9223372036854775808 := by decide
      omega
    have hdat : ∀ i, i < len → ∃ cs' y, w.cells? 0 (a.add (i * P.cellsOf e)) (P.cellsOf e) = some cs' ∧ r y ∧ D.At (gw0 w) y cs' := fun i hi => by
      have h2 := hel i hi
      rw [List.getElem?_eq_getElem (by omega)] at h2
      obtain ⟨cs', h3, h4⟩ := Option.bind_eq_some_iff.1 h2
      obtain ⟨y, h5, h6⟩ := he w h4
      exact ⟨cs', y, h3, h5, h6⟩
    have hlist : ∀ k, k ≤ len → ∃ ys : List D, ys.length = k ∧ ∀ i y, ys[i]? = some y → r y ∧ ∃ cs', w.cells? 0 (a.add (i * P.cellsOf e)) (P.cellsOf e) = some cs' ∧ D.At (gw0 w) y cs' := by
      intro k
      induction k with
      | zero => intro _; exact ⟨[], rfl, fun i y h => nomatch h⟩
      | succ k ih =>
        intro hk
        obtain ⟨ys, h1, h2⟩ := ih (by omega)
        obtain ⟨cs', y, h3, h4, h5⟩ := hdat k (by omega)
        refine ⟨ys ++ [y], by simp [h1], fun i z hz => ?_⟩
        by_cases hik : i < k
        · rw [List.getElem?_append_left (by omega)] at hz; exact h2 i z hz
        · rw [List.getElem?_append_right (by omega)] at hz
          by_cases hie : i = k
          · subst hie
            rw [h1, Nat.sub_self] at hz
            injection hz with hz
            subst hz
            exact ⟨h4, cs', h3, h5⟩
          · rw [List.getElem?_eq_none (by simp; omega)] at hz; cases hz
    obtain ⟨ys, hy1, hy2⟩ := hlist len (Nat.le_refl _)
    refine ⟨_, ⟨ys, rfl, by omega, fun y hy => ?_⟩, some a, cap, by rw [h1, hy1], by omega, by omega, ?_⟩
    · obtain ⟨i, hi⟩ := List.getElem?_of_mem hy
      exact (hy2 i y hi).1
    by_cases hz : len = 0
    · exact .inl (List.eq_nil_of_length_eq_zero (by omega))
    obtain ⟨y0, hy0⟩ : ∃ y, ys[0]? = some y := ⟨_, List.getElem?_eq_getElem (by omega)⟩
    obtain ⟨_, cs0, h3, h4⟩ := hy2 0 y0 hy0
    obtain ⟨_, hl0, hc0⟩ := World.cells?_some h3
    have hcell0 := hc0 0 (by omega)
    have e0 : (a.add (0 * P.cellsOf e)).add 0 = a := by rw [Nat.zero_mul]; rfl
    rw [e0] at hcell0
    obtain ⟨v0, hv0⟩ : ∃ v, cs0[0]? = some v := ⟨_, List.getElem?_eq_getElem (by omega)⟩
    rw [hv0] at hcell0
    have hsp : a.spot = none := by
      unfold World.cell? at hcell0
      split at hcell0
      · split at hcell0
        · cases hcell0
        · rename_i hs; cases hh : a.spot with
          | none => rfl
          | some s => rw [hh] at hs; simp at hs
      · cases hcell0
    obtain ⟨b, off, sp⟩ := a
    have hsp' : sp = none := hsp
    subst hsp'
    have add0 : ∀ (b off k : Nat), (⟨b, off, none⟩ : Addr).add k = ⟨b, off + k, none⟩ := fun b off k => by
      unfold Addr.add; split
      · rename_i h; subst h; rfl
      · rfl
    refine .inr ⟨b, off, rfl, ?_⟩
    have row : ∀ (ys : List D) (k : Nat), (∀ i y, ys[i]? = some y → ∃ cs', w.cells? 0 ((⟨b, off, none⟩ : Addr).add ((k + i) * P.cellsOf e)) (P.cellsOf e) = some cs' ∧ D.At (gw0 w) y cs') → D.Row (gw0 w) b sz (off + k * sz) ys := by
      intro ys
      induction ys with
      | nil => intro k _; trivial
      | cons y ys ih =>
        intro k hh
        obtain ⟨cs', h5, h6⟩ := hh 0 y rfl
        obtain ⟨_, hl1, hc1⟩ := World.cells?_some h5
        refine ⟨⟨cs', h6, by rw [← D.at_len y h6, hl1, hs], fun j v hj => ⟨?_, fun h => h⟩⟩, ?_⟩
        · have hjl : j < P.cellsOf e := by
            rw [← hl1]
            by_cases h : j < cs'.length
            · exact h
            · rw [List.getElem?_eq_none (by omega)] at hj; cases hj
          have := hc1 j hjl
          rw [add0, add0, hj, hs, Nat.add_zero] at this
          exact this
        · have := ih (k + 1) fun i y hi => by
            obtain ⟨cs', h5, h6⟩ := hh (i + 1) y hi
            exact ⟨cs', by rw [show k + 1 + i = k + (i + 1) by omega]; exact h5, h6⟩
          rw [Nat.add_mul, Nat.one_mul, ← Nat.add_assoc] at this
          exact this
    have := row ys 0 fun i y hi => by
      rw [Nat.zero_add]; exact (hy2 i y hi).2
    rw [Nat.zero_mul, Nat.add_zero] at this
    exact this
/-- the fields of a struct, one behind the other -/
inductive FieldsRd (P : Program) : List Field → Nat → (D → Prop) → Prop where
  | one {f : Field} {o : Nat} {r : D → Prop} (h1 : f.offset = o) (h2 : Reads P f.type r) : FieldsRd P [f] o r
  | cons {f : Field} {fs : List Field} {o n : Nat} {r s : D → Prop} (h1 : f.offset = o) (h2 : Reads P f.type r) (h3 : P.cellsOf f.type = n) (h4 : FieldsRd P fs (o + n) s) : FieldsRd P (f :: fs) o (fun d => ∃ a c, d = .pr a c ∧ r a ∧ s c)
theorem FieldsRd.read {P : Program} {fs : List Field} {o : Nat} {r : D → Prop} (hf : FieldsRd P fs o r) {w : World} {H : Type} {enc : TypeId × Value → H} {spare : Nat → Bool} {held : Bool} {n : Nat} {cs : List Value}
    (h : ∀ f ∈ fs, ∃ x, DataW.trod enc P w 0 spare held n f.type ((cs.drop f.offset).take (P.cellsOf f.type)) = some x) (hl : ∀ f ∈ fs.getLast?, cs.length = f.offset + P.cellsOf f.type) : ∃ d, r d ∧ D.At (gw0 w) d (cs.drop o) := by
  induction hf with
  | @one f o r h1 h2 =>
    obtain ⟨x, hx⟩ := h f (List.mem_cons_self ..)
    have := hl f rfl
    rw [List.take_of_length_le (by rw [List.length_drop]; omega), h1] at hx
    exact h2 w hx
  | @cons f fs o n r s h1 h2 h3 h4 ih =>
    obtain ⟨x, hx⟩ := h f (List.mem_cons_self ..)
    rw [h1, h3] at hx
    obtain ⟨i, hi, hi'⟩ := h2 w hx
    obtain ⟨j, hj, hj'⟩ := ih (fun g hg => h g (List.mem_cons_of_mem _ hg)) fun g hg => hl g (by cases fs with | nil => cases hg | cons y ys => rwa [List.getLast?_cons_cons])
    exact ⟨.pr i j, ⟨i, j, rfl, hi, hj⟩, _, _, by rw [← List.drop_drop, List.take_append_drop], hi', hj'⟩
theorem reads_struct {P : Program} {t : TypeId} {fs : Array Field} {r : D → Prop} (ht : P.underlying t = some (.struct fs)) (hf : FieldsRd P fs.toList 0 r) (hs : ∀ f ∈ fs.toList.getLast?, P.cellsOf t = f.offset + P.cellsOf f.type) : Reads P t fun d => ∃ a, d = .st a ∧ r a := by
  intro w H enc spare held fuel cs x h
  obtain ⟨xs, n, _, _, hl, hxl, hx⟩ := DataW.trod_struct ht h
  obtain ⟨d, h1, h2⟩ := hf.read (w := w) (enc := enc) (spare := spare) (held := held) (n := n) (cs := cs) (fun f hfm => by
    obtain ⟨i, hi⟩ := List.getElem?_of_mem hfm
    have hi' : fs[i]? = some f := by simpa using hi
    have hil : i < fs.size := by
      by_cases h : i < fs.size
      · exact h
      · rw [Array.getElem?_eq_none (by omega)] at hi'; cases hi'
    exact ⟨_, (hx i f hi').trans (List.getElem?_eq_getElem (by omega))⟩) (fun f hf => by rw [hl, hs f hf])
  exact ⟨.st d, ⟨d, rfl, h1⟩, h2⟩
theorem reads_array3 {P : Program} {t e : TypeId} {r : D → Prop} (ht : P.underlying t = some (.array 3 e)) (he : Reads P e r) (h1 : P.cellsOf e = 1) (h3 : P.cellsOf t = 3) : Reads P t fun d => ∃ a b c, d = .st (.pr a (.pr b c)) ∧ r a ∧ r b ∧ r c := by
  intro w H enc spare held fuel cs x h
  obtain ⟨xs, m, _, _, hl, hxl, hx⟩ := DataW.trod_array ht h
  rw [h3] at hl
  match cs, hl with
  | [u, v, z], _ =>
    have g0 := hx 0 (by decide)
    have g1 := hx 1 (by decide)
    have g2 := hx 2 (by decide)
    rw [h1, List.getElem?_eq_getElem (by omega)] at g0 g1 g2
    obtain ⟨a, a1, a2⟩ := he w g0
    obtain ⟨b, b1, b2⟩ := he w g1
    obtain ⟨c, c1, c2⟩ := he w g2
    exact ⟨_, ⟨a, b, c, rfl, a1, b1, c1⟩, [u], [v, z], rfl, a2, [v], [z], rfl, b2, c2⟩
end Go.Vm

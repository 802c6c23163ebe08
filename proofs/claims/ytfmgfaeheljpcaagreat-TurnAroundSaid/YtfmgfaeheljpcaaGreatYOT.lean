/- numbers: the program's Trim gives a number back all whose roots occur. -/
import Derived.Test.YtfmgfaeheljpcaaGreatYOF
set_option linter.unusedVariables false
set_option linter.unusedSimpArgs false
set_option maxRecDepth 10000
namespace Go.Proofs.YtfmgfaeheljpcaaGreat.P9
open Go Go.Vm Go.Num Go.Tow Go.Proofs.YtfmgfaeheljpcaaGreat
theorem and1 {a : Nat} (h : a < 4611686018427387904) : arB .and .i64 a 1 (a % 2 : Nat) := by
  show IntKind.i64.wrap _ = _
  have e : (BitVec.ofInt 64 (a : Int) &&& BitVec.ofInt 64 1).toNat = a % 2 := by
    rw [BitVec.toNat_and, BitVec.toNat_ofInt, BitVec.toNat_ofInt, show ((a : Int) % ((2 ^ 64 : Nat) : Int)).toNat = a by omega, show ((1 : Int) % ((2 ^ 64 : Nat) : Int)).toNat = 1 by omega, Nat.and_one_is_mod]
  rw [show IntKind.bits .i64 = 64 from rfl, e]
  exact wI (by omega)
theorem occurs_ok {l : List Rat} {p i : Nat} (hl : Ps p l) (hp : p ≤ 8796093022208) (hi : i ≤ 63) (hn : l.length ≤ 1048576) : C0 178 [.d (dqs l), .d (.int .i64 i)] (· = .b (dc (oc l i))) := by
  refine En Tryz.func178 fun _ _ => ?_
  refine Lo (fun k : Nat => [(1, .d (.int .i64 i)), (7, .d (dqs l)), (8, .d (.int .i64 (l.map dq).length)), (9, .d (.int .i64 k))]) (fun _ => []) (fun k => k ≤ l.length ∧ ∀ q x, q < k → l[q]? = some x → q / 2 ^ i % 2 = 1 → x = 0) (fun k => l.length - k) 0 [] rfl ⟨by omega, fun q x h => by omega⟩ fun k ⟨hk, ht⟩ => ?_
  refine By rfl (fun h => ?_) fun h => ?_ <;> simp only [lq] at h
  · obtain ⟨x, hx⟩ := qat (l := l) (k := k) (by omega)
    have next : (k / 2 ^ i % 2 = 1 → x = 0) → k + 1 ≤ l.length ∧ ∀ q y, q < k + 1 → l[q]? = some y → q / 2 ^ i % 2 = 1 → y = 0 := fun h1 => ⟨by omega, fun q y hq hy hb => by
      by_cases e : q = k
      · subst e; rw [hx] at hy; injection hy with hy; rw [← hy]; exact h1 hb
      · exact ht q y (by omega) hy hb⟩
    refine Ix k rfl (mp hx) ?_
    refine Ar (k / 2 ^ i : Nat) rfl ?_ (R9.shrI hi)
    refine Ar (k / 2 ^ i % 2 : Nat) rfl ?_ (and1 (by have := Nat.div_le_self k (2 ^ i); omega))
    refine By rfl (fun h1 => ?_) fun h1 => ?_
    · refine Ce rfl (qSign_ok (hl x (List.mem_of_getElem? hx)) hp) ?_
      refine By rfl (fun h2 => ?_) fun h2 => ?_
      · exact R1 rfl (.bp ⟨fun _ => ⟨k, x, hx, by omega, R9.num0.1 h2⟩, fun _ => rfl⟩)
      · refine Ar (k + 1 : Nat) rfl ?_
        exact Bk (k + 1) [] rfl (next fun _ => Classical.byContradiction fun h3 => h2 (R9.num0.2 h3)) (by show l.length - (k + 1) < l.length - k; omega)
    · refine Ar (k + 1 : Nat) rfl ?_
      exact Bk (k + 1) [] rfl (next fun h3 => absurd (by omega) h1) (by show l.length - (k + 1) < l.length - k; omega)
  · exact R1 rfl (.bp ⟨nofun, fun ⟨q, x, h1, h2, h3⟩ => absurd (ht q x (by have := (List.getElem?_eq_some_iff.1 h1).1; omega) h1 h2) h3⟩)
abbrev ivar (i : Nat) : Ob := .var (.d (.int .i64 i))
theorem trim1_ok {l : List Rat} {p i : Nat} (hl : Ps p l) (hp : p ≤ 8796093022208) (hi : i ≤ 63) (hn : l.length ≤ 1048576) : CN0 180 [.d (dqs l), .ptr 1000001 0] [(1000001, ivar i)] (· = .b (dc (oc l i))) := by
  refine EnW Tryz.func180 fun _ _ _ => ?_
  refine Ce rfl (occurs_ok hl hp hi hn) ?_
  exact Rw [] [(1000001, ivar i)] rfl (.one (.rf rfl) rfl rfl) ⟨rfl, rfl⟩
theorem index_ok {T : List (List Rat)} {p i : Nat} (hT : ∀ l ∈ T, Ps p l ∧ l.length ≤ 1048576) (hp : p ≤ 8796093022208) (hi : i ≤ 63) (hn : T.length ≤ 1000) : CN0 240 [.d (dts T), .fn 180 1000001] [(1000001, ivar i)] (fun v => ∃ j : Int, v = .d (.int .i64 j) ∧ (j ≥ 0 ↔ ∃ l ∈ T, oc l i)) := by
  refine EnW Tryz.func240 fun _ _ _ => ?_
  refine Lo (fun k : Nat => [(0, .d (dts T)), (1, .fn 180 1000001), (7, .d (.int .i64 (T.map dqs).length)), (8, .d (.int .i64 k))]) (fun _ => [(1000001, ivar i)]) (fun k => k ≤ T.length ∧ ∀ x ∈ T.take k, ¬ oc x i) (fun k => T.length - k) 0 [] rfl ⟨by omega, by simp⟩ (fun k ⟨hk, hn'⟩ => ?_)
  refine By rfl (fun h => ?_) fun h => ?_ <;> simp only [lt'] at h
  · obtain ⟨x, hx⟩ : ∃ x, T[k]? = some x := ⟨_, List.getElem?_eq_getElem (by omega)⟩
    have hm := List.mem_of_getElem? hx
    refine Ix k rfl (mp hx) ?_
    refine Cn [] rfl (trim1_ok (hT x hm).1 hp hi (hT x hm).2) fun v hv => ?_
    subst hv
    refine By rfl (fun h1 => ?_) fun h1 => ?_
    · exact Rw [] [(1000001, ivar i)] rfl (.one (.rf rfl) rfl rfl) ⟨rfl, k, rfl, ⟨fun _ => ⟨x, hm, h1⟩, fun _ => by omega⟩⟩
    · refine Ar (k + 1 : Nat) rfl ?_
      refine Bk (k + 1) [] rfl ⟨by omega, fun y hy => ?_⟩ (by show T.length - (k + 1) < T.length - k; omega)
      rw [List.take_add_one, hx] at hy
      rcases List.mem_append.1 hy with hy | hy
      · exact hn' y hy
      · obtain rfl := List.mem_singleton.1 hy
        exact h1
  · rw [List.take_of_length_le (by omega)] at hn'
    exact Rw [] [(1000001, ivar i)] rfl (.one (.rf rfl) rfl rfl) ⟨rfl, -1, rfl, ⟨fun h => absurd h (by decide), fun ⟨x, h1, h2⟩ => absurd h2 (hn' x h1)⟩⟩
theorem contains_ok {T : List (List Rat)} {p i : Nat} (hT : ∀ l ∈ T, Ps p l ∧ l.length ≤ 1048576) (hp : p ≤ 8796093022208) (hi : i ≤ 63) (hn : T.length ≤ 1000) : CN0 179 [.d (dts T), .fn 180 1000001] [(1000001, ivar i)] (· = .b (dc (∃ l ∈ T, oc l i))) := by
  refine EnW Tryz.func179 fun _ _ _ => ?_
  refine Cn [] rfl (index_ok hT hp hi hn) fun v hv => ?_
  obtain ⟨j, rfl, hj⟩ := hv
  refine Rw [] [(1000001, ivar i)] rfl (.one (.bp (dc_iff.trans hj)) rfl rfl) ⟨rfl, rfl⟩
theorem Trim_tm {x : Nm} {r p : Nat} (hr : TS r x.k x.t) (hp : Sz p (toL x.k x.a)) (hk : x.k ≤ 16) (h1 : r ≤ 4398046511104) (h2 : p ≤ 4398046511104) (hm : Tm x) : C0 106 [.d (dN x)] (· = .d (dN x)) := by
  have hlen := toT_length x.k x.t
  have hpk := p16 hk
  have hcl := toL_length x.k x.a
  refine En Tryz.func106 fun _ _ => ?_
  refine Ce rfl (detach_ok hr hp hk h1 h2) ?_
  refine Ar ((x.k : Int) - 1) rfl ?_ (wr (by rw [lt', hlen]) (by simp only [inK]; omega))
  refine Lo (fun n : Nat => [(1, .ptr 1 0), (2, .ptr 2 0), (3, .ptr 3 0)]) (fun n => [(1, .var (.d (dN x))), (2, .var (.st (.pr .nil .nil))), (3, .var (.d (.int .i64 ((n : Int) - 1))))]) (fun n => n ≤ x.k) (fun n => n) x.k [] rfl (Nat.le_refl _) (fun n hn => ?_)
  cases n with
  | zero =>
    refine No rfl (by decide) ?_
    exact R0
  | succ i =>
    have ei : ((i + 1 : Nat) : Int) - 1 = i := by omega
    have hoc := occurs_ok (l := toL x.k x.a) (i := i) hp.ps (by omega) (by omega) (by omega)
    have hT : ∀ l ∈ (toT x.k x.t).drop (i + 1), Ps r l ∧ l.length ≤ 1048576 := fun l hl => by
      obtain ⟨j, hj⟩ := List.getElem?_of_mem (List.mem_of_mem_drop hl)
      have hlt := (List.getElem?_eq_some_iff.1 hj).1
      obtain ⟨h3, h4⟩ := TS.pt hr j l hj
      exact ⟨h4, by rw [h3]; exact Nat.le_trans (p16 (show j ≤ 16 by omega)) (by decide)⟩
    have hct := contains_ok (T := (toT x.k x.t).drop (i + 1)) (i := i) hT (by omega) (by omega) (by rw [List.length_drop]; omega)
    rw [← ei] at hoc
    unfold ivar at hct
    rw [← ei] at hct
    refine Re 3 93 rfl ?_
    refine Yes rfl (by omega) ?_
    refine Ce rfl hoc ?_
    refine By rfl (fun h => ?_) fun h => ?_
    · refine Ar ((i : Int) - 1) rfl ?_ (wr (show ((i + 1 : Nat) : Int) - 1 - 1 = (i : Int) - 1 by omega) (by simp only [inK]; omega))
      exact Bk i [] rfl (show i ≤ x.k by omega) (Nat.lt_succ_self i)
    · have ho : ¬ oc (toL x.k x.a) i := h
      refine Ar (i + 1 : Nat) rfl ?_ (wr (show ((i + 1 : Nat) : Int) - 1 + 1 = ((i + 1 : Nat) : Int) by omega) (by simp only [inK]; omega))
      refine Dp (i + 1) (((toT x.k x.t).drop (i + 1)).map dqs) rfl rfl (by simp only [lt']; omega) (by rw [List.map_drop]) ?_
      refine Cn [(1000001, 93)] rfl hct fun v hv => ?_
      subst hv
      refine Yes rfl ?_ ?_
      · obtain ⟨q, l, h4, h5, h6⟩ := (hm i (by omega)).resolve_left ho
        exact ⟨l, List.mem_of_getElem? (i := q - (i + 1)) (by rw [List.getElem?_drop, show i + 1 + (q - (i + 1)) = q by omega]; exact h5), h6⟩
      refine Ar ((i : Int) - 1) rfl ?_ (wr (show ((i + 1 : Nat) : Int) - 1 - 1 = (i : Int) - 1 by omega) (by simp only [inK]; omega))
      exact Bk i [] rfl (show i ≤ x.k by omega) (Nat.lt_succ_self i)
end Go.Proofs.YtfmgfaeheljpcaaGreat.P9

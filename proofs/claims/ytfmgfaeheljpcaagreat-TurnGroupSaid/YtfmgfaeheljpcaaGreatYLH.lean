/- numbers: the reference's Trim. -/
import Derived.Test.YtfmgfaeheljpcaaGreatYLG
import Derived.Test.YtfmgfaeheljpcaaGreatYWJ
import Derived.Test.YtfmgfaeheljpcaaGreatYTO
set_option linter.unusedVariables false
set_option linter.unusedSimpArgs false
set_option maxRecDepth 10000
namespace Go.Proofs.YtfmgfaeheljpcaaGreat.R9
open Go Go.Vm Go.Num Go.Tow Go.Proofs.YtfmgfaeheljpcaaGreat
theorem shrI {a i : Nat} (hi : i ≤ 63) : arB .shr .i64 a i (a / 2 ^ i : Nat) := show _ ∧ _ from ⟨by omega, by
  rw [show min (Int.toNat (i : Int)) (IntKind.bits .i64) = i by show min (Int.toNat (i : Int)) 64 = i; omega, Int.fdiv_eq_ediv_of_nonneg _ (Int.pow_nonneg (by decide)), show (2 : Int) ^ i = ((2 ^ i : Nat) : Int) by simp]
  exact (Int.natCast_ediv _ _).symm⟩
theorem rem2 {a : Nat} : arB .rem .i64 a 2 (a % 2 : Nat) := show _ ∧ _ from ⟨by decide, trem a 2⟩
theorem num0 {x : Rat} : cmpI x.num 0 ≠ 0 ↔ x ≠ 0 := by
  rw [sgnQ_cmp]
  rcases sgnQ_tri x with ⟨h, e⟩ | ⟨h, e⟩ | ⟨h, e⟩ <;> rw [e]
  · exact ⟨fun _ e => by rw [e] at h; exact absurd h (by decide), fun _ => by decide⟩
  · exact ⟨fun h => absurd rfl h, fun h' => absurd h h'⟩
  · exact ⟨fun _ e => by rw [e] at h; exact absurd h (by decide), fun _ => by decide⟩
theorem occurs_ok {l : List Rat} {p i : Nat} (hl : Ps p l) (hp : p ≤ 8796093022208) (hi : i ≤ 63) (hn : l.length ≤ 1048576) : C0 275 [.d (dqs l), .d (.int .i64 i)] (· = .b (dc (oc l i))) := by
  refine En Tryz.func275 fun _ _ => ?_
  refine Lo (fun k : Nat => [(0, .d (dqs l)), (1, .d (.int .i64 i)), (5, .d (.int .i64 k))]) (fun _ => []) (fun k => k ≤ l.length ∧ ∀ q x, q < k → l[q]? = some x → q / 2 ^ i % 2 = 1 → x = 0) (fun k => l.length - k) 0 [] rfl ⟨by omega, fun q x h => by omega⟩ fun k ⟨hk, ht⟩ => ?_
  refine By rfl (fun h => ?_) fun h => ?_ <;> simp only [lq] at h
  · obtain ⟨x, hx⟩ := qat (l := l) (k := k) (by omega)
    have next : (k / 2 ^ i % 2 = 1 → x = 0) → k + 1 ≤ l.length ∧ ∀ q y, q < k + 1 → l[q]? = some y → q / 2 ^ i % 2 = 1 → y = 0 := fun h1 => ⟨by omega, fun q y hq hy hb => by
      by_cases e : q = k
      · subst e; rw [hx] at hy; injection hy with hy; rw [← hy]; exact h1 hb
      · exact ht q y (by omega) hy hb⟩
    refine Ar (k / 2 ^ i : Nat) rfl ?_ (shrI hi)
    refine Ar (k / 2 ^ i % 2 : Nat) rfl ?_ rem2
    refine By rfl (fun h1 => ?_) fun h1 => ?_
    · refine Ix k rfl (mp hx) ?_
      refine Ce rfl (R2.Sign_ok (hl x (List.mem_of_getElem? hx)) hp) ?_
      refine By rfl (fun h2 => ?_) fun h2 => ?_
      · exact R1 rfl (.bp ⟨fun _ => ⟨k, x, hx, by omega, num0.1 h2⟩, fun _ => rfl⟩)
      · refine Ar (k + 1 : Nat) rfl ?_
        exact Bk (k + 1) [] rfl (next fun _ => Classical.byContradiction fun h3 => h2 (num0.2 h3)) (by show l.length - (k + 1) < l.length - k; omega)
    · refine Ar (k + 1 : Nat) rfl ?_
      exact Bk (k + 1) [] rfl (next fun h3 => absurd (by omega) h1) (by show l.length - (k + 1) < l.length - k; omega)
  · exact R1 rfl (.bp ⟨nofun, fun ⟨q, x, h1, h2, h3⟩ => absurd (ht q x (by have := (List.getElem?_eq_some_iff.1 h1).1; omega) h1 h2) h3⟩)
theorem wo_take {α : Type} {l : List α} {k i : Nat} {x : α} (hx : l[k]? = some x) : wo (l.take (k + 1)) i = wo (l.take k) i ++ (if k / 2 ^ i % 2 = 0 then [x] else []) := by
  have hk := (List.getElem?_eq_some_iff.1 hx).1
  unfold wo
  rw [List.take_add_one, hx, woA_app, List.length_take, Nat.min_eq_left (by omega), Nat.zero_add]
  rfl
theorem without_ok {l : List Rat} {i : Nat} (hi : i ≤ 63) (hn : l.length ≤ 1048576) : C0 276 [.d (dqs l), .d (.int .i64 i)] (· = .d (dqs (wo l i))) := by
  have hlen : ∀ k, (wo (l.take k) i).length ≤ k := fun k => by
    induction k with
    | zero => simp [wo, woA]
    | succ k ih =>
      by_cases h : k < l.length
      · rw [wo_take (List.getElem?_eq_getElem h), List.length_append]
        split <;> simp <;> omega
      · rw [List.take_of_length_le (by omega)]
        rw [List.take_of_length_le (by omega)] at ih; omega
  refine En Tryz.func276 fun _ _ => ?_
  refine Nl 5 5 4 rfl ?_
  refine Lo (fun k : Nat => [(0, .d (dqs l)), (1, .d (.int .i64 i)), (5, .gr 5 4 ((wo (l.take k) i).map dq)), (6, .d (.int .i64 k))]) (fun k => [(5, .tok ((wo (l.take k) i).map dq).length 4)]) (fun k => k ≤ l.length) (fun k => l.length - k) 0 [] rfl (by omega) fun k hk => ?_
  refine By rfl (fun h => ?_) fun h => ?_ <;> simp only [lq] at h
  · obtain ⟨x, hx⟩ := qat (l := l) (k := k) (by omega)
    have hw := wo_take (i := i) hx
    have hl := hlen (k + 1)
    refine Ar (k / 2 ^ i : Nat) rfl ?_ (shrI hi)
    refine Ar (k / 2 ^ i % 2 : Nat) rfl ?_ rem2
    refine By rfl (fun h1 => ?_) fun h1 => ?_
    · rw [if_pos (by omega)] at hw
      refine Ix k rfl (mp hx) ?_
      refine ApG ((wo (l.take (k + 1)) i).map dq) rfl (by rw [hw]; simp) (by simp; omega) ?_
      refine Ar (k + 1 : Nat) rfl ?_
      exact Bk (k + 1) [(24, 5)] rfl (show k + 1 ≤ l.length by omega) (by show l.length - (k + 1) < l.length - k; omega)
    · rw [if_neg (by omega), List.append_nil] at hw
      refine Ar (k + 1 : Nat) rfl ?_
      exact Bk (k + 1) [] rfl (show k + 1 ≤ l.length by omega) (by show l.length - (k + 1) < l.length - k; omega) (by exact ⟨by rw [hw]; rfl, by rw [hw]; rfl, rfl, rfl, rfl⟩)
  · rw [List.take_of_length_le (by omega)]
    exact R1 rfl (.gr rfl)
end Go.Proofs.YtfmgfaeheljpcaaGreat.R9

/- The rules of the walk, more: writes with a frame. -/
import Derived.Test.YtcobdnnfmhfenaaGreatRp
set_option linter.unusedVariables false
set_option linter.unusedSimpArgs false
namespace Go.Rx
open Go

/-- Of what was there block b alone may have changed. -/
def OnlyB (b : Nat) (W W' : GW) : Prop := ∀ k, k < W.size → k ≠ b → W'.w.heap[k]? = W.w.heap[k]?
theorem OnlyB.refl (b : Nat) (W : GW) : OnlyB b W W := fun _ _ _ => rfl
theorem OnlyB.trans {b : Nat} {W1 W2 W3 : GW} (h : OnlyB b W1 W2) (k : OnlyB b W2 W3) (hs : W1.size ≤ W2.size) : OnlyB b W1 W3 :=
  fun i hi hb => (k i (Nat.lt_of_lt_of_le hi hs) hb).trans (h i hi hb)
theorem Ows.only {α : Type} {r : Rep α} {W W' : GW} {b b2 n c : Nat} {xs : List α} (h : Ows r W (some ⟨b2, 0, none⟩) n c xs) (l : LeK W W') (o : OnlyB b W W') (hne : b2 ≠ b) : Ows r W' (some ⟨b2, 0, none⟩) n c xs := by
  refine ⟨h.hn, h.hc, h.hC, ?_⟩
  rcases h.h with h0 | ⟨b', cs, T, hp, hA, hm, hb, hl, hx⟩
  · exact .inl h0
  · injection hp with hp
    injection hp with hp _ _
    subst hp
    refine .inr ⟨b2, cs, T, rfl, l.keep b2 hA, by rw [l.m]; exact hm, by rw [o b2 (lt_of_heap hb) hne]; exact hb, hl, fun i x hi => ?_⟩
    obtain ⟨u, hu, hv⟩ := hx i x hi
    exact ⟨u, r.mono l.f hu, hv⟩
section
variable {P : Program} {n : Nat} {ops : Array Oper} {l : List Oper} {K : List Kt} {fin : Exit → Act → World → Prop} {env : Env} {W : GW}
variable {d d2 : Nat} {ty ty2 : TypeId} {pos pos2 : String} {aft aft2 : Array Edge}
theorem O.stoF {α : Type} {r : Rep α} {E sz : Nat} {ag : Bool} {z : List Value} {x y : Operand} {b : Nat} {m c j : Nat} {xs : List α} {u : α} {v : Value} [i : TVar P E sz ag z]
    (hx : get env x = some (.pointer (some ⟨b, 0 + j * r.size, none⟩))) (hy : get env y = some v) (hs : Ows r W (some ⟨b, 0, none⟩) m c xs) (hj : j < m) (hv : V r W v u) (hr : r.size = sz) (hg : r.agg = true ∨ r.size = 1)
    (k : ∀ W', Lk1 W W' → OnlyB b W W' → W.size ≤ W'.size → Ows r W' (some ⟨b, 0, none⟩) m c (xs.set j u) → JO P n ops l K fin env W') :
    JO P n ops (⟨none, .store E x y, ty, pos, aft, none⟩ :: l) K fin env W := by
  rcases hs.h with h0 | ⟨b', cs, T', hp, hA, hm, hb, hl, hx'⟩
  · have := hs.hc; omega
  · injection hp with hp
    injection hp with hp _ _
    subst hp
    have he := hv.cells hg
    have hlen : v.cells.toList.length = sz := by rw [r.len he, hr]
    have hjm := hs.hn
    have hcm := hs.hc
    have hmul : j * r.size + r.size ≤ c * r.size := by
      rw [← Nat.succ_mul]; exact Nat.mul_le_mul_right _ (by omega)
    have hr' := run_storeVar (P := P) (T := E) (off := 0 + j * r.size) (v := v) hb hlen (by rw [hl, ← hr]; omega) (fun w hw => r.one he w hw)
    have hle := put_lek W b _ (spl cs (0 + j * r.size) v.cells.toList).toArray T' (0, 0) hb hA hm (by simp [spl_length])
    refine JO.unit (W' := W.put b (.cells (spl cs (0 + j * r.size) v.cells.toList).toArray T' (0, 0))) (fun a ha => ?_) (k _ ⟨hle⟩ (fun k' _ hk' => heap_put _ _ _ _ hk') (by rw [GW.size_put]; exact Nat.le_refl _) ⟨by rw [List.length_set]; exact hjm, hcm, hs.hC, .inr ⟨b, _, T', rfl, hA, hm, heap_put_self _ _ _ (lt_of_heap hb), by rw [spl_length]; exact hl, fun i' x' hi' => ?_⟩⟩)
    · simp only [execOp, ha.get hx, ha.get hy, Instr.storeAt, Instr.sureAddr]
      rw [Sem.run_bind, Sem.run_bind]
      show Result.andThen (Result.andThen (Result.ok _ _) _) _ = _
      simp only [Result.andThen_ok]
      rw [hr']
      rfl
    · have hsp : ∀ q, (spl cs (0 + j * r.size) v.cells.toList)[q]? = if j * r.size ≤ q ∧ q < j * r.size + r.size then v.cells.toList[q - j * r.size]? else cs[q]? := by
        intro q
        rw [spl_get _ _ _ _ (by rw [hlen, hl, ← hr]; omega), r.len he, Nat.zero_add]
      by_cases hij : i' = j
      · subst hij
        rw [List.getElem?_set_self (by omega)] at hi'
        injection hi' with hi'
        subst hi'
        refine ⟨v.cells.toList, r.mono hle.f he, fun q w hq => ?_⟩
        have hqs : q < r.size := by
          rw [← r.len he]
          by_cases h : q < v.cells.toList.length
          · exact h
          · rw [List.getElem?_eq_none (by omega)] at hq; cases hq
        rw [hsp, if_pos (by omega), show i' * r.size + q - i' * r.size = q from by omega]
        exact hq
      · rw [List.getElem?_set_ne (fun h => hij h.symm)] at hi'
        obtain ⟨e', he', hv'⟩ := hx' i' x' hi'
        refine ⟨e', r.mono hle.f he', fun q w hq => ?_⟩
        have hqs : q < r.size := by
          rw [← r.len he']
          by_cases h : q < e'.length
          · exact h
          · rw [List.getElem?_eq_none (by omega)] at hq; cases hq
        rw [hsp, if_neg ?_]
        · exact hv' q w hq
        · rcases Nat.lt_or_gt_of_ne hij with h | h
          · have : i' * r.size + r.size ≤ j * r.size := by rw [← Nat.succ_mul]; exact Nat.mul_le_mul_right _ (by omega)
            omega
          · have : j * r.size + r.size ≤ i' * r.size := by rw [← Nat.succ_mul]; exact Nat.mul_le_mul_right _ (by omega)
            omega
end
end Go.Rx

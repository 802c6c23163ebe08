/- The rules of the walk: slices that the function itself writes. -/
import Derived.Test.YtcobdnnfmhfenaaGreatRd
set_option linter.unusedVariables false
set_option linter.unusedSimpArgs false
namespace Go.Rx
open Go
section

/-- A slice that the function may write. -/
structure Ows {α : Type} (r : Rep α) (W : GW) (p : Option Addr) (n c : Nat) (xs : List α) : Prop where
  hn : n = xs.length
  hc : n ≤ c
  hC : c < 9223372036854775808
  h : c = 0 ∨ ∃ b cs T, p = some ⟨b, 0, none⟩ ∧ b ∈ W.A ∧ W.m ≤ b ∧ W.w.heap[b]? = some (.cells (cs : List Value).toArray T (0, 0)) ∧ cs.length = c * r.size ∧
    ∀ i x, xs[i]? = some x → ∃ e, r.At W e x ∧ ∀ j v, e[j]? = some v → cs[i * r.size + j]? = some v

section
variable {α : Type} {r : Rep α} {W : GW}
theorem Ows.ext {W' : GW} {p : Option Addr} {n c : Nat} {xs : List α} (h : Ows r W p n c xs) (e : Ext W W') : Ows r W' p n c xs := by
  refine ⟨h.hn, h.hc, h.hC, ?_⟩
  rcases h.h with h0 | ⟨b, cs, T, hp, hA, hm, hb, hl, hx⟩
  · exact .inl h0
  · refine .inr ⟨b, cs, T, hp, e.keep b hA, by rw [e.m]; exact hm, by rw [e.all b (lt_of_heap hb)]; exact hb, hl, fun i x hi => ?_⟩
    obtain ⟨u, hu, hv⟩ := hx i x hi
    exact ⟨u, r.mono e.toLeS.f hu, hv⟩
theorem Ows.out {W' : GW} {p : Option Addr} {n c : Nat} {xs : List α} (h : Ows r W p n c xs) (i : Ex W W') (o : Own1 W W') : Ows r W' p n c xs := by
  refine ⟨h.hn, h.hc, h.hC, ?_⟩
  rcases h.h with h0 | ⟨b, cs, T, hp, hA, hm, hb, hl, hx⟩
  · exact .inl h0
  · refine .inr ⟨b, cs, T, hp, by rw [o.A]; exact hA, Nat.le_trans i.m hm, by rw [i.w]; exact hb, hl, fun j x hj => ?_⟩
    obtain ⟨u, hu, hv⟩ := hx j x hj
    exact ⟨u, r.mono i.f hu, hv⟩
theorem Ows.nil (r : Rep α) (W : GW) (p : Option Addr) : Ows r W p 0 0 [] := ⟨rfl, Nat.le_refl _, by decide, .inl rfl⟩
/-- As data, where it is written no more. -/
theorem Ows.sl {W' : GW} {p : Option Addr} {n c : Nat} {xs : List α} (h : Ows r W p n c xs) (l : LeF W W') (hw : W'.w = W.w) (ha : ∀ k ∈ W'.A, k < W.m) : Sl r W' p n c xs := by
  refine ⟨h.hn, h.hc, h.hC, ?_⟩
  rcases h.h with h0 | ⟨b, cs, T, hp, hA, hm, hb, hl, hx⟩
  · refine .inl (List.eq_nil_of_length_eq_zero ?_)
    have := h.hn; have := h.hc; omega
  · refine .inr ⟨b, 0, hp, by rw [GW.size, hw]; exact lt_of_heap hb, fun hh => by have := ha b hh; omega, fun i x hi => ?_⟩
    obtain ⟨u, hu, hv⟩ := hx i x hi
    refine ⟨u, r.mono l hu, fun j v hj => ?_⟩
    rw [hw, cell_of hb, Nat.zero_add]
    exact hv j v hj
theorem Ows.pub {W' : GW} {p : Option Addr} {n c : Nat} {xs : List α} (h : Ows r W p n c xs) (i : Ex W W') (q : Pub W W') : Sl r W' p n c xs := h.sl i.f i.w q.p

theorem Ows.sl' {W' : GW} {b : Nat} {n c : Nat} {xs : List α} (h : Ows r W (some ⟨b, 0, none⟩) n c xs) (l : LeF W W') (hw : W'.w = W.w) (ha : b ∉ W'.A) : Sl r W' (some ⟨b, 0, none⟩) n c xs := by
  refine ⟨h.hn, h.hc, h.hC, ?_⟩
  rcases h.h with h0 | ⟨b', cs, T, hp, hA, hm, hb, hl, hx⟩
  · refine .inl (List.eq_nil_of_length_eq_zero ?_)
    have := h.hn; have := h.hc; omega
  · injection hp with hp
    injection hp with hp _ _
    subst hp
    refine .inr ⟨b, 0, rfl, by rw [GW.size, hw]; exact lt_of_heap hb, ha, fun i x hi => ?_⟩
    obtain ⟨u, hu, hv⟩ := hx i x hi
    refine ⟨u, r.mono l hu, fun j v hj => ?_⟩
    rw [hw, cell_of hb, Nat.zero_add]
    exact hv j v hj
theorem Ows.cells {p : Option Addr} {n c : Nat} {xs : List α} (h : Ows r W p n c xs) {i : Nat} {x : α} (hi : xs[i]? = some x) :
    ∃ b e, p = some ⟨b, 0, none⟩ ∧ r.At W e x ∧ ∀ j v, e[j]? = some v → W.w.cell? ⟨b, 0 + (i * r.size + j), none⟩ = some v := by
  have hil : i < xs.length := by
    by_cases h : i < xs.length
    · exact h
    · rw [List.getElem?_eq_none (by omega)] at hi; cases hi
  rcases h.h with h0 | ⟨b, cs, T, hp, hA, hm, hb, hl, hx⟩
  · have := h.hn; have := h.hc; omega
  · obtain ⟨u, hu, hv⟩ := hx i x hi
    exact ⟨b, u, hp, hu, fun j v hj => by rw [cell_of hb, Nat.zero_add]; exact hv j v hj⟩
end

section
variable {P : Program} {n : Nat} {ops : Array Oper} {l : List Oper} {K : List Kt} {fin : Exit → Act → World → Prop} {env : Env} {W : GW}
variable {d d2 : Nat} {ty ty2 : TypeId} {pos pos2 : String} {aft aft2 : Array Edge}

/-- the place of a word of one's own, as long as nothing is written -/
theorem Ows.word {b m c j : Nat} {xs : List Nat} {u : Nat} (hs : Ows RW W (some ⟨b, 0, none⟩) m c xs) (hj : xs[j]? = some u) :
    ∃ _x : True, ∀ W' : GW, Lk1 W W' → Ext W W' → W'.w.cell? ⟨b, 0 + j * 1, none⟩ = some (.int .u32 (u : Int)) := by
  refine ⟨trivial, fun W' _ e => ?_⟩
  obtain ⟨b', e', hp, he, hv⟩ := (hs.ext e).cells hj
  injection hp with hp
  injection hp with hp _ _
  subst hp
  exact hv 0 (.int .u32 (u : Int)) (by rw [he.1]; rfl)
/-- Publishing: from here on the slice is data. What else was being written is lost sight of. -/
def GW.pubB (W : GW) (b : Nat) : GW where
  w := W.w
  A := W.A.filter (· != b)
  m := W.m
  hA := fun k hk => W.hA k (List.mem_filter.1 hk).1
  hm := W.hm
theorem pubB_le (W : GW) (b : Nat) (hb : W.m ≤ b) : LeS W (W.pubB b) where
  os := rfl
  out := rfl
  tape := rfl
  m := rfl
  size := Nat.le_refl _
  same := fun _ _ _ => rfl
  stay := fun k _ h hk => h (List.mem_filter.1 hk).1
  prot := fun k hk hA => List.mem_filter.2 ⟨hA, by simp; omega⟩
  row := fun _ c _ _ h => ⟨c, h, rfl⟩
theorem pub_own {α β : Type} {r : Rep α} {s : Rep β} {W : GW} {p : Option Addr} {m c : Nat} {xs : List α} (h : Ows r W p m c xs) :
    ∃ W', LeS W W' ∧ Sl r W' p m c xs := by
  rcases h.h with h0 | ⟨b, cs, T, hp, hA, hm, hb, hl, hx⟩
  · refine ⟨W, LeS.refl W, h.hn, h.hc, h.hC, .inl (List.eq_nil_of_length_eq_zero ?_)⟩
    have := h.hn; have := h.hc; omega
  · refine ⟨W.pubB b, pubB_le W b hm, h.hn, h.hc, h.hC, .inr ⟨b, 0, hp, lt_of_heap hb, fun hh => by have := (List.mem_filter.1 hh).2; simp at this, fun i x hi => ?_⟩⟩
    obtain ⟨u, hu, hv⟩ := hx i x hi
    exact ⟨u, r.mono (pubB_le W b hm).f hu, fun j v hj => by
      show W.w.cell? _ = _
      rw [cell_of hb, Nat.zero_add]; exact hv j v hj⟩
theorem J.pub {α : Type} {r : Rep α} {p : Option Addr} {m c : Nat} {xs : List α} (h : Ows r W p m c xs) (k : ∀ W', Le1 W W' → Sl r W' p m c xs → J P n K fin env W') : J P n K fin env W := by
  rcases h.h with h0 | ⟨b, cs, T, hp, hA, hm, hb, hl, hx⟩
  · refine k W ⟨LeS.refl W⟩ ⟨h.hn, h.hc, h.hC, .inl (List.eq_nil_of_length_eq_zero ?_)⟩
    have := h.hn; have := h.hc; omega
  · refine fun a ha => k (W.pubB b) ⟨pubB_le W b hm⟩ ⟨h.hn, h.hc, h.hC, .inr ⟨b, 0, hp, lt_of_heap hb, fun hh => by have := (List.mem_filter.1 hh).2; simp at this, fun i x hi => ?_⟩⟩ a ha
    obtain ⟨u, hu, hv⟩ := hx i x hi
    exact ⟨u, r.mono (pubB_le W b hm).f hu, fun j v hj => by
      show W.w.cell? _ = _
      rw [cell_of hb, Nat.zero_add]; exact hv j v hj⟩

/-- x[j] of a slice of the function's own -/
theorem O.ixo {α : Type} {r : Rep α} {T E sz by' : Nat} {z z' : List Value} {ag : Bool} {x y : Operand} {p : Option Addr} {m c j : Nat} {k' : IntKind} {jj : Int} {xs : List α} {u : α} [i : TSl P T E sz by' z] [i2 : TVar P E sz ag z']
    (hx : get env x = some (.slice p m c)) (hy : get env y = some (.int k' jj)) (hjj : jj = (j : Int)) (hs : Ows r W p m c xs) (hj : xs[j]? = some u) (hr : r.size = sz) (hg : r.agg = ag) (h1 : ag = false → sz = 1)
    (k : ∀ a v, V r W v u → JO P n ops l K fin ((d2, v) :: (d, .pointer (some a)) :: env) W) :
    JO P n ops (⟨some d, .indexAddr T x y, ty, pos, aft, none⟩ :: ⟨some d2, .load E (.tmp d), ty2, pos2, aft2, none⟩ :: l) K fin env W := by
  obtain ⟨b, e, hp, he, hv⟩ := hs.cells hj
  subst hp
  subst hjj
  have hjm : j < m := by
    rw [hs.hn]
    by_cases h : j < xs.length
    · exact h
    · rw [List.getElem?_eq_none (by omega)] at hj; cases hj
  refine O.ia hx hy rfl hjm ?_
  exact O.ld (i := i2) (b := b) (off := 0 + j * sz) (cs := e) (by simp [get, look_cons]) (by rw [r.len he, hr]) (fun i v hi => by rw [Nat.add_assoc, ← hr]; exact hv i v hi) h1 (k _ _ ⟨e, he, by rw [hg]⟩)
/-- the address of x[j], to be written -/
theorem O.iao {α : Type} {r : Rep α} {T E sz by' : Nat} {z : List Value} {x y : Operand} {p : Option Addr} {m c j : Nat} {k' : IntKind} {jj : Int} {xs : List α} [i : TSl P T E sz by' z]
    (hx : get env x = some (.slice p m c)) (hy : get env y = some (.int k' jj)) (hjj : jj = (j : Int)) (hs : Ows r W p m c xs) (hj : j < m) (hr : r.size = sz)
    (k : ∀ b, p = some ⟨b, 0, none⟩ → JO P n ops l K fin ((d, .pointer (some ⟨b, 0 + j * r.size, none⟩)) :: env) W) :
    JO P n ops (⟨some d, .indexAddr T x y, ty, pos, aft, none⟩ :: l) K fin env W := by
  rcases hs.h with h0 | ⟨b, cs, T', hp, hA, hm, hb, hl, hx'⟩
  · have := hs.hc; omega
  · subst hp
    subst hjj
    refine O.ia hx hy rfl hj ?_
    rw [← hr]
    exact k b rfl
theorem O.iaB {α : Type} {r : Rep α} {T E sz by' : Nat} {z : List Value} {x y : Operand} {b : Nat} {m c j : Nat} {k' : IntKind} {jj : Int} {xs : List α} [i : TSl P T E sz by' z]
    (hx : get env x = some (.slice (some ⟨b, 0, none⟩) m c)) (hy : get env y = some (.int k' jj)) (hjj : jj = (j : Int)) (hs : Ows r W (some ⟨b, 0, none⟩) m c xs) (hj : j < m) (hr : r.size = sz)
    (k : JO P n ops l K fin ((d, .pointer (some ⟨b, 0 + j * r.size, none⟩)) :: env) W) :
    JO P n ops (⟨some d, .indexAddr T x y, ty, pos, aft, none⟩ :: l) K fin env W :=
  O.iao hx hy hjj hs hj hr fun b' hb => by injection hb with hb; injection hb with hb; subst hb; exact k
/-- x[j] = v -/
theorem O.sto {α : Type} {r : Rep α} {E sz : Nat} {ag : Bool} {z : List Value} {x y : Operand} {b : Nat} {m c j : Nat} {xs : List α} {u : α} {v : Value} [i : TVar P E sz ag z]
    (hx : get env x = some (.pointer (some ⟨b, 0 + j * r.size, none⟩))) (hy : get env y = some v) (hs : Ows r W (some ⟨b, 0, none⟩) m c xs) (hj : j < m) (hv : V r W v u) (hr : r.size = sz) (hg : r.agg = true ∨ r.size = 1)
    (k : ∀ W', Lk1 W W' → Ows r W' (some ⟨b, 0, none⟩) m c (xs.set j u) → JO P n ops l K fin env W') :
    JO P n ops (⟨none, .store E x y, ty, pos, aft, none⟩ :: l) K fin env W := by
  rcases hs.h with h0 | ⟨b', cs, T', hp, hA, hm, hb, hl, hx'⟩
  · have := hs.hc; omega
  · injection hp with hp
    injection hp with hp _ _
    subst hp
    obtain ⟨e, he, hve⟩ := hv
    have hcl : v.cells.toList = e := by
      subst hve
      cases hag : r.agg with
      | true => simp [mkv, Value.cells]
      | false =>
        have h1 : r.size = 1 := by rcases hg with h | h; rw [hag] at h; cases h; exact h
        have hle := r.len he
        match e, hle, he with
        | [u1], _, he =>
          have := r.one he u1 (List.mem_cons_self ..)
          simp only [mkv, List.headD_cons, Bool.false_eq_true, if_false]
          cases u1 <;> simp_all [Value.cells, oneC]
        | [], hle, _ => simp at hle; omega
        | _ :: _ :: _, hle, _ => simp at hle; omega
    have hlen : v.cells.toList.length = sz := by rw [hcl, r.len he, hr]
    have hjm := hs.hn
    have hcm := hs.hc
    have hmul : j * r.size + r.size ≤ c * r.size := by
      rw [← Nat.succ_mul]; exact Nat.mul_le_mul_right _ (by omega)
    have hr' := run_storeVar (P := P) (T := E) (off := 0 + j * r.size) (v := v) hb hlen (by rw [hl, ← hr]; omega) (by rw [hcl]; exact fun w hw => r.one he w hw)
    have hle := put_lek W b _ (spl cs (0 + j * r.size) v.cells.toList).toArray T' (0, 0) hb hA hm (by simp [spl_length])
    refine JO.unit (W' := W.put b (.cells (spl cs (0 + j * r.size) v.cells.toList).toArray T' (0, 0))) (fun a ha => ?_) (k _ ⟨hle⟩ ⟨by rw [List.length_set]; exact hjm, hcm, hs.hC, .inr ⟨b, _, T', rfl, hA, hm, heap_put_self _ _ _ (lt_of_heap hb), by rw [spl_length]; exact hl, fun i' x' hi' => ?_⟩⟩)
    · simp only [execOp, ha.get hx, ha.get hy, Instr.storeAt, Instr.sureAddr]
      rw [Sem.run_bind, Sem.run_bind]
      show Result.andThen (Result.andThen (Result.ok _ _) _) _ = _
      simp only [Result.andThen_ok]
      rw [hr']
      rfl
    · have hsp : ∀ q, (spl cs (0 + j * r.size) v.cells.toList)[q]? = if j * r.size ≤ q ∧ q < j * r.size + r.size then e[q - j * r.size]? else cs[q]? := by
        intro q
        rw [spl_get _ _ _ _ (by rw [hlen, hl, ← hr]; omega), hcl, r.len he, Nat.zero_add]
      by_cases hij : i' = j
      · subst hij
        rw [List.getElem?_set_self (by omega)] at hi'
        injection hi' with hi'
        subst hi'
        refine ⟨e, r.mono hle.f he, fun q w hq => ?_⟩
        have hqs : q < r.size := by
          rw [← r.len he]
          by_cases h : q < e.length
          · exact h
          · rw [List.getElem?_eq_none (by omega)] at hq; cases hq
        rw [hsp, if_pos (by omega), show i' * r.size + q - i' * r.size = q from by omega]
        exact hq
      · rw [List.getElem?_set_ne (fun h => hij h.symm)] at hi'
        obtain ⟨e', he', hv'⟩ := hx' i' x' hi'
        refine ⟨e', r.mono hle.f he', fun q w hq => ?_⟩
        have hqs : q < r.size := by
          rw [← r.len he']
          by_cases h : q < e'.length
          · exact h
          · rw [List.getElem?_eq_none (by omega)] at hq; cases hq
        rw [hsp, if_neg ?_]
        · exact hv' q w hq
        · rcases Nat.lt_or_gt_of_ne hij with h | h
          · have : i' * r.size + r.size ≤ j * r.size := by rw [← Nat.succ_mul]; exact Nat.mul_le_mul_right _ (by omega)
            omega
          · have : j * r.size + r.size ≤ i' * r.size := by rw [← Nat.succ_mul]; exact Nat.mul_le_mul_right _ (by omega)
            omega

/-! make -/
/-- n data one behind the other -/
def repl (z : List Value) : Nat → List Value
  | 0 => []
  | k + 1 => z ++ repl z k
theorem repl_length (z : List Value) (k : Nat) : (repl z k).length = k * z.length := by
  induction k with
  | zero => simp [repl]
  | succ k ih => simp only [repl, List.length_append, ih, Nat.succ_mul]; omega
theorem repl_get (z : List Value) (k i j : Nat) (hi : i < k) (hj : j < z.length) : (repl z k)[i * z.length + j]? = z[j]? := by
  induction k generalizing i with
  | zero => omega
  | succ k ih =>
    simp only [repl]
    cases i with
    | zero => rw [Nat.zero_mul, Nat.zero_add, List.getElem?_append_left hj]
    | succ i =>
      rw [Nat.succ_mul, List.getElem?_append_right (by omega), show i * z.length + z.length + j - z.length = i * z.length + j from by omega]
      exact ih i (by omega)
theorem zero_row (z : List Value) (k : Nat) (h : 0 < z.length) (zero : Array Value) (hz : zero.toList = z) : (Array.range (k * z.length)).map (fun i => zero[i % zero.size]!) = (repl z k).toArray := by
  apply Array.ext'
  apply List.ext_getElem?
  intro q
  have hzs : zero.size = z.length := by rw [← hz]; simp
  by_cases hq : q < k * z.length
  · have hdm := Nat.div_add_mod q z.length
    have hm := Nat.mod_lt q h
    have hd : q / z.length < k := Nat.div_lt_of_lt_mul (by rw [Nat.mul_comm]; exact hq)
    have := repl_get z k (q / z.length) (q % z.length) hd hm
    rw [show q / z.length * z.length + q % z.length = q from by rw [Nat.mul_comm]; exact hdm] at this
    simp only [Array.toList_map, Array.toList_range, List.getElem?_map]
    rw [this, List.getElem?_range hq]
    have hz2 : zero[q % z.length]? = z[q % z.length]? := by rw [← hz]; simp
    simp only [Option.map_some, hzs]
    rw [List.getElem?_eq_getElem hm] at hz2 ⊢
    have hlt : q % z.length < zero.size := by omega
    rw [Array.getElem?_eq_getElem hlt] at hz2
    rw [getElem!_pos zero _ hlt]
    exact hz2
  · rw [List.getElem?_eq_none (by simp; omega), List.getElem?_eq_none (by simp [repl_length]; omega)]
end
end
section

theorem replicate_get {α : Type} {a b : α} {n i : Nat} (h : (List.replicate n a)[i]? = some b) : i < n ∧ b = a := by
  have hi : i < n := by
    by_cases h2 : i < n
    · exact h2
    · rw [List.getElem?_eq_none (by simp; omega)] at h; cases h
  refine ⟨hi, ?_⟩
  rw [List.getElem?_replicate, if_pos hi] at h
  injection h with h
  exact h.symm

section
variable {P : Program} {n : Nat} {ops : Array Oper} {l : List Oper} {K : List Kt} {fin : Exit → Act → World → Prop} {env : Env} {W : GW}
variable {d d2 : Nat} {ty ty2 : TypeId} {pos pos2 : String} {aft aft2 : Array Edge}

theorem wrapI {x : Int} (h : -9223372036854775808 ≤ x ∧ x < 9223372036854775808) : IntKind.i64.wrap x = x := by
  have e : IntKind.i64.wrap x = if x % 18446744073709551616 ≥ 9223372036854775808 then x % 18446744073709551616 - 18446744073709551616 else x % 18446744073709551616 := by
    simp [IntKind.wrap, IntKind.bits, IntKind.signed]
  rw [e]; split <;> omega

/-- make([]T, m, c) -/
theorem O.mk {α : Type} {r : Rep α} {T E sz by' : Nat} {z : List Value} {x y : Operand} {m c : Nat} {kx ky : IntKind} {mi ci : Int} (u : α) [i : TSl P T E sz by' z]
    (hx : get env x = some (.int kx mi)) (hy : get env y = some (.int ky ci)) (hmi : mi = (m : Int)) (hci : ci = (c : Int)) (hmc : m ≤ c) (hC : c * by' ≤ 281474976710656) (hC2 : c < 9223372036854775808) (hr : r.size = sz) (hzl : z.length = sz) (hz0 : 0 < sz)
    (hz : ∀ W : GW, r.At W z u)
    (k : ∀ W' b, Lk1 W W' → Ext W W' → W.size ≤ b → Ows r W' (some ⟨b, 0, none⟩) m c (List.replicate m u) → JO P n ops l K fin ((d, .slice (some ⟨b, 0, none⟩) m c) :: env) W') :
    JO P n ops (⟨some d, .makeSlice T x y, ty, pos, aft, none⟩ :: l) K fin env W := by
  obtain ⟨ii, v, e1, e2, e3, e4, e5⟩ := i.i
  subst hmi; subst hci
  have hcells : v.cells.size = sz := by rw [← hzl, ← e5]; simp
  have hrow := zero_row z c (by omega) v.cells e5
  rw [hzl] at hrow
  refine JO.world (W' := W.push (.cells (repl z c).toArray E) true) (v := .slice (some ⟨W.size, 0, none⟩) m c) (fun a ha => ?_)
    (k _ _ ⟨(push_ext ..).toLeK⟩ (push_ext ..) (Nat.le_refl _) ⟨(List.length_replicate ..).symm, hmc, hC2, .inr ⟨W.size, repl z c, E, rfl, List.mem_cons_self .., W.hm, by simpa using push_cells W (repl z c).toArray E true, by rw [repl_length, hzl, hr], fun i x hi => ?_⟩⟩)
  · have hb : (ii.bytes : Int) * (c : Int) ≤ 281474976710656 := by
      have h1 : ((c * by' : Nat) : Int) ≤ ((281474976710656 : Nat) : Int) := Int.ofNat_le.2 hC
      rw [Nat.mul_comm, Int.natCast_mul] at h1
      rw [e3]
      exact h1
    have hnr : (Instr.makeSlice T (.int kx (m : Int)) (.int ky (c : Int))).run P W.w = .ok (.slice (some ⟨W.size, 0, none⟩) m c) (W.push (.cells (repl z c).toArray E) true).w := by
      have := run_make (P := P) W.w T E ii v i.u e1 e4 kx ky (m : Int) (c : Int) (by omega) (by omega) hb (by omega)
      rw [this, e2]
      simp only [Int.toNat_natCast]
      have h2 : madeCells v.cells (c * sz) = (repl z c).toArray := hrow
      rw [h2]
      rfl
    simp only [execOp, ha.get hx, ha.get hy]
    rw [Sem.run_bind, hnr]
    rfl
  · obtain ⟨h1, h2⟩ := replicate_get hi
    subst h2
    refine ⟨z, hz _, fun j v hj => ?_⟩
    have hjl : j < z.length := by
      by_cases h : j < z.length
      · exact h
      · rw [List.getElem?_eq_none (by omega)] at hj; cases hj
    rw [hr, ← hzl, repl_get z c i j (by omega) hjl]
    exact hj

theorem oneC_eq (v : Value) : oneC v = v.oneCell' := by cases v <;> rfl
theorem setRow_eq {w : World} {b : Nat} {c c' : Array Value} {T : TypeId} {fr : Nat × Nat} (hb : w.heap[b]? = some (.cells c T fr)) : w.setRow b c' = setB w b (.cells c' T fr) := by
  unfold World.setRow setB
  congr 1
  apply Array.ext_getElem?
  intro k
  simp only [Array.getElem?_modify, Array.getElem?_setIfInBounds]
  by_cases h : b = k
  · subst h
    rw [if_pos rfl, if_pos rfl, if_pos (lt_of_heap hb), hb]
    simp
  · rw [if_neg h, if_neg h]

/-- the cells of a slice, one behind the other -/
theorem sl_flat {α : Type} {r : Rep α} {q : Option Addr} {m c : Nat} {ys : List α} (h : Sl r W q m c ys) (hm : 0 < m) :
    ∃ b off news, q = some ⟨b, off, none⟩ ∧ (news : List Value).length = m * r.size ∧ (∀ j u, news[j]? = some u → W.w.cell? ((⟨b, off, none⟩ : Addr).add j) = some u) ∧ (∀ u ∈ news, u.oneCell' = true) ∧
      ∀ i y, ys[i]? = some y → ∃ e, r.At W e y ∧ ∀ j v, e[j]? = some v → news[i * r.size + j]? = some v := by
  rcases h.at' with h0 | ⟨b, off, hq, hb, hA, hx⟩
  · subst h0; have := h.hn; simp at this; omega
  · have hcell : ∀ k, k < m * r.size → ∃ v, W.w.cell? ⟨b, off + k, none⟩ = some v ∧ v.oneCell' = true := by
      intro k hk
      have hs : 0 < r.size := by
        rcases Nat.eq_zero_or_pos r.size with h | h
        · rw [h] at hk; simp at hk
        · exact h
      have hi : k / r.size < m := Nat.div_lt_of_lt_mul (by rw [Nat.mul_comm]; exact hk)
      have hil : k / r.size < ys.length := by rw [← h.hn]; exact hi
      obtain ⟨e, he, hv⟩ := hx (k / r.size) _ (List.getElem?_eq_getElem hil)
      have hj : k % r.size < e.length := by rw [r.len he]; exact Nat.mod_lt _ hs
      have := hv (k % r.size) _ (List.getElem?_eq_getElem hj)
      rw [show k / r.size * r.size + k % r.size = k from by rw [Nat.mul_comm]; exact Nat.div_add_mod ..] at this
      exact ⟨_, this, by rw [← oneC_eq]; exact r.one he _ (List.getElem_mem hj)⟩
    refine ⟨b, off, (List.range (m * r.size)).map fun k => (W.w.cell? ⟨b, off + k, none⟩).getD undef, hq, by simp, fun j u hj => ?_, fun u hu => ?_, fun i y hi => ?_⟩
    · rw [List.getElem?_map] at hj
      by_cases hjl : j < m * r.size
      · rw [List.getElem?_range hjl] at hj
        obtain ⟨v, hv, _⟩ := hcell j hjl
        simp only [Option.map_some, hv, Option.getD_some, Option.some.injEq] at hj
        rw [add0, hv, hj]
      · rw [List.getElem?_eq_none (by simpa using hjl)] at hj; cases hj
    · obtain ⟨k, hk, rfl⟩ := List.mem_map.1 hu
      obtain ⟨v, hv, h1⟩ := hcell k (List.mem_range.1 hk)
      rw [hv]; exact h1
    · obtain ⟨e, he, hv⟩ := hx i y hi
      refine ⟨e, he, fun j v hj => ?_⟩
      have hil : i < m := by
        rw [h.hn]
        by_cases h : i < ys.length
        · exact h
        · rw [List.getElem?_eq_none (by omega)] at hi; cases hi
      have hjl : j < r.size := by
        rw [← r.len he]
        by_cases h : j < e.length
        · exact h
        · rw [List.getElem?_eq_none (by omega)] at hj; cases hj
      have hlt : i * r.size + j < m * r.size := by
        have : i * r.size + r.size ≤ m * r.size := by rw [← Nat.succ_mul]; exact Nat.mul_le_mul_right _ (by omega)
        omega
      rw [List.getElem?_map, List.getElem?_range hlt, Option.map_some, hv j v hj]
      rfl

theorem run_room {T E b : Nat} {tyy : TypeId} {w : World} {ii : TypeInfo} (ht : P.underlying T = some (.slice E)) (hi : P.info? E = some ii) {m c k c2 : Nat} {cs news : List Value} {T' : TypeId} {a : Addr}
    (hb : w.heap[b]? = some (.cells cs.toArray T' (0, 0))) (hl : news.length = k * ii.size) (hnews : ∀ j u, news[j]? = some u → w.cell? (a.add j) = some u) (h1 : ∀ u ∈ news, u.oneCell' = true)
    (hroom : m + k ≤ c) (hfit : m * ii.size + news.length ≤ cs.length) :
    (Builtin.append_ #[T, T] tyy #[.slice (some ⟨b, 0, none⟩) m c, .slice (some a) k c2]).run P w = .ok (.slice (some ⟨b, 0, none⟩) (m + k) c) (setB w b (.cells (spl cs (m * ii.size) news).toArray T' (0, 0))) := by
  have hf := run_firstCells_some (P := P) w ii.size k a k c2 news hl hnews
  have hst := run_storeCells (P := P) (off := 0 + m * ii.size) news w 0 cs hb (by omega) (fun v hv => by rw [oneC_eq]; exact h1 v hv)
  simp only [Nat.add_zero, Nat.zero_add] at hst
  simp [Builtin.append_, run_underlying ht, sizeOf, typeInfo, hi, Builtin.lenOf, hroom, hf, add0, hst]

/-- What append leaves alone, and where its result lies. -/
structure AppF (p : Option Addr) (c : Nat) (W : GW) (p' : Option Addr) (c' : Nat) (W' : GW) : Prop where
  same : ∀ k, k < W.size → (∀ a, p = some a → 0 < c → k ≠ a.block) → W'.w.heap[k]? = W.w.heap[k]?
  new : ∀ a, p' = some a → 0 < c' → (p = some a ∧ 0 < c) ∨ W.size ≤ a.block
theorem own_append {α : Type} {r : Rep α} {T E sz by' : Nat} {z : List Value} {p q : Option Addr} {m c k c2 : Nat} {xs ys : List α} [i : TSl P T E sz by' z] (h : Ows r W p m c xs) (hy : Sl r W q k c2 ys) (hr : r.size = sz) (hz : z.length = sz)
    (hB : (m + k) * by' ≤ 140737488355328) (hL : m + k < 9223372036854775808) (tyy : TypeId) :
    ∃ p' c' W', (Builtin.append_ #[T, T] tyy #[.slice p m c, .slice q k c2]).run P W.w = .ok (.slice p' (m + k) c') W'.w ∧ LeK W W' ∧ Ows r W' p' (m + k) c' (xs ++ ys) ∧ AppF p c W p' c' W' := by
  obtain ⟨ii, v, e1, e2, e3, e4, e5⟩ := i.i
  have hlen : m + k = (xs ++ ys).length := by rw [List.length_append, h.hn, hy.hn]
  rcases Nat.eq_zero_or_pos k with hk | hk
  · subst hk
    have hys : ys = [] := List.eq_nil_of_length_eq_zero (by have := hy.hn; omega)
    subst hys
    refine ⟨p, c, W, ?_, LeK.refl W, by simpa using h, ⟨fun _ _ _ => rfl, fun a ha hc => .inl ⟨ha, hc⟩⟩⟩
    have hc := h.hc
    cases p <;> cases q <;> simp [Builtin.append_, run_underlying i.u, sizeOf, typeInfo, e1, Builtin.lenOf, Builtin.firstCells, loadCells, loadCellsFrom, storeCells, hc]
  · obtain ⟨b2, off2, news, rfl, hnl, hnc, hn1, hnx⟩ := sl_flat hy hk
    have hnl' : news.length = k * ii.size := by rw [hnl, hr, e2]
    -- a new array
    have grow : ∀ (olds : List Value) (W0 : GW), W0 = W.tick → olds.length = m * ii.size → (∀ i x, xs[i]? = some x → ∃ e, r.At W e x ∧ ∀ j v, e[j]? = some v → olds[i * r.size + j]? = some v) →
        Ows r (W0.push (.cells (olds.toArray ++ news.toArray ++ Builtin.zeroCells v.cells (grownCap W.w (m + k) c E - (m + k))) E) true) (some ⟨W.size, 0, none⟩) (m + k) (grownCap W.w (m + k) c E) (xs ++ ys) := by
      intro olds W0 hW0 hol hox
      subst hW0
      have hle := push_ext W.tick (.cells (olds.toArray ++ news.toArray ++ Builtin.zeroCells v.cells (grownCap W.w (m + k) c E - (m + k))) E) true
      have hle2 := ((tick_ext W).trans hle).toLeS.f
      have hge := grownCap_ge W.w (m + k) c E
      have hlt : grownCap W.w (m + k) c E < 9223372036854775808 := by
        have := Nat.mod_lt (W.w.tape W.w.drawn (.appendCap (m + k) c E)) (show 0 < 2 ^ 63 - (m + k) by omega)
        simp only [grownCap, Question.cut] at *
        omega
      refine ⟨hlen, hge, hlt, .inr ⟨W.size, (olds ++ news ++ (Builtin.zeroCells v.cells (grownCap W.w (m + k) c E - (m + k))).toList), E, rfl, List.mem_cons_self .., W.hm, ?_, ?_, fun i x hi => ?_⟩⟩
      · have := push_cells W.tick (olds.toArray ++ news.toArray ++ Builtin.zeroCells v.cells (grownCap W.w (m + k) c E - (m + k))) E true
        rw [show W.tick.size = W.size from rfl] at this
        rw [this]
        simp
      · have hzs : v.cells.size = ii.size := by rw [e2, ← hz, ← e5]; simp
        rw [List.length_append, List.length_append, hol, hnl', Array.length_toList, size_zeroCells, hzs, hr, ← e2, ← Nat.add_mul, ← Nat.add_mul]
        congr 1
        omega
      · by_cases him : i < m
        · rw [List.getElem?_append_left (by rw [← h.hn]; exact him)] at hi
          obtain ⟨e, he, hv⟩ := hox i x hi
          refine ⟨e, r.mono hle2 he, fun j w hj => ?_⟩
          have hjl := hv j w hj
          have hjlt : i * r.size + j < olds.length := by
            by_cases h : i * r.size + j < olds.length
            · exact h
            · rw [List.getElem?_eq_none (by omega)] at hjl; cases hjl
          rw [List.append_assoc, List.getElem?_append_left hjlt]
          exact hjl
        · rw [List.getElem?_append_right (by rw [← h.hn]; omega), ← h.hn] at hi
          obtain ⟨e, he, hv⟩ := hnx (i - m) x hi
          refine ⟨e, r.mono hle2 he, fun j w hj => ?_⟩
          have hjl := hv j w hj
          have hjlt : (i - m) * r.size + j < news.length := by
            by_cases h : (i - m) * r.size + j < news.length
            · exact h
            · rw [List.getElem?_eq_none (by omega)] at hjl; cases hjl
          have hmi : i * r.size = m * r.size + (i - m) * r.size := by rw [← Nat.add_mul]; congr 1; omega
          rw [List.append_assoc, List.getElem?_append_right (by rw [hol, e2, ← hr]; omega), List.getElem?_append_left (by rw [hol, e2, ← hr]; omega), hol, e2, ← hr,
            show i * r.size + j - m * r.size = (i - m) * r.size + j from by omega]
          exact hjl
    rcases h.h with h0 | ⟨b, cs, T', hp, hA, hm, hb, hl, hx⟩
    · have hm0 : m = 0 := by have := h.hc; omega
      have hxs : xs = [] := List.eq_nil_of_length_eq_zero (by have := h.hn; omega)
      subst hm0
      subst h0
      have hg := grow [] _ rfl (by simp) (fun i x hi => by subst hxs; simp at hi)
      have hle := (push_ext W.tick (.cells (([] : List Value).toArray ++ news.toArray ++ Builtin.zeroCells v.cells (grownCap W.w (0 + k) 0 E - (0 + k))) E) true)
      refine ⟨_, _, _, ?_, ((tick_ext W).trans hle).toLeK, hg, ⟨fun j hj _ => ((tick_ext W).trans hle).all j hj, fun a ha _ => .inr (by injection ha with ha; subst ha; exact Nat.le_refl _)⟩⟩
      cases p with
      | none =>
        have := run_append_nil (P := P) W.w T tyy E ii v i.u e1 e4 ⟨b2, off2, none⟩ k c2 news hnl' hnc hk (by omega) (by rw [e3]; have := hB; simp at this; omega)
        simp only [Nat.zero_add]
        rw [this]
        congr 3
        simp
      | some a =>
        have := run_append_grow (P := P) W.w T tyy E ii v i.u e1 e4 a 0 0 [] (by simp) (fun j u hj => by simp at hj) ⟨b2, off2, none⟩ k c2 news hnl' hnc (by omega) (by omega) (growslice_fits (by omega) (by rw [e3]; exact hB))
        rw [this]
        rfl
    · subst hp
      by_cases hroom : m + k ≤ c
      · have hfit : m * ii.size + news.length ≤ cs.toArray.size := by
          rw [hnl']
          simp only [List.size_toArray, hl, hr, e2, ← Nat.add_mul]
          exact Nat.mul_le_mul_right _ hroom
        have hfit' : m * ii.size + news.length ≤ cs.length := by simpa using hfit
        have hrun := run_room (P := P) (T := T) (E := E) (tyy := tyy) (a := ⟨b2, off2, none⟩) (c2 := c2) i.u e1 hb hnl' hnc hn1 hroom hfit'
        have hle := put_lek W b _ (spl cs (m * ii.size) news).toArray T' (0, 0) hb hA hm (by simp [spl_length])
        refine ⟨_, _, W.put b (.cells (spl cs (m * ii.size) news).toArray T' (0, 0)), hrun, hle, ⟨hlen, hroom, h.hC, .inr ⟨b, _, T', rfl, hA, hm, heap_put_self _ _ _ (lt_of_heap hb), by rw [spl_length]; exact hl, fun i x hi => ?_⟩⟩, ⟨fun j hj hne => heap_put _ _ _ _ (hne _ rfl (by omega)), fun a ha hc' => .inl ⟨ha, hc'⟩⟩⟩
        have hsp : ∀ q, (spl cs (m * ii.size) news)[q]? = if m * ii.size ≤ q ∧ q < m * ii.size + news.length then news[q - m * ii.size]? else cs[q]? := fun q => spl_get _ _ _ _ hfit'
        have hes : ii.size = r.size := by rw [e2, hr]
        by_cases him : i < m
        · rw [List.getElem?_append_left (by rw [← h.hn]; exact him)] at hi
          obtain ⟨e, he, hv⟩ := hx i x hi
          refine ⟨e, r.mono hle.f he, fun j w hj => ?_⟩
          have hjl : j < r.size := by
            rw [← r.len he]
            by_cases h : j < e.length
            · exact h
            · rw [List.getElem?_eq_none (by omega)] at hj; cases hj
          have : i * r.size + r.size ≤ m * r.size := by rw [← Nat.succ_mul]; exact Nat.mul_le_mul_right _ (by omega)
          rw [hsp, if_neg (by rw [hes]; omega)]
          exact hv j w hj
        · rw [List.getElem?_append_right (by rw [← h.hn]; omega), ← h.hn] at hi
          obtain ⟨e, he, hv⟩ := hnx (i - m) x hi
          refine ⟨e, r.mono hle.f he, fun j w hj => ?_⟩
          have hjl := hv j w hj
          have hjlt : (i - m) * r.size + j < news.length := by
            by_cases h : (i - m) * r.size + j < news.length
            · exact h
            · rw [List.getElem?_eq_none (by omega)] at hjl; cases hjl
          have hmi : i * r.size = m * r.size + (i - m) * r.size := by rw [← Nat.add_mul]; congr 1; omega
          rw [hsp, if_pos (by rw [hes]; omega), hes, show i * r.size + j - m * r.size = (i - m) * r.size + j from by omega]
          exact hjl
      · have hol : (cs.take (m * ii.size)).length = m * ii.size := by
          rw [List.length_take, hl, hr, e2]
          exact Nat.min_eq_left (Nat.mul_le_mul_right _ h.hc)
        have hg := grow (cs.take (m * ii.size)) _ rfl hol (fun i x hi => by
          obtain ⟨e, he, hv⟩ := hx i x hi
          refine ⟨e, he, fun j w hj => ?_⟩
          have him : i < m := by
            rw [h.hn]
            by_cases h : i < xs.length
            · exact h
            · rw [List.getElem?_eq_none (by omega)] at hi; cases hi
          have hjl : j < r.size := by
            rw [← r.len he]
            by_cases h : j < e.length
            · exact h
            · rw [List.getElem?_eq_none (by omega)] at hj; cases hj
          have : i * r.size + r.size ≤ m * r.size := by rw [← Nat.succ_mul]; exact Nat.mul_le_mul_right _ (by omega)
          rw [List.getElem?_take, if_pos (by rw [e2, ← hr]; omega)]
          exact hv j w hj)
        have hle := (push_ext W.tick (.cells ((cs.take (m * ii.size)).toArray ++ news.toArray ++ Builtin.zeroCells v.cells (grownCap W.w (m + k) c E - (m + k))) E) true)
        refine ⟨_, _, _, ?_, ((tick_ext W).trans hle).toLeK, hg, ⟨fun j hj _ => ((tick_ext W).trans hle).all j hj, fun a ha _ => .inr (by injection ha with ha; subst ha; exact Nat.le_refl _)⟩⟩
        have := run_append_grow (P := P) W.w T tyy E ii v i.u e1 e4 ⟨b, 0, none⟩ m c (cs.take (m * ii.size)) hol (fun j u hj => by
          rw [add0, Nat.zero_add, cell_of hb]
          rw [List.getElem?_take] at hj
          split at hj
          · exact hj
          · cases hj) ⟨b2, off2, none⟩ k c2 news hnl' hnc (by omega) (by omega) (growslice_fits (by omega) (by rw [e3]; exact hB))
        rw [this]
        rfl

/-! literals -/
def getIdx (env : Env) : Nat → List (Nat × Operand) → Option (List Value)
  | _, [] => some []
  | k, (i, x) :: l => match Nat.beq i k with
    | false => none
    | true => match get env x with
      | none => none
      | some v => match getIdx env (k + 1) l with
        | none => none
        | some vs => some (v :: vs)
def idxL : Nat → List Value → List (Nat × Value)
  | _, [] => []
  | k, v :: vs => (k, v) :: idxL (k + 1) vs
theorem getIdx_eq {env : Env} {n : Nat} {a : Act} (ha : Rel n env a) (ps : List (Nat × Operand)) : ∀ (k : Nat) (vs : List Value), getIdx env k ps = some vs → ps.map (fun (i, x) => (i, a.eval x)) = idxL k vs := by
  induction ps with
  | nil => intro k vs h; simp [getIdx] at h; subst h; rfl
  | cons p ps ih =>
    intro k vs h
    obtain ⟨i, x⟩ := p
    simp only [getIdx] at h
    split at h
    · cases h
    · rename_i hb
      have hik := Nat.eq_of_beq_eq_true hb
      subst hik
      split at h
      · cases h
      · rename_i v hv
        split at h
        · cases h
        · rename_i us hus
          injection h with h
          subst h
          simp only [List.map_cons, idxL, ha.get hv, ih _ _ hus]

theorem foldl_spl (vs : List Value) : ∀ (cs : List Value) (off k : Nat), (vs.zipIdx k).foldl (fun (cs : Array Value) (c, j) => cs.setIfInBounds (off + j) c) cs.toArray = (spl cs (off + k) vs).toArray := by
  induction vs with
  | nil => intro cs off k; rfl
  | cons v vs ih =>
    intro cs off k
    simp only [List.zipIdx_cons, List.foldl_cons, spl]
    have : cs.toArray.setIfInBounds (off + k) v = (cs.set (off + k) v).toArray := by simp
    rw [this, ih]
    rfl
theorem arr_foldl (v : Array Value) (cs : List Value) (off : Nat) : v.zipIdx.foldl (fun (cs : Array Value) (c, j) => cs.setIfInBounds (off + j) c) cs.toArray = (spl cs off v.toList).toArray := by
  have := foldl_spl v.toList cs off 0
  rw [Nat.add_zero] at this
  rw [← this, ← Array.foldl_toList]
  simp

theorem fill_rows (sz : Nat) (vs : List Value) (hvs : ∀ v ∈ vs, v.cells.size = sz) : ∀ (k : Nat) (cs : List Value), (k + vs.length) * sz ≤ cs.length →
    ∃ cs', Instr.fill (fun i => some (i * sz, sz)) cs.toArray (idxL k vs) = some (cs' : List Value).toArray ∧ cs'.length = cs.length ∧ (∀ q, q < k * sz → cs'[q]? = cs[q]?) ∧
      ∀ i v, vs[i]? = some v → ∀ j, j < sz → cs'[(k + i) * sz + j]? = v.cells.toList[j]? := by
  induction vs with
  | nil => intro k cs _; exact ⟨cs, rfl, rfl, fun _ _ => rfl, fun i v h => by simp at h⟩
  | cons v vs ih =>
    intro k cs hle
    have hv := hvs v (List.mem_cons_self ..)
    simp only [List.length_cons] at hle
    have hks : k * sz + sz ≤ cs.length := by
      have : (k + 1) * sz ≤ (k + (vs.length + 1)) * sz := Nat.mul_le_mul_right _ (by omega)
      rw [Nat.succ_mul] at this; omega
    have hvl : v.cells.toList.length = sz := by simpa using hv
    obtain ⟨cs', h1, h2, h3, h4⟩ := ih (fun u hu => hvs u (List.mem_cons_of_mem _ hu)) (k + 1) (spl cs (k * sz) v.cells.toList) (by rw [spl_length, show k + 1 + vs.length = k + (vs.length + 1) from by omega]; exact hle)
    have hsp : ∀ q, (spl cs (k * sz) v.cells.toList)[q]? = if k * sz ≤ q ∧ q < k * sz + sz then v.cells.toList[q - k * sz]? else cs[q]? := fun q => by
      rw [spl_get _ _ _ _ (by rw [hvl]; exact hks), hvl]
    refine ⟨cs', ?_, by rw [h2, spl_length], fun q hq => ?_, fun i u hi j hj => ?_⟩
    · simp only [idxL, Instr.fill]
      have e1 : (decide (v.cells.size ≠ sz) || decide (k * sz + v.cells.size > cs.toArray.size)) = false := by
        simp [hv]; omega
      rw [if_neg (by rw [e1]; simp), arr_foldl]
      exact h1
    · rw [h3 q (by rw [Nat.succ_mul]; omega), hsp, if_neg (by omega)]
    · cases i with
      | zero =>
        simp at hi
        subst hi
        rw [Nat.add_zero, h3 _ (by rw [Nat.succ_mul]; omega), hsp, if_pos (by omega), show k * sz + j - k * sz = j from by omega]
      | succ i =>
        rw [show (k + (i + 1)) * sz + j = (k + 1 + i) * sz + j from by congr 2; omega]
        exact h4 i u (by simpa using hi) j hj

/-- All2: the values are the data. -/
def AllV {α : Type} (r : Rep α) (W : GW) : List Value → List α → Prop
  | [], [] => True
  | v :: vs, x :: xs => V r W v x ∧ AllV r W vs xs
  | _, _ => False
theorem AllV.len {α : Type} {r : Rep α} {W : GW} {vs : List Value} {xs : List α} (h : AllV r W vs xs) : vs.length = xs.length := by
  induction vs generalizing xs with
  | nil => cases xs with
    | nil => rfl
    | cons => exact h.elim
  | cons v vs ih => cases xs with
    | nil => exact h.elim
    | cons x xs => simp [ih h.2]
theorem AllV.get {α : Type} {r : Rep α} {W : GW} {vs : List Value} {xs : List α} (h : AllV r W vs xs) {i : Nat} {x : α} (hi : xs[i]? = some x) : ∃ v, vs[i]? = some v ∧ V r W v x := by
  induction vs generalizing xs i with
  | nil => cases xs with
    | nil => simp at hi
    | cons => exact h.elim
  | cons v vs ih => cases xs with
    | nil => exact h.elim
    | cons y xs =>
      cases i with
      | zero => simp at hi; subst hi; exact ⟨v, rfl, h.1⟩
      | succ i => simpa using ih h.2 (by simpa using hi)
theorem V.cells {α : Type} {r : Rep α} {W : GW} {v : Value} {x : α} (h : V r W v x) (hg : r.agg = true ∨ r.size = 1) : r.At W v.cells.toList x := by
  obtain ⟨e, he, hve⟩ := h
  have hcl : v.cells.toList = e := by
    subst hve
    cases hag : r.agg with
    | true => simp [mkv, Value.cells]
    | false =>
      have h1 : r.size = 1 := by rcases hg with h | h; rw [hag] at h; cases h; exact h
      have hle := r.len he
      match e, hle, he with
      | [u1], _, he =>
        have := r.one he u1 (List.mem_cons_self ..)
        simp only [mkv, List.headD_cons, Bool.false_eq_true, if_false]
        cases u1 <;> simp_all [Value.cells, oneC]
      | [], hle, _ => simp at hle; omega
      | _ :: _ :: _, hle, _ => simp at hle; omega
  rw [hcl]; exact he

theorem run_bs {α : Type} {r : Rep α} {T E sz by' m : Nat} {z : List Value} [i : TSl P T E sz by' z] {vs : List Value} {xs : List α} (hv : AllV r W vs xs) (hm : vs.length = m) (hr : r.size = sz) (hz : z.length = sz) (hz0 : 0 < sz) (hg : r.agg = true ∨ r.size = 1) (hL : m * sz ≤ 16777216) :
    ∃ cs : List Value, (Instr.buildSlice T m (idxL 0 vs).toArray).run P W.w = .ok (.slice (some ⟨W.size, 0, none⟩) m m) (W.w.alloc (.cells cs.toArray E)) ∧ cs.length = m * sz ∧
      ∀ i x, xs[i]? = some x → ∃ e, r.At W e x ∧ ∀ j v, e[j]? = some v → cs[i * r.size + j]? = some v := by
  obtain ⟨ii, v, e1, e2, e3, e4, e5⟩ := i.i
  have hvs : ∀ u ∈ vs, u.cells.size = sz := by
    intro u hu
    obtain ⟨k, hk⟩ := List.getElem?_of_mem hu
    have hkl : k < xs.length := by
      rw [← hv.len]
      by_cases h : k < vs.length
      · exact h
      · rw [List.getElem?_eq_none (by omega)] at hk; cases hk
    obtain ⟨w, hw, hV⟩ := hv.get (List.getElem?_eq_getElem hkl)
    rw [hk] at hw; injection hw with hw; subst hw
    have := r.len (hV.cells hg)
    simpa [hr] using this
  have hrow := zero_row z m (by omega) v.cells e5
  obtain ⟨cs', h1, h2, h3, h4⟩ := fill_rows sz vs hvs 0 (repl z m) (by rw [repl_length, hz, hm]; simp)
  refine ⟨cs', ?_, by rw [h2, repl_length, hz], fun i x hi => ?_⟩
  · rw [hz] at hrow
    have hn1 : ¬ (16777216 < m * sz) := by omega
    by_cases h0 : m * sz = 0
    · have hm0 : m = 0 := by rcases Nat.mul_eq_zero.1 h0 with h | h; exact h; omega
      subst hm0
      have hvs0 : vs = [] := List.eq_nil_of_length_eq_zero hm
      subst hvs0
      simp only [repl, idxL, Instr.fill] at h1
      injection h1 with h1
      have hc0 : cs' = [] := by
        have := congrArg Array.toList h1
        simpa using this.symm
      subst hc0
      simp [Instr.buildSlice, run_underlying i.u, sizeOf, typeInfo, e1, e2, idxL, Instr.fill, newRow, Array.range_zero']
    · have hz2 : (Array.range (m * sz)).map (fun q => v.cells[q % v.cells.size]!) = (repl z m).toArray := hrow
      simp [Instr.buildSlice, run_underlying i.u, sizeOf, typeInfo, zeroValue, e1, e2, e4, hn1, h0, hz2, h1, newRow]
  · obtain ⟨w, hw, hV⟩ := hv.get hi
    refine ⟨_, hV.cells hg, fun j u hj => ?_⟩
    have hjl : j < sz := by
      rw [← hr, ← r.len (hV.cells hg)]
      by_cases h : j < w.cells.toList.length
      · exact h
      · rw [List.getElem?_eq_none (by omega)] at hj; cases hj
    have := h4 i w hw j hjl
    rw [Nat.zero_add] at this
    rw [hr, this]
    exact hj

/-- []T{..}, to be written further -/
theorem O.bso {α : Type} {r : Rep α} {T E sz by' m : Nat} {z : List Value} {ps : List (Nat × Operand)} {vs : List Value} (xs : List α) [i : TSl P T E sz by' z] (hx : getIdx env 0 ps = some vs) (hv : AllV r W vs xs) (hm : vs.length = m) (hr : r.size = sz) (hz : z.length = sz) (hz0 : 0 < sz) (hg : r.agg = true ∨ r.size = 1) (hL : m * sz ≤ 16777216)
    (k : ∀ W' b, Lk1 W W' → Ext W W' → W.size ≤ b → Ows r W' (some ⟨b, 0, none⟩) m m xs → JO P n ops l K fin ((d, .slice (some ⟨b, 0, none⟩) m m) :: env) W') :
    JO P n ops (⟨some d, .buildSlice T m ps.toArray, ty, pos, aft, none⟩ :: l) K fin env W := by
  obtain ⟨cs, h1, h2, h3⟩ := run_bs (P := P) (T := T) hv hm hr hz hz0 hg hL
  have hle := push_ext W (.cells cs.toArray E) true
  refine JO.world (W' := W.push (.cells cs.toArray E) true) (v := .slice (some ⟨W.size, 0, none⟩) m m) (fun a ha => ?_)
    (k _ _ ⟨hle.toLeK⟩ hle (Nat.le_refl _) ⟨by rw [← hm]; exact hv.len, Nat.le_refl _, by have := Nat.le_mul_of_pos_right m hz0; omega, .inr ⟨W.size, cs, E, rfl, List.mem_cons_self .., W.hm, by simpa using push_cells W cs.toArray E true, by rw [h2, hr], fun i x hi => ?_⟩⟩)
  · have he := getIdx_eq ha ps 0 vs hx
    have he' : ps.toArray.map (fun (i, x) => (i, a.eval x)) = (idxL 0 vs).toArray := by
      apply Array.ext'; simpa using he
    simp only [execOp, he']
    rw [Sem.run_bind, h1]
    rfl
  · obtain ⟨e, he, hv⟩ := h3 i x hi
    exact ⟨e, r.mono hle.toLeS.f he, hv⟩
/-- []T{..} -/
theorem O.bs {α : Type} {r : Rep α} {T E sz by' m : Nat} {z : List Value} {ps : List (Nat × Operand)} {vs : List Value} (xs : List α) [i : TSl P T E sz by' z] (hx : getIdx env 0 ps = some vs) (hv : AllV r W vs xs) (hm : vs.length = m) (hr : r.size = sz) (hz : z.length = sz) (hz0 : 0 < sz) (hg : r.agg = true ∨ r.size = 1) (hL : m * sz ≤ 16777216)
    (k : ∀ W' p, Lk1 W W' → Ext W W' → Sl r W' p m m xs → JO P n ops l K fin ((d, .slice p m m) :: env) W') :
    JO P n ops (⟨some d, .buildSlice T m ps.toArray, ty, pos, aft, none⟩ :: l) K fin env W := by
  obtain ⟨cs, h1, h2, h3⟩ := run_bs (P := P) (T := T) hv hm hr hz hz0 hg hL
  have hle := push_ext W (.cells cs.toArray E) false
  refine JO.world (W' := W.push (.cells cs.toArray E) false) (v := .slice (some ⟨W.size, 0, none⟩) m m) (fun a ha => ?_)
    (k _ _ ⟨hle.toLeK⟩ hle ⟨by rw [← hm]; exact hv.len, Nat.le_refl _, by have := Nat.le_mul_of_pos_right m hz0; omega, .inr ⟨W.size, 0, rfl, by rw [GW.size_push]; omega, fun h => Nat.lt_irrefl _ (W.hA _ h), fun i x hi => ?_⟩⟩)
  · have he := getIdx_eq ha ps 0 vs hx
    have he' : ps.toArray.map (fun (i, x) => (i, a.eval x)) = (idxL 0 vs).toArray := by
      apply Array.ext'; simpa using he
    simp only [execOp, he']
    rw [Sem.run_bind, h1]
    rfl
  · obtain ⟨e, he, hv⟩ := h3 i x hi
    exact ⟨e, r.mono hle.toLeS.f he, fun j v hj => by
      rw [Nat.zero_add, cell_of (cs := cs) (by simpa using push_cells W cs.toArray E false)]
      exact hv j v hj⟩

/-! append -/
theorem run_app {T : TypeId} {x y : Operand} {v1 v2 v : Value} {W' : GW} {a : Act} (ha : Rel n env a) (hx : get env x = some v1) (hy : get env y = some v2) (h : (Builtin.append_ #[T, T] ty #[v1, v2]).run P W.w = .ok v W'.w) :
    (execOp a.eval ⟨some d, .call ⟨.builtin .append, #[x, y], #[T, T]⟩, ty, pos, aft, none⟩).run P W.w = .ok (.value v) W'.w := by
  simp only [execOp, resolve]
  have e : (#[x, y] : Array Operand).map a.eval = #[v1, v2] := by simp [ha.get hx, ha.get hy]
  rw [e, pure_bind]
  simp only [invoke, builtin]
  rw [Sem.run_bind, h]
  rfl
/-- append(x, y...) -/
theorem O.app {α : Type} {r : Rep α} {T E sz by' : Nat} {z : List Value} {x y : Operand} {p q : Option Addr} {m c k c2 : Nat} {xs ys : List α} [i : TSl P T E sz by' z] (hx : get env x = some (.slice p m c)) (hy : get env y = some (.slice q k c2))
    (h : Ows r W p m c xs) (hs : Sl r W q k c2 ys) (hr : r.size = sz) (hz : z.length = sz)
    (hB : (m + k) * by' ≤ 140737488355328) (hL : m + k < 9223372036854775808)
    (kk : ∀ W' p' c', Lk1 W W' → Ows r W' p' (m + k) c' (xs ++ ys) → JO P n ops l K fin ((d, .slice p' (m + k) c') :: env) W') :
    JO P n ops (⟨some d, .call ⟨.builtin .append, #[x, y], #[T, T]⟩, ty, pos, aft, none⟩ :: l) K fin env W := by
  obtain ⟨p', c', W', h1, h2, h3, _⟩ := own_append (P := P) (T := T) h hs hr hz hB hL ty
  exact JO.world (fun a ha => run_app ha hx hy h1) (kk W' p' c' ⟨h2⟩ h3)
theorem O.appF {α : Type} {r : Rep α} {T E sz by' : Nat} {z : List Value} {x y : Operand} {p q : Option Addr} {m c k c2 : Nat} {xs ys : List α} [i : TSl P T E sz by' z] (hx : get env x = some (.slice p m c)) (hy : get env y = some (.slice q k c2))
    (h : Ows r W p m c xs) (hs : Sl r W q k c2 ys) (hr : r.size = sz) (hz : z.length = sz)
    (hB : (m + k) * by' ≤ 140737488355328) (hL : m + k < 9223372036854775808)
    (kk : ∀ W' p' c', Lk1 W W' → Ows r W' p' (m + k) c' (xs ++ ys) → AppF p c W p' c' W' → JO P n ops l K fin ((d, .slice p' (m + k) c') :: env) W') :
    JO P n ops (⟨some d, .call ⟨.builtin .append, #[x, y], #[T, T]⟩, ty, pos, aft, none⟩ :: l) K fin env W := by
  obtain ⟨p', c', W', h1, h2, h3, h4⟩ := own_append (P := P) (T := T) h hs hr hz hB hL ty
  exact JO.world (fun a ha => run_app ha hx hy h1) (kk W' p' c' ⟨h2⟩ h3 h4)
/-- append(x, u) -/
theorem O.app1 {α : Type} {r : Rep α} {T E sz by' : Nat} {z : List Value} {x y : Operand} {p : Option Addr} {m c : Nat} {xs : List α} {v : Value} {u : α} [i : TSl P T E sz by' z] (hx : ∀ w, get ((d, w) :: env) x = some (.slice p m c)) (hy : get env y = some v)
    (h : Ows r W p m c xs) (hv : V r W v u) (hr : r.size = sz) (hz : z.length = sz) (hz0 : 0 < sz) (hg : r.agg = true ∨ r.size = 1) (hL2 : 1 * sz ≤ 16777216)
    (hB : (m + 1) * by' ≤ 140737488355328) (hL : m + 1 < 9223372036854775808)
    (kk : ∀ W' p' c' v1, Lk1 W W' → Ows r W' p' (m + 1) c' (xs ++ [u]) → JO P n ops l K fin ((d2, .slice p' (m + 1) c') :: (d, v1) :: env) W') :
    JO P n ops (⟨some d, .buildSlice T 1 #[(0, y)], ty, pos, aft, none⟩ :: ⟨some d2, .call ⟨.builtin .append, #[x, .tmp d], #[T, T]⟩, ty2, pos2, aft2, none⟩ :: l) K fin env W := by
  refine O.bs (r := r) (ps := [(0, y)]) (vs := [v]) [u] (by simp [getIdx, hy]) ⟨hv, trivial⟩ rfl hr hz hz0 hg hL2 fun W1 p1 i1 e1 s1 => ?_
  refine O.app (hx _) (by simp [get, look_cons]) (h.ext e1) s1 hr hz hB hL fun W2 p2 c2 i2 o2 => ?_
  exact kk W2 p2 c2 _ ⟨i1.s.trans i2.s⟩ o2

/-! struct literals -/
theorem V.agg {α : Type} {r : Rep α} {v : Value} {x : α} (h : V r W v x) (hg : r.agg = true) : ∃ cs, v = .agg cs.toArray ∧ r.At W cs x := by
  obtain ⟨cs, h1, h2⟩ := h
  rw [hg] at h2
  exact ⟨cs, h2, h1⟩
theorem run_build2 {T n0 n1 : Nat} {v0 v1 : Value} {w : World} [i : TBld P T n0 n1] (h0 : v0.cells.size = n0) (h1 : v1.cells.size = n1) :
    (Instr.build T #[(0, v0), (1, v1)]).run P w = .ok (.agg (v0.cells.toList ++ v1.cells.toList).toArray) w := by
  obtain ⟨fs, g0, g1, i0, i1, ii, z, u1, u2, o0, o1, s0, s1, t0, t1, e1, e2, e3⟩ := i.u
  subst u2
  have ez : (zeroValue T).run P w = .ok z w := by simp [zeroValue, typeInfo, e1, e2]
  have k0 : v0.cells.toList.length = n0 := by simpa using h0
  have k1 : v1.cells.toList.length = n1 := by simpa using h1
  have ezl : z.cells = z.cells.toList.toArray := by simp
  have hzl : z.cells.toList.length = n0 + n1 := by simpa using e3
  have hf : Instr.fill ((#[(g0.offset, n0), (g1.offset, n1)] : Array (Nat × Nat))[·]?) z.cells [(0, v0), (1, v1)] = some (v0.cells.toList ++ v1.cells.toList).toArray := by
    have a0 : (decide (v0.cells.size ≠ n0) || decide (0 + v0.cells.size > z.cells.size)) = false := by simp [h0]; omega
    simp only [Instr.fill, o0, o1]
    rw [show ((#[((0 : Nat), n0), (n0, n1)] : Array (Nat × Nat))[0]?) = some (0, n0) from rfl, show ((#[((0 : Nat), n0), (n0, n1)] : Array (Nat × Nat))[1]?) = some (n0, n1) from rfl]
    simp only []
    rw [if_neg (by rw [a0]; simp), ezl, arr_foldl]
    have a1 : (decide (v1.cells.size ≠ n1) || decide (n0 + v1.cells.size > (spl z.cells.toList 0 v0.cells.toList).toArray.size)) = false := by simp [h1, spl_length]; simp at hzl; omega
    rw [if_neg (by rw [a1]; simp), arr_foldl]
    congr 2
    apply List.ext_getElem?
    intro q
    rw [spl_get _ _ _ _ (by rw [spl_length, hzl, k1]; omega), spl_get _ _ _ _ (by rw [hzl, k0]; omega), k0, k1]
    by_cases hq : q < n0
    · rw [if_neg (by omega), if_pos (by omega), List.getElem?_append_left (by omega), Nat.sub_zero]
    · by_cases hq2 : q < n0 + n1
      · rw [if_pos (by omega), List.getElem?_append_right (by omega), k0]
      · rw [if_neg (by omega), if_neg (by omega), List.getElem?_eq_none (by omega), List.getElem?_eq_none (by simp at *; omega)]
  have m0 : (sizeOf g0.type).run P w = .ok n0 w := by simp [sizeOf, typeInfo, s0, t0]
  have m1 : (sizeOf g1.type).run P w = .ok n1 w := by simp [sizeOf, typeInfo, s1, t1]
  have hm : ((#[g0, g1] : Array Field).mapM fun f => do pure (f.offset, ← sizeOf f.type) : Sem (Array (Nat × Nat))).run P w = .ok #[(g0.offset, n0), (g1.offset, n1)] w := by
    simp only [List.mapM_toArray, List.mapM_cons, List.mapM_nil]
    simp [m0, m1]
  unfold Instr.build
  rw [Sem.run_bind, ez]
  simp only [Result.andThen_ok]
  rw [Sem.run_bind, run_und u1]
  simp only [Result.andThen_ok]
  rw [Sem.run_bind, hm]
  simp only [Result.andThen_ok]
  rw [hf]
  rfl
theorem O.bld0 {T sz n0 n1 : Nat} {ag : Bool} {z : List Value} [i : TVar P T sz ag z] [j : TBld P T n0 n1]
    (k : JO P n ops l K fin ((d, .agg z.toArray) :: env) W) : JO P n ops (⟨some d, .build T #[], ty, pos, aft, none⟩ :: l) K fin env W := by
  obtain ⟨ii, v, e1, e2, e3, e4⟩ := i.i
  obtain ⟨fs, g0, g1, i0, i1, _, _, hu, u2, o0, o1, s0, s1, _⟩ := j.u
  have hfs : ∀ f ∈ fs.toList, ∃ i, P.info? f.type = some i := by
    subst u2
    intro f hf
    simp at hf
    rcases hf with rfl | rfl
    · exact ⟨_, s0⟩
    · exact ⟨_, s1⟩
  refine JO.value (fun a ha => ?_) k
  have ez : (zeroValue T).run P W.w = .ok v W.w := by simp [zeroValue, typeInfo, e1, e3]
  have hm : ∀ l : List Field, (∀ f ∈ l, ∃ i, P.info? f.type = some i) → ∃ r, ((l.mapM fun f => do pure (f.offset, ← sizeOf f.type) : Sem (List (Nat × Nat)))).run P W.w = .ok r W.w := by
    intro l
    induction l with
    | nil => intro _; exact ⟨[], rfl⟩
    | cons f l ih =>
      intro h
      obtain ⟨r, hr⟩ := ih fun g hg => h g (List.mem_cons_of_mem _ hg)
      obtain ⟨j, hj⟩ := h f (List.mem_cons_self ..)
      refine ⟨(f.offset, j.size) :: r, ?_⟩
      have hs : (sizeOf f.type).run P W.w = .ok j.size W.w := by simp [sizeOf, typeInfo, hj]
      rw [List.mapM_cons, Sem.run_bind, Sem.run_bind, hs]
      simp only [Result.andThen_ok, Sem.run_pure]
      rw [Sem.run_bind, hr]
      rfl
  obtain ⟨r, hr⟩ := hm fs.toList hfs
  have hr' : ((fs.mapM fun f => do pure (f.offset, ← sizeOf f.type) : Sem (Array (Nat × Nat)))).run P W.w = .ok r.toArray W.w := by
    have : fs = fs.toList.toArray := by simp
    rw [this, List.mapM_toArray, Sem.run_map, hr]
    rfl
  simp only [execOp, List.map_toArray, List.map_nil]
  rw [Sem.run_bind]
  unfold Instr.build
  rw [Sem.run_bind, ez]
  simp only [Result.andThen_ok]
  rw [Sem.run_bind, run_und hu]
  simp only [Result.andThen_ok]
  rw [Sem.run_bind, hr']
  subst e4
  simp [Instr.fill]
theorem O.bld {T n0 n1 : Nat} {x0 x1 : Operand} {v0 v1 : Value} [i : TBld P T n0 n1] (hx : get env x0 = some v0) (hy : get env x1 = some v1) (h0 : v0.cells.size = n0) (h1 : v1.cells.size = n1)
    (k : JO P n ops l K fin ((d, .agg (v0.cells.toList ++ v1.cells.toList).toArray) :: env) W) : JO P n ops (⟨some d, .build T #[(0, x0), (1, x1)], ty, pos, aft, none⟩ :: l) K fin env W :=
  JO.value (fun a ha => by
    have e : (#[(0, x0), (1, x1)] : Array (Nat × Operand)).map (fun (i, x) => (i, a.eval x)) = #[(0, v0), (1, v1)] := by simp [ha.get hx, ha.get hy]
    simp only [execOp, e]
    rw [Sem.run_bind, run_build2 h0 h1]
    rfl) k

theorem J.pub2 {α β : Type} {r : Rep α} {s : Rep β} {b1 b2 m1 c1 m2 c2 : Nat} {xs : List α} {ys : List β} (h : Ows r W (some ⟨b1, 0, none⟩) m1 c1 xs) (h' : Ows s W (some ⟨b2, 0, none⟩) m2 c2 ys)
    (k : ∀ W', Le1 W W' → Sl r W' (some ⟨b1, 0, none⟩) m1 c1 xs → Sl s W' (some ⟨b2, 0, none⟩) m2 c2 ys → J P n K fin env W') : J P n K fin env W := by
  by_cases hm : W.m ≤ b1 ∧ W.m ≤ b2
  · let W' : GW := (W.pubB b1).pubB b2
    have hl : LeS W W' := (pubB_le W b1 hm.1).trans (pubB_le (W.pubB b1) b2 hm.2)
    refine fun a ha => k W' ⟨hl⟩ (h.sl' hl.f rfl fun hh => ?_) (h'.sl' hl.f rfl fun hh => ?_) a ha
    · have := (List.mem_filter.1 (List.mem_filter.1 hh).1).2; simp at this
    · have := (List.mem_filter.1 hh).2; simp at this
  · -- one of them has no room: nothing is written there
    by_cases h1 : W.m ≤ b1
    · have h0 : c2 = 0 := by
        rcases h'.h with h0 | ⟨b, cs, T, hp, hA, hm', _⟩
        · exact h0
        · injection hp with hp; injection hp with hp; omega
      refine J.pub h fun W' i s1 => k W' i s1 ⟨h'.hn, h'.hc, h'.hC, .inl (List.eq_nil_of_length_eq_zero ?_)⟩
      have := h'.hn; have := h'.hc; omega
    · have h0 : c1 = 0 := by
        rcases h.h with h0 | ⟨b, cs, T, hp, hA, hm', _⟩
        · exact h0
        · injection hp with hp; injection hp with hp; omega
      refine J.pub h' fun W' i s1 => k W' i ⟨h.hn, h.hc, h.hC, .inl (List.eq_nil_of_length_eq_zero ?_)⟩ s1
      have := h.hn; have := h.hc; omega

/-! results that may still be written -/
def OwnR {α : Type} (r : Rep α) (W0 W : GW) (v : Value) (xs : List α) : Prop := ∃ p m c, v = .slice p m c ∧ Ows r W p m c xs ∧ ∀ a, p = some a → 0 < c → W0.size ≤ a.block
theorem own_pub {α : Type} {r : Rep α} {W W' : GW} {v : Value} {xs : List α} (hE : Ext W W') (h : OwnR r W W' v xs) : ∃ W2, W2.w = W'.w ∧ Ext W W2 ∧ V (RSl r) W2 v xs := by
  obtain ⟨p, m, c, rfl, ho, hf⟩ := h
  let W2 : GW := { w := W'.w, A := W.A, m := W.m, hA := fun k hk => Nat.lt_of_lt_of_le (W.hA k hk) hE.size, hm := Nat.le_trans W.hm hE.size }
  refine ⟨W2, rfl, { os := hE.os, out := hE.out, tape := hE.tape, m := rfl, size := hE.size, same := hE.same, stay := fun _ _ h => h, prot := fun _ _ h => h, row := hE.row, keep := fun _ h => h, all := hE.all }, ?_⟩
  have hl : LeF W' W2 := ⟨Nat.le_refl _, fun _ _ _ => rfl, fun k _ hn hk => hn (hE.keep k hk)⟩
  refine Sl.v ⟨ho.hn, ho.hc, ho.hC, ?_⟩
  rcases ho.h with h0 | ⟨b, cs, T, hp, hA, hm, hb, hl', hx⟩
  · refine .inl (List.eq_nil_of_length_eq_zero ?_)
    have := ho.hn; have := ho.hc; omega
  · by_cases hc : 0 < c
    · have hfb := hf _ hp hc
      refine .inr ⟨b, 0, hp, lt_of_heap hb, fun hh => ?_, fun i x hi => ?_⟩
      · have h1 : b < W.size := W.hA b hh
        have h2 : W.size ≤ b := hfb
        omega
      · obtain ⟨u, hu, hv⟩ := hx i x hi
        exact ⟨u, r.mono hl hu, fun j v hj => by
          show W'.w.cell? _ = _
          rw [cell_of hb, Nat.zero_add]; exact hv j v hj⟩
    · refine .inl (List.eq_nil_of_length_eq_zero ?_)
      have := ho.hn; have := ho.hc; omega
theorem Ok.own {α : Type} {r : Rep α} {f : FuncId} {vs : List Value} {xs : List α} (h : Ok P f vs W (fun W' v => OwnR r W W' v xs)) : Ok P f vs W fun W' v => V (RSl r) W' v xs := by
  refine ⟨h.1, h.2.mono ?_⟩
  rintro e w' ⟨W', v, he, hw, hE, ho⟩
  obtain ⟨W2, h2, h3, h4⟩ := own_pub hE ho
  exact ⟨W2, v, he, h2.trans hw, h3, h4⟩
theorem O.pub {α : Type} {r : Rep α} {p : Option Addr} {m c : Nat} {xs : List α} (h : Ows r W p m c xs) (k : ∀ W', Le1 W W' → Sl r W' p m c xs → JO P n ops l K fin env W') : JO P n ops l K fin env W := by
  rcases h.h with h0 | ⟨b, cs, T, hp, hA, hm, hb, hl, hx⟩
  · refine k W ⟨LeS.refl W⟩ ⟨h.hn, h.hc, h.hC, .inl (List.eq_nil_of_length_eq_zero ?_)⟩
    have := h.hn; have := h.hc; omega
  · refine fun hok a ha => k (W.pubB b) ⟨pubB_le W b hm⟩ ⟨h.hn, h.hc, h.hC, .inr ⟨b, 0, hp, lt_of_heap hb, fun hh => by have := (List.mem_filter.1 hh).2; simp at this, fun i x hi => ?_⟩⟩ hok a ha
    obtain ⟨u, hu, hv⟩ := hx i x hi
    exact ⟨u, r.mono (pubB_le W b hm).f hu, fun j v hj => by
      show W.w.cell? _ = _
      rw [cell_of hb, Nat.zero_add]; exact hv j v hj⟩

/-! calls that write what the caller owns -/
def OkK (P : Program) (f : FuncId) (vs : List Value) (W : GW) (R : GW → Value → Prop) : Prop :=
  (∃ fn, P.funcs[f]? = some fn ∧ (fn.name == "runtime.NumGoroutine") = false ∧ fn.body.isSome = true) ∧
  Calls P f vs.toArray W.w fun e w' => ∃ W' v, e = .returned v ∧ W'.w = w' ∧ LeK W W' ∧ R W' v
def FinK (P : Program) (fn : Func) (W0 : GW) (R : GW → Value → Prop) : Exit → Act → World → Prop :=
  bodyPost P fn (fun e w' => ∃ W' v, e = .returned v ∧ W'.w = w' ∧ LeK W0 W' ∧ R W' v)
theorem OkK.enter {f N : Nat} {fn : Func} {c : Code} {vs : List Value} {R : GW → Value → Prop} (hf : P.funcs[f]? = some fn) (hname : (fn.name == "runtime.NumGoroutine") = false) (hb : fn.body = some c)
    (hN : fn.ntmps = N) (hl : Nat.ble vs.length N = true) (h : J P N [.c c] (FinK P fn W R) (argEnv 0 vs) W) : OkK P f vs W R := by
  refine ⟨⟨fn, hf, hname, by rw [hb]; rfl⟩, calls_of_wp hf hb ?_⟩
  have hl' : vs.length ≤ N := Nat.le_of_ble_eq_true hl
  have := h { tmps := vs.toArray ++ Array.replicate (fn.ntmps - vs.toArray.size) undef, defers := [] } ⟨rfl, by simp [hN]; omega, fun t v ht => ?_⟩
  · refine wp_mono this ?_
    intro e a w h
    cases e <;> exact h
  · rw [look_argEnv] at ht
    simp at ht
    have hlt : t < vs.length := by
      by_cases h : t < vs.length
      · exact h
      · rw [List.getElem?_eq_none (by omega)] at ht; cases ht
    rw [List.getElem?_eq_getElem hlt] at ht
    injection ht with ht
    simp only [Array.getD]
    rw [dif_pos (by simp; omega)]
    simp [Array.getElem_append_left, hlt, ht]
theorem O.callK {f : FuncId} {args : List Operand} {tys : Array TypeId} {vs : List Value} {R : GW → Value → Prop} (hx : getL env args = some vs) (hc : OkK P f vs W R)
    (k : ∀ W' v, Lk1 W W' → R W' v → JO P n ops l K fin ((d, v) :: env) W') : JO P n ops (⟨some d, .call ⟨.value (.func f), args.toArray, tys⟩, ty, pos, aft, none⟩ :: l) K fin env W := by
  obtain ⟨⟨fn, h1, h2, h3⟩, hcl⟩ := hc
  intro hok a ha
  have hw : Region.wanted ⟨some d, .call ⟨.value (.func f), args.toArray, tys⟩, ty, pos, aft, none⟩ (yielded ops a.tmps) = true := rfl
  simp only [wpL, hw, if_true]
  have hargs := ha.getL hx
  have hr : (execOp a.eval ⟨some d, .call ⟨.value (.func f), args.toArray, tys⟩, ty, pos, aft, none⟩).run P W.w = .ok (.enter f vs.toArray) W.w := by
    have hb : fn.body.isNone = false := by cases hh : fn.body <;> simp_all
    have ea : args.toArray.map a.eval = vs.toArray := by simpa using hargs
    have eg : a.eval (.func f) = .func (.func f) #[] #[] := rfl
    simp only [execOp, resolve, ea, eg, Deferred.ofValue]
    simp [invoke, callFunc, program, bind, Sem.bind, Sem.run, pure, h1, hb]
    have h2' : ¬ fn.name = "runtime.NumGoroutine" := by simpa using h2
    simp only [h2', if_false]
    have hb' : ¬ fn.body = none := fun h => by rw [h] at h3; cases h3
    rw [if_neg hb']
  unfold Oper.wp
  rw [hr, Oper.upon_enter]
  refine hcl.mono ?_
  rintro e w' ⟨W', v, rfl, hW, hE, hR⟩
  rw [← hW]
  exact k W' v ⟨hE⟩ hR (JO.unok hok) _ (ha.put (JO.dst hok) v)
theorem results0 {fn : Func} {a : Act} (hres : fn.results = #[]) {w : World} : (results fn a.tmps).run P w = .ok (.tuple #[]) w := by
  unfold results
  rw [hres, Sem.run_bind]
  simp
theorem J.retK0 {fn : Func} {W0 : GW} {R : GW → Value → Prop} [j : Lk W0 W] (hres : fn.results = #[]) (h : R W (.tuple #[])) : J P n (.c .ret :: K) (FinK P fn W0 R) env W :=
  J.ret fun a ha => ⟨ha.defers, _, results0 hres, W, _, rfl, rfl, j.s, h⟩
theorem J.endK0 {fn : Func} {W0 : GW} {R : GW → Value → Prop} [j : Lk W0 W] (hres : fn.results = #[]) (h : R W (.tuple #[])) : J P n [] (FinK P fn W0 R) env W :=
  fun a ha => ⟨ha.defers, _, results0 hres, W, _, rfl, rfl, j.s, h⟩
theorem J.retK1 {fn : Func} {W0 : GW} {R : GW → Value → Prop} {r1 : ResultVar} {v1 : Value} [j : Lk W0 W] (hres : fn.results = #[r1]) (h1 : ResAt P env W r1 v1) (h : R W v1) : J P n (.c .ret :: K) (FinK P fn W0 R) env W :=
  J.ret fun a ha => ⟨ha.defers, _, results1 ha hres h1, W, _, rfl, rfl, j.s, h⟩

/-- the address of a word in a part of one's own slice: from q on -/
theorem O.iaQ {T E by' : Nat} {z : List Value} {x y : Operand} {b q : Nat} {m2 c2 j : Nat} {k' : IntKind} {jj : Int} [i : TSl P T E 1 by' z]
    (hx : get env x = some (.slice (some ⟨b, q, none⟩) m2 c2)) (hy : get env y = some (.int k' jj)) (hjj : jj = (j : Int)) (hj : j < m2)
    (k : JO P n ops l K fin ((d, .pointer (some ⟨b, 0 + (q + j) * RW.size, none⟩)) :: env) W) :
    JO P n ops (⟨some d, .indexAddr T x y, ty, pos, aft, none⟩ :: l) K fin env W := by
  refine O.ia hx hy hjj hj ?_
  have e : q + j * 1 = 0 + (q + j) * RW.size := by show _ = 0 + (q + j) * 1; omega
  rw [e]
  exact k
/-- a word of one's own, by its place -/
theorem O.ldQ {T : TypeId} {z : List Value} {x : Operand} {b m c j u : Nat} {xs : List Nat} [i : TVar P T 1 false z] (hx : get env x = some (.pointer (some ⟨b, 0 + j * RW.size, none⟩))) (hs : Ows RW W (some ⟨b, 0, none⟩) m c xs) (hj : xs[j]? = some u)
    (k : JO P n ops l K fin ((d, .int .u32 (u : Int)) :: env) W) : JO P n ops (⟨some d, .load T x, ty, pos, aft, none⟩ :: l) K fin env W :=
  O.ldC hx (by
    obtain ⟨b', e', hp, he, hv⟩ := hs.cells hj
    injection hp with hp
    injection hp with hp _ _
    subst hp
    exact hv 0 (.int .u32 (u : Int)) (by rw [he.1]; rfl)) k
/-- a part of one's own slice -/
theorem O.slQ {T : TypeId} {E sz by' : Nat} {z : List Value} {x y1 y2 : Operand} {b q m c lo hi : Nat} {k1 k2 : IntKind} {li hh : Int} [i : TSl P T E sz by' z]
    (hx : get env x = some (.slice (some ⟨b, q, none⟩) m c)) (h1 : get env y1 = some (.int k1 li)) (h2 : get env y2 = some (.int k2 hh)) (hli : li = (lo : Int)) (hhh : hh = (hi : Int)) (hlo : lo ≤ hi) (hhi : hi ≤ c) (hlc : lo < c)
    (k : JO P n ops l K fin ((d, .slice (some ⟨b, q + lo * sz, none⟩) (hi - lo) (c - lo)) :: env) W) : JO P n ops (⟨some d, .slice T x (some y1) (some y2) none, ty, pos, aft, none⟩ :: l) K fin env W := by
  refine O.sl hx h1 h2 hli hhh hlo hhi ?_
  rw [if_neg (by omega)]
  have e : (some (⟨b, q, none⟩ : Addr)).map (·.add (lo * sz)) = some ⟨b, q + lo * sz, none⟩ := by
    show some (Addr.add _ _) = _
    rw [add0]
  rw [e]
  exact k
end
end
end Go.Rx

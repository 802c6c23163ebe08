/- The rules of the walk: slices that the function itself writes. -/
import Derived.Test.YtcobdnnfmhfenaaGreatRd
set_option linter.unusedVariables false
set_option linter.unusedSimpArgs false
namespace Go.Rx
open Go

/-- A slice that the function may write. -/
structure Ows {α : Type} (r : Rep α) (W : GW) (p : Option Addr) (n c : Nat) (xs : List α) : Prop where
  hn : n = xs.length
  hc : n ≤ c
  hC : c < 9223372036854775808
  h : c = 0 ∨ ∃ b cs T, p = some ⟨b, 0, none⟩ ∧ b ∈ W.A ∧ W.m ≤ b ∧ W.w.heap[b]? = some (.cells (cs : List Value).toArray T (0, 0)) ∧ cs.length = c * r.size ∧
    ∀ i x, xs[i]? = some x → ∃ e, r.At W e x ∧ ∀ j v, e[j]? = some v → cs[i * r.size + j]? = some v

section
variable {α : Type} {r : Rep α} {W : GW}
theorem Ows.ext {W' : GW} {p : Option Addr} {n c : Nat} {xs : List α} (h : Ows r W p n c xs) (e : Ext W W') : Ows r W' p n c xs := by
  refine ⟨h.hn, h.hc, h.hC, ?_⟩
  rcases h.h with h0 | ⟨b, cs, T, hp, hA, hm, hb, hl, hx⟩
  · exact .inl h0
  · refine .inr ⟨b, cs, T, hp, e.keep b hA, by rw [e.m]; exact hm, by rw [e.all b (lt_of_heap hb)]; exact hb, hl, fun i x hi => ?_⟩
    obtain ⟨u, hu, hv⟩ := hx i x hi
    exact ⟨u, r.mono e.toLeS.f hu, hv⟩
theorem Ows.out {W' : GW} {p : Option Addr} {n c : Nat} {xs : List α} (h : Ows r W p n c xs) (i : Ex W W') (o : Own1 W W') : Ows r W' p n c xs := by
  refine ⟨h.hn, h.hc, h.hC, ?_⟩
  rcases h.h with h0 | ⟨b, cs, T, hp, hA, hm, hb, hl, hx⟩
  · exact .inl h0
  · refine .inr ⟨b, cs, T, hp, by rw [o.A]; exact hA, Nat.le_trans i.m hm, by rw [i.w]; exact hb, hl, fun j x hj => ?_⟩
    obtain ⟨u, hu, hv⟩ := hx j x hj
    exact ⟨u, r.mono i.f hu, hv⟩
theorem Ows.nil (r : Rep α) (W : GW) (p : Option Addr) : Ows r W p 0 0 [] := ⟨rfl, Nat.le_refl _, by decide, .inl rfl⟩
/-- As data, where it is written no more. -/
theorem Ows.sl {W' : GW} {p : Option Addr} {n c : Nat} {xs : List α} (h : Ows r W p n c xs) (l : LeF W W') (hw : W'.w = W.w) (ha : ∀ k ∈ W'.A, k < W.m) : Sl r W' p n c xs := by
  refine ⟨h.hn, h.hc, h.hC, ?_⟩
  rcases h.h with h0 | ⟨b, cs, T, hp, hA, hm, hb, hl, hx⟩
  · refine .inl (List.eq_nil_of_length_eq_zero ?_)
    have := h.hn; have := h.hc; omega
  · refine .inr ⟨b, 0, hp, by rw [GW.size, hw]; exact lt_of_heap hb, fun hh => by have := ha b hh; omega, fun i x hi => ?_⟩
    obtain ⟨u, hu, hv⟩ := hx i x hi
    refine ⟨u, r.mono l hu, fun j v hj => ?_⟩
    rw [hw, cell_of hb, Nat.zero_add]
    exact hv j v hj
theorem Ows.pub {W' : GW} {p : Option Addr} {n c : Nat} {xs : List α} (h : Ows r W p n c xs) (i : Ex W W') (q : Pub W W') : Sl r W' p n c xs := h.sl i.f i.w q.p

theorem Ows.sl' {W' : GW} {b : Nat} {n c : Nat} {xs : List α} (h : Ows r W (some ⟨b, 0, none⟩) n c xs) (l : LeF W W') (hw : W'.w = W.w) (ha : b ∉ W'.A) : Sl r W' (some ⟨b, 0, none⟩) n c xs := by
  refine ⟨h.hn, h.hc, h.hC, ?_⟩
  rcases h.h with h0 | ⟨b', cs, T, hp, hA, hm, hb, hl, hx⟩
  · refine .inl (List.eq_nil_of_length_eq_zero ?_)
    have := h.hn; have := h.hc; omega
  · injection hp with hp
    injection hp with hp _ _
    subst hp
    refine .inr ⟨b, 0, rfl, by rw [GW.size, hw]; exact lt_of_heap hb, ha, fun i x hi => ?_⟩
    obtain ⟨u, hu, hv⟩ := hx i x hi
    refine ⟨u, r.mono l hu, fun j v hj => ?_⟩
    rw [hw, cell_of hb, Nat.zero_add]
    exact hv j v hj
theorem Ows.cells {p : Option Addr} {n c : Nat} {xs : List α} (h : Ows r W p n c xs) {i : Nat} {x : α} (hi : xs[i]? = some x) :
    ∃ b e, p = some ⟨b, 0, none⟩ ∧ r.At W e x ∧ ∀ j v, e[j]? = some v → W.w.cell? ⟨b, 0 + (i * r.size + j), none⟩ = some v := by
  have hil : i < xs.length := by
    by_cases h : i < xs.length
    · exact h
    · rw [List.getElem?_eq_none (by omega)] at hi; cases hi
  rcases h.h with h0 | ⟨b, cs, T, hp, hA, hm, hb, hl, hx⟩
  · have := h.hn; have := h.hc; omega
  · obtain ⟨u, hu, hv⟩ := hx i x hi
    exact ⟨b, u, hp, hu, fun j v hj => by rw [cell_of hb, Nat.zero_add]; exact hv j v hj⟩
end

section
variable {P : Program} {n : Nat} {ops : Array Oper} {l : List Oper} {K : List Kt} {fin : Exit → Act → World → Prop} {env : Env} {W : GW}
variable {d d2 : Nat} {ty ty2 : TypeId} {pos pos2 : String} {aft aft2 : Array Edge}

/-- the place of a word of one's own, as long as nothing is written -/
theorem Ows.word {b m c j : Nat} {xs : List Nat} {u : Nat} (hs : Ows RW W (some ⟨b, 0, none⟩) m c xs) (hj : xs[j]? = some u) :
    ∃ _x : True, ∀ W' : GW, Lk1 W W' → Ext W W' → W'.w.cell? ⟨b, 0 + j * 1, none⟩ = some (.int .u32 (u : Int)) := by
  refine ⟨trivial, fun W' _ e => ?_⟩
  obtain ⟨b', e', hp, he, hv⟩ := (hs.ext e).cells hj
  injection hp with hp
  injection hp with hp _ _
  subst hp
  exact hv 0 (.int .u32 (u : Int)) (by rw [he.1]; rfl)
/-- Publishing: from here on the slice is data. What else was being written is lost sight of. -/
def GW.pubB (W : GW) (b : Nat) : GW where
  w := W.w
  A := W.A.filter (· != b)
  m := W.m
  hA := fun k hk => W.hA k (List.mem_filter.1 hk).1
  hm := W.hm
theorem pubB_le (W : GW) (b : Nat) (hb : W.m ≤ b) : LeS W (W.pubB b) where
  os := rfl
  out := rfl
  tape := rfl
  m := rfl
  size := Nat.le_refl _
  same := fun _ _ _ => rfl
  stay := fun k _ h hk => h (List.mem_filter.1 hk).1
  prot := fun k hk hA => List.mem_filter.2 ⟨hA, by simp; omega⟩
  row := fun _ c _ _ h => ⟨c, h, rfl⟩
theorem pub_own {α β : Type} {r : Rep α} {s : Rep β} {W : GW} {p : Option Addr} {m c : Nat} {xs : List α} (h : Ows r W p m c xs) :
    ∃ W', LeS W W' ∧ Sl r W' p m c xs := by
  rcases h.h with h0 | ⟨b, cs, T, hp, hA, hm, hb, hl, hx⟩
  · refine ⟨W, LeS.refl W, h.hn, h.hc, h.hC, .inl (List.eq_nil_of_length_eq_zero ?_)⟩
    have := h.hn; have := h.hc; omega
  · refine ⟨W.pubB b, pubB_le W b hm, h.hn, h.hc, h.hC, .inr ⟨b, 0, hp, lt_of_heap hb, fun hh => by have := (List.mem_filter.1 hh).2; simp at this, fun i x hi => ?_⟩⟩
    obtain ⟨u, hu, hv⟩ := hx i x hi
    exact ⟨u, r.mono (pubB_le W b hm).f hu, fun j v hj => by
      show W.w.cell? _ = _
      rw [cell_of hb, Nat.zero_add]; exact hv j v hj⟩
theorem J.pub {α : Type} {r : Rep α} {p : Option Addr} {m c : Nat} {xs : List α} (h : Ows r W p m c xs) (k : ∀ W', Le1 W W' → Sl r W' p m c xs → J P n K fin env W') : J P n K fin env W := by
  rcases h.h with h0 | ⟨b, cs, T, hp, hA, hm, hb, hl, hx⟩
  · refine k W ⟨LeS.refl W⟩ ⟨h.hn, h.hc, h.hC, .inl (List.eq_nil_of_length_eq_zero ?_)⟩
    have := h.hn; have := h.hc; omega
  · refine fun a ha => k (W.pubB b) ⟨pubB_le W b hm⟩ ⟨h.hn, h.hc, h.hC, .inr ⟨b, 0, hp, lt_of_heap hb, fun hh => by have := (List.mem_filter.1 hh).2; simp at this, fun i x hi => ?_⟩⟩ a ha
    obtain ⟨u, hu, hv⟩ := hx i x hi
    exact ⟨u, r.mono (pubB_le W b hm).f hu, fun j v hj => by
      show W.w.cell? _ = _
      rw [cell_of hb, Nat.zero_add]; exact hv j v hj⟩

/-- x[j] of a slice of the function's own -/
theorem O.ixo {α : Type} {r : Rep α} {T E sz by' : Nat} {z z' : List Value} {ag : Bool} {x y : Operand} {p : Option Addr} {m c j : Nat} {k' : IntKind} {jj : Int} {xs : List α} {u : α} [i : TSl P T E sz by' z] [i2 : TVar P E sz ag z']
    (hx : get env x = some (.slice p m c)) (hy : get env y = some (.int k' jj)) (hjj : jj = (j : Int)) (hs : Ows r W p m c xs) (hj : xs[j]? = some u) (hr : r.size = sz) (hg : r.agg = ag) (h1 : ag = false → sz = 1)
    (k : ∀ a v, V r W v u → JO P n ops l K fin ((d2, v) :: (d, .pointer (some a)) :: env) W) :
    JO P n ops (⟨some d, .indexAddr T x y, ty, pos, aft, none⟩ :: ⟨some d2, .load E (.tmp d), ty2, pos2, aft2, none⟩ :: l) K fin env W := by
  obtain ⟨b, e, hp, he, hv⟩ := hs.cells hj
  subst hp
  subst hjj
  have hjm : j < m := by
    rw [hs.hn]
    by_cases h : j < xs.length
    · exact h
    · rw [List.getElem?_eq_none (by omega)] at hj; cases hj
  refine O.ia hx hy rfl hjm ?_
  exact O.ld (i := i2) (b := b) (off := 0 + j * sz) (cs := e) (by simp [get, look_cons]) (by rw [r.len he, hr]) (fun i v hi => by rw [Nat.add_assoc, ← hr]; exact hv i v hi) h1 (k _ _ ⟨e, he, by rw [hg]⟩)
/-- the address of x[j], to be written -/
theorem O.iao {α : Type} {r : Rep α} {T E sz by' : Nat} {z : List Value} {x y : Operand} {p : Option Addr} {m c j : Nat} {k' : IntKind} {jj : Int} {xs : List α} [i : TSl P T E sz by' z]
    (hx : get env x = some (.slice p m c)) (hy : get env y = some (.int k' jj)) (hjj : jj = (j : Int)) (hs : Ows r W p m c xs) (hj : j < m) (hr : r.size = sz)
    (k : ∀ b, p = some ⟨b, 0, none⟩ → JO P n ops l K fin ((d, .pointer (some ⟨b, 0 + j * r.size, none⟩)) :: env) W) :
    JO P n ops (⟨some d, .indexAddr T x y, ty, pos, aft, none⟩ :: l) K fin env W := by
  rcases hs.h with h0 | ⟨b, cs, T', hp, hA, hm, hb, hl, hx'⟩
  · have := hs.hc; omega
  · subst hp
    subst hjj
    refine O.ia hx hy rfl hj ?_
    rw [← hr]
    exact k b rfl
theorem O.iaB {α : Type} {r : Rep α} {T E sz by' : Nat} {z : List Value} {x y : Operand} {b : Nat} {m c j : Nat} {k' : IntKind} {jj : Int} {xs : List α} [i : TSl P T E sz by' z]
    (hx : get env x = some (.slice (some ⟨b, 0, none⟩) m c)) (hy : get env y = some (.int k' jj)) (hjj : jj = (j : Int)) (hs : Ows r W (some ⟨b, 0, none⟩) m c xs) (hj : j < m) (hr : r.size = sz)
    (k : JO P n ops l K fin ((d, .pointer (some ⟨b, 0 + j * r.size, none⟩)) :: env) W) :
    JO P n ops (⟨some d, .indexAddr T x y, ty, pos, aft, none⟩ :: l) K fin env W :=
  O.iao hx hy hjj hs hj hr fun b' hb => by injection hb with hb; injection hb with hb; subst hb; exact k
/-- x[j] = v -/
theorem O.sto {α : Type} {r : Rep α} {E sz : Nat} {ag : Bool} {z : List Value} {x y : Operand} {b : Nat} {m c j : Nat} {xs : List α} {u : α} {v : Value} [i : TVar P E sz ag z]
    (hx : get env x = some (.pointer (some ⟨b, 0 + j * r.size, none⟩))) (hy : get env y = some v) (hs : Ows r W (some ⟨b, 0, none⟩) m c xs) (hj : j < m) (hv : V r W v u) (hr : r.size = sz) (hg : r.agg = true ∨ r.size = 1)
    (k : ∀ W', Lk1 W W' → Ows r W' (some ⟨b, 0, none⟩) m c (xs.set j u) → JO P n ops l K fin env W') :
    JO P n ops (⟨none, .store E x y, ty, pos, aft, none⟩ :: l) K fin env W := by
  rcases hs.h with h0 | ⟨b', cs, T', hp, hA, hm, hb, hl, hx'⟩
  · have := hs.hc; omega
  · injection hp with hp
    injection hp with hp _ _
    subst hp
    obtain ⟨e, he, hve⟩ := hv
    have hcl : v.cells.toList = e := by
      subst hve
      cases hag : r.agg with
      | true => simp [mkv, Value.cells]
      | false =>
        have h1 : r.size = 1 := by rcases hg with h | h; rw [hag] at h; cases h; exact h
        have hle := r.len he
        match e, hle, he with
        | [u1], _, he =>
          have := r.one he u1 (List.mem_cons_self ..)
          simp only [mkv, List.headD_cons, Bool.false_eq_true, if_false]
          cases u1 <;> simp_all [Value.cells, oneC]
        | [], hle, _ => simp at hle; omega
        | _ :: _ :: _, hle, _ => simp at hle; omega
    have hlen : v.cells.toList.length = sz := by rw [hcl, r.len he, hr]
    have hjm := hs.hn
    have hcm := hs.hc
    have hmul : j * r.size + r.size ≤ c * r.size := by
      rw [← Nat.succ_mul]; exact Nat.mul_le_mul_right _ (by omega)
    have hr' := run_storeVar (P := P) (T := E) (off := 0 + j * r.size) (v := v) hb hlen (by rw [hl, ← hr]; omega) (by rw [hcl]; exact fun w hw => r.one he w hw)
    have hle := put_lek W b _ (spl cs (0 + j * r.size) v.cells.toList).toArray T' (0, 0) hb hA hm (by simp [spl_length])
    refine JO.unit (W' := W.put b (.cells (spl cs (0 + j * r.size) v.cells.toList).toArray T' (0, 0))) (fun a ha => ?_) (k _ ⟨hle⟩ ⟨by rw [List.length_set]; exact hjm, hcm, hs.hC, .inr ⟨b, _, T', rfl, hA, hm, heap_put_self _ _ _ (lt_of_heap hb), by rw [spl_length]; exact hl, fun i' x' hi' => ?_⟩⟩)
    · simp only [execOp, ha.get hx, ha.get hy, Instr.storeAt, Instr.sureAddr]
      rw [Sem.run_bind, Sem.run_bind]
      show Result.andThen (Result.andThen (Result.ok _ _) _) _ = _
      simp only [Result.andThen_ok]
      rw [hr']
      rfl
    · have hsp : ∀ q, (spl cs (0 + j * r.size) v.cells.toList)[q]? = if j * r.size ≤ q ∧ q < j * r.size + r.size then e[q - j * r.size]? else cs[q]? := by
        intro q
        rw [spl_get _ _ _ _ (by rw [hlen, hl, ← hr]; omega), hcl, r.len he, Nat.zero_add]
      by_cases hij : i' = j
      · subst hij
        rw [List.getElem?_set_self (by omega)] at hi'
        injection hi' with hi'
        subst hi'
        refine ⟨e, r.mono hle.f he, fun q w hq => ?_⟩
        have hqs : q < r.size := by
          rw [← r.len he]
          by_cases h : q < e.length
          · exact h
          · rw [List.getElem?_eq_none (by omega)] at hq; cases hq
        rw [hsp, if_pos (by omega), show i' * r.size + q - i' * r.size = q from by omega]
        exact hq
      · rw [List.getElem?_set_ne (fun h => hij h.symm)] at hi'
        obtain ⟨e', he', hv'⟩ := hx' i' x' hi'
        refine ⟨e', r.mono hle.f he', fun q w hq => ?_⟩
        have hqs : q < r.size := by
          rw [← r.len he']
          by_cases h : q < e'.length
          · exact h
          · rw [List.getElem?_eq_none (by omega)] at hq; cases hq
        rw [hsp, if_neg ?_]
        · exact hv' q w hq
        · rcases Nat.lt_or_gt_of_ne hij with h | h
          · have : i' * r.size + r.size ≤ j * r.size := by rw [← Nat.succ_mul]; exact Nat.mul_le_mul_right _ (by omega)
            omega
          · have : j * r.size + r.size ≤ i' * r.size := by rw [← Nat.succ_mul]; exact Nat.mul_le_mul_right _ (by omega)
            omega

/-! make -/
/-- n data one behind the other -/
def repl (z : List Value) : Nat → List Value
  | 0 => []
  | k + 1 => z ++ repl z k
theorem repl_length (z : List Value) (k : Nat) : (repl z k).length = k * z.length := by
  induction k with
  | zero => simp [repl]
  | succ k ih => simp only [repl, List.length_append, ih, Nat.succ_mul]; omega
theorem repl_get (z : List Value) (k i j : Nat) (hi : i < k) (hj : j < z.length) : (repl z k)[i * z.length + j]? = z[j]? := by
  induction k generalizing i with
  | zero => omega
  | succ k ih =>
    simp only [repl]
    cases i with
    | zero => rw [Nat.zero_mul, Nat.zero_add, List.getElem?_append_left hj]
    | succ i =>
      rw [Nat.succ_mul, List.getElem?_append_right (by omega), show i * z.length + z.length + j - z.length = i * z.length + j from by omega]
      exact ih i (by omega)
theorem zero_row (z : List Value) (k : Nat) (h : 0 < z.length) (zero : Array Value) (hz : zero.toList = z) : (Array.range (k * z.length)).map (fun i => zero[i % zero.size]!) = (repl z k).toArray := by
  apply Array.ext'
  apply List.ext_getElem?
  intro q
  have hzs : zero.size = z.length := by rw [← hz]; simp
  by_cases hq : q < k * z.length
  · have hdm := Nat.div_add_mod q z.length
    have hm := Nat.mod_lt q h
    have hd : q / z.length < k := Nat.div_lt_of_lt_mul (by rw [Nat.mul_comm]; exact hq)
    have := repl_get z k (q / z.length) (q % z.length) hd hm
    rw [show q / z.length * z.length + q % z.length = q from by rw [Nat.mul_comm]; exact hdm] at this
    simp only [Array.toList_map, Array.toList_range, List.getElem?_map]
    rw [this, List.getElem?_range hq]
    have hz2 : zero[q % z.length]? = z[q % z.length]? := by rw [← hz]; simp
    simp only [Option.map_some, hzs]
    rw [List.getElem?_eq_getElem hm] at hz2 ⊢
    have hlt : q % z.length < zero.size := by omega
    rw [Array.getElem?_eq_getElem hlt] at hz2
    rw [getElem!_pos zero _ hlt]
    exact hz2
  · rw [List.getElem?_eq_none (by simp; omega), List.getElem?_eq_none (by simp [repl_length]; omega)]
end
end Go.Rx

/- The rules of the walk, more: writes with a frame. -/
import Derived.Test.YtcaikjefkkejbaaGreatRz
set_option linter.unusedVariables false
set_option linter.unusedSimpArgs false
namespace Go.Rx
open Go
section
section
/-- Of what was there block b alone may have changed. -/
def OnlyB (b : Nat) (W W' : GW) : Prop := ∀ k, k < W.size → k ≠ b → W'.w.heap[k]? = W.w.heap[k]?
theorem OnlyB.refl (b : Nat) (W : GW) : OnlyB b W W := fun _ _ _ => rfl
theorem OnlyB.trans {b : Nat} {W1 W2 W3 : GW} (h : OnlyB b W1 W2) (k : OnlyB b W2 W3) (hs : W1.size ≤ W2.size) : OnlyB b W1 W3 :=
  fun i hi hb => (k i (Nat.lt_of_lt_of_le hi hs) hb).trans (h i hi hb)
theorem Ows.only {α : Type} {r : Rep α} {W W' : GW} {b b2 n c : Nat} {xs : List α} (h : Ows r W (some ⟨b2, 0, none⟩) n c xs) (l : LeK W W') (o : OnlyB b W W') (hne : b2 ≠ b) : Ows r W' (some ⟨b2, 0, none⟩) n c xs := by
  refine ⟨h.hn, h.hc, h.hC, ?_⟩
  rcases h.h with h0 | ⟨b', cs, T, hp, hA, hm, hb, hl, hx⟩
  · exact .inl h0
  · injection hp with hp
    injection hp with hp _ _
    subst hp
    refine .inr ⟨b2, cs, T, rfl, l.keep b2 hA, by rw [l.m]; exact hm, by rw [o b2 (lt_of_heap hb) hne]; exact hb, hl, fun i x hi => ?_⟩
    obtain ⟨u, hu, hv⟩ := hx i x hi
    exact ⟨u, r.mono l.f hu, hv⟩
section
variable {P : Program} {n : Nat} {ops : Array Oper} {l : List Oper} {K : List Kt} {fin : Exit → Act → World → Prop} {env : Env} {W : GW}
variable {d d2 : Nat} {ty ty2 : TypeId} {pos pos2 : String} {aft aft2 : Array Edge}
theorem O.stoF {α : Type} {r : Rep α} {E sz : Nat} {ag : Bool} {z : List Value} {x y : Operand} {b : Nat} {m c j : Nat} {xs : List α} {u : α} {v : Value} [i : TVar P E sz ag z]
    (hx : get env x = some (.pointer (some ⟨b, 0 + j * r.size, none⟩))) (hy : get env y = some v) (hs : Ows r W (some ⟨b, 0, none⟩) m c xs) (hj : j < m) (hv : V r W v u) (hr : r.size = sz) (hg : r.agg = true ∨ r.size = 1)
    (k : ∀ W', Lk1 W W' → OnlyB b W W' → W.size ≤ W'.size → Ows r W' (some ⟨b, 0, none⟩) m c (xs.set j u) → JO P n ops l K fin env W') :
    JO P n ops (⟨none, .store E x y, ty, pos, aft, none⟩ :: l) K fin env W := by
  rcases hs.h with h0 | ⟨b', cs, T', hp, hA, hm, hb, hl, hx'⟩
  · have := hs.hc; omega
  · injection hp with hp
    injection hp with hp _ _
    subst hp
    have he := hv.cells hg
    have hlen : v.cells.toList.length = sz := by rw [r.len he, hr]
    have hjm := hs.hn
    have hcm := hs.hc
    have hmul : j * r.size + r.size ≤ c * r.size := by
      rw [← Nat.succ_mul]; exact Nat.mul_le_mul_right _ (by omega)
    have hr' := run_storeVar (P := P) (T := E) (off := 0 + j * r.size) (v := v) hb hlen (by rw [hl, ← hr]; omega) (fun w hw => r.one he w hw)
    have hle := put_lek W b _ (spl cs (0 + j * r.size) v.cells.toList).toArray T' (0, 0) hb hA hm (by simp [spl_length])
    refine JO.unit (W' := W.put b (.cells (spl cs (0 + j * r.size) v.cells.toList).toArray T' (0, 0))) (fun a ha => ?_) (k _ ⟨hle⟩ (fun k' _ hk' => heap_put _ _ _ _ hk') (by rw [GW.size_put]; exact Nat.le_refl _) ⟨by rw [List.length_set]; exact hjm, hcm, hs.hC, .inr ⟨b, _, T', rfl, hA, hm, heap_put_self _ _ _ (lt_of_heap hb), by rw [spl_length]; exact hl, fun i' x' hi' => ?_⟩⟩)
    · simp only [execOp, ha.get hx, ha.get hy, Instr.storeAt, Instr.sureAddr]
      rw [Sem.run_bind, Sem.run_bind]
      show Result.andThen (Result.andThen (Result.ok _ _) _) _ = _
      simp only [Result.andThen_ok]
      rw [hr']
      rfl
    · have hsp : ∀ q, (spl cs (0 + j * r.size) v.cells.toList)[q]? = if j * r.size ≤ q ∧ q < j * r.size + r.size then v.cells.toList[q - j * r.size]? else cs[q]? := by
        intro q
        rw [spl_get _ _ _ _ (by rw [hlen, hl, ← hr]; omega), r.len he, Nat.zero_add]
      by_cases hij : i' = j
      · subst hij
        rw [List.getElem?_set_self (by omega)] at hi'
        injection hi' with hi'
        subst hi'
        refine ⟨v.cells.toList, r.mono hle.f he, fun q w hq => ?_⟩
        have hqs : q < r.size := by
          rw [← r.len he]
          by_cases h : q < v.cells.toList.length
          · exact h
          · rw [List.getElem?_eq_none (by omega)] at hq; cases hq
        rw [hsp, if_pos (by omega), show i' * r.size + q - i' * r.size = q from by omega]
        exact hq
      · rw [List.getElem?_set_ne (fun h => hij h.symm)] at hi'
        obtain ⟨e', he', hv'⟩ := hx' i' x' hi'
        refine ⟨e', r.mono hle.f he', fun q w hq => ?_⟩
        have hqs : q < r.size := by
          rw [← r.len he']
          by_cases h : q < e'.length
          · exact h
          · rw [List.getElem?_eq_none (by omega)] at hq; cases hq
        rw [hsp, if_neg ?_]
        · exact hv' q w hq
        · rcases Nat.lt_or_gt_of_ne hij with h | h
          · have : i' * r.size + r.size ≤ j * r.size := by rw [← Nat.succ_mul]; exact Nat.mul_le_mul_right _ (by omega)
            omega
          · have : j * r.size + r.size ≤ i' * r.size := by rw [← Nat.succ_mul]; exact Nat.mul_le_mul_right _ (by omega)
            omega
end
end
section
/-- all orders that the edges allow -/
def lins (L : List Oper) : Nat → Array Bool → List (List Nat)
  | 0, _ => [[]]
  | f + 1, ls => match rdy L ls with
    | [] => [[]]
    | r => r.flatMap fun i => (lins L f (ls.setIfInBounds i true)).map (i :: ·)
theorem go_lins (L : List Oper) : ∀ (f t : Nat) (ls : Array Bool), Region.linearise.go .any L.toArray f t ls [] ∈ lins L f ls := by
  intro f
  induction f with
  | zero => intro t ls; simp [Region.linearise.go, lins]
  | succ f ih =>
    intro t ls
    have hgo : Region.linearise.go .any L.toArray (f + 1) t ls [] = match (rdy L ls)[t % (rdy L ls).length]? with | some i => Region.linearise.go .any L.toArray f (t / (rdy L ls).length) (ls.setIfInBounds i true) [i] | none => [] := rfl
    rw [hgo, lins]
    cases hr : rdy L ls with
    | nil => simp
    | cons x r =>
      have hpos : 0 < (x :: r).length := by simp
      rw [List.getElem?_eq_getElem (Nat.mod_lt t hpos)]
      simp only []
      rw [go_acc]
      refine List.mem_flatMap.2 ⟨_, List.getElem_mem (Nat.mod_lt t hpos), List.mem_map.2 ⟨_, ih _ _, rfl⟩⟩
section
variable {P : Program} {n : Nat} {K : List Kt} {fin : Exit → Act → World → Prop} {env : Env} {W : GW}
def AllS : List (List Nat) → (List Nat → Prop) → Prop
  | [], _ => True
  | s :: l, f => f s ∧ AllS l f
theorem AllS.get {f : List Nat → Prop} : ∀ {l : List (List Nat)}, AllS l f → ∀ s ∈ l, f s
  | [], _, _, h => nomatch h
  | s :: l, ⟨h1, h2⟩, x, h => by
    rcases List.mem_cons.1 h with h | h
    · subst h; exact h1
    · exact h2.get x h
def pickL (L : List Oper) : List Nat → List Oper
  | [] => []
  | i :: s => match L[i]? with
    | some o => o :: pickL L s
    | none => []
def inL (L : List Oper) (s : List Nat) : Bool := s.all fun i => Nat.blt i L.length
theorem wpOps_pick {L : List Oper} {Q : Exit → Act → World → Prop} : ∀ (s : List Nat), inL L s = true → ∀ a w, wpL P L.toArray Q (pickL L s) a w → wpOps P L.toArray Q s a w := by
  intro s
  induction s with
  | nil => intro _ a w h; exact h
  | cons i s ih =>
    intro hin a w h
    simp only [inL, List.all_cons, Bool.and_eq_true] at hin
    have hi : i < L.length := by simpa using hin.1
    have ho : L[i]? = some L[i] := List.getElem?_eq_getElem hi
    have ho' : L.toArray[i]? = some L[i] := by simp
    simp only [pickL, ho, wpL] at h
    simp only [wpOps, ho']
    split
    · rename_i hw
      rw [if_pos hw] at h
      exact .inl (Oper.wp_mono2 (fun a' w' h => ih hin.2 a' w' h) (fun e a' w' _ h => h) h)
    · rename_i hw
      rw [if_neg hw] at h
      exact ih hin.2 _ _ h
theorem J.perm [mx : Mx P] {id : Nat} {L : List Oper} (ss : List (List Nat)) (hs : lins L L.length (Array.replicate L.length false) = ss) (hk : (ss.all fun s => inL L s && opsOk n (pickL L s)) = true)
    (h : ∀ W1, Lk1 W W1 → Ext W W1 → AllS ss fun s => JO P n L.toArray (pickL L s) K fin env W1) : J P n (.c (.region id L.toArray true) :: K) fin env W := by
  intro a ha
  refine wp_region_draw fun t => ?_
  have hsc : Region.schedule (P.follows .mixedOrders) L.toArray t = Region.linearise.go .any L.toArray L.length t (Array.replicate L.length false) [] := by
    rw [mx.h]
    simp [Region.schedule, Region.linearise]
  rw [hsc]
  have hm := go_lins L L.length t (Array.replicate L.length false)
  rw [hs] at hm
  have h1 := (h W.tick ⟨(tick_ext W).toLeK⟩ (tick_ext W)).get _ hm
  have h2 := List.all_eq_true.1 hk _ hm
  rw [Bool.and_eq_true] at h2
  exact wpOps_pick _ h2.1 a _ (h1 h2.2 a ha)
end
end
section
section
variable {P : Program} {n : Nat} {ops : Array Oper} {l : List Oper} {K : List Kt} {fin : Exit → Act → World → Prop} {env : Env} {W : GW}
variable {d d2 : Nat} {ty ty2 : TypeId} {pos pos2 : String} {aft aft2 : Array Edge}
/-- a parameter's variable that is written later -/
theorem O.boxL {T : TypeId} {x : Operand} {v : Value} (hx : get env x = some v)
    (k : ∀ W' b, Lk1 W W' → Loc W' b v.cells.toList.length → Cnt W' b v.cells.toList → W.size ≤ b → JO P n ops l K fin ((d, .pointer (some ⟨b, 0, none⟩)) :: env) W') : JO P n ops (⟨some d, .box T x, ty, pos, aft, none⟩ :: l) K fin env W := by
  have hc : Cnt (W.push (.cells v.cells T) true) W.size v.cells.toList := ⟨T, push_cells ..⟩
  refine JO.world (W' := W.push (.cells v.cells T) true) (v := .pointer (some ⟨W.size, 0, none⟩)) (fun a ha => ?_)
    (k _ _ ⟨(push_ext ..).toLeK⟩ ⟨List.mem_cons_self .., W.hm, _, hc, rfl⟩ hc (Nat.le_refl _))
  simp only [execOp, ha.get hx]
  rfl
/-- the last write to a variable -/
theorem O.stP {T sz b : Nat} {ag : Bool} {z : List Value} {x y : Operand} {v : Value} [i : TVar P T sz ag z] (hx : get env x = some (.pointer (some ⟨b, 0, none⟩))) (hy : get env y = some v)
    (hl : Loc W b sz) (hs : v.cells.toList.length = sz) (h1 : ∀ u ∈ v.cells.toList, oneC u = true)
    (k : ∀ W', Le1 W W' → Blk W' b v.cells.toList → JO P n ops l K fin env W') : JO P n ops (⟨none, .store T x y, ty, pos, aft, none⟩ :: l) K fin env W := by
  refine O.st hx hy hl hs h1 fun W1 i1 hc => ?_
  have hm : W1.m ≤ b := by rw [i1.s.m]; exact hl.m
  obtain ⟨U, hb⟩ := hc
  exact k (W1.pubB b) ⟨i1.s.toLeS.trans (pubB_le W1 b hm)⟩ ⟨by simp [GW.pubB], U, (0, 0), hb⟩
theorem O.ldVw {T sz : Nat} {z : List Value} {x : Operand} {b : Nat} {cs : List Value} [i : TVar P T sz true z] (hx : get env x = some (.pointer (some ⟨b, 0, none⟩)))
    (hb : Cnt W b cs) (hs : cs.length = sz) (k : JO P n ops l K fin ((d, .agg cs.toArray) :: env) W) : JO P n ops (⟨some d, .load T x, ty, pos, aft, none⟩ :: l) K fin env W :=
  O.ld (ag := true) (cs := cs) hx hs (fun j w hj => by rw [hb.cell]; simpa using hj) (fun h => Bool.noConfusion h) k
/-- a variable, where the order is open -/
theorem O.allocE {T sz : Nat} {ag : Bool} {z : List Value} [i : TVar P T sz ag z]
    (k : ∀ W' b, Lk1 W W' → Ext W W' → Loc W' b z.length → Cnt W' b z → W.size ≤ b → JO P n ops l K fin ((d, .pointer (some ⟨b, 0, none⟩)) :: env) W') : JO P n ops (⟨some d, .alloc T, ty, pos, aft, none⟩ :: l) K fin env W := by
  obtain ⟨ii, v, e1, e2, e3, e4⟩ := i.i
  have hc : Cnt (W.push (.cells v.cells T) true) W.size z := ⟨T, by rw [← e4]; exact push_cells ..⟩
  refine JO.world (W' := W.push (.cells v.cells T) true) (v := .pointer (some ⟨W.size, 0, none⟩)) (fun a ha => ?_)
    (k _ _ ⟨(push_ext ..).toLeK⟩ (push_ext ..) ⟨List.mem_cons_self .., W.hm, z, hc, rfl⟩ hc (Nat.le_refl _))
  have hz : (zeroValue T).run P W.w = .ok v W.w := by simp [zeroValue, typeInfo, program, bind, Sem.bind, Sem.run, pure, e1, e3]
  simp only [execOp, Instr.alloc]
  rw [Sem.run_bind, Sem.run_bind, hz]
  rfl
/-- a pointer to a variable of one's own -/
def PLoc (sz lo : Nat) (W : GW) (v : Value) : Prop := ∃ b, v = .pointer (some ⟨b, 0, none⟩) ∧ Loc W b sz ∧ lo ≤ b
theorem PLoc.me {sz lo : Nat} : MonoR (PLoc sz lo) := fun _ _ _ e ⟨b, h1, h2, h3⟩ => ⟨b, h1, h2.mono e.toLeK, h3⟩
/-- A callee may read what the caller still writes. -/
theorem Ok.lend {f : FuncId} {vs : List Value} {R : GW → Value → Prop} {b : Nat} (hb : b ∈ W.A) (m : ∀ W1 W2 v, LeF W1 W2 → R W1 v → R W2 v) (h : Ok P f vs (W.pubB b) R) : Ok P f vs W fun W' v => R (W'.pubB b) v := by
  refine ⟨h.1, h.2.mono ?_⟩
  rintro e w' ⟨W1, v, he, hw, hE, hR⟩
  have hs : W.size ≤ W1.size := hE.size
  let W' : GW := { w := W1.w, A := b :: W1.A, m := W1.m, hA := fun k hk => (List.mem_cons.1 hk).elim (fun h => by subst h; exact Nat.lt_of_lt_of_le (W.hA _ hb) hs) (W1.hA k), hm := W1.hm }
  have hkeep : ∀ k, k ∈ W.A → k ∈ b :: W1.A := fun k hk => by
    by_cases hkb : k = b
    · subst hkb; exact List.mem_cons_self ..
    · exact List.mem_cons_of_mem _ (hE.keep k (List.mem_filter.2 ⟨hk, by simpa using hkb⟩))
  refine ⟨W', v, he, hw, { os := hE.os, out := hE.out, tape := hE.tape, m := hE.m, size := hs, same := fun k hk _ => hE.all k hk, stay := fun k hk hn hk2 => ?_, prot := fun k _ hA => hkeep k hA, row := hE.row, keep := hkeep, all := hE.all }, ?_⟩
  · rcases List.mem_cons.1 hk2 with h | h
    · subst h; exact hn hb
    · exact hE.stay k hk (fun h2 => hn (List.mem_filter.1 h2).1) h
  · refine m W1 (W'.pubB b) v ⟨Nat.le_refl _, fun _ _ _ => rfl, fun k _ hn hk2 => ?_⟩ hR
    obtain ⟨h1, h2⟩ := List.mem_filter.1 hk2
    rcases List.mem_cons.1 h1 with h | h
    · subst h; simp at h2
    · exact hn h
theorem Ows.lend {α : Type} {r : Rep α} {b m c : Nat} {xs : List α} (h : Ows r W (some ⟨b, 0, none⟩) m c xs) (h0 : 0 < m) : b ∈ W.A ∧ b < W.size ∧ W.m ≤ b ∧ Sl r (W.pubB b) (some ⟨b, 0, none⟩) m c xs := by
  rcases h.h with h1 | ⟨b', cs, T, hp, hA, hm, hb, hl, hx⟩
  · have := h.hc; omega
  · injection hp with hp
    injection hp with hp _ _
    subst hp
    refine ⟨hA, lt_of_heap hb, hm, h.hn, h.hc, h.hC, .inr ⟨b, 0, rfl, lt_of_heap hb, fun hh => by have := (List.mem_filter.1 hh).2; simp at this, fun i x hi => ?_⟩⟩
    obtain ⟨u, hu, hv⟩ := hx i x hi
    exact ⟨u, r.mono (pubB_le W b hm).f hu, fun j v hj => by
      show W.w.cell? _ = _
      rw [cell_of hb, Nat.zero_add]; exact hv j v hj⟩
theorem Sl.lend {α : Type} {r : Rep α} {b m c : Nat} {p : Option Addr} {xs : List α} (h : Sl r W p m c xs) : Sl r (W.pubB b) p m c xs :=
  Sl.mono (W := W) (W' := W.pubB b) ⟨Nat.le_refl _, fun _ _ _ => rfl, fun k _ hn hk => hn (List.mem_filter.1 hk).1⟩ h
theorem Sl.unlend {b b2 o m c : Nat} {xs : List Nat} (h : Sl RW (W.pubB b) (some ⟨b2, o, none⟩) m c xs) (hne : b2 ≠ b) : Sl RW W (some ⟨b2, o, none⟩) m c xs := by
  refine ⟨h.hn, h.hc, h.hC, ?_⟩
  rcases h.at' with h1 | ⟨b', o', hp, hb, hA, hx⟩
  · exact .inl h1
  · refine .inr ⟨b', o', hp, hb, fun hk => hA (List.mem_filter.2 ⟨hk, ?_⟩), hx⟩
    injection hp with hp
    injection hp with hp _ _
    subst hp
    simpa using hne
theorem Sl.part {b m c : Nat} {xs : List Nat} (h : Sl RW W (some ⟨b, 0, none⟩) m c xs) (lo k : Nat) (hk : lo + k ≤ m) (hlo : lo < c) : Sl RW W (some ⟨b, lo, none⟩) k (c - lo) ((xs.drop lo).take k) := by
  have h1 := Sl.take (Sl.drop h lo (by omega)) k (by omega)
  rw [if_neg (by omega)] at h1
  have : (some (⟨b, 0, none⟩ : Addr)).map (·.add (lo * RW.size)) = some ⟨b, lo, none⟩ := by
    show some (Addr.add _ _) = _
    rw [add0]
    show some (⟨b, 0 + lo * 1, none⟩ : Addr) = _
    rw [Nat.zero_add, Nat.mul_one]
  rwa [this] at h1
/-- A slice that the callee has made. -/
def NewR {α : Type} (r : Rep α) (W0 W : GW) (v : Value) (xs : List α) : Prop := ∃ b m c, v = .slice (some ⟨b, 0, none⟩) m c ∧ W0.size ≤ b ∧ Sl r W (some ⟨b, 0, none⟩) m c xs
theorem NewR.v {α : Type} {r : Rep α} {W0 W : GW} {v : Value} {xs : List α} (h : NewR r W0 W v xs) : V (RSl r) W v xs := by
  obtain ⟨b, m, c, rfl, _, hs⟩ := h
  exact hs.v
theorem NewR.mono {α : Type} {r : Rep α} {W0 W1 W2 : GW} {v : Value} {xs : List α} (l : LeF W1 W2) (h : NewR r W0 W1 v xs) : NewR r W0 W2 v xs := by
  obtain ⟨b, m, c, rfl, hb, hs⟩ := h
  exact ⟨b, m, c, rfl, hb, hs.mono l⟩
end
end
section
/-- The closed facts, with a rank of each operation of the cloud. -/
def cloudOkR (n : Nat) (env : Env) (L : List Oper) (rk : List Nat) (k : Nat) : Bool :=
  opsOk n L && (List.range L.length).all (fun i => (depsAt L i).all (fun j => Nat.blt j L.length && (if Nat.blt i k then Nat.blt j k && Nat.blt (rk.getD j 0) (rk.getD i 0) else Nat.blt j i))) &&
  (List.range k).all (fun i => match dstAt L i with
    | some d => !inE env d && (List.range i).all (fun j => match dstAt L j with | some e => !(Nat.beq d e) | none => false)
    | none => false) &&
  (List.range L.length).all (fun i => Nat.ble i k || (depsAt L i).contains (i - 1)) && (Nat.ble L.length k || (List.range k).all (fun j => (cloudOk.ancs L (L.length) k).contains j))
section
variable {P : Program} {n : Nat} {K : List Kt} {fin : Exit → Act → World → Prop} {env : Env} {W : GW}
structure CloudG (n : Nat) (env : Env) (L : List Oper) (rk : List Nat) (k : Nat) : Prop where
  ok : opsOk n L = true
  inb : ∀ i, i < L.length → ∀ j ∈ depsAt L i, j < L.length
  lowT : ∀ i, k ≤ i → i < L.length → ∀ j ∈ depsAt L i, j < i
  rank : ∀ i, i < k → ∀ j ∈ depsAt L i, j < k ∧ rk.getD j 0 < rk.getD i 0
  dst : ∀ i, i < k → ∃ d, dstAt L i = some d ∧ look env d = none ∧ ∀ j, j < i → ∃ e, dstAt L j = some e ∧ d ≠ e
  tail : ∀ m, k < m → m < L.length → m - 1 ∈ depsAt L m
  anc : k < L.length → ∀ j, j < k → j ∈ cloudOk.ancs L L.length k
theorem cloudG {n : Nat} {env : Env} {L : List Oper} {rk : List Nat} {k : Nat} (hkl : k ≤ L.length) (h : cloudOkR n env L rk k = true) : CloudG n env L rk k := by
  simp only [cloudOkR, Bool.and_eq_true] at h
  obtain ⟨⟨⟨⟨h1, h2⟩, h3⟩, h4⟩, h5⟩ := h
  have h2' : ∀ i, i < L.length → ∀ j ∈ depsAt L i, j < L.length ∧ (if i < k then j < k ∧ rk.getD j 0 < rk.getD i 0 else j < i) := by
    intro i hi j hj
    have := List.all_eq_true.1 h2 i (List.mem_range.2 hi)
    have := List.all_eq_true.1 this j hj
    rw [Bool.and_eq_true] at this
    refine ⟨by simpa using this.1, ?_⟩
    have h := this.2
    by_cases hik : i < k
    · have e : Nat.blt i k = true := by simpa using hik
      rw [if_pos hik]
      rw [if_pos e, Bool.and_eq_true] at h
      exact ⟨by simpa using h.1, by simpa using h.2⟩
    · have e : ¬ Nat.blt i k = true := by simpa using hik
      rw [if_neg hik]
      rw [if_neg e] at h
      simpa using h
  refine ⟨h1, fun i hi j hj => (h2' i hi j hj).1, fun i hk hi j hj => ?_, fun i hi j hj => ?_, fun i hi => ?_, fun m hm hm2 => ?_, fun hk j hj => ?_⟩
  · have := (h2' i hi j hj).2; rwa [if_neg (by omega)] at this
  · have := (h2' i (by omega) j hj).2; rwa [if_pos hi] at this
  · have := List.all_eq_true.1 h3 i (List.mem_range.2 hi)
    split at this
    · rename_i d hd
      rw [Bool.and_eq_true] at this
      obtain ⟨g1, g2⟩ := this
      refine ⟨d, hd, ?_, fun j hj => ?_⟩
      · cases hl : look env d with
        | none => rfl
        | some v => simp [inE, hl] at g1
      · have := List.all_eq_true.1 g2 j (List.mem_range.2 hj)
        split at this
        · rename_i e he
          refine ⟨e, he, ?_⟩
          intro h; subst h; simp at this
        · cases this
    · cases this
  · have := List.all_eq_true.1 h4 m (List.mem_range.2 hm2)
    rw [Bool.or_eq_true] at this
    rcases this with h | h
    · have := Nat.le_of_ble_eq_true h; omega
    · simpa using h
  · rw [Bool.or_eq_true] at h5
    rcases h5 with h | h
    · have := Nat.le_of_ble_eq_true h; omega
    · have := List.all_eq_true.1 h j (List.mem_range.2 hj)
      simpa using this
/-- The tail: all before i is listed, nothing behind: what is left comes in order. -/
theorem go_tailR {k : Nat} {L : List Oper} (hl : ∀ i, k ≤ i → i < L.length → ∀ j ∈ depsAt L i, j < i) (f : Nat) : ∀ (i t : Nat) (ls : Array Bool), k ≤ i → ls.size = L.length → i + f = L.length →
    (∀ j, j < i → ls.getD j false = true) → (∀ j, i ≤ j → ls.getD j false = false) → (∀ m, i < m → m < L.length → m - 1 ∈ depsAt L m) →
    Region.linearise.go .any L.toArray f t ls [] = List.range' i f := by
  induction f with
  | zero => intro i t ls _ _ _ _ _ _; simp [Region.linearise.go]
  | succ f ih =>
    intro i t ls hki hs hf h1 h2 h3
    have hr : rdy L ls = [i] := by
      have hmem : ∀ x, x ∈ rdy L ls ↔ x = i := by
        intro x
        rw [rdy_mem hs]
        constructor
        · rintro ⟨o, ho, hx, hd⟩
          have hx1 : x < L.length := by
            by_cases h : x < L.length
            · exact h
            · rw [List.getElem?_eq_none (by omega)] at ho; cases ho
          by_cases hlt : x < i
          · rw [h1 x hlt] at hx; cases hx
          · by_cases he : x = i
            · exact he
            · have hy := h3 x (by omega) hx1
              rw [depsAt_eq L x o ho] at hy
              have := hd _ hy
              rw [h2 (x - 1) (by omega)] at this; cases this
        · rintro rfl
          have hx1 : x < L.length := by omega
          refine ⟨L[x], List.getElem?_eq_getElem hx1, h2 x (Nat.le_refl _), fun j hj => h1 j ?_⟩
          exact hl x hki hx1 j (by rw [depsAt_eq L x _ (List.getElem?_eq_getElem hx1)]; exact hj)
      have hnd : (rdy L ls).Nodup := List.Pairwise.filter _ List.nodup_range
      match hq : rdy L ls with
      | [] => have := (hmem i).2 rfl; rw [hq] at this; cases this
      | [x] => have := (hmem x).1 (by rw [hq]; exact List.mem_cons_self ..); rw [this]
      | x :: y :: r =>
        have e1 := (hmem x).1 (by rw [hq]; exact List.mem_cons_self ..)
        have e2 := (hmem y).1 (by rw [hq]; simp)
        rw [hq] at hnd
        have := (List.nodup_cons.1 hnd).1
        rw [e1, e2] at this
        simp at this
    have hgo : Region.linearise.go .any L.toArray (f + 1) t ls [] = match (rdy L ls)[t % (rdy L ls).length]? with | some i => Region.linearise.go .any L.toArray f (t / (rdy L ls).length) (ls.setIfInBounds i true) [i] | none => [] := rfl
    rw [hgo, hr]
    simp only [List.length_cons, List.length_nil, Nat.zero_add, Nat.mod_one, List.getElem?_cons_zero]
    rw [go_acc, List.range'_succ]
    have hi : i < ls.size := by omega
    rw [ih (i + 1) _ _ (by omega) (by simpa using hs) (by omega) (fun j hj => by
        by_cases he : j = i
        · subst he; simp [Array.getD, hi]
        · have := h1 j (by omega)
          have hj' : j < ls.size := by omega
          simp [Array.getD, hj', Array.getElem_setIfInBounds, Ne.symm he] at this ⊢
          exact this)
      (fun j hj => by
        have := h2 j (by omega)
        by_cases hj' : j < ls.size
        · simp [Array.getD, hj', Array.getElem_setIfInBounds, show ¬ i = j from by omega] at this ⊢
          exact this
        · simp [Array.getD, hj'])
      (fun m hm hm2 => h3 m (by omega) hm2)]
    rfl
theorem ancs_listedR {L : List Oper} {p : Nat → Bool} (hcl : ∀ i, i < L.length → p i = true → ∀ j ∈ depsAt L i, p j = true) (hl : ∀ i, i < L.length → ∀ j ∈ depsAt L i, j < L.length) (f : Nat) :
    ∀ i, i < L.length → (∀ j ∈ depsAt L i, p j = true) → ∀ j ∈ cloudOk.ancs L f i, p j = true := by
  induction f with
  | zero => intro i _ _ j hj; simp [cloudOk.ancs] at hj
  | succ f ih =>
    intro i hi hd j hj
    simp only [cloudOk.ancs, List.mem_flatMap] at hj
    obtain ⟨y, hy, hj⟩ := hj
    rcases List.mem_cons.1 hj with rfl | hj
    · exact hd _ hy
    · have hyl : y < L.length := hl i hi y hy
      exact ih y hyl (hcl y hyl (hd y hy)) j hj
/-- all of the cloud is done -/
theorem cl_doneR {rk : List Nat} {L : List Oper} {sp : List Sp} {ls : Nat → Bool} {a : Act} {w : World} (F : CloudG n env L rk sp.length) (h : Cl n L sp env W ls a w) (hall : ∀ j, j < sp.length → ls j = true)
    (tail : ∀ W1, Ext W W1 → WithD L sp W1 (List.range sp.length) env fun E => JO P n L.toArray (L.drop sp.length) K fin E W1) : wpL P L.toArray (Done P fin K) (L.drop sp.length) a w := by
  obtain ⟨W1, vals, hw, he, hv⟩ := h.ex
  have h1 := WithD.use vals (List.range sp.length) (fun j hj => (hv j (List.mem_range.1 hj) (hall j (List.mem_range.1 hj))).1) (tail W1 he)
  have hok : opsOk n (L.drop sp.length) = true := by
    have : ∀ (k : Nat) (l : List Oper), opsOk n l = true → opsOk n (l.drop k) = true := by
      intro k
      induction k with
      | zero => intro l h; simpa using h
      | succ k ih => intro l h; cases l with
        | nil => simpa using h
        | cons o l => simp only [List.drop_succ_cons]; exact ih l (JO.unok h)
    exact this _ _ F.ok
  rw [← hw]
  refine h1 hok a ⟨h.defers, h.size, fun t v ht => ?_⟩
  rw [look_append] at ht
  have key : ∀ js : List Nat, (∀ j ∈ js, j < sp.length) → ∀ u, look (js.map fun j => (dstD L j, vals j)) t = some u → a.tmps.getD t undef = u := by
    intro js
    induction js with
    | nil => intro _ u hu; simp [look] at hu
    | cons j js ih =>
      intro hj u hu
      simp only [List.map_cons] at hu
      rw [look_cons] at hu
      have hj1 := hj j (List.mem_cons_self ..)
      by_cases hts : t = dstD L j
      · rw [if_pos hts] at hu
        injection hu with hu
        rw [hts, (hv j hj1 (hall j hj1)).2.2, hu]
      · rw [if_neg hts] at hu
        exact ih (fun x hx => hj x (List.mem_cons_of_mem _ hx)) u hu
  cases hl : look (((List.range sp.length).reverse.map fun j => (dstD L j, vals j))) t with
  | some u =>
    rw [hl] at ht
    injection ht with ht
    rw [← ht]
    exact key _ (fun j hj => List.mem_range.1 (List.mem_reverse.1 hj)) u hl
  | none =>
    rw [hl] at ht
    exact h.env t v ht
theorem draw_coreR {rk : List Nat} {L : List Oper} {sp : List Sp} (F : CloudG n env L rk sp.length) (hk : sp.length ≤ L.length) (cloud : CloudH P n L K fin sp env W 0 L sp)
    (tail : ∀ W1, Ext W W1 → WithD L sp W1 (List.range sp.length) env fun E => JO P n L.toArray (L.drop sp.length) K fin E W1) (f : Nat) :
    ∀ (t : Nat) (ls : Array Bool) (a : Act) (w : World), ls.size = L.length → (∀ i, sp.length ≤ i → ls.getD i false = false) →
      (∀ i, i < L.length → ls.getD i false = true → ∀ j ∈ depsAt L i, ls.getD j false = true) →
      (List.range L.length).countP (fun i => !ls.getD i false) = f → Cl n L sp env W (fun i => ls.getD i false) a w →
      wpOps P L.toArray (Done P fin K) (Region.linearise.go .any L.toArray f t ls []) a w := by
  induction f with
  | zero =>
    intro t ls a w hs hb hcl hcnt hC
    have hall : ∀ j, j < L.length → ls.getD j false = true := by
      intro j hj
      have := List.countP_eq_zero.1 hcnt j (List.mem_range.2 hj)
      simpa using this
    have hkk : L.length = sp.length := by
      by_cases h : L.length ≤ sp.length
      · omega
      · have := hall sp.length (by omega)
        rw [hb sp.length (Nat.le_refl _)] at this; cases this
    have h1 := cl_doneR F hC (fun j hj => hall j (by omega)) tail
    rw [List.drop_eq_nil_of_le (by omega)] at h1
    simpa [Region.linearise.go, wpOps, wpL] using h1
  | succ f ih =>
    intro t ls a w hs hb hcl hcnt hC
    by_cases hall : ∀ j, j < sp.length → ls.getD j false = true
    · have hcount : L.length - sp.length = f + 1 := by
        rw [← hcnt]
        exact (cnt_range sp.length L.length (fun i => !ls.getD i false) (fun j hj => by simp [hall j hj]) (fun j hj => by simp [hb j hj])).symm
      rw [go_tailR F.lowT (f + 1) sp.length t ls (Nat.le_refl _) hs (by omega) hall hb F.tail]
      have h1 := wpOps_of (P := P) (ops := L.toArray) (Q := Done P fin K) (L.drop sp.length) sp.length a w (by simp) (cl_doneR F hC hall tail)
      rw [List.length_drop, hcount] at h1
      exact h1
    · have hex : ∃ j, j < sp.length ∧ ls.getD j false = false := by
        apply Classical.byContradiction
        intro hn
        apply hall
        intro j hj
        cases hv : ls.getD j false with
        | true => rfl
        | false => exact absurd ⟨j, hj, hv⟩ hn
      have hex2 : ∃ m, ∃ j, (j < sp.length ∧ ls.getD j false = false) ∧ rk.getD j 0 = m := by
        obtain ⟨j, hj⟩ := hex
        exact ⟨_, j, hj, rfl⟩
      obtain ⟨m0, ⟨j0, ⟨hj0, hj1⟩, hjm⟩, hmin⟩ := exists_min _ hex2
      have hready : j0 ∈ rdy L ls := by
        rw [rdy_mem hs]
        have hlt : j0 < L.length := by omega
        refine ⟨L[j0], List.getElem?_eq_getElem hlt, hj1, fun j hj => ?_⟩
        obtain ⟨hjl, hjr⟩ := F.rank j0 hj0 j (by rw [depsAt_eq L j0 _ (List.getElem?_eq_getElem hlt)]; exact hj)
        cases hv : ls.getD j false with
        | true => rfl
        | false => have := hmin _ ⟨j, ⟨hjl, hv⟩, rfl⟩; omega
      have hpos : 0 < (rdy L ls).length := List.length_pos_of_mem hready
      have hgo : Region.linearise.go .any L.toArray (f + 1) t ls [] = match (rdy L ls)[t % (rdy L ls).length]? with | some i => Region.linearise.go .any L.toArray f (t / (rdy L ls).length) (ls.setIfInBounds i true) [i] | none => [] := rfl
      have hlt := Nat.mod_lt t hpos
      rw [hgo, List.getElem?_eq_getElem hlt]
      generalize hi : (rdy L ls)[t % (rdy L ls).length] = i
      have him : i ∈ rdy L ls := by rw [← hi]; exact List.getElem_mem hlt
      obtain ⟨o, ho, hli, hdep⟩ := (rdy_mem hs).1 him
      have hil : i < L.length := by
        by_cases h : i < L.length
        · exact h
        · rw [List.getElem?_eq_none (by omega)] at ho; cases ho
      have hdi := depsAt_eq L i o ho
      have hik : i < sp.length := by
        apply Classical.byContradiction
        intro hn
        by_cases he : i = sp.length
        · have ha := ancs_listedR (L := L) (p := fun i => ls.getD i false) hcl F.inb L.length i hil (fun j hj => hdep j (by rw [← hdi]; exact hj))
          have := ha j0 (by rw [he]; exact F.anc (by omega) j0 hj0)
          rw [hj1] at this; cases this
        · have := hdep (i - 1) (by rw [← hdi]; exact F.tail i (by omega) hil)
          rw [hb (i - 1) (by omega)] at this; cases this
      simp only []
      rw [go_acc]
      show wpOps P L.toArray (Done P fin K) (i :: _) a w
      have ho' : L.toArray[i]? = some o := by simpa using ho
      simp only [wpOps, ho']
      obtain ⟨W1, vals, hw, he, hv⟩ := hC.ex
      obtain ⟨o2, ho2, hcl2⟩ := cloud.at' (fun j hj => by rw [Nat.zero_add]) hik
      rw [ho] at ho2
      injection ho2 with ho2
      subst ho2
      simp only [Nat.zero_add] at hcl2
      obtain ⟨d, hd, hde, hdd⟩ := F.dst i hik
      have hdn : d < n := by
        have : ∀ (l : List Oper) (i : Nat), opsOk n l = true → dstAt l i = some d → d < n := by
          intro l
          induction l with
          | nil => intro i _ h; simp [dstAt] at h
          | cons x l ih2 =>
            intro i hx h
            cases i with
            | zero =>
              simp only [dstAt] at h
              simp only [opsOk, h] at hx
              split at hx
              · rename_i hb; simpa using hb
              · cases hx
            | succ i => exact ih2 i (JO.unok hx) (by simpa [dstAt] using h)
        exact this L i F.ok hd
      have hdk : ∀ j ∈ depsD o, j < sp.length := fun j hj => by
        exact (F.rank i hik j (by rw [hdi]; exact hj)).1
      have hJ := WithD.use vals (depsD o) (fun j hj => (hv j (hdk j hj) (hdep j hj)).1) (hcl2 W1 ⟨he.toLeK⟩ he (allEnv a.tmps n))
      generalize hE : ((depsD o).reverse.map fun j => (dstD L j, vals j)) ++ (env ++ allEnv a.tmps n) = E at hJ
      have hRel : Rel n E a := by
        refine ⟨hC.defers, hC.size, fun t v ht => ?_⟩
        rw [← hE, look_append] at ht
        cases hl : look ((depsD o).reverse.map fun j => (dstD L j, vals j)) t with
        | some u =>
          rw [hl] at ht
          injection ht with ht
          rw [← ht]
          have key : ∀ js : List Nat, (∀ j ∈ js, j ∈ depsD o) → look (js.map fun j => (dstD L j, vals j)) t = some u → a.tmps.getD t undef = u := by
            intro js
            induction js with
            | nil => intro _ hu; simp [look] at hu
            | cons j js ih2 =>
              intro hj hu
              simp only [List.map_cons] at hu
              rw [look_cons] at hu
              have hj1 := hj j (List.mem_cons_self ..)
              by_cases hts : t = dstD L j
              · rw [if_pos hts] at hu
                injection hu with hu
                rw [hts, (hv j (hdk j hj1) (hdep j hj1)).2.2, hu]
              · rw [if_neg hts] at hu
                exact ih2 (fun x hx => hj x (List.mem_cons_of_mem _ hx)) hu
          exact key _ (fun j hj => List.mem_reverse.1 hj) hl
        | none =>
          rw [hl] at ht
          simp only [look_append] at ht
          cases hl2 : look env t with
          | some u =>
            rw [hl2] at ht
            injection ht with ht
            rw [← ht]
            exact hC.env t u hl2
          | none =>
            rw [hl2] at ht
            simp only [look_allEnv] at ht
            split at ht
            · injection ht
            · cases ht
      have hfull : ∀ t, t < n → ∃ u, look E t = some u := by
        intro t htn
        rw [← hE, look_append, look_append, look_allEnv, if_pos htn]
        split
        · exact ⟨_, rfl⟩
        · split
          · exact ⟨_, rfl⟩
          · exact ⟨_, rfl⟩
      have hoks : opsOk n [o] = true := by
        have hod : o.dst = some d := by
          have := dstAt_eq L i
          rw [hd, ho] at this
          simpa using this.symm
        simp only [opsOk, hod]
        have : Nat.blt d n = true := by simpa using hdn
        rw [this]
      have hrun := hJ hoks a hRel
      rw [hw] at hrun
      -- what the operation leaves serves the rest
      have hnext : ∀ a' w', DStop n E W1 (dstD L i) (spD sp i) a' w' → wpOps P L.toArray (Done P fin K) (Region.linearise.go .any L.toArray f (t / (rdy L ls).length) (ls.setIfInBounds i true) []) a' w' := by
        rintro a' w' ⟨W2, v, hw2, he2, hr2, hok2, hm2⟩
        rw [dstD_of hd] at hr2
        have hsame : ∀ t, t ≠ d → a'.tmps.getD t undef = a.tmps.getD t undef := by
          intro t htd
          by_cases htn : t < n
          · obtain ⟨u, hu⟩ := hfull t htn
            rw [hRel.has t u hu]
            exact hr2.has t u (by rw [look_cons, if_neg htd]; exact hu)
          · have h1 : ¬ t < a.tmps.size := by rw [hC.size]; exact htn
            have h2 : ¬ t < a'.tmps.size := by rw [hr2.size]; exact htn
            simp [Array.getD, h1, h2]
        have hisz : i < ls.size := by omega
        have hset : ∀ j, (ls.setIfInBounds i true).getD j false = if j = i then true else ls.getD j false := by
          intro j
          by_cases hji : j = i
          · subst hji; simp [Array.getD, hisz]
          · rw [if_neg hji]
            by_cases hjs : j < ls.size
            · simp [Array.getD, hjs, Array.getElem_setIfInBounds, Ne.symm hji]
            · simp [Array.getD, hjs]
        refine ih _ _ a' w' (by simpa using hs) (fun j hj => by rw [hset, if_neg (by omega)]; exact hb j hj) (fun x hx hlx j hj => ?_) ?_ ⟨⟨W2, fun j => if j = i then v else vals j, hw2, he.trans he2, fun j hj hlj => ?_⟩, hr2.defers, hr2.size, fun t u ht => ?_⟩
        · rw [hset] at hlx ⊢
          by_cases hji : j = i
          · rw [if_pos hji]
          · rw [if_neg hji]
            by_cases hxi : x = i
            · subst hxi
              exact hdep j (by rw [← hdi]; exact hj)
            · rw [if_neg hxi] at hlx
              exact hcl x hx hlx j hj
        · have hlt2 : (List.range L.length).countP (fun j => !(ls.setIfInBounds i true).getD j false) < (List.range L.length).countP (fun j => !ls.getD j false) :=
            countP_lt (List.mem_range.2 hil) (by simp [hli]) (by simp [hset]) (fun j hj => by
              rw [hset] at hj
              by_cases hji : j = i
              · rw [if_pos hji] at hj; cases hj
              · rw [if_neg hji] at hj; exact hj)
          have hge : (List.range L.length).countP (fun j => !ls.getD j false) ≤ (List.range L.length).countP (fun j => !(ls.setIfInBounds i true).getD j false) + 1 := by
            have : ∀ l : List Nat, l.Nodup → l.countP (fun j => !ls.getD j false) ≤ l.countP (fun j => !(ls.setIfInBounds i true).getD j false) + (if i ∈ l then 1 else 0) := by
              intro l
              induction l with
              | nil => intro _; simp
              | cons x l ih2 =>
                intro hnd
                have hnd2 := List.nodup_cons.1 hnd
                have := ih2 hnd2.2
                rw [List.countP_cons, List.countP_cons]
                by_cases hxi : x = i
                · subst hxi
                  rw [if_neg hnd2.1] at this
                  have e1 : (!ls.getD x false) = true := by rw [hli]; rfl
                  have e2 : (!(ls.setIfInBounds x true).getD x false) = false := by rw [hset, if_pos rfl]; rfl
                  rw [e1, e2, if_pos rfl, if_neg (by simp), if_pos (List.mem_cons_self ..)]
                  omega
                · have e : (!(ls.setIfInBounds i true).getD x false) = !ls.getD x false := by rw [hset, if_neg hxi]
                  rw [e]
                  have hm : (i ∈ x :: l) ↔ i ∈ l := by simp [Ne.symm hxi]
                  by_cases hil2 : i ∈ l
                  · rw [if_pos (hm.2 hil2)]; rw [if_pos hil2] at this; omega
                  · rw [if_neg (fun h => hil2 (hm.1 h))]; rw [if_neg hil2] at this; omega
            have := this (List.range L.length) List.nodup_range
            rw [if_pos (List.mem_range.2 hil)] at this
            exact this
          omega
        · by_cases hji : j = i
          · subst hji
            refine ⟨by simpa using hok2, hm2, ?_⟩
            rw [dstD_of hd]
            simpa using hr2.has d v (by rw [look_cons, if_pos rfl])
          · simp only [hset, if_neg hji] at hlj
            obtain ⟨g1, g2, g3⟩ := hv j hj hlj
            refine ⟨by simpa [hji] using Sp.up g2 he2 g1, g2, ?_⟩
            have hne : dstD L j ≠ d := by
              obtain ⟨dj, hdj, _, hjj⟩ := F.dst j hj
              rw [dstD_of hdj]
              by_cases hlt3 : j < i
              · obtain ⟨e, hee, hne⟩ := hdd j hlt3
                rw [hdj] at hee; injection hee with hee; rw [hee]; exact fun h => hne h.symm
              · obtain ⟨e, hee, hne⟩ := hjj i (by omega)
                rw [hd] at hee; injection hee with hee; rw [hee]; exact hne
            rw [hsame _ hne, g3]
            simp [hji]
        · have htd : t ≠ d := by
            intro h; subst h; rw [hde] at ht; cases ht
          rw [hsame t htd]
          exact hC.env t u ht
      simp only [wpL] at hrun
      split
      · rename_i hwant
        rw [if_pos hwant] at hrun
        exact .inl (Oper.wp_mono2 (fun a' w' h => hnext a' w' h) (fun e a' w' hne h => by cases e <;> first | exact absurd rfl hne | exact h) hrun)
      · rename_i hwant
        rw [if_neg hwant] at hrun
        exact hnext _ _ hrun
theorem J.drawR [mx : Mx P] {id : Nat} {L : List Oper} (sp : List Sp) (rk : List Nat) (hchk : cloudOkR n env L rk sp.length = true) (hk : Nat.ble sp.length L.length = true) (cloud : CloudH P n L K fin sp env W 0 L sp)
    (tail : ∀ W1, Lk1 W W1 → Ext W W1 → WithD L sp W1 (List.range sp.length) env fun E => JO P n L.toArray (L.drop sp.length) K fin E W1) : J P n (.c (.region id L.toArray true) :: K) fin env W := by
  intro a ha
  refine wp_region_draw fun t => ?_
  have hs : Region.schedule (P.follows .mixedOrders) L.toArray t = Region.linearise.go .any L.toArray L.length t (Array.replicate L.length false) [] := by
    rw [mx.h]
    simp [Region.schedule, Region.linearise]
  rw [hs]
  have hf : ∀ i, (Array.replicate L.length false).getD i false = false := by
    intro i
    by_cases h : i < L.length <;> simp [Array.getD, h]
  refine draw_coreR (cloudG (Nat.le_of_ble_eq_true hk) hchk) (Nat.le_of_ble_eq_true hk) cloud (fun W1 e => tail W1 ⟨e.toLeK⟩ e) L.length t _ a W.tick.w (by simp) (fun i _ => hf i) (fun i _ h => by rw [hf] at h; cases h) ?_
    ⟨⟨W.tick, fun _ => undef, rfl, tick_ext W, fun i _ h => by rw [hf] at h; cases h⟩, ha.defers, ha.size, ha.has⟩
  have := cnt_range 0 L.length (fun i => !(Array.replicate L.length false).getD i false) (fun j hj => by omega) (fun j _ => by rw [hf]; rfl)
  rw [this]; rfl
end
section
variable {P : Program} {n : Nat} {ops : Array Oper} {l : List Oper} {K : List Kt} {fin : Exit → Act → World → Prop} {env : Env} {W : GW}
variable {d : Nat} {ty : TypeId} {pos : String} {aft : Array Edge}
/-- the place of an element, once for all -/
theorem Sl.place {α : Type} {r : Rep α} {p : Option Addr} {m c j : Nat} {xs : List α} {u : α} (hs : Sl r W p m c xs) (hj : xs[j]? = some u) :
    ∃ b off, p = some ⟨b, off, none⟩ ∧ j < m ∧ ∀ W' : GW, LeF W W' → ∃ cs, r.At W' cs u ∧ ∀ i v, cs[i]? = some v → W'.w.cell? ⟨b, off + j * r.size + i, none⟩ = some v := by
  obtain ⟨b, off, cs, hp, hc, hv⟩ := hs.cells hj
  refine ⟨b, off, hp, hs.lt hj, fun W' l => ?_⟩
  obtain ⟨b', off', cs', hp', hc', hv'⟩ := (hs.mono l).cells hj
  rw [hp] at hp'
  injection hp' with hp'
  injection hp' with h1 h2 _
  subst h1; subst h2
  exact ⟨cs', hc', fun i v hi => by rw [Nat.add_assoc]; exact hv' i v hi⟩
/-- a load of a datum from such a place -/
theorem O.ldP {α : Type} {r : Rep α} {T sz : Nat} {ag : Bool} {z : List Value} {x : Operand} {b off : Nat} {u : α} [i : TVar P T sz ag z] (hx : get env x = some (.pointer (some ⟨b, off, none⟩)))
    (h : ∃ cs, r.At W cs u ∧ ∀ i v, cs[i]? = some v → W.w.cell? ⟨b, off + i, none⟩ = some v) (hr : r.size = sz) (hg : r.agg = ag) (h1 : ag = false → sz = 1)
    (k : ∀ v, V r W v u → JO P n ops l K fin ((d, v) :: env) W) : JO P n ops (⟨some d, .load T x, ty, pos, aft, none⟩ :: l) K fin env W := by
  obtain ⟨cs, hc, hv⟩ := h
  exact O.ld (i := i) (b := b) (off := off) (cs := cs) hx (by rw [r.len hc, hr]) hv h1 (k _ ⟨cs, hc, by rw [hg]⟩)
theorem D.exE {E : Env} {v v' : Value} (h : v = v') : JO P n ops [] (.l (DStop n E W d (.ex v')) :: K) fin ((d, v) :: E) W := h ▸ D.ex
/-- a store into a variable, with its frame -/
theorem O.stX {T sz b : Nat} {ag : Bool} {z : List Value} {x y : Operand} {v : Value} [i : TVar P T sz ag z] (hx : get env x = some (.pointer (some ⟨b, 0, none⟩))) (hy : get env y = some v)
    (hl : Loc W b sz) (hs : v.cells.toList.length = sz) (h1 : ∀ u ∈ v.cells.toList, oneC u = true)
    (k : ∀ W', Lk1 W W' → Cnt W' b v.cells.toList → OnlyB b W W' → W.size ≤ W'.size → JO P n ops l K fin env W') : JO P n ops (⟨none, .store T x y, ty, pos, aft, none⟩ :: l) K fin env W := by
  obtain ⟨cs, ⟨U, hb⟩, hsz⟩ := hl.h
  have hr := run_storeVar (P := P) (T := T) (off := 0) (v := v) hb hs (by omega) h1
  rw [spl_full _ _ (by omega)] at hr
  refine JO.unit (W' := W.put b (.cells v.cells.toList.toArray U (0, 0))) (fun a ha => ?_)
    (k _ ⟨put_lek W b _ _ U (0, 0) hb hl.A hl.m (by simp; simpa using hs.trans hsz.symm)⟩ ⟨U, heap_put_self _ _ _ (lt_of_heap hb)⟩ (fun k' _ hk' => heap_put _ _ _ _ hk') (by rw [GW.size_put]; exact Nat.le_refl _))
  simp only [execOp, ha.get hx, ha.get hy, Instr.storeAt, Instr.sureAddr]
  rw [Sem.run_bind, Sem.run_bind]
  show Result.andThen (Result.andThen (Result.ok _ _) _) _ = _
  simp only [Result.andThen_ok]
  rw [hr]
  rfl
theorem Cnt.only {W W' : GW} {b b2 : Nat} {cs : List Value} (h : Cnt W b2 cs) (o : OnlyB b W W') (hne : b2 ≠ b) : Cnt W' b2 cs := by
  obtain ⟨T, hb⟩ := h
  exact ⟨T, by rw [o b2 (lt_of_heap hb) hne]; exact hb⟩
/-- what a function returns that it has made -/
theorem Ows.ret {α : Type} {r : Rep α} {W0 W1 W' : GW} {p : Option Addr} {m c : Nat} {xs : List α} [i : En W0 W1] [j : Le W1 W] (h : Ows r W p m c xs) (iE : Ex W W') (iO : Own1 W W') : OwnR r W0 W' (.slice p m c) xs := by
  refine ⟨p, m, c, rfl, h.out iE iO, ?_⟩
  intro a ha hc
  rcases h.h with h0 | ⟨b, cs, T, hp, hA, hm, _⟩
  · omega
  · rw [hp] at ha
    injection ha with ha
    subst ha
    rw [(out_le i j.s).2.1] at hm
    exact hm
theorem OwnR.me {α : Type} {r : Rep α} {W0 : GW} {xs : List α} : MonoR (fun W v => OwnR r W0 W v xs) := fun _ _ _ e ⟨p, m, c, h1, h2, h3⟩ => ⟨p, m, c, h1, h2.ext e, h3⟩
end
end
section
section
variable {P : Program} {n : Nat} {K : List Kt} {fin : Exit → Act → World → Prop} {env : Env} {W : GW}
theorem opsOk_drop (k : Nat) (l : List Oper) (h : opsOk n l = true) : opsOk n (l.drop k) = true := by
  induction k generalizing l with
  | zero => simpa using h
  | succ k ih => cases l with
    | nil => simpa using h
    | cons o l => simp only [List.drop_succ_cons]; exact ih l (JO.unok h)
theorem cl_doneS {L : List Oper} {sp : List Sp} {ls : Nat → Bool} {a : Act} {w : World} (Fok : opsOk n L = true) (h : Cl n L sp env W ls a w) (js : List Nat) (M : List Oper) (hM : opsOk n M = true) (hall : ∀ j ∈ js, j < sp.length ∧ ls j = true)
    (tail : ∀ W1, Ext W W1 → WithD L sp W1 js env fun E => JO P n L.toArray M K fin E W1) : wpL P L.toArray (Done P fin K) M a w := by
  obtain ⟨W1, vals, hw, he, hv⟩ := h.ex
  have h1 := WithD.use vals js (fun j hj => (hv j (hall j hj).1 (hall j hj).2).1) (tail W1 he)
  rw [← hw]
  refine h1 hM a ⟨h.defers, h.size, fun t v ht => ?_⟩
  rw [look_append] at ht
  have key : ∀ js' : List Nat, (∀ j ∈ js', j ∈ js) → ∀ u, look (js'.map fun j => (dstD L j, vals j)) t = some u → a.tmps.getD t undef = u := by
    intro js'
    induction js' with
    | nil => intro _ u hu; simp [look] at hu
    | cons j js' ih =>
      intro hj u hu
      simp only [List.map_cons] at hu
      rw [look_cons] at hu
      have hj1 := hall j (hj j (List.mem_cons_self ..))
      by_cases hts : t = dstD L j
      · rw [if_pos hts] at hu
        injection hu with hu
        rw [hts, (hv j hj1.1 hj1.2).2.2, hu]
      · rw [if_neg hts] at hu
        exact ih (fun x hx => hj x (List.mem_cons_of_mem _ hx)) u hu
  cases hl : look ((js.reverse.map fun j => (dstD L j, vals j))) t with
  | some u =>
    rw [hl] at ht
    injection ht with ht
    rw [← ht]
    exact key _ (fun j hj => List.mem_reverse.1 hj) u hl
  | none =>
    rw [hl] at ht
    exact h.env t v ht
theorem cnt_but {k m lt : Nat} {p : Nat → Bool} (h1 : ∀ j, j < k → j ≠ lt → p j = false) (hl : p lt = true) (h2 : ∀ j, k ≤ j → p j = true) (hlk : lt < k) (hkm : k ≤ m) : (List.range m).countP p = m - k + 1 := by
  have key : ∀ m, (List.range m).countP p = (if lt < m then 1 else 0) + (m - k) := by
    intro m
    induction m with
    | zero => simp
    | succ m ih =>
      rw [List.range_succ, List.countP_append, ih]
      have e : p m = if m < k then decide (m = lt) else true := by
        by_cases h : m < k
        · rw [if_pos h]
          by_cases hm : m = lt
          · subst hm; simp [hl]
          · simp [hm, h1 m h hm]
        · rw [if_neg h]; exact h2 m (by omega)
      simp only [List.countP_cons, List.countP_nil, e]
      by_cases h : m < k
      · rw [if_pos h]
        by_cases hm : m = lt
        · subst hm; simp; omega
        · have : (lt < m + 1) ↔ (lt < m) := by omega
          simp only [hm, this, decide_false]
          simp; omega
      · rw [if_neg h]
        have h3 : lt < m := by omega
        have h4 : lt < m + 1 := by omega
        simp [h3, h4]; omega
  rw [key m, if_pos (by omega)]; omega
/-- The closed facts: the first k operations in whatever order; operation lt may also come behind operation k. -/
def cloudOkL (n : Nat) (env : Env) (L : List Oper) (k lt : Nat) : Bool :=
  opsOk n L && (List.range L.length).all (fun i => (depsAt L i).all (fun j => Nat.blt j i)) &&
  (List.range k).all (fun i => match dstAt L i with
    | some d => !inE env d && (List.range i).all (fun j => match dstAt L j with | some e => !(Nat.beq d e) | none => false)
    | none => false) &&
  (List.range L.length).all (fun i => Nat.ble i k || (depsAt L i).contains (i - 1)) && (Nat.ble L.length k || (List.range k).all (fun j => Nat.beq j lt || (cloudOk.ancs L (L.length) k).contains j)) &&
  (Nat.blt lt k && (Nat.ble L.length (k + 1) || (depsAt L (k + 1)).contains lt)) && (opsOk n (pickL L (k :: lt :: List.range' (k + 1) (L.length - k - 1))) && inL L (k :: lt :: List.range' (k + 1) (L.length - k - 1)))
structure CloudL (n : Nat) (env : Env) (L : List Oper) (k lt : Nat) : Prop where
  ok : opsOk n L = true
  low : ∀ i, i < L.length → ∀ j ∈ depsAt L i, j < i
  dst : ∀ i, i < k → ∃ d, dstAt L i = some d ∧ look env d = none ∧ ∀ j, j < i → ∃ e, dstAt L j = some e ∧ d ≠ e
  tail : ∀ m, k < m → m < L.length → m - 1 ∈ depsAt L m
  anc : k < L.length → ∀ j, j < k → j ≠ lt → j ∈ cloudOk.ancs L L.length k
  lk : lt < k
  l1 : k + 1 < L.length → lt ∈ depsAt L (k + 1)
  ok2 : opsOk n (pickL L (k :: lt :: List.range' (k + 1) (L.length - k - 1))) = true
  in2 : inL L (k :: lt :: List.range' (k + 1) (L.length - k - 1)) = true
theorem cloudL {n : Nat} {env : Env} {L : List Oper} {k lt : Nat} (h : cloudOkL n env L k lt = true) : CloudL n env L k lt := by
  simp only [cloudOkL, Bool.and_eq_true] at h
  obtain ⟨⟨⟨⟨⟨⟨h1, h2⟩, h3⟩, h4⟩, h5⟩, h6, h7⟩, h8, h9⟩ := h
  refine ⟨h1, fun i hi j hj => ?_, fun i hi => ?_, fun m hm hm2 => ?_, fun hk j hj hjl => ?_, by simpa using h6, fun hk => ?_, h8, h9⟩
  · have := List.all_eq_true.1 h2 i (List.mem_range.2 hi)
    have := List.all_eq_true.1 this j hj
    simpa using this
  · have := List.all_eq_true.1 h3 i (List.mem_range.2 hi)
    split at this
    · rename_i d hd
      rw [Bool.and_eq_true] at this
      obtain ⟨g1, g2⟩ := this
      refine ⟨d, hd, ?_, fun j hj => ?_⟩
      · cases hl : look env d with
        | none => rfl
        | some v => simp [inE, hl] at g1
      · have := List.all_eq_true.1 g2 j (List.mem_range.2 hj)
        split at this
        · rename_i e he
          refine ⟨e, he, ?_⟩
          intro h; subst h; simp at this
        · cases this
    · cases this
  · have := List.all_eq_true.1 h4 m (List.mem_range.2 hm2)
    rw [Bool.or_eq_true] at this
    rcases this with h | h
    · have := Nat.le_of_ble_eq_true h; omega
    · simpa using h
  · rw [Bool.or_eq_true] at h5
    rcases h5 with h | h
    · have := Nat.le_of_ble_eq_true h; omega
    · have := List.all_eq_true.1 h j (List.mem_range.2 hj)
      rw [Bool.or_eq_true] at this
      rcases this with h | h
      · exact absurd (Nat.eq_of_beq_eq_true h) hjl
      · simpa using h
  · rw [Bool.or_eq_true] at h7
    rcases h7 with h | h
    · have := Nat.le_of_ble_eq_true h; omega
    · simpa using h
theorem draw_coreL {lt : Nat} {L : List Oper} {sp : List Sp} (F : CloudL n env L sp.length lt) (hk : sp.length ≤ L.length) (cloud : CloudH P n L K fin sp env W 0 L sp)
    (tail : ∀ W1, Ext W W1 → WithD L sp W1 (List.range sp.length) env fun E => JO P n L.toArray (L.drop sp.length) K fin E W1)
    (tailB : ∀ W1, Ext W W1 → WithD L sp W1 ((List.range sp.length).filter (fun j => !Nat.beq j lt)) env fun E => JO P n L.toArray (pickL L (sp.length :: lt :: List.range' (sp.length + 1) (L.length - sp.length - 1))) K fin E W1) (f : Nat) :
    ∀ (t : Nat) (ls : Array Bool) (a : Act) (w : World), ls.size = L.length → (∀ i, sp.length ≤ i → ls.getD i false = false) →
      (∀ i, i < L.length → ls.getD i false = true → ∀ j ∈ depsAt L i, ls.getD j false = true) →
      (List.range L.length).countP (fun i => !ls.getD i false) = f → Cl n L sp env W (fun i => ls.getD i false) a w →
      wpOps P L.toArray (Done P fin K) (Region.linearise.go .any L.toArray f t ls []) a w := by
  induction f with
  | zero =>
    intro t ls a w hs hb hcl hcnt hC
    have hall : ∀ j, j < L.length → ls.getD j false = true := by
      intro j hj
      have := List.countP_eq_zero.1 hcnt j (List.mem_range.2 hj)
      simpa using this
    have hkk : L.length = sp.length := by
      by_cases h : L.length ≤ sp.length
      · omega
      · have := hall sp.length (by omega)
        rw [hb sp.length (Nat.le_refl _)] at this; cases this
    have h1 := cl_doneS F.ok hC (List.range sp.length) (L.drop sp.length) (opsOk_drop _ _ F.ok) (fun j hj => ⟨List.mem_range.1 hj, hall j (by have := List.mem_range.1 hj; omega)⟩) tail
    rw [List.drop_eq_nil_of_le (by omega)] at h1
    simpa [Region.linearise.go, wpOps, wpL] using h1
  | succ f ih =>
    intro t ls a w hs hb hcl hcnt hC
    by_cases hall : ∀ j, j < sp.length → ls.getD j false = true
    · have hcount : L.length - sp.length = f + 1 := by
        rw [← hcnt]
        exact (cnt_range sp.length L.length (fun i => !ls.getD i false) (fun j hj => by simp [hall j hj]) (fun j hj => by simp [hb j hj])).symm
      rw [go_tail F.low (f + 1) sp.length t ls hs (by omega) hall hb F.tail]
      have h1 := wpOps_of (P := P) (ops := L.toArray) (Q := Done P fin K) (L.drop sp.length) sp.length a w (by simp) (cl_doneS F.ok hC (List.range sp.length) (L.drop sp.length) (opsOk_drop _ _ F.ok) (fun j hj => ⟨List.mem_range.1 hj, hall j (List.mem_range.1 hj)⟩) tail)
      rw [List.length_drop, hcount] at h1
      exact h1
    · have hex : ∃ j, j < sp.length ∧ ls.getD j false = false := by
        apply Classical.byContradiction
        intro hn
        apply hall
        intro j hj
        cases hv : ls.getD j false with
        | true => rfl
        | false => exact absurd ⟨j, hj, hv⟩ hn
      obtain ⟨j0, ⟨hj0, hj1⟩, hmin⟩ := exists_min _ hex
      have hready : j0 ∈ rdy L ls := by
        rw [rdy_mem hs]
        have hlt : j0 < L.length := by omega
        refine ⟨L[j0], List.getElem?_eq_getElem hlt, hj1, fun j hj => ?_⟩
        have hjl := F.low j0 hlt j (by rw [depsAt_eq L j0 _ (List.getElem?_eq_getElem hlt)]; exact hj)
        cases hv : ls.getD j false with
        | true => rfl
        | false => have := hmin j ⟨by omega, hv⟩; omega
      have hpos : 0 < (rdy L ls).length := List.length_pos_of_mem hready
      have hgo : Region.linearise.go .any L.toArray (f + 1) t ls [] = match (rdy L ls)[t % (rdy L ls).length]? with | some i => Region.linearise.go .any L.toArray f (t / (rdy L ls).length) (ls.setIfInBounds i true) [i] | none => [] := rfl
      have hlt := Nat.mod_lt t hpos
      rw [hgo, List.getElem?_eq_getElem hlt]
      generalize hi : (rdy L ls)[t % (rdy L ls).length] = i
      have him : i ∈ rdy L ls := by rw [← hi]; exact List.getElem_mem hlt
      obtain ⟨o, ho, hli, hdep⟩ := (rdy_mem hs).1 him
      have hil : i < L.length := by
        by_cases h : i < L.length
        · exact h
        · rw [List.getElem?_eq_none (by omega)] at ho; cases ho
      have hdi := depsAt_eq L i o ho
      by_cases hik : i < sp.length
      case neg =>
        have hi0 : i = sp.length := by
          apply Classical.byContradiction
          intro he
          have := hdep (i - 1) (by rw [← hdi]; exact F.tail i (by omega) hil)
          rw [hb (i - 1) (by omega)] at this; cases this
        subst hi0
        have hothers : ∀ j, j < sp.length → j ≠ lt → ls.getD j false = true := fun j hj hjl =>
          ancs_listed (L := L) (p := fun i => ls.getD i false) hcl F.low L.length _ hil (fun j hj => hdep j (by rw [← hdi]; exact hj)) j (F.anc hil j hj hjl)
        have hltf : ls.getD lt false = false := by
          cases hv : ls.getD lt false with
          | false => rfl
          | true => exact absurd (fun j hj => by by_cases h : j = lt; subst h; exact hv; exact hothers j hj h) hall
        have hcount : f + 1 = L.length - sp.length + 1 := by
          rw [← hcnt]
          exact cnt_but (fun j hj hj2 => by simp [hothers j hj hj2]) (by simp [hltf]) (fun j hj => by simp [hb j hj]) F.lk hk
        have hisz : sp.length < ls.size := by omega
        have hset : ∀ (ls : Array Bool) (i : Nat), i < ls.size → ∀ j, (ls.setIfInBounds i true).getD j false = if j = i then true else ls.getD j false := by
          intro ls i hisz j
          by_cases hji : j = i
          · subst hji; simp [Array.getD, hisz]
          · rw [if_neg hji]
            by_cases hjs : j < ls.size
            · simp [Array.getD, hjs, Array.getElem_setIfInBounds, Ne.symm hji]
            · simp [Array.getD, hjs]
        simp only []
        rw [go_acc]
        obtain ⟨g, rfl⟩ : ∃ g, f = g + 1 := ⟨f - 1, by omega⟩
        have hr2 : rdy L (ls.setIfInBounds sp.length true) = [lt] := by
          have hs2 : (ls.setIfInBounds sp.length true).size = L.length := by simpa using hs
          have hmem : ∀ x, x ∈ rdy L (ls.setIfInBounds sp.length true) ↔ x = lt := by
            intro x
            rw [rdy_mem hs2]
            constructor
            · rintro ⟨o', ho', hx, hd⟩
              have hx1 : x < L.length := by
                by_cases h : x < L.length
                · exact h
                · rw [List.getElem?_eq_none (by omega)] at ho'; cases ho'
              rw [hset ls _ hisz] at hx
              apply Classical.byContradiction
              intro hxl
              by_cases hxk : x = sp.length
              · rw [if_pos hxk] at hx; cases hx
              · rw [if_neg hxk] at hx
                by_cases hlt3 : x < sp.length
                · rw [hothers x hlt3 hxl] at hx; cases hx
                · by_cases hx2 : x = sp.length + 1
                  · have := hd lt (by rw [← depsAt_eq L x o' ho', hx2]; exact F.l1 (by omega))
                    rw [hset ls _ hisz, if_neg (by have := F.lk; omega), hltf] at this; cases this
                  · have := hd (x - 1) (by rw [← depsAt_eq L x o' ho']; exact F.tail x (by omega) hx1)
                    rw [hset ls _ hisz, if_neg (by omega), hb (x - 1) (by omega)] at this; cases this
            · rintro rfl
              have hx1 : x < L.length := by have := F.lk; omega
              refine ⟨L[x], List.getElem?_eq_getElem hx1, by rw [hset ls _ hisz, if_neg (by have := F.lk; omega)]; exact hltf, fun j hj => ?_⟩
              have hjx := F.low x hx1 j (by rw [depsAt_eq L x _ (List.getElem?_eq_getElem hx1)]; exact hj)
              rw [hset ls _ hisz]
              split
              · rfl
              · exact hothers j (by have := F.lk; omega) (by omega)
          have hnd : (rdy L (ls.setIfInBounds sp.length true)).Nodup := List.Pairwise.filter _ List.nodup_range
          match hq : rdy L (ls.setIfInBounds sp.length true) with
          | [] => have := (hmem lt).2 rfl; rw [hq] at this; cases this
          | [x] => have := (hmem x).1 (by rw [hq]; exact List.mem_cons_self ..); rw [this]
          | x :: y :: r =>
            have e1 := (hmem x).1 (by rw [hq]; exact List.mem_cons_self ..)
            have e2 := (hmem y).1 (by rw [hq]; simp)
            rw [hq] at hnd
            have := (List.nodup_cons.1 hnd).1
            rw [e1, e2] at this
            simp at this
        have hgo2 : ∀ t2, Region.linearise.go .any L.toArray (g + 1) t2 (ls.setIfInBounds sp.length true) [] = match (rdy L (ls.setIfInBounds sp.length true))[t2 % (rdy L (ls.setIfInBounds sp.length true)).length]? with | some i => Region.linearise.go .any L.toArray g (t2 / (rdy L (ls.setIfInBounds sp.length true)).length) ((ls.setIfInBounds sp.length true).setIfInBounds i true) [i] | none => [] := fun _ => rfl
        rw [hgo2, hr2]
        simp only [List.length_cons, List.length_nil, Nat.zero_add, Nat.mod_one, List.getElem?_cons_zero]
        rw [go_acc]
        have hlsz : lt < (ls.setIfInBounds sp.length true).size := by have := F.lk; simp; omega
        rw [go_tail F.low g (sp.length + 1) _ _ (by simpa using hs) (by omega) (fun j hj => by
            rw [hset _ _ hlsz, hset ls _ hisz]
            split
            · rfl
            · split
              · rfl
              · exact hothers j (by omega) (by assumption)) (fun j hj => by
            rw [hset _ _ hlsz, hset ls _ hisz, if_neg (by have := F.lk; omega), if_neg (by omega)]
            exact hb j (by omega)) (fun m hm hm2 => F.tail m (by omega) hm2)]
        have h1 := cl_doneS F.ok hC ((List.range sp.length).filter (fun j => !Nat.beq j lt)) _ (F.ok2) (fun j hj => by
          obtain ⟨g1, g2⟩ := List.mem_filter.1 hj
          have hjl : j ≠ lt := fun e => by subst e; simp at g2
          exact ⟨List.mem_range.1 g1, hothers j (List.mem_range.1 g1) hjl⟩) tailB
        have h2 := wpOps_pick _ F.in2 _ _ h1
        have e3 : g = L.length - sp.length - 1 := by omega
        rw [e3]
        exact h2
      case pos =>
        simp only []
        rw [go_acc]
        show wpOps P L.toArray (Done P fin K) (i :: _) a w
        have ho' : L.toArray[i]? = some o := by simpa using ho
        simp only [wpOps, ho']
        obtain ⟨W1, vals, hw, he, hv⟩ := hC.ex
        obtain ⟨o2, ho2, hcl2⟩ := cloud.at' (fun j hj => by rw [Nat.zero_add]) hik
        rw [ho] at ho2
        injection ho2 with ho2
        subst ho2
        simp only [Nat.zero_add] at hcl2
        obtain ⟨d, hd, hde, hdd⟩ := F.dst i hik
        have hdn : d < n := by
          have : ∀ (l : List Oper) (i : Nat), opsOk n l = true → dstAt l i = some d → d < n := by
            intro l
            induction l with
            | nil => intro i _ h; simp [dstAt] at h
            | cons x l ih2 =>
              intro i hx h
              cases i with
              | zero =>
                simp only [dstAt] at h
                simp only [opsOk, h] at hx
                split at hx
                · rename_i hb; simpa using hb
                · cases hx
              | succ i => exact ih2 i (JO.unok hx) (by simpa [dstAt] using h)
          exact this L i F.ok hd
        have hdk : ∀ j ∈ depsD o, j < sp.length := fun j hj => by
          have := F.low i hil j (by rw [hdi]; exact hj); omega
        have hJ := WithD.use vals (depsD o) (fun j hj => (hv j (hdk j hj) (hdep j hj)).1) (hcl2 W1 ⟨he.toLeK⟩ he (allEnv a.tmps n))
        generalize hE : ((depsD o).reverse.map fun j => (dstD L j, vals j)) ++ (env ++ allEnv a.tmps n) = E at hJ
        have hRel : Rel n E a := by
          refine ⟨hC.defers, hC.size, fun t v ht => ?_⟩
          rw [← hE, look_append] at ht
          cases hl : look ((depsD o).reverse.map fun j => (dstD L j, vals j)) t with
          | some u =>
            rw [hl] at ht
            injection ht with ht
            rw [← ht]
            have key : ∀ js : List Nat, (∀ j ∈ js, j ∈ depsD o) → look (js.map fun j => (dstD L j, vals j)) t = some u → a.tmps.getD t undef = u := by
              intro js
              induction js with
              | nil => intro _ hu; simp [look] at hu
              | cons j js ih2 =>
                intro hj hu
                simp only [List.map_cons] at hu
                rw [look_cons] at hu
                have hj1 := hj j (List.mem_cons_self ..)
                by_cases hts : t = dstD L j
                · rw [if_pos hts] at hu
                  injection hu with hu
                  rw [hts, (hv j (hdk j hj1) (hdep j hj1)).2.2, hu]
                · rw [if_neg hts] at hu
                  exact ih2 (fun x hx => hj x (List.mem_cons_of_mem _ hx)) hu
            exact key _ (fun j hj => List.mem_reverse.1 hj) hl
          | none =>
            rw [hl] at ht
            simp only [look_append] at ht
            cases hl2 : look env t with
            | some u =>
              rw [hl2] at ht
              injection ht with ht
              rw [← ht]
              exact hC.env t u hl2
            | none =>
              rw [hl2] at ht
              simp only [look_allEnv] at ht
              split at ht
              · injection ht
              · cases ht
        have hfull : ∀ t, t < n → ∃ u, look E t = some u := by
          intro t htn
          rw [← hE, look_append, look_append, look_allEnv, if_pos htn]
          split
          · exact ⟨_, rfl⟩
          · split
            · exact ⟨_, rfl⟩
            · exact ⟨_, rfl⟩
        have hoks : opsOk n [o] = true := by
          have hod : o.dst = some d := by
            have := dstAt_eq L i
            rw [hd, ho] at this
            simpa using this.symm
          simp only [opsOk, hod]
          have : Nat.blt d n = true := by simpa using hdn
          rw [this]
        have hrun := hJ hoks a hRel
        rw [hw] at hrun
        -- what the operation leaves serves the rest
        have hnext : ∀ a' w', DStop n E W1 (dstD L i) (spD sp i) a' w' → wpOps P L.toArray (Done P fin K) (Region.linearise.go .any L.toArray f (t / (rdy L ls).length) (ls.setIfInBounds i true) []) a' w' := by
          rintro a' w' ⟨W2, v, hw2, he2, hr2, hok2, hm2⟩
          rw [dstD_of hd] at hr2
          have hsame : ∀ t, t ≠ d → a'.tmps.getD t undef = a.tmps.getD t undef := by
            intro t htd
            by_cases htn : t < n
            · obtain ⟨u, hu⟩ := hfull t htn
              rw [hRel.has t u hu]
              exact hr2.has t u (by rw [look_cons, if_neg htd]; exact hu)
            · have h1 : ¬ t < a.tmps.size := by rw [hC.size]; exact htn
              have h2 : ¬ t < a'.tmps.size := by rw [hr2.size]; exact htn
              simp [Array.getD, h1, h2]
          have hisz : i < ls.size := by omega
          have hset : ∀ j, (ls.setIfInBounds i true).getD j false = if j = i then true else ls.getD j false := by
            intro j
            by_cases hji : j = i
            · subst hji; simp [Array.getD, hisz]
            · rw [if_neg hji]
              by_cases hjs : j < ls.size
              · simp [Array.getD, hjs, Array.getElem_setIfInBounds, Ne.symm hji]
              · simp [Array.getD, hjs]
          refine ih _ _ a' w' (by simpa using hs) (fun j hj => by rw [hset, if_neg (by omega)]; exact hb j hj) (fun x hx hlx j hj => ?_) ?_ ⟨⟨W2, fun j => if j = i then v else vals j, hw2, he.trans he2, fun j hj hlj => ?_⟩, hr2.defers, hr2.size, fun t u ht => ?_⟩
          · rw [hset] at hlx ⊢
            by_cases hji : j = i
            · rw [if_pos hji]
            · rw [if_neg hji]
              by_cases hxi : x = i
              · subst hxi
                exact hdep j (by rw [← hdi]; exact hj)
              · rw [if_neg hxi] at hlx
                exact hcl x hx hlx j hj
          · have hlt2 : (List.range L.length).countP (fun j => !(ls.setIfInBounds i true).getD j false) < (List.range L.length).countP (fun j => !ls.getD j false) :=
              countP_lt (List.mem_range.2 hil) (by simp [hli]) (by simp [hset]) (fun j hj => by
                rw [hset] at hj
                by_cases hji : j = i
                · rw [if_pos hji] at hj; cases hj
                · rw [if_neg hji] at hj; exact hj)
            have hge : (List.range L.length).countP (fun j => !ls.getD j false) ≤ (List.range L.length).countP (fun j => !(ls.setIfInBounds i true).getD j false) + 1 := by
              have : ∀ l : List Nat, l.Nodup → l.countP (fun j => !ls.getD j false) ≤ l.countP (fun j => !(ls.setIfInBounds i true).getD j false) + (if i ∈ l then 1 else 0) := by
                intro l
                induction l with
                | nil => intro _; simp
                | cons x l ih2 =>
                  intro hnd
                  have hnd2 := List.nodup_cons.1 hnd
                  have := ih2 hnd2.2
                  rw [List.countP_cons, List.countP_cons]
                  by_cases hxi : x = i
                  · subst hxi
                    rw [if_neg hnd2.1] at this
                    have e1 : (!ls.getD x false) = true := by rw [hli]; rfl
                    have e2 : (!(ls.setIfInBounds x true).getD x false) = false := by rw [hset, if_pos rfl]; rfl
                    rw [e1, e2, if_pos rfl, if_neg (by simp), if_pos (List.mem_cons_self ..)]
                    omega
                  · have e : (!(ls.setIfInBounds i true).getD x false) = !ls.getD x false := by rw [hset, if_neg hxi]
                    rw [e]
                    have hm : (i ∈ x :: l) ↔ i ∈ l := by simp [Ne.symm hxi]
                    by_cases hil2 : i ∈ l
                    · rw [if_pos (hm.2 hil2)]; rw [if_pos hil2] at this; omega
                    · rw [if_neg (fun h => hil2 (hm.1 h))]; rw [if_neg hil2] at this; omega
              have := this (List.range L.length) List.nodup_range
              rw [if_pos (List.mem_range.2 hil)] at this
              exact this
            omega
          · by_cases hji : j = i
            · subst hji
              refine ⟨by simpa using hok2, hm2, ?_⟩
              rw [dstD_of hd]
              simpa using hr2.has d v (by rw [look_cons, if_pos rfl])
            · simp only [hset, if_neg hji] at hlj
              obtain ⟨g1, g2, g3⟩ := hv j hj hlj
              refine ⟨by simpa [hji] using Sp.up g2 he2 g1, g2, ?_⟩
              have hne : dstD L j ≠ d := by
                obtain ⟨dj, hdj, _, hjj⟩ := F.dst j hj
                rw [dstD_of hdj]
                by_cases hlt3 : j < i
                · obtain ⟨e, hee, hne⟩ := hdd j hlt3
                  rw [hdj] at hee; injection hee with hee; rw [hee]; exact fun h => hne h.symm
                · obtain ⟨e, hee, hne⟩ := hjj i (by omega)
                  rw [hd] at hee; injection hee with hee; rw [hee]; exact hne
              rw [hsame _ hne, g3]
              simp [hji]
          · have htd : t ≠ d := by
              intro h; subst h; rw [hde] at ht; cases ht
            rw [hsame t htd]
            exact hC.env t u ht
        simp only [wpL] at hrun
        split
        · rename_i hwant
          rw [if_pos hwant] at hrun
          exact .inl (Oper.wp_mono2 (fun a' w' h => hnext a' w' h) (fun e a' w' hne h => by cases e <;> first | exact absurd rfl hne | exact h) hrun)
        · rename_i hwant
          rw [if_neg hwant] at hrun
          exact hnext _ _ hrun
theorem J.drawL [mx : Mx P] {id : Nat} {L : List Oper} (sp : List Sp) (lt : Nat) (hchk : cloudOkL n env L sp.length lt = true) (hk : Nat.ble sp.length L.length = true) (cloud : CloudH P n L K fin sp env W 0 L sp)
    (tail : ∀ W1, Lk1 W W1 → Ext W W1 → WithD L sp W1 (List.range sp.length) env fun E => JO P n L.toArray (L.drop sp.length) K fin E W1)
    (tailB : ∀ W1, Lk1 W W1 → Ext W W1 → WithD L sp W1 ((List.range sp.length).filter (fun j => !Nat.beq j lt)) env fun E => JO P n L.toArray (pickL L (sp.length :: lt :: List.range' (sp.length + 1) (L.length - sp.length - 1))) K fin E W1) : J P n (.c (.region id L.toArray true) :: K) fin env W := by
  intro a ha
  refine wp_region_draw fun t => ?_
  have hs : Region.schedule (P.follows .mixedOrders) L.toArray t = Region.linearise.go .any L.toArray L.length t (Array.replicate L.length false) [] := by
    rw [mx.h]
    simp [Region.schedule, Region.linearise]
  rw [hs]
  have hf : ∀ i, (Array.replicate L.length false).getD i false = false := by
    intro i
    by_cases h : i < L.length <;> simp [Array.getD, h]
  refine draw_coreL (cloudL hchk) (Nat.le_of_ble_eq_true hk) cloud (fun W1 e => tail W1 ⟨e.toLeK⟩ e) (fun W1 e => tailB W1 ⟨e.toLeK⟩ e) L.length t _ a W.tick.w (by simp) (fun i _ => hf i) (fun i _ h => by rw [hf] at h; cases h) ?_
    ⟨⟨W.tick, fun _ => undef, rfl, tick_ext W, fun i _ h => by rw [hf] at h; cases h⟩, ha.defers, ha.size, ha.has⟩
  have := cnt_range 0 L.length (fun i => !(Array.replicate L.length false).getD i false) (fun j hj => by omega) (fun j _ => by rw [hf]; rfl)
  rw [this]; rfl
end
end
end
section
section
section
variable {P : Program} {n : Nat} {ops : Array Oper} {l : List Oper} {K : List Kt} {fin : Exit → Act → World → Prop} {env : Env} {W : GW}
variable {d : Nat} {ty : TypeId} {pos : String} {aft : Array Edge}
theorem Cnt.lt {W : GW} {b : Nat} {cs : List Value} (h : Cnt W b cs) : b < W.size := by
  obtain ⟨T, hb⟩ := h
  exact lt_of_heap hb
/-- What a last write to variable b leaves to the others. -/
structure StF (b : Nat) (W W' : GW) : Prop where
  loc : ∀ {b2 sz : Nat}, Loc W b2 sz → b2 ≠ b → Loc W' b2 sz
  cnt : ∀ {b2 : Nat} {cs : List Value}, Cnt W b2 cs → b2 ≠ b → Cnt W' b2 cs
theorem O.stPF {T sz b : Nat} {ag : Bool} {z : List Value} {x y : Operand} {v : Value} [i : TVar P T sz ag z] (hx : get env x = some (.pointer (some ⟨b, 0, none⟩))) (hy : get env y = some v)
    (hl : Loc W b sz) (hs : v.cells.toList.length = sz) (h1 : ∀ u ∈ v.cells.toList, oneC u = true)
    (k : ∀ W', Le1 W W' → Blk W' b v.cells.toList → StF b W W' → JO P n ops l K fin env W') : JO P n ops (⟨none, .store T x y, ty, pos, aft, none⟩ :: l) K fin env W := by
  have hlm := hl.m
  refine O.stX hx hy hl hs h1 fun W1 i1 hc hf hz => ?_
  have hm : W1.m ≤ b := by rw [i1.s.m]; exact hlm
  obtain ⟨U, hb⟩ := hc
  refine k (W1.pubB b) ⟨i1.s.toLeS.trans (pubB_le W1 b hm)⟩ ⟨by simp [GW.pubB], U, (0, 0), hb⟩ ⟨fun {b2 sz} h hne => ?_, fun {b2 cs} h hne => h.only hf hne⟩
  obtain ⟨hA, hm2, cs, hc2, hl2⟩ := h
  refine ⟨List.mem_filter.2 ⟨i1.s.keep b2 hA, by simpa using hne⟩, by show W1.m ≤ b2; rw [i1.s.m]; exact hm2, cs, hc2.only hf hne, hl2⟩
/-- a parameter's variable that is written later -/
theorem O.boxE {T : TypeId} {x : Operand} {v : Value} (hx : get env x = some v)
    (k : ∀ W' b, Lk1 W W' → Ext W W' → Loc W' b v.cells.toList.length → Cnt W' b v.cells.toList → W.size ≤ b → JO P n ops l K fin ((d, .pointer (some ⟨b, 0, none⟩)) :: env) W') : JO P n ops (⟨some d, .box T x, ty, pos, aft, none⟩ :: l) K fin env W := by
  have hc : Cnt (W.push (.cells v.cells T) true) W.size v.cells.toList := ⟨T, push_cells ..⟩
  refine JO.world (W' := W.push (.cells v.cells T) true) (v := .pointer (some ⟨W.size, 0, none⟩)) (fun a ha => ?_)
    (k _ _ ⟨(push_ext ..).toLeK⟩ (push_ext ..) ⟨List.mem_cons_self .., W.hm, _, hc, rfl⟩ hc (Nat.le_refl _))
  simp only [execOp, ha.get hx]
  rfl
end
/-! ## data in variables, whatever their shape -/
theorem D.eq {P : Program} {n : Nat} {ops : Array Oper} {K : List Kt} {fin : Exit → Act → World → Prop} {E : Env} {W W1 : GW} {d : Nat} {v v' : Value} (e : Ext W1 W) (h : v = v') : JO P n ops [] (.l (DStop n E W1 d (.ex v')) :: K) fin ((d, v) :: E) W :=
  JO.nil fun a ha => ⟨W, v, rfl, e, ha, h, trivial⟩
theorem Loc.lt {W : GW} {b sz : Nat} (h : Loc W b sz) : b < W.size := by
  obtain ⟨cs, ⟨T, hb⟩, _⟩ := h.h
  exact lt_of_heap hb
/-- The values of a representation are single cells or structs. -/
class Shp {α : Type} (r : Rep α) : Prop where
  h : r.agg = true ∨ (r.agg = false ∧ r.size = 1)
instance {α β : Type} {r : Rep α} {s : Rep β} : Shp (RP r s) := ⟨.inl rfl⟩
theorem oneC_cells {v : Value} (h : oneC v = true) : v.cells.toList = [v] := by
  cases v <;> first | rfl | cases h
theorem V.cs {α : Type} {r : Rep α} [i : Shp r] {W : GW} {v : Value} {x : α} (h : V r W v x) : ∃ cs, r.At W cs x ∧ v.cells.toList = cs ∧ v = mkv r.agg cs := by
  obtain ⟨cs, hc, hv⟩ := h
  refine ⟨cs, hc, ?_, hv⟩
  subst hv
  rcases i.h with ha | ⟨ha, hs⟩
  · rw [ha]; rfl
  · rw [ha]
    have := r.len hc
    rw [hs] at this
    match cs, this with
    | [u], _ => exact oneC_cells (r.one hc u (List.mem_cons_self ..))
/-- At offset off of block b lies the datum x. -/
def Has {α : Type} (r : Rep α) (W : GW) (b off : Nat) (x : α) : Prop := ∃ cs, r.At W cs x ∧ ∀ i v, cs[i]? = some v → W.w.cell? ⟨b, off + i, none⟩ = some v
theorem Has.f {α β : Type} {r : Rep α} {s : Rep β} {W : GW} {b off : Nat} {x : α} {y : β} (h : Has (RP r s) W b off (x, y)) : Has r W b off x := by
  obtain ⟨cs, ⟨c, d, hcs, h1, h2⟩, hv⟩ := h
  refine ⟨c, h1, fun i v hi => hv i v ?_⟩
  rw [hcs]
  obtain ⟨hlt, _⟩ := List.getElem?_eq_some_iff.1 hi
  rw [List.getElem?_append_left hlt]
  exact hi
theorem Has.s {α β : Type} {r : Rep α} {s : Rep β} {W : GW} {b off : Nat} {x : α} {y : β} (h : Has (RP r s) W b off (x, y)) : Has s W b (off + r.size) y := by
  obtain ⟨cs, ⟨c, d, hcs, h1, h2⟩, hv⟩ := h
  refine ⟨d, h2, fun i v hi => ?_⟩
  have := hv (c.length + i) v (by rw [hcs, List.getElem?_append_right (by omega)]; simpa using hi)
  rw [r.len h1] at this
  rw [show off + r.size + i = off + (r.size + i) from by omega]
  exact this
/-- .. and nobody writes there any more. -/
structure Pt {α : Type} (r : Rep α) (W : GW) (b off : Nat) (x : α) : Prop where
  nA : b ∉ W.A
  lt : b < W.size
  h : Has r W b off x
theorem Pt.mono {α : Type} {r : Rep α} {W W' : GW} {b off : Nat} {x : α} (h : Pt r W b off x) (l : LeF W W') : Pt r W' b off x := by
  obtain ⟨hA, hl, cs, hc, hv⟩ := h
  refine ⟨l.stay b hl hA, Nat.lt_of_lt_of_le hl l.size, cs, r.mono l hc, fun i v hi => ?_⟩
  rw [cell_of_heap (l.same b hl hA)]
  exact hv i v hi
theorem Pt.to {α : Type} {r : Rep α} {W W' : GW} {b off : Nat} {x : α} (h : Pt r W b off x) [l : Lf W W'] : Pt r W' b off x := h.mono l.s
/-- Variable b holds x just now. -/
def Pc {α : Type} (r : Rep α) (W : GW) (b : Nat) (x : α) : Prop := ∃ cs, r.At W cs x ∧ Cnt W b cs
theorem Pc.h {α : Type} {r : Rep α} {W : GW} {b : Nat} {x : α} (h : Pc r W b x) : Has r W b 0 x := by
  obtain ⟨cs, hc, hb⟩ := h
  exact ⟨cs, hc, fun i v hi => by rw [hb.cell, Nat.zero_add]; exact hi⟩
theorem Pc.ext {α : Type} {r : Rep α} {W W' : GW} {b : Nat} {x : α} (h : Pc r W b x) (e : Ext W W') : Pc r W' b x := by
  obtain ⟨cs, hc, hb⟩ := h
  exact ⟨cs, r.mono e.toLeS.f hc, hb.ext e⟩
theorem Pc.stf {α : Type} {r : Rep α} {W W' : GW} {b b2 : Nat} {x : α} (h : Pc r W b2 x) (f : StF b W W') (hne : b2 ≠ b) [l : Lf W W'] : Pc r W' b2 x := by
  obtain ⟨cs, hc, hb⟩ := h
  exact ⟨cs, r.mono l.s hc, f.cnt hb hne⟩
theorem Blk.pt {α : Type} {r : Rep α} {W : GW} {b : Nat} {cs : List Value} {x : α} (h : Blk W b cs) (hc : r.At W cs x) : Pt r W b 0 x := by
  obtain ⟨T, fr, hb⟩ := h.h
  exact ⟨h.nA, lt_of_heap hb, cs, hc, fun i v hi => by rw [h.cell, Nat.zero_add]; exact hi⟩
section
variable {P : Program} {n : Nat} {ops : Array Oper} {l : List Oper} {K : List Kt} {fin : Exit → Act → World → Prop} {env : Env} {W : GW}
variable {d : Nat} {ty : TypeId} {pos : String} {aft : Array Edge}
theorem O.boxT {α : Type} {r : Rep α} [sh : Shp r] {T : TypeId} {x : Operand} {v : Value} {a : α} (hx : get env x = some v) (h : V r W v a)
    (k : ∀ W' b, Lk1 W W' → Pt r W' b 0 a → JO P n ops l K fin ((d, .pointer (some ⟨b, 0, none⟩)) :: env) W') : JO P n ops (⟨some d, .box T x, ty, pos, aft, none⟩ :: l) K fin env W := by
  refine O.box hx fun W' b i hb => k W' b i ?_
  obtain ⟨cs, hc, hv, _⟩ := (h.mono i.s.toLeS.f).cs
  rw [hv] at hb
  exact hb.pt hc
/-- a parameter's variable that is written later -/
theorem O.boxC {α : Type} {r : Rep α} [sh : Shp r] {T : TypeId} {x : Operand} {v : Value} {a : α} (hx : get env x = some v) (h : V r W v a)
    (k : ∀ W' b, Lk1 W W' → Ext W W' → Loc W' b r.size → Pc r W' b a → W.size ≤ b → JO P n ops l K fin ((d, .pointer (some ⟨b, 0, none⟩)) :: env) W') : JO P n ops (⟨some d, .box T x, ty, pos, aft, none⟩ :: l) K fin env W := by
  obtain ⟨cs, hc, hv, _⟩ := h.cs
  refine O.boxE hx fun W' b i e hl hk hz => k W' b i e ?_ ?_ hz
  · rw [hv, r.len hc] at hl; exact hl
  · rw [hv] at hk; exact ⟨cs, r.mono i.s.toLeS.f hc, hk⟩
/-- the only write to a variable -/
theorem O.stT {α : Type} {r : Rep α} [sh : Shp r] {T sz b : Nat} {ag : Bool} {z : List Value} {x y : Operand} {v : Value} {a : α} [i : TVar P T sz ag z] (hx : get env x = some (.pointer (some ⟨b, 0, none⟩))) (hy : get env y = some v)
    (hl : Loc W b sz) (h : V r W v a) (hs : r.size = sz)
    (k : ∀ W', Le1 W W' → Pt r W' b 0 a → StF b W W' → JO P n ops l K fin env W') : JO P n ops (⟨none, .store T x y, ty, pos, aft, none⟩ :: l) K fin env W := by
  obtain ⟨cs, hc, hv, _⟩ := h.cs
  refine O.stPF hx hy hl (by rw [hv, r.len hc, hs]) (by rw [hv]; exact r.one hc) fun W' i' hb hf => k W' i' ?_ hf
  rw [hv] at hb
  exact hb.pt (r.mono i'.s.f hc)
/-- a write to a variable that is written again -/
theorem O.stM {α : Type} {r : Rep α} [sh : Shp r] {T sz b : Nat} {ag : Bool} {z : List Value} {x y : Operand} {v : Value} {a : α} [i : TVar P T sz ag z] (hx : get env x = some (.pointer (some ⟨b, 0, none⟩))) (hy : get env y = some v)
    (hl : Loc W b sz) (h : V r W v a) (hs : r.size = sz)
    (k : ∀ W', Lk1 W W' → Pc r W' b a → StF b W W' → JO P n ops l K fin env W') : JO P n ops (⟨none, .store T x y, ty, pos, aft, none⟩ :: l) K fin env W := by
  obtain ⟨cs, hc, hv, _⟩ := h.cs
  refine O.stX hx hy hl (by rw [hv, r.len hc, hs]) (by rw [hv]; exact r.one hc) fun W' i' hb hf _ => k W' i' ?_ ⟨fun h _ => h.mono i'.s, fun h hne => h.only hf hne⟩
  rw [hv] at hb
  exact ⟨cs, r.mono i'.s.toLeS.f hc, hb⟩
theorem O.ldT {α : Type} {r : Rep α} {T sz : Nat} {ag : Bool} {z : List Value} {x : Operand} {b off : Nat} {u : α} [i : TVar P T sz ag z] (hx : get env x = some (.pointer (some ⟨b, off, none⟩)))
    (h : Has r W b off u) (hr : r.size = sz) (hg : r.agg = ag) (h1 : ag = false → sz = 1)
    (k : ∀ v, V r W v u → JO P n ops l K fin ((d, v) :: env) W) : JO P n ops (⟨some d, .load T x, ty, pos, aft, none⟩ :: l) K fin env W := O.ldP hx h hr hg h1 k
theorem O.ldTb {T : TypeId} {z : List Value} {x : Operand} {b off : Nat} {u : Bool} [i : TVar P T 1 false z] (hx : get env x = some (.pointer (some ⟨b, off, none⟩))) (h : Has RB W b off u)
    (k : JO P n ops l K fin ((d, .bool u) :: env) W) : JO P n ops (⟨some d, .load T x, ty, pos, aft, none⟩ :: l) K fin env W := by
  obtain ⟨cs, hc, hv⟩ := h
  cases hc
  exact O.ldC hx (hv 0 _ rfl) k
theorem O.ldTs {α : Type} {r : Rep α} {T : TypeId} {z : List Value} {x : Operand} {b off : Nat} {xs : List α} [i : TVar P T 1 false z] (hx : get env x = some (.pointer (some ⟨b, off, none⟩))) (h : Has (RSl r) W b off xs)
    (k : ∀ p m c, Sl r W p m c xs → JO P n ops l K fin ((d, .slice p m c) :: env) W) : JO P n ops (⟨some d, .load T x, ty, pos, aft, none⟩ :: l) K fin env W := by
  obtain ⟨cs, ⟨p, m, c, rfl, hs⟩, hv⟩ := h
  exact O.ldC hx (hv 0 _ rfl) (k p m c hs)
/-- the same where the order is open -/
theorem O.ldTD {α : Type} {r : Rep α} {T sz : Nat} {ag : Bool} {z : List Value} {x : Operand} {b off : Nat} {u : α} [i : TVar P T sz ag z] (hx : get env x = some (.pointer (some ⟨b, off, none⟩)))
    (h : Has r W b off u) (hr : r.size = sz) (hg : r.agg = ag) (h1 : ag = false → sz = 1) : JO P n ops [⟨some d, .load T x, ty, pos, aft, none⟩] (.l (DStop n env W d (.rel fun W v => V r W v u)) :: K) fin env W :=
  O.ldT hx h hr hg h1 fun v hv => D.rel (R := fun W v => V r W v u) (Ext.refl _) hv V.me
theorem O.bldT {α β : Type} {r : Rep α} {s : Rep β} [Shp r] [Shp s] {T n0 n1 : Nat} {x0 x1 : Operand} {v0 v1 : Value} {a : α} {c : β} [i : TBld P T n0 n1] (hx : get env x0 = some v0) (hy : get env x1 = some v1)
    (h0 : V r W v0 a) (h1 : V s W v1 c) (s0 : r.size = n0) (s1 : s.size = n1)
    (k : ∀ v, V (RP r s) W v (a, c) → JO P n ops l K fin ((d, v) :: env) W) : JO P n ops (⟨some d, .build T #[(0, x0), (1, x1)], ty, pos, aft, none⟩ :: l) K fin env W := by
  obtain ⟨c0, hc0, hv0, _⟩ := h0.cs
  obtain ⟨c1, hc1, hv1, _⟩ := h1.cs
  refine O.bld hx hy (by rw [← s0, ← r.len hc0, ← hv0]; simp) (by rw [← s1, ← s.len hc1, ← hv1]; simp) (k _ ⟨c0 ++ c1, ⟨c0, c1, rfl, hc0, hc1⟩, by rw [hv0, hv1]; rfl⟩)
/-! what a function returns -/
def ResG (P : Program) (n : Nat) (env : Env) (W : GW) (rv : ResultVar) (v : Value) : Prop := ∀ a : Act, Rel n env a → (resOne a.tmps rv).run P W.w = .ok v W.w
theorem ResG.tmp {t : Nat} {v : Value} (h : look env t = some v) : ResG P n env W (.tmp t) v := fun _ ha => resAt_run ha (.tmp h)
theorem ResG.pt {α : Type} {r : Rep α} {t T sz b : Nat} {z : List Value} {x : α} [i : TVar P T sz true z] (h : look env t = some (.pointer (some ⟨b, 0, none⟩))) (hp : Has r W b 0 x) (hr : r.size = sz) (hg : r.agg = true) :
    ∃ v, ResG P n env W (.cell t T) v ∧ V r W v x := by
  obtain ⟨cs, hc, hv⟩ := hp
  refine ⟨.agg cs.toArray, fun a ha => ?_, cs, hc, by rw [hg]; rfl⟩
  have hs : cs.length = sz := by rw [r.len hc, hr]
  simp only [resOne, ha.has _ _ h, asAddr]
  rw [Sem.run_bind]
  show Result.andThen (Result.ok _ _) _ = _
  simp only [Result.andThen_ok]
  obtain ⟨t', u1, u2⟩ := i.u
  obtain ⟨ii, v, e1, e2, e3⟩ := i.i
  have hcells := run_loadCells (P := P) (b := b) (off := 0) (w := W.w) cs 0 #[] (fun j v hj => by simpa using hv j v hj)
  have hsz : (sizeOf T).run P W.w = .ok sz W.w := by simp [sizeOf, typeInfo, program, bind, Sem.bind, Sem.run, pure, e1, e2]
  have hag : (isAgg T).run P W.w = .ok true W.w := by
    cases t' <;> simp [isAgg, underlying, program, bind, Sem.bind, Sem.run, pure, u1] at u2 ⊢
  unfold loadVar
  rw [Sem.run_bind, hag]
  subst hs
  simp only [Result.andThen_ok, if_true]
  rw [Sem.run_bind, hsz]
  simp only [Result.andThen_ok]
  rw [Sem.run_bind]
  simp only [loadCells]
  rw [hcells]
  simp
theorem resultsG1 {fn : Func} {r1 : ResultVar} {v1 : Value} {a : Act} (ha : Rel n env a) (hres : fn.results = #[r1]) (h1 : ResG P n env W r1 v1) : (results fn a.tmps).run P W.w = .ok v1 W.w := by
  have e1 := h1 a ha
  unfold results
  rw [hres, Sem.run_bind]
  simp only [List.mapM_toArray, List.mapM_cons, List.mapM_nil]
  rw [Sem.run_map, Sem.run_bind]
  erw [e1]
  simp
theorem resultsG2 {fn : Func} {r1 r2 : ResultVar} {v1 v2 : Value} {a : Act} (ha : Rel n env a) (hres : fn.results = #[r1, r2]) (h1 : ResG P n env W r1 v1) (h2 : ResG P n env W r2 v2) :
    (results fn a.tmps).run P W.w = .ok (.tuple #[v1, v2]) W.w := by
  have e1 := h1 a ha
  have e2 := h2 a ha
  unfold results
  rw [hres, Sem.run_bind]
  simp only [List.mapM_toArray, List.mapM_cons, List.mapM_nil]
  rw [Sem.run_map, Sem.run_bind]
  erw [e1]
  simp only [Result.andThen_ok]
  rw [Sem.run_bind, Sem.run_bind]
  erw [e2]
  simp
theorem resultsG3 {fn : Func} {r1 r2 r3 : ResultVar} {v1 v2 v3 : Value} {a : Act} (ha : Rel n env a) (hres : fn.results = #[r1, r2, r3]) (h1 : ResG P n env W r1 v1) (h2 : ResG P n env W r2 v2) (h3 : ResG P n env W r3 v3) :
    (results fn a.tmps).run P W.w = .ok (.tuple #[v1, v2, v3]) W.w := by
  have e1 := h1 a ha
  have e2 := h2 a ha
  have e3 := h3 a ha
  unfold results
  rw [hres, Sem.run_bind]
  simp only [List.mapM_toArray, List.mapM_cons, List.mapM_nil]
  rw [Sem.run_map, Sem.run_bind]
  erw [e1]
  simp only [Result.andThen_ok]
  rw [Sem.run_bind, Sem.run_bind]
  erw [e2]
  simp only [Result.andThen_ok]
  rw [Sem.run_bind, Sem.run_bind]
  erw [e3]
  simp
/-- one result, a variable -/
theorem J.retT {α : Type} {r : Rep α} {fn : Func} {W0 W1 : GW} {R : GW → Value → Prop} {t T sz b : Nat} {z : List Value} {x : α} [i : En W0 W1] [j : Le W1 W] [iv : TVar P T sz true z] (hres : fn.results = #[.cell t T])
    (hl : look env t = some (.pointer (some ⟨b, 0, none⟩))) (hp : Has r W b 0 x) (hr : r.size = sz) (hg : r.agg = true)
    (h : ∀ W' v, Ex W W' → Pub W W' → V r W v x → R W' v) : J P n (.c .ret :: K) (Fin P fn W0 R) env W := by
  obtain ⟨v, hv, hV⟩ := ResG.pt (i := iv) (n := n) hl hp hr hg
  exact J.ret fun a ha => ret_p i j ha (resultsG1 ha hres hv) fun W' e p => h W' v e p hV
/-- a variable and a value -/
theorem J.retTv {α : Type} {r : Rep α} {fn : Func} {W0 W1 : GW} {R : GW → Value → Prop} {t t2 T sz b : Nat} {v2 : Value} {z : List Value} {x : α} [i : En W0 W1] [j : Le W1 W] [iv : TVar P T sz true z] (hres : fn.results = #[.cell t T, .tmp t2])
    (hl : look env t = some (.pointer (some ⟨b, 0, none⟩))) (hp : Has r W b 0 x) (hr : r.size = sz) (hg : r.agg = true) (h2 : look env t2 = some v2)
    (h : ∀ W' v, Ex W W' → Pub W W' → V r W v x → R W' (.tuple #[v, v2])) : J P n (.c .ret :: K) (Fin P fn W0 R) env W := by
  obtain ⟨v, hv, hV⟩ := ResG.pt (i := iv) (n := n) hl hp hr hg
  exact J.ret fun a ha => ret_p i j ha (resultsG2 ha hres hv (ResG.tmp h2)) fun W' e p => h W' v e p hV
/-- two variables and a value -/
theorem J.retTTv {α β : Type} {r : Rep α} {s : Rep β} {fn : Func} {W0 W1 : GW} {R : GW → Value → Prop} {t t2 t3 T T2 sz sz2 b b2 : Nat} {v3 : Value} {z z2 : List Value} {x : α} {y : β} [i : En W0 W1] [j : Le W1 W] [iv : TVar P T sz true z] [iw : TVar P T2 sz2 true z2] (hres : fn.results = #[.cell t T, .cell t2 T2, .tmp t3])
    (hl : look env t = some (.pointer (some ⟨b, 0, none⟩))) (hp : Has r W b 0 x) (hr : r.size = sz) (hg : r.agg = true)
    (hl2 : look env t2 = some (.pointer (some ⟨b2, 0, none⟩))) (hp2 : Has s W b2 0 y) (hr2 : s.size = sz2) (hg2 : s.agg = true) (h3 : look env t3 = some v3)
    (h : ∀ W' v w, Ex W W' → Pub W W' → V r W v x → V s W w y → R W' (.tuple #[v, w, v3])) : J P n (.c .ret :: K) (Fin P fn W0 R) env W := by
  obtain ⟨v, hv, hV⟩ := ResG.pt (i := iv) (n := n) hl hp hr hg
  obtain ⟨w, hw, hW⟩ := ResG.pt (i := iw) (n := n) hl2 hp2 hr2 hg2
  exact J.ret fun a ha => ret_p i j ha (resultsG3 ha hres hv hw (ResG.tmp h3)) fun W' e p => h W' v w e p hV hW
/-! ## elements of slices -/
theorem Sl.placeP {α : Type} {r : Rep α} {p : Option Addr} {m c j : Nat} {xs : List α} {u : α} (hs : Sl r W p m c xs) (hj : xs[j]? = some u) :
    ∃ b off, p = some ⟨b, off, none⟩ ∧ j < m ∧ Pt r W b (off + j * r.size) u := by
  rcases hs.at' with h | ⟨b, off, hp, hb, hA, hx⟩
  · subst h; simp at hj
  · obtain ⟨cs, hc, hv⟩ := hx j u hj
    exact ⟨b, off, hp, hs.lt hj, hA, hb, cs, hc, fun i v hi => by rw [Nat.add_assoc]; exact hv i v hi⟩
theorem Sl.placeQ {α : Type} {r : Rep α} {b off m c j : Nat} {xs : List α} {u : α} (hs : Sl r W (some ⟨b, off, none⟩) m c xs) (hj : xs[j]? = some u) : j < m ∧ Pt r W b (off + j * r.size) u := by
  obtain ⟨b', off', hp, h1, h2⟩ := hs.placeP hj
  injection hp with hp
  injection hp with e1 e2 _
  subst e1; subst e2
  exact ⟨h1, h2⟩
theorem O.iaT {α : Type} {r : Rep α} {T E sz by' : Nat} {z : List Value} {x y : Operand} {p : Option Addr} {m c j : Nat} {k' : IntKind} {jj : Int} {xs : List α} {u : α} [i : TSl P T E sz by' z]
    (hx : get env x = some (.slice p m c)) (hy : get env y = some (.int k' jj)) (hjj : jj = (j : Int)) (hs : Sl r W p m c xs) (hj : xs[j]? = some u) (hr : r.size = sz)
    (k : ∀ b off, Pt r W b off u → JO P n ops l K fin ((d, .pointer (some ⟨b, off, none⟩)) :: env) W) :
    JO P n ops (⟨some d, .indexAddr T x y, ty, pos, aft, none⟩ :: l) K fin env W := by
  obtain ⟨b, off, hp, hj', hP⟩ := hs.placeP hj
  subst hp
  rw [hr] at hP
  exact O.ia hx hy hjj hj' (k _ _ hP)
theorem O.bs1D {α : Type} {r : Rep α} {T E sz by' : Nat} {z : List Value} {y : Operand} {v : Value} {u : α} [i : TSl P T E sz by' z] (hy : get env y = some v) (hv : V r W v u) (hr : r.size = sz) (hz : z.length = sz) (hz0 : 0 < sz) (hg : r.agg = true ∨ r.size = 1) (hL2 : 1 * sz ≤ 16777216) :
    JO P n ops [⟨some d, .buildSlice T 1 #[(0, y)], ty, pos, aft, none⟩] (.l (DStop n env W d (.rel fun W v => V (RSl r) W v [u])) :: K) fin env W :=
  O.bs (r := r) (ps := [(0, y)]) (vs := [v]) [u] (by simp [getIdx, hy]) ⟨hv, trivial⟩ rfl hr hz hz0 hg hL2 fun W1 p1 i1 e1 s1 => D.rel (R := fun W v => V (RSl r) W v [u]) e1 s1.v V.me
end
/-- The operation is done, and its value is a new variable. -/
def DStopN (n : Nat) (E : Env) (W1 : GW) (d : Nat) (s : Sp) (a : Act) (w : World) : Prop :=
  ∃ W2 v, W2.w = w ∧ Ext W1 W2 ∧ Rel n ((d, v) :: E) a ∧ s.ok W2 v ∧ s.mono ∧ ∃ b, v = .pointer (some ⟨b, 0, none⟩) ∧ W1.size ≤ b ∧ b < W2.size
def DStopF (f : Bool) (n : Nat) (E : Env) (W1 : GW) (d : Nat) (s : Sp) : Act → World → Prop := match f with
  | false => DStop n E W1 d s
  | true => DStopN n E W1 d s
theorem DStopF.get {f : Bool} {n : Nat} {E : Env} {W1 : GW} {d : Nat} {s : Sp} {a : Act} {w : World} (h : DStopF f n E W1 d s a w) :
    ∃ W2 v, W2.w = w ∧ Ext W1 W2 ∧ Rel n ((d, v) :: E) a ∧ s.ok W2 v ∧ s.mono ∧ (f = true → ∃ b, v = .pointer (some ⟨b, 0, none⟩) ∧ W1.size ≤ b ∧ b < W2.size) := by
  cases f with
  | false => obtain ⟨W2, v, h1, h2, h3, h4, h5⟩ := h; exact ⟨W2, v, h1, h2, h3, h4, h5, fun h => by cases h⟩
  | true => obtain ⟨W2, v, h1, h2, h3, h4, h5, h6⟩ := h; exact ⟨W2, v, h1, h2, h3, h4, h5, fun _ => h6⟩
def flD (fl : List Bool) (i : Nat) : Bool := match fl, i with
  | [], _ => false
  | f :: _, 0 => f
  | _ :: l, i + 1 => flD l i
def NeAll (x : Value) : List Value → Prop
  | [] => True
  | y :: l => x ≠ y ∧ NeAll x l
theorem NeAll.mk {x : Value} : ∀ {l : List Value}, (∀ y ∈ l, x ≠ y) → NeAll x l
  | [], _ => trivial
  | y :: l, h => ⟨h y (List.mem_cons_self ..), NeAll.mk fun z hz => h z (List.mem_cons_of_mem _ hz)⟩
/-- For all values that are as said, the new variables apart from each other. -/
def WithN (l : List Oper) (sp : List Sp) (fl : List Bool) (W : GW) : List Nat → List Value → Env → (Env → Prop) → Prop
  | [], _, acc, φ => φ acc
  | j :: js, pv, acc, φ => match spD sp j with
    | .ex v => WithN l sp fl W js (match flD fl j with | true => v :: pv | false => pv) ((dstD l j, v) :: acc) φ
    | .rel R => match flD fl j with
      | true => ∀ x, R W x → NeAll x pv → WithN l sp fl W js (x :: pv) ((dstD l j, x) :: acc) φ
      | false => ∀ x, R W x → WithN l sp fl W js pv ((dstD l j, x) :: acc) φ
theorem WithN.use {l : List Oper} {sp : List Sp} {fl : List Bool} {W : GW} (vals : Nat → Value) (js : List Nat) (hv : ∀ j ∈ js, (spD sp j).ok W (vals j)) (hd : ∀ i j, i ∈ js → j ∈ js → flD fl i = true → flD fl j = true → i ≠ j → vals i ≠ vals j) (hn : js.Nodup) :
    ∀ {pv : List Value} {acc : Env} {φ : Env → Prop}, (∀ j ∈ js, flD fl j = true → ∀ y ∈ pv, vals j ≠ y) → WithN l sp fl W js pv acc φ → φ ((js.reverse.map fun j => (dstD l j, vals j)) ++ acc) := by
  induction js with
  | nil => intro pv acc φ _ h; exact h
  | cons j js ih =>
    intro pv acc φ hp h
    have hj := hv j (List.mem_cons_self ..)
    have ht := fun k hk => hv k (List.mem_cons_of_mem _ hk)
    have hdt := fun i k hi hk => hd i k (List.mem_cons_of_mem _ hi) (List.mem_cons_of_mem _ hk)
    obtain ⟨hn1, hn2⟩ := List.nodup_cons.1 hn
    have hpt : ∀ (f : Bool), flD fl j = f → ∀ k ∈ js, flD fl k = true → ∀ y ∈ (match f with | true => vals j :: pv | false => pv), vals k ≠ y := by
      intro f hf k hk hkf y hy
      have hold := hp k (List.mem_cons_of_mem _ hk) hkf
      cases f with
      | false => exact hold y hy
      | true =>
        rcases List.mem_cons.1 hy with rfl | hy
        · exact hd k j (List.mem_cons_of_mem _ hk) (List.mem_cons_self ..) hkf hf (fun e => hn1 (e ▸ hk))
        · exact hold y hy
    simp only [WithN] at h
    cases hs : spD sp j with
    | ex v =>
      rw [hs] at h hj
      have hj' : vals j = v := hj
      subst hj'
      cases hf : flD fl j with
      | false =>
        rw [hf] at h
        have := ih ht hdt hn2 (hpt false hf) h
        simpa using this
      | true =>
        rw [hf] at h
        have := ih ht hdt hn2 (hpt true hf) h
        simpa using this
    | rel R =>
      rw [hs] at h hj
      cases hf : flD fl j with
      | false =>
        rw [hf] at h
        have := ih ht hdt hn2 (hpt false hf) (h (vals j) hj)
        simpa using this
      | true =>
        rw [hf] at h
        have := ih ht hdt hn2 (hpt true hf) (h (vals j) hj (NeAll.mk (hp j (List.mem_cons_self ..) hf)))
        simpa using this
def CloudHN (P : Program) (n : Nat) (L : List Oper) (K : List Kt) (fin : Exit → Act → World → Prop) (sp : List Sp) (env : Env) (W : GW) : Nat → List Oper → List Sp → List Bool → Prop
  | _, _, [], _ => True
  | _, [], _ :: _, _ => False
  | _, _, _ :: _, [] => False
  | i, o :: l, s :: ss, f :: fs => (∀ W1, Lk1 W W1 → Ext W W1 → ∀ tl : Env, WithD L sp W1 (depsD o) (env ++ tl) fun E => JO P n L.toArray [o] (.l (DStopF f n E W1 (dstD L i) s) :: K) fin E W1) ∧ CloudHN P n L K fin sp env W (i + 1) l ss fs
structure ClN (n : Nat) (L : List Oper) (sp : List Sp) (fl : List Bool) (env : Env) (W : GW) (ls : Nat → Bool) (a : Act) (w : World) : Prop where
  ex : ∃ (W1 : GW) (vals : Nat → Value), W1.w = w ∧ Ext W W1 ∧ (∀ i, i < sp.length → ls i = true → (spD sp i).ok W1 (vals i) ∧ (spD sp i).mono ∧ a.tmps.getD (dstD L i) undef = vals i) ∧
    (∀ i, i < sp.length → ls i = true → flD fl i = true → ∃ b, vals i = .pointer (some ⟨b, 0, none⟩) ∧ b < W1.size) ∧ (∀ i j, i < sp.length → j < sp.length → ls i = true → ls j = true → flD fl i = true → flD fl j = true → i ≠ j → vals i ≠ vals j)
  defers : a.defers = []
  size : a.tmps.size = n
  env : ∀ t v, look env t = some v → a.tmps.getD t undef = v
section
variable {P : Program} {n : Nat} {K : List Kt} {fin : Exit → Act → World → Prop} {env : Env} {W : GW}
theorem CloudHN.at' {L : List Oper} {sp : List Sp} {fl : List Bool} {i0 : Nat} {l : List Oper} {ss : List Sp} {fs : List Bool} (h : CloudHN P n L K fin sp env W i0 l ss fs) (hsp : ∀ j, j < ss.length → spD sp (i0 + j) = spD ss j) (hfl : ∀ j, j < ss.length → flD fl (i0 + j) = flD fs j) {i : Nat} (hi : i < ss.length) :
    ∃ o, l[i]? = some o ∧ ∀ W1, Lk1 W W1 → Ext W W1 → ∀ tl : Env, WithD L sp W1 (depsD o) (env ++ tl) fun E => JO P n L.toArray [o] (.l (DStopF (flD fl (i0 + i)) n E W1 (dstD L (i0 + i)) (spD sp (i0 + i))) :: K) fin E W1 := by
  induction ss generalizing i0 l i fs with
  | nil => simp at hi
  | cons s ss ih =>
    cases l with
    | nil => exact h.elim
    | cons o l =>
      cases fs with
      | nil => exact h.elim
      | cons f fs =>
      obtain ⟨h1, h2⟩ := h
      cases i with
      | zero =>
        have := hsp 0 (by simp)
        simp only [spD, Nat.add_zero] at this
        have hf := hfl 0 (by simp)
        simp only [flD, Nat.add_zero] at hf
        refine ⟨o, rfl, ?_⟩
        rw [Nat.add_zero, this, hf]
        exact h1
      | succ i =>
        have := ih h2 (fun j hj => by
          have := hsp (j + 1) (by simpa using hj)
          simp only [spD] at this
          rw [← this]; congr 1; omega) (fun j hj => by
          have := hfl (j + 1) (by simpa using hj)
          simp only [flD] at this
          rw [← this]; congr 1; omega) (by simpa using hi)
        obtain ⟨o', ho', h'⟩ := this
        refine ⟨o', by simpa using ho', ?_⟩
        rw [show i0 + (i + 1) = i0 + 1 + i from by omega]
        exact h'
/-- all of the cloud is done -/
theorem cl_doneN {rk : List Nat} {L : List Oper} {sp : List Sp} {fl : List Bool} {ls : Nat → Bool} {a : Act} {w : World} (F : CloudG n env L rk sp.length) (h : ClN n L sp fl env W ls a w) (hall : ∀ j, j < sp.length → ls j = true)
    (tail : ∀ W1, Ext W W1 → WithN L sp fl W1 (List.range sp.length) [] env fun E => JO P n L.toArray (L.drop sp.length) K fin E W1) : wpL P L.toArray (Done P fin K) (L.drop sp.length) a w := by
  obtain ⟨W1, vals, hw, he, hv, hp, hq⟩ := h.ex
  have h1 := WithN.use vals (List.range sp.length) (fun j hj => (hv j (List.mem_range.1 hj) (hall j (List.mem_range.1 hj))).1) (fun i j hi hj hfi hfj hne => hq i j (List.mem_range.1 hi) (List.mem_range.1 hj) (hall i (List.mem_range.1 hi)) (hall j (List.mem_range.1 hj)) hfi hfj hne) List.nodup_range (fun _ _ _ y hy => by cases hy) (tail W1 he)
  have hok : opsOk n (L.drop sp.length) = true := by
    have : ∀ (k : Nat) (l : List Oper), opsOk n l = true → opsOk n (l.drop k) = true := by
      intro k
      induction k with
      | zero => intro l h; simpa using h
      | succ k ih => intro l h; cases l with
        | nil => simpa using h
        | cons o l => simp only [List.drop_succ_cons]; exact ih l (JO.unok h)
    exact this _ _ F.ok
  rw [← hw]
  refine h1 hok a ⟨h.defers, h.size, fun t v ht => ?_⟩
  rw [look_append] at ht
  have key : ∀ js : List Nat, (∀ j ∈ js, j < sp.length) → ∀ u, look (js.map fun j => (dstD L j, vals j)) t = some u → a.tmps.getD t undef = u := by
    intro js
    induction js with
    | nil => intro _ u hu; simp [look] at hu
    | cons j js ih =>
      intro hj u hu
      simp only [List.map_cons] at hu
      rw [look_cons] at hu
      have hj1 := hj j (List.mem_cons_self ..)
      by_cases hts : t = dstD L j
      · rw [if_pos hts] at hu
        injection hu with hu
        rw [hts, (hv j hj1 (hall j hj1)).2.2, hu]
      · rw [if_neg hts] at hu
        exact ih (fun x hx => hj x (List.mem_cons_of_mem _ hx)) u hu
  cases hl : look (((List.range sp.length).reverse.map fun j => (dstD L j, vals j))) t with
  | some u =>
    rw [hl] at ht
    injection ht with ht
    rw [← ht]
    exact key _ (fun j hj => List.mem_range.1 (List.mem_reverse.1 hj)) u hl
  | none =>
    rw [hl] at ht
    exact h.env t v ht
theorem draw_coreN {rk : List Nat} {L : List Oper} {sp : List Sp} {fl : List Bool} (F : CloudG n env L rk sp.length) (hk : sp.length ≤ L.length) (cloud : CloudHN P n L K fin sp env W 0 L sp fl)
    (tail : ∀ W1, Ext W W1 → WithN L sp fl W1 (List.range sp.length) [] env fun E => JO P n L.toArray (L.drop sp.length) K fin E W1) (f : Nat) :
    ∀ (t : Nat) (ls : Array Bool) (a : Act) (w : World), ls.size = L.length → (∀ i, sp.length ≤ i → ls.getD i false = false) →
      (∀ i, i < L.length → ls.getD i false = true → ∀ j ∈ depsAt L i, ls.getD j false = true) →
      (List.range L.length).countP (fun i => !ls.getD i false) = f → ClN n L sp fl env W (fun i => ls.getD i false) a w →
      wpOps P L.toArray (Done P fin K) (Region.linearise.go .any L.toArray f t ls []) a w := by
  induction f with
  | zero =>
    intro t ls a w hs hb hcl hcnt hC
    have hall : ∀ j, j < L.length → ls.getD j false = true := by
      intro j hj
      have := List.countP_eq_zero.1 hcnt j (List.mem_range.2 hj)
      simpa using this
    have hkk : L.length = sp.length := by
      by_cases h : L.length ≤ sp.length
      · omega
      · have := hall sp.length (by omega)
        rw [hb sp.length (Nat.le_refl _)] at this; cases this
    have h1 := cl_doneN F hC (fun j hj => hall j (by omega)) tail
    rw [List.drop_eq_nil_of_le (by omega)] at h1
    simpa [Region.linearise.go, wpOps, wpL] using h1
  | succ f ih =>
    intro t ls a w hs hb hcl hcnt hC
    by_cases hall : ∀ j, j < sp.length → ls.getD j false = true
    · have hcount : L.length - sp.length = f + 1 := by
        rw [← hcnt]
        exact (cnt_range sp.length L.length (fun i => !ls.getD i false) (fun j hj => by simp [hall j hj]) (fun j hj => by simp [hb j hj])).symm
      rw [go_tailR F.lowT (f + 1) sp.length t ls (Nat.le_refl _) hs (by omega) hall hb F.tail]
      have h1 := wpOps_of (P := P) (ops := L.toArray) (Q := Done P fin K) (L.drop sp.length) sp.length a w (by simp) (cl_doneN F hC hall tail)
      rw [List.length_drop, hcount] at h1
      exact h1
    · have hex : ∃ j, j < sp.length ∧ ls.getD j false = false := by
        apply Classical.byContradiction
        intro hn
        apply hall
        intro j hj
        cases hv : ls.getD j false with
        | true => rfl
        | false => exact absurd ⟨j, hj, hv⟩ hn
      have hex2 : ∃ m, ∃ j, (j < sp.length ∧ ls.getD j false = false) ∧ rk.getD j 0 = m := by
        obtain ⟨j, hj⟩ := hex
        exact ⟨_, j, hj, rfl⟩
      obtain ⟨m0, ⟨j0, ⟨hj0, hj1⟩, hjm⟩, hmin⟩ := exists_min _ hex2
      have hready : j0 ∈ rdy L ls := by
        rw [rdy_mem hs]
        have hlt : j0 < L.length := by omega
        refine ⟨L[j0], List.getElem?_eq_getElem hlt, hj1, fun j hj => ?_⟩
        obtain ⟨hjl, hjr⟩ := F.rank j0 hj0 j (by rw [depsAt_eq L j0 _ (List.getElem?_eq_getElem hlt)]; exact hj)
        cases hv : ls.getD j false with
        | true => rfl
        | false => have := hmin _ ⟨j, ⟨hjl, hv⟩, rfl⟩; omega
      have hpos : 0 < (rdy L ls).length := List.length_pos_of_mem hready
      have hgo : Region.linearise.go .any L.toArray (f + 1) t ls [] = match (rdy L ls)[t % (rdy L ls).length]? with | some i => Region.linearise.go .any L.toArray f (t / (rdy L ls).length) (ls.setIfInBounds i true) [i] | none => [] := rfl
      have hlt := Nat.mod_lt t hpos
      rw [hgo, List.getElem?_eq_getElem hlt]
      generalize hi : (rdy L ls)[t % (rdy L ls).length] = i
      have him : i ∈ rdy L ls := by rw [← hi]; exact List.getElem_mem hlt
      obtain ⟨o, ho, hli, hdep⟩ := (rdy_mem hs).1 him
      have hil : i < L.length := by
        by_cases h : i < L.length
        · exact h
        · rw [List.getElem?_eq_none (by omega)] at ho; cases ho
      have hdi := depsAt_eq L i o ho
      have hik : i < sp.length := by
        apply Classical.byContradiction
        intro hn
        by_cases he : i = sp.length
        · have ha := ancs_listedR (L := L) (p := fun i => ls.getD i false) hcl F.inb L.length i hil (fun j hj => hdep j (by rw [← hdi]; exact hj))
          have := ha j0 (by rw [he]; exact F.anc (by omega) j0 hj0)
          rw [hj1] at this; cases this
        · have := hdep (i - 1) (by rw [← hdi]; exact F.tail i (by omega) hil)
          rw [hb (i - 1) (by omega)] at this; cases this
      simp only []
      rw [go_acc]
      show wpOps P L.toArray (Done P fin K) (i :: _) a w
      have ho' : L.toArray[i]? = some o := by simpa using ho
      simp only [wpOps, ho']
      obtain ⟨W1, vals, hw, he, hv, hp, hq⟩ := hC.ex
      obtain ⟨o2, ho2, hcl2⟩ := cloud.at' (fl := fl) (fun j hj => by rw [Nat.zero_add]) (fun j hj => by rw [Nat.zero_add]) hik
      rw [ho] at ho2
      injection ho2 with ho2
      subst ho2
      simp only [Nat.zero_add] at hcl2
      obtain ⟨d, hd, hde, hdd⟩ := F.dst i hik
      have hdn : d < n := by
        have : ∀ (l : List Oper) (i : Nat), opsOk n l = true → dstAt l i = some d → d < n := by
          intro l
          induction l with
          | nil => intro i _ h; simp [dstAt] at h
          | cons x l ih2 =>
            intro i hx h
            cases i with
            | zero =>
              simp only [dstAt] at h
              simp only [opsOk, h] at hx
              split at hx
              · rename_i hb; simpa using hb
              · cases hx
            | succ i => exact ih2 i (JO.unok hx) (by simpa [dstAt] using h)
        exact this L i F.ok hd
      have hdk : ∀ j ∈ depsD o, j < sp.length := fun j hj => by
        exact (F.rank i hik j (by rw [hdi]; exact hj)).1
      have hJ := WithD.use vals (depsD o) (fun j hj => (hv j (hdk j hj) (hdep j hj)).1) (hcl2 W1 ⟨he.toLeK⟩ he (allEnv a.tmps n))
      generalize hE : ((depsD o).reverse.map fun j => (dstD L j, vals j)) ++ (env ++ allEnv a.tmps n) = E at hJ
      have hRel : Rel n E a := by
        refine ⟨hC.defers, hC.size, fun t v ht => ?_⟩
        rw [← hE, look_append] at ht
        cases hl : look ((depsD o).reverse.map fun j => (dstD L j, vals j)) t with
        | some u =>
          rw [hl] at ht
          injection ht with ht
          rw [← ht]
          have key : ∀ js : List Nat, (∀ j ∈ js, j ∈ depsD o) → look (js.map fun j => (dstD L j, vals j)) t = some u → a.tmps.getD t undef = u := by
            intro js
            induction js with
            | nil => intro _ hu; simp [look] at hu
            | cons j js ih2 =>
              intro hj hu
              simp only [List.map_cons] at hu
              rw [look_cons] at hu
              have hj1 := hj j (List.mem_cons_self ..)
              by_cases hts : t = dstD L j
              · rw [if_pos hts] at hu
                injection hu with hu
                rw [hts, (hv j (hdk j hj1) (hdep j hj1)).2.2, hu]
              · rw [if_neg hts] at hu
                exact ih2 (fun x hx => hj x (List.mem_cons_of_mem _ hx)) hu
          exact key _ (fun j hj => List.mem_reverse.1 hj) hl
        | none =>
          rw [hl] at ht
          simp only [look_append] at ht
          cases hl2 : look env t with
          | some u =>
            rw [hl2] at ht
            injection ht with ht
            rw [← ht]
            exact hC.env t u hl2
          | none =>
            rw [hl2] at ht
            simp only [look_allEnv] at ht
            split at ht
            · injection ht
            · cases ht
      have hfull : ∀ t, t < n → ∃ u, look E t = some u := by
        intro t htn
        rw [← hE, look_append, look_append, look_allEnv, if_pos htn]
        split
        · exact ⟨_, rfl⟩
        · split
          · exact ⟨_, rfl⟩
          · exact ⟨_, rfl⟩
      have hoks : opsOk n [o] = true := by
        have hod : o.dst = some d := by
          have := dstAt_eq L i
          rw [hd, ho] at this
          simpa using this.symm
        simp only [opsOk, hod]
        have : Nat.blt d n = true := by simpa using hdn
        rw [this]
      have hrun := hJ hoks a hRel
      rw [hw] at hrun
      -- what the operation leaves serves the rest
      have hnext : ∀ a' w', DStopF (flD fl i) n E W1 (dstD L i) (spD sp i) a' w' → wpOps P L.toArray (Done P fin K) (Region.linearise.go .any L.toArray f (t / (rdy L ls).length) (ls.setIfInBounds i true) []) a' w' := by
        rintro a' w' hst
        obtain ⟨W2, v, hw2, he2, hr2, hok2, hm2, hnew⟩ := hst.get
        rw [dstD_of hd] at hr2
        have hsame : ∀ t, t ≠ d → a'.tmps.getD t undef = a.tmps.getD t undef := by
          intro t htd
          by_cases htn : t < n
          · obtain ⟨u, hu⟩ := hfull t htn
            rw [hRel.has t u hu]
            exact hr2.has t u (by rw [look_cons, if_neg htd]; exact hu)
          · have h1 : ¬ t < a.tmps.size := by rw [hC.size]; exact htn
            have h2 : ¬ t < a'.tmps.size := by rw [hr2.size]; exact htn
            simp [Array.getD, h1, h2]
        have hisz : i < ls.size := by omega
        have hset : ∀ j, (ls.setIfInBounds i true).getD j false = if j = i then true else ls.getD j false := by
          intro j
          by_cases hji : j = i
          · subst hji; simp [Array.getD, hisz]
          · rw [if_neg hji]
            by_cases hjs : j < ls.size
            · simp [Array.getD, hjs, Array.getElem_setIfInBounds, Ne.symm hji]
            · simp [Array.getD, hjs]
        refine ih _ _ a' w' (by simpa using hs) (fun j hj => by rw [hset, if_neg (by omega)]; exact hb j hj) (fun x hx hlx j hj => ?_) ?_ ⟨⟨W2, fun j => if j = i then v else vals j, hw2, he.trans he2, fun j hj hlj => ?_, fun j hj hlj hfj => ?_, fun x y hx hy hlx hly hfx hfy hxy => ?_⟩, hr2.defers, hr2.size, fun t u ht => ?_⟩
        · rw [hset] at hlx ⊢
          by_cases hji : j = i
          · rw [if_pos hji]
          · rw [if_neg hji]
            by_cases hxi : x = i
            · subst hxi
              exact hdep j (by rw [← hdi]; exact hj)
            · rw [if_neg hxi] at hlx
              exact hcl x hx hlx j hj
        · have hlt2 : (List.range L.length).countP (fun j => !(ls.setIfInBounds i true).getD j false) < (List.range L.length).countP (fun j => !ls.getD j false) :=
            countP_lt (List.mem_range.2 hil) (by simp [hli]) (by simp [hset]) (fun j hj => by
              rw [hset] at hj
              by_cases hji : j = i
              · rw [if_pos hji] at hj; cases hj
              · rw [if_neg hji] at hj; exact hj)
          have hge : (List.range L.length).countP (fun j => !ls.getD j false) ≤ (List.range L.length).countP (fun j => !(ls.setIfInBounds i true).getD j false) + 1 := by
            have : ∀ l : List Nat, l.Nodup → l.countP (fun j => !ls.getD j false) ≤ l.countP (fun j => !(ls.setIfInBounds i true).getD j false) + (if i ∈ l then 1 else 0) := by
              intro l
              induction l with
              | nil => intro _; simp
              | cons x l ih2 =>
                intro hnd
                have hnd2 := List.nodup_cons.1 hnd
                have := ih2 hnd2.2
                rw [List.countP_cons, List.countP_cons]
                by_cases hxi : x = i
                · subst hxi
                  rw [if_neg hnd2.1] at this
                  have e1 : (!ls.getD x false) = true := by rw [hli]; rfl
                  have e2 : (!(ls.setIfInBounds x true).getD x false) = false := by rw [hset, if_pos rfl]; rfl
                  rw [e1, e2, if_pos rfl, if_neg (by simp), if_pos (List.mem_cons_self ..)]
                  omega
                · have e : (!(ls.setIfInBounds i true).getD x false) = !ls.getD x false := by rw [hset, if_neg hxi]
                  rw [e]
                  have hm : (i ∈ x :: l) ↔ i ∈ l := by simp [Ne.symm hxi]
                  by_cases hil2 : i ∈ l
                  · rw [if_pos (hm.2 hil2)]; rw [if_pos hil2] at this; omega
                  · rw [if_neg (fun h => hil2 (hm.1 h))]; rw [if_neg hil2] at this; omega
            have := this (List.range L.length) List.nodup_range
            rw [if_pos (List.mem_range.2 hil)] at this
            exact this
          omega
        · by_cases hji : j = i
          · subst hji
            refine ⟨by simpa using hok2, hm2, ?_⟩
            rw [dstD_of hd]
            simpa using hr2.has d v (by rw [look_cons, if_pos rfl])
          · simp only [hset, if_neg hji] at hlj
            obtain ⟨g1, g2, g3⟩ := hv j hj hlj
            refine ⟨by simpa [hji] using Sp.up g2 he2 g1, g2, ?_⟩
            have hne : dstD L j ≠ d := by
              obtain ⟨dj, hdj, _, hjj⟩ := F.dst j hj
              rw [dstD_of hdj]
              by_cases hlt3 : j < i
              · obtain ⟨e, hee, hne⟩ := hdd j hlt3
                rw [hdj] at hee; injection hee with hee; rw [hee]; exact fun h => hne h.symm
              · obtain ⟨e, hee, hne⟩ := hjj i (by omega)
                rw [hd] at hee; injection hee with hee; rw [hee]; exact hne
            rw [hsame _ hne, g3]
            simp [hji]
        · by_cases hji : j = i
          · subst hji
            obtain ⟨b, hb1, hb2, hb3⟩ := hnew hfj
            exact ⟨b, by simpa using hb1, hb3⟩
          · simp only [hset, if_neg hji] at hlj
            obtain ⟨b, hb1, hb2⟩ := hp j hj hlj hfj
            exact ⟨b, by simpa [hji] using hb1, Nat.lt_of_lt_of_le hb2 he2.size⟩
        · by_cases hxi : x = i
          · subst hxi
            have hyx : y ≠ x := fun e => hxy e.symm
            simp only [hset, if_neg hyx] at hly
            obtain ⟨b, hb1, hb2, hb3⟩ := hnew hfx
            obtain ⟨b', hb1', hb2'⟩ := hp y hy hly hfy
            simp only [if_neg hyx, if_true]
            rw [hb1, hb1']
            intro e
            injection e with e; injection e with e; injection e with e
            omega
          · simp only [hset, if_neg hxi] at hlx
            by_cases hyi : y = i
            · subst hyi
              obtain ⟨b, hb1, hb2, hb3⟩ := hnew hfy
              obtain ⟨b', hb1', hb2'⟩ := hp x hx hlx hfx
              simp only [if_neg hxi, if_true]
              rw [hb1, hb1']
              intro e
              injection e with e; injection e with e; injection e with e
              omega
            · simp only [hset, if_neg hyi] at hly
              simp only [if_neg hxi, if_neg hyi]
              exact hq x y hx hy hlx hly hfx hfy hxy
        · have htd : t ≠ d := by
            intro h; subst h; rw [hde] at ht; cases ht
          rw [hsame t htd]
          exact hC.env t u ht
      simp only [wpL] at hrun
      split
      · rename_i hwant
        rw [if_pos hwant] at hrun
        exact .inl (Oper.wp_mono2 (fun a' w' h => hnext a' w' h) (fun e a' w' hne h => by cases e <;> first | exact absurd rfl hne | exact h) hrun)
      · rename_i hwant
        rw [if_neg hwant] at hrun
        exact hnext _ _ hrun
theorem J.drawN [mx : Mx P] {id : Nat} {L : List Oper} (sp : List Sp) (fl : List Bool) (rk : List Nat) (hchk : cloudOkR n env L rk sp.length = true) (hk : Nat.ble sp.length L.length = true) (cloud : CloudHN P n L K fin sp env W 0 L sp fl)
    (tail : ∀ W1, Lk1 W W1 → Ext W W1 → WithN L sp fl W1 (List.range sp.length) [] env fun E => JO P n L.toArray (L.drop sp.length) K fin E W1) : J P n (.c (.region id L.toArray true) :: K) fin env W := by
  intro a ha
  refine wp_region_draw fun t => ?_
  have hs : Region.schedule (P.follows .mixedOrders) L.toArray t = Region.linearise.go .any L.toArray L.length t (Array.replicate L.length false) [] := by
    rw [mx.h]
    simp [Region.schedule, Region.linearise]
  rw [hs]
  have hf : ∀ i, (Array.replicate L.length false).getD i false = false := by
    intro i
    by_cases h : i < L.length <;> simp [Array.getD, h]
  refine draw_coreN (cloudG (Nat.le_of_ble_eq_true hk) hchk) (Nat.le_of_ble_eq_true hk) cloud (fun W1 e => tail W1 ⟨e.toLeK⟩ e) L.length t _ a W.tick.w (by simp) (fun i _ => hf i) (fun i _ h => by rw [hf] at h; cases h) ?_
    ⟨⟨W.tick, fun _ => undef, rfl, tick_ext W, (fun i _ h => by rw [hf] at h; cases h), (fun i _ h => by rw [hf] at h; cases h), (fun i j _ _ h => by rw [hf] at h; cases h)⟩, ha.defers, ha.size, ha.has⟩
  have := cnt_range 0 L.length (fun i => !(Array.replicate L.length false).getD i false) (fun j hj => by omega) (fun j _ => by rw [hf]; rfl)
  rw [this]; rfl
end
section
variable {P : Program} {n : Nat} {ops : Array Oper} {K : List Kt} {fin : Exit → Act → World → Prop} {env : Env} {W : GW} {d : Nat} {ty : TypeId} {pos : String} {aft : Array Edge}
theorem O.allocN {T sz lo : Nat} {ag : Bool} {z : List Value} [i : TVar P T sz ag z] (hz : z.length = sz) (hlo : lo ≤ W.size) :
    JO P n ops [⟨some d, .alloc T, ty, pos, aft, none⟩] (.l (DStopN n env W d (.rel (PLoc sz lo))) :: K) fin env W :=
  O.allocE fun W5 b5 i5 e5 hl5 hc5 hb5 => JO.nil fun a ha => ⟨W5, _, rfl, e5, ha, ⟨b5, rfl, by rw [← hz]; exact hl5, Nat.le_trans hlo hb5⟩, PLoc.me, b5, rfl, hb5, hc5.lt⟩
end
end
section
section
variable {P : Program} {n : Nat} {ops : Array Oper} {l : List Oper} {K : List Kt} {fin : Exit → Act → World → Prop} {env : Env} {W : GW}
variable {d : Nat} {ty : TypeId} {pos : String} {aft : Array Edge}
end
end
section
def dstsOk : List Oper → List Nat → Bool
  | _, [] => true
  | o :: l, d :: ds => (match o.dst with | some e => Nat.beq e d | none => false) && dstsOk l ds
  | [], _ :: _ => false
def dqOk (ds : List Nat) : List Oper → List (List (Nat × Nat)) → Bool
  | _, [] => true
  | o :: l, q :: qs => decide (depsD o = q.map (·.1)) && q.all (fun p => decide (ds[p.1]? = some p.2)) && dqOk ds l qs
  | [], _ :: _ => false
/-- The closed facts: pr names, for each operation of the cloud, one that waits for it. -/
def cloudOkQ (n : Nat) (L : List Oper) (ds : List Nat) (dq : List (List (Nat × Nat))) (rk pr : List Nat) : Bool :=
  opsOk n L && dstsOk L ds && dqOk ds L dq && Nat.beq dq.length ds.length && decide ds.Nodup &&
  (List.range L.length).all (fun i => (depsAt L i).all (fun j => Nat.blt j L.length && (if Nat.blt i ds.length then Nat.blt j ds.length && Nat.blt (rk.getD j 0) (rk.getD i 0) else Nat.blt j i))) &&
  (List.range L.length).all (fun i => Nat.ble i ds.length || (depsAt L i).contains (i - 1)) &&
  (Nat.ble L.length ds.length || (List.range ds.length).all (fun j => (Nat.beq (pr.getD j 0) ds.length || (Nat.blt (pr.getD j 0) ds.length && Nat.blt (rk.getD j 0) (rk.getD (pr.getD j 0) 0))) && (depsAt L (pr.getD j 0)).contains j))
structure CloudQ (n : Nat) (env : Env) (L : List Oper) (rk : List Nat) (k : Nat) : Prop where
  ok : opsOk n L = true
  inb : ∀ i, i < L.length → ∀ j ∈ depsAt L i, j < L.length
  lowT : ∀ i, k ≤ i → i < L.length → ∀ j ∈ depsAt L i, j < i
  rank : ∀ i, i < k → ∀ j ∈ depsAt L i, j < k ∧ rk.getD j 0 < rk.getD i 0
  dst : ∀ i, i < k → ∃ d, dstAt L i = some d ∧ look env d = none ∧ ∀ j, j < i → ∃ e, dstAt L j = some e ∧ d ≠ e
  tail : ∀ m, k < m → m < L.length → m - 1 ∈ depsAt L m
  anc : k < L.length → ∀ p : Nat → Bool, (∀ i, i < L.length → p i = true → ∀ j ∈ depsAt L i, p j = true) → (∀ j ∈ depsAt L k, p j = true) → ∀ j, j < k → p j = true
theorem dstsOk_get {ds : List Nat} : ∀ {L : List Oper}, dstsOk L ds = true → ∀ j t, ds[j]? = some t → dstAt L j = some t := by
  induction ds with
  | nil => intro L _ j t h; simp at h
  | cons d ds ih =>
    intro L h j t hj
    cases L with
    | nil => simp [dstsOk] at h
    | cons o l =>
      simp only [dstsOk, Bool.and_eq_true] at h
      cases j with
      | zero =>
        simp only [List.getElem?_cons_zero, Option.some.injEq] at hj
        subst hj
        simp only [dstAt]
        cases ho : o.dst with
        | none => rw [ho] at h; simp at h
        | some e => rw [ho] at h; simp at h; rw [h.1]
      | succ j => simp only [dstAt]; exact ih h.2 j t (by simpa using hj)
theorem dstsOk_len {ds : List Nat} : ∀ {L : List Oper}, dstsOk L ds = true → ds.length ≤ L.length := by
  induction ds with
  | nil => intro L _; simp
  | cons d ds ih =>
    intro L h
    cases L with
    | nil => simp [dstsOk] at h
    | cons o l => simp only [dstsOk, Bool.and_eq_true] at h; have := ih h.2; simp; omega
theorem dqOk_get {ds : List Nat} {dq : List (List (Nat × Nat))} : ∀ {L : List Oper}, dqOk ds L dq = true → ∀ (j : Nat) q, dq[j]? = some q → ∃ o, L[j]? = some o ∧ depsD o = q.map (·.1) ∧ ∀ p ∈ q, ds[p.1]? = some p.2 := by
  induction dq with
  | nil => intro L _ j q h; simp at h
  | cons q0 qs ih =>
    intro L h j q hj
    cases L with
    | nil => simp [dqOk] at h
    | cons o l =>
      simp only [dqOk, Bool.and_eq_true] at h
      obtain ⟨⟨h1, h2⟩, h3⟩ := h
      cases j with
      | zero =>
        simp only [List.getElem?_cons_zero, Option.some.injEq] at hj
        subst hj
        exact ⟨o, rfl, by simpa using h1, fun p hp => by simpa using List.all_eq_true.1 h2 p hp⟩
      | succ j => obtain ⟨o', k1, k2⟩ := ih h3 j q (by simpa using hj); exact ⟨o', by simpa using k1, k2⟩
theorem getD_sum (l : List Nat) (j : Nat) : l.getD j 0 ≤ l.sum := by
  induction l generalizing j with
  | nil => simp
  | cons a l ih =>
    cases j with
    | zero => simp
    | succ j => have := ih j; simp at this ⊢; omega
theorem cloudQ {n : Nat} {env : Env} {L : List Oper} {ds : List Nat} {dq : List (List (Nat × Nat))} {rk pr : List Nat} (h : cloudOkQ n L ds dq rk pr = true) (he : (ds.all fun d => !inE env d) = true) : CloudQ n env L rk ds.length := by
  simp only [cloudOkQ, Bool.and_eq_true] at h
  obtain ⟨⟨⟨⟨⟨⟨⟨h1, hds⟩, hdq⟩, hlen⟩, hnd⟩, h2⟩, h4⟩, h5⟩ := h
  generalize hk : ds.length = k at *
  have h2' : ∀ i, i < L.length → ∀ j ∈ depsAt L i, j < L.length ∧ (if i < k then j < k ∧ rk.getD j 0 < rk.getD i 0 else j < i) := by
    intro i hi j hj
    have := List.all_eq_true.1 h2 i (List.mem_range.2 hi)
    have := List.all_eq_true.1 this j hj
    rw [Bool.and_eq_true] at this
    refine ⟨by simpa using this.1, ?_⟩
    have h := this.2
    by_cases hik : i < k
    · have e : Nat.blt i k = true := by simpa using hik
      rw [if_pos hik]
      rw [if_pos e, Bool.and_eq_true] at h
      exact ⟨by simpa using h.1, by simpa using h.2⟩
    · have e : ¬ Nat.blt i k = true := by simpa using hik
      rw [if_neg hik]
      rw [if_neg e] at h
      simpa using h
  have hkl := dstsOk_len hds
  have hnd' : ds.Nodup := by simpa using hnd
  refine ⟨h1, fun i hi j hj => (h2' i hi j hj).1, fun i hk hi j hj => ?_, fun i hi j hj => ?_, fun i hi => ?_, fun m hm hm2 => ?_, fun hkL p hcl hd => ?_⟩
  · have := (h2' i hi j hj).2; rwa [if_neg (by omega)] at this
  · have := (h2' i (by omega) j hj).2; rwa [if_pos hi] at this
  · have hi' : i < ds.length := by omega
    have hgi := dstsOk_get hds i ds[i] (List.getElem?_eq_getElem hi')
    refine ⟨ds[i], hgi, ?_, fun j hj => ?_⟩
    · have := List.all_eq_true.1 he ds[i] (List.getElem_mem hi')
      cases hl : look env ds[i] with
      | none => rfl
      | some v => simp [inE, hl] at this
    · have hj' : j < ds.length := by omega
      refine ⟨ds[j], dstsOk_get hds j ds[j] (List.getElem?_eq_getElem hj'), fun e => ?_⟩
      exact absurd e.symm (by have := List.pairwise_iff_getElem.1 hnd' j i hj' hi' hj; exact this)
  · have := List.all_eq_true.1 h4 m (List.mem_range.2 hm2)
    rw [Bool.or_eq_true] at this
    rcases this with h | h
    · have := Nat.le_of_ble_eq_true h; omega
    · simpa using h
  · rw [Bool.or_eq_true] at h5
    rcases h5 with h | h
    · have := Nat.le_of_ble_eq_true h; omega
    · have key : ∀ m j, j < k → rk.sum < rk.getD j 0 + m → p j = true := by
        intro m
        induction m with
        | zero => intro j _ hh; have := getD_sum rk j; omega
        | succ m ih =>
          intro j hj hh
          have hc := List.all_eq_true.1 h j (List.mem_range.2 hj)
          rw [Bool.and_eq_true, Bool.or_eq_true, Bool.and_eq_true] at hc
          obtain ⟨hc1, hc2⟩ := hc
          have hmem : j ∈ depsAt L (pr.getD j 0) := by simpa using hc2
          rcases hc1 with hc1 | ⟨hc1, hc3⟩
          · have e : pr.getD j 0 = k := by simpa using hc1
            rw [e] at hmem
            exact hd j hmem
          · have e1 : pr.getD j 0 < k := by simpa using hc1
            have e2 : rk.getD j 0 < rk.getD (pr.getD j 0) 0 := by simpa using hc3
            exact hcl _ (by omega) (ih _ e1 (by omega)) j hmem
      intro j hj
      exact key (rk.sum + 1) j hj (by omega)
section
variable {P : Program} {n : Nat} {K : List Kt} {fin : Exit → Act → World → Prop} {env : Env} {W : GW}
/-- all of the cloud is done -/
theorem cl_doneQ {rk : List Nat} {L : List Oper} {sp : List Sp} {fl : List Bool} {ls : Nat → Bool} {a : Act} {w : World} (F : CloudQ n env L rk sp.length) (h : ClN n L sp fl env W ls a w) (hall : ∀ j, j < sp.length → ls j = true)
    (tail : ∀ W1, Ext W W1 → WithN L sp fl W1 (List.range sp.length) [] env fun E => JO P n L.toArray (L.drop sp.length) K fin E W1) : wpL P L.toArray (Done P fin K) (L.drop sp.length) a w := by
  obtain ⟨W1, vals, hw, he, hv, hp, hq⟩ := h.ex
  have h1 := WithN.use vals (List.range sp.length) (fun j hj => (hv j (List.mem_range.1 hj) (hall j (List.mem_range.1 hj))).1) (fun i j hi hj hfi hfj hne => hq i j (List.mem_range.1 hi) (List.mem_range.1 hj) (hall i (List.mem_range.1 hi)) (hall j (List.mem_range.1 hj)) hfi hfj hne) List.nodup_range (fun _ _ _ y hy => by cases hy) (tail W1 he)
  have hok : opsOk n (L.drop sp.length) = true := by
    have : ∀ (k : Nat) (l : List Oper), opsOk n l = true → opsOk n (l.drop k) = true := by
      intro k
      induction k with
      | zero => intro l h; simpa using h
      | succ k ih => intro l h; cases l with
        | nil => simpa using h
        | cons o l => simp only [List.drop_succ_cons]; exact ih l (JO.unok h)
    exact this _ _ F.ok
  rw [← hw]
  refine h1 hok a ⟨h.defers, h.size, fun t v ht => ?_⟩
  rw [look_append] at ht
  have key : ∀ js : List Nat, (∀ j ∈ js, j < sp.length) → ∀ u, look (js.map fun j => (dstD L j, vals j)) t = some u → a.tmps.getD t undef = u := by
    intro js
    induction js with
    | nil => intro _ u hu; simp [look] at hu
    | cons j js ih =>
      intro hj u hu
      simp only [List.map_cons] at hu
      rw [look_cons] at hu
      have hj1 := hj j (List.mem_cons_self ..)
      by_cases hts : t = dstD L j
      · rw [if_pos hts] at hu
        injection hu with hu
        rw [hts, (hv j hj1 (hall j hj1)).2.2, hu]
      · rw [if_neg hts] at hu
        exact ih (fun x hx => hj x (List.mem_cons_of_mem _ hx)) u hu
  cases hl : look (((List.range sp.length).reverse.map fun j => (dstD L j, vals j))) t with
  | some u =>
    rw [hl] at ht
    injection ht with ht
    rw [← ht]
    exact key _ (fun j hj => List.mem_range.1 (List.mem_reverse.1 hj)) u hl
  | none =>
    rw [hl] at ht
    exact h.env t v ht
theorem draw_coreQ {rk : List Nat} {L : List Oper} {sp : List Sp} {fl : List Bool} (F : CloudQ n env L rk sp.length) (hk : sp.length ≤ L.length) (cloud : CloudHN P n L K fin sp env W 0 L sp fl)
    (tail : ∀ W1, Ext W W1 → WithN L sp fl W1 (List.range sp.length) [] env fun E => JO P n L.toArray (L.drop sp.length) K fin E W1) (f : Nat) :
    ∀ (t : Nat) (ls : Array Bool) (a : Act) (w : World), ls.size = L.length → (∀ i, sp.length ≤ i → ls.getD i false = false) →
      (∀ i, i < L.length → ls.getD i false = true → ∀ j ∈ depsAt L i, ls.getD j false = true) →
      (List.range L.length).countP (fun i => !ls.getD i false) = f → ClN n L sp fl env W (fun i => ls.getD i false) a w →
      wpOps P L.toArray (Done P fin K) (Region.linearise.go .any L.toArray f t ls []) a w := by
  induction f with
  | zero =>
    intro t ls a w hs hb hcl hcnt hC
    have hall : ∀ j, j < L.length → ls.getD j false = true := by
      intro j hj
      have := List.countP_eq_zero.1 hcnt j (List.mem_range.2 hj)
      simpa using this
    have hkk : L.length = sp.length := by
      by_cases h : L.length ≤ sp.length
      · omega
      · have := hall sp.length (by omega)
        rw [hb sp.length (Nat.le_refl _)] at this; cases this
    have h1 := cl_doneQ F hC (fun j hj => hall j (by omega)) tail
    rw [List.drop_eq_nil_of_le (by omega)] at h1
    simpa [Region.linearise.go, wpOps, wpL] using h1
  | succ f ih =>
    intro t ls a w hs hb hcl hcnt hC
    by_cases hall : ∀ j, j < sp.length → ls.getD j false = true
    · have hcount : L.length - sp.length = f + 1 := by
        rw [← hcnt]
        exact (cnt_range sp.length L.length (fun i => !ls.getD i false) (fun j hj => by simp [hall j hj]) (fun j hj => by simp [hb j hj])).symm
      rw [go_tailR F.lowT (f + 1) sp.length t ls (Nat.le_refl _) hs (by omega) hall hb F.tail]
      have h1 := wpOps_of (P := P) (ops := L.toArray) (Q := Done P fin K) (L.drop sp.length) sp.length a w (by simp) (cl_doneQ F hC hall tail)
      rw [List.length_drop, hcount] at h1
      exact h1
    · have hex : ∃ j, j < sp.length ∧ ls.getD j false = false := by
        apply Classical.byContradiction
        intro hn
        apply hall
        intro j hj
        cases hv : ls.getD j false with
        | true => rfl
        | false => exact absurd ⟨j, hj, hv⟩ hn
      have hex2 : ∃ m, ∃ j, (j < sp.length ∧ ls.getD j false = false) ∧ rk.getD j 0 = m := by
        obtain ⟨j, hj⟩ := hex
        exact ⟨_, j, hj, rfl⟩
      obtain ⟨m0, ⟨j0, ⟨hj0, hj1⟩, hjm⟩, hmin⟩ := exists_min _ hex2
      have hready : j0 ∈ rdy L ls := by
        rw [rdy_mem hs]
        have hlt : j0 < L.length := by omega
        refine ⟨L[j0], List.getElem?_eq_getElem hlt, hj1, fun j hj => ?_⟩
        obtain ⟨hjl, hjr⟩ := F.rank j0 hj0 j (by rw [depsAt_eq L j0 _ (List.getElem?_eq_getElem hlt)]; exact hj)
        cases hv : ls.getD j false with
        | true => rfl
        | false => have := hmin _ ⟨j, ⟨hjl, hv⟩, rfl⟩; omega
      have hpos : 0 < (rdy L ls).length := List.length_pos_of_mem hready
      have hgo : Region.linearise.go .any L.toArray (f + 1) t ls [] = match (rdy L ls)[t % (rdy L ls).length]? with | some i => Region.linearise.go .any L.toArray f (t / (rdy L ls).length) (ls.setIfInBounds i true) [i] | none => [] := rfl
      have hlt := Nat.mod_lt t hpos
      rw [hgo, List.getElem?_eq_getElem hlt]
      generalize hi : (rdy L ls)[t % (rdy L ls).length] = i
      have him : i ∈ rdy L ls := by rw [← hi]; exact List.getElem_mem hlt
      obtain ⟨o, ho, hli, hdep⟩ := (rdy_mem hs).1 him
      have hil : i < L.length := by
        by_cases h : i < L.length
        · exact h
        · rw [List.getElem?_eq_none (by omega)] at ho; cases ho
      have hdi := depsAt_eq L i o ho
      have hik : i < sp.length := by
        apply Classical.byContradiction
        intro hn
        by_cases he : i = sp.length
        · have := F.anc (by omega) (fun i => ls.getD i false) hcl (fun j hj => hdep j (by rw [← hdi, he]; exact hj)) j0 hj0
          have : ls.getD j0 false = true := this
          rw [hj1] at this; cases this
        · have := hdep (i - 1) (by rw [← hdi]; exact F.tail i (by omega) hil)
          rw [hb (i - 1) (by omega)] at this; cases this
      simp only []
      rw [go_acc]
      show wpOps P L.toArray (Done P fin K) (i :: _) a w
      have ho' : L.toArray[i]? = some o := by simpa using ho
      simp only [wpOps, ho']
      obtain ⟨W1, vals, hw, he, hv, hp, hq⟩ := hC.ex
      obtain ⟨o2, ho2, hcl2⟩ := cloud.at' (fl := fl) (fun j hj => by rw [Nat.zero_add]) (fun j hj => by rw [Nat.zero_add]) hik
      rw [ho] at ho2
      injection ho2 with ho2
      subst ho2
      simp only [Nat.zero_add] at hcl2
      obtain ⟨d, hd, hde, hdd⟩ := F.dst i hik
      have hdn : d < n := by
        have : ∀ (l : List Oper) (i : Nat), opsOk n l = true → dstAt l i = some d → d < n := by
          intro l
          induction l with
          | nil => intro i _ h; simp [dstAt] at h
          | cons x l ih2 =>
            intro i hx h
            cases i with
            | zero =>
              simp only [dstAt] at h
              simp only [opsOk, h] at hx
              split at hx
              · rename_i hb; simpa using hb
              · cases hx
            | succ i => exact ih2 i (JO.unok hx) (by simpa [dstAt] using h)
        exact this L i F.ok hd
      have hdk : ∀ j ∈ depsD o, j < sp.length := fun j hj => by
        exact (F.rank i hik j (by rw [hdi]; exact hj)).1
      have hJ := WithD.use vals (depsD o) (fun j hj => (hv j (hdk j hj) (hdep j hj)).1) (hcl2 W1 ⟨he.toLeK⟩ he (allEnv a.tmps n))
      generalize hE : ((depsD o).reverse.map fun j => (dstD L j, vals j)) ++ (env ++ allEnv a.tmps n) = E at hJ
      have hRel : Rel n E a := by
        refine ⟨hC.defers, hC.size, fun t v ht => ?_⟩
        rw [← hE, look_append] at ht
        cases hl : look ((depsD o).reverse.map fun j => (dstD L j, vals j)) t with
        | some u =>
          rw [hl] at ht
          injection ht with ht
          rw [← ht]
          have key : ∀ js : List Nat, (∀ j ∈ js, j ∈ depsD o) → look (js.map fun j => (dstD L j, vals j)) t = some u → a.tmps.getD t undef = u := by
            intro js
            induction js with
            | nil => intro _ hu; simp [look] at hu
            | cons j js ih2 =>
              intro hj hu
              simp only [List.map_cons] at hu
              rw [look_cons] at hu
              have hj1 := hj j (List.mem_cons_self ..)
              by_cases hts : t = dstD L j
              · rw [if_pos hts] at hu
                injection hu with hu
                rw [hts, (hv j (hdk j hj1) (hdep j hj1)).2.2, hu]
              · rw [if_neg hts] at hu
                exact ih2 (fun x hx => hj x (List.mem_cons_of_mem _ hx)) hu
          exact key _ (fun j hj => List.mem_reverse.1 hj) hl
        | none =>
          rw [hl] at ht
          simp only [look_append] at ht
          cases hl2 : look env t with
          | some u =>
            rw [hl2] at ht
            injection ht with ht
            rw [← ht]
            exact hC.env t u hl2
          | none =>
            rw [hl2] at ht
            simp only [look_allEnv] at ht
            split at ht
            · injection ht
            · cases ht
      have hfull : ∀ t, t < n → ∃ u, look E t = some u := by
        intro t htn
        rw [← hE, look_append, look_append, look_allEnv, if_pos htn]
        split
        · exact ⟨_, rfl⟩
        · split
          · exact ⟨_, rfl⟩
          · exact ⟨_, rfl⟩
      have hoks : opsOk n [o] = true := by
        have hod : o.dst = some d := by
          have := dstAt_eq L i
          rw [hd, ho] at this
          simpa using this.symm
        simp only [opsOk, hod]
        have : Nat.blt d n = true := by simpa using hdn
        rw [this]
      have hrun := hJ hoks a hRel
      rw [hw] at hrun
      -- what the operation leaves serves the rest
      have hnext : ∀ a' w', DStopF (flD fl i) n E W1 (dstD L i) (spD sp i) a' w' → wpOps P L.toArray (Done P fin K) (Region.linearise.go .any L.toArray f (t / (rdy L ls).length) (ls.setIfInBounds i true) []) a' w' := by
        rintro a' w' hst
        obtain ⟨W2, v, hw2, he2, hr2, hok2, hm2, hnew⟩ := hst.get
        rw [dstD_of hd] at hr2
        have hsame : ∀ t, t ≠ d → a'.tmps.getD t undef = a.tmps.getD t undef := by
          intro t htd
          by_cases htn : t < n
          · obtain ⟨u, hu⟩ := hfull t htn
            rw [hRel.has t u hu]
            exact hr2.has t u (by rw [look_cons, if_neg htd]; exact hu)
          · have h1 : ¬ t < a.tmps.size := by rw [hC.size]; exact htn
            have h2 : ¬ t < a'.tmps.size := by rw [hr2.size]; exact htn
            simp [Array.getD, h1, h2]
        have hisz : i < ls.size := by omega
        have hset : ∀ j, (ls.setIfInBounds i true).getD j false = if j = i then true else ls.getD j false := by
          intro j
          by_cases hji : j = i
          · subst hji; simp [Array.getD, hisz]
          · rw [if_neg hji]
            by_cases hjs : j < ls.size
            · simp [Array.getD, hjs, Array.getElem_setIfInBounds, Ne.symm hji]
            · simp [Array.getD, hjs]
        refine ih _ _ a' w' (by simpa using hs) (fun j hj => by rw [hset, if_neg (by omega)]; exact hb j hj) (fun x hx hlx j hj => ?_) ?_ ⟨⟨W2, fun j => if j = i then v else vals j, hw2, he.trans he2, fun j hj hlj => ?_, fun j hj hlj hfj => ?_, fun x y hx hy hlx hly hfx hfy hxy => ?_⟩, hr2.defers, hr2.size, fun t u ht => ?_⟩
        · rw [hset] at hlx ⊢
          by_cases hji : j = i
          · rw [if_pos hji]
          · rw [if_neg hji]
            by_cases hxi : x = i
            · subst hxi
              exact hdep j (by rw [← hdi]; exact hj)
            · rw [if_neg hxi] at hlx
              exact hcl x hx hlx j hj
        · have hlt2 : (List.range L.length).countP (fun j => !(ls.setIfInBounds i true).getD j false) < (List.range L.length).countP (fun j => !ls.getD j false) :=
            countP_lt (List.mem_range.2 hil) (by simp [hli]) (by simp [hset]) (fun j hj => by
              rw [hset] at hj
              by_cases hji : j = i
              · rw [if_pos hji] at hj; cases hj
              · rw [if_neg hji] at hj; exact hj)
          have hge : (List.range L.length).countP (fun j => !ls.getD j false) ≤ (List.range L.length).countP (fun j => !(ls.setIfInBounds i true).getD j false) + 1 := by
            have : ∀ l : List Nat, l.Nodup → l.countP (fun j => !ls.getD j false) ≤ l.countP (fun j => !(ls.setIfInBounds i true).getD j false) + (if i ∈ l then 1 else 0) := by
              intro l
              induction l with
              | nil => intro _; simp
              | cons x l ih2 =>
                intro hnd
                have hnd2 := List.nodup_cons.1 hnd
                have := ih2 hnd2.2
                rw [List.countP_cons, List.countP_cons]
                by_cases hxi : x = i
                · subst hxi
                  rw [if_neg hnd2.1] at this
                  have e1 : (!ls.getD x false) = true := by rw [hli]; rfl
                  have e2 : (!(ls.setIfInBounds x true).getD x false) = false := by rw [hset, if_pos rfl]; rfl
                  rw [e1, e2, if_pos rfl, if_neg (by simp), if_pos (List.mem_cons_self ..)]
                  omega
                · have e : (!(ls.setIfInBounds i true).getD x false) = !ls.getD x false := by rw [hset, if_neg hxi]
                  rw [e]
                  have hm : (i ∈ x :: l) ↔ i ∈ l := by simp [Ne.symm hxi]
                  by_cases hil2 : i ∈ l
                  · rw [if_pos (hm.2 hil2)]; rw [if_pos hil2] at this; omega
                  · rw [if_neg (fun h => hil2 (hm.1 h))]; rw [if_neg hil2] at this; omega
            have := this (List.range L.length) List.nodup_range
            rw [if_pos (List.mem_range.2 hil)] at this
            exact this
          omega
        · by_cases hji : j = i
          · subst hji
            refine ⟨by simpa using hok2, hm2, ?_⟩
            rw [dstD_of hd]
            simpa using hr2.has d v (by rw [look_cons, if_pos rfl])
          · simp only [hset, if_neg hji] at hlj
            obtain ⟨g1, g2, g3⟩ := hv j hj hlj
            refine ⟨by simpa [hji] using Sp.up g2 he2 g1, g2, ?_⟩
            have hne : dstD L j ≠ d := by
              obtain ⟨dj, hdj, _, hjj⟩ := F.dst j hj
              rw [dstD_of hdj]
              by_cases hlt3 : j < i
              · obtain ⟨e, hee, hne⟩ := hdd j hlt3
                rw [hdj] at hee; injection hee with hee; rw [hee]; exact fun h => hne h.symm
              · obtain ⟨e, hee, hne⟩ := hjj i (by omega)
                rw [hd] at hee; injection hee with hee; rw [hee]; exact hne
            rw [hsame _ hne, g3]
            simp [hji]
        · by_cases hji : j = i
          · subst hji
            obtain ⟨b, hb1, hb2, hb3⟩ := hnew hfj
            exact ⟨b, by simpa using hb1, hb3⟩
          · simp only [hset, if_neg hji] at hlj
            obtain ⟨b, hb1, hb2⟩ := hp j hj hlj hfj
            exact ⟨b, by simpa [hji] using hb1, Nat.lt_of_lt_of_le hb2 he2.size⟩
        · by_cases hxi : x = i
          · subst hxi
            have hyx : y ≠ x := fun e => hxy e.symm
            simp only [hset, if_neg hyx] at hly
            obtain ⟨b, hb1, hb2, hb3⟩ := hnew hfx
            obtain ⟨b', hb1', hb2'⟩ := hp y hy hly hfy
            simp only [if_neg hyx, if_true]
            rw [hb1, hb1']
            intro e
            injection e with e; injection e with e; injection e with e
            omega
          · simp only [hset, if_neg hxi] at hlx
            by_cases hyi : y = i
            · subst hyi
              obtain ⟨b, hb1, hb2, hb3⟩ := hnew hfy
              obtain ⟨b', hb1', hb2'⟩ := hp x hx hlx hfx
              simp only [if_neg hxi, if_true]
              rw [hb1, hb1']
              intro e
              injection e with e; injection e with e; injection e with e
              omega
            · simp only [hset, if_neg hyi] at hly
              simp only [if_neg hxi, if_neg hyi]
              exact hq x y hx hy hlx hly hfx hfy hxy
        · have htd : t ≠ d := by
            intro h; subst h; rw [hde] at ht; cases ht
          rw [hsame t htd]
          exact hC.env t u ht
      simp only [wpL] at hrun
      split
      · rename_i hwant
        rw [if_pos hwant] at hrun
        exact .inl (Oper.wp_mono2 (fun a' w' h => hnext a' w' h) (fun e a' w' hne h => by cases e <;> first | exact absurd rfl hne | exact h) hrun)
      · rename_i hwant
        rw [if_neg hwant] at hrun
        exact hnext _ _ hrun
/-- what an operation may use: slots and values of those it waits for -/
def WithE (sp : List Sp) (W : GW) : List (Nat × Nat) → Env → (Env → Prop) → Prop
  | [], acc, φ => φ acc
  | (j, t) :: js, acc, φ => match spD sp j with
    | .ex v => WithE sp W js ((t, v) :: acc) φ
    | .rel R => ∀ x, R W x → WithE sp W js ((t, x) :: acc) φ
theorem WithE.to {l : List Oper} {sp : List Sp} {W : GW} : ∀ {q : List (Nat × Nat)}, (∀ p ∈ q, dstD l p.1 = p.2) → ∀ {acc : Env} {φ : Env → Prop}, WithE sp W q acc φ → WithD l sp W (q.map (·.1)) acc φ := by
  intro q
  induction q with
  | nil => intro _ acc φ h; exact h
  | cons p q ih =>
    intro hp acc φ h
    obtain ⟨j, t⟩ := p
    have e : dstD l j = t := hp (j, t) (List.mem_cons_self ..)
    have ih' : ∀ (acc : Env) (φ : Env → Prop), WithE sp W q acc φ → WithD l sp W (q.map (·.1)) acc φ := fun acc φ => ih (fun p hq => hp p (List.mem_cons_of_mem _ hq))
    simp only [WithE] at h
    simp only [List.map_cons, WithD]
    cases hs : spD sp j with
    | ex v => rw [hs] at h; rw [e]; exact ih' _ _ h
    | rel R => rw [hs] at h; rw [e]; exact fun x hx => ih' _ _ (h x hx)
/-- all of the cloud -/
def WithT (W : GW) : List Nat → List Sp → List Bool → List Value → Env → (Env → Prop) → Prop
  | t :: ds, s :: ss, f :: fs, pv, acc, φ => match s with
    | .ex v => match f with
      | true => WithT W ds ss fs (v :: pv) ((t, v) :: acc) φ
      | false => WithT W ds ss fs pv ((t, v) :: acc) φ
    | .rel R => match f with
      | true => ∀ x, R W x → NeAll x pv → WithT W ds ss fs (x :: pv) ((t, x) :: acc) φ
      | false => ∀ x, R W x → WithT W ds ss fs pv ((t, x) :: acc) φ
  | _, _, _, _, acc, φ => φ acc
theorem WithT.to {l : List Oper} {sp0 : List Sp} {fl0 : List Bool} {W : GW} : ∀ {ds : List Nat} {ss : List Sp} {fs : List Bool} {i : Nat}, ss.length = ds.length → fs.length = ds.length → (∀ j t, ds[j]? = some t → dstD l (i + j) = t) → (∀ j s, ss[j]? = some s → spD sp0 (i + j) = s) → (∀ j f, fs[j]? = some f → flD fl0 (i + j) = f) →
    ∀ {pv : List Value} {acc : Env} {φ : Env → Prop}, WithT W ds ss fs pv acc φ → WithN l sp0 fl0 W (List.range' i ds.length) pv acc φ := by
  intro ds
  induction ds with
  | nil => intro ss fs i _ _ _ _ _ pv acc φ h; simpa [WithT, WithN] using h
  | cons t ds ih =>
    intro ss fs i hs hf hd hsp hfl pv acc φ h
    match ss, fs, hs, hf with
    | s :: ss, f :: fs, hs, hf =>
      have e0 : dstD l i = t := hd 0 t rfl
      have e1 : spD sp0 i = s := hsp 0 s rfl
      have e2 : flD fl0 i = f := hfl 0 f rfl
      have ih' : ∀ (pv : List Value) (acc : Env) (φ : Env → Prop), WithT W ds ss fs pv acc φ → WithN l sp0 fl0 W (List.range' (i + 1) ds.length) pv acc φ := fun pv acc φ => ih (ss := ss) (fs := fs) (i := i + 1) (by simpa using hs) (by simpa using hf) (fun j t hj => by have := hd (j + 1) t (by simpa using hj); rw [← this]; congr 1; omega) (fun j s hj => by have := hsp (j + 1) s (by simpa using hj); rw [← this]; congr 1; omega) (fun j f hj => by have := hfl (j + 1) f (by simpa using hj); rw [← this]; congr 1; omega)
      rw [List.length_cons, List.range'_succ]
      simp only [WithT] at h
      simp only [WithN, e0, e1, e2]
      cases s with
      | ex v => cases f with
        | true => exact ih' _ _ _ h
        | false => exact ih' _ _ _ h
      | rel R => cases f with
        | true => exact fun x hx hn => ih' _ _ _ (h x hx hn)
        | false => exact fun x hx => ih' _ _ _ (h x hx)
/-- each operation of the cloud, by itself -/
def CloudHQ (P : Program) (n : Nat) (K : List Kt) (fin : Exit → Act → World → Prop) (ds : List Nat) (sp : List Sp) (env : Env) (W : GW) : List Oper → List Nat → List (List (Nat × Nat)) → List Sp → List Bool → Prop
  | o :: l, t :: ts, q :: qs, s :: ss, f :: fs => (∀ W1, Lk1 W W1 → Ext W W1 → ∀ L : List Oper, (∀ j t, ds[j]? = some t → dstAt L j = some t) → ∀ tl : Env, WithE sp W1 q (env ++ tl) fun E => JO P n L.toArray [o] (.l (DStopF f n E W1 t s) :: K) fin E W1) ∧ CloudHQ P n K fin ds sp env W l ts qs ss fs
  | _, [], [], [], [] => True
  | _, _, _, _, _ => False
theorem CloudHQ.to {L : List Oper} {ds : List Nat} {sp : List Sp} (hL : ∀ j t, ds[j]? = some t → dstAt L j = some t) : ∀ {l : List Oper} {ts : List Nat} {qs : List (List (Nat × Nat))} {ss : List Sp} {fs : List Bool} {i : Nat},
    (∀ j t, ts[j]? = some t → dstD L (i + j) = t) → (∀ (j : Nat) q, qs[j]? = some q → ∃ o, l[j]? = some o ∧ depsD o = q.map (·.1) ∧ ∀ p ∈ q, dstD L p.1 = p.2) → CloudHQ P n K fin ds sp env W l ts qs ss fs → CloudHN P n L K fin sp env W i l ss fs := by
  intro l ts qs ss fs
  induction ss generalizing l ts qs fs with
  | nil => intro i _ _ h; simp [CloudHN]
  | cons s ss ih =>
    intro i ht hq h
    match l, ts, qs, fs, h with
    | o :: l, t :: ts, q :: qs, f :: fs, h =>
      obtain ⟨h1, h2⟩ := h
      refine ⟨fun W1 l1 e1 tl => ?_, ih (fun j t hj => by have := ht (j + 1) t (by simpa using hj); rw [← this]; congr 1; omega) (fun j q hj => by obtain ⟨o', k1, k2⟩ := hq (j + 1) q (by simpa using hj); exact ⟨o', by simpa using k1, k2⟩) h2⟩
      obtain ⟨o', k1, k2, k3⟩ := hq 0 q rfl
      simp only [List.getElem?_cons_zero, Option.some.injEq] at k1
      subst k1
      have e : dstD L i = t := ht 0 t rfl
      rw [k2, e]
      exact WithE.to k3 (h1 W1 l1 e1 L hL tl)
    | [], ts, qs, fs, h => cases ts <;> cases qs <;> cases fs <;> simp [CloudHQ] at h
    | _ :: _, [], qs, fs, h => cases qs <;> cases fs <;> simp [CloudHQ] at h
    | _ :: _, _ :: _, [], fs, h => cases fs <;> simp [CloudHQ] at h
    | _ :: _, _ :: _, _ :: _, [], h => simp [CloudHQ] at h
theorem spD_get {sp : List Sp} : ∀ {j : Nat} {s : Sp}, sp[j]? = some s → spD sp j = s := by
  induction sp with
  | nil => intro j s h; simp at h
  | cons a sp ih => intro j s h; cases j with
    | zero => simpa [spD] using h
    | succ j => exact ih (by simpa using h)
theorem flD_get {fl : List Bool} : ∀ {j : Nat} {f : Bool}, fl[j]? = some f → flD fl j = f := by
  induction fl with
  | nil => intro j s h; simp at h
  | cons a sp ih => intro j s h; cases j with
    | zero => simpa [flD] using h
    | succ j => exact ih (by simpa using h)
theorem J.drawQ [mx : Mx P] {id : Nat} {L : List Oper} (ds : List Nat) (dq : List (List (Nat × Nat))) (rk pr : List Nat) (sp : List Sp) (fl : List Bool) (hchk : cloudOkQ n L ds dq rk pr = true) (he : (ds.all fun d => !inE env d) = true) (hs : sp.length = ds.length) (hf : fl.length = ds.length)
    (cloud : CloudHQ P n K fin ds sp env W L ds dq sp fl)
    (tail : ∀ W1, Lk1 W W1 → Ext W W1 → WithT W1 ds sp fl [] env fun E => JO P n L.toArray (L.drop ds.length) K fin E W1) : J P n (.c (.region id L.toArray true) :: K) fin env W := by
  intro a ha
  refine wp_region_draw fun t => ?_
  have hsc : Region.schedule (P.follows .mixedOrders) L.toArray t = Region.linearise.go .any L.toArray L.length t (Array.replicate L.length false) [] := by
    rw [mx.h]
    simp [Region.schedule, Region.linearise]
  rw [hsc]
  have F := cloudQ hchk he
  simp only [cloudOkQ, Bool.and_eq_true] at hchk
  obtain ⟨⟨⟨⟨⟨⟨⟨h1, hds⟩, hdq⟩, hlen⟩, hnd⟩, h2⟩, h4⟩, h5⟩ := hchk
  have hL := dstsOk_get hds
  have hD : ∀ j t, ds[j]? = some t → dstD L j = t := fun j t hj => dstD_of (hL j t hj)
  have hff : ∀ i, (Array.replicate L.length false).getD i false = false := by
    intro i
    by_cases h : i < L.length <;> simp [Array.getD, h]
  rw [← hs] at F
  refine draw_coreQ (fl := fl) F (by rw [hs]; exact dstsOk_len hds) (CloudHQ.to hL (fun j t hj => by rw [Nat.zero_add]; exact hD j t hj) (fun j q hj => ?_) cloud) (fun W1 e => ?_) L.length t _ a W.tick.w (by simp) (fun i _ => hff i) (fun i _ h => by rw [hff] at h; cases h) ?_
    ⟨⟨W.tick, fun _ => undef, rfl, tick_ext W, (fun i _ h => by rw [hff] at h; cases h), (fun i _ h => by rw [hff] at h; cases h), (fun i j _ _ h => by rw [hff] at h; cases h)⟩, ha.defers, ha.size, ha.has⟩
  · obtain ⟨o, k1, k2, k3⟩ := dqOk_get hdq j q hj
    exact ⟨o, k1, k2, fun p hp => hD _ _ (k3 p hp)⟩
  · have := WithT.to (l := L) (sp0 := sp) (fl0 := fl) (i := 0) hs hf (fun j t hj => by rw [Nat.zero_add]; exact hD j t hj) (fun j s hj => by rw [Nat.zero_add]; exact spD_get hj) (fun j f hj => by rw [Nat.zero_add]; exact flD_get hj) (tail W1 ⟨e.toLeK⟩ e)
    rw [hs, List.range_eq_range']
    exact this
  · have := cnt_range 0 L.length (fun i => !(Array.replicate L.length false).getD i false) (fun j hj => by omega) (fun j _ => by rw [hff]; rfl)
    rw [this]; rfl
end
end
section
section
variable {P : Program} {n : Nat} {ops : Array Oper} {l : List Oper} {K : List Kt} {fin : Exit → Act → World → Prop} {env : Env} {W : GW}
variable {d : Nat} {ty : TypeId} {pos : String} {aft : Array Edge}
end
end
section
section
variable {P : Program} {n : Nat} {ops : Array Oper} {l : List Oper} {K : List Kt} {fin : Exit → Act → World → Prop} {env : Env} {W : GW}
variable {d : Nat} {ty : TypeId} {pos : String} {aft : Array Edge}
theorem nil_append {α : Type} {r : Rep α} {T E sz by' : Nat} {z : List Value} {p q : Option Addr} {k c2 : Nat} {ys : List α} [i : TSl P T E sz by' z] (hy : Sl r W q k c2 ys) (hr : r.size = sz) (hz : z.length = sz)
    (hB : k * by' ≤ 140737488355328) (hL : k < 9223372036854775808) (tyy : TypeId) :
    ∃ v W', (Builtin.append_ #[T, T] tyy #[.slice p 0 0, .slice q k c2]).run P W.w = .ok v W'.w ∧ Ext W W' ∧ V (RSl r) W' v ys := by
  obtain ⟨p', c', W1, h1, h2, h3, h4⟩ := own_append (P := P) (T := T) (Ows.nil r W p) hy hr hz (by rw [Nat.zero_add]; exact hB) (by omega) tyy
  have hE : Ext W W1 := { h2 with all := fun j hj => h4.same j hj fun _ _ h => absurd h (by omega) }
  obtain ⟨W2, g1, g2, g3⟩ := own_pub hE ⟨p', _, c', rfl, h3, fun a ha hc => (h4.new a ha hc).elim (fun h => absurd h.2 (by omega)) id⟩
  exact ⟨_, W2, by rw [g1]; exact h1, g2, g3⟩
theorem Ok.eqB {f : FuncId} {vs : List Value} {p : Prop} {b0 : Bool} (h : Ok P f vs W fun _ r => ∃ b, r = .bool b ∧ (b = true ↔ p)) (hb : b0 = true ↔ p) : Ok P f vs W fun _ r => r = .bool b0 :=
  h.mono fun _ _ _ ⟨b, h1, h2⟩ => by rw [h1]; congr 1; exact Bool.eq_iff_iff.2 (h2.trans hb.symm)
theorem dec_ex (p : Prop) : ∃ b : Bool, b = true ↔ p := by
  by_cases h : p
  · exact ⟨true, by simp [h]⟩
  · exact ⟨false, by simp [h]⟩
/-- publish a slice; other variables are as before -/
theorem J.pubS {α : Type} {r : Rep α} {p : Option Addr} {m c : Nat} {xs : List α} (h : Ows r W p m c xs)
    (k : ∀ W', Le1 W W' → Sl r W' p m c xs → W'.w = W.w → (∀ {b sz : Nat}, Loc W b sz → (∀ a, p = some a → 0 < c → b ≠ a.block) → Loc W' b sz) → J P n K fin env W') : J P n K fin env W := by
  have hz : c = 0 ∨ 0 < c := by omega
  rcases hz with h0 | hc
  · refine k W ⟨LeS.refl W⟩ ⟨h.hn, h.hc, h.hC, .inl (List.eq_nil_of_length_eq_zero ?_)⟩ rfl fun hl _ => hl
    have := h.hn; have := h.hc; omega
  rcases h.h with h0 | ⟨b, cs, T, hp, hA, hm, hb, hl, hx⟩
  · omega
  · refine fun a ha => k (W.pubB b) ⟨pubB_le W b hm⟩ ⟨h.hn, h.hc, h.hC, .inr ⟨b, 0, hp, lt_of_heap hb, fun hh => by have := (List.mem_filter.1 hh).2; simp at this, fun i x hi => ?_⟩⟩ rfl
      (fun {b2 sz} g hne => ⟨List.mem_filter.2 ⟨g.A, by simpa using hne _ hp hc⟩, g.m, g.h⟩) a ha
    obtain ⟨u, hu, hv⟩ := hx i x hi
    exact ⟨u, r.mono (pubB_le W b hm).f hu, fun j v hj => by
      show W.w.cell? _ = _
      rw [cell_of hb, Nat.zero_add]; exact hv j v hj⟩
end
end
end
end Go.Rx

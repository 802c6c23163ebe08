/- The program's integers, the words: toUint: a range over a function. -/
import Derived.RangeFuncBox
import Derived.RangeFuncLeaves
import Derived.Shelf.Abstract
import Derived.WalkKit
import Derived.OwnWalkIn
import Derived.TacticsInMore
import Derived.LoopNIn
import Derived.LoopIn
import Derived.Test.YtcaikjefkkejbaaGreatIa
set_option linter.unusedVariables false
set_option linter.unusedSimpArgs false
namespace Go.Proofs.YtcaikjefkkejbaaGreat
open Go Go.Rx Go.Num Go.Proofs
open Go.RowKit Go.Shelf
attribute [local go_sem] Oper.semAt_some
abbrev Wd := { x : Nat // x < 4294967296 }
/-- what has come when k rounds are over -/
def bk (zs : List Wd) (k : Nat) : List (Nat × Wd) := (List.range k).map fun j => (zs.length - 1 - j, zs[zs.length - 1 - j]?.getD ⟨0, by decide⟩)
theorem bk_succ (zs : List Wd) (k : Nat) : bk zs (k + 1) = bk zs k ++ [(zs.length - 1 - k, zs[zs.length - 1 - k]?.getD ⟨0, by decide⟩)] := by simp [bk, List.range_succ]
theorem bk_length (zs : List Wd) (k : Nat) : (bk zs k).length = k := by simp [bk]
/-- what a round keeps -/
structure Kq (n₀ Bs : Nat) (A B : World) : Prop where
  a : Below n₀ A B
  b : B.heap[Bs]? = A.heap[Bs]?
theorem Kq.refl (n₀ Bs : Nat) (A : World) : Kq n₀ Bs A A := ⟨Below.refl _ _, rfl⟩
theorem Kq.trans {n₀ Bs : Nat} {A B C : World} (h : Kq n₀ Bs A B) (k : Kq n₀ Bs B C) : Kq n₀ Bs A C := ⟨h.a.trans k.a, k.b.trans h.b⟩
set_option maxRecDepth 100000 in
set_option maxHeartbeats 2000000 in
theorem back1_in (F : Fence) (n : Nat) (h8 : F.fn 177) (hro : F.round = none) (hn : 1 ≤ n) (l Bs n₀ b off cap : Nat) (zs : List Wd) (hreach : zs.length * 4 ≤ 140737488351232) (hb : b < n₀) (J Jx : List (Nat × Wd) → World → Prop)
    (hY : ∀ pre x W, J pre W → pre.length < zs.length → YieldAt F (n - 1) Tryz.prog l #[.int .i64 (x.1 : Int), .int .u32 (x.2.1 : Int)] W fun e W' =>
      (e = .returned (.bool true) ∧ J (pre ++ [x]) W' ∧ Kq n₀ Bs W W') ∨ (e = .returned (.bool false) ∧ Jx (pre ++ [x]) W'))
    (W : World) (hBs : W.cell? ⟨Bs, 0, none⟩ = some (.slice (some ⟨b, off, none⟩) zs.length cap)) (hc : ∀ j, j < zs.length → W.cell? ⟨b, off + j, none⟩ = some (.int .u32 ((zs[j]?.getD ⟨0, by decide⟩).1 : Int))) (h0 : J [] W) :
    CallsIn F n Tryz.prog 177 #[.func (.yield l) #[] #[], .pointer (some ⟨Bs, 0, none⟩)] W fun e W' => (∃ v, e = .returned v) ∧
      ((∃ ys, ys = bk zs zs.length ∧ J ys W') ∨ (∃ pre, True ∧ Jx pre W')) := by
  refine callsIn_of_wp Tryz.func177 rfl h8 ?_ hro
  simp only [Tryz.ntmps177, List.size_toArray, List.length_cons, List.length_nil, Nat.reduceAdd, Nat.reduceSub, Array.replicate_succ, Array.replicate_zero, List.push_toArray, List.append_toArray, List.nil_append, List.cons_append]
  gi_wp2
  gi_loopw [3] (fun i wr => ∃ k : Nat, k ≤ zs.length ∧ i = .int .i64 ((zs.length : Int) - 1 - k) ∧ J (bk zs k) wr ∧ Kq n₀ Bs W wr)
    (fun i _ => (intOf i + 1).toNat)
  case atStart => exact ⟨0, Nat.zero_le _, by simp, h0, Kq.refl _ _ _⟩
  case round =>
    obtain ⟨k, hk, rfl, hJs, hnx⟩ := hrel
    have hBs' := (World.cell?_of_block hnx.b).trans hBs
    by_cases hlt : k < zs.length
    · obtain ⟨q, hq⟩ : ∃ q, q + (k + 1) = zs.length := ⟨zs.length - 1 - k, by omega⟩
      have hqi : ((zs.length : Int) - 1 - k) = (q : Int) := by omega
      have hcx := (hnx.a.cell (p := ⟨b, off + q, none⟩) hb).trans (hc q (by omega))
      obtain ⟨fn, tmps, assign, body, hy, hR⟩ := hY _ (q, zs[q]?.getD ⟨0, by decide⟩) wr hJs (by rw [bk_length]; exact hlt)
      dsimp only at hy
      rw [hqi]
      gi_wp2
      refine hR.mono ?_
      rintro e W3 (⟨rfl, hJ3, hk3⟩ | ⟨rfl, hJx3⟩)
      · gi_wp2
        go_roundw
        case rel => exact ⟨k + 1, by omega, by congr 1; omega, by rw [bk_succ, show zs.length - 1 - k = q from by omega]; exact hJ3, hnx.trans hk3⟩
        case measure => simp [intOf]
      · gi_wp2
        refine bodyPost_ret (results_none rfl _ _ _) rfl ?_
        exact ⟨⟨_, rfl⟩, .inr ⟨_, trivial, hJx3⟩⟩
    · obtain rfl : k = zs.length := by omega
      rw [show ((zs.length : Int) - 1 - (zs.length : Int)) = -1 from by omega]
      gi_wp2
      go_end0
      exact ⟨⟨_, rfl⟩, .inl ⟨_, rfl, hJs⟩⟩
set_option maxRecDepth 100000 in
set_option maxHeartbeats 1000000 in
/-- .. at no word: no round. -/
theorem back1_nil_in (F : Fence) (n : Nat) (h8 : F.fn 177) (hro : F.round = none) (l Bs : Nat) (J : List (Nat × Wd) → World → Prop) (W : World) {p : Option Addr} {c : Nat} (hBs : W.cell? ⟨Bs, 0, none⟩ = some (.slice p 0 c)) (h0 : J [] W) :
    CallsIn F n Tryz.prog 177 #[.func (.yield l) #[] #[], .pointer (some ⟨Bs, 0, none⟩)] W fun e W' => (∃ v, e = .returned v) ∧ J [] W' := by
  refine callsIn_of_wp Tryz.func177 rfl h8 ?_ hro
  simp only [Tryz.ntmps177, List.size_toArray, List.length_cons, List.length_nil, Nat.reduceAdd, Nat.reduceSub, Array.replicate_succ, Array.replicate_zero, List.push_toArray, List.append_toArray, List.nil_append, List.cons_append]
  gi_wp2
  gi_loopw [3] (fun i wr => i = .int .i64 (-1) ∧ J [] wr) (fun _ _ => 0)
  case atStart => exact ⟨rfl, h0⟩
  case round =>
    obtain ⟨rfl, hJs⟩ := hrel
    gi_wp2
    go_end0
    exact ⟨⟨_, rfl⟩, hJs⟩
set_option maxHeartbeats 1000000 in
theorem back_in (F : Fence) (n : Nat) (h6 : F.fn 173) (hro : F.round = none) (a : Option Addr) (len cap : Nat) (w : World) :
    CallsIn F n Tryz.prog 173 #[.slice a len cap] w fun e w' => e = .returned (.func (.func 177) #[] #[.pointer (some ⟨w.heap.size, 0, none⟩)]) ∧ w' = w.alloc (.cells #[.slice a len cap] 47) := by
  refine callsIn_of_wp Tryz.func173 rfl h6 ?_ hro
  simp only [Tryz.ntmps173, List.size_toArray, List.length_cons, List.length_nil, Nat.reduceAdd, Nat.reduceSub, Array.replicate_succ, Array.replicate_zero, List.push_toArray, List.append_toArray, List.nil_append, List.cons_append]
  gi_wp2
  go_ret
  exact ⟨rfl, rfl⟩
theorem back_stops (F : Fence) (n : Nat) (h8 : F.fn 177) (hro : F.round = none) (hn : 1 ≤ n) (Bs n₀ : Nat) (p : Option Addr) (cap : Nat) (zs : List Wd) (hreach : zs.length * 4 ≤ 140737488351232) (w : World) (hBs : Bs < w.heap.size) (hn₀ : n₀ ≤ w.heap.size)
    (hc : w.cell? ⟨Bs, 0, none⟩ = some (.slice p zs.length cap)) (hI : zs = [] ∨ ∃ b off, p = some ⟨b, off, none⟩ ∧ b < n₀ ∧ ∀ j, j < zs.length → w.cell? ⟨b, off + j, none⟩ = some (.int .u32 ((zs[j]?.getD ⟨0, by decide⟩).1 : Int))) :
    SeqStopsK F n Tryz.prog 177 #[.pointer (some ⟨Bs, 0, none⟩)] (fun x : Nat × Wd => #[Value.int .i64 (x.1 : Int), Value.int .u32 (x.2.1 : Int)]) (Kq n₀ Bs) (fun ys => ys = bk zs zs.length)
      (fun _ => True) zs.length w := fun l J Jx W hW _ _ hY h0 => by
  have hc' := (hW.cell (p := ⟨Bs, 0, none⟩) hBs).trans hc
  rcases hI with rfl | ⟨b, off, rfl, hb, hcs⟩
  · exact (back1_nil_in F n h8 hro l Bs J W hc' h0).mono fun e W' ⟨he, hj⟩ => ⟨he, .inl ⟨_, rfl, hj⟩⟩
  · exact back1_in F n h8 hro hn l Bs n₀ b off cap zs hreach hb J Jx hY W hc' (fun j hj => (hW.cell (p := ⟨b, off + j, none⟩) (Nat.lt_of_lt_of_le hb hn₀)).trans (hcs j hj)) h0
def acc : List (Nat × Wd) → Nat := List.foldl (fun a x => (a * 4294967296) % 18446744073709551616 + x.2.1) 0
theorem acc_snoc (pre : List (Nat × Wd)) (x : Nat × Wd) : acc (pre ++ [x]) = (acc pre * 4294967296) % 18446744073709551616 + x.2.1 := by simp [acc]
theorem bits_or {p q : Nat} (hp : p < 18446744073709551616) (hq : q < 18446744073709551616) : bits .or .u64 (p : Int) (q : Int) = IntKind.u64.wrap ((p ||| q : Nat) : Int) := by
  show IntKind.u64.wrap _ = _
  congr 2
  exact bv_or 64 p q hp hq
theorem acc_or {a x : Nat} (hx : x < 4294967296) : bits .or .u64 (IntKind.u64.wrap ((a : Int) * 4294967296)) (IntKind.u64.wrap (x : Int)) = (((a * 4294967296) % 18446744073709551616 + x : Nat) : Int) := by
  have e1 : IntKind.u64.wrap ((a : Int) * 4294967296) = (((a * 4294967296) % 18446744073709551616 : Nat) : Int) := (wUm _).trans (by omega)
  have e2 : a * 4294967296 % 18446744073709551616 = (a % 4294967296) * 2 ^ 32 := by omega
  rw [e1, wU (x := (x : Int)) (by omega), bits_or (by omega) (by omega), e2, or_add x (a % 4294967296) 32 (by omega), wU (by omega)]
theorem kq_put {n₀ Bs N : Nat} (W : World) (l : Nat) (o : Obj) (hl : N ≤ l) (hn : n₀ ≤ N) (hB : Bs < N) (h : W.heap[l]? = some o) (o' : Obj) : Kq n₀ Bs W (W.putObj l o') :=
  ⟨(Below.refl n₀ W).grown (grownBy_putObj' W l o') (by have := (Array.getElem?_eq_some_iff.1 h).1; omega) (fun k e => by cases e; omega), World.putObj_heap_other (by omega)⟩
set_option maxRecDepth 100000 in
set_option maxHeartbeats 2000000 in
theorem toUint_in (F : Fence) (n : Nat) (h3 : F.fn 158) (h5 : F.fn 173) (h7 : F.fn 177) (hro : F.round = none) (hn : 3 ≤ n) (p : Option Addr) (cap : Nat) (zs : List Wd) (hreach : zs.length * 4 ≤ 140737488351232) (w : World)
    (hI : zs = [] ∨ ∃ b off, p = some ⟨b, off, none⟩ ∧ b < w.heap.size ∧ ∀ j, j < zs.length → w.cell? ⟨b, off + j, none⟩ = some (.int .u32 ((zs[j]?.getD ⟨0, by decide⟩).1 : Int))) :
    CallsIn F n Tryz.prog 158 #[.slice p zs.length cap] w fun e W' => e = .returned (.int .u64 (acc (bk zs zs.length) : Int)) ∧ Below w.heap.size w W' := by
  have h1 : 1 ≤ n := by omega
  refine callsIn_of_wp_marks Tryz.func158 rfl h3 ?_ hro
  simp only [Tryz.ntmps158, List.size_toArray, List.length_cons, List.length_nil, Nat.reduceAdd, Nat.reduceSub, Array.replicate_succ, Array.replicate_zero, List.push_toArray, List.append_toArray, List.nil_append, List.cons_append]
  gi_wp2_with (gi_at_call 173; refine (back_in F (n - 1) h5 hro _ _ _ _).mono ?_; rintro e w' ⟨rfl, rfl⟩)
  have bS := Boxed.new w 90 (.int .u64 0)
  have bN := Boxed.new (w.alloc (.cells #[.int .u64 0] 90)) 47 (.slice p zs.length cap)
  rw [World.size_alloc] at bN
  have hB0 : Below w.heap.size w ((w.alloc (.cells #[.int .u64 0] 90)).alloc (.cells #[.slice p zs.length cap] 47)) := ((Below.refl _ w).alloc (Nat.le_refl _) _).alloc (by simp) _
  refine wpIn_rangeFunc_ownG hro h1 (gf := 177) (lb := #[.pointer (some ⟨w.heap.size + 1, 0, none⟩)]) rfl h7 (enters_of Tryz.func177 (by kernel_rfl) rfl)
    (back_stops F (n - 1) h7 hro (by omega) (w.heap.size + 1) w.heap.size p cap zs hreach _ (by simp) (by simp; omega) bN.cell (hI.imp_right fun ⟨b, off, h1, h2, h3⟩ => ⟨b, off, h1, h2, fun j hj => (hB0.cell (p := ⟨b, off + j, none⟩) h2).trans (h3 j hj)⟩)) Kq.trans (fun W l o o' hl h _ _ => kq_put W l o hl (by simp; omega) (by simp) h o') (Below.refl _ _) (fun _ => rfl)
    (fun pre W => (W.cell? ⟨w.heap.size, 0, none⟩ = some (.int .u64 (acc pre : Int)) ∧ W.frozen? ⟨w.heap.size, 0, none⟩ = false) ∧ Below w.heap.size w W)
    (fun _ _ _ => False)
    (OwnFrom.and (Own.from (fun s A B row hs hg hr => ⟨cell_kept hs.1 hg hr, (frozen_kept hs.1 hg hr).trans hs.2⟩) _) (ownFrom_below (Nat.le_refl _) (by simp; omega)))
    (fun _ _ _ _ _ hs _ _ => hs)
    ⟨⟨(bS.alloc _).cell, (bS.alloc _).frozen⟩, hB0⟩
    (fun x => { tmps := #[.slice p zs.length cap, undef, .int .u64 0, .pointer (some ⟨w.heap.size, 0, none⟩), undef, .int .u32 (x.2.1 : Int), .slice p zs.length cap, .func (.func 177) #[] #[.pointer (some ⟨w.heap.size + 1, 0, none⟩)], .int .i64 (x.1 : Int), .int .u32 (x.2.1 : Int), undef, undef, undef, undef, undef, undef], defers := [] }) ?assign ?body ?done ?stop
  case assign =>
    intro l x W K hK
    gi_wp2
    exact hK
  case body =>
    rintro l pre x W ⟨⟨hc, hf⟩, hB⟩ _
    gi_wp2
    rw [acc_or x.2.2, ← acc_snoc]
    exact ⟨(KeepsOthers.setCell _ _ _).from _, ⟨(Below.refl w.heap.size W).setCell (p := ⟨w.heap.size, 0, none⟩) (Nat.le_refl _) _, Below.heap_setCell _ _ _ _ (by simp)⟩, ⟨World.cell?_setCell_same' _ _ _ (by rw [hc]; rfl), by rw [World.frozen?_setCell]; exact hf⟩, hB.setCell (p := ⟨w.heap.size, 0, none⟩) (Nat.le_refl _) _⟩
  case done =>
    rintro D ys W hD rfl ⟨⟨hc, _⟩, hB⟩ hK
    gi_wp2
    refine ⟨by simp, .inl ⟨_, _, rfl, run_takeDeferred hK, ?_⟩⟩
    exact ⟨_, results_tmp rfl _ _ _, rfl, hB.trans (belowK_b (w := w) (Nat.le_refl _) W D _ _ (by simp at hD; omega) hK rfl rfl)⟩
  case stop =>
    rintro D c pre W _ _ h _
    exact h.elim
theorem wds {l : List Nat} (h : Words l) : ∃ zs : List Wd, zs.map (·.1) = l :=
  by
  induction l with
  | nil => exact ⟨[], rfl⟩
  | cons a l ih =>
    obtain ⟨zs, hz⟩ := ih fun x hx => h x (List.mem_cons_of_mem _ hx)
    exact ⟨⟨a, h a (List.mem_cons_self ..)⟩ :: zs, by rw [List.map_cons, hz]⟩
theorem acc_val {zs : List Wd} {x : Nat} (h : zs.map (·.1) = dig x) (hx : x < 18446744073709551616) : acc (bk zs zs.length) = x := by
  have hl : (dig x).length ≤ 2 := dig_len_le (by omega)
  have hv := val_dig x
  rw [← h] at hl hv
  match zs, hl with
  | [], _ => simpa [bk, acc, val] using hv
  | [a], _ =>
    have ha := a.2
    simp [val] at hv
    simp [bk, acc, List.range_succ]
    omega
  | [a, b], _ =>
    have ha := a.2
    have hb := b.2
    simp [val] at hv
    simp [bk, acc, List.range_succ]
    omega
theorem ext_below {W : GW} {w' : World} (h : Below W.w.heap.size W.w w') : ∃ W' : GW, W'.w = w' ∧ Ext W W' :=
  ⟨{ w := w', A := W.A, m := W.m, hA := fun k hk => Nat.lt_of_lt_of_le (W.hA k hk) h.size, hm := Nat.le_trans W.hm h.size }, rfl,
    { os := h.os, out := h.output, tape := h.tape, m := rfl, size := h.size, same := fun k hk _ => h.block k hk, stay := fun _ _ h => h, prot := fun _ _ h => h,
      row := fun k c T fr hc => ⟨c, by rw [show (GW.mk w' W.A W.m _ _).w.heap[k]? = _ from h.block k (lt_of_heap hc)]; exact hc, rfl⟩, keep := fun _ h => h, all := fun k hk => h.block k hk }⟩
theorem integer_toUint_ok {W : GW} {p : Option Addr} {m c x : Nat} (h : Sl RW W p m c (dig x)) (hx : x < 18446744073709551616) :
    Ok Tryz.prog 158 [.slice p m c] W fun _ v => v = .int .u64 (x : Int) := by
  obtain ⟨zs, hz⟩ := wds (words_dig x)
  have hm : m = zs.length := by rw [h.hn, ← hz, List.length_map]
  have hl : (dig x).length ≤ 2 := dig_len_le (by omega)
  subst hm
  refine ⟨⟨_, Tryz.func158, rfl, rfl⟩, ?_⟩
  refine (callsIn_wide (n := 3)).1 ((toUint_in Fence.wide 3 trivial trivial trivial rfl (Nat.le_refl _) p c zs (by rw [← hz, List.length_map] at hl; omega) W.w ?_).mono ?_)
  · rcases h.at' with h0 | ⟨b, off, hp, hb, hA, hx'⟩
    · left
      rw [h0] at hz
      exact List.map_eq_nil_iff.1 hz
    · refine .inr ⟨b, off, hp, hb, fun j hj => ?_⟩
      obtain ⟨z, hzj⟩ : ∃ z, zs[j]? = some z := ⟨_, List.getElem?_eq_getElem hj⟩
      obtain ⟨cs, hc, hv⟩ := hx' j z.1 (by rw [← hz, List.getElem?_map, hzj]; rfl)
      have := hv 0 (.int .u32 (z.1 : Int)) (by rw [hc.1]; rfl)
      rw [hzj]
      rw [show off + (j * RW.size + 0) = off + j from by show off + (j * 1 + 0) = _; omega] at this
      exact this
  · rintro e w' ⟨he, hB⟩
    obtain ⟨W', hw, hE⟩ := ext_below hB
    exact ⟨W', _, he, hw, hE, by rw [acc_val hz hx]⟩
end Go.Proofs.YtcaikjefkkejbaaGreat

/- integers: words. -/
import Derived.Test.YtfmgfaeheljpcaaGreatYVY
import Derived.Test.YtfmgfaeheljpcaaGreatYWD
import Derived.Test.YtfmgfaeheljpcaaGreatYNUM
import Derived.RangeFuncBox
import Derived.RangeFuncLeaves
import Derived.Shelf.Abstract
import Derived.WalkKit
import Derived.OwnWalkIn
import Derived.TacticsInMore
import Derived.LoopNIn
import Derived.LoopIn
set_option linter.unusedVariables false
set_option linter.unusedSimpArgs false
set_option maxRecDepth 10000
namespace Go.Proofs.YtfmgfaeheljpcaaGreat
open Go Go.Vm Go.Num Go.Proofs
section
abbrev C0 := C Tryz.prog
abbrev CG0 := CG Tryz.prog
abbrev CA0 := CA Tryz.prog
abbrev CO0 := CO Tryz.prog
abbrev CN0 := CN Tryz.prog
abbrev CW0 := CW Tryz.prog
def wd (n : Nat) : D := .int .u32 n
def ws (l : List Nat) : D := .sl 1 (l.map wd)
def dS (b : Bool) (l : List Nat) : D := .st (.pr (.bool b) (ws l))
theorem mp {α : Type} {l : List α} {f : α → D} {j : Nat} {u : α} (h : l[j]? = some u) : (l.map f)[j]? = some (f u) := by simp [h]
theorem ms {α : Type} {l : List α} {f : α → D} {j : Nat} {u : α} : (l.map f).set j (f u) = (l.set j u).map f := by simp
theorem trim_ok {l : List Nat} (hw : Words l) (hl : l.length ≤ 1099511627776) : C0 188 [.d (ws l)] (· = .d (ws (dig (val l)))) := by
  refine En Tryz.func188 fun _ _ => ?_
  refine Lo (fun k => [(0, .d (ws (l.take k)))]) (fun _ => []) (fun k => k ≤ l.length ∧ val (l.take k) = val l) id l.length [] rfl ⟨Nat.le_refl _, by rw [List.take_length]⟩ (fun k ⟨hk, hv⟩ => ?_) (hf := ⟨by simp only [List.take_length]; rfl, rfl, rfl, rfl, rfl⟩)
  refine By rfl (fun h => ?_) fun h => ?_ <;> simp only [List.length_map, List.length_take, Nat.min_eq_left hk] at h
  · have hl : ((l.take k).map wd).length = k := by simp; omega
    refine Ar (k - 1 : Nat) rfl ?_
    have hx := List.getElem?_eq_getElem (l := l) (i := k - 1) (by omega)
    refine Ix (k - 1) rfl (u := wd l[k - 1]) (mp (by rw [List.getElem?_take, if_pos (by omega), hx])) ?_
    have hs := val_take_succ hx
    rw [show k - 1 + 1 = k by omega, hv] at hs
    refine By rfl (fun h0 => ?_) fun h0 => ?_
    · refine Ar (k - 1 : Nat) rfl ?_
      refine Tk (k - 1) ((l.take (k - 1)).map wd) rfl rfl (by simp; omega) (by rw [← List.map_take, List.take_take, Nat.min_eq_left (by omega)]) ?_
      exact Bk (k - 1) [] rfl ⟨by omega, by rw [hs, show l[k - 1] = 0 by omega, Nat.mul_zero, Nat.add_zero]⟩ (show k - 1 < k by omega)
    · exact R1 rfl (.eq (by rw [← hv, dig_val (hw.take k) (.inr ⟨l[k - 1], by rw [List.length_take, Nat.min_eq_left hk, List.getElem?_take, if_pos (by omega), hx], fun e => h0 (by rw [e]; rfl)⟩)]))
  · refine R1 rfl (.eq ?_)
    rw [show k = 0 by omega] at hv ⊢
    rw [← hv, List.take_zero, val, dig_zero]
theorem fromUint_ok {n : Nat} (h : n < 18446744073709551616) : C0 186 [.d (.int .u64 n)] (· = .d (ws (dig n))) := by
  refine En Tryz.func186 fun _ _ => ?_
  refine Cv (n % 4294967296 : Nat) rfl ?_ (hr := by rw [wWm]; omega)
  refine Ar (n / 4294967296 : Nat) rfl ?_ (hr := show _ ∧ _ from ⟨by omega, shr32 n⟩)
  refine Cv (n / 4294967296 : Nat) rfl ?_
  refine Ce rfl (trim_ok (l := [n % 4294967296, n / 4294967296]) (.cons (by omega) (.cons (by omega) .nil)) (by simp)) ?_
  exact R1 rfl (.eq (by rw [show val [n % 4294967296, n / 4294967296] = n by simp only [val]; omega]))
theorem trim_dig_ok {n : Nat} (h : (dig n).length ≤ 1099511627776) : C0 188 [.d (ws (dig n))] (· = .d (ws (dig n))) := by
  have := trim_ok (words_dig n) h
  rwa [val_dig] at this
theorem signed_ok {b : Bool} {n : Nat} (h : (dig n).length ≤ 1099511627776) : C0 185 [.d (.bool b), .d (ws (dig n))] (· = .d (dS (b && n != 0) (dig n))) := by
  refine En Tryz.func185 fun _ _ => ?_
  refine Ce rfl (trim_dig_ok h) ?_
  refine By rfl (fun h => ?_) fun h => ?_ <;> simp only [List.length_map] at h
  · have : n = 0 := dig_eq_nil.1 (List.eq_nil_of_length_eq_zero (by omega))
    subst this
    exact R1 rfl (by exact .sd (.pd (.bd (by simp)) (.nil (by rw [dig_zero]; rfl))))
  · have : n ≠ 0 := fun e => h (by rw [e, dig_zero]; rfl)
    rw [show (b && n != 0) = b by simp [this]]
    exact R0
/-- an integer -/
def dz (z : Int) : D := dS (decide (z < 0)) (dig z.natAbs)
def sg (neg : Bool) (n : Nat) : Int := if neg then -(n : Int) else (n : Int)
theorem dc_dec {p : Prop} [Decidable p] : dc p = decide p := by rw [Bool.eq_iff_iff, dc_iff, decide_eq_true_iff]
instance {p : Prop} [Decidable p] : Dc (decide p) p := ⟨decide_eq_true_iff⟩
theorem dz_sg {b : Bool} {n : Nat} : dS (b && n != 0) (dig n) = dz (sg b n) := by
  unfold dz sg
  cases b with
  | true =>
    rw [if_pos rfl, Int.natAbs_neg, Int.natAbs_natCast]
    congr 1
    rw [Bool.eq_iff_iff]; simp; omega
  | false => rw [if_neg (by decide), Int.natAbs_natCast]; congr 1
theorem signed_sg {b : Bool} {n : Nat} (h : (dig n).length ≤ 1099511627776) : C0 185 [.d (.bool b), .d (ws (dig n))] (· = .d (dz (sg b n))) := by
  have := signed_ok (b := b) h
  rwa [dz_sg] at this
theorem sg_abs (z : Int) : sg (decide (z < 0)) z.natAbs = z := by
  unfold sg; by_cases h : z < 0
  · rw [if_pos (decide_eq_true h)]; omega
  · rw [if_neg (by rw [decide_eq_true_eq]; exact h)]; omega
theorem FromInt_ok {z : Int} (h : -9223372036854775808 ≤ z ∧ z < 9223372036854775808) : C0 117 [.d (.int .i64 z)] (· = .d (dz z)) := by
  have hl : (dig z.natAbs).length ≤ 2 := dig_len_le (by omega)
  refine En Tryz.func117 fun _ _ => ?_
  refine Cv (z % 18446744073709551616) rfl ?_ (hr := wUm _)
  refine By rfl (fun h => ?_) fun h => ?_
  · refine Ne (z.natAbs : Int) rfl ?_ (hr := by rw [wUm]; omega)
    refine Ce rfl (fromUint_ok (n := z.natAbs) (by omega)) ?_
    refine Ce rfl (signed_sg (n := z.natAbs) (by omega)) ?_
    exact R1 rfl (.eq (by rw [dc_dec, sg_abs]))
  · refine Ce (r := .d (ws (dig z.natAbs))) rfl (by have := fromUint_ok (n := z.natAbs) (by omega); rwa [show ((z.natAbs : Nat) : Int) = z % 18446744073709551616 by omega] at this) ?_
    refine Ce rfl (signed_sg (n := z.natAbs) (by omega)) ?_
    exact R1 rfl (.eq (by rw [dc_dec, sg_abs]))
end
section
theorem ww {l : List Nat} {j : Nat} {u : Nat} (h : l[j]? = some u) (hw : Words l) : u < 4294967296 := hw u (List.mem_of_getElem? h)
theorem xat {l : List Nat} {k : Nat} (h : k < l.length) : ∃ x, l[k]? = some x := ⟨_, List.getElem?_eq_getElem h⟩
theorem shrA {k : IntKind} {s n : Nat} (hn : n ≤ k.bits) : arB .shr k s n (s / 2 ^ n : Nat) := by
  refine ⟨by omega, ?_⟩
  rw [Int.toNat_natCast, Nat.min_eq_left hn, show (2 : Int) ^ n = ((2 ^ n : Nat) : Int) by rw [Int.natCast_pow]; rfl, Int.fdiv_eq_ediv_of_nonneg _ (Int.natCast_nonneg _)]
  rfl
theorem plus_ok {x y : Nat} (hx : (dig x).length ≤ 1099511627775) (hy : (dig y).length ≤ 1099511627775) : C0 252 [.d (ws (dig x)), .d (ws (dig y))] (· = .d (ws (dig (x + y)))) := by
  refine En Tryz.func252 fun _ _ => ?_
  refine Cu none (fun (a, b) => [(0, .d (ws (dig a))), (1, .d (ws (dig b)))]) (fun _ => []) (fun (a, b) => a + b = x + y ∧ (dig b).length ≤ (dig a).length ∧ (dig a).length ≤ 1099511627775) rfl ?_ fun ⟨a, b⟩ ⟨hs, hle, hbig⟩ => ?_
  · refine By rfl (fun h => ?_) fun h => ?_ <;> simp only [List.length_map] at h
    · exact Jn (y, x) [] rfl ⟨Nat.add_comm _ _, by omega, hy⟩
    · exact Jn (x, y) [] rfl ⟨rfl, by omega, hx⟩
  refine Ar ((dig a).length + 1) rfl ?_ (wr (by simp) (by simp only [inK]; omega))
  refine Mk 0 rfl (by omega) ?_
  refine Lo (fun (k, lo, cr) => [(1, .d (ws (dig b))), (5, .own 19 1 0 k), (6, .d (.int .u64 (cr : Nat))), (20, .d (ws (dig a))), (21, .d (.int .i64 (dig a).length)), (22, .d (.int .i64 (k : Nat)))]) (fun (_, lo, _) => [(19, .arr 1 (lo.map wd))])
    (fun (k, lo, cr) => k ≤ (dig a).length ∧ lo.length = k ∧ Words lo ∧ cr ≤ 1 ∧ val lo + 4294967296 ^ k * cr = val ((dig a).take k) + val ((dig b).take k)) (fun (k, _, _) => (dig a).length - k) (0, [], 0) [] rfl ⟨by omega, rfl, .nil, by omega, by simp [val]⟩ ?_ (by exact ⟨by simp only [ws, List.length_map]; rfl, rfl, rfl, rfl, rfl⟩)
  rintro ⟨k, lo, cr⟩ ⟨hk, hl, hw, hcr, hval⟩
  refine By rfl (fun h => ?_) fun h => ?_
  · obtain ⟨u, hu⟩ := xat (l := dig a) (k := k) (by omega)
    have hub := ww hu (words_dig a)
    refine Ix k rfl (mp hu) ?_
    refine Cv u rfl ?_
    refine Ar (cr + u : Nat) rfl ?_
    refine Cu none (fun (s : Nat) => [(1, .d (ws (dig b))), (5, .own 19 1 0 k), (6, .d (.int .u64 s)), (20, .d (ws (dig a))), (21, .d (.int .i64 (dig a).length)), (22, .d (.int .i64 k))]) (fun _ => [(19, .arr 1 (lo.map wd))])
      (fun s => s < 8589934592 ∧ 4294967296 ^ k * s + val lo = val ((dig a).take (k + 1)) + val ((dig b).take (k + 1))) rfl ?_ fun s ⟨hs8, hsv⟩ => ?_
    · refine By rfl (fun h2 => ?_) fun h2 => ?_ <;> simp only [List.length_map] at h2
      · obtain ⟨u2, hu2⟩ := xat (l := dig b) (k := k) (by omega)
        have hub2 := ww hu2 (words_dig b)
        refine Ix k rfl (mp hu2) ?_
        refine Cv u2 rfl ?_
        refine Ar (cr + u + u2 : Nat) rfl ?_
        exact Jn (cr + u + u2) [] rfl ⟨by omega, by rw [val_take_succ hu, val_take_succ hu2, Nat.mul_add, Nat.mul_add]; omega⟩
      · exact Jn (cr + u) [] rfl ⟨by omega, by rw [val_take_succ hu, take_ge (l := dig b) (by omega), Nat.mul_add]; omega⟩
    refine Cv (s % 4294967296 : Nat) rfl ?_ (by rw [wWm]; omega)
    refine ApO ((lo ++ [s % 4294967296]).map wd) rfl rfl (by simp [hl]) (by simp; rfl) (by simp; omega) ?_
    refine Ar (s / 4294967296 : Nat) rfl ?_ (shrA (n := 32) (by decide))
    refine Ar (k + 1 : Nat) rfl ?_
    refine Bk (k + 1, lo ++ [s % 4294967296], s / 4294967296) [(46, 19)] rfl ⟨by show k + 1 ≤ _; omega, by simp [hl], hw.app (.cons (by omega) .nil), by show s / 4294967296 ≤ 1; omega, ?_⟩ (by show _ - (k + 1) < _ - k; omega) (by exact ⟨by simp [hl]; rfl, rfl, rfl, rfl, rfl⟩)
    rw [val_append, hl, ← hsv, Nat.pow_succ, Nat.mul_assoc]
    have e2 : 4294967296 ^ k * s = 4294967296 ^ k * (s % 4294967296) + 4294967296 ^ k * (4294967296 * (s / 4294967296)) := by rw [← Nat.mul_add]; congr 1; omega
    simp only [val, Nat.mul_zero, Nat.add_zero]
    omega
  · have hkn : k = (dig a).length := by omega
    have hfin : val lo + 4294967296 ^ k * cr = x + y := by rw [hval, List.take_of_length_le (by omega), List.take_of_length_le (by omega), val_dig, val_dig, hs]
    refine By rfl (fun h => ?_) fun h => ?_
    · refine Cv cr rfl ?_
      refine ApO ((lo ++ [cr]).map wd) rfl rfl (by simp [hl]) (by simp; rfl) (by simp; omega) ?_
      refine R1 rfl (.own rfl (by simp) ?_)
      have e : val (lo ++ [cr]) = val lo + 4294967296 ^ k * cr := by rw [val_append, hl]; simp [val]
      rw [List.drop_zero, List.take_length, ← hfin, ← e, dig_val (hw.app (.cons (by omega) .nil)) (.inr ⟨cr, by simp, by omega⟩)]
    · have hc0 : cr = 0 := by omega
      subst hc0
      refine R1 rfl (.own rfl (by simp [hl]) ?_)
      rw [List.drop_zero, List.take_of_length_le (by simp [hl]), ← hfin, Nat.mul_zero, Nat.add_zero, dig_val hw]
      rcases Nat.eq_zero_or_pos k with hk0 | hk0
      · exact .inl (List.eq_nil_of_length_eq_zero (by rw [hl]; exact hk0))
      · have ha : a ≠ 0 := fun hh => by rw [hh, dig_zero] at hkn; simp at hkn; omega
        have hlb := dig_lb ha
        refine top_trim hw (by omega) ?_
        rw [hl, hkn]
        have hab : a ≤ x + y := by omega
        rw [← hkn] at hlb ⊢
        omega
theorem oa {l : List Nat} {n : Nat} (h : l.length = n) : ((l.map wd).drop 0).take n = l.map wd := by rw [List.drop_zero, List.take_of_length_le (by simp [h])]
theorem lw (l : List Nat) : (l.map wd).length = l.length := List.length_map ..
theorem minus_ok {x y : Nat} (hx : (dig x).length ≤ 1099511627776) (hle : y ≤ x) : C0 253 [.d (ws (dig x)), .d (ws (dig y))] (· = .d (ws (dig (x - y)))) := by
  have hll := len_mono hle
  refine En Tryz.func253 fun _ _ => ?_
  refine Mk (dig x).length rfl (by simp only [lw]; omega) ?_ (by simp only [lw])
  refine Lo (fun (k, lo, br) => [(1, .d (ws (dig y))), (5, .own 12 1 0 (dig x).length), (6, .d (.int .u64 (br : Nat))), (13, .d (ws (dig x))), (14, .d (.int .i64 (dig x).length)), (15, .d (.int .i64 (k : Nat)))]) (fun (_, lo, _) => [(12, .arr 1 (lo.map wd))])
    (fun (k, lo, br) => k ≤ (dig x).length ∧ lo.length = (dig x).length ∧ Words lo ∧ br ≤ 1 ∧ val (lo.take k) + val ((dig y).take k) + 4294967296 ^ k * 0 = val ((dig x).take k) + 4294967296 ^ k * br) (fun (k, _, _) => (dig x).length - k) (0, List.replicate (dig x).length 0, 0) [] rfl
    ⟨by omega, by simp, fun _ h => by rw [(List.mem_replicate.1 h).2]; omega, by omega, by simp [val]⟩ ?_ (by exact ⟨by simp only [lw, ws]; rfl, by simp only [List.map_replicate]; rfl, rfl, rfl, rfl⟩)
  rintro ⟨k, lo, br⟩ ⟨hk, hl, hw, hbr, hval⟩
  rw [Nat.mul_zero, Nat.add_zero] at hval
  refine By rfl (fun h => ?_) fun h => ?_
  · obtain ⟨u, hu⟩ := xat (l := dig x) (k := k) (by omega)
    have hub := ww hu (words_dig x)
    refine Ix k rfl (mp hu) ?_
    refine Cv u rfl ?_
    refine Ar ((u + 18446744073709551616 - br) % 18446744073709551616 : Nat) rfl ?_ (by show _ = _; rw [wUm]; omega)
    refine Cu none (fun (s : Nat) => [(1, .d (ws (dig y))), (5, .own 12 1 0 (dig x).length), (7, .d (.int .i64 k)), (9, .d (.int .u64 s)), (13, .d (ws (dig x))), (14, .d (.int .i64 (dig x).length)), (15, .d (.int .i64 k))]) (fun _ => [(12, .arr 1 (lo.map wd))])
      (fun s => s < 18446744073709551616 ∧ s / 9223372036854775808 ≤ 1 ∧ ∃ v, s % 4294967296 + v + br = u + 4294967296 * (s / 9223372036854775808) ∧ val ((dig y).take (k + 1)) = val ((dig y).take k) + 4294967296 ^ k * v) rfl ?_ fun s ⟨hs, hs2, v, hsv, hyv⟩ => ?_
    · refine By rfl (fun h2 => ?_) fun h2 => ?_ <;> simp only [lw] at h2
      · obtain ⟨u2, hu2⟩ := xat (l := dig y) (k := k) (by omega)
        have hub2 := ww hu2 (words_dig y)
        refine Ix k rfl (mp hu2) ?_
        refine Cv u2 rfl ?_
        refine Ar ((u + 18446744073709551616 - br + 18446744073709551616 - u2) % 18446744073709551616 : Nat) rfl ?_ (by show _ = _; rw [wUm]; omega)
        exact Jn ((u + 18446744073709551616 - br + 18446744073709551616 - u2) % 18446744073709551616) [] rfl ⟨by omega, by omega, u2, by omega, val_take_succ hu2⟩
      · exact Jn ((u + 18446744073709551616 - br) % 18446744073709551616) [] rfl ⟨by omega, by omega, 0, by omega, by rw [take_ge (by omega)]; rfl⟩
    refine Cv (s % 4294967296 : Nat) rfl ?_ (by rw [wWm]; omega)
    refine Eo k rfl (by omega) ?_
    refine Sto rfl (by simp only [lw]; omega) ms ?_
    refine Ar (s / 9223372036854775808 : Nat) rfl ?_ (shrA (n := 63) (by decide))
    refine Ar (k + 1 : Nat) rfl ?_
    refine Bk (k + 1, lo.set k (s % 4294967296), s / 9223372036854775808) [] rfl ⟨by omega, by simp [hl], fun x hx => (List.mem_or_eq_of_mem_set hx).elim (hw x) fun e => by rw [e]; omega, by omega, ?_⟩ (by show _ - (k + 1) < _ - k; omega)
    rw [Nat.mul_zero, Nat.add_zero, val_set (by omega), hyv, val_take_succ hu, Nat.pow_succ, Nat.mul_assoc]
    have e : 4294967296 ^ k * (s % 4294967296 + v + br) = 4294967296 ^ k * (u + 4294967296 * (s / 9223372036854775808)) := by rw [hsv]
    simp only [Nat.mul_add] at e
    omega
  · have hkn : k = (dig x).length := by omega
    rw [hkn, List.take_of_length_le (by omega), List.take_of_length_le (by omega), List.take_of_length_le (by omega), val_dig, val_dig] at hval
    have hvl := val_lt hw
    rw [hl] at hvl
    have hbr0 : br = 0 := by
      rcases Nat.eq_zero_or_pos br with h0 | h0
      · exact h0
      · have h1 : 4294967296 ^ (dig x).length * 1 ≤ 4294967296 ^ (dig x).length * br := Nat.mul_le_mul_left _ h0
        omega
    rw [hbr0, Nat.mul_zero] at hval
    refine Fz 12 5 (lo.map wd) rfl (by simp only [lw]; omega) (oa hl) ?_
    refine Ce rfl (trim_ok hw (by omega)) ?_
    exact R1 rfl (.eq (by rw [show val lo = x - y by omega]))
theorem cmp_isNaN_int_ok {a : Int} : C0 258 [.d (.int .i64 a)] (· = .b false) := by
  refine En Tryz.func258 fun _ _ => ?_
  exact R1 rfl (by exact (show dc (a ≠ a) = false by rw [Bool.eq_false_iff]; intro h; exact dc_iff.1 h rfl) ▸ .rf rfl)
theorem cmp_isNaN_u32_ok {a : Int} : C0 300 [.d (.int .u32 a)] (· = .b false) := by
  refine En Tryz.func300 fun _ _ => ?_
  exact R1 rfl (by exact (show dc (a ≠ a) = false by rw [Bool.eq_false_iff]; intro h; exact dc_iff.1 h rfl) ▸ .rf rfl)
theorem cmp_Compare_int_ok {a b : Int} : C0 203 [.d (.int .i64 a), .d (.int .i64 b)] (· = .d (.int .i64 (cmpI a b))) := by
  refine En Tryz.func203 fun _ _ => ?_
  refine Ce rfl cmp_isNaN_int_ok ?_
  refine Ce rfl cmp_isNaN_int_ok ?_
  refine No rfl nofun ?_
  refine No rfl nofun ?_
  refine By rfl (fun h => ?_) fun h => ?_
  · exact R1 rfl (.eq (by rw [cmpI, if_pos h]))
  · refine By rfl (fun h1 => ?_) fun h1 => ?_
    · exact R1 rfl (.eq (by rw [cmpI, if_neg h, if_pos h1]))
    · exact R1 rfl (.eq (by rw [cmpI, if_neg h, if_neg h1]))
theorem cmp_Compare_u32_ok {a b : Int} : C0 259 [.d (.int .u32 a), .d (.int .u32 b)] (· = .d (.int .i64 (cmpI a b))) := by
  refine En Tryz.func259 fun _ _ => ?_
  refine Ce rfl cmp_isNaN_u32_ok ?_
  refine Ce rfl cmp_isNaN_u32_ok ?_
  refine No rfl nofun ?_
  refine No rfl nofun ?_
  refine By rfl (fun h => ?_) fun h => ?_
  · exact R1 rfl (.eq (by rw [cmpI, if_pos h]))
  · refine By rfl (fun h1 => ?_) fun h1 => ?_
    · exact R1 rfl (.eq (by rw [cmpI, if_neg h, if_pos h1]))
    · exact R1 rfl (.eq (by rw [cmpI, if_neg h, if_neg h1]))
theorem compare_ok {x y : Nat} (hx : (dig x).length ≤ 1099511627776) : C0 204 [.d (ws (dig x)), .d (ws (dig y))] (· = .d (.int .i64 (cmpI x y))) := by
  refine En Tryz.func204 fun _ _ => ?_
  refine By rfl (fun h => ?_) fun h => ?_ <;> simp only [lw] at h
  · refine Ce rfl cmp_Compare_int_ok ?_
    refine R1 rfl (.eq ?_)
    simp only [lw]
    congr 1
    have hne : (dig x).length ≠ (dig y).length := by omega
    rcases Nat.lt_or_gt_of_ne hne with hl | hl
    · have := lt_of_len hl
      rw [cmpI, cmpI, if_pos (by omega), if_pos (by omega)]
    · have := lt_of_len hl
      rw [cmpI, cmpI, if_neg (by omega), if_pos (by omega), if_neg (by omega), if_pos (by omega)]
  · refine Ar ((dig x).length - 1 : Int) rfl ?_ (wr (by simp only [lw]) (by simp only [inK]; omega))
    refine Lo (fun (k : Nat) => [(0, .d (ws (dig x))), (1, .d (ws (dig y))), (5, .d (.int .i64 ((k : Int) - 1)))]) (fun _ => []) (fun k => k ≤ (dig x).length ∧ (dig x).drop k = (dig y).drop k) (fun k => k) (dig x).length [] rfl ⟨by omega, by rw [List.drop_eq_nil_of_le (by omega), List.drop_eq_nil_of_le (by omega)]⟩ fun k ⟨hk, hd⟩ => ?_
    refine By rfl (fun h1 => ?_) fun h1 => ?_
    · obtain ⟨u, hu⟩ := xat (l := dig x) (k := k - 1) (by omega)
      obtain ⟨v, hv⟩ := xat (l := dig y) (k := k - 1) (by omega)
      refine Dw rfl ?_
      refine Ix (k - 1) rfl (mp hu) ?_
      refine Ix (k - 1) rfl (mp hv) ?_
      refine By rfl (fun h2 => ?_) fun h2 => ?_
      · refine Dw rfl ?_
        refine Ix (k - 1) rfl (mp hu) ?_
        refine Ix (k - 1) rfl (mp hv) ?_
        refine Ce rfl cmp_Compare_u32_ok ?_
        refine R1 rfl (.eq ?_)
        congr 1
        have hne : u ≠ v := by omega
        have hd' : (dig x).drop (k - 1 + 1) = (dig y).drop (k - 1 + 1) := by rw [show k - 1 + 1 = k from by omega]; exact hd
        rcases Nat.lt_or_gt_of_ne hne with hl | hl
        · have := lt_top (words_dig x) (by omega) (by omega) hu hv hd' hl
          rw [val_dig, val_dig] at this
          rw [cmpI, cmpI, if_pos (by omega), if_pos (by omega)]
        · have := lt_top (words_dig y) (by omega) (by omega) hv hu hd'.symm hl
          rw [val_dig, val_dig] at this
          rw [cmpI, cmpI, if_neg (by omega), if_pos (by omega), if_neg (by omega), if_pos (by omega)]
      · refine Ar ((k - 1 : Nat) - 1 : Int) rfl ?_
        refine Bk (k - 1) [] rfl ⟨by omega, ?_⟩ (by show k - 1 < k; omega)
        have huv : u = v := by omega
        rw [List.drop_eq_getElem_cons (l := dig x) (i := k - 1) (by omega), List.drop_eq_getElem_cons (l := dig y) (i := k - 1) (by omega), show k - 1 + 1 = k from by omega, hd]
        rw [List.getElem?_eq_getElem (by omega)] at hu hv
        injection hu with hu
        injection hv with hv
        rw [hu, hv, huv]
    · have hk0 : k = 0 := by omega
      rw [hk0, List.drop_zero, List.drop_zero] at hd
      have hxy : x = y := by rw [← val_dig x, hd, val_dig]
      exact R1 rfl (.eq (by rw [hxy, cmpI, if_neg (by omega), if_neg (by omega)]))
end
section
theorem bvor {a b n : Nat} (ha : a < 2 ^ n) (hb : b < 2 ^ n) : (BitVec.ofInt n (a : Int) ||| BitVec.ofInt n (b : Int)).toNat = a ||| b := by
  simp [BitVec.toNat_or, BitVec.toNat_ofInt]
  rw [Nat.mod_eq_of_lt ha, Nat.mod_eq_of_lt hb]
theorem or32 {a b r : Nat} (ha : a < 4294967296) (hb : b < 4294967296) (h : a ||| b = r) (hr : r < 4294967296) : arB .or .u32 a b r := by
  show IntKind.u32.wrap _ = _
  rw [show IntKind.bits .u32 = 32 from rfl, bvor ha hb, h]
  exact wW (by omega)
theorem or64 {a b r : Nat} (ha : a < 18446744073709551616) (hb : b < 18446744073709551616) (h : a ||| b = r) (hr : r < 18446744073709551616) : arB .or .u64 a b r := by
  show IntKind.u64.wrap _ = _
  rw [show IntKind.bits .u64 = 64 from rfl, bvor ha hb, h]
  exact wU (by omega)
theorem shl64 {u n r : Nat} (h : u * 2 ^ n = r) (hr : r < 18446744073709551616) (hn : n ≤ 64) : arB .shl .u64 u n r := ⟨by omega, by subst h; exact shl_eq hr hn⟩
theorem clone_u32_ok {l : List Nat} (hl : l.length ≤ 1099511627776) : C0 246 [.d (ws l)] (· = .d (ws l)) := by
  refine En Tryz.func246 fun _ _ => ?_
  refine Ub rfl (fun h => ?_) ?_
  · exact R1 rfl (.nil h)
  · by_cases h : l = []
    · subst h
      refine ApE rfl rfl (by decide) ?_
      exact R1 rfl (.lit rfl)
    · have h0 := List.length_pos_iff.2 h
      refine ApL (l.map wd) rfl rfl (by simpa using h0) (by simpa using hl) ?_
      exact R1 rfl (.own rfl (by simp) (by simp only [List.drop_zero]; exact List.take_of_length_le (by simp)))
theorem times_ok {x y : Nat} (hx : (dig x).length ≤ 549755813888) (hy : (dig y).length ≤ 549755813888) : C0 187 [.d (ws (dig x)), .d (ws (dig y))] (· = .d (ws (dig (x * y)))) := by
  have hz : ∀ {x : Nat}, (dig x).length = 0 → x = 0 := fun h => dig_eq_nil.1 (List.eq_nil_of_length_eq_zero h)
  refine En Tryz.func187 fun _ _ => ?_
  refine By rfl (fun h => ?_) fun h => ?_ <;> simp only [lw] at h
  · exact R1 rfl (.nil (by rw [hz (by omega : (dig x).length = 0), Nat.zero_mul, dig_zero]; rfl))
  refine By rfl (fun h => ?_) fun h => ?_ <;> simp only [lw] at h
  · exact R1 rfl (.nil (by rw [hz (by omega : (dig y).length = 0), Nat.mul_zero, dig_zero]; rfl))
  refine Ar ((dig x).length + (dig y).length : Nat) rfl ?_ (wr (by simp only [lw]; omega) (by simp only [inK]; omega))
  refine Mk ((dig x).length + (dig y).length) rfl (by omega) ?_
  refine Lo (fun (i, lo) => [(1, .d (ws (dig y))), (5, .own 24 1 0 ((dig x).length + (dig y).length)), (25, .d (ws (dig x))), (26, .d (.int .i64 (dig x).length)), (27, .d (.int .i64 (i : Nat)))]) (fun (_, lo) => [(24, .arr 1 (lo.map wd))])
    (fun (i, lo) => i ≤ (dig x).length ∧ lo.length = (dig x).length + (dig y).length ∧ Words lo ∧ val (lo.take (i + (dig y).length)) = val ((dig x).take i) * y ∧ ∀ j, i + (dig y).length ≤ j → j < (dig x).length + (dig y).length → lo[j]? = some 0) (fun (i, _) => (dig x).length - i)
    (0, List.replicate ((dig x).length + (dig y).length) 0) [] rfl ⟨by omega, by simp, fun _ h => by rw [(List.mem_replicate.1 h).2]; omega, by rw [List.take_replicate, val_zeros]; simp [val], fun j _ h => by rw [List.getElem?_replicate, if_pos h]⟩ ?_ (by exact ⟨by simp only [lw, ws]; rfl, by simp only [List.map_replicate]; rfl, rfl, rfl, rfl⟩)
  rintro ⟨i, lo0⟩ ⟨hi, hl0, hw0, hval, hz0⟩
  refine By rfl (fun h => ?_) fun h => ?_
  · obtain ⟨u, hu⟩ := xat (l := dig x) (k := i) (by omega)
    have hub := ww hu (words_dig x)
    refine Ix i rfl (mp hu) ?_
    refine Lo (fun (k, lo, cr) => [(1, .d (ws (dig y))), (5, .own 24 1 0 ((dig x).length + (dig y).length)), (6, .d (.int .i64 i)), (7, .d (.int .u32 u)), (8, .d (.int .u64 (cr : Nat))), (25, .d (ws (dig x))), (26, .d (.int .i64 (dig x).length)), (27, .d (.int .i64 i)), (32, .d (ws (dig y))), (33, .d (.int .i64 (dig y).length)), (34, .d (.int .i64 (k : Nat)))]) (fun (_, lo, _) => [(24, .arr 1 (lo.map wd))])
      (fun (k, lo, cr) => k ≤ (dig y).length ∧ lo.length = (dig x).length + (dig y).length ∧ Words lo ∧ cr < 4294967296 ∧ (∀ j, i + k ≤ j → lo[j]? = lo0[j]?) ∧ val (lo.take (i + k)) + 4294967296 ^ (i + k) * cr = val (lo0.take (i + k)) + 4294967296 ^ i * (u * val ((dig y).take k))) (fun (k, _, _) => (dig y).length - k)
      (0, lo0, 0) [] rfl ⟨by omega, hl0, hw0, by omega, fun _ _ => rfl, by simp [val]⟩ ?_ (by exact ⟨by simp only [lw, ws]; rfl, rfl, rfl, rfl, rfl⟩)
    rintro ⟨k, lo, cr⟩ ⟨hk, hl, hw, hcr, hrest, hval2⟩
    refine By rfl (fun h => ?_) fun h => ?_
    · obtain ⟨v, hv⟩ := xat (l := dig y) (k := k) (by omega)
      have hvb := ww hv (words_dig y)
      obtain ⟨w, hw1⟩ := xat (l := lo) (k := i + k) (by omega)
      have hwb := ww hw1 hw
      have huv : u * v ≤ 4294967295 * 4294967295 := Nat.mul_le_mul (by omega) (by omega)
      refine Ix k rfl (mp hv) ?_
      refine Cv u rfl ?_
      refine Cv v rfl ?_
      refine Ar (u * v : Nat) rfl ?_ (wr (Int.natCast_mul ..).symm (by simp only [inK]; omega))
      refine Ar (i + k : Nat) rfl ?_
      refine Eo (i + k) rfl (by omega) ?_
      refine Ld (wd w) rfl (mp hw1) ?_
      refine Cv w rfl ?_
      refine Ar (u * v + w : Nat) rfl ?_
      obtain ⟨s, hs⟩ : ∃ s, s = cr + (u * v + w) := ⟨_, rfl⟩
      have hs2 : s < 18446744073709551616 := by omega
      refine Ar (s : Nat) rfl ?_
      refine Ar (i + k : Nat) rfl ?_
      refine Cv (s % 4294967296 : Nat) rfl ?_ (by rw [wWm]; omega)
      refine Eo (i + k) rfl (by omega) ?_
      refine Sto rfl (by simp only [lw]; omega) ms ?_
      refine Ar (s / 4294967296 : Nat) rfl ?_ (shrA (n := 32) (by decide))
      refine Ar (k + 1 : Nat) rfl ?_
      refine Bk (k + 1, lo.set (i + k) (s % 4294967296), s / 4294967296) [] rfl ⟨by omega, by simp [hl], fun x hx => (List.mem_or_eq_of_mem_set hx).elim (hw x) fun e => by rw [e]; omega, by omega, fun j hj => by rw [List.getElem?_set_ne (by omega)]; exact hrest j (by omega), ?_⟩ (by show _ - (k + 1) < _ - k; omega)
      have hw0' : lo0[i + k]? = some w := by rw [← hrest (i + k) (Nat.le_refl _)]; exact hw1
      rw [← Nat.add_assoc, val_set (by omega), val_take_succ hw0', val_take_succ hv, Nat.pow_succ, Nat.mul_assoc, Nat.mul_add u, Nat.mul_add (4294967296 ^ i)]
      have e : 4294967296 ^ (i + k) * s = 4294967296 ^ (i + k) * (s % 4294967296) + 4294967296 ^ (i + k) * (4294967296 * (s / 4294967296)) := by rw [← Nat.mul_add]; congr 1; omega
      have e2 : 4294967296 ^ (i + k) * s = 4294967296 ^ (i + k) * cr + 4294967296 ^ i * (u * (4294967296 ^ k * v)) + 4294967296 ^ (i + k) * w := by
        rw [hs, Nat.mul_add, Nat.mul_add, Nat.pow_add]
        have : 4294967296 ^ i * 4294967296 ^ k * (u * v) = 4294967296 ^ i * (u * (4294967296 ^ k * v)) := by
          rw [Nat.mul_assoc, Nat.mul_left_comm (4294967296 ^ k) u v]
        omega
      omega
    · have hkm : k = (dig y).length := by omega
      subst hkm
      refine Ar (i + (dig y).length : Nat) rfl ?_ (wr (by simp only [lw]; omega) (by simp only [inK]; omega))
      refine Cv cr rfl ?_
      refine Eo (i + (dig y).length) rfl (by omega) ?_
      refine Sto rfl (by simp only [lw]; omega) ms ?_
      refine Ar (i + 1 : Nat) rfl ?_
      refine Bk (i + 1, lo.set (i + (dig y).length) cr) [] rfl ⟨by omega, by simp [hl], fun x hx => (List.mem_or_eq_of_mem_set hx).elim (hw x) fun e => by rw [e]; omega, ?_, fun j h1 h2 => by rw [List.getElem?_set_ne (by omega), hrest j (by omega)]; exact hz0 j (by omega) h2⟩ (by show _ - (i + 1) < _ - i; omega)
      rw [show i + 1 + (dig y).length = i + (dig y).length + 1 from by omega, val_set (by omega), val_take_succ hu, hval2, hval, List.take_of_length_le (l := dig y) (by omega), val_dig, Nat.add_mul, Nat.mul_assoc]
  · have him : i = (dig x).length := by omega
    rw [him, List.take_of_length_le (by omega), List.take_of_length_le (by omega), val_dig] at hval
    refine Fz 17 5 (lo0.map wd) rfl (by simp only [lw]; omega) (oa hl0) ?_
    refine Ce rfl (trim_ok hw0 (by omega)) ?_
    exact R1 rfl (.eq (by rw [hval]))
end
section
theorem wset {l : List Nat} {k d : Nat} (h : Words l) (hd : d < 4294967296) : Words (l.set k d) := fun x hx => (List.mem_or_eq_of_mem_set hx).elim (h x) fun e => by rw [e]; exact hd
theorem wzero (n : Nat) : Words (List.replicate n 0) := fun _ h => by rw [(List.mem_replicate.1 h).2]; omega
theorem shl_lt {u n : Nat} (hu : u < 4294967296) (hn : n < 32) : u * 2 ^ n < 9223372036854775808 := by
  have h1 : 2 ^ n ≤ 2 ^ 31 := Nat.pow_le_pow_right (by decide) (by omega)
  have h2 : u * 2 ^ n ≤ 4294967295 * 2 ^ 31 := Nat.mul_le_mul (by omega) h1
  omega
theorem shr_digit {u v n : Nat} (hu : u < 4294967296) (hn : n < 32) : (u / 2 ^ n) ||| (v * 2 ^ (32 - n) % 4294967296) = u / 2 ^ n + (v % 2 ^ n) * 2 ^ (32 - n) ∧ u / 2 ^ n + (v % 2 ^ n) * 2 ^ (32 - n) < 4294967296 := by
  have h1 := mul_mod_pow v (32 - n) (by omega)
  rw [show 32 - (32 - n) = n from by omega] at h1
  have hd : u / 2 ^ n < 2 ^ (32 - n) := by
    rw [Nat.div_lt_iff_lt_mul (Nat.two_pow_pos n), ← Nat.pow_add, show 32 - n + n = 32 from by omega]
    exact hu
  rw [h1, Nat.or_comm, or_add _ _ _ hd, Nat.add_comm]
  refine ⟨rfl, ?_⟩
  have h2 : v % 2 ^ n + 1 ≤ 2 ^ n := Nat.mod_lt _ (Nat.two_pow_pos _)
  have h3 := Nat.mul_le_mul_right (2 ^ (32 - n)) h2
  rw [← Nat.pow_add, show n + (32 - n) = 32 from by omega, Nat.succ_mul] at h3
  omega
theorem shr_step {a b u v n m P : Nat} (hn : n < 32) (h : a * 2 ^ n + b = P + 4294967296 ^ m * (u % 2 ^ n)) :
    (a + 4294967296 ^ m * (u / 2 ^ n + (v % 2 ^ n) * 2 ^ (32 - n))) * 2 ^ n + b = P + 4294967296 ^ m * u + 4294967296 ^ (m + 1) * (v % 2 ^ n) := by
  have hB : 4294967296 ^ (m + 1) = 4294967296 ^ m * 4294967296 := Nat.pow_succ ..
  have e2 : v % 2 ^ n * 2 ^ (32 - n) * 2 ^ n = 4294967296 * (v % 2 ^ n) := by
    rw [Nat.mul_assoc, ← Nat.pow_add, show 32 - n + n = 32 from by omega, Nat.mul_comm]
  rw [Nat.add_mul, Nat.mul_assoc (4294967296 ^ m), Nat.add_mul (u / 2 ^ n), e2, hB, Nat.mul_assoc (4294967296 ^ m), Nat.mul_add (4294967296 ^ m)]
  have e : 4294967296 ^ m * u = 4294967296 ^ m * (u / 2 ^ n * 2 ^ n) + 4294967296 ^ m * (u % 2 ^ n) := by
    rw [← Nat.mul_add]; congr 1; rw [Nat.mul_comm (u / 2 ^ n)]; exact (Nat.div_add_mod ..).symm
  omega
theorem shiftLeft_ok {n x : Nat} (hx : (dig x).length ≤ 549755813888) (hn32 : n < 32) : CO0 291 [.d (ws (dig x)), .d (.int .i64 n)] fun v ob => ∃ l, l.length = (dig x).length + 1 ∧ Words l ∧ val l = x * 2 ^ n ∧ v = .own 1000000 1 0 l.length ∧ ob = .arr 1 (l.map wd) := by
  have hp := Nat.two_pow_pos n
  have hp32 : 2 ^ n ≤ 2147483648 := by have : 2 ^ n ≤ 2 ^ 31 := Nat.pow_le_pow_right (by decide) (by omega); omega
  refine EnW Tryz.func291 fun _ _ _ => ?_
  refine Ar ((dig x).length + 1 : Nat) rfl ?_ (wr (by simp only [lw]; omega) (by simp only [inK]; omega))
  refine Mk ((dig x).length + 1) rfl (by omega) ?_
  refine Lo (fun (i, lo) => [(1, .d (.int .i64 n)), (5, .own 12 1 0 ((dig x).length + 1)), (13, .d (ws (dig x))), (14, .d (.int .i64 (dig x).length)), (15, .d (.int .i64 (i : Nat)))]) (fun (_, lo) => [(12, .arr 1 (lo.map wd))])
    (fun (i, lo) => i ≤ (dig x).length ∧ lo.length = (dig x).length + 1 ∧ Words lo ∧ val (lo.take (i + 1)) = val ((dig x).take i) * 2 ^ n ∧ ∃ w, lo[i]? = some w ∧ w < 2 ^ n) (fun (i, _) => (dig x).length - i) (0, List.replicate ((dig x).length + 1) 0) [] rfl
    ⟨by omega, by simp, wzero _, by rw [List.take_replicate, val_zeros]; simp [val], 0, by simp, hp⟩ ?_ (by exact ⟨by simp only [lw, ws]; rfl, by simp only [List.map_replicate]; rfl, rfl, rfl, rfl⟩)
  rintro ⟨i, lo⟩ ⟨hi, hl, hwo, hval, w, hw, hwn⟩
  refine By rfl (fun h => ?_) fun h => ?_
  · obtain ⟨u, hu⟩ := xat (l := dig x) (k := i) (by omega)
    have hub := ww hu (words_dig x)
    have hs1 := shl_lt hub hn32
    have hs2 := mul_mod_pow u n (by omega)
    obtain ⟨s, hs⟩ : ∃ s, s = u * 2 ^ n := ⟨_, rfl⟩
    have hshl := shl64 hs.symm (by omega) (by omega : n ≤ 64)
    rw [← hs] at hs1 hs2
    have hor : w ||| s % 4294967296 = s % 4294967296 + w := by rw [Nat.or_comm, hs2]; exact or_add _ _ _ hwn
    have hlt : s % 4294967296 + w < 4294967296 := by
      rw [hs2]
      have h1 : u % 2 ^ (32 - n) + 1 ≤ 2 ^ (32 - n) := Nat.mod_lt _ (Nat.two_pow_pos _)
      have h2 := Nat.mul_le_mul_right (2 ^ n) h1
      rw [← Nat.pow_add, show 32 - n + n = 32 from by omega, Nat.succ_mul] at h2
      omega
    refine Ix i rfl (mp hu) ?_
    refine Cv u rfl ?_
    refine Ar s rfl ?_ hshl
    refine Eo i rfl (by omega) ?_
    refine Ld (wd w) rfl (mp hw) ?_
    refine Cv (s % 4294967296 : Nat) rfl ?_ (by rw [wWm]; omega)
    refine Ar (s % 4294967296 + w : Nat) rfl ?_ (or32 (by omega) (by omega) hor hlt)
    refine Eo i rfl (by omega) ?_
    refine Sto rfl (by simp only [lw]; omega) ms ?_
    refine Ar (i + 1 : Nat) rfl ?_
    refine Ar (s / 4294967296 : Nat) rfl ?_ (shrA (n := 32) (by decide))
    refine Cv (s / 4294967296 : Nat) rfl ?_
    refine Eo (i + 1) rfl (by omega) ?_
    refine Sto rfl (by simp only [List.length_map, List.length_set]; omega) ms ?_
    refine Ar (i + 1 : Nat) rfl ?_
    refine Bk (i + 1, (lo.set i (s % 4294967296 + w)).set (i + 1) (s / 4294967296)) [] rfl ⟨by omega, by simp [hl], wset (wset hwo hlt) (by omega), ?_, s / 4294967296, by rw [List.getElem?_set_self (by rw [List.length_set]; omega)], ?_⟩ (by show _ - (i + 1) < _ - i; omega)
    · rw [val_set (by rw [List.length_set]; omega), val_set (by omega), val_take_succ hu, Nat.add_mul, ← hval, val_take_succ hw, Nat.mul_assoc, ← hs, Nat.pow_succ, Nat.mul_add, Nat.mul_assoc]
      have e : 4294967296 ^ i * s = 4294967296 ^ i * (s % 4294967296) + 4294967296 ^ i * (4294967296 * (s / 4294967296)) := by rw [← Nat.mul_add]; congr 1; omega
      omega
    · rw [Nat.div_lt_iff_lt_mul (by decide), hs, Nat.mul_comm]
      exact Nat.mul_lt_mul_of_pos_left hub hp
  · have him : i = (dig x).length := by omega
    rw [him, List.take_of_length_le (by omega), List.take_of_length_le (by omega), val_dig] at hval
    exact Rw [(12, 1000000)] [(1000000, .arr 1 (lo.map wd))] rfl (.one (.rf rfl) rfl rfl) ⟨_, rfl, lo, hl, hwo, hval, by rw [hl]; rfl, rfl⟩
theorem shiftRight_ok {n : Nat} {l : List Nat} (hw : Words l) (hx : l.length ≤ 549755813888) (hn32 : n < 32) : C0 294 [.d (ws l), .d (.int .i64 n)] fun v => ∃ l', val l' = val l / 2 ^ n ∧ Words l' ∧ l'.length = l.length ∧ v = .d (ws l') := by
  have hp := Nat.two_pow_pos n
  have hp32 : 2 ^ n ≤ 2147483648 := by have : 2 ^ n ≤ 2 ^ 31 := Nat.pow_le_pow_right (by decide) (by omega); omega
  refine En Tryz.func294 fun _ _ => ?_
  refine Mk l.length rfl (by simp only [lw]; omega) ?_ (by simp only [lw])
  refine Lo (fun (i, lo) => [(0, .d (ws l)), (1, .d (.int .i64 n)), (5, .own 10 1 0 l.length), (11, .d (ws l)), (12, .d (.int .i64 l.length)), (13, .d (.int .i64 (i : Nat)))]) (fun (_, lo) => [(10, .arr 1 (lo.map wd))])
    (fun (i, lo) => i ≤ l.length ∧ lo.length = l.length ∧ Words lo ∧ val (lo.take i) * 2 ^ n + val l % 2 ^ n = val (l.take i) + 4294967296 ^ i * (l.getD i 0 % 2 ^ n)) (fun (i, _) => l.length - i) (0, List.replicate l.length 0) [] rfl
    ⟨by omega, by simp, wzero _, by simp [val, val_mod_pow l n (by omega)]⟩ ?_ (by exact ⟨by simp only [lw, ws]; rfl, by simp only [List.map_replicate]; rfl, rfl, rfl, rfl⟩)
  rintro ⟨i, lo⟩ ⟨hi, hl, hwo, hval⟩
  refine By rfl (fun h => ?_) fun h => ?_
  · obtain ⟨u, hu⟩ := xat (l := l) (k := i) (by omega)
    have hub := ww hu hw
    have hdu : u / 2 ^ n < 4294967296 := Nat.lt_of_le_of_lt (Nat.div_le_self ..) hub
    have hgu : l.getD i 0 = u := by rw [List.getD_eq_getElem?_getD, hu]; rfl
    rw [hgu] at hval
    refine Ix i rfl (mp hu) ?_
    refine Ar (u / 2 ^ n : Nat) rfl ?_ (shrA (show n ≤ 32 by omega))
    refine Eo i rfl (by omega) ?_
    refine Sto rfl (by simp only [lw]; omega) ms ?_
    refine Ar (i + 1 : Nat) rfl ?_
    refine Cu none (fun lo' : List Nat => [(0, .d (ws l)), (1, .d (.int .i64 n)), (5, .own 10 1 0 l.length), (11, .d (ws l)), (12, .d (.int .i64 l.length)), (13, .d (.int .i64 i))]) (fun lo' => [(10, .arr 1 (lo'.map wd))])
      (fun lo' => ∃ v, l.getD (i + 1) 0 = v ∧ lo' = lo.set i (u / 2 ^ n + (v % 2 ^ n) * 2 ^ (32 - n)) ∧ u / 2 ^ n + (v % 2 ^ n) * 2 ^ (32 - n) < 4294967296) rfl ?_ ?_
    · refine By rfl (fun h2 => ?_) fun h2 => ?_ <;> simp only [lw] at h2
      · obtain ⟨v, hv⟩ := xat (l := l) (k := i + 1) (by omega)
        have hvb := ww hv hw
        have hsd := shr_digit (v := v) hub hn32
        have hv64 : v * 2 ^ (32 - n) < 18446744073709551616 := by
          have h1 : 2 ^ (32 - n) ≤ 2 ^ 32 := Nat.pow_le_pow_right (by decide) (by omega)
          have h2 : v * 2 ^ (32 - n) ≤ 4294967295 * 2 ^ 32 := Nat.mul_le_mul (by omega) h1
          omega
        obtain ⟨s, hs⟩ : ∃ s, s = v * 2 ^ (32 - n) := ⟨_, rfl⟩
        have hshl := shl64 hs.symm (by omega) (by omega : 32 - n ≤ 64)
        rw [← hs] at hsd hv64
        refine Dw rfl ?_
        refine Eo i rfl (by omega) ?_
        refine Ld (wd (u / 2 ^ n)) rfl (mp (List.getElem?_set_self (by omega))) ?_
        refine Ar (i + 1 : Nat) rfl ?_
        refine Ix (i + 1) rfl (mp hv) ?_
        refine Cv v rfl ?_
        refine Ar (32 - n : Nat) rfl ?_
        refine Ar s rfl ?_ hshl
        refine Cv (s % 4294967296 : Nat) rfl ?_ (by rw [wWm]; omega)
        refine Ar (u / 2 ^ n + (v % 2 ^ n) * 2 ^ (32 - n) : Nat) rfl ?_ (or32 hdu (by omega) hsd.1 hsd.2)
        refine Eo i rfl (by omega) ?_
        refine Sto rfl (by simp only [List.length_map, List.length_set]; omega) ms ?_
        exact Jn (lo.set i (u / 2 ^ n + (v % 2 ^ n) * 2 ^ (32 - n))) [] rfl ⟨v, by rw [List.getD_eq_getElem?_getD, hv]; rfl, rfl, hsd.2⟩ (by exact ⟨rfl, by rw [List.set_set]; rfl, rfl, rfl, rfl⟩)
      · exact Jn (lo.set i (u / 2 ^ n)) [] rfl ⟨0, by rw [List.getD_eq_getElem?_getD, List.getElem?_eq_none (by omega)]; rfl, by simp, by simp; exact hdu⟩
    rintro lo' ⟨v, hv, rfl, hlt⟩
    refine Ar (i + 1 : Nat) rfl ?_
    refine Bk (i + 1, lo.set i (u / 2 ^ n + (v % 2 ^ n) * 2 ^ (32 - n))) [] rfl ⟨by omega, by simp [hl], wset hwo hlt, ?_⟩ (by show _ - (i + 1) < _ - i; omega)
    rw [val_set (by omega), val_take_succ hu, hv]
    exact shr_step hn32 hval
  · have him : i = l.length := by omega
    rw [him, List.take_of_length_le (by omega), List.take_of_length_le (by omega), List.getD_eq_getElem?_getD, List.getElem?_eq_none (by omega)] at hval
    refine Rt rfl (.one (.own rfl (by simp only [lw]; omega) (oa hl)) rfl rfl) ⟨lo, ?_, hwo, hl, rfl⟩
    simp at hval
    have := Nat.div_add_mod (val l) (2 ^ n)
    rw [Nat.mul_comm] at this
    exact Nat.eq_of_mul_eq_mul_right hp (by omega)
theorem divideWord_ok {x y : Nat} (hx : (dig x).length ≤ 549755813888) (hy : y < 4294967296) (hy0 : y ≠ 0) : C0 289 [.d (ws (dig x)), .d (.int .u32 y)] (· = .tup (.pr (.d (ws (dig (x / y)))) (.d (ws (dig (x % y)))))) := by
  refine En Tryz.func289 fun _ _ => ?_
  refine Mk (dig x).length rfl (by simp only [lw]; omega) ?_ (by simp only [lw])
  refine Ar ((dig x).length - 1 : Int) rfl ?_ (wr (by simp only [lw]) (by simp only [inK]; omega))
  refine Lo (fun (k, lo, r) => [(0, .d (ws (dig x))), (1, .d (.int .u32 y)), (6, .own 11 1 0 (dig x).length), (7, .d (.int .u64 (r : Nat))), (8, .d (.int .i64 ((k : Nat) - 1 : Int)))]) (fun (_, lo, _) => [(11, .arr 1 (lo.map wd))])
    (fun (k, lo, r) => k ≤ (dig x).length ∧ lo.length = (dig x).length ∧ Words lo ∧ r < y ∧ val (lo.drop k) * y + r = val ((dig x).drop k)) (fun (k, _, _) => k) ((dig x).length, List.replicate (dig x).length 0, 0) [] rfl
    ⟨by omega, by simp, wzero _, by omega, by rw [List.drop_eq_nil_of_le (by simp), List.drop_eq_nil_of_le (by omega)]; simp [val]⟩ ?_ (by exact ⟨rfl, by simp only [List.map_replicate]; rfl, rfl, rfl, rfl⟩)
  rintro ⟨k, lo, r⟩ ⟨hk, hl, hwo, hr, hval⟩
  refine By rfl (fun h => ?_) fun h => ?_
  · obtain ⟨u, hu⟩ := xat (l := dig x) (k := k - 1) (by omega)
    have hub := ww hu (words_dig x)
    obtain ⟨s, hs⟩ : ∃ s, s = r * 2 ^ 32 + u := ⟨_, rfl⟩
    have hs64 : s < 18446744073709551616 := by omega
    have hsy : s / y < 4294967296 := by
      rw [Nat.div_lt_iff_lt_mul (by omega)]
      have := Nat.mul_le_mul_right 4294967296 (show r + 1 ≤ y by omega)
      omega
    have hsm : s % y < y := Nat.mod_lt _ (by omega)
    have hq0 : 0 ≤ s / y := Nat.zero_le _
    refine Ar (r * 2 ^ 32 : Nat) rfl ?_ (shl64 (n := 32) rfl (by omega) (by decide))
    refine Ix (k - 1) rfl (mp hu) ?_
    refine Cv u rfl ?_
    refine Ar s rfl ?_ (or64 (by omega) (by omega) (by rw [or_add u r 32 (by omega), ← hs]) hs64)
    refine Cv y rfl ?_
    refine Ar (s / y : Nat) rfl ?_ (show _ ∧ _ from ⟨by omega, tquo s y hs64⟩)
    refine Cv (s / y : Nat) rfl ?_ (wW ⟨Int.natCast_nonneg _, Int.ofNat_lt.2 hsy⟩)
    refine Eo (k - 1) rfl (by omega) ?_
    refine Sto rfl (by simp only [lw]; omega) ms ?_
    refine Cv y rfl ?_
    refine Ar (s % y : Nat) rfl ?_ (show _ ∧ _ from ⟨by omega, trem s y⟩)
    refine Ar ((k - 1 : Nat) - 1 : Int) rfl ?_
    refine Bk (k - 1, lo.set (k - 1) (s / y), s % y) [] rfl ⟨by omega, by simp [hl], wset hwo hsy, hsm, ?_⟩ (by show k - 1 < k; omega)
    rw [val_drop hu, show k - 1 + 1 = k from by omega, ← hval, drop_set (by omega), val, show k - 1 + 1 = k from by omega]
    have e := Nat.div_add_mod s y
    rw [Nat.mul_comm] at e
    rw [Nat.add_mul, Nat.mul_add, Nat.mul_assoc]
    omega
  · have hk0 : k = 0 := by omega
    subst hk0
    rw [List.drop_zero, List.drop_zero, val_dig] at hval
    have hq : x / y = val lo := by rw [← hval, Nat.mul_comm, Nat.mul_add_div (by omega), Nat.div_eq_of_lt hr, Nat.add_zero]
    have hm : x % y = r := by rw [← hval, Nat.mul_comm, Nat.mul_add_mod, Nat.mod_eq_of_lt hr]
    refine Fz 9 6 (lo.map wd) rfl (by simp only [lw]; omega) (oa hl) ?_
    refine Ce rfl (trim_ok hwo (by omega)) ?_
    refine Ce rfl (fromUint_ok (n := r) (by omega)) ?_
    subst hm
    exact RTt rfl (.cons (.eq (by rw [hq])) (.one (.rf rfl) (fun _ _ e => by cases e) (fun _ _ e => by cases e)))
theorem Len32_ok {x : Nat} (hx : x < 4294967296) : C0 312 [.d (.int .u32 x)] (· = .d (.int .i64 (bl x))) := by
  refine En Tryz.func312 fun _ _ => ?_
  refine Cu none (fun ((x1, n1) : Nat × Nat) => [(0, .d (.int .u32 x1)), (2, .d (.int .i64 n1))]) (fun _ => []) (fun (x1, n1) => x1 < 65536 ∧ bl x = bl x1 + n1 ∧ n1 ≤ 16) rfl ?_ fun ⟨x1, n1⟩ ⟨hx1, hb1, hn1⟩ => ?_
  · refine By rfl (fun h => ?_) fun h => ?_
    · refine Ar (x / 2 ^ 16 : Nat) rfl ?_ (shrA (n := 16) (by decide))
      exact Jn (x / 2 ^ 16, 16) [] rfl ⟨by omega, bl_shift (by omega), Nat.le_refl _⟩
    · exact Jn (x, 0) [] rfl ⟨by omega, rfl, by omega⟩
  refine Cu none (fun ((x1, n1) : Nat × Nat) => [(0, .d (.int .u32 x1)), (2, .d (.int .i64 n1))]) (fun _ => []) (fun (x1, n1) => x1 < 256 ∧ bl x = bl x1 + n1 ∧ n1 ≤ 24) rfl ?_ fun ⟨x2, n2⟩ ⟨hx2, hb2, hn2⟩ => ?_
  · refine By rfl (fun h => ?_) fun h => ?_
    · refine Ar (x1 / 2 ^ 8 : Nat) rfl ?_ (shrA (n := 8) (by decide))
      refine Ar (n1 + 8 : Nat) rfl ?_
      exact Jn (x1 / 2 ^ 8, n1 + 8) [] rfl ⟨by omega, by rw [hb1, bl_shift (n := x1) (k := 8) (by omega)]; omega, by omega⟩
    · exact Jn (x1, n1) [] rfl ⟨by omega, hb1, by omega⟩
  have hbl : bl x2 < 256 := Nat.lt_of_lt_of_le (fin256 (p := fun j => bl j < 10) (by decide +kernel) x2 hx2) (by decide)
  refine Cv x2 rfl ?_
  refine Yx x2 (UInt8.ofNat (bl x2)) rfl (by revert hx2; generalize x2 = j; revert j; decide +kernel) ?_
  refine Cv (bl x2 : Nat) rfl ?_ ((wI ⟨by omega, by rw [u8nat hbl]; omega⟩).trans (u8nat hbl))
  refine Ar (bl x : Nat) rfl ?_
  exact R0
theorem LeadingZeros32_ok {x : Nat} (hx : x < 4294967296) (h0 : x ≠ 0) : C0 290 [.d (.int .u32 x)] fun v => ∃ n : Nat, v = .d (.int .i64 n) ∧ n < 32 ∧ 2147483648 ≤ x * 2 ^ n ∧ x * 2 ^ n < 4294967296 := by
  obtain ⟨b1, b2, b3⟩ := bl_bounds h0
  have hb32 : bl x ≤ 32 := by
    have : 2 ^ (bl x - 1) < 2 ^ 32 := Nat.lt_of_le_of_lt b1 hx
    have := (Nat.pow_lt_pow_iff_right (by decide : 1 < 2)).1 this
    omega
  refine En Tryz.func290 fun _ _ => ?_
  refine Ce rfl (Len32_ok hx) ?_
  refine Ar (32 - bl x : Nat) rfl ?_
  refine Rt rfl (.one (.rf rfl) rfl rfl) ⟨32 - bl x, rfl, by omega, ?_, ?_⟩
  · have h1 := Nat.mul_le_mul_right (2 ^ (32 - bl x)) b1
    rw [← Nat.pow_add, show bl x - 1 + (32 - bl x) = 31 from by omega] at h1
    exact h1
  · have h1 := Nat.mul_lt_mul_of_pos_right b2 (Nat.two_pow_pos (32 - bl x))
    rw [← Nat.pow_add, show bl x + (32 - bl x) = 32 from by omega] at h1
    exact h1
end
section
open Go.RowKit Go.Shelf
attribute [local go_sem] Oper.semAt_some
abbrev Wd := { x : Nat // x < 4294967296 }
/-- what has come when k rounds are over -/
def bk (zs : List Wd) (k : Nat) : List (Nat × Wd) := (List.range k).map fun j => (zs.length - 1 - j, zs[zs.length - 1 - j]?.getD ⟨0, by decide⟩)
theorem bk_succ (zs : List Wd) (k : Nat) : bk zs (k + 1) = bk zs k ++ [(zs.length - 1 - k, zs[zs.length - 1 - k]?.getD ⟨0, by decide⟩)] := by simp [bk, List.range_succ]
theorem bk_length (zs : List Wd) (k : Nat) : (bk zs k).length = k := by simp [bk]
/-- what a round keeps -/
structure Kq (n₀ Bs : Nat) (A B : World) : Prop where
  a : Below n₀ A B
  b : B.heap[Bs]? = A.heap[Bs]?
theorem Kq.refl (n₀ Bs : Nat) (A : World) : Kq n₀ Bs A A := ⟨Below.refl _ _, rfl⟩
theorem Kq.trans {n₀ Bs : Nat} {A B C : World} (h : Kq n₀ Bs A B) (k : Kq n₀ Bs B C) : Kq n₀ Bs A C := ⟨h.a.trans k.a, k.b.trans h.b⟩
set_option maxRecDepth 100000 in
set_option maxHeartbeats 2000000 in
theorem back1_in (F : Fence) (n : Nat) (h8 : F.fn 313) (hro : F.round = none) (hn : 1 ≤ n) (l Bs n₀ b off cap : Nat) (zs : List Wd) (hreach : zs.length * 4 ≤ 140737488351232) (hb : b < n₀) (J Jx : List (Nat × Wd) → World → Prop)
    (hY : ∀ pre x W, J pre W → pre.length < zs.length → YieldAt F (n - 1) Tryz.prog l #[.int .i64 (x.1 : Int), .int .u32 (x.2.1 : Int)] W fun e W' =>
      (e = .returned (.bool true) ∧ J (pre ++ [x]) W' ∧ Kq n₀ Bs W W') ∨ (e = .returned (.bool false) ∧ Jx (pre ++ [x]) W'))
    (W : World) (hBs : W.cell? ⟨Bs, 0, none⟩ = some (.slice (some ⟨b, off, none⟩) zs.length cap)) (hc : ∀ j, j < zs.length → W.cell? ⟨b, off + j, none⟩ = some (.int .u32 ((zs[j]?.getD ⟨0, by decide⟩).1 : Int))) (h0 : J [] W) :
    CallsIn F n Tryz.prog 313 #[.func (.yield l) #[] #[], .pointer (some ⟨Bs, 0, none⟩)] W fun e W' => (∃ v, e = .returned v) ∧
      ((∃ ys, ys = bk zs zs.length ∧ J ys W') ∨ (∃ pre, True ∧ Jx pre W')) := by
  refine callsIn_of_wp Tryz.func313 rfl h8 ?_ hro
  simp only [Tryz.ntmps313, List.size_toArray, List.length_cons, List.length_nil, Nat.reduceAdd, Nat.reduceSub, Array.replicate_succ, Array.replicate_zero, List.push_toArray, List.append_toArray, List.nil_append, List.cons_append]
  gi_wp2
  gi_loopw [3] (fun i wr => ∃ k : Nat, k ≤ zs.length ∧ i = .int .i64 ((zs.length : Int) - 1 - k) ∧ J (bk zs k) wr ∧ Kq n₀ Bs W wr)
    (fun i _ => (intOf i + 1).toNat)
  case atStart => exact ⟨0, Nat.zero_le _, by simp, h0, Kq.refl _ _ _⟩
  case round =>
    obtain ⟨k, hk, rfl, hJs, hnx⟩ := hrel
    have hBs' := (World.cell?_of_block hnx.b).trans hBs
    by_cases hlt : k < zs.length
    · obtain ⟨q, hq⟩ : ∃ q, q + (k + 1) = zs.length := ⟨zs.length - 1 - k, by omega⟩
      have hqi : ((zs.length : Int) - 1 - k) = (q : Int) := by omega
      have hcx := (hnx.a.cell (p := ⟨b, off + q, none⟩) hb).trans (hc q (by omega))
      obtain ⟨fn, tmps, assign, body, hy, hR⟩ := hY _ (q, zs[q]?.getD ⟨0, by decide⟩) wr hJs (by rw [bk_length]; exact hlt)
      dsimp only at hy
      rw [hqi]
      gi_wp2
      refine hR.mono ?_
      rintro e W3 (⟨rfl, hJ3, hk3⟩ | ⟨rfl, hJx3⟩)
      · gi_wp2
        go_roundw
        case rel => exact ⟨k + 1, by omega, by congr 1; omega, by rw [bk_succ, show zs.length - 1 - k = q from by omega]; exact hJ3, hnx.trans hk3⟩
        case measure => simp [intOf]
      · gi_wp2
        refine bodyPost_ret (results_none rfl _ _ _) rfl ?_
        exact ⟨⟨_, rfl⟩, .inr ⟨_, trivial, hJx3⟩⟩
    · obtain rfl : k = zs.length := by omega
      rw [show ((zs.length : Int) - 1 - (zs.length : Int)) = -1 from by omega]
      gi_wp2
      go_end0
      exact ⟨⟨_, rfl⟩, .inl ⟨_, rfl, hJs⟩⟩
set_option maxRecDepth 100000 in
set_option maxHeartbeats 1000000 in
/-- .. at no word: no round. -/
theorem back1_nil_in (F : Fence) (n : Nat) (h8 : F.fn 313) (hro : F.round = none) (l Bs : Nat) (J : List (Nat × Wd) → World → Prop) (W : World) {p : Option Addr} {c : Nat} (hBs : W.cell? ⟨Bs, 0, none⟩ = some (.slice p 0 c)) (h0 : J [] W) :
    CallsIn F n Tryz.prog 313 #[.func (.yield l) #[] #[], .pointer (some ⟨Bs, 0, none⟩)] W fun e W' => (∃ v, e = .returned v) ∧ J [] W' := by
  refine callsIn_of_wp Tryz.func313 rfl h8 ?_ hro
  simp only [Tryz.ntmps313, List.size_toArray, List.length_cons, List.length_nil, Nat.reduceAdd, Nat.reduceSub, Array.replicate_succ, Array.replicate_zero, List.push_toArray, List.append_toArray, List.nil_append, List.cons_append]
  gi_wp2
  gi_loopw [3] (fun i wr => i = .int .i64 (-1) ∧ J [] wr) (fun _ _ => 0)
  case atStart => exact ⟨rfl, h0⟩
  case round =>
    obtain ⟨rfl, hJs⟩ := hrel
    gi_wp2
    go_end0
    exact ⟨⟨_, rfl⟩, hJs⟩
set_option maxHeartbeats 1000000 in
theorem back_in (F : Fence) (n : Nat) (h6 : F.fn 295) (hro : F.round = none) (a : Option Addr) (len cap : Nat) (w : World) :
    CallsIn F n Tryz.prog 295 #[.slice a len cap] w fun e w' => e = .returned (.func (.func 313) #[] #[.pointer (some ⟨w.heap.size, 0, none⟩)]) ∧ w' = w.alloc (.cells #[.slice a len cap] 52) := by
  refine callsIn_of_wp Tryz.func295 rfl h6 ?_ hro
  simp only [Tryz.ntmps295, List.size_toArray, List.length_cons, List.length_nil, Nat.reduceAdd, Nat.reduceSub, Array.replicate_succ, Array.replicate_zero, List.push_toArray, List.append_toArray, List.nil_append, List.cons_append]
  gi_wp2
  go_ret
  exact ⟨rfl, rfl⟩
theorem back_stops (F : Fence) (n : Nat) (h8 : F.fn 313) (hro : F.round = none) (hn : 1 ≤ n) (Bs n₀ : Nat) (p : Option Addr) (cap : Nat) (zs : List Wd) (hreach : zs.length * 4 ≤ 140737488351232) (w : World) (hBs : Bs < w.heap.size) (hn₀ : n₀ ≤ w.heap.size)
    (hc : w.cell? ⟨Bs, 0, none⟩ = some (.slice p zs.length cap)) (hI : zs = [] ∨ ∃ b off, p = some ⟨b, off, none⟩ ∧ b < n₀ ∧ ∀ j, j < zs.length → w.cell? ⟨b, off + j, none⟩ = some (.int .u32 ((zs[j]?.getD ⟨0, by decide⟩).1 : Int))) :
    SeqStopsK F n Tryz.prog 313 #[.pointer (some ⟨Bs, 0, none⟩)] (fun x : Nat × Wd => #[Value.int .i64 (x.1 : Int), Value.int .u32 (x.2.1 : Int)]) (Kq n₀ Bs) (fun ys => ys = bk zs zs.length)
      (fun _ => True) zs.length w := fun l J Jx W hW _ _ hY h0 => by
  have hc' := (hW.cell (p := ⟨Bs, 0, none⟩) hBs).trans hc
  rcases hI with rfl | ⟨b, off, rfl, hb, hcs⟩
  · exact (back1_nil_in F n h8 hro l Bs J W hc' h0).mono fun e W' ⟨he, hj⟩ => ⟨he, .inl ⟨_, rfl, hj⟩⟩
  · exact back1_in F n h8 hro hn l Bs n₀ b off cap zs hreach hb J Jx hY W hc' (fun j hj => (hW.cell (p := ⟨b, off + j, none⟩) (Nat.lt_of_lt_of_le hb hn₀)).trans (hcs j hj)) h0
def acc : List (Nat × Wd) → Nat := List.foldl (fun a x => (a * 4294967296) % 18446744073709551616 + x.2.1) 0
theorem acc_snoc (pre : List (Nat × Wd)) (x : Nat × Wd) : acc (pre ++ [x]) = (acc pre * 4294967296) % 18446744073709551616 + x.2.1 := by simp [acc]
theorem bits_or {p q : Nat} (hp : p < 18446744073709551616) (hq : q < 18446744073709551616) : bits .or .u64 (p : Int) (q : Int) = IntKind.u64.wrap ((p ||| q : Nat) : Int) := by
  show IntKind.u64.wrap _ = _
  congr 2
  exact bvor hp hq
theorem acc_or {a x : Nat} (hx : x < 4294967296) : bits .or .u64 (IntKind.u64.wrap ((a : Int) * 4294967296)) (IntKind.u64.wrap (x : Int)) = (((a * 4294967296) % 18446744073709551616 + x : Nat) : Int) := by
  have e1 : IntKind.u64.wrap ((a : Int) * 4294967296) = (((a * 4294967296) % 18446744073709551616 : Nat) : Int) := (wUm _).trans (by omega)
  have e2 : a * 4294967296 % 18446744073709551616 = (a % 4294967296) * 2 ^ 32 := by omega
  rw [e1, wU (x := (x : Int)) (by omega), bits_or (by omega) (by omega), e2, or_add x (a % 4294967296) 32 (by omega), wU (by omega)]
theorem kq_put {n₀ Bs N : Nat} (W : World) (l : Nat) (o : Obj) (hl : N ≤ l) (hn : n₀ ≤ N) (hB : Bs < N) (h : W.heap[l]? = some o) (o' : Obj) : Kq n₀ Bs W (W.putObj l o') :=
  ⟨(Below.refl n₀ W).grown (grownBy_putObj' W l o') (by have := (Array.getElem?_eq_some_iff.1 h).1; omega) (fun k e => by cases e; omega), World.putObj_heap_other (by omega)⟩
set_option maxRecDepth 100000 in
set_option maxHeartbeats 2000000 in
theorem toUint_in (F : Fence) (n : Nat) (h3 : F.fn 247) (h5 : F.fn 295) (h7 : F.fn 313) (hro : F.round = none) (hn : 3 ≤ n) (p : Option Addr) (cap : Nat) (zs : List Wd) (hreach : zs.length * 4 ≤ 140737488351232) (w : World)
    (hI : zs = [] ∨ ∃ b off, p = some ⟨b, off, none⟩ ∧ b < w.heap.size ∧ ∀ j, j < zs.length → w.cell? ⟨b, off + j, none⟩ = some (.int .u32 ((zs[j]?.getD ⟨0, by decide⟩).1 : Int))) :
    CallsIn F n Tryz.prog 247 #[.slice p zs.length cap] w fun e W' => e = .returned (.int .u64 (acc (bk zs zs.length) : Int)) ∧ Below w.heap.size w W' := by
  have h1 : 1 ≤ n := by omega
  refine callsIn_of_wp_marks Tryz.func247 rfl h3 ?_ hro
  simp only [Tryz.ntmps247, List.size_toArray, List.length_cons, List.length_nil, Nat.reduceAdd, Nat.reduceSub, Array.replicate_succ, Array.replicate_zero, List.push_toArray, List.append_toArray, List.nil_append, List.cons_append]
  gi_wp2_with (gi_at_call 295; refine (back_in F (n - 1) h5 hro _ _ _ _).mono ?_; rintro e w' ⟨rfl, rfl⟩)
  have bS := Boxed.new w 154 (.int .u64 0)
  have bN := Boxed.new (w.alloc (.cells #[.int .u64 0] 154)) 52 (.slice p zs.length cap)
  rw [World.size_alloc] at bN
  have hB0 : Below w.heap.size w ((w.alloc (.cells #[.int .u64 0] 154)).alloc (.cells #[.slice p zs.length cap] 52)) := ((Below.refl _ w).alloc (Nat.le_refl _) _).alloc (by simp) _
  refine wpIn_rangeFunc_ownG hro h1 (gf := 313) (lb := #[.pointer (some ⟨w.heap.size + 1, 0, none⟩)]) rfl h7 (enters_of Tryz.func313 (by kernel_rfl) rfl)
    (back_stops F (n - 1) h7 hro (by omega) (w.heap.size + 1) w.heap.size p cap zs hreach _ (by simp) (by simp; omega) bN.cell (hI.imp_right fun ⟨b, off, h1, h2, h3⟩ => ⟨b, off, h1, h2, fun j hj => (hB0.cell (p := ⟨b, off + j, none⟩) h2).trans (h3 j hj)⟩)) Kq.trans (fun W l o o' hl h _ _ => kq_put W l o hl (by simp; omega) (by simp) h o') (Below.refl _ _) (fun _ => rfl)
    (fun pre W => (W.cell? ⟨w.heap.size, 0, none⟩ = some (.int .u64 (acc pre : Int)) ∧ W.frozen? ⟨w.heap.size, 0, none⟩ = false) ∧ Below w.heap.size w W)
    (fun _ _ _ => False)
    (OwnFrom.and (Own.from (fun s A B row hs hg hr => ⟨cell_kept hs.1 hg hr, (frozen_kept hs.1 hg hr).trans hs.2⟩) _) (ownFrom_below (Nat.le_refl _) (by simp; omega)))
    (fun _ _ _ _ _ hs _ _ => hs)
    ⟨⟨(bS.alloc _).cell, (bS.alloc _).frozen⟩, hB0⟩
    (fun x => { tmps := #[.slice p zs.length cap, undef, .int .u64 0, .pointer (some ⟨w.heap.size, 0, none⟩), undef, .int .u32 (x.2.1 : Int), .slice p zs.length cap, .func (.func 313) #[] #[.pointer (some ⟨w.heap.size + 1, 0, none⟩)], .int .i64 (x.1 : Int), .int .u32 (x.2.1 : Int), undef, undef, undef, undef, undef, undef], defers := [] }) ?assign ?body ?done ?stop
  case assign =>
    intro l x W K hK
    gi_wp2
    exact hK
  case body =>
    rintro l pre x W ⟨⟨hc, hf⟩, hB⟩ _
    gi_wp2
    rw [acc_or x.2.2, ← acc_snoc]
    exact ⟨(KeepsOthers.setCell _ _ _).from _, ⟨(Below.refl w.heap.size W).setCell (p := ⟨w.heap.size, 0, none⟩) (Nat.le_refl _) _, Below.heap_setCell _ _ _ _ (by simp)⟩, ⟨World.cell?_setCell_same' _ _ _ (by rw [hc]; rfl), by rw [World.frozen?_setCell]; exact hf⟩, hB.setCell (p := ⟨w.heap.size, 0, none⟩) (Nat.le_refl _) _⟩
  case done =>
    rintro D ys W hD rfl ⟨⟨hc, _⟩, hB⟩ hK
    gi_wp2
    refine ⟨by simp, .inl ⟨_, _, rfl, run_takeDeferred hK, ?_⟩⟩
    exact ⟨_, results_tmp rfl _ _ _, rfl, hB.trans (belowK_b (w := w) (Nat.le_refl _) W D _ _ (by simp at hD; omega) hK rfl rfl)⟩
  case stop =>
    rintro D c pre W _ _ h _
    exact h.elim
theorem wds {l : List Nat} (h : Words l) : ∃ zs : List Wd, zs.map (·.1) = l :=
  by
  induction l with
  | nil => exact ⟨[], rfl⟩
  | cons a l ih =>
    obtain ⟨zs, hz⟩ := ih fun x hx => h x (List.mem_cons_of_mem _ hx)
    exact ⟨⟨a, h a (List.mem_cons_self ..)⟩ :: zs, by rw [List.map_cons, hz]⟩
theorem acc_val {zs : List Wd} {x : Nat} (h : zs.map (·.1) = dig x) (hx : x < 18446744073709551616) : acc (bk zs zs.length) = x := by
  have hl : (dig x).length ≤ 2 := dig_len_le (by omega)
  have hv := val_dig x
  rw [← h] at hl hv
  match zs, hl with
  | [], _ => simpa [bk, acc, val] using hv
  | [a], _ =>
    have ha := a.2
    simp [val] at hv
    simp [bk, acc, List.range_succ]
    omega
  | [a, b], _ =>
    have ha := a.2
    have hb := b.2
    simp [val] at hv
    simp [bk, acc, List.range_succ]
    omega
theorem fm_below {W : Vm.GW} {w' : World} (h : Below W.w.heap.size W.w w') : ∃ W' : Vm.GW, W'.w = w' ∧ Vm.Fm W W' (fun _ => False) :=
  ⟨⟨w', W.A, fun b i k => Nat.lt_of_lt_of_le (W.hA b i k) h.size⟩, rfl,
    { os := h.os, out := h.output, tape := h.tape, size := h.size, same := fun b hb _ => h.block b hb, A := fun _ _ _ _ => Iff.rfl
      le := fun b i v hv => ⟨by
        have hb : b < W.w.heap.size := by
          apply Classical.byContradiction
          intro hn
          have := hv.1
          simp only [World.cell?] at this
          rw [Array.getElem?_eq_none (by omega)] at this
          cases this
        exact (World.cell?_of_block (h.block b hb)).trans hv.1, hv.2⟩ }⟩
theorem toUint_ok {x : Nat} (hx : x < 18446744073709551616) : C0 247 [.d (ws (dig x))] (· = .d (.int .u64 x)) := by
  obtain ⟨zs, hz⟩ := wds (words_dig x)
  have hl : (dig x).length ≤ 2 := dig_len_le (by omega)
  refine ⟨⟨_, Tryz.func247, rfl, rfl⟩, fun W vs ha => ?_⟩
  match vs, ha with
  | [v], ha =>
    obtain ⟨p, c, rfl, hc1, hc2, hrow⟩ := Vm.V_sl ha.1
    have hm : ((dig x).map wd).length = zs.length := by rw [← hz]; simp
    rw [hm]
    refine (callsIn_wide (n := 3)).1 ((toUint_in Fence.wide 3 trivial trivial trivial rfl (Nat.le_refl _) p c zs (by rw [← hz, List.length_map] at hl; omega) W.w ?_).mono ?_)
    · rcases hrow with h0 | ⟨b, off, hp, hr⟩
      · left
        have := congrArg List.length h0
        rw [hm] at this
        exact List.eq_nil_of_length_eq_zero (by simpa using this)
      · have hcell : ∀ j, j < zs.length → W.w.cell? ⟨b, off + j, none⟩ = some (.int .u32 ((zs[j]?.getD ⟨0, by decide⟩).1 : Int)) := fun j hj => by
          obtain ⟨z, hzj⟩ : ∃ z, zs[j]? = some z := ⟨_, List.getElem?_eq_getElem hj⟩
          obtain ⟨e, h1, h2, h3⟩ := Vm.D.row_get hr (i := j) (x := wd z.1) (by rw [← hz]; simp [hzj])
          have h1 : e = [.int .u32 z.1] := h1.1
          have := (h3 0 (.int .u32 z.1) (by rw [h1]; rfl)).1
          rw [hzj]
          simpa using this
        by_cases h0 : zs = []
        · exact .inl h0
        · refine .inr ⟨b, off, hp, ?_, hcell⟩
          have h1 := hcell 0 (List.length_pos_iff.2 h0)
          apply Classical.byContradiction
          intro hn
          simp only [World.cell?] at h1
          rw [Array.getElem?_eq_none (by omega)] at h1
          cases h1
    · rintro e w' ⟨rfl, hB⟩
      obtain ⟨W', hw, hE⟩ := fm_below hB
      refine ⟨W', .d (.int .u64 x), _, rfl, hw, hE, ?_, fun _ h => h, rfl⟩
      rw [acc_val hz hx]
      exact Vm.int_V (by show IntKind.u64.wrap _ = _; exact wU (by omega))
end
section
theorem mulB {a b : Nat} (ha : a < 4294967296) (hb : b < 4294967296) : a * b ≤ 18446744065119617025 := by
  have := Nat.mul_le_mul (show a ≤ 4294967295 by omega) (show b ≤ 4294967295 by omega)
  omega
theorem subtract_ok {q k y d : Nat} {l : List Nat} (hw : Words l) (hq : q + (k + 1) ≤ l.length) (hk : (dig y).length = k) (hd : d < 4294967296) (hk40 : k ≤ 1099511627776) :
    CW0 292 [.own 1000001 1 q (k + 1), .d (ws (dig y)), .d (.int .u64 d)] [(1000001, .arr 1 (l.map wd))] fun v H' => ∃ (c : Nat) (l' : List Nat), c ≤ 1 ∧ v = .b (dc (c = 1)) ∧ H' = [(1000001, .arr 1 (l'.map wd))] ∧ l'.length = l.length ∧ Words l' ∧
      (∀ j, (j < q ∨ q + (k + 1) ≤ j) → l'[j]? = l[j]?) ∧ val ((l'.drop q).take (k + 1)) + y * d = val ((l.drop q).take (k + 1)) + 4294967296 ^ (k + 1) * c := by
  refine EnW Tryz.func292 fun _ _ _ => ?_
  refine Lo (fun (i, lo, br) => [(0, .own 1000001 1 q (k + 1)), (1, .d (ws (dig y))), (2, .d (.int .u64 d)), (7, .d (.int .u64 (br : Nat))), (13, .d (ws (dig y))), (14, .d (.int .i64 k)), (15, .d (.int .i64 (i : Nat)))]) (fun (_, lo, _) => [(1000001, .arr 1 (lo.map wd))])
    (fun (i, lo, br) => i ≤ k ∧ lo.length = l.length ∧ Words lo ∧ br < 4294967296 ∧ (∀ j, (j < q ∨ q + i ≤ j) → lo[j]? = l[j]?) ∧ val ((lo.drop q).take i) + val ((dig y).take i) * d = val ((l.drop q).take i) + 4294967296 ^ i * br) (fun (i, _, _) => k - i) (0, l, 0) [] rfl
    ⟨by omega, rfl, hw, by omega, fun _ _ => rfl, by simp [val]⟩ ?_ (by exact ⟨by simp only [lw, ws, hk]; rfl, rfl, rfl, rfl, rfl⟩)
  rintro ⟨i, lo, br⟩ ⟨hi, hl, hwo, hbr, hrest, hval⟩
  refine By rfl (fun h => ?_) fun h => ?_
  · obtain ⟨w, hw1⟩ := xat (l := dig y) (k := i) (by omega)
    have hwb := ww hw1 (words_dig y)
    obtain ⟨u, hu⟩ := xat (l := lo) (k := q + i) (by omega)
    have hub := ww hu hwo
    have hwd := mulB hwb hd
    obtain ⟨s, hs⟩ : ∃ s, s = w * d + br := ⟨_, rfl⟩
    obtain ⟨t, ht⟩ : ∃ t, t = (u + 18446744073709551616 - s % 4294967296) % 18446744073709551616 := ⟨_, rfl⟩
    refine Ix i rfl (mp hw1) ?_
    refine Cv w rfl ?_
    refine Ar (w * d : Nat) rfl ?_ (wr (Int.natCast_mul ..).symm (by simp only [inK]; omega))
    refine Ar s rfl ?_
    refine El i rfl (by omega) ?_
    refine Ld (wd u) rfl (mp hu) ?_
    refine Cv u rfl ?_
    refine Cv (s % 4294967296 : Nat) rfl ?_ (by rw [wWm]; omega)
    refine Cv (s % 4294967296 : Nat) rfl ?_
    refine Ar t rfl ?_ (by show _ = _; rw [wUm]; omega)
    refine Cv (t % 4294967296 : Nat) rfl ?_ (by rw [wWm]; omega)
    refine El i rfl (by omega) ?_
    refine Sto rfl (by simp only [lw]; omega) ms ?_
    refine Ar (s / 4294967296 : Nat) rfl ?_ (shrA (n := 32) (by decide))
    refine Ar (t / 9223372036854775808 : Nat) rfl ?_ (shrA (n := 63) (by decide))
    refine Ar (s / 4294967296 + t / 9223372036854775808 : Nat) rfl ?_
    refine Ar (i + 1 : Nat) rfl ?_
    refine Bk (i + 1, lo.set (q + i) (t % 4294967296), s / 4294967296 + t / 9223372036854775808) [] rfl ⟨by omega, by simp [hl], wset hwo (by omega), by omega, fun j hj => by rw [List.getElem?_set_ne (by omega)]; exact hrest j (by omega), ?_⟩ (by show k - (i + 1) < k - i; omega)
    have hu0 : l[q + i]? = some u := by rw [← hrest (q + i) (.inr (Nat.le_refl _))]; exact hu
    have hst : t % 4294967296 + s = u + 4294967296 * (s / 4294967296 + t / 9223372036854775808) := by omega
    rw [val_wset (by omega), val_take_succ hw1, val_wsucc hu0, Nat.pow_succ, Nat.mul_assoc, Nat.add_mul, Nat.mul_assoc]
    have e : 4294967296 ^ i * (t % 4294967296 + s) = 4294967296 ^ i * (u + 4294967296 * (s / 4294967296 + t / 9223372036854775808)) := by rw [hst]
    have e2 : 4294967296 ^ i * s = 4294967296 ^ i * (w * d) + 4294967296 ^ i * br := by rw [hs, Nat.mul_add]
    rw [Nat.mul_add, Nat.mul_add (4294967296 ^ i) u] at e
    omega
  · have hik : i = k := by omega
    rw [hik] at hrest hval
    rw [List.take_of_length_le (l := dig y) (by omega), val_dig] at hval
    obtain ⟨u, hu⟩ := xat (l := lo) (k := q + k) (by omega)
    have hub := ww hu hwo
    obtain ⟨t, ht⟩ : ∃ t, t = (u + 18446744073709551616 - br) % 18446744073709551616 := ⟨_, rfl⟩
    refine El k rfl (by omega) ?_ (by simp only [lw]; omega)
    refine Ld (wd u) rfl (mp hu) ?_
    refine Cv u rfl ?_
    refine Ar t rfl ?_ (by show _ = _; rw [wUm]; omega)
    refine Cv (t % 4294967296 : Nat) rfl ?_ (by rw [wWm]; omega)
    refine El k rfl (by omega) ?_ (by simp only [lw]; omega)
    refine Sto rfl (by simp only [lw]; omega) ms ?_
    refine Ar (t / 9223372036854775808 : Nat) rfl ?_ (shrA (n := 63) (by decide))
    have hu0 : l[q + k]? = some u := by rw [← hrest (q + k) (.inr (Nat.le_refl _))]; exact hu
    refine Rw [] [(1000001, .arr 1 ((lo.set (q + k) (t % 4294967296)).map wd))] rfl (.one (.rf rfl) rfl rfl) ⟨t / 9223372036854775808, _, by omega, ?_, rfl, by simp [hl], wset hwo (by omega), fun j hj => by rw [List.getElem?_set_ne (by omega)]; exact hrest j (by omega), ?_⟩
    · congr 1; exact congrArg dc (propext (by constructor <;> intro <;> omega))
    · rw [val_wset (by omega), val_wsucc hu0, Nat.pow_succ, Nat.mul_assoc]
      have e : 4294967296 ^ k * (t % 4294967296 + br) = 4294967296 ^ k * (u + 4294967296 * (t / 9223372036854775808)) := by congr 1; omega
      rw [Nat.mul_add, Nat.mul_add (4294967296 ^ k) u] at e
      omega
theorem restore_ok {q k y : Nat} {l : List Nat} (hw : Words l) (hq : q + (k + 1) ≤ l.length) (hk : (dig y).length = k) (hk40 : k ≤ 1099511627776) :
    CW0 293 [.own 1000001 1 q (k + 1), .d (ws (dig y))] [(1000001, .arr 1 (l.map wd))] fun v H' => ∃ (e : Nat) (l' : List Nat), e ≤ 1 ∧ H' = [(1000001, .arr 1 (l'.map wd))] ∧ l'.length = l.length ∧ Words l' ∧
      (∀ j, (j < q ∨ q + (k + 1) ≤ j) → l'[j]? = l[j]?) ∧ val ((l'.drop q).take (k + 1)) + 4294967296 ^ (k + 1) * e = val ((l.drop q).take (k + 1)) + y := by
  refine EnW Tryz.func293 fun _ _ _ => ?_
  refine Lo (fun (i, lo, cr) => [(0, .own 1000001 1 q (k + 1)), (1, .d (ws (dig y))), (4, .d (.int .u64 (cr : Nat))), (7, .d (ws (dig y))), (8, .d (.int .i64 k)), (9, .d (.int .i64 (i : Nat)))]) (fun (_, lo, _) => [(1000001, .arr 1 (lo.map wd))])
    (fun (i, lo, cr) => i ≤ k ∧ lo.length = l.length ∧ Words lo ∧ cr ≤ 1 ∧ (∀ j, (j < q ∨ q + i ≤ j) → lo[j]? = l[j]?) ∧ val ((lo.drop q).take i) + 4294967296 ^ i * cr = val ((l.drop q).take i) + val ((dig y).take i)) (fun (i, _, _) => k - i) (0, l, 0) [] rfl
    ⟨by omega, rfl, hw, by omega, fun _ _ => rfl, by simp [val]⟩ ?_ (by exact ⟨by simp only [lw, ws, hk]; rfl, rfl, rfl, rfl, rfl⟩)
  rintro ⟨i, lo, cr⟩ ⟨hi, hl, hwo, hcr, hrest, hval⟩
  refine By rfl (fun h => ?_) fun h => ?_
  · obtain ⟨w, hw1⟩ := xat (l := dig y) (k := i) (by omega)
    have hwb := ww hw1 (words_dig y)
    obtain ⟨u, hu⟩ := xat (l := lo) (k := q + i) (by omega)
    have hub := ww hu hwo
    obtain ⟨s, hs⟩ : ∃ s, s = cr + (u + w) := ⟨_, rfl⟩
    refine Ix i rfl (mp hw1) ?_
    refine El i rfl (by omega) ?_
    refine Ld (wd u) rfl (mp hu) ?_
    refine Cv u rfl ?_
    refine Cv w rfl ?_
    refine Ar (u + w : Nat) rfl ?_
    refine Ar s rfl ?_
    refine Cv (s % 4294967296 : Nat) rfl ?_ (by rw [wWm]; omega)
    refine El i rfl (by omega) ?_
    refine Sto rfl (by simp only [lw]; omega) ms ?_
    refine Ar (s / 4294967296 : Nat) rfl ?_ (shrA (n := 32) (by decide))
    refine Ar (i + 1 : Nat) rfl ?_
    refine Bk (i + 1, lo.set (q + i) (s % 4294967296), s / 4294967296) [] rfl ⟨by omega, by simp [hl], wset hwo (by omega), by omega, fun j hj => by rw [List.getElem?_set_ne (by omega)]; exact hrest j (by omega), ?_⟩ (by show k - (i + 1) < k - i; omega)
    have hu0 : l[q + i]? = some u := by rw [← hrest (q + i) (.inr (Nat.le_refl _))]; exact hu
    rw [val_wset (by omega), val_take_succ hw1, val_wsucc hu0, Nat.pow_succ, Nat.mul_assoc]
    have e : 4294967296 ^ i * (s % 4294967296 + 4294967296 * (s / 4294967296)) = 4294967296 ^ i * (cr + (u + w)) := by congr 1; omega
    simp only [Nat.mul_add] at e
    omega
  · have hik : i = k := by omega
    rw [hik] at hrest hval
    rw [List.take_of_length_le (l := dig y) (by omega), val_dig] at hval
    obtain ⟨u, hu⟩ := xat (l := lo) (k := q + k) (by omega)
    have hub := ww hu hwo
    refine El k rfl (by omega) ?_ (by simp only [lw]; omega)
    refine Ld (wd u) rfl (mp hu) ?_
    refine Cv cr rfl ?_
    refine Ar ((u + cr) % 4294967296 : Nat) rfl ?_ (by show _ = _; rw [wWm]; omega)
    refine El k rfl (by omega) ?_ (by simp only [lw]; omega)
    refine Sto rfl (by simp only [lw]; omega) ms ?_
    have hu0 : l[q + k]? = some u := by rw [← hrest (q + k) (.inr (Nat.le_refl _))]; exact hu
    refine Rw [] [(1000001, .arr 1 ((lo.set (q + k) ((u + cr) % 4294967296)).map wd))] rfl (.tup (.one (.rf rfl) (fun _ _ e => by cases e) (fun _ _ e => by cases e))) ⟨(u + cr) / 4294967296, _, by omega, rfl, by simp [hl], wset hwo (by omega), fun j hj => by rw [List.getElem?_set_ne (by omega)]; exact hrest j (by omega), ?_⟩
    rw [val_wset (by omega), val_wsucc hu0, Nat.pow_succ, Nat.mul_assoc]
    have e : 4294967296 ^ k * ((u + cr) % 4294967296 + 4294967296 * ((u + cr) / 4294967296)) = 4294967296 ^ k * (u + cr) := by congr 1; omega
    simp only [Nat.mul_add] at e
    omega
theorem shiftLeft_data {n x : Nat} (hx : (dig x).length ≤ 549755813888) (hn32 : n < 32) : C0 291 [.d (ws (dig x)), .d (.int .i64 n)] fun v => ∃ l, l.length = (dig x).length + 1 ∧ Words l ∧ val l = x * 2 ^ n ∧ v = .d (ws l) :=
  CW.data (shiftLeft_ok hx hn32) rfl fun v H' ⟨ob, e, l, h1, h2, h3, h4, h5⟩ => ⟨.d (ws l), by rw [h4, e, h5]; exact .one (.own rfl (by simp) (oa rfl)) rfl rfl, l, h1, h2, h3, rfl⟩
theorem norm_len {y n : Nat} (hy : y ≠ 0) {t : Nat} (ht : (dig y)[(dig y).length - 1]? = some t) (h1 : 2147483648 ≤ t * 2 ^ n) (h2 : t * 2 ^ n < 4294967296) :
    (dig (y * 2 ^ n)).length = (dig y).length ∧ ∃ t', (dig (y * 2 ^ n))[(dig y).length - 1]? = some t' ∧ 2147483648 ≤ t' := by
  have hl : (dig y).length ≠ 0 := fun h => hy (dig_eq_nil.1 (List.eq_nil_of_length_eq_zero h))
  have hs := val_take_succ ht
  rw [show (dig y).length - 1 + 1 = (dig y).length from by omega, List.take_length, val_dig] at hs
  have hlo := val_lt ((words_dig y).take ((dig y).length - 1))
  rw [List.length_take, Nat.min_eq_left (by omega)] at hlo
  generalize hk : (dig y).length - 1 = k at *
  have hlow : 4294967296 ^ k * 2147483648 ≤ y * 2 ^ n := by
    rw [hs, Nat.add_mul, Nat.mul_assoc]
    have := Nat.mul_le_mul_left (4294967296 ^ k) h1
    omega
  have hup : y * 2 ^ n < 4294967296 ^ (k + 1) := by
    have e : y + 1 ≤ 4294967296 ^ k * (t + 1) := by rw [hs, Nat.mul_add]; omega
    have e2 : t * 2 ^ n + 2 ^ n ≤ 4294967296 := by
      have hd : 2 ^ n ∣ 4294967296 := by
        have hn : n < 32 := by
          have : 2 ^ n < 2 ^ 32 := by
            have := Nat.le_mul_of_pos_left (2 ^ n) (show 0 < t from by rcases Nat.eq_zero_or_pos t with h | h; rw [h] at h1; simp at h1; exact h)
            omega
          exact (Nat.pow_lt_pow_iff_right (by decide : 1 < 2)).1 this
        exact ⟨2 ^ (32 - n), by rw [← Nat.pow_add, show n + (32 - n) = 32 from by omega]⟩
      obtain ⟨q, hq⟩ := hd
      rw [hq, Nat.mul_comm t] at h2
      have := Nat.lt_of_mul_lt_mul_left h2
      rw [hq, Nat.mul_comm t, ← Nat.mul_succ]
      exact Nat.mul_le_mul_left _ this
    have e3 := Nat.mul_le_mul_right (2 ^ n) e
    rw [Nat.mul_assoc, Nat.add_mul t, Nat.one_mul] at e3
    have e4 := Nat.mul_le_mul_left (4294967296 ^ k) e2
    have hp := Nat.two_pow_pos n
    rw [Nat.add_mul, Nat.one_mul] at e3
    rw [Nat.pow_succ]
    omega
  have hlen : (dig (y * 2 ^ n)).length = (dig y).length := by
    have h3 := dig_len_le hup
    have h4 : k < (dig (y * 2 ^ n)).length := by
      apply Classical.byContradiction
      intro hn
      have := dig_ub (y * 2 ^ n)
      have h5 : 4294967296 ^ (dig (y * 2 ^ n)).length ≤ 4294967296 ^ k := Nat.pow_le_pow_right (by decide) (by omega)
      have : 4294967296 ^ k ≤ 4294967296 ^ k * 2147483648 := Nat.le_mul_of_pos_right _ (by decide)
      omega
    omega
  refine ⟨hlen, ?_⟩
  obtain ⟨t', ht'⟩ := xat (l := dig (y * 2 ^ n)) (k := k) (by omega)
  refine ⟨t', ht', ?_⟩
  have hs' := val_take_succ ht'
  rw [show k + 1 = (dig (y * 2 ^ n)).length from by omega, List.take_length, val_dig] at hs'
  have hlo' := val_lt ((words_dig (y * 2 ^ n)).take k)
  rw [List.length_take, Nat.min_eq_left (by omega)] at hlo'
  apply Classical.byContradiction
  intro hn
  have : 4294967296 ^ k * (t' + 1) ≤ 4294967296 ^ k * 2147483648 := Nat.mul_le_mul_left _ (by omega)
  rw [Nat.mul_add] at this
  omega
theorem window {lu : List Nat} {i n : Nat} {Y : Nat} (hw : Words lu) (hi : i + n < lu.length) (hR : val (lu.drop (i + 1)) < Y) (hY : Y ≤ 4294967296 ^ n) :
    val (lu.drop i) = val ((lu.drop i).take (n + 1)) ∧ val (lu.drop i) < 4294967296 * Y := by
  obtain ⟨u, hu⟩ := xat (l := lu) (k := i) (by omega)
  have hub := hw u (List.mem_of_getElem? hu)
  have h1 := val_drop hu
  have h2 : val (lu.drop i) < 4294967296 * Y := by
    rw [h1]
    have := Nat.mul_le_mul_left 4294967296 (show val (lu.drop (i + 1)) + 1 ≤ Y from hR)
    omega
  refine ⟨?_, h2⟩
  have h3 := val_split (lu.drop i) (n + 1) (by rw [List.length_drop]; omega)
  rw [h3]
  have h4 : val (lu.drop i) < 4294967296 ^ (n + 1) := by
    have := Nat.mul_le_mul_left 4294967296 hY
    rw [Nat.pow_succ, Nat.mul_comm (4294967296 ^ n)]
    omega
  rcases Nat.eq_zero_or_pos (val ((lu.drop i).drop (n + 1))) with h5 | h5
  · rw [h5, Nat.mul_zero, Nat.add_zero]
  · have := Nat.le_mul_of_pos_right (4294967296 ^ (n + 1)) h5
    omega
theorem drop_congr {l m : List Nat} {k : Nat} (h : ∀ j, k ≤ j → l[j]? = m[j]?) : l.drop k = m.drop k := by
  apply List.ext_getElem?
  intro i
  rw [List.getElem?_drop, List.getElem?_drop]
  exact h _ (by omega)
theorem usplit (M low u0 u1 u2 : Nat) : low + M * u2 + M * 4294967296 * u1 + M * 4294967296 * 4294967296 * u0 = low + M * (u2 + 4294967296 * (u0 * 2 ^ 32 + u1)) := by
  grind
theorem cmpI_neg {x y : Nat} : cmpI (x : Int) (y : Int) < 0 ↔ x < y := by
  unfold cmpI
  split
  · constructor <;> intro <;> omega
  · split
    · constructor <;> intro <;> omega
    · constructor <;> intro <;> omega
theorem div_fin {x y Y s Q R : Nat} (hY : y * 2 ^ s = Y) (h : Q * Y + R = x * 2 ^ s) (hR : R < Y) : Q = x / y ∧ R = x % y * 2 ^ s := by
  have h1 : Q = (x * 2 ^ s) / (y * 2 ^ s) := by
    rw [hY, ← h, Nat.mul_comm, Nat.mul_add_div (by omega), Nat.div_eq_of_lt hR, Nat.add_zero]
  have h2 : R = (x * 2 ^ s) % (y * 2 ^ s) := by
    rw [hY, ← h, Nat.mul_comm, Nat.mul_add_mod, Nat.mod_eq_of_lt hR]
  rw [Nat.mul_div_mul_right _ _ (Nat.two_pow_pos s)] at h1
  rw [Nat.mul_mod_mul_right] at h2
  exact ⟨h1, h2⟩
theorem dd_last {U Y M low u2 top vlow tn t' dd r : Nat} (hY0 : Y ≠ 0) (hM : 0 < M) (hUM : U = low + M * (u2 + 4294967296 * top)) (hYM : Y = vlow + M * (tn + 4294967296 * t')) (hUlt : U < 4294967296 * Y) (hvlow : vlow < M) (htnb : tn < 4294967296) (htt : 2147483648 ≤ t')
    (hdd : (dd - 1) * t' + (r + t') = top) (hr : 4294967296 ≤ r + t') (hUq : U / Y < dd) : dd - 1 < 4294967296 ∧ U / Y ≤ dd - 1 ∧ dd - 1 ≤ U / Y + 1 := by
  have hdB : dd - 1 < 4294967296 := by
    apply Classical.byContradiction
    intro hn2
    have h1 := Nat.mul_le_mul_right t' (show 4294967296 ≤ dd - 1 by omega)
    have h2 : top < 4294967296 * t' + 4294967296 := by
      apply Classical.byContradiction
      intro hn3
      have h3 : M * (4294967296 * (4294967296 * t' + 4294967296)) ≤ M * (4294967296 * top) := Nat.mul_le_mul_left _ (Nat.mul_le_mul_left _ (by omega))
      have h4 : Y < M * (4294967296 * t' + 4294967296) := by
        rw [hYM]
        have : M * (tn + 4294967296 * t' + 1) ≤ M * (4294967296 * t' + 4294967296) := Nat.mul_le_mul_left _ (by omega)
        rw [Nat.mul_add M _ 1, Nat.mul_one] at this
        omega
      have h5 : M * (4294967296 * (4294967296 * t' + 4294967296)) = 4294967296 * (M * (4294967296 * t' + 4294967296)) := by grind
      have h6 : M * (4294967296 * top) ≤ U := by rw [hUM, Nat.mul_add]; omega
      omega
    omega
  refine ⟨hdB, by omega, ?_⟩
  rw [hUM, hYM]
  refine est_le (r := r + t') hM hvlow hdd ?_ hdB (by omega)
  have h1 := mulB (a := dd - 1) (b := tn) hdB htnb
  omega
theorem divide_ok {x y : Nat} (hx : (dig x).length ≤ 549755813888) (hy : (dig y).length ≤ 549755813888) (hy0 : y ≠ 0) : C0 245 [.d (ws (dig x)), .d (ws (dig y))] (· = .tup (.pr (.d (ws (dig (x / y)))) (.d (ws (dig (x % y)))))) := by
  refine En Tryz.func245 fun _ _ => ?_
  refine Ce rfl (compare_ok (by omega)) ?_
  refine By rfl (fun h => ?_) fun h => ?_
  · have hlt : x < y := cmpI_neg.1 h
    refine Ce rfl (clone_u32_ok (by omega)) ?_
    exact RTt rfl (.cons (.nil (by rw [Nat.div_eq_of_lt hlt, dig_zero]; rfl)) (.one (.eq (by rw [Nat.mod_eq_of_lt hlt])) (fun _ _ e => by cases e) (fun _ _ e => by cases e)))
  have hge : y ≤ x := Nat.le_of_not_lt fun hlt => h (cmpI_neg.2 hlt)
  have hlenle := len_mono hge
  refine By rfl (fun h2 => ?_) fun h2 => ?_ <;> simp only [lw] at h2
  · have hx64 : x < 18446744073709551616 := by
      have := dig_ub x
      have h1 : 4294967296 ^ (dig x).length ≤ 4294967296 ^ 2 := Nat.pow_le_pow_right (by decide) (by omega)
      omega
    refine Ce rfl (toUint_ok hx64) ?_
    refine Ce rfl (toUint_ok (by omega)) ?_
    have hq64 : x / y < 18446744073709551616 := Nat.lt_of_le_of_lt (Nat.div_le_self ..) hx64
    have hr64 : x % y < 18446744073709551616 := Nat.lt_of_le_of_lt (Nat.mod_le ..) hx64
    refine Dw rfl ?_
    refine Ar (x / y : Nat) rfl ?_ (show _ ∧ _ from ⟨by omega, tquo x y hx64⟩)
    refine Ce rfl (fromUint_ok hq64) ?_
    refine Ar (x % y : Nat) rfl ?_ (show _ ∧ _ from ⟨by omega, trem x y⟩)
    refine Ce rfl (fromUint_ok hr64) ?_
    exact R0t
  refine By rfl (fun h3 => ?_) fun h3 => ?_ <;> simp only [lw] at h3
  · obtain ⟨t, ht⟩ := xat (l := dig y) (k := 0) (by omega)
    have htb := ww ht (words_dig y)
    have hyt : y = t := by
      have := val_take_succ ht
      rw [List.take_of_length_le (by omega), val_dig] at this
      simpa [val] using this
    refine Ix 0 rfl (mp ht) ?_
    refine Ce rfl (divideWord_ok (y := t) hx htb (by omega)) ?_
    exact RTt rfl (.cons (.eq (by rw [hyt])) (.one (.eq (by rw [hyt])) (fun _ _ e => by cases e) (fun _ _ e => by cases e)))
  have hy2 : 2 ≤ (dig y).length := by
    have : (dig y).length ≠ 0 := fun h => hy0 (dig_eq_nil.1 (List.eq_nil_of_length_eq_zero h))
    omega
  obtain ⟨t, ht⟩ := xat (l := dig y) (k := (dig y).length - 1) (by omega)
  have htb := ww ht (words_dig y)
  have ht0 : t ≠ 0 := by
    rcases trim_dig y with h | ⟨t2, h2, h3⟩
    · rw [h] at hy2; simp at hy2
    · rw [ht] at h2; injection h2 with h2; rw [h2]; exact h3
  refine Ar ((dig y).length - 1 : Nat) rfl ?_ (wr (by simp only [lw]; omega) (by simp only [inK]; omega))
  refine Ix ((dig y).length - 1) rfl (mp ht) ?_
  refine Ca rfl (LeadingZeros32_ok htb ht0) fun v hv => ?_
  obtain ⟨s, rfl, hs32, hs1, hs2⟩ := hv
  obtain ⟨hlen, t', ht', htt⟩ := norm_len hy0 ht hs1 hs2
  refine Co rfl (shiftLeft_ok hx hs32) fun v ob hv => ?_
  obtain ⟨lu0, hul, huw, huv, rfl, rfl⟩ := hv
  refine Ca rfl (shiftLeft_data hy hs32) fun v hv => ?_
  obtain ⟨lv, hvl, hvw, hvv, rfl⟩ := hv
  obtain ⟨Y, hY⟩ : ∃ Y, Y = y * 2 ^ s := ⟨_, rfl⟩
  rw [← hY] at hlen ht' hvv
  refine Ce (r := .d (ws (dig Y))) rfl (by have := trim_ok hvw (by omega); rwa [hvv] at this) ?_
  obtain ⟨mv, hmv⟩ : ∃ mv, mv = (dig Y).length := ⟨_, rfl⟩
  have hq0 : lu0.length - mv ≤ 549755813889 := by omega
  refine Ar (lu0.length - mv : Nat) rfl ?_ (wr (by simp only [lw]; omega) (by simp only [inK]; omega))
  refine Mk (lu0.length - mv) rfl (by omega) ?_
  obtain ⟨tn, htn⟩ := xat (l := dig Y) (k := mv - 2) (by omega)
  have htnb := ww htn (words_dig Y)
  have ht1 : (dig Y)[mv - 1]? = some t' := by rw [hmv, hlen]; exact ht'
  have htb1 := ww ht1 (words_dig Y)
  refine Dw rfl ?_
  refine Ar (mv - 1 : Nat) rfl ?_ (wr (by simp only [lw]; omega) (by simp only [inK]; omega))
  refine Ix (mv - 1) rfl (mp ht1) ?_
  refine Cv t' rfl ?_
  refine Ar (mv - 2 : Nat) rfl ?_ (wr (by simp only [lw]; omega) (by simp only [inK]; omega))
  refine Ix (mv - 2) rfl (mp htn) ?_
  refine Cv tn rfl ?_
  refine Ar ((lu0.length - mv : Nat) - 1 : Int) rfl ?_
  have hY0 : Y ≠ 0 := by rw [hY]; exact Nat.mul_ne_zero hy0 (Nat.pos_iff_ne_zero.1 (Nat.two_pow_pos s))
  have hYl := dig_ub Y
  have hYM : Y = val ((dig Y).take (mv - 2)) + 4294967296 ^ (mv - 2) * (tn + 4294967296 * t') := by
    have h1 := val_take_succ htn
    have h2 := val_take_succ (k := mv - 2 + 1) (l := dig Y) (x := t') (by rw [show mv - 2 + 1 = mv - 1 from by omega]; exact ht1)
    rw [show mv - 2 + 1 + 1 = (dig Y).length from by omega, List.take_length, val_dig, h1, Nat.pow_succ, Nat.mul_assoc] at h2
    rw [Nat.mul_add]; omega
  have hvlow : val ((dig Y).take (mv - 2)) < 4294967296 ^ (mv - 2) := by
    have := val_lt ((words_dig Y).take (mv - 2))
    rwa [List.length_take, Nat.min_eq_left (by omega)] at this
  have hM : 0 < 4294967296 ^ (mv - 2) := Nat.pow_pos (by decide)
  have hR0 : val (lu0.drop (lu0.length - mv)) < Y := by
    have h1 := val_split lu0 (lu0.length - mv) (by omega)
    rw [huv] at h1
    have h2 := dig_lb hy0
    have h3 := dig_ub x
    have hp := Nat.two_pow_pos s
    apply Classical.byContradiction
    intro hn2
    have h4 : 4294967296 ^ (lu0.length - mv) * Y ≤ x * 2 ^ s := by
      rw [h1]
      have := Nat.mul_le_mul_left (4294967296 ^ (lu0.length - mv)) (Nat.le_of_not_lt hn2)
      omega
    rw [hY, ← Nat.mul_assoc] at h4
    have h5 := Nat.le_of_mul_le_mul_right h4 hp
    have h6 := Nat.mul_le_mul_left (4294967296 ^ (lu0.length - mv)) h2
    rw [← Nat.pow_add, show lu0.length - mv + ((dig y).length - 1) = (dig x).length from by omega] at h6
    omega
  refine Lo (fun (k, lu, lq) => [(8, .d (.int .i64 s)), (9, .own 62 1 0 lu0.length), (10, .d (ws (dig Y))), (11, .d (.int .i64 mv)), (12, .own 73 1 0 (lu0.length - mv)), (13, .d (.int .u64 t')), (14, .d (.int .u64 tn)), (15, .d (.int .i64 ((k : Nat) - 1 : Int)))]) (fun (_, lu, lq) => [(62, .arr 1 (lu.map wd)), (73, .arr 1 (lq.map wd))])
    (fun (k, lu, lq) => k ≤ lu0.length - mv ∧ lu.length = lu0.length ∧ Words lu ∧ lq.length = lu0.length - mv ∧ Words lq ∧ (∀ j, j < k → lu[j]? = lu0[j]?) ∧ val (lu.drop k) < Y ∧ val (lq.drop k) * Y + val (lu.drop k) = val (lu0.drop k)) (fun (k, _, _) => k) (lu0.length - mv, lu0, List.replicate (lu0.length - mv) 0) [] rfl
    ⟨by omega, rfl, huw, by simp, wzero _, fun _ _ => rfl, hR0, by rw [List.drop_eq_nil_of_le (by simp)]; simp [val]⟩ ?_ (by exact ⟨by simp only [lw, ws, hmv]; rfl, by simp only [List.map_replicate]; rfl, rfl, rfl, rfl⟩)
  rintro ⟨k, lu, lq⟩ ⟨hk, hln, hwu, hlq, hwq, hsame, hRlt, hQR⟩
  refine By rfl (fun h => ?_) fun h => ?_
  · obtain ⟨u0, hu0⟩ := xat (l := lu) (k := k - 1 + mv) (by omega)
    obtain ⟨u1, hu1⟩ := xat (l := lu) (k := k - 1 + mv - 1) (by omega)
    obtain ⟨u2, hu2⟩ := xat (l := lu) (k := k - 1 + mv - 2) (by omega)
    have hub0 := ww hu0 hwu
    have hub1 := ww hu1 hwu
    have hub2 := ww hu2 hwu
    obtain ⟨hwin, hUlt⟩ := window (n := mv) (i := k - 1) (Y := Y) hwu (by omega) (by rw [show k - 1 + 1 = k from by omega]; exact hRlt) (by rw [hmv]; exact Nat.le_of_lt hYl)
    have hUM : val (lu.drop (k - 1)) = val ((lu.drop (k - 1)).take (mv - 2)) + 4294967296 ^ (mv - 2) * (u2 + 4294967296 * (u0 * 2 ^ 32 + u1)) := by
      have g1 := val_wsucc (l := lu) (q := k - 1) (i := mv - 2) (u := u2) (by rw [show k - 1 + (mv - 2) = k - 1 + mv - 2 from by omega]; exact hu2)
      have g2 := val_wsucc (l := lu) (q := k - 1) (i := mv - 2 + 1) (u := u1) (by rw [show k - 1 + (mv - 2 + 1) = k - 1 + mv - 1 from by omega]; exact hu1)
      have g3 := val_wsucc (l := lu) (q := k - 1) (i := mv - 2 + 1 + 1) (u := u0) (by rw [show k - 1 + (mv - 2 + 1 + 1) = k - 1 + mv from by omega]; exact hu0)
      rw [show mv - 2 + 1 + 1 + 1 = mv + 1 from by omega, g2, g1, ← hwin] at g3
      rw [g3, Nat.pow_succ, Nat.pow_succ]
      exact usplit ..
    have hlow : val ((lu.drop (k - 1)).take (mv - 2)) < 4294967296 ^ (mv - 2) := by
      have := val_lt ((hwu.drop (k - 1)).take (mv - 2))
      rwa [List.length_take, List.length_drop, Nat.min_eq_left (by omega)] at this
    obtain ⟨U, hU⟩ : ∃ U, U = val (lu.drop (k - 1)) := ⟨_, rfl⟩
    obtain ⟨low, hlowg⟩ : ∃ low, low = val ((lu.drop (k - 1)).take (mv - 2)) := ⟨_, rfl⟩
    obtain ⟨vlow, hvlowg⟩ : ∃ vlow, vlow = val ((dig Y).take (mv - 2)) := ⟨_, rfl⟩
    obtain ⟨M, hMg⟩ : ∃ M, M = 4294967296 ^ (mv - 2) := ⟨_, rfl⟩
    obtain ⟨top, htop⟩ : ∃ top, top = u0 * 2 ^ 32 + u1 := ⟨_, rfl⟩
    have htopb : top < 18446744073709551616 := by omega
    rw [← hU] at hwin hUlt hUM
    rw [← hMg, ← hlowg, ← htop] at hUM
    rw [← hMg, ← hvlowg] at hYM
    rw [← hMg, ← hlowg] at hlow
    rw [← hMg, ← hvlowg] at hvlow
    rw [← hMg] at hM
    refine Dw rfl ?_
    refine Ar (k - 1 + mv : Nat) rfl ?_
    refine Eo (k - 1 + mv) rfl (by omega) ?_
    refine Ld (wd u0) rfl (mp hu0) ?_
    refine Cv u0 rfl ?_
    refine Ar (u0 * 2 ^ 32 : Nat) rfl ?_ (shl64 (n := 32) rfl (by omega) (by decide))
    refine Ar (k - 1 + mv : Nat) rfl ?_
    refine Ar (k - 1 + mv - 1 : Nat) rfl ?_
    refine Eo (k - 1 + mv - 1) rfl (by omega) ?_
    refine Ld (wd u1) rfl (mp hu1) ?_
    refine Cv u1 rfl ?_
    refine Ar top rfl ?_ (or64 (by omega) (by omega) (by rw [or_add u1 u0 32 (by omega), ← htop]) htopb)
    have hd63 : top / t' < 9223372036854775808 := by
      rw [Nat.div_lt_iff_lt_mul (by omega)]
      have := Nat.mul_le_mul_left 9223372036854775808 htt
      omega
    have hr63 : top % t' < t' := Nat.mod_lt _ (by omega)
    have hdz : 0 ≤ top / t' := Nat.zero_le _
    refine Dw rfl ?_
    refine Ar (top / t' : Nat) rfl ?_ (show _ ∧ _ from ⟨by omega, tquo top t' htopb⟩)
    refine Ar (top % t' : Nat) rfl ?_ (show _ ∧ _ from ⟨by omega, trem top t'⟩)
    have hqz : U / Y ≤ top / t' := by
      apply Nat.le_of_not_lt
      intro hlt
      have h1 : (top / t' + 1) * Y ≤ U := by
        have := Nat.div_mul_le_self U Y
        exact Nat.le_trans (Nat.mul_le_mul_right _ hlt) this
      have h2 := Nat.div_add_mod top t'
      have h4 : (top / t' + 1) * t' ≥ top + 1 := by rw [Nat.add_mul, Nat.mul_comm, Nat.one_mul]; omega
      have h5 : (top / t' + 1) * (M * (4294967296 * t')) ≤ (top / t' + 1) * Y := Nat.mul_le_mul_left _ (by rw [hYM, Nat.mul_add]; omega)
      have h6 : (top / t' + 1) * (M * (4294967296 * t')) = M * (4294967296 * ((top / t' + 1) * t')) := by grind
      have h7 : M * (4294967296 * (top + 1)) ≤ M * (4294967296 * ((top / t' + 1) * t')) := Nat.mul_le_mul_left _ (Nat.mul_le_mul_left _ h4)
      have h8 : M * (u2 + 4294967296 * top + 1) ≤ M * (4294967296 * (top + 1)) := Nat.mul_le_mul_left _ (by omega)
      rw [Nat.mul_add M _ 1, Nat.mul_one] at h8
      omega
    refine Cu (some 1000003) (fun (dd : Nat) => [(8, .d (.int .i64 s)), (9, .own 62 1 0 lu0.length), (10, .d (ws (dig Y))), (11, .d (.int .i64 mv)), (12, .own 73 1 0 (lu0.length - mv)), (13, .d (.int .u64 t')), (14, .d (.int .u64 tn)), (15, .d (.int .i64 ((k : Nat) - 1 : Int))), (17, .d (.int .u64 dd))]) (fun _ => [(62, .arr 1 (lu.map wd)), (73, .arr 1 (lq.map wd))])
      (fun dd => dd < 4294967296 ∧ U / Y ≤ dd ∧ dd ≤ U / Y + 1) rfl ?_ fun dd ⟨hdB, hdq, hdq1⟩ => ?_
    · refine Lo (fun (dd, r) => [(8, .d (.int .i64 s)), (9, .own 62 1 0 lu0.length), (10, .d (ws (dig Y))), (11, .d (.int .i64 mv)), (12, .own 73 1 0 (lu0.length - mv)), (13, .d (.int .u64 t')), (14, .d (.int .u64 tn)), (15, .d (.int .i64 ((k : Nat) - 1 : Int))), (17, .d (.int .u64 (dd : Nat))), (18, .d (.int .u64 (r : Nat)))]) (fun _ => [(62, .arr 1 (lu.map wd)), (73, .arr 1 (lq.map wd))])
        (fun (dd, r) => U / Y ≤ dd ∧ dd * t' + r = top ∧ r < 4294967296 ∧ dd < 9223372036854775808) (fun (dd, _) => dd) (top / t', top % t') [] rfl ⟨hqz, by rw [Nat.mul_comm]; exact Nat.div_add_mod .., by omega, hd63⟩ ?_
      rintro ⟨dd, r⟩ ⟨hdq, hdt, hr, hd63⟩
      refine By rfl (fun h1 => ?_) fun h1 => ?_
      · have hUq : U / Y < dd := est_ge hUlt (Nat.pos_of_ne_zero hY0) (by omega)
        have hdd1 : 1 ≤ dd := Nat.lt_of_le_of_lt (Nat.zero_le _) hUq
        have hdd : (dd - 1) * t' + (r + t') = top := by
          obtain ⟨e, rfl⟩ : ∃ e, dd = e + 1 := ⟨dd - 1, by omega⟩
          rw [Nat.add_sub_cancel]; rw [Nat.add_mul, Nat.one_mul] at hdt; omega
        refine Ar (dd - 1 : Nat) rfl ?_
        refine Ar (r + t' : Nat) rfl ?_
        refine By rfl (fun h2 => ?_) fun h2 => ?_
        · exact Jn (dd - 1) [] rfl (dd_last hY0 hM hUM hYM hUlt hvlow htnb htt hdd (by omega) hUq)
        · exact Bk (dd - 1, r + t') [] rfl ⟨by omega, hdd, by omega, by omega⟩ (by show dd - 1 < dd; omega)
      · have htd : dd * tn < 18446744073709551616 := by have := mulB (a := dd) (b := tn) (by omega) htnb; omega
        refine Ar (dd * tn : Nat) rfl ?_ (wr (Int.natCast_mul ..).symm (by simp only [inK]; omega))
        refine Ar (r * 2 ^ 32 : Nat) rfl ?_ (shl64 (n := 32) rfl (by omega) (by decide))
        refine Ar (k - 1 + mv : Nat) rfl ?_
        refine Ar (k - 1 + mv - 2 : Nat) rfl ?_
        refine Eo (k - 1 + mv - 2) rfl (by omega) ?_
        refine Ld (wd u2) rfl (mp hu2) ?_
        refine Cv u2 rfl ?_
        refine Ar (r * 2 ^ 32 + u2 : Nat) rfl ?_ (or64 (by omega) (by omega) (or_add u2 r 32 (by omega)) (by omega))
        refine By rfl (fun h2 => ?_) fun h2 => ?_
        · have hUq : U / Y < dd := by
            have h1 : r * 4294967296 + u2 < dd * tn := Int.ofNat_lt.1 h2
            have h2 := est_gt hlow hM hdt h1 (by rw [← hYM]; exact Nat.pos_of_ne_zero hY0)
            rwa [← hUM, ← hYM] at h2
          have hdd1 : 1 ≤ dd := Nat.lt_of_le_of_lt (Nat.zero_le _) hUq
          have hdd : (dd - 1) * t' + (r + t') = top := by
            obtain ⟨e, rfl⟩ : ∃ e, dd = e + 1 := ⟨dd - 1, by omega⟩
            rw [Nat.add_sub_cancel]; rw [Nat.add_mul, Nat.one_mul] at hdt; omega
          refine Ar (dd - 1 : Nat) rfl ?_
          refine Ar (r + t' : Nat) rfl ?_
          refine By rfl (fun h2 => ?_) fun h2 => ?_
          · exact Jn (dd - 1) [] rfl (dd_last hY0 hM hUM hYM hUlt hvlow htnb htt hdd (by omega) hUq)
          · exact Bk (dd - 1, r + t') [] rfl ⟨by omega, hdd, by omega, by omega⟩ (by show dd - 1 < dd; omega)
        · exact Jn dd [] rfl ⟨by omega, hdq, by
            rw [hUM, hYM]
            exact est_le (r := r) hM hvlow hdt (by have h2 := Int.ofNat_le.1 (Int.not_lt.1 h2); omega) (by omega) (by omega)⟩
    refine Ar (k - 1 + mv : Nat) rfl ?_
    refine Ar (k - 1 + mv + 1 : Nat) rfl ?_
    refine Sw (k - 1) (k - 1 + mv + 1) rfl (by omega) (by omega) ?_
    refine Cw (args := [.own 1000001 1 (k - 1) (mv + 1), .d (ws (dig Y)), .d (.int .u64 dd)]) [(1000001, 62)] rfl (subtract_ok (l := lu) hwu (by omega) hmv.symm hdB (by omega)) (fun v H' _ hv => ?_) (by exact congrArg (· :: _) (by rw [Nat.zero_add, show k - 1 + mv + 1 - (k - 1) = mv + 1 by omega]; rfl))
    obtain ⟨cc, lu1, hc1, rfl, rfl, hl1, hw1, hout1, hv1⟩ := hv
    have hwin1 := val_lt ((hw1.drop (k - 1)).take (mv + 1))
    have hwin0 := val_lt ((hwu.drop (k - 1)).take (mv + 1))
    rw [List.length_take, List.length_drop, Nat.min_eq_left (by omega)] at hwin1 hwin0
    rw [← hwin] at hv1 hwin0
    have hstep := step_ok (Nat.pos_of_ne_zero hY0) hdq hdq1 hv1 hc1 hwin1 hwin0
    refine Cu none (fun (lu2 : List Nat) => [(8, .d (.int .i64 s)), (9, .own 62 1 0 lu0.length), (10, .d (ws (dig Y))), (11, .d (.int .i64 mv)), (12, .own 73 1 0 (lu0.length - mv)), (13, .d (.int .u64 t')), (14, .d (.int .u64 tn)), (15, .d (.int .i64 ((k : Nat) - 1 : Int))), (17, .d (.int .u64 (U / Y : Nat)))]) (fun lu2 => [(62, .arr 1 (lu2.map wd)), (73, .arr 1 (lq.map wd))])
      (fun lu2 => lu2.length = lu0.length ∧ Words lu2 ∧ (∀ j, (j < k - 1 ∨ k - 1 + (mv + 1) ≤ j) → lu2[j]? = lu[j]?) ∧ val ((lu2.drop (k - 1)).take (mv + 1)) = U % Y) rfl ?_ fun lu2 ⟨hl2, hw2, hout, hwinv⟩ => ?_
    · refine By rfl (fun h1 => ?_) fun h1 => ?_
      · obtain ⟨hdd1, hrest1⟩ := hstep.2 h1
        refine Ar (U / Y : Nat) rfl ?_ (wr (by rw [hdd1]; exact (by omega : ((U / Y + 1 : Nat) : Int) - 1 = ((U / Y : Nat) : Int))) (by simp only [inK]; have := Nat.zero_le (U / Y); omega))
        refine Ar (k - 1 + mv : Nat) rfl ?_
        refine Ar (k - 1 + mv + 1 : Nat) rfl ?_
        refine Sw (k - 1) (k - 1 + mv + 1) rfl (by omega) (by omega) ?_
        refine Cw (args := [.own 1000001 1 (k - 1) (mv + 1), .d (ws (dig Y))]) [(1000001, 62)] rfl (restore_ok (l := lu1) hw1 (by omega) hmv.symm (by omega)) (fun v H' _ hv => ?_) (by exact congrArg (· :: _) (by rw [Nat.zero_add, show k - 1 + mv + 1 - (k - 1) = mv + 1 by omega]; rfl))
        obtain ⟨e', lu2, he1, rfl, hl2, hw2, hout2, hv2⟩ := hv
        have hwin2 := val_lt ((hw2.drop (k - 1)).take (mv + 1))
        rw [List.length_take, List.length_drop, Nat.min_eq_left (by omega)] at hwin2
        exact Jn lu2 [] rfl ⟨by omega, hw2, fun j hj => (hout2 j hj).trans (hout1 j hj), hrest1 _ e' hwin2 hv2 he1⟩
      · obtain ⟨hdd1, hrest1⟩ := hstep.1 (by omega)
        subst hdd1
        exact Jn lu1 [] rfl ⟨by omega, hw1, hout1, hrest1⟩
    have hqB : U / Y < 4294967296 := by omega
    have hqz0 : 0 ≤ U / Y := Nat.zero_le _
    refine Cv (U / Y : Nat) rfl ?_
    refine Eo (k - 1) rfl (by omega) ?_
    refine Sto rfl (by simp only [lw]; omega) ms ?_
    refine Ar ((k - 1 : Nat) - 1 : Int) rfl ?_
    have hY1 : 0 < Y := Nat.pos_of_ne_zero hY0
    have hab : val (lu2.drop (k - 1)) = U % Y := by
      have g1 := val_split (lu2.drop (k - 1)) (mv + 1) (by rw [List.length_drop]; omega)
      have g2 := val_split (lu.drop (k - 1)) (mv + 1) (by rw [List.length_drop]; omega)
      have g3 : (lu2.drop (k - 1)).drop (mv + 1) = (lu.drop (k - 1)).drop (mv + 1) := by
        rw [List.drop_drop, List.drop_drop]
        exact drop_congr fun j hj => hout j (.inr hj)
      rw [← hU, ← hwin] at g2
      rw [g1, hwinv, g3]
      omega
    refine Bk (k - 1, lu2, lq.set (k - 1) (U / Y)) [] rfl ⟨by omega, hl2, hw2, by simp [hlq], wset hwq hqB, fun j hj => (hout j (.inl hj)).trans (hsame j (by omega)), by rw [hab]; exact Nat.mod_lt _ hY1, ?_⟩ (by show k - 1 < k; omega)
    obtain ⟨w, hw⟩ := xat (l := lu) (k := k - 1) (by omega)
    have hw2' : lu0[k - 1]? = some w := by rw [← hsame (k - 1) (by omega)]; exact hw
    have g1 := val_drop hw
    have g2 := val_drop hw2'
    have g3 := val_drop (l := lq.set (k - 1) (U / Y)) (k := k - 1) (List.getElem?_set_self (by omega))
    have g4 : (lq.set (k - 1) (U / Y)).drop (k - 1 + 1) = lq.drop (k - 1 + 1) := drop_congr fun j hj => List.getElem?_set_ne (by omega)
    rw [show k - 1 + 1 = k from by omega] at g1 g2 g3 g4
    rw [hab, g2, g3, g4, ← hQR, Nat.add_mul, Nat.mul_assoc, Nat.mul_add]
    have g5 := Nat.div_add_mod U Y
    rw [Nat.mul_comm] at g5
    rw [← hU] at g1
    omega
  · have hk0 : k = 0 := by omega
    subst hk0
    rw [List.drop_zero] at hRlt hQR
    rw [List.drop_zero, List.drop_zero, huv] at hQR
    obtain ⟨hQ, hR⟩ := div_fin hY.symm hQR hRlt
    have htk : val (lu.take mv) = val lu := by
      have g := val_split lu mv (by omega)
      rw [hmv] at g
      rcases Nat.eq_zero_or_pos (val (lu.drop (dig Y).length)) with h5 | h5
      · rw [h5, Nat.mul_zero] at g; rw [hmv]; omega
      · have := Nat.le_mul_of_pos_right (4294967296 ^ (dig Y).length) h5
        omega
    refine Fz 26 12 (lq.map wd) rfl (by simp only [lw]; omega) (oa hlq) ?_
    refine Fz 26 9 (lu.map wd) rfl (by simp only [lw]; omega) (oa hln) ?_
    refine Dw rfl ?_
    refine Ce rfl (trim_ok hwq (by omega)) ?_
    refine Tk mv (lu.take mv |>.map wd) rfl rfl (by simp only [lw]; omega) (List.map_take ..).symm ?_
    refine Ce rfl (trim_ok (hwu.take mv) (by rw [List.length_take]; omega)) ?_
    refine Ca rfl (shiftRight_ok (words_dig _) (by rw [htk]; have := len_mono (Nat.le_of_lt hRlt); omega) hs32) fun v hv => ?_
    obtain ⟨l8, hl8, hw8, hn8, rfl⟩ := hv
    rw [val_dig, htk, hR, Nat.mul_div_cancel _ (Nat.two_pow_pos s)] at hl8
    refine Ce rfl (trim_ok hw8 (by rw [hn8, htk]; have := len_mono (Nat.le_of_lt hRlt); omega)) ?_
    exact RTt rfl (.cons (.eq (by rw [hQ])) (.one (.eq (by rw [hl8])) (fun _ _ e => by cases e) (fun _ _ e => by cases e)))
end
end Go.Proofs.YtfmgfaeheljpcaaGreat

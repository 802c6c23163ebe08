/- The program's integers, the words, fifth part: the steps of the long division. -/
import Derived.Test.YtcobdnnfmhfenaaGreatId
import Derived.Test.YtcobdnnfmhfenaaGreatRl
set_option linter.unusedVariables false
set_option linter.unusedSimpArgs false
set_option maxRecDepth 10000
namespace Go.Proofs.YtcobdnnfmhfenaaGreat
open Go Go.Rx Go.Num

theorem mulB {a b : Nat} (ha : a < 4294967296) (hb : b < 4294967296) : a * b ≤ 18446744065119617025 := by
  have := Nat.mul_le_mul (show a ≤ 4294967295 by omega) (show b ≤ 4294967295 by omega)
  omega
/-- subtract -/
theorem integer_subtract_ok {W : GW} {b q m c c2 k y d cv : Nat} {pv : Option Addr} {l : List Nat} (h : Ows RW W (some ⟨b, 0, none⟩) m c l) (hq : q + (k + 1) ≤ m) (hv : Sl RW W pv k cv (dig y)) (hd : d < 4294967296) (hk40 : k ≤ 1099511627776) :
    OkK Tryz.prog 118 [.slice (some ⟨b, q, none⟩) (k + 1) c2, .slice pv k cv, .int .u64 (d : Int)] W fun W' v => ∃ (neg : Bool) (l' : List Nat), v = .bool neg ∧ OnlyB b W W' ∧ Ows RW W' (some ⟨b, 0, none⟩) m c l' ∧
      (∀ j, (j < q ∨ q + (k + 1) ≤ j) → l'[j]? = l[j]?) ∧ val ((l'.drop q).take (k + 1)) + y * d = val ((l.drop q).take (k + 1)) + 4294967296 ^ (k + 1) * (if neg = true then 1 else 0) := by
  have hvn := hv.hn
  refine OkK.enter Tryz.func118 rfl rfl rfl rfl ?_
  refine J.seq <| J.reg rfl <| O.as rfl <| JO.nil <| J.seq <| J.reg rfl <| O.as rfl <| JO.nil <| J.seq <| J.seq <| J.reg rfl <| O.mv rfl <| O.len rfl <| O.mv rfl <| JO.nil <| J.block <| ?_
  refine J.loop (α := Nat × List Nat × Nat) (fun s => [(0, .slice (some ⟨b, q, none⟩) (k + 1) c2), (1, .slice pv k cv), (2, .int .u64 (d : Int)), (7, .int .u64 (s.2.2 : Int)), (13, .slice pv k cv), (14, .int .i64 (k : Int)), (15, .int .i64 (s.1 : Int))]) (fun s W' => Lk W W' ∧ OnlyB b W W' ∧ Ows RW W' (some ⟨b, 0, none⟩) m c s.2.1 ∧ s.1 ≤ k ∧ s.2.2 < 4294967296 ∧ (∀ j, (j < q ∨ q + s.1 ≤ j) → s.2.1[j]? = l[j]?) ∧ val ((s.2.1.drop q).take s.1) + val ((dig y).take s.1) * d = val ((l.drop q).take s.1) + 4294967296 ^ s.1 * s.2.2) (fun s => k - s.1) (0, l, 0) ⟨rfl, rfl, rfl, rfl, rfl, rfl, rfl, trivial⟩ ⟨inferInstance, OnlyB.refl _ _, h, Nat.zero_le _, by show (0 : Nat) < 4294967296; decide, fun _ _ => rfl, by simp [val]⟩ ?_
  rintro ⟨i, lo, br⟩ W3 ⟨iL, hof, ho, hi, hbr, hrest, hval⟩
  dsimp only at *
  have hln := ho.hn
  refine J.seq <| J.reg rfl <| O.lt rfl rfl <| JO.nil <| J.seq <| J.condD rfl (fun h16 => ?_) (fun h16 => ?_)
  · skip
    obtain ⟨w, hw⟩ := xat (l := dig y) (k := i) (by omega)
    have hwb := words_dig y w (List.mem_of_getElem? hw)
    obtain ⟨u, hu⟩ := xat (l := lo) (k := q + i) (by omega)
    have hub := own_val_word ho hu
    have hwd := mulB hwb hd
    refine J.skip <| J.seq <| J.block <| J.seq <| J.reg rfl <| O.mv rfl <| O.ixW (j := i) rfl rfl rfl hv.to hw fun a1 => O.as rfl <| O.as rfl <| JO.nil <| J.seq <| J.reg rfl <| O.mv rfl <| O.cv rfl (wU (by omega)) <| O.mv rfl <| O.mul (r := ((w * d : Nat) : Int)) rfl rfl ((wU (by rw [← Int.natCast_mul]; omega)).trans (by rw [Int.natCast_mul])) <| O.mv rfl <| O.add (r := ((w * d + br : Nat) : Int)) rfl rfl ((wU (by omega)).trans (by omega)) <| O.as rfl <| JO.nil <| J.seq <| ?_
    obtain ⟨s, hs⟩ : ∃ s, s = w * d + br := ⟨_, rfl⟩
    rw [← hs]
    refine J.reg rfl <| O.mv rfl <| O.mv rfl <| O.iaQ (q := q) (j := i) rfl rfl rfl (by omega) <| O.ldQ rfl ho hu <| O.cv rfl (wU (by omega)) <| O.mv rfl <| O.cv (r := ((s % 4294967296 : Nat) : Int)) rfl ((wWm _).trans (by omega)) <| O.cv (r := ((s % 4294967296 : Nat) : Int)) rfl (wU (by omega)) <| O.sb (r := (((u + 18446744073709551616 - s % 4294967296) % 18446744073709551616 : Nat) : Int)) rfl rfl ((wUm _).trans (by omega)) <| O.as rfl <| JO.nil <| J.seq <| ?_
    obtain ⟨t, ht⟩ : ∃ t, t = (u + 18446744073709551616 - s % 4294967296) % 18446744073709551616 := ⟨_, rfl⟩
    rw [← ht]
    refine J.reg rfl <| O.mv rfl <| O.mv rfl <| O.mv rfl <| O.cv (r := ((t % 4294967296 : Nat) : Int)) rfl ((wWm _).trans (by omega)) <| O.iaQ (q := q) (j := i) rfl rfl rfl (by omega) <| O.stoF (r := RW) (j := q + i) (u := t % 4294967296) rfl rfl ho (by omega) (rwv _ (by omega)) rfl (.inr rfl) fun W5 i5 f5 z5 o5 => JO.nil <| J.reg rfl <| O.mv rfl <| O.shr rfl rfl (by decide) (shr32 s) <| O.mv rfl <| O.shr rfl rfl (by decide) (shr63 t) <| O.add (r := ((s / 4294967296 + t / 9223372036854775808 : Nat) : Int)) rfl rfl ((wU (by omega)).trans (by omega)) <| O.as rfl <| JO.nil <| J.bend <| J.reg rfl <| O.add rfl rfl (wI (by omega)) <| O.mv rfl <| JO.nil <| ?_
    have hu0 : l[q + i]? = some u := by rw [← hrest (q + i) (.inr (Nat.le_refl _))]; exact hu
    have hst : t % 4294967296 + s = u + 4294967296 * (s / 4294967296 + t / 9223372036854775808) := by omega
    have hfin : val (((lo.set (q + i) (t % 4294967296)).drop q).take (i + 1)) + val ((dig y).take (i + 1)) * d = val ((l.drop q).take (i + 1)) + 4294967296 ^ (i + 1) * (s / 4294967296 + t / 9223372036854775808) := by
      rw [val_wset (by omega), val_take_succ hw, val_wsucc hu0, Nat.pow_succ, Nat.mul_assoc, Nat.add_mul, Nat.mul_assoc]
      have e : 4294967296 ^ i * (t % 4294967296 + s) = 4294967296 ^ i * (u + 4294967296 * (s / 4294967296 + t / 9223372036854775808)) := by rw [hst]
      have e2 : 4294967296 ^ i * s = 4294967296 ^ i * (w * d) + 4294967296 ^ i * br := by rw [hs, Nat.mul_add]
      rw [Nat.mul_add, Nat.mul_add (4294967296 ^ i) u] at e
      omega
    exact J.at' (i + 1, lo.set (q + i) (t % 4294967296), s / 4294967296 + t / 9223372036854775808) ⟨rfl, rfl, rfl, rfl, rfl, rfl, rfl, trivial⟩ ⟨⟨inferInstance, hof.trans f5 iL.s.size, o5, by show i + 1 ≤ k; omega, by show s / 4294967296 + t / 9223372036854775808 < 4294967296; omega, fun j hj => by rw [List.getElem?_set_ne (by omega)]; exact hrest j (by omega), hfin⟩, by show k - (i + 1) < k - i; omega⟩
  · skip
    have hik : i = k := by omega
    rw [hik] at hrest hval
    rw [List.take_of_length_le (l := dig y) (by omega), val_dig] at hval
    obtain ⟨u, hu⟩ := xat (l := lo) (k := q + k) (by omega)
    have hub := own_val_word ho hu
    refine J.exit rfl <| J.seq <| J.reg rfl <| O.mv rfl <| O.mv rfl <| O.len rfl <| O.iaQ (q := q) (j := k) rfl rfl rfl (by omega) <| O.ldQ rfl ho hu <| O.cv rfl (wU (by omega)) <| O.mv rfl <| O.sb (r := (((u + 18446744073709551616 - br) % 18446744073709551616 : Nat) : Int)) rfl rfl ((wUm _).trans (by omega)) <| O.as rfl <| JO.nil <| J.seq <| ?_
    obtain ⟨t, ht⟩ : ∃ t, t = (u + 18446744073709551616 - br) % 18446744073709551616 := ⟨_, rfl⟩
    rw [← ht]
    refine J.reg rfl <| O.mv rfl <| O.mv rfl <| O.len rfl <| O.mv rfl <| O.cv (r := ((t % 4294967296 : Nat) : Int)) rfl ((wWm _).trans (by omega)) <| O.iaQ (q := q) (j := k) rfl rfl rfl (by omega) <| O.stoF (r := RW) (j := q + k) (u := t % 4294967296) rfl rfl ho (by omega) (rwv _ (by omega)) rfl (.inr rfl) fun W5 i5 f5 z5 o5 => JO.nil <| J.seq <| J.reg rfl <| O.mv rfl <| O.shr rfl rfl (by decide) (shr63 t) <| O.eq rfl rfl <| O.as rfl <| JO.nil <| ?_
    have hu0 : l[q + k]? = some u := by rw [← hrest (q + k) (.inr (Nat.le_refl _))]; exact hu
    have hneg : (if decide (((t / 9223372036854775808 : Nat) : Int) = 1) = true then 1 else 0) = t / 9223372036854775808 := by
      by_cases hc : ((t / 9223372036854775808 : Nat) : Int) = 1
      · rw [if_pos (decide_eq_true hc)]; omega
      · rw [if_neg (by rw [decide_eq_true_eq]; exact hc)]; omega
    refine J.retK1 rfl (.tmp rfl) ⟨_, lo.set (q + k) (t % 4294967296), rfl, hof.trans f5 iL.s.size, o5, fun j hj => by rw [List.getElem?_set_ne (by omega)]; exact hrest j (by omega), ?_⟩
    rw [hneg, val_wset (by omega), val_wsucc hu0, Nat.pow_succ, Nat.mul_assoc]
    have e : 4294967296 ^ k * (t % 4294967296 + br) = 4294967296 ^ k * (u + 4294967296 * (t / 9223372036854775808)) := by congr 1; omega
    rw [Nat.mul_add, Nat.mul_add (4294967296 ^ k) u] at e
    omega

/-- restore -/
theorem integer_restore_ok {W : GW} {b q m c c2 k y cv : Nat} {pv : Option Addr} {l : List Nat} (h : Ows RW W (some ⟨b, 0, none⟩) m c l) (hq : q + (k + 1) ≤ m) (hv : Sl RW W pv k cv (dig y)) (hk40 : k ≤ 1099511627776) :
    OkK Tryz.prog 119 [.slice (some ⟨b, q, none⟩) (k + 1) c2, .slice pv k cv] W fun W' v => ∃ (e : Nat) (l' : List Nat), e ≤ 1 ∧ OnlyB b W W' ∧ Ows RW W' (some ⟨b, 0, none⟩) m c l' ∧
      (∀ j, (j < q ∨ q + (k + 1) ≤ j) → l'[j]? = l[j]?) ∧ val ((l'.drop q).take (k + 1)) + 4294967296 ^ (k + 1) * e = val ((l.drop q).take (k + 1)) + y := by
  have hvn := hv.hn
  refine OkK.enter Tryz.func119 rfl rfl rfl rfl ?_
  refine J.seq <| J.reg rfl <| O.as rfl <| JO.nil <| J.seq <| J.seq <| J.reg rfl <| O.mv rfl <| O.len rfl <| O.mv rfl <| JO.nil <| J.block <| ?_
  refine J.loop (α := Nat × List Nat × Nat) (fun s => [(0, .slice (some ⟨b, q, none⟩) (k + 1) c2), (1, .slice pv k cv), (4, .int .u64 (s.2.2 : Int)), (7, .slice pv k cv), (8, .int .i64 (k : Int)), (9, .int .i64 (s.1 : Int))]) (fun s W' => Lk W W' ∧ OnlyB b W W' ∧ Ows RW W' (some ⟨b, 0, none⟩) m c s.2.1 ∧ s.1 ≤ k ∧ s.2.2 ≤ 1 ∧ (∀ j, (j < q ∨ q + s.1 ≤ j) → s.2.1[j]? = l[j]?) ∧ val ((s.2.1.drop q).take s.1) + 4294967296 ^ s.1 * s.2.2 = val ((l.drop q).take s.1) + val ((dig y).take s.1)) (fun s => k - s.1) (0, l, 0) ⟨rfl, rfl, rfl, rfl, rfl, rfl, trivial⟩ ⟨inferInstance, OnlyB.refl _ _, h, Nat.zero_le _, Nat.zero_le _, fun _ _ => rfl, by simp [val]⟩ ?_
  rintro ⟨i, lo, cr⟩ W3 ⟨iL, hof, ho, hi, hcr, hrest, hval⟩
  dsimp only at *
  have hln := ho.hn
  refine J.seq <| J.reg rfl <| O.lt rfl rfl <| JO.nil <| J.seq <| J.condD rfl (fun h10 => ?_) (fun h10 => ?_)
  · skip
    obtain ⟨w, hw⟩ := xat (l := dig y) (k := i) (by omega)
    have hwb := words_dig y w (List.mem_of_getElem? hw)
    obtain ⟨u, hu⟩ := xat (l := lo) (k := q + i) (by omega)
    have hub := own_val_word ho hu
    refine J.skip <| J.seq <| J.block <| J.seq <| J.reg rfl <| O.mv rfl <| O.ixW (j := i) rfl rfl rfl hv.to hw fun a1 => O.as rfl <| O.as rfl <| JO.nil <| J.seq <| J.reg rfl <| O.mv rfl <| O.mv rfl <| O.mv rfl <| O.iaQ (q := q) (j := i) rfl rfl rfl (by omega) <| O.ldQ rfl ho hu <| O.cv rfl (wU (by omega)) <| O.mv rfl <| O.cv rfl (wU (by omega)) <| O.add (r := ((u + w : Nat) : Int)) rfl rfl ((wU (by omega)).trans (by omega)) <| O.add (r := ((cr + (u + w) : Nat) : Int)) rfl rfl ((wU (by omega)).trans (by omega)) <| O.as rfl <| JO.nil <| J.seq <| ?_
    obtain ⟨s, hs⟩ : ∃ s, s = cr + (u + w) := ⟨_, rfl⟩
    rw [← hs]
    refine J.reg rfl <| O.mv rfl <| O.mv rfl <| O.mv rfl <| O.cv (r := ((s % 4294967296 : Nat) : Int)) rfl ((wWm _).trans (by omega)) <| O.iaQ (q := q) (j := i) rfl rfl rfl (by omega) <| O.stoF (r := RW) (j := q + i) (u := s % 4294967296) rfl rfl ho (by omega) (rwv _ (by omega)) rfl (.inr rfl) fun W5 i5 f5 z5 o5 => JO.nil <| J.reg rfl <| O.mv rfl <| O.shr rfl rfl (by decide) (shr32 s) <| O.as rfl <| JO.nil <| J.bend <| J.reg rfl <| O.add rfl rfl (wI (by omega)) <| O.mv rfl <| JO.nil <| ?_
    have hu0 : l[q + i]? = some u := by rw [← hrest (q + i) (.inr (Nat.le_refl _))]; exact hu
    have hfin : val (((lo.set (q + i) (s % 4294967296)).drop q).take (i + 1)) + 4294967296 ^ (i + 1) * (s / 4294967296) = val ((l.drop q).take (i + 1)) + val ((dig y).take (i + 1)) := by
      rw [val_wset (by omega), val_take_succ hw, val_wsucc hu0, Nat.pow_succ, Nat.mul_assoc]
      have e : 4294967296 ^ i * (s % 4294967296 + 4294967296 * (s / 4294967296)) = 4294967296 ^ i * (cr + (u + w)) := by congr 1; omega
      simp only [Nat.mul_add] at e
      omega
    exact J.at' (i + 1, lo.set (q + i) (s % 4294967296), s / 4294967296) ⟨rfl, rfl, rfl, rfl, rfl, rfl, trivial⟩ ⟨⟨inferInstance, hof.trans f5 iL.s.size, o5, by show i + 1 ≤ k; omega, by show s / 4294967296 ≤ 1; omega, fun j hj => by rw [List.getElem?_set_ne (by omega)]; exact hrest j (by omega), hfin⟩, by show k - (i + 1) < k - i; omega⟩
  · skip
    have hik : i = k := by omega
    rw [hik] at hrest hval
    rw [List.take_of_length_le (l := dig y) (by omega), val_dig] at hval
    obtain ⟨u, hu⟩ := xat (l := lo) (k := q + k) (by omega)
    have hub := own_val_word ho hu
    refine J.exit rfl <| J.reg rfl <| O.mv rfl <| O.mv rfl <| O.len rfl <| O.iaQ (q := q) (j := k) rfl rfl rfl (by omega) <| O.ldQ rfl ho hu <| O.mv rfl <| O.cv (r := ((cr : Nat) : Int)) rfl (wW (by omega)) <| O.add (r := (((u + cr) % 4294967296 : Nat) : Int)) rfl rfl ((wWm _).trans (by omega)) <| O.iaQ (q := q) (j := k) rfl rfl rfl (by omega) <| O.stoF (r := RW) (j := q + k) (u := (u + cr) % 4294967296) rfl rfl ho (by omega) (rwv _ (by omega)) rfl (.inr rfl) fun W5 i5 f5 z5 o5 => JO.nil <| ?_
    have hu0 : l[q + k]? = some u := by rw [← hrest (q + k) (.inr (Nat.le_refl _))]; exact hu
    refine J.endK0 rfl ⟨(u + cr) / 4294967296, lo.set (q + k) ((u + cr) % 4294967296), by omega, hof.trans f5 iL.s.size, o5, fun j hj => by rw [List.getElem?_set_ne (by omega)]; exact hrest j (by omega), ?_⟩
    rw [val_wset (by omega), val_wsucc hu0, Nat.pow_succ, Nat.mul_assoc]
    have e : 4294967296 ^ k * ((u + cr) % 4294967296 + 4294967296 * ((u + cr) / 4294967296)) = 4294967296 ^ k * (u + cr) := by congr 1; omega
    simp only [Nat.mul_add] at e
    omega
end Go.Proofs.YtcobdnnfmhfenaaGreat

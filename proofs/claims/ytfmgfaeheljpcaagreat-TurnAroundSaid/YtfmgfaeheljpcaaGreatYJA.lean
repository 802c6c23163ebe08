/- the reference's integers: words. -/
import Derived.Test.YtfmgfaeheljpcaaGreatYIH
import Derived.Test.YtfmgfaeheljpcaaGreatYUQ
set_option linter.unusedVariables false
set_option linter.unusedSimpArgs false
set_option maxRecDepth 10000
namespace Go.Proofs.YtfmgfaeheljpcaaGreat.R1
open Go Go.Vm Go.Num Go.Proofs.YtfmgfaeheljpcaaGreat
section
theorem trim_ok {l : List Nat} (hw : Words l) (hl : l.length ≤ 1099511627776) : C0 206 [.d (ws l)] (· = .d (ws (dig (val l)))) := by
  refine En Tryz.func206 fun _ _ => ?_
  refine Lo (fun k => [(0, .d (ws (l.take k)))]) (fun _ => []) (fun k => k ≤ l.length ∧ val (l.take k) = val l) id l.length [] rfl ⟨Nat.le_refl _, by rw [List.take_length]⟩ (fun k ⟨hk, hv⟩ => ?_) (hf := ⟨by simp only [List.take_length]; rfl, rfl, rfl, rfl, rfl⟩)
  refine By rfl (fun h => ?_) fun h => ?_ <;> simp only [List.length_map, List.length_take, Nat.min_eq_left hk] at h
  · have hl : ((l.take k).map wd).length = k := by simp; omega
    refine Ar (k - 1 : Nat) rfl ?_
    have hx := List.getElem?_eq_getElem (l := l) (i := k - 1) (by omega)
    refine Ix (k - 1) rfl (u := wd l[k - 1]) (mp (by rw [List.getElem?_take, if_pos (by omega), hx])) ?_
    have hs := val_take_succ hx
    rw [show k - 1 + 1 = k by omega, hv] at hs
    refine By rfl (fun h0 => ?_) fun h0 => ?_
    · refine Ar (k - 1 : Nat) rfl ?_
      refine Tk (k - 1) ((l.take (k - 1)).map wd) rfl rfl (by simp; omega) (by rw [← List.map_take, List.take_take, Nat.min_eq_left (by omega)]) ?_
      exact Bk (k - 1) [] rfl ⟨by omega, by rw [hs, show l[k - 1] = 0 by omega, Nat.mul_zero, Nat.add_zero]⟩ (show k - 1 < k by omega)
    · exact R1 rfl (.eq (by rw [← hv, dig_val (hw.take k) (.inr ⟨l[k - 1], by rw [List.length_take, Nat.min_eq_left hk, List.getElem?_take, if_pos (by omega), hx], fun e => h0 (by rw [e]; rfl)⟩)]))
  · refine R1 rfl (.eq ?_)
    rw [show k = 0 by omega] at hv ⊢
    rw [← hv, List.take_zero, val, dig_zero]
theorem trim_dig_ok {n : Nat} (h : (dig n).length ≤ 1099511627776) : C0 206 [.d (ws (dig n))] (· = .d (ws (dig n))) := by
  have := trim_ok (words_dig n) h
  rwa [val_dig] at this
theorem words_ok {n : Nat} (h : n < 18446744073709551616) : C0 166 [.d (.int .u64 n)] (· = .d (ws (dig n))) := by
  refine En Tryz.func166 fun _ _ => ?_
  refine Cv (n % 4294967296 : Nat) rfl ?_ (hr := by rw [wWm]; omega)
  refine Ar (n / 4294967296 : Nat) rfl ?_ (hr := show _ ∧ _ from ⟨by omega, shr32 n⟩)
  refine Cv (n / 4294967296 : Nat) rfl ?_
  refine Ce rfl (trim_ok (l := [n % 4294967296, n / 4294967296]) (.cons (by omega) (.cons (by omega) .nil)) (by simp)) ?_
  exact R1 rfl (.eq (by rw [show val [n % 4294967296, n / 4294967296] = n by simp only [val]; omega]))
theorem signed_w {b : Bool} {l : List Nat} (hw : Words l) (h : l.length ≤ 1099511627776) : C0 163 [.d (.bool b), .d (ws l)] (· = .d (dz (sg b (val l)))) := by
  rw [← dz_sg]
  refine C.nb (show C0 _ [.b b, .d (ws l)] _ from ?_)
  obtain ⟨n, hn⟩ : ∃ n, n = val l := ⟨_, rfl⟩
  refine En Tryz.func163 fun _ _ => ?_
  refine Ce rfl (trim_ok hw h) ?_
  rw [← hn]
  cases b with
  | true =>
    refine Yes rfl rfl ?_
    exact R1 rfl (by exact .sd (.pd (.bd (by
      rw [Bool.eq_iff_iff, dc_iff, Bool.and_eq_true, bne_iff_ne, lw]
      have := @dig_eq_nil n
      rw [← List.length_eq_zero_iff] at this
      simp; omega)) (.rf rfl)))
  | false =>
    refine No rfl (by nofun) ?_
    exact R1 rfl (by exact .sd (.pd (.bd rfl) (.rf rfl)))
theorem signed_sg {b : Bool} {n : Nat} (h : (dig n).length ≤ 1099511627776) : C0 163 [.d (.bool b), .d (ws (dig n))] (· = .d (dz (sg b n))) := by
  have := signed_w (b := b) (words_dig n) h
  rwa [val_dig] at this
theorem FromInt_ok {z : Int} (h : -9223372036854775808 ≤ z ∧ z < 9223372036854775808) : C0 98 [.d (.int .i64 z)] (· = .d (dz z)) := by
  have hl : (dig z.natAbs).length ≤ 2 := dig_len_le (by omega)
  refine En Tryz.func98 fun _ _ => ?_
  refine By rfl (fun h => ?_) fun h => ?_
  · refine Cv (z % 18446744073709551616) rfl ?_ (hr := wUm _)
    refine Ne (z.natAbs : Int) rfl ?_ (hr := by rw [wUm]; omega)
    refine Ce rfl (words_ok (n := z.natAbs) (by omega)) ?_
    refine Ce rfl (signed_sg (n := z.natAbs) (by omega)) ?_
    exact R1 rfl (.eq (by rw [show sg true z.natAbs = z by unfold sg; rw [if_pos rfl]; omega]))
  · refine Cv (z.natAbs : Int) rfl ?_ (hr := by rw [wUm]; omega)
    refine Ce rfl (words_ok (n := z.natAbs) (by omega)) ?_
    refine Ce rfl (signed_sg (n := z.natAbs) (by omega)) ?_
    exact R1 rfl (.eq (by rw [show sg false z.natAbs = z by unfold sg; rw [if_neg nofun]; omega]))
theorem Norm_ok {z : Int} (h : (dig z.natAbs).length ≤ 1099511627776) : C0 162 [.d (dz z)] (· = .d (dz z)) := by
  refine En Tryz.func162 fun _ _ => ?_
  refine Ce rfl (signed_sg (n := z.natAbs) h) ?_
  exact R1 rfl (.eq (by rw [sg_abs]))
theorem Sign_ok {z : Int} (h : (dig z.natAbs).length ≤ 1099511627776) : C0 160 [.d (dz z)] (· = .d (.int .i64 (cmpI z 0))) := by
  refine En Tryz.func160 fun _ _ => ?_
  refine Ce rfl (Norm_ok h) ?_
  refine By rfl (fun h => ?_) fun h => ?_ <;> simp only [lw] at h
  · have := dig_eq_nil.1 (List.eq_nil_of_length_eq_zero (by omega : (dig z.natAbs).length = 0))
    exact R1 rfl (.eq (by rw [show z = 0 by omega]; rfl))
  · have hz : z ≠ 0 := fun e => h (by rw [e]; simp [dig_zero])
    refine By rfl (fun h1 => ?_) fun h1 => ?_
    · exact R1 rfl (.eq (by rw [cmpI, if_pos h1]))
    · exact R1 rfl (.eq (by rw [cmpI, if_neg h1, if_pos (by omega)]))
theorem compare_ok {x y : Nat} (hx : (dig x).length ≤ 1099511627776) : C0 260 [.d (ws (dig x)), .d (ws (dig y))] (· = .d (.int .i64 (cmpI x y))) := by
  refine En Tryz.func260 fun _ _ => ?_
  refine By rfl (fun h => ?_) fun h => ?_ <;> simp only [lw] at h
  · refine By rfl (fun h1 => ?_) fun h1 => ?_ <;> simp only [lw] at h1
    · have := lt_of_len (m := x) (n := y) (by omega)
      exact R1 rfl (.eq (by rw [cmpI, if_pos (by omega)]))
    · have := lt_of_len (m := y) (n := x) (by omega)
      exact R1 rfl (.eq (by rw [cmpI, if_neg (by omega), if_pos (by omega)]))
  · refine Ar ((dig x).length - 1 : Int) rfl ?_ (wr (by simp only [lw]) (by simp only [inK]; omega))
    refine Lo (fun (k : Nat) => [(0, .d (ws (dig x))), (1, .d (ws (dig y))), (5, .d (.int .i64 ((k : Int) - 1)))]) (fun _ => []) (fun k => k ≤ (dig x).length ∧ (dig x).drop k = (dig y).drop k) (fun k => k) (dig x).length [] rfl ⟨by omega, by rw [List.drop_eq_nil_of_le (by omega), List.drop_eq_nil_of_le (by omega)]⟩ fun k ⟨hk, hd⟩ => ?_
    refine By rfl (fun h1 => ?_) fun h1 => ?_
    · obtain ⟨u, hu⟩ := xat (l := dig x) (k := k - 1) (by omega)
      obtain ⟨v, hv⟩ := xat (l := dig y) (k := k - 1) (by omega)
      have hd' : (dig x).drop (k - 1 + 1) = (dig y).drop (k - 1 + 1) := by rw [show k - 1 + 1 = k from by omega]; exact hd
      refine Dw rfl ?_
      refine Ix (k - 1) rfl (mp hu) ?_
      refine Ix (k - 1) rfl (mp hv) ?_
      refine By rfl (fun h2 => ?_) fun h2 => ?_
      · have := lt_top (words_dig x) (by omega) (by omega) hu hv hd' (by omega)
        rw [val_dig, val_dig] at this
        exact R1 rfl (.eq (by rw [cmpI, if_pos (by omega)]))
      · refine Dw rfl ?_
        refine Ix (k - 1) rfl (mp hu) ?_
        refine Ix (k - 1) rfl (mp hv) ?_
        refine By rfl (fun h3 => ?_) fun h3 => ?_
        · have := lt_top (words_dig y) (by omega) (by omega) hv hu hd'.symm (by omega)
          rw [val_dig, val_dig] at this
          exact R1 rfl (.eq (by rw [cmpI, if_neg (by omega), if_pos (by omega)]))
        · refine Ar ((k - 1 : Nat) - 1 : Int) rfl ?_
          refine Bk (k - 1) [] rfl ⟨by omega, ?_⟩ (by show k - 1 < k; omega)
          have huv : u = v := by omega
          rw [List.drop_eq_getElem_cons (l := dig x) (i := k - 1) (by omega), List.drop_eq_getElem_cons (l := dig y) (i := k - 1) (by omega), show k - 1 + 1 = k from by omega, hd]
          rw [List.getElem?_eq_getElem (by omega)] at hu hv
          injection hu with hu
          injection hv with hv
          rw [hu, hv, huv]
    · have hk0 : k = 0 := by omega
      rw [hk0, List.drop_zero, List.drop_zero] at hd
      have hxy : x = y := by rw [← val_dig x, hd, val_dig]
      exact R1 rfl (.eq (by rw [hxy, cmpI, if_neg (by omega), if_neg (by omega)]))
end
section
theorem dtk {l : List Nat} {q m k : Nat} (h : k < m) : ((l.drop q).take m)[k]? = l[q + k]? := by rw [List.getElem?_take, if_pos h, List.getElem?_drop]
theorem dlen {l : List Nat} {q m : Nat} (h : q + m ≤ l.length) : ((l.drop q).take m).length = m := by rw [List.length_take, List.length_drop]; omega
theorem trim_own {q n : Nat} {l : List Nat} (hw : Words l) (hq : q + n ≤ l.length) (hl : n ≤ 1099511627776) : CN0 206 [.own 1000001 1 q n] [(1000001, .arr 1 (l.map wd))] fun v => ∃ k, k ≤ n ∧ v = .own 1000001 1 q k ∧ (l.drop q).take k = dig (val ((l.drop q).take n)) := by
  refine EnW Tryz.func206 fun _ _ _ => ?_
  refine Lo (fun k => [(0, .own 1000001 1 q k)]) (fun _ => [(1000001, .arr 1 (l.map wd))]) (fun k => k ≤ n ∧ val ((l.drop q).take k) = val ((l.drop q).take n)) id n [] rfl ⟨Nat.le_refl _, rfl⟩ fun k ⟨hk, hv⟩ => ?_
  have hwk := (hw.drop q).take k
  refine By rfl (fun h => ?_) fun h => ?_
  · obtain ⟨u, hu⟩ := xat (l := l) (k := q + (k - 1)) (by omega)
    have hs := val_take_succ (l := l.drop q) (k := k - 1) (x := u) (by rw [List.getElem?_drop]; exact hu)
    rw [show k - 1 + 1 = k by omega, hv] at hs
    refine Ar (k - 1 : Nat) rfl ?_
    refine El (k - 1) rfl (by omega) ?_
    refine Ld (wd u) rfl (mp hu) ?_
    refine By rfl (fun h0 => ?_) fun h0 => ?_
    · refine Ar (k - 1 : Nat) rfl ?_
      refine Sw 0 (k - 1) rfl (by omega) (by omega) ?_
      exact Bk (k - 1) [] rfl ⟨by omega, by rw [hs, show u = 0 by omega, Nat.mul_zero, Nat.add_zero]⟩ (show k - 1 < k by omega)
    · exact Rw [] [(1000001, .arr 1 (l.map wd))] rfl (.one (.rf rfl) rfl rfl) ⟨rfl, k, hk, rfl, by rw [← hv, dig_val hwk (.inr ⟨u, by rw [dlen (by omega), dtk (by omega)]; exact hu, fun e => h0 (by rw [e]; rfl)⟩)]⟩
  · refine Rw [] [(1000001, .arr 1 (l.map wd))] rfl (.one (.rf rfl) rfl rfl) ⟨rfl, k, hk, rfl, ?_⟩
    rw [show k = 0 by omega] at hv ⊢
    rw [← hv, List.take_zero, val, dig_zero]
theorem compare_own {x y q m : Nat} {l : List Nat} (hq : q + m ≤ l.length) (hl : (l.drop q).take m = dig x) (hx : (dig x).length ≤ 1099511627776) : CN0 260 [.own 1000001 1 q m, .d (ws (dig y))] [(1000001, .arr 1 (l.map wd))] (· = .d (.int .i64 (cmpI x y))) := by
  have hm : (dig x).length = m := by rw [← hl, dlen hq]
  rw [hm] at hx
  have hg : ∀ {k u : Nat}, (dig x)[k]? = some u → k < m → l[q + k]? = some u := fun h hk => by rw [← hl, dtk hk] at h; exact h
  refine EnW Tryz.func260 fun _ _ _ => ?_
  refine By rfl (fun h => ?_) fun h => ?_ <;> simp only [lw] at h
  · refine By rfl (fun h1 => ?_) fun h1 => ?_ <;> simp only [lw] at h1
    · have := lt_of_len (m := x) (n := y) (by omega)
      exact Rw [] [(1000001, .arr 1 (l.map wd))] rfl (.one (.rf rfl) rfl rfl) ⟨rfl, congrArg AV.d (congrArg (D.int .i64) (by rw [cmpI, if_pos (by omega)]))⟩
    · have := lt_of_len (m := y) (n := x) (by omega)
      exact Rw [] [(1000001, .arr 1 (l.map wd))] rfl (.one (.rf rfl) rfl rfl) ⟨rfl, congrArg AV.d (congrArg (D.int .i64) (by rw [cmpI, if_neg (by omega), if_pos (by omega)]))⟩
  · refine Ar (m - 1 : Int) rfl ?_
    refine Lo (fun (k : Nat) => [(0, .own 1000001 1 q m), (1, .d (ws (dig y))), (5, .d (.int .i64 ((k : Int) - 1)))]) (fun _ => [(1000001, .arr 1 (l.map wd))]) (fun k => k ≤ m ∧ (dig x).drop k = (dig y).drop k) (fun k => k) m [] rfl ⟨by omega, by rw [List.drop_eq_nil_of_le (by omega), List.drop_eq_nil_of_le (by omega)]⟩ fun k ⟨hk, hd⟩ => ?_
    refine By rfl (fun h1 => ?_) fun h1 => ?_
    · obtain ⟨u, hu⟩ := xat (l := dig x) (k := k - 1) (by omega)
      obtain ⟨v, hv⟩ := xat (l := dig y) (k := k - 1) (by omega)
      have hd' : (dig x).drop (k - 1 + 1) = (dig y).drop (k - 1 + 1) := by rw [show k - 1 + 1 = k from by omega]; exact hd
      refine Dw rfl ?_
      refine El (k - 1) rfl (by omega) ?_
      refine Ld (wd u) rfl (mp (hg hu (by omega))) ?_
      refine Ix (k - 1) rfl (mp hv) ?_
      refine By rfl (fun h2 => ?_) fun h2 => ?_
      · have := lt_top (words_dig x) (by omega) (by omega) hu hv hd' (by omega)
        rw [val_dig, val_dig] at this
        exact Rw [] [(1000001, .arr 1 (l.map wd))] rfl (.one (.rf rfl) rfl rfl) ⟨rfl, congrArg AV.d (congrArg (D.int .i64) (by rw [cmpI, if_pos (by omega)]))⟩
      · refine Dw rfl ?_
        refine El (k - 1) rfl (by omega) ?_
        refine Ld (wd u) rfl (mp (hg hu (by omega))) ?_
        refine Ix (k - 1) rfl (mp hv) ?_
        refine By rfl (fun h3 => ?_) fun h3 => ?_
        · have := lt_top (words_dig y) (by omega) (by omega) hv hu hd'.symm (by omega)
          rw [val_dig, val_dig] at this
          exact Rw [] [(1000001, .arr 1 (l.map wd))] rfl (.one (.rf rfl) rfl rfl) ⟨rfl, congrArg AV.d (congrArg (D.int .i64) (by rw [cmpI, if_neg (by omega), if_pos (by omega)]))⟩
        · refine Ar ((k - 1 : Nat) - 1 : Int) rfl ?_
          refine Bk (k - 1) [] rfl ⟨by omega, ?_⟩ (by show k - 1 < k; omega)
          have huv : u = v := by omega
          rw [List.drop_eq_getElem_cons (l := dig x) (i := k - 1) (by omega), List.drop_eq_getElem_cons (l := dig y) (i := k - 1) (by omega), show k - 1 + 1 = k from by omega, hd]
          rw [List.getElem?_eq_getElem (by omega)] at hu hv
          injection hu with hu
          injection hv with hv
          rw [hu, hv, huv]
    · have hk0 : k = 0 := by omega
      rw [hk0, List.drop_zero, List.drop_zero] at hd
      have hxy : x = y := by rw [← val_dig x, hd, val_dig]
      exact Rw [] [(1000001, .arr 1 (l.map wd))] rfl (.one (.rf rfl) rfl rfl) ⟨rfl, congrArg AV.d (congrArg (D.int .i64) (by rw [hxy, cmpI, if_neg (by omega), if_neg (by omega)]))⟩
theorem minus_own {x y q m : Nat} {l : List Nat} (hq : q + m ≤ l.length) (hl : (l.drop q).take m = dig x) (hx : (dig x).length ≤ 1099511627776) (hle : y ≤ x) : CN0 266 [.own 1000001 1 q m, .d (ws (dig y))] [(1000001, .arr 1 (l.map wd))] (· = .d (ws (dig (x - y)))) := by
  have hm : (dig x).length = m := by rw [← hl, dlen hq]
  have hg : ∀ {k u : Nat}, (dig x)[k]? = some u → k < m → l[q + k]? = some u := fun h hk => by rw [← hl, dtk hk] at h; exact h
  rw [hm] at hx
  have hll := len_mono hle
  refine EnW Tryz.func266 fun _ _ _ => ?_
  refine Mk m rfl (by omega) ?_
  refine Lo (fun (k, lo, br) => [(0, .own 1000001 1 q m), (1, .d (ws (dig y))), (5, .own 12 1 0 m), (6, .d (.int .u64 (br : Nat))), (7, .d (.int .i64 (k : Nat)))]) (fun (_, lo, _) => [(12, .arr 1 (lo.map wd)), (1000001, .arr 1 (l.map wd))])
    (fun (k, lo, br) => k ≤ m ∧ lo.length = m ∧ Words lo ∧ br ≤ 1 ∧ val (lo.take k) + val ((dig y).take k) = val ((dig x).take k) + 4294967296 ^ k * br) (fun (k, _, _) => m - k) (0, List.replicate m 0, 0) [] rfl
    ⟨by omega, by simp, wzero _, by omega, by simp [val]⟩ ?_ (by exact ⟨rfl, by simp only [List.map_replicate]; rfl, rfl, rfl, rfl⟩)
  rintro ⟨k, lo, br⟩ ⟨hk, hl1, hw, hbr, hval⟩
  refine By rfl (fun h => ?_) fun h => ?_
  · obtain ⟨u, hu⟩ := xat (l := dig x) (k := k) (by omega)
    have hub := ww hu (words_dig x)
    refine Cu none (fun (v : Nat) => [(0, .own 1000001 1 q m), (1, .d (ws (dig y))), (5, .own 12 1 0 m), (6, .d (.int .u64 br)), (7, .d (.int .i64 k)), (8, .d (.int .u64 v))]) (fun _ => [(12, .arr 1 (lo.map wd)), (1000001, .arr 1 (l.map wd))])
      (fun v => v < 4294967296 ∧ val ((dig y).take (k + 1)) = val ((dig y).take k) + 4294967296 ^ k * v) rfl ?_ fun v ⟨hv, hyv⟩ => ?_
    · refine By rfl (fun h2 => ?_) fun h2 => ?_ <;> simp only [lw] at h2
      · obtain ⟨u2, hu2⟩ := xat (l := dig y) (k := k) (by omega)
        have hub2 := ww hu2 (words_dig y)
        refine Ix k rfl (mp hu2) ?_
        refine Cv u2 rfl ?_
        exact Jn u2 [] rfl ⟨hub2, val_take_succ hu2⟩
      · exact Jn 0 [] rfl ⟨by omega, by rw [take_ge (by omega)]; rfl⟩
    obtain ⟨s, hs⟩ : ∃ s, s = u + 4294967296 - v - br := ⟨_, rfl⟩
    refine El k rfl (by omega) ?_
    refine Ld (wd u) rfl (mp (hg hu (by omega))) ?_
    refine Cv u rfl ?_
    refine Ar (u + 4294967296 : Nat) rfl ?_
    refine Ar (u + 4294967296 - v : Nat) rfl ?_
    refine Ar s rfl ?_
    refine Cv (s % 4294967296 : Nat) rfl ?_ (by rw [wWm]; omega)
    refine Eo k rfl (by omega) ?_
    refine Sto rfl (by simp only [lw]; omega) ms ?_
    refine Ar (s / 4294967296 : Nat) rfl ?_ (shrA (n := 32) (by decide))
    refine Ar (1 - s / 4294967296 : Nat) rfl ?_
    refine Ar (k + 1 : Nat) rfl ?_
    refine Bk (k + 1, lo.set k (s % 4294967296), 1 - s / 4294967296) [] rfl ⟨by omega, by simp [hl1], wset hw (by omega), by omega, ?_⟩ (by show m - (k + 1) < m - k; omega)
    rw [val_set (by omega), hyv, val_take_succ hu, Nat.pow_succ, Nat.mul_assoc]
    have e : 4294967296 ^ k * (s % 4294967296 + v + br) = 4294967296 ^ k * (u + 4294967296 * (1 - s / 4294967296)) := by congr 1; omega
    simp only [Nat.mul_add] at e
    omega
  · have hkn : k = m := by omega
    rw [hkn, List.take_of_length_le (by omega), List.take_of_length_le (by omega), List.take_of_length_le (by omega), val_dig, val_dig] at hval
    have hvl := val_lt hw
    rw [hl1] at hvl
    have hbr0 : br = 0 := by
      rcases Nat.eq_zero_or_pos br with h0 | h0
      · exact h0
      · have h1 : 4294967296 ^ m * 1 ≤ 4294967296 ^ m * br := Nat.mul_le_mul_left _ h0
        omega
    rw [hbr0, Nat.mul_zero] at hval
    refine Fz 12 5 (lo.map wd) rfl (by simp only [lw]; omega) (oa hl1) ?_
    refine Ce rfl (trim_ok hw (by omega)) ?_
    exact Rw [] [(1000001, .arr 1 (l.map wd))] rfl (.one (.rf rfl) rfl rfl) ⟨rfl, by rw [show val lo = x - y by omega]⟩
theorem minus_ok {x y : Nat} (hx : (dig x).length ≤ 1099511627776) (hle : y ≤ x) : C0 266 [.d (ws (dig x)), .d (ws (dig y))] (· = .d (ws (dig (x - y)))) := by
  obtain ⟨m, hm⟩ : ∃ m, (dig x).length = m := ⟨_, rfl⟩
  rw [hm] at hx
  have hll := len_mono hle
  refine En Tryz.func266 fun _ _ => ?_
  refine Mk m rfl (by simp only [lw]; omega) ?_ (by simp only [lw, hm])
  refine Lo (fun (k, lo, br) => [(0, .d (ws (dig x))), (1, .d (ws (dig y))), (5, .own 12 1 0 m), (6, .d (.int .u64 (br : Nat))), (7, .d (.int .i64 (k : Nat)))]) (fun (_, lo, _) => [(12, .arr 1 (lo.map wd))])
    (fun (k, lo, br) => k ≤ m ∧ lo.length = m ∧ Words lo ∧ br ≤ 1 ∧ val (lo.take k) + val ((dig y).take k) = val ((dig x).take k) + 4294967296 ^ k * br) (fun (k, _, _) => m - k) (0, List.replicate m 0, 0) [] rfl
    ⟨by omega, by simp, wzero _, by omega, by simp [val]⟩ ?_ (by exact ⟨rfl, by simp only [List.map_replicate]; rfl, rfl, rfl, rfl⟩)
  rintro ⟨k, lo, br⟩ ⟨hk, hl1, hw, hbr, hval⟩
  refine By rfl (fun h => ?_) fun h => ?_ <;> simp only [lw] at h
  · obtain ⟨u, hu⟩ := xat (l := dig x) (k := k) (by omega)
    have hub := ww hu (words_dig x)
    refine Cu none (fun (v : Nat) => [(0, .d (ws (dig x))), (1, .d (ws (dig y))), (5, .own 12 1 0 m), (6, .d (.int .u64 br)), (7, .d (.int .i64 k)), (8, .d (.int .u64 v))]) (fun _ => [(12, .arr 1 (lo.map wd))])
      (fun v => v < 4294967296 ∧ val ((dig y).take (k + 1)) = val ((dig y).take k) + 4294967296 ^ k * v) rfl ?_ fun v ⟨hv, hyv⟩ => ?_
    · refine By rfl (fun h2 => ?_) fun h2 => ?_ <;> simp only [lw] at h2
      · obtain ⟨u2, hu2⟩ := xat (l := dig y) (k := k) (by omega)
        have hub2 := ww hu2 (words_dig y)
        refine Ix k rfl (mp hu2) ?_
        refine Cv u2 rfl ?_
        exact Jn u2 [] rfl ⟨hub2, val_take_succ hu2⟩
      · exact Jn 0 [] rfl ⟨by omega, by rw [take_ge (by omega)]; rfl⟩
    obtain ⟨s, hs⟩ : ∃ s, s = u + 4294967296 - v - br := ⟨_, rfl⟩
    refine Ix k rfl (mp hu) ?_
    refine Cv u rfl ?_
    refine Ar (u + 4294967296 : Nat) rfl ?_
    refine Ar (u + 4294967296 - v : Nat) rfl ?_
    refine Ar s rfl ?_
    refine Cv (s % 4294967296 : Nat) rfl ?_ (by rw [wWm]; omega)
    refine Eo k rfl (by omega) ?_
    refine Sto rfl (by simp only [lw]; omega) ms ?_
    refine Ar (s / 4294967296 : Nat) rfl ?_ (shrA (n := 32) (by decide))
    refine Ar (1 - s / 4294967296 : Nat) rfl ?_
    refine Ar (k + 1 : Nat) rfl ?_
    refine Bk (k + 1, lo.set k (s % 4294967296), 1 - s / 4294967296) [] rfl ⟨by omega, by simp [hl1], wset hw (by omega), by omega, ?_⟩ (by show m - (k + 1) < m - k; omega)
    rw [val_set (by omega), hyv, val_take_succ hu, Nat.pow_succ, Nat.mul_assoc]
    have e : 4294967296 ^ k * (s % 4294967296 + v + br) = 4294967296 ^ k * (u + 4294967296 * (1 - s / 4294967296)) := by congr 1; omega
    simp only [Nat.mul_add] at e
    omega
  · have hkn : k = m := by omega
    rw [hkn, List.take_of_length_le (by omega), List.take_of_length_le (by omega), List.take_of_length_le (by omega), val_dig, val_dig] at hval
    have hvl := val_lt hw
    rw [hl1] at hvl
    have hbr0 : br = 0 := by
      rcases Nat.eq_zero_or_pos br with h0 | h0
      · exact h0
      · have h1 : 4294967296 ^ m * 1 ≤ 4294967296 ^ m * br := Nat.mul_le_mul_left _ h0
        omega
    rw [hbr0, Nat.mul_zero] at hval
    refine Fz 12 5 (lo.map wd) rfl (by simp only [lw]; omega) (oa hl1) ?_
    refine Ce rfl (trim_ok hw (by omega)) ?_
    exact R1 rfl (.eq (by rw [show val lo = x - y by omega]))
end
section
theorem plus_ok {x y : Nat} (hx : (dig x).length ≤ 549755813888) (hy : (dig y).length ≤ 549755813888) : C0 268 [.d (ws (dig x)), .d (ws (dig y))] (· = .d (ws (dig (x + y)))) := by
  refine En Tryz.func268 fun _ _ => ?_
  refine Cu none (fun (a, b) => [(0, .d (ws (dig a))), (1, .d (ws (dig b)))]) (fun _ => []) (fun (a, b) => a + b = x + y ∧ (dig b).length ≤ (dig a).length ∧ (dig a).length ≤ 549755813888) rfl ?_ fun ⟨a, b⟩ ⟨hs, hle, hbig⟩ => ?_
  · refine By rfl (fun h => ?_) fun h => ?_ <;> simp only [lw] at h
    · exact Jn (y, x) [] rfl ⟨Nat.add_comm _ _, by omega, hy⟩
    · exact Jn (x, y) [] rfl ⟨rfl, by omega, hx⟩
  obtain ⟨m, hm⟩ : ∃ m, (dig a).length = m := ⟨_, rfl⟩
  rw [hm] at hle hbig
  refine Ar (m + 1 : Nat) rfl ?_ (wr (by simp only [lw, hm]; omega) (by simp only [inK]; omega))
  refine Mk (m + 1) rfl (by omega) ?_
  refine Lo (fun (k, lo, cr) => [(0, .d (ws (dig a))), (1, .d (ws (dig b))), (5, .own 18 1 0 (m + 1)), (6, .d (.int .u64 (cr : Nat))), (7, .d (.int .i64 (k : Nat)))]) (fun (_, lo, _) => [(18, .arr 1 (lo.map wd))])
    (fun (k, lo, cr) => k ≤ m ∧ lo.length = m + 1 ∧ Words lo ∧ cr ≤ 1 ∧ val (lo.take k) + 4294967296 ^ k * cr = val ((dig a).take k) + val ((dig b).take k)) (fun (k, _, _) => m - k) (0, List.replicate (m + 1) 0, 0) [] rfl ⟨by omega, by simp, wzero _, by omega, by simp [val]⟩ ?_ (by exact ⟨rfl, by simp only [List.map_replicate]; rfl, rfl, rfl, rfl⟩)
  rintro ⟨k, lo, cr⟩ ⟨hk, hl, hw, hcr, hval⟩
  refine By rfl (fun h => ?_) fun h => ?_ <;> simp only [lw] at h
  · obtain ⟨u, hu⟩ := xat (l := dig a) (k := k) (by omega)
    have hub := ww hu (words_dig a)
    refine Ix k rfl (mp hu) ?_
    refine Cv u rfl ?_
    refine Ar (cr + u : Nat) rfl ?_
    refine Cu none (fun (s : Nat) => [(0, .d (ws (dig a))), (1, .d (ws (dig b))), (5, .own 18 1 0 (m + 1)), (6, .d (.int .u64 s)), (7, .d (.int .i64 k))]) (fun _ => [(18, .arr 1 (lo.map wd))])
      (fun s => s < 8589934592 ∧ 4294967296 ^ k * s + val (lo.take k) = val ((dig a).take (k + 1)) + val ((dig b).take (k + 1))) rfl ?_ fun s ⟨hs8, hsv⟩ => ?_
    · refine By rfl (fun h2 => ?_) fun h2 => ?_ <;> simp only [lw] at h2
      · obtain ⟨u2, hu2⟩ := xat (l := dig b) (k := k) (by omega)
        have hub2 := ww hu2 (words_dig b)
        refine Ix k rfl (mp hu2) ?_
        refine Cv u2 rfl ?_
        refine Ar (cr + u + u2 : Nat) rfl ?_
        exact Jn (cr + u + u2) [] rfl ⟨by omega, by rw [val_take_succ hu, val_take_succ hu2, Nat.mul_add, Nat.mul_add]; omega⟩
      · exact Jn (cr + u) [] rfl ⟨by omega, by rw [val_take_succ hu, take_ge (l := dig b) (by omega), Nat.mul_add]; omega⟩
    refine Cv (s % 4294967296 : Nat) rfl ?_ (by rw [wWm]; omega)
    refine Eo k rfl (by omega) ?_
    refine Sto rfl (by simp only [lw]; omega) ms ?_
    refine Ar (s / 4294967296 : Nat) rfl ?_ (shrA (n := 32) (by decide))
    refine Ar (k + 1 : Nat) rfl ?_
    refine Bk (k + 1, lo.set k (s % 4294967296), s / 4294967296) [] rfl ⟨by omega, by simp [hl], wset hw (by omega), by show s / 4294967296 ≤ 1; omega, ?_⟩ (by show m - (k + 1) < m - k; omega)
    rw [val_set (by omega), ← hsv, Nat.pow_succ, Nat.mul_assoc]
    have e2 : 4294967296 ^ k * s = 4294967296 ^ k * (s % 4294967296) + 4294967296 ^ k * (4294967296 * (s / 4294967296)) := by rw [← Nat.mul_add]; congr 1; omega
    omega
  · have hkn : k = m := by omega
    subst hkn
    rw [List.take_of_length_le (l := dig a) (by omega), List.take_of_length_le (l := dig b) (by omega), val_dig, val_dig, hs] at hval
    have hfin : val (lo.set k cr) = x + y := by
      have := val_set (l := lo) (k := k) (d := cr) (by omega)
      rw [List.take_of_length_le (by rw [List.length_set]; omega)] at this
      rw [this, hval]
    refine Cv cr rfl ?_
    refine Eo k rfl (by omega) ?_ (by simp only [lw]; omega)
    refine Sto rfl (by simp only [lw]; omega) ms ?_
    refine Fz 14 5 ((lo.set k cr).map wd) rfl (by simp only [lw, List.length_set]; omega) (oa (by simp [hl])) ?_
    refine Ce rfl (trim_ok (wset hw (by omega)) (by simp only [List.length_set]; omega)) ?_
    exact R1 rfl (.eq (by rw [hfin]))
theorem times_w {X Y : List Nat} (hX : Words X) (hY : Words Y) (hx : X.length ≤ 549755813888) (hy : Y.length ≤ 549755813888) : C0 164 [.d (ws X), .d (ws Y)] (· = .d (ws (dig (val X * val Y)))) := by
  obtain ⟨n, hn⟩ : ∃ n, X.length = n := ⟨_, rfl⟩
  obtain ⟨m, hm⟩ : ∃ m, Y.length = m := ⟨_, rfl⟩
  rw [hm] at hy
  rw [hn] at hx
  refine En Tryz.func164 fun _ _ => ?_
  refine Ar (n + m : Nat) rfl ?_ (wr (by simp only [lw]; omega) (by simp only [inK]; omega))
  refine Mk (n + m) rfl (by omega) ?_
  refine Lo (fun (i, lo) => [(0, .d (ws X)), (1, .d (ws Y)), (5, .own 14 1 0 (n + m)), (6, .d (.int .i64 (i : Nat)))]) (fun (_, lo) => [(14, .arr 1 (lo.map wd))])
    (fun (i, lo) => i ≤ n ∧ lo.length = n + m ∧ Words lo ∧ val (lo.take (i + m)) = val (X.take i) * val Y ∧ ∀ j, i + m ≤ j → j < n + m → lo[j]? = some 0) (fun (i, _) => n - i)
    (0, List.replicate (n + m) 0) [] rfl ⟨by omega, by simp, wzero _, by rw [List.take_replicate, val_zeros]; simp [val], fun j _ h => by rw [List.getElem?_replicate, if_pos h]⟩ ?_ (by exact ⟨rfl, by simp only [List.map_replicate]; rfl, rfl, rfl, rfl⟩)
  rintro ⟨i, lo0⟩ ⟨hi, hl0, hw0, hval, hz0⟩
  refine By rfl (fun h => ?_) fun h => ?_ <;> simp only [lw] at h
  · obtain ⟨u, hu⟩ := xat (l := X) (k := i) (by omega)
    have hub := ww hu (hX)
    refine Lo (fun (k, lo, cr) => [(0, .d (ws X)), (1, .d (ws Y)), (5, .own 14 1 0 (n + m)), (6, .d (.int .i64 i)), (7, .d (.int .u64 (cr : Nat))), (8, .d (.int .i64 (k : Nat)))]) (fun (_, lo, _) => [(14, .arr 1 (lo.map wd))])
      (fun (k, lo, cr) => k ≤ m ∧ lo.length = n + m ∧ Words lo ∧ cr < 4294967296 ∧ (∀ j, i + k ≤ j → lo[j]? = lo0[j]?) ∧ val (lo.take (i + k)) + 4294967296 ^ (i + k) * cr = val (lo0.take (i + k)) + 4294967296 ^ i * (u * val (Y.take k))) (fun (k, _, _) => m - k)
      (0, lo0, 0) [] rfl ⟨by omega, hl0, hw0, by omega, fun _ _ => rfl, by simp [val]⟩ ?_
    rintro ⟨k, lo, cr⟩ ⟨hk, hl1, hw, hcr, hrest, hval2⟩
    refine By rfl (fun h => ?_) fun h => ?_ <;> simp only [lw] at h
    · obtain ⟨v, hv⟩ := xat (l := Y) (k := k) (by omega)
      have hvb := ww hv (hY)
      obtain ⟨w, hw1⟩ := xat (l := lo) (k := i + k) (by omega)
      have hwb := ww hw1 hw
      have huv : u * v ≤ 4294967295 * 4294967295 := Nat.mul_le_mul (by omega) (by omega)
      obtain ⟨s, hs⟩ : ∃ s, s = cr + w + u * v := ⟨_, rfl⟩
      have hs2 : s < 18446744073709551616 := by omega
      refine Dw rfl ?_
      refine Ar (i + k : Nat) rfl ?_
      refine Eo (i + k) rfl (by omega) ?_
      refine Ld (wd w) rfl (mp hw1) ?_
      refine Cv w rfl ?_
      refine Ar (cr + w : Nat) rfl ?_
      refine Ix i rfl (mp hu) ?_
      refine Cv u rfl ?_
      refine Ix k rfl (mp hv) ?_
      refine Cv v rfl ?_
      refine Ar (u * v : Nat) rfl ?_ (wr (Int.natCast_mul ..).symm (by simp only [inK]; omega))
      refine Ar (s : Nat) rfl ?_
      refine Ar (i + k : Nat) rfl ?_
      refine Cv (s % 4294967296 : Nat) rfl ?_ (by rw [wWm]; omega)
      refine Eo (i + k) rfl (by omega) ?_
      refine Sto rfl (by simp only [lw]; omega) ms ?_
      refine Ar (s / 4294967296 : Nat) rfl ?_ (shrA (n := 32) (by decide))
      refine Ar (k + 1 : Nat) rfl ?_
      refine Bk (k + 1, lo.set (i + k) (s % 4294967296), s / 4294967296) [] rfl ⟨by omega, by simp [hl1], wset hw (by omega), by omega, fun j hj => by rw [List.getElem?_set_ne (by omega)]; exact hrest j (by omega), ?_⟩ (by show _ - (k + 1) < _ - k; omega)
      have hw0' : lo0[i + k]? = some w := by rw [← hrest (i + k) (Nat.le_refl _)]; exact hw1
      rw [← Nat.add_assoc, val_set (by omega), val_take_succ hw0', val_take_succ hv, Nat.pow_succ, Nat.mul_assoc, Nat.mul_add u, Nat.mul_add (4294967296 ^ i)]
      have e : 4294967296 ^ (i + k) * s = 4294967296 ^ (i + k) * (s % 4294967296) + 4294967296 ^ (i + k) * (4294967296 * (s / 4294967296)) := by rw [← Nat.mul_add]; congr 1; omega
      have e2 : 4294967296 ^ (i + k) * s = 4294967296 ^ (i + k) * cr + 4294967296 ^ i * (u * (4294967296 ^ k * v)) + 4294967296 ^ (i + k) * w := by
        rw [hs, Nat.mul_add, Nat.mul_add, Nat.pow_add]
        have : 4294967296 ^ i * 4294967296 ^ k * (u * v) = 4294967296 ^ i * (u * (4294967296 ^ k * v)) := by
          rw [Nat.mul_assoc, Nat.mul_left_comm (4294967296 ^ k) u v]
        omega
      omega
    · have hkm : k = m := by omega
      subst hkm
      refine Ar (i + k : Nat) rfl ?_ (wr (by simp only [lw]; omega) (by simp only [inK]; omega))
      refine Cv cr rfl ?_
      refine Eo (i + k) rfl (by omega) ?_
      refine Sto rfl (by simp only [lw]; omega) ms ?_
      refine Ar (i + 1 : Nat) rfl ?_
      refine Bk (i + 1, lo.set (i + k) cr) [] rfl ⟨by omega, by simp [hl1], wset hw hcr, ?_, fun j h1 h2 => by rw [List.getElem?_set_ne (by omega), hrest j (by omega)]; exact hz0 j (by omega) h2⟩ (by show _ - (i + 1) < _ - i; omega)
      rw [show i + 1 + k = i + k + 1 from by omega, val_set (by omega), val_take_succ hu, hval2, hval, show Y.take k = Y from List.take_of_length_le (by omega), Nat.add_mul, Nat.mul_assoc]
  · have him : i = n := by omega
    rw [him, List.take_of_length_le (by omega), List.take_of_length_le (by omega)] at hval
    refine Fz 13 5 (lo0.map wd) rfl (by simp only [lw]; omega) (oa hl0) ?_
    refine Ce rfl (trim_ok hw0 (by omega)) ?_
    exact R1 rfl (.eq (by rw [hval]))
theorem times_ok {x y : Nat} (hx : (dig x).length ≤ 549755813888) (hy : (dig y).length ≤ 549755813888) : C0 164 [.d (ws (dig x)), .d (ws (dig y))] (· = .d (ws (dig (x * y)))) := by
  have := times_w (words_dig x) (words_dig y) hx hy
  rwa [val_dig, val_dig] at this
theorem times_own {x q n : Nat} {l : List Nat} (hq : q + n ≤ l.length) (hl : (l.drop q).take n = dig x) (hx : (dig x).length ≤ 549755813888) : CN0 164 [.own 1000001 1 q n, .own 1000001 1 q n] [(1000001, .arr 1 (l.map wd))] (· = .d (ws (dig (x * x)))) := by
  have hg : ∀ {k u : Nat}, (dig x)[k]? = some u → k < n → l[q + k]? = some u := fun h hk => by rw [← hl, dtk hk] at h; exact h
  have hn : (dig x).length = n := by rw [← hl, dlen hq]
  rw [hn] at hx
  refine EnW Tryz.func164 fun _ _ _ => ?_
  refine Ar (n + n : Nat) rfl ?_ (wr (by omega) (by simp only [inK]; omega))
  refine Mk (n + n) rfl (by omega) ?_
  refine Lo (fun (i, lo) => [(0, .own 1000001 1 q n), (1, .own 1000001 1 q n), (5, .own 14 1 0 (n + n)), (6, .d (.int .i64 (i : Nat)))]) (fun (_, lo) => [(14, .arr 1 (lo.map wd)), (1000001, .arr 1 (l.map wd))])
    (fun (i, lo) => i ≤ n ∧ lo.length = n + n ∧ Words lo ∧ val (lo.take (i + n)) = val ((dig x).take i) * x ∧ ∀ j, i + n ≤ j → j < n + n → lo[j]? = some 0) (fun (i, _) => n - i)
    (0, List.replicate (n + n) 0) [] rfl ⟨by omega, by simp, wzero _, by rw [List.take_replicate, val_zeros]; simp [val], fun j _ h => by rw [List.getElem?_replicate, if_pos h]⟩ ?_ (by exact ⟨rfl, by simp only [List.map_replicate]; rfl, rfl, rfl, rfl⟩)
  rintro ⟨i, lo0⟩ ⟨hi, hl0, hw0, hval, hz0⟩
  refine By rfl (fun h => ?_) fun h => ?_
  · obtain ⟨u, hu⟩ := xat (l := dig x) (k := i) (by omega)
    have hub := ww hu (words_dig x)
    refine Lo (fun (k, lo, cr) => [(0, .own 1000001 1 q n), (1, .own 1000001 1 q n), (5, .own 14 1 0 (n + n)), (6, .d (.int .i64 i)), (7, .d (.int .u64 (cr : Nat))), (8, .d (.int .i64 (k : Nat)))]) (fun (_, lo, _) => [(14, .arr 1 (lo.map wd)), (1000001, .arr 1 (l.map wd))])
      (fun (k, lo, cr) => k ≤ n ∧ lo.length = n + n ∧ Words lo ∧ cr < 4294967296 ∧ (∀ j, i + k ≤ j → lo[j]? = lo0[j]?) ∧ val (lo.take (i + k)) + 4294967296 ^ (i + k) * cr = val (lo0.take (i + k)) + 4294967296 ^ i * (u * val ((dig x).take k))) (fun (k, _, _) => n - k)
      (0, lo0, 0) [] rfl ⟨by omega, hl0, hw0, by omega, fun _ _ => rfl, by simp [val]⟩ ?_
    rintro ⟨k, lo, cr⟩ ⟨hk, hl1, hw, hcr, hrest, hval2⟩
    refine By rfl (fun h => ?_) fun h => ?_
    · obtain ⟨v, hv⟩ := xat (l := dig x) (k := k) (by omega)
      have hvb := ww hv (words_dig x)
      obtain ⟨w, hw1⟩ := xat (l := lo) (k := i + k) (by omega)
      have hwb := ww hw1 hw
      have huv : u * v ≤ 4294967295 * 4294967295 := Nat.mul_le_mul (by omega) (by omega)
      obtain ⟨s, hs⟩ : ∃ s, s = cr + w + u * v := ⟨_, rfl⟩
      have hs2 : s < 18446744073709551616 := by omega
      refine Dw rfl ?_
      refine Ar (i + k : Nat) rfl ?_
      refine Eo (i + k) rfl (by omega) ?_
      refine Ld (wd w) rfl (mp hw1) ?_
      refine Cv w rfl ?_
      refine Ar (cr + w : Nat) rfl ?_
      refine El i rfl (by omega) ?_
      refine Ld (wd u) rfl (mp (hg hu (by omega))) ?_
      refine Cv u rfl ?_
      refine El k rfl (by omega) ?_
      refine Ld (wd v) rfl (mp (hg hv (by omega))) ?_
      refine Cv v rfl ?_
      refine Ar (u * v : Nat) rfl ?_ (wr (Int.natCast_mul ..).symm (by simp only [inK]; omega))
      refine Ar (s : Nat) rfl ?_
      refine Ar (i + k : Nat) rfl ?_
      refine Cv (s % 4294967296 : Nat) rfl ?_ (by rw [wWm]; omega)
      refine Eo (i + k) rfl (by omega) ?_
      refine Sto rfl (by simp only [lw]; omega) ms ?_
      refine Ar (s / 4294967296 : Nat) rfl ?_ (shrA (n := 32) (by decide))
      refine Ar (k + 1 : Nat) rfl ?_
      refine Bk (k + 1, lo.set (i + k) (s % 4294967296), s / 4294967296) [] rfl ⟨by omega, by simp [hl1], wset hw (by omega), by omega, fun j hj => by rw [List.getElem?_set_ne (by omega)]; exact hrest j (by omega), ?_⟩ (by show _ - (k + 1) < _ - k; omega)
      have hw0' : lo0[i + k]? = some w := by rw [← hrest (i + k) (Nat.le_refl _)]; exact hw1
      rw [← Nat.add_assoc, val_set (by omega), val_take_succ hw0', val_take_succ hv, Nat.pow_succ, Nat.mul_assoc, Nat.mul_add u, Nat.mul_add (4294967296 ^ i)]
      have e : 4294967296 ^ (i + k) * s = 4294967296 ^ (i + k) * (s % 4294967296) + 4294967296 ^ (i + k) * (4294967296 * (s / 4294967296)) := by rw [← Nat.mul_add]; congr 1; omega
      have e2 : 4294967296 ^ (i + k) * s = 4294967296 ^ (i + k) * cr + 4294967296 ^ i * (u * (4294967296 ^ k * v)) + 4294967296 ^ (i + k) * w := by
        rw [hs, Nat.mul_add, Nat.mul_add, Nat.pow_add]
        have : 4294967296 ^ i * 4294967296 ^ k * (u * v) = 4294967296 ^ i * (u * (4294967296 ^ k * v)) := by
          rw [Nat.mul_assoc, Nat.mul_left_comm (4294967296 ^ k) u v]
        omega
      omega
    · have hkm : k = n := by omega
      subst hkm
      refine Ar (i + k : Nat) rfl ?_ (wr (by omega) (by simp only [inK]; omega))
      refine Cv cr rfl ?_
      refine Eo (i + k) rfl (by omega) ?_
      refine Sto rfl (by simp only [lw]; omega) ms ?_
      refine Ar (i + 1 : Nat) rfl ?_
      refine Bk (i + 1, lo.set (i + k) cr) [] rfl ⟨by omega, by simp [hl1], wset hw hcr, ?_, fun j h1 h2 => by rw [List.getElem?_set_ne (by omega), hrest j (by omega)]; exact hz0 j (by omega) h2⟩ (by show _ - (i + 1) < _ - i; omega)
      rw [show i + 1 + k = i + k + 1 from by omega, val_set (by omega), val_take_succ hu, hval2, hval, show (dig x).take k = dig x from List.take_of_length_le (by omega), val_dig, Nat.add_mul, Nat.mul_assoc]
  · have him : i = n := by omega
    rw [him, List.take_of_length_le (by omega), List.take_of_length_le (by omega), val_dig] at hval
    refine Fz 13 5 (lo0.map wd) rfl (by simp only [lw]; omega) (oa hl0) ?_
    refine Ce rfl (trim_ok hw0 (by omega)) ?_
    exact Rw [] [(1000001, .arr 1 (l.map wd))] rfl (.one (.rf rfl) rfl rfl) ⟨rfl, by rw [hval]⟩
end
section
theorem Neg_ok {z : Int} (h : (dig z.natAbs).length ≤ 1099511627776) : C0 165 [.d (dz z)] (· = .d (dz (-z))) := by
  refine En Tryz.func165 fun _ _ => ?_
  refine Ce rfl (signed_sg h) ?_
  exact R1 rfl (.eq (by rw [sg_neg]))
theorem Add_ok {a b : Int} (ha : (dig a.natAbs).length ≤ 549755813888) (hb : (dig b.natAbs).length ≤ 549755813888) : C0 209 [.d (dz a), .d (dz b)] (· = .d (dz (a + b))) := by
  refine En Tryz.func209 fun _ _ => ?_
  refine Dw rfl ?_
  refine Ce rfl (Norm_ok (by omega)) ?_
  refine Ce rfl (Norm_ok (by omega)) ?_
  refine By rfl (fun h => ?_) fun h => ?_ <;> rw [beq'] at h
  · refine Dw rfl ?_
    refine Ce rfl (plus_ok ha hb) ?_
    refine Ce rfl (signed_sg (Nat.le_trans (len_add ..) (by omega))) ?_
    exact R1 rfl (.eq (by rw [sg_add h]))
  · refine Ce rfl (compare_ok (by omega)) ?_
    refine By rfl (fun h1 => ?_) fun h1 => ?_
    · have hle := cmpI_ge.1 (show ¬ cmpI (a.natAbs : Int) (b.natAbs : Int) < 0 by omega)
      refine Dw rfl ?_
      refine Ce rfl (minus_ok (by omega) hle) ?_
      refine Ce rfl (signed_sg (Nat.le_trans (len_mono (Nat.sub_le ..)) (by omega))) ?_
      exact R1 rfl (.eq (by rw [sg_sub h hle]))
    · have hle := Nat.le_of_lt (cmpI_neg.1 (show cmpI (a.natAbs : Int) (b.natAbs : Int) < 0 by omega))
      refine Dw rfl ?_
      refine Ce rfl (minus_ok (by omega) hle) ?_
      refine Ce rfl (signed_sg (Nat.le_trans (len_mono (Nat.sub_le ..)) (by omega))) ?_
      exact R1 rfl (.eq (by rw [sg_sub (fun e => h e.symm) hle, Int.add_comm]))
theorem Sub_ok {a b : Int} (ha : (dig a.natAbs).length ≤ 549755813888) (hb : (dig b.natAbs).length ≤ 549755813888) : C0 161 [.d (dz a), .d (dz b)] (· = .d (dz (a - b))) := by
  refine En Tryz.func161 fun _ _ => ?_
  refine Dw rfl ?_
  refine Ce rfl (Neg_ok (by omega)) ?_
  refine Ce rfl (Add_ok ha (by rw [Int.natAbs_neg]; exact hb)) ?_
  exact R0
theorem Mul_ok {a b : Int} (ha : (dig a.natAbs).length ≤ 549755813888) (hb : (dig b.natAbs).length ≤ 549755813888) : C0 96 [.d (dz a), .d (dz b)] (· = .d (dz (a * b))) := by
  refine En Tryz.func96 fun _ _ => ?_
  refine Dw rfl ?_
  refine Ce rfl (Norm_ok (by omega)) ?_
  refine Ce rfl (Norm_ok (by omega)) ?_
  refine Dw rfl ?_
  refine Ce rfl (times_ok ha hb) ?_
  refine Ce rfl (signed_sg (Nat.le_trans (len_mul ..) (by omega))) ?_
  exact R1 rfl (.eq (by rw [bneq, sg_mul]))
theorem cmpI_sub0 (a b : Int) : cmpI (a - b) 0 = cmpI a b := by
  unfold cmpI; split <;> split <;> (try split) <;> (try split) <;> omega
theorem Cmp_ok {a b : Int} (ha : (dig a.natAbs).length ≤ 549755813888) (hb : (dig b.natAbs).length ≤ 549755813888) : C0 95 [.d (dz a), .d (dz b)] (· = .d (.int .i64 (cmpI a b))) := by
  have hl := len_add a.natAbs b.natAbs
  have hl2 := len_mono (show (a - b).natAbs ≤ a.natAbs + b.natAbs by omega)
  refine En Tryz.func95 fun _ _ => ?_
  refine Ce rfl (Sub_ok ha hb) ?_
  refine Ce rfl (Sign_ok (by omega)) ?_
  exact R1 rfl (.eq (by rw [cmpI_sub0]))
theorem by_ok {x y : Nat} (hx : (dig x).length ≤ 549755813888) (hy : y < 4294967296) (hy0 : y ≠ 0) : C0 262 [.d (ws (dig x)), .d (.int .u32 y)] (· = .tup (.pr (.d (ws (dig (x / y)))) (.d (.int .u32 (x % y : Nat))))) := by
  refine En Tryz.func262 fun _ _ => ?_
  refine Mk (dig x).length rfl (by simp only [lw]; omega) ?_ (by simp only [lw])
  refine Ar ((dig x).length - 1 : Int) rfl ?_ (wr (by simp only [lw]) (by simp only [inK]; omega))
  refine Lo (fun (k, lo, r) => [(0, .d (ws (dig x))), (1, .d (.int .u32 y)), (6, .own 11 1 0 (dig x).length), (7, .d (.int .u64 (r : Nat))), (8, .d (.int .i64 ((k : Nat) - 1 : Int)))]) (fun (_, lo, _) => [(11, .arr 1 (lo.map wd))])
    (fun (k, lo, r) => k ≤ (dig x).length ∧ lo.length = (dig x).length ∧ Words lo ∧ r < y ∧ val (lo.drop k) * y + r = val ((dig x).drop k)) (fun (k, _, _) => k) ((dig x).length, List.replicate (dig x).length 0, 0) [] rfl
    ⟨by omega, by simp, wzero _, by omega, by rw [List.drop_eq_nil_of_le (by simp), List.drop_eq_nil_of_le (by omega)]; simp [val]⟩ ?_ (by exact ⟨rfl, by simp only [List.map_replicate]; rfl, rfl, rfl, rfl⟩)
  rintro ⟨k, lo, r⟩ ⟨hk, hl, hwo, hr, hval⟩
  refine By rfl (fun h => ?_) fun h => ?_
  · obtain ⟨u, hu⟩ := xat (l := dig x) (k := k - 1) (by omega)
    have hub := ww hu (words_dig x)
    obtain ⟨s, hs⟩ : ∃ s, s = r * 2 ^ 32 + u := ⟨_, rfl⟩
    have hs64 : s < 18446744073709551616 := by omega
    have hsy : s / y < 4294967296 := by
      rw [Nat.div_lt_iff_lt_mul (by omega)]
      have := Nat.mul_le_mul_right 4294967296 (show r + 1 ≤ y by omega)
      omega
    have hsm : s % y < y := Nat.mod_lt _ (by omega)
    have hq0 : 0 ≤ s / y := Nat.zero_le _
    refine Ar (r * 2 ^ 32 : Nat) rfl ?_ (shl64 (n := 32) rfl (by omega) (by decide))
    refine Ix (k - 1) rfl (mp hu) ?_
    refine Cv u rfl ?_
    refine Ar s rfl ?_ (or64 (by omega) (by omega) (by rw [or_add u r 32 (by omega), ← hs]) hs64)
    refine Cv y rfl ?_
    refine Ar (s / y : Nat) rfl ?_ (show _ ∧ _ from ⟨by omega, tquo s y hs64⟩)
    refine Cv (s / y : Nat) rfl ?_ (wW ⟨Int.natCast_nonneg _, Int.ofNat_lt.2 hsy⟩)
    refine Eo (k - 1) rfl (by omega) ?_
    refine Sto rfl (by simp only [lw]; omega) ms ?_
    refine Cv y rfl ?_
    refine Ar (s % y : Nat) rfl ?_ (show _ ∧ _ from ⟨by omega, trem s y⟩)
    refine Ar ((k - 1 : Nat) - 1 : Int) rfl ?_
    refine Bk (k - 1, lo.set (k - 1) (s / y), s % y) [] rfl ⟨by omega, by simp [hl], wset hwo hsy, hsm, ?_⟩ (by show k - 1 < k; omega)
    rw [val_drop hu, show k - 1 + 1 = k from by omega, ← hval, drop_set (by omega), val, show k - 1 + 1 = k from by omega]
    have e := Nat.div_add_mod s y
    rw [Nat.mul_comm] at e
    rw [Nat.add_mul, Nat.mul_add, Nat.mul_assoc]
    omega
  · have hk0 : k = 0 := by omega
    subst hk0
    rw [List.drop_zero, List.drop_zero, val_dig] at hval
    have hq : x / y = val lo := by rw [← hval, Nat.mul_comm, Nat.mul_add_div (by omega), Nat.div_eq_of_lt hr, Nat.add_zero]
    have hm : x % y = r := by rw [← hval, Nat.mul_comm, Nat.mul_add_mod, Nat.mod_eq_of_lt hr]
    refine Fz 9 6 (lo.map wd) rfl (by simp only [lw]; omega) (oa hl) ?_
    refine Ce rfl (trim_ok hwo (by omega)) ?_
    refine Cv (x % y : Nat) rfl ?_ (by rw [hm]; exact wW (by omega))
    exact RTt rfl (.cons (.eq (by rw [hq])) (.one (.rf rfl) (fun _ _ e => by cases e) (fun _ _ e => by cases e)))
theorem short_ok {x : Nat} (hl : (dig x).length ≤ 2) : C0 261 [.d (ws (dig x))] (· = .d (.int .u64 x)) := by
  refine En Tryz.func261 fun _ _ => ?_
  refine Ar ((dig x).length - 1 : Int) rfl ?_ (wr (by simp only [lw]) (by simp only [inK]; omega))
  refine Lo (fun k => [(0, .d (ws (dig x))), (3, .d (.int .u64 (val ((dig x).drop k)))), (4, .d (.int .i64 ((k : Nat) - 1 : Int)))]) (fun _ => []) (fun k => k ≤ (dig x).length) (fun k => k) (dig x).length [] rfl (Nat.le_refl _) (fun k hk => ?_) (by exact ⟨by rw [List.drop_eq_nil_of_le (Nat.le_refl _)]; rfl, rfl, rfl, rfl, rfl⟩)
  refine By rfl (fun h => ?_) fun h => ?_
  · obtain ⟨u, hu⟩ := xat (l := dig x) (k := k - 1) (by omega)
    have hub := ww hu (words_dig x)
    have hv : val ((dig x).drop k) < 4294967296 := by
      have h1 := val_lt ((words_dig x).drop k)
      have h2 : 4294967296 ^ ((dig x).drop k).length ≤ 4294967296 ^ 1 := Nat.pow_le_pow_right (by decide) (by rw [List.length_drop]; omega)
      omega
    have hvd := val_drop hu
    rw [show k - 1 + 1 = k from by omega] at hvd
    obtain ⟨s, hs⟩ : ∃ s, s = val ((dig x).drop k) := ⟨_, rfl⟩
    rw [← hs] at hv hvd
    refine Ar (s * 2 ^ 32 : Nat) rfl ?_ (by rw [← hs]; exact shl64 (n := 32) rfl (by omega) (by decide))
    refine Ix (k - 1) rfl (mp hu) ?_
    refine Cv u rfl ?_
    refine Ar (val ((dig x).drop (k - 1)) : Nat) rfl ?_ (or64 (by omega) (by omega) (by rw [or_add u s 32 (by omega), hvd]; omega) (by omega))
    refine Ar ((k - 1 : Nat) - 1 : Int) rfl ?_
    exact Bk (k - 1) [] rfl (show k - 1 ≤ _ by omega) (by show k - 1 < k; omega)
  · refine R1 rfl (.eq ?_)
    rw [show k = 0 by omega, List.drop_zero, val_dig]
theorem bl_half {x : Nat} (h : x ≠ 0) : bl x = bl (x / 2) + 1 := by
  by_cases h2 : x / 2 = 0
  · have : x = 1 := by omega
    subst this
    decide
  · exact bl_shift (n := x) (k := 1) h2
theorem length_ok {x : Nat} (hx : (dig x).length ≤ 1099511627776) (h0 : x ≠ 0) : C0 263 [.d (ws (dig x))] fun v => ∃ t, (dig x)[(dig x).length - 1]? = some t ∧ t ≠ 0 ∧ t < 4294967296 ∧ v = .d (.int .i64 (32 * ((dig x).length - 1) + bl t : Nat)) := by
  have hm0 : (dig x).length ≠ 0 := fun e => h0 (len0.1 e)
  obtain ⟨t, ht, ht0⟩ : ∃ t, (dig x)[(dig x).length - 1]? = some t ∧ t ≠ 0 := by
    rcases trim_dig x with h1 | h1
    · exact absurd (dig_eq_nil.1 h1) h0
    · exact h1
  have htb := ww ht (words_dig x)
  have hbt : bl t ≤ 32 := by
    obtain ⟨b1, b2, b3⟩ := bl_bounds ht0
    have : 2 ^ (bl t - 1) < 2 ^ 32 := Nat.lt_of_le_of_lt b1 htb
    have := (Nat.pow_lt_pow_iff_right (by decide : 1 < 2)).1 this
    omega
  refine En Tryz.func263 fun _ _ => ?_
  refine No rfl (by simp only [lw]; omega) ?_
  refine Ar ((dig x).length - 1 : Nat) rfl ?_ (wr (by simp only [lw]; omega) (by simp only [inK]; omega))
  refine Ix ((dig x).length - 1) rfl (mp ht) ?_
  refine Lo (fun (k, i) => [(0, .d (ws (dig x))), (3, .d (.int .i64 (i : Nat))), (4, .d (.int .u32 (k : Nat)))]) (fun _ => []) (fun (k, i) => k < 4294967296 ∧ bl k + i = bl t) (fun (k, _) => k) (t, 0) [] rfl ⟨htb, rfl⟩ ?_
  rintro ⟨k, i⟩ ⟨hk, hb⟩
  refine By rfl (fun h => ?_) fun h => ?_
  · have := bl_half (x := k) (by omega)
    refine Ar (i + 1 : Nat) rfl ?_
    refine Ar (k / 2 : Nat) rfl ?_ (show _ ∧ _ from ⟨by decide, by rw [show Int.tdiv (k : Int) 2 = ((k / 2 : Nat) : Int) from rfl]; exact wW (by omega)⟩)
    exact Bk (k / 2, i + 1) [] rfl ⟨by omega, by omega⟩ (by show k / 2 < k; omega)
  · have hk0 : k = 0 := by omega
    subst hk0
    rw [show bl 0 = 0 from rfl] at hb
    refine Ar ((dig x).length - 1 : Nat) rfl ?_ (wr (by simp only [lw]; omega) (by simp only [inK]; omega))
    refine Ar (32 * ((dig x).length - 1) : Nat) rfl ?_
    refine Ar (32 * ((dig x).length - 1) + bl t : Nat) rfl ?_
    exact Rt rfl (.one (.rf rfl) rfl rfl) ⟨t, ht, ht0, htb, rfl⟩
theorem shifted_ok {n x : Nat} (hx : (dig x).length ≤ 549755813888) (hn32 : n < 32) : CO0 264 [.d (ws (dig x)), .d (.int .i64 n)] fun v ob => ∃ l, l.length = (dig x).length + 1 ∧ Words l ∧ val l = x * 2 ^ n ∧ v = .own 1000000 1 0 l.length ∧ ob = .arr 1 (l.map wd) := by
  have hp := Nat.two_pow_pos n
  have hp32 : 2 ^ n ≤ 2147483648 := by have : 2 ^ n ≤ 2 ^ 31 := Nat.pow_le_pow_right (by decide) (by omega); omega
  refine EnW Tryz.func264 fun _ _ _ => ?_
  refine Ar ((dig x).length + 1 : Nat) rfl ?_ (wr (by simp only [lw]; omega) (by simp only [inK]; omega))
  refine Mk ((dig x).length + 1) rfl (by omega) ?_
  refine Lo (fun (i, lo) => [(0, .d (ws (dig x))), (1, .d (.int .i64 n)), (5, .own 11 1 0 ((dig x).length + 1)), (6, .d (.int .i64 (i : Nat)))]) (fun (_, lo) => [(11, .arr 1 (lo.map wd))])
    (fun (i, lo) => i ≤ (dig x).length ∧ lo.length = (dig x).length + 1 ∧ Words lo ∧ val (lo.take (i + 1)) = val ((dig x).take i) * 2 ^ n ∧ ∃ w, lo[i]? = some w ∧ w < 2 ^ n) (fun (i, _) => (dig x).length - i) (0, List.replicate ((dig x).length + 1) 0) [] rfl
    ⟨by omega, by simp, wzero _, by rw [List.take_replicate, val_zeros]; simp [val], 0, by simp, hp⟩ ?_ (by exact ⟨rfl, by simp only [List.map_replicate]; rfl, rfl, rfl, rfl⟩)
  rintro ⟨i, lo⟩ ⟨hi, hl, hwo, hval, w, hw, hwn⟩
  refine By rfl (fun h => ?_) fun h => ?_ <;> simp only [lw] at h
  · obtain ⟨u, hu⟩ := xat (l := dig x) (k := i) (by omega)
    have hub := ww hu (words_dig x)
    have hs1 := shl_lt hub hn32
    have hs2 := mul_mod_pow u n (by omega)
    obtain ⟨s, hs⟩ : ∃ s, s = u * 2 ^ n := ⟨_, rfl⟩
    have hshl := shl64 hs.symm (by omega) (by omega : n ≤ 64)
    rw [← hs] at hs1 hs2
    have hor : w ||| s % 4294967296 = s % 4294967296 + w := by rw [Nat.or_comm, hs2]; exact or_add _ _ _ hwn
    have hlt : s % 4294967296 + w < 4294967296 := by
      rw [hs2]
      have h1 : u % 2 ^ (32 - n) + 1 ≤ 2 ^ (32 - n) := Nat.mod_lt _ (Nat.two_pow_pos _)
      have h2 := Nat.mul_le_mul_right (2 ^ n) h1
      rw [← Nat.pow_add, show 32 - n + n = 32 from by omega, Nat.succ_mul] at h2
      omega
    refine Ix i rfl (mp hu) ?_
    refine Cv u rfl ?_
    refine Ar s rfl ?_ hshl
    refine Eo i rfl (by omega) ?_
    refine Ld (wd w) rfl (mp hw) ?_
    refine Cv (s % 4294967296 : Nat) rfl ?_ (by rw [wWm]; omega)
    refine Ar (s % 4294967296 + w : Nat) rfl ?_ (or32 (by omega) (by omega) hor hlt)
    refine Eo i rfl (by omega) ?_
    refine Sto rfl (by simp only [lw]; omega) ms ?_
    refine Ar (i + 1 : Nat) rfl ?_
    refine Ar (s / 4294967296 : Nat) rfl ?_ (shrA (n := 32) (by decide))
    refine Cv (s / 4294967296 : Nat) rfl ?_
    refine Eo (i + 1) rfl (by omega) ?_
    refine Sto rfl (by simp only [List.length_map, List.length_set]; omega) ms ?_
    refine Ar (i + 1 : Nat) rfl ?_
    refine Bk (i + 1, (lo.set i (s % 4294967296 + w)).set (i + 1) (s / 4294967296)) [] rfl ⟨by omega, by simp [hl], wset (wset hwo hlt) (by omega), ?_, s / 4294967296, by rw [List.getElem?_set_self (by rw [List.length_set]; omega)], ?_⟩ (by show _ - (i + 1) < _ - i; omega)
    · rw [val_set (by rw [List.length_set]; omega), val_set (by omega), val_take_succ hu, Nat.add_mul, ← hval, val_take_succ hw, Nat.mul_assoc, ← hs, Nat.pow_succ, Nat.mul_add, Nat.mul_assoc]
      have e : 4294967296 ^ i * s = 4294967296 ^ i * (s % 4294967296) + 4294967296 ^ i * (4294967296 * (s / 4294967296)) := by rw [← Nat.mul_add]; congr 1; omega
      omega
    · rw [Nat.div_lt_iff_lt_mul (by decide), hs, Nat.mul_comm]
      exact Nat.mul_lt_mul_of_pos_left hub hp
  · have him : i = (dig x).length := by omega
    rw [him, List.take_of_length_le (by omega), List.take_of_length_le (by omega), val_dig] at hval
    exact Rw [(11, 1000000)] [(1000000, .arr 1 (lo.map wd))] rfl (.one (.rf rfl) rfl rfl) ⟨_, rfl, lo, hl, hwo, hval, by rw [hl]; rfl, rfl⟩
theorem shifted_data {n x : Nat} (hx : (dig x).length ≤ 549755813888) (hn32 : n < 32) : C0 264 [.d (ws (dig x)), .d (.int .i64 n)] fun v => ∃ l, l.length = (dig x).length + 1 ∧ Words l ∧ val l = x * 2 ^ n ∧ v = .d (ws l) :=
  CW.data (shifted_ok hx hn32) rfl fun v H' ⟨ob, e, l, h1, h2, h3, h4, h5⟩ => ⟨.d (ws l), by rw [h4, e, h5]; exact .one (.own rfl (by simp) (oa rfl)) rfl rfl, l, h1, h2, h3, rfl⟩
theorem back_digit {u v n : Nat} (hu : u < 4294967296) (hn : n < 32) : (u + v * 4294967296) / 2 ^ n % 4294967296 = u / 2 ^ n + (v % 2 ^ n) * 2 ^ (32 - n) := by
  have e : v * 4294967296 = v * 2 ^ (32 - n) * 2 ^ n := by
    rw [Nat.mul_assoc, ← Nat.pow_add, show 32 - n + n = 32 from by omega]
  rw [e, Nat.add_mul_div_right _ _ (Nat.two_pow_pos n)]
  have h1 := mul_mod_pow v (32 - n) (by omega)
  rw [show 32 - (32 - n) = n from by omega] at h1
  have h2 := (shr_digit (v := v) hu hn).2
  rw [← h1] at h2 ⊢
  generalize v * 2 ^ (32 - n) = X at *
  generalize u / 2 ^ n = A at *
  omega
theorem back_ok {n x : Nat} (hx : (dig x).length ≤ 1099511627776) (hn32 : n < 32) : C0 267 [.d (ws (dig x)), .d (.int .i64 n)] (· = .d (ws (dig (x / 2 ^ n)))) := by
  have hp := Nat.two_pow_pos n
  have hp32 : 2 ^ n ≤ 2147483648 := by have : 2 ^ n ≤ 2 ^ 31 := Nat.pow_le_pow_right (by decide) (by omega); omega
  obtain ⟨m, hm⟩ : ∃ m, (dig x).length = m := ⟨_, rfl⟩
  rw [hm] at hx
  have hvx := val_dig x
  refine En Tryz.func267 fun _ _ => ?_
  refine Mk m rfl (by simp only [lw]; omega) ?_ (by simp only [lw, hm])
  refine Lo (fun (i, lo) => [(0, .d (ws (dig x))), (1, .d (.int .i64 n)), (5, .own 10 1 0 m), (6, .d (.int .i64 (i : Nat)))]) (fun (_, lo) => [(10, .arr 1 (lo.map wd))])
    (fun (i, lo) => i ≤ m ∧ lo.length = m ∧ Words lo ∧ val (lo.take i) * 2 ^ n + x % 2 ^ n = val ((dig x).take i) + 4294967296 ^ i * ((dig x).getD i 0 % 2 ^ n)) (fun (i, _) => m - i) (0, List.replicate m 0) [] rfl
    ⟨by omega, by simp, wzero _, by have := val_mod_pow (dig x) n (by omega); rw [hvx] at this; simp [val, this]⟩ ?_ (by exact ⟨rfl, by simp only [List.map_replicate]; rfl, rfl, rfl, rfl⟩)
  rintro ⟨i, lo⟩ ⟨hi, hl, hwo, hval⟩
  refine By rfl (fun h => ?_) fun h => ?_ <;> simp only [lw] at h
  · obtain ⟨u, hu⟩ := xat (l := dig x) (k := i) (by omega)
    have hub := ww hu (words_dig x)
    have hgu : (dig x).getD i 0 = u := by rw [List.getD_eq_getElem?_getD, hu]; rfl
    rw [hgu] at hval
    refine Ix i rfl (mp hu) ?_
    refine Cv u rfl ?_
    refine Ar (i + 1 : Nat) rfl ?_
    refine Cu none (fun s : Nat => [(0, .d (ws (dig x))), (1, .d (.int .i64 n)), (5, .own 10 1 0 m), (6, .d (.int .i64 i)), (7, .d (.int .u64 s))]) (fun _ => [(10, .arr 1 (lo.map wd))])
      (fun s => ∃ v, (dig x).getD (i + 1) 0 = v ∧ v < 4294967296 ∧ s = u + v * 4294967296) rfl ?_ fun s ⟨v, hv, hvb, hs⟩ => ?_
    · refine By rfl (fun h2 => ?_) fun h2 => ?_ <;> simp only [lw] at h2
      · obtain ⟨v, hv⟩ := xat (l := dig x) (k := i + 1) (by omega)
        have hvb := ww hv (words_dig x)
        refine Ar (i + 1 : Nat) rfl ?_
        refine Ix (i + 1) rfl (mp hv) ?_
        refine Cv v rfl ?_
        refine Ar (v * 2 ^ 32 : Nat) rfl ?_ (shl64 (n := 32) rfl (by omega) (by decide))
        refine Ar (u + v * 4294967296 : Nat) rfl ?_ (or64 (by omega) (by omega) (by rw [Nat.or_comm, or_add u v 32 (by omega)]; omega) (by omega))
        exact Jn (u + v * 4294967296) [] rfl ⟨v, by rw [List.getD_eq_getElem?_getD, hv]; rfl, hvb, rfl⟩
      · exact Jn u [] rfl ⟨0, by rw [List.getD_eq_getElem?_getD, List.getElem?_eq_none (by omega)]; rfl, by decide, by omega⟩
    have hbd := back_digit (v := v) hub hn32
    rw [← hs] at hbd
    refine Ar (s / 2 ^ n : Nat) rfl ?_ (shrA (show n ≤ 64 by omega))
    refine Cv (s / 2 ^ n % 4294967296 : Nat) rfl ?_ (by rw [wWm]; omega)
    refine Eo i rfl (by omega) ?_
    refine Sto rfl (by simp only [lw]; omega) ms ?_
    refine Ar (i + 1 : Nat) rfl ?_
    refine Bk (i + 1, lo.set i (s / 2 ^ n % 4294967296)) [] rfl ⟨by omega, by simp [hl], wset hwo (by omega), ?_⟩ (by show m - (i + 1) < m - i; omega)
    rw [val_set (by omega), val_take_succ hu, hv, hbd]
    exact shr_step hn32 hval
  · have him : i = m := by omega
    rw [him, List.take_of_length_le (by omega), List.take_of_length_le (by omega), List.getD_eq_getElem?_getD, List.getElem?_eq_none (by omega), hvx] at hval
    have hfin : val lo = x / 2 ^ n := by
      simp at hval
      have := Nat.div_add_mod x (2 ^ n)
      rw [Nat.mul_comm] at this
      exact Nat.eq_of_mul_eq_mul_right hp (by omega)
    refine Fz 9 5 (lo.map wd) rfl (by simp only [lw]; omega) (oa hl) ?_
    refine Ce rfl (trim_ok hwo (by omega)) ?_
    exact R1 rfl (.eq (by rw [hfin]))
end
section
theorem digit_own {q N y V : Nat} {l : List Nat} (hw : Words l) (hq : q + N ≤ l.length) (hN : N = (dig y).length + 1) (hy0 : y ≠ 0) (hn40 : N ≤ 1099511627776) (hV : val ((l.drop q).take N) = V) (hlt : V < 4294967296 * y) (hy : (dig y).length ≤ 549755813888) :
    CN0 265 [.own 1000001 1 q N, .d (ws (dig y))] [(1000001, .arr 1 (l.map wd))] (· = .tup (.pr (.d (.int .u32 (V / y : Nat))) (.d (ws (dig (y * (V / y))))))) := by
  obtain ⟨n, hn⟩ : ∃ n, n = (dig y).length := ⟨_, rfl⟩
  rw [← hn] at hN hy
  have hn0 : n ≠ 0 := fun e => hy0 (len0.1 (by omega))
  obtain ⟨t, ht, ht0⟩ : ∃ t, (dig y)[n - 1]? = some t ∧ t ≠ 0 := by
    rcases trim_dig y with h1 | h1
    · exact absurd (dig_eq_nil.1 h1) hy0
    · rw [← hn] at h1; exact h1
  have htb := ww ht (words_dig y)
  obtain ⟨u0, hu0⟩ := xat (l := l) (k := q + n) (by omega)
  obtain ⟨u1, hu1⟩ := xat (l := l) (k := q + (n - 1)) (by omega)
  have hub0 := ww hu0 hw
  have hub1 := ww hu1 hw
  have hqB : V / y < 4294967296 := by rw [Nat.div_lt_iff_lt_mul (Nat.pos_of_ne_zero hy0)]; exact hlt
  have hq00 := Nat.zero_le (V / y)
  obtain ⟨top, htop⟩ : ∃ top, top = u0 * 2 ^ 32 + u1 := ⟨_, rfl⟩
  have htopb : top < 18446744073709551616 := by omega
  have hest : V / y ≤ top / t := by
    have e1 := val_wsucc hu1
    rw [show n - 1 + 1 = n from by omega] at e1
    have e2 := val_wsucc hu0
    rw [← hN, hV, e1] at e2
    have e3 := val_take_succ ht
    rw [show n - 1 + 1 = (dig y).length from by omega, List.take_length, val_dig] at e3
    have hlow := val_lt ((hw.drop q).take (n - 1))
    rw [dlen (by omega)] at hlow
    have hM : 4294967296 ^ n = 4294967296 ^ (n - 1) * 4294967296 := by rw [← Nat.pow_succ]; congr 1; omega
    rw [hM] at e2
    generalize 4294967296 ^ (n - 1) = M at *
    generalize val ((l.drop q).take (n - 1)) = low at *
    generalize val ((dig y).take (n - 1)) = vlow at *
    have h1 : V < M * (top + 1) := by
      have : M * (u0 * 2 ^ 32 + u1 + 1) = M * u1 + M * 4294967296 * u0 + M := by grind
      rw [htop]; omega
    have h2 : M * t ≤ y := by omega
    have hM0 : 0 < M := by omega
    have h3 : V / y ≤ V / (M * t) := Nat.div_le_div_left h2 (Nat.mul_pos hM0 (Nat.pos_of_ne_zero ht0))
    refine Nat.le_trans h3 ?_
    rw [← Nat.div_div_eq_div_mul]
    refine Nat.div_le_div_right ?_
    have := (Nat.div_lt_iff_lt_mul hM0).2 (by rw [Nat.mul_comm]; exact h1)
    omega
  refine EnW Tryz.func265 fun _ _ _ => ?_
  refine Dw rfl ?_
  refine El n rfl (by omega) ?_ (by simp only [lw]; omega)
  refine Ld (wd u0) rfl (mp hu0) ?_
  refine Cv u0 rfl ?_
  refine Ar (u0 * 2 ^ 32 : Nat) rfl ?_ (shl64 (n := 32) rfl (by omega) (by decide))
  refine Ar (n - 1 : Nat) rfl ?_ (wr (by simp only [lw]; omega) (by simp only [inK]; omega))
  refine El (n - 1) rfl (by omega) ?_
  refine Ld (wd u1) rfl (mp hu1) ?_
  refine Cv u1 rfl ?_
  refine Ar top rfl ?_ (or64 (by omega) (by omega) (by rw [or_add u1 u0 32 (by omega), htop]) htopb)
  refine Ar (n - 1 : Nat) rfl ?_ (wr (by simp only [lw]; omega) (by simp only [inK]; omega))
  refine Ix (n - 1) rfl (mp ht) ?_
  refine Cv t rfl ?_
  have htt0 := Nat.zero_le (top / t)
  have htt1 := Nat.div_le_self top t
  refine Ar (top / t : Nat) rfl ?_ (show _ ∧ _ from ⟨by omega, tquo top t htopb⟩)
  refine Cu none (fun g : Nat => [(0, .own 1000001 1 q N), (1, .d (ws (dig y))), (7, .d (.int .u64 g))]) (fun _ => [(1000001, .arr 1 (l.map wd))]) (fun g => V / y ≤ g ∧ g < 4294967296) rfl ?_ fun g0 ⟨hg0, hgB⟩ => ?_
  · refine By rfl (fun h => ?_) fun h => ?_
    · exact Jn 4294967295 [] rfl ⟨by omega, by decide⟩
    · exact Jn (top / t) [] rfl ⟨hest, by omega⟩
  refine Cv g0 rfl ?_
  refine Ce (r := .d (ws (dig (y * g0)))) rfl (by have := times_w (words_dig y) (Y := [g0]) (.cons hgB .nil) (by omega) (by simp); rwa [val_dig, show val [g0] = g0 from by simp [val]] at this) ?_
  refine Lo (fun g : Nat => [(0, .own 1000001 1 q N), (1, .d (ws (dig y))), (7, .d (.int .u64 g)), (8, .d (ws (dig (y * g))))]) (fun _ => [(1000001, .arr 1 (l.map wd))]) (fun g => V / y ≤ g ∧ g < 4294967296) (fun g => g) g0 [] rfl ⟨hg0, hgB⟩ fun g ⟨hg, hgB⟩ => ?_
  refine Cn [] rfl (trim_own hw hq hn40) fun v hv => ?_
  obtain ⟨k, hk, rfl, hkl⟩ := hv
  rw [hV] at hkl
  refine Cn [] rfl (compare_own (by omega) hkl (by rw [← hkl, dlen (by omega)]; omega)) fun v hv => ?_
  obtain rfl : v = _ := hv
  refine By rfl (fun h => ?_) fun h => ?_
  · have hlt2 : V < y * g := cmpI_neg.1 h
    have hg1 : V / y < g := by rw [Nat.div_lt_iff_lt_mul (Nat.pos_of_ne_zero hy0), Nat.mul_comm]; exact hlt2
    have hyg : y * g - y = y * (g - 1) := by rw [Nat.mul_sub_one]
    have hle : y ≤ y * g := Nat.le_mul_of_pos_right _ (by omega)
    have hlen : (dig (y * g)).length ≤ 1099511627776 := by
      have h1 := len_mul y g
      have h2 : (dig g).length ≤ 1 := dig_len_le (by omega)
      omega
    refine Ar (g - 1 : Nat) rfl ?_
    refine Ce rfl (minus_ok hlen hle) ?_
    exact Bk (g - 1) [] rfl ⟨by omega, by omega⟩ (by show g - 1 < g; omega) (by exact ⟨by rw [hyg]; rfl, rfl, rfl, rfl, rfl⟩)
  · have hge2 : y * g ≤ V := Nat.le_of_not_lt fun hlt => h (cmpI_neg.2 hlt)
    have hg2 : g = V / y := Nat.le_antisymm ((Nat.le_div_iff_mul_le (Nat.pos_of_ne_zero hy0)).2 (by rw [Nat.mul_comm]; exact hge2)) hg
    refine Cv g rfl ?_
    exact Rw [] [(1000001, .arr 1 (l.map wd))] rfl (.tup (.cons (.rf rfl) (.one (.rf rfl) (fun _ _ e => by cases e) (fun _ _ e => by cases e)))) ⟨rfl, by rw [hg2]; rfl⟩
theorem divide_ok {x y : Nat} (hx : (dig x).length ≤ 549755813888) (hy : (dig y).length ≤ 549755813888) (hy0 : y ≠ 0) : C0 207 [.d (ws (dig x)), .d (ws (dig y))] (· = .tup (.pr (.d (ws (dig (x / y)))) (.d (ws (dig (x % y)))))) := by
  refine En Tryz.func207 fun _ _ => ?_
  refine Ce rfl (compare_ok (by omega)) ?_
  refine By rfl (fun h => ?_) fun h => ?_
  · have hlt : x < y := cmpI_neg.1 h
    exact RTt rfl (.cons (.nil (by rw [Nat.div_eq_of_lt hlt, dig_zero]; rfl)) (.one (.eq (by rw [Nat.mod_eq_of_lt hlt])) (fun _ _ e => by cases e) (fun _ _ e => by cases e)))
  have hge : y ≤ x := Nat.le_of_not_lt fun hlt => h (cmpI_neg.2 hlt)
  have hlenle := len_mono hge
  refine By rfl (fun h2 => ?_) fun h2 => ?_ <;> simp only [lw] at h2
  · have hx64 : x < 18446744073709551616 := by
      have := dig_ub x
      have h1 : 4294967296 ^ (dig x).length ≤ 4294967296 ^ 2 := Nat.pow_le_pow_right (by decide) (by omega)
      omega
    refine Ce rfl (short_ok (by omega)) ?_
    refine Ce rfl (short_ok (by omega)) ?_
    have hq64 : x / y < 18446744073709551616 := Nat.lt_of_le_of_lt (Nat.div_le_self ..) hx64
    have hr64 : x % y < 18446744073709551616 := Nat.lt_of_le_of_lt (Nat.mod_le ..) hx64
    refine Dw rfl ?_
    refine Ar (x / y : Nat) rfl ?_ (show _ ∧ _ from ⟨by omega, tquo x y hx64⟩)
    refine Ce rfl (words_ok hq64) ?_
    refine Ar (x % y : Nat) rfl ?_ (show _ ∧ _ from ⟨by omega, trem x y⟩)
    refine Ce rfl (words_ok hr64) ?_
    exact R0t
  refine By rfl (fun h3 => ?_) fun h3 => ?_ <;> simp only [lw] at h3
  · obtain ⟨t, ht⟩ := xat (l := dig y) (k := 0) (by omega)
    have htb := ww ht (words_dig y)
    have hyt : y = t := by
      have := val_take_succ ht
      rw [List.take_of_length_le (by omega), val_dig] at this
      simpa [val] using this
    have hrt : x % t < t := Nat.mod_lt _ (by omega)
    have hr0 := Nat.zero_le (x % t)
    refine Ix 0 rfl (mp ht) ?_
    refine Ce rfl (by_ok (y := t) hx htb (by omega)) ?_
    refine Cv (x % t : Nat) rfl ?_
    refine Ce rfl (words_ok (n := x % t) (by omega)) ?_
    exact RTt rfl (.cons (.eq (by rw [hyt])) (.one (.eq (by rw [hyt])) (fun _ _ e => by cases e) (fun _ _ e => by cases e)))
  have hy1 : 1 ≤ (dig y).length := by
    have : (dig y).length ≠ 0 := fun h => hy0 (len0.1 h)
    omega
  refine Ar (32 * (dig y).length : Nat) rfl ?_ (wr (by simp only [lw]; omega) (by simp only [inK]; omega))
  refine Ca rfl (length_ok (by omega) hy0) fun v hv => ?_
  obtain ⟨t, ht, ht0, htb, rfl⟩ := hv
  obtain ⟨bb1, bb2, bb3⟩ := bl_bounds ht0
  have hb32 : bl t ≤ 32 := by
    have : 2 ^ (bl t - 1) < 2 ^ 32 := Nat.lt_of_le_of_lt bb1 htb
    have := (Nat.pow_lt_pow_iff_right (by decide : 1 < 2)).1 this
    omega
  obtain ⟨s, hs⟩ : ∃ s, s = 32 - bl t := ⟨_, rfl⟩
  have hs32 : s < 32 := by omega
  have hs1 : 2147483648 ≤ t * 2 ^ s := by
    have h1 := Nat.mul_le_mul_right (2 ^ (32 - bl t)) bb1
    rw [← Nat.pow_add, show bl t - 1 + (32 - bl t) = 31 from by omega] at h1
    rw [hs]; exact h1
  have hs2 : t * 2 ^ s < 4294967296 := by
    have h1 := Nat.mul_lt_mul_of_pos_right bb2 (Nat.two_pow_pos (32 - bl t))
    rw [← Nat.pow_add, show bl t + (32 - bl t) = 32 from by omega] at h1
    rw [hs]; exact h1
  refine Ar s rfl ?_
  obtain ⟨hlen, t', ht', htt⟩ := norm_len hy0 ht hs1 hs2
  refine Co rfl (shifted_ok hx hs32) fun v ob hv => ?_
  obtain ⟨lu0, hul, huw, huv, rfl, rfl⟩ := hv
  refine Ca rfl (shifted_data hy hs32) fun v hv => ?_
  obtain ⟨lv, hvl, hvw, hvv, rfl⟩ := hv
  obtain ⟨Y, hY⟩ : ∃ Y, Y = y * 2 ^ s := ⟨_, rfl⟩
  rw [← hY] at hlen hvv
  refine Ce (r := .d (ws (dig Y))) rfl (by have := trim_ok hvw (by omega); rwa [hvv] at this) ?_
  obtain ⟨mv, hmv⟩ : ∃ mv, mv = (dig Y).length := ⟨_, rfl⟩
  obtain ⟨m, hm⟩ : ∃ m, m = (dig x).length := ⟨_, rfl⟩
  refine Mk m rfl (by simp only [lw]; omega) ?_ (by simp only [lw, hm])
  refine Ar ((lu0.length - mv : Nat) - 1 : Int) rfl ?_ (wr (by simp only [lw]; omega) (by simp only [inK]; omega))
  have hY0 : Y ≠ 0 := by rw [hY]; exact Nat.mul_ne_zero hy0 (Nat.pos_iff_ne_zero.1 (Nat.two_pow_pos s))
  have hYl := dig_ub Y
  have hR0 : val (lu0.drop (lu0.length - mv)) < Y := by
    have h1 := val_split lu0 (lu0.length - mv) (by omega)
    rw [huv] at h1
    have h2 := dig_lb hy0
    have h3 := dig_ub x
    have hp := Nat.two_pow_pos s
    apply Classical.byContradiction
    intro hn2
    have h4 : 4294967296 ^ (lu0.length - mv) * Y ≤ x * 2 ^ s := by
      rw [h1]
      have := Nat.mul_le_mul_left (4294967296 ^ (lu0.length - mv)) (Nat.le_of_not_lt hn2)
      omega
    rw [hY, ← Nat.mul_assoc] at h4
    have h5 := Nat.le_of_mul_le_mul_right h4 hp
    have h6 := Nat.mul_le_mul_left (4294967296 ^ (lu0.length - mv)) h2
    rw [← Nat.pow_add, show lu0.length - mv + ((dig y).length - 1) = (dig x).length from by omega] at h6
    omega
  refine Lo (fun (k, lu, lq) => [(10, .d (.int .i64 s)), (11, .own 63 1 0 lu0.length), (12, .d (ws (dig Y))), (13, .own 70 1 0 m), (14, .d (.int .i64 ((k : Nat) - 1 : Int)))]) (fun (_, lu, lq) => [(63, .arr 1 (lu.map wd)), (70, .arr 1 (lq.map wd))])
    (fun (k, lu, lq) => k ≤ lu0.length - mv ∧ lu.length = lu0.length ∧ Words lu ∧ lq.length = m ∧ Words lq ∧ (∀ j, j < k → lu[j]? = lu0[j]?) ∧ val (lu.drop k) < Y ∧ val (lq.drop k) * Y + val (lu.drop k) = val (lu0.drop k)) (fun (k, _, _) => k) (lu0.length - mv, lu0, List.replicate m 0) [] rfl
    ⟨by omega, rfl, huw, by simp, wzero _, fun _ _ => rfl, hR0, by rw [List.drop_replicate, val_zeros]; simp⟩ ?_ (by exact ⟨rfl, by simp only [List.map_replicate]; rfl, rfl, rfl, rfl⟩)
  rintro ⟨k, lu, lq⟩ ⟨hk, hln, hwu, hlq, hwq, hsame, hRlt, hQR⟩
  refine By rfl (fun h => ?_) fun h => ?_
  · obtain ⟨hwin, hUlt⟩ := window (n := mv) (i := k - 1) (Y := Y) hwu (by omega) (by rw [show k - 1 + 1 = k from by omega]; exact hRlt) (by rw [hmv]; exact Nat.le_of_lt hYl)
    obtain ⟨U, hU⟩ : ∃ U, U = val (lu.drop (k - 1)) := ⟨_, rfl⟩
    rw [← hU] at hwin hUlt
    have hqB : U / Y < 4294967296 := by rw [Nat.div_lt_iff_lt_mul (Nat.pos_of_ne_zero hY0)]; exact hUlt
    have hqz0 : 0 ≤ U / Y := Nat.zero_le _
    have hUlt2 : U % Y < Y := Nat.mod_lt _ (Nat.pos_of_ne_zero hY0)
    have eN : k - 1 + mv + 1 - (k - 1) = mv + 1 := by omega
    refine Ar (k - 1 + mv : Nat) rfl ?_ (wr (by simp only [lw]; omega) (by simp only [inK]; omega))
    refine Ar (k - 1 + mv + 1 : Nat) rfl ?_
    refine Sw (k - 1) (k - 1 + mv + 1) rfl (by omega) (by omega) ?_
    have hwin2 : val ((lu.drop (0 + (k - 1))).take (k - 1 + mv + 1 - (k - 1))) = U := by rw [Nat.zero_add, eN]; exact hwin.symm
    refine Cn [(1000001, 63)] rfl (digit_own (l := lu) (q := 0 + (k - 1)) (N := k - 1 + mv + 1 - (k - 1)) (V := U) hwu (by omega) (by omega) hY0 (by omega) hwin2 hUlt (by omega)) fun v hv => ?_
    obtain rfl : v = _ := hv
    refine Eo (k - 1) rfl (by omega) ?_
    refine Sto rfl (by simp only [lw]; omega) ms ?_
    refine Cn [(1000001, 63)] rfl (trim_own (l := lu) (q := 0 + (k - 1)) (n := k - 1 + mv + 1 - (k - 1)) hwu (by omega) (by omega)) fun v hv => ?_
    obtain ⟨k2, hk2, rfl, hkl⟩ := hv
    rw [hwin2] at hkl
    have hUY : Y * (U / Y) ≤ U := Nat.mul_div_le U Y
    have hUmod : U - Y * (U / Y) = U % Y := by have := Nat.div_add_mod U Y; omega
    refine Cn [(1000001, 63)] rfl (minus_own (l := lu) (q := 0 + (k - 1)) (m := k2) (by omega) hkl (by rw [← hkl, dlen (by omega)]; omega) hUY) fun v hv => ?_
    rw [hUmod] at hv
    obtain rfl : v = _ := hv
    have hdlen := len_mono (Nat.le_of_lt hUlt2)
    refine Lo (fun (i, lo) => [(10, .d (.int .i64 s)), (11, .own 63 1 0 lu0.length), (12, .d (ws (dig Y))), (13, .own 70 1 0 m), (14, .d (.int .i64 ((k : Nat) - 1 : Int))), (15, .own 63 1 (0 + (k - 1)) (k - 1 + mv + 1 - (k - 1))), (18, .d (ws (dig (U % Y)))), (19, .d (.int .i64 (i : Nat)))]) (fun (_, lo) => [(63, .arr 1 (lo.map wd)), (70, .arr 1 ((lq.set (k - 1) (U / Y)).map wd))])
      (fun (i, lo) => i ≤ mv + 1 ∧ lo.length = lu0.length ∧ Words lo ∧ (∀ j, (j < k - 1 ∨ k - 1 + i ≤ j) → lo[j]? = lu[j]?) ∧ val ((lo.drop (k - 1)).take i) = val ((dig (U % Y)).take i)) (fun (i, _) => mv + 1 - i) (0, lu) [] rfl
      ⟨by omega, hln, hwu, fun _ _ => rfl, rfl⟩ ?_
    rintro ⟨i, lo⟩ ⟨hi, hlo, hwo, hsame2, hval2⟩
    refine By rfl (fun h1 => ?_) fun h1 => ?_
    · refine El i rfl (by omega) ?_
      refine Sto rfl (by simp only [lw]; omega) (ms (f := wd) (u := 0)) ?_
      have eJ : 0 + (k - 1) + i = k - 1 + i := by omega
      refine Cu none (fun g : Nat => [(10, .d (.int .i64 s)), (11, .own 63 1 0 lu0.length), (12, .d (ws (dig Y))), (13, .own 70 1 0 m), (14, .d (.int .i64 ((k : Nat) - 1 : Int))), (15, .own 63 1 (0 + (k - 1)) (k - 1 + mv + 1 - (k - 1))), (18, .d (ws (dig (U % Y)))), (19, .d (.int .i64 i))]) (fun g => [(63, .arr 1 ((lo.set (k - 1 + i) g).map wd)), (70, .arr 1 ((lq.set (k - 1) (U / Y)).map wd))])
        (fun g => g < 4294967296 ∧ val ((dig (U % Y)).take (i + 1)) = val ((dig (U % Y)).take i) + 4294967296 ^ i * g) rfl ?_ fun g ⟨hgb, hg⟩ => ?_
      · refine By rfl (fun h2 => ?_) fun h2 => ?_ <;> simp only [lw] at h2
        · obtain ⟨w, hw⟩ := xat (l := dig (U % Y)) (k := i) (by omega)
          have hwb := ww hw (words_dig (U % Y))
          refine Ix i rfl (mp hw) ?_
          refine El i rfl (by omega) ?_
          refine Sto rfl (by simp only [lw, List.length_set]; omega) ms ?_
          exact Jn w [] rfl ⟨hwb, val_take_succ hw⟩ (by exact ⟨rfl, by rw [List.set_set, eJ]; rfl, rfl, rfl, rfl⟩)
        · exact Jn 0 [] rfl ⟨by decide, by rw [take_ge (by omega)]; rfl⟩ (by exact ⟨rfl, by rw [eJ]; rfl, rfl, rfl, rfl⟩)
      refine Ar (i + 1 : Nat) rfl ?_
      exact Bk (i + 1, lo.set (k - 1 + i) g) [] rfl ⟨by omega, by simp [hlo], wset hwo hgb, fun j hj => by rw [List.getElem?_set_ne (by omega)]; exact hsame2 j (by omega), by rw [val_wset (by omega), hval2, hg]⟩ (by show mv + 1 - (i + 1) < mv + 1 - i; omega)
    · have hik : i = mv + 1 := by omega
      subst hik
      rw [List.take_of_length_le (l := dig (U % Y)) (by omega), val_dig] at hval2
      have hab : val (lo.drop (k - 1)) = U % Y := by
        have g1 := val_split (lo.drop (k - 1)) (mv + 1) (by rw [List.length_drop]; omega)
        have g2 := val_split (lu.drop (k - 1)) (mv + 1) (by rw [List.length_drop]; omega)
        have g3 : (lo.drop (k - 1)).drop (mv + 1) = (lu.drop (k - 1)).drop (mv + 1) := by
          rw [List.drop_drop, List.drop_drop]
          exact drop_congr fun j hj => hsame2 j (.inr hj)
        rw [← hU, ← hwin] at g2
        rw [g1, hval2, g3]
        omega
      obtain ⟨w, hw⟩ := xat (l := lu) (k := k - 1) (by omega)
      have hw2 : lu0[k - 1]? = some w := by rw [← hsame (k - 1) (by omega)]; exact hw
      have hfin : val ((lq.set (k - 1) (U / Y)).drop (k - 1)) * Y + val (lo.drop (k - 1)) = val (lu0.drop (k - 1)) := by
        have g1 := val_drop hw
        have g2 := val_drop hw2
        have g3 := val_drop (l := lq.set (k - 1) (U / Y)) (k := k - 1) (List.getElem?_set_self (by omega))
        have g4 : (lq.set (k - 1) (U / Y)).drop (k - 1 + 1) = lq.drop (k - 1 + 1) := drop_congr fun j hj => List.getElem?_set_ne (by omega)
        rw [show k - 1 + 1 = k from by omega] at g1 g2 g3 g4
        rw [hab, g2, g3, g4, ← hQR, Nat.add_mul, Nat.mul_assoc, Nat.mul_add]
        have g5 := Nat.div_add_mod U Y
        rw [Nat.mul_comm] at g5
        rw [← hU] at g1
        omega
      refine Ar ((k - 1 : Nat) - 1 : Int) rfl ?_
      exact Bk (k - 1, lo, lq.set (k - 1) (U / Y)) [] rfl ⟨by omega, hlo, hwo, by simp [hlq], wset hwq hqB, fun j hj => (hsame2 j (.inl hj)).trans (hsame j (by omega)), by rw [hab]; exact hUlt2, hfin⟩ (by show k - 1 < k; omega)
  · have hk0 : k = 0 := by omega
    subst hk0
    rw [List.drop_zero] at hRlt hQR
    rw [List.drop_zero, List.drop_zero, huv] at hQR
    obtain ⟨hQ, hR⟩ := div_fin hY.symm hQR hRlt
    refine Fz 25 13 (lq.map wd) rfl (by simp only [lw]; omega) (oa hlq) ?_
    refine Fz 25 11 (lu.map wd) rfl (by simp only [lw]; omega) (oa hln) ?_
    refine Ce rfl (trim_ok hwq (by omega)) ?_
    refine Ce rfl (trim_ok hwu (by omega)) ?_
    refine Ce rfl (back_ok (by have := len_mono (Nat.le_of_lt hRlt); omega) hs32) ?_
    exact RTt rfl (.cons (.eq (by rw [hQ])) (.one (.eq (by rw [hR, Nat.mul_div_cancel _ (Nat.two_pow_pos s)])) (fun _ _ e => by cases e) (fun _ _ e => by cases e)))
end
section
theorem GCD_ok {a b : Int} (ha : (dig a.natAbs).length ≤ 549755813888) (hb : (dig b.natAbs).length ≤ 549755813888) : C0 137 [.d (dz a), .d (dz b)] (· = .d (dz (Int.gcd a b))) := by
  refine En Tryz.func137 fun _ _ => ?_
  refine Dw rfl ?_
  refine Ce rfl (trim_dig_ok (by omega)) ?_
  refine Ce rfl (trim_dig_ok (by omega)) ?_
  refine Lo (fun ((x, y) : Nat × Nat) => [(4, .ptr 4 0), (5, .d (ws (dig x))), (6, .d (ws (dig y)))]) (fun _ => [(4, .var (.st (.pr (.b false) .nil)))]) (fun (x, y) => Nat.gcd x y = Int.gcd a b ∧ (dig x).length ≤ 549755813888 ∧ (dig y).length ≤ 549755813888) (fun (_, y) => y) (a.natAbs, b.natAbs) [] rfl ⟨rfl, ha, hb⟩ fun ⟨x, y⟩ ⟨hg, hx, hy⟩ => ?_
  refine By rfl (fun h1 => ?_) fun h1 => ?_ <;> simp only [lw] at h1
  · have h0 : y ≠ 0 := fun e => by have := len0.2 e; omega
    have hlt := Nat.mod_lt x (Nat.pos_of_ne_zero h0)
    refine Ce rfl (divide_ok hx hy h0) ?_
    exact Bk (y, x % y) [] rfl ⟨by rw [← hg, Nat.gcd_comm y, ← Nat.gcd_rec, Nat.gcd_comm], hy, Nat.le_trans (len_mono (Nat.le_of_lt hlt)) hy⟩ hlt
  · have h0 : y = 0 := len0.1 (by omega)
    subst h0
    rw [Nat.gcd_zero_right] at hg
    refine Ce rfl (signed_sg (b := false) (by omega)) ?_
    exact R1 rfl (.eq (by rw [sg_false, hg]))
theorem fd_uniq {z b q r : Int} (e : b * q + r = z) (h : (0 ≤ r ∧ r < b) ∨ (b < r ∧ r ≤ 0)) : z.fdiv b = q ∧ z.fmod b = r := by
  rcases h with ⟨h1, h2⟩ | ⟨h1, h2⟩
  · rw [Int.fdiv_eq_ediv_of_nonneg _ (by omega), Int.fmod_eq_emod_of_nonneg _ (by omega)]
    exact (Int.ediv_emod_unique (a := z) (b := b) (by omega)).2 ⟨by rw [Int.add_comm]; exact e, h1, h2⟩
  · have h3 : (-z).fdiv (-b) = q ∧ (-z).fmod (-b) = -r := by
      rw [Int.fdiv_eq_ediv_of_nonneg _ (by omega), Int.fmod_eq_emod_of_nonneg _ (by omega)]
      exact (Int.ediv_emod_unique (a := -z) (b := -b) (by omega)).2 ⟨by rw [← e, Int.neg_mul]; omega, by omega, by omega⟩
    rw [Int.neg_fdiv_neg, Int.neg_fmod_neg] at h3
    exact ⟨h3.1, by omega⟩
theorem qr0 {z b : Int} (hb : b ≠ 0) : z - sg (decide (z < 0) != decide (b < 0)) (z.natAbs / b.natAbs) * b = sg (decide (z < 0)) (z.natAbs % b.natAbs) := by
  have e := Nat.div_add_mod z.natAbs b.natAbs
  have hz : z = sg (decide (z < 0)) z.natAbs := by unfold sg; by_cases h : z < 0 <;> simp [h] <;> omega
  have hb : b = sg (decide (b < 0)) b.natAbs := by unfold sg; by_cases h : b < 0 <;> simp [h] <;> omega
  generalize decide (z < 0) = dz at *
  generalize decide (b < 0) = db at *
  generalize z.natAbs = A at *
  generalize b.natAbs = B at *
  generalize A / B = q at *
  generalize A % B = r at *
  have e2 : (A : Int) = (B : Int) * q + r := by rw [← e]; push_cast; rfl
  subst hz
  subst hb
  cases dz <;> cases db <;> simp [sg, e2] <;> grind
theorem sg_na (b : Bool) (n : Nat) : (sg b n).natAbs = n := by cases b <;> simp [sg]
theorem fdm_up {z b : Int} (hb : b ≠ 0) (h : cmpI (sg (decide (z < 0)) (z.natAbs % b.natAbs)) 0 * cmpI b 0 < 0) :
    sg (decide (z < 0) != decide (b < 0)) (z.natAbs / b.natAbs) - 1 = z.fdiv b ∧ sg (decide (z < 0)) (z.natAbs % b.natAbs) + b = z.fmod b := by
  have h0 := @qr0 z b hb
  have h1 := sg_na (decide (z < 0)) (z.natAbs % b.natAbs)
  have h2 := Nat.mod_lt z.natAbs (y := b.natAbs) (by omega)
  generalize sg (decide (z < 0)) (z.natAbs % b.natAbs) = r at *
  generalize sg (decide (z < 0) != decide (b < 0)) (z.natAbs / b.natAbs) = q at *
  have := fd_uniq (z := z) (b := b) (q := q - 1) (r := r + b) (by rw [← Int.sub_add_cancel z (q * b), h0]; grind) (by
    unfold cmpI at h
    repeat' split at h
    all_goals first | omega | (left; omega) | (right; omega))
  exact ⟨this.1.symm, this.2.symm⟩
theorem fdm_at {z b : Int} (hb : b ≠ 0) (h : ¬ cmpI (sg (decide (z < 0)) (z.natAbs % b.natAbs)) 0 * cmpI b 0 < 0) :
    sg (decide (z < 0) != decide (b < 0)) (z.natAbs / b.natAbs) = z.fdiv b ∧ sg (decide (z < 0)) (z.natAbs % b.natAbs) = z.fmod b := by
  have h0 := @qr0 z b hb
  have h1 := sg_na (decide (z < 0)) (z.natAbs % b.natAbs)
  have h2 := Nat.mod_lt z.natAbs (y := b.natAbs) (by omega)
  generalize sg (decide (z < 0)) (z.natAbs % b.natAbs) = r at *
  generalize sg (decide (z < 0) != decide (b < 0)) (z.natAbs / b.natAbs) = q at *
  have := fd_uniq (z := z) (b := b) (q := q) (r := r) (by rw [← Int.sub_add_cancel z (q * b), h0]; grind) (by
    unfold cmpI at h
    repeat' split at h
    all_goals first | omega | (left; omega) | (right; omega))
  exact ⟨this.1.symm, this.2.symm⟩
theorem cmpI_mul (a b c d : Int) : -1 ≤ cmpI a b * cmpI c d ∧ cmpI a b * cmpI c d ≤ 1 := by
  unfold cmpI; repeat' split
  all_goals omega
theorem DivMod_ok {a b : Int} (ha : (dig a.natAbs).length ≤ 549755813888) (hb : (dig b.natAbs).length ≤ 549755813888) (hb0 : b ≠ 0) : C0 208 [.d (dz a), .d (dz b)] (· = .tup (.pr (.d (dz (a.fdiv b))) (.pr (.d (dz (a.fmod b))) (.d (.int .i64 0))))) := by
  have hlq : (dig (a.natAbs / b.natAbs)).length ≤ 549755813888 := Nat.le_trans (len_mono (Nat.div_le_self ..)) ha
  have hlr : (dig (a.natAbs % b.natAbs)).length ≤ 549755813888 := Nat.le_trans (len_mono (Nat.mod_le ..)) ha
  have hlqz : (dig (sg (decide (a < 0) != decide (b < 0)) (a.natAbs / b.natAbs) * b).natAbs).length ≤ 549755813888 := by
    rw [Int.natAbs_mul, sg_na]
    exact Nat.le_trans (len_mono (Nat.div_mul_le_self ..)) ha
  refine En Tryz.func208 fun _ _ => ?_
  refine Dw rfl ?_
  refine Ce rfl (Norm_ok (by omega)) ?_
  refine Ce rfl (Norm_ok (by omega)) ?_
  refine No rfl (by simp only [lw]; have := @len0 b.natAbs; omega) ?_
  refine Ce rfl (divide_ok ha hb (by omega)) ?_
  refine Ce rfl (signed_sg (by omega)) ?_
  refine Dw rfl ?_
  refine Ce (r := .d (dz (sg (decide (a < 0) != decide (b < 0)) (a.natAbs / b.natAbs) * b))) rfl (by rw [bneq]; exact Mul_ok (by rw [sg_na]; exact hlq) hb) ?_
  refine Ce rfl (Sub_ok ha hlqz) ?_
  have h0 := qr0 (z := a) hb0
  refine Dw rfl ?_
  refine Ce rfl (Sign_ok (by rw [h0, sg_na]; omega)) ?_
  refine Ce rfl (Sign_ok (by omega)) ?_
  have hr := cmpI_mul (sg (decide (a < 0)) (a.natAbs % b.natAbs)) 0 b 0
  rw [← h0] at hr
  refine Ar (cmpI (a - sg (decide (a < 0) != decide (b < 0)) (a.natAbs / b.natAbs) * b) 0 * cmpI b 0) rfl ?_
  refine By rfl (fun h => ?_) fun h => ?_ <;> rw [h0] at h
  · refine Dw rfl ?_
    refine Ce rfl (FromInt_ok (z := 1) (by decide)) ?_
    refine Ce (r := .d (dz (sg (decide (a < 0) != decide (b < 0)) (a.natAbs / b.natAbs) - 1))) rfl (by rw [bneq]; exact Sub_ok (by rw [sg_na]; omega) (Nat.le_trans (@dig_len_le 1 1 (by decide)) (by decide))) ?_
    refine Ce rfl (Add_ok (by rw [h0, sg_na]; omega) hb) ?_
    refine Dz rfl ?_
    exact RTt rfl (.cons (.eq (by rw [(fdm_up hb0 h).1]; rfl)) (.cons (.eq (by rw [h0, (fdm_up hb0 h).2]; rfl)) (.one (.rf rfl) (fun _ _ e => by cases e) (fun _ _ e => by cases e))))
  · refine Dz rfl ?_
    exact RTt rfl (.cons (.eq (by rw [bneq, (fdm_at hb0 h).1]; rfl)) (.cons (.eq (by rw [h0, (fdm_at hb0 h).2]; rfl)) (.one (.rf rfl) (fun _ _ e => by cases e) (fun _ _ e => by cases e))))
theorem zpow {q : Nat} {z : Int} (h : Zs q z) (n : Nat) : Zs (q * n + 1) (z ^ n) := by
  unfold Zs at *
  rw [Int.natAbs_pow]
  have h1 : z.natAbs ^ n ≤ (2 ^ q) ^ n := Nat.pow_le_pow_left (Nat.le_of_lt h) n
  rw [← Nat.pow_mul] at h1
  rw [Nat.pow_succ]
  have := Nat.two_pow_pos (q * n)
  omega
theorem pow_half (z : Int) (n : Nat) : z ^ n = z ^ (n / 2) * z ^ (n / 2) * z ^ (n % 2) := by
  rw [← Int.pow_add, ← Int.pow_add]
  congr 1
  omega
theorem power_ok : ∀ (n : Nat) {z : Int} {q : Nat}, Zs q z → q * n + 2 ≤ 8796093022208 → q ≤ 8796093022208 → n < 9223372036854775808 → C0 210 [.d (dz z), .d (.int .i64 n)] (· = .d (dz (z ^ n))) := by
  intro n
  induction n using Nat.strongRecOn with
  | _ n ih =>
    intro z q hz hq hq0 hn
    have hq2 : q * (n / 2) + q * (n / 2) ≤ q * n := by rw [← Nat.mul_add]; exact Nat.mul_le_mul_left q (by omega)
    have hqh : q * (n / 2) + 2 ≤ 8796093022208 := by omega
    have hzh := zpow hz (n / 2)
    have hl1 := hzh.len (by omega)
    have hl2 := hz.len (by omega)
    refine En Tryz.func210 fun _ _ => ?_
    refine By rfl (fun h => ?_) fun h => ?_
    · refine Ce rfl (FromInt_ok (z := 1) (by decide)) ?_
      exact R1 rfl (.eq (by rw [show n = 0 by omega, Int.pow_zero]))
    refine Ar (n / 2 : Nat) rfl ?_ (show _ ∧ _ from ⟨by decide, by rw [show Int.tdiv (n : Int) 2 = ((n / 2 : Nat) : Int) from rfl]; exact wI (by omega)⟩)
    refine Ce rfl (ih (n / 2) (by omega) hz hqh hq0 (by omega)) ?_
    refine Ce rfl (Mul_ok (by omega) (by omega)) ?_
    refine Ar (n % 2 : Nat) rfl ?_ (show _ ∧ _ from ⟨by decide, trem n 2⟩)
    refine By rfl (fun h1 => ?_) fun h1 => ?_
    · refine Ce rfl (Mul_ok (Nat.le_trans (Zs.len (hzh.mul hzh) (by omega)) (by omega)) (by omega)) ?_
      exact R1 rfl (.eq (by rw [show z ^ n = z ^ (n / 2) * z ^ (n / 2) * z by rw [pow_half z n, show n % 2 = 1 from by omega, Int.pow_succ, Int.pow_zero, Int.one_mul]]; rfl))
    · exact R1 rfl (.eq (by rw [show z ^ n = z ^ (n / 2) * z ^ (n / 2) by rw [pow_half z n, show n % 2 = 0 from by omega, Int.pow_zero, Int.mul_one]]; rfl))
theorem Pow_ok {n : Nat} {z : Int} {q : Nat} (hz : Zs q z) (hn : n ≤ 4096) (hq : q ≤ 1073741824) : C0 141 [.d (dz z), .d (.int .i64 n)] (· = .tup (.pr (.d (dz (z ^ n))) (.d (.int .i64 0)))) := by
  have hqn : q * n ≤ 1073741824 * 4096 := Nat.mul_le_mul hq hn
  refine En Tryz.func141 fun _ _ => ?_
  refine No rfl (by omega) ?_
  refine No rfl (by omega) ?_
  refine Ce rfl (power_ok n hz (by omega) (by omega) (by omega)) ?_
  exact R0t
theorem Bits_ok {z : Int} (hl : (dig z.natAbs).length ≤ 549755813888) : C0 301 [.d (dz z)] fun v => ∃ B : Nat, v = .d (.int .i64 B) ∧ z.natAbs < 2 ^ B ∧ B ≤ 32 * (dig z.natAbs).length := by
  refine En Tryz.func301 fun _ _ => ?_
  refine Ce rfl (trim_dig_ok (by omega)) ?_
  by_cases h0 : z.natAbs = 0
  · refine Ce (r := .d (.int .i64 0)) rfl (by
      rw [h0, dig_zero]
      refine En Tryz.func263 fun _ _ => ?_
      refine Yes rfl rfl ?_
      exact R0) ?_
    exact Rt rfl (.one (.rf rfl) rfl rfl) ⟨0, rfl, by rw [h0]; decide, Nat.zero_le _⟩
  · refine Ca rfl (length_ok (by omega) h0) fun v hv => ?_
    obtain ⟨t, ht, _, htw, rfl⟩ := hv
    have h1 := (List.getElem?_eq_some_iff.1 ht).1
    have h2 := bl_le32 htw
    exact Rt rfl (.one (.rf rfl) rfl rfl) ⟨_, rfl, top_bits rfl (by omega) ht, by omega⟩
theorem bit_clear {l : List Nat} {i w : Nat} (hl : Words l) (hw : l[i / 32]? = some w) (h : val l % 2 ^ (i + 1) = 0) : w % 2 ^ (i % 32 + 1) = 0 := by
  have h0 := val_digit hw
  have hj : i / 32 < l.length := (List.getElem?_eq_some_iff.1 hw).1
  have hlow := val_lt (hl.take (i / 32))
  rw [List.length_take, show min (i / 32) l.length = i / 32 from by omega] at hlow
  have hp : 4294967296 ^ (i / 32) * 2 ^ (i % 32 + 1) = 2 ^ (i + 1) := by
    rw [show (4294967296 : Nat) = 2 ^ 32 from rfl, ← Nat.pow_mul, ← Nat.pow_add]; congr 1; omega
  obtain ⟨c, hc⟩ := Nat.dvd_of_mod_eq_zero h
  rw [← hp, Nat.mul_assoc] at hc
  generalize 4294967296 ^ (i / 32) = B at *
  generalize val (l.drop (i / 32 + 1)) = R at *
  have e1 : w + 4294967296 * R = 2 ^ (i % 32 + 1) * c := by
    have hB : 0 < B := by omega
    have h1 : (val (l.take (i / 32)) + B * (w + 4294967296 * R)) / B = w + 4294967296 * R := by
      rw [Nat.add_mul_div_left _ _ hB, Nat.div_eq_of_lt hlow, Nat.zero_add]
    have h2 : B * (2 ^ (i % 32 + 1) * c) / B = 2 ^ (i % 32 + 1) * c := Nat.mul_div_cancel_left _ hB
    rw [← h1, ← h0, hc, h2]
  have e2 : (4294967296 : Nat) = 2 ^ (i % 32 + 1) * 2 ^ (31 - i % 32) := by
    rw [← Nat.pow_add, show i % 32 + 1 + (31 - i % 32) = 32 from by omega]
  rw [e2, Nat.mul_assoc] at e1
  have e3 : (w + 2 ^ (i % 32 + 1) * (2 ^ (31 - i % 32) * R)) % 2 ^ (i % 32 + 1) = 0 := by rw [e1, Nat.mul_mod_right]
  rwa [Nat.add_mul_mod_self_left] at e3
theorem or_bit {w s : Nat} (h : w % 2 ^ (s + 1) = 0) : w ||| 2 ^ s = w + 2 ^ s := by
  obtain ⟨c, rfl⟩ := Nat.dvd_of_mod_eq_zero h
  rw [Nat.mul_comm]
  exact or_add (2 ^ s) c (s + 1) (Nat.pow_lt_pow_right (by decide) (Nat.lt_succ_self s))
theorem and_bit {w s : Nat} (h : w % 2 ^ (s + 1) = 0) : (w + 2 ^ s) &&& 2 ^ s = 2 ^ s := by
  obtain ⟨c, rfl⟩ := Nat.dvd_of_mod_eq_zero h
  have e : (2 ^ (s + 1) * c + 2 ^ s) / 2 ^ s = 2 * c + 1 := by
    rw [Nat.pow_succ, show 2 ^ s * 2 * c + 2 ^ s = 2 ^ s * (2 * c + 1) from by rw [Nat.mul_add, Nat.mul_assoc, Nat.mul_one]]
    exact Nat.mul_div_cancel_left _ (Nat.two_pow_pos s)
  have ht : (2 ^ (s + 1) * c + 2 ^ s).testBit s = true := by
    rw [Nat.testBit_eq_decide_div_mod_eq, e]
    simp
  apply Nat.eq_of_testBit_eq
  intro i
  rw [Nat.testBit_and]
  by_cases hi : s = i
  · subst hi; rw [ht, Bool.true_and]
  · rw [Nat.testBit_two_pow_of_ne hi, Bool.and_false]
theorem add_bit_lt {w s : Nat} (hw : w < 4294967296) (hs : s < 32) (h : w % 2 ^ (s + 1) = 0) : w + 2 ^ s < 4294967296 := by
  rw [← or_bit h]
  exact Nat.or_lt_two_pow (n := 32) hw (Nat.lt_of_lt_of_le (Nat.pow_lt_pow_right (by decide) hs) (by decide))
theorem set_bit {l : List Nat} {i w x : Nat} (hw : l[i / 32]? = some w) (hx : x = w + 2 ^ (i % 32)) : val (l.set (i / 32) x) = val l + 2 ^ i := by
  have hj : i / 32 < l.length := (List.getElem?_eq_some_iff.1 hw).1
  have h0 := val_digit hw
  have h1 := val_digit (l := l.set (i / 32) x) (j := i / 32) (x := x) (by rw [List.getElem?_set_self hj])
  rw [h1, h0, List.take_set_of_le (Nat.le_refl _), List.drop_set_of_lt (by omega), hx, ← pow_words i]
  grind
theorem clear32 {w s : Nat} (hw : w + 2 ^ s < 4294967296) (h : w % 2 ^ (s + 1) = 0) : arB .andNot .u32 (w + 2 ^ s : Nat) (2 ^ s : Nat) w := by
  have hp := Nat.two_pow_pos s
  have e := and_bit h
  show IntKind.u32.wrap _ = _
  have h1 : (BitVec.ofInt 32 ((w + 2 ^ s : Nat) : Int) &&& ~~~BitVec.ofInt 32 ((2 ^ s : Nat) : Int)).toNat = w := by
    have hx : (BitVec.ofInt 32 ((w + 2 ^ s : Nat) : Int)).toNat = w + 2 ^ s := by rw [BitVec.toNat_ofInt]; omega
    have hy : (BitVec.ofInt 32 ((2 ^ s : Nat) : Int)).toNat = 2 ^ s := by rw [BitVec.toNat_ofInt]; omega
    apply Nat.eq_of_testBit_eq
    intro i
    rw [BitVec.toNat_and, BitVec.toNat_not, hx, hy, Nat.testBit_and]
    have e1 := congrArg (·.testBit i) e
    simp only [Nat.testBit_and] at e1
    have e2 := or_bit h
    rw [← e2, Nat.testBit_or]
    have e3 : (2 ^ 32 - 1 - 2 ^ s).testBit i = (decide (i < 32) && !(2 ^ s).testBit i) := by
      have := Nat.testBit_two_pow_sub_succ (x := 2 ^ s) (n := 32) (by omega) i
      rwa [show 2 ^ 32 - (2 ^ s + 1) = 2 ^ 32 - 1 - 2 ^ s by omega] at this
    rw [e3]
    by_cases hi : i < 32
    · rw [decide_eq_true hi, Bool.true_and]
      by_cases his : s = i
      · subst his
        rw [← e2, Nat.testBit_or] at e1
        have hws : w.testBit s = false := by
          obtain ⟨c, rfl⟩ := Nat.dvd_of_mod_eq_zero h
          rw [Nat.testBit_eq_decide_div_mod_eq, Nat.pow_succ, Nat.mul_assoc, Nat.mul_div_cancel_left _ hp]
          simp
        rw [hws, Nat.testBit_two_pow_self]; rfl
      · rw [Nat.testBit_two_pow_of_ne his]; simp
    · rw [decide_eq_false hi]
      have : w.testBit i = false := Nat.testBit_lt_two_pow (Nat.lt_of_lt_of_le (by omega : w < 2 ^ 32) (Nat.pow_le_pow_right (by decide) (by omega)))
      rw [this]; simp
  rw [show IntKind.bits .u32 = 32 from rfl, h1]
  exact wW (by omega)
theorem Sqrt_ok {a : Nat} (hl : (dig a).length ≤ 274877906944) : C0 269 [.d (dz (a : Int))] (· = .tup (.pr (.d (dz (rt a : Int))) (.d (.int .i64 0)))) := by
  have ha : dz (a : Int) = .st (.pr (.bool (decide ((a : Int) < 0))) (ws (dig a))) := rfl
  have hbits := fun (B n : Nat) (hB : a < 2 ^ B) (hn : B ≤ 2 * n) => Nat.lt_of_lt_of_le hB (Nat.pow_le_pow_right (by decide) hn : 2 ^ B ≤ 2 ^ (2 * n))
  refine En Tryz.func269 fun _ _ => ?_
  refine Ce rfl (Norm_ok (by simp only [Int.natAbs_natCast]; omega)) ?_
  refine No rfl (by omega) ?_
  refine Ca rfl (Bits_ok (z := (a : Int)) (by simp only [Int.natAbs_natCast]; omega)) fun v hv => ?_
  obtain ⟨B, rfl, hB1, hB2⟩ := hv
  simp only [Int.natAbs_natCast] at hB1 hB2
  obtain ⟨n, hn⟩ : ∃ n, n = (B + 1) / 2 := ⟨_, rfl⟩
  refine Ar (B + 1 : Nat) rfl ?_
  refine Ar n rfl ?_ (show _ ∧ _ from ⟨by decide, by rw [show Int.tdiv ((B + 1 : Nat) : Int) 2 = (((B + 1) / 2 : Nat) : Int) from rfl, ← hn]; exact wI (by omega)⟩)
  refine Ar (n / 32 : Nat) rfl ?_ (show _ ∧ _ from ⟨by decide, by rw [show Int.tdiv (n : Int) 32 = ((n / 32 : Nat) : Int) from rfl]; exact wI (by omega)⟩)
  refine Ar (n / 32 + 1 : Nat) rfl ?_
  refine Mk (n / 32 + 1) rfl (by omega) ?_
  refine Ar (n - 1 : Int) rfl ?_
  refine Lo (fun (k, lo) => [(1, .ptr 1 0), (2, .ptr 2 0), (5, .own 19 1 0 (n / 32 + 1)), (6, .d (.int .i64 ((k : Nat) - 1 : Int)))]) (fun (_, lo) => [(1, .var (.d (dz (a : Int)))), (2, .var (.st (.pr (.b false) .nil))), (19, .arr 1 (lo.map wd))])
    (fun (k, lo) => k ≤ n ∧ lo.length = n / 32 + 1 ∧ Words lo ∧ val lo % 2 ^ k = 0 ∧ val lo * val lo ≤ a ∧ a < (val lo + 2 ^ k) * (val lo + 2 ^ k)) (fun (k, _) => k) (n, List.replicate (n / 32 + 1) 0) [] rfl
    ⟨by omega, by simp, wzero _, by rw [val_zeros]; simp, by rw [val_zeros]; omega, by rw [val_zeros, Nat.zero_add, ← Nat.pow_add, ← Nat.two_mul]; exact hbits B n hB1 (by omega)⟩ ?_ (by exact ⟨rfl, by simp only [List.map_replicate]; rfl, rfl, rfl, rfl⟩)
  rintro ⟨k, lo⟩ ⟨hk, hlo, hwl, hmod, hsq1, hsq2⟩
  refine By rfl (fun h => ?_) fun h => ?_
  · obtain ⟨i, rfl⟩ : ∃ i, k = i + 1 := ⟨k - 1, by omega⟩
    obtain ⟨w, hw⟩ := xat (l := lo) (k := i / 32) (by omega)
    have hww := ww hw hwl
    have hwc := bit_clear hwl hw hmod
    have hwb := add_bit_lt hww (by omega) hwc
    have hv1 := set_bit hw rfl
    have hw1 := wset (k := i / 32) hwl hwb
    obtain ⟨lo1, hlo1⟩ : ∃ lo1, lo1 = lo.set (i / 32) (w + 2 ^ (i % 32)) := ⟨_, rfl⟩
    rw [← hlo1] at hv1 hw1
    have hl1 : lo1.length = n / 32 + 1 := by rw [hlo1, List.length_set, hlo]
    have hlen1 : (dig (val lo1)).length ≤ 549755813888 := by
      have h1 := dig_len_le (val_lt hw1)
      omega
    have hq32 : arB .quo .i64 (((i + 1 : Nat) : Int) - 1) 32 (i / 32 : Nat) := show _ ∧ _ from ⟨by decide, by rw [show (((i + 1 : Nat) : Int) - 1) = (i : Int) by omega, show Int.tdiv (i : Int) 32 = ((i / 32 : Nat) : Int) from rfl]; exact wI (by omega)⟩
    have hr32 : arB .rem .i64 (((i + 1 : Nat) : Int) - 1) 32 (i % 32 : Nat) := show _ ∧ _ from ⟨by decide, by rw [show (((i + 1 : Nat) : Int) - 1) = (i : Int) by omega]; exact trem i 32⟩
    refine Dw rfl ?_
    refine Ar (i / 32 : Nat) rfl ?_ hq32
    refine Ar (i / 32 : Nat) rfl ?_ hq32
    refine Eo (i / 32) rfl (by omega) ?_
    refine Ld (wd w) rfl (mp hw) ?_
    refine Ar (i % 32 : Nat) rfl ?_ hr32
    refine Ar (2 ^ (i % 32) : Nat) rfl ?_ (shl32one (by omega))
    refine Ar (w + 2 ^ (i % 32) : Nat) rfl ?_ (or32 hww pow32lt (or_bit hwc) hwb)
    refine Eo (i / 32) rfl (by omega) ?_
    refine Sto rfl (by simp only [lw]; omega) ms ?_
    refine Cu none (fun _ : Unit => [(1, .ptr 1 0), (2, .ptr 2 0), (5, .own 19 1 0 (n / 32 + 1)), (6, .d (.int .i64 (((i + 1 : Nat) : Int) - 1))), (47, .b (dc (a < val lo1 * val lo1)))]) (fun _ => [(1, .var (.d (dz (a : Int)))), (2, .var (.st (.pr (.b false) .nil))), (19, .arr 1 (lo1.map wd))]) (fun _ => True) rfl ?_ fun _ _ => ?_
    · refine Dw rfl ?_
      refine Cn [(1000001, 19)] rfl (trim_own (l := lo1) (q := 0) (n := n / 32 + 1) hw1 (by omega) (by omega)) (fun v hv => ?_) rfl (by rw [hlo1]; rfl)
      obtain ⟨k1, hk1, rfl, hkl⟩ := hv
      refine Cn [(1000001, 19)] rfl (trim_own (l := lo1) (q := 0) (n := n / 32 + 1) hw1 (by omega) (by omega)) (fun v hv => ?_) rfl (by rw [hlo1]; rfl)
      obtain ⟨k2, hk2, rfl, hkl2⟩ := hv
      rw [show (lo1.drop 0).take (n / 32 + 1) = lo1 from List.take_of_length_le (by simp [hl1])] at hkl hkl2
      obtain rfl : k2 = k1 := by
        have e1 := congrArg List.length hkl
        have e2 := congrArg List.length hkl2
        rw [dlen (by omega)] at e1 e2
        omega
      refine Cn [(1000001, 19)] rfl (times_own (l := lo1) (q := 0) (n := k2) (by omega) hkl hlen1) (fun v hv => ?_) rfl (by rw [hlo1]; rfl)
      obtain rfl : v = _ := hv
      refine Ce rfl (compare_ok (y := a) (Nat.le_trans (len_mul ..) (by omega))) ?_
      refine Jn () [] rfl trivial (by exact ⟨by
        rw [show (cmpI ((val lo1 * val lo1 : Nat) : Int) (a : Int) > 0) = (a < val lo1 * val lo1) from propext (by
          rcases cmpI_tri ((val lo1 * val lo1 : Nat) : Int) (a : Int) with ⟨g1, g2⟩ | ⟨g1, g2⟩ | ⟨g1, g2⟩ <;> rw [g2] <;> omega)]
        rfl, by rw [hlo1]; rfl, rfl, rfl, rfl⟩)
    refine By rfl (fun h1 => ?_) fun h1 => ?_
    · have hw2 : lo1[i / 32]? = some (w + 2 ^ (i % 32)) := by rw [hlo1, List.getElem?_set_self (by omega)]
      have hback : lo1.set (i / 32) w = lo := by
        rw [hlo1, List.set_set]
        apply List.ext_getElem?
        intro q
        by_cases hq : i / 32 = q
        · subst hq; rw [List.getElem?_set_self (by omega), hw]
        · rw [List.getElem?_set_ne hq]
      have hm2 : val lo % 2 ^ i = 0 := by
        obtain ⟨c, hc⟩ := Nat.dvd_of_mod_eq_zero hmod
        rw [hc, Nat.pow_succ, Nat.mul_assoc]; exact Nat.mul_mod_right _ _
      refine Dw rfl ?_
      refine Ar (i / 32 : Nat) rfl ?_ hq32
      refine Ar (i / 32 : Nat) rfl ?_ hq32
      refine Eo (i / 32) rfl (by omega) ?_
      refine Ld (wd (w + 2 ^ (i % 32))) rfl (mp hw2) ?_
      refine Ar (i % 32 : Nat) rfl ?_ hr32
      refine Ar (2 ^ (i % 32) : Nat) rfl ?_ (shl32one (by omega))
      refine Ar w rfl ?_ (clear32 hwb hwc)
      refine Eo (i / 32) rfl (by omega) ?_
      refine Sto rfl (by simp only [lw]; omega) ms ?_
      refine Ar (i - 1 : Int) rfl ?_
      exact Bk (i, lo) [] rfl ⟨by omega, hlo, hwl, hm2, hsq1, by rw [← hv1]; exact h1⟩ (by show i < i + 1; omega) (by exact ⟨rfl, by rw [hback]; rfl, rfl, rfl, rfl⟩)
    · have hm2 : val lo1 % 2 ^ i = 0 := by
        rw [hv1]
        obtain ⟨c, hc⟩ := Nat.dvd_of_mod_eq_zero hmod
        rw [hc, Nat.pow_succ, Nat.mul_assoc, Nat.add_mod_right]; exact Nat.mul_mod_right _ _
      refine Ar (i - 1 : Int) rfl ?_
      exact Bk (i, lo1) [] rfl ⟨by omega, hl1, hw1, hm2, Nat.le_of_not_lt h1, by rw [hv1, Nat.add_assoc, ← Nat.two_mul, Nat.mul_comm 2, ← Nat.pow_succ]; exact hsq2⟩ (by show i < i + 1; omega)
  · have hk0 : k = 0 := by omega
    subst hk0
    have hrt : rt a = val lo := rt_eq hsq1 (by simpa using hsq2)
    refine Fz 12 5 (lo.map wd) rfl (by simp only [lw]; omega) (oa hlo) ?_
    refine Ce (r := .d (dz (sg false (val lo)))) rfl (by
      have := signed_w (b := false) hwl (by omega)
      exact this) ?_
    exact RTt rfl (.cons (.eq (by rw [sg_false, hrt])) (.one (.rf rfl) (fun _ _ e => by cases e) (fun _ _ e => by cases e)))
end
end Go.Proofs.YtfmgfaeheljpcaaGreat.R1

/- part 4 -/
import Derived.Test.YtpgcfjpkilabfaaGreatDoorXC
set_option linter.unusedVariables false
set_option linter.unusedSimpArgs false
set_option maxRecDepth 10000
namespace Go.Proofs.YtpgcfjpkilabfaaGreatDoor.R1
open Go Go.Vm Go.Num Go.Proofs.YtpgcfjpkilabfaaGreatDoor
section
theorem trim_ok {l : List Nat} (hw : Words l) (hl : l.length ≤ 1099511627776) : C0 191 [.d (ws l)] (· = .d (ws (dig (val l)))) := by
 refine En Tryz.func191 fun _ _ _ => ?_
 refine Lo (fun k => [(0, .d (ws (l.take k)))]) (fun _ => []) (fun k => k ≤ l.length ∧ val (l.take k) = val l) id l.length [] rfl ⟨Nat.le_refl _, by rw [List.take_length]⟩ (fun k ⟨hk, hv⟩ => ?_) (hf := ⟨by simp only [List.take_length]; rfl, rfl, rfl, rfl, rfl⟩)
 refine By rfl (fun h => ?_) fun h => ?_ <;> simp only [List.length_map, List.length_take, Nat.min_eq_left hk] at h
 · have hl : ((l.take k).map wd).length = k := by simp; omega
   refine Ar (k - 1 : Nat) rfl ?_
   have hx := List.getElem?_eq_getElem (l := l) (i := k - 1) (by omega)
   refine Ix (k - 1) rfl (u := wd l[k - 1]) (mp (by rw [List.getElem?_take, if_pos (by omega), hx])) ?_
   have hs := val_take_succ hx
   rw [show k - 1 + 1 = k by omega, hv] at hs
   refine By rfl (fun h0 => ?_) fun h0 => ?_
   · refine Ar (k - 1 : Nat) rfl ?_
     refine Tk (k - 1) ((l.take (k - 1)).map wd) rfl rfl (by simp; omega) (by rw [← List.map_take, List.take_take, Nat.min_eq_left (by omega)]) ?_
     exact Bk (k - 1) [] rfl ⟨by omega, by rw [hs, show l[k - 1] = 0 by omega, Nat.mul_zero, Nat.add_zero]⟩ (show k - 1 < k by omega)
   · exact R1 rfl (.eq (by rw [← hv, dig_val (hw.take k) (.inr ⟨l[k - 1], by rw [List.length_take, Nat.min_eq_left hk, List.getElem?_take, if_pos (by omega), hx], fun e => h0 (by rw [e]; rfl)⟩)]))
 · refine R1 rfl (.eq ?_)
   rw [show k = 0 by omega] at hv ⊢
   rw [← hv, List.take_zero, val, dig_zero]
theorem trim_dig_ok {n : Nat} (h : (dig n).length ≤ 1099511627776) : C0 191 [.d (ws (dig n))] (· = .d (ws (dig n))) := by
 have := trim_ok (words_dig n) h
 rwa [val_dig] at this
theorem words_ok {n : Nat} (h : n < 18446744073709551616) : C0 111 [.d (.int .u64 n)] (· = .d (ws (dig n))) := by
 refine En Tryz.func111 fun _ _ _ => ?_
 refine Cv (n % 4294967296 : Nat) rfl ?_ (hr := by rw [wWm]; omega)
 refine Ar (n / 4294967296 : Nat) rfl ?_ (hr := show _ ∧ _ from ⟨by omega, shr32 n⟩)
 refine Cv (n / 4294967296 : Nat) rfl ?_
 refine Ce rfl (trim_ok (l := [n % 4294967296, n / 4294967296]) (.cons (by omega) (.cons (by omega) .nil)) (by simp)) ?_
 exact R1 rfl (.eq (by rw [show val [n % 4294967296, n / 4294967296] = n by simp only [val]; omega]))
theorem signed_w {b : Bool} {l : List Nat} (hw : Words l) (h : l.length ≤ 1099511627776) : C0 110 [.d (.bool b), .d (ws l)] (· = .d (dz (sg b (val l)))) := by
 rw [← dz_sg]
 refine C.nb (show C0 _ [.b b, .d (ws l)] _ from ?_)
 obtain ⟨n, hn⟩ : ∃ n, n = val l := ⟨_, rfl⟩
 refine En Tryz.func110 fun _ _ _ => ?_
 refine Ce rfl (trim_ok hw h) ?_
 rw [← hn]
 cases b with
 | true =>
  refine Yes rfl rfl ?_
  exact R1 rfl (by exact .sd (.pd (.bd (by
   rw [Bool.eq_iff_iff, dc_iff, Bool.and_eq_true, bne_iff_ne, lw]
   have := @dig_eq_nil n
   rw [← List.length_eq_zero_iff] at this
   simp; omega)) (.rf rfl)))
 | false =>
  refine No rfl (by nofun) ?_
  exact R1 rfl (by exact .sd (.pd (.bd rfl) (.rf rfl)))
theorem signed_sg {b : Bool} {n : Nat} (h : (dig n).length ≤ 1099511627776) : C0 110 [.d (.bool b), .d (ws (dig n))] (· = .d (dz (sg b n))) := by
 have := signed_w (b := b) (words_dig n) h
 rwa [val_dig] at this
theorem FromInt_ok {z : Int} (h : -9223372036854775808 ≤ z ∧ z < 9223372036854775808) : C0 50 [.d (.int .i64 z)] (· = .d (dz z)) := by
 have hl : (dig z.natAbs).length ≤ 2 := dig_len_le (by omega)
 refine En Tryz.func50 fun _ _ _ => ?_
 refine By rfl (fun h => ?_) fun h => ?_
 · refine Cv (z % 18446744073709551616) rfl ?_ (hr := wUm _)
   refine Ne (z.natAbs : Int) rfl ?_ (hr := by rw [wUm]; omega)
   refine Ce rfl (words_ok (n := z.natAbs) (by omega)) ?_
   refine Ce rfl (signed_sg (n := z.natAbs) (by omega)) ?_
   exact R1 rfl (.eq (by rw [show sg true z.natAbs = z by unfold sg; rw [if_pos rfl]; omega]))
 · refine Cv (z.natAbs : Int) rfl ?_ (hr := by rw [wUm]; omega)
   refine Ce rfl (words_ok (n := z.natAbs) (by omega)) ?_
   refine Ce rfl (signed_sg (n := z.natAbs) (by omega)) ?_
   exact R1 rfl (.eq (by rw [show sg false z.natAbs = z by unfold sg; rw [if_neg nofun]; omega]))
theorem Norm_ok {z : Int} (h : (dig z.natAbs).length ≤ 1099511627776) : C0 165 [.d (dz z)] (· = .d (dz z)) := by
 refine En Tryz.func165 fun _ _ _ => ?_
 refine Ce rfl (signed_sg (n := z.natAbs) h) ?_
 exact R1 rfl (.eq (by rw [sg_abs]))
theorem Sign_ok {z : Int} (h : (dig z.natAbs).length ≤ 1099511627776) : C0 162 [.d (dz z)] (· = .d (.int .i64 (cmpI z 0))) := by
 refine En Tryz.func162 fun _ _ _ => ?_
 refine Ce rfl (Norm_ok h) ?_
 refine By rfl (fun h => ?_) fun h => ?_ <;> simp only [lw] at h
 · have := dig_eq_nil.1 (List.eq_nil_of_length_eq_zero (by omega : (dig z.natAbs).length = 0))
   exact R1 rfl (.eq (by rw [show z = 0 by omega]; rfl))
 · have hz : z ≠ 0 := fun e => h (by rw [e]; simp [dig_zero])
   refine By rfl (fun h1 => ?_) fun h1 => ?_
   · exact R1 rfl (.eq (by rw [cmpI, if_pos h1]))
   · exact R1 rfl (.eq (by rw [cmpI, if_neg h1, if_pos (by omega)]))
theorem compare_ok {x y : Nat} (hx : (dig x).length ≤ 1099511627776) : C0 248 [.d (ws (dig x)), .d (ws (dig y))] (· = .d (.int .i64 (cmpI x y))) := by
 refine En Tryz.func248 fun _ _ _ => ?_
 refine By rfl (fun h => ?_) fun h => ?_ <;> simp only [lw] at h
 · refine By rfl (fun h1 => ?_) fun h1 => ?_ <;> simp only [lw] at h1
   · have := lt_of_len (m := x) (n := y) (by omega)
     exact R1 rfl (.eq (by rw [cmpI, if_pos (by omega)]))
   · have := lt_of_len (m := y) (n := x) (by omega)
     exact R1 rfl (.eq (by rw [cmpI, if_neg (by omega), if_pos (by omega)]))
 · refine Ar ((dig x).length - 1 : Int) rfl ?_ (wr (by simp only [lw]) (by simp only [inK]; omega))
   refine Lo (fun (k : Nat) => [(0, .d (ws (dig x))), (1, .d (ws (dig y))), (5, .d (.int .i64 ((k : Int) - 1)))]) (fun _ => []) (fun k => k ≤ (dig x).length ∧ (dig x).drop k = (dig y).drop k) (fun k => k) (dig x).length [] rfl ⟨by omega, by rw [List.drop_eq_nil_of_le (by omega), List.drop_eq_nil_of_le (by omega)]⟩ fun k ⟨hk, hd⟩ => ?_
   refine By rfl (fun h1 => ?_) fun h1 => ?_
   · obtain ⟨u, hu⟩ := xat (l := dig x) (k := k - 1) (by omega)
     obtain ⟨v, hv⟩ := xat (l := dig y) (k := k - 1) (by omega)
     have hd' : (dig x).drop (k - 1 + 1) = (dig y).drop (k - 1 + 1) := by rw [show k - 1 + 1 = k from by omega]; exact hd
     refine Dw rfl ?_
     refine Ix (k - 1) rfl (mp hu) ?_
     refine Ix (k - 1) rfl (mp hv) ?_
     refine By rfl (fun h2 => ?_) fun h2 => ?_
     · have := lt_top (words_dig x) (by omega) (by omega) hu hv hd' (by omega)
       rw [val_dig, val_dig] at this
       exact R1 rfl (.eq (by rw [cmpI, if_pos (by omega)]))
     · refine Dw rfl ?_
       refine Ix (k - 1) rfl (mp hu) ?_
       refine Ix (k - 1) rfl (mp hv) ?_
       refine By rfl (fun h3 => ?_) fun h3 => ?_
       · have := lt_top (words_dig y) (by omega) (by omega) hv hu hd'.symm (by omega)
         rw [val_dig, val_dig] at this
         exact R1 rfl (.eq (by rw [cmpI, if_neg (by omega), if_pos (by omega)]))
       · refine Ar ((k - 1 : Nat) - 1 : Int) rfl ?_
         refine Bk (k - 1) [] rfl ⟨by omega, ?_⟩ (by show k - 1 < k; omega)
         have huv : u = v := by omega
         rw [List.drop_eq_getElem_cons (l := dig x) (i := k - 1) (by omega), List.drop_eq_getElem_cons (l := dig y) (i := k - 1) (by omega), show k - 1 + 1 = k from by omega, hd]
         rw [List.getElem?_eq_getElem (by omega)] at hu hv
         injection hu with hu
         injection hv with hv
         rw [hu, hv, huv]
   · have hk0 : k = 0 := by omega
     rw [hk0, List.drop_zero, List.drop_zero] at hd
     have hxy : x = y := by rw [← val_dig x, hd, val_dig]
     exact R1 rfl (.eq (by rw [hxy, cmpI, if_neg (by omega), if_neg (by omega)]))
end
section
theorem dtk {l : List Nat} {q m k : Nat} (h : k < m) : ((l.drop q).take m)[k]? = l[q + k]? := by rw [List.getElem?_take, if_pos h, List.getElem?_drop]
theorem dlen {l : List Nat} {q m : Nat} (h : q + m ≤ l.length) : ((l.drop q).take m).length = m := by rw [List.length_take, List.length_drop]; omega
theorem trim_own {q n : Nat} {l : List Nat} (hw : Words l) (hq : q + n ≤ l.length) (hl : n ≤ 1099511627776) : CN0 191 [.own 1000001 1 q n] [(1000001, .arr 1 (l.map wd))] fun v => ∃ k, k ≤ n ∧ v = .own 1000001 1 q k ∧ (l.drop q).take k = dig (val ((l.drop q).take n)) := by
 refine EnW Tryz.func191 fun _ _ _ _ => ?_
 refine Lo (fun k => [(0, .own 1000001 1 q k)]) (fun _ => [(1000001, .arr 1 (l.map wd))]) (fun k => k ≤ n ∧ val ((l.drop q).take k) = val ((l.drop q).take n)) id n [] rfl ⟨Nat.le_refl _, rfl⟩ fun k ⟨hk, hv⟩ => ?_
 have hwk := (hw.drop q).take k
 refine By rfl (fun h => ?_) fun h => ?_
 · obtain ⟨u, hu⟩ := xat (l := l) (k := q + (k - 1)) (by omega)
   have hs := val_take_succ (l := l.drop q) (k := k - 1) (x := u) (by rw [List.getElem?_drop]; exact hu)
   rw [show k - 1 + 1 = k by omega, hv] at hs
   refine Ar (k - 1 : Nat) rfl ?_
   refine El (k - 1) rfl (by omega) ?_
   refine Ld (wd u) rfl (mp hu) ?_
   refine By rfl (fun h0 => ?_) fun h0 => ?_
   · refine Ar (k - 1 : Nat) rfl ?_
     refine Sw 0 (k - 1) rfl (by omega) (by omega) ?_
     exact Bk (k - 1) [] rfl ⟨by omega, by rw [hs, show u = 0 by omega, Nat.mul_zero, Nat.add_zero]⟩ (show k - 1 < k by omega)
   · exact Rw [] [(1000001, .arr 1 (l.map wd))] rfl (.one (.rf rfl) rfl rfl) ⟨rfl, k, hk, rfl, by rw [← hv, dig_val hwk (.inr ⟨u, by rw [dlen (by omega), dtk (by omega)]; exact hu, fun e => h0 (by rw [e]; rfl)⟩)]⟩
 · refine Rw [] [(1000001, .arr 1 (l.map wd))] rfl (.one (.rf rfl) rfl rfl) ⟨rfl, k, hk, rfl, ?_⟩
   rw [show k = 0 by omega] at hv ⊢
   rw [← hv, List.take_zero, val, dig_zero]
theorem compare_own {x y q m : Nat} {l : List Nat} (hq : q + m ≤ l.length) (hl : (l.drop q).take m = dig x) (hx : (dig x).length ≤ 1099511627776) : CN0 248 [.own 1000001 1 q m, .d (ws (dig y))] [(1000001, .arr 1 (l.map wd))] (· = .d (.int .i64 (cmpI x y))) := by
 have hm : (dig x).length = m := by rw [← hl, dlen hq]
 rw [hm] at hx
 have hg : ∀ {k u : Nat}, (dig x)[k]? = some u → k < m → l[q + k]? = some u := fun h hk => by rw [← hl, dtk hk] at h; exact h
 refine EnW Tryz.func248 fun _ _ _ _ => ?_
 refine By rfl (fun h => ?_) fun h => ?_ <;> simp only [lw] at h
 · refine By rfl (fun h1 => ?_) fun h1 => ?_ <;> simp only [lw] at h1
   · have := lt_of_len (m := x) (n := y) (by omega)
     exact Rw [] [(1000001, .arr 1 (l.map wd))] rfl (.one (.rf rfl) rfl rfl) ⟨rfl, congrArg AV.d (congrArg (D.int .i64) (by rw [cmpI, if_pos (by omega)]))⟩
   · have := lt_of_len (m := y) (n := x) (by omega)
     exact Rw [] [(1000001, .arr 1 (l.map wd))] rfl (.one (.rf rfl) rfl rfl) ⟨rfl, congrArg AV.d (congrArg (D.int .i64) (by rw [cmpI, if_neg (by omega), if_pos (by omega)]))⟩
 · refine Ar (m - 1 : Int) rfl ?_
   refine Lo (fun (k : Nat) => [(0, .own 1000001 1 q m), (1, .d (ws (dig y))), (5, .d (.int .i64 ((k : Int) - 1)))]) (fun _ => [(1000001, .arr 1 (l.map wd))]) (fun k => k ≤ m ∧ (dig x).drop k = (dig y).drop k) (fun k => k) m [] rfl ⟨by omega, by rw [List.drop_eq_nil_of_le (by omega), List.drop_eq_nil_of_le (by omega)]⟩ fun k ⟨hk, hd⟩ => ?_
   refine By rfl (fun h1 => ?_) fun h1 => ?_
   · obtain ⟨u, hu⟩ := xat (l := dig x) (k := k - 1) (by omega)
     obtain ⟨v, hv⟩ := xat (l := dig y) (k := k - 1) (by omega)
     have hd' : (dig x).drop (k - 1 + 1) = (dig y).drop (k - 1 + 1) := by rw [show k - 1 + 1 = k from by omega]; exact hd
     refine Dw rfl ?_
     refine El (k - 1) rfl (by omega) ?_
     refine Ld (wd u) rfl (mp (hg hu (by omega))) ?_
     refine Ix (k - 1) rfl (mp hv) ?_
     refine By rfl (fun h2 => ?_) fun h2 => ?_
     · have := lt_top (words_dig x) (by omega) (by omega) hu hv hd' (by omega)
       rw [val_dig, val_dig] at this
       exact Rw [] [(1000001, .arr 1 (l.map wd))] rfl (.one (.rf rfl) rfl rfl) ⟨rfl, congrArg AV.d (congrArg (D.int .i64) (by rw [cmpI, if_pos (by omega)]))⟩
     · refine Dw rfl ?_
       refine El (k - 1) rfl (by omega) ?_
       refine Ld (wd u) rfl (mp (hg hu (by omega))) ?_
       refine Ix (k - 1) rfl (mp hv) ?_
       refine By rfl (fun h3 => ?_) fun h3 => ?_
       · have := lt_top (words_dig y) (by omega) (by omega) hv hu hd'.symm (by omega)
         rw [val_dig, val_dig] at this
         exact Rw [] [(1000001, .arr 1 (l.map wd))] rfl (.one (.rf rfl) rfl rfl) ⟨rfl, congrArg AV.d (congrArg (D.int .i64) (by rw [cmpI, if_neg (by omega), if_pos (by omega)]))⟩
       · refine Ar ((k - 1 : Nat) - 1 : Int) rfl ?_
         refine Bk (k - 1) [] rfl ⟨by omega, ?_⟩ (by show k - 1 < k; omega)
         have huv : u = v := by omega
         rw [List.drop_eq_getElem_cons (l := dig x) (i := k - 1) (by omega), List.drop_eq_getElem_cons (l := dig y) (i := k - 1) (by omega), show k - 1 + 1 = k from by omega, hd]
         rw [List.getElem?_eq_getElem (by omega)] at hu hv
         injection hu with hu
         injection hv with hv
         rw [hu, hv, huv]
   · have hk0 : k = 0 := by omega
     rw [hk0, List.drop_zero, List.drop_zero] at hd
     have hxy : x = y := by rw [← val_dig x, hd, val_dig]
     exact Rw [] [(1000001, .arr 1 (l.map wd))] rfl (.one (.rf rfl) rfl rfl) ⟨rfl, congrArg AV.d (congrArg (D.int .i64) (by rw [hxy, cmpI, if_neg (by omega), if_neg (by omega)]))⟩
theorem minus_own {x y q m : Nat} {l : List Nat} (hq : q + m ≤ l.length) (hl : (l.drop q).take m = dig x) (hx : (dig x).length ≤ 1099511627776) (hle : y ≤ x) : CN0 249 [.own 1000001 1 q m, .d (ws (dig y))] [(1000001, .arr 1 (l.map wd))] (· = .d (ws (dig (x - y)))) := by
 have hm : (dig x).length = m := by rw [← hl, dlen hq]
 have hg : ∀ {k u : Nat}, (dig x)[k]? = some u → k < m → l[q + k]? = some u := fun h hk => by rw [← hl, dtk hk] at h; exact h
 rw [hm] at hx
 have hll := len_mono hle
 refine EnW Tryz.func249 fun _ _ _ _ => ?_
 refine Mk m rfl (by omega) ?_
 refine Lo (fun (k, lo, br) => [(0, .own 1000001 1 q m), (1, .d (ws (dig y))), (5, .own 12 1 0 m), (6, .d (.int .u64 (br : Nat))), (7, .d (.int .i64 (k : Nat)))]) (fun (_, lo, _) => [(12, .arr 1 (lo.map wd)), (1000001, .arr 1 (l.map wd))])
  (fun (k, lo, br) => k ≤ m ∧ lo.length = m ∧ Words lo ∧ br ≤ 1 ∧ val (lo.take k) + val ((dig y).take k) = val ((dig x).take k) + 4294967296 ^ k * br) (fun (k, _, _) => m - k) (0, List.replicate m 0, 0) [] rfl
  ⟨by omega, by simp, wzero _, by omega, by simp [val]⟩ ?_ (by exact ⟨rfl, by simp only [List.map_replicate]; rfl, rfl, rfl, rfl⟩)
 rintro ⟨k, lo, br⟩ ⟨hk, hl1, hw, hbr, hval⟩
 refine By rfl (fun h => ?_) fun h => ?_
 · obtain ⟨u, hu⟩ := xat (l := dig x) (k := k) (by omega)
   have hub := ww hu (words_dig x)
   refine Cu none (fun (v : Nat) => [(0, .own 1000001 1 q m), (1, .d (ws (dig y))), (5, .own 12 1 0 m), (6, .d (.int .u64 br)), (7, .d (.int .i64 k)), (8, .d (.int .u64 v))]) (fun _ => [(12, .arr 1 (lo.map wd)), (1000001, .arr 1 (l.map wd))])
    (fun v => v < 4294967296 ∧ val ((dig y).take (k + 1)) = val ((dig y).take k) + 4294967296 ^ k * v) rfl ?_ fun v ⟨hv, hyv⟩ => ?_
   · refine By rfl (fun h2 => ?_) fun h2 => ?_ <;> simp only [lw] at h2
     · obtain ⟨u2, hu2⟩ := xat (l := dig y) (k := k) (by omega)
       have hub2 := ww hu2 (words_dig y)
       refine Ix k rfl (mp hu2) ?_
       refine Cv u2 rfl ?_
       exact Jn u2 [] rfl ⟨hub2, val_take_succ hu2⟩
     · exact Jn 0 [] rfl ⟨by omega, by rw [take_ge (by omega)]; rfl⟩
   obtain ⟨s, hs⟩ : ∃ s, s = u + 4294967296 - v - br := ⟨_, rfl⟩
   refine El k rfl (by omega) ?_
   refine Ld (wd u) rfl (mp (hg hu (by omega))) ?_
   refine Cv u rfl ?_
   refine Ar (u + 4294967296 : Nat) rfl ?_
   refine Ar (u + 4294967296 - v : Nat) rfl ?_
   refine Ar s rfl ?_
   refine Cv (s % 4294967296 : Nat) rfl ?_ (by rw [wWm]; omega)
   refine Eo k rfl (by omega) ?_
   refine Sto rfl (by simp only [lw]; omega) ms ?_
   refine Ar (s / 4294967296 : Nat) rfl ?_ (shrA (n := 32) (by decide))
   refine Ar (1 - s / 4294967296 : Nat) rfl ?_
   refine Ar (k + 1 : Nat) rfl ?_
   refine Bk (k + 1, lo.set k (s % 4294967296), 1 - s / 4294967296) [] rfl ⟨by omega, by simp [hl1], wset hw (by omega), by omega, ?_⟩ (by show m - (k + 1) < m - k; omega)
   rw [val_set (by omega), hyv, val_take_succ hu, Nat.pow_succ, Nat.mul_assoc]
   have e : 4294967296 ^ k * (s % 4294967296 + v + br) = 4294967296 ^ k * (u + 4294967296 * (1 - s / 4294967296)) := by congr 1; omega
   simp only [Nat.mul_add] at e
   omega
 · have hkn : k = m := by omega
   rw [hkn, List.take_of_length_le (by omega), List.take_of_length_le (by omega), List.take_of_length_le (by omega), val_dig, val_dig] at hval
   have hvl := val_lt hw
   rw [hl1] at hvl
   have hbr0 : br = 0 := by
    rcases Nat.eq_zero_or_pos br with h0 | h0
    · exact h0
    · have h1 : 4294967296 ^ m * 1 ≤ 4294967296 ^ m * br := Nat.mul_le_mul_left _ h0
      omega
   rw [hbr0, Nat.mul_zero] at hval
   refine Fz 12 5 (lo.map wd) rfl (by simp only [lw]; omega) (oa hl1) ?_
   refine Ce rfl (trim_ok hw (by omega)) ?_
   exact Rw [] [(1000001, .arr 1 (l.map wd))] rfl (.one (.rf rfl) rfl rfl) ⟨rfl, by rw [show val lo = x - y by omega]⟩
theorem minus_ok {x y : Nat} (hx : (dig x).length ≤ 1099511627776) (hle : y ≤ x) : C0 249 [.d (ws (dig x)), .d (ws (dig y))] (· = .d (ws (dig (x - y)))) := by
 obtain ⟨m, hm⟩ : ∃ m, (dig x).length = m := ⟨_, rfl⟩
 rw [hm] at hx
 have hll := len_mono hle
 refine En Tryz.func249 fun _ _ _ => ?_
 refine Mk m rfl (by simp only [lw]; omega) ?_ (by simp only [lw, hm])
 refine Lo (fun (k, lo, br) => [(0, .d (ws (dig x))), (1, .d (ws (dig y))), (5, .own 12 1 0 m), (6, .d (.int .u64 (br : Nat))), (7, .d (.int .i64 (k : Nat)))]) (fun (_, lo, _) => [(12, .arr 1 (lo.map wd))])
  (fun (k, lo, br) => k ≤ m ∧ lo.length = m ∧ Words lo ∧ br ≤ 1 ∧ val (lo.take k) + val ((dig y).take k) = val ((dig x).take k) + 4294967296 ^ k * br) (fun (k, _, _) => m - k) (0, List.replicate m 0, 0) [] rfl
  ⟨by omega, by simp, wzero _, by omega, by simp [val]⟩ ?_ (by exact ⟨rfl, by simp only [List.map_replicate]; rfl, rfl, rfl, rfl⟩)
 rintro ⟨k, lo, br⟩ ⟨hk, hl1, hw, hbr, hval⟩
 refine By rfl (fun h => ?_) fun h => ?_ <;> simp only [lw] at h
 · obtain ⟨u, hu⟩ := xat (l := dig x) (k := k) (by omega)
   have hub := ww hu (words_dig x)
   refine Cu none (fun (v : Nat) => [(0, .d (ws (dig x))), (1, .d (ws (dig y))), (5, .own 12 1 0 m), (6, .d (.int .u64 br)), (7, .d (.int .i64 k)), (8, .d (.int .u64 v))]) (fun _ => [(12, .arr 1 (lo.map wd))])
    (fun v => v < 4294967296 ∧ val ((dig y).take (k + 1)) = val ((dig y).take k) + 4294967296 ^ k * v) rfl ?_ fun v ⟨hv, hyv⟩ => ?_
   · refine By rfl (fun h2 => ?_) fun h2 => ?_ <;> simp only [lw] at h2
     · obtain ⟨u2, hu2⟩ := xat (l := dig y) (k := k) (by omega)
       have hub2 := ww hu2 (words_dig y)
       refine Ix k rfl (mp hu2) ?_
       refine Cv u2 rfl ?_
       exact Jn u2 [] rfl ⟨hub2, val_take_succ hu2⟩
     · exact Jn 0 [] rfl ⟨by omega, by rw [take_ge (by omega)]; rfl⟩
   obtain ⟨s, hs⟩ : ∃ s, s = u + 4294967296 - v - br := ⟨_, rfl⟩
   refine Ix k rfl (mp hu) ?_
   refine Cv u rfl ?_
   refine Ar (u + 4294967296 : Nat) rfl ?_
   refine Ar (u + 4294967296 - v : Nat) rfl ?_
   refine Ar s rfl ?_
   refine Cv (s % 4294967296 : Nat) rfl ?_ (by rw [wWm]; omega)
   refine Eo k rfl (by omega) ?_
   refine Sto rfl (by simp only [lw]; omega) ms ?_
   refine Ar (s / 4294967296 : Nat) rfl ?_ (shrA (n := 32) (by decide))
   refine Ar (1 - s / 4294967296 : Nat) rfl ?_
   refine Ar (k + 1 : Nat) rfl ?_
   refine Bk (k + 1, lo.set k (s % 4294967296), 1 - s / 4294967296) [] rfl ⟨by omega, by simp [hl1], wset hw (by omega), by omega, ?_⟩ (by show m - (k + 1) < m - k; omega)
   rw [val_set (by omega), hyv, val_take_succ hu, Nat.pow_succ, Nat.mul_assoc]
   have e : 4294967296 ^ k * (s % 4294967296 + v + br) = 4294967296 ^ k * (u + 4294967296 * (1 - s / 4294967296)) := by congr 1; omega
   simp only [Nat.mul_add] at e
   omega
 · have hkn : k = m := by omega
   rw [hkn, List.take_of_length_le (by omega), List.take_of_length_le (by omega), List.take_of_length_le (by omega), val_dig, val_dig] at hval
   have hvl := val_lt hw
   rw [hl1] at hvl
   have hbr0 : br = 0 := by
    rcases Nat.eq_zero_or_pos br with h0 | h0
    · exact h0
    · have h1 : 4294967296 ^ m * 1 ≤ 4294967296 ^ m * br := Nat.mul_le_mul_left _ h0
      omega
   rw [hbr0, Nat.mul_zero] at hval
   refine Fz 12 5 (lo.map wd) rfl (by simp only [lw]; omega) (oa hl1) ?_
   refine Ce rfl (trim_ok hw (by omega)) ?_
   exact R1 rfl (.eq (by rw [show val lo = x - y by omega]))
end
section
theorem plus_ok {x y : Nat} (hx : (dig x).length ≤ 549755813888) (hy : (dig y).length ≤ 549755813888) : C0 247 [.d (ws (dig x)), .d (ws (dig y))] (· = .d (ws (dig (x + y)))) := by
 refine En Tryz.func247 fun _ _ _ => ?_
 refine Cu none (fun (a, b) => [(0, .d (ws (dig a))), (1, .d (ws (dig b)))]) (fun _ => []) (fun (a, b) => a + b = x + y ∧ (dig b).length ≤ (dig a).length ∧ (dig a).length ≤ 549755813888) rfl ?_ fun ⟨a, b⟩ ⟨hs, hle, hbig⟩ => ?_
 · refine By rfl (fun h => ?_) fun h => ?_ <;> simp only [lw] at h
   · exact Jn (y, x) [] rfl ⟨Nat.add_comm _ _, by omega, hy⟩
   · exact Jn (x, y) [] rfl ⟨rfl, by omega, hx⟩
 obtain ⟨m, hm⟩ : ∃ m, (dig a).length = m := ⟨_, rfl⟩
 rw [hm] at hle hbig
 refine Ar (m + 1 : Nat) rfl ?_ (wr (by simp only [lw, hm]; omega) (by simp only [inK]; omega))
 refine Mk (m + 1) rfl (by omega) ?_
 refine Lo (fun (k, lo, cr) => [(0, .d (ws (dig a))), (1, .d (ws (dig b))), (5, .own 18 1 0 (m + 1)), (6, .d (.int .u64 (cr : Nat))), (7, .d (.int .i64 (k : Nat)))]) (fun (_, lo, _) => [(18, .arr 1 (lo.map wd))])
  (fun (k, lo, cr) => k ≤ m ∧ lo.length = m + 1 ∧ Words lo ∧ cr ≤ 1 ∧ val (lo.take k) + 4294967296 ^ k * cr = val ((dig a).take k) + val ((dig b).take k)) (fun (k, _, _) => m - k) (0, List.replicate (m + 1) 0, 0) [] rfl ⟨by omega, by simp, wzero _, by omega, by simp [val]⟩ ?_ (by exact ⟨rfl, by simp only [List.map_replicate]; rfl, rfl, rfl, rfl⟩)
 rintro ⟨k, lo, cr⟩ ⟨hk, hl, hw, hcr, hval⟩
 refine By rfl (fun h => ?_) fun h => ?_ <;> simp only [lw] at h
 · obtain ⟨u, hu⟩ := xat (l := dig a) (k := k) (by omega)
   have hub := ww hu (words_dig a)
   refine Ix k rfl (mp hu) ?_
   refine Cv u rfl ?_
   refine Ar (cr + u : Nat) rfl ?_
   refine Cu none (fun (s : Nat) => [(0, .d (ws (dig a))), (1, .d (ws (dig b))), (5, .own 18 1 0 (m + 1)), (6, .d (.int .u64 s)), (7, .d (.int .i64 k))]) (fun _ => [(18, .arr 1 (lo.map wd))])
    (fun s => s < 8589934592 ∧ 4294967296 ^ k * s + val (lo.take k) = val ((dig a).take (k + 1)) + val ((dig b).take (k + 1))) rfl ?_ fun s ⟨hs8, hsv⟩ => ?_
   · refine By rfl (fun h2 => ?_) fun h2 => ?_ <;> simp only [lw] at h2
     · obtain ⟨u2, hu2⟩ := xat (l := dig b) (k := k) (by omega)
       have hub2 := ww hu2 (words_dig b)
       refine Ix k rfl (mp hu2) ?_
       refine Cv u2 rfl ?_
       refine Ar (cr + u + u2 : Nat) rfl ?_
       exact Jn (cr + u + u2) [] rfl ⟨by omega, by rw [val_take_succ hu, val_take_succ hu2, Nat.mul_add, Nat.mul_add]; omega⟩
     · exact Jn (cr + u) [] rfl ⟨by omega, by rw [val_take_succ hu, take_ge (l := dig b) (by omega), Nat.mul_add]; omega⟩
   refine Cv (s % 4294967296 : Nat) rfl ?_ (by rw [wWm]; omega)
   refine Eo k rfl (by omega) ?_
   refine Sto rfl (by simp only [lw]; omega) ms ?_
   refine Ar (s / 4294967296 : Nat) rfl ?_ (shrA (n := 32) (by decide))
   refine Ar (k + 1 : Nat) rfl ?_
   refine Bk (k + 1, lo.set k (s % 4294967296), s / 4294967296) [] rfl ⟨by omega, by simp [hl], wset hw (by omega), by show s / 4294967296 ≤ 1; omega, ?_⟩ (by show m - (k + 1) < m - k; omega)
   rw [val_set (by omega), ← hsv, Nat.pow_succ, Nat.mul_assoc]
   have e2 : 4294967296 ^ k * s = 4294967296 ^ k * (s % 4294967296) + 4294967296 ^ k * (4294967296 * (s / 4294967296)) := by rw [← Nat.mul_add]; congr 1; omega
   omega
 · have hkn : k = m := by omega
   subst hkn
   rw [List.take_of_length_le (l := dig a) (by omega), List.take_of_length_le (l := dig b) (by omega), val_dig, val_dig, hs] at hval
   have hfin : val (lo.set k cr) = x + y := by
    have := val_set (l := lo) (k := k) (d := cr) (by omega)
    rw [List.take_of_length_le (by rw [List.length_set]; omega)] at this
    rw [this, hval]
   refine Cv cr rfl ?_
   refine Eo k rfl (by omega) ?_ (by simp only [lw]; omega)
   refine Sto rfl (by simp only [lw]; omega) ms ?_
   refine Fz 14 5 ((lo.set k cr).map wd) rfl (by simp only [lw, List.length_set]; omega) (oa (by simp [hl])) ?_
   refine Ce rfl (trim_ok (wset hw (by omega)) (by simp only [List.length_set]; omega)) ?_
   exact R1 rfl (.eq (by rw [hfin]))
theorem times_w {X Y : List Nat} (hX : Words X) (hY : Words Y) (hx : X.length ≤ 549755813888) (hy : Y.length ≤ 549755813888) : C0 166 [.d (ws X), .d (ws Y)] (· = .d (ws (dig (val X * val Y)))) := by
 obtain ⟨n, hn⟩ : ∃ n, X.length = n := ⟨_, rfl⟩
 obtain ⟨m, hm⟩ : ∃ m, Y.length = m := ⟨_, rfl⟩
 rw [hm] at hy
 rw [hn] at hx
 refine En Tryz.func166 fun _ _ _ => ?_
 refine Ar (n + m : Nat) rfl ?_ (wr (by simp only [lw]; omega) (by simp only [inK]; omega))
 refine Mk (n + m) rfl (by omega) ?_
 refine Lo (fun (i, lo) => [(0, .d (ws X)), (1, .d (ws Y)), (5, .own 14 1 0 (n + m)), (6, .d (.int .i64 (i : Nat)))]) (fun (_, lo) => [(14, .arr 1 (lo.map wd))])
  (fun (i, lo) => i ≤ n ∧ lo.length = n + m ∧ Words lo ∧ val (lo.take (i + m)) = val (X.take i) * val Y ∧ ∀ j, i + m ≤ j → j < n + m → lo[j]? = some 0) (fun (i, _) => n - i)
  (0, List.replicate (n + m) 0) [] rfl ⟨by omega, by simp, wzero _, by rw [List.take_replicate, val_zeros]; simp [val], fun j _ h => by rw [List.getElem?_replicate, if_pos h]⟩ ?_ (by exact ⟨rfl, by simp only [List.map_replicate]; rfl, rfl, rfl, rfl⟩)
 rintro ⟨i, lo0⟩ ⟨hi, hl0, hw0, hval, hz0⟩
 refine By rfl (fun h => ?_) fun h => ?_ <;> simp only [lw] at h
 · obtain ⟨u, hu⟩ := xat (l := X) (k := i) (by omega)
   have hub := ww hu (hX)
   refine Lo (fun (k, lo, cr) => [(0, .d (ws X)), (1, .d (ws Y)), (5, .own 14 1 0 (n + m)), (6, .d (.int .i64 i)), (7, .d (.int .u64 (cr : Nat))), (8, .d (.int .i64 (k : Nat)))]) (fun (_, lo, _) => [(14, .arr 1 (lo.map wd))])
    (fun (k, lo, cr) => k ≤ m ∧ lo.length = n + m ∧ Words lo ∧ cr < 4294967296 ∧ (∀ j, i + k ≤ j → lo[j]? = lo0[j]?) ∧ val (lo.take (i + k)) + 4294967296 ^ (i + k) * cr = val (lo0.take (i + k)) + 4294967296 ^ i * (u * val (Y.take k))) (fun (k, _, _) => m - k)
    (0, lo0, 0) [] rfl ⟨by omega, hl0, hw0, by omega, fun _ _ => rfl, by simp [val]⟩ ?_
   rintro ⟨k, lo, cr⟩ ⟨hk, hl1, hw, hcr, hrest, hval2⟩
   refine By rfl (fun h => ?_) fun h => ?_ <;> simp only [lw] at h
   · obtain ⟨v, hv⟩ := xat (l := Y) (k := k) (by omega)
     have hvb := ww hv (hY)
     obtain ⟨w, hw1⟩ := xat (l := lo) (k := i + k) (by omega)
     have hwb := ww hw1 hw
     have huv : u * v ≤ 4294967295 * 4294967295 := Nat.mul_le_mul (by omega) (by omega)
     obtain ⟨s, hs⟩ : ∃ s, s = cr + w + u * v := ⟨_, rfl⟩
     have hs2 : s < 18446744073709551616 := by omega
     refine Dw rfl ?_
     refine Ar (i + k : Nat) rfl ?_
     refine Eo (i + k) rfl (by omega) ?_
     refine Ld (wd w) rfl (mp hw1) ?_
     refine Cv w rfl ?_
     refine Ar (cr + w : Nat) rfl ?_
     refine Ix i rfl (mp hu) ?_
     refine Cv u rfl ?_
     refine Ix k rfl (mp hv) ?_
     refine Cv v rfl ?_
     refine Ar (u * v : Nat) rfl ?_ (wr (Int.natCast_mul ..).symm (by simp only [inK]; omega))
     refine Ar (s : Nat) rfl ?_
     refine Ar (i + k : Nat) rfl ?_
     refine Cv (s % 4294967296 : Nat) rfl ?_ (by rw [wWm]; omega)
     refine Eo (i + k) rfl (by omega) ?_
     refine Sto rfl (by simp only [lw]; omega) ms ?_
     refine Ar (s / 4294967296 : Nat) rfl ?_ (shrA (n := 32) (by decide))
     refine Ar (k + 1 : Nat) rfl ?_
     refine Bk (k + 1, lo.set (i + k) (s % 4294967296), s / 4294967296) [] rfl ⟨by omega, by simp [hl1], wset hw (by omega), by omega, fun j hj => by rw [List.getElem?_set_ne (by omega)]; exact hrest j (by omega), ?_⟩ (by show _ - (k + 1) < _ - k; omega)
     have hw0' : lo0[i + k]? = some w := by rw [← hrest (i + k) (Nat.le_refl _)]; exact hw1
     rw [← Nat.add_assoc, val_set (by omega), val_take_succ hw0', val_take_succ hv, Nat.pow_succ, Nat.mul_assoc, Nat.mul_add u, Nat.mul_add (4294967296 ^ i)]
     have e : 4294967296 ^ (i + k) * s = 4294967296 ^ (i + k) * (s % 4294967296) + 4294967296 ^ (i + k) * (4294967296 * (s / 4294967296)) := by rw [← Nat.mul_add]; congr 1; omega
     have e2 : 4294967296 ^ (i + k) * s = 4294967296 ^ (i + k) * cr + 4294967296 ^ i * (u * (4294967296 ^ k * v)) + 4294967296 ^ (i + k) * w := by
      rw [hs, Nat.mul_add, Nat.mul_add, Nat.pow_add]
      have : 4294967296 ^ i * 4294967296 ^ k * (u * v) = 4294967296 ^ i * (u * (4294967296 ^ k * v)) := by
       rw [Nat.mul_assoc, Nat.mul_left_comm (4294967296 ^ k) u v]
      omega
     omega
   · have hkm : k = m := by omega
     subst hkm
     refine Ar (i + k : Nat) rfl ?_ (wr (by simp only [lw]; omega) (by simp only [inK]; omega))
     refine Cv cr rfl ?_
     refine Eo (i + k) rfl (by omega) ?_
     refine Sto rfl (by simp only [lw]; omega) ms ?_
     refine Ar (i + 1 : Nat) rfl ?_
     refine Bk (i + 1, lo.set (i + k) cr) [] rfl ⟨by omega, by simp [hl1], wset hw hcr, ?_, fun j h1 h2 => by rw [List.getElem?_set_ne (by omega), hrest j (by omega)]; exact hz0 j (by omega) h2⟩ (by show _ - (i + 1) < _ - i; omega)
     rw [show i + 1 + k = i + k + 1 from by omega, val_set (by omega), val_take_succ hu, hval2, hval, show Y.take k = Y from List.take_of_length_le (by omega), Nat.add_mul, Nat.mul_assoc]
 · have him : i = n := by omega
   rw [him, List.take_of_length_le (by omega), List.take_of_length_le (by omega)] at hval
   refine Fz 13 5 (lo0.map wd) rfl (by simp only [lw]; omega) (oa hl0) ?_
   refine Ce rfl (trim_ok hw0 (by omega)) ?_
   exact R1 rfl (.eq (by rw [hval]))
theorem times_ok {x y : Nat} (hx : (dig x).length ≤ 549755813888) (hy : (dig y).length ≤ 549755813888) : C0 166 [.d (ws (dig x)), .d (ws (dig y))] (· = .d (ws (dig (x * y)))) := by
 have := times_w (words_dig x) (words_dig y) hx hy
 rwa [val_dig, val_dig] at this
end
section
theorem Neg_ok {z : Int} (h : (dig z.natAbs).length ≤ 1099511627776) : C0 80 [.d (dz z)] (· = .d (dz (-z))) := by
 refine En Tryz.func80 fun _ _ _ => ?_
 refine Ce rfl (signed_sg h) ?_
 exact R1 rfl (.eq (by rw [sg_neg]))
theorem Add_ok {a b : Int} (ha : (dig a.natAbs).length ≤ 549755813888) (hb : (dig b.natAbs).length ≤ 549755813888) : C0 153 [.d (dz a), .d (dz b)] (· = .d (dz (a + b))) := by
 refine En Tryz.func153 fun _ _ _ => ?_
 refine Dw rfl ?_
 refine Ce rfl (Norm_ok (by omega)) ?_
 refine Ce rfl (Norm_ok (by omega)) ?_
 refine By rfl (fun h => ?_) fun h => ?_ <;> rw [beq'] at h
 · refine Dw rfl ?_
   refine Ce rfl (plus_ok ha hb) ?_
   refine Ce rfl (signed_sg (Nat.le_trans (len_add ..) (by omega))) ?_
   exact R1 rfl (.eq (by rw [sg_add h]))
 · refine Ce rfl (compare_ok (by omega)) ?_
   refine By rfl (fun h1 => ?_) fun h1 => ?_
   · have hle := cmpI_ge.1 (show ¬ cmpI (a.natAbs : Int) (b.natAbs : Int) < 0 by omega)
     refine Dw rfl ?_
     refine Ce rfl (minus_ok (by omega) hle) ?_
     refine Ce rfl (signed_sg (Nat.le_trans (len_mono (Nat.sub_le ..)) (by omega))) ?_
     exact R1 rfl (.eq (by rw [sg_sub h hle]))
   · have hle := Nat.le_of_lt (cmpI_neg.1 (show cmpI (a.natAbs : Int) (b.natAbs : Int) < 0 by omega))
     refine Dw rfl ?_
     refine Ce rfl (minus_ok (by omega) hle) ?_
     refine Ce rfl (signed_sg (Nat.le_trans (len_mono (Nat.sub_le ..)) (by omega))) ?_
     exact R1 rfl (.eq (by rw [sg_sub (fun e => h e.symm) hle, Int.add_comm]))
theorem Sub_ok {a b : Int} (ha : (dig a.natAbs).length ≤ 549755813888) (hb : (dig b.natAbs).length ≤ 549755813888) : C0 164 [.d (dz a), .d (dz b)] (· = .d (dz (a - b))) := by
 refine En Tryz.func164 fun _ _ _ => ?_
 refine Dw rfl ?_
 refine Ce rfl (Neg_ok (by omega)) ?_
 refine Ce rfl (Add_ok ha (by rw [Int.natAbs_neg]; exact hb)) ?_
 exact R0
theorem Mul_ok {a b : Int} (ha : (dig a.natAbs).length ≤ 549755813888) (hb : (dig b.natAbs).length ≤ 549755813888) : C0 82 [.d (dz a), .d (dz b)] (· = .d (dz (a * b))) := by
 refine En Tryz.func82 fun _ _ _ => ?_
 refine Dw rfl ?_
 refine Ce rfl (Norm_ok (by omega)) ?_
 refine Ce rfl (Norm_ok (by omega)) ?_
 refine Dw rfl ?_
 refine Ce rfl (times_ok ha hb) ?_
 refine Ce rfl (signed_sg (Nat.le_trans (len_mul ..) (by omega))) ?_
 exact R1 rfl (.eq (by rw [bneq, sg_mul]))
theorem cmpI_sub0 (a b : Int) : cmpI (a - b) 0 = cmpI a b := by
 unfold cmpI; split <;> split <;> (try split) <;> (try split) <;> omega
theorem Cmp_ok {a b : Int} (ha : (dig a.natAbs).length ≤ 549755813888) (hb : (dig b.natAbs).length ≤ 549755813888) : C0 81 [.d (dz a), .d (dz b)] (· = .d (.int .i64 (cmpI a b))) := by
 have hl := len_add a.natAbs b.natAbs
 have hl2 := len_mono (show (a - b).natAbs ≤ a.natAbs + b.natAbs by omega)
 refine En Tryz.func81 fun _ _ _ => ?_
 refine Ce rfl (Sub_ok ha hb) ?_
 refine Ce rfl (Sign_ok (by omega)) ?_
 exact R1 rfl (.eq (by rw [cmpI_sub0]))
theorem by_ok {x y : Nat} (hx : (dig x).length ≤ 549755813888) (hy : y < 4294967296) (hy0 : y ≠ 0) : C0 319 [.d (ws (dig x)), .d (.int .u32 y)] (· = .tup (.pr (.d (ws (dig (x / y)))) (.d (.int .u32 (x % y : Nat))))) := by
 refine En Tryz.func319 fun _ _ _ => ?_
 refine Mk (dig x).length rfl (by simp only [lw]; omega) ?_ (by simp only [lw])
 refine Ar ((dig x).length - 1 : Int) rfl ?_ (wr (by simp only [lw]) (by simp only [inK]; omega))
 refine Lo (fun (k, lo, r) => [(0, .d (ws (dig x))), (1, .d (.int .u32 y)), (6, .own 11 1 0 (dig x).length), (7, .d (.int .u64 (r : Nat))), (8, .d (.int .i64 ((k : Nat) - 1 : Int)))]) (fun (_, lo, _) => [(11, .arr 1 (lo.map wd))])
  (fun (k, lo, r) => k ≤ (dig x).length ∧ lo.length = (dig x).length ∧ Words lo ∧ r < y ∧ val (lo.drop k) * y + r = val ((dig x).drop k)) (fun (k, _, _) => k) ((dig x).length, List.replicate (dig x).length 0, 0) [] rfl
  ⟨by omega, by simp, wzero _, by omega, by rw [List.drop_eq_nil_of_le (by simp), List.drop_eq_nil_of_le (by omega)]; simp [val]⟩ ?_ (by exact ⟨rfl, by simp only [List.map_replicate]; rfl, rfl, rfl, rfl⟩)
 rintro ⟨k, lo, r⟩ ⟨hk, hl, hwo, hr, hval⟩
 refine By rfl (fun h => ?_) fun h => ?_
 · obtain ⟨u, hu⟩ := xat (l := dig x) (k := k - 1) (by omega)
   have hub := ww hu (words_dig x)
   obtain ⟨s, hs⟩ : ∃ s, s = r * 2 ^ 32 + u := ⟨_, rfl⟩
   have hs64 : s < 18446744073709551616 := by omega
   have hsy : s / y < 4294967296 := by
    rw [Nat.div_lt_iff_lt_mul (by omega)]
    have := Nat.mul_le_mul_right 4294967296 (show r + 1 ≤ y by omega)
    omega
   have hsm : s % y < y := Nat.mod_lt _ (by omega)
   have hq0 : 0 ≤ s / y := Nat.zero_le _
   refine Ar (r * 2 ^ 32 : Nat) rfl ?_ (shl64 (n := 32) rfl (by omega) (by decide))
   refine Ix (k - 1) rfl (mp hu) ?_
   refine Cv u rfl ?_
   refine Ar s rfl ?_ (or64 (by omega) (by omega) (by rw [or_add u r 32 (by omega), ← hs]) hs64)
   refine Cv y rfl ?_
   refine Ar (s / y : Nat) rfl ?_ (show _ ∧ _ from ⟨by omega, tquo s y hs64⟩)
   refine Cv (s / y : Nat) rfl ?_ (wW ⟨Int.natCast_nonneg _, Int.ofNat_lt.2 hsy⟩)
   refine Eo (k - 1) rfl (by omega) ?_
   refine Sto rfl (by simp only [lw]; omega) ms ?_
   refine Cv y rfl ?_
   refine Ar (s % y : Nat) rfl ?_ (show _ ∧ _ from ⟨by omega, trem s y⟩)
   refine Ar ((k - 1 : Nat) - 1 : Int) rfl ?_
   refine Bk (k - 1, lo.set (k - 1) (s / y), s % y) [] rfl ⟨by omega, by simp [hl], wset hwo hsy, hsm, ?_⟩ (by show k - 1 < k; omega)
   rw [val_drop hu, show k - 1 + 1 = k from by omega, ← hval, drop_set (by omega), val, show k - 1 + 1 = k from by omega]
   have e := Nat.div_add_mod s y
   rw [Nat.mul_comm] at e
   rw [Nat.add_mul, Nat.mul_add, Nat.mul_assoc]
   omega
 · have hk0 : k = 0 := by omega
   subst hk0
   rw [List.drop_zero, List.drop_zero, val_dig] at hval
   have hq : x / y = val lo := by rw [← hval, Nat.mul_comm, Nat.mul_add_div (by omega), Nat.div_eq_of_lt hr, Nat.add_zero]
   have hm : x % y = r := by rw [← hval, Nat.mul_comm, Nat.mul_add_mod, Nat.mod_eq_of_lt hr]
   refine Fz 9 6 (lo.map wd) rfl (by simp only [lw]; omega) (oa hl) ?_
   refine Ce rfl (trim_ok hwo (by omega)) ?_
   refine Cv (x % y : Nat) rfl ?_ (by rw [hm]; exact wW (by omega))
   exact RTt rfl (.cons (.eq (by rw [hq])) (.one (.rf rfl) (fun _ _ e => by cases e) (fun _ _ e => by cases e)))
theorem short_ok {x : Nat} (hl : (dig x).length ≤ 2) : C0 318 [.d (ws (dig x))] (· = .d (.int .u64 x)) := by
 refine En Tryz.func318 fun _ _ _ => ?_
 refine Ar ((dig x).length - 1 : Int) rfl ?_ (wr (by simp only [lw]) (by simp only [inK]; omega))
 refine Lo (fun k => [(0, .d (ws (dig x))), (3, .d (.int .u64 (val ((dig x).drop k)))), (4, .d (.int .i64 ((k : Nat) - 1 : Int)))]) (fun _ => []) (fun k => k ≤ (dig x).length) (fun k => k) (dig x).length [] rfl (Nat.le_refl _) (fun k hk => ?_) (by exact ⟨by rw [List.drop_eq_nil_of_le (Nat.le_refl _)]; rfl, rfl, rfl, rfl, rfl⟩)
 refine By rfl (fun h => ?_) fun h => ?_
 · obtain ⟨u, hu⟩ := xat (l := dig x) (k := k - 1) (by omega)
   have hub := ww hu (words_dig x)
   have hv : val ((dig x).drop k) < 4294967296 := by
    have h1 := val_lt ((words_dig x).drop k)
    have h2 : 4294967296 ^ ((dig x).drop k).length ≤ 4294967296 ^ 1 := Nat.pow_le_pow_right (by decide) (by rw [List.length_drop]; omega)
    omega
   have hvd := val_drop hu
   rw [show k - 1 + 1 = k from by omega] at hvd
   obtain ⟨s, hs⟩ : ∃ s, s = val ((dig x).drop k) := ⟨_, rfl⟩
   rw [← hs] at hv hvd
   refine Ar (s * 2 ^ 32 : Nat) rfl ?_ (by rw [← hs]; exact shl64 (n := 32) rfl (by omega) (by decide))
   refine Ix (k - 1) rfl (mp hu) ?_
   refine Cv u rfl ?_
   refine Ar (val ((dig x).drop (k - 1)) : Nat) rfl ?_ (or64 (by omega) (by omega) (by rw [or_add u s 32 (by omega), hvd]; omega) (by omega))
   refine Ar ((k - 1 : Nat) - 1 : Int) rfl ?_
   exact Bk (k - 1) [] rfl (show k - 1 ≤ _ by omega) (by show k - 1 < k; omega)
 · refine R1 rfl (.eq ?_)
   rw [show k = 0 by omega, List.drop_zero, val_dig]
theorem bl_half {x : Nat} (h : x ≠ 0) : bl x = bl (x / 2) + 1 := by
 by_cases h2 : x / 2 = 0
 · have : x = 1 := by omega
   subst this
   decide
 · exact bl_shift (n := x) (k := 1) h2
theorem length_ok {x : Nat} (hx : (dig x).length ≤ 1099511627776) (h0 : x ≠ 0) : C0 320 [.d (ws (dig x))] fun v => ∃ t, (dig x)[(dig x).length - 1]? = some t ∧ t ≠ 0 ∧ t < 4294967296 ∧ v = .d (.int .i64 (32 * ((dig x).length - 1) + bl t : Nat)) := by
 have hm0 : (dig x).length ≠ 0 := fun e => h0 (len0.1 e)
 obtain ⟨t, ht, ht0⟩ : ∃ t, (dig x)[(dig x).length - 1]? = some t ∧ t ≠ 0 := by
  rcases trim_dig x with h1 | h1
  · exact absurd (dig_eq_nil.1 h1) h0
  · exact h1
 have htb := ww ht (words_dig x)
 have hbt : bl t ≤ 32 := by
  obtain ⟨b1, b2, b3⟩ := bl_bounds ht0
  have : 2 ^ (bl t - 1) < 2 ^ 32 := Nat.lt_of_le_of_lt b1 htb
  have := (Nat.pow_lt_pow_iff_right (by decide : 1 < 2)).1 this
  omega
 refine En Tryz.func320 fun _ _ _ => ?_
 refine No rfl (by simp only [lw]; omega) ?_
 refine Ar ((dig x).length - 1 : Nat) rfl ?_ (wr (by simp only [lw]; omega) (by simp only [inK]; omega))
 refine Ix ((dig x).length - 1) rfl (mp ht) ?_
 refine Lo (fun (k, i) => [(0, .d (ws (dig x))), (3, .d (.int .i64 (i : Nat))), (4, .d (.int .u32 (k : Nat)))]) (fun _ => []) (fun (k, i) => k < 4294967296 ∧ bl k + i = bl t) (fun (k, _) => k) (t, 0) [] rfl ⟨htb, rfl⟩ ?_
 rintro ⟨k, i⟩ ⟨hk, hb⟩
 refine By rfl (fun h => ?_) fun h => ?_
 · have := bl_half (x := k) (by omega)
   refine Ar (i + 1 : Nat) rfl ?_
   refine Ar (k / 2 : Nat) rfl ?_ (show _ ∧ _ from ⟨by decide, by rw [show Int.tdiv (k : Int) 2 = ((k / 2 : Nat) : Int) from rfl]; exact wW (by omega)⟩)
   exact Bk (k / 2, i + 1) [] rfl ⟨by omega, by omega⟩ (by show k / 2 < k; omega)
 · have hk0 : k = 0 := by omega
   subst hk0
   rw [show bl 0 = 0 from rfl] at hb
   refine Ar ((dig x).length - 1 : Nat) rfl ?_ (wr (by simp only [lw]; omega) (by simp only [inK]; omega))
   refine Ar (32 * ((dig x).length - 1) : Nat) rfl ?_
   refine Ar (32 * ((dig x).length - 1) + bl t : Nat) rfl ?_
   exact Rt rfl (.one (.rf rfl) rfl rfl) ⟨t, ht, ht0, htb, rfl⟩
theorem shifted_ok {n x : Nat} (hx : (dig x).length ≤ 549755813888) (hn32 : n < 32) : CO0 321 [.d (ws (dig x)), .d (.int .i64 n)] fun v ob => ∃ l, l.length = (dig x).length + 1 ∧ Words l ∧ val l = x * 2 ^ n ∧ v = .own 1000000 1 0 l.length ∧ ob = .arr 1 (l.map wd) := by
 have hp := Nat.two_pow_pos n
 have hp32 : 2 ^ n ≤ 2147483648 := by have : 2 ^ n ≤ 2 ^ 31 := Nat.pow_le_pow_right (by decide) (by omega); omega
 refine EnW Tryz.func321 fun _ _ _ _ => ?_
 refine Ar ((dig x).length + 1 : Nat) rfl ?_ (wr (by simp only [lw]; omega) (by simp only [inK]; omega))
 refine Mk ((dig x).length + 1) rfl (by omega) ?_
 refine Lo (fun (i, lo) => [(0, .d (ws (dig x))), (1, .d (.int .i64 n)), (5, .own 11 1 0 ((dig x).length + 1)), (6, .d (.int .i64 (i : Nat)))]) (fun (_, lo) => [(11, .arr 1 (lo.map wd))])
  (fun (i, lo) => i ≤ (dig x).length ∧ lo.length = (dig x).length + 1 ∧ Words lo ∧ val (lo.take (i + 1)) = val ((dig x).take i) * 2 ^ n ∧ ∃ w, lo[i]? = some w ∧ w < 2 ^ n) (fun (i, _) => (dig x).length - i) (0, List.replicate ((dig x).length + 1) 0) [] rfl
  ⟨by omega, by simp, wzero _, by rw [List.take_replicate, val_zeros]; simp [val], 0, by simp, hp⟩ ?_ (by exact ⟨rfl, by simp only [List.map_replicate]; rfl, rfl, rfl, rfl⟩)
 rintro ⟨i, lo⟩ ⟨hi, hl, hwo, hval, w, hw, hwn⟩
 refine By rfl (fun h => ?_) fun h => ?_ <;> simp only [lw] at h
 · obtain ⟨u, hu⟩ := xat (l := dig x) (k := i) (by omega)
   have hub := ww hu (words_dig x)
   have hs1 := shl_lt hub hn32
   have hs2 := mul_mod_pow u n (by omega)
   obtain ⟨s, hs⟩ : ∃ s, s = u * 2 ^ n := ⟨_, rfl⟩
   have hshl := shl64 hs.symm (by omega) (by omega : n ≤ 64)
   rw [← hs] at hs1 hs2
   have hor : w ||| s % 4294967296 = s % 4294967296 + w := by rw [Nat.or_comm, hs2]; exact or_add _ _ _ hwn
   have hlt : s % 4294967296 + w < 4294967296 := by
    rw [hs2]
    have h1 : u % 2 ^ (32 - n) + 1 ≤ 2 ^ (32 - n) := Nat.mod_lt _ (Nat.two_pow_pos _)
    have h2 := Nat.mul_le_mul_right (2 ^ n) h1
    rw [← Nat.pow_add, show 32 - n + n = 32 from by omega, Nat.succ_mul] at h2
    omega
   refine Ix i rfl (mp hu) ?_
   refine Cv u rfl ?_
   refine Ar s rfl ?_ hshl
   refine Eo i rfl (by omega) ?_
   refine Ld (wd w) rfl (mp hw) ?_
   refine Cv (s % 4294967296 : Nat) rfl ?_ (by rw [wWm]; omega)
   refine Ar (s % 4294967296 + w : Nat) rfl ?_ (or32 (by omega) (by omega) hor hlt)
   refine Eo i rfl (by omega) ?_
   refine Sto rfl (by simp only [lw]; omega) ms ?_
   refine Ar (i + 1 : Nat) rfl ?_
   refine Ar (s / 4294967296 : Nat) rfl ?_ (shrA (n := 32) (by decide))
   refine Cv (s / 4294967296 : Nat) rfl ?_
   refine Eo (i + 1) rfl (by omega) ?_
   refine Sto rfl (by simp only [List.length_map, List.length_set]; omega) ms ?_
   refine Ar (i + 1 : Nat) rfl ?_
   refine Bk (i + 1, (lo.set i (s % 4294967296 + w)).set (i + 1) (s / 4294967296)) [] rfl ⟨by omega, by simp [hl], wset (wset hwo hlt) (by omega), ?_, s / 4294967296, by rw [List.getElem?_set_self (by rw [List.length_set]; omega)], ?_⟩ (by show _ - (i + 1) < _ - i; omega)
   · rw [val_set (by rw [List.length_set]; omega), val_set (by omega), val_take_succ hu, Nat.add_mul, ← hval, val_take_succ hw, Nat.mul_assoc, ← hs, Nat.pow_succ, Nat.mul_add, Nat.mul_assoc]
     have e : 4294967296 ^ i * s = 4294967296 ^ i * (s % 4294967296) + 4294967296 ^ i * (4294967296 * (s / 4294967296)) := by rw [← Nat.mul_add]; congr 1; omega
     omega
   · rw [Nat.div_lt_iff_lt_mul (by decide), hs, Nat.mul_comm]
     exact Nat.mul_lt_mul_of_pos_left hub hp
 · have him : i = (dig x).length := by omega
   rw [him, List.take_of_length_le (by omega), List.take_of_length_le (by omega), val_dig] at hval
   exact Rw [(11, 1000000)] [(1000000, .arr 1 (lo.map wd))] rfl (.one (.rf rfl) rfl rfl) ⟨_, rfl, lo, hl, hwo, hval, by rw [hl]; rfl, rfl⟩
theorem shifted_data {n x : Nat} (hx : (dig x).length ≤ 549755813888) (hn32 : n < 32) : C0 321 [.d (ws (dig x)), .d (.int .i64 n)] fun v => ∃ l, l.length = (dig x).length + 1 ∧ Words l ∧ val l = x * 2 ^ n ∧ v = .d (ws l) :=
 CW.data (shifted_ok hx hn32) rfl fun v H' ⟨ob, e, l, h1, h2, h3, h4, h5⟩ => ⟨.d (ws l), by rw [h4, e, h5]; exact .one (.own rfl (by simp) (oa rfl)) rfl rfl, l, h1, h2, h3, rfl⟩
theorem back_digit {u v n : Nat} (hu : u < 4294967296) (hn : n < 32) : (u + v * 4294967296) / 2 ^ n % 4294967296 = u / 2 ^ n + (v % 2 ^ n) * 2 ^ (32 - n) := by
 have e : v * 4294967296 = v * 2 ^ (32 - n) * 2 ^ n := by
  rw [Nat.mul_assoc, ← Nat.pow_add, show 32 - n + n = 32 from by omega]
 rw [e, Nat.add_mul_div_right _ _ (Nat.two_pow_pos n)]
 have h1 := mul_mod_pow v (32 - n) (by omega)
 rw [show 32 - (32 - n) = n from by omega] at h1
 have h2 := (shr_digit (v := v) hu hn).2
 rw [← h1] at h2 ⊢
 generalize v * 2 ^ (32 - n) = X at *
 generalize u / 2 ^ n = A at *
 omega
theorem back_ok {n x : Nat} (hx : (dig x).length ≤ 1099511627776) (hn32 : n < 32) : C0 323 [.d (ws (dig x)), .d (.int .i64 n)] (· = .d (ws (dig (x / 2 ^ n)))) := by
 have hp := Nat.two_pow_pos n
 have hp32 : 2 ^ n ≤ 2147483648 := by have : 2 ^ n ≤ 2 ^ 31 := Nat.pow_le_pow_right (by decide) (by omega); omega
 obtain ⟨m, hm⟩ : ∃ m, (dig x).length = m := ⟨_, rfl⟩
 rw [hm] at hx
 have hvx := val_dig x
 refine En Tryz.func323 fun _ _ _ => ?_
 refine Mk m rfl (by simp only [lw]; omega) ?_ (by simp only [lw, hm])
 refine Lo (fun (i, lo) => [(0, .d (ws (dig x))), (1, .d (.int .i64 n)), (5, .own 10 1 0 m), (6, .d (.int .i64 (i : Nat)))]) (fun (_, lo) => [(10, .arr 1 (lo.map wd))])
  (fun (i, lo) => i ≤ m ∧ lo.length = m ∧ Words lo ∧ val (lo.take i) * 2 ^ n + x % 2 ^ n = val ((dig x).take i) + 4294967296 ^ i * ((dig x).getD i 0 % 2 ^ n)) (fun (i, _) => m - i) (0, List.replicate m 0) [] rfl
  ⟨by omega, by simp, wzero _, by have := val_mod_pow (dig x) n (by omega); rw [hvx] at this; simp [val, this]⟩ ?_ (by exact ⟨rfl, by simp only [List.map_replicate]; rfl, rfl, rfl, rfl⟩)
 rintro ⟨i, lo⟩ ⟨hi, hl, hwo, hval⟩
 refine By rfl (fun h => ?_) fun h => ?_ <;> simp only [lw] at h
 · obtain ⟨u, hu⟩ := xat (l := dig x) (k := i) (by omega)
   have hub := ww hu (words_dig x)
   have hgu : (dig x).getD i 0 = u := by rw [List.getD_eq_getElem?_getD, hu]; rfl
   rw [hgu] at hval
   refine Ix i rfl (mp hu) ?_
   refine Cv u rfl ?_
   refine Ar (i + 1 : Nat) rfl ?_
   refine Cu none (fun s : Nat => [(0, .d (ws (dig x))), (1, .d (.int .i64 n)), (5, .own 10 1 0 m), (6, .d (.int .i64 i)), (7, .d (.int .u64 s))]) (fun _ => [(10, .arr 1 (lo.map wd))])
    (fun s => ∃ v, (dig x).getD (i + 1) 0 = v ∧ v < 4294967296 ∧ s = u + v * 4294967296) rfl ?_ fun s ⟨v, hv, hvb, hs⟩ => ?_
   · refine By rfl (fun h2 => ?_) fun h2 => ?_ <;> simp only [lw] at h2
     · obtain ⟨v, hv⟩ := xat (l := dig x) (k := i + 1) (by omega)
       have hvb := ww hv (words_dig x)
       refine Ar (i + 1 : Nat) rfl ?_
       refine Ix (i + 1) rfl (mp hv) ?_
       refine Cv v rfl ?_
       refine Ar (v * 2 ^ 32 : Nat) rfl ?_ (shl64 (n := 32) rfl (by omega) (by decide))
       refine Ar (u + v * 4294967296 : Nat) rfl ?_ (or64 (by omega) (by omega) (by rw [Nat.or_comm, or_add u v 32 (by omega)]; omega) (by omega))
       exact Jn (u + v * 4294967296) [] rfl ⟨v, by rw [List.getD_eq_getElem?_getD, hv]; rfl, hvb, rfl⟩
     · exact Jn u [] rfl ⟨0, by rw [List.getD_eq_getElem?_getD, List.getElem?_eq_none (by omega)]; rfl, by decide, by omega⟩
   have hbd := back_digit (v := v) hub hn32
   rw [← hs] at hbd
   refine Ar (s / 2 ^ n : Nat) rfl ?_ (shrA (show n ≤ 64 by omega))
   refine Cv (s / 2 ^ n % 4294967296 : Nat) rfl ?_ (by rw [wWm]; omega)
   refine Eo i rfl (by omega) ?_
   refine Sto rfl (by simp only [lw]; omega) ms ?_
   refine Ar (i + 1 : Nat) rfl ?_
   refine Bk (i + 1, lo.set i (s / 2 ^ n % 4294967296)) [] rfl ⟨by omega, by simp [hl], wset hwo (by omega), ?_⟩ (by show m - (i + 1) < m - i; omega)
   rw [val_set (by omega), val_take_succ hu, hv, hbd]
   exact shr_step hn32 hval
 · have him : i = m := by omega
   rw [him, List.take_of_length_le (by omega), List.take_of_length_le (by omega), List.getD_eq_getElem?_getD, List.getElem?_eq_none (by omega), hvx] at hval
   have hfin : val lo = x / 2 ^ n := by
    simp at hval
    have := Nat.div_add_mod x (2 ^ n)
    rw [Nat.mul_comm] at this
    exact Nat.eq_of_mul_eq_mul_right hp (by omega)
   refine Fz 9 5 (lo.map wd) rfl (by simp only [lw]; omega) (oa hl) ?_
   refine Ce rfl (trim_ok hwo (by omega)) ?_
   exact R1 rfl (.eq (by rw [hfin]))
end
section
theorem digit_own {q N y V : Nat} {l : List Nat} (hw : Words l) (hq : q + N ≤ l.length) (hN : N = (dig y).length + 1) (hy0 : y ≠ 0) (hn40 : N ≤ 1099511627776) (hV : val ((l.drop q).take N) = V) (hlt : V < 4294967296 * y) (hy : (dig y).length ≤ 549755813888) :
 CN0 322 [.own 1000001 1 q N, .d (ws (dig y))] [(1000001, .arr 1 (l.map wd))] (· = .tup (.pr (.d (.int .u32 (V / y : Nat))) (.d (ws (dig (y * (V / y))))))) := by
 obtain ⟨n, hn⟩ : ∃ n, n = (dig y).length := ⟨_, rfl⟩
 rw [← hn] at hN hy
 have hn0 : n ≠ 0 := fun e => hy0 (len0.1 (by omega))
 obtain ⟨t, ht, ht0⟩ : ∃ t, (dig y)[n - 1]? = some t ∧ t ≠ 0 := by
  rcases trim_dig y with h1 | h1
  · exact absurd (dig_eq_nil.1 h1) hy0
  · rw [← hn] at h1; exact h1
 have htb := ww ht (words_dig y)
 obtain ⟨u0, hu0⟩ := xat (l := l) (k := q + n) (by omega)
 obtain ⟨u1, hu1⟩ := xat (l := l) (k := q + (n - 1)) (by omega)
 have hub0 := ww hu0 hw
 have hub1 := ww hu1 hw
 have hqB : V / y < 4294967296 := by rw [Nat.div_lt_iff_lt_mul (Nat.pos_of_ne_zero hy0)]; exact hlt
 have hq00 := Nat.zero_le (V / y)
 obtain ⟨top, htop⟩ : ∃ top, top = u0 * 2 ^ 32 + u1 := ⟨_, rfl⟩
 have htopb : top < 18446744073709551616 := by omega
 have hest : V / y ≤ top / t := by
  have e1 := val_wsucc hu1
  rw [show n - 1 + 1 = n from by omega] at e1
  have e2 := val_wsucc hu0
  rw [← hN, hV, e1] at e2
  have e3 := val_take_succ ht
  rw [show n - 1 + 1 = (dig y).length from by omega, List.take_length, val_dig] at e3
  have hlow := val_lt ((hw.drop q).take (n - 1))
  rw [dlen (by omega)] at hlow
  have hM : 4294967296 ^ n = 4294967296 ^ (n - 1) * 4294967296 := by rw [← Nat.pow_succ]; congr 1; omega
  rw [hM] at e2
  generalize 4294967296 ^ (n - 1) = M at *
  generalize val ((l.drop q).take (n - 1)) = low at *
  generalize val ((dig y).take (n - 1)) = vlow at *
  have h1 : V < M * (top + 1) := by
   have : M * (u0 * 2 ^ 32 + u1 + 1) = M * u1 + M * 4294967296 * u0 + M := by grind
   rw [htop]; omega
  have h2 : M * t ≤ y := by omega
  have hM0 : 0 < M := by omega
  have h3 : V / y ≤ V / (M * t) := Nat.div_le_div_left h2 (Nat.mul_pos hM0 (Nat.pos_of_ne_zero ht0))
  refine Nat.le_trans h3 ?_
  rw [← Nat.div_div_eq_div_mul]
  refine Nat.div_le_div_right ?_
  have := (Nat.div_lt_iff_lt_mul hM0).2 (by rw [Nat.mul_comm]; exact h1)
  omega
 refine EnW Tryz.func322 fun _ _ _ _ => ?_
 refine Dw rfl ?_
 refine El n rfl (by omega) ?_ (by simp only [lw]; omega)
 refine Ld (wd u0) rfl (mp hu0) ?_
 refine Cv u0 rfl ?_
 refine Ar (u0 * 2 ^ 32 : Nat) rfl ?_ (shl64 (n := 32) rfl (by omega) (by decide))
 refine Ar (n - 1 : Nat) rfl ?_ (wr (by simp only [lw]; omega) (by simp only [inK]; omega))
 refine El (n - 1) rfl (by omega) ?_
 refine Ld (wd u1) rfl (mp hu1) ?_
 refine Cv u1 rfl ?_
 refine Ar top rfl ?_ (or64 (by omega) (by omega) (by rw [or_add u1 u0 32 (by omega), htop]) htopb)
 refine Ar (n - 1 : Nat) rfl ?_ (wr (by simp only [lw]; omega) (by simp only [inK]; omega))
 refine Ix (n - 1) rfl (mp ht) ?_
 refine Cv t rfl ?_
 have htt0 := Nat.zero_le (top / t)
 have htt1 := Nat.div_le_self top t
 refine Ar (top / t : Nat) rfl ?_ (show _ ∧ _ from ⟨by omega, tquo top t htopb⟩)
 refine Cu none (fun g : Nat => [(0, .own 1000001 1 q N), (1, .d (ws (dig y))), (7, .d (.int .u64 g))]) (fun _ => [(1000001, .arr 1 (l.map wd))]) (fun g => V / y ≤ g ∧ g < 4294967296) rfl ?_ fun g0 ⟨hg0, hgB⟩ => ?_
 · refine By rfl (fun h => ?_) fun h => ?_
   · exact Jn 4294967295 [] rfl ⟨by omega, by decide⟩
   · exact Jn (top / t) [] rfl ⟨hest, by omega⟩
 refine Cv g0 rfl ?_
 refine Ce (r := .d (ws (dig (y * g0)))) rfl (by have := times_w (words_dig y) (Y := [g0]) (.cons hgB .nil) (by omega) (by simp); rwa [val_dig, show val [g0] = g0 from by simp [val]] at this) ?_
 refine Lo (fun g : Nat => [(0, .own 1000001 1 q N), (1, .d (ws (dig y))), (7, .d (.int .u64 g)), (8, .d (ws (dig (y * g))))]) (fun _ => [(1000001, .arr 1 (l.map wd))]) (fun g => V / y ≤ g ∧ g < 4294967296) (fun g => g) g0 [] rfl ⟨hg0, hgB⟩ fun g ⟨hg, hgB⟩ => ?_
 refine Cn [] rfl (trim_own hw hq hn40) fun v hv => ?_
 obtain ⟨k, hk, rfl, hkl⟩ := hv
 rw [hV] at hkl
 refine Cn [] rfl (compare_own (by omega) hkl (by rw [← hkl, dlen (by omega)]; omega)) fun v hv => ?_
 obtain rfl : v = _ := hv
 refine By rfl (fun h => ?_) fun h => ?_
 · have hlt2 : V < y * g := cmpI_neg.1 h
   have hg1 : V / y < g := by rw [Nat.div_lt_iff_lt_mul (Nat.pos_of_ne_zero hy0), Nat.mul_comm]; exact hlt2
   have hyg : y * g - y = y * (g - 1) := by rw [Nat.mul_sub_one]
   have hle : y ≤ y * g := Nat.le_mul_of_pos_right _ (by omega)
   have hlen : (dig (y * g)).length ≤ 1099511627776 := by
    have h1 := len_mul y g
    have h2 : (dig g).length ≤ 1 := dig_len_le (by omega)
    omega
   refine Ar (g - 1 : Nat) rfl ?_
   refine Ce rfl (minus_ok hlen hle) ?_
   exact Bk (g - 1) [] rfl ⟨by omega, by omega⟩ (by show g - 1 < g; omega) (by exact ⟨by rw [hyg]; rfl, rfl, rfl, rfl, rfl⟩)
 · have hge2 : y * g ≤ V := Nat.le_of_not_lt fun hlt => h (cmpI_neg.2 hlt)
   have hg2 : g = V / y := Nat.le_antisymm ((Nat.le_div_iff_mul_le (Nat.pos_of_ne_zero hy0)).2 (by rw [Nat.mul_comm]; exact hge2)) hg
   refine Cv g rfl ?_
   exact Rw [] [(1000001, .arr 1 (l.map wd))] rfl (.tup (.cons (.rf rfl) (.one (.rf rfl) (fun _ _ e => by cases e) (fun _ _ e => by cases e)))) ⟨rfl, by rw [hg2]; rfl⟩
theorem divide_ok {x y : Nat} (hx : (dig x).length ≤ 549755813888) (hy : (dig y).length ≤ 549755813888) (hy0 : y ≠ 0) : C0 252 [.d (ws (dig x)), .d (ws (dig y))] (· = .tup (.pr (.d (ws (dig (x / y)))) (.d (ws (dig (x % y)))))) := by
 refine En Tryz.func252 fun _ _ _ => ?_
 refine Ce rfl (compare_ok (by omega)) ?_
 refine By rfl (fun h => ?_) fun h => ?_
 · have hlt : x < y := cmpI_neg.1 h
   exact RTt rfl (.cons (.nil (by rw [Nat.div_eq_of_lt hlt, dig_zero]; rfl)) (.one (.eq (by rw [Nat.mod_eq_of_lt hlt])) (fun _ _ e => by cases e) (fun _ _ e => by cases e)))
 have hge : y ≤ x := Nat.le_of_not_lt fun hlt => h (cmpI_neg.2 hlt)
 have hlenle := len_mono hge
 refine By rfl (fun h2 => ?_) fun h2 => ?_ <;> simp only [lw] at h2
 · have hx64 : x < 18446744073709551616 := by
    have := dig_ub x
    have h1 : 4294967296 ^ (dig x).length ≤ 4294967296 ^ 2 := Nat.pow_le_pow_right (by decide) (by omega)
    omega
   refine Ce rfl (short_ok (by omega)) ?_
   refine Ce rfl (short_ok (by omega)) ?_
   have hq64 : x / y < 18446744073709551616 := Nat.lt_of_le_of_lt (Nat.div_le_self ..) hx64
   have hr64 : x % y < 18446744073709551616 := Nat.lt_of_le_of_lt (Nat.mod_le ..) hx64
   refine Dw rfl ?_
   refine Ar (x / y : Nat) rfl ?_ (show _ ∧ _ from ⟨by omega, tquo x y hx64⟩)
   refine Ce rfl (words_ok hq64) ?_
   refine Ar (x % y : Nat) rfl ?_ (show _ ∧ _ from ⟨by omega, trem x y⟩)
   refine Ce rfl (words_ok hr64) ?_
   exact R0t
 refine By rfl (fun h3 => ?_) fun h3 => ?_ <;> simp only [lw] at h3
 · obtain ⟨t, ht⟩ := xat (l := dig y) (k := 0) (by omega)
   have htb := ww ht (words_dig y)
   have hyt : y = t := by
    have := val_take_succ ht
    rw [List.take_of_length_le (by omega), val_dig] at this
    simpa [val] using this
   have hrt : x % t < t := Nat.mod_lt _ (by omega)
   have hr0 := Nat.zero_le (x % t)
   refine Ix 0 rfl (mp ht) ?_
   refine Ce rfl (by_ok (y := t) hx htb (by omega)) ?_
   refine Cv (x % t : Nat) rfl ?_
   refine Ce rfl (words_ok (n := x % t) (by omega)) ?_
   exact RTt rfl (.cons (.eq (by rw [hyt])) (.one (.eq (by rw [hyt])) (fun _ _ e => by cases e) (fun _ _ e => by cases e)))
 have hy1 : 1 ≤ (dig y).length := by
  have : (dig y).length ≠ 0 := fun h => hy0 (len0.1 h)
  omega
 refine Ar (32 * (dig y).length : Nat) rfl ?_ (wr (by simp only [lw]; omega) (by simp only [inK]; omega))
 refine Ca rfl (length_ok (by omega) hy0) fun v hv => ?_
 obtain ⟨t, ht, ht0, htb, rfl⟩ := hv
 obtain ⟨bb1, bb2, bb3⟩ := bl_bounds ht0
 have hb32 : bl t ≤ 32 := by
  have : 2 ^ (bl t - 1) < 2 ^ 32 := Nat.lt_of_le_of_lt bb1 htb
  have := (Nat.pow_lt_pow_iff_right (by decide : 1 < 2)).1 this
  omega
 obtain ⟨s, hs⟩ : ∃ s, s = 32 - bl t := ⟨_, rfl⟩
 have hs32 : s < 32 := by omega
 have hs1 : 2147483648 ≤ t * 2 ^ s := by
  have h1 := Nat.mul_le_mul_right (2 ^ (32 - bl t)) bb1
  rw [← Nat.pow_add, show bl t - 1 + (32 - bl t) = 31 from by omega] at h1
  rw [hs]; exact h1
 have hs2 : t * 2 ^ s < 4294967296 := by
  have h1 := Nat.mul_lt_mul_of_pos_right bb2 (Nat.two_pow_pos (32 - bl t))
  rw [← Nat.pow_add, show bl t + (32 - bl t) = 32 from by omega] at h1
  rw [hs]; exact h1
 refine Ar s rfl ?_
 obtain ⟨hlen, t', ht', htt⟩ := norm_len hy0 ht hs1 hs2
 refine Co rfl (shifted_ok hx hs32) fun v ob hv => ?_
 obtain ⟨lu0, hul, huw, huv, rfl, rfl⟩ := hv
 refine Ca rfl (shifted_data hy hs32) fun v hv => ?_
 obtain ⟨lv, hvl, hvw, hvv, rfl⟩ := hv
 obtain ⟨Y, hY⟩ : ∃ Y, Y = y * 2 ^ s := ⟨_, rfl⟩
 rw [← hY] at hlen hvv
 refine Ce (r := .d (ws (dig Y))) rfl (by have := trim_ok hvw (by omega); rwa [hvv] at this) ?_
 obtain ⟨mv, hmv⟩ : ∃ mv, mv = (dig Y).length := ⟨_, rfl⟩
 obtain ⟨m, hm⟩ : ∃ m, m = (dig x).length := ⟨_, rfl⟩
 refine Mk m rfl (by simp only [lw]; omega) ?_ (by simp only [lw, hm])
 refine Ar ((lu0.length - mv : Nat) - 1 : Int) rfl ?_ (wr (by simp only [lw]; omega) (by simp only [inK]; omega))
 have hY0 : Y ≠ 0 := by rw [hY]; exact Nat.mul_ne_zero hy0 (Nat.pos_iff_ne_zero.1 (Nat.two_pow_pos s))
 have hYl := dig_ub Y
 have hR0 : val (lu0.drop (lu0.length - mv)) < Y := by
  have h1 := val_split lu0 (lu0.length - mv) (by omega)
  rw [huv] at h1
  have h2 := dig_lb hy0
  have h3 := dig_ub x
  have hp := Nat.two_pow_pos s
  apply Classical.byContradiction
  intro hn2
  have h4 : 4294967296 ^ (lu0.length - mv) * Y ≤ x * 2 ^ s := by
   rw [h1]
   have := Nat.mul_le_mul_left (4294967296 ^ (lu0.length - mv)) (Nat.le_of_not_lt hn2)
   omega
  rw [hY, ← Nat.mul_assoc] at h4
  have h5 := Nat.le_of_mul_le_mul_right h4 hp
  have h6 := Nat.mul_le_mul_left (4294967296 ^ (lu0.length - mv)) h2
  rw [← Nat.pow_add, show lu0.length - mv + ((dig y).length - 1) = (dig x).length from by omega] at h6
  omega
 refine Lo (fun (k, lu, lq) => [(10, .d (.int .i64 s)), (11, .own 63 1 0 lu0.length), (12, .d (ws (dig Y))), (13, .own 70 1 0 m), (14, .d (.int .i64 ((k : Nat) - 1 : Int)))]) (fun (_, lu, lq) => [(63, .arr 1 (lu.map wd)), (70, .arr 1 (lq.map wd))])
  (fun (k, lu, lq) => k ≤ lu0.length - mv ∧ lu.length = lu0.length ∧ Words lu ∧ lq.length = m ∧ Words lq ∧ (∀ j, j < k → lu[j]? = lu0[j]?) ∧ val (lu.drop k) < Y ∧ val (lq.drop k) * Y + val (lu.drop k) = val (lu0.drop k)) (fun (k, _, _) => k) (lu0.length - mv, lu0, List.replicate m 0) [] rfl
  ⟨by omega, rfl, huw, by simp, wzero _, fun _ _ => rfl, hR0, by rw [List.drop_replicate, val_zeros]; simp⟩ ?_ (by exact ⟨rfl, by simp only [List.map_replicate]; rfl, rfl, rfl, rfl⟩)
 rintro ⟨k, lu, lq⟩ ⟨hk, hln, hwu, hlq, hwq, hsame, hRlt, hQR⟩
 refine By rfl (fun h => ?_) fun h => ?_
 · obtain ⟨hwin, hUlt⟩ := window (n := mv) (i := k - 1) (Y := Y) hwu (by omega) (by rw [show k - 1 + 1 = k from by omega]; exact hRlt) (by rw [hmv]; exact Nat.le_of_lt hYl)
   obtain ⟨U, hU⟩ : ∃ U, U = val (lu.drop (k - 1)) := ⟨_, rfl⟩
   rw [← hU] at hwin hUlt
   have hqB : U / Y < 4294967296 := by rw [Nat.div_lt_iff_lt_mul (Nat.pos_of_ne_zero hY0)]; exact hUlt
   have hqz0 : 0 ≤ U / Y := Nat.zero_le _
   have hUlt2 : U % Y < Y := Nat.mod_lt _ (Nat.pos_of_ne_zero hY0)
   have eN : k - 1 + mv + 1 - (k - 1) = mv + 1 := by omega
   refine Ar (k - 1 + mv : Nat) rfl ?_ (wr (by simp only [lw]; omega) (by simp only [inK]; omega))
   refine Ar (k - 1 + mv + 1 : Nat) rfl ?_
   refine Sw (k - 1) (k - 1 + mv + 1) rfl (by omega) (by omega) ?_
   have hwin2 : val ((lu.drop (0 + (k - 1))).take (k - 1 + mv + 1 - (k - 1))) = U := by rw [Nat.zero_add, eN]; exact hwin.symm
   refine Cn [(1000001, 63)] rfl (digit_own (l := lu) (q := 0 + (k - 1)) (N := k - 1 + mv + 1 - (k - 1)) (V := U) hwu (by omega) (by omega) hY0 (by omega) hwin2 hUlt (by omega)) fun v hv => ?_
   obtain rfl : v = _ := hv
   refine Eo (k - 1) rfl (by omega) ?_
   refine Sto rfl (by simp only [lw]; omega) ms ?_
   refine Cn [(1000001, 63)] rfl (trim_own (l := lu) (q := 0 + (k - 1)) (n := k - 1 + mv + 1 - (k - 1)) hwu (by omega) (by omega)) fun v hv => ?_
   obtain ⟨k2, hk2, rfl, hkl⟩ := hv
   rw [hwin2] at hkl
   have hUY : Y * (U / Y) ≤ U := Nat.mul_div_le U Y
   have hUmod : U - Y * (U / Y) = U % Y := by have := Nat.div_add_mod U Y; omega
   refine Cn [(1000001, 63)] rfl (minus_own (l := lu) (q := 0 + (k - 1)) (m := k2) (by omega) hkl (by rw [← hkl, dlen (by omega)]; omega) hUY) fun v hv => ?_
   rw [hUmod] at hv
   obtain rfl : v = _ := hv
   have hdlen := len_mono (Nat.le_of_lt hUlt2)
   refine Lo (fun (i, lo) => [(10, .d (.int .i64 s)), (11, .own 63 1 0 lu0.length), (12, .d (ws (dig Y))), (13, .own 70 1 0 m), (14, .d (.int .i64 ((k : Nat) - 1 : Int))), (15, .own 63 1 (0 + (k - 1)) (k - 1 + mv + 1 - (k - 1))), (18, .d (ws (dig (U % Y)))), (19, .d (.int .i64 (i : Nat)))]) (fun (_, lo) => [(63, .arr 1 (lo.map wd)), (70, .arr 1 ((lq.set (k - 1) (U / Y)).map wd))])
    (fun (i, lo) => i ≤ mv + 1 ∧ lo.length = lu0.length ∧ Words lo ∧ (∀ j, (j < k - 1 ∨ k - 1 + i ≤ j) → lo[j]? = lu[j]?) ∧ val ((lo.drop (k - 1)).take i) = val ((dig (U % Y)).take i)) (fun (i, _) => mv + 1 - i) (0, lu) [] rfl
    ⟨by omega, hln, hwu, fun _ _ => rfl, rfl⟩ ?_
   rintro ⟨i, lo⟩ ⟨hi, hlo, hwo, hsame2, hval2⟩
   refine By rfl (fun h1 => ?_) fun h1 => ?_
   · refine El i rfl (by omega) ?_
     refine Sto rfl (by simp only [lw]; omega) (ms (f := wd) (u := 0)) ?_
     have eJ : 0 + (k - 1) + i = k - 1 + i := by omega
     refine Cu none (fun g : Nat => [(10, .d (.int .i64 s)), (11, .own 63 1 0 lu0.length), (12, .d (ws (dig Y))), (13, .own 70 1 0 m), (14, .d (.int .i64 ((k : Nat) - 1 : Int))), (15, .own 63 1 (0 + (k - 1)) (k - 1 + mv + 1 - (k - 1))), (18, .d (ws (dig (U % Y)))), (19, .d (.int .i64 i))]) (fun g => [(63, .arr 1 ((lo.set (k - 1 + i) g).map wd)), (70, .arr 1 ((lq.set (k - 1) (U / Y)).map wd))])
      (fun g => g < 4294967296 ∧ val ((dig (U % Y)).take (i + 1)) = val ((dig (U % Y)).take i) + 4294967296 ^ i * g) rfl ?_ fun g ⟨hgb, hg⟩ => ?_
     · refine By rfl (fun h2 => ?_) fun h2 => ?_ <;> simp only [lw] at h2
       · obtain ⟨w, hw⟩ := xat (l := dig (U % Y)) (k := i) (by omega)
         have hwb := ww hw (words_dig (U % Y))
         refine Ix i rfl (mp hw) ?_
         refine El i rfl (by omega) ?_
         refine Sto rfl (by simp only [lw, List.length_set]; omega) ms ?_
         exact Jn w [] rfl ⟨hwb, val_take_succ hw⟩ (by exact ⟨rfl, by rw [List.set_set, eJ]; rfl, rfl, rfl, rfl⟩)
       · exact Jn 0 [] rfl ⟨by decide, by rw [take_ge (by omega)]; rfl⟩ (by exact ⟨rfl, by rw [eJ]; rfl, rfl, rfl, rfl⟩)
     refine Ar (i + 1 : Nat) rfl ?_
     exact Bk (i + 1, lo.set (k - 1 + i) g) [] rfl ⟨by omega, by simp [hlo], wset hwo hgb, fun j hj => by rw [List.getElem?_set_ne (by omega)]; exact hsame2 j (by omega), by rw [val_wset (by omega), hval2, hg]⟩ (by show mv + 1 - (i + 1) < mv + 1 - i; omega)
   · have hik : i = mv + 1 := by omega
     subst hik
     rw [List.take_of_length_le (l := dig (U % Y)) (by omega), val_dig] at hval2
     have hab : val (lo.drop (k - 1)) = U % Y := by
      have g1 := val_split (lo.drop (k - 1)) (mv + 1) (by rw [List.length_drop]; omega)
      have g2 := val_split (lu.drop (k - 1)) (mv + 1) (by rw [List.length_drop]; omega)
      have g3 : (lo.drop (k - 1)).drop (mv + 1) = (lu.drop (k - 1)).drop (mv + 1) := by
       rw [List.drop_drop, List.drop_drop]
       exact drop_congr fun j hj => hsame2 j (.inr hj)
      rw [← hU, ← hwin] at g2
      rw [g1, hval2, g3]
      omega
     obtain ⟨w, hw⟩ := xat (l := lu) (k := k - 1) (by omega)
     have hw2 : lu0[k - 1]? = some w := by rw [← hsame (k - 1) (by omega)]; exact hw
     have hfin : val ((lq.set (k - 1) (U / Y)).drop (k - 1)) * Y + val (lo.drop (k - 1)) = val (lu0.drop (k - 1)) := by
      have g1 := val_drop hw
      have g2 := val_drop hw2
      have g3 := val_drop (l := lq.set (k - 1) (U / Y)) (k := k - 1) (List.getElem?_set_self (by omega))
      have g4 : (lq.set (k - 1) (U / Y)).drop (k - 1 + 1) = lq.drop (k - 1 + 1) := drop_congr fun j hj => List.getElem?_set_ne (by omega)
      rw [show k - 1 + 1 = k from by omega] at g1 g2 g3 g4
      rw [hab, g2, g3, g4, ← hQR, Nat.add_mul, Nat.mul_assoc, Nat.mul_add]
      have g5 := Nat.div_add_mod U Y
      rw [Nat.mul_comm] at g5
      rw [← hU] at g1
      omega
     refine Ar ((k - 1 : Nat) - 1 : Int) rfl ?_
     exact Bk (k - 1, lo, lq.set (k - 1) (U / Y)) [] rfl ⟨by omega, hlo, hwo, by simp [hlq], wset hwq hqB, fun j hj => (hsame2 j (.inl hj)).trans (hsame j (by omega)), by rw [hab]; exact hUlt2, hfin⟩ (by show k - 1 < k; omega)
 · have hk0 : k = 0 := by omega
   subst hk0
   rw [List.drop_zero] at hRlt hQR
   rw [List.drop_zero, List.drop_zero, huv] at hQR
   obtain ⟨hQ, hR⟩ := div_fin hY.symm hQR hRlt
   refine Fz 25 13 (lq.map wd) rfl (by simp only [lw]; omega) (oa hlq) ?_
   refine Fz 25 11 (lu.map wd) rfl (by simp only [lw]; omega) (oa hln) ?_
   refine Ce rfl (trim_ok hwq (by omega)) ?_
   refine Ce rfl (trim_ok hwu (by omega)) ?_
   refine Ce rfl (back_ok (by have := len_mono (Nat.le_of_lt hRlt); omega) hs32) ?_
   exact RTt rfl (.cons (.eq (by rw [hQ])) (.one (.eq (by rw [hR, Nat.mul_div_cancel _ (Nat.two_pow_pos s)])) (fun _ _ e => by cases e) (fun _ _ e => by cases e)))
end
section
theorem GCD_ok {a b : Int} (ha : (dig a.natAbs).length ≤ 549755813888) (hb : (dig b.natAbs).length ≤ 549755813888) : C0 161 [.d (dz a), .d (dz b)] (· = .d (dz (Int.gcd a b))) := by
 refine En Tryz.func161 fun _ _ _ => ?_
 refine Dw rfl ?_
 refine Ce rfl (trim_dig_ok (by omega)) ?_
 refine Ce rfl (trim_dig_ok (by omega)) ?_
 refine Lo (fun ((x, y) : Nat × Nat) => [(4, .ptr 4 0), (5, .d (ws (dig x))), (6, .d (ws (dig y)))]) (fun _ => [(4, .var (.st (.pr (.b false) .nil)))]) (fun (x, y) => Nat.gcd x y = Int.gcd a b ∧ (dig x).length ≤ 549755813888 ∧ (dig y).length ≤ 549755813888) (fun (_, y) => y) (a.natAbs, b.natAbs) [] rfl ⟨rfl, ha, hb⟩ fun ⟨x, y⟩ ⟨hg, hx, hy⟩ => ?_
 refine By rfl (fun h1 => ?_) fun h1 => ?_ <;> simp only [lw] at h1
 · have h0 : y ≠ 0 := fun e => by have := len0.2 e; omega
   have hlt := Nat.mod_lt x (Nat.pos_of_ne_zero h0)
   refine Ce rfl (divide_ok hx hy h0) ?_
   exact Bk (y, x % y) [] rfl ⟨by rw [← hg, Nat.gcd_comm y, ← Nat.gcd_rec, Nat.gcd_comm], hy, Nat.le_trans (len_mono (Nat.le_of_lt hlt)) hy⟩ hlt
 · have h0 : y = 0 := len0.1 (by omega)
   subst h0
   rw [Nat.gcd_zero_right] at hg
   refine Ce rfl (signed_sg (b := false) (by omega)) ?_
   exact R1 rfl (.eq (by rw [sg_false, hg]))
end
end Go.Proofs.YtpgcfjpkilabfaaGreatDoor.R1
namespace Go.Num
end Go.Num
namespace Go.Proofs.YtpgcfjpkilabfaaGreatDoor.R2
open Go Go.Vm Go.Num Go.Proofs.YtpgcfjpkilabfaaGreatDoor
theorem one_ok {z : Int} : C0 168 [.d (dz z)] (· = .b (dc (z = 1))) := by
 refine En Tryz.func168 fun _ _ _ => ?_
 refine By rfl (fun h1 => ?_) fun h1 => ?_ <;> simp only [lw] at h1
 · obtain ⟨u, hu⟩ := xat (l := dig z.natAbs) (k := 0) (by omega)
   have hl := len1 (by omega) hu
   refine Ix 0 rfl (mp hu) ?_
   refine By rfl (fun h2 => ?_) fun h2 => ?_
   · refine R1 rfl (.bp ?_)
     rw [← one_iff, hl]
     simp only [Bool.not_eq_true', decide_eq_false_iff_not]
     exact ⟨fun h => ⟨by rw [show u = 1 by omega], h⟩, fun h => h.2⟩
   · refine R1 rfl (.bp ⟨nofun, fun e => ?_⟩)
     have := (one_iff.2 e).1
     rw [hl] at this; injection this with this; omega
 · exact R1 rfl (.bp ⟨nofun, fun e => absurd (by rw [e]; show ((dig 1).length : Int) = 1; rw [dig1]; rfl) h1⟩)
theorem FromInt_ok {z : Int} (h : -9223372036854775808 ≤ z ∧ z < 9223372036854775808) : C0 19 [.d (.int .i64 z)] (· = .d (dq z)) := by
 refine En Tryz.func19 fun _ _ _ => ?_
 refine Ce rfl (R1.FromInt_ok h) ?_
 refine Ce rfl (R1.FromInt_ok (z := 1) (by decide)) ?_
 exact R0
theorem Cmp_ok {x y : Rat} {p q : Nat} (hx : Qs p x) (hy : Qs q y) (hp : p + q ≤ 8796093022208) : C0 33 [.d (dq x), .d (dq y)] (· = .d (.int .i64 (cmpQ x y))) := by
 have h1 := hx.n.len (by omega)
 have h2 := hx.d.len (by omega)
 have h3 := hy.n.len (by omega)
 have h4 := hy.d.len (by omega)
 have h5 := (hx.n.mul hy.d).len (by omega)
 have h6 := (hy.n.mul hx.d).len (by omega)
 refine En Tryz.func33 fun _ _ _ => ?_
 refine Dw rfl ?_
 refine Ce rfl (R1.Mul_ok (by omega) (by omega)) ?_
 refine Ce rfl (R1.Mul_ok (by omega) (by omega)) ?_
 refine Ce rfl (R1.Cmp_ok (by omega) (by omega)) ?_
 exact R1 rfl (.eq (by rw [cmpQ_mul]))
theorem SameInt_ok {z w : Int} (hz : (dig z.natAbs).length ≤ 549755813888) : C0 83 [.d (dz z), .d (dz w)] (· = .b (dc (z = w))) := by
 refine En Tryz.func83 fun _ _ _ => ?_
 refine By rfl (fun h => ?_) fun h => ?_
 · exact R1 rfl (.bp ⟨nofun, fun e => absurd (by rw [e]) h⟩)
 have h : (z < 0 ↔ w < 0) := by simpa using h
 refine By rfl (fun h1 => ?_) fun h1 => ?_ <;> simp only [lw] at h1
 · exact R1 rfl (.bp ⟨nofun, fun e => absurd (by rw [e]) h1⟩)
 refine Lo (fun k : Nat => [(2, .ptr 2 0), (3, .ptr 3 0), (5, .d (.int .i64 k))]) (fun _ => [(2, .var (.d (dz z))), (3, .var (.d (dz w)))]) (fun k => k ≤ (dig z.natAbs).length ∧ (dig z.natAbs).take k = (dig w.natAbs).take k) (fun k => (dig z.natAbs).length - k) 0 [] rfl ⟨by omega, rfl⟩ fun k ⟨hk, ht⟩ => ?_
 refine By rfl (fun h2 => ?_) fun h2 => ?_ <;> simp only [lw] at h2
 · obtain ⟨u, hu⟩ := xat (l := dig z.natAbs) (k := k) (by omega)
   obtain ⟨v, hv⟩ := xat (l := dig w.natAbs) (k := k) (by omega)
   refine Dw rfl ?_
   refine Ix k rfl (mp hu) ?_
   refine Ix k rfl (mp hv) ?_
   refine By rfl (fun h3 => ?_) fun h3 => ?_
   · exact R1 rfl (.bp ⟨nofun, fun e => by subst e; rw [hu] at hv; injection hv with hv; omega⟩)
   · refine Ar (k + 1 : Nat) rfl ?_
     refine Bk (k + 1) [] rfl ⟨by omega, ?_⟩ (by show _ - (k + 1) < _ - k; omega)
     have h1 := (List.getElem?_eq_some_iff.1 hu).1
     have h2 := (List.getElem?_eq_some_iff.1 hv).1
     rw [List.take_add_one, List.take_add_one, hu, hv, ht, show u = v by omega]
 · refine R1 rfl (.bp ⟨fun _ => ?_, fun _ => rfl⟩)
   rw [List.take_of_length_le (by omega), List.take_of_length_le (by omega)] at ht
   have := val_dig z.natAbs
   rw [ht, val_dig] at this
   omega
end Go.Proofs.YtpgcfjpkilabfaaGreatDoor.R2
namespace Go.Tow
def El : Nat → Type
 | 0 => Rat
 | k + 1 => El k × El k
def Tw : Nat → Type
 | 0 => Unit
 | k + 1 => Tw k × El k
def toL : (k : Nat) → El k → List Rat
 | 0, x => [x]
 | k + 1, x => toL k x.1 ++ toL k x.2
def toT : (k : Nat) → Tw k → List (List Rat)
 | 0, _ => []
 | k + 1, t => toT k t.1 ++ [toL k t.2]
def zero : (k : Nat) → El k
 | 0 => (0 : Rat)
 | k + 1 => (zero k, zero k)
def rat : (k : Nat) → Rat → El k
 | 0, x => x
 | k + 1, x => (rat k x, zero k)
def add : (k : Nat) → El k → El k → El k
 | 0 => fun (x y : Rat) => x + y
 | k + 1 => fun x y => (add k x.1 y.1, add k x.2 y.2)
def neg : (k : Nat) → El k → El k
 | 0 => fun (x : Rat) => -x
 | k + 1 => fun x => (neg k x.1, neg k x.2)
def mul : (k : Nat) → Tw k → El k → El k → El k
 | 0 => fun _ (x y : Rat) => x * y
 | k + 1 => fun t x y => (add k (mul k t.1 x.1 y.1) (mul k t.1 (mul k t.1 x.2 y.2) t.2), add k (mul k t.1 x.1 y.2) (mul k t.1 x.2 y.1))
instance decEl : (k : Nat) → DecidableEq (El k)
 | 0 => inferInstanceAs (DecidableEq Rat)
 | k + 1 => @instDecidableEqProd _ _ (decEl k) (decEl k)
theorem toL_length (k : Nat) (a : El k) : (toL k a).length = 2 ^ k := by
 induction k with
 | zero => rfl
 | succ k ih => simp only [toL, List.length_append, ih, Nat.pow_succ]; omega
theorem toT_length (k : Nat) (t : Tw k) : (toT k t).length = k := by
 induction k with
 | zero => rfl
 | succ k ih => simp only [toT, List.length_append, ih, List.length_singleton]
theorem append_inj' {α : Type} {a b c d : List α} (h : a.length = c.length) (e : a ++ b = c ++ d) : a = c ∧ b = d := List.append_inj e h
theorem toL_inj {k : Nat} {a b : El k} (h : toL k a = toL k b) : a = b := by
 induction k with
 | zero => exact (List.cons.inj h).1
 | succ k ih =>
  obtain ⟨h1, h2⟩ := append_inj' (by rw [toL_length, toL_length]) h
  exact Prod.ext (ih h1) (ih h2)
theorem exE (k : Nat) (l : List Rat) (h : l.length = 2 ^ k) : ∃ a : El k, toL k a = l := by
 induction k generalizing l with
 | zero =>
  match l, h with
  | [x], _ => exact ⟨x, rfl⟩
 | succ k ih =>
  obtain ⟨a, ha⟩ := ih (l.take (2 ^ k)) (by rw [List.length_take, h, Nat.pow_succ]; omega)
  obtain ⟨b, hb⟩ := ih (l.drop (2 ^ k)) (by rw [List.length_drop, h, Nat.pow_succ]; omega)
  exact ⟨(a, b), by show toL k a ++ toL k b = l; rw [ha, hb, List.take_append_drop]⟩
theorem toL_add (k : Nat) (a b : El k) : toL k (add k a b) = List.zipWith (· + ·) (toL k a) (toL k b) := by
 induction k with
 | zero => rfl
 | succ k ih =>
  simp only [toL, add, ih]
  rw [List.zipWith_append (by rw [toL_length, toL_length])]
theorem toL_neg (k : Nat) (a : El k) : toL k (neg k a) = (toL k a).map (- ·) := by
 induction k with
 | zero => rfl
 | succ k ih => simp only [toL, neg, ih, List.map_append]
theorem toL_zero (k : Nat) : toL k (zero k) = List.replicate (2 ^ k) 0 := by
 induction k with
 | zero => rfl
 | succ k ih =>
  simp only [toL, zero, ih]
  rw [List.replicate_append_replicate, Nat.pow_succ]
  congr 1
  omega
theorem toL_rat (k : Nat) (x : Rat) : toL k (rat k x) = x :: List.replicate (2 ^ k - 1) 0 := by
 induction k with
 | zero => rfl
 | succ k ih =>
  simp only [toL, rat, ih, toL_zero, List.cons_append]
  rw [List.replicate_append_replicate, Nat.pow_succ]
  congr 2
  have := Nat.two_pow_pos k
  omega
theorem eq_zero_iff (k : Nat) (a : El k) : a = zero k ↔ ∀ x ∈ toL k a, x = 0 := by
 constructor
 · rintro rfl x hx
   rw [toL_zero] at hx
   exact List.eq_of_mem_replicate hx
 · intro h
   apply toL_inj
   rw [toL_zero]
   exact List.eq_replicate_iff.2 ⟨toL_length k a, h⟩
theorem rat_zero (k : Nat) : rat k 0 = zero k := by
 induction k with
 | zero => rfl
 | succ k ih => simp only [rat, zero, ih]; rfl
structure Laws {α : Type} (add mul : α → α → α) (neg : α → α) (zero one : α) : Prop where
 ac : ∀ a b, add a b = add b a
 aa : ∀ a b c, add (add a b) c = add a (add b c)
 az : ∀ a, add a zero = a
 an : ∀ a, add a (neg a) = zero
 mc : ∀ a b, mul a b = mul b a
 ma : ∀ a b c, mul (mul a b) c = mul a (mul b c)
 mo : ∀ a, mul a one = a
 md : ∀ a b c, mul a (add b c) = add (mul a b) (mul a c)
section
variable {α : Type} {add mul : α → α → α} {neg : α → α} {zero one : α} (L : Laws add mul neg zero one)
include L
theorem Laws.alc (a b c : α) : add a (add b c) = add b (add a c) := by rw [← L.aa, L.ac a b, L.aa]
theorem Laws.mlc (a b c : α) : mul a (mul b c) = mul b (mul a c) := by rw [← L.ma, L.mc a b, L.ma]
theorem Laws.dm (a b c : α) : mul (add a b) c = add (mul a c) (mul b c) := by rw [L.mc, L.md, L.mc c a, L.mc c b]
theorem Laws.za (a : α) : add zero a = a := by rw [L.ac, L.az]
theorem Laws.om (a : α) : mul one a = a := by rw [L.mc, L.mo]
theorem Laws.cancel {a b c : α} (h : add a c = add b c) : a = b := by
 have : add (add a c) (neg c) = add (add b c) (neg c) := by rw [h]
 rwa [L.aa, L.aa, L.an, L.az, L.az] at this
theorem Laws.mz (a : α) : mul a zero = zero := by
 refine L.cancel (c := mul a zero) ?_
 rw [← L.md, L.za, L.za]
theorem Laws.zm (a : α) : mul zero a = zero := by rw [L.mc, L.mz]
theorem Laws.na (a : α) : add (neg a) a = zero := by rw [L.ac, L.an]
theorem Laws.nu {a b : α} (h : add a b = zero) : b = neg a := L.cancel (c := a) (by rw [L.ac, h, L.na])
theorem Laws.mn (a b : α) : mul a (neg b) = neg (mul a b) := L.nu (by rw [← L.md, L.an, L.mz])
theorem Laws.nm (a b : α) : mul (neg a) b = neg (mul a b) := by rw [L.mc, L.mn, L.mc]
theorem Laws.nn (a : α) : neg (neg a) = a := (L.nu (L.na a)).symm
theorem Laws.nd (a b : α) : neg (add a b) = add (neg a) (neg b) := (L.nu (by
 rw [L.aa, L.alc b, ← L.aa, L.an, L.za, L.an])).symm
theorem Laws.nz : neg zero = zero := (L.nu (L.az zero)).symm
theorem Laws.sub_eq {a b c d : α} (h : add a d = add c b) : add a (neg b) = add c (neg d) := by
 refine L.cancel (c := add b d) ?_
 have e1 : add (add a (neg b)) (add b d) = add a d := by rw [L.aa, ← L.aa (neg b), L.na, L.za]
 have e2 : add (add c (neg d)) (add b d) = add c b := by rw [L.aa, L.alc (neg d), L.na, L.az]
 rw [e1, e2, h]
theorem Laws.quad (r : α) : Laws (α := α × α) (fun x y => (add x.1 y.1, add x.2 y.2)) (fun x y => (add (mul x.1 y.1) (mul (mul x.2 y.2) r), add (mul x.1 y.2) (mul x.2 y.1))) (fun x => (neg x.1, neg x.2)) (zero, zero) (one, zero) where
 ac := fun a b => by simp only [L.ac]
 aa := fun a b c => by simp only [L.aa]
 az := fun a => by simp only [L.az]
 an := fun a => by simp only [L.an]
 mc := fun a b => by
  refine Prod.ext ?_ ?_
  · simp only [L.mc]
  · simp only [L.mc, L.ac]
 ma := fun a b c => by
  refine Prod.ext ?_ ?_
  · simp only [L.md, L.dm, L.ma]
    simp only [L.mc, L.mlc, L.aa, L.ac, L.alc]
  · simp only [L.md, L.dm, L.ma]
    simp only [L.mc, L.mlc, L.aa, L.ac, L.alc]
 mo := fun a => by
  refine Prod.ext ?_ ?_
  · simp only [L.mo, L.mz, L.zm, L.az]
  · simp only [L.mo, L.mz, L.za]
 md := fun a b c => by
  refine Prod.ext ?_ ?_
  · simp only [L.md, L.dm]
    simp only [L.aa, L.ac, L.alc]
  · simp only [L.md, L.dm]
    simp only [L.aa, L.ac, L.alc]
end
theorem ring (k : Nat) (t : Tw k) : Laws (add k) (mul k t) (neg k) (zero k) (rat k 1) := by
 induction k with
 | zero => exact ⟨Rat.add_comm, Rat.add_assoc, Rat.add_zero, Rat.add_neg_cancel, Rat.mul_comm, Rat.mul_assoc, Rat.mul_one, Rat.mul_add⟩
 | succ k ih => exact (ih t.1).quad t.2
def norm (k : Nat) (t : Tw (k + 1)) (a : El (k + 1)) : El k := add k (mul k t.1 a.1 a.1) (neg k (mul k t.1 (mul k t.1 a.2 a.2) t.2))
def inv : (k : Nat) → Tw k → El k → Option (El k)
 | 0 => fun _ (x : Rat) => if x = 0 then none else some (1 / x : Rat)
 | k + 1 => fun t a => match inv k t.1 (norm k t a) with
  | none => none
  | some n => some (mul k t.1 a.1 n, neg k (mul k t.1 a.2 n))
theorem norm_mul (k : Nat) (t : Tw (k + 1)) (a b : El (k + 1)) : norm k t (mul (k + 1) t a b) = mul k t.1 (norm k t a) (norm k t b) := by
 have L := ring k t.1
 have h : ∀ x y z w : El k, mul k t.1 (add k x (neg k y)) (add k z (neg k w)) = add k (add k (mul k t.1 x z) (mul k t.1 y w)) (neg k (add k (mul k t.1 x w) (mul k t.1 y z))) := by
  intro x y z w
  simp only [L.md, L.dm, L.mn, L.nm, L.nn, L.nd]
  simp only [L.aa, L.ac, L.alc]
 simp only [norm, mul]
 rw [h]
 refine L.sub_eq ?_
 simp only [L.md, L.dm, L.ma]
 simp only [L.mc, L.mlc, L.aa, L.ac, L.alc]
theorem inv_mul {k : Nat} {t : Tw k} {a b : El k} (h : inv k t a = some b) : mul k t b a = rat k 1 := by
 induction k with
 | zero =>
  have h2 : ∀ x b : Rat, (if x = 0 then none else some (1 / x)) = some b → b * x = 1 := by
   intro x b h
   split at h
   · cases h
   · rename_i hx
     injection h with h
     subst h
     exact Rat.div_mul_cancel hx
  exact h2 a b h
 | succ k ih =>
  have L := ring k t.1
  simp only [inv] at h
  split at h
  · cases h
  · rename_i n hn
    injection h with h
    subst h
    have := ih hn
    refine Prod.ext ?_ ?_
    · show add k (mul k t.1 (mul k t.1 a.1 n) a.1) (mul k t.1 (mul k t.1 (neg k (mul k t.1 a.2 n)) a.2) t.2) = rat k 1
      rw [← this, norm]
      simp only [L.md, L.mn, L.nm]
      simp only [L.ma, L.mc, L.mlc]
    · show add k (mul k t.1 (mul k t.1 a.1 n) a.2) (mul k t.1 (neg k (mul k t.1 a.2 n)) a.1) = zero k
      simp only [L.nm]
      rw [show mul k t.1 (mul k t.1 a.2 n) a.1 = mul k t.1 (mul k t.1 a.1 n) a.2 from by simp only [L.ma, L.mc, L.mlc], L.an]
def pr {k : Nat} (a b : El k) : El (k + 1) := (a, b)
def up (k : Nat) (a : El k) : El (k + 1) := (a, zero k)
def root : (k : Nat) → (i : Nat) → El k
 | 0, _ => (0 : Rat)
 | k + 1, i => if i = k then pr (zero k) (rat k 1) else up k (root k i)
theorem mul_up (k : Nat) (t : Tw (k + 1)) (a b : El k) : mul (k + 1) t (up k a) (up k b) = up k (mul k t.1 a b) := by
 have L := ring k t.1
 simp only [mul, up, L.mz, L.zm, L.az]; rfl
theorem toL_root {k i : Nat} (hi : i < k) : toL k (root k i) = (List.replicate (2 ^ k) 0).set (2 ^ i) 1 := by
 induction k with
 | zero => omega
 | succ k ih =>
  have hp : 2 ^ (k + 1) = 2 ^ k + 2 ^ k := by rw [Nat.pow_succ]; omega
  rw [hp, ← List.replicate_append_replicate]
  by_cases h : i = k
  · rw [root, if_pos h]
    subst h
    simp only [toL, pr, toL_zero, toL_rat]
    rw [List.set_append_right _ _ (by simp), List.length_replicate, Nat.sub_self]
    have h0 := Nat.two_pow_pos i
    obtain ⟨m, hm⟩ : ∃ m, 2 ^ i = m + 1 := ⟨2 ^ i - 1, by omega⟩
    rw [hm]
    rfl
  · have hik : i < k := by omega
    have hlt : 2 ^ i < 2 ^ k := Nat.pow_lt_pow_right (by decide) hik
    rw [root, if_neg h]
    simp only [toL, up, toL_zero]
    rw [ih hik, List.set_append_left _ _ (by rw [List.length_replicate]; exact hlt)]
end Go.Tow
namespace Go.Proofs.YtpgcfjpkilabfaaGreatDoor
open Go Go.Num Go.Tow Go.Vm
section
def IsD (d n : Nat) (l : List Rat) : Prop := ∀ x ∈ l, ∃ z : Int, x * (d : Rat) = (z : Rat) ∧ z.natAbs < n
theorem IsD.mono {d n m : Nat} {l : List Rat} (h : IsD d n l) (hm : n ≤ m) : IsD d m l := fun x hx =>
 let ⟨z, h1, h2⟩ := h x hx; ⟨z, h1, Nat.lt_of_lt_of_le h2 hm⟩
theorem IsD.scale {d n e : Nat} {l : List Rat} (h : IsD d n l) (he : 0 < e) : IsD (d * e) (n * e) l := fun x hx => by
 obtain ⟨z, h1, h2⟩ := h x hx
 refine ⟨z * (e : Int), ?_, ?_⟩
 · rw [Rat.natCast_mul, ← Rat.mul_assoc, h1, Rat.intCast_mul]; rfl
 · rw [Int.natAbs_mul, Int.natAbs_natCast]
   exact Nat.mul_lt_mul_of_pos_right h2 he
theorem IsD.append {d n : Nat} {l m : List Rat} (h : IsD d n l) (k : IsD d n m) : IsD d n (l ++ m) := fun x hx => (List.mem_append.1 hx).elim (h x) (k x)
theorem IsD.left {d n : Nat} {l m : List Rat} (h : IsD d n (l ++ m)) : IsD d n l := fun x hx => h x (List.mem_append_left _ hx)
theorem IsD.right {d n : Nat} {l m : List Rat} (h : IsD d n (l ++ m)) : IsD d n m := fun x hx => h x (List.mem_append_right _ hx)
theorem IsD.add {d n m : Nat} : ∀ {l l' : List Rat}, IsD d n l → IsD d m l' → IsD d (n + m) (List.zipWith (· + ·) l l')
 | [], _, _, _ => fun _ h => nomatch h
 | _ :: _, [], _, _ => fun _ h => nomatch h
 | a :: l, b :: l', h, k => fun x hx => by
  rcases List.mem_cons.1 hx with hx | hx
  · obtain ⟨z, h1, h2⟩ := h a (List.mem_cons_self ..)
    obtain ⟨w, k1, k2⟩ := k b (List.mem_cons_self ..)
    refine ⟨z + w, by rw [hx, Rat.add_mul, h1, k1, Rat.intCast_add], ?_⟩
    have := Int.natAbs_add_le z w
    omega
  · exact IsD.add (fun y hy => h y (List.mem_cons_of_mem _ hy)) (fun y hy => k y (List.mem_cons_of_mem _ hy)) x hx
theorem IsD.neg {d n : Nat} {l : List Rat} (h : IsD d n l) : IsD d n (l.map (- ·)) := fun x hx => by
 obtain ⟨y, hy, rfl⟩ := List.mem_map.1 hx
 obtain ⟨z, h1, h2⟩ := h y hy
 exact ⟨-z, by rw [Rat.neg_mul, h1, Rat.intCast_neg], by rw [Int.natAbs_neg]; exact h2⟩
theorem IsD.mul1 {d n e m : Nat} {x y : Rat} (h : IsD d n [x]) (k : IsD e m [y]) : IsD (d * e) (n * m) [x * y] := fun u hu => by
 obtain rfl := List.mem_singleton.1 hu
 obtain ⟨z, h1, h2⟩ := h x (List.mem_cons_self ..)
 obtain ⟨w, k1, k2⟩ := k y (List.mem_cons_self ..)
 refine ⟨z * w, ?_, ?_⟩
 · rw [Rat.natCast_mul, Rat.intCast_mul, ← h1, ← k1]
   grind
 · rw [Int.natAbs_mul]
   exact Nat.mul_lt_mul'' h2 k2
theorem mul_den (y : Rat) : y * (y.den : Rat) = (y.num : Rat) := by
 have hd : ((y.den : Nat) : Rat) ≠ 0 := by
  intro h
  have : ((y.den : Nat) : Rat).num = 0 := by rw [h]; rfl
  rw [Rat.num_natCast] at this
  have := y.den_nz
  omega
 have e : y = (y.num : Rat) / (y.den : Rat) := by
  conv => lhs; rw [← Rat.num_divInt_den y, Rat.divInt_eq_div]
  rfl
 conv => lhs; lhs; rw [e]
 exact Rat.div_mul_cancel hd
def Sz (p : Nat) (l : List Rat) : Prop := ∃ d : Nat, 0 < d ∧ d < 2 ^ p ∧ IsD d (2 ^ p) l
theorem Sz.mono {p q : Nat} {l : List Rat} (h : Sz p l) (hp : p ≤ q) : Sz q l := by
 obtain ⟨d, h0, h1, h2⟩ := h
 have := Nat.pow_le_pow_right (n := 2) (by decide) hp
 exact ⟨d, h0, by omega, h2.mono this⟩
theorem Sz.sub {p : Nat} {l m : List Rat} (h : Sz p l) (hs : ∀ x ∈ m, x ∈ l) : Sz p m := by
 obtain ⟨d, h0, h1, h2⟩ := h
 exact ⟨d, h0, h1, fun x hx => h2 x (hs x hx)⟩
theorem Sz.qs {p : Nat} {l : List Rat} (h : Sz p l) {x : Rat} (hx : x ∈ l) : Qs p x := by
 obtain ⟨d, h0, h1, h2⟩ := h
 obtain ⟨z, h3, h4⟩ := h2 x hx
 have hd : ((d : Nat) : Rat) ≠ 0 := by
  intro h
  have : (d : Rat).num = 0 := by rw [h]; rfl
  rw [Rat.num_natCast] at this
  omega
 have e : x = Rat.divInt z (d : Int) := by
  rw [Rat.divInt_eq_div, ← h3]
  exact (Rat.mul_div_cancel hd).symm
 rw [e]
 exact Qs.divInt h4 (by unfold Zs; rw [Int.natAbs_natCast]; exact h1) (by omega)
theorem Sz.nil : Sz 1 [] := ⟨1, by decide, by decide, fun _ h => nomatch h⟩
theorem _root_.Go.Num.Qs.isD {p : Nat} {x : Rat} (h : Qs p x) : IsD x.den (2 ^ p) [x] := fun y hy => by
 obtain rfl := List.mem_singleton.1 hy
 exact ⟨y.num, mul_den y, h.n⟩
theorem Sz.one {p : Nat} {x : Rat} (h : Qs p x) : Sz p [x] := ⟨x.den, Nat.pos_of_ne_zero x.den_nz, by have := h.d; unfold Zs at this; rwa [Int.natAbs_natCast] at this, h.isD⟩
theorem Sz.append {p q : Nat} {l m : List Rat} (h : Sz p l) (k : Sz q m) : Sz (p + q) (l ++ m) := by
 obtain ⟨d, h0, h1, h2⟩ := h
 obtain ⟨e, k0, k1, k2⟩ := k
 have hp := Nat.two_pow_pos p
 have hq := Nat.two_pow_pos q
 refine ⟨d * e, Nat.mul_pos h0 k0, by rw [Nat.pow_add]; exact Nat.mul_lt_mul'' h1 k1, ?_⟩
 refine IsD.append ((h2.scale k0).mono ?_) ?_
 · rw [Nat.pow_add]; exact Nat.mul_le_mul_left _ (Nat.le_of_lt k1)
 · rw [Nat.mul_comm d e]
   refine (k2.scale h0).mono ?_
   rw [Nat.pow_add, Nat.mul_comm]
   exact Nat.mul_le_mul_right _ (Nat.le_of_lt h1)
theorem Sz.cons {p q : Nat} {x : Rat} {m : List Rat} (h : Qs p x) (k : Sz q m) : Sz (p + q) (x :: m) := (Sz.one h).append k
theorem Sz.all {p : Nat} : ∀ {l : List Rat}, (∀ x ∈ l, Qs p x) → Sz (p * l.length + 1) l
 | [], _ => Sz.nil.mono (by omega)
 | x :: l, h => (Sz.cons (h x (List.mem_cons_self ..)) (Sz.all fun y hy => h y (List.mem_cons_of_mem _ hy))).mono (by rw [List.length_cons, Nat.mul_succ]; omega)
theorem Sz.add {p q : Nat} {l m : List Rat} (h : Sz p l) (k : Sz q m) : Sz (p + q + 1) (List.zipWith (· + ·) l m) := by
 obtain ⟨d, h0, h1, h2⟩ := h
 obtain ⟨e, k0, k1, k2⟩ := k
 have e1 := Nat.mul_lt_mul'' h1 k1
 rw [← Nat.pow_add] at e1
 refine ⟨d * e, Nat.mul_pos h0 k0, by rw [Nat.pow_succ]; omega, ?_⟩
 have a1 : IsD (d * e) (2 ^ (p + q)) l := (h2.scale k0).mono (by rw [Nat.pow_add]; exact Nat.mul_le_mul_left _ (Nat.le_of_lt k1))
 have a2 : IsD (d * e) (2 ^ (p + q)) m := by
  rw [Nat.mul_comm d e]
  exact (k2.scale h0).mono (by rw [Nat.pow_add, Nat.mul_comm]; exact Nat.mul_le_mul_right _ (Nat.le_of_lt h1))
 exact (a1.add a2).mono (by rw [Nat.pow_succ]; omega)
theorem Sz.neg {p : Nat} {l : List Rat} (h : Sz p l) : Sz p (l.map (- ·)) := by
 obtain ⟨d, h0, h1, h2⟩ := h
 exact ⟨d, h0, h1, h2.neg⟩
theorem Sz.left {p : Nat} {l m : List Rat} (h : Sz p (l ++ m)) : Sz p l := h.sub fun _ => List.mem_append_left _
theorem Sz.right {p : Nat} {l m : List Rat} (h : Sz p (l ++ m)) : Sz p m := h.sub fun _ => List.mem_append_right _
def TS (r : Nat) : (k : Nat) → Tw k → Prop
 | 0, _ => True
 | k + 1, t => TS r k t.1 ∧ Sz r (toL k t.2)
def cB (r : Nat) : Nat → Nat
 | 0 => 0
 | k + 1 => 2 * cB r k + r + 1
theorem cB_le (r k : Nat) : cB r k ≤ cB r (k + 1) := by show _ ≤ 2 * cB r k + r + 1; omega
theorem mul_isD {r k : Nat} {t : Tw k} (ht : TS r k t) : ∃ E, 0 < E ∧ E ≤ 2 ^ cB r k ∧ ∀ a b d e n m, 0 < d → 0 < e → IsD d n (toL k a) → IsD e m (toL k b) → IsD (d * e * E) (n * m * 2 ^ cB r k) (toL k (mul k t a b)) := by
 induction k with
 | zero =>
  refine ⟨1, by decide, Nat.le_refl 1, fun a b d e n m _ _ h h' => ?_⟩
  rw [Nat.mul_one, show 2 ^ cB r 0 = 1 from rfl, Nat.mul_one]
  exact h.mul1 h'
 | succ k ih =>
  obtain ⟨E, h0, h1, h2⟩ := ih ht.1
  obtain ⟨g, g0, g1, g2⟩ := ht.2
  have hC := Nat.two_pow_pos (cB r k)
  have hR := Nat.two_pow_pos r
  refine ⟨E * (E * g), Nat.mul_pos h0 (Nat.mul_pos h0 g0), ?_, fun a b d e n m hd he h h' => ?_⟩
  · have e1 : E * (E * g) ≤ 2 ^ cB r k * (2 ^ cB r k * 2 ^ r) := Nat.mul_le_mul h1 (Nat.mul_le_mul h1 (Nat.le_of_lt g1))
    rw [← Nat.pow_add, ← Nat.pow_add] at e1
    exact Nat.le_trans e1 (Nat.pow_le_pow_right (by decide) (by show _ ≤ 2 * cB r k + r + 1; omega))
  · have hg : E * g ≤ 2 ^ cB r k * 2 ^ r := Nat.mul_le_mul h1 (Nat.le_of_lt g1)
    have hEg : 0 < E * g := Nat.mul_pos h0 g0
    have hc : n * m * 2 ^ cB r (k + 1) = n * m * 2 ^ cB r k * (2 ^ cB r k * 2 ^ r) + n * m * 2 ^ cB r k * (2 ^ cB r k * 2 ^ r) := by
     rw [show cB r (k + 1) = cB r k + (cB r k + r) + 1 from by show 2 * cB r k + r + 1 = _; omega, Nat.pow_succ, Nat.pow_add, Nat.pow_add]
     rw [← Nat.mul_two, Nat.mul_assoc (n * m), Nat.mul_assoc (n * m)]
    have scale : ∀ u v : El k, IsD d n (toL k u) → IsD e m (toL k v) → IsD (d * e * (E * (E * g))) (n * m * 2 ^ cB r k * (2 ^ cB r k * 2 ^ r)) (toL k (mul k t.1 u v)) := by
     intro u v hu hv
     have := (h2 u v d e n m hd he hu hv).scale hEg
     rw [Nat.mul_assoc (d * e)] at this
     exact this.mono (Nat.mul_le_mul_left _ hg)
    show IsD _ _ (toL k (add k _ _) ++ toL k (add k _ _))
    rw [toL_add, toL_add, hc]
    refine IsD.append (IsD.add (scale _ _ h.left h'.left) ?_) (IsD.add (scale _ _ h.left h'.right) (scale _ _ h.right h'.left))
    have := h2 _ _ (d * e * E) g _ _ (Nat.mul_pos (Nat.mul_pos hd he) h0) g0 (h2 _ _ d e n m hd he h.right h'.right) g2
    rw [show d * e * E * g * E = d * e * (E * (E * g)) from by rw [Nat.mul_assoc (d * e), Nat.mul_assoc (d * e), Nat.mul_assoc E g E, Nat.mul_comm g E]] at this
    rw [show n * m * 2 ^ cB r k * 2 ^ r * 2 ^ cB r k = n * m * 2 ^ cB r k * (2 ^ cB r k * 2 ^ r) from by rw [Nat.mul_assoc (n * m * 2 ^ cB r k), Nat.mul_comm (2 ^ r)]] at this
    exact this
theorem Sz.mul {r k p q : Nat} {t : Tw k} {a b : El k} (ht : TS r k t) (h : Sz p (toL k a)) (h' : Sz q (toL k b)) : Sz (p + q + cB r k) (toL k (mul k t a b)) := by
 obtain ⟨E, e0, e1, e2⟩ := mul_isD ht
 obtain ⟨d, h0, h1, h2⟩ := h
 obtain ⟨e, k0, k1, k2⟩ := h'
 have := e2 a b d e _ _ h0 k0 h2 k2
 rw [← Nat.pow_add, ← Nat.pow_add] at this
 refine ⟨_, Nat.mul_pos (Nat.mul_pos h0 k0) e0, ?_, this⟩
 rw [Nat.pow_add, Nat.pow_add]
 have h3 := Nat.mul_lt_mul'' h1 k1
 exact Nat.lt_of_lt_of_le (Nat.mul_lt_mul_of_pos_right h3 e0) (Nat.mul_le_mul_left _ e1)
def nB (r k p : Nat) : Nat := 4 * p + 3 * cB r k + r + 1
theorem Sz.norm {r k p : Nat} {t : Tw (k + 1)} {a : El (k + 1)} (ht : TS r (k + 1) t) (h : Sz p (toL (k + 1) a)) : Sz (nB r k p) (toL k (Tow.norm k t a)) := by
 have hx : Sz p (toL k a.1) := Sz.left h
 have hy : Sz p (toL k a.2) := Sz.right h
 have h1 := Sz.mul ht.1 hx hx
 have h2 := Sz.mul ht.1 (Sz.mul ht.1 hy hy) ht.2
 rw [Tow.norm, toL_add, toL_neg]
 exact (h1.add h2.neg).mono (by unfold nB; omega)
def iB (r : Nat) : Nat → Nat → Nat
 | 0, p => p + 1
 | k + 1, p => 2 * (p + iB r k (nB r k p) + cB r k)
theorem _root_.Go.Num.Qs.inv1 {p : Nat} {x : Rat} (h : Qs p x) : Qs (p + 1) (1 / x) := by
 by_cases h0 : x = 0
 · rw [h0, show (1 / 0 : Rat) = ((0 : Int) : Rat) from by rw [Rat.div_def, Rat.inv_zero, Rat.mul_zero]; rfl]
   exact Qs.int Zs.zero (by omega)
 · rw [div_divInt _ _ h0]
   refine Qs.divInt ?_ ?_ ?_
   · rw [show (1 : Rat).num = 1 from rfl, Int.one_mul]; exact h.d.mono (by omega)
   · rw [show ((1 : Rat).den : Int) = 1 from rfl, Int.one_mul]; exact h.n.mono (by omega)
   · rw [show ((1 : Rat).den : Int) = 1 from rfl, Int.one_mul]
     exact fun e => h0 (Rat.num_eq_zero.1 e)
theorem Sz.inv {r k p : Nat} {t : Tw k} {a b : El k} (ht : TS r k t) (h : Sz p (toL k a)) (hb : Tow.inv k t a = some b) : Sz (iB r k p) (toL k b) := by
 induction k generalizing p with
 | zero =>
  have h2 : ∀ x b : Rat, (if x = 0 then none else some (1 / x)) = some b → Qs p x → Sz (p + 1) [b] := by
   intro x b h hq
   split at h
   · cases h
   · injection h with h
     subst h
     exact Sz.one hq.inv1
  exact h2 a b hb (h.qs (List.mem_singleton.2 rfl))
 | succ k ih =>
  simp only [Tow.inv] at hb
  split at hb
  · cases hb
  · rename_i n hn
    injection hb with hb
    subst hb
    have h1 := ih ht.1 (h.norm ht) hn
    have h2 := Sz.mul ht.1 (Sz.left h : Sz p (toL k a.1)) h1
    have h3 := Sz.mul ht.1 (Sz.right h : Sz p (toL k a.2)) h1
    show Sz _ (toL k _ ++ toL k (Tow.neg k _))
    rw [toL_neg]
    exact (h2.append h3.neg).mono (by show _ ≤ 2 * (p + iB r k (nB r k p) + cB r k); omega)
theorem iB_ge (r k p : Nat) : p ≤ iB r k p := by
 cases k with
 | zero => show p ≤ p + 1; omega
 | succ k => show p ≤ 2 * _; omega
theorem nB_ge (r k p : Nat) : p ≤ nB r k p := by unfold nB; omega
theorem Sz.zero (k : Nat) : Sz 1 (toL k (Tow.zero k)) := by
 rw [toL_zero]
 refine ⟨1, by decide, by decide, fun x hx => ?_⟩
 rw [List.eq_of_mem_replicate hx]
 exact ⟨0, by rw [Rat.zero_mul]; rfl, by decide⟩
theorem Sz.rat {p : Nat} (k : Nat) {x : Rat} (h : Qs p x) : Sz (p + 1) (toL k (Tow.rat k x)) := by
 rw [toL_rat]
 refine Sz.cons h ?_
 refine ⟨1, by decide, by decide, fun x hx => ?_⟩
 rw [List.eq_of_mem_replicate hx]
 exact ⟨0, by rw [Rat.zero_mul]; rfl, by decide⟩
end
section
def dqs (l : List Rat) : D := .sl 4 (l.map dq)
def dts (t : List (List Rat)) : D := .sl 1 (t.map dqs)
def fl (xs : List D) (z : D) (k : Nat) : List D := xs.take k ++ List.replicate (xs.length - k) z
theorem fl_zero {xs : List D} {z : D} {n : Nat} (h : xs.length = n) : List.replicate n z = fl xs z 0 := by simp [fl, h]
theorem fl_end {xs : List D} {z : D} {k : Nat} (h : xs.length ≤ k) : fl xs z k = xs := by rw [fl, List.take_of_length_le h, show xs.length - k = 0 by omega]; simp
theorem fl_len {xs : List D} {z : D} {k : Nat} (h : k ≤ xs.length) : (fl xs z k).length = xs.length := by simp [fl]; omega
theorem fl_set {xs : List D} {z u : D} {k : Nat} (h : xs[k]? = some u) : (fl xs z k).set k u = fl xs z (k + 1) := by
 have hk := (List.getElem?_eq_some_iff.1 h).1
 rw [fl, fl, List.set_append_right _ _ (by simp; omega), show k - (xs.take k).length = 0 by simp; omega, show xs.length - k = (xs.length - (k + 1)) + 1 by omega, List.replicate_succ, List.set_cons_zero, List.take_add_one, h]
 simp
theorem lq (l : List Rat) : (l.map dq).length = l.length := List.length_map ..
theorem lt' (l : List (List Rat)) : (l.map dqs).length = l.length := List.length_map ..
theorem qat {l : List Rat} {k : Nat} (h : k < l.length) : ∃ x, l[k]? = some x := ⟨_, List.getElem?_eq_getElem h⟩
def PredOk (f : FuncId) (l : List Rat) (φ : Rat → Prop) : Prop := ∀ x ∈ l, C0 f [.d (dq x)] (· = .b (dc (φ x)))
abbrev fnD (f : FuncId) : D := .raw (.func (.func f) #[] #[])
theorem IndexFunc_ok {f : FuncId} {l : List Rat} {φ : Rat → Prop} (hf : PredOk f l φ) (hl : l.length ≤ 1099511627776) : C0 337 [.d (dqs l), .d (fnD f)] fun v => ∃ i : Int, v = .d (.int .i64 i) ∧ (i ≥ 0 ↔ ∃ x ∈ l, φ x) := by
 refine En Tryz.func337 fun _ _ _ => ?_
 refine Lo (fun k : Nat => [(0, .d (dqs l)), (1, .d (fnD f)), (7, .d (.int .i64 l.length)), (8, .d (.int .i64 k))]) (fun _ => []) (fun k => k ≤ l.length ∧ ∀ x ∈ l.take k, ¬ φ x) (fun k => l.length - k) 0 [] rfl ⟨by omega, by simp⟩ (fun k ⟨hk, hn⟩ => ?_) (by exact ⟨by simp only [lq]; rfl, rfl, rfl, rfl, rfl⟩)
 refine By rfl (fun h => ?_) fun h => ?_
 · obtain ⟨x, hx⟩ := qat (l := l) (k := k) (by omega)
   have hm := List.mem_of_getElem? hx
   refine Ix k rfl (mp hx) ?_
   refine Ce rfl (hf x hm) ?_
   refine By rfl (fun h1 => ?_) fun h1 => ?_
   · exact Rt rfl (.one (.rf rfl) rfl rfl) ⟨k, rfl, ⟨fun _ => ⟨x, hm, h1⟩, fun _ => by omega⟩⟩
   · refine Ar (k + 1 : Nat) rfl ?_
     refine Bk (k + 1) [] rfl ⟨by omega, fun y hy => ?_⟩ (by show l.length - (k + 1) < l.length - k; omega)
     rw [List.take_add_one, hx] at hy
     rcases List.mem_append.1 hy with hy | hy
     · exact hn y hy
     · simp at hy; rw [hy]; exact h1
 · refine Rt rfl (.one (.rf rfl) rfl rfl) ⟨-1, rfl, ⟨fun h => absurd h (by decide), fun ⟨x, hx, h1⟩ => ?_⟩⟩
   rw [List.take_of_length_le (by omega)] at hn
   exact absurd h1 (hn x hx)
theorem ContainsFunc_ok {f : FuncId} {l : List Rat} {φ : Rat → Prop} (hf : PredOk f l φ) (hl : l.length ≤ 1099511627776) : C0 293 [.d (dqs l), .d (fnD f)] (· = .b (dc (∃ x ∈ l, φ x))) := by
 refine En Tryz.func293 fun _ _ _ => ?_
 refine Ca rfl (IndexFunc_ok hf hl) fun v hv => ?_
 obtain ⟨i, rfl, hi⟩ := hv
 exact R1 rfl (.bp (dc_iff.trans hi))
theorem tZero1_ok {x : Rat} {p : Nat} (hx : Qs p x) (hp : p ≤ 8796093022208) : C0 374 [.d (dq x)] (· = .b (dc (x ≠ 0))) := by
 refine En Tryz.func374 fun _ _ _ => ?_
 refine Ce rfl (qSign_ok hx hp) ?_
 refine R1 rfl (.bp ?_)
 have h0 := @Rat.num_eq_zero x
 rw [dc_iff]
 rcases cmpI_tri x.num 0 with ⟨g1, g2⟩ | ⟨g1, g2⟩ | ⟨g1, g2⟩ <;> rw [g2, ne_eq, ne_eq, ← h0] <;> omega
def Ps (p : Nat) (l : List Rat) : Prop := ∀ x ∈ l, Qs p x
theorem dc_not {p : Prop} : (!dc p) = dc (¬ p) := by rw [Bool.eq_iff_iff, Bool.not_eq_true', Bool.eq_false_iff, ne_eq, dc_iff, dc_iff]
theorem tZero_ok {l : List Rat} {p : Nat} (hx : Ps p l) (hp : p ≤ 8796093022208) (hl : l.length ≤ 1099511627776) : C0 333 [.d (dqs l)] (· = .b (dc (∀ x ∈ l, x = 0))) := by
 refine En Tryz.func333 fun _ _ _ => ?_
 refine Ce rfl (ContainsFunc_ok (φ := (· ≠ 0)) (fun x hx' => tZero1_ok (hx x hx') hp) hl) ?_
 exact R1 rfl (.bp (by rw [dc_not, dc_iff]; simp))
theorem numbers1_ok {x : Rat} {p : Nat} (hx : Qs p x) (hp : p ≤ 8796093022208) : C0 294 [.d (dq x)] (· = .b (dc False)) := by
 refine En Tryz.func294 fun _ _ _ => ?_
 refine Ce rfl (qValid_ok hx hp) ?_
 exact R1 rfl (.bp (by simp [dc_iff]))
theorem numbers_ok {l : List Rat} {p n : Nat} (hx : Ps p l) (hp : p ≤ 8796093022208) (hl : l.length ≤ 1099511627776) (hn : l.length = n) : C0 218 [.d (dqs l), .d (.int .i64 n)] (· = .b true) := by
 refine En Tryz.func218 fun _ _ _ => ?_
 refine Yes rfl (by simp only [lq, hn]) ?_
 refine Ce rfl (ContainsFunc_ok (φ := fun _ => False) (fun x hx' => numbers1_ok (hx x hx') hp) hl) ?_
 exact R1 rfl (by exact (show (!dc (∃ x ∈ l, False)) = true by rw [dc_not, dc_iff]; simp) ▸ .rf rfl)
theorem shl_one {k : Nat} (hk : k ≤ 40) : arB .shl .i64 1 k (2 ^ k : Nat) := by
 have h1 : 2 ^ k ≤ 2 ^ 40 := Nat.pow_le_pow_right (by decide) hk
 obtain ⟨m, hm⟩ : ∃ m, m = 2 ^ k := ⟨_, rfl⟩
 rw [← hm] at h1 ⊢
 refine ⟨by omega, ?_⟩
 rw [Int.toNat_natCast, Nat.min_eq_left (by show k ≤ 64; omega), show (1 : Int) * 2 ^ k = (m : Int) by rw [hm, Int.natCast_pow]; simp]
 exact wI (by omega)
def Pt (p : Nat) (t : List (List Rat)) : Prop := ∀ i r, t[i]? = some r → r.length = 2 ^ i ∧ Ps p r
theorem p2le {k m : Nat} (h : k ≤ m) : 2 ^ k ≤ 2 ^ m := Nat.pow_le_pow_right (by decide) h
theorem radicands_ok {t : List (List Rat)} {p : Nat} (ht : Pt p t) (hp : p ≤ 8796093022208) (hl : t.length ≤ 40) : C0 217 [.d (dts t)] (· = .b true) := by
 refine En Tryz.func217 fun _ _ _ => ?_
 refine Lo (fun k : Nat => [(0, .d (dts t)), (5, .d (dts t)), (6, .d (.int .i64 t.length)), (7, .d (.int .i64 k))]) (fun _ => []) (fun k => k ≤ t.length) (fun k => t.length - k) 0 [] rfl (by omega) (fun k hk => ?_) (by exact ⟨by simp only [lt']; rfl, rfl, rfl, rfl, rfl⟩)
 refine By rfl (fun h => ?_) fun h => ?_
 · obtain ⟨r, hr⟩ : ∃ r, t[k]? = some r := ⟨_, List.getElem?_eq_getElem (by omega)⟩
   obtain ⟨h1, h2⟩ := ht k r hr
   have := p2le (show k ≤ 40 by omega)
   refine Ix k rfl (mp hr) ?_
   refine Ar (2 ^ k : Nat) rfl ?_ (shl_one (by omega))
   refine Ce rfl (numbers_ok h2 hp (by omega) h1) ?_
   refine No rfl (by simp) ?_
   refine Ar (k + 1 : Nat) rfl ?_
   exact Bk (k + 1) [] rfl (show k + 1 ≤ t.length by omega) (by show t.length - (k + 1) < t.length - k; omega)
 · exact R0
theorem tFormed_ok {t : List (List Rat)} {l : List Rat} {p q : Nat} (ht : Pt p t) (hp : p ≤ 8796093022208) (hx : Ps q l) (hq : q ≤ 8796093022208) (hl : t.length ≤ 39) (hn : l.length = 2 ^ t.length) : C0 127 [.d (dts t), .d (dqs l)] (· = .b true) := by
 have := p2le (show t.length ≤ 39 by omega)
 refine En Tryz.func127 fun _ _ _ => ?_
 refine Ce rfl (radicands_ok ht hp (by omega)) ?_
 refine Yes rfl rfl ?_
 refine Ar (2 ^ t.length : Nat) rfl ?_ (by simp only [lt']; exact shl_one (by omega))
 refine Ce rfl (numbers_ok hx hq (by omega) hn) ?_
 exact R0
theorem tformed_ok {t : List (List Rat)} {l m : List Rat} {p q r : Nat} (ht : Pt p t) (hp : p ≤ 8796093022208) (hx : Ps q l) (hq : q ≤ 8796093022208) (hy : Ps r m) (hr : r ≤ 8796093022208) (hl : t.length ≤ 39) (hn : l.length = 2 ^ t.length) (hm : m.length = 2 ^ t.length) : C0 284 [.d (dts t), .d (dqs l), .d (dqs m)] (· = .b true) := by
 have := p2le (show t.length ≤ 39 by omega)
 refine En Tryz.func284 fun _ _ _ => ?_
 refine Ce rfl (tFormed_ok ht hp hx hq hl hn) ?_
 refine Yes rfl rfl ?_
 refine Ar (2 ^ t.length : Nat) rfl ?_ (by simp only [lt']; exact shl_one (by omega))
 refine Ce rfl (numbers_ok hy hr (by omega) hm) ?_
 exact R0
theorem zeros_ok {n : Nat} (hn : n ≤ 1073741824) : CA0 302 [.d (.int .i64 n)] 4 ((List.replicate n (0 : Rat)).map dq) := by
 obtain ⟨xs, hxs⟩ : ∃ xs, xs = (List.replicate n (0 : Rat)).map dq := ⟨_, rfl⟩
 have hlen : xs.length = n := by rw [hxs]; simp
 rw [← hxs]
 refine EnW Tryz.func302 fun _ _ _ _ => ?_
 refine Mk n rfl (by omega) ?_
 refine Lo (fun k : Nat => [(3, .own 6 4 0 n), (8, .d (.int .i64 n)), (9, .d (.int .i64 k))]) (fun k => [(6, .arr 4 (fl xs rz k))]) (fun k => k ≤ n) (fun k => n - k) 0 [] rfl (by omega) (fun k hk => ?_) (by exact ⟨rfl, by rw [← fl_zero hlen]; rfl, rfl, rfl, rfl⟩)
 refine By rfl (fun h => ?_) fun h => ?_
 · refine Ce rfl (qFromInt_ok (z := 0) (by decide)) ?_
   refine Eo k rfl (by omega) ?_
   refine Sto rfl (by rw [fl_len (by omega)]; omega) (fl_set (u := dq 0) (by rw [hxs, List.getElem?_map, List.getElem?_replicate, if_pos (by omega)]; rfl)) ?_
   refine Ar (k + 1 : Nat) rfl ?_
   exact Bk (k + 1) [] rfl (show k + 1 ≤ n by omega) (by show n - (k + 1) < n - k; omega)
 · exact Rw [(6, 1000000)] [(1000000, .arr 4 xs)] rfl (.one (.rf rfl) rfl rfl) ⟨_, rfl, by rw [hlen]; rfl, rfl⟩ (by rw [fl_end (by omega)]; rfl)
end
section
theorem tadd_ok {xs ys : List Rat} {p q : Nat} (hl : xs.length = ys.length) (hn : xs.length ≤ 1073741824) (hx : Ps p xs) (hy : Ps q ys) (hp : p + q + 1 ≤ 8796093022208) : CA0 285 [.d (dqs xs), .d (dqs ys)] 4 ((List.zipWith (· + ·) xs ys).map dq) := by
 obtain ⟨zs, hzs⟩ : ∃ zs, zs = (List.zipWith (· + ·) xs ys).map dq := ⟨_, rfl⟩
 have hlen : zs.length = xs.length := by rw [hzs]; simp; omega
 rw [← hzs]
 refine EnW Tryz.func285 fun _ _ _ _ => ?_
 refine Mk xs.length rfl (by simp only [lq]; omega) ?_ (by simp only [lq])
 refine Lo (fun k : Nat => [(0, .d (dqs xs)), (1, .d (dqs ys)), (5, .own 9 4 0 xs.length), (11, .d (.int .i64 xs.length)), (12, .d (.int .i64 k))]) (fun k => [(9, .arr 4 (fl zs rz k))]) (fun k => k ≤ xs.length) (fun k => xs.length - k) 0 [] rfl (by omega) (fun k hk => ?_) (by exact ⟨rfl, by rw [← fl_zero hlen]; rfl, rfl, rfl, rfl⟩)
 refine By rfl (fun h => ?_) fun h => ?_
 · obtain ⟨x, hx'⟩ := qat (l := xs) (k := k) (by omega)
   obtain ⟨y, hy'⟩ := qat (l := ys) (k := k) (by omega)
   refine Dw rfl ?_
   refine Ix k rfl (mp hx') ?_
   refine Ix k rfl (mp hy') ?_
   refine Ce rfl (qAdd_ok (hx x (List.mem_of_getElem? hx')) (hy y (List.mem_of_getElem? hy')) hp) ?_
   refine Eo k rfl (by omega) ?_
   refine Sto rfl (by rw [fl_len (by omega)]; omega) (fl_set (u := dq (x + y)) (by rw [hzs, List.getElem?_map, List.getElem?_zipWith, hx', hy']; rfl)) ?_
   refine Ar (k + 1 : Nat) rfl ?_
   exact Bk (k + 1) [] rfl (show k + 1 ≤ xs.length by omega) (by show xs.length - (k + 1) < xs.length - k; omega)
 · exact Rw [(9, 1000000)] [(1000000, .arr 4 zs)] rfl (.one (.rf rfl) rfl rfl) ⟨_, rfl, by rw [hlen]; rfl, rfl⟩ (by rw [fl_end (by omega)]; rfl)
theorem tneg_ok {xs : List Rat} {p : Nat} (hn : xs.length ≤ 1073741824) (hx : Ps p xs) (hp : p ≤ 8796093022208) : CA0 128 [.d (dqs xs)] 4 ((xs.map (- ·)).map dq) := by
 obtain ⟨zs, hzs⟩ : ∃ zs, zs = (xs.map (- ·)).map dq := ⟨_, rfl⟩
 have hlen : zs.length = xs.length := by rw [hzs]; simp
 rw [← hzs]
 refine EnW Tryz.func128 fun _ _ _ _ => ?_
 refine Mk xs.length rfl (by simp only [lq]; omega) ?_ (by simp only [lq])
 refine Lo (fun k : Nat => [(3, .own 8 4 0 xs.length), (9, .d (dqs xs)), (10, .d (.int .i64 xs.length)), (11, .d (.int .i64 k))]) (fun k => [(8, .arr 4 (fl zs rz k))]) (fun k => k ≤ xs.length) (fun k => xs.length - k) 0 [] rfl (by omega) (fun k hk => ?_) (by exact ⟨by simp only [lq]; rfl, by rw [← fl_zero hlen]; rfl, rfl, rfl, rfl⟩)
 refine By rfl (fun h => ?_) fun h => ?_
 · obtain ⟨x, hx'⟩ := qat (l := xs) (k := k) (by omega)
   refine Ix k rfl (mp hx') ?_
   refine Ce rfl (qNeg_ok (hx x (List.mem_of_getElem? hx')) hp) ?_
   refine Eo k rfl (by omega) ?_
   refine Sto rfl (by rw [fl_len (by omega)]; omega) (fl_set (u := dq (-x)) (by rw [hzs, List.getElem?_map, List.getElem?_map, hx']; rfl)) ?_
   refine Ar (k + 1 : Nat) rfl ?_
   exact Bk (k + 1) [] rfl (show k + 1 ≤ xs.length by omega) (by show xs.length - (k + 1) < xs.length - k; omega)
 · exact Rw [(8, 1000000)] [(1000000, .arr 4 zs)] rfl (.one (.rf rfl) rfl rfl) ⟨_, rfl, by rw [hlen]; rfl, rfl⟩ (by rw [fl_end (by omega)]; rfl)
theorem quo2 {m h : Nat} (e : m = 2 * h) (hh : h ≤ 1073741824) : arB .quo .i64 m 2 h := show _ ∧ _ from ⟨by decide, by rw [show Int.tdiv (m : Int) 2 = ((m / 2 : Nat) : Int) from rfl, show m / 2 = h by omega]; exact wI (by omega)⟩
theorem halves_ok {l m : List Rat} (h : l.length = m.length) (hl : l.length ≤ 1073741824) : C0 341 [.d (dqs (l ++ m))] (· = .tup (.pr (.d (dqs l)) (.d (dqs m)))) := by
 have e : ((l ++ m).map dq).length = 2 * l.length := by rw [lq, List.length_append]; omega
 refine En Tryz.func341 fun _ _ _ => ?_
 refine Dw rfl ?_
 refine Ar l.length rfl ?_ (quo2 e hl)
 refine Tk l.length (l.map dq) rfl rfl (by omega) (by rw [← List.map_take, List.take_left]) ?_
 refine Ar l.length rfl ?_ (quo2 e hl)
 refine Dp l.length (m.map dq) rfl rfl (by omega) (by rw [← List.map_drop, List.drop_left]) ?_
 exact R0t
theorem split_ok {t : List (List Rat)} {r : List Rat} (hl : t.length ≤ 1073741824) : C0 340 [.d (dts (t ++ [r]))] (· = .tup (.pr (.d (dts t)) (.d (dqs r)))) := by
 have e : ((t ++ [r]).map dqs).length = t.length + 1 := by rw [lt', List.length_append]; rfl
 refine En Tryz.func340 fun _ _ _ => ?_
 refine Dw rfl ?_
 refine Ar t.length rfl ?_ (wr (by omega) (by simp only [inK]; omega))
 refine Tk t.length (t.map dqs) rfl rfl (by omega) (by rw [← List.map_take, List.take_left]) ?_
 refine Ar t.length rfl ?_ (wr (by omega) (by simp only [inK]; omega))
 refine Ix t.length rfl (u := dqs r) (mp (by simp)) ?_
 exact R0t
end
section
abbrev de {k : Nat} (a : El k) : D := dqs (toL k a)
abbrev dt {k : Nat} (t : Tw k) : D := dts (toT k t)
theorem _root_.Go.Proofs.YtpgcfjpkilabfaaGreatDoor.Sz.ps {p : Nat} {l : List Rat} (h : Sz p l) : Ps p l := fun _ hx => h.qs hx
theorem zero_mul' {k : Nat} {t : Tw k} {a b : El k} (h : (∀ x ∈ toL k a, x = 0) ∨ (∀ x ∈ toL k b, x = 0)) : toL k (mul k t a b) = List.replicate (2 ^ k) 0 := by
 have L := ring k t
 rcases h with h | h
 · rw [(eq_zero_iff k a).2 h, L.zm, toL_zero]
 · rw [(eq_zero_iff k b).2 h, L.mz, toL_zero]
theorem p16 {k : Nat} (h : k ≤ 16) : 2 ^ k ≤ 65536 := p2le h
def MulR (k : Nat) (xs : List D) (v : AV) (H' : Hpl) : Prop := (k = 0 ∧ v = .lit 4 xs ∧ H' = []) ∨ (v = .own 1000000 4 0 xs.length ∧ H' = [(1000000, .arr 4 xs)])
theorem tmul_own : ∀ {k : Nat} {r s s' : Nat} {t : Tw k} {a b : El k}, TS r k t → Sz s (toL k a) → Sz s' (toL k b) → k ≤ 16 → s + s' + cB r k ≤ 4398046511104 → CW0 296 [.d (dt t), .d (de a), .d (de b)] [] (MulR k ((toL k (mul k t a b)).map dq)) := by
 intro k
 induction k with
 | zero =>
  intro r s s' t a b hT ha hb hk hs
  refine EnW Tryz.func296 fun _ _ _ _ => ?_
  refine Yes rfl rfl ?_
  refine Dw rfl ?_
  refine Ix 0 rfl (u := dq a) rfl ?_
  refine Ix 0 rfl (u := dq b) rfl ?_
  refine Ce rfl (qMul_ok (ha.qs (List.mem_singleton.2 rfl)) (hb.qs (List.mem_singleton.2 rfl)) (by omega)) ?_
  exact Rw [] [] rfl (.one (.rf rfl) rfl rfl) (.inl ⟨rfl, rfl, rfl⟩)
 | succ k ih =>
  intro r s s' t a b hT ha hb hk hs
  have hp := p16 hk
  have hp1 : 2 ^ (k + 1) = 2 * 2 ^ k := by rw [Nat.pow_succ]; omega
  have hcB : cB r (k + 1) = 2 * cB r k + r + 1 := rfl
  have hax : Sz s (toL k a.1) := Sz.left ha
  have hay : Sz s (toL k a.2) := Sz.right ha
  have hbx : Sz s' (toL k b.1) := Sz.left hb
  have hby : Sz s' (toL k b.2) := Sz.right hb
  have hlen := toL_length k
  have ihd : ∀ {p q : Nat} {x y : El k}, Sz p (toL k x) → Sz q (toL k y) → p + q + cB r k ≤ 4398046511104 → C0 296 [.d (dt t.1), .d (de x), .d (de y)] (· = .d (de (mul k t.1 x y))) := fun hx hy h =>
   CW.data (ih hT.1 hx hy (by omega) h) rfl fun v H' hv => by
    rcases hv with ⟨_, rfl, rfl⟩ | ⟨rfl, rfl⟩
    · exact ⟨_, .one (.lit rfl) rfl rfl, rfl⟩
    · exact ⟨_, .one (.own rfl (by simp) (by rw [List.drop_zero, List.take_length])) rfl rfl, rfl⟩
  refine EnW Tryz.func296 fun _ _ _ _ => ?_
  refine No rfl (by simp only [lt', toT_length]; omega) ?_
  refine Cu (some 3) (fun (b' : Bool) => [(0, .d (dt t)), (1, .d (de a)), (2, .d (de b)), (26, .b b')]) (fun _ => []) (fun b' => b' = true → (∀ x ∈ toL (k + 1) a, x = 0) ∨ (∀ x ∈ toL (k + 1) b, x = 0)) rfl ?_ fun b' hb' => ?_
  · refine Ce rfl (tZero_ok ha.ps (by omega) (by rw [toL_length]; omega)) ?_
    refine By rfl (fun h => ?_) fun h => ?_
    · exact Jn true [] rfl fun _ => .inl h
    · refine Ce rfl (tZero_ok hb.ps (by omega) (by rw [toL_length]; omega)) ?_
      exact Jn (dc _) [] rfl fun e => .inr (dc_iff.1 e)
  refine By rfl (fun h => ?_) fun h => ?_
  · have hz := zero_mul' (t := t) (hb' h)
    refine Cr (sz := 4) (xs := (List.replicate (2 ^ (k + 1)) (0 : Rat)).map dq) rfl (by
     simp only [lq, toL_length]
     exact zeros_ok (by omega)) ?_
    exact Rw [(35, 1000000)] [(1000000, .arr 4 _)] rfl (.one (.rf rfl) rfl rfl) (.inr ⟨by rw [hz]; rfl, by rw [hz]⟩)
  refine Ce rfl (split_ok (t := toT k t.1) (r := toL k t.2) (by rw [toT_length]; omega)) ?_
  refine Ce rfl (halves_ok (l := toL k a.1) (m := toL k a.2) (by rw [hlen, hlen]) (by rw [hlen]; omega)) ?_
  refine Ce rfl (halves_ok (l := toL k b.1) (m := toL k b.2) (by rw [hlen, hlen]) (by rw [hlen]; omega)) ?_
  refine Ce rfl (ihd hax hbx (by omega)) ?_
  refine Ce rfl (ihd hay hby (by omega)) ?_
  refine Ce rfl (ihd (hay.mul hT.1 hby) hT.2 (by omega)) ?_
  refine Cr rfl (tadd_ok (by rw [hlen, hlen]) (by rw [hlen]; omega) (hax.mul hT.1 hbx).ps ((hay.mul hT.1 hby).mul hT.1 hT.2).ps (by omega)) ?_
  refine Ce rfl (ihd hax hby (by omega)) ?_
  refine Ce rfl (ihd hay hbx (by omega)) ?_
  refine Ce rfl (CA.data (tadd_ok (by rw [hlen, hlen]) (by rw [hlen]; omega) (hax.mul hT.1 hby).ps (hay.mul hT.1 hbx).ps (by omega))) ?_
  refine ApO ((toL (k + 1) (mul (k + 1) t a b)).map dq) rfl rfl rfl (by
   rw [← List.map_append, ← toL_add, ← toL_add]; rfl) (by rw [lq, toL_length]; omega) ?_
  exact Rw [(73, 1000000)] [(1000000, .arr 4 _)] rfl (.one (.rf rfl) rfl rfl) (.inr ⟨rfl, rfl⟩)
end
section
theorem tmul_ok {k : Nat} {r s s' : Nat} {t : Tw k} {a b : Tow.El k} (hT : TS r k t) (ha : Sz s (toL k a)) (hb : Sz s' (toL k b)) (hk : k ≤ 16) (hs : s + s' + cB r k ≤ 4398046511104) : C0 296 [.d (dt t), .d (de a), .d (de b)] (· = .d (de (mul k t a b))) :=
 CW.data (tmul_own hT ha hb hk hs) rfl fun v H' hv => by
  rcases hv with ⟨_, rfl, rfl⟩ | ⟨rfl, rfl⟩
  · exact ⟨_, .one (.lit rfl) rfl rfl, rfl⟩
  · exact ⟨_, .one (.own rfl (by simp) (by rw [List.drop_zero, List.take_length])) rfl rfl, rfl⟩
theorem tadd_el {k p q : Nat} {a b : Tow.El k} (hk : k ≤ 16) (ha : Ps p (toL k a)) (hb : Ps q (toL k b)) (hp : p + q + 1 ≤ 8796093022208) : C0 285 [.d (de a), .d (de b)] (· = .d (de (Tow.add k a b))) := by
 have := CA.data (tadd_ok (by rw [toL_length, toL_length]) (by rw [toL_length]; have := p16 hk; omega) ha hb hp)
 rwa [← toL_add] at this
theorem tneg_el {k p : Nat} {a : Tow.El k} (hk : k ≤ 16) (ha : Ps p (toL k a)) (hp : p ≤ 8796093022208) : C0 128 [.d (de a)] (· = .d (de (Tow.neg k a))) := by
 have := CA.data (tneg_ok (by rw [toL_length]; have := p16 hk; omega) ha hp)
 rwa [← toL_neg] at this
theorem split_el {k : Nat} {t : Tw (k + 1)} (hk : k ≤ 16) : C0 340 [.d (dt t)] (· = .tup (.pr (.d (dt t.1)) (.d (de t.2)))) := split_ok (by rw [toT_length]; omega)
theorem halves_el {k : Nat} {a : Tow.El (k + 1)} (hk : k ≤ 16) : C0 341 [.d (de a)] (· = .tup (.pr (.d (de a.1)) (.d (de a.2)))) := halves_ok (by rw [toL_length, toL_length]) (by rw [toL_length]; have := p16 hk; omega)
theorem neg_sz {k p : Nat} {a : Tow.El k} (h : Sz p (toL k a)) : Sz p (toL k (Tow.neg k a)) := by rw [toL_neg]; exact h.neg
theorem tnorm_ok {k r s : Nat} {t : Tw (k + 1)} {a : Tow.El (k + 1)} (hT : TS r (k + 1) t) (ha : Sz s (toL (k + 1) a)) (hk : k + 1 ≤ 16) (hs : nB r k s ≤ 4398046511104) : C0 396 [.d (dt t), .d (de a)] (· = .d (de (Tow.norm k t a))) := by
 have hn : nB r k s = 4 * s + 3 * cB r k + r + 1 := rfl
 have hx : Sz s (toL k a.1) := Sz.left ha
 have hy : Sz s (toL k a.2) := Sz.right ha
 refine En Tryz.func396 fun _ _ _ => ?_
 refine Ce rfl (split_el (by omega)) ?_
 refine Ce rfl (halves_el (by omega)) ?_
 refine Ce rfl (tmul_ok hT.1 hx hx (by omega) (by omega)) ?_
 refine Ce rfl (tmul_ok hT.1 hy hy (by omega) (by omega)) ?_
 refine Ce rfl (tmul_ok hT.1 (hy.mul hT.1 hy) hT.2 (by omega) (by omega)) ?_
 refine Ce rfl (tneg_el (by omega) ((hy.mul hT.1 hy).mul hT.1 hT.2).ps (by omega)) ?_
 refine Ce rfl (tadd_el (by omega) (hx.mul hT.1 hx).ps (neg_sz ((hy.mul hT.1 hy).mul hT.1 hT.2)).ps (by omega)) ?_
 exact R0
theorem iB_norm {r k p q : Nat} (h : iB r (k + 1) p ≤ q) : nB r k p ≤ q ∧ p + iB r k (nB r k p) + cB r k ≤ q := by
 have h1 := iB_ge r k (nB r k p)
 have h2 : iB r (k + 1) p = 2 * (p + iB r k (nB r k p) + cB r k) := rfl
 omega
theorem inv0 (x : Rat) : Tow.inv 0 () x = if x = 0 then none else some (1 / x : Rat) := rfl
theorem inv0_iff (y : Rat) : (∃ x, Tow.inv 0 () y = some x) ↔ y ≠ 0 := by
 rw [inv0]
 by_cases h : y = 0
 · rw [if_pos h]; exact ⟨(fun ⟨x, h⟩ => nomatch h), fun h2 => absurd h h2⟩
 · rw [if_neg h]; exact ⟨fun _ => h, fun _ => ⟨_, rfl⟩⟩
theorem tinv0 {y : Rat} {s : Nat} (hq : Qs s y) (hs : s + 1 ≤ 8796093022208) : C0 395 [.d (dts []), .d (dqs [y])] fun v => ∃ w : D, v = .tup (.pr (.d w) (.b (dc (y ≠ 0)))) ∧ (y ≠ 0 → w = dqs [1 / y]) := by
 have h1 : Qs 1 (1 : Rat) := Qs.int (z := 1) (Zs.one (Nat.le_refl 1)) (Nat.le_refl 1)
 refine En Tryz.func395 fun _ _ _ => ?_
 refine Yes rfl rfl ?_
 refine Dw rfl ?_
 refine Ce rfl (qFromInt_ok (z := 1) (by decide)) ?_
 refine Ix 0 rfl (u := dq y) rfl ?_
 by_cases h0 : y = 0
 · refine Ce rfl (qDiv0_ok h0) ?_
   exact Rt rfl (.tup (.cons (.lit rfl) (.one (by exact .bp ⟨fun h => absurd (dc_iff.1 h) (by decide), fun h => absurd h0 h⟩) (fun _ _ e => by cases e) (fun _ _ e => by cases e)))) ⟨_, rfl, fun h => absurd h0 h⟩
 · refine Ce rfl (qDiv_ok h1 hq (by omega) h0) ?_
   exact Rt rfl (.tup (.cons (.lit rfl) (.one (by exact .bp ⟨fun _ => h0, fun _ => dc_iff.2 rfl⟩) (fun _ _ e => by cases e) (fun _ _ e => by cases e)))) ⟨_, rfl, fun _ => rfl⟩
theorem tinverse_ok : ∀ {k : Nat} {r s : Nat} {t : Tw k} {a : Tow.El k}, TS r k t → Sz s (toL k a) → k ≤ 16 → iB r k s ≤ 4398046511104 → C0 395 [.d (dt t), .d (de a)] fun v => ∃ w : D, v = .tup (.pr (.d w) (.b (dc (∃ x, Tow.inv k t a = some x)))) ∧ ∀ x, Tow.inv k t a = some x → w = de x := by
 intro k
 induction k with
 | zero =>
  intro r s t a hT ha hk hs
  have hb : iB r 0 s = s + 1 := rfl
  have key : ∀ y : Rat, Qs s y → C0 395 [.d (dts []), .d (dqs [y])] fun v => ∃ w : D, v = .tup (.pr (.d w) (.b (dc (∃ x, Tow.inv 0 () y = some x)))) ∧ ∀ x : Rat, Tow.inv 0 () y = some x → w = dqs [x] := fun y hq => by
   refine C.mono (tinv0 hq (by omega)) fun v ⟨w, e, h⟩ => ⟨w, by rw [e]; congr 4; exact propext (inv0_iff y).symm, fun x hx => ?_⟩
   have h0 := (inv0_iff y).1 ⟨x, hx⟩
   rw [h h0]
   rw [inv0, if_neg h0] at hx
   injection hx with hx
   rw [← hx]
  exact key a (ha.qs (List.mem_singleton.2 rfl))
 | succ k ih =>
  intro r s t a hT ha hk hs
  have hx : Sz s (toL k a.1) := Sz.left ha
  have hy : Sz s (toL k a.2) := Sz.right ha
  obtain ⟨hi1, hi2⟩ := iB_norm hs
  have hN := ha.norm hT
  have hge := iB_ge r k (nB r k s)
  have hinv : Tow.inv (k + 1) t a = match Tow.inv k t.1 (Tow.norm k t a) with | none => none | some x => some (mul k t.1 a.1 x, Tow.neg k (mul k t.1 a.2 x)) := rfl
  refine En Tryz.func395 fun _ _ _ => ?_
  refine No rfl (by simp only [lt', toT_length]; omega) ?_
  refine Ce rfl (split_el (by omega)) ?_
  refine Ce rfl (tnorm_ok hT ha hk (by omega)) ?_
  refine Ca rfl (ih hT.1 hN (by omega) (by omega)) fun v hv => ?_
  obtain ⟨w, rfl, hw⟩ := hv
  refine By rfl (fun h => ?_) fun h => ?_
  · have h : ¬ ∃ x, Tow.inv k t.1 (Tow.norm k t a) = some x := by simpa [dc_not, dc_iff] using h
    have e0 : Tow.inv (k + 1) t a = none := by
     rw [hinv]
     cases hh : Tow.inv k t.1 (Tow.norm k t a) with
     | none => rfl
     | some x => exact absurd ⟨x, hh⟩ h
    exact Rt rfl (.tup (.cons (.nil (sz := 4) rfl) (.one (by exact .bp (c := false) (p := ∃ x, Tow.inv (k + 1) t a = some x) ⟨nofun, fun ⟨x, h⟩ => by rw [e0] at h; cases h⟩) (fun _ _ e => by cases e) (fun _ _ e => by cases e)))) ⟨_, rfl, fun x h => by rw [e0] at h; cases h⟩
  · obtain ⟨x, hx'⟩ : ∃ x, Tow.inv k t.1 (Tow.norm k t a) = some x := by simpa [dc_not, dc_iff] using h
    obtain rfl := hw x hx'
    rw [hx'] at hinv
    have hzx := hN.inv hT.1 hx'
    have hpk := p16 (show k ≤ 16 by omega)
    refine Ce rfl (halves_el (by omega)) ?_
    refine Cw [] rfl (tmul_own hT.1 hx hzx (by omega) (by omega)) fun v H' _ hv => ?_
    have fin : ∀ {zs : List D}, zs = (toL k (mul k t.1 a.1 x)).map dq ++ (toL k (Tow.neg k (mul k t.1 a.2 x))).map dq → zs = (toL (k + 1) (mul k t.1 a.1 x, Tow.neg k (mul k t.1 a.2 x))).map dq := fun h => by rw [h, ← List.map_append]; rfl
    have hb : (true = true ↔ ∃ x, Tow.inv (k + 1) t a = some x) := ⟨fun _ => ⟨_, hinv⟩, fun _ => rfl⟩
    rcases hv with ⟨hk0, rfl, rfl⟩ | ⟨rfl, rfl⟩
    · refine Ce rfl (tmul_ok hT.1 hy hzx (by omega) (by omega)) ?_
      refine Ce rfl (tneg_el (by omega) (hy.mul hT.1 hzx).ps (by omega)) ?_
      refine ApL _ rfl rfl (by rw [lq, toL_length]; exact Nat.two_pow_pos k) (by rw [List.length_append, lq, lq, toL_length, toL_length]; omega) ?_
      exact Rt rfl (.tup (.cons (.own rfl (by rw [Nat.zero_add]; exact Nat.le_refl _) rfl) (.one (by exact .bp (c := true) hb) (fun _ _ e => by cases e) (fun _ _ e => by cases e)))) ⟨_, rfl, fun y h => by rw [hinv] at h; injection h with h; rw [← h, List.drop_zero, List.take_length, fin rfl]; rfl⟩
    · refine Ce rfl (tmul_ok hT.1 hy hzx (by omega) (by omega)) ?_
      refine Ce rfl (tneg_el (by omega) (hy.mul hT.1 hzx).ps (by omega)) ?_
      refine ApO _ rfl rfl rfl rfl (by rw [List.length_append, lq, lq, toL_length, toL_length]; omega) ?_
      exact Rt rfl (.tup (.cons (.own rfl (by rw [Nat.zero_add]; exact Nat.le_refl _) rfl) (.one (by exact .bp (c := true) hb) (fun _ _ e => by cases e) (fun _ _ e => by cases e)))) ⟨_, rfl, fun y h => by rw [hinv] at h; injection h with h; rw [← h, List.drop_zero, List.take_length, fin rfl]; rfl⟩
end
section
theorem toT_get : ∀ {k : Nat} {t : Tw k} {r : Nat}, TS r k t → ∀ {i : Nat} {l : List Rat}, (toT k t)[i]? = some l → l.length = 2 ^ i ∧ Sz r l
 | 0, _, _, _, _, _, h => by simp [toT] at h
 | k + 1, t, r, hT, i, l, h => by
  by_cases hi : i < k
  · rw [toT, List.getElem?_append_left (by rw [toT_length]; exact hi)] at h
    exact toT_get hT.1 h
  · have := (List.getElem?_eq_some_iff.1 h).1
    rw [toT_length] at this
    have hik : i = k := by omega
    subst hik
    rw [toT, List.getElem?_append_right (by rw [toT_length]; exact Nat.le_refl _), toT_length, Nat.sub_self] at h
    simp at h
    rw [← h]
    exact ⟨toL_length _ _, hT.2⟩
theorem TS.pt {k r : Nat} {t : Tw k} (h : TS r k t) : Pt r (toT k t) := fun i l hl => ⟨(toT_get h hl).1, (toT_get h hl).2.ps⟩
theorem nlen {k : Nat} (t : Tw k) (a : Tow.El k) : (toL k a).length = 2 ^ (toT k t).length := by rw [toL_length, toT_length]
section
variable {k r s s' : Nat} {t : Tw k} {a b : Tow.El k}
theorem tFormed_el (hT : TS r k t) (ha : Sz s (toL k a)) (hk : k ≤ 16) (hs : s ≤ 4398046511104) (hr : r ≤ 4398046511104) : C0 127 [.d (dt t), .d (de a)] (· = .b true) := tFormed_ok (TS.pt hT) (by omega) ha.ps (by omega) (by rw [toT_length]; omega) (nlen t a)
theorem tformed_el (hT : TS r k t) (ha : Sz s (toL k a)) (hb : Sz s' (toL k b)) (hk : k ≤ 16) (hs : s + s' ≤ 4398046511104) (hr : r ≤ 4398046511104) : C0 284 [.d (dt t), .d (de a), .d (de b)] (· = .b true) := tformed_ok (TS.pt hT) (by omega) ha.ps (by omega) hb.ps (by omega) (by rw [toT_length]; omega) (nlen t a) (nlen t b)
theorem tAdd_ok (hT : TS r k t) (ha : Sz s (toL k a)) (hb : Sz s' (toL k b)) (hk : k ≤ 16) (hs : s + s' ≤ 4398046511104) (hr : r ≤ 4398046511104) : C0 205 [.d (dt t), .d (de a), .d (de b)] (· = .d (de (Tow.add k a b))) := by
 refine En Tryz.func205 fun _ _ _ => ?_
 refine Ce rfl (tformed_el hT ha hb hk hs hr) ?_
 refine No rfl (by simp) ?_
 refine Ce rfl (tadd_el hk ha.ps hb.ps (by omega)) ?_
 exact R0
theorem tNeg_ok (hT : TS r k t) (ha : Sz s (toL k a)) (hk : k ≤ 16) (hs : s ≤ 4398046511104) (hr : r ≤ 4398046511104) : C0 59 [.d (dt t), .d (de a)] (· = .d (de (Tow.neg k a))) := by
 refine En Tryz.func59 fun _ _ _ => ?_
 refine Ce rfl (tFormed_el hT ha hk hs hr) ?_
 refine No rfl (by simp) ?_
 refine Ce rfl (tneg_el hk ha.ps (by omega)) ?_
 exact R0
theorem tSub_ok (hT : TS r k t) (ha : Sz s (toL k a)) (hb : Sz s' (toL k b)) (hk : k ≤ 16) (hs : s + s' ≤ 4398046511104) (hr : r ≤ 4398046511104) : C0 225 [.d (dt t), .d (de a), .d (de b)] (· = .d (de (Tow.add k a (Tow.neg k b)))) := by
 refine En Tryz.func225 fun _ _ _ => ?_
 refine Ce rfl (tformed_el hT ha hb hk hs hr) ?_
 refine No rfl (by simp) ?_
 refine Ce rfl (tneg_el hk hb.ps (by omega)) ?_
 refine Ce rfl (tadd_el hk ha.ps (neg_sz hb).ps (by omega)) ?_
 exact R0
theorem tMul_ok (hT : TS r k t) (ha : Sz s (toL k a)) (hb : Sz s' (toL k b)) (hk : k ≤ 16) (hs : s + s' + cB r k ≤ 4398046511104) (hr : r ≤ 4398046511104) : C0 220 [.d (dt t), .d (de a), .d (de b)] (· = .d (de (mul k t a b))) := by
 refine En Tryz.func220 fun _ _ _ => ?_
 refine Ce rfl (tformed_el hT ha hb hk (by omega) hr) ?_
 refine No rfl (by simp) ?_
 refine Ce rfl (tmul_ok hT ha hb hk hs) ?_
 exact R0
theorem tInv_ok (hT : TS r k t) (ha : Sz s (toL k a)) (hk : k ≤ 16) (hs : iB r k s ≤ 4398046511104) (hr : r ≤ 4398046511104) {x : Tow.El k} (hx : Tow.inv k t a = some x) : C0 377 [.d (dt t), .d (de a)] (· = .tup (.pr (.d (de x)) (.d (.int .i64 0)))) := by
 have hge := iB_ge r k s
 refine En Tryz.func377 fun _ _ _ => ?_
 refine Ce rfl (tFormed_el hT ha hk (by omega) hr) ?_
 refine No rfl (by simp) ?_
 refine Ca rfl (tinverse_ok hT ha hk hs) fun v hv => ?_
 obtain ⟨w, rfl, hw⟩ := hv
 obtain rfl := hw x hx
 refine No rfl (by simp [dc_not, dc_iff, hx]) ?_
 exact R0t
theorem tRoot_ok {i : Nat} (hT : TS r k t) (hk : k ≤ 16) (hr : r ≤ 4398046511104) (hi : i < k) : C0 283 [.d (dt t), .d (.int .i64 i)] (· = .d (de (root k i))) := by
 have hp := p16 hk
 have hpi : 2 ^ i < 2 ^ k := Nat.pow_lt_pow_right (by decide) hi
 refine En Tryz.func283 fun _ _ _ => ?_
 refine Ce rfl (radicands_ok (TS.pt hT) (by omega) (by rw [toT_length]; omega)) ?_
 refine No rfl (by simp) ?_
 refine No rfl (by omega) ?_
 refine No rfl (by simp only [lt', toT_length]; omega) ?_
 refine Ar (2 ^ k : Nat) rfl ?_ (by simp only [lt', toT_length]; exact shl_one (by omega))
 refine Cr rfl (zeros_ok (n := 2 ^ k) (by omega)) ?_
 refine Dw rfl ?_
 refine Ar (2 ^ i : Nat) rfl ?_ (shl_one (by omega))
 refine Ce rfl (qFromInt_ok (z := 1) (by decide)) ?_
 refine Eo (2 ^ i) rfl (by simp only [lq, List.length_replicate]; omega) ?_
 refine Sto rfl (by simp only [lq, List.length_replicate]; omega) (ms (f := dq) (u := 1)) ?_
 refine R1 rfl (.own rfl (by simp) ?_)
 rw [List.drop_zero, ← toL_root hi]
 exact List.take_of_length_le (by simp [toL_length])
theorem tFromRat_ok {x : Rat} {p : Nat} (hT : TS r k t) (hk : k ≤ 16) (hr : r ≤ 4398046511104) (hx : Qs p x) (hp : p ≤ 4398046511104) : C0 226 [.d (dt t), .d (dq x)] (· = .d (de (rat k x))) := by
 have hpk := p16 hk
 have h0 := Nat.two_pow_pos k
 refine En Tryz.func226 fun _ _ _ => ?_
 refine Ce rfl (radicands_ok (TS.pt hT) (by omega) (by rw [toT_length]; omega)) ?_
 refine No rfl (by simp) ?_
 refine Ce rfl (qValid_ok hx (by omega)) ?_
 refine No rfl (by simp) ?_
 refine Ar (2 ^ k : Nat) rfl ?_ (by simp only [lt', toT_length]; exact shl_one (by omega))
 refine Cr rfl (zeros_ok (n := 2 ^ k) (by omega)) ?_
 refine Eo 0 rfl (by simp only [lq, List.length_replicate]; omega) ?_
 refine Sto rfl (by simp only [lq, List.length_replicate]; omega) (ms (f := dq) (u := x)) ?_
 refine R1 rfl (.own rfl (by simp) ?_)
 rw [List.drop_zero, toL_rat]
 rw [List.take_of_length_le (by simp), show 2 ^ k = 2 ^ k - 1 + 1 by omega, List.replicate_succ, List.set_cons_zero]
 rfl
theorem tNorm_ok {k r s : Nat} {t : Tw (k + 1)} {a : Tow.El (k + 1)} (hT : TS r (k + 1) t) (ha : Sz s (toL (k + 1) a)) (hk : k + 1 ≤ 16) (hs : nB r k s ≤ 4398046511104) (hr : r ≤ 4398046511104) : C0 378 [.d (dt t), .d (de a)] (· = .d (de (Tow.norm k t a))) := by
 have hn : nB r k s = 4 * s + 3 * cB r k + r + 1 := rfl
 refine En Tryz.func378 fun _ _ _ => ?_
 refine Ce rfl (tFormed_el hT ha hk (by omega) hr) ?_
 refine No rfl (by simp) ?_
 refine No rfl (by simp only [lt', toT_length]; omega) ?_
 refine Ce rfl (tnorm_ok hT ha hk hs) ?_
 exact R0
end
end
end Go.Proofs.YtpgcfjpkilabfaaGreatDoor
namespace Go.Proofs.YtpgcfjpkilabfaaGreatDoor.R6
open Go Go.Vm Go.Num Go.Tow Go.Proofs.YtpgcfjpkilabfaaGreatDoor
end Go.Proofs.YtpgcfjpkilabfaaGreatDoor.R6
namespace Go.Vm
open Go
section
variable {c : Cx} {s : St}
end
end Go.Vm
namespace Go.Proofs.YtpgcfjpkilabfaaGreatDoor.R6
open Go Go.Vm Go.Num Go.Tow Go.Proofs.YtpgcfjpkilabfaaGreatDoor
end Go.Proofs.YtpgcfjpkilabfaaGreatDoor.R6
namespace Go.Tow
section
inductive Pe where
 | v (i : Nat)
 | z
 | o
 | add (a b : Pe)
 | mul (a b : Pe)
 | neg (a : Pe)
abbrev Poly := List (Bool × List Nat)
def ltM : List Nat → List Nat → Bool
 | [], [] => false
 | [], _ :: _ => true
 | _ :: _, [] => false
 | a :: r, b :: s => match Nat.blt a b with
  | true => true
  | false => match Nat.beq a b with
   | true => ltM r s
   | false => false
def insM (i : Nat) : List Nat → List Nat
 | [] => [i]
 | j :: r => match Nat.ble i j with
  | true => i :: j :: r
  | false => j :: insM i r
def insP (t : Bool × List Nat) : Poly → Poly
 | [] => [t]
 | h :: r => if t.2 = h.2 then (if t.1 = h.1 then t :: h :: r else r) else match ltM t.2 h.2 with
  | true => t :: h :: r
  | false => h :: insP t r
def mulM (m n : List Nat) : List Nat := m.foldr insM n
def addP (p q : Poly) : Poly := p.foldr insP q
def mulT (t : Bool × List Nat) (q acc : Poly) : Poly := q.foldr (fun u a => insP (t.1 != u.1, mulM t.2 u.2) a) acc
def mulP (p q : Poly) : Poly := p.foldr (fun t acc => mulT t q acc) []
def nrm : Pe → Poly
 | .v i => [(false, [i])]
 | .z => []
 | .o => [(false, [])]
 | .add a b => addP (nrm a) (nrm b)
 | .mul a b => mulP (nrm a) (nrm b)
 | .neg a => (nrm a).map fun t => (!t.1, t.2)
def Laws.ev {α : Type} {add mul : α → α → α} {neg : α → α} {zero one : α} (L : Laws add mul neg zero one) (xs : List α) : Pe → α
 | .v i => xs.getD i zero
 | .z => zero
 | .o => one
 | .add a b => add (Laws.ev L xs a) (Laws.ev L xs b)
 | .mul a b => mul (Laws.ev L xs a) (Laws.ev L xs b)
 | .neg a => neg (Laws.ev L xs a)
def Laws.eM {α : Type} {add mul : α → α → α} {neg : α → α} {zero one : α} (L : Laws add mul neg zero one) (xs : List α) : List Nat → α
 | [] => one
 | i :: r => mul (xs.getD i zero) (Laws.eM L xs r)
def Laws.eT {α : Type} {add mul : α → α → α} {neg : α → α} {zero one : α} (L : Laws add mul neg zero one) (xs : List α) (t : Bool × List Nat) : α := match t.1 with
 | true => neg (L.eM xs t.2)
 | false => L.eM xs t.2
def Laws.eP {α : Type} {add mul : α → α → α} {neg : α → α} {zero one : α} (L : Laws add mul neg zero one) (xs : List α) : Poly → α
 | [] => zero
 | t :: r => add (L.eT xs t) (Laws.eP L xs r)
section
variable {α : Type} {add mul : α → α → α} {neg : α → α} {zero one : α} (L : Laws add mul neg zero one) (xs : List α)
include L
theorem Laws.eM_ins (i : Nat) (m : List Nat) : L.eM xs (insM i m) = mul (xs.getD i zero) (L.eM xs m) := by
 induction m with
 | nil => rfl
 | cons j r ih =>
  simp only [insM]
  split
  · rfl
  · simp only [eM]; rw [ih, L.mlc]
theorem Laws.eM_mul (m n : List Nat) : L.eM xs (mulM m n) = mul (L.eM xs m) (L.eM xs n) := by
 induction m with
 | nil => simp only [mulM, List.foldr_nil, eM, L.om]
 | cons i m ih =>
  have : mulM (i :: m) n = insM i (mulM m n) := rfl
  rw [this, L.eM_ins, ih, ← L.ma]; rfl
theorem Laws.eP_ins (t : Bool × List Nat) (p : Poly) : L.eP xs (insP t p) = add (L.eT xs t) (L.eP xs p) := by
 induction p with
 | nil => rfl
 | cons h r ih =>
  simp only [insP]
  split
  · rename_i h1
    split
    · rfl
    · rename_i h2
      obtain ⟨s, m⟩ := t
      obtain ⟨s', m'⟩ := h
      have h1' : m = m' := h1
      subst h1'
      cases s <;> cases s' <;> first | exact absurd rfl h2 | skip
      · simp only [eP, eT]; rw [← L.aa, L.an, L.za]
      · simp only [eP, eT]; rw [← L.aa, L.na, L.za]
  · split
    · rfl
    · simp only [eP]; rw [ih, L.alc]
theorem Laws.eP_add (p q : Poly) : L.eP xs (addP p q) = add (L.eP xs p) (L.eP xs q) := by
 induction p with
 | nil => simp only [addP, List.foldr_nil, eP, L.za]
 | cons t p ih =>
  have : addP (t :: p) q = insP t (addP p q) := rfl
  rw [this, L.eP_ins, ih]; simp only [eP]; rw [L.aa]
theorem Laws.eT_mul (t u : Bool × List Nat) : L.eT xs (t.1 != u.1, mulM t.2 u.2) = mul (L.eT xs t) (L.eT xs u) := by
 obtain ⟨s, m⟩ := t
 obtain ⟨s', m'⟩ := u
 cases s <;> cases s' <;> simp [eT, L.eM_mul, L.mn, L.nm, L.nn]
theorem Laws.eP_mulT (t : Bool × List Nat) (q acc : Poly) : L.eP xs (mulT t q acc) = add (mul (L.eT xs t) (L.eP xs q)) (L.eP xs acc) := by
 induction q with
 | nil => simp only [mulT, List.foldr_nil, eP, L.mz, L.za]
 | cons u q ih =>
  have : mulT t (u :: q) acc = insP (t.1 != u.1, mulM t.2 u.2) (mulT t q acc) := rfl
  rw [this, L.eP_ins, ih, L.eT_mul]; simp only [eP]; rw [L.md, L.aa]
theorem Laws.eP_mul (p q : Poly) : L.eP xs (mulP p q) = mul (L.eP xs p) (L.eP xs q) := by
 induction p with
 | nil => simp only [mulP, List.foldr_nil, eP, L.zm]
 | cons t p ih =>
  have : mulP (t :: p) q = mulT t q (mulP p q) := rfl
  rw [this, L.eP_mulT, ih]; simp only [eP]; rw [L.dm]
theorem Laws.eP_neg (p : Poly) : L.eP xs (p.map fun t => (!t.1, t.2)) = neg (L.eP xs p) := by
 induction p with
 | nil => simp only [List.map_nil, eP, L.nz]
 | cons t p ih =>
  obtain ⟨s, m⟩ := t
  simp only [List.map_cons, eP, L.nd, ih]
  cases s <;> simp [eT, L.nn]
theorem Laws.ev_nrm (e : Pe) : L.ev xs e = L.eP xs (nrm e) := by
 induction e with
 | v i => simp only [nrm, ev, eP, eT, eM, L.mo, L.az]
 | z => rfl
 | o => simp only [nrm, ev, eP, eT, eM, L.az]
 | add a b ha hb => simp only [nrm, ev, L.eP_add, ha, hb]
 | mul a b ha hb => simp only [nrm, ev, L.eP_mul, ha, hb]
 | neg a ha => simp only [nrm, ev, L.eP_neg, ha]
theorem Laws.req (a b : Pe) (h : nrm a = nrm b) : L.ev xs a = L.ev xs b := by rw [L.ev_nrm, L.ev_nrm, h]
end
end
section
structure Sgn {α : Type} (add mul : α → α → α) (neg : α → α) (one : α) (σ : α → Int) : Prop where
 tri : ∀ a, σ a = 1 ∨ σ a = 0 ∨ σ a = -1
 sn : ∀ a, σ (neg a) = - σ a
 sm : ∀ a b, σ (mul a b) = σ a * σ b
 sa : ∀ a b, 0 ≤ σ a → 0 ≤ σ b → 0 ≤ σ (add a b)
 sp : ∀ a b, σ a = 1 → 0 ≤ σ b → σ (add a b) = 1
 s1 : σ one = 1
theorem sq_tri {X : Int} (h : X = 1 ∨ X = 0 ∨ X = -1) : 0 ≤ X * X ∧ (X ≠ 0 → X * X = 1) ∧ (X = 0 → X * X = 0) := by
 rcases h with rfl | rfl | rfl <;> decide
section
variable {α : Type} {add mul : α → α → α} {neg : α → α} {zero one : α} {σ : α → Int} (L : Laws add mul neg zero one) (S : Sgn add mul neg one σ)
include L S
theorem Sgn.s0 : σ zero = 0 := by
 have := S.sn zero
 rw [L.nz] at this
 omega
theorem Sgn.add0 {a b : α} (ha : σ a = 0) : σ (add a b) = σ b := by
 rcases S.tri b with hb | hb | hb
 · rw [hb, L.ac]; exact S.sp b a hb (by omega)
 · have h1 := S.sa a b (by omega) (by omega)
   have h2 := S.sa (neg a) (neg b) (by rw [S.sn]; omega) (by rw [S.sn]; omega)
   rw [← L.nd, S.sn] at h2
   omega
 · have h2 := S.sp (neg b) (neg a) (by rw [S.sn]; omega) (by rw [S.sn]; omega)
   rw [L.ac, ← L.nd, S.sn] at h2
   omega
theorem Sgn.add0' {a b : α} (hb : σ b = 0) : σ (add a b) = σ a := by rw [L.ac, S.add0 L hb]
theorem Sgn.np {a b : α} (ha : σ a = -1) (hb : σ b ≤ 0) : σ (add a b) = -1 := by
 have h2 := S.sp (neg a) (neg b) (by rw [S.sn]; omega) (by rw [S.sn]; omega)
 rw [← L.nd, S.sn] at h2
 omega
theorem Sgn.same {a b : α} (h : σ a = σ b) : σ (add a b) = σ a := by
 rcases S.tri a with ha | ha | ha
 · rw [ha]; exact S.sp a b ha (by omega)
 · rw [S.add0 L ha, ← h]
 · rw [ha]; exact S.np L ha (by omega)
theorem Sgn.eqv {a b : α} (h : σ (add a (neg b)) = 0) : σ a = σ b := by
 have e : a = add (add a (neg b)) b := (Laws.req L [a, b] (.v 0) (.add (.add (.v 0) (.neg (.v 1))) (.v 1)) (by decide +kernel))
 rw [e, S.add0 L h]
theorem Sgn.dom {a b : α} (h : σ (add (mul a a) (neg (mul b b))) = 1) : σ (add a b) = σ a := by
 have e : add (mul a a) (neg (mul b b)) = mul (add a b) (add a (neg b)) := (Laws.req L [a, b] (.add (.mul (.v 0) (.v 0)) (.neg (.mul (.v 1) (.v 1)))) (.mul (.add (.v 0) (.v 1)) (.add (.v 0) (.neg (.v 1)))) (by decide +kernel))
 have e2 : add a a = add (add a b) (add a (neg b)) := (Laws.req L [a, b] (.add (.v 0) (.v 0)) (.add (.add (.v 0) (.v 1)) (.add (.v 0) (.neg (.v 1)))) (by decide +kernel))
 rw [e, S.sm] at h
 have h2 : σ (add a a) = σ a := S.same L rfl
 rw [e2] at h2
 rcases S.tri (add a b) with h3 | h3 | h3 <;> rcases S.tri (add a (neg b)) with h4 | h4 | h4 <;> rw [h3, h4] at h <;> first | (exact absurd h (by decide)) | skip
 · rw [← h2, h3]; exact (S.sp _ _ h3 (by omega)).symm
 · rw [← h2, h3]; exact (S.np L h3 (by omega)).symm
theorem Sgn.dom0 {a b : α} (h : σ (add (mul a a) (neg (mul b b))) = 0) : σ (add a b) = Int.sign (σ a + σ b) := by
 have e : add (mul a a) (neg (mul b b)) = mul (add a b) (add a (neg b)) := (Laws.req L [a, b] (.add (.mul (.v 0) (.v 0)) (.neg (.mul (.v 1) (.v 1)))) (.mul (.add (.v 0) (.v 1)) (.add (.v 0) (.neg (.v 1)))) (by decide +kernel))
 rw [e, S.sm] at h
 rcases Int.mul_eq_zero.1 h with h1 | h1
 · have e2 : a = add (add a b) (neg b) := (Laws.req L [a, b] (.v 0) (.add (.add (.v 0) (.v 1)) (.neg (.v 1))) (by decide +kernel))
   have h2 : σ a = - σ b := by
    conv => lhs; rw [e2]
    rw [S.add0 L h1, S.sn]
   rw [h1, h2, show -σ b + σ b = 0 from by omega]; rfl
 · have h2 := S.eqv L h1
   rw [S.same L h2, ← h2]
   rcases S.tri a with ha | ha | ha <;> rw [ha] <;> rfl
end
def Laws.nP {α : Type} {add mul : α → α → α} {neg : α → α} {zero one : α} (L : Laws add mul neg zero one) (d : α) (p : α × α) : α := add (mul p.1 p.1) (neg (mul (mul p.2 p.2) d))
def Laws.mQ {α : Type} {add mul : α → α → α} {neg : α → α} {zero one : α} (L : Laws add mul neg zero one) (d : α) (p q : α × α) : α × α := (add (mul p.1 q.1) (mul (mul p.2 q.2) d), add (mul p.1 q.2) (mul p.2 q.1))
def Laws.aQ {α : Type} {add mul : α → α → α} {neg : α → α} {zero one : α} (L : Laws add mul neg zero one) (p q : α × α) : α × α := (add p.1 q.1, add p.2 q.2)
def Laws.gQ {α : Type} {add mul : α → α → α} {neg : α → α} {zero one : α} (L : Laws add mul neg zero one) (p : α × α) : α × α := (neg p.1, neg p.2)
def Laws.sx {α : Type} {add mul : α → α → α} {neg : α → α} {zero one : α} (L : Laws add mul neg zero one) (d : α) (σ : α → Int) (p : α × α) : Int :=
 if σ p.2 = 0 ∨ σ p.1 = σ p.2 then σ p.1 else if σ p.1 = 0 then σ p.2 else σ p.1 * σ (L.nP d p)
theorem sx_fin {X Y ν : Int} (h1 : X = 1 ∨ X = 0 ∨ X = -1) (h2 : Y = 1 ∨ Y = 0 ∨ Y = -1) (h3 : ν = 1 ∨ ν = 0 ∨ ν = -1) (hx : X = 0 → ν = -(Y * Y)) (hy : Y = 0 → ν = X * X) :
 (if Y = 0 ∨ X = Y then X else if X = 0 then Y else X * ν) = if ν = 1 then X else if ν = -1 then Y else Int.sign (X + Y) := by
 rcases h1 with rfl | rfl | rfl <;> rcases h2 with rfl | rfl | rfl <;> rcases h3 with rfl | rfl | rfl <;>
  first | rfl | (exact absurd (hx rfl) (by decide)) | (exact absurd (hy rfl) (by decide)) | decide
section
variable {α : Type} {add mul : α → α → α} {neg : α → α} {zero one d : α} {σ : α → Int} (L : Laws add mul neg zero one) (S : Sgn add mul neg one σ) (hd : σ d = 1)
include L S hd
theorem Sgn.n0x {p : α × α} (h : σ p.1 = 0) : σ (L.nP d p) = -(σ p.2 * σ p.2) := by
 unfold Laws.nP
 rw [S.add0 L (by rw [S.sm, h]; rfl), S.sn, S.sm, S.sm, hd, Int.mul_one]
theorem Sgn.n0y {p : α × α} (h : σ p.2 = 0) : σ (L.nP d p) = σ p.1 * σ p.1 := by
 have _u := hd
 unfold Laws.nP
 rw [S.add0' L (by rw [S.sn, S.sm, S.sm, h]; simp), S.sm]
theorem Sgn.sx_eq (p : α × α) : L.sx d σ p = if σ (L.nP d p) = 1 then σ p.1 else if σ (L.nP d p) = -1 then σ p.2 else Int.sign (σ p.1 + σ p.2) :=
 sx_fin (S.tri _) (S.tri _) (S.tri _) (S.n0x L hd) (S.n0y L hd)
theorem Sgn.sx1 {p : α × α} (h : σ (L.nP d p) = 1) : L.sx d σ p = σ p.1 ∧ σ p.1 ≠ 0 := by
 refine ⟨by rw [S.sx_eq L hd, if_pos h], fun h0 => ?_⟩
 have h1 := S.n0x L hd h0
 have := (sq_tri (S.tri p.2)).1
 omega
theorem Sgn.sxm {p : α × α} (h : σ (L.nP d p) = -1) : L.sx d σ p = σ p.2 ∧ σ p.2 ≠ 0 := by
 refine ⟨by rw [S.sx_eq L hd, if_neg (by omega), if_pos h], fun h0 => ?_⟩
 have h1 := S.n0y L hd h0
 have := (sq_tri (S.tri p.1)).1
 omega
theorem Sgn.sxz {p : α × α} (h : σ (L.nP d p) = 0) : L.sx d σ p = Int.sign (σ p.1 + σ p.2) ∧ (σ p.1 = 0 ↔ σ p.2 = 0) := by
 refine ⟨by rw [S.sx_eq L hd, if_neg (by omega), if_neg (by omega)], fun h0 => ?_, fun h0 => ?_⟩
 · have h1 := S.n0x L hd h0
   have h2 := (sq_tri (S.tri p.2)).2.1
   exact Classical.byContradiction fun h3 => by have := h2 h3; omega
 · have h1 := S.n0y L hd h0
   have h2 := (sq_tri (S.tri p.1)).2.1
   exact Classical.byContradiction fun h3 => by have := h2 h3; omega
theorem Sgn.sd (z : α) : σ (mul d z) = σ z := by
 have _u := L
 rw [S.sm, hd, Int.one_mul]
theorem Sgn.mul_core (p q : α × α) (h : σ (L.nP d q) = 0 → σ (L.nP d p) = 0) : L.sx d σ (L.mQ d p q) = L.sx d σ p * L.sx d σ q := by
 obtain ⟨a1, b1⟩ := p
 obtain ⟨a2, b2⟩ := q
 have hN : σ (L.nP d (L.mQ d (a1, b1) (a2, b2))) = σ (L.nP d (a1, b1)) * σ (L.nP d (a2, b2)) := by
  rw [← S.sm]; congr 1
  exact (Laws.req L [a1, b1, a2, b2, d] (.add (.mul (.add (.mul (.v 0) (.v 2)) (.mul (.mul (.v 1) (.v 3)) (.v 4))) (.add (.mul (.v 0) (.v 2)) (.mul (.mul (.v 1) (.v 3)) (.v 4)))) (.neg (.mul (.mul (.add (.mul (.v 0) (.v 3)) (.mul (.v 1) (.v 2))) (.add (.mul (.v 0) (.v 3)) (.mul (.v 1) (.v 2)))) (.v 4)))) (.mul (.add (.mul (.v 0) (.v 0)) (.neg (.mul (.mul (.v 1) (.v 1)) (.v 4)))) (.add (.mul (.v 2) (.v 2)) (.neg (.mul (.mul (.v 3) (.v 3)) (.v 4))))) (by decide +kernel))
 have eX : ∀ n1 n2, n1 = L.nP d (a1, b1) → n2 = L.nP d (a2, b2) → add (mul (mul a1 a2) (mul a1 a2)) (neg (mul (mul (mul b1 b2) d) (mul (mul b1 b2) d))) = add (add (mul (mul a1 a1) n2) (mul (mul a2 a2) n1)) (neg (mul n1 n2)) := by
  rintro _ _ rfl rfl
  exact (Laws.req L [a1, b1, a2, b2, d] (.add (.mul (.mul (.v 0) (.v 2)) (.mul (.v 0) (.v 2))) (.neg (.mul (.mul (.mul (.v 1) (.v 3)) (.v 4)) (.mul (.mul (.v 1) (.v 3)) (.v 4))))) (.add (.add (.mul (.mul (.v 0) (.v 0)) (.add (.mul (.v 2) (.v 2)) (.neg (.mul (.mul (.v 3) (.v 3)) (.v 4))))) (.mul (.mul (.v 2) (.v 2)) (.add (.mul (.v 0) (.v 0)) (.neg (.mul (.mul (.v 1) (.v 1)) (.v 4)))))) (.neg (.mul (.add (.mul (.v 0) (.v 0)) (.neg (.mul (.mul (.v 1) (.v 1)) (.v 4)))) (.add (.mul (.v 2) (.v 2)) (.neg (.mul (.mul (.v 3) (.v 3)) (.v 4))))))) (by decide +kernel))
 have eX2 : ∀ n1 n2, n1 = L.nP d (a1, b1) → n2 = L.nP d (a2, b2) → add (mul (mul a1 a2) (mul a1 a2)) (neg (mul (mul (mul b1 b2) d) (mul (mul b1 b2) d))) = add (mul (mul a1 a1) n2) (mul (mul d (mul b2 b2)) n1) := by
  rintro _ _ rfl rfl
  exact (Laws.req L [a1, b1, a2, b2, d] (.add (.mul (.mul (.v 0) (.v 2)) (.mul (.v 0) (.v 2))) (.neg (.mul (.mul (.mul (.v 1) (.v 3)) (.v 4)) (.mul (.mul (.v 1) (.v 3)) (.v 4))))) (.add (.mul (.mul (.v 0) (.v 0)) (.add (.mul (.v 2) (.v 2)) (.neg (.mul (.mul (.v 3) (.v 3)) (.v 4))))) (.mul (.mul (.v 4) (.mul (.v 3) (.v 3))) (.add (.mul (.v 0) (.v 0)) (.neg (.mul (.mul (.v 1) (.v 1)) (.v 4)))))) (by decide +kernel))
 have eXr : ∀ n1 n2, n1 = L.nP d (a1, b1) → n2 = L.nP d (a2, b2) → add (mul (mul (mul b1 b2) d) (mul (mul b1 b2) d)) (neg (mul (mul a1 a2) (mul a1 a2))) = add (add (neg (mul (mul a1 a1) n2)) (neg (mul (mul a2 a2) n1))) (mul n1 n2) := by
  rintro _ _ rfl rfl
  exact (Laws.req L [a1, b1, a2, b2, d] (.add (.mul (.mul (.mul (.v 1) (.v 3)) (.v 4)) (.mul (.mul (.v 1) (.v 3)) (.v 4))) (.neg (.mul (.mul (.v 0) (.v 2)) (.mul (.v 0) (.v 2))))) (.add (.add (.neg (.mul (.mul (.v 0) (.v 0)) (.add (.mul (.v 2) (.v 2)) (.neg (.mul (.mul (.v 3) (.v 3)) (.v 4)))))) (.neg (.mul (.mul (.v 2) (.v 2)) (.add (.mul (.v 0) (.v 0)) (.neg (.mul (.mul (.v 1) (.v 1)) (.v 4))))))) (.mul (.add (.mul (.v 0) (.v 0)) (.neg (.mul (.mul (.v 1) (.v 1)) (.v 4)))) (.add (.mul (.v 2) (.v 2)) (.neg (.mul (.mul (.v 3) (.v 3)) (.v 4)))))) (by decide +kernel))
 have eY : ∀ n1 n2, n1 = L.nP d (a1, b1) → n2 = L.nP d (a2, b2) → mul d (add (mul (mul a1 b2) (mul a1 b2)) (neg (mul (mul b1 a2) (mul b1 a2)))) = add (neg (mul (mul a1 a1) n2)) (mul (mul a2 a2) n1) := by
  rintro _ _ rfl rfl
  exact (Laws.req L [a1, b1, a2, b2, d] (.mul (.v 4) (.add (.mul (.mul (.v 0) (.v 3)) (.mul (.v 0) (.v 3))) (.neg (.mul (.mul (.v 1) (.v 2)) (.mul (.v 1) (.v 2)))))) (.add (.neg (.mul (.mul (.v 0) (.v 0)) (.add (.mul (.v 2) (.v 2)) (.neg (.mul (.mul (.v 3) (.v 3)) (.v 4)))))) (.mul (.mul (.v 2) (.v 2)) (.add (.mul (.v 0) (.v 0)) (.neg (.mul (.mul (.v 1) (.v 1)) (.v 4)))))) (by decide +kernel))
 have eYr : ∀ n1 n2, n1 = L.nP d (a1, b1) → n2 = L.nP d (a2, b2) → mul d (add (mul (mul b1 a2) (mul b1 a2)) (neg (mul (mul a1 b2) (mul a1 b2)))) = add (neg (mul (mul a2 a2) n1)) (mul (mul a1 a1) n2) := by
  rintro _ _ rfl rfl
  exact (Laws.req L [a1, b1, a2, b2, d] (.mul (.v 4) (.add (.mul (.mul (.v 1) (.v 2)) (.mul (.v 1) (.v 2))) (.neg (.mul (.mul (.v 0) (.v 3)) (.mul (.v 0) (.v 3)))))) (.add (.neg (.mul (.mul (.v 2) (.v 2)) (.add (.mul (.v 0) (.v 0)) (.neg (.mul (.mul (.v 1) (.v 1)) (.v 4)))))) (.mul (.mul (.v 0) (.v 0)) (.add (.mul (.v 2) (.v 2)) (.neg (.mul (.mul (.v 3) (.v 3)) (.v 4)))))) (by decide +kernel))
 have eX := eX _ _ rfl rfl
 have eX2 := eX2 _ _ rfl rfl
 have eXr := eXr _ _ rfl rfl
 have eY := eY _ _ rfl rfl
 have eYr := eYr _ _ rfl rfl
 have Sx := @Sgn.sx1 _ _ _ _ _ _ d σ L S hd
 have Sm := @Sgn.sxm _ _ _ _ _ _ d σ L S hd
 have Sz := @Sgn.sxz _ _ _ _ _ _ d σ L S hd
 have ta1 := S.tri a1
 have tb1 := S.tri b1
 have ta2 := S.tri a2
 have tb2 := S.tri b2
 have sA : σ (mul (mul a1 a1) (L.nP d (a2, b2))) = σ a1 * σ a1 * σ (L.nP d (a2, b2)) := by rw [S.sm, S.sm]
 have sB : σ (mul (mul a2 a2) (L.nP d (a1, b1))) = σ a2 * σ a2 * σ (L.nP d (a1, b1)) := by rw [S.sm, S.sm]
 have sC : σ (mul (L.nP d (a1, b1)) (L.nP d (a2, b2))) = σ (L.nP d (a1, b1)) * σ (L.nP d (a2, b2)) := S.sm _ _
 have sD : σ (mul (mul d (mul b2 b2)) (L.nP d (a1, b1))) = σ b2 * σ b2 * σ (L.nP d (a1, b1)) := by rw [S.sm, S.sd L hd, S.sm]
 have sb : σ (mul (mul b1 b2) d) = σ b1 * σ b2 := by rw [S.sm, S.sm, hd, Int.mul_one]
 have qa1 := sq_tri ta1
 have qa2 := sq_tri ta2
 have qb2 := sq_tri tb2
 rcases S.tri (L.nP d (a1, b1)) with h1 | h1 | h1 <;> rcases S.tri (L.nP d (a2, b2)) with h2 | h2 | h2 <;> simp only [h1, h2, Int.mul_one, Int.mul_zero, Int.mul_neg] at sA sB sC sD hN
 · obtain ⟨k1, z1⟩ := Sx h1
   obtain ⟨k2, z2⟩ := Sx h2
   have z1 : σ a1 ≠ 0 := z1
   have := S.dom L (a := mul a1 a2) (b := mul (mul b1 b2) d) (by rw [eX2]; exact S.sp _ _ (by rw [sA, qa1.2.1 z1]) (by rw [sD]; exact qb2.1))
   rw [(Sx hN).1, k1, k2]
   show σ (add (mul a1 a2) (mul (mul b1 b2) d)) = σ a1 * σ a2
   rw [this, S.sm]
 · exact absurd (h h2) (by omega)
 · obtain ⟨k1, z1⟩ := Sx h1
   obtain ⟨k2, z2⟩ := Sm h2
   have z1 : σ a1 ≠ 0 := z1
   have z2 : σ b2 ≠ 0 := z2
   have := S.dom L (a := mul a1 b2) (b := mul b1 a2) (by rw [← S.sd L hd, eY]; exact S.sp _ _ (by rw [S.sn, sA, qa1.2.1 z1]; rfl) (by rw [sB]; exact qa2.1))
   rw [(Sm hN).1, k1, k2]
   show σ (add (mul a1 b2) (mul b1 a2)) = σ a1 * σ b2
   rw [this, S.sm]
 · obtain ⟨k1, e1⟩ := Sz h1
   obtain ⟨k2, z2⟩ := Sx h2
   have z2 : σ a2 ≠ 0 := z2
   have e1 : σ a1 = 0 ↔ σ b1 = 0 := e1
   rw [(Sz hN).1, k1, k2]
   show Int.sign (σ (add (mul a1 a2) (mul (mul b1 b2) d)) + σ (add (mul a1 b2) (mul b1 a2))) = Int.sign (σ a1 + σ b1) * σ a2
   by_cases z1 : σ a1 = 0
   · have zb := e1.1 z1
     rw [S.add0 L (by rw [S.sm, z1, Int.zero_mul]), S.add0 L (by rw [S.sm, z1, Int.zero_mul]), sb, S.sm, z1, zb, Int.zero_mul, Int.zero_mul]; simp
   · have g1 := S.dom L (a := mul a1 a2) (b := mul (mul b1 b2) d) (by rw [eX]; exact S.sp _ _ (S.sp _ _ (by rw [sA, qa1.2.1 z1]) (by rw [sB]; exact Int.le_refl _)) (by rw [S.sn, sC]; decide))
     have g2 := S.dom L (a := mul b1 a2) (b := mul a1 b2) (by rw [← S.sd L hd, eYr, L.ac]; exact S.sp _ _ (by rw [sA, qa1.2.1 z1]) (by rw [S.sn, sB]; decide))
     rw [g1, L.ac (mul a1 b2), g2, S.sm, S.sm]
     have zb : σ b1 ≠ 0 := fun h => z1 (e1.2 h)
     revert z1 z2 zb
     rcases ta1 with h | h | h <;> rcases tb1 with h' | h' | h' <;> rcases ta2 with h'' | h'' | h'' <;> rw [h, h', h''] <;> decide
 · obtain ⟨k1, e1⟩ := Sz h1
   obtain ⟨k2, e2⟩ := Sz h2
   have e1 : σ a1 = 0 ↔ σ b1 = 0 := e1
   have e2 : σ a2 = 0 ↔ σ b2 = 0 := e2
   rw [(Sz hN).1, k1, k2]
   show Int.sign (σ (add (mul a1 a2) (mul (mul b1 b2) d)) + σ (add (mul a1 b2) (mul b1 a2))) = Int.sign (σ a1 + σ b1) * Int.sign (σ a2 + σ b2)
   have g1 := S.dom0 L (a := mul a1 a2) (b := mul (mul b1 b2) d) (by rw [eX, S.add0' L (by rw [S.sn, sC]; rfl), S.add0 L sA, sB])
   have g2 := S.dom0 L (a := mul a1 b2) (b := mul b1 a2) (by rw [← S.sd L hd, eY, S.add0 L (by rw [S.sn, sA]; rfl), sB])
   rw [g1, g2, sb, S.sm, S.sm, S.sm]
   revert e1 e2
   rcases ta1 with h | h | h <;> rcases tb1 with h' | h' | h' <;> rcases ta2 with h'' | h'' | h'' <;> rcases tb2 with g | g | g <;> rw [h, h', h'', g] <;> decide
 · obtain ⟨k1, e1⟩ := Sz h1
   obtain ⟨k2, z2⟩ := Sm h2
   have z2 : σ b2 ≠ 0 := z2
   have e1 : σ a1 = 0 ↔ σ b1 = 0 := e1
   rw [(Sz hN).1, k1, k2]
   show Int.sign (σ (add (mul a1 a2) (mul (mul b1 b2) d)) + σ (add (mul a1 b2) (mul b1 a2))) = Int.sign (σ a1 + σ b1) * σ b2
   by_cases z1 : σ a1 = 0
   · have zb := e1.1 z1
     rw [S.add0 L (by rw [S.sm, z1, Int.zero_mul]), S.add0 L (by rw [S.sm, z1, Int.zero_mul]), sb, S.sm, z1, zb, Int.zero_mul, Int.zero_mul]; simp
   · have g1 := S.dom L (a := mul (mul b1 b2) d) (b := mul a1 a2) (by rw [eXr]; exact S.sp _ _ (S.sp _ _ (by rw [S.sn, sA, qa1.2.1 z1]; rfl) (by rw [S.sn, sB]; decide)) (by rw [sC]; decide))
     have g2 := S.dom L (a := mul a1 b2) (b := mul b1 a2) (by rw [← S.sd L hd, eY]; exact S.sp _ _ (by rw [S.sn, sA, qa1.2.1 z1]; rfl) (by rw [sB]; exact Int.le_refl _))
     rw [L.ac (mul a1 a2), g1, g2, sb, S.sm]
     have zb : σ b1 ≠ 0 := fun h => z1 (e1.2 h)
     revert z1 z2 zb
     rcases ta1 with h | h | h <;> rcases tb1 with h' | h' | h' <;> rcases tb2 with h'' | h'' | h'' <;> rw [h, h', h''] <;> decide
 · obtain ⟨k1, z1⟩ := Sm h1
   obtain ⟨k2, z2⟩ := Sx h2
   have z2 : σ a2 ≠ 0 := z2
   have := S.dom L (a := mul b1 a2) (b := mul a1 b2) (by rw [← S.sd L hd, eYr]; exact S.sp _ _ (by rw [S.sn, sB, qa2.2.1 z2]; rfl) (by rw [sA]; exact qa1.1))
   rw [(Sm hN).1, k1, k2]
   show σ (add (mul a1 b2) (mul b1 a2)) = σ b1 * σ a2
   rw [L.ac, this, S.sm]
 · exact absurd (h h2) (by omega)
 · obtain ⟨k1, z1⟩ := Sm h1
   obtain ⟨k2, z2⟩ := Sm h2
   have := S.dom L (a := mul (mul b1 b2) d) (b := mul a1 a2) (by rw [eXr, L.ac]; exact S.sp _ _ (by rw [sC]; rfl) (S.sa _ _ (by rw [S.sn, sA]; have := qa1.1; omega) (by rw [S.sn, sB]; have := qa2.1; omega)))
   rw [(Sx hN).1, k1, k2]
   show σ (add (mul a1 a2) (mul (mul b1 b2) d)) = σ b1 * σ b2
   rw [L.ac, this, sb]
theorem Sgn.smul (p q : α × α) : L.sx d σ (L.mQ d p q) = L.sx d σ p * L.sx d σ q := by
 by_cases h : σ (L.nP d q) = 0 → σ (L.nP d p) = 0
 · exact S.mul_core L hd p q h
 · have h1 : σ (L.nP d q) = 0 := Classical.byContradiction fun h2 => h fun h3 => absurd h3 h2
   have e : L.mQ d p q = L.mQ d q p := by
    obtain ⟨a1, b1⟩ := p
    obtain ⟨a2, b2⟩ := q
    exact Prod.ext (Laws.req L [a1, b1, a2, b2, d] (.add (.mul (.v 0) (.v 2)) (.mul (.mul (.v 1) (.v 3)) (.v 4))) (.add (.mul (.v 2) (.v 0)) (.mul (.mul (.v 3) (.v 1)) (.v 4))) (by decide +kernel)) (Laws.req L [a1, b1, a2, b2, d] (.add (.mul (.v 0) (.v 3)) (.mul (.v 1) (.v 2))) (.add (.mul (.v 2) (.v 1)) (.mul (.v 3) (.v 0))) (by decide +kernel))
   rw [e, S.mul_core L hd q p fun _ => h1, Int.mul_comm]
theorem Sgn.sneg (p : α × α) : L.sx d σ (L.gQ p) = - L.sx d σ p := by
 have e : L.nP d (L.gQ p) = L.nP d p := by
  obtain ⟨a, b⟩ := p
  exact (Laws.req L [a, b, d] (.add (.mul (.neg (.v 0)) (.neg (.v 0))) (.neg (.mul (.mul (.neg (.v 1)) (.neg (.v 1))) (.v 2)))) (.add (.mul (.v 0) (.v 0)) (.neg (.mul (.mul (.v 1) (.v 1)) (.v 2)))) (by decide +kernel))
 rw [S.sx_eq L hd, S.sx_eq L hd, e]
 show (if σ (L.nP d p) = 1 then σ (neg p.1) else if σ (L.nP d p) = -1 then σ (neg p.2) else Int.sign (σ (neg p.1) + σ (neg p.2))) = _
 rw [S.sn, S.sn]
 split
 · rfl
 · split
   · rfl
   · rw [← Int.neg_add, Int.sign_neg]
def Laws.Rt {α : Type} {add mul : α → α → α} {neg : α → α} {zero one : α} (L : Laws add mul neg zero one) (d : α) (σ : α → Int) (p q : α) : Prop := σ p = 1 ∧ σ q = 1 ∧ σ (add (mul p p) (neg (mul d (mul q q)))) = 0
theorem Sgn.sx_rt {p q : α} (h : L.Rt d σ p q) (x : α × α) : L.sx d σ x = σ (add (mul x.1 q) (mul x.2 p)) := by
 obtain ⟨hp, hq, h0⟩ := h
 obtain ⟨a, b⟩ := x
 show L.sx d σ (a, b) = σ (add (mul a q) (mul b p))
 have e1 : ∀ n, n = L.nP d (a, b) → mul n (mul q q) = add (mul (mul b b) (add (mul p p) (neg (mul d (mul q q))))) (mul (add (mul a q) (mul b p)) (add (mul a q) (neg (mul b p)))) := by
  rintro _ rfl
  exact (Laws.req L [a, b, p, q, d] (.mul (.add (.mul (.v 0) (.v 0)) (.neg (.mul (.mul (.v 1) (.v 1)) (.v 4)))) (.mul (.v 3) (.v 3))) (.add (.mul (.mul (.v 1) (.v 1)) (.add (.mul (.v 2) (.v 2)) (.neg (.mul (.v 4) (.mul (.v 3) (.v 3)))))) (.mul (.add (.mul (.v 0) (.v 3)) (.mul (.v 1) (.v 2))) (.add (.mul (.v 0) (.v 3)) (.neg (.mul (.v 1) (.v 2)))))) (by decide +kernel))
 have e1 := e1 _ rfl
 have hN : σ (L.nP d (a, b)) = σ (add (mul a q) (mul b p)) * σ (add (mul a q) (neg (mul b p))) := by
  have e4 := congrArg σ e1
  rw [S.add0 L (a := mul (mul b b) (add (mul p p) (neg (mul d (mul q q))))) (by rw [S.sm, h0, Int.mul_zero]), S.sm, S.sm, hq, Int.mul_one, Int.mul_one, S.sm] at e4
  exact e4
 have e2 : add (mul a q) (mul a q) = add (add (mul a q) (mul b p)) (add (mul a q) (neg (mul b p))) := (Laws.req L [a, b, p, q] (.add (.mul (.v 0) (.v 3)) (.mul (.v 0) (.v 3))) (.add (.add (.mul (.v 0) (.v 3)) (.mul (.v 1) (.v 2))) (.add (.mul (.v 0) (.v 3)) (.neg (.mul (.v 1) (.v 2))))) (by decide +kernel))
 have e3 : add (mul b p) (mul b p) = add (add (mul a q) (mul b p)) (neg (add (mul a q) (neg (mul b p)))) := (Laws.req L [a, b, p, q] (.add (.mul (.v 1) (.v 2)) (.mul (.v 1) (.v 2))) (.add (.add (.mul (.v 0) (.v 3)) (.mul (.v 1) (.v 2))) (.neg (.add (.mul (.v 0) (.v 3)) (.neg (.mul (.v 1) (.v 2)))))) (by decide +kernel))
 have hX : σ a = σ (add (add (mul a q) (mul b p)) (add (mul a q) (neg (mul b p)))) := by
  rw [← e2, S.same L rfl, S.sm, hq, Int.mul_one]
 have hY : σ b = σ (add (add (mul a q) (mul b p)) (neg (add (mul a q) (neg (mul b p))))) := by
  rw [← e3, S.same L rfl, S.sm, hp, Int.mul_one]
 generalize add (mul a q) (mul b p) = A at *
 generalize add (mul a q) (neg (mul b p)) = B at *
 rw [S.sx_eq L hd]
 show (if σ (L.nP d (a, b)) = 1 then σ a else if σ (L.nP d (a, b)) = -1 then σ b else Int.sign (σ a + σ b)) = σ A
 rw [hN]
 rcases S.tri A with h | h | h <;> rcases S.tri B with h' | h' | h'
 · rw [h, h', if_pos (by decide), hX, S.same L (by omega), h]
 · rw [h, h', if_neg (by decide), if_neg (by decide), hX, hY, S.add0' L h', S.add0' L (by rw [S.sn]; omega), h]; rfl
 · rw [h, h', if_neg (by decide), if_pos (by decide), hY, S.same L (by rw [S.sn]; omega), h]
 · rw [h, h', if_neg (by decide), if_neg (by decide), hX, hY, S.add0 L h, S.add0 L h, S.sn, h']; rfl
 · rw [h, h', if_neg (by decide), if_neg (by decide), hX, hY, S.add0 L h, S.add0 L h, S.sn, h']; rfl
 · rw [h, h', if_neg (by decide), if_neg (by decide), hX, hY, S.add0 L h, S.add0 L h, S.sn, h']; rfl
 · rw [h, h', if_neg (by decide), if_pos (by decide), hY, S.same L (by rw [S.sn]; omega), h]
 · rw [h, h', if_neg (by decide), if_neg (by decide), hX, hY, S.add0' L h', S.add0' L (by rw [S.sn]; omega), h]; rfl
 · rw [h, h', if_pos (by decide), hX, S.same L (by omega), h]
theorem Sgn.no_rt (hE : ∀ p q, ¬ L.Rt d σ p q) {x : α × α} (h : σ (L.nP d x) = 0) : σ x.1 = 0 ∧ σ x.2 = 0 := by
 obtain ⟨a, b⟩ := x
 have h0 := (S.sxz L hd h).2
 have h0 : σ a = 0 ↔ σ b = 0 := h0
 have e : ∀ n, n = L.nP d (a, b) → add (mul a a) (neg (mul d (mul b b))) = n ∧ add (mul (neg a) (neg a)) (neg (mul d (mul b b))) = n ∧ add (mul a a) (neg (mul d (mul (neg b) (neg b)))) = n ∧ add (mul (neg a) (neg a)) (neg (mul d (mul (neg b) (neg b)))) = n := by
  rintro _ rfl
  exact ⟨(Laws.req L [a, b, d] (.add (.mul (.v 0) (.v 0)) (.neg (.mul (.v 2) (.mul (.v 1) (.v 1))))) (.add (.mul (.v 0) (.v 0)) (.neg (.mul (.mul (.v 1) (.v 1)) (.v 2)))) (by decide +kernel)), (Laws.req L [a, b, d] (.add (.mul (.neg (.v 0)) (.neg (.v 0))) (.neg (.mul (.v 2) (.mul (.v 1) (.v 1))))) (.add (.mul (.v 0) (.v 0)) (.neg (.mul (.mul (.v 1) (.v 1)) (.v 2)))) (by decide +kernel)), (Laws.req L [a, b, d] (.add (.mul (.v 0) (.v 0)) (.neg (.mul (.v 2) (.mul (.neg (.v 1)) (.neg (.v 1)))))) (.add (.mul (.v 0) (.v 0)) (.neg (.mul (.mul (.v 1) (.v 1)) (.v 2)))) (by decide +kernel)), (Laws.req L [a, b, d] (.add (.mul (.neg (.v 0)) (.neg (.v 0))) (.neg (.mul (.v 2) (.mul (.neg (.v 1)) (.neg (.v 1)))))) (.add (.mul (.v 0) (.v 0)) (.neg (.mul (.mul (.v 1) (.v 1)) (.v 2)))) (by decide +kernel))⟩
 obtain ⟨e1, e2, e3, e4⟩ := e _ rfl
 show σ a = 0 ∧ σ b = 0
 rcases S.tri a with h1 | h1 | h1
 · rcases S.tri b with h2 | h2 | h2
   · exact absurd ⟨h1, h2, by rw [e1]; exact h⟩ (hE a b)
   · omega
   · exact absurd ⟨h1, by rw [S.sn]; omega, by rw [e3]; exact h⟩ (hE a (neg b))
 · exact ⟨h1, h0.1 h1⟩
 · rcases S.tri b with h2 | h2 | h2
   · exact absurd ⟨by rw [S.sn]; omega, h2, by rw [e2]; exact h⟩ (hE (neg a) b)
   · omega
   · exact absurd ⟨by rw [S.sn]; omega, by rw [S.sn]; omega, by rw [e4]; exact h⟩ (hE (neg a) (neg b))
theorem Sgn.sx_n (hE : ∀ p q, ¬ L.Rt d σ p q) {n a b : α} (hn : σ n = 1) (h : 0 ≤ L.sx d σ (a, b)) : L.sx d σ (add a n, b) = 1 := by
 have Sx := @Sgn.sx1 _ _ _ _ _ _ d σ L S hd
 have Sm := @Sgn.sxm _ _ _ _ _ _ d σ L S hd
 rcases S.tri (L.nP d (a, b)) with h1 | h1 | h1
 · obtain ⟨k1, z1⟩ := Sx h1
   have k1 : L.sx d σ (a, b) = σ a := k1
   have z1 : σ a ≠ 0 := z1
   have ha : σ a = 1 := by rcases S.tri a with h | h | h <;> omega
   have hN : σ (L.nP d (add a n, b)) = 1 := by
    have e : ∀ m, m = L.nP d (a, b) → L.nP d (add a n, b) = add m (mul n (add (add a a) n)) := by
     rintro _ rfl
     exact (Laws.req L [a, b, n, d] (.add (.mul (.add (.v 0) (.v 2)) (.add (.v 0) (.v 2))) (.neg (.mul (.mul (.v 1) (.v 1)) (.v 3)))) (.add (.add (.mul (.v 0) (.v 0)) (.neg (.mul (.mul (.v 1) (.v 1)) (.v 3)))) (.mul (.v 2) (.add (.add (.v 0) (.v 0)) (.v 2)))) (by decide +kernel))
    rw [e _ rfl]
    exact S.sp _ _ h1 (by rw [S.sm, hn, S.sp _ _ (S.sp _ _ ha (by omega)) (by omega)]; decide)
   rw [(Sx hN).1]
   exact S.sp _ _ ha (by omega)
 · obtain ⟨k1, k2⟩ := S.no_rt L hd hE h1
   have k1 : σ a = 0 := k1
   have k2 : σ b = 0 := k2
   have : σ (add a n) = 1 := by rw [S.add0 L k1, hn]
   unfold Laws.sx
   rw [if_pos (.inl k2)]; exact this
 · obtain ⟨k1, z1⟩ := Sm h1
   have k1 : L.sx d σ (a, b) = σ b := k1
   have z1 : σ b ≠ 0 := z1
   have hb : σ b = 1 := by rcases S.tri b with h | h | h <;> omega
   rcases S.tri (L.nP d (add a n, b)) with h2 | h2 | h2
   · obtain ⟨k3, z3⟩ := Sx h2
     rw [k3]
     show σ (add a n) = 1
     have z3 : σ (add a n) ≠ 0 := z3
     rcases S.tri (add a n) with h | h | h
     · exact h
     · omega
     · exfalso
       have e : ∀ m, m = L.nP d (add a n, b) → L.nP d (a, b) = add m (mul n (add (neg (add a n)) (add (neg (add a n)) n))) := by
        rintro _ rfl
        exact (Laws.req L [a, b, n, d] (.add (.mul (.v 0) (.v 0)) (.neg (.mul (.mul (.v 1) (.v 1)) (.v 3)))) (.add (.add (.mul (.add (.v 0) (.v 2)) (.add (.v 0) (.v 2))) (.neg (.mul (.mul (.v 1) (.v 1)) (.v 3)))) (.mul (.v 2) (.add (.neg (.add (.v 0) (.v 2))) (.add (.neg (.add (.v 0) (.v 2))) (.v 2))))) (by decide +kernel))
       have g1 : σ (neg (add a n)) = 1 := by rw [S.sn]; omega
       rw [e _ rfl, S.sp _ _ h2 (by rw [S.sm, hn, S.sp _ _ g1 (by rw [S.sp _ _ g1 (by omega)]; decide)]; decide)] at h1
       omega
   · have := (S.no_rt L hd hE h2).2
     have : σ b = 0 := this
     omega
   · rw [(Sm h2).1]; exact hb
theorem Sgn.ext : Sgn L.aQ (L.mQ d) L.gQ (one, zero) (L.sx d σ) := by
 have tri : ∀ p, L.sx d σ p = 1 ∨ L.sx d σ p = 0 ∨ L.sx d σ p = -1 := by
  intro p
  rw [S.sx_eq L hd]
  split
  · exact S.tri _
  · split
    · exact S.tri _
    · rcases S.tri p.1 with h | h | h <;> rcases S.tri p.2 with h' | h' | h' <;> rw [h, h'] <;> decide
 have low : ∀ a b, σ b = 0 → L.sx d σ (a, b) = σ a := by
  intro a b h
  unfold Laws.sx
  rw [if_pos (.inl h)]
 by_cases hE : ∃ p q, L.Rt d σ p q
 · obtain ⟨p, q, h⟩ := hE
   have hadd : ∀ x y : α × α, add (mul (L.aQ x y).1 q) (mul (L.aQ x y).2 p) = add (add (mul x.1 q) (mul x.2 p)) (add (mul y.1 q) (mul y.2 p)) := by
    rintro ⟨a, b⟩ ⟨a2, b2⟩
    exact (Laws.req L [a, b, a2, b2, p, q] (.add (.mul (.add (.v 0) (.v 2)) (.v 5)) (.mul (.add (.v 1) (.v 3)) (.v 4))) (.add (.add (.mul (.v 0) (.v 5)) (.mul (.v 1) (.v 4))) (.add (.mul (.v 2) (.v 5)) (.mul (.v 3) (.v 4)))) (by decide +kernel))
   refine ⟨tri, S.sneg L hd, S.smul L hd, fun x y hx hy => ?_, fun x y hx hy => ?_, by rw [low _ _ (S.s0 L), S.s1]⟩
   · rw [S.sx_rt L hd h] at hx hy ⊢
     rw [hadd]; exact S.sa _ _ hx hy
   · rw [S.sx_rt L hd h] at hx hy ⊢
     rw [hadd]; exact S.sp _ _ hx hy
 · have hE : ∀ p q, ¬ L.Rt d σ p q := fun p q h => hE ⟨p, q, h⟩
   have pos : ∀ x y : α × α, L.sx d σ x = 1 → 0 ≤ L.sx d σ y → L.sx d σ (L.aQ x y) = 1 := by
    intro x y hx hy
    have hN : σ (L.nP d x) ≠ 0 := fun h0 => by
     have h1 := (S.sxz L hd h0).1
     have h2 := S.no_rt L hd hE h0
     rw [h2.1, h2.2] at h1
     rw [h1] at hx
     exact absurd hx (by decide)
    have ex : L.mQ d x (x.1, neg x.2) = (L.nP d x, zero) := by
     obtain ⟨a, b⟩ := x
     exact Prod.ext (Laws.req L [a, b, d] (.add (.mul (.v 0) (.v 0)) (.mul (.mul (.v 1) (.neg (.v 1))) (.v 2))) (.add (.mul (.v 0) (.v 0)) (.neg (.mul (.mul (.v 1) (.v 1)) (.v 2)))) (by decide +kernel)) (Laws.req L [a, b] (.add (.mul (.v 0) (.neg (.v 1))) (.mul (.v 1) (.v 0))) .z (by decide +kernel))
    have ey : L.mQ d (L.aQ x y) (x.1, neg x.2) = (add (L.mQ d y (x.1, neg x.2)).1 (L.nP d x), (L.mQ d y (x.1, neg x.2)).2) := by
     obtain ⟨a, b⟩ := x
     obtain ⟨a2, b2⟩ := y
     exact Prod.ext (Laws.req L [a, b, a2, b2, d] (.add (.mul (.add (.v 0) (.v 2)) (.v 0)) (.mul (.mul (.add (.v 1) (.v 3)) (.neg (.v 1))) (.v 4))) (.add (.add (.mul (.v 2) (.v 0)) (.mul (.mul (.v 3) (.neg (.v 1))) (.v 4))) (.add (.mul (.v 0) (.v 0)) (.neg (.mul (.mul (.v 1) (.v 1)) (.v 4))))) (by decide +kernel)) (Laws.req L [a, b, a2, b2, d] (.add (.mul (.add (.v 0) (.v 2)) (.neg (.v 1))) (.mul (.add (.v 1) (.v 3)) (.v 0))) (.add (.mul (.v 2) (.neg (.v 1))) (.mul (.v 3) (.v 0))) (by decide +kernel))
    have hc : L.sx d σ (x.1, neg x.2) = σ (L.nP d x) := by
     have := S.smul L hd x (x.1, neg x.2)
     rw [ex, low _ _ (S.s0 L), hx, Int.one_mul] at this
     exact this.symm
    have hyc := S.smul L hd y (x.1, neg x.2)
    have hxy := S.smul L hd (L.aQ x y) (x.1, neg x.2)
    rw [hc] at hyc hxy
    rcases S.tri (L.nP d x) with h1 | h1 | h1
    · rw [h1, Int.mul_one] at hyc hxy
      rw [← hxy, ey]
      exact S.sx_n L hd hE h1 (by rw [← hyc] at hy; exact hy)
    · exact absurd h1 hN
    · rw [h1] at hyc hxy
      have hg := S.sneg L hd (L.mQ d (L.aQ x y) (x.1, neg x.2))
      have eg : L.gQ (L.mQ d (L.aQ x y) (x.1, neg x.2)) = (add (L.gQ (L.mQ d y (x.1, neg x.2))).1 (neg (L.nP d x)), (L.gQ (L.mQ d y (x.1, neg x.2))).2) := by
       rw [ey]
       exact Prod.ext (L.nd _ _) rfl
      have h2 := S.sx_n L hd hE (n := neg (L.nP d x)) (a := (L.gQ (L.mQ d y (x.1, neg x.2))).1) (b := (L.gQ (L.mQ d y (x.1, neg x.2))).2) (by rw [S.sn]; omega) (by
       show 0 ≤ L.sx d σ (L.gQ (L.mQ d y (x.1, neg x.2)))
       rw [S.sneg L hd, hyc]; omega)
      rw [← eg] at h2
      omega
   refine ⟨tri, S.sneg L hd, S.smul L hd, fun x y hx hy => ?_, pos, by rw [low _ _ (S.s0 L), S.s1]⟩
   rcases tri x with h | h | h
   · rw [pos x y h hy]; decide
   · rcases tri y with h' | h' | h'
     · have e : L.aQ x y = L.aQ y x := Prod.ext (L.ac _ _) (L.ac _ _)
       rw [e, pos y x h' hx]; decide
     · have zz : ∀ p, L.sx d σ p = 0 → σ p.1 = 0 ∧ σ p.2 = 0 := by
        intro p hp
        rcases S.tri (L.nP d p) with g | g | g
        · have := S.sx1 L hd g; omega
        · exact S.no_rt L hd hE g
        · have := S.sxm L hd g; omega
       have z1 := zz x h
       have z2 := zz y h'
       have : L.sx d σ (L.aQ x y) = 0 := by
        rw [show L.aQ x y = (add x.1 y.1, add x.2 y.2) from rfl, low _ _ (by rw [S.add0 L z1.2, z2.2]), S.add0 L z1.1, z2.1]
       omega
     · omega
   · omega
end
end
section
def sgnQ (x : Rat) : Int := if 0 < x then 1 else if x < 0 then -1 else 0
theorem sgnQ_tri (x : Rat) : (0 < x ∧ sgnQ x = 1) ∨ (x = 0 ∧ sgnQ x = 0) ∨ (x < 0 ∧ sgnQ x = -1) := by
 unfold sgnQ
 by_cases h : 0 < x
 · left; exact ⟨h, if_pos h⟩
 · by_cases h2 : x < 0
   · right; right; exact ⟨h2, by rw [if_neg h, if_pos h2]⟩
   · right; left; exact ⟨by grind, by rw [if_neg h, if_neg h2]⟩
theorem sgnQ_pos {x : Rat} (h : 0 < x) : sgnQ x = 1 := if_pos h
theorem sgnQ_neg {x : Rat} (h : x < 0) : sgnQ x = -1 := by unfold sgnQ; rw [if_neg (by grind), if_pos h]
theorem mul_neg_pos {x y : Rat} (h : x < 0) (k : 0 < y) : x * y < 0 := by
 have := Rat.mul_pos (show 0 < -x by grind) k
 grind
theorem mul_neg_neg {x y : Rat} (h : x < 0) (k : y < 0) : 0 < x * y := by
 have := Rat.mul_pos (show 0 < -x by grind) (show 0 < -y by grind)
 grind
theorem sgnQ_ok : Sgn (α := Rat) (fun x y => x + y) (fun x y => x * y) (fun x => -x) 1 sgnQ := by
 refine ⟨fun a => ?_, fun a => ?_, fun a b => ?_, fun a b ha hb => ?_, fun a b ha hb => ?_, by decide⟩
 · rcases sgnQ_tri a with h | h | h <;> simp [h.2]
 · rcases sgnQ_tri a with h | h | h
   · rw [h.2, sgnQ_neg (by grind)]
   · rw [h.1, Rat.neg_zero]; rfl
   · rw [h.2, sgnQ_pos (by grind)]; rfl
 · rcases sgnQ_tri a with h | h | h <;> rcases sgnQ_tri b with k | k | k <;> rw [h.2, k.2]
   · exact sgnQ_pos (Rat.mul_pos h.1 k.1)
   · rw [k.1, Rat.mul_zero]; rfl
   · rw [Rat.mul_comm]; exact sgnQ_neg (mul_neg_pos k.1 h.1)
   · rw [h.1, Rat.zero_mul]; rfl
   · rw [h.1, Rat.zero_mul]; rfl
   · rw [h.1, Rat.zero_mul]; rfl
   · exact sgnQ_neg (mul_neg_pos h.1 k.1)
   · rw [k.1, Rat.mul_zero]; rfl
   · exact sgnQ_pos (mul_neg_neg h.1 k.1)
 · rcases sgnQ_tri a with h | h | h <;> rcases sgnQ_tri b with k | k | k <;> rw [h.2] at ha <;> rw [k.2] at hb <;> first | (exact absurd ha (by decide)) | (exact absurd hb (by decide)) | skip
   · rw [sgnQ_pos (by grind)]; decide
   · rw [sgnQ_pos (by grind)]; decide
   · rw [sgnQ_pos (by grind)]; decide
   · rw [h.1, k.1, Rat.add_zero]; decide
 · rcases sgnQ_tri a with h | h | h <;> rcases sgnQ_tri b with k | k | k <;> rw [h.2] at ha <;> rw [k.2] at hb <;> first | (exact absurd ha (by decide)) | (exact absurd hb (by decide)) | exact sgnQ_pos (by grind)
def sgn : (k : Nat) → Tw k → El k → Int
 | 0 => fun _ (x : Rat) => sgnQ x
 | k + 1 => fun t a => (ring k t.1).sx t.2 (sgn k t.1) a
def real : (k : Nat) → Tw k → Prop
 | 0 => fun _ => True
 | k + 1 => fun t => real k t.1 ∧ sgn k t.1 t.2 = 1
theorem sgn_ok : ∀ {k : Nat} {t : Tw k}, real k t → Sgn (add k) (mul k t) (neg k) (rat k 1) (sgn k t)
 | 0, _, _ => sgnQ_ok
 | k + 1, t, h => (sgn_ok h.1).ext (ring k t.1) h.2
section
variable {k : Nat} {t : Tw k}
theorem sgn_up {t : Tw (k + 1)} (a : El k) (h : real k t.1) : sgn (k + 1) t (up k a) = sgn k t.1 a := by
 have hz := (sgn_ok h).s0 (ring k t.1)
 show (ring k t.1).sx t.2 (sgn k t.1) (a, zero k) = _
 unfold Laws.sx
 rw [if_pos (.inl hz)]
theorem sgn_rat {x : Rat} (h : real k t) : sgn k t (rat k x) = sgnQ x := by
 induction k with
 | zero => rfl
 | succ k ih => rw [show rat (k + 1) x = up k (rat k x) from rfl, sgn_up _ h.1, ih h.1]
theorem sgn_tri : ∀ {k : Nat} (t : Tw k) (a : El k), sgn k t a = 1 ∨ sgn k t a = 0 ∨ sgn k t a = -1
 | 0, _, a => by
  rcases sgnQ_tri a with h | h | h
  · exact .inl h.2
  · exact .inr (.inl h.2)
  · exact .inr (.inr h.2)
 | k + 1, t, a => by
  show (ring k t.1).sx t.2 (sgn k t.1) a = 1 ∨ (ring k t.1).sx t.2 (sgn k t.1) a = 0 ∨ (ring k t.1).sx t.2 (sgn k t.1) a = -1
  unfold Laws.sx
  split
  · exact sgn_tri _ _
  · split
    · exact sgn_tri _ _
    · rcases sgn_tri t.1 a.1 with h | h | h <;> rcases sgn_tri t.1 ((ring k t.1).nP t.2 a) with g | g | g <;> rw [h, g] <;> decide
def le (k : Nat) (t : Tw k) (a b : El k) : Prop := 0 ≤ sgn k t (add k b (neg k a))
end
end
section
section
variable {α : Type} {add mul : α → α → α} {neg : α → α} {zero one : α} {σ : α → Int} (L : Laws add mul neg zero one) (S : Sgn add mul neg one σ)
include L S
theorem Sgn.le_rf (a : α) : 0 ≤ σ (add a (neg a)) := by rw [L.an, S.s0 L]; exact Int.le_refl _
theorem Sgn.le_tr {a b c : α} (h : 0 ≤ σ (add b (neg a))) (k : 0 ≤ σ (add c (neg b))) : 0 ≤ σ (add c (neg a)) := by
 have e : add c (neg a) = add (add c (neg b)) (add b (neg a)) := (Laws.req L [a, b, c] (.add (.v 2) (.neg (.v 0))) (.add (.add (.v 2) (.neg (.v 1))) (.add (.v 1) (.neg (.v 0)))) (by decide +kernel))
 rw [e]; exact S.sa _ _ k h
theorem Sgn.le_ad {a b c d : α} (h : 0 ≤ σ (add b (neg a))) (k : 0 ≤ σ (add d (neg c))) : 0 ≤ σ (add (add b d) (neg (add a c))) := by
 have e : add (add b d) (neg (add a c)) = add (add b (neg a)) (add d (neg c)) := (Laws.req L [a, b, c, d] (.add (.add (.v 1) (.v 3)) (.neg (.add (.v 0) (.v 2)))) (.add (.add (.v 1) (.neg (.v 0))) (.add (.v 3) (.neg (.v 2)))) (by decide +kernel))
 rw [e]; exact S.sa _ _ h k
theorem Sgn.le_ml {a b c : α} (h : 0 ≤ σ (add b (neg a))) (hc : 0 ≤ σ c) : 0 ≤ σ (add (mul c b) (neg (mul c a))) := by
 have e : add (mul c b) (neg (mul c a)) = mul c (add b (neg a)) := (Laws.req L [a, b, c] (.add (.mul (.v 2) (.v 1)) (.neg (.mul (.v 2) (.v 0)))) (.mul (.v 2) (.add (.v 1) (.neg (.v 0)))) (by decide +kernel))
 rw [e, S.sm]; exact Int.mul_nonneg hc h
theorem Sgn.le_mn {a b c : α} (h : 0 ≤ σ (add b (neg a))) (hc : σ c ≤ 0) : 0 ≤ σ (add (mul c a) (neg (mul c b))) := by
 have e : add (mul c a) (neg (mul c b)) = mul (neg c) (add b (neg a)) := (Laws.req L [a, b, c] (.add (.mul (.v 2) (.v 0)) (.neg (.mul (.v 2) (.v 1)))) (.mul (.neg (.v 2)) (.add (.v 1) (.neg (.v 0)))) (by decide +kernel))
 rw [e, S.sm, S.sn]; exact Int.mul_nonneg (by omega) h
theorem Sgn.le_sq {x y : α} (hx : 0 ≤ σ x) (hy : 0 ≤ σ y) (h : 0 ≤ σ (add (mul y y) (neg (mul x x)))) : 0 ≤ σ (add y (neg x)) := by
 have e : add (mul y y) (neg (mul x x)) = mul (add y (neg x)) (add y x) := (Laws.req L [x, y] (.add (.mul (.v 1) (.v 1)) (.neg (.mul (.v 0) (.v 0)))) (.mul (.add (.v 1) (.neg (.v 0))) (.add (.v 1) (.v 0))) (by decide +kernel))
 rw [e, S.sm] at h
 rcases S.tri (add y (neg x)) with h1 | h1 | h1
 · omega
 · omega
 · have h2 : σ (add x (neg y)) = 1 := by
    have e2 : add x (neg y) = neg (add y (neg x)) := (Laws.req L [x, y] (.add (.v 0) (.neg (.v 1))) (.neg (.add (.v 1) (.neg (.v 0)))) (by decide +kernel))
    rw [e2, S.sn, h1]; rfl
   have h3 := S.sp _ (add y y) h2 (S.sa _ _ hy hy)
   have e3 : add (add x (neg y)) (add y y) = add y x := (Laws.req L [x, y] (.add (.add (.v 0) (.neg (.v 1))) (.add (.v 1) (.v 1))) (.add (.v 1) (.v 0)) (by decide +kernel))
   rw [e3] at h3
   rw [h1, h3] at h
   exact absurd h (by decide)
end
def tw0 : (k : Nat) → Tw k
 | 0 => ()
 | k + 1 => (tw0 k, zero k)
theorem rat_add : ∀ (k : Nat) (x y : Rat), rat k (x + y) = add k (rat k x) (rat k y)
 | 0, _, _ => rfl
 | k + 1, x, y => by
  show (rat k (x + y), zero k) = (add k (rat k x) (rat k y), add k (zero k) (zero k))
  rw [rat_add k, (ring k (tw0 k)).az]
theorem rat_neg : ∀ (k : Nat) (x : Rat), rat k (-x) = neg k (rat k x)
 | 0, _ => rfl
 | k + 1, x => by
  show (rat k (-x), zero k) = (neg k (rat k x), neg k (zero k))
  rw [rat_neg k, (ring k (tw0 k)).nz]
theorem rat_mul : ∀ (k : Nat) (t : Tw k) (x y : Rat), rat k (x * y) = mul k t (rat k x) (rat k y)
 | 0, _, _, _ => rfl
 | k + 1, t, x, y => by
  show up k (rat k (x * y)) = mul (k + 1) t (up k (rat k x)) (up k (rat k y))
  rw [mul_up, rat_mul k t.1]
section
variable {k : Nat} {t : Tw k}
theorem le_ratI (h : real k t) {x y : Rat} : le k t (rat k x) (rat k y) ↔ x ≤ y := by
 unfold le
 rw [← rat_neg, ← rat_add, sgn_rat h]
 rcases sgnQ_tri (y + -x) with ⟨h1, e⟩ | ⟨h1, e⟩ | ⟨h1, e⟩ <;> rw [e]
 · exact ⟨fun _ => by grind, fun _ => by decide⟩
 · exact ⟨fun _ => by grind, fun _ => by decide⟩
 · exact ⟨fun h => absurd h (by decide), fun h => absurd h (by grind)⟩
theorem le_tr (h : real k t) {a b c : El k} (h1 : le k t a b) (h2 : le k t b c) : le k t a c := (sgn_ok h).le_tr (ring k t) h1 h2
theorem nn_iff (h : real k t) {a : El k} : le k t (rat k 0) a ↔ 0 ≤ sgn k t a := by
 unfold le
 rw [rat_zero, (ring k t).nz, (ring k t).az]
def inI (k : Nat) (t : Tw k) (a : El k) (x y : Rat) : Prop := le k t (rat k x) a ∧ le k t a (rat k y)
theorem inI_mono (h : real k t) {a : El k} {x y x' y' : Rat} (i : inI k t a x y) (hx : x' ≤ x) (hy : y ≤ y') : inI k t a x' y' :=
 ⟨le_tr h ((le_ratI h).2 hx) i.1, le_tr h i.2 ((le_ratI h).2 hy)⟩
theorem inI_le (h : real k t) {a : El k} {x y : Rat} (i : inI k t a x y) : x ≤ y := (le_ratI h).1 (le_tr h i.1 i.2)
theorem inI_add (h : real k t) {a b : El k} {x y x' y' : Rat} (i : inI k t a x y) (j : inI k t b x' y') : inI k t (add k a b) (x + x') (y + y') := by
 refine ⟨?_, ?_⟩
 · rw [rat_add]; exact (sgn_ok h).le_ad (ring k t) i.1 j.1
 · rw [rat_add]; exact (sgn_ok h).le_ad (ring k t) i.2 j.2
theorem inI_mul (h : real k t) {v s : El k} {a b c d m M : Rat} (i : inI k t v a b) (j : inI k t s c d) (hc : 0 ≤ c) (h1 : m ≤ a * c) (h2 : m ≤ a * d) (h3 : b * c ≤ M) (h4 : b * d ≤ M) : inI k t (mul k t v s) m M := by
 have S := sgn_ok h
 have L := ring k t
 have hs : 0 ≤ sgn k t s := (nn_iff h).1 (le_tr h ((le_ratI h).2 hc) j.1)
 have hsr : ∀ x : Rat, sgn k t (rat k x) = sgnQ x := fun x => sgn_rat h
 refine ⟨?_, ?_⟩
 · have e1 : le k t (mul k t (rat k a) s) (mul k t v s) := by
    rw [L.mc _ s, L.mc _ s]; exact S.le_ml L i.1 hs
   refine le_tr h ?_ e1
   by_cases ha : 0 ≤ a
   · refine le_tr h ((le_ratI h).2 h1) ?_
     rw [rat_mul k t]
     exact S.le_ml L j.1 (by rw [hsr]; rcases sgnQ_tri a with ⟨g, e⟩ | ⟨g, e⟩ | ⟨g, e⟩ <;> rw [e] <;> first | decide | grind)
   · refine le_tr h ((le_ratI h).2 h2) ?_
     rw [rat_mul k t]
     exact S.le_mn L j.2 (by rw [hsr, sgnQ_neg (by grind)]; decide)
 · have e1 : le k t (mul k t v s) (mul k t (rat k b) s) := by
    rw [L.mc _ s, L.mc _ s]; exact S.le_ml L i.2 hs
   refine le_tr h e1 ?_
   by_cases hb : 0 ≤ b
   · refine le_tr h ?_ ((le_ratI h).2 h4)
     rw [rat_mul k t]
     exact S.le_ml L j.2 (by rw [hsr]; rcases sgnQ_tri b with ⟨g, e⟩ | ⟨g, e⟩ | ⟨g, e⟩ <;> rw [e] <;> first | decide | grind)
   · refine le_tr h ?_ ((le_ratI h).2 h3)
     rw [rat_mul k t]
     exact S.le_mn L j.1 (by rw [hsr, sgnQ_neg (by grind)]; decide)
end
section
variable {k : Nat} {t : Tw (k + 1)}
theorem inI_up (h : real k t.1) {a : El k} {x y : Rat} (i : inI k t.1 a x y) : inI (k + 1) t (up k a) x y := by
 have e : ∀ a b : El k, add (k + 1) (up k b) (neg (k + 1) (up k a)) = up k (add k b (neg k a)) := by
  intro a b
  show (add k b (neg k a), add k (zero k) (neg k (zero k))) = (add k b (neg k a), zero k)
  rw [(ring k t.1).an]
 refine ⟨?_, ?_⟩
 · show 0 ≤ sgn (k + 1) t (add (k + 1) (up k a) (neg (k + 1) (up k (rat k x))))
   rw [e, sgn_up _ h]; exact i.1
 · show 0 ≤ sgn (k + 1) t (add (k + 1) (up k (rat k y)) (neg (k + 1) (up k a)))
   rw [e, sgn_up _ h]; exact i.2
def rt1 (k : Nat) : El (k + 1) := (zero k, rat k 1)
theorem rt1_sq : mul (k + 1) t (rt1 k) (rt1 k) = up k t.2 := by
 have L := ring k t.1
 simp only [mul, up, rt1, L.mz, L.zm, L.az, L.za, L.mo, L.om]; rfl
theorem sgn_rt1 (h : real k t.1) : sgn (k + 1) t (rt1 k) = 1 := by
 have S := sgn_ok h
 have h1 : sgn k t.1 (rat k 1) = 1 := S.s1
 have h0 : sgn k t.1 (zero k) = 0 := S.s0 (ring k t.1)
 show (ring k t.1).sx t.2 (sgn k t.1) (zero k, rat k 1) = 1
 unfold Laws.sx
 rw [if_neg (by rw [h1, h0]; decide), if_pos h0, h1]
theorem el_split (a : El (k + 1)) : a = add (k + 1) (up k a.1) (mul (k + 1) t (up k a.2) (rt1 k)) := by
 have L := ring k t.1
 obtain ⟨a, b⟩ := a
 simp only [add, mul, up, rt1, L.mz, L.zm, L.az, L.za, L.mo, L.om]; rfl
theorem in_root (h : real (k + 1) t) {r1 r2 c d : Rat} (i : inI k t.1 t.2 r1 r2) (hc : 0 ≤ c) (hd : 0 ≤ d) (h1 : c * c ≤ r1 ∨ c = 0) (h2 : r2 ≤ d * d) : inI (k + 1) t (rt1 k) c d := by
 have S := sgn_ok h
 have L := ring (k + 1) t
 have hr := sgn_rt1 (t := t) h.1
 have iu := inI_up h.1 i
 have hsr : ∀ x : Rat, 0 ≤ x → 0 ≤ sgn (k + 1) t (rat (k + 1) x) := fun x hx => by
  rw [sgn_rat h]; rcases sgnQ_tri x with ⟨g, e⟩ | ⟨g, e⟩ | ⟨g, e⟩ <;> rw [e] <;> first | decide | grind
 refine ⟨?_, ?_⟩
 · rcases h1 with h1 | rfl
   · refine S.le_sq L (hsr c hc) (by omega) ?_
     rw [← rat_mul, rt1_sq]
     exact le_tr h ((le_ratI h).2 h1) iu.1
   · exact (nn_iff h).2 (by omega)
 · refine S.le_sq L (by omega) (hsr d hd) ?_
   rw [← rat_mul, rt1_sq]
   exact le_tr h iu.2 ((le_ratI h).2 h2)
end
end
section
section
variable {k : Nat} {w : Tw k} {x : El k}
def tsn {k : Nat} (w : Tw k) (y : El k) : Tw (k + 1) := (w, y)
end
end
section
def isSq (k : Nat) (t : Tw k) (a : El k) : Prop := ∃ w, mul k t w w = a
def red : (k : Nat) → Tw k → Prop
 | 0 => fun _ => True
 | k + 1 => fun t => red k t.1 ∧ sgn k t.1 t.2 = 1 ∧ ¬ isSq k t.1 t.2
theorem red_real : ∀ {k : Nat} {t : Tw k}, red k t → real k t
 | 0, _, _ => trivial
 | k + 1, t, h => ⟨red_real h.1, h.2.1⟩
section
variable {α : Type} {add mul : α → α → α} {neg : α → α} {zero one : α} (L : Laws add mul neg zero one)
include L
theorem Laws.sub0 {a b : α} (h : add a (neg b) = zero) : a = b := by
 have e : a = add (add a (neg b)) b := (Laws.req L [a, b] (.v 0) (.add (.add (.v 0) (.neg (.v 1))) (.v 1)) (by decide +kernel))
 rw [e, h, L.za]
theorem Laws.sb {a b : α} (h : a = b) : add a (neg b) = zero := by rw [h, L.an]
theorem Laws.hi {h i m r u v x : α} (hh : add h h = one) (hx : mul x x = mul h (add u m)) (hm : mul m m = add (mul u u) (neg (mul (mul v v) r))) (hi : mul i (add x x) = one) :
 add (mul x x) (mul (mul (mul v i) (mul v i)) r) = u ∧ add (mul x (mul v i)) (mul (mul v i) x) = v := by
 have e1 : mul (mul v v) r = mul (add u (neg m)) (add u m) := by
  have : mul (mul v v) r = add (mul u u) (neg (mul m m)) := by
   rw [hm]; exact (Laws.req L [u, v, r] (.mul (.mul (.v 1) (.v 1)) (.v 2)) (.add (.mul (.v 0) (.v 0)) (.neg (.add (.mul (.v 0) (.v 0)) (.neg (.mul (.mul (.v 1) (.v 1)) (.v 2)))))) (by decide +kernel))
  rw [this]; exact (Laws.req L [u, m] (.add (.mul (.v 0) (.v 0)) (.neg (.mul (.v 1) (.v 1)))) (.mul (.add (.v 0) (.neg (.v 1))) (.add (.v 0) (.v 1))) (by decide +kernel))
 have e2 : add u m = add (mul x x) (mul x x) := by
  rw [hx, ← L.dm, hh, L.om]
 have e3 : mul (mul i i) (add (mul x x) (mul x x)) = h := by
  have : mul (mul i i) (add (mul x x) (mul x x)) = mul h (mul (mul i (add x x)) (mul i (add x x))) := by
   have e4 : mul h (mul (mul i (add x x)) (mul i (add x x))) = mul (add h h) (mul (mul i i) (add (mul x x) (mul x x))) := (Laws.req L [h, i, x] (.mul (.v 0) (.mul (.mul (.v 1) (.add (.v 2) (.v 2))) (.mul (.v 1) (.add (.v 2) (.v 2))))) (.mul (.add (.v 0) (.v 0)) (.mul (.mul (.v 1) (.v 1)) (.add (.mul (.v 2) (.v 2)) (.mul (.v 2) (.v 2))))) (by decide +kernel))
   rw [e4, hh, L.om]
  rw [this, hi, L.mo, L.mo]
 constructor
 · have e5 : mul (mul (mul v i) (mul v i)) r = mul (add u (neg m)) h := by
    have : mul (mul (mul v i) (mul v i)) r = mul (mul i i) (mul (mul v v) r) := (Laws.req L [v, i, r] (.mul (.mul (.mul (.v 0) (.v 1)) (.mul (.v 0) (.v 1))) (.v 2)) (.mul (.mul (.v 1) (.v 1)) (.mul (.mul (.v 0) (.v 0)) (.v 2))) (by decide +kernel))
    rw [this, e1]
    have : mul (mul i i) (mul (add u (neg m)) (add u m)) = mul (add u (neg m)) (mul (mul i i) (add u m)) := (Laws.req L [u, m, i] (.mul (.mul (.v 2) (.v 2)) (.mul (.add (.v 0) (.neg (.v 1))) (.add (.v 0) (.v 1)))) (.mul (.add (.v 0) (.neg (.v 1))) (.mul (.mul (.v 2) (.v 2)) (.add (.v 0) (.v 1)))) (by decide +kernel))
    rw [this, e2, e3]
   rw [e5, hx]
   have : add (mul h (add u m)) (mul (add u (neg m)) h) = mul (add h h) u := (Laws.req L [h, u, m] (.add (.mul (.v 0) (.add (.v 1) (.v 2))) (.mul (.add (.v 1) (.neg (.v 2))) (.v 0))) (.mul (.add (.v 0) (.v 0)) (.v 1)) (by decide +kernel))
   rw [this, hh, L.om]
 · have : add (mul x (mul v i)) (mul (mul v i) x) = mul v (mul i (add x x)) := (Laws.req L [x, v, i] (.add (.mul (.v 0) (.mul (.v 1) (.v 2))) (.mul (.mul (.v 1) (.v 2)) (.v 0))) (.mul (.v 1) (.mul (.v 2) (.add (.v 0) (.v 0)))) (by decide +kernel))
   rw [this, hi, L.mo]
end
section
variable {k : Nat} {t : Tw k}
theorem sgn_mul0 (h : real k t) {a b : El k} (e : mul k t a b = zero k) : sgn k t a = 0 ∨ sgn k t b = 0 := by
 have := (sgn_ok h).sm a b
 rw [e, (sgn_ok h).s0 (ring k t)] at this
 exact Int.mul_eq_zero.1 this.symm
theorem red_fld : ∀ {k : Nat} {t : Tw k}, red k t → (∀ a, sgn k t a = 0 → a = zero k) ∧ (∀ a, a ≠ zero k → ∃ b, inv k t a = some b)
 | 0, _, _ => by
  refine ⟨fun a h => ?_, fun a h => ?_⟩
  · rcases sgnQ_tri a with ⟨h1, e⟩ | ⟨h1, e⟩ | ⟨h1, e⟩
    · exact absurd (show sgnQ a = 0 from h) (by rw [e]; decide)
    · exact h1
    · exact absurd (show sgnQ a = 0 from h) (by rw [e]; decide)
  · have h2 : ∀ x : Rat, ¬ x = 0 → ∃ b, (if x = 0 then none else some (1 / x)) = some b := fun x h => ⟨1 / x, if_neg h⟩
    exact h2 a h
 | k + 1, t, h => by
  obtain ⟨f1, f2⟩ := red_fld h.1
  have R := red_real h.1
  have L := ring k t.1
  have S := sgn_ok R
  have key : ∀ x y : El k, norm k t (x, y) = zero k → x = zero k ∧ y = zero k := by
   intro x y hn
   have hn : add k (mul k t.1 x x) (neg k (mul k t.1 (mul k t.1 y y) t.2)) = zero k := hn
   by_cases hy : y = zero k
   · subst hy
     rw [L.mz, L.zm, L.nz, L.az] at hn
     refine ⟨f1 x ?_, rfl⟩
     rcases sgn_mul0 R hn with e | e <;> exact e
   · exfalso
     obtain ⟨b, hb⟩ := f2 y hy
     have hb := inv_mul hb
     refine h.2.2 ⟨mul k t.1 x b, ?_⟩
     have e := L.sub0 hn
     have e1 : mul k t.1 (mul k t.1 x b) (mul k t.1 x b) = mul k t.1 (mul k t.1 b b) (mul k t.1 x x) := (Laws.req L [x, b] (.mul (.mul (.v 0) (.v 1)) (.mul (.v 0) (.v 1))) (.mul (.mul (.v 1) (.v 1)) (.mul (.v 0) (.v 0))) (by decide +kernel))
     have e2 : mul k t.1 (mul k t.1 b b) (mul k t.1 (mul k t.1 y y) t.2) = mul k t.1 (mul k t.1 (mul k t.1 b y) (mul k t.1 b y)) t.2 := (Laws.req L [b, y, t.2] (.mul (.mul (.v 0) (.v 0)) (.mul (.mul (.v 1) (.v 1)) (.v 2))) (.mul (.mul (.mul (.v 0) (.v 1)) (.mul (.v 0) (.v 1))) (.v 2)) (by decide +kernel))
     rw [e1, e, e2, hb, L.mo, L.om]
  refine ⟨fun a ha => ?_, fun a ha => ?_⟩
  · obtain ⟨x, y⟩ := a
    have ha : L.sx t.2 (sgn k t.1) (x, y) = 0 := ha
    have hz : x = zero k ∧ y = zero k := by
     unfold Laws.sx at ha
     split at ha
     · rename_i h1
       have h1 : sgn k t.1 y = 0 ∨ sgn k t.1 x = sgn k t.1 y := h1
       have ha : sgn k t.1 x = 0 := ha
       exact ⟨f1 _ ha, f1 _ (by omega)⟩
     · rename_i h1
       have h1 : ¬ (sgn k t.1 y = 0 ∨ sgn k t.1 x = sgn k t.1 y) := h1
       split at ha
       · have ha : sgn k t.1 y = 0 := ha
         omega
       · rename_i h2
         have h2 : ¬ sgn k t.1 x = 0 := h2
         rcases Int.mul_eq_zero.1 ha with e | e
         · exact absurd e h2
         · exact key x y (f1 _ e)
    rw [hz.1, hz.2]; rfl
  · have hn : norm k t a ≠ zero k := fun e => ha (by
     obtain ⟨x, y⟩ := a
     obtain ⟨e1, e2⟩ := key x y e
     rw [e1, e2]; rfl)
    obtain ⟨b, hb⟩ := f2 _ hn
    refine ⟨(mul k t.1 a.1 b, neg k (mul k t.1 a.2 b)), ?_⟩
    show (match inv k t.1 (norm k t a) with | none => none | some n => some (mul k t.1 a.1 n, neg k (mul k t.1 a.2 n))) = _
    rw [hb]; rfl
theorem red_zero (h : red k t) {a : El k} : sgn k t a = 0 ↔ a = zero k :=
 ⟨(red_fld h).1 a, fun e => by rw [e]; exact (sgn_ok (red_real h)).s0 (ring k t)⟩
theorem red_mul0 (h : red k t) {a b : El k} (e : mul k t a b = zero k) : a = zero k ∨ b = zero k :=
 (sgn_mul0 (red_real h) e).imp (red_zero h).1 (red_zero h).1
theorem sq_uniq (h : red k t) {a b : El k} (e : mul k t a a = mul k t b b) : a = b ∨ a = neg k b := by
 have L := ring k t
 have e1 : mul k t (add k a (neg k b)) (add k a b) = add k (mul k t a a) (neg k (mul k t b b)) := (Laws.req L [a, b] (.mul (.add (.v 0) (.neg (.v 1))) (.add (.v 0) (.v 1))) (.add (.mul (.v 0) (.v 0)) (.neg (.mul (.v 1) (.v 1)))) (by decide +kernel))
 rw [L.sb e] at e1
 rcases red_mul0 h e1 with e2 | e2
 · exact .inl (L.sub0 e2)
 · right
   rw [L.ac] at e2
   exact L.nu e2
theorem sq_pos (h : red k t) {a b : El k} (e : mul k t a a = mul k t b b) (ha : 0 ≤ sgn k t a) (hb : 0 ≤ sgn k t b) : a = b := by
 rcases sq_uniq h e with e1 | e1
 · exact e1
 · rw [e1, (sgn_ok (red_real h)).sn] at ha
   have hb0 : b = zero k := (red_zero h).1 (by omega)
   rw [e1, hb0, (ring k t).nz]
theorem dbl0 (h : red k t) {a : El k} (e : add k a a = zero k) : a = zero k := by
 rw [← red_zero h] at e ⊢
 rwa [(sgn_ok (red_real h)).same (ring k t) rfl] at e
theorem half_add : add k (rat k (1 / 2)) (rat k (1 / 2)) = rat k 1 := by
 rw [← rat_add]; congr 1; grind
end
section
variable {k : Nat} {t : Tw (k + 1)}
theorem sq_up {w u : El k} (e : mul k t.1 w w = u) : mul (k + 1) t (up k w) (up k w) = up k u := by rw [mul_up, e]
theorem sq_low {w u i : El k} (hi : mul k t.1 i t.2 = rat k 1) (e : mul k t.1 w w = mul k t.1 u i) : mul (k + 1) t (zero k, w) (zero k, w) = up k u := by
 have L := ring k t.1
 have hi := hi
 refine Prod.ext ?_ ?_
 · show add k (mul k t.1 (zero k) (zero k)) (mul k t.1 (mul k t.1 w w) t.2) = u
   rw [e, L.mz, L.za, L.ma, hi, L.mo]
 · show add k (mul k t.1 (zero k) w) (mul k t.1 w (zero k)) = zero k
   rw [L.mz, L.zm, L.az]
theorem sq_low_no (h : red k t.1) {u i : El k} (hi : mul k t.1 i t.2 = rat k 1) (h1 : ¬ isSq k t.1 u) (h2 : ¬ isSq k t.1 (mul k t.1 u i)) : ¬ isSq (k + 1) t (up k u) := by
 rintro ⟨⟨p, q⟩, e⟩
 have L := ring k t.1
 have e1 : add k (mul k t.1 p p) (mul k t.1 (mul k t.1 q q) t.2) = u := congrArg Prod.fst e
 have e2 : add k (mul k t.1 p q) (mul k t.1 q p) = zero k := congrArg Prod.snd e
 rw [L.mc q p] at e2
 rcases red_mul0 h (dbl0 h e2) with e3 | e3
 · refine h2 ⟨q, ?_⟩
   rw [← e1, e3, L.mz, L.za]
   have : mul k t.1 (mul k t.1 (mul k t.1 q q) t.2) i = mul k t.1 (mul k t.1 q q) (mul k t.1 i t.2) := (Laws.req L [q, t.2, i] (.mul (.mul (.mul (.v 0) (.v 0)) (.v 1)) (.v 2)) (.mul (.mul (.v 0) (.v 0)) (.mul (.v 2) (.v 1))) (by decide +kernel))
   rw [this, hi, L.mo]
 · exact h1 ⟨p, by rw [← e1, e3, L.mz, L.zm, L.az]⟩
theorem sq_hi {u v m w i : El k} (hm : mul k t.1 m m = norm k t (u, v)) (hw : mul k t.1 w w = mul k t.1 (rat k (1 / 2)) (add k u m)) (hi : mul k t.1 i (add k w w) = rat k 1) :
 mul (k + 1) t (w, mul k t.1 v i) (w, mul k t.1 v i) = (u, v) := by
 obtain ⟨e1, e2⟩ := (ring k t.1).hi half_add hw hm hi
 exact Prod.ext e1 e2
theorem sq_norm {a : El (k + 1)} (h : isSq (k + 1) t a) : isSq k t.1 (norm k t a) := by
 obtain ⟨w, rfl⟩ := h
 exact ⟨norm k t w, by rw [norm_mul]⟩
theorem sq_hi_no (h : red k t.1) {u v m : El k} (hv : v ≠ zero k) (hm : mul k t.1 m m = norm k t (u, v)) (hs : isSq (k + 1) t (u, v)) :
 ∃ p, p ≠ zero k ∧ (mul k t.1 p p = mul k t.1 (rat k (1 / 2)) (add k u m) ∨ mul k t.1 p p = mul k t.1 (rat k (1 / 2)) (add k u (neg k m))) := by
 obtain ⟨⟨p, q⟩, e⟩ := hs
 have L := ring k t.1
 have e1 : add k (mul k t.1 p p) (mul k t.1 (mul k t.1 q q) t.2) = u := congrArg Prod.fst e
 have e2 : add k (mul k t.1 p q) (mul k t.1 q p) = v := congrArg Prod.snd e
 have hh : add k (rat k (1 / 2)) (rat k (1 / 2)) = rat k 1 := half_add
 refine ⟨p, fun e0 => hv (by rw [← e2, e0, L.mz, L.zm, L.az]), ?_⟩
 have key : mul k t.1 p p = mul k t.1 (rat k (1 / 2)) (add k u (norm k t (p, q))) := by
  rw [← e1]
  show _ = mul k t.1 (rat k (1 / 2)) (add k _ (add k (mul k t.1 p p) (neg k (mul k t.1 (mul k t.1 q q) t.2))))
  generalize rat k (1 / 2) = c at hh ⊢
  have e4 : mul k t.1 c (add k (add k (mul k t.1 p p) (mul k t.1 (mul k t.1 q q) t.2)) (add k (mul k t.1 p p) (neg k (mul k t.1 (mul k t.1 q q) t.2)))) = mul k t.1 (add k c c) (mul k t.1 p p) := (Laws.req L [c, p, q, t.2] (.mul (.v 0) (.add (.add (.mul (.v 1) (.v 1)) (.mul (.mul (.v 2) (.v 2)) (.v 3))) (.add (.mul (.v 1) (.v 1)) (.neg (.mul (.mul (.v 2) (.v 2)) (.v 3)))))) (.mul (.add (.v 0) (.v 0)) (.mul (.v 1) (.v 1))) (by decide +kernel))
  rw [e4, hh, L.om]
 have e3 : mul k t.1 m m = mul k t.1 (norm k t (p, q)) (norm k t (p, q)) := by
  rw [hm, ← e]
  exact norm_mul k t (pr p q) (pr p q)
 rcases sq_uniq h e3 with e5 | e5
 · left; rw [e5]; exact key
 · right; rw [e5, L.nn]; exact key
end
theorem sq_w0 {k : Nat} {t : Tw (k + 1)} (h : red (k + 1) t) {u v m w : El k} (hv : v ≠ zero k) (hm : mul k t.1 m m = norm k t (u, v)) (hw : mul k t.1 w w = mul k t.1 (rat k (1 / 2)) (add k u m)) : w ≠ zero k := by
 intro e
 have L := ring k t.1
 have hh : add k (rat k (1 / 2)) (rat k (1 / 2)) = rat k 1 := half_add
 generalize rat k (1 / 2) = c at hh hw
 rw [e, L.mz] at hw
 have e1 : add k u m = add k (mul k t.1 c (add k u m)) (mul k t.1 c (add k u m)) := by rw [← L.dm, hh, L.om]
 rw [← hw, L.az] at e1
 have hm' : mul k t.1 m m = add k (mul k t.1 u u) (neg k (mul k t.1 (mul k t.1 v v) t.2)) := hm
 have e2 : mul k t.1 (mul k t.1 v v) t.2 = add k (mul k t.1 u u) (neg k (mul k t.1 m m)) := by
  rw [hm']; exact (Laws.req L [u, v, t.2] (.mul (.mul (.v 1) (.v 1)) (.v 2)) (.add (.mul (.v 0) (.v 0)) (.neg (.add (.mul (.v 0) (.v 0)) (.neg (.mul (.mul (.v 1) (.v 1)) (.v 2)))))) (by decide +kernel))
 have e3 : add k (mul k t.1 u u) (neg k (mul k t.1 m m)) = mul k t.1 (add k u (neg k m)) (add k u m) := (Laws.req L [u, m] (.add (.mul (.v 0) (.v 0)) (.neg (.mul (.v 1) (.v 1)))) (.mul (.add (.v 0) (.neg (.v 1))) (.add (.v 0) (.v 1))) (by decide +kernel))
 rw [e3, e1, L.mz] at e2
 have S := sgn_ok (red_real h.1)
 rcases red_mul0 h.1 e2 with e4 | e4
 · rcases red_mul0 h.1 e4 with e5 | e5 <;> exact hv e5
 · have := h.2.1
   rw [e4, S.s0 L] at this
   cases this
end
end Go.Tow
namespace Go.Proofs.YtpgcfjpkilabfaaGreatDoor
open Go Go.Num Go.Tow
def nS (r k p : Nat) : Nat := 2 * p + 2 * cB r k + r + 1
theorem Sz.normS {r k p : Nat} {t : Tw (k + 1)} {a : El (k + 1)} (ht : TS r (k + 1) t) (h : Sz p (toL (k + 1) a)) : Sz (nS r k p) (toL k (Tow.norm k t a)) := by
 obtain ⟨E, e0, e1, e2⟩ := mul_isD ht.1
 obtain ⟨d, d0, d1, d2⟩ := h
 obtain ⟨g, g0, g1, g2⟩ := ht.2
 have hx : IsD d (2 ^ p) (toL k a.1) := d2.left
 have hy : IsD d (2 ^ p) (toL k a.2) := d2.right
 have h1 := (e2 _ _ d d _ _ d0 d0 hx hx).scale (Nat.mul_pos e0 g0)
 have h2 := e2 _ _ (d * d * E) g _ _ (Nat.mul_pos (Nat.mul_pos d0 d0) e0) g0 (e2 _ _ d d _ _ d0 d0 hy hy) g2
 rw [show d * d * E * g * E = d * d * E * (E * g) from by rw [Nat.mul_assoc (d * d * E), Nat.mul_comm g E]] at h2
 have hg : E * g ≤ 2 ^ cB r k * 2 ^ r := Nat.mul_le_mul e1 (Nat.le_of_lt g1)
 have hn : 2 ^ (2 * p + 2 * cB r k + r) = 2 ^ p * 2 ^ p * 2 ^ cB r k * (2 ^ cB r k * 2 ^ r) := by
  rw [← Nat.pow_add, ← Nat.pow_add, ← Nat.pow_add, ← Nat.pow_add]; congr 1; omega
 have h1' : IsD (d * d * E * (E * g)) (2 ^ (2 * p + 2 * cB r k + r)) (toL k (Tow.mul k t.1 a.1 a.1)) := h1.mono (by rw [hn]; exact Nat.mul_le_mul_left _ hg)
 have h2' : IsD (d * d * E * (E * g)) (2 ^ (2 * p + 2 * cB r k + r)) (toL k (Tow.mul k t.1 (Tow.mul k t.1 a.2 a.2) t.2)) := h2.mono (by
  rw [hn, Nat.mul_assoc (2 ^ p * 2 ^ p * 2 ^ cB r k), Nat.mul_comm (2 ^ r)]; exact Nat.le_refl _)
 rw [Tow.norm, toL_add, toL_neg]
 refine ⟨d * d * E * (E * g), Nat.mul_pos (Nat.mul_pos (Nat.mul_pos d0 d0) e0) (Nat.mul_pos e0 g0), ?_, (h1'.add h2'.neg).mono (by unfold nS; rw [Nat.pow_succ 2 (2 * p + 2 * cB r k + r)]; omega)⟩
 have h3 : d * d * E * (E * g) < 2 ^ p * 2 ^ p * (2 ^ cB r k * (2 ^ cB r k * 2 ^ r)) := by
  rw [Nat.mul_assoc (d * d)]
  refine Nat.lt_of_lt_of_le (Nat.mul_lt_mul_of_pos_right (Nat.mul_lt_mul'' d1 d1) (Nat.mul_pos e0 (Nat.mul_pos e0 g0))) (Nat.mul_le_mul_left _ (Nat.mul_le_mul e1 hg))
 have h4 : 2 ^ nS r k p = 2 ^ (2 * p + 2 * cB r k + r) * 2 := by unfold nS; rw [Nat.pow_succ]
 rw [h4, hn, Nat.mul_assoc (2 ^ p * 2 ^ p)]
 omega
theorem Sz.scal {r k p q : Nat} {t : Tw k} {x y n : El k} (ht : TS r k t) (h : Sz p (toL k x ++ toL k y)) (hn : Sz q (toL k n)) : Sz (p + q + cB r k) (toL k (Tow.mul k t x n) ++ toL k (Tow.mul k t y n)) := by
 obtain ⟨E, e0, e1, e2⟩ := mul_isD ht
 obtain ⟨d, d0, d1, d2⟩ := h
 obtain ⟨e, k0, k1, k2⟩ := hn
 have h1 := e2 _ _ d e _ _ d0 k0 d2.left k2
 have h2 := e2 _ _ d e _ _ d0 k0 d2.right k2
 rw [← Nat.pow_add, ← Nat.pow_add] at h1 h2
 refine ⟨d * e * E, Nat.mul_pos (Nat.mul_pos d0 k0) e0, ?_, h1.append h2⟩
 rw [Nat.pow_add, Nat.pow_add]
 exact Nat.lt_of_lt_of_le (Nat.mul_lt_mul_of_pos_right (Nat.mul_lt_mul'' d1 k1) e0) (Nat.mul_le_mul_left _ e1)
def iS (r : Nat) : Nat → Nat → Nat
 | 0, p => p + 1
 | k + 1, p => p + iS r k (nS r k p) + cB r k
theorem IsD.neg2 {d n : Nat} {l m : List Rat} (h : IsD d n (l ++ m)) : IsD d n (l ++ m.map (- ·)) := h.left.append h.right.neg
theorem Sz.neg2 {p : Nat} {l m : List Rat} (h : Sz p (l ++ m)) : Sz p (l ++ m.map (- ·)) := by
 obtain ⟨d, h0, h1, h2⟩ := h
 exact ⟨d, h0, h1, h2.neg2⟩
theorem Sz.invS {r k p : Nat} {t : Tw k} {a b : El k} (ht : TS r k t) (h : Sz p (toL k a)) (hb : Tow.inv k t a = some b) : Sz (iS r k p) (toL k b) := by
 induction k generalizing p with
 | zero => exact h.inv ht hb
 | succ k ih =>
  simp only [Tow.inv] at hb
  split at hb
  · cases hb
  · rename_i n hn
    injection hb with hb
    subst hb
    have h1 := ih ht.1 (h.normS ht) hn
    show Sz _ (toL k _ ++ toL k (Tow.neg k _))
    rw [toL_neg]
    exact (Sz.scal ht.1 h h1).neg2
theorem Sz.dbl {p : Nat} {l : List Rat} (h : Sz p l) : Sz (p + 1) (List.zipWith (· + ·) l l) := by
 obtain ⟨d, h0, h1, h2⟩ := h
 exact ⟨d, h0, by rw [Nat.pow_succ]; omega, (h2.add h2).mono (by rw [Nat.pow_succ]; omega)⟩
theorem cB_mono {r : Nat} {k : Nat} : ∀ {s : Nat}, r ≤ s → cB r k ≤ cB s k := by
 induction k with
 | zero => intro s h; exact Nat.le_refl _
 | succ k ih => intro s h; have := ih h; show 2 * cB r k + r + 1 ≤ 2 * cB s k + s + 1; omega
theorem nS_mono {r s k p q : Nat} (hr : r ≤ s) (h : p ≤ q) : nS r k p ≤ nS s k q := by have := cB_mono (k := k) hr; unfold nS; omega
theorem iS_mono {r s : Nat} (hr : r ≤ s) : ∀ {k p q : Nat}, p ≤ q → iS r k p ≤ iS s k q
 | 0, p, q, h => by show p + 1 ≤ q + 1; omega
 | k + 1, p, q, h => by
  have h1 := iS_mono hr (nS_mono (k := k) hr h) (k := k)
  have h2 := cB_mono (k := k) hr
  show p + iS r k (nS r k p) + cB r k ≤ q + iS s k (nS s k q) + cB s k
  omega
theorem iB_mono {r s : Nat} (hr : r ≤ s) : ∀ {k p q : Nat}, p ≤ q → iB r k p ≤ iB s k q
 | 0, p, q, h => by show p + 1 ≤ q + 1; omega
 | k + 1, p, q, h => by
  have h2 := cB_mono (k := k) hr
  have h1 := iB_mono hr (show nB r k p ≤ nB s k q by unfold nB; omega) (k := k)
  show 2 * (p + iB r k (nB r k p) + cB r k) ≤ 2 * (q + iB s k (nB s k q) + cB s k)
  omega
theorem rat_sq (x : Rat) : (x * x).num = x.num * x.num ∧ (x * x).den = x.den * x.den := by
 have hc : (x.num * x.num).natAbs.gcd (x.den * x.den) = 1 := by
  rw [Int.natAbs_mul]
  exact Nat.Coprime.mul_right (Nat.Coprime.mul_left x.reduced x.reduced) (Nat.Coprime.mul_left x.reduced x.reduced)
 rw [Rat.num_mul, Rat.den_mul, hc]
 exact ⟨Int.ediv_one _, Nat.div_one _⟩
theorem rt_sq (n : Nat) : rt (n * n) = n := rt_eq (Nat.le_refl _) (by rw [Nat.add_mul, Nat.mul_add]; omega)
def sqN (n : Nat) : Prop := rt n * rt n = n
theorem sqQ_some {q : Rat} (h0 : 0 ≤ q.num) (h1 : sqN q.num.natAbs) (h2 : sqN q.den) : ∃ x : Rat, x.num = (rt q.num.natAbs : Int) ∧ x.den = rt q.den ∧ x * x = q := by
 have hd : rt q.den ≠ 0 := fun e => q.den_nz (by rw [← h2, e])
 have hc : (rt q.num.natAbs).Coprime (rt q.den) := by
  have := q.reduced
  rw [← h1, ← h2] at this
  exact Nat.Coprime.coprime_mul_right (Nat.Coprime.coprime_mul_right_right this)
 refine ⟨⟨(rt q.num.natAbs : Int), rt q.den, hd, by rw [Int.natAbs_natCast]; exact hc⟩, rfl, rfl, ?_⟩
 refine Rat.ext ?_ ?_
 · rw [(rat_sq _).1]
   show (rt q.num.natAbs : Int) * (rt q.num.natAbs : Int) = q.num
   have : ((rt q.num.natAbs * rt q.num.natAbs : Nat) : Int) = (q.num.natAbs : Int) := by rw [h1]
   rw [Int.natCast_mul] at this
   rw [this]; omega
 · rw [(rat_sq _).2]; exact h2
theorem sqQ_iff {q : Rat} : (∃ x : Rat, x * x = q) ↔ 0 ≤ q.num ∧ sqN q.num.natAbs ∧ sqN q.den := by
 refine ⟨?_, fun ⟨h0, h1, h2⟩ => let ⟨x, _, _, h⟩ := sqQ_some h0 h1 h2; ⟨x, h⟩⟩
 rintro ⟨x, rfl⟩
 obtain ⟨e1, e2⟩ := rat_sq x
 rw [e1, e2]
 refine ⟨?_, ?_, ?_⟩
 · rcases Int.le_total 0 x.num with h | h
   · exact Int.mul_nonneg h h
   · exact Int.mul_nonneg_of_nonpos_of_nonpos h h
 · unfold sqN; rw [Int.natAbs_mul, rt_sq]
 · unfold sqN; rw [rt_sq]
theorem Sz.half {k : Nat} : Sz 3 (toL k (Tow.rat k (1 / 2))) := Sz.rat (p := 2) k ⟨show (1 / 2 : Rat).num.natAbs < 2 ^ 2 by decide +kernel, show ((1 / 2 : Rat).den : Int).natAbs < 2 ^ 2 by decide +kernel⟩
open Go Go.Vm Go.Num Go.Tow
section
variable {k : Nat}
theorem hvL (a : Tow.El (k + 1)) : ((toL k a.1 ++ toL k a.2).map dq).length = 2 * 2 ^ k := by rw [lq, List.length_append, toL_length, toL_length]; omega
theorem hvT (a : Tow.El (k + 1)) : ((toL k a.1 ++ toL k a.2).map dq).take (2 ^ k) = (toL k a.1).map dq := by rw [← List.map_take, ← toL_length k a.1, List.take_left]
theorem hvD (a : Tow.El (k + 1)) : ((toL k a.1 ++ toL k a.2).map dq).drop (2 ^ k) = (toL k a.2).map dq := by rw [← List.map_drop, ← toL_length k a.1, List.drop_left]
theorem hv_le (a : Tow.El (k + 1)) : 2 ^ k ≤ ((toL k a.1 ++ toL k a.2).map dq).length := by rw [hvL]; have := Nat.two_pow_pos k; omega
theorem twL (t : Tw (k + 1)) : ((toT k t.1 ++ [toL k t.2]).map dqs).length = k + 1 := by rw [lt', List.length_append, toT_length]; rfl
theorem tw_le (t : Tw (k + 1)) : k ≤ ((toT k t.1 ++ [toL k t.2]).map dqs).length := by rw [twL]; omega
theorem twT (t : Tw (k + 1)) : ((toT k t.1 ++ [toL k t.2]).map dqs).take k = (toT k t.1).map dqs := by rw [← List.map_take, List.take_left' (toT_length k t.1)]
theorem twU (t : Tw (k + 1)) : ((toT k t.1 ++ [toL k t.2]).map dqs)[k]? = some (de t.2) := by rw [List.getElem?_map, List.getElem?_append_right (by rw [toT_length]; exact Nat.le_refl _), toT_length, Nat.sub_self]; rfl
theorem hvq (a : Tow.El (k + 1)) (hk : k ≤ 16) : arB .quo .i64 (((toL k a.1 ++ toL k a.2).map dq).length : Nat) 2 (2 ^ k : Nat) := quo2 (hvL a) (Nat.le_trans (p16 hk) (by decide))
theorem tw1 (t : Tw (k + 1)) (hk : k ≤ 16) : arB .sub .i64 (((toT k t.1 ++ [toL k t.2]).map dqs).length : Nat) 1 k := wr (by rw [twL]; omega) (by simp only [inK]; omega)
end
end Go.Proofs.YtpgcfjpkilabfaaGreatDoor
namespace Go.Proofs.YtpgcfjpkilabfaaGreatDoor.R6
open Go Go.Vm Go.Num Go.Tow Go.Proofs.YtpgcfjpkilabfaaGreatDoor
end Go.Proofs.YtpgcfjpkilabfaaGreatDoor.R6
namespace Go.Proofs.YtpgcfjpkilabfaaGreatDoor
open Go Go.Num Go.Tow
def gC (r : Nat) : Nat → Nat
 | 0 => 0
 | k + 1 => 2 * gC r k + 2 * cB r k + r + iS r k r + 2
theorem IsD.pw {d n a b : Nat} {l : List Rat} (h : IsD d (n * 2 ^ a) l) (hab : a ≤ b) : IsD d (n * 2 ^ b) l := h.mono (Nat.mul_le_mul_left _ (Nat.pow_le_pow_right (by decide) hab))
theorem IsD.sc {d n a b e : Nat} {l : List Rat} (h : IsD d (n * 2 ^ a) l) (he : 0 < e) (hb : e ≤ 2 ^ b) : IsD (d * e) (n * 2 ^ (a + b)) l := (h.scale he).mono (by rw [Nat.pow_add, ← Nat.mul_assoc]; exact Nat.mul_le_mul_left _ hb)
theorem IsD.dbl {d n : Nat} {l : List Rat} (h : IsD d n (List.zipWith (· + ·) l l)) : IsD (d * 2) n l := fun x hx => by
 obtain ⟨i, hi⟩ := List.getElem?_of_mem hx
 obtain ⟨z, h1, h2⟩ := h (x + x) (List.mem_of_getElem? (i := i) (by rw [List.getElem?_zipWith, hi]))
 refine ⟨z, ?_, h2⟩
 rw [← h1, Rat.natCast_mul]
 show x * (d * 2) = _
 grind
theorem root_isD0 {x : Rat} {e n : Nat} (he : 0 < e) (h : IsD (e * e) (n * n) [x * x]) : IsD e n [x] := fun y hy => by
 obtain rfl := List.mem_singleton.1 hy
 obtain ⟨z, h1, h2⟩ := h _ (List.mem_cons_self ..)
 have h3 : (y * e) * (y * e) = (z : Rat) := by rw [← h1, Rat.natCast_mul]; grind
 obtain ⟨e1, e2⟩ := rat_sq (y * e)
 rw [h3] at e1 e2
 have e2 : 1 = (y * e).den * (y * e).den := e2
 have e1 : z = (y * e).num * (y * e).num := e1
 have hd : (y * e).den = 1 := Nat.eq_one_of_mul_eq_one_left e2.symm
 refine ⟨(y * e).num, ?_, ?_⟩
 · have := mul_den (y * e)
   rw [hd] at this
   rw [← this]; exact (Rat.mul_one _).symm
 · rw [e1, Int.natAbs_mul] at h2
   exact Nat.lt_of_not_le fun hle => Nat.lt_irrefl _ (Nat.lt_of_lt_of_le h2 (Nat.mul_le_mul hle hle))
theorem root_isD : ∀ {k r : Nat} {t : Tw k}, TS r k t → red k t → ∃ Δ, 0 < Δ ∧ Δ ≤ 2 ^ gC r k ∧ ∀ (s : El k) (e n : Nat), 0 < e → IsD (e * e) (n * n) (toL k (mul k t s s)) → IsD (e * Δ) (n * 2 ^ gC r k) (toL k s)
 | 0, r, t, _, _ => ⟨1, by decide, Nat.le_refl 1, fun s e n he h => by rw [Nat.mul_one, show 2 ^ gC r 0 = 1 from rfl, Nat.mul_one]; exact root_isD0 he h⟩
 | k + 1, r, t, hT, hR => by
  obtain ⟨E, E0, E1, E2⟩ := mul_isD hT.1
  obtain ⟨g, g0, g1, g2⟩ := hT.2
  obtain ⟨Δ, D0, D1, D2⟩ := root_isD hT.1 hR.1
  have L := ring k t.1
  obtain ⟨i, hi⟩ := (red_fld hR.1).2 t.2 (show t.2 ≠ zero k from fun h0 => hR.2.2 ⟨zero k, by rw [h0, L.mz]⟩)
  obtain ⟨f, f0, f1, f2⟩ := Sz.invS hT.1 hT.2 hi
  have hi := inv_mul hi
  generalize hc : cB r k = c at *
  generalize hq : iS r k r = q at *
  generalize hG : gC r k = G at *
  have hg' : gC r (k + 1) = 2 * G + 2 * c + r + q + 2 := by show 2 * gC r k + 2 * cB r k + r + iS r k r + 2 = _; rw [hc, hq, hG]
  have g1 := Nat.le_of_lt g1
  have f1 := Nat.le_of_lt f1
  have Eg1 : E * g ≤ 2 ^ (c + r) := by rw [Nat.pow_add]; exact Nat.mul_le_mul E1 g1
  have Eg0 := Nat.mul_pos E0 g0
  have M : ∀ {a b : El k} {d e n m x y : Nat}, 0 < d → 0 < e → IsD d (n * 2 ^ x) (toL k a) → IsD e (m * 2 ^ y) (toL k b) → IsD (d * e * E) (n * m * 2 ^ (x + y + c)) (toL k (mul k t.1 a b)) := fun hd he h h' => (E2 _ _ _ _ _ _ hd he h h').mono (by
   rw [Nat.pow_add, Nat.pow_add]; exact Nat.le_of_eq (by ac_rfl))
  refine ⟨2 * (E * g * Δ) * Δ * (f * E), ?_, ?_, fun s e n he h => ?_⟩
  · exact Nat.mul_pos (Nat.mul_pos (Nat.mul_pos (by decide) (Nat.mul_pos Eg0 D0)) D0) (Nat.mul_pos f0 E0)
  · have x1 := Nat.mul_le_mul (Nat.mul_le_mul (Nat.mul_le_mul (Nat.le_refl 2) (Nat.mul_le_mul Eg1 D1)) D1) (Nat.mul_le_mul f1 E1)
    refine Nat.le_trans x1 ?_
    rw [show (2 : Nat) * (2 ^ (c + r) * 2 ^ G) * 2 ^ G * (2 ^ q * 2 ^ c) = 2 ^ (1 + ((c + r) + G) + G + (q + c)) by simp only [Nat.pow_add]]
    exact Nat.pow_le_pow_right (by decide) (by omega)
  obtain ⟨u, v⟩ := s
  have ha : IsD (e * e) (n * n) (toL k (add k (mul k t.1 u u) (mul k t.1 (mul k t.1 v v) t.2))) := h.left
  have hb : IsD (e * e) (n * n) (toL k (add k (mul k t.1 u v) (mul k t.1 v u))) := h.right
  generalize h1 : add k (mul k t.1 u u) (mul k t.1 (mul k t.1 v v) t.2) = a1 at ha
  generalize h2 : add k (mul k t.1 u v) (mul k t.1 v u) = a2 at hb
  have e0 := Nat.mul_pos he he
  have ha : IsD (e * e) (n * n * 2 ^ 0) (toL k a1) := by simpa using ha
  have hb : IsD (e * e) (n * n * 2 ^ 0) (toL k a2) := by simpa using hb
  have g2 : IsD g (1 * 2 ^ r) (toL k t.2) := by simpa using g2
  have f2 : IsD f (1 * 2 ^ q) (toL k i) := by simpa using f2
  obtain ⟨N, hN⟩ : ∃ N, N = add k (mul k t.1 u u) (neg k (mul k t.1 (mul k t.1 v v) t.2)) := ⟨_, rfl⟩
  have hNN : mul k t.1 N N = add k (mul k t.1 a1 a1) (neg k (mul k t.1 (mul k t.1 a2 a2) t.2)) := by
   rw [hN, ← h1, ← h2]
   exact (Laws.req L [u, v, t.2] (.mul (.add (.mul (.v 0) (.v 0)) (.neg (.mul (.mul (.v 1) (.v 1)) (.v 2)))) (.add (.mul (.v 0) (.v 0)) (.neg (.mul (.mul (.v 1) (.v 1)) (.v 2))))) (.add (.mul (.add (.mul (.v 0) (.v 0)) (.mul (.mul (.v 1) (.v 1)) (.v 2))) (.add (.mul (.v 0) (.v 0)) (.mul (.mul (.v 1) (.v 1)) (.v 2)))) (.neg (.mul (.mul (.add (.mul (.v 0) (.v 1)) (.mul (.v 1) (.v 0))) (.add (.mul (.v 0) (.v 1)) (.mul (.v 1) (.v 0)))) (.v 2)))) (by decide +kernel))
  have n1 : IsD (e * e * E * g * (e * e * E * g)) (n * n * 2 ^ (c + r + 1) * (n * n * 2 ^ (c + r + 1))) (toL k (mul k t.1 N N)) := by
   rw [hNN, toL_add, toL_neg]
   have x1 := (M e0 e0 ha ha).sc (Nat.mul_pos Eg0 g0) (show E * g * g ≤ 2 ^ (c + r + r) by rw [Nat.pow_add 2 (c + r)]; exact Nat.mul_le_mul Eg1 g1)
   have x2 := ((M (Nat.mul_pos (Nat.mul_pos e0 e0) E0) g0 (M e0 e0 hb hb) g2).sc g0 g1).neg
   rw [Nat.mul_one] at x2
   rw [show e * e * (e * e) * E * (E * g * g) = e * e * E * g * (e * e * E * g) by ac_rfl] at x1
   rw [show e * e * (e * e) * E * g * E * g = e * e * E * g * (e * e * E * g) by ac_rfl] at x2
   have x3 := x1.pw (show _ ≤ 2 * c + 2 * r by omega)
   have x4 := x2.pw (show _ ≤ 2 * c + 2 * r by omega)
   refine (x3.add x4).mono ?_
   rw [← Nat.mul_two]
   have x5 : 2 ^ (2 * c + 2 * r) * 2 ≤ 2 ^ (c + r + 1) * 2 ^ (c + r + 1) := by
    rw [← Nat.pow_succ, ← Nat.pow_add]; exact Nat.pow_le_pow_right (by decide) (by omega)
   have x6 := Nat.mul_le_mul_left (n * n * (n * n)) x5
   rw [show n * n * (n * n) * 2 ^ (2 * c + 2 * r) * 2 = n * n * (n * n) * (2 ^ (2 * c + 2 * r) * 2) by ac_rfl]
   exact Nat.le_trans x6 (Nat.le_of_eq (by ac_rfl))
  have n2 := D2 N (e * e * E * g) (n * n * 2 ^ (c + r + 1)) (Nat.mul_pos (Nat.mul_pos e0 E0) g0) n1
  rw [Nat.mul_assoc (n * n), ← Nat.pow_add] at n2
  have K0 : 0 < E * g * Δ := Nat.mul_pos Eg0 D0
  have K1 : E * g * Δ ≤ 2 ^ (c + r + G) := by rw [Nat.pow_add 2 (c + r)]; exact Nat.mul_le_mul Eg1 D1
  have a' := ha.sc K0 K1
  rw [show e * e * E * g * Δ = e * e * (E * g * Δ) by ac_rfl] at n2
  have half : ∀ {w S : El k}, add k w w = S → IsD (e * e * (E * g * Δ)) (n * n * 2 ^ (c + r + G + 2)) (toL k S) → IsD (e * e * (E * g * Δ) * 2) (n * n * 2 ^ (c + r + G + 2)) (toL k w) := fun e h => IsD.dbl (by rw [← toL_add, e]; exact h)
  have s1 : IsD (e * e * (E * g * Δ)) (n * n * 2 ^ (c + r + G + 2)) (toL k (add k a1 N)) := by
   rw [toL_add]
   refine ((a'.pw (show _ ≤ c + r + G + 1 by omega)).add (n2.pw (show _ ≤ c + r + G + 1 by omega))).mono ?_
   rw [Nat.pow_succ 2 (c + r + G + 1), ← Nat.mul_assoc, Nat.mul_two]; exact Nat.le_refl _
  have s2 : IsD (e * e * (E * g * Δ)) (n * n * 2 ^ (c + r + G + 2)) (toL k (add k a1 (neg k N))) := by
   rw [toL_add, toL_neg]
   refine ((a'.pw (show _ ≤ c + r + G + 1 by omega)).add ((n2.pw (show _ ≤ c + r + G + 1 by omega)).neg)).mono ?_
   rw [Nat.pow_succ 2 (c + r + G + 1), ← Nat.mul_assoc, Nat.mul_two]; exact Nat.le_refl _
  have u1 := half (w := mul k t.1 u u) (by rw [← h1, hN]; exact (Laws.req L [u, v, t.2] (.add (.mul (.v 0) (.v 0)) (.mul (.v 0) (.v 0))) (.add (.add (.mul (.v 0) (.v 0)) (.mul (.mul (.v 1) (.v 1)) (.v 2))) (.add (.mul (.v 0) (.v 0)) (.neg (.mul (.mul (.v 1) (.v 1)) (.v 2))))) (by decide +kernel))) s1
  have v1 := half (w := mul k t.1 (mul k t.1 v v) t.2) (by rw [← h1, hN]; exact (Laws.req L [u, v, t.2] (.add (.mul (.mul (.v 1) (.v 1)) (.v 2)) (.mul (.mul (.v 1) (.v 1)) (.v 2))) (.add (.add (.mul (.v 0) (.v 0)) (.mul (.mul (.v 1) (.v 1)) (.v 2))) (.neg (.add (.mul (.v 0) (.v 0)) (.neg (.mul (.mul (.v 1) (.v 1)) (.v 2)))))) (by decide +kernel))) s2
  have K2 : 0 < E * g * Δ * 2 := Nat.mul_pos K0 (by decide)
  have ek : 0 < e * (E * g * Δ * 2) := Nat.mul_pos he K2
  have sq : ∀ {w : El k} {x : Nat}, x ≤ (c + r + G + 2) + (c + r + G + 2) → IsD (e * (E * g * Δ * 2) * (e * (E * g * Δ * 2))) (n * n * 2 ^ x) (toL k (mul k t.1 w w)) → IsD (e * (E * g * Δ * 2) * Δ) (n * 2 ^ (c + r + G + 2 + G)) (toL k w) := fun {w x} hx h => by
   have h' := D2 w _ (n * 2 ^ (c + r + G + 2)) ek ((h.pw hx).mono (by rw [Nat.pow_add 2 (c + r + G + 2) (c + r + G + 2)]; exact Nat.le_of_eq (by ac_rfl)))
   rwa [Nat.mul_assoc n, ← Nat.pow_add] at h'
  have u2 : IsD (e * (E * g * Δ * 2) * Δ) (n * 2 ^ (c + r + G + 2 + G)) (toL k u) := by
   refine sq (x := c + r + G + 2 + (c + r + G + 1)) (by omega) ?_
   have := u1.sc K2 (show E * g * Δ * 2 ≤ 2 ^ (c + r + G + 1) by rw [Nat.pow_succ]; exact Nat.mul_le_mul_right _ K1)
   rwa [show e * e * (E * g * Δ) * 2 * (E * g * Δ * 2) = e * (E * g * Δ * 2) * (e * (E * g * Δ * 2)) by ac_rfl] at this
  have v2 : IsD (e * (E * g * Δ * 2) * Δ) (n * 2 ^ (c + r + G + 2 + G)) (toL k (mul k t.1 v t.2)) := by
   refine sq (x := c + r + G + 2 + r + c + (G + 1)) (by omega) ?_
   have := (M (Nat.mul_pos (Nat.mul_pos e0 K0) (by decide)) g0 v1 g2).sc (Nat.mul_pos D0 (by decide : 0 < 2)) (show Δ * 2 ≤ 2 ^ (G + 1) by rw [Nat.pow_succ]; exact Nat.mul_le_mul_right _ D1)
   rw [Nat.mul_one, show e * e * (E * g * Δ) * 2 * g * E * (Δ * 2) = e * (E * g * Δ * 2) * (e * (E * g * Δ * 2)) by ac_rfl] at this
   rwa [show mul k t.1 (mul k t.1 v t.2) (mul k t.1 v t.2) = mul k t.1 (mul k t.1 (mul k t.1 v v) t.2) t.2 from (Laws.req L [v, t.2] (.mul (.mul (.v 0) (.v 1)) (.mul (.v 0) (.v 1))) (.mul (.mul (.mul (.v 0) (.v 0)) (.v 1)) (.v 1)) (by decide +kernel))]
  have v3 : IsD (e * (E * g * Δ * 2) * Δ * f * E) (n * 1 * 2 ^ (c + r + G + 2 + G + q + c)) (toL k v) := by
   have := M (Nat.mul_pos ek D0) f0 v2 f2
   rwa [show mul k t.1 (mul k t.1 v t.2) i = v from by rw [L.ma, L.mc t.2, hi, L.mo]] at this
  have u3 := u2.sc (Nat.mul_pos f0 E0) (show f * E ≤ 2 ^ (q + c) by rw [Nat.pow_add]; exact Nat.mul_le_mul f1 E1)
  rw [show e * (2 * (E * g * Δ) * Δ * (f * E)) = e * (E * g * Δ * 2) * Δ * (f * E) by ac_rfl, hg']
  refine IsD.append (u3.pw (by omega)) ?_
  rw [Nat.mul_one, Nat.mul_assoc _ f E] at v3
  exact v3.pw (by omega)
theorem Sz.rootS {k r p : Nat} {t : Tw k} {s a : El k} (hT : TS r k t) (hR : red k t) (ha : Sz p (toL k a)) (e : Tow.mul k t s s = a) : Sz (p + gC r k) (toL k s) := by
 obtain ⟨Δ, D0, D1, D2⟩ := root_isD hT hR
 obtain ⟨d, d0, d1, d2⟩ := ha
 subst e
 have := D2 s d (2 ^ p) d0 ((d2.scale d0).mono (Nat.mul_le_mul_left _ (Nat.le_of_lt d1)))
 rw [← Nat.pow_add] at this
 refine ⟨_, Nat.mul_pos d0 D0, ?_, this⟩
 rw [Nat.pow_add]
 exact Nat.lt_of_lt_of_le (Nat.mul_lt_mul_of_pos_right d1 D0) (Nat.mul_le_mul_left _ D1)
def sX (r k p : Nat) : Nat := p + nS r k p + gC r k + cB r k + iS r k r + 4
def vB (r : Nat) : Nat → Nat → Nat
 | 0, p => p
 | k + 1, p => vB r k (nB r k p)
def qB (r : Nat) : Nat → Nat → Nat
 | 0, p => p
 | k + 1, p => p + vB r (k + 1) p + vB r (k + 1) r + nB r k p + qB r k (sX r k p) + iB r k (sX r k p + gC r k) + iS r k (sX r k p + gC r k) + iB r k r + 2 * cB r k + 4
theorem nB_mono {r k p q : Nat} (h : p ≤ q) : nB r k p ≤ nB r k q := by unfold nB; omega
theorem vB_mono {r : Nat} : ∀ {k s s' : Nat}, s ≤ s' → vB r k s ≤ vB r k s'
 | 0, _, _, h => h
 | k + 1, _, _, h => vB_mono (k := k) (nB_mono h)
theorem vB_ge {r : Nat} : ∀ (k s : Nat), s ≤ vB r k s
 | 0, _ => Nat.le_refl _
 | k + 1, s => Nat.le_trans (nB_ge r k s) (vB_ge k _)
theorem vB_le {r i k s : Nat} (h : i ≤ k) : vB r i s ≤ vB r k s := by
 induction k generalizing s with
 | zero => rw [show i = 0 by omega]; exact Nat.le_refl _
 | succ k ih =>
  by_cases e : i = k + 1
  · rw [e]; exact Nat.le_refl _
  · exact Nat.le_trans (ih (by omega)) (vB_mono (k := k) (nB_ge r k s))
theorem sX_mono {r k p q : Nat} (h : p ≤ q) : sX r k p ≤ sX r k q := by
 have := nS_mono (Nat.le_refl r) h (k := k)
 unfold sX; omega
theorem qB_mono {r : Nat} : ∀ {k p q : Nat}, p ≤ q → qB r k p ≤ qB r k q
 | 0, _, _, h => h
 | k + 1, p, q, h => by
  have h1 := vB_mono (r := r) (k := k + 1) h
  have h2 := nB_mono (r := r) (k := k) h
  have h3 := sX_mono (r := r) (k := k) h
  have h4 := qB_mono (r := r) (k := k) h3
  have h5 := iB_mono (Nat.le_refl r) (k := k) (show sX r k p + gC r k ≤ sX r k q + gC r k by omega)
  have h6 := iS_mono (Nat.le_refl r) (k := k) (show sX r k p + gC r k ≤ sX r k q + gC r k by omega)
  unfold qB; omega
theorem qB_ge {r : Nat} : ∀ {k p : Nat}, p ≤ qB r k p
 | 0, _ => Nat.le_refl _
 | k + 1, _ => by unfold qB; omega
theorem qB_le {r i k p : Nat} (h : i ≤ k) : qB r i p ≤ qB r k p := by
 induction k generalizing p with
 | zero => rw [show i = 0 by omega]; exact Nat.le_refl _
 | succ k ih =>
  by_cases e : i = k + 1
  · rw [e]; exact Nat.le_refl _
  · have h1 := ih (p := p) (by omega)
    have h2 : qB r k p ≤ qB r k (sX r k p) := qB_mono (by unfold sX; omega)
    have h3 : qB r k (sX r k p) ≤ qB r (k + 1) p := by conv => rhs; unfold qB
                                                       omega
    omega
open Go Go.Vm Go.Num Go.Tow
theorem sgnQ_cmp (x : Rat) : cmpI x.num 0 = sgnQ x := by
 rcases cmpI_tri x.num 0 with ⟨h, e⟩ | ⟨h, e⟩ | ⟨h, e⟩ <;> rw [e]
 · rw [sgnQ_neg (by rw [Rat.lt_iff]; show x.num * 1 < 0 * _; omega)]
 · rw [Rat.num_eq_zero.1 h]; rfl
 · rw [sgnQ_pos (by rw [Rat.lt_iff]; show 0 * _ < x.num * 1; omega)]
theorem sgn_sx {k : Nat} (t : Tw (k + 1)) (a : Tow.El (k + 1)) : sgn (k + 1) t a = if sgn k t.1 a.2 = 0 ∨ sgn k t.1 a.1 = sgn k t.1 a.2 then sgn k t.1 a.1 else if sgn k t.1 a.1 = 0 then sgn k t.1 a.2 else sgn k t.1 a.1 * sgn k t.1 (Tow.norm k t a) := rfl
theorem sgn_mul {k : Nat} {t t' : Tw k} {a b : Tow.El k} : arB .mul .i64 (sgn k t a) (sgn k t' b) (sgn k t a * sgn k t' b) := by
 rcases sgn_tri t a with h | h | h <;> rcases sgn_tri t' b with h' | h' | h' <;> rw [h, h'] <;> exact wr rfl (by simp [inK])
theorem value_ok {k : Nat} : ∀ {r s : Nat} {t : Tw k} {a : Tow.El k}, TS r k t → Sz s (toL k a) → k ≤ 16 → vB r k s ≤ 4398046511104 → r ≤ 4398046511104 → C0 224 [.d (dt t), .d (de a)] (· = .d (.int .i64 (sgn k t a))) := by
 induction k with
 | zero =>
  intro r s t a hT ha hk hs hr
  have hs : s ≤ 4398046511104 := hs
  have key : ∀ y : Rat, Qs s y → C0 224 [.d (dts []), .d (dqs [y])] (· = .d (.int .i64 (sgnQ y))) := fun y hy => by
   refine En Tryz.func224 fun _ _ _ => ?_
   refine Yes rfl rfl ?_
   refine Ix 0 rfl (u := dq y) rfl ?_
   refine Ce rfl (qSign_ok hy (by omega)) ?_
   rw [sgnQ_cmp]
   exact R0
  exact key a (ha.qs (List.mem_singleton.2 rfl))
 | succ k ih =>
  intro r s t a hT ha hk hs hr
  have hx : Sz s (toL k a.1) := Sz.left ha
  have hy : Sz s (toL k a.2) := Sz.right ha
  have hv : vB r k (nB r k s) ≤ 4398046511104 := hs
  have hv1 := vB_ge (r := r) k (nB r k s)
  have hv2 := vB_mono (r := r) (k := k) (nB_ge r k s)
  have hn : nB r k s = 4 * s + 3 * cB r k + r + 1 := rfl
  have hz := ha.norm hT
  refine En Tryz.func224 fun _ _ _ => ?_
  refine No rfl (by show ¬ ((((toT k t.1 ++ [toL k t.2]).map dqs).length : Nat) : Int) = 0; rw [twL]; omega) ?_
  refine Ar k rfl ?_ (tw1 t (by omega))
  refine Ar (2 ^ k : Nat) rfl ?_ (hvq a (by omega))
  refine Dw rfl ?_
  refine Tk k ((toT k t.1).map dqs) rfl rfl (tw_le t) (twT t) ?_
  refine Tk (2 ^ k) ((toL k a.1).map dq) rfl rfl (hv_le a) (hvT a) ?_
  refine Dp (2 ^ k) ((toL k a.2).map dq) rfl rfl (hv_le a) (hvD a) ?_
  refine Ce rfl (ih hT.1 hx (by omega) (by omega) hr) ?_
  refine Ce rfl (ih hT.1 hy (by omega) (by omega) hr) ?_
  rw [sgn_sx]
  refine By rfl (fun h => ?_) fun h => ?_
  · rw [if_pos (.inl h)]
    exact R0
  · refine By rfl (fun h1 => ?_) fun h1 => ?_
    · rw [if_pos (.inr h1)]
      exact R0
    · rw [if_neg (fun e => e.elim h h1)]
      refine By rfl (fun h2 => ?_) fun h2 => ?_
      · rw [if_pos h2]
        exact R0
      · rw [if_neg h2]
        refine Dw rfl ?_
        refine Ce rfl (tMul_ok hT.1 hx hx (by omega) (by omega) hr) ?_
        refine Ix k rfl (twU t) ?_
        refine Ce rfl (tMul_ok hT.1 hy hy (by omega) (by omega) hr) ?_
        refine Ce rfl (tMul_ok hT.1 hT.2 (hy.mul hT.1 hy) (by omega) (by omega) hr) ?_
        refine Ce rfl (tSub_ok hT.1 (hx.mul hT.1 hx) (hT.2.mul hT.1 (hy.mul hT.1 hy)) (by omega) (by omega) hr) ?_
        rw [(ring k t.1).mc t.2]
        refine Ce rfl (ih hT.1 hz (by omega) hv hr) ?_
        refine Ar _ rfl ?_ sgn_mul
        exact R0
theorem Tw.take {k : Nat} : ∀ {t : Tw k} {i : Nat}, i < k → ∃ (w : Tw i) (x : Tow.El i), (toT k t).take i = toT i w ∧ (toT k t)[i]? = some (toL i x) ∧ (∀ r, TS r k t → TS r i w ∧ Sz r (toL i x)) ∧ (real k t → real i w ∧ sgn i w x = 1) ∧ (red k t → red i w ∧ sgn i w x = 1 ∧ ¬ isSq i w x) := by
 induction k with
 | zero => intro t i h; omega
 | succ k ih =>
  intro t i h
  have hl := toT_length k t.1
  by_cases e : i = k
  · subst e
    refine ⟨t.1, t.2, List.take_left' hl, ?_, fun r h => h, fun h => h, fun h => h⟩
    show (toT i t.1 ++ [toL i t.2])[i]? = _
    rw [List.getElem?_append_right (by omega), hl, Nat.sub_self]; rfl
  · obtain ⟨w, x, h1, h2, h3, h4, h5⟩ := ih (t := t.1) (i := i) (by omega)
    refine ⟨w, x, ?_, ?_, fun r h => h3 r h.1, fun h => h4 h.1, fun h => h5 h.1⟩
    · show (toT k t.1 ++ [toL k t.2]).take i = _
      rw [List.take_append_of_le_length (by omega), h1]
    · show (toT k t.1 ++ [toL k t.2])[i]? = _
      rw [List.getElem?_append_left (by omega), h2]
theorem qs0 : Qs 1 0 := ⟨show (0 : Rat).num.natAbs < 2 ^ 1 by decide +kernel, show ((0 : Rat).den : Int).natAbs < 2 ^ 1 by decide +kernel⟩
section
variable {k r s : Nat} {t : Tw k} {a : Tow.El k}
theorem Real_ok (hT : TS r k t) (hR : real k t) (hk : k ≤ 16) (hv : vB r k r ≤ 4398046511104) (hr : r ≤ 4398046511104) : C0 297 [.d (dt t)] (· = .b true) := by
 refine En Tryz.func297 fun _ _ _ => ?_
 refine Ce rfl (qFromInt_ok (z := 0) (by decide)) ?_
 refine Ce rfl (tFromRat_ok (x := 0) (p := 1) hT hk hr qs0 (by decide)) ?_
 refine Ce rfl (tFormed_el hT (Sz.rat (p := 1) k qs0) hk (by decide) hr) ?_
 refine No rfl (by simp) ?_
 refine Lo (fun i : Nat => [(0, .d (dt t)), (11, .d (dt t)), (12, .d (.int .i64 ((toT k t).map dqs).length)), (13, .d (.int .i64 i))]) (fun _ => []) (fun i => i ≤ k) (fun i => k - i) 0 [] rfl (by omega) (fun i hi => ?_)
 refine By rfl (fun h => ?_) fun h => ?_ <;> simp only [lt', toT_length] at h
 · obtain ⟨w, x, h1, h2, h3, h4, h5⟩ := Tw.take (t := t) (i := i) (by omega)
   have hx := h3 r hT
   have h6 := vB_le (r := r) (s := r) (show i ≤ k by omega)
   refine Ix i rfl (mp h2) ?_
   refine Tk i ((toT i w).map dqs) rfl rfl (by rw [lt', toT_length]; omega) (by rw [← List.map_take, h1]) ?_
   refine Ce rfl (value_ok hx.1 hx.2 (by omega) (by omega) hr) ?_
   refine No rfl (by rw [(h4 hR).2]; decide) ?_
   refine Ar (i + 1 : Nat) rfl ?_
   exact Bk (i + 1) [] rfl (show i + 1 ≤ k by omega) (by show k - (i + 1) < k - i; omega)
 · exact R0
theorem good_ok {l : List (List Rat)} (hT : TS r k t) (hR : real k t) (hk : k ≤ 16) (hv : vB r k r ≤ 4398046511104) (hr : r ≤ 4398046511104) (hl : ∀ x ∈ l, ∃ a : Tow.El k, x = toL k a ∧ Sz s (toL k a)) (hn : l.length ≤ 1000) (hs : s ≤ 4398046511104) : C0 221 [.d (dt t), .d (dts l)] (· = .b true) := by
 refine En Tryz.func221 fun _ _ _ => ?_
 refine Lo (fun i : Nat => [(0, .d (dt t)), (7, .d (dts l)), (8, .d (.int .i64 (l.map dqs).length)), (9, .d (.int .i64 i))]) (fun _ => []) (fun i => i ≤ l.length) (fun i => l.length - i) 0 [] rfl (by omega) (fun i hi => ?_)
 refine By rfl (fun h => ?_) fun h => ?_ <;> simp only [lt'] at h
 · obtain ⟨x, hx⟩ : ∃ x, l[i]? = some x := ⟨_, List.getElem?_eq_getElem (by omega)⟩
   obtain ⟨a, rfl, ha⟩ := hl x (List.mem_of_getElem? hx)
   refine Ix i rfl (mp hx) ?_
   refine Ce rfl (tFormed_el hT ha hk hs hr) ?_
   refine No rfl (by simp) ?_
   refine Ar (i + 1 : Nat) rfl ?_
   exact Bk (i + 1) [] rfl (show i + 1 ≤ l.length by omega) (by show l.length - (i + 1) < l.length - i; omega)
 · refine Ce rfl (Real_ok hT hR hk hv hr) ?_
   exact R0
theorem Sign_el (hT : TS r k t) (ha : Sz s (toL k a)) (hR : real k t) (hk : k ≤ 16) (hs : vB r k s ≤ 4398046511104) (hv : vB r k r ≤ 4398046511104) (hr : r ≤ 4398046511104) : C0 280 [.d (dt t), .d (de a)] (· = .d (.int .i64 (sgn k t a))) := by
 have := vB_ge (r := r) k s
 refine En Tryz.func280 fun _ _ _ => ?_
 refine Ce rfl (good_ok (l := [toL k a]) (s := s) hT hR hk hv hr (fun x hx => ⟨a, List.mem_singleton.1 hx, ha⟩) (by simp) (by omega)) ?_
 refine No rfl (by simp) ?_
 refine Ce rfl (value_ok hT ha hk hs hr) ?_
 exact R0
end
end Go.Proofs.YtpgcfjpkilabfaaGreatDoor
namespace Go.Proofs.YtpgcfjpkilabfaaGreatDoor.R7
open Go Go.Vm Go.Num Go.Tow Go.Proofs.YtpgcfjpkilabfaaGreatDoor
section
variable {k r s : Nat} {t : Tw k} {a : Tow.El k}
end
end Go.Proofs.YtpgcfjpkilabfaaGreatDoor.R7
namespace Go.Num
theorem Zs.len2 {p : Nat} {z : Int} (h : Zs p z) (hp : p ≤ 4398046511104) : (dig z.natAbs).length ≤ 137438953473 := by
 have h1 : z.natAbs < 4294967296 ^ (p / 32 + 1) := by
  rw [show 4294967296 = 2 ^ 32 from rfl, ← Nat.pow_mul]
  exact Nat.lt_of_lt_of_le h (Nat.pow_le_pow_right (by decide) (by omega))
 have := dig_len_le h1
 omega
end Go.Num
namespace Go.Proofs.YtpgcfjpkilabfaaGreatDoor.R2
open Go Go.Vm Go.Num Go.Proofs.YtpgcfjpkilabfaaGreatDoor
def dR (b : Bool) (l : List Nat) (b' : Bool) (l' : List Nat) : D := .st (.pr (dS b l) (dS b' l'))
end Go.Proofs.YtpgcfjpkilabfaaGreatDoor.R2
namespace Go.Proofs.YtpgcfjpkilabfaaGreatDoor
open Go Go.Vm Go.Num Go.Tow
theorem fitN {p : Prop} (h : ¬ p) {g : Hp} {K : Hpl} : FitT g K (.b false) (.b (dc p)) := .one (by exact .bp (c := false) ⟨nofun, fun e => absurd e h⟩) (fun _ _ e => by cases e) (fun _ _ e => by cases e)
theorem fitY {p : Prop} (h : p) {g : Hp} {K : Hpl} : FitT g K (.b true) (.b (dc p)) := .one (by exact .bp (c := true) ⟨fun _ => h, fun _ => rfl⟩) (fun _ _ e => by cases e) (fun _ _ e => by cases e)
theorem fitI {n : Int} {g : Hp} {K : Hpl} : FitT g K (.d (.int .i64 n)) (.d (.int .i64 n)) := .one (.rf rfl) (fun _ _ e => by cases e) (fun _ _ e => by cases e)
theorem half_dq : (Rat.divInt 1 2) = 1 / 2 := by decide +kernel
end Go.Proofs.YtpgcfjpkilabfaaGreatDoor
namespace Go.Proofs.YtpgcfjpkilabfaaGreatDoor.R6
open Go Go.Vm Go.Num Go.Tow Go.Proofs.YtpgcfjpkilabfaaGreatDoor
end Go.Proofs.YtpgcfjpkilabfaaGreatDoor.R6
namespace Go.Proofs.YtpgcfjpkilabfaaGreatDoor.R8
open Go Go.Vm Go.Num Go.Tow Go.Proofs.YtpgcfjpkilabfaaGreatDoor
def AdjR (k : Nat) (t : Tw k) (a : Tow.El k) (v : AV) : Prop :=
 (sgn k t a < 0 ∧ v = .tup (.pr (.d (dts [])) (.pr (.d (dqs [])) (.d (.int .i64 7))))) ∨
 (∃ x, mul k t x x = a ∧ 0 ≤ sgn k t x ∧ v = .tup (.pr (.d (dt t)) (.pr (.d (de x)) (.d (.int .i64 0))))) ∨
 (0 ≤ sgn k t a ∧ ¬ isSq k t a ∧ k < 8 ∧ v = .tup (.pr (.d (dt (tsn t a))) (.pr (.d (de (root (k + 1) k))) (.d (.int .i64 0)))))
end Go.Proofs.YtpgcfjpkilabfaaGreatDoor.R8

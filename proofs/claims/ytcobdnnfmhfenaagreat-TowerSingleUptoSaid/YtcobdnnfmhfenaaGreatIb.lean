/- The program's integers, the words, second part: contracts. -/
import Derived.Test.YtcobdnnfmhfenaaGreatIa
set_option linter.unusedVariables false
set_option linter.unusedSimpArgs false
set_option maxRecDepth 10000
namespace Go.Proofs.YtcobdnnfmhfenaaGreat
open Go Go.Rx Go.Num

/-- An integer as it lies in memory: its sign, its words. -/
abbrev RI : Rep (Bool × List Nat) := RP RB (RSl RW)
theorem mkI {W : GW} {b : Bool} {p : Option Addr} {n c : Nat} {l : List Nat} (h : Sl RW W p n c l) : V RI W (.agg #[.bool b, .slice p n c]) (b, l) :=
  ⟨_, ⟨[.bool b], [.slice p n c], rfl, rfl, ⟨p, n, c, rfl, h⟩⟩, rfl⟩
theorem unI {W : GW} {v : Value} {i : Bool × List Nat} (h : V RI W v i) : ∃ p n c, v = .agg #[.bool i.1, .slice p n c] ∧ Sl RW W p n c i.2 := by
  obtain ⟨c1, c2, rfl, h1, p, n, c, h2, h3⟩ := h.pair
  obtain rfl : c1 = [.bool i.1] := h1
  subst h2
  exact ⟨p, n, c, rfl, h3⟩
/-- An integer in normal form. -/
def ci (z : Int) : Bool × List Nat := (decide (z < 0), dig z.natAbs)
def sg (neg : Bool) (n : Nat) : Int := if neg then -(n : Int) else (n : Int)
theorem ci_zero : ci 0 = (false, []) := by rw [ci]; exact congrArg _ dig_zero
theorem ci_sg {neg : Bool} {n : Nat} (h : n ≠ 0) : ci (sg neg n) = (neg, dig n) := by
  cases neg with
  | true => simp [ci, sg]; omega
  | false => simp [ci, sg]
theorem dig_len0 {n : Nat} : (dig n).length = 0 ↔ n = 0 := by
  exact List.length_eq_zero_iff.trans dig_eq_nil

theorem integer_signed_ok {W : GW} {p : Option Addr} {m c : Nat} {l : List Nat} (neg : Bool) (h : Sl RW W p m c l) :
    Ok Tryz.prog 95 [.bool neg, .slice p m c] W fun W' v => V RI W' v (ci (sg neg (val l))) := by
  refine Ok.enter Tryz.func95 rfl rfl rfl rfl fun W0 iEn => ?_
  refine J.seq <| J.reg rfl <| O.alloc fun W1 b1 i1 hl1 hc1 hb1 => JO.nil <| J.seq <| J.reg rfl <| O.mv rfl <| O.call rfl (integer_trim_ok h.to) fun W2 v2 i2 e2 h2 => ?_
  obtain ⟨p2, n2, c2, rfl, s2⟩ := h2.sl
  have hn2 := s2.hn
  have hz := @dig_len0 (val l)
  refine O.as rfl <| JO.nil <| J.seq <| J.seq <| J.reg rfl <| O.mv rfl <| O.len rfl <| O.eq rfl rfl <| JO.nil <| J.condD rfl (fun h9 => ?_) (fun h9 => ?_)
  · skip
    refine J.seq <| J.reg rfl <| O.bld0 <| O.st rfl rfl hl1.to rfl (by simp [oneC, Value.cells]) fun W3 i3 hc3 => JO.nil <| J.ret1 rfl (.cell rfl hc3 rfl) fun W' iE iP => ?_
    have h0 : val l = 0 := hz.1 (by omega)
    rw [h0, show ci (sg neg 0) = (false, []) from by cases neg <;> exact ci_zero]
    exact mkI (nil_sl _ _ _)
  · skip
    refine J.skip <| J.seq <| J.reg rfl <| O.mv rfl <| O.mv rfl <| O.bld rfl rfl rfl rfl <| O.st rfl rfl hl1.to rfl (by simp [oneC, Value.cells]) fun W3 i3 hc3 => JO.nil <| J.ret1 rfl (.cell rfl hc3 rfl) fun W' iE iP => ?_
    have h0 : val l ≠ 0 := fun h => by have := hz.2 h; omega
    rw [ci_sg h0]
    exact mkI s2.to

theorem dig2 {n : Nat} (h : n < 18446744073709551616) : dig (val [n % 4294967296, n / 4294967296]) = dig n := by
  congr 1
  simp only [val]
  omega
theorem integer_fromUint_ok {W : GW} {n : Nat} (hn : n < 18446744073709551616) :
    Ok Tryz.prog 98 [.int .u64 (n : Int)] W fun W' v => V (RSl RW) W' v (dig n) := by
  refine Ok.enter Tryz.func98 rfl rfl rfl rfl fun W0 iEn => ?_
  refine J.seq <| J.reg rfl <| O.as rfl <| JO.nil <| J.seq <| J.reg rfl <| O.mv rfl <| O.cv (r := ((n % 4294967296 : Nat) : Int)) rfl ((wWm _).trans (by omega)) <| O.mv rfl <| O.shr rfl rfl (by decide) (shr32 n) <| O.cv (r := ((n / 4294967296 : Nat) : Int)) rfl (wW (by omega)) <| O.bs (r := RW) [n % 4294967296, n / 4294967296] rfl ⟨rwv _ (by omega), rwv _ (by omega), trivial⟩ rfl rfl rfl (by decide) (.inr rfl) (by decide) fun W2 p2 i2 e2 s2 => O.call rfl (integer_trim_ok s2) fun W3 v3 i3 e3 h3 => O.as rfl <| JO.nil <| J.ret1 rfl (.tmp rfl) fun W' iE iP => ?_
  rw [← dig2 hn]
  exact h3.to

/-- slices.Clone of words -/
theorem clone_u32_ok {W : GW} {p : Option Addr} {m c : Nat} {l : List Nat} (h : Sl RW W p m c l) (hl : l.length ≤ 17592186044416) :
    Ok Tryz.prog 96 [.slice p m c] W fun W' v => V (RSl RW) W' v l := by
  have hn := h.hn
  refine Ok.enter Tryz.func96 rfl rfl rfl rfl fun W0 iEn => ?_
  refine J.seq <| J.reg rfl <| O.as rfl <| JO.nil <| J.seq <| J.seq <| J.reg rfl <| O.mv rfl <| O.eqnil rfl <| JO.nil <| J.cond rfl (fun h4 => ?_) (fun h4 => ?_)
  · skip
    refine J.seq <| J.reg rfl <| O.as rfl <| JO.nil <| J.ret1 rfl (.tmp rfl) fun W' iE iP => ?_
    have h0 : l = [] := by
      rcases h.at' with h | ⟨b, off, hp, _⟩
      · exact h
      · rw [hp] at h4; cases h4
    rw [h0]
    exact (nil_sl _ _ _).v
  · skip
    refine J.skip <| J.seq <| J.reg rfl <| O.bso (r := RW) [] (vs := []) rfl trivial rfl rfl rfl (by decide) (.inr rfl) (by decide) fun W2 b2 i2 e2 hb2 o2 => O.mv rfl <| O.app rfl rfl o2 h.to rfl rfl (by omega) (by omega) fun W3 p3 c3 i3 o3 => O.as rfl <| JO.nil <| J.ret1 rfl (.tmp rfl) fun W' iE iP => ?_
    have := (o3.pub iE iP).v
    simpa using this

theorem own_val_word {W : GW} {p : Option Addr} {m c : Nat} {l : List Nat} (h : Ows RW W p m c l) {j u : Nat} (hj : l[j]? = some u) : u < 4294967296 := ownw h u (List.mem_of_getElem? hj)
theorem get_lt {l : List Nat} {j u : Nat} (h : l[j]? = some u) : j < l.length := by
  by_cases hh : j < l.length
  · exact hh
  · rw [List.getElem?_eq_none (by omega)] at h; cases h

theorem integer_times_ok {W : GW} {p q : Option Addr} {m c m' c' x y : Nat} (h : Sl RW W p m c (dig x)) (h' : Sl RW W q m' c' (dig y)) (hx : (dig x).length ≤ 1099511627776) (hy : (dig y).length ≤ 1099511627776) :
    Ok Tryz.prog 124 [.slice p m c, .slice q m' c'] W fun W' v => V (RSl RW) W' v (dig (x * y)) := by
  have hn := h.hn
  have hn' := h'.hn
  have hzx := @dig_len0 x
  have hzy := @dig_len0 y
  refine Ok.enter Tryz.func124 rfl rfl rfl rfl fun W0 iEn => ?_
  refine J.seq <| J.reg rfl <| O.as rfl <| JO.nil <| J.seq <| J.seq <| J.reg rfl <| O.mv rfl <| O.len rfl <| O.eq rfl rfl <| O.mv rfl <| ?_
  by_cases hg14 : m = 0
  · skip
    refine O.set (t := 14) (.bool true) rfl (by simp only [Value.bool.injEq, decide_eq_true_eq, decide_eq_false_iff_not]; omega) <| O.gs rfl rfl rfl <| O.gs rfl rfl rfl <| O.gs rfl rfl rfl <| O.pickT rfl rfl <| JO.nil <| J.condT rfl <| J.seq <| J.reg rfl <| O.as rfl <| JO.nil <| J.ret1 rfl (.tmp rfl) fun W' iE iP => ?_
    have h0 : x = 0 := hzx.1 (by omega)
    rw [h0, Nat.zero_mul, dig_zero]
    exact (nil_sl _ _ _).v
  · skip
    refine O.set (t := 14) (.bool false) rfl (by simp only [Value.bool.injEq, decide_eq_true_eq, decide_eq_false_iff_not]; omega) <| O.gt rfl rfl <| O.mv rfl <| O.gt rfl rfl <| O.len rfl <| O.gt rfl rfl <| O.eq rfl rfl <| O.pickF rfl rfl <| JO.nil <| J.condD rfl (fun h18 => ?_) (fun h18 => ?_)
    · skip
      refine J.seq <| J.reg rfl <| O.as rfl <| JO.nil <| J.ret1 rfl (.tmp rfl) fun W' iE iP => ?_
      have h0 : y = 0 := hzy.1 (by omega)
      rw [h0, Nat.mul_zero, dig_zero]
      exact (nil_sl _ _ _).v
    · skip
      refine J.skip <| J.seq <| J.reg rfl <| O.mv rfl <| O.len rfl <| O.mv rfl <| O.len rfl <| O.add rfl rfl (wI (by omega)) <| O.mk (r := RW) (m := m + m') (c := m + m') 0 rfl rfl rfl rfl (by omega) (by omega) (by omega) rfl rfl (by decide) (fun _ => ⟨rfl, by decide⟩) fun W2 b2 i2 e2 hb2 ho0 => O.as rfl <| JO.nil <| J.seq <| J.seq <| J.reg rfl <| O.mv rfl <| O.len rfl <| O.mv rfl <| JO.nil <| J.block <| ?_
      refine J.loop (α := Nat × List Nat) (fun q' => [(1, .slice q m' c'), (5, .slice (some ⟨b2, 0, none⟩) (m + m') (m + m')), (25, .slice p m c), (26, .int .i64 (m : Int)), (27, .int .i64 (q'.1 : Int))]) (fun q' W' => Le W0 W' ∧ Ows RW W' (some ⟨b2, 0, none⟩) (m + m') (m + m') q'.2 ∧ q'.1 ≤ m ∧ val (q'.2.take (q'.1 + m')) = val ((dig x).take q'.1) * y) (fun q' => m - q'.1) (0, List.replicate (m + m') 0) ⟨rfl, rfl, rfl, rfl, rfl, trivial⟩ ⟨inferInstance, ho0, Nat.zero_le _, val_repl0 _ _⟩ ?_
      rintro ⟨i, lo0⟩ W3 ⟨_, ho1, hi, hval⟩
      dsimp only at *
      refine J.seq <| J.reg rfl <| O.lt rfl rfl <| JO.nil <| J.seq <| J.condD rfl (fun h28 => ?_) (fun h28 => ?_)
      · skip
        obtain ⟨u, hu⟩ := xat (l := dig x) (k := i) (by omega)
        have hub := words_dig x u (List.mem_of_getElem? hu)
        refine J.skip <| J.seq <| J.block <| J.seq <| J.reg rfl <| O.mv rfl <| O.ixW (j := i) rfl rfl rfl h.to hu fun a1 => O.as rfl <| O.as rfl <| JO.nil <| J.seq <| J.reg rfl <| O.as rfl <| JO.nil <| J.seq <| J.seq <| J.reg rfl <| O.mv rfl <| O.len rfl <| O.mv rfl <| JO.nil <| J.block <| ?_
        refine J.loop (α := Nat × List Nat × Nat) (fun q' => [(1, .slice q m' c'), (5, .slice (some ⟨b2, 0, none⟩) (m + m') (m + m')), (6, .int .i64 (i : Int)), (7, .int .u32 (u : Int)), (8, .int .u64 (q'.2.2 : Int)), (25, .slice p m c), (26, .int .i64 (m : Int)), (27, .int .i64 (i : Int)), (32, .slice q m' c'), (33, .int .i64 (m' : Int)), (34, .int .i64 (q'.1 : Int))]) (fun q' W' => Le W0 W' ∧ Ows RW W' (some ⟨b2, 0, none⟩) (m + m') (m + m') q'.2.1 ∧ q'.1 ≤ m' ∧ q'.2.2 < 4294967296 ∧ (∀ j, i + q'.1 ≤ j → q'.2.1[j]? = lo0[j]?) ∧ val (q'.2.1.take (i + q'.1)) + 4294967296 ^ (i + q'.1) * q'.2.2 = val (lo0.take (i + q'.1)) + 4294967296 ^ i * (u * val ((dig y).take q'.1))) (fun q' => m' - q'.1) (0, lo0, 0) ⟨rfl, rfl, rfl, rfl, rfl, rfl, rfl, rfl, rfl, rfl, rfl, trivial⟩ ⟨inferInstance, ho1, Nat.zero_le _, by show (0 : Nat) < 4294967296; decide, fun _ _ => rfl, rfl⟩ ?_
        rintro ⟨k, lo, cr⟩ W4 ⟨_, ho, hk, hcr, hrest, hval2⟩
        dsimp only at *
        have hln := ho.hn
        have hln0 := ho1.hn
        refine J.seq <| J.reg rfl <| O.lt rfl rfl <| JO.nil <| J.seq <| J.condD rfl (fun h35 => ?_) (fun h35 => ?_)
        · skip
          obtain ⟨v, hv⟩ := xat (l := dig y) (k := k) (by omega)
          have hvb := words_dig y v (List.mem_of_getElem? hv)
          obtain ⟨w, hw⟩ := xat (l := lo) (k := i + k) (by omega)
          have hwb := own_val_word ho hw
          have huv : u * v ≤ 4294967295 * 4294967295 := Nat.mul_le_mul (by omega) (by omega)
          refine J.skip <| J.seq <| J.block <| J.seq <| J.reg rfl <| O.mv rfl <| O.ixW (j := k) rfl rfl rfl h'.to hv fun a2 => O.as rfl <| O.as rfl <| JO.nil <| J.seq <| J.reg rfl <| O.mv rfl <| O.mv rfl <| O.cv rfl (wU (by omega)) <| O.mv rfl <| O.cv rfl (wU (by omega)) <| O.mul (r := ((u * v : Nat) : Int)) rfl rfl ((wU (by rw [← Int.natCast_mul]; omega)).trans (by rw [Int.natCast_mul])) <| O.mv rfl <| O.mv rfl <| O.mv rfl <| O.add rfl rfl (wI (by omega)) <| O.ixo (r := RW) (j := i + k) rfl rfl rfl ho hw rfl rfl (fun _ => rfl) fun a3 v3 h3 => ?_
          obtain rfl := h3.rw.1
          refine O.cv rfl (wU (by omega)) <| O.add (r := ((u * v + w : Nat) : Int)) rfl rfl ((wU (by omega)).trans (by omega)) <| O.add (r := ((cr + (u * v + w) : Nat) : Int)) rfl rfl ((wU (by omega)).trans (by omega)) <| O.as rfl <| JO.nil <| J.seq <| J.reg rfl <| O.mv rfl <| O.mv rfl <| O.mv rfl <| ?_
          obtain ⟨s, hs⟩ : ∃ s, s = cr + (u * v + w) := ⟨_, rfl⟩
          have hs2 : s < 18446744073709551616 := by omega
          rw [← hs]
          refine O.add rfl rfl (wI (by omega)) <| O.mv rfl <| O.cv (r := ((s % 4294967296 : Nat) : Int)) rfl ((wWm _).trans (by omega)) <| O.iaB (r := RW) (j := i + k) rfl rfl rfl ho (by omega) rfl <| O.sto (r := RW) (j := i + k) (u := s % 4294967296) rfl rfl ho (by omega) (rwv _ (by omega)) rfl (.inr rfl) fun W5 i5 o5 => JO.nil <| J.reg rfl <| O.mv rfl <| O.shr rfl rfl (by decide) (shr32 s) <| O.as rfl <| JO.nil <| J.bend <| J.reg rfl <| O.add rfl rfl (wI (by omega)) <| O.mv rfl <| JO.nil <| ?_
          have hfin : val ((lo.set (i + k) (s % 4294967296)).take (i + (k + 1))) + 4294967296 ^ (i + (k + 1)) * (s / 4294967296) = val (lo0.take (i + (k + 1))) + 4294967296 ^ i * (u * val ((dig y).take (k + 1))) := by
            have hw0 : lo0[i + k]? = some w := by rw [← hrest (i + k) (Nat.le_refl _)]; exact hw
            rw [← Nat.add_assoc, val_set (by omega), val_take_succ hw0, val_take_succ hv, Nat.pow_succ, Nat.mul_assoc, Nat.mul_add u, Nat.mul_add (4294967296 ^ i)]
            have e : 4294967296 ^ (i + k) * s = 4294967296 ^ (i + k) * (s % 4294967296) + 4294967296 ^ (i + k) * (4294967296 * (s / 4294967296)) := by rw [← Nat.mul_add]; congr 1; omega
            have e2 : 4294967296 ^ (i + k) * s = 4294967296 ^ (i + k) * cr + 4294967296 ^ i * (u * (4294967296 ^ k * v)) + 4294967296 ^ (i + k) * w := by
              rw [hs, Nat.mul_add, Nat.mul_add, Nat.pow_add]
              have : 4294967296 ^ i * 4294967296 ^ k * (u * v) = 4294967296 ^ i * (u * (4294967296 ^ k * v)) := by
                rw [Nat.mul_assoc, Nat.mul_left_comm (4294967296 ^ k) u v]
              omega
            omega
          exact J.at' (k + 1, lo.set (i + k) (s % 4294967296), s / 4294967296) ⟨rfl, rfl, rfl, rfl, rfl, rfl, rfl, rfl, rfl, rfl, rfl, trivial⟩ ⟨⟨inferInstance, o5, by show k + 1 ≤ m'; omega, by show s / 4294967296 < 4294967296; omega, fun j hj => by rw [List.getElem?_set_ne (by omega)]; exact hrest j (by omega), hfin⟩, by show m' - (k + 1) < m' - k; omega⟩
        · skip
          have hkm : k = m' := by omega
          obtain rfl := hkm
          refine J.exit rfl <| J.reg rfl <| O.mv rfl <| O.mv rfl <| O.mv rfl <| O.len rfl <| O.add rfl rfl (wI (by omega)) <| O.mv rfl <| O.cv (r := ((cr : Nat) : Int)) rfl (wW (by omega)) <| O.iaB (r := RW) (j := i + k) rfl rfl rfl ho (by omega) rfl <| O.sto (r := RW) (j := i + k) (u := cr) rfl rfl ho (by omega) (rwv _ (by omega)) rfl (.inr rfl) fun W5 i5 o5 => JO.nil <| J.bend <| J.reg rfl <| O.add rfl rfl (wI (by omega)) <| O.mv rfl <| JO.nil <| ?_
          have hfin : val ((lo.set (i + k) cr).take (i + 1 + k)) = val ((dig x).take (i + 1)) * y := by
            rw [show i + 1 + k = i + k + 1 from by omega, val_set (by omega), val_take_succ hu, hval2, hval, List.take_of_length_le (l := dig y) (i := k) (by omega), val_dig, Nat.add_mul, Nat.mul_assoc]
          exact J.at' (i + 1, lo.set (i + k) cr) ⟨rfl, rfl, rfl, rfl, rfl, trivial⟩ ⟨⟨inferInstance, o5, by show i + 1 ≤ m; omega, hfin⟩, by show m - (i + 1) < m - i; omega⟩
      · skip
        have him : i = m := by omega
        have hln0 := ho1.hn
        rw [him, List.take_of_length_le (by omega), List.take_of_length_le (by omega), val_dig] at hval
        refine J.exit rfl <| J.seq <| ?_
        refine J.pub ho1 fun W6 i6 s6 => ?_
        refine J.reg rfl <| O.mv rfl <| O.call rfl (integer_trim_ok s6) fun W7 v7 i7 e7 h7 => O.as rfl <| JO.nil <| J.ret1 rfl (.tmp rfl) fun W' iE iP => ?_
        rw [← hval]
        exact h7.to
end Go.Proofs.YtcobdnnfmhfenaaGreat

/- The program's integers, the words, fourth part: division by a word, the steps of the long division. -/
import Derived.Test.YtcobdnnfmhfenaaGreatIc
set_option linter.unusedVariables false
set_option linter.unusedSimpArgs false
set_option maxRecDepth 10000
namespace Go.Proofs.YtcobdnnfmhfenaaGreat
open Go Go.Rx Go.Num

/-- divideWord -/
theorem integer_divideWord_ok {W : GW} {p : Option Addr} {m c x y : Nat} (h : Sl RW W p m c (dig x)) (hx : (dig x).length ≤ 1099511627776) (hy : y < 4294967296) (hy0 : y ≠ 0) :
    Ok Tryz.prog 115 [.slice p m c, .int .u32 (y : Int)] W fun W' v => ∃ v1 v2, v = .tuple #[v1, v2] ∧ V (RSl RW) W' v1 (dig (x / y)) ∧ V (RSl RW) W' v2 (dig (x % y)) := by
  have hn := h.hn
  refine Ok.enter Tryz.func115 rfl rfl rfl rfl fun W0 iEn => ?_
  refine J.seq <| J.reg rfl <| O.as rfl <| O.as rfl <| JO.nil <| J.seq <| J.reg rfl <| O.mv rfl <| O.len rfl <| O.mk (r := RW) (m := m) (c := m) 0 rfl rfl rfl rfl (by omega) (by omega) (by omega) rfl rfl (by decide) (fun _ => ⟨rfl, by decide⟩) fun W2 b2 i2 e2 hb2 ho0 => O.as rfl <| JO.nil <| J.seq <| J.reg rfl <| O.as rfl <| JO.nil <| J.seq <| J.seq <| J.reg rfl <| O.mv rfl <| O.len rfl <| O.sb rfl rfl (wI (by omega)) <| O.as rfl <| JO.nil <| J.block <| ?_
  refine J.loop (α := Nat × List Nat × Nat) (fun q => [(0, .slice p m c), (1, .int .u32 (y : Int)), (6, .slice (some ⟨b2, 0, none⟩) m m), (7, .int .u64 (q.2.2 : Int)), (8, .int .i64 ((q.1 : Int) - 1))]) (fun q W' => Le W0 W' ∧ Ows RW W' (some ⟨b2, 0, none⟩) m m q.2.1 ∧ q.1 ≤ m ∧ q.2.2 < y ∧ val (q.2.1.drop q.1) * y + q.2.2 = val ((dig x).drop q.1)) (fun q => q.1) (m, List.replicate m 0, 0) ⟨rfl, rfl, rfl, rfl, rfl, trivial⟩ ⟨inferInstance, ho0, Nat.le_refl _, by show 0 < y; omega, by dsimp only; rw [List.drop_eq_nil_of_le (by simp), List.drop_eq_nil_of_le (by omega)]; simp [val]⟩ ?_
  rintro ⟨k, lo, r⟩ W3 ⟨_, ho, hk, hr, hval⟩
  dsimp only at *
  have hln := ho.hn
  refine J.seq <| J.seq <| J.reg rfl <| O.mv rfl <| O.ge rfl rfl <| JO.nil <| J.condD rfl (fun h16 => ?_) (fun h16 => ?_)
  · skip
    obtain ⟨u, hu⟩ := xat (l := dig x) (k := k - 1) (by omega)
    have hub := words_dig x u (List.mem_of_getElem? hu)
    refine J.skip <| J.seq <| J.block <| J.seq <| J.reg rfl <| O.mv rfl <| O.shl (r := ((r * 2 ^ 32 : Nat) : Int)) rfl rfl (by decide) (shl_eq (u := r) (n := 32) (by omega) (by omega)) <| O.mv rfl <| O.mv rfl <| O.ixW (j := k - 1) rfl rfl (by omega) h.to hu fun a1 => O.cv rfl (wU (by omega)) <| O.or (p := r * 2 ^ 32) (q := u) (r := ((r * 2 ^ 32 + u : Nat) : Int)) rfl rfl rfl rfl (by show _ < 18446744073709551616; omega) (by show _ < 18446744073709551616; omega) (by rw [or_add u r 32 (by omega)]; exact wU (by omega)) <| O.as rfl <| JO.nil <| J.seq <| ?_
    obtain ⟨s, hs⟩ : ∃ s, s = r * 2 ^ 32 + u := ⟨_, rfl⟩
    rw [← hs]
    have hsy : s / y < 4294967296 := by
      rw [Nat.div_lt_iff_lt_mul (by omega)]
      have := Nat.mul_le_mul_right 4294967296 (show r + 1 ≤ y by omega)
      omega
    have hsm : s % y < y := Nat.mod_lt _ (by omega)
    refine J.reg rfl <| O.mv rfl <| O.mv rfl <| O.mv rfl <| O.mv rfl <| O.cv rfl (wU (by omega)) <| O.quo (r := ((s / y : Nat) : Int)) rfl rfl (by omega) (tquo s y (by omega)) <| O.cv (r := ((s / y : Nat) : Int)) rfl (wW ⟨Int.natCast_nonneg _, Int.ofNat_lt.2 hsy⟩) <| O.iaB (r := RW) (j := k - 1) rfl rfl (by omega) ho (by omega) rfl <| O.sto (r := RW) (j := k - 1) (u := s / y) rfl rfl ho (by omega) (rwv _ hsy) rfl (.inr rfl) fun W5 i5 o5 => JO.nil <| J.reg rfl <| O.mv rfl <| O.mv rfl <| O.cv rfl (wU (by omega)) <| O.rem (r := ((s % y : Nat) : Int)) rfl rfl (by omega) (trem s y) <| O.as rfl <| JO.nil <| J.bend <| J.reg rfl <| O.mv rfl <| O.sb rfl rfl (wI (by omega)) <| O.as rfl <| JO.nil <| ?_
    have hfin : val ((lo.set (k - 1) (s / y)).drop (k - 1)) * y + s % y = val ((dig x).drop (k - 1)) := by
      rw [val_drop hu, show k - 1 + 1 = k from by omega, ← hval, drop_set (by omega), val, show k - 1 + 1 = k from by omega]
      have e := Nat.div_add_mod s y
      rw [Nat.mul_comm] at e
      rw [Nat.add_mul, Nat.mul_add, Nat.mul_assoc]
      omega
    exact J.at' (k - 1, lo.set (k - 1) (s / y), s % y) ⟨rfl, rfl, rfl, rfl, by rw [show ((k - 1 : Nat) : Int) = (k : Int) - 1 from by omega]; rfl, trivial⟩ ⟨⟨inferInstance, o5, by show k - 1 ≤ m; omega, hsm, hfin⟩, by show k - 1 < k; omega⟩
  · skip
    have hk0 : k = 0 := by omega
    subst hk0
    rw [List.drop_zero, List.drop_zero, val_dig] at hval
    have hq : x / y = val lo := by
      rw [← hval, Nat.mul_comm, Nat.mul_add_div (by omega), Nat.div_eq_of_lt hr, Nat.add_zero]
    have hm : x % y = r := by
      rw [← hval, Nat.mul_comm, Nat.mul_add_mod, Nat.mod_eq_of_lt hr]
    rw [hq, hm]
    refine J.exit rfl <| J.seq <| ?_
    refine J.pub ho fun W6 i6 s6 => ?_
    refine J.reg rfl <| O.mv rfl <| O.call rfl (integer_trim_ok s6) fun W7 v7 i7 e7 h7 => O.mv rfl <| O.call rfl (integer_fromUint_ok (n := r) (by omega)) fun W8 v8 i8 e8 h8 => O.as rfl <| O.as rfl <| JO.nil <| J.ret2 rfl (.tmp rfl) (.tmp rfl) fun W' iE iP => ?_
    exact ⟨_, _, rfl, h7.to, h8.to⟩

theorem math_bits_Len32_ok {W : GW} {x : Nat} (hx : x < 4294967296) : Ok Tryz.prog 129 [.int .u32 (x : Int)] W fun _ v => v = .int .i64 (bl x : Int) := by
  refine Ok.enter Tryz.func129 rfl rfl rfl rfl fun W0 iEn => ?_
  refine J.seq <| J.reg rfl <| O.as rfl <| JO.nil <| J.seq <| J.seq <| J.reg rfl <| O.mv rfl <| O.ge rfl rfl <| JO.nil <| ?_
  refine J.cut (α := Nat × Nat) (fun q => [(0, .int .u32 (q.1 : Int)), (2, .int .i64 (q.2 : Int))]) (fun q W => W = W0 ∧ q.1 < 65536 ∧ bl x = bl q.1 + q.2 ∧ q.2 ≤ 16) ?_ ?_
  · skip
    refine J.condD rfl (fun h4 => ?_) (fun h4 => ?_)
    · skip
      refine J.seq <| J.reg rfl <| O.mv rfl <| O.shr rfl rfl (by decide) (shr32_eq x 16 (by decide)) <| O.as rfl <| JO.nil <| J.reg rfl <| O.as rfl <| JO.nil <| ?_
      exact J.at' (x / 2 ^ 16, 16) ⟨rfl, rfl, trivial⟩ ⟨rfl, by show x / 2 ^ 16 < 65536; omega, bl_shift (by omega), Nat.le_refl _⟩
    · skip
      refine J.skip <| ?_
      exact J.at' (x, 0) ⟨rfl, rfl, trivial⟩ ⟨rfl, by show x < 65536; omega, rfl, by show 0 ≤ 16; omega⟩
  · skip
    rintro ⟨x1, n1⟩ W1 ⟨rfl, hx1, hb1, hn1⟩
    dsimp only at *
    refine J.seq <| J.seq <| J.reg rfl <| O.mv rfl <| O.ge rfl rfl <| JO.nil <| ?_
    refine J.cut (α := Nat × Nat) (fun q => [(0, .int .u32 (q.1 : Int)), (2, .int .i64 (q.2 : Int))]) (fun q W => W = W1 ∧ q.1 < 256 ∧ bl x = bl q.1 + q.2 ∧ q.2 ≤ 24) ?_ ?_
    · skip
      refine J.condD rfl (fun h8 => ?_) (fun h8 => ?_)
      · skip
        refine J.seq <| J.reg rfl <| O.mv rfl <| O.shr rfl rfl (by decide) (shr32_eq x1 8 (by decide)) <| O.as rfl <| JO.nil <| J.reg rfl <| O.mv rfl <| O.add rfl rfl (wI (by omega)) <| O.as rfl <| JO.nil <| ?_
        exact J.at' (x1 / 2 ^ 8, n1 + 8) ⟨rfl, rfl, trivial⟩ ⟨rfl, by show x1 / 2 ^ 8 < 256; omega, by dsimp only; rw [hb1, bl_shift (n := x1) (k := 8) (by omega)]; omega, by show n1 + 8 ≤ 24; omega⟩
      · skip
        refine J.skip <| ?_
        exact J.at' (x1, n1) ⟨rfl, rfl, trivial⟩ ⟨rfl, by show x1 < 256; omega, hb1, by show n1 ≤ 24; omega⟩
    · skip
      rintro ⟨x2, n2⟩ W2 ⟨rfl, hx2, hb2, hn2⟩
      dsimp only at *
      have hbl : bl x2 < 256 := Nat.lt_of_lt_of_le (fin256 (p := fun j => bl j < 10) (by decide +kernel) x2 hx2) (by decide)
      refine J.seq <| J.reg rfl <| O.mv rfl <| O.mv rfl <| O.cv (r := (x2 : Int)) rfl (wB (by omega)) <| O.idx (b := UInt8.ofNat (bl x2)) rfl rfl rfl (by revert hx2; generalize x2 = j; revert j; decide +kernel) <| O.cv (r := (bl x2 : Int)) rfl ((wI ⟨by omega, by rw [u8nat hbl]; omega⟩).trans (u8nat hbl)) <| O.add (r := (bl x : Int)) rfl rfl ((wI (by omega)).trans (by omega)) <| O.as rfl <| JO.nil <| J.ret1 rfl (.tmp rfl) fun W' iE iP => ?_
      rfl
theorem math_bits_LeadingZeros32_ok {W : GW} {x : Nat} (hx : x < 4294967296) (h0 : x ≠ 0) : Ok Tryz.prog 116 [.int .u32 (x : Int)] W fun _ v => ∃ n : Nat, v = .int .i64 (n : Int) ∧ n < 32 ∧ 2147483648 ≤ x * 2 ^ n ∧ x * 2 ^ n < 4294967296 := by
  obtain ⟨b1, b2, b3⟩ := bl_bounds h0
  have hb32 : bl x ≤ 32 := by
    have : 2 ^ (bl x - 1) < 2 ^ 32 := Nat.lt_of_le_of_lt b1 hx
    have := (Nat.pow_lt_pow_iff_right (by decide : 1 < 2)).1 this
    omega
  refine Ok.enter Tryz.func116 rfl rfl rfl rfl fun W0 iEn => ?_
  refine J.seq <| J.reg rfl <| O.as rfl <| JO.nil <| J.seq <| J.reg rfl <| O.mv rfl <| O.call rfl (math_bits_Len32_ok hx) fun W2 v2 i2 e2 h2 => ?_
  subst h2
  refine O.sb (r := ((32 - bl x : Nat) : Int)) rfl rfl ((wI (by omega)).trans (by omega)) <| O.as rfl <| JO.nil <| J.ret1 rfl (.tmp rfl) fun W' iE iP => ?_
  refine ⟨32 - bl x, rfl, by omega, ?_, ?_⟩
  · have h1 := Nat.mul_le_mul_right (2 ^ (32 - bl x)) b1
    rw [← Nat.pow_add, show bl x - 1 + (32 - bl x) = 31 from by omega] at h1
    exact h1
  · have h1 := Nat.mul_lt_mul_of_pos_right b2 (Nat.two_pow_pos (32 - bl x))
    rw [← Nat.pow_add, show bl x + (32 - bl x) = 32 from by omega] at h1
    exact h1
end Go.Proofs.YtcobdnnfmhfenaaGreat

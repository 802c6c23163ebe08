/- The reference's integers, second part: absolute values. -/
import Derived.Test.YtcobdnnfmhfenaaGreatKa
set_option linter.unusedVariables false
set_option linter.unusedSimpArgs false
set_option maxRecDepth 10000
set_option maxHeartbeats 1000000
namespace Go.Proofs.YtcobdnnfmhfenaaGreat
open Go Go.Rx Go.Num

/-- compare. -/
theorem ref01_compare_ok {W : GW} {p q : Option Addr} {m c m' c' x y : Nat} (h : Sl RW W p m c (dig x)) (h' : Sl RW W q m' c' (dig y)) :
    Ok Tryz.prog 100 [.slice p m c, .slice q m' c'] W fun W' v => v = .int .i64 (cmpI x y) := by
  have hn := h.hn
  have hn' := h'.hn
  have hb := h.hC
  have hb1 := h.hc
  refine Ok.enter Tryz.func100 rfl rfl rfl rfl fun W0 iEn => ?_
  refine J.seq <| J.reg rfl <| O.as rfl <| JO.nil <| J.seq <| J.seq <| J.reg rfl <| O.mv rfl <| O.len rfl <| O.mv rfl <| O.len rfl <| O.ne rfl rfl <| JO.nil <| J.condD rfl (fun h10 => ?_) (fun h10 => ?_)
  · skip
    refine J.seq <| J.seq <| J.reg rfl <| O.mv rfl <| O.len rfl <| O.mv rfl <| O.len rfl <| O.lt rfl rfl <| JO.nil <| J.condD rfl (fun h15 => ?_) (fun h15 => ?_)
    · skip
      refine J.seq <| J.reg rfl <| O.as rfl <| JO.nil <| J.ret1 rfl (.tmp rfl) fun W' iE iP => ?_
      have := lt_of_len (m := x) (n := y) (by omega)
      rw [cmpI, if_pos (by omega)]
    · skip
      refine J.skip <| J.seq <| J.reg rfl <| O.as rfl <| JO.nil <| J.ret1 rfl (.tmp rfl) fun W' iE iP => ?_
      have := lt_of_len (m := y) (n := x) (by omega)
      rw [cmpI, if_neg (by omega), if_pos (by omega)]
  · skip
    refine J.skip <| J.seq <| J.seq <| J.reg rfl <| O.mv rfl <| O.len rfl <| O.sb rfl rfl (wI (by omega)) <| O.as rfl <| JO.nil <| J.block <| ?_
    refine J.loop (α := Nat) (fun k => [(0, .slice p m c), (1, .slice q m' c'), (5, .int .i64 ((k : Int) - 1))]) (fun k W' => Le W0 W' ∧ k ≤ m ∧ (dig x).drop k = (dig y).drop k) (fun k => k) m ⟨rfl, rfl, rfl, trivial⟩ ⟨inferInstance, Nat.le_refl _, by rw [List.drop_eq_nil_of_le (by omega), List.drop_eq_nil_of_le (by omega)]⟩ ?_
    rintro k W3 ⟨_, hk, hd⟩
    refine J.seq <| J.seq <| J.reg rfl <| O.mv rfl <| O.ge rfl rfl <| JO.nil <| J.condD rfl (fun h20 => ?_) (fun h20 => ?_)
    · skip
      obtain ⟨u, hu⟩ := xat (l := dig x) (k := k - 1) (by omega)
      obtain ⟨v, hv⟩ := xat (l := dig y) (k := k - 1) (by omega)
      have hd' : (dig x).drop (k - 1 + 1) = (dig y).drop (k - 1 + 1) := by rw [show k - 1 + 1 = k from by omega]; exact hd
      obtain ⟨b1, o1, rfl, hj1, hw1⟩ := h.word hu
      obtain ⟨b2, o2, rfl, hj2, hw2⟩ := h'.word hv
      refine J.skip <| J.seq <| J.block <| J.seq <| J.seq <| ?_
      refine J.draw [.ex _, .ex _, .ex _, .ex _, .ex _, .ex _, .ex _, .ex _, .ex _] rfl rfl ⟨fun W1 i1 e1 _ => O.mv rfl <| D.ex, fun W1 i1 e1 _ => O.mv rfl <| D.ex, fun W1 i1 e1 _ => O.ia (j := k - 1) rfl rfl (by omega) hj1 <| D.ex, fun W1 i1 e1 _ => O.ldC rfl (hw1 _ Lf.s) <| D.ex, fun W1 i1 e1 _ => O.mv rfl <| D.ex, fun W1 i1 e1 _ => O.mv rfl <| D.ex, fun W1 i1 e1 _ => O.ia (j := k - 1) rfl rfl (by omega) hj2 <| D.ex, fun W1 i1 e1 _ => O.ldC rfl (hw2 _ Lf.s) <| D.ex, fun W1 i1 e1 _ => O.lt rfl rfl <| D.ex, trivial⟩ ?_
      intro W1 i1 e1
      refine JO.nil <| J.condD rfl (fun h31 => ?_) (fun h31 => ?_)
      · skip
        refine J.seq <| J.reg rfl <| O.as rfl <| JO.nil <| J.ret1 rfl (.tmp rfl) fun W' iE iP => ?_
        have := lt_top (words_dig x) (by omega) (by omega) hu hv hd' (by omega)
        rw [val_dig, val_dig] at this
        rw [cmpI, if_pos (by omega)]
      · skip
        refine J.skip <| J.seq <| ?_
        refine J.draw [.ex _, .ex _, .ex _, .ex _, .ex _, .ex _, .ex _, .ex _, .ex _] rfl rfl ⟨fun W1 i1 e1 _ => O.mv rfl <| D.ex, fun W1 i1 e1 _ => O.mv rfl <| D.ex, fun W1 i1 e1 _ => O.ia (j := k - 1) rfl rfl (by omega) hj1 <| D.ex, fun W1 i1 e1 _ => O.ldC rfl (hw1 _ Lf.s) <| D.ex, fun W1 i1 e1 _ => O.mv rfl <| D.ex, fun W1 i1 e1 _ => O.mv rfl <| D.ex, fun W1 i1 e1 _ => O.ia (j := k - 1) rfl rfl (by omega) hj2 <| D.ex, fun W1 i1 e1 _ => O.ldC rfl (hw2 _ Lf.s) <| D.ex, fun W1 i1 e1 _ => O.gtr rfl rfl <| D.ex, trivial⟩ ?_
        intro W1 i1 e1
        refine JO.nil <| J.condD rfl (fun h40 => ?_) (fun h40 => ?_)
        · skip
          refine J.seq <| J.reg rfl <| O.as rfl <| JO.nil <| J.ret1 rfl (.tmp rfl) fun W' iE iP => ?_
          have := lt_top (words_dig y) (by omega) (by omega) hv hu hd'.symm (by omega)
          rw [val_dig, val_dig] at this
          rw [cmpI, if_neg (by omega), if_pos (by omega)]
        · skip
          refine J.skip <| J.bend <| J.reg rfl <| O.mv rfl <| O.sb rfl rfl (wI (by omega)) <| O.as rfl <| JO.nil <| ?_
          have huv : u = v := by omega
          have hd2 : (dig x).drop (k - 1) = (dig y).drop (k - 1) := by
            rw [List.drop_eq_getElem_cons (l := dig x) (i := k - 1) (by omega), List.drop_eq_getElem_cons (l := dig y) (i := k - 1) (by omega), show k - 1 + 1 = k from by omega, hd]
            rw [List.getElem?_eq_getElem (by omega)] at hu hv
            injection hu with hu
            injection hv with hv
            rw [hu, hv, huv]
          exact J.at' (k - 1) ⟨rfl, rfl, by rw [show ((k - 1 : Nat) : Int) = (k : Int) - 1 from by omega]; rfl, trivial⟩ ⟨⟨inferInstance, by omega, hd2⟩, by omega⟩
    · skip
      refine J.exit rfl <| J.seq <| J.reg rfl <| O.as rfl <| JO.nil <| J.ret1 rfl (.tmp rfl) fun W' iE iP => ?_
      have hk0 : k = 0 := by omega
      rw [hk0, List.drop_zero, List.drop_zero] at hd
      have hxy : x = y := by rw [← val_dig x, hd, val_dig]
      rw [hxy, cmpI, if_neg (by omega), if_neg (by omega)]

/-- short -/
theorem ref01_short_ok {W : GW} {p : Option Addr} {m c : Nat} {l : List Nat} (h : Sl RW W p m c l) (hl : l.length ≤ 2) :
    Ok Tryz.prog 107 [.slice p m c] W fun W' v => v = .int .u64 ((val l : Nat) : Int) := by
  have hn := h.hn
  have hw := slw h
  refine Ok.enter Tryz.func107 rfl rfl rfl rfl fun W0 iEn => ?_
  refine J.seq <| J.reg rfl <| O.as rfl <| JO.nil <| J.seq <| J.reg rfl <| O.as rfl <| JO.nil <| J.seq <| J.seq <| J.reg rfl <| O.mv rfl <| O.len rfl <| O.sb rfl rfl (wI (by omega)) <| O.as rfl <| JO.nil <| J.block <| ?_
  refine J.loop (α := Nat) (fun k => [(0, .slice p m c), (3, .int .u64 ((val (l.drop k) : Nat) : Int)), (4, .int .i64 ((k : Int) - 1))]) (fun k W' => Le W0 W' ∧ k ≤ m) (fun k => k) m ⟨rfl, by rw [List.drop_eq_nil_of_le (by omega)]; rfl, rfl, trivial⟩ ⟨inferInstance, Nat.le_refl _⟩ ?_
  rintro k W3 ⟨_, hk⟩
  refine J.seq <| J.seq <| J.reg rfl <| O.mv rfl <| O.ge rfl rfl <| JO.nil <| J.condD rfl (fun h9 => ?_) (fun h9 => ?_)
  · skip
    obtain ⟨u, hu⟩ := xat (l := l) (k := k - 1) (by omega)
    have hub := hw u (List.mem_of_getElem? hu)
    have hv : val (l.drop k) < 4294967296 := by
      have h1 := val_lt (hw.drop k)
      have h2 : 4294967296 ^ (l.drop k).length ≤ 4294967296 ^ 1 := Nat.pow_le_pow_right (by decide) (by rw [List.length_drop]; omega)
      omega
    have hvd := val_drop hu
    rw [show k - 1 + 1 = k from by omega] at hvd
    obtain ⟨s, hs⟩ : ∃ s, s = val (l.drop k) := ⟨_, rfl⟩
    rw [← hs] at hv hvd ⊢
    refine J.skip <| J.seq <| J.block <| J.reg rfl <| O.mv rfl <| O.shl (r := ((s * 2 ^ 32 : Nat) : Int)) rfl rfl (by decide) (shl_eq (u := s) (n := 32) (by omega) (by omega)) <| O.mv rfl <| O.mv rfl <| O.ixW (j := k - 1) rfl rfl (by omega) h.to hu fun a1 => O.cv rfl (wU (by omega)) <| O.or (p := s * 2 ^ 32) (q := u) (r := ((val (l.drop (k - 1)) : Nat) : Int)) rfl rfl rfl rfl (by show _ < 18446744073709551616; omega) (by show _ < 18446744073709551616; omega) (by rw [or_add u s 32 (by omega), hvd]; exact (wU (by omega)).trans (by omega)) <| O.as rfl <| JO.nil <| J.bend <| J.reg rfl <| O.mv rfl <| O.sb rfl rfl (wI (by omega)) <| O.as rfl <| JO.nil <| ?_
    exact J.at' (k - 1) ⟨rfl, rfl, by rw [show ((k - 1 : Nat) : Int) = (k : Int) - 1 from by omega]; rfl, trivial⟩ ⟨⟨inferInstance, by omega⟩, by omega⟩
  · skip
    refine J.exit rfl <| J.seq <| J.reg rfl <| O.mv rfl <| O.as rfl <| JO.nil <| J.ret1 rfl (.tmp rfl) fun W' iE iP => ?_
    have hk0 : k = 0 := by omega
    rw [hk0, List.drop_zero]

/-- by -/
theorem ref01_by_ok {W : GW} {p : Option Addr} {m c x y : Nat} (h : Sl RW W p m c (dig x)) (hx : (dig x).length ≤ 1099511627776) (hy : y < 4294967296) (hy0 : y ≠ 0) :
    Ok Tryz.prog 108 [.slice p m c, .int .u32 (y : Int)] W fun W' v => ∃ v1, v = .tuple #[v1, .int .u32 ((x % y : Nat) : Int)] ∧ V (RSl RW) W' v1 (dig (x / y)) := by
  have hn := h.hn
  refine Ok.enter Tryz.func108 rfl rfl rfl rfl fun W0 iEn => ?_
  refine J.seq <| J.reg rfl <| O.as rfl <| O.as rfl <| JO.nil <| J.seq <| J.reg rfl <| O.mv rfl <| O.len rfl <| O.mk (r := RW) (m := m) (c := m) 0 rfl rfl rfl rfl (by omega) (by omega) (by omega) rfl rfl (by decide) (fun _ => ⟨rfl, by decide⟩) fun W2 b2 i2 e2 hb2 ho0 => O.as rfl <| JO.nil <| J.seq <| J.reg rfl <| O.as rfl <| JO.nil <| J.seq <| J.seq <| J.reg rfl <| O.mv rfl <| O.len rfl <| O.sb rfl rfl (wI (by omega)) <| O.as rfl <| JO.nil <| J.block <| ?_
  refine J.loop (α := Nat × List Nat × Nat) (fun q => [(0, .slice p m c), (1, .int .u32 (y : Int)), (6, .slice (some ⟨b2, 0, none⟩) m m), (7, .int .u64 (q.2.2 : Int)), (8, .int .i64 ((q.1 : Int) - 1))]) (fun q W' => Le W0 W' ∧ Ows RW W' (some ⟨b2, 0, none⟩) m m q.2.1 ∧ q.1 ≤ m ∧ q.2.2 < y ∧ val (q.2.1.drop q.1) * y + q.2.2 = val ((dig x).drop q.1)) (fun q => q.1) (m, List.replicate m 0, 0) ⟨rfl, rfl, rfl, rfl, rfl, trivial⟩ ⟨inferInstance, ho0, Nat.le_refl _, by show 0 < y; omega, by dsimp only; rw [List.drop_eq_nil_of_le (by simp), List.drop_eq_nil_of_le (by omega)]; simp [val]⟩ ?_
  rintro ⟨k, lo, r⟩ W3 ⟨_, ho, hk, hr, hval⟩
  dsimp only at *
  have hln := ho.hn
  refine J.seq <| J.seq <| J.reg rfl <| O.mv rfl <| O.ge rfl rfl <| JO.nil <| J.condD rfl (fun h16 => ?_) (fun h16 => ?_)
  · skip
    obtain ⟨u, hu⟩ := xat (l := dig x) (k := k - 1) (by omega)
    have hub := words_dig x u (List.mem_of_getElem? hu)
    refine J.skip <| J.seq <| J.block <| J.seq <| J.reg rfl <| O.mv rfl <| O.shl (r := ((r * 2 ^ 32 : Nat) : Int)) rfl rfl (by decide) (shl_eq (u := r) (n := 32) (by omega) (by omega)) <| O.mv rfl <| O.mv rfl <| O.ixW (j := k - 1) rfl rfl (by omega) h.to hu fun a1 => O.cv rfl (wU (by omega)) <| O.or (p := r * 2 ^ 32) (q := u) (r := ((r * 2 ^ 32 + u : Nat) : Int)) rfl rfl rfl rfl (by show _ < 18446744073709551616; omega) (by show _ < 18446744073709551616; omega) (by rw [or_add u r 32 (by omega)]; exact wU (by omega)) <| O.as rfl <| JO.nil <| J.seq <| ?_
    obtain ⟨s, hs⟩ : ∃ s, s = r * 2 ^ 32 + u := ⟨_, rfl⟩
    rw [← hs]
    have hsy : s / y < 4294967296 := by
      rw [Nat.div_lt_iff_lt_mul (by omega)]
      have := Nat.mul_le_mul_right 4294967296 (show r + 1 ≤ y by omega)
      omega
    have hsm : s % y < y := Nat.mod_lt _ (by omega)
    refine J.reg rfl <| O.mv rfl <| O.mv rfl <| O.mv rfl <| O.mv rfl <| O.cv rfl (wU (by omega)) <| O.quo (r := ((s / y : Nat) : Int)) rfl rfl (by omega) (tquo s y (by omega)) <| O.cv (r := ((s / y : Nat) : Int)) rfl (wW ⟨Int.natCast_nonneg _, Int.ofNat_lt.2 hsy⟩) <| O.iaB (r := RW) (j := k - 1) rfl rfl (by omega) ho (by omega) rfl <| O.sto (r := RW) (j := k - 1) (u := s / y) rfl rfl ho (by omega) (rwv _ hsy) rfl (.inr rfl) fun W5 i5 o5 => JO.nil <| J.reg rfl <| O.mv rfl <| O.mv rfl <| O.cv rfl (wU (by omega)) <| O.rem (r := ((s % y : Nat) : Int)) rfl rfl (by omega) (trem s y) <| O.as rfl <| JO.nil <| J.bend <| J.reg rfl <| O.mv rfl <| O.sb rfl rfl (wI (by omega)) <| O.as rfl <| JO.nil <| ?_
    have hfin : val ((lo.set (k - 1) (s / y)).drop (k - 1)) * y + s % y = val ((dig x).drop (k - 1)) := by
      rw [val_drop hu, show k - 1 + 1 = k from by omega, ← hval, drop_set (by omega), val, show k - 1 + 1 = k from by omega]
      have e := Nat.div_add_mod s y
      rw [Nat.mul_comm] at e
      rw [Nat.add_mul, Nat.mul_add, Nat.mul_assoc]
      omega
    exact J.at' (k - 1, lo.set (k - 1) (s / y), s % y) ⟨rfl, rfl, rfl, rfl, by rw [show ((k - 1 : Nat) : Int) = (k : Int) - 1 from by omega]; rfl, trivial⟩ ⟨⟨inferInstance, o5, by show k - 1 ≤ m; omega, hsm, hfin⟩, by show k - 1 < k; omega⟩
  · skip
    have hk0 : k = 0 := by omega
    subst hk0
    rw [List.drop_zero, List.drop_zero, val_dig] at hval
    have hq : x / y = val lo := by
      rw [← hval, Nat.mul_comm, Nat.mul_add_div (by omega), Nat.div_eq_of_lt hr, Nat.add_zero]
    have hm : x % y = r := by
      rw [← hval, Nat.mul_comm, Nat.mul_add_mod, Nat.mod_eq_of_lt hr]
    rw [hq, hm]
    refine J.exit rfl <| J.seq <| ?_
    refine J.pub ho fun W6 i6 s6 => ?_
    refine J.reg rfl <| O.mv rfl <| O.call rfl (ref01_trim_ok s6) fun W7 v7 i7 e7 h7 => O.mv rfl <| O.cv (r := (r : Int)) rfl (wW (by omega)) <| O.as rfl <| O.as rfl <| JO.nil <| J.ret2 rfl (.tmp rfl) (.tmp rfl) fun W' iE iP => ?_
    exact ⟨_, rfl, h7.to⟩

theorem bl_half {x : Nat} (h : x ≠ 0) : bl x = bl (x / 2) + 1 := by
  by_cases h2 : x / 2 = 0
  · have : x = 1 := by omega
    subst this
    decide
  · exact bl_shift (n := x) (k := 1) h2
/-- length -/
theorem ref01_length_ok {W : GW} {p : Option Addr} {m c x : Nat} (h : Sl RW W p m c (dig x)) (hx : (dig x).length ≤ 1099511627776) (h0 : x ≠ 0) :
    Ok Tryz.prog 109 [.slice p m c] W fun W' v => ∃ t, (dig x)[(dig x).length - 1]? = some t ∧ t ≠ 0 ∧ t < 4294967296 ∧ v = .int .i64 ((32 * ((dig x).length - 1) + bl t : Nat) : Int) := by
  have hn := h.hn
  have hm0 : m ≠ 0 := fun e => h0 (dig_len0.1 (by omega))
  obtain ⟨t, ht, ht0⟩ : ∃ t, (dig x)[(dig x).length - 1]? = some t ∧ t ≠ 0 := by
    rcases trim_dig x with h1 | h1
    · exact absurd (dig_eq_nil.1 h1) h0
    · exact h1
  have htb := words_dig x t (List.mem_of_getElem? ht)
  rw [← hn] at ht hx ⊢
  have hbt : bl t ≤ 32 := by
    obtain ⟨b1, b2, b3⟩ := bl_bounds ht0
    have : 2 ^ (bl t - 1) < 2 ^ 32 := Nat.lt_of_le_of_lt b1 htb
    have := (Nat.pow_lt_pow_iff_right (by decide : 1 < 2)).1 this
    omega
  refine Ok.enter Tryz.func109 rfl rfl rfl rfl fun W0 iEn => ?_
  refine J.seq <| J.reg rfl <| O.as rfl <| JO.nil <| J.seq <| J.seq <| J.reg rfl <| O.mv rfl <| O.len rfl <| O.eq rfl rfl <| JO.nil <| J.condD rfl (fun h7 => ?_) (fun h7 => ?_)
  · skip
    omega -- done
  · skip
    refine J.skip <| J.seq <| J.reg rfl <| O.as rfl <| JO.nil <| J.seq <| J.seq <| J.reg rfl <| O.mv rfl <| O.mv rfl <| O.len rfl <| O.sb rfl rfl (wI (by omega)) <| O.ixW (j := m - 1) rfl rfl (by omega) h.to ht fun a1 => O.as rfl <| JO.nil <| J.block <| ?_
    refine J.loop (α := Nat × Nat) (fun q => [(0, .slice p m c), (3, .int .i64 (q.2 : Int)), (4, .int .u32 (q.1 : Int))]) (fun q W' => Le W0 W' ∧ q.1 < 4294967296 ∧ bl q.1 + q.2 = bl t) (fun q => q.1) (t, 0) ⟨rfl, rfl, rfl, trivial⟩ ⟨inferInstance, htb, rfl⟩ ?_
    rintro ⟨k, i⟩ W3 ⟨_, hk, hb⟩
    dsimp only at *
    refine J.seq <| J.seq <| J.reg rfl <| O.mv rfl <| O.gtr rfl rfl <| JO.nil <| J.condD rfl (fun h15 => ?_) (fun h15 => ?_)
    · skip
      refine J.skip <| J.seq <| J.block <| J.reg rfl <| O.mv rfl <| O.add rfl rfl (wI (by omega)) <| O.as rfl <| JO.nil <| J.bend <| J.reg rfl <| O.mv rfl <| O.quo (r := ((k / 2 : Nat) : Int)) rfl rfl (by decide) (by rw [show Int.tdiv (k : Int) 2 = ((k / 2 : Nat) : Int) from rfl]; exact wW (by omega)) <| O.as rfl <| JO.nil <| ?_
      have := bl_half (x := k) (by omega)
      exact J.at' (k / 2, i + 1) ⟨rfl, rfl, rfl, trivial⟩ ⟨⟨inferInstance, by show k / 2 < _; omega, by show bl (k / 2) + (i + 1) = _; omega⟩, by show k / 2 < k; omega⟩
    · skip
      have hk0 : k = 0 := by omega
      subst hk0
      rw [show bl 0 = 0 from rfl] at hb
      refine J.exit rfl <| J.seq <| J.reg rfl <| O.mv rfl <| O.len rfl <| O.sb rfl rfl (wI (by omega)) <| O.mul rfl rfl (wI (by omega)) <| O.mv rfl <| O.add (r := ((32 * (m - 1) + bl t : Nat) : Int)) rfl rfl ((wI (by omega)).trans (by omega)) <| O.as rfl <| JO.nil <| J.ret1 rfl (.tmp rfl) fun W' iE iP => ?_
      exact ⟨t, ht, ht0, htb, rfl⟩
end Go.Proofs.YtcobdnnfmhfenaaGreat

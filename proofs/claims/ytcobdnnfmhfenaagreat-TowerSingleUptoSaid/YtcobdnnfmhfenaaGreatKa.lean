/- Normal form of integers; the reference's integers, first part. -/
import Derived.Test.YtcobdnnfmhfenaaGreatIi
import Derived.Test.YtcobdnnfmhfenaaGreatRl
set_option linter.unusedVariables false
set_option linter.unusedSimpArgs false
set_option maxRecDepth 10000
set_option maxHeartbeats 1000000
namespace Go.Proofs.YtcobdnnfmhfenaaGreat
open Go Go.Rx Go.Num

theorem ci_iff {s : Bool} {l : List Nat} (hw : Words l) : (∃ z, (s, l) = ci z) ↔ (l = [] ∧ s = false) ∨ (∃ x, l[l.length - 1]? = some x ∧ x ≠ 0) := by
  constructor
  · rintro ⟨z, h⟩
    simp only [ci, Prod.mk.injEq] at h
    obtain ⟨h1, h2⟩ := h
    rcases trim_dig z.natAbs with ht | ht
    · refine .inl ⟨h2.trans ht, ?_⟩
      have := dig_eq_nil.1 ht
      rw [h1]; simp; omega
    · rw [h2]; exact .inr ht
  · rintro (⟨h1, h2⟩ | ⟨x, hx, h0⟩)
    · exact ⟨0, by rw [ci_zero, h1, h2]⟩
    · have hd := dig_val hw (.inr ⟨x, hx, h0⟩)
      refine ⟨sg s (val l), ?_⟩
      rw [ci_sg, hd]
      intro hv
      rw [hv, dig_zero] at hd
      rw [← hd] at hx
      simp at hx
theorem len_iff {l : List Nat} (hw : Words l) : (dig (val l)).length = l.length ↔ l = [] ∨ (∃ x, l[l.length - 1]? = some x ∧ x ≠ 0) := by
  constructor
  · intro h
    by_cases h0 : l = []
    · exact .inl h0
    · refine .inr ?_
      have hl : 0 < l.length := List.length_pos_iff.2 h0
      obtain ⟨x, hx⟩ := xat (l := l) (k := l.length - 1) (by omega)
      refine ⟨x, hx, fun hx0 => ?_⟩
      subst hx0
      have h1 := val_take_succ hx
      rw [show l.length - 1 + 1 = l.length from by omega, List.take_length, Nat.mul_zero, Nat.add_zero] at h1
      have h2 := val_lt (hw.take (l.length - 1))
      rw [List.length_take, Nat.min_eq_left (by omega), ← h1] at h2
      have := dig_len_le h2
      omega
  · intro h
    rw [dig_val hw h]
theorem riw {W : GW} {v : Value} {i : Bool × List Nat} (h : V RI W v i) : Words i.2 := by
  obtain ⟨p, n, c, _, hs⟩ := unI h
  exact slw hs

/-- Valid -/
theorem integer_Valid_ok {W : GW} {v : Value} {i : Bool × List Nat} (h : V RI W v i) :
    Ok Tryz.prog 69 [v] W fun W' r => ∃ b, r = .bool b ∧ (b = true ↔ ∃ z, i = ci z) := by
  obtain ⟨p, m, c, rfl, hs⟩ := unI h
  obtain ⟨s, l⟩ := i
  replace hs : Sl RW W p m c l := hs
  have hn := hs.hn
  have hC := hs.hC
  have hc := hs.hc
  have hw := slw hs
  have hci := @ci_iff s l hw
  refine Ok.enter Tryz.func69 rfl rfl rfl rfl fun W0 iEn => ?_
  refine J.seq <| J.reg rfl <| O.box rfl fun W1 b1 i1 hb1 => O.as rfl <| JO.nil <| J.seq <| J.reg rfl <| O.fa rfl <| O.ldB rfl hb1.to rfl <| O.len rfl <| O.as rfl <| JO.nil <| J.seq <| J.reg rfl <| O.mv rfl <| O.eq rfl rfl <| O.mv rfl <| ?_
  by_cases hg9 : m = 0
  · skip
    refine O.set (t := 9) (.bool true) rfl (by simp only [Value.bool.injEq, decide_eq_true_eq, decide_eq_false_iff_not]; omega) <| O.gt rfl rfl <| O.fa rfl <| O.gt rfl rfl <| O.ldB rfl hb1.to rfl <| O.gt rfl rfl <| O.not rfl <| O.pickT rfl rfl <| O.mv rfl <| ?_
    by_cases hg14 : s = false
    · skip
      refine O.set (t := 14) (.bool true) rfl (by simp [hg14]) <| O.gs rfl rfl rfl <| O.gs rfl rfl rfl <| O.gs rfl rfl rfl <| O.gu rfl rfl <| O.gu rfl rfl <| O.gu rfl rfl <| O.gu rfl rfl <| O.gu rfl rfl <| O.gu rfl rfl <| O.gu rfl rfl <| O.gs rfl rfl rfl <| O.pickT rfl rfl <| O.as rfl <| JO.nil <| J.ret1 rfl (.tmp rfl) fun W' iE iP => ?_
      refine ⟨true, rfl, ?_⟩
      rw [hci]
      simp only [true_iff]
      exact .inl ⟨List.eq_nil_of_length_eq_zero (by omega), hg14⟩
    · skip
      refine O.set (t := 14) (.bool false) rfl (by simp at hg14; simp [hg14]) <| O.gt rfl rfl <| O.mv rfl <| O.gt rfl rfl <| O.gtr rfl rfl <| O.gt rfl rfl <| O.mv rfl <| ?_
      by_cases hg17 : 0 < m
      · skip
        omega -- done
      · skip
        refine O.set (t := 17) (.bool false) rfl (by simp only [Value.bool.injEq, decide_eq_true_eq, decide_eq_false_iff_not]; omega) <| O.gs rfl rfl rfl <| O.gs rfl rfl rfl <| O.gs rfl rfl rfl <| O.gs rfl rfl rfl <| O.gs rfl rfl rfl <| O.gs rfl rfl rfl <| O.gs rfl rfl rfl <| O.gt rfl rfl <| O.pickF rfl rfl <| O.pickF rfl rfl <| O.as rfl <| JO.nil <| J.ret1 rfl (.tmp rfl) fun W' iE iP => ?_
        refine ⟨false, ?_, ?_⟩
        · first | rfl | (simp; done) | (simp; omega)
        · rw [hci]
          have h0 : l = [] := List.eq_nil_of_length_eq_zero (by omega)
          subst h0
          simp [hg14]
  · skip
    refine O.set (t := 9) (.bool false) rfl (by simp only [Value.bool.injEq, decide_eq_true_eq, decide_eq_false_iff_not]; omega) <| O.gs rfl rfl rfl <| O.gs rfl rfl rfl <| O.gs rfl rfl rfl <| O.pickF rfl rfl <| O.mv rfl <| O.gt rfl rfl <| O.mv rfl <| O.gt rfl rfl <| O.gtr rfl rfl <| O.gt rfl rfl <| O.mv rfl <| ?_
    by_cases hg17 : 0 < m
    · skip
      refine O.set (t := 17) (.bool true) rfl (by simp only [Value.bool.injEq, decide_eq_true_eq, decide_eq_false_iff_not]; omega) <| O.gt rfl rfl <| O.fa rfl <| O.gt rfl rfl <| O.ldB rfl hb1.to rfl <| O.gt rfl rfl <| O.mv rfl <| O.gt rfl rfl <| O.sb rfl rfl (wI (by omega)) <| O.gt rfl rfl <| ?_
      obtain ⟨x, hx⟩ := xat (l := l) (k := m - 1) (by omega)
      refine O.iaW (j := m - 1) rfl rfl (by omega) hs.to hx fun ba oa hcell => O.gt rfl rfl <| O.ldC rfl hcell <| O.gt rfl rfl <| O.ne rfl rfl <| O.gt rfl rfl <| O.pickT rfl rfl <| O.pickF rfl rfl <| O.as rfl <| JO.nil <| J.ret1 rfl (.tmp rfl) fun W' iE iP => ?_
      refine ⟨_, rfl, ?_⟩
      rw [hci, decide_eq_true_eq]
      rw [hn] at hx
      have h0 : l ≠ [] := fun h0 => by rw [h0] at hn; exact hg9 hn
      simp only [h0, false_and, false_or, hx, Option.some.injEq, exists_eq_left']
      omega
    · skip
      refine O.set (t := 17) (.bool false) rfl (by simp only [Value.bool.injEq, decide_eq_true_eq, decide_eq_false_iff_not]; omega) <| O.gs rfl rfl rfl <| O.gs rfl rfl rfl <| O.gs rfl rfl rfl <| O.gs rfl rfl rfl <| O.gs rfl rfl rfl <| O.gs rfl rfl rfl <| O.gs rfl rfl rfl <| O.gt rfl rfl <| O.pickF rfl rfl <| O.pickF rfl rfl <| O.as rfl <| JO.nil <| J.ret1 rfl (.tmp rfl) fun W' iE iP => ?_
      exact absurd (Nat.pos_of_ne_zero hg9) hg17

/-! the reference -/
theorem ref01_trimP_ok {W : GW} {p : Option Addr} {m c : Nat} {l : List Nat} (h : Sl RW W p m c l) :
    Ok Tryz.prog 85 [.slice p m c] W fun W' v => ∃ k, v = .slice p k c ∧ Sl RW W' p k c (dig (val l)) := by
  have hn := h.hn
  have hc := h.hc
  have hC := h.hC
  refine Ok.enter Tryz.func85 rfl rfl rfl rfl fun W0 iEn => ?_
  refine J.seq <| J.reg rfl <| O.as rfl <| JO.nil <| J.seq <| J.block <| ?_
  refine J.loop (α := Nat) (fun k => [(0, .slice p k c)]) (fun k W => W = W0 ∧ k ≤ l.length ∧ val (l.take k) = val l) (fun k => k) m ⟨rfl, trivial⟩ ⟨rfl, by omega, by rw [hn, List.take_length]⟩ ?_
  rintro k W1 ⟨rfl, hk, hv⟩
  refine J.seq <| J.seq <| J.reg rfl <| O.mv rfl <| O.len rfl <| O.gtr rfl rfl <| O.mv rfl <| ?_
  by_cases hg6 : 0 < k
  · skip
    refine O.set (t := 6) (.bool true) rfl (by simp only [Value.bool.injEq, decide_eq_true_eq, decide_eq_false_iff_not]; omega) <| O.gt rfl rfl <| O.mv rfl <| O.gt rfl rfl <| O.mv rfl <| O.gt rfl rfl <| O.len rfl <| O.gt rfl rfl <| ?_
    obtain ⟨x, hx⟩ := xat (l := l) (k := k - 1) (by omega)
    have hx' : (l.take k)[k - 1]? = some x := by rw [List.getElem?_take, if_pos (by omega)]; exact hx
    refine O.sb rfl rfl (wI (by omega)) <| O.gt rfl rfl <| O.iaW (j := k - 1) rfl rfl (by omega) (Sl.take h.to k (by omega)) hx' fun b off hcell => O.gt rfl rfl <| O.ldC rfl hcell <| O.gt rfl rfl <| O.eq rfl rfl <| O.pickT rfl rfl <| JO.nil <| J.condD rfl (fun h14 => ?_) (fun h14 => ?_)
    · skip
      refine J.skip <| J.block <| J.reg rfl <| O.mv rfl <| O.mv rfl <| O.len rfl <| O.sb rfl rfl (wI (by omega)) <| O.slh (hi := k - 1) rfl rfl (by omega) (by omega) <| O.as rfl <| JO.nil <| J.bend <| ?_
      have hts := val_take_succ hx
      rw [show k - 1 + 1 = k from by omega, show x = 0 from by omega] at hts
      exact J.at' (k - 1) ⟨rfl, trivial⟩ ⟨⟨rfl, by omega, by omega⟩, by omega⟩
    · skip
      refine J.exit rfl <| J.seq <| J.reg rfl <| O.mv rfl <| O.as rfl <| JO.nil <| J.ret1 rfl (.tmp rfl) fun W' _ _ => ?_
      have hw := (slw h).take k
      have ht : Trim (l.take k) := by
        refine .inr ⟨x, ?_, by omega⟩
        rw [List.length_take, Nat.min_eq_left hk, List.getElem?_take, if_pos (by omega)]; exact hx
      rw [← hv, dig_val hw ht]
      exact ⟨k, rfl, Sl.take h.to k (by omega)⟩
  · skip
    refine O.set (t := 6) (.bool false) rfl (by simp only [Value.bool.injEq, decide_eq_true_eq, decide_eq_false_iff_not]; omega) <| O.gs rfl rfl rfl <| O.gs rfl rfl rfl <| O.gs rfl rfl rfl <| O.gs rfl rfl rfl <| O.gs rfl rfl rfl <| O.gs rfl rfl rfl <| O.gs rfl rfl rfl <| O.pickF rfl rfl <| JO.nil <| J.condF rfl <| J.exit rfl <| J.seq <| J.reg rfl <| O.mv rfl <| O.as rfl <| JO.nil <| J.ret1 rfl (.tmp rfl) fun W' _ _ => ?_
    have hz : val l = 0 := by rw [← hv, show k = 0 from by omega]; rfl
    rw [hz, dig_zero]
    exact ⟨k, rfl, by rw [show k = 0 from by omega]; rfl, by omega, hC, .inl rfl⟩
theorem ref01_trim_ok {W : GW} {p : Option Addr} {m c : Nat} {l : List Nat} (h : Sl RW W p m c l) :
    Ok Tryz.prog 85 [.slice p m c] W fun W' v => V (RSl RW) W' v (dig (val l)) :=
  (ref01_trimP_ok h).mono fun _ _ _ ⟨_, e, h⟩ => e ▸ h.v
theorem ref01_trimd_ok {W : GW} {p : Option Addr} {m c n : Nat} (h : Sl RW W p m c (dig n)) :
    Ok Tryz.prog 85 [.slice p m c] W fun W' v => V (RSl RW) W' v (dig n) :=
  (ref01_trim_ok h).mono fun _ _ _ h => by rwa [val_dig] at h

theorem ref01_signed_ok {W : GW} {p : Option Addr} {m c : Nat} {l : List Nat} (neg : Bool) (h : Sl RW W p m c l) :
    Ok Tryz.prog 88 [.bool neg, .slice p m c] W fun W' v => V RI W' v (ci (sg neg (val l))) := by
  have hC := h.hC
  refine Ok.enter Tryz.func88 rfl rfl rfl rfl fun W0 iEn => ?_
  refine J.seq <| J.reg rfl <| O.alloc fun W1 b1 i1 hl1 hc1 hb1 => JO.nil <| J.seq <| J.reg rfl <| O.mv rfl <| O.call rfl (ref01_trim_ok h.to) fun W2 v2 i2 e2 h2 => ?_
  obtain ⟨p2, n2, c2, rfl, s2⟩ := h2.sl
  have hn2 := s2.hn
  have hz := @dig_len0 (val l)
  refine O.as rfl <| JO.nil <| J.seq <| J.reg rfl <| O.mv rfl <| O.mv rfl <| ?_
  by_cases hg8 : neg = true
  · skip
    refine O.set (t := 8) (.bool true) rfl (by rw [hg8]) <| O.gt rfl rfl <| O.mv rfl <| O.gt rfl rfl <| O.len rfl <| O.gt rfl rfl <| O.gtr rfl rfl <| O.pickT rfl rfl <| O.mv rfl <| O.bld rfl rfl rfl rfl <| O.st rfl rfl hl1.to rfl (by simp [oneC, Value.cells]) fun W3 i3 hc3 => JO.nil <| J.ret1 rfl (.cell rfl hc3 rfl) fun W' iE iP => ?_
    by_cases h0 : val l = 0
    · have hn0 : n2 = 0 := by rw [hn2]; exact hz.2 h0
      have : decide ((n2 : Int) > 0) = false := by simp; omega
      rw [this, show sg neg (val l) = 0 from by rw [h0]; cases neg <;> rfl, ci_zero]
      rw [h0, dig_zero] at s2
      exact mkI s2.to
    · have hn0 : n2 ≠ 0 := by rw [hn2]; exact fun e => h0 (hz.1 e)
      have : decide ((n2 : Int) > 0) = true := by simp; omega
      rw [this, ci_sg h0, hg8]
      exact mkI s2.to
  · skip
    refine O.set (t := 8) (.bool false) rfl (by simp at hg8; rw [hg8]) <| O.gs rfl rfl rfl <| O.gs rfl rfl rfl <| O.gs rfl rfl rfl <| O.pickF rfl rfl <| O.mv rfl <| O.bld rfl rfl rfl rfl <| O.st rfl rfl hl1.to rfl (by simp [oneC, Value.cells]) fun W3 i3 hc3 => JO.nil <| J.ret1 rfl (.cell rfl hc3 rfl) fun W' iE iP => ?_
    by_cases h0 : val l = 0
    · rw [show sg neg (val l) = 0 from by rw [h0]; cases neg <;> rfl, ci_zero]
      rw [h0, dig_zero] at s2
      exact mkI s2.to
    · simp at hg8
      rw [ci_sg h0, hg8]
      exact mkI s2.to
theorem ref01_signedd_ok {W : GW} {p : Option Addr} {m c n : Nat} (neg : Bool) (h : Sl RW W p m c (dig n)) :
    Ok Tryz.prog 88 [.bool neg, .slice p m c] W fun W' v => V RI W' v (ci (sg neg n)) :=
  (ref01_signed_ok neg h).mono fun _ _ _ h => by rwa [val_dig] at h

theorem ref01_words_ok {W : GW} {n : Nat} (hn : n < 18446744073709551616) :
    Ok Tryz.prog 91 [.int .u64 (n : Int)] W fun W' v => V (RSl RW) W' v (dig n) := by
  refine Ok.enter Tryz.func91 rfl rfl rfl rfl fun W0 iEn => ?_
  refine J.seq <| J.reg rfl <| O.as rfl <| JO.nil <| J.seq <| J.reg rfl <| O.mv rfl <| O.cv (r := ((n % 4294967296 : Nat) : Int)) rfl ((wWm _).trans (by omega)) <| O.mv rfl <| O.shr rfl rfl (by decide) (shr32 n) <| O.cv (r := ((n / 4294967296 : Nat) : Int)) rfl (wW (by omega)) <| O.bs (r := RW) [n % 4294967296, n / 4294967296] rfl ⟨rwv _ (by omega), rwv _ (by omega), trivial⟩ rfl rfl rfl (by decide) (.inr rfl) (by decide) fun W2 p2 i2 e2 s2 => O.call rfl (ref01_trim_ok s2) fun W3 v3 i3 e3 h3 => O.as rfl <| JO.nil <| J.ret1 rfl (.tmp rfl) fun W' iE iP => ?_
  rw [← dig2 hn]
  exact h3.to

theorem ref01_FromInt_ok {W : GW} {z : Int} (hz : -9223372036854775808 ≤ z ∧ z < 9223372036854775808) :
    Ok Tryz.prog 66 [.int .i64 z] W fun W' r => V RI W' r (ci z) := by
  have hu := u64abs z hz
  refine Ok.enter Tryz.func66 rfl rfl rfl rfl fun W0 iEn => ?_
  refine J.seq <| J.reg rfl <| O.alloc fun W1 b1 i1 hl1 hc1 hb1 => JO.nil <| J.seq <| J.seq <| J.reg rfl <| O.mv rfl <| O.lt rfl rfl <| JO.nil <| J.condD rfl (fun h4 => ?_) (fun h4 => ?_)
  · skip
    rw [if_pos h4] at hu
    refine J.seq <| J.reg rfl <| O.mv rfl <| O.cv (r := IntKind.u64.wrap z) rfl rfl <| O.neg rfl hu <| O.call rfl (ref01_words_ok (by omega)) fun W5 v5 i5 e5 h5 => ?_
    obtain ⟨p6, m6, c6, rfl, hs6⟩ := h5.sl
    refine O.call rfl (ref01_signedd_ok true hs6.to) fun W6 v6 i6 e6 h6 => ?_
    obtain ⟨p4, m4, c4, rfl, hs4⟩ := unI h6
    refine O.st rfl rfl hl1.to rfl (by simp [oneC, Value.cells]) fun W4 i4 hc4 => JO.nil <| J.ret1 rfl (.cell rfl hc4 rfl) fun W' iE iP => ?_
    have := sg_abs z
    rw [decide_eq_true h4] at this
    rw [this] at hs4
    rw [this]
    exact mkI hs4.to
  · skip
    rw [if_neg h4] at hu
    refine J.skip <| J.seq <| J.reg rfl <| O.mv rfl <| O.cv (r := (z.natAbs : Int)) rfl hu <| O.call rfl (ref01_words_ok (by omega)) fun W5 v5 i5 e5 h5 => ?_
    obtain ⟨p6, m6, c6, rfl, hs6⟩ := h5.sl
    refine O.call rfl (ref01_signedd_ok false hs6.to) fun W6 v6 i6 e6 h6 => ?_
    obtain ⟨p4, m4, c4, rfl, hs4⟩ := unI h6
    refine O.st rfl rfl hl1.to rfl (by simp [oneC, Value.cells]) fun W4 i4 hc4 => JO.nil <| J.ret1 rfl (.cell rfl hc4 rfl) fun W' iE iP => ?_
    have := sg_abs z
    rw [decide_eq_false h4] at this
    rw [this] at hs4
    rw [this]
    exact mkI hs4.to

theorem ref01_Norm_ok {W : GW} {v : Value} {z : Int} (h : V RI W v (ci z)) :
    Ok Tryz.prog 86 [v] W fun W' r => V RI W' r (ci z) := by
  obtain ⟨p, m, c, rfl, hs⟩ := unI h
  refine Ok.enter Tryz.func86 rfl rfl rfl rfl fun W0 iEn => ?_
  refine J.seq <| J.reg rfl <| O.box rfl fun W1 b1 i1 hb1 => O.alloc fun W2 b2 i2 hl2 hc2 hb2 => JO.nil <| J.seq <| J.reg rfl <| O.fa rfl <| O.ldB rfl hb1.to rfl <| O.fa rfl <| O.ldB rfl hb1.to rfl <| O.call rfl (ref01_signedd_ok (decide (z < 0)) hs.to) fun W6 v6 i6 e6 h6 => ?_
  obtain ⟨p4, m4, c4, rfl, hs4⟩ := unI h6
  refine O.st rfl rfl hl2.to rfl (by simp [oneC, Value.cells]) fun W4 i4 hc4 => JO.nil <| J.ret1 rfl (.cell rfl hc4 rfl) fun W' iE iP => ?_
  rw [sg_abs] at hs4 ⊢
  exact mkI hs4.to

theorem ref01_Valid_ok {W : GW} {v : Value} {i : Bool × List Nat} (h : V RI W v i) :
    Ok Tryz.prog 59 [v] W fun W' r => ∃ b, r = .bool b ∧ (b = true ↔ ∃ z, i = ci z) := by
  obtain ⟨p, m, c, rfl, hs⟩ := unI h
  obtain ⟨s, l⟩ := i
  replace hs : Sl RW W p m c l := hs
  have hn := hs.hn
  have hw := slw hs
  have hci := @ci_iff s l hw
  have hli := len_iff hw
  refine Ok.enter Tryz.func59 rfl rfl rfl rfl fun W0 iEn => ?_
  refine J.seq <| J.reg rfl <| O.box rfl fun W1 b1 i1 hb1 => O.as rfl <| JO.nil <| J.seq <| ?_
  refine J.draw [.ex _, .ex _, .rel _, .ex _, .ex _, .ex _, .ex _, .ex _] rfl rfl ⟨fun W1 i1 e1 _ => O.fa rfl <| D.ex, fun W1 i1 e1 _ => O.ldB rfl hb1.to rfl <| D.ex, fun W1 i1 e1 _ => O.call rfl (ref01_trim_ok hs.to) fun W5 v5 i5 e5 h5 => D.rel e5 h5 V.me, fun W1 i1 e1 _ => fun v5 h5 => (by obtain ⟨p5, m5, c5, rfl, hs5⟩ := h5.sl; obtain rfl := hs5.hn; exact O.len rfl <| D.ex), fun W1 i1 e1 _ => O.fa rfl <| D.ex, fun W1 i1 e1 _ => O.ldB rfl hb1.to rfl <| D.ex, fun W1 i1 e1 _ => O.len rfl <| D.ex, fun W1 i1 e1 _ => O.eq rfl rfl <| D.ex, trivial⟩ ?_
  intro W1 i1 e1 v5 h5
  refine O.mv rfl <| ?_
  by_cases hg11 : (dig (val l)).length = l.length
  · skip
    refine O.set (t := 11) (.bool true) rfl (by simp only [Value.bool.injEq, decide_eq_true_eq]; omega) <| O.gt rfl rfl <| O.fa rfl <| O.gt rfl rfl <| O.ldB rfl hb1.to rfl <| O.gt rfl rfl <| O.not rfl <| O.gt rfl rfl <| O.mv rfl <| ?_
    by_cases hg15 : s = false
    · skip
      refine O.set (t := 15) (.bool true) rfl (by simp [hg15]) <| O.gs rfl rfl rfl <| O.gs rfl rfl rfl <| O.gs rfl rfl rfl <| O.gs rfl rfl rfl <| O.gt rfl rfl <| O.pickT rfl rfl <| O.pickT rfl rfl <| O.as rfl <| JO.nil <| J.ret1 rfl (.tmp rfl) fun W' iE iP => ?_
      refine ⟨true, rfl, ?_⟩
      rw [hci]
      simp only [true_iff]
      rcases hli.1 hg11 with h | h
      · exact .inl ⟨h, hg15⟩
      · exact .inr h
    · skip
      refine O.set (t := 15) (.bool false) rfl (by simp at hg15; simp [hg15]) <| O.gt rfl rfl <| O.fa rfl <| O.gt rfl rfl <| O.ldB rfl hb1.to rfl <| O.gt rfl rfl <| O.len rfl <| O.gt rfl rfl <| O.gtr rfl rfl <| O.gt rfl rfl <| O.pickF rfl rfl <| O.pickT rfl rfl <| O.as rfl <| JO.nil <| J.ret1 rfl (.tmp rfl) fun W' iE iP => ?_
      refine ⟨_, rfl, ?_⟩
      rw [hci, decide_eq_true_eq]
      have h0 : l = [] ↔ ¬ ((m : Int) > 0) := by rw [← List.length_eq_zero_iff]; omega
      have h1 := hli.1 hg11
      constructor
      · intro h2
        rcases h1 with h | h
        · exact absurd h2 (h0.1 h)
        · exact .inr h
      · rintro (h2 | ⟨x, h2, h3⟩)
        · exact absurd h2.2 hg15
        · have := get_lt h2; omega
  · skip
    refine O.set (t := 11) (.bool false) rfl (by simp only [Value.bool.injEq, decide_eq_false_iff_not]; omega) <| O.gs rfl rfl rfl <| O.gs rfl rfl rfl <| O.gs rfl rfl rfl <| O.gs rfl rfl rfl <| O.gu rfl rfl <| O.gu rfl rfl <| O.gu rfl rfl <| O.gu rfl rfl <| O.gs rfl rfl rfl <| O.pickF rfl rfl <| O.as rfl <| JO.nil <| J.ret1 rfl (.tmp rfl) fun W' iE iP => ?_
    refine ⟨_, rfl, ?_⟩
    rw [hci]
    constructor
    · intro h2; cases h2
    · rintro (h2 | h2)
      · exact absurd (hli.2 (.inl h2.1)) hg11
      · exact absurd (hli.2 (.inr h2)) hg11

theorem ref01_Sign_ok {W : GW} {v : Value} {z : Int} (h : V RI W v (ci z)) :
    Ok Tryz.prog 60 [v] W fun W' r => r = .int .i64 (cmpI z 0) := by
  obtain ⟨p, m, c, rfl, hs⟩ := unI h
  refine Ok.enter Tryz.func60 rfl rfl rfl rfl fun W0 iEn => ?_
  refine J.seq <| J.reg rfl <| O.boxL rfl fun W1 b1 i1 hl1 hc1 hb1 => O.as rfl <| JO.nil <| J.seq <| J.reg rfl <| O.ldVw rfl hc1 rfl <| O.call rfl (ref01_Norm_ok (mkI hs.to)) fun W2 v2 i2 e2 h2 => ?_
  obtain ⟨p2, m2, c2, rfl, hs2⟩ := unI h2
  have hn2 : m2 = (dig z.natAbs).length := hs2.hn
  have hz := @dig_len0 z.natAbs
  refine O.stP rfl rfl hl1.to rfl (by simp [oneC, Value.cells]) fun W3 i3 hb3 => JO.nil <| J.seq <| J.seq <| J.reg rfl <| O.fa rfl <| O.ldB rfl hb3.to rfl <| O.len rfl <| O.eq rfl rfl <| JO.nil <| J.condD rfl (fun h8 => ?_) (fun h8 => ?_)
  · skip
    refine J.seq <| J.reg rfl <| O.as rfl <| JO.nil <| J.ret1 rfl (.tmp rfl) fun W' iE iP => ?_
    have : z = 0 := by omega
    subst this
    rfl
  · skip
    refine J.skip <| J.seq <| J.seq <| J.reg rfl <| O.fa rfl <| O.ldB rfl hb3.to rfl <| JO.nil <| J.condD rfl (fun h10 => ?_) (fun h10 => ?_)
    · skip
      refine J.seq <| J.reg rfl <| O.as rfl <| JO.nil <| J.ret1 rfl (.tmp rfl) fun W' iE iP => ?_
      have : z < 0 := h10
      unfold cmpI
      rw [if_pos this]
    · skip
      refine J.skip <| J.seq <| J.reg rfl <| O.as rfl <| JO.nil <| J.ret1 rfl (.tmp rfl) fun W' iE iP => ?_
      have h1 : ¬ z < 0 := h10
      have h2 : z ≠ 0 := by omega
      unfold cmpI
      rw [if_neg h1, if_pos (by omega)]
end Go.Proofs.YtcobdnnfmhfenaaGreat

/- Normal form of integers; the reference's integers, first part. -/
import Derived.Test.YtcaikjefkkejbaaGreatIg
import Derived.Test.YtcaikjefkkejbaaGreatRl
set_option linter.unusedVariables false
set_option linter.unusedSimpArgs false
set_option maxRecDepth 10000
set_option maxHeartbeats 1000000
namespace Go.Proofs.YtcaikjefkkejbaaGreat
open Go Go.Rx Go.Num
section
theorem ci_iff {s : Bool} {l : List Nat} (hw : Words l) : (∃ z, (s, l) = ci z) ↔ (l = [] ∧ s = false) ∨ (∃ x, l[l.length - 1]? = some x ∧ x ≠ 0) := by
  constructor
  · rintro ⟨z, h⟩
    simp only [ci, Prod.mk.injEq] at h
    obtain ⟨h1, h2⟩ := h
    rcases trim_dig z.natAbs with ht | ht
    · refine .inl ⟨h2.trans ht, ?_⟩
      have := dig_eq_nil.1 ht
      rw [h1]; simp; omega
    · rw [h2]; exact .inr ht
  · rintro (⟨h1, h2⟩ | ⟨x, hx, h0⟩)
    · exact ⟨0, by rw [ci_zero, h1, h2]⟩
    · have hd := dig_val hw (.inr ⟨x, hx, h0⟩)
      refine ⟨sg s (val l), ?_⟩
      rw [ci_sg, hd]
      intro hv
      rw [hv, dig_zero] at hd
      rw [← hd] at hx
      simp at hx
theorem len_iff {l : List Nat} (hw : Words l) : (dig (val l)).length = l.length ↔ l = [] ∨ (∃ x, l[l.length - 1]? = some x ∧ x ≠ 0) := by
  constructor
  · intro h
    by_cases h0 : l = []
    · exact .inl h0
    · refine .inr ?_
      have hl : 0 < l.length := List.length_pos_iff.2 h0
      obtain ⟨x, hx⟩ := xat (l := l) (k := l.length - 1) (by omega)
      refine ⟨x, hx, fun hx0 => ?_⟩
      subst hx0
      have h1 := val_take_succ hx
      rw [show l.length - 1 + 1 = l.length from by omega, List.take_length, Nat.mul_zero, Nat.add_zero] at h1
      have h2 := val_lt (hw.take (l.length - 1))
      rw [List.length_take, Nat.min_eq_left (by omega), ← h1] at h2
      have := dig_len_le h2
      omega
  · intro h
    rw [dig_val hw h]
/-- Valid -/
theorem integer_Valid_ok {W : GW} {v : Value} {i : Bool × List Nat} (h : V RI W v i) :
    Ok Tryz.prog 133 [v] W fun W' r => ∃ b, r = .bool b ∧ (b = true ↔ ∃ z, i = ci z) := by
  obtain ⟨p, m, c, rfl, hs⟩ := unI h
  obtain ⟨s, l⟩ := i
  replace hs : Sl RW W p m c l := hs
  have hn := hs.hn
  have hC := hs.hC
  have hc := hs.hc
  have hw := slw hs
  have hci := @ci_iff s l hw
  refine Ok.enter Tryz.func133 rfl rfl rfl rfl fun W0 iEn => ?_
  refine J.seq <| J.reg rfl <| O.box rfl fun W1 b1 i1 hb1 => O.as rfl <| JO.nil <| J.seq <| J.reg rfl <| O.fa rfl <| O.ldB rfl hb1.to rfl <| O.len rfl <| O.as rfl <| JO.nil <| J.seq <| J.reg rfl <| O.mv rfl <| O.eq rfl rfl <| O.mv rfl <| ?_
  by_cases hg9 : m = 0
  · skip
    refine O.set (t := 9) (.bool true) rfl (by simp only [Value.bool.injEq, decide_eq_true_eq, decide_eq_false_iff_not]; omega) <| O.gt rfl rfl <| O.fa rfl <| O.gt rfl rfl <| O.ldB rfl hb1.to rfl <| O.gt rfl rfl <| O.not rfl <| O.pickT rfl rfl <| O.mv rfl <| ?_
    by_cases hg14 : s = false
    · skip
      refine O.set (t := 14) (.bool true) rfl (by simp [hg14]) <| O.gs rfl rfl rfl <| O.gs rfl rfl rfl <| O.gs rfl rfl rfl <| O.gu rfl rfl <| O.gu rfl rfl <| O.gu rfl rfl <| O.gu rfl rfl <| O.gu rfl rfl <| O.gu rfl rfl <| O.gu rfl rfl <| O.gs rfl rfl rfl <| O.pickT rfl rfl <| O.as rfl <| JO.nil <| J.ret1 rfl (.tmp rfl) fun W' iE iP => ?_
      refine ⟨true, rfl, ?_⟩
      rw [hci]
      simp only [true_iff]
      exact .inl ⟨List.eq_nil_of_length_eq_zero (by omega), hg14⟩
    · skip
      refine O.set (t := 14) (.bool false) rfl (by simp at hg14; simp [hg14]) <| O.gt rfl rfl <| O.mv rfl <| O.gt rfl rfl <| O.gtr rfl rfl <| O.gt rfl rfl <| O.mv rfl <| ?_
      by_cases hg17 : 0 < m
      · skip
        omega -- done
      · skip
        refine O.set (t := 17) (.bool false) rfl (by simp only [Value.bool.injEq, decide_eq_true_eq, decide_eq_false_iff_not]; omega) <| O.gs rfl rfl rfl <| O.gs rfl rfl rfl <| O.gs rfl rfl rfl <| O.gs rfl rfl rfl <| O.gs rfl rfl rfl <| O.gs rfl rfl rfl <| O.gs rfl rfl rfl <| O.gt rfl rfl <| O.pickF rfl rfl <| O.pickF rfl rfl <| O.as rfl <| JO.nil <| J.ret1 rfl (.tmp rfl) fun W' iE iP => ?_
        refine ⟨false, ?_, ?_⟩
        · first | rfl | (simp; done) | (simp; omega)
        · rw [hci]
          have h0 : l = [] := List.eq_nil_of_length_eq_zero (by omega)
          subst h0
          simp [hg14]
  · skip
    refine O.set (t := 9) (.bool false) rfl (by simp only [Value.bool.injEq, decide_eq_true_eq, decide_eq_false_iff_not]; omega) <| O.gs rfl rfl rfl <| O.gs rfl rfl rfl <| O.gs rfl rfl rfl <| O.pickF rfl rfl <| O.mv rfl <| O.gt rfl rfl <| O.mv rfl <| O.gt rfl rfl <| O.gtr rfl rfl <| O.gt rfl rfl <| O.mv rfl <| ?_
    by_cases hg17 : 0 < m
    · skip
      refine O.set (t := 17) (.bool true) rfl (by simp only [Value.bool.injEq, decide_eq_true_eq, decide_eq_false_iff_not]; omega) <| O.gt rfl rfl <| O.fa rfl <| O.gt rfl rfl <| O.ldB rfl hb1.to rfl <| O.gt rfl rfl <| O.mv rfl <| O.gt rfl rfl <| O.sb rfl rfl (wI (by omega)) <| O.gt rfl rfl <| ?_
      obtain ⟨x, hx⟩ := xat (l := l) (k := m - 1) (by omega)
      refine O.iaW (j := m - 1) rfl rfl (by omega) hs.to hx fun ba oa hcell => O.gt rfl rfl <| O.ldC rfl hcell <| O.gt rfl rfl <| O.ne rfl rfl <| O.gt rfl rfl <| O.pickT rfl rfl <| O.pickF rfl rfl <| O.as rfl <| JO.nil <| J.ret1 rfl (.tmp rfl) fun W' iE iP => ?_
      refine ⟨_, rfl, ?_⟩
      rw [hci, decide_eq_true_eq]
      rw [hn] at hx
      have h0 : l ≠ [] := fun h0 => by rw [h0] at hn; exact hg9 hn
      simp only [h0, false_and, false_or, hx, Option.some.injEq, exists_eq_left']
      omega
    · skip
      refine O.set (t := 17) (.bool false) rfl (by simp only [Value.bool.injEq, decide_eq_true_eq, decide_eq_false_iff_not]; omega) <| O.gs rfl rfl rfl <| O.gs rfl rfl rfl <| O.gs rfl rfl rfl <| O.gs rfl rfl rfl <| O.gs rfl rfl rfl <| O.gs rfl rfl rfl <| O.gs rfl rfl rfl <| O.gt rfl rfl <| O.pickF rfl rfl <| O.pickF rfl rfl <| O.as rfl <| JO.nil <| J.ret1 rfl (.tmp rfl) fun W' iE iP => ?_
      exact absurd (Nat.pos_of_ne_zero hg9) hg17
/-! the reference -/
theorem ref01_trimP_ok {W : GW} {p : Option Addr} {m c : Nat} {l : List Nat} (h : Sl RW W p m c l) :
    Ok Tryz.prog 106 [.slice p m c] W fun W' v => ∃ k, v = .slice p k c ∧ Sl RW W' p k c (dig (val l)) := by
  have hn := h.hn
  have hc := h.hc
  have hC := h.hC
  refine Ok.enter Tryz.func106 rfl rfl rfl rfl fun W0 iEn => ?_
  refine J.seq <| J.reg rfl <| O.as rfl <| JO.nil <| J.seq <| J.block <| ?_
  refine J.loop (α := Nat) (fun k => [(0, .slice p k c)]) (fun k W => W = W0 ∧ k ≤ l.length ∧ val (l.take k) = val l) (fun k => k) m ⟨rfl, trivial⟩ ⟨rfl, by omega, by rw [hn, List.take_length]⟩ ?_
  rintro k W1 ⟨rfl, hk, hv⟩
  refine J.seq <| J.seq <| J.reg rfl <| O.mv rfl <| O.len rfl <| O.gtr rfl rfl <| O.mv rfl <| ?_
  by_cases hg6 : 0 < k
  · skip
    refine O.set (t := 6) (.bool true) rfl (by simp only [Value.bool.injEq, decide_eq_true_eq, decide_eq_false_iff_not]; omega) <| O.gt rfl rfl <| O.mv rfl <| O.gt rfl rfl <| O.mv rfl <| O.gt rfl rfl <| O.len rfl <| O.gt rfl rfl <| ?_
    obtain ⟨x, hx⟩ := xat (l := l) (k := k - 1) (by omega)
    have hx' : (l.take k)[k - 1]? = some x := by rw [List.getElem?_take, if_pos (by omega)]; exact hx
    refine O.sb rfl rfl (wI (by omega)) <| O.gt rfl rfl <| O.iaW (j := k - 1) rfl rfl (by omega) (Sl.take h.to k (by omega)) hx' fun b off hcell => O.gt rfl rfl <| O.ldC rfl hcell <| O.gt rfl rfl <| O.eq rfl rfl <| O.pickT rfl rfl <| JO.nil <| J.condD rfl (fun h14 => ?_) (fun h14 => ?_)
    · skip
      refine J.skip <| J.block <| J.reg rfl <| O.mv rfl <| O.mv rfl <| O.len rfl <| O.sb rfl rfl (wI (by omega)) <| O.slh (hi := k - 1) rfl rfl (by omega) (by omega) <| O.as rfl <| JO.nil <| J.bend <| ?_
      have hts := val_take_succ hx
      rw [show k - 1 + 1 = k from by omega, show x = 0 from by omega] at hts
      exact J.at' (k - 1) ⟨rfl, trivial⟩ ⟨⟨rfl, by omega, by omega⟩, by omega⟩
    · skip
      refine J.exit rfl <| J.seq <| J.reg rfl <| O.mv rfl <| O.as rfl <| JO.nil <| J.ret1 rfl (.tmp rfl) fun W' _ _ => ?_
      have hw := (slw h).take k
      have ht : Trim (l.take k) := by
        refine .inr ⟨x, ?_, by omega⟩
        rw [List.length_take, Nat.min_eq_left hk, List.getElem?_take, if_pos (by omega)]; exact hx
      rw [← hv, dig_val hw ht]
      exact ⟨k, rfl, Sl.take h.to k (by omega)⟩
  · skip
    refine O.set (t := 6) (.bool false) rfl (by simp only [Value.bool.injEq, decide_eq_true_eq, decide_eq_false_iff_not]; omega) <| O.gs rfl rfl rfl <| O.gs rfl rfl rfl <| O.gs rfl rfl rfl <| O.gs rfl rfl rfl <| O.gs rfl rfl rfl <| O.gs rfl rfl rfl <| O.gs rfl rfl rfl <| O.pickF rfl rfl <| JO.nil <| J.condF rfl <| J.exit rfl <| J.seq <| J.reg rfl <| O.mv rfl <| O.as rfl <| JO.nil <| J.ret1 rfl (.tmp rfl) fun W' _ _ => ?_
    have hz : val l = 0 := by rw [← hv, show k = 0 from by omega]; rfl
    rw [hz, dig_zero]
    exact ⟨k, rfl, by rw [show k = 0 from by omega]; rfl, by omega, hC, .inl rfl⟩
theorem ref01_trim_ok {W : GW} {p : Option Addr} {m c : Nat} {l : List Nat} (h : Sl RW W p m c l) :
    Ok Tryz.prog 106 [.slice p m c] W fun W' v => V (RSl RW) W' v (dig (val l)) :=
  (ref01_trimP_ok h).mono fun _ _ _ ⟨_, e, h⟩ => e ▸ h.v
theorem ref01_trimd_ok {W : GW} {p : Option Addr} {m c n : Nat} (h : Sl RW W p m c (dig n)) :
    Ok Tryz.prog 106 [.slice p m c] W fun W' v => V (RSl RW) W' v (dig n) :=
  (ref01_trim_ok h).mono fun _ _ _ h => by rwa [val_dig] at h
theorem ref01_signed_ok {W : GW} {p : Option Addr} {m c : Nat} {l : List Nat} (neg : Bool) (h : Sl RW W p m c l) :
    Ok Tryz.prog 109 [.bool neg, .slice p m c] W fun W' v => V RI W' v (ci (sg neg (val l))) := by
  have hC := h.hC
  refine Ok.enter Tryz.func109 rfl rfl rfl rfl fun W0 iEn => ?_
  refine J.seq <| J.reg rfl <| O.alloc fun W1 b1 i1 hl1 hc1 hb1 => JO.nil <| J.seq <| J.reg rfl <| O.mv rfl <| O.call rfl (ref01_trim_ok h.to) fun W2 v2 i2 e2 h2 => ?_
  obtain ⟨p2, n2, c2, rfl, s2⟩ := h2.sl
  have hn2 := s2.hn
  have hz := @dig_len0 (val l)
  refine O.as rfl <| JO.nil <| J.seq <| J.reg rfl <| O.mv rfl <| O.mv rfl <| ?_
  by_cases hg8 : neg = true
  · skip
    refine O.set (t := 8) (.bool true) rfl (by rw [hg8]) <| O.gt rfl rfl <| O.mv rfl <| O.gt rfl rfl <| O.len rfl <| O.gt rfl rfl <| O.gtr rfl rfl <| O.pickT rfl rfl <| O.mv rfl <| O.bld rfl rfl rfl rfl <| O.st rfl rfl hl1.to rfl (by simp [oneC, Value.cells]) fun W3 i3 hc3 => JO.nil <| J.ret1 rfl (.cell rfl hc3 rfl) fun W' iE iP => ?_
    by_cases h0 : val l = 0
    · have hn0 : n2 = 0 := by rw [hn2]; exact hz.2 h0
      have : decide ((n2 : Int) > 0) = false := by simp; omega
      rw [this, show sg neg (val l) = 0 from by rw [h0]; cases neg <;> rfl, ci_zero]
      rw [h0, dig_zero] at s2
      exact mkI s2.to
    · have hn0 : n2 ≠ 0 := by rw [hn2]; exact fun e => h0 (hz.1 e)
      have : decide ((n2 : Int) > 0) = true := by simp; omega
      rw [this, ci_sg h0, hg8]
      exact mkI s2.to
  · skip
    refine O.set (t := 8) (.bool false) rfl (by simp at hg8; rw [hg8]) <| O.gs rfl rfl rfl <| O.gs rfl rfl rfl <| O.gs rfl rfl rfl <| O.pickF rfl rfl <| O.mv rfl <| O.bld rfl rfl rfl rfl <| O.st rfl rfl hl1.to rfl (by simp [oneC, Value.cells]) fun W3 i3 hc3 => JO.nil <| J.ret1 rfl (.cell rfl hc3 rfl) fun W' iE iP => ?_
    by_cases h0 : val l = 0
    · rw [show sg neg (val l) = 0 from by rw [h0]; cases neg <;> rfl, ci_zero]
      rw [h0, dig_zero] at s2
      exact mkI s2.to
    · simp at hg8
      rw [ci_sg h0, hg8]
      exact mkI s2.to
theorem ref01_signedd_ok {W : GW} {p : Option Addr} {m c n : Nat} (neg : Bool) (h : Sl RW W p m c (dig n)) :
    Ok Tryz.prog 109 [.bool neg, .slice p m c] W fun W' v => V RI W' v (ci (sg neg n)) :=
  (ref01_signed_ok neg h).mono fun _ _ _ h => by rwa [val_dig] at h
theorem ref01_words_ok {W : GW} {n : Nat} (hn : n < 18446744073709551616) :
    Ok Tryz.prog 113 [.int .u64 (n : Int)] W fun W' v => V (RSl RW) W' v (dig n) := by
  refine Ok.enter Tryz.func113 rfl rfl rfl rfl fun W0 iEn => ?_
  refine J.seq <| J.reg rfl <| O.as rfl <| JO.nil <| J.seq <| J.reg rfl <| O.mv rfl <| O.cv (r := ((n % 4294967296 : Nat) : Int)) rfl ((wWm _).trans (by omega)) <| O.mv rfl <| O.shr rfl rfl (by decide) (shr32 n) <| O.cv (r := ((n / 4294967296 : Nat) : Int)) rfl (wW (by omega)) <| O.bs (r := RW) [n % 4294967296, n / 4294967296] rfl ⟨rwv _ (by omega), rwv _ (by omega), trivial⟩ rfl rfl rfl (by decide) (.inr rfl) (by decide) fun W2 p2 i2 e2 s2 => O.call rfl (ref01_trim_ok s2) fun W3 v3 i3 e3 h3 => O.as rfl <| JO.nil <| J.ret1 rfl (.tmp rfl) fun W' iE iP => ?_
  rw [← dig2 hn]
  exact h3.to
theorem ref01_FromInt_ok {W : GW} {z : Int} (hz : -9223372036854775808 ≤ z ∧ z < 9223372036854775808) :
    Ok Tryz.prog 78 [.int .i64 z] W fun W' r => V RI W' r (ci z) := by
  have hu := u64abs z hz
  refine Ok.enter Tryz.func78 rfl rfl rfl rfl fun W0 iEn => ?_
  refine J.seq <| J.reg rfl <| O.alloc fun W1 b1 i1 hl1 hc1 hb1 => JO.nil <| J.seq <| J.seq <| J.reg rfl <| O.mv rfl <| O.lt rfl rfl <| JO.nil <| J.condD rfl (fun h4 => ?_) (fun h4 => ?_)
  · skip
    rw [if_pos h4] at hu
    refine J.seq <| J.reg rfl <| O.mv rfl <| O.cv (r := IntKind.u64.wrap z) rfl rfl <| O.neg rfl hu <| O.call rfl (ref01_words_ok (by omega)) fun W5 v5 i5 e5 h5 => ?_
    obtain ⟨p6, m6, c6, rfl, hs6⟩ := h5.sl
    refine O.call rfl (ref01_signedd_ok true hs6.to) fun W6 v6 i6 e6 h6 => ?_
    obtain ⟨p4, m4, c4, rfl, hs4⟩ := unI h6
    refine O.st rfl rfl hl1.to rfl (by simp [oneC, Value.cells]) fun W4 i4 hc4 => JO.nil <| J.ret1 rfl (.cell rfl hc4 rfl) fun W' iE iP => ?_
    have := sg_abs z
    rw [decide_eq_true h4] at this
    rw [this] at hs4
    rw [this]
    exact mkI hs4.to
  · skip
    rw [if_neg h4] at hu
    refine J.skip <| J.seq <| J.reg rfl <| O.mv rfl <| O.cv (r := (z.natAbs : Int)) rfl hu <| O.call rfl (ref01_words_ok (by omega)) fun W5 v5 i5 e5 h5 => ?_
    obtain ⟨p6, m6, c6, rfl, hs6⟩ := h5.sl
    refine O.call rfl (ref01_signedd_ok false hs6.to) fun W6 v6 i6 e6 h6 => ?_
    obtain ⟨p4, m4, c4, rfl, hs4⟩ := unI h6
    refine O.st rfl rfl hl1.to rfl (by simp [oneC, Value.cells]) fun W4 i4 hc4 => JO.nil <| J.ret1 rfl (.cell rfl hc4 rfl) fun W' iE iP => ?_
    have := sg_abs z
    rw [decide_eq_false h4] at this
    rw [this] at hs4
    rw [this]
    exact mkI hs4.to
theorem ref01_Norm_ok {W : GW} {v : Value} {z : Int} (h : V RI W v (ci z)) :
    Ok Tryz.prog 107 [v] W fun W' r => V RI W' r (ci z) := by
  obtain ⟨p, m, c, rfl, hs⟩ := unI h
  refine Ok.enter Tryz.func107 rfl rfl rfl rfl fun W0 iEn => ?_
  refine J.seq <| J.reg rfl <| O.box rfl fun W1 b1 i1 hb1 => O.alloc fun W2 b2 i2 hl2 hc2 hb2 => JO.nil <| J.seq <| J.reg rfl <| O.fa rfl <| O.ldB rfl hb1.to rfl <| O.fa rfl <| O.ldB rfl hb1.to rfl <| O.call rfl (ref01_signedd_ok (decide (z < 0)) hs.to) fun W6 v6 i6 e6 h6 => ?_
  obtain ⟨p4, m4, c4, rfl, hs4⟩ := unI h6
  refine O.st rfl rfl hl2.to rfl (by simp [oneC, Value.cells]) fun W4 i4 hc4 => JO.nil <| J.ret1 rfl (.cell rfl hc4 rfl) fun W' iE iP => ?_
  rw [sg_abs] at hs4 ⊢
  exact mkI hs4.to
theorem ref01_Valid_ok {W : GW} {v : Value} {i : Bool × List Nat} (h : V RI W v i) :
    Ok Tryz.prog 68 [v] W fun W' r => ∃ b, r = .bool b ∧ (b = true ↔ ∃ z, i = ci z) := by
  obtain ⟨p, m, c, rfl, hs⟩ := unI h
  obtain ⟨s, l⟩ := i
  replace hs : Sl RW W p m c l := hs
  have hn := hs.hn
  have hw := slw hs
  have hci := @ci_iff s l hw
  have hli := len_iff hw
  refine Ok.enter Tryz.func68 rfl rfl rfl rfl fun W0 iEn => ?_
  refine J.seq <| J.reg rfl <| O.box rfl fun W1 b1 i1 hb1 => O.as rfl <| JO.nil <| J.seq <| ?_
  refine J.draw [.ex _, .ex _, .rel _, .ex _, .ex _, .ex _, .ex _, .ex _] rfl rfl ⟨fun W1 i1 e1 _ => O.fa rfl <| D.ex, fun W1 i1 e1 _ => O.ldB rfl hb1.to rfl <| D.ex, fun W1 i1 e1 _ => O.call rfl (ref01_trim_ok hs.to) fun W5 v5 i5 e5 h5 => D.rel e5 h5 V.me, fun W1 i1 e1 _ => fun v5 h5 => (by obtain ⟨p5, m5, c5, rfl, hs5⟩ := h5.sl; obtain rfl := hs5.hn; exact O.len rfl <| D.ex), fun W1 i1 e1 _ => O.fa rfl <| D.ex, fun W1 i1 e1 _ => O.ldB rfl hb1.to rfl <| D.ex, fun W1 i1 e1 _ => O.len rfl <| D.ex, fun W1 i1 e1 _ => O.eq rfl rfl <| D.ex, trivial⟩ ?_
  intro W1 i1 e1 v5 h5
  refine O.mv rfl <| ?_
  by_cases hg11 : (dig (val l)).length = l.length
  · skip
    refine O.set (t := 11) (.bool true) rfl (by simp only [Value.bool.injEq, decide_eq_true_eq]; omega) <| O.gt rfl rfl <| O.fa rfl <| O.gt rfl rfl <| O.ldB rfl hb1.to rfl <| O.gt rfl rfl <| O.not rfl <| O.gt rfl rfl <| O.mv rfl <| ?_
    by_cases hg15 : s = false
    · skip
      refine O.set (t := 15) (.bool true) rfl (by simp [hg15]) <| O.gs rfl rfl rfl <| O.gs rfl rfl rfl <| O.gs rfl rfl rfl <| O.gs rfl rfl rfl <| O.gt rfl rfl <| O.pickT rfl rfl <| O.pickT rfl rfl <| O.as rfl <| JO.nil <| J.ret1 rfl (.tmp rfl) fun W' iE iP => ?_
      refine ⟨true, rfl, ?_⟩
      rw [hci]
      simp only [true_iff]
      rcases hli.1 hg11 with h | h
      · exact .inl ⟨h, hg15⟩
      · exact .inr h
    · skip
      refine O.set (t := 15) (.bool false) rfl (by simp at hg15; simp [hg15]) <| O.gt rfl rfl <| O.fa rfl <| O.gt rfl rfl <| O.ldB rfl hb1.to rfl <| O.gt rfl rfl <| O.len rfl <| O.gt rfl rfl <| O.gtr rfl rfl <| O.gt rfl rfl <| O.pickF rfl rfl <| O.pickT rfl rfl <| O.as rfl <| JO.nil <| J.ret1 rfl (.tmp rfl) fun W' iE iP => ?_
      refine ⟨_, rfl, ?_⟩
      rw [hci, decide_eq_true_eq]
      have h0 : l = [] ↔ ¬ ((m : Int) > 0) := by rw [← List.length_eq_zero_iff]; omega
      have h1 := hli.1 hg11
      constructor
      · intro h2
        rcases h1 with h | h
        · exact absurd h2 (h0.1 h)
        · exact .inr h
      · rintro (h2 | ⟨x, h2, h3⟩)
        · exact absurd h2.2 hg15
        · have := get_lt h2; omega
  · skip
    refine O.set (t := 11) (.bool false) rfl (by simp only [Value.bool.injEq, decide_eq_false_iff_not]; omega) <| O.gs rfl rfl rfl <| O.gs rfl rfl rfl <| O.gs rfl rfl rfl <| O.gs rfl rfl rfl <| O.gu rfl rfl <| O.gu rfl rfl <| O.gu rfl rfl <| O.gu rfl rfl <| O.gs rfl rfl rfl <| O.pickF rfl rfl <| O.as rfl <| JO.nil <| J.ret1 rfl (.tmp rfl) fun W' iE iP => ?_
    refine ⟨_, rfl, ?_⟩
    rw [hci]
    constructor
    · intro h2; cases h2
    · rintro (h2 | h2)
      · exact absurd (hli.2 (.inl h2.1)) hg11
      · exact absurd (hli.2 (.inr h2)) hg11
theorem ref01_Sign_ok {W : GW} {v : Value} {z : Int} (h : V RI W v (ci z)) :
    Ok Tryz.prog 69 [v] W fun W' r => r = .int .i64 (cmpI z 0) := by
  obtain ⟨p, m, c, rfl, hs⟩ := unI h
  refine Ok.enter Tryz.func69 rfl rfl rfl rfl fun W0 iEn => ?_
  refine J.seq <| J.reg rfl <| O.boxL rfl fun W1 b1 i1 hl1 hc1 hb1 => O.as rfl <| JO.nil <| J.seq <| J.reg rfl <| O.ldVw rfl hc1 rfl <| O.call rfl (ref01_Norm_ok (mkI hs.to)) fun W2 v2 i2 e2 h2 => ?_
  obtain ⟨p2, m2, c2, rfl, hs2⟩ := unI h2
  have hn2 : m2 = (dig z.natAbs).length := hs2.hn
  have hz := @dig_len0 z.natAbs
  refine O.stP rfl rfl hl1.to rfl (by simp [oneC, Value.cells]) fun W3 i3 hb3 => JO.nil <| J.seq <| J.seq <| J.reg rfl <| O.fa rfl <| O.ldB rfl hb3.to rfl <| O.len rfl <| O.eq rfl rfl <| JO.nil <| J.condD rfl (fun h8 => ?_) (fun h8 => ?_)
  · skip
    refine J.seq <| J.reg rfl <| O.as rfl <| JO.nil <| J.ret1 rfl (.tmp rfl) fun W' iE iP => ?_
    have : z = 0 := by omega
    subst this
    rfl
  · skip
    refine J.skip <| J.seq <| J.seq <| J.reg rfl <| O.fa rfl <| O.ldB rfl hb3.to rfl <| JO.nil <| J.condD rfl (fun h10 => ?_) (fun h10 => ?_)
    · skip
      refine J.seq <| J.reg rfl <| O.as rfl <| JO.nil <| J.ret1 rfl (.tmp rfl) fun W' iE iP => ?_
      have : z < 0 := h10
      unfold cmpI
      rw [if_pos this]
    · skip
      refine J.skip <| J.seq <| J.reg rfl <| O.as rfl <| JO.nil <| J.ret1 rfl (.tmp rfl) fun W' iE iP => ?_
      have h1 : ¬ z < 0 := h10
      have h2 : z ≠ 0 := by omega
      unfold cmpI
      rw [if_neg h1, if_pos (by omega)]
end
section
/-- compare. -/
theorem ref01_compare_ok {W : GW} {p q : Option Addr} {m c m' c' x y : Nat} (h : Sl RW W p m c (dig x)) (h' : Sl RW W q m' c' (dig y)) :
    Ok Tryz.prog 135 [.slice p m c, .slice q m' c'] W fun W' v => v = .int .i64 (cmpI x y) := by
  have hn := h.hn
  have hn' := h'.hn
  have hb := h.hC
  have hb1 := h.hc
  refine Ok.enter Tryz.func135 rfl rfl rfl rfl fun W0 iEn => ?_
  refine J.seq <| J.reg rfl <| O.as rfl <| JO.nil <| J.seq <| J.seq <| J.reg rfl <| O.mv rfl <| O.len rfl <| O.mv rfl <| O.len rfl <| O.ne rfl rfl <| JO.nil <| J.condD rfl (fun h10 => ?_) (fun h10 => ?_)
  · skip
    refine J.seq <| J.seq <| J.reg rfl <| O.mv rfl <| O.len rfl <| O.mv rfl <| O.len rfl <| O.lt rfl rfl <| JO.nil <| J.condD rfl (fun h15 => ?_) (fun h15 => ?_)
    · skip
      refine J.seq <| J.reg rfl <| O.as rfl <| JO.nil <| J.ret1 rfl (.tmp rfl) fun W' iE iP => ?_
      have := lt_of_len (m := x) (n := y) (by omega)
      rw [cmpI, if_pos (by omega)]
    · skip
      refine J.skip <| J.seq <| J.reg rfl <| O.as rfl <| JO.nil <| J.ret1 rfl (.tmp rfl) fun W' iE iP => ?_
      have := lt_of_len (m := y) (n := x) (by omega)
      rw [cmpI, if_neg (by omega), if_pos (by omega)]
  · skip
    refine J.skip <| J.seq <| J.seq <| J.reg rfl <| O.mv rfl <| O.len rfl <| O.sb rfl rfl (wI (by omega)) <| O.as rfl <| JO.nil <| J.block <| ?_
    refine J.loop (α := Nat) (fun k => [(0, .slice p m c), (1, .slice q m' c'), (5, .int .i64 ((k : Int) - 1))]) (fun k W' => Le W0 W' ∧ k ≤ m ∧ (dig x).drop k = (dig y).drop k) (fun k => k) m ⟨rfl, rfl, rfl, trivial⟩ ⟨inferInstance, Nat.le_refl _, by rw [List.drop_eq_nil_of_le (by omega), List.drop_eq_nil_of_le (by omega)]⟩ ?_
    rintro k W3 ⟨_, hk, hd⟩
    refine J.seq <| J.seq <| J.reg rfl <| O.mv rfl <| O.ge rfl rfl <| JO.nil <| J.condD rfl (fun h20 => ?_) (fun h20 => ?_)
    · skip
      obtain ⟨u, hu⟩ := xat (l := dig x) (k := k - 1) (by omega)
      obtain ⟨v, hv⟩ := xat (l := dig y) (k := k - 1) (by omega)
      have hd' : (dig x).drop (k - 1 + 1) = (dig y).drop (k - 1 + 1) := by rw [show k - 1 + 1 = k from by omega]; exact hd
      obtain ⟨b1, o1, rfl, hj1, hw1⟩ := h.word hu
      obtain ⟨b2, o2, rfl, hj2, hw2⟩ := h'.word hv
      refine J.skip <| J.seq <| J.block <| J.seq <| J.seq <| ?_
      refine J.draw [.ex _, .ex _, .ex _, .ex _, .ex _, .ex _, .ex _, .ex _, .ex _] rfl rfl ⟨fun W1 i1 e1 _ => O.mv rfl <| D.ex, fun W1 i1 e1 _ => O.mv rfl <| D.ex, fun W1 i1 e1 _ => O.ia (j := k - 1) rfl rfl (by omega) hj1 <| D.ex, fun W1 i1 e1 _ => O.ldC rfl (hw1 _ Lf.s) <| D.ex, fun W1 i1 e1 _ => O.mv rfl <| D.ex, fun W1 i1 e1 _ => O.mv rfl <| D.ex, fun W1 i1 e1 _ => O.ia (j := k - 1) rfl rfl (by omega) hj2 <| D.ex, fun W1 i1 e1 _ => O.ldC rfl (hw2 _ Lf.s) <| D.ex, fun W1 i1 e1 _ => O.lt rfl rfl <| D.ex, trivial⟩ ?_
      intro W1 i1 e1
      refine JO.nil <| J.condD rfl (fun h31 => ?_) (fun h31 => ?_)
      · skip
        refine J.seq <| J.reg rfl <| O.as rfl <| JO.nil <| J.ret1 rfl (.tmp rfl) fun W' iE iP => ?_
        have := lt_top (words_dig x) (by omega) (by omega) hu hv hd' (by omega)
        rw [val_dig, val_dig] at this
        rw [cmpI, if_pos (by omega)]
      · skip
        refine J.skip <| J.seq <| ?_
        refine J.draw [.ex _, .ex _, .ex _, .ex _, .ex _, .ex _, .ex _, .ex _, .ex _] rfl rfl ⟨fun W1 i1 e1 _ => O.mv rfl <| D.ex, fun W1 i1 e1 _ => O.mv rfl <| D.ex, fun W1 i1 e1 _ => O.ia (j := k - 1) rfl rfl (by omega) hj1 <| D.ex, fun W1 i1 e1 _ => O.ldC rfl (hw1 _ Lf.s) <| D.ex, fun W1 i1 e1 _ => O.mv rfl <| D.ex, fun W1 i1 e1 _ => O.mv rfl <| D.ex, fun W1 i1 e1 _ => O.ia (j := k - 1) rfl rfl (by omega) hj2 <| D.ex, fun W1 i1 e1 _ => O.ldC rfl (hw2 _ Lf.s) <| D.ex, fun W1 i1 e1 _ => O.gtr rfl rfl <| D.ex, trivial⟩ ?_
        intro W1 i1 e1
        refine JO.nil <| J.condD rfl (fun h40 => ?_) (fun h40 => ?_)
        · skip
          refine J.seq <| J.reg rfl <| O.as rfl <| JO.nil <| J.ret1 rfl (.tmp rfl) fun W' iE iP => ?_
          have := lt_top (words_dig y) (by omega) (by omega) hv hu hd'.symm (by omega)
          rw [val_dig, val_dig] at this
          rw [cmpI, if_neg (by omega), if_pos (by omega)]
        · skip
          refine J.skip <| J.bend <| J.reg rfl <| O.mv rfl <| O.sb rfl rfl (wI (by omega)) <| O.as rfl <| JO.nil <| ?_
          have huv : u = v := by omega
          have hd2 : (dig x).drop (k - 1) = (dig y).drop (k - 1) := by
            rw [List.drop_eq_getElem_cons (l := dig x) (i := k - 1) (by omega), List.drop_eq_getElem_cons (l := dig y) (i := k - 1) (by omega), show k - 1 + 1 = k from by omega, hd]
            rw [List.getElem?_eq_getElem (by omega)] at hu hv
            injection hu with hu
            injection hv with hv
            rw [hu, hv, huv]
          exact J.at' (k - 1) ⟨rfl, rfl, by rw [show ((k - 1 : Nat) : Int) = (k : Int) - 1 from by omega]; rfl, trivial⟩ ⟨⟨inferInstance, by omega, hd2⟩, by omega⟩
    · skip
      refine J.exit rfl <| J.seq <| J.reg rfl <| O.as rfl <| JO.nil <| J.ret1 rfl (.tmp rfl) fun W' iE iP => ?_
      have hk0 : k = 0 := by omega
      rw [hk0, List.drop_zero, List.drop_zero] at hd
      have hxy : x = y := by rw [← val_dig x, hd, val_dig]
      rw [hxy, cmpI, if_neg (by omega), if_neg (by omega)]
/-- short -/
theorem ref01_short_ok {W : GW} {p : Option Addr} {m c : Nat} {l : List Nat} (h : Sl RW W p m c l) (hl : l.length ≤ 2) :
    Ok Tryz.prog 136 [.slice p m c] W fun W' v => v = .int .u64 ((val l : Nat) : Int) := by
  have hn := h.hn
  have hw := slw h
  refine Ok.enter Tryz.func136 rfl rfl rfl rfl fun W0 iEn => ?_
  refine J.seq <| J.reg rfl <| O.as rfl <| JO.nil <| J.seq <| J.reg rfl <| O.as rfl <| JO.nil <| J.seq <| J.seq <| J.reg rfl <| O.mv rfl <| O.len rfl <| O.sb rfl rfl (wI (by omega)) <| O.as rfl <| JO.nil <| J.block <| ?_
  refine J.loop (α := Nat) (fun k => [(0, .slice p m c), (3, .int .u64 ((val (l.drop k) : Nat) : Int)), (4, .int .i64 ((k : Int) - 1))]) (fun k W' => Le W0 W' ∧ k ≤ m) (fun k => k) m ⟨rfl, by rw [List.drop_eq_nil_of_le (by omega)]; rfl, rfl, trivial⟩ ⟨inferInstance, Nat.le_refl _⟩ ?_
  rintro k W3 ⟨_, hk⟩
  refine J.seq <| J.seq <| J.reg rfl <| O.mv rfl <| O.ge rfl rfl <| JO.nil <| J.condD rfl (fun h9 => ?_) (fun h9 => ?_)
  · skip
    obtain ⟨u, hu⟩ := xat (l := l) (k := k - 1) (by omega)
    have hub := hw u (List.mem_of_getElem? hu)
    have hv : val (l.drop k) < 4294967296 := by
      have h1 := val_lt (hw.drop k)
      have h2 : 4294967296 ^ (l.drop k).length ≤ 4294967296 ^ 1 := Nat.pow_le_pow_right (by decide) (by rw [List.length_drop]; omega)
      omega
    have hvd := val_drop hu
    rw [show k - 1 + 1 = k from by omega] at hvd
    obtain ⟨s, hs⟩ : ∃ s, s = val (l.drop k) := ⟨_, rfl⟩
    rw [← hs] at hv hvd ⊢
    refine J.skip <| J.seq <| J.block <| J.reg rfl <| O.mv rfl <| O.shl (r := ((s * 2 ^ 32 : Nat) : Int)) rfl rfl (by decide) (shl_eq (u := s) (n := 32) (by omega) (by omega)) <| O.mv rfl <| O.mv rfl <| O.ixW (j := k - 1) rfl rfl (by omega) h.to hu fun a1 => O.cv rfl (wU (by omega)) <| O.or (p := s * 2 ^ 32) (q := u) (r := ((val (l.drop (k - 1)) : Nat) : Int)) rfl rfl rfl rfl (by show _ < 18446744073709551616; omega) (by show _ < 18446744073709551616; omega) (by rw [or_add u s 32 (by omega), hvd]; exact (wU (by omega)).trans (by omega)) <| O.as rfl <| JO.nil <| J.bend <| J.reg rfl <| O.mv rfl <| O.sb rfl rfl (wI (by omega)) <| O.as rfl <| JO.nil <| ?_
    exact J.at' (k - 1) ⟨rfl, rfl, by rw [show ((k - 1 : Nat) : Int) = (k : Int) - 1 from by omega]; rfl, trivial⟩ ⟨⟨inferInstance, by omega⟩, by omega⟩
  · skip
    refine J.exit rfl <| J.seq <| J.reg rfl <| O.mv rfl <| O.as rfl <| JO.nil <| J.ret1 rfl (.tmp rfl) fun W' iE iP => ?_
    have hk0 : k = 0 := by omega
    rw [hk0, List.drop_zero]
/-- by -/
theorem ref01_by_ok {W : GW} {p : Option Addr} {m c x y : Nat} (h : Sl RW W p m c (dig x)) (hx : (dig x).length ≤ 1099511627776) (hy : y < 4294967296) (hy0 : y ≠ 0) :
    Ok Tryz.prog 137 [.slice p m c, .int .u32 (y : Int)] W fun W' v => ∃ v1, v = .tuple #[v1, .int .u32 ((x % y : Nat) : Int)] ∧ V (RSl RW) W' v1 (dig (x / y)) := by
  have hn := h.hn
  refine Ok.enter Tryz.func137 rfl rfl rfl rfl fun W0 iEn => ?_
  refine J.seq <| J.reg rfl <| O.as rfl <| O.as rfl <| JO.nil <| J.seq <| J.reg rfl <| O.mv rfl <| O.len rfl <| O.mk (r := RW) (m := m) (c := m) 0 rfl rfl rfl rfl (by omega) (by omega) (by omega) rfl rfl (by decide) (fun _ => ⟨rfl, by decide⟩) fun W2 b2 i2 e2 hb2 ho0 => O.as rfl <| JO.nil <| J.seq <| J.reg rfl <| O.as rfl <| JO.nil <| J.seq <| J.seq <| J.reg rfl <| O.mv rfl <| O.len rfl <| O.sb rfl rfl (wI (by omega)) <| O.as rfl <| JO.nil <| J.block <| ?_
  refine J.loop (α := Nat × List Nat × Nat) (fun q => [(0, .slice p m c), (1, .int .u32 (y : Int)), (6, .slice (some ⟨b2, 0, none⟩) m m), (7, .int .u64 (q.2.2 : Int)), (8, .int .i64 ((q.1 : Int) - 1))]) (fun q W' => Le W0 W' ∧ Ows RW W' (some ⟨b2, 0, none⟩) m m q.2.1 ∧ q.1 ≤ m ∧ q.2.2 < y ∧ val (q.2.1.drop q.1) * y + q.2.2 = val ((dig x).drop q.1)) (fun q => q.1) (m, List.replicate m 0, 0) ⟨rfl, rfl, rfl, rfl, rfl, trivial⟩ ⟨inferInstance, ho0, Nat.le_refl _, by show 0 < y; omega, by dsimp only; rw [List.drop_eq_nil_of_le (by simp), List.drop_eq_nil_of_le (by omega)]; simp [val]⟩ ?_
  rintro ⟨k, lo, r⟩ W3 ⟨_, ho, hk, hr, hval⟩
  dsimp only at *
  have hln := ho.hn
  refine J.seq <| J.seq <| J.reg rfl <| O.mv rfl <| O.ge rfl rfl <| JO.nil <| J.condD rfl (fun h16 => ?_) (fun h16 => ?_)
  · skip
    obtain ⟨u, hu⟩ := xat (l := dig x) (k := k - 1) (by omega)
    have hub := words_dig x u (List.mem_of_getElem? hu)
    refine J.skip <| J.seq <| J.block <| J.seq <| J.reg rfl <| O.mv rfl <| O.shl (r := ((r * 2 ^ 32 : Nat) : Int)) rfl rfl (by decide) (shl_eq (u := r) (n := 32) (by omega) (by omega)) <| O.mv rfl <| O.mv rfl <| O.ixW (j := k - 1) rfl rfl (by omega) h.to hu fun a1 => O.cv rfl (wU (by omega)) <| O.or (p := r * 2 ^ 32) (q := u) (r := ((r * 2 ^ 32 + u : Nat) : Int)) rfl rfl rfl rfl (by show _ < 18446744073709551616; omega) (by show _ < 18446744073709551616; omega) (by rw [or_add u r 32 (by omega)]; exact wU (by omega)) <| O.as rfl <| JO.nil <| J.seq <| ?_
    obtain ⟨s, hs⟩ : ∃ s, s = r * 2 ^ 32 + u := ⟨_, rfl⟩
    rw [← hs]
    have hsy : s / y < 4294967296 := by
      rw [Nat.div_lt_iff_lt_mul (by omega)]
      have := Nat.mul_le_mul_right 4294967296 (show r + 1 ≤ y by omega)
      omega
    have hsm : s % y < y := Nat.mod_lt _ (by omega)
    refine J.reg rfl <| O.mv rfl <| O.mv rfl <| O.mv rfl <| O.mv rfl <| O.cv rfl (wU (by omega)) <| O.quo (r := ((s / y : Nat) : Int)) rfl rfl (by omega) (tquo s y (by omega)) <| O.cv (r := ((s / y : Nat) : Int)) rfl (wW ⟨Int.natCast_nonneg _, Int.ofNat_lt.2 hsy⟩) <| O.iaB (r := RW) (j := k - 1) rfl rfl (by omega) ho (by omega) rfl <| O.sto (r := RW) (j := k - 1) (u := s / y) rfl rfl ho (by omega) (rwv _ hsy) rfl (.inr rfl) fun W5 i5 o5 => JO.nil <| J.reg rfl <| O.mv rfl <| O.mv rfl <| O.cv rfl (wU (by omega)) <| O.rem (r := ((s % y : Nat) : Int)) rfl rfl (by omega) (trem s y) <| O.as rfl <| JO.nil <| J.bend <| J.reg rfl <| O.mv rfl <| O.sb rfl rfl (wI (by omega)) <| O.as rfl <| JO.nil <| ?_
    have hfin : val ((lo.set (k - 1) (s / y)).drop (k - 1)) * y + s % y = val ((dig x).drop (k - 1)) := by
      rw [val_drop hu, show k - 1 + 1 = k from by omega, ← hval, drop_set (by omega), val, show k - 1 + 1 = k from by omega]
      have e := Nat.div_add_mod s y
      rw [Nat.mul_comm] at e
      rw [Nat.add_mul, Nat.mul_add, Nat.mul_assoc]
      omega
    exact J.at' (k - 1, lo.set (k - 1) (s / y), s % y) ⟨rfl, rfl, rfl, rfl, by rw [show ((k - 1 : Nat) : Int) = (k : Int) - 1 from by omega]; rfl, trivial⟩ ⟨⟨inferInstance, o5, by show k - 1 ≤ m; omega, hsm, hfin⟩, by show k - 1 < k; omega⟩
  · skip
    have hk0 : k = 0 := by omega
    subst hk0
    rw [List.drop_zero, List.drop_zero, val_dig] at hval
    have hq : x / y = val lo := by
      rw [← hval, Nat.mul_comm, Nat.mul_add_div (by omega), Nat.div_eq_of_lt hr, Nat.add_zero]
    have hm : x % y = r := by
      rw [← hval, Nat.mul_comm, Nat.mul_add_mod, Nat.mod_eq_of_lt hr]
    rw [hq, hm]
    refine J.exit rfl <| J.seq <| ?_
    refine J.pub ho fun W6 i6 s6 => ?_
    refine J.reg rfl <| O.mv rfl <| O.call rfl (ref01_trim_ok s6) fun W7 v7 i7 e7 h7 => O.mv rfl <| O.cv (r := (r : Int)) rfl (wW (by omega)) <| O.as rfl <| O.as rfl <| JO.nil <| J.ret2 rfl (.tmp rfl) (.tmp rfl) fun W' iE iP => ?_
    exact ⟨_, rfl, h7.to⟩
theorem bl_half {x : Nat} (h : x ≠ 0) : bl x = bl (x / 2) + 1 := by
  by_cases h2 : x / 2 = 0
  · have : x = 1 := by omega
    subst this
    decide
  · exact bl_shift (n := x) (k := 1) h2
/-- length -/
theorem ref01_length_ok {W : GW} {p : Option Addr} {m c x : Nat} (h : Sl RW W p m c (dig x)) (hx : (dig x).length ≤ 1099511627776) (h0 : x ≠ 0) :
    Ok Tryz.prog 138 [.slice p m c] W fun W' v => ∃ t, (dig x)[(dig x).length - 1]? = some t ∧ t ≠ 0 ∧ t < 4294967296 ∧ v = .int .i64 ((32 * ((dig x).length - 1) + bl t : Nat) : Int) := by
  have hn := h.hn
  have hm0 : m ≠ 0 := fun e => h0 (dig_len0.1 (by omega))
  obtain ⟨t, ht, ht0⟩ : ∃ t, (dig x)[(dig x).length - 1]? = some t ∧ t ≠ 0 := by
    rcases trim_dig x with h1 | h1
    · exact absurd (dig_eq_nil.1 h1) h0
    · exact h1
  have htb := words_dig x t (List.mem_of_getElem? ht)
  rw [← hn] at ht hx ⊢
  have hbt : bl t ≤ 32 := by
    obtain ⟨b1, b2, b3⟩ := bl_bounds ht0
    have : 2 ^ (bl t - 1) < 2 ^ 32 := Nat.lt_of_le_of_lt b1 htb
    have := (Nat.pow_lt_pow_iff_right (by decide : 1 < 2)).1 this
    omega
  refine Ok.enter Tryz.func138 rfl rfl rfl rfl fun W0 iEn => ?_
  refine J.seq <| J.reg rfl <| O.as rfl <| JO.nil <| J.seq <| J.seq <| J.reg rfl <| O.mv rfl <| O.len rfl <| O.eq rfl rfl <| JO.nil <| J.condD rfl (fun h7 => ?_) (fun h7 => ?_)
  · skip
    omega -- done
  · skip
    refine J.skip <| J.seq <| J.reg rfl <| O.as rfl <| JO.nil <| J.seq <| J.seq <| J.reg rfl <| O.mv rfl <| O.mv rfl <| O.len rfl <| O.sb rfl rfl (wI (by omega)) <| O.ixW (j := m - 1) rfl rfl (by omega) h.to ht fun a1 => O.as rfl <| JO.nil <| J.block <| ?_
    refine J.loop (α := Nat × Nat) (fun q => [(0, .slice p m c), (3, .int .i64 (q.2 : Int)), (4, .int .u32 (q.1 : Int))]) (fun q W' => Le W0 W' ∧ q.1 < 4294967296 ∧ bl q.1 + q.2 = bl t) (fun q => q.1) (t, 0) ⟨rfl, rfl, rfl, trivial⟩ ⟨inferInstance, htb, rfl⟩ ?_
    rintro ⟨k, i⟩ W3 ⟨_, hk, hb⟩
    dsimp only at *
    refine J.seq <| J.seq <| J.reg rfl <| O.mv rfl <| O.gtr rfl rfl <| JO.nil <| J.condD rfl (fun h15 => ?_) (fun h15 => ?_)
    · skip
      refine J.skip <| J.seq <| J.block <| J.reg rfl <| O.mv rfl <| O.add rfl rfl (wI (by omega)) <| O.as rfl <| JO.nil <| J.bend <| J.reg rfl <| O.mv rfl <| O.quo (r := ((k / 2 : Nat) : Int)) rfl rfl (by decide) (by rw [show Int.tdiv (k : Int) 2 = ((k / 2 : Nat) : Int) from rfl]; exact wW (by omega)) <| O.as rfl <| JO.nil <| ?_
      have := bl_half (x := k) (by omega)
      exact J.at' (k / 2, i + 1) ⟨rfl, rfl, rfl, trivial⟩ ⟨⟨inferInstance, by show k / 2 < _; omega, by show bl (k / 2) + (i + 1) = _; omega⟩, by show k / 2 < k; omega⟩
    · skip
      have hk0 : k = 0 := by omega
      subst hk0
      rw [show bl 0 = 0 from rfl] at hb
      refine J.exit rfl <| J.seq <| J.reg rfl <| O.mv rfl <| O.len rfl <| O.sb rfl rfl (wI (by omega)) <| O.mul rfl rfl (wI (by omega)) <| O.mv rfl <| O.add (r := ((32 * (m - 1) + bl t : Nat) : Int)) rfl rfl ((wI (by omega)).trans (by omega)) <| O.as rfl <| JO.nil <| J.ret1 rfl (.tmp rfl) fun W' iE iP => ?_
      exact ⟨t, ht, ht0, htb, rfl⟩
end
section
/-- shifted: the words of a times 2^n, one more. -/
theorem ref01_shifted_own {W : GW} {p : Option Addr} {m c n x : Nat} (h : Sl RW W p m c (dig x)) (hx : (dig x).length ≤ 1099511627776) (hn32 : n < 32) :
    Ok Tryz.prog 139 [.slice p m c, .int .i64 (n : Int)] W fun W' v => ∃ l, l.length = m + 1 ∧ val l = x * 2 ^ n ∧ OwnR RW W W' v l := by
  have hn := h.hn
  have hp := Nat.two_pow_pos n
  have hp32 : 2 ^ n ≤ 2147483648 := by have : 2 ^ n ≤ 2 ^ 31 := Nat.pow_le_pow_right (by decide) (by omega); omega
  refine Ok.enter Tryz.func139 rfl rfl rfl rfl fun W0 iEn => ?_
  refine J.seq <| J.reg rfl <| O.as rfl <| JO.nil <| J.seq <| J.reg rfl <| O.mv rfl <| O.len rfl <| O.add rfl rfl (wI (by omega)) <| O.mk (r := RW) (m := m + 1) (c := m + 1) 0 rfl rfl rfl rfl (by omega) (by omega) (by omega) rfl rfl (by decide) (fun _ => ⟨rfl, by decide⟩) fun W2 b2 i2 e2 hb2 ho0 => O.as rfl <| JO.nil <| J.seq <| J.seq <| J.reg rfl <| O.as rfl <| JO.nil <| J.block <| ?_
  refine J.loop (α := Nat × List Nat) (fun q => [(0, .slice p m c), (1, .int .i64 (n : Int)), (5, .slice (some ⟨b2, 0, none⟩) (m + 1) (m + 1)), (6, .int .i64 (q.1 : Int))]) (fun q W' => Le W0 W' ∧ Ows RW W' (some ⟨b2, 0, none⟩) (m + 1) (m + 1) q.2 ∧ q.1 ≤ m ∧ val (q.2.take (q.1 + 1)) = val ((dig x).take q.1) * 2 ^ n ∧ (∃ w, q.2[q.1]? = some w ∧ w < 2 ^ n)) (fun q => m - q.1) (0, List.replicate (m + 1) 0) ⟨rfl, rfl, rfl, rfl, trivial⟩ ⟨inferInstance, ho0, Nat.zero_le _, val_repl0 _ _, 0, by simp, hp⟩ ?_
  rintro ⟨i, lo⟩ W3 ⟨_, ho, hi, hval, w, hw, hwn⟩
  dsimp only at *
  have hln := ho.hn
  refine J.seq <| J.seq <| J.reg rfl <| O.mv rfl <| O.mv rfl <| O.len rfl <| O.lt rfl rfl <| JO.nil <| J.condD rfl (fun h15 => ?_) (fun h15 => ?_)
  · skip
    obtain ⟨u, hu⟩ := xat (l := dig x) (k := i) (by omega)
    have hub := words_dig x u (List.mem_of_getElem? hu)
    have hs1 := shl_lt hub hn32
    have hs2 := mul_mod_pow u n (by omega)
    refine J.skip <| J.seq <| J.block <| J.seq <| J.reg rfl <| O.mv rfl <| O.mv rfl <| O.ixW (j := i) rfl rfl rfl h.to hu fun a1 => O.cv rfl (wU (by omega)) <| O.mv rfl <| O.shl rfl rfl (by omega) (shl_eq (u := u) (n := n) (by omega) (by omega)) <| O.as rfl <| JO.nil <| J.seq <| ?_
    obtain ⟨s, hs⟩ : ∃ s, s = u * 2 ^ n := ⟨_, rfl⟩
    rw [← hs]
    rw [← hs] at hs1 hs2
    refine J.reg rfl <| O.mv rfl <| O.mv rfl <| O.mv rfl <| O.mv rfl <| O.ixo (r := RW) (j := i) rfl rfl rfl ho hw rfl rfl (fun _ => rfl) fun a3 v3 h3 => ?_
    obtain rfl := h3.rw.1
    have hor : w ||| s % 4294967296 = s % 4294967296 + w := by rw [Nat.or_comm, hs2]; exact or_add _ _ _ hwn
    have hlt : s % 4294967296 + w < 4294967296 := by
      rw [hs2]
      have h1 : u % 2 ^ (32 - n) + 1 ≤ 2 ^ (32 - n) := Nat.mod_lt _ (Nat.two_pow_pos _)
      have h2 := Nat.mul_le_mul_right (2 ^ n) h1
      rw [← Nat.pow_add, show 32 - n + n = 32 from by omega, Nat.succ_mul] at h2
      omega
    refine O.mv rfl <| O.cv (r := ((s % 4294967296 : Nat) : Int)) rfl ((wWm _).trans (by omega)) <| O.or (p := w) (q := s % 4294967296) (r := ((s % 4294967296 + w : Nat) : Int)) rfl rfl rfl rfl (by show _ < 4294967296; omega) (by show _ < 4294967296; omega) ((wW (by rw [hor]; omega)).trans (by rw [hor])) <| O.iaB (r := RW) (j := i) rfl rfl rfl ho (by omega) rfl <| O.sto (r := RW) (j := i) (u := s % 4294967296 + w) rfl rfl ho (by omega) (rwv _ hlt) rfl (.inr rfl) fun W4 i4 o4 => JO.nil <| J.reg rfl <| O.mv rfl <| O.mv rfl <| O.add rfl rfl (wI (by omega)) <| O.mv rfl <| O.shr rfl rfl (by decide) (shr32 s) <| O.cv (r := ((s / 4294967296 : Nat) : Int)) rfl (wW (by omega)) <| O.iaB (r := RW) (j := i + 1) rfl rfl rfl o4 (by omega) rfl <| O.sto (r := RW) (j := i + 1) (u := s / 4294967296) rfl rfl o4 (by omega) (rwv _ (by omega)) rfl (.inr rfl) fun W5 i5 o5 => JO.nil <| J.bend <| J.reg rfl <| O.mv rfl <| O.add rfl rfl (wI (by omega)) <| O.as rfl <| JO.nil <| ?_
    have hfin : val (((lo.set i (s % 4294967296 + w)).set (i + 1) (s / 4294967296)).take (i + 1 + 1)) = val ((dig x).take (i + 1)) * 2 ^ n := by
      rw [val_set (by rw [List.length_set]; omega), val_set (by omega), val_take_succ hu, Nat.add_mul, ← hval, val_take_succ hw, Nat.mul_assoc, ← hs, Nat.pow_succ, Nat.mul_add, Nat.mul_assoc]
      have e : 4294967296 ^ i * s = 4294967296 ^ i * (s % 4294967296) + 4294967296 ^ i * (4294967296 * (s / 4294967296)) := by rw [← Nat.mul_add]; congr 1; omega
      omega
    have hlt2 : s / 4294967296 < 2 ^ n := by
      rw [Nat.div_lt_iff_lt_mul (by decide), hs, Nat.mul_comm]
      exact Nat.mul_lt_mul_of_pos_left hub hp
    exact J.at' (i + 1, (lo.set i (s % 4294967296 + w)).set (i + 1) (s / 4294967296)) ⟨rfl, rfl, rfl, rfl, trivial⟩ ⟨⟨inferInstance, o5, by show i + 1 ≤ m; omega, hfin, s / 4294967296, by rw [List.getElem?_set_self (by rw [List.length_set]; omega)], hlt2⟩, by show m - (i + 1) < m - i; omega⟩
  · skip
    refine J.exit rfl <| J.seq <| J.reg rfl <| O.mv rfl <| O.as rfl <| JO.nil <| J.ret1o rfl (.tmp rfl) fun W' iE iO => ?_
    have him : i = m := by omega
    rw [him, List.take_of_length_le (by omega), List.take_of_length_le (by omega), val_dig] at hval
    have hW : W.size = W0.size := by rw [GW.size, GW.size, iEn.w]
    exact ⟨lo, by omega, hval, _, _, _, rfl, ho.out iE iO, fun a ha _ => by injection ha with ha; subst ha; rw [hW]; exact hb2⟩
theorem ref01_shifted_ok {W : GW} {p : Option Addr} {m c n x : Nat} (h : Sl RW W p m c (dig x)) (hx : (dig x).length ≤ 1099511627776) (hn32 : n < 32) :
    Ok Tryz.prog 139 [.slice p m c, .int .i64 (n : Int)] W fun W' v => ∃ l, l.length = m + 1 ∧ val l = x * 2 ^ n ∧ V (RSl RW) W' v l := by
  have h1 := ref01_shifted_own h hx hn32
  refine ⟨h1.1, h1.2.mono ?_⟩
  rintro e w' ⟨W', v, he, hw, hE, l, hl, hv, ho⟩
  obtain ⟨W2, h2, h3, h4⟩ := own_pub hE ho
  exact ⟨W2, v, he, h2.trans hw, h3, l, hl, hv, h4⟩
theorem back_digit {u v n : Nat} (hu : u < 4294967296) (hn : n < 32) : (u + v * 4294967296) / 2 ^ n % 4294967296 = u / 2 ^ n + (v % 2 ^ n) * 2 ^ (32 - n) := by
  have e : v * 4294967296 = v * 2 ^ (32 - n) * 2 ^ n := by
    rw [Nat.mul_assoc, ← Nat.pow_add, show 32 - n + n = 32 from by omega]
  rw [e, Nat.add_mul_div_right _ _ (Nat.two_pow_pos n)]
  have h1 := mul_mod_pow v (32 - n) (by omega)
  rw [show 32 - (32 - n) = n from by omega] at h1
  have h2 := (shr_digit (v := v) hu hn).2
  rw [← h1] at h2 ⊢
  generalize v * 2 ^ (32 - n) = X at *
  generalize u / 2 ^ n = A at *
  omega
theorem shr64_eq (u n : Nat) (hn : n ≤ 64) : Int.fdiv (u : Int) (2 ^ (min (Int.toNat (n : Int)) (IntKind.bits .u64))) = ((u / 2 ^ n : Nat) : Int) := by
  rw [show min (Int.toNat (n : Int)) (IntKind.bits .u64) = n from by show min n 64 = n; omega, Int.fdiv_eq_ediv_of_nonneg _ (Int.le_of_lt (Int.pow_pos (by decide)))]
  norm_cast
/-- back -/
theorem ref01_back_ok {W : GW} {p : Option Addr} {m c n : Nat} {l : List Nat} (h : Sl RW W p m c l) (hx : l.length ≤ 1099511627776) (hn32 : n < 32) :
    Ok Tryz.prog 142 [.slice p m c, .int .i64 (n : Int)] W fun W' v => V (RSl RW) W' v (dig (val l / 2 ^ n)) := by
  have hn := h.hn
  have hp := Nat.two_pow_pos n
  have hp32 : 2 ^ n ≤ 2147483648 := by have : 2 ^ n ≤ 2 ^ 31 := Nat.pow_le_pow_right (by decide) (by omega); omega
  refine Ok.enter Tryz.func142 rfl rfl rfl rfl fun W0 iEn => ?_
  refine J.seq <| J.reg rfl <| O.as rfl <| JO.nil <| J.seq <| J.reg rfl <| O.mv rfl <| O.len rfl <| O.mk (r := RW) (m := m) (c := m) 0 rfl rfl rfl rfl (by omega) (by omega) (by omega) rfl rfl (by decide) (fun _ => ⟨rfl, by decide⟩) fun W2 b2 i2 e2 hb2 ho0 => O.as rfl <| JO.nil <| J.seq <| J.seq <| J.reg rfl <| O.as rfl <| JO.nil <| J.block <| ?_
  refine J.loop (α := Nat × List Nat) (fun q => [(0, .slice p m c), (1, .int .i64 (n : Int)), (5, .slice (some ⟨b2, 0, none⟩) m m), (6, .int .i64 (q.1 : Int))]) (fun q W' => Le W0 W' ∧ Ows RW W' (some ⟨b2, 0, none⟩) m m q.2 ∧ q.1 ≤ m ∧ val (q.2.take q.1) * 2 ^ n + val l % 2 ^ n = val (l.take q.1) + 4294967296 ^ q.1 * (l.getD q.1 0 % 2 ^ n)) (fun q => m - q.1) (0, List.replicate m 0) ⟨rfl, rfl, rfl, rfl, trivial⟩ ⟨inferInstance, ho0, Nat.zero_le _, by simp [val, val_mod_pow l n (by omega)]⟩ ?_
  rintro ⟨i, lo⟩ W3 ⟨_, ho, hi, hval⟩
  dsimp only at *
  have hln := ho.hn
  refine J.seq <| J.seq <| J.reg rfl <| O.mv rfl <| O.mv rfl <| O.len rfl <| O.lt rfl rfl <| JO.nil <| J.condD rfl (fun h14 => ?_) (fun h14 => ?_)
  · skip
    obtain ⟨u, hu⟩ := xat (l := l) (k := i) (by omega)
    have hub := slw h u (List.mem_of_getElem? hu)
    have hgu : l.getD i 0 = u := by rw [List.getD_eq_getElem?_getD, hu]; rfl
    rw [hgu] at hval
    refine J.skip <| J.seq <| J.block <| J.seq <| J.reg rfl <| O.mv rfl <| O.mv rfl <| O.ixW (j := i) rfl rfl rfl h.to hu fun a1 => O.cv rfl (wU (by omega)) <| O.as rfl <| JO.nil <| J.seq <| J.seq <| J.reg rfl <| O.mv rfl <| O.add rfl rfl (wI (by omega)) <| O.mv rfl <| O.len rfl <| O.lt rfl rfl <| JO.nil <| ?_
    refine J.cut (α := Nat) (fun s => [(0, .slice p m c), (1, .int .i64 (n : Int)), (5, .slice (some ⟨b2, 0, none⟩) m m), (6, .int .i64 (i : Int)), (7, .int .u64 (s : Int))]) (fun s W' => W' = W3 ∧ ∃ v, l.getD (i + 1) 0 = v ∧ v < 4294967296 ∧ s = u + v * 4294967296) ?_ ?_
    · skip
      refine J.condD rfl (fun h26 => ?_) (fun h26 => ?_)
      · skip
        obtain ⟨v, hv⟩ := xat (l := l) (k := i + 1) (by omega)
        have hvb := slw h v (List.mem_of_getElem? hv)
        refine J.reg rfl <| O.mv rfl <| O.mv rfl <| O.mv rfl <| O.add rfl rfl (wI (by omega)) <| O.ixW (j := i + 1) rfl rfl rfl h.to hv fun a2 => O.cv rfl (wU (by omega)) <| O.shl (r := ((v * 2 ^ 32 : Nat) : Int)) rfl rfl (by decide) (shl_eq (u := v) (n := 32) (by omega) (by omega)) <| O.or (p := u) (q := v * 2 ^ 32) (r := ((u + v * 4294967296 : Nat) : Int)) rfl rfl rfl rfl (by show _ < 18446744073709551616; omega) (by show _ < 18446744073709551616; omega) (by rw [Nat.or_comm, or_add u v 32 (by omega)]; exact (wU (by omega)).trans (by omega)) <| O.as rfl <| JO.nil <| ?_
        exact J.at' (u + v * 4294967296) ⟨rfl, rfl, rfl, rfl, rfl, trivial⟩ ⟨rfl, v, by rw [List.getD_eq_getElem?_getD, hv]; rfl, hvb, rfl⟩
      · skip
        refine J.skip <| ?_
        exact J.at' u ⟨rfl, rfl, rfl, rfl, rfl, trivial⟩ ⟨rfl, 0, by rw [List.getD_eq_getElem?_getD, List.getElem?_eq_none (by omega)]; rfl, by decide, by omega⟩
    · skip
      rintro s W4 ⟨rfl, v, hv, hvb, hs⟩
      have hbd := back_digit (v := v) hub hn32
      rw [← hs] at hbd
      refine J.reg rfl <| O.mv rfl <| O.mv rfl <| O.mv rfl <| O.mv rfl <| O.shr rfl rfl (by omega) (shr64_eq s n (by omega)) <| O.cv (r := ((s / 2 ^ n % 4294967296 : Nat) : Int)) rfl ((wWm _).trans (by omega)) <| O.iaB (r := RW) (j := i) rfl rfl rfl ho (by omega) rfl <| O.sto (r := RW) (j := i) (u := s / 2 ^ n % 4294967296) rfl rfl ho (by omega) (rwv _ (by omega)) rfl (.inr rfl) fun W5 i5 o5 => JO.nil <| J.bend <| J.reg rfl <| O.mv rfl <| O.add rfl rfl (wI (by omega)) <| O.as rfl <| JO.nil <| ?_
      have hfin : val ((lo.set i (s / 2 ^ n % 4294967296)).take (i + 1)) * 2 ^ n + val l % 2 ^ n = val (l.take (i + 1)) + 4294967296 ^ (i + 1) * (l.getD (i + 1) 0 % 2 ^ n) := by
        rw [val_set (by omega), val_take_succ hu, hv, hbd]
        exact shr_step hn32 hval
      exact J.at' (i + 1, lo.set i (s / 2 ^ n % 4294967296)) ⟨rfl, rfl, rfl, rfl, trivial⟩ ⟨⟨inferInstance, o5, by show i + 1 ≤ m; omega, hfin⟩, by show m - (i + 1) < m - i; omega⟩
  · skip
    have him : i = m := by omega
    rw [him, List.take_of_length_le (by omega), List.take_of_length_le (by omega), List.getD_eq_getElem?_getD, List.getElem?_eq_none (by omega)] at hval
    have hfin : val lo = val l / 2 ^ n := by
      simp at hval
      have := Nat.div_add_mod (val l) (2 ^ n)
      rw [Nat.mul_comm] at this
      exact Nat.eq_of_mul_eq_mul_right hp (by omega)
    refine J.pub ho fun W6 i6 s6 => ?_
    refine J.exit rfl <| J.seq <| J.reg rfl <| O.mv rfl <| O.call rfl (ref01_trim_ok s6) fun W7 v7 i7 e7 h7 => O.as rfl <| JO.nil <| J.ret1 rfl (.tmp rfl) fun W' iE iP => ?_
    rw [← hfin]
    exact h7.to
/-- minus: the difference. -/
theorem ref01_minus_new {W : GW} {p q : Option Addr} {m c m' c' x y : Nat} (h : Sl RW W p m c (dig x)) (h' : Sl RW W q m' c' (dig y)) (hx : (dig x).length ≤ 4398046511104) (hle : y ≤ x) :
    Ok Tryz.prog 141 [.slice p m c, .slice q m' c'] W fun W' v => NewR RW W W' v (dig (x - y)) := by
  have hn := h.hn
  have hn' := h'.hn
  have hll := len_mono hle
  refine Ok.enter Tryz.func141 rfl rfl rfl rfl fun W0 iEn => ?_
  refine J.seq <| J.reg rfl <| O.as rfl <| JO.nil <| J.seq <| J.reg rfl <| O.mv rfl <| O.len rfl <| O.mk (r := RW) (m := m) (c := m) 0 rfl rfl rfl rfl (by omega) (by omega) (by omega) rfl rfl (by decide) (fun _ => ⟨rfl, by decide⟩) fun W2 b2 i2 e2 hb2 ho0 => O.as rfl <| JO.nil <| J.seq <| J.reg rfl <| O.as rfl <| JO.nil <| J.seq <| J.seq <| J.reg rfl <| O.as rfl <| JO.nil <| J.block <| ?_
  refine J.loop (α := Nat × List Nat × Nat) (fun q' => [(0, .slice p m c), (1, .slice q m' c'), (5, .slice (some ⟨b2, 0, none⟩) m m), (6, .int .u64 (q'.2.2 : Int)), (7, .int .i64 (q'.1 : Int))]) (fun q' W' => Le W0 W' ∧ Ows RW W' (some ⟨b2, 0, none⟩) m m q'.2.1 ∧ q'.1 ≤ m ∧ q'.2.2 ≤ 1 ∧ val (q'.2.1.take q'.1) + val ((dig y).take q'.1) = val ((dig x).take q'.1) + 4294967296 ^ q'.1 * q'.2.2) (fun q' => m - q'.1) (0, List.replicate m 0, 0) ⟨rfl, rfl, rfl, rfl, rfl, trivial⟩ ⟨inferInstance, ho0, Nat.zero_le _, Nat.zero_le _, rfl⟩ ?_
  rintro ⟨k, lo, br⟩ W3 ⟨_, ho, hk, hbr, hval⟩
  dsimp only at *
  refine J.seq <| J.seq <| J.reg rfl <| O.mv rfl <| O.mv rfl <| O.len rfl <| O.lt rfl rfl <| JO.nil <| J.condD rfl (fun h16 => ?_) (fun h16 => ?_)
  · skip
    obtain ⟨u, hu⟩ := xat (l := dig x) (k := k) (by omega)
    have hub := words_dig x u (List.mem_of_getElem? hu)
    refine J.skip <| J.seq <| J.block <| J.seq <| J.reg rfl <| O.as rfl <| JO.nil <| J.seq <| J.seq <| J.reg rfl <| O.mv rfl <| O.mv rfl <| O.len rfl <| O.lt rfl rfl <| JO.nil <| ?_
    refine J.cut (α := Nat) (fun v => [(0, .slice p m c), (1, .slice q m' c'), (5, .slice (some ⟨b2, 0, none⟩) m m), (6, .int .u64 (br : Int)), (7, .int .i64 (k : Int)), (8, .int .u64 (v : Int))]) (fun v W => W = W3 ∧ v < 4294967296 ∧ val ((dig y).take (k + 1)) = val ((dig y).take k) + 4294967296 ^ k * v) ?_ ?_
    · skip
      refine J.condD rfl (fun h22 => ?_) (fun h22 => ?_)
      · skip
        obtain ⟨u2, hu2⟩ := xat (l := dig y) (k := k) (by omega)
        have hub2 := words_dig y u2 (List.mem_of_getElem? hu2)
        refine J.reg rfl <| O.mv rfl <| O.mv rfl <| O.ixW (j := k) rfl rfl rfl h'.to hu2 fun a2 => O.cv rfl (wU (by omega)) <| O.as rfl <| JO.nil <| ?_
        exact J.at' u2 ⟨rfl, rfl, rfl, rfl, rfl, rfl, trivial⟩ ⟨rfl, hub2, val_take_succ hu2⟩
      · skip
        refine J.skip <| ?_
        exact J.at' 0 ⟨rfl, rfl, rfl, rfl, rfl, rfl, trivial⟩ ⟨rfl, by decide, by rw [take_ge (by omega)]; rfl⟩
    · skip
      rintro v W4 ⟨rfl, hvb, hyv⟩
      refine J.seq <| J.reg rfl <| O.mv rfl <| O.mv rfl <| O.ixW (j := k) rfl rfl rfl h.to hu fun a3 => O.cv rfl (wU (by omega)) <| O.add (r := ((u + 4294967296 : Nat) : Int)) rfl rfl ((wU (by omega)).trans (by omega)) <| O.mv rfl <| O.sb (r := ((u + 4294967296 - v : Nat) : Int)) rfl rfl ((wU (by omega)).trans (by omega)) <| O.mv rfl <| O.sb (r := ((u + 4294967296 - v - br : Nat) : Int)) rfl rfl ((wU (by omega)).trans (by omega)) <| O.as rfl <| JO.nil <| J.seq <| ?_
      obtain ⟨s, hs⟩ : ∃ s, s = u + 4294967296 - v - br := ⟨_, rfl⟩
      rw [← hs]
      refine J.reg rfl <| O.mv rfl <| O.mv rfl <| O.mv rfl <| O.cv (r := ((s % 4294967296 : Nat) : Int)) rfl ((wWm _).trans (by omega)) <| O.iaB (r := RW) (j := k) rfl rfl rfl ho (by omega) rfl <| O.sto (r := RW) (j := k) (u := s % 4294967296) rfl rfl ho (by omega) (rwv _ (by omega)) rfl (.inr rfl) fun W5 i5 o5 => JO.nil <| J.reg rfl <| O.mv rfl <| O.shr rfl rfl (by decide) (shr32 s) <| O.sb (r := ((1 - s / 4294967296 : Nat) : Int)) rfl rfl ((wU (by omega)).trans (by omega)) <| O.as rfl <| JO.nil <| J.bend <| J.reg rfl <| O.mv rfl <| O.add rfl rfl (wI (by omega)) <| O.as rfl <| JO.nil <| ?_
      have hlk : k < lo.length := by rw [← ho.hn]; omega
      have hfin : val ((lo.set k (s % 4294967296)).take (k + 1)) + val ((dig y).take (k + 1)) = val ((dig x).take (k + 1)) + 4294967296 ^ (k + 1) * (1 - s / 4294967296) := by
        rw [val_set hlk, hyv, val_take_succ hu, Nat.pow_succ, Nat.mul_assoc]
        have e : 4294967296 ^ k * (s % 4294967296 + v + br) = 4294967296 ^ k * (u + 4294967296 * (1 - s / 4294967296)) := by congr 1; omega
        simp only [Nat.mul_add] at e
        omega
      exact J.at' (k + 1, lo.set k (s % 4294967296), 1 - s / 4294967296) ⟨rfl, rfl, rfl, rfl, rfl, trivial⟩ ⟨⟨inferInstance, o5, by show k + 1 ≤ m; omega, by show 1 - s / 4294967296 ≤ 1; omega, hfin⟩, by show m - (k + 1) < m - k; omega⟩
  · skip
    have hkn : k = m := by omega
    have hlw := ownw ho
    have hln := ho.hn
    rw [hkn, List.take_of_length_le (by omega), List.take_of_length_le (by omega), List.take_of_length_le (by omega), val_dig, val_dig] at hval
    have hvl := val_lt hlw
    rw [← hln] at hvl
    have hbr0 : br = 0 := by
      rcases Nat.eq_zero_or_pos br with h0 | h0
      · exact h0
      · have h1 : 4294967296 ^ m * 1 ≤ 4294967296 ^ m * br := Nat.mul_le_mul_left _ h0
        omega
    rw [hbr0, Nat.mul_zero] at hval
    have hfin : val lo = x - y := by omega
    have hW : W.size = W0.size := by rw [GW.size, GW.size, iEn.w]
    refine J.exit rfl <| J.seq <| ?_
    refine J.pub ho fun W6 i6 s6 => ?_
    refine J.reg rfl <| O.mv rfl <| O.call rfl (ref01_trimP_ok s6) fun W7 v7 i7 e7 h7 => ?_
    obtain ⟨k7, rfl, h7⟩ := h7
    refine O.as rfl <| JO.nil <| J.ret1 rfl (.tmp rfl) fun W' iE iP => ?_
    rw [← hfin]
    exact ⟨_, _, _, rfl, by rw [hW]; exact hb2, h7.to⟩
theorem ref01_minus_ok {W : GW} {p q : Option Addr} {m c m' c' x y : Nat} (h : Sl RW W p m c (dig x)) (h' : Sl RW W q m' c' (dig y)) (hx : (dig x).length ≤ 4398046511104) (hle : y ≤ x) :
    Ok Tryz.prog 141 [.slice p m c, .slice q m' c'] W fun W' v => V (RSl RW) W' v (dig (x - y)) :=
  (ref01_minus_new h h' hx hle).mono fun _ _ _ h => h.v
theorem val_zero_repl (n k : Nat) : val ((List.replicate n 0).take k) = 0 := by
  rw [List.take_replicate]; exact val_zeros _
/-- times: the product. -/
theorem ref01_times_new {W : GW} {p q : Option Addr} {m c m' c' : Nat} {l l' : List Nat} (h : Sl RW W p m c l) (h' : Sl RW W q m' c' l') (hx : l.length ≤ 4398046511104) (hy : l'.length ≤ 4398046511104) :
    Ok Tryz.prog 111 [.slice p m c, .slice q m' c'] W fun W' v => NewR RW W W' v (dig (val l * val l')) := by
  have hn := h.hn
  have hn' := h'.hn
  have hlw := slw h
  have hlw' := slw h'
  refine Ok.enter Tryz.func111 rfl rfl rfl rfl fun W0 iEn => ?_
  refine J.seq <| J.reg rfl <| O.as rfl <| JO.nil <| J.seq <| J.reg rfl <| O.mv rfl <| O.len rfl <| O.mv rfl <| O.len rfl <| O.add rfl rfl (wI (by omega)) <| O.mk (r := RW) (m := m + m') (c := m + m') 0 rfl rfl rfl rfl (by omega) (by omega) (by omega) rfl rfl (by decide) (fun _ => ⟨rfl, by decide⟩) fun W2 b2 i2 e2 hb2 ho0 => O.as rfl <| JO.nil <| J.seq <| J.seq <| J.reg rfl <| O.as rfl <| JO.nil <| J.block <| ?_
  refine J.loop (α := Nat × List Nat) (fun q' => [(0, .slice p m c), (1, .slice q m' c'), (5, .slice (some ⟨b2, 0, none⟩) (m + m') (m + m')), (6, .int .i64 (q'.1 : Int))]) (fun q' W' => Le W0 W' ∧ Ows RW W' (some ⟨b2, 0, none⟩) (m + m') (m + m') q'.2 ∧ q'.1 ≤ m ∧ val (q'.2.take (q'.1 + m')) = val (l.take q'.1) * val l') (fun q' => m - q'.1) (0, List.replicate (m + m') 0) ⟨rfl, rfl, rfl, rfl, trivial⟩ ⟨inferInstance, ho0, Nat.zero_le _, by dsimp only; rw [val_zero_repl, List.take_zero]; simp [val]⟩ ?_
  rintro ⟨i, lo0⟩ W3 ⟨_, ho1, hi, hval⟩
  dsimp only at *
  refine J.seq <| J.seq <| J.reg rfl <| O.mv rfl <| O.mv rfl <| O.len rfl <| O.lt rfl rfl <| JO.nil <| J.condD rfl (fun h18 => ?_) (fun h18 => ?_)
  · skip
    obtain ⟨u, hu⟩ := xat (l := l) (k := i) (by omega)
    have hub := hlw u (List.mem_of_getElem? hu)
    obtain ⟨bx, ox, rfl, hjx, hwx⟩ := h.word hu
    refine J.skip <| J.seq <| J.block <| J.seq <| J.reg rfl <| O.as rfl <| JO.nil <| J.seq <| J.seq <| J.reg rfl <| O.as rfl <| JO.nil <| J.block <| ?_
    refine J.loop (α := Nat × List Nat × Nat) (fun q' => [(0, .slice (some ⟨bx, ox, none⟩) m c), (1, .slice q m' c'), (5, .slice (some ⟨b2, 0, none⟩) (m + m') (m + m')), (6, .int .i64 (i : Int)), (7, .int .u64 (q'.2.2 : Int)), (8, .int .i64 (q'.1 : Int))]) (fun q' W' => Le W0 W' ∧ Ows RW W' (some ⟨b2, 0, none⟩) (m + m') (m + m') q'.2.1 ∧ q'.1 ≤ m' ∧ q'.2.2 < 4294967296 ∧ (∀ j, i + q'.1 ≤ j → q'.2.1[j]? = lo0[j]?) ∧ val (q'.2.1.take (i + q'.1)) + 4294967296 ^ (i + q'.1) * q'.2.2 = val (lo0.take (i + q'.1)) + 4294967296 ^ i * (u * val (l'.take q'.1))) (fun q' => m' - q'.1) (0, lo0, 0) ⟨rfl, rfl, rfl, rfl, rfl, rfl, trivial⟩ ⟨inferInstance, ho1, Nat.zero_le _, by show (0 : Nat) < 4294967296; decide, fun _ _ => rfl, rfl⟩ ?_
    rintro ⟨k, lo, cr⟩ W4 ⟨_, ho, hk, hcr, hrest, hval2⟩
    dsimp only at *
    have hln := ho.hn
    have hln0 := ho1.hn
    refine J.seq <| J.seq <| J.reg rfl <| O.mv rfl <| O.mv rfl <| O.len rfl <| O.lt rfl rfl <| JO.nil <| J.condD rfl (fun h24 => ?_) (fun h24 => ?_)
    · skip
      obtain ⟨v, hv⟩ := xat (l := l') (k := k) (by omega)
      have hvb := hlw' v (List.mem_of_getElem? hv)
      obtain ⟨w, hw⟩ := xat (l := lo) (k := i + k) (by omega)
      have hwb := own_val_word ho hw
      have huv : u * v ≤ 4294967295 * 4294967295 := Nat.mul_le_mul (by omega) (by omega)
      obtain ⟨by', oy, rfl, hjy, hwy⟩ := h'.word hv
      obtain ⟨_, hwo⟩ := ho.word hw
      refine J.skip <| J.seq <| J.block <| J.seq <| ?_
      refine J.sub [(0, _), (1, _), (5, _), (6, _), (7, _), (8, _)] ⟨rfl, rfl, rfl, rfl, rfl, rfl, trivial⟩ ?_
      refine J.draw [.ex _, .ex _, .ex _, .ex _, .ex _, .ex _, .ex _, .ex _, .ex _, .ex _, .ex _, .ex _, .ex _, .ex _, .ex _, .ex _, .ex _, .ex _, .ex _, .ex _, .ex _] rfl rfl ⟨fun W1 i1 e1 _ => O.mv rfl <| D.ex, fun W1 i1 e1 _ => O.mv rfl <| D.ex, fun W1 i1 e1 _ => O.mv rfl <| D.ex, fun W1 i1 e1 _ => O.mv rfl <| D.ex, fun W1 i1 e1 _ => O.add rfl rfl (wI (by omega)) <| D.ex, fun W1 i1 e1 _ => O.ia (j := i + k) rfl rfl (by omega) (by omega) <| D.ex, fun W1 i1 e1 _ => O.ldC rfl (hwo _ i1 e1) <| D.ex, fun W1 i1 e1 _ => O.cv rfl (wU (by omega)) <| D.ex, fun W1 i1 e1 _ => O.add (r := ((cr + w : Nat) : Int)) rfl rfl ((wU (by omega)).trans (by omega)) <| D.ex, fun W1 i1 e1 _ => O.mv rfl <| D.ex, fun W1 i1 e1 _ => O.mv rfl <| D.ex, fun W1 i1 e1 _ => O.ia (j := i) rfl rfl rfl hjx <| D.ex, fun W1 i1 e1 _ => O.ldC rfl (hwx _ Lf.s) <| D.ex, fun W1 i1 e1 _ => O.cv rfl (wU (by omega)) <| D.ex, fun W1 i1 e1 _ => O.mv rfl <| D.ex, fun W1 i1 e1 _ => O.mv rfl <| D.ex, fun W1 i1 e1 _ => O.ia (j := k) rfl rfl rfl hjy <| D.ex, fun W1 i1 e1 _ => O.ldC rfl (hwy _ Lf.s) <| D.ex, fun W1 i1 e1 _ => O.cv rfl (wU (by omega)) <| D.ex, fun W1 i1 e1 _ => O.mul (r := ((u * v : Nat) : Int)) rfl rfl ((wU (by rw [← Int.natCast_mul]; omega)).trans (by rw [Int.natCast_mul])) <| D.ex, fun W1 i1 e1 _ => O.add (r := ((cr + w + u * v : Nat) : Int)) rfl rfl ((wU (by omega)).trans (by omega)) <| D.ex, trivial⟩ ?_
      intro W1 i1 e1
      refine O.as rfl <| JO.nil <| J.seq <| ?_
      obtain ⟨s, hs⟩ : ∃ s, s = cr + w + u * v := ⟨_, rfl⟩
      have hs2 : s < 18446744073709551616 := by omega
      rw [← hs]
      have ho5 := ho.ext e1
      refine J.reg rfl <| O.mv rfl <| O.mv rfl <| O.mv rfl <| O.add rfl rfl (wI (by omega)) <| O.mv rfl <| O.cv (r := ((s % 4294967296 : Nat) : Int)) rfl ((wWm _).trans (by omega)) <| O.iaB (r := RW) (j := i + k) rfl rfl rfl ho5 (by omega) rfl <| O.sto (r := RW) (j := i + k) (u := s % 4294967296) rfl rfl ho5 (by omega) (rwv _ (by omega)) rfl (.inr rfl) fun W5 i5 o5 => JO.nil <| J.reg rfl <| O.mv rfl <| O.shr rfl rfl (by decide) (shr32 s) <| O.as rfl <| JO.nil <| J.bend <| J.reg rfl <| O.mv rfl <| O.add rfl rfl (wI (by omega)) <| O.as rfl <| JO.nil <| ?_
      have hfin : val ((lo.set (i + k) (s % 4294967296)).take (i + (k + 1))) + 4294967296 ^ (i + (k + 1)) * (s / 4294967296) = val (lo0.take (i + (k + 1))) + 4294967296 ^ i * (u * val (l'.take (k + 1))) := by
        have hw0 : lo0[i + k]? = some w := by rw [← hrest (i + k) (Nat.le_refl _)]; exact hw
        rw [← Nat.add_assoc, val_set (by omega), val_take_succ hw0, val_take_succ hv, Nat.pow_succ, Nat.mul_assoc, Nat.mul_add u, Nat.mul_add (4294967296 ^ i)]
        have e : 4294967296 ^ (i + k) * s = 4294967296 ^ (i + k) * (s % 4294967296) + 4294967296 ^ (i + k) * (4294967296 * (s / 4294967296)) := by rw [← Nat.mul_add]; congr 1; omega
        have e2 : 4294967296 ^ (i + k) * s = 4294967296 ^ (i + k) * cr + 4294967296 ^ i * (u * (4294967296 ^ k * v)) + 4294967296 ^ (i + k) * w := by
          rw [hs, Nat.mul_add, Nat.mul_add, Nat.pow_add]
          have : 4294967296 ^ i * 4294967296 ^ k * (u * v) = 4294967296 ^ i * (u * (4294967296 ^ k * v)) := by
            rw [Nat.mul_assoc, Nat.mul_left_comm (4294967296 ^ k) u v]
          omega
        omega
      exact J.at' (k + 1, lo.set (i + k) (s % 4294967296), s / 4294967296) ⟨rfl, rfl, rfl, rfl, rfl, rfl, trivial⟩ ⟨⟨inferInstance, o5, by show k + 1 ≤ m'; omega, by show s / 4294967296 < 4294967296; omega, fun j hj => by rw [List.getElem?_set_ne (by omega)]; exact hrest j (by omega), hfin⟩, by show m' - (k + 1) < m' - k; omega⟩
    · skip
      have hkm : k = m' := by omega
      obtain rfl := hkm
      refine J.exit rfl <| J.reg rfl <| O.mv rfl <| O.mv rfl <| O.mv rfl <| O.len rfl <| O.add rfl rfl (wI (by omega)) <| O.mv rfl <| O.cv (r := ((cr : Nat) : Int)) rfl (wW (by omega)) <| O.iaB (r := RW) (j := i + k) rfl rfl rfl ho (by omega) rfl <| O.sto (r := RW) (j := i + k) (u := cr) rfl rfl ho (by omega) (rwv _ (by omega)) rfl (.inr rfl) fun W5 i5 o5 => JO.nil <| J.bend <| J.reg rfl <| O.mv rfl <| O.add rfl rfl (wI (by omega)) <| O.as rfl <| JO.nil <| ?_
      have hfin : val ((lo.set (i + k) cr).take (i + 1 + k)) = val (l.take (i + 1)) * val l' := by
        rw [show i + 1 + k = i + k + 1 from by omega, val_set (by omega), val_take_succ hu, hval2, hval, List.take_of_length_le (l := l') (i := k) (by omega), Nat.add_mul, Nat.mul_assoc]
      exact J.at' (i + 1, lo.set (i + k) cr) ⟨rfl, rfl, rfl, rfl, trivial⟩ ⟨⟨inferInstance, o5, by show i + 1 ≤ m; omega, hfin⟩, by show m - (i + 1) < m - i; omega⟩
  · skip
    have him : i = m := by omega
    have hln0 := ho1.hn
    rw [him, List.take_of_length_le (by omega), List.take_of_length_le (by omega)] at hval
    have hW : W.size = W0.size := by rw [GW.size, GW.size, iEn.w]
    refine J.exit rfl <| J.seq <| ?_
    refine J.pub ho1 fun W6 i6 s6 => ?_
    refine J.reg rfl <| O.mv rfl <| O.call rfl (ref01_trimP_ok s6) fun W7 v7 i7 e7 h7 => ?_
    obtain ⟨k7, rfl, h7⟩ := h7
    refine O.as rfl <| JO.nil <| J.ret1 rfl (.tmp rfl) fun W' iE iP => ?_
    rw [← hval]
    exact ⟨_, _, _, rfl, by rw [hW]; exact hb2, h7.to⟩
theorem ref01_times_ok {W : GW} {p q : Option Addr} {m c m' c' x y : Nat} (h : Sl RW W p m c (dig x)) (h' : Sl RW W q m' c' (dig y)) (hx : (dig x).length ≤ 4398046511104) (hy : (dig y).length ≤ 4398046511104) :
    Ok Tryz.prog 111 [.slice p m c, .slice q m' c'] W fun W' v => V (RSl RW) W' v (dig (x * y)) :=
  (ref01_times_new h h' hx hy).mono fun _ _ _ h => by have := h.v; rwa [val_dig, val_dig] at this
end
end Go.Proofs.YtcaikjefkkejbaaGreat

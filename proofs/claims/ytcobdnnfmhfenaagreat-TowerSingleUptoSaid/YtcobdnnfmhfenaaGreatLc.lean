/- Rational numbers: normal form, equality. -/
import Derived.Test.YtcobdnnfmhfenaaGreatLb
set_option linter.unusedVariables false
set_option linter.unusedSimpArgs false
set_option maxRecDepth 10000
set_option maxHeartbeats 1000000
namespace Go.Proofs.YtcobdnnfmhfenaaGreat
open Go Go.Rx Go.Num

theorem cmpI_pos {z : Int} : cmpI z 0 > 0 ↔ z > 0 := by
  unfold cmpI
  split
  · constructor <;> intro <;> omega
  · split
    · constructor <;> intro <;> omega
    · constructor <;> intro <;> omega
theorem cq_iff {z w : Int} : (∃ x : Rat, (ci z, ci w) = cq x) ↔ (w > 0 ∧ (Int.gcd z w : Int) = 1) := by
  constructor
  · rintro ⟨x, h⟩
    have h1 := ci_inj (Prod.mk.inj h).1
    have h2 := ci_inj (Prod.mk.inj h).2
    have h3 := x.den_nz
    have h4 := x.reduced
    refine ⟨by omega, ?_⟩
    rw [h1, h2]
    show ((Nat.gcd x.num.natAbs x.den : Nat) : Int) = 1
    have : Nat.gcd x.num.natAbs x.den = 1 := h4
    rw [this]; rfl
  · rintro ⟨h1, h2⟩
    refine ⟨⟨z, w.natAbs, by omega, ?_⟩, ?_⟩
    · have : Int.gcd z w = 1 := by omega
      exact this
    · show _ = (ci z, ci ((w.natAbs : Nat) : Int))
      rw [Int.natAbs_of_nonneg (by omega)]
theorem ci_len {z : Int} {i : Bool × List Nat} (h : i = ci z) (hl : i.2.length ≤ 1099511627776) : (dig z.natAbs).length ≤ 1099511627776 := by subst h; exact hl

theorem rational_Valid_ok {W : GW} {v : Value} {i : Raw} (h : V RQ W v i) (hl : i.1.2.length ≤ 1099511627776) (hl' : i.2.2.length ≤ 1099511627776) :
    Ok Tryz.prog 39 [v] W fun W' r => ∃ b, r = .bool b ∧ (b = true ↔ ∃ x, i = cq x) := by
  obtain ⟨p1, n1, c1, p2, n2, c2, rfl, h1, h2⟩ := unQ h
  obtain ⟨⟨s1, l1⟩, ⟨s2, l2⟩⟩ := i
  dsimp only at *
  refine Ok.enter Tryz.func39 rfl rfl rfl rfl fun W0 iEn => ?_
  refine J.seq <| J.reg rfl <| O.box rfl fun W1 b1 j1 hb1 => O.as rfl <| JO.nil <| J.seq <| J.reg rfl <| O.fa rfl <| O.ldB2 rfl hb1.to rfl <| O.call rfl (integer_Valid_ok (mkI h1.to)) fun W2 v2 j2 e2 k2 => ?_
  obtain ⟨b2, rfl, k2⟩ := k2
  refine O.mv rfl <| ?_
  by_cases hg6 : b2 = true
  · skip
    obtain ⟨z, hz⟩ := k2.1 hg6
    refine O.set (t := 6) (.bool true) rfl (by rw [hg6]) <| O.gt rfl rfl <| O.fa rfl <| O.gt rfl rfl <| O.ldB2 rfl hb1.to rfl <| O.gt rfl rfl <| O.call rfl (integer_Valid_ok (mkI h2.to)) fun W3 v3 j3 e3 k3 => ?_
    obtain ⟨b3, rfl, k3⟩ := k3
    refine O.pickT rfl rfl <| O.mv rfl <| ?_
    by_cases hg11 : b3 = true
    · skip
      obtain ⟨w, hw⟩ := k3.1 hg11
      have hlz := ci_len hz hl
      have hlw := ci_len hw hl'
      obtain ⟨rfl, rfl⟩ := Prod.mk.inj hz
      obtain ⟨rfl, rfl⟩ := Prod.mk.inj hw
      refine O.set (t := 11) (.bool true) rfl (by rw [hg11]) <| O.gt rfl rfl <| O.fa rfl <| O.gt rfl rfl <| O.ldB2 rfl hb1.to rfl <| O.gt rfl rfl <| O.call rfl (integer_Sign_ok (mkI h2.to)) fun W4 v4 j4 e4 k4 => ?_
      subst k4
      have hci := @cq_iff z w
      have hcp := @cmpI_pos w
      refine O.gt rfl rfl <| O.gtr rfl rfl <| O.pickT rfl rfl <| O.mv rfl <| ?_
      by_cases hg17 : w > 0
      · skip
        refine O.set (t := 17) (.bool true) rfl (by simp only [Value.bool.injEq, decide_eq_true_eq]; omega) <| O.gt rfl rfl <| O.fa rfl <| O.gt rfl rfl <| O.ldB2 rfl hb1.to rfl <| O.gt rfl rfl <| O.fa rfl <| O.gt rfl rfl <| O.ldB2 rfl hb1.to rfl <| O.gt rfl rfl <| O.call rfl (integer_GCD_ok (mkI h1.to) (mkI h2.to) hlz hlw) fun W5 v5 j5 e5 k5 => O.gt rfl rfl <| O.call rfl (rational_isOne_ok k5) fun W6 v6 j6 e6 k6 => ?_
        subst k6
        refine O.pickT rfl rfl <| O.as rfl <| JO.nil <| J.ret1 rfl (.tmp rfl) fun W' iE iP => ?_
        exact ⟨_, rfl, by show _ ↔ ∃ x, (ci z, ci w) = cq x; rw [hci, decide_eq_true_eq]; exact ⟨fun h => ⟨hg17, h⟩, fun h => h.2⟩⟩
      · skip
        refine O.set (t := 17) (.bool false) rfl (by simp only [Value.bool.injEq, decide_eq_false_iff_not]; omega) <| O.gs rfl rfl rfl <| O.gs rfl rfl rfl <| O.gs rfl rfl rfl <| O.gs rfl rfl rfl <| O.gs rfl rfl rfl <| O.gs rfl rfl rfl <| O.pickF rfl rfl <| O.as rfl <| JO.nil <| J.ret1 rfl (.tmp rfl) fun W' iE iP => ?_
        exact ⟨false, rfl, by show _ ↔ ∃ x, (ci z, ci w) = cq x; rw [hci]; exact ⟨fun h => (nomatch h), fun h => absurd h.1 hg17⟩⟩
    · skip
      refine O.set (t := 11) (.bool false) rfl (by rw [Bool.eq_false_iff.2 hg11]) <| O.gs rfl rfl rfl <| O.gs rfl rfl rfl <| O.gs rfl rfl rfl <| O.gs rfl rfl rfl <| O.pickF rfl rfl <| O.mv rfl <| O.gs rfl rfl rfl <| O.gs rfl rfl rfl <| O.gs rfl rfl rfl <| O.gs rfl rfl rfl <| O.gs rfl rfl rfl <| O.gs rfl rfl rfl <| O.pickF rfl rfl <| O.as rfl <| JO.nil <| J.ret1 rfl (.tmp rfl) fun W' iE iP => ?_
      exact ⟨false, rfl, ⟨fun h => (nomatch h), fun ⟨x, hx⟩ => absurd (k3.2 ⟨_, (Prod.mk.inj hx).2⟩) hg11⟩⟩
  · skip
    refine O.set (t := 6) (.bool false) rfl (by rw [Bool.eq_false_iff.2 hg6]) <| O.gs rfl rfl rfl <| O.gs rfl rfl rfl <| O.gs rfl rfl rfl <| O.pickF rfl rfl <| O.mv rfl <| O.gs rfl rfl rfl <| O.gs rfl rfl rfl <| O.gs rfl rfl rfl <| O.gs rfl rfl rfl <| O.pickF rfl rfl <| O.mv rfl <| O.gs rfl rfl rfl <| O.gs rfl rfl rfl <| O.gs rfl rfl rfl <| O.gs rfl rfl rfl <| O.gs rfl rfl rfl <| O.gs rfl rfl rfl <| O.pickF rfl rfl <| O.as rfl <| JO.nil <| J.ret1 rfl (.tmp rfl) fun W' iE iP => ?_
    exact ⟨false, rfl, ⟨fun h => (nomatch h), fun ⟨x, hx⟩ => absurd (k2.2 ⟨_, (Prod.mk.inj hx).1⟩) hg6⟩⟩
theorem ref02_Valid_ok {W : GW} {v : Value} {i : Raw} (h : V RQ W v i) (hl : i.1.2.length ≤ 1099511627776) (hl' : i.2.2.length ≤ 1099511627776) :
    Ok Tryz.prog 29 [v] W fun W' r => ∃ b, r = .bool b ∧ (b = true ↔ ∃ x, i = cq x) := by
  obtain ⟨p1, n1, c1, p2, n2, c2, rfl, h1, h2⟩ := unQ h
  obtain ⟨⟨s1, l1⟩, ⟨s2, l2⟩⟩ := i
  dsimp only at *
  refine Ok.enter Tryz.func29 rfl rfl rfl rfl fun W0 iEn => ?_
  refine J.seq <| J.reg rfl <| O.box rfl fun W1 b1 j1 hb1 => O.as rfl <| JO.nil <| J.seq <| J.reg rfl <| O.fa rfl <| O.ldB2 rfl hb1.to rfl <| O.call rfl (ref01_Valid_ok (mkI h1.to)) fun W2 v2 j2 e2 k2 => ?_
  obtain ⟨b2, rfl, k2⟩ := k2
  refine O.mv rfl <| ?_
  by_cases hg6 : b2 = true
  · skip
    obtain ⟨z, hz⟩ := k2.1 hg6
    refine O.set (t := 6) (.bool true) rfl (by rw [hg6]) <| O.gt rfl rfl <| O.fa rfl <| O.gt rfl rfl <| O.ldB2 rfl hb1.to rfl <| O.gt rfl rfl <| O.call rfl (ref01_Valid_ok (mkI h2.to)) fun W3 v3 j3 e3 k3 => ?_
    obtain ⟨b3, rfl, k3⟩ := k3
    refine O.pickT rfl rfl <| O.mv rfl <| ?_
    by_cases hg11 : b3 = true
    · skip
      obtain ⟨w, hw⟩ := k3.1 hg11
      have hlz := ci_len hz hl
      have hlw := ci_len hw hl'
      obtain ⟨rfl, rfl⟩ := Prod.mk.inj hz
      obtain ⟨rfl, rfl⟩ := Prod.mk.inj hw
      refine O.set (t := 11) (.bool true) rfl (by rw [hg11]) <| O.gt rfl rfl <| O.fa rfl <| O.gt rfl rfl <| O.ldB2 rfl hb1.to rfl <| O.gt rfl rfl <| O.call rfl (ref01_Sign_ok (mkI h2.to)) fun W4 v4 j4 e4 k4 => ?_
      subst k4
      have hci := @cq_iff z w
      have hcp := @cmpI_pos w
      refine O.gt rfl rfl <| O.gtr rfl rfl <| O.pickT rfl rfl <| O.mv rfl <| ?_
      by_cases hg17 : w > 0
      · skip
        refine O.set (t := 17) (.bool true) rfl (by simp only [Value.bool.injEq, decide_eq_true_eq]; omega) <| O.gt rfl rfl <| O.fa rfl <| O.gt rfl rfl <| O.ldB2 rfl hb1.to rfl <| O.gt rfl rfl <| O.fa rfl <| O.gt rfl rfl <| O.ldB2 rfl hb1.to rfl <| O.gt rfl rfl <| O.call rfl (ref01_GCD_ok (mkI h1.to) (mkI h2.to) hlz hlw) fun W5 v5 j5 e5 k5 => O.gt rfl rfl <| O.call rfl (ref02_one_ok k5) fun W6 v6 j6 e6 k6 => ?_
        subst k6
        refine O.pickT rfl rfl <| O.as rfl <| JO.nil <| J.ret1 rfl (.tmp rfl) fun W' iE iP => ?_
        exact ⟨_, rfl, by show _ ↔ ∃ x, (ci z, ci w) = cq x; rw [hci, decide_eq_true_eq]; exact ⟨fun h => ⟨hg17, h⟩, fun h => h.2⟩⟩
      · skip
        refine O.set (t := 17) (.bool false) rfl (by simp only [Value.bool.injEq, decide_eq_false_iff_not]; omega) <| O.gs rfl rfl rfl <| O.gs rfl rfl rfl <| O.gs rfl rfl rfl <| O.gs rfl rfl rfl <| O.gs rfl rfl rfl <| O.gs rfl rfl rfl <| O.pickF rfl rfl <| O.as rfl <| JO.nil <| J.ret1 rfl (.tmp rfl) fun W' iE iP => ?_
        exact ⟨false, rfl, by show _ ↔ ∃ x, (ci z, ci w) = cq x; rw [hci]; exact ⟨fun h => (nomatch h), fun h => absurd h.1 hg17⟩⟩
    · skip
      refine O.set (t := 11) (.bool false) rfl (by rw [Bool.eq_false_iff.2 hg11]) <| O.gs rfl rfl rfl <| O.gs rfl rfl rfl <| O.gs rfl rfl rfl <| O.gs rfl rfl rfl <| O.pickF rfl rfl <| O.mv rfl <| O.gs rfl rfl rfl <| O.gs rfl rfl rfl <| O.gs rfl rfl rfl <| O.gs rfl rfl rfl <| O.gs rfl rfl rfl <| O.gs rfl rfl rfl <| O.pickF rfl rfl <| O.as rfl <| JO.nil <| J.ret1 rfl (.tmp rfl) fun W' iE iP => ?_
      exact ⟨false, rfl, ⟨fun h => (nomatch h), fun ⟨x, hx⟩ => absurd (k3.2 ⟨_, (Prod.mk.inj hx).2⟩) hg11⟩⟩
  · skip
    refine O.set (t := 6) (.bool false) rfl (by rw [Bool.eq_false_iff.2 hg6]) <| O.gs rfl rfl rfl <| O.gs rfl rfl rfl <| O.gs rfl rfl rfl <| O.pickF rfl rfl <| O.mv rfl <| O.gs rfl rfl rfl <| O.gs rfl rfl rfl <| O.gs rfl rfl rfl <| O.gs rfl rfl rfl <| O.pickF rfl rfl <| O.mv rfl <| O.gs rfl rfl rfl <| O.gs rfl rfl rfl <| O.gs rfl rfl rfl <| O.gs rfl rfl rfl <| O.gs rfl rfl rfl <| O.gs rfl rfl rfl <| O.pickF rfl rfl <| O.as rfl <| JO.nil <| J.ret1 rfl (.tmp rfl) fun W' iE iP => ?_
    exact ⟨false, rfl, ⟨fun h => (nomatch h), fun ⟨x, hx⟩ => absurd (k2.2 ⟨_, (Prod.mk.inj hx).1⟩) hg6⟩⟩

theorem ref02_SameInt_ok {W : GW} {v v' : Value} {i j : Bool × List Nat} (h : V RI W v i) (h' : V RI W v' j) :
    Ok Tryz.prog 76 [v, v'] W fun W' r => r = .bool (decide (i = j)) := by
  obtain ⟨p, m, c, rfl, hs⟩ := unI h
  obtain ⟨p', m', c', rfl, hs'⟩ := unI h'
  obtain ⟨s, l⟩ := i
  obtain ⟨s', l'⟩ := j
  replace hs : Sl RW W p m c l := hs
  replace hs' : Sl RW W p' m' c' l' := hs'
  have hn := hs.hn
  have hn' := hs'.hn
  have hC := hs.hC
  have hcc := hs.hc
  refine Ok.enter Tryz.func76 rfl rfl rfl rfl fun W0 iEn => ?_
  refine J.seq <| J.reg rfl <| O.box rfl fun W1 b1 i1 hb1 => O.box rfl fun W2 b2 i2 hb2 => O.as rfl <| JO.nil <| J.seq <| J.seq <| J.reg rfl <| O.fa rfl <| O.ldB rfl hb1.to rfl <| O.fa rfl <| O.ldB rfl hb2.to rfl <| O.bne rfl rfl <| O.mv rfl <| ?_
  by_cases hg11 : s ≠ s'
  · skip
    refine O.set (t := 11) (.bool true) rfl (by simp [hg11]) <| O.gs rfl rfl rfl <| O.gs rfl rfl rfl <| O.gs rfl rfl rfl <| O.gs rfl rfl rfl <| O.gs rfl rfl rfl <| O.gs rfl rfl rfl <| O.gs rfl rfl rfl <| O.pickT rfl rfl <| JO.nil <| J.condT rfl <| J.seq <| J.reg rfl <| O.as rfl <| JO.nil <| J.ret1 rfl (.tmp rfl) fun W' iE iP => ?_
    congr 1
    refine (decide_eq_false fun he => hg11 (Prod.mk.inj he).1).symm
  · skip
    refine O.set (t := 11) (.bool false) rfl (by simp at hg11; simp [hg11]) <| O.gt rfl rfl <| O.fa rfl <| O.gt rfl rfl <| O.ldB rfl hb1.to rfl <| O.gt rfl rfl <| O.len rfl <| O.gt rfl rfl <| O.fa rfl <| O.gt rfl rfl <| O.ldB rfl hb2.to rfl <| O.gt rfl rfl <| O.len rfl <| O.gt rfl rfl <| O.ne rfl rfl <| O.pickF rfl rfl <| JO.nil <| J.condD rfl (fun h19 => ?_) (fun h19 => ?_)
    · skip
      refine J.seq <| J.reg rfl <| O.as rfl <| JO.nil <| J.ret1 rfl (.tmp rfl) fun W' iE iP => ?_
      congr 1
      refine (decide_eq_false fun he => ?_).symm
      have := congrArg List.length (Prod.mk.inj he).2
      omega
    · skip
      refine J.skip <| J.seq <| J.seq <| J.reg rfl <| O.as rfl <| JO.nil <| J.block <| ?_
      refine J.loop (α := Nat) (fun k => [(2, .pointer (some ⟨b1, 0, none⟩)), (3, .pointer (some ⟨b2, 0, none⟩)), (5, .int .i64 (k : Int))]) (fun k W' => Le W2 W' ∧ Le W1 W' ∧ Le W0 W' ∧ k ≤ m ∧ l.take k = l'.take k) (fun k => m - k) 0 ⟨rfl, rfl, rfl, trivial⟩ ⟨inferInstance, inferInstance, inferInstance, Nat.zero_le _, rfl⟩ ?_
      rintro k W3 ⟨_, _, _, hk, hd⟩
      refine J.seq <| J.seq <| J.reg rfl <| O.mv rfl <| O.fa rfl <| O.ldB rfl hb1.to rfl <| O.len rfl <| O.lt rfl rfl <| JO.nil <| J.condD rfl (fun h24 => ?_) (fun h24 => ?_)
      · skip
        obtain ⟨u, hu⟩ := xat (l := l) (k := k) (by omega)
        obtain ⟨v, hv⟩ := xat (l := l') (k := k) (by omega)
        obtain ⟨bx, ox, rfl, hjx, hwx⟩ := hs.word hu
        obtain ⟨by', oy, rfl, hjy, hwy⟩ := hs'.word hv
        refine J.skip <| J.seq <| J.block <| J.seq <| ?_
        refine J.sub [(2, _), (3, _), (5, _)] ⟨rfl, rfl, rfl, trivial⟩ ?_
        refine J.draw [.ex _, .ex _, .ex _, .ex _, .ex _, .ex _, .ex _, .ex _, .ex _, .ex _, .ex _] rfl rfl ⟨fun W1 i1 e1 _ => O.fa rfl <| D.ex, fun W1 i1 e1 _ => O.ldB rfl hb1.to rfl <| D.ex, fun W1 i1 e1 _ => O.mv rfl <| D.ex, fun W1 i1 e1 _ => O.ia (j := k) rfl rfl rfl hjx <| D.ex, fun W1 i1 e1 _ => O.ldC rfl (hwx _ Lf.s) <| D.ex, fun W1 i1 e1 _ => O.fa rfl <| D.ex, fun W1 i1 e1 _ => O.ldB rfl hb2.to rfl <| D.ex, fun W1 i1 e1 _ => O.mv rfl <| D.ex, fun W1 i1 e1 _ => O.ia (j := k) rfl rfl rfl hjy <| D.ex, fun W1 i1 e1 _ => O.ldC rfl (hwy _ Lf.s) <| D.ex, fun W1 i1 e1 _ => O.ne rfl rfl <| D.ex, trivial⟩ ?_
        intro W1 i1 e1
        refine JO.nil <| J.condD rfl (fun h37 => ?_) (fun h37 => ?_)
        · skip
          refine J.seq <| J.reg rfl <| O.as rfl <| JO.nil <| J.ret1 rfl (.tmp rfl) fun W' iE iP => ?_
          congr 1
          refine (decide_eq_false fun he => h37 ?_).symm
          have := (Prod.mk.inj he).2
          rw [this, hv] at hu
          injection hu with hu
          omega
        · skip
          refine J.skip <| J.bend <| J.reg rfl <| O.mv rfl <| O.add rfl rfl (wI (by omega)) <| O.as rfl <| JO.nil <| ?_
          have huv : u = v := by omega
          have hd2 : l.take (k + 1) = l'.take (k + 1) := by
            rw [List.take_add_one, List.take_add_one, hd, hu, hv, huv]
          exact J.at' (k + 1) ⟨rfl, rfl, rfl, trivial⟩ ⟨⟨inferInstance, inferInstance, inferInstance, by omega, hd2⟩, by omega⟩
      · skip
        refine J.exit rfl <| J.seq <| J.reg rfl <| O.as rfl <| JO.nil <| J.ret1 rfl (.tmp rfl) fun W' iE iP => ?_
        have hkm : k = m := by omega
        rw [hkm, List.take_of_length_le (by omega), List.take_of_length_le (by omega)] at hd
        congr 1
        simp at hg11
        rw [hd, hg11]
        simp
theorem ref02_Same_ok {W : GW} {v v' : Value} {i j : Raw} (h : V RQ W v i) (h' : V RQ W v' j) :
    Ok Tryz.prog 45 [v, v'] W fun W' r => r = .bool (decide (i = j)) := by
  obtain ⟨p1, n1, c1, p2, n2, c2, rfl, h1, h2⟩ := unQ h
  obtain ⟨p3, n3, c3, p4, n4, c4, rfl, h3, h4⟩ := unQ h'
  obtain ⟨i1, i2⟩ := i
  obtain ⟨j1, j2⟩ := j
  dsimp only at *
  refine Ok.enter Tryz.func45 rfl rfl rfl rfl fun W0 iEn => ?_
  refine J.seq <| J.reg rfl <| O.box rfl fun W1 b1 q1 hb1 => O.box rfl fun W2 b2 q2 hb2 => O.as rfl <| JO.nil <| J.seq <| J.reg rfl <| O.fa rfl <| O.ldB2 rfl hb1.to rfl <| O.fa rfl <| O.ldB2 rfl hb2.to rfl <| O.call rfl (ref02_SameInt_ok (mkI h1.to) (mkI h3.to)) fun W3 v3 q3 e3 k3 => ?_
  subst k3
  refine O.mv rfl <| ?_
  by_cases hg10 : i1 = j1
  · skip
    refine O.set (t := 10) (.bool true) rfl (by simp only [Value.bool.injEq, decide_eq_true_eq, decide_eq_false_iff_not]; omega) <| O.gt rfl rfl <| O.fa rfl <| O.gt rfl rfl <| O.ldB2 rfl hb1.to rfl <| O.gt rfl rfl <| O.fa rfl <| O.gt rfl rfl <| O.ldB2 rfl hb2.to rfl <| O.gt rfl rfl <| O.call rfl (ref02_SameInt_ok (mkI h2.to) (mkI h4.to)) fun W4 v4 q4 e4 k4 => ?_
    subst k4
    refine O.pickT rfl rfl <| O.as rfl <| JO.nil <| J.ret1 rfl (.tmp rfl) fun W' iE iP => ?_
    congr 1
    apply decide_eq_decide.2
    rw [hg10]
    exact ⟨fun h => by rw [show i2 = j2 from h], fun h => (Prod.mk.inj h).2⟩
  · skip
    refine O.set (t := 10) (.bool false) rfl (by simp only [Value.bool.injEq, decide_eq_true_eq, decide_eq_false_iff_not]; omega) <| O.gs rfl rfl rfl <| O.gs rfl rfl rfl <| O.gs rfl rfl rfl <| O.gs rfl rfl rfl <| O.gs rfl rfl rfl <| O.pickF rfl rfl <| O.as rfl <| JO.nil <| J.ret1 rfl (.tmp rfl) fun W' iE iP => ?_
    congr 1
    refine (decide_eq_false fun he => hg10 (Prod.mk.inj he).1).symm
theorem same_cq {x y : Rat} : decide (cq x = cq y) = decide (x = y) := decide_eq_decide.2 ⟨cq_inj, fun h => by rw [h]⟩
end Go.Proofs.YtcobdnnfmhfenaaGreat

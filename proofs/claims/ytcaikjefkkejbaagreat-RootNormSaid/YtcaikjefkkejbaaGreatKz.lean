/- The reference's integers, fifth part: sums, products, quotients. -/
import Derived.Test.YtcaikjefkkejbaaGreatKd
import Derived.Test.YtcaikjefkkejbaaGreatRl
set_option linter.unusedVariables false
set_option linter.unusedSimpArgs false
set_option maxRecDepth 10000
set_option maxHeartbeats 2000000
namespace Go.Proofs.YtcaikjefkkejbaaGreat
open Go Go.Rx Go.Num
/-- plus: the sum. -/
theorem ref01_plus_ok {W : GW} {p q : Option Addr} {m c m' c' x y : Nat} (h : Sl RW W p m c (dig x)) (h' : Sl RW W q m' c' (dig y)) (hx : (dig x).length ≤ 1099511627776) (hy : (dig y).length ≤ 1099511627776) :
    Ok Tryz.prog 143 [.slice p m c, .slice q m' c'] W fun W' v => V (RSl RW) W' v (dig (x + y)) := by
  refine Ok.enter Tryz.func143 rfl rfl rfl rfl fun W0 iEn => ?_
  refine J.seq <| J.reg rfl <| O.as rfl <| JO.nil <| J.seq <| J.seq <| J.reg rfl <| O.mv rfl <| O.len rfl <| O.mv rfl <| O.len rfl <| O.lt rfl rfl <| JO.nil <| ?_
  refine J.cut (α := (Option Addr × Nat × Nat × Nat) × Option Addr × Nat × Nat × Nat) (fun q => [(0, .slice q.1.1 q.1.2.1 q.1.2.2.1), (1, .slice q.2.1 q.2.2.1 q.2.2.2.1)]) (fun q W => W = W0 ∧ Sl RW W q.1.1 q.1.2.1 q.1.2.2.1 (dig q.1.2.2.2) ∧ Sl RW W q.2.1 q.2.2.1 q.2.2.2.1 (dig q.2.2.2.2) ∧ q.1.2.2.2 + q.2.2.2.2 = x + y ∧ q.2.2.1 ≤ q.1.2.1 ∧ q.1.2.1 ≤ 1099511627776) ?_ ?_
  · skip
    refine J.condD rfl (fun h12 => ?_) (fun h12 => ?_)
    · skip
      refine J.reg rfl <| O.mv rfl <| O.mv rfl <| O.as rfl <| O.as rfl <| JO.nil <| ?_
      exact J.at' ((q, m', c', y), p, m, c, x) ⟨rfl, rfl, trivial⟩ ⟨rfl, h'.to, h.to, Nat.add_comm _ _, by show m ≤ m'; omega, by show m' ≤ _; rw [h'.hn]; exact hy⟩
    · skip
      refine J.skip <| ?_
      exact J.at' ((p, m, c, x), q, m', c', y) ⟨rfl, rfl, trivial⟩ ⟨rfl, h.to, h'.to, rfl, by show m' ≤ m; omega, by show m ≤ _; rw [h.hn]; exact hx⟩
  · skip
    rintro ⟨⟨p1, n1, c1, x1⟩, p2, n2, c2, x2⟩ W1 ⟨rfl, h1, h2, hsum, hle, hbig⟩
    dsimp only at *
    have hn1 := h1.hn
    have hn2 := h2.hn
    refine J.seq <| J.reg rfl <| O.mv rfl <| O.len rfl <| O.add rfl rfl (wI (by omega)) <| O.mk (r := RW) (m := n1 + 1) (c := n1 + 1) 0 rfl rfl rfl rfl (by omega) (by omega) (by omega) rfl rfl (by decide) (fun _ => ⟨rfl, by decide⟩) fun W2 b2 i2 e2 hb2 ho0 => O.as rfl <| JO.nil <| J.seq <| J.reg rfl <| O.as rfl <| JO.nil <| J.seq <| J.seq <| J.reg rfl <| O.as rfl <| JO.nil <| J.block <| ?_
    refine J.loop (α := Nat × List Nat × Nat) (fun g => [(0, .slice p1 n1 c1), (1, .slice p2 n2 c2), (5, .slice (some ⟨b2, 0, none⟩) (n1 + 1) (n1 + 1)), (6, .int .u64 (g.2.2 : Int)), (7, .int .i64 (g.1 : Int))]) (fun g W => Le W1 W ∧ Ows RW W (some ⟨b2, 0, none⟩) (n1 + 1) (n1 + 1) g.2.1 ∧ g.1 ≤ n1 ∧ g.2.2 ≤ 1 ∧ val (g.2.1.take g.1) + 4294967296 ^ g.1 * g.2.2 = val ((dig x1).take g.1) + val ((dig x2).take g.1)) (fun g => n1 - g.1) (0, List.replicate (n1 + 1) 0, 0) ⟨rfl, rfl, rfl, rfl, rfl, trivial⟩ ⟨inferInstance, ho0, Nat.zero_le _, Nat.zero_le _, rfl⟩ ?_
    rintro ⟨k, lo, cr⟩ W3 ⟨_, ho, hk, hcr, hval⟩
    dsimp only at *
    have hlo := ho.hn
    refine J.seq <| J.seq <| J.reg rfl <| O.mv rfl <| O.mv rfl <| O.len rfl <| O.lt rfl rfl <| JO.nil <| J.condD rfl (fun h22 => ?_) (fun h22 => ?_)
    · skip
      obtain ⟨u, hu⟩ := xat (l := dig x1) (k := k) (by omega)
      have hub := words_dig x1 u (List.mem_of_getElem? hu)
      refine J.skip <| J.seq <| J.block <| J.seq <| J.reg rfl <| O.mv rfl <| O.mv rfl <| O.mv rfl <| O.ixW (j := k) rfl rfl rfl h1.to hu fun a1 => O.cv rfl (wU (by omega)) <| O.add (r := ((cr + u : Nat) : Int)) rfl rfl ((wU (by omega)).trans (by omega)) <| O.as rfl <| JO.nil <| J.seq <| J.seq <| J.reg rfl <| O.mv rfl <| O.mv rfl <| O.len rfl <| O.lt rfl rfl <| JO.nil <| ?_
      refine J.cut (α := Nat) (fun s => [(0, .slice p1 n1 c1), (1, .slice p2 n2 c2), (5, .slice (some ⟨b2, 0, none⟩) (n1 + 1) (n1 + 1)), (6, .int .u64 (s : Int)), (7, .int .i64 (k : Int))]) (fun s W => W = W3 ∧ s < 8589934592 ∧ 4294967296 ^ k * s + val (lo.take k) = val ((dig x1).take (k + 1)) + val ((dig x2).take (k + 1))) ?_ ?_
      · skip
        refine J.condD rfl (fun h35 => ?_) (fun h35 => ?_)
        · skip
          obtain ⟨u2, hu2⟩ := xat (l := dig x2) (k := k) (by omega)
          have hub2 := words_dig x2 u2 (List.mem_of_getElem? hu2)
          refine J.reg rfl <| O.mv rfl <| O.mv rfl <| O.mv rfl <| O.ixW (j := k) rfl rfl rfl h2.to hu2 fun a2 => O.cv rfl (wU (by omega)) <| O.add (r := ((cr + u + u2 : Nat) : Int)) rfl rfl ((wU (by omega)).trans (by omega)) <| O.as rfl <| JO.nil <| ?_
          exact J.at' (cr + u + u2) ⟨rfl, rfl, rfl, rfl, rfl, trivial⟩ ⟨rfl, by omega, by rw [val_take_succ hu, val_take_succ hu2, Nat.mul_add, Nat.mul_add]; omega⟩
        · skip
          refine J.skip <| ?_
          exact J.at' (cr + u) ⟨rfl, rfl, rfl, rfl, rfl, trivial⟩ ⟨rfl, by omega, by rw [val_take_succ hu, take_ge (l := dig x2) (by omega), Nat.mul_add]; omega⟩
      · skip
        rintro s W4 ⟨rfl, hs, hsv⟩
        refine J.seq <| J.reg rfl <| O.mv rfl <| O.mv rfl <| O.mv rfl <| O.cv (r := ((s % 4294967296 : Nat) : Int)) rfl ((wWm _).trans (by omega)) <| O.iaB (r := RW) (j := k) rfl rfl rfl ho (by omega) rfl <| O.sto (r := RW) (j := k) (u := s % 4294967296) rfl rfl ho (by omega) (rwv _ (by omega)) rfl (.inr rfl) fun W5 i5 o5 => JO.nil <| J.reg rfl <| O.mv rfl <| O.shr rfl rfl (by decide) (shr32 s) <| O.as rfl <| JO.nil <| J.bend <| J.reg rfl <| O.mv rfl <| O.add rfl rfl (wI (by omega)) <| O.as rfl <| JO.nil <| ?_
        have hval2 : val ((lo.set k (s % 4294967296)).take (k + 1)) + 4294967296 ^ (k + 1) * (s / 4294967296) = val ((dig x1).take (k + 1)) + val ((dig x2).take (k + 1)) := by
          rw [val_set (by omega), ← hsv, Nat.pow_succ, Nat.mul_assoc]
          have e2 : 4294967296 ^ k * s = 4294967296 ^ k * (s % 4294967296) + 4294967296 ^ k * (4294967296 * (s / 4294967296)) := by rw [← Nat.mul_add]; congr 1; omega
          omega
        exact J.at' (k + 1, lo.set k (s % 4294967296), s / 4294967296) ⟨rfl, rfl, rfl, rfl, rfl, trivial⟩ ⟨⟨inferInstance, o5, by show k + 1 ≤ n1; omega, by show s / 4294967296 ≤ 1; omega, hval2⟩, by show n1 - (k + 1) < n1 - k; omega⟩
    · skip
      have hkn : k = n1 := by omega
      subst hkn
      rw [List.take_of_length_le (l := dig x1) (by omega), List.take_of_length_le (l := dig x2) (by omega), val_dig, val_dig, hsum] at hval
      refine J.exit rfl <| J.seq <| J.reg rfl <| O.mv rfl <| O.mv rfl <| O.len rfl <| O.mv rfl <| O.cv (r := ((cr : Nat) : Int)) rfl (wW (by omega)) <| O.iaB (r := RW) (j := k) rfl rfl rfl ho (by omega) rfl <| O.sto (r := RW) (j := k) (u := cr) rfl rfl ho (by omega) (rwv _ (by omega)) rfl (.inr rfl) fun W5 i5 o5 => JO.nil <| J.seq <| ?_
      have hfin : val (lo.set k cr) = x + y := by
        have := val_set (l := lo) (k := k) (d := cr) (by omega)
        rw [List.take_of_length_le (by rw [List.length_set]; omega)] at this
        rw [this, hval]
      refine J.pub o5 fun W6 i6 s6 => ?_
      refine J.reg rfl <| O.mv rfl <| O.call rfl (ref01_trim_ok s6) fun W7 v7 i7 e7 h7 => O.as rfl <| JO.nil <| J.ret1 rfl (.tmp rfl) fun W' iE iP => ?_
      rw [← hfin]
      exact h7.to
theorem ref01_Neg_ok {W : GW} {v : Value} {z : Int} (h : V RI W v (ci z)) : Ok Tryz.prog 76 [v] W fun W' r => V RI W' r (ci (-z)) := by
  obtain ⟨p, m, c, rfl, hs⟩ := unI h
  refine Ok.enter Tryz.func76 rfl rfl rfl rfl fun W0 iEn => ?_
  refine J.seq <| J.reg rfl <| O.box rfl fun W1 b1 i1 hb1 => O.alloc fun W2 b2 i2 hl2 hc2 hb2 => JO.nil <| J.seq <| J.reg rfl <| O.fa rfl <| O.ldB rfl hb1.to rfl <| O.not rfl <| O.fa rfl <| O.ldB rfl hb1.to rfl <| O.call rfl (ref01_signedd_ok (!decide (z < 0)) hs.to) fun W6 v6 i6 e6 h6 => ?_
  obtain ⟨p4, m4, c4, rfl, hs4⟩ := unI h6
  refine O.st rfl rfl hl2.to rfl (by simp [oneC, Value.cells]) fun W4 i4 hc4 => JO.nil <| J.ret1 rfl (.cell rfl hc4 rfl) fun W' iE iP => ?_
  rw [← sg_neg]
  exact mkI hs4.to
/-- Add -/
theorem ref01_Add_ok {W : GW} {v v' : Value} {z z' : Int} (h : V RI W v (ci z)) (h' : V RI W v' (ci z')) (hl : (dig z.natAbs).length ≤ 1099511627776) (hl' : (dig z'.natAbs).length ≤ 1099511627776) :
    Ok Tryz.prog 114 [v, v'] W fun W' r => V RI W' r (ci (z + z')) := by
  obtain ⟨p, m, c, rfl, hs⟩ := unI h
  obtain ⟨p', m', c', rfl, hs'⟩ := unI h'
  refine Ok.enter Tryz.func114 rfl rfl rfl rfl fun W0 iEn => ?_
  refine J.seq <| J.reg rfl <| O.boxE rfl fun W1 b1 i1 e1 hl1 hc1 hb1 => O.boxE rfl fun W2 b2 i2 e2 hl2 hc2 hb2 => O.allocE fun W3 b3 i3 e3 hl3 hc3 hb3 => JO.nil <| J.seq <| ?_
  have k1 := hc1.lt
  have k2 := hc2.lt
  have k3 := hc3.lt
  have q1 := (hc1.ext e2).ext e3
  have q2 := hc2.ext e3
  refine J.draw [.ex _, .rel _, .ex _] rfl rfl ⟨fun W1 i1 e1 _ => O.ldVw rfl (q1.ext e1) rfl <| D.ex, fun W1 i1 e1 _ => O.call rfl (ref01_Norm_ok (mkI hs.to)) fun W5 v5 i5 e5 h5 => D.rel e5 h5 V.me, fun W1 i1 e1 _ => O.ldVw rfl (q2.ext e1) rfl <| D.ex, trivial⟩ ?_
  intro W1 i1 e1 v6 h6
  refine O.call rfl (ref01_Norm_ok (mkI hs'.to)) fun W5 v5 i5 e5 h8 => ?_
  obtain ⟨pa, ma, ca, rfl, sa⟩ := unI h6
  obtain ⟨pb, mb, cb, rfl, sb⟩ := unI h8
  skip
  refine O.stPF rfl rfl hl1.to rfl (by simp [oneC, Value.cells]) fun W6 i6 B1 F1 => ?_
  have l2 := F1.loc hl2.to (by omega)
  have l3 := F1.loc hl3.to (by omega)
  refine O.stPF rfl rfl l2 rfl (by simp [oneC, Value.cells]) fun W7 i7 B2 F2 => ?_
  have l3 := F2.loc l3 (by omega)
  replace sa : Sl RW _ pa ma ca (dig z.natAbs) := sa
  replace sb : Sl RW _ pb mb cb (dig z'.natAbs) := sb
  refine JO.nil <| J.seq <| J.seq <| J.reg rfl <| O.fa rfl <| O.ldB rfl B1.to rfl <| O.fa rfl <| O.ldB rfl B2.to rfl <| O.beq rfl rfl <| JO.nil <| J.cond rfl (fun h13 => ?_) (fun h13 => ?_)
  · skip
    refine J.seq <| ?_
    refine J.sub [(2, _), (3, _), (4, _)] ⟨rfl, rfl, rfl, trivial⟩ ?_
    refine J.draw [.ex _, .ex _, .ex _, .ex _, .ex _, .ex _, .rel _] rfl rfl ⟨fun W1 i1 e1 _ => O.fa rfl <| D.ex, fun W1 i1 e1 _ => O.ldB rfl B1.to rfl <| D.ex, fun W1 i1 e1 _ => O.fa rfl <| D.ex, fun W1 i1 e1 _ => O.ldB rfl B1.to rfl <| D.ex, fun W1 i1 e1 _ => O.fa rfl <| D.ex, fun W1 i1 e1 _ => O.ldB rfl B2.to rfl <| D.ex, fun W1 i1 e1 _ => O.call rfl (ref01_plus_ok sa.to sb.to hl hl') fun W5 v5 i5 e5 h5 => D.rel e5 h5 V.me, trivial⟩ ?_
    intro W1 i1 e1 v20 h20
    obtain ⟨pc, mc, cc, rfl, sc⟩ := h20.sl
    refine O.call rfl (ref01_signedd_ok (decide (z < 0)) sc.to) fun W8 v8 i8 e8 h8 => ?_
    obtain ⟨p4, m4, c4, rfl, hs4⟩ := unI h8
    skip
    refine O.st rfl rfl l3.to rfl (by simp [oneC, Value.cells]) fun W4 i4 hc4 => JO.nil <| J.ret1 rfl (.cell rfl hc4 rfl) fun W' iE iP => ?_
    rw [← sg_add (beq_iff_eq.1 h13)]
    exact mkI hs4.to
  · skip
    have hne : decide (z < 0) ≠ decide (z' < 0) := fun e => by have e2 : (decide (z < 0) == decide (z' < 0)) = false := h13; rw [e] at e2; simp at e2
    refine J.skip <| J.seq <| J.seq <| J.reg rfl <| O.fa rfl <| O.ldB rfl B1.to rfl <| O.fa rfl <| O.ldB rfl B2.to rfl <| O.call rfl (ref01_compare_ok sa.to sb.to) fun W5 v5 i5 e5 h5 => ?_
    subst h5
    refine O.ge rfl rfl <| JO.nil <| J.condD rfl (fun h27 => ?_) (fun h27 => ?_)
    · skip
      have hle : z'.natAbs ≤ z.natAbs := Nat.le_of_not_lt fun e => absurd h27 (by have := cmpI_neg.2 e; omega)
      refine J.sub [(2, _), (3, _), (4, _)] ⟨rfl, rfl, rfl, trivial⟩ ?_
      refine J.seq <| ?_
      refine J.draw [.ex _, .ex _, .ex _, .ex _, .ex _, .ex _, .rel _] rfl rfl ⟨fun W1 i1 e1 _ => O.fa rfl <| D.ex, fun W1 i1 e1 _ => O.ldB rfl B1.to rfl <| D.ex, fun W1 i1 e1 _ => O.fa rfl <| D.ex, fun W1 i1 e1 _ => O.ldB rfl B1.to rfl <| D.ex, fun W1 i1 e1 _ => O.fa rfl <| D.ex, fun W1 i1 e1 _ => O.ldB rfl B2.to rfl <| D.ex, fun W1 i1 e1 _ => O.call rfl (ref01_minus_ok sa.to sb.to (Nat.le_trans hl (by decide)) hle) fun W5 v5 i5 e5 h5 => D.rel e5 h5 V.me, trivial⟩ ?_
      intro W1 i1 e1 v34 h34
      obtain ⟨pc, mc, cc, rfl, sc⟩ := h34.sl
      refine O.call rfl (ref01_signedd_ok (decide (z < 0)) sc.to) fun W8 v8 i8 e8 h8 => ?_
      obtain ⟨p4, m4, c4, rfl, hs4⟩ := unI h8
      skip
      refine O.st rfl rfl l3.to rfl (by simp [oneC, Value.cells]) fun W4 i4 hc4 => JO.nil <| J.ret1 rfl (.cell rfl hc4 rfl) fun W' iE iP => ?_
      rw [← sg_sub hne hle]
      exact mkI hs4.to
    · skip
      have hlt : z.natAbs < z'.natAbs := cmpI_neg.1 (by omega)
      refine J.sub [(2, _), (3, _), (4, _)] ⟨rfl, rfl, rfl, trivial⟩ ?_
      refine J.skip <| J.seq <| ?_
      refine J.draw [.ex _, .ex _, .ex _, .ex _, .ex _, .ex _, .rel _] rfl rfl ⟨fun W1 i1 e1 _ => O.fa rfl <| D.ex, fun W1 i1 e1 _ => O.ldB rfl B2.to rfl <| D.ex, fun W1 i1 e1 _ => O.fa rfl <| D.ex, fun W1 i1 e1 _ => O.ldB rfl B2.to rfl <| D.ex, fun W1 i1 e1 _ => O.fa rfl <| D.ex, fun W1 i1 e1 _ => O.ldB rfl B1.to rfl <| D.ex, fun W1 i1 e1 _ => O.call rfl (ref01_minus_ok sb.to sa.to (Nat.le_trans hl' (by decide)) (Nat.le_of_lt hlt)) fun W5 v5 i5 e5 h5 => D.rel e5 h5 V.me, trivial⟩ ?_
      intro W1 i1 e1 v42 h42
      obtain ⟨pc, mc, cc, rfl, sc⟩ := h42.sl
      refine O.call rfl (ref01_signedd_ok (decide (z' < 0)) sc.to) fun W8 v8 i8 e8 h8 => ?_
      obtain ⟨p4, m4, c4, rfl, hs4⟩ := unI h8
      skip
      refine O.st rfl rfl l3.to rfl (by simp [oneC, Value.cells]) fun W4 i4 hc4 => JO.nil <| J.ret1 rfl (.cell rfl hc4 rfl) fun W' iE iP => ?_
      rw [Int.add_comm, ← sg_sub hne.symm (Nat.le_of_lt hlt)]
      exact mkI hs4.to
theorem ref01_Sub_ok {W : GW} {v v' : Value} {z z' : Int} (h : V RI W v (ci z)) (h' : V RI W v' (ci z')) (hl : (dig z.natAbs).length ≤ 1099511627776) (hl' : (dig z'.natAbs).length ≤ 1099511627776) :
    Ok Tryz.prog 110 [v, v'] W fun W' r => V RI W' r (ci (z - z')) := by
  obtain ⟨p, m, c, rfl, hs⟩ := unI h
  obtain ⟨p', m', c', rfl, hs'⟩ := unI h'
  refine Ok.enter Tryz.func110 rfl rfl rfl rfl fun W0 iEn => ?_
  refine J.seq <| J.reg rfl <| O.box rfl fun W1 b1 i1 hb1 => O.box rfl fun W2 b2 i2 hb2 => O.alloc fun W3 b3 i3 hl3 hc3 hb3 => JO.nil <| J.seq <| ?_
  refine J.draw [.ex _, .ex _, .rel _] rfl rfl ⟨fun W1 i1 e1 _ => O.ldBw rfl hb1.to rfl <| D.ex, fun W1 i1 e1 _ => O.ldBw rfl hb2.to rfl <| D.ex, fun W1 i1 e1 _ => O.call rfl (ref01_Neg_ok (mkI hs'.to)) fun W5 v5 i5 e5 h5 => D.rel e5 h5 V.me, trivial⟩ ?_
  intro W1 i1 e1 v7 h7
  refine O.call rfl (ref01_Add_ok (z := z) (z' := -z') (mkI hs.to) h7.to hl (by rw [Int.natAbs_neg]; exact hl')) fun W5 v5 i5 e5 h8 => ?_
  obtain ⟨p4, m4, c4, rfl, hs4⟩ := unI h8
  skip
  refine O.st rfl rfl hl3.to rfl (by simp [oneC, Value.cells]) fun W4 i4 hc4 => JO.nil <| J.ret1 rfl (.cell rfl hc4 rfl) fun W' iE iP => ?_
  exact mkI hs4.to
/-- Mul -/
theorem ref01_Mul_ok {W : GW} {v v' : Value} {z z' : Int} (h : V RI W v (ci z)) (h' : V RI W v' (ci z')) (hl : (dig z.natAbs).length ≤ 1099511627776) (hl' : (dig z'.natAbs).length ≤ 1099511627776) :
    Ok Tryz.prog 73 [v, v'] W fun W' r => V RI W' r (ci (z * z')) := by
  obtain ⟨p, m, c, rfl, hs⟩ := unI h
  obtain ⟨p', m', c', rfl, hs'⟩ := unI h'
  refine Ok.enter Tryz.func73 rfl rfl rfl rfl fun W0 iEn => ?_
  refine J.seq <| J.reg rfl <| O.boxE rfl fun W1 b1 i1 e1 hl1 hc1 hb1 => O.boxE rfl fun W2 b2 i2 e2 hl2 hc2 hb2 => O.allocE fun W3 b3 i3 e3 hl3 hc3 hb3 => JO.nil <| J.seq <| ?_
  have k1 := hc1.lt
  have k2 := hc2.lt
  have k3 := hc3.lt
  have q1 := (hc1.ext e2).ext e3
  have q2 := hc2.ext e3
  refine J.draw [.ex _, .rel _, .ex _] rfl rfl ⟨fun W1 i1 e1 _ => O.ldVw rfl (q1.ext e1) rfl <| D.ex, fun W1 i1 e1 _ => O.call rfl (ref01_Norm_ok (mkI hs.to)) fun W5 v5 i5 e5 h5 => D.rel e5 h5 V.me, fun W1 i1 e1 _ => O.ldVw rfl (q2.ext e1) rfl <| D.ex, trivial⟩ ?_
  intro W1 i1 e1 v6 h6
  refine O.call rfl (ref01_Norm_ok (mkI hs'.to)) fun W5 v5 i5 e5 h8 => ?_
  obtain ⟨pa, ma, ca, rfl, sa⟩ := unI h6
  obtain ⟨pb, mb, cb, rfl, sb⟩ := unI h8
  skip
  refine O.stPF rfl rfl hl1.to rfl (by simp [oneC, Value.cells]) fun W6 i6 B1 F1 => ?_
  have l2 := F1.loc hl2.to (by omega)
  have l3 := F1.loc hl3.to (by omega)
  refine O.stPF rfl rfl l2 rfl (by simp [oneC, Value.cells]) fun W7 i7 B2 F2 => ?_
  have l3 := F2.loc l3 (by omega)
  replace sa : Sl RW _ pa ma ca (dig z.natAbs) := sa
  replace sb : Sl RW _ pb mb cb (dig z'.natAbs) := sb
  refine JO.nil <| J.seq <| ?_
  refine J.sub [(2, _), (3, _), (4, _)] ⟨rfl, rfl, rfl, trivial⟩ ?_
  refine J.draw [.ex _, .ex _, .ex _, .ex _, .ex _, .ex _, .ex _, .ex _, .ex _, .rel _] rfl rfl ⟨fun W1 i1 e1 _ => O.fa rfl <| D.ex, fun W1 i1 e1 _ => O.ldB rfl B1.to rfl <| D.ex, fun W1 i1 e1 _ => O.fa rfl <| D.ex, fun W1 i1 e1 _ => O.ldB rfl B2.to rfl <| D.ex, fun W1 i1 e1 _ => O.bne rfl rfl <| D.ex, fun W1 i1 e1 _ => O.fa rfl <| D.ex, fun W1 i1 e1 _ => O.ldB rfl B1.to rfl <| D.ex, fun W1 i1 e1 _ => O.fa rfl <| D.ex, fun W1 i1 e1 _ => O.ldB rfl B2.to rfl <| D.ex, fun W1 i1 e1 _ => O.call rfl (ref01_times_ok sa.to sb.to (Nat.le_trans hl (by decide)) (Nat.le_trans hl' (by decide))) fun W5 v5 i5 e5 h5 => D.rel e5 h5 V.me, trivial⟩ ?_
  intro W1 i1 e1 v18 h18
  obtain ⟨pc, mc, cc, rfl, sc⟩ := h18.sl
  refine O.call rfl (ref01_signedd_ok (decide (z < 0) != decide (z' < 0)) sc.to) fun W8 v8 i8 e8 h8 => ?_
  obtain ⟨p4, m4, c4, rfl, hs4⟩ := unI h8
  skip
  refine O.st rfl rfl l3.to rfl (by simp [oneC, Value.cells]) fun W4 i4 hc4 => JO.nil <| J.ret1 rfl (.cell rfl hc4 rfl) fun W' iE iP => ?_
  rw [← sg_mul]
  exact mkI hs4.to
theorem fd_uniq {z b q r : Int} (e : b * q + r = z) (h : (0 ≤ r ∧ r < b) ∨ (b < r ∧ r ≤ 0)) : z.fdiv b = q ∧ z.fmod b = r := by
  rcases h with ⟨h1, h2⟩ | ⟨h1, h2⟩
  · rw [Int.fdiv_eq_ediv_of_nonneg _ (by omega), Int.fmod_eq_emod_of_nonneg _ (by omega)]
    exact (Int.ediv_emod_unique (a := z) (b := b) (by omega)).2 ⟨by rw [Int.add_comm]; exact e, h1, h2⟩
  · have h3 : (-z).fdiv (-b) = q ∧ (-z).fmod (-b) = -r := by
      rw [Int.fdiv_eq_ediv_of_nonneg _ (by omega), Int.fmod_eq_emod_of_nonneg _ (by omega)]
      exact (Int.ediv_emod_unique (a := -z) (b := -b) (by omega)).2 ⟨by rw [← e, Int.neg_mul]; omega, by omega, by omega⟩
    rw [Int.neg_fdiv_neg, Int.neg_fmod_neg] at h3
    exact ⟨h3.1, by omega⟩
theorem qr0 {z b : Int} (hb : b ≠ 0) : z - sg (decide (z < 0) != decide (b < 0)) (z.natAbs / b.natAbs) * b = sg (decide (z < 0)) (z.natAbs % b.natAbs) := by
  have e := Nat.div_add_mod z.natAbs b.natAbs
  have hz : z = sg (decide (z < 0)) z.natAbs := by unfold sg; by_cases h : z < 0 <;> simp [h] <;> omega
  have hb : b = sg (decide (b < 0)) b.natAbs := by unfold sg; by_cases h : b < 0 <;> simp [h] <;> omega
  generalize decide (z < 0) = dz at *
  generalize decide (b < 0) = db at *
  generalize z.natAbs = A at *
  generalize b.natAbs = B at *
  generalize A / B = q at *
  generalize A % B = r at *
  have e2 : (A : Int) = (B : Int) * q + r := by rw [← e]; push_cast; rfl
  subst hz
  subst hb
  cases dz <;> cases db <;> simp [sg, e2] <;> grind
theorem sg_na (b : Bool) (n : Nat) : (sg b n).natAbs = n := by cases b <;> simp [sg]
theorem fdm_up {z b : Int} (hb : b ≠ 0) (h : cmpI (sg (decide (z < 0)) (z.natAbs % b.natAbs)) 0 * cmpI b 0 < 0) :
    sg (decide (z < 0) != decide (b < 0)) (z.natAbs / b.natAbs) - 1 = z.fdiv b ∧ sg (decide (z < 0)) (z.natAbs % b.natAbs) + b = z.fmod b := by
  have h0 := @qr0 z b hb
  have h1 := sg_na (decide (z < 0)) (z.natAbs % b.natAbs)
  have h2 := Nat.mod_lt z.natAbs (y := b.natAbs) (by omega)
  generalize sg (decide (z < 0)) (z.natAbs % b.natAbs) = r at *
  generalize sg (decide (z < 0) != decide (b < 0)) (z.natAbs / b.natAbs) = q at *
  have := fd_uniq (z := z) (b := b) (q := q - 1) (r := r + b) (by rw [← Int.sub_add_cancel z (q * b), h0]; grind) (by
    unfold cmpI at h
    repeat' split at h
    all_goals first | omega | (left; omega) | (right; omega))
  exact ⟨this.1.symm, this.2.symm⟩
theorem fdm_at {z b : Int} (hb : b ≠ 0) (h : ¬ cmpI (sg (decide (z < 0)) (z.natAbs % b.natAbs)) 0 * cmpI b 0 < 0) :
    sg (decide (z < 0) != decide (b < 0)) (z.natAbs / b.natAbs) = z.fdiv b ∧ sg (decide (z < 0)) (z.natAbs % b.natAbs) = z.fmod b := by
  have h0 := @qr0 z b hb
  have h1 := sg_na (decide (z < 0)) (z.natAbs % b.natAbs)
  have h2 := Nat.mod_lt z.natAbs (y := b.natAbs) (by omega)
  generalize sg (decide (z < 0)) (z.natAbs % b.natAbs) = r at *
  generalize sg (decide (z < 0) != decide (b < 0)) (z.natAbs / b.natAbs) = q at *
  have := fd_uniq (z := z) (b := b) (q := q) (r := r) (by rw [← Int.sub_add_cancel z (q * b), h0]; grind) (by
    unfold cmpI at h
    repeat' split at h
    all_goals first | omega | (left; omega) | (right; omega))
  exact ⟨this.1.symm, this.2.symm⟩
theorem cmpI_mul (a b c d : Int) : -1 ≤ cmpI a b * cmpI c d ∧ cmpI a b * cmpI c d ≤ 1 := by
  unfold cmpI; repeat' split
  all_goals omega
theorem ref01_DivMod_ok {W : GW} {v v' : Value} {z z' : Int} (h : V RI W v (ci z)) (h' : V RI W v' (ci z')) (hl : (dig z.natAbs).length ≤ 1099511627776) (hl' : (dig z'.natAbs).length ≤ 1099511627776) (hz : z' ≠ 0) :
    Ok Tryz.prog 112 [v, v'] W fun W' r => ∃ v1 v2, r = .tuple #[v1, v2, .int .i64 0] ∧ V RI W' v1 (ci (z.fdiv z')) ∧ V RI W' v2 (ci (z.fmod z')) := by
  have hlq : (dig (z.natAbs / z'.natAbs)).length ≤ 1099511627776 := Nat.le_trans (len_mono (Nat.div_le_self ..)) hl
  have hlr : (dig (z.natAbs % z'.natAbs)).length ≤ 1099511627776 := Nat.le_trans (len_mono (Nat.mod_le ..)) hl
  have hlqz : (dig (sg (decide (z < 0) != decide (z' < 0)) (z.natAbs / z'.natAbs) * z').natAbs).length ≤ 1099511627776 := by
    rw [Int.natAbs_mul, sg_na]
    exact Nat.le_trans (len_mono (Nat.div_mul_le_self ..)) hl
  refine Ok.enter Tryz.func112 rfl rfl rfl rfl fun W0 iEn => ?_
  refine J.seq <| J.reg rfl <| ?_
  refine O.boxC rfl h.to fun W2 b2 i2 e2 hl2 hk2 hz2 => ?_
  refine O.boxC rfl h'.to fun W3 b3 i3 e3 hl3 hk3 hz3 => ?_
  have n2_3 : b2 ≠ b3 := Nat.ne_of_lt (Nat.lt_of_lt_of_le (by exact hl2.to.lt) hz3)
  refine O.allocE fun W4 b4 i4 e4 hl4 hc4 hz4 => ?_
  have n2_4 : b2 ≠ b4 := Nat.ne_of_lt (Nat.lt_of_lt_of_le (by exact hl2.to.lt) hz4)
  have n3_4 : b3 ≠ b4 := Nat.ne_of_lt (Nat.lt_of_lt_of_le (by exact hl3.to.lt) hz4)
  refine O.allocE fun W5 b5 i5 e5 hl5 hc5 hz5 => ?_
  have n2_5 : b2 ≠ b5 := Nat.ne_of_lt (Nat.lt_of_lt_of_le (by exact hl2.to.lt) hz5)
  have n3_5 : b3 ≠ b5 := Nat.ne_of_lt (Nat.lt_of_lt_of_le (by exact hl3.to.lt) hz5)
  have n4_5 : b4 ≠ b5 := Nat.ne_of_lt (Nat.lt_of_lt_of_le (by exact hl4.to.lt) hz5)
  refine O.as rfl <| JO.nil <| J.seq <| ?_
  refine J.draw [.rel _, .rel _, .rel _] rfl rfl ⟨fun Wd id ed _ => O.ldTD rfl ((((hk2.ext e3).ext e4).ext e5).ext ed).h rfl rfl (fun h => nomatch h), fun Wd id ed _ => fun v11 h11 => O.call rfl (ref01_Norm_ok h11) fun Wd vd id ed hd => D.rel ed hd V.me, fun Wd id ed _ => O.ldTD rfl (((hk3.ext e4).ext e5).ext ed).h rfl rfl (fun h => nomatch h), trivial⟩ ?_
  intro Wr1 ir1 er1 v11 h11 v12 h12 v13 h13
  refine O.call rfl (ref01_Norm_ok h13.to) fun W14 v14 i14 e14 h14 => ?_
  refine O.stT rfl rfl hl2.to h12.to rfl fun Ws1 is1 hb2 F2 => ?_
  have hl3 := F2.loc hl3.to n2_3.symm
  have hl4 := F2.loc hl4.to n2_4.symm
  have hl5 := F2.loc hl5.to n2_5.symm
  have hk3 := ((((hk3.ext e4).ext e5).ext er1).ext e14).stf F2 n2_3.symm
  refine O.stT rfl rfl hl3.to h14.to rfl fun Ws2 is2 hb3 F3 => ?_
  have hl4 := F3.loc hl4.to n3_4.symm
  have hl5 := F3.loc hl5.to n3_5.symm
  refine JO.nil <| J.seq <| J.seq <| J.reg rfl <| O.fa rfl <| ?_
  refine O.ldTs rfl hb3.to.h.s fun p16 m16 c16 s16 => ?_
  have h16 := s16.v
  refine O.len rfl <| O.eq rfl rfl <| JO.nil <| J.condD rfl (fun h18 => ?_) (fun h18 => ?_)
  · skip
    exact absurd ((@dig_len0 z'.natAbs).1 (by have := s16.hn; omega)) (by omega) -- done
  · skip
    refine J.skip <| J.seq <| J.reg rfl <| O.fa rfl <| ?_
    refine O.ldTs rfl hb2.to.h.s fun p23 m23 c23 s23 => ?_
    have h23 := s23.v
    refine O.fa rfl <| ?_
    refine O.ldTs rfl hb3.to.h.s fun p25 m25 c25 s25 => ?_
    have h25 := s25.v
    refine O.call rfl (ref01_divide_ok s23.to s25.to hl hl' (by omega)) fun W26 v26 i26 e26 h26 => ?_
    obtain ⟨v27, v28, rfl, h27, h28⟩ := h26
    obtain ⟨p27, m27, c27, rfl, s27⟩ := h27.sl
    refine O.mv rfl <| O.ext rfl rfl <| O.ext rfl rfl <| O.as rfl <| O.as rfl <| JO.nil <| J.seq <| J.reg rfl <| O.fa rfl <| O.ldTb rfl hb2.to.h.f <| O.fa rfl <| O.ldTb rfl hb3.to.h.f <| O.bne rfl rfl <| O.mv rfl <| O.call rfl (ref01_signedd_ok (decide (z < 0) != decide (z' < 0)) s27.to) fun W35 v35 i35 e35 h35 => ?_
    refine O.allocE fun W9 b9 i9 e9 hl9 hc9 hz9 => ?_
    have n4_9 : b4 ≠ b9 := Nat.ne_of_lt (Nat.lt_of_lt_of_le (by exact hl4.to.lt) hz9)
    have n5_9 : b5 ≠ b9 := Nat.ne_of_lt (Nat.lt_of_lt_of_le (by exact hl5.to.lt) hz9)
    refine O.stM rfl rfl hl9.to h35.to rfl fun Ws3 is3 hk9 F9 => ?_
    refine JO.nil <| J.seq <| ?_
    refine J.drawN [.rel _, .rel _, .rel _, .rel _, .rel _, .rel _] [false, false, false, false, false, true] [0, 0, 0, 1, 2, 0] rfl rfl ⟨fun Wd id ed _ => O.ldTD rfl hb2.to.h rfl rfl (fun h => nomatch h), fun Wd id ed _ => O.ldTD rfl (hk9.ext ed).h rfl rfl (fun h => nomatch h), fun Wd id ed _ => O.ldTD rfl hb3.to.h rfl rfl (fun h => nomatch h), fun Wd id ed _ => fun v37 h37 => fun v38 h38 => O.call rfl (ref01_Mul_ok h37 h38 (by rw [sg_na]; exact hlq) hl') fun Wd vd id ed hd => D.rel ed hd V.me, fun Wd id ed _ => fun v36 h36 => fun _ _ => fun v39 h39 => O.call rfl (ref01_Sub_ok h36 h39 hl hlqz) fun Wd vd id ed hd => D.rel ed hd V.me, fun Wd id ed _ => O.allocN (by rfl) ed.size, trivial⟩ ?_
    intro Wr6 ir6 er6 v36 h36 v37 h37 v38 h38 v39 h39 v40 h40 v10 h10 ne10
    obtain ⟨b10, rfl, hl10, hz10⟩ := h10
    have n4_10 : b4 ≠ b10 := Nat.ne_of_lt (Nat.lt_of_lt_of_le (by exact hl4.to.lt) hz10)
    have n5_10 : b5 ≠ b10 := Nat.ne_of_lt (Nat.lt_of_lt_of_le (by exact hl5.to.lt) hz10)
    have n9_10 : b9 ≠ b10 := Nat.ne_of_lt (Nat.lt_of_lt_of_le (by exact hl9.to.lt) hz10)
    rw [qr0 hz] at h40
    refine O.stM rfl rfl hl10.to h40.to rfl fun Ws4 is4 hk10 F10 => ?_
    have hk9 := (hk9.ext er6).stf F10 n9_10
    refine JO.nil <| J.seq <| J.seq <| ?_
    refine J.draw [.rel _, .ex _, .rel _] rfl rfl ⟨fun Wd id ed _ => O.ldTD rfl (hk10.ext ed).h rfl rfl (fun h => nomatch h), fun Wd id ed _ => fun v41 h41 => O.call rfl (ref01_Sign_ok h41) fun Wd vd id ed hd => D.eq ed hd, fun Wd id ed _ => O.ldTD rfl hb3.to.h rfl rfl (fun h => nomatch h), trivial⟩ ?_
    intro Wr7 ir7 er7 v41 h41 v43 h43
    refine O.call rfl (ref01_Sign_ok h43.to) fun W44 v44 i44 e44 h44 => ?_
    subst h44
    have hr := cmpI_mul (sg (decide (z < 0)) (z.natAbs % z'.natAbs)) 0 z' 0
    refine O.mul rfl rfl (wI (by omega)) <| O.lt rfl rfl <| JO.nil <| J.condD rfl (fun h46 => ?_) (fun h46 => ?_)
    · skip
      refine J.seq <| ?_
      refine J.draw [.rel _, .rel _] rfl rfl ⟨fun Wd id ed _ => O.ldTD rfl (((hk9.ext er7).ext e44).ext ed).h rfl rfl (fun h => nomatch h), fun Wd id ed _ => O.call rfl (ref01_FromInt_ok (z := 1) (by decide)) fun Wd vd id ed hd => D.rel ed hd V.me, trivial⟩ ?_
      intro Wr8 ir8 er8 v47 h47 v48 h48
      refine O.call rfl (ref01_Sub_ok h47.to h48.to (by rw [sg_na]; exact hlq) (Nat.le_trans (@dig_len_le 1 1 (by decide)) (by decide))) fun W49 v49 i49 e49 h49 => ?_
      refine O.stM rfl rfl hl9.to h49.to rfl fun Ws5 is5 hk9 F9 => ?_
      have hk10 := ((((hk10.ext er7).ext e44).ext er8).ext e49).stf F9 n9_10.symm
      refine JO.nil <| J.reg rfl <| O.ldT rfl hk10.h rfl rfl (fun h => nomatch h) fun v50 h50 => O.ldT rfl hb3.to.h rfl rfl (fun h => nomatch h) fun v51 h51 => O.call rfl (ref01_Add_ok h50.to h51.to (by rw [sg_na]; exact hlr) hl') fun W52 v52 i52 e52 h52 => ?_
      refine O.stM rfl rfl hl10.to h52.to rfl fun Ws6 is6 hk10 F10 => ?_
      have hk9 := (hk9.ext e52).stf F10 n9_10
      refine JO.nil <| J.seq <| ?_
      refine J.perm [[0, 1, 2, 3, 4], [0, 2, 1, 3, 4], [1, 0, 2, 3, 4]] (by decide +kernel) rfl fun W1 i1 e1 => ⟨?_, ?_, ?_, trivial⟩
      · skip
        refine O.ldT rfl (hk9.ext e1).h rfl rfl (fun h => nomatch h) fun v53 h53 => O.ldT rfl (hk10.ext e1).h rfl rfl (fun h => nomatch h) fun v54 h54 => ?_
        refine O.stT rfl rfl hl4.to h53.to rfl fun Ws7 is7 hb4 F4 => ?_
        have hl5 := F4.loc hl5.to n4_5.symm
        have hl9 := F4.loc hl9.to n4_9.symm
        have hl10 := F4.loc hl10.to n4_10.symm
        have hk9 := (hk9.ext e1).stf F4 n4_9.symm
        have hk10 := (hk10.ext e1).stf F4 n4_10.symm
        refine O.stT rfl rfl hl5.to h54.to rfl fun Ws8 is8 hb5 F5 => ?_
        have hl9 := F5.loc hl9.to n5_9.symm
        have hl10 := F5.loc hl10.to n5_10.symm
        have hk9 := hk9.stf F5 n5_9.symm
        have hk10 := hk10.stf F5 n5_10.symm
        refine O.as rfl <| JO.nil <| J.retTTv rfl rfl hb4.to.h rfl rfl rfl hb5.to.h rfl rfl rfl fun W' v' w' iE iP hv' hw' => ?_
        exact ⟨_, _, rfl, by first | (rw [← (fdm_up hz h46).1]; exact hv'.to) | (rw [← (fdm_at hz h46).1]; exact hv'.to), by first | (rw [← (fdm_up hz h46).2]; exact hw'.to) | (rw [← (fdm_at hz h46).2]; exact hw'.to)⟩
      · skip
        refine O.ldT rfl (hk9.ext e1).h rfl rfl (fun h => nomatch h) fun v53 h53 => ?_
        refine O.stT rfl rfl hl4.to h53.to rfl fun Ws9 is9 hb4 F4 => ?_
        have hl5 := F4.loc hl5.to n4_5.symm
        have hl9 := F4.loc hl9.to n4_9.symm
        have hl10 := F4.loc hl10.to n4_10.symm
        have hk9 := (hk9.ext e1).stf F4 n4_9.symm
        have hk10 := (hk10.ext e1).stf F4 n4_10.symm
        refine O.ldT rfl hk10.h rfl rfl (fun h => nomatch h) fun v54 h54 => ?_
        refine O.stT rfl rfl hl5.to h54.to rfl fun Ws10 is10 hb5 F5 => ?_
        have hl9 := F5.loc hl9.to n5_9.symm
        have hl10 := F5.loc hl10.to n5_10.symm
        have hk9 := hk9.stf F5 n5_9.symm
        have hk10 := hk10.stf F5 n5_10.symm
        refine O.as rfl <| JO.nil <| J.retTTv rfl rfl hb4.to.h rfl rfl rfl hb5.to.h rfl rfl rfl fun W' v' w' iE iP hv' hw' => ?_
        exact ⟨_, _, rfl, by first | (rw [← (fdm_up hz h46).1]; exact hv'.to) | (rw [← (fdm_at hz h46).1]; exact hv'.to), by first | (rw [← (fdm_up hz h46).2]; exact hw'.to) | (rw [← (fdm_at hz h46).2]; exact hw'.to)⟩
      · skip
        refine O.ldT rfl (hk10.ext e1).h rfl rfl (fun h => nomatch h) fun v54 h54 => O.ldT rfl (hk9.ext e1).h rfl rfl (fun h => nomatch h) fun v53 h53 => ?_
        refine O.stT rfl rfl hl4.to h53.to rfl fun Ws11 is11 hb4 F4 => ?_
        have hl5 := F4.loc hl5.to n4_5.symm
        have hl9 := F4.loc hl9.to n4_9.symm
        have hl10 := F4.loc hl10.to n4_10.symm
        have hk9 := (hk9.ext e1).stf F4 n4_9.symm
        have hk10 := (hk10.ext e1).stf F4 n4_10.symm
        refine O.stT rfl rfl hl5.to h54.to rfl fun Ws12 is12 hb5 F5 => ?_
        have hl9 := F5.loc hl9.to n5_9.symm
        have hl10 := F5.loc hl10.to n5_10.symm
        have hk9 := hk9.stf F5 n5_9.symm
        have hk10 := hk10.stf F5 n5_10.symm
        refine O.as rfl <| JO.nil <| J.retTTv rfl rfl hb4.to.h rfl rfl rfl hb5.to.h rfl rfl rfl fun W' v' w' iE iP hv' hw' => ?_
        exact ⟨_, _, rfl, by first | (rw [← (fdm_up hz h46).1]; exact hv'.to) | (rw [← (fdm_at hz h46).1]; exact hv'.to), by first | (rw [← (fdm_up hz h46).2]; exact hw'.to) | (rw [← (fdm_at hz h46).2]; exact hw'.to)⟩
    · skip
      refine J.skip <| J.seq <| ?_
      refine J.perm [[0, 1, 2, 3, 4], [0, 2, 1, 3, 4], [1, 0, 2, 3, 4]] (by decide +kernel) rfl fun W1 i1 e1 => ⟨?_, ?_, ?_, trivial⟩
      · skip
        refine O.ldT rfl (((hk9.ext er7).ext e44).ext e1).h rfl rfl (fun h => nomatch h) fun v53 h53 => O.ldT rfl (((hk10.ext er7).ext e44).ext e1).h rfl rfl (fun h => nomatch h) fun v54 h54 => ?_
        refine O.stT rfl rfl hl4.to h53.to rfl fun Ws13 is13 hb4 F4 => ?_
        have hl5 := F4.loc hl5.to n4_5.symm
        have hl9 := F4.loc hl9.to n4_9.symm
        have hl10 := F4.loc hl10.to n4_10.symm
        have hk9 := (((hk9.ext er7).ext e44).ext e1).stf F4 n4_9.symm
        have hk10 := (((hk10.ext er7).ext e44).ext e1).stf F4 n4_10.symm
        refine O.stT rfl rfl hl5.to h54.to rfl fun Ws14 is14 hb5 F5 => ?_
        have hl9 := F5.loc hl9.to n5_9.symm
        have hl10 := F5.loc hl10.to n5_10.symm
        have hk9 := hk9.stf F5 n5_9.symm
        have hk10 := hk10.stf F5 n5_10.symm
        refine O.as rfl <| JO.nil <| J.retTTv rfl rfl hb4.to.h rfl rfl rfl hb5.to.h rfl rfl rfl fun W' v' w' iE iP hv' hw' => ?_
        exact ⟨_, _, rfl, by first | (rw [← (fdm_up hz h46).1]; exact hv'.to) | (rw [← (fdm_at hz h46).1]; exact hv'.to), by first | (rw [← (fdm_up hz h46).2]; exact hw'.to) | (rw [← (fdm_at hz h46).2]; exact hw'.to)⟩
      · skip
        refine O.ldT rfl (((hk9.ext er7).ext e44).ext e1).h rfl rfl (fun h => nomatch h) fun v53 h53 => ?_
        refine O.stT rfl rfl hl4.to h53.to rfl fun Ws15 is15 hb4 F4 => ?_
        have hl5 := F4.loc hl5.to n4_5.symm
        have hl9 := F4.loc hl9.to n4_9.symm
        have hl10 := F4.loc hl10.to n4_10.symm
        have hk9 := (((hk9.ext er7).ext e44).ext e1).stf F4 n4_9.symm
        have hk10 := (((hk10.ext er7).ext e44).ext e1).stf F4 n4_10.symm
        refine O.ldT rfl hk10.h rfl rfl (fun h => nomatch h) fun v54 h54 => ?_
        refine O.stT rfl rfl hl5.to h54.to rfl fun Ws16 is16 hb5 F5 => ?_
        have hl9 := F5.loc hl9.to n5_9.symm
        have hl10 := F5.loc hl10.to n5_10.symm
        have hk9 := hk9.stf F5 n5_9.symm
        have hk10 := hk10.stf F5 n5_10.symm
        refine O.as rfl <| JO.nil <| J.retTTv rfl rfl hb4.to.h rfl rfl rfl hb5.to.h rfl rfl rfl fun W' v' w' iE iP hv' hw' => ?_
        exact ⟨_, _, rfl, by first | (rw [← (fdm_up hz h46).1]; exact hv'.to) | (rw [← (fdm_at hz h46).1]; exact hv'.to), by first | (rw [← (fdm_up hz h46).2]; exact hw'.to) | (rw [← (fdm_at hz h46).2]; exact hw'.to)⟩
      · skip
        refine O.ldT rfl (((hk10.ext er7).ext e44).ext e1).h rfl rfl (fun h => nomatch h) fun v54 h54 => O.ldT rfl (((hk9.ext er7).ext e44).ext e1).h rfl rfl (fun h => nomatch h) fun v53 h53 => ?_
        refine O.stT rfl rfl hl4.to h53.to rfl fun Ws17 is17 hb4 F4 => ?_
        have hl5 := F4.loc hl5.to n4_5.symm
        have hl9 := F4.loc hl9.to n4_9.symm
        have hl10 := F4.loc hl10.to n4_10.symm
        have hk9 := (((hk9.ext er7).ext e44).ext e1).stf F4 n4_9.symm
        have hk10 := (((hk10.ext er7).ext e44).ext e1).stf F4 n4_10.symm
        refine O.stT rfl rfl hl5.to h54.to rfl fun Ws18 is18 hb5 F5 => ?_
        have hl9 := F5.loc hl9.to n5_9.symm
        have hl10 := F5.loc hl10.to n5_10.symm
        have hk9 := hk9.stf F5 n5_9.symm
        have hk10 := hk10.stf F5 n5_10.symm
        refine O.as rfl <| JO.nil <| J.retTTv rfl rfl hb4.to.h rfl rfl rfl hb5.to.h rfl rfl rfl fun W' v' w' iE iP hv' hw' => ?_
        exact ⟨_, _, rfl, by first | (rw [← (fdm_up hz h46).1]; exact hv'.to) | (rw [← (fdm_at hz h46).1]; exact hv'.to), by first | (rw [← (fdm_up hz h46).2]; exact hw'.to) | (rw [← (fdm_at hz h46).2]; exact hw'.to)⟩
end Go.Proofs.YtcaikjefkkejbaaGreat

/- The reference's integers, fifth part: sums, products, quotients. -/
import Derived.Test.YtcobdnnfmhfenaaGreatKd
import Derived.Test.YtcobdnnfmhfenaaGreatRn
set_option linter.unusedVariables false
set_option maxRecDepth 10000
set_option maxHeartbeats 2000000
namespace Go.Proofs.YtcobdnnfmhfenaaGreat
open Go Go.Rx Go.Num

/-- plus: the sum. -/
theorem ref01_plus_ok {W : GW} {p q : Option Addr} {m c m' c' x y : Nat} (h : Sl RW W p m c (dig x)) (h' : Sl RW W q m' c' (dig y)) (hx : (dig x).length ≤ 1099511627776) (hy : (dig y).length ≤ 1099511627776) :
    Ok Tryz.prog 99 [.slice p m c, .slice q m' c'] W fun W' v => V (RSl RW) W' v (dig (x + y)) := by
  refine Ok.enter Tryz.func99 rfl rfl rfl rfl fun W0 iEn => ?_
  refine J.seq <| J.reg rfl <| O.as rfl <| JO.nil <| J.seq <| J.seq <| J.reg rfl <| O.mv rfl <| O.len rfl <| O.mv rfl <| O.len rfl <| O.lt rfl rfl <| JO.nil <| ?_
  refine J.cut (α := (Option Addr × Nat × Nat × Nat) × Option Addr × Nat × Nat × Nat) (fun q => [(0, .slice q.1.1 q.1.2.1 q.1.2.2.1), (1, .slice q.2.1 q.2.2.1 q.2.2.2.1)]) (fun q W => W = W0 ∧ Sl RW W q.1.1 q.1.2.1 q.1.2.2.1 (dig q.1.2.2.2) ∧ Sl RW W q.2.1 q.2.2.1 q.2.2.2.1 (dig q.2.2.2.2) ∧ q.1.2.2.2 + q.2.2.2.2 = x + y ∧ q.2.2.1 ≤ q.1.2.1 ∧ q.1.2.1 ≤ 1099511627776) ?_ ?_
  · skip
    refine J.condD rfl (fun h12 => ?_) (fun h12 => ?_)
    · skip
      refine J.reg rfl <| O.mv rfl <| O.mv rfl <| O.as rfl <| O.as rfl <| JO.nil <| ?_
      exact J.at' ((q, m', c', y), p, m, c, x) ⟨rfl, rfl, trivial⟩ ⟨rfl, h'.to, h.to, Nat.add_comm _ _, by show m ≤ m'; omega, by show m' ≤ _; rw [h'.hn]; exact hy⟩
    · skip
      refine J.skip <| ?_
      exact J.at' ((p, m, c, x), q, m', c', y) ⟨rfl, rfl, trivial⟩ ⟨rfl, h.to, h'.to, rfl, by show m' ≤ m; omega, by show m ≤ _; rw [h.hn]; exact hx⟩
  · skip
    rintro ⟨⟨p1, n1, c1, x1⟩, p2, n2, c2, x2⟩ W1 ⟨rfl, h1, h2, hsum, hle, hbig⟩
    dsimp only at *
    have hn1 := h1.hn
    have hn2 := h2.hn
    refine J.seq <| J.reg rfl <| O.mv rfl <| O.len rfl <| O.add rfl rfl (wI (by omega)) <| O.mk (r := RW) (m := n1 + 1) (c := n1 + 1) 0 rfl rfl rfl rfl (by omega) (by omega) (by omega) rfl rfl (by decide) (fun _ => ⟨rfl, by decide⟩) fun W2 b2 i2 e2 hb2 ho0 => O.as rfl <| JO.nil <| J.seq <| J.reg rfl <| O.as rfl <| JO.nil <| J.seq <| J.seq <| J.reg rfl <| O.as rfl <| JO.nil <| J.block <| ?_
    refine J.loop (α := Nat × List Nat × Nat) (fun g => [(0, .slice p1 n1 c1), (1, .slice p2 n2 c2), (5, .slice (some ⟨b2, 0, none⟩) (n1 + 1) (n1 + 1)), (6, .int .u64 (g.2.2 : Int)), (7, .int .i64 (g.1 : Int))]) (fun g W => Le W1 W ∧ Ows RW W (some ⟨b2, 0, none⟩) (n1 + 1) (n1 + 1) g.2.1 ∧ g.1 ≤ n1 ∧ g.2.2 ≤ 1 ∧ val (g.2.1.take g.1) + 4294967296 ^ g.1 * g.2.2 = val ((dig x1).take g.1) + val ((dig x2).take g.1)) (fun g => n1 - g.1) (0, List.replicate (n1 + 1) 0, 0) ⟨rfl, rfl, rfl, rfl, rfl, trivial⟩ ⟨inferInstance, ho0, Nat.zero_le _, Nat.zero_le _, rfl⟩ ?_
    rintro ⟨k, lo, cr⟩ W3 ⟨_, ho, hk, hcr, hval⟩
    dsimp only at *
    have hlo := ho.hn
    refine J.seq <| J.seq <| J.reg rfl <| O.mv rfl <| O.mv rfl <| O.len rfl <| O.lt rfl rfl <| JO.nil <| J.condD rfl (fun h22 => ?_) (fun h22 => ?_)
    · skip
      obtain ⟨u, hu⟩ := xat (l := dig x1) (k := k) (by omega)
      have hub := words_dig x1 u (List.mem_of_getElem? hu)
      refine J.skip <| J.seq <| J.block <| J.seq <| J.reg rfl <| O.mv rfl <| O.mv rfl <| O.mv rfl <| O.ixW (j := k) rfl rfl rfl h1.to hu fun a1 => O.cv rfl (wU (by omega)) <| O.add (r := ((cr + u : Nat) : Int)) rfl rfl ((wU (by omega)).trans (by omega)) <| O.as rfl <| JO.nil <| J.seq <| J.seq <| J.reg rfl <| O.mv rfl <| O.mv rfl <| O.len rfl <| O.lt rfl rfl <| JO.nil <| ?_
      refine J.cut (α := Nat) (fun s => [(0, .slice p1 n1 c1), (1, .slice p2 n2 c2), (5, .slice (some ⟨b2, 0, none⟩) (n1 + 1) (n1 + 1)), (6, .int .u64 (s : Int)), (7, .int .i64 (k : Int))]) (fun s W => W = W3 ∧ s < 8589934592 ∧ 4294967296 ^ k * s + val (lo.take k) = val ((dig x1).take (k + 1)) + val ((dig x2).take (k + 1))) ?_ ?_
      · skip
        refine J.condD rfl (fun h35 => ?_) (fun h35 => ?_)
        · skip
          obtain ⟨u2, hu2⟩ := xat (l := dig x2) (k := k) (by omega)
          have hub2 := words_dig x2 u2 (List.mem_of_getElem? hu2)
          refine J.reg rfl <| O.mv rfl <| O.mv rfl <| O.mv rfl <| O.ixW (j := k) rfl rfl rfl h2.to hu2 fun a2 => O.cv rfl (wU (by omega)) <| O.add (r := ((cr + u + u2 : Nat) : Int)) rfl rfl ((wU (by omega)).trans (by omega)) <| O.as rfl <| JO.nil <| ?_
          exact J.at' (cr + u + u2) ⟨rfl, rfl, rfl, rfl, rfl, trivial⟩ ⟨rfl, by omega, by rw [val_take_succ hu, val_take_succ hu2, Nat.mul_add, Nat.mul_add]; omega⟩
        · skip
          refine J.skip <| ?_
          exact J.at' (cr + u) ⟨rfl, rfl, rfl, rfl, rfl, trivial⟩ ⟨rfl, by omega, by rw [val_take_succ hu, take_ge (l := dig x2) (by omega), Nat.mul_add]; omega⟩
      · skip
        rintro s W4 ⟨rfl, hs, hsv⟩
        refine J.seq <| J.reg rfl <| O.mv rfl <| O.mv rfl <| O.mv rfl <| O.cv (r := ((s % 4294967296 : Nat) : Int)) rfl ((wWm _).trans (by omega)) <| O.iaB (r := RW) (j := k) rfl rfl rfl ho (by omega) rfl <| O.sto (r := RW) (j := k) (u := s % 4294967296) rfl rfl ho (by omega) (rwv _ (by omega)) rfl (.inr rfl) fun W5 i5 o5 => JO.nil <| J.reg rfl <| O.mv rfl <| O.shr rfl rfl (by decide) (shr32 s) <| O.as rfl <| JO.nil <| J.bend <| J.reg rfl <| O.mv rfl <| O.add rfl rfl (wI (by omega)) <| O.as rfl <| JO.nil <| ?_
        have hval2 : val ((lo.set k (s % 4294967296)).take (k + 1)) + 4294967296 ^ (k + 1) * (s / 4294967296) = val ((dig x1).take (k + 1)) + val ((dig x2).take (k + 1)) := by
          rw [val_set (by omega), ← hsv, Nat.pow_succ, Nat.mul_assoc]
          have e2 : 4294967296 ^ k * s = 4294967296 ^ k * (s % 4294967296) + 4294967296 ^ k * (4294967296 * (s / 4294967296)) := by rw [← Nat.mul_add]; congr 1; omega
          omega
        exact J.at' (k + 1, lo.set k (s % 4294967296), s / 4294967296) ⟨rfl, rfl, rfl, rfl, rfl, trivial⟩ ⟨⟨inferInstance, o5, by show k + 1 ≤ n1; omega, by show s / 4294967296 ≤ 1; omega, hval2⟩, by show n1 - (k + 1) < n1 - k; omega⟩
    · skip
      have hkn : k = n1 := by omega
      subst hkn
      rw [List.take_of_length_le (l := dig x1) (by omega), List.take_of_length_le (l := dig x2) (by omega), val_dig, val_dig, hsum] at hval
      refine J.exit rfl <| J.seq <| J.reg rfl <| O.mv rfl <| O.mv rfl <| O.len rfl <| O.mv rfl <| O.cv (r := ((cr : Nat) : Int)) rfl (wW (by omega)) <| O.iaB (r := RW) (j := k) rfl rfl rfl ho (by omega) rfl <| O.sto (r := RW) (j := k) (u := cr) rfl rfl ho (by omega) (rwv _ (by omega)) rfl (.inr rfl) fun W5 i5 o5 => JO.nil <| J.seq <| ?_
      have hfin : val (lo.set k cr) = x + y := by
        have := val_set (l := lo) (k := k) (d := cr) (by omega)
        rw [List.take_of_length_le (by rw [List.length_set]; omega)] at this
        rw [this, hval]
      refine J.pub o5 fun W6 i6 s6 => ?_
      refine J.reg rfl <| O.mv rfl <| O.call rfl (ref01_trim_ok s6) fun W7 v7 i7 e7 h7 => O.as rfl <| JO.nil <| J.ret1 rfl (.tmp rfl) fun W' iE iP => ?_
      rw [← hfin]
      exact h7.to

theorem ref01_Neg_ok {W : GW} {v : Value} {z : Int} (h : V RI W v (ci z)) : Ok Tryz.prog 83 [v] W fun W' r => V RI W' r (ci (-z)) := by
  obtain ⟨p, m, c, rfl, hs⟩ := unI h
  refine Ok.enter Tryz.func83 rfl rfl rfl rfl fun W0 iEn => ?_
  refine J.seq <| J.reg rfl <| O.box rfl fun W1 b1 i1 hb1 => O.alloc fun W2 b2 i2 hl2 hc2 hb2 => JO.nil <| J.seq <| J.reg rfl <| O.fa rfl <| O.ldB rfl hb1.to rfl <| O.not rfl <| O.fa rfl <| O.ldB rfl hb1.to rfl <| O.call rfl (ref01_signedd_ok (!decide (z < 0)) hs.to) fun W6 v6 i6 e6 h6 => ?_
  obtain ⟨p4, m4, c4, rfl, hs4⟩ := unI h6
  refine O.st rfl rfl hl2.to rfl (by simp [oneC, Value.cells]) fun W4 i4 hc4 => JO.nil <| J.ret1 rfl (.cell rfl hc4 rfl) fun W' iE iP => ?_
  rw [← sg_neg]
  exact mkI hs4.to

/-- Add -/
theorem ref01_Add_ok {W : GW} {v v' : Value} {z z' : Int} (h : V RI W v (ci z)) (h' : V RI W v' (ci z')) (hl : (dig z.natAbs).length ≤ 1099511627776) (hl' : (dig z'.natAbs).length ≤ 1099511627776) :
    Ok Tryz.prog 77 [v, v'] W fun W' r => V RI W' r (ci (z + z')) := by
  obtain ⟨p, m, c, rfl, hs⟩ := unI h
  obtain ⟨p', m', c', rfl, hs'⟩ := unI h'
  refine Ok.enter Tryz.func77 rfl rfl rfl rfl fun W0 iEn => ?_
  refine J.seq <| J.reg rfl <| O.boxE rfl fun W1 b1 i1 e1 hl1 hc1 hb1 => O.boxE rfl fun W2 b2 i2 e2 hl2 hc2 hb2 => O.allocE fun W3 b3 i3 e3 hl3 hc3 hb3 => JO.nil <| J.seq <| ?_
  have k1 := hc1.lt
  have k2 := hc2.lt
  have k3 := hc3.lt
  have q1 := (hc1.ext e2).ext e3
  have q2 := hc2.ext e3
  refine J.draw [.ex _, .rel _, .ex _] rfl rfl ⟨fun W1 i1 e1 _ => O.ldVw rfl (q1.ext e1) rfl <| D.ex, fun W1 i1 e1 _ => O.call rfl (ref01_Norm_ok (mkI hs.to)) fun W5 v5 i5 e5 h5 => D.rel e5 h5 V.me, fun W1 i1 e1 _ => O.ldVw rfl (q2.ext e1) rfl <| D.ex, trivial⟩ ?_
  intro W1 i1 e1 v6 h6
  refine O.call rfl (ref01_Norm_ok (mkI hs'.to)) fun W5 v5 i5 e5 h8 => ?_
  obtain ⟨pa, ma, ca, rfl, sa⟩ := unI h6
  obtain ⟨pb, mb, cb, rfl, sb⟩ := unI h8
  skip
  refine O.stPF rfl rfl hl1.to rfl (by simp [oneC, Value.cells]) fun W6 i6 B1 F1 => ?_
  have l2 := F1.loc hl2.to (by omega)
  have l3 := F1.loc hl3.to (by omega)
  refine O.stPF rfl rfl l2 rfl (by simp [oneC, Value.cells]) fun W7 i7 B2 F2 => ?_
  have l3 := F2.loc l3 (by omega)
  replace sa : Sl RW _ pa ma ca (dig z.natAbs) := sa
  replace sb : Sl RW _ pb mb cb (dig z'.natAbs) := sb
  refine JO.nil <| J.seq <| J.seq <| J.reg rfl <| O.fa rfl <| O.ldB rfl B1.to rfl <| O.fa rfl <| O.ldB rfl B2.to rfl <| O.beq rfl rfl <| JO.nil <| J.cond rfl (fun h13 => ?_) (fun h13 => ?_)
  · skip
    refine J.seq <| ?_
    refine J.sub [(2, _), (3, _), (4, _)] ⟨rfl, rfl, rfl, trivial⟩ ?_
    refine J.draw [.ex _, .ex _, .ex _, .ex _, .ex _, .ex _, .rel _] rfl rfl ⟨fun W1 i1 e1 _ => O.fa rfl <| D.ex, fun W1 i1 e1 _ => O.ldB rfl B1.to rfl <| D.ex, fun W1 i1 e1 _ => O.fa rfl <| D.ex, fun W1 i1 e1 _ => O.ldB rfl B1.to rfl <| D.ex, fun W1 i1 e1 _ => O.fa rfl <| D.ex, fun W1 i1 e1 _ => O.ldB rfl B2.to rfl <| D.ex, fun W1 i1 e1 _ => O.call rfl (ref01_plus_ok sa.to sb.to hl hl') fun W5 v5 i5 e5 h5 => D.rel e5 h5 V.me, trivial⟩ ?_
    intro W1 i1 e1 v20 h20
    obtain ⟨pc, mc, cc, rfl, sc⟩ := h20.sl
    refine O.call rfl (ref01_signedd_ok (decide (z < 0)) sc.to) fun W8 v8 i8 e8 h8 => ?_
    obtain ⟨p4, m4, c4, rfl, hs4⟩ := unI h8
    skip
    refine O.st rfl rfl l3.to rfl (by simp [oneC, Value.cells]) fun W4 i4 hc4 => JO.nil <| J.ret1 rfl (.cell rfl hc4 rfl) fun W' iE iP => ?_
    rw [← sg_add (beq_iff_eq.1 h13)]
    exact mkI hs4.to
  · skip
    have hne : decide (z < 0) ≠ decide (z' < 0) := fun e => by have e2 : (decide (z < 0) == decide (z' < 0)) = false := h13; rw [e] at e2; simp at e2
    refine J.skip <| J.seq <| J.seq <| J.reg rfl <| O.fa rfl <| O.ldB rfl B1.to rfl <| O.fa rfl <| O.ldB rfl B2.to rfl <| O.call rfl (ref01_compare_ok sa.to sb.to) fun W5 v5 i5 e5 h5 => ?_
    subst h5
    refine O.ge rfl rfl <| JO.nil <| J.condD rfl (fun h27 => ?_) (fun h27 => ?_)
    · skip
      have hle : z'.natAbs ≤ z.natAbs := Nat.le_of_not_lt fun e => absurd h27 (by have := cmpI_neg.2 e; omega)
      refine J.sub [(2, _), (3, _), (4, _)] ⟨rfl, rfl, rfl, trivial⟩ ?_
      refine J.seq <| ?_
      refine J.draw [.ex _, .ex _, .ex _, .ex _, .ex _, .ex _, .rel _] rfl rfl ⟨fun W1 i1 e1 _ => O.fa rfl <| D.ex, fun W1 i1 e1 _ => O.ldB rfl B1.to rfl <| D.ex, fun W1 i1 e1 _ => O.fa rfl <| D.ex, fun W1 i1 e1 _ => O.ldB rfl B1.to rfl <| D.ex, fun W1 i1 e1 _ => O.fa rfl <| D.ex, fun W1 i1 e1 _ => O.ldB rfl B2.to rfl <| D.ex, fun W1 i1 e1 _ => O.call rfl (ref01_minus_ok sa.to sb.to (Nat.le_trans hl (by decide)) hle) fun W5 v5 i5 e5 h5 => D.rel e5 h5 V.me, trivial⟩ ?_
      intro W1 i1 e1 v34 h34
      obtain ⟨pc, mc, cc, rfl, sc⟩ := h34.sl
      refine O.call rfl (ref01_signedd_ok (decide (z < 0)) sc.to) fun W8 v8 i8 e8 h8 => ?_
      obtain ⟨p4, m4, c4, rfl, hs4⟩ := unI h8
      skip
      refine O.st rfl rfl l3.to rfl (by simp [oneC, Value.cells]) fun W4 i4 hc4 => JO.nil <| J.ret1 rfl (.cell rfl hc4 rfl) fun W' iE iP => ?_
      rw [← sg_sub hne hle]
      exact mkI hs4.to
    · skip
      have hlt : z.natAbs < z'.natAbs := cmpI_neg.1 (by omega)
      refine J.sub [(2, _), (3, _), (4, _)] ⟨rfl, rfl, rfl, trivial⟩ ?_
      refine J.skip <| J.seq <| ?_
      refine J.draw [.ex _, .ex _, .ex _, .ex _, .ex _, .ex _, .rel _] rfl rfl ⟨fun W1 i1 e1 _ => O.fa rfl <| D.ex, fun W1 i1 e1 _ => O.ldB rfl B2.to rfl <| D.ex, fun W1 i1 e1 _ => O.fa rfl <| D.ex, fun W1 i1 e1 _ => O.ldB rfl B2.to rfl <| D.ex, fun W1 i1 e1 _ => O.fa rfl <| D.ex, fun W1 i1 e1 _ => O.ldB rfl B1.to rfl <| D.ex, fun W1 i1 e1 _ => O.call rfl (ref01_minus_ok sb.to sa.to (Nat.le_trans hl' (by decide)) (Nat.le_of_lt hlt)) fun W5 v5 i5 e5 h5 => D.rel e5 h5 V.me, trivial⟩ ?_
      intro W1 i1 e1 v42 h42
      obtain ⟨pc, mc, cc, rfl, sc⟩ := h42.sl
      refine O.call rfl (ref01_signedd_ok (decide (z' < 0)) sc.to) fun W8 v8 i8 e8 h8 => ?_
      obtain ⟨p4, m4, c4, rfl, hs4⟩ := unI h8
      skip
      refine O.st rfl rfl l3.to rfl (by simp [oneC, Value.cells]) fun W4 i4 hc4 => JO.nil <| J.ret1 rfl (.cell rfl hc4 rfl) fun W' iE iP => ?_
      rw [Int.add_comm, ← sg_sub hne.symm (Nat.le_of_lt hlt)]
      exact mkI hs4.to

theorem ref01_Sub_ok {W : GW} {v v' : Value} {z z' : Int} (h : V RI W v (ci z)) (h' : V RI W v' (ci z')) (hl : (dig z.natAbs).length ≤ 1099511627776) (hl' : (dig z'.natAbs).length ≤ 1099511627776) :
    Ok Tryz.prog 122 [v, v'] W fun W' r => V RI W' r (ci (z - z')) := by
  obtain ⟨p, m, c, rfl, hs⟩ := unI h
  obtain ⟨p', m', c', rfl, hs'⟩ := unI h'
  refine Ok.enter Tryz.func122 rfl rfl rfl rfl fun W0 iEn => ?_
  refine J.seq <| J.reg rfl <| O.box rfl fun W1 b1 i1 hb1 => O.box rfl fun W2 b2 i2 hb2 => O.alloc fun W3 b3 i3 hl3 hc3 hb3 => JO.nil <| J.seq <| ?_
  refine J.draw [.ex _, .ex _, .rel _] rfl rfl ⟨fun W1 i1 e1 _ => O.ldBw rfl hb1.to rfl <| D.ex, fun W1 i1 e1 _ => O.ldBw rfl hb2.to rfl <| D.ex, fun W1 i1 e1 _ => O.call rfl (ref01_Neg_ok (mkI hs'.to)) fun W5 v5 i5 e5 h5 => D.rel e5 h5 V.me, trivial⟩ ?_
  intro W1 i1 e1 v7 h7
  refine O.call rfl (ref01_Add_ok (z := z) (z' := -z') (mkI hs.to) h7.to hl (by rw [Int.natAbs_neg]; exact hl')) fun W5 v5 i5 e5 h8 => ?_
  obtain ⟨p4, m4, c4, rfl, hs4⟩ := unI h8
  skip
  refine O.st rfl rfl hl3.to rfl (by simp [oneC, Value.cells]) fun W4 i4 hc4 => JO.nil <| J.ret1 rfl (.cell rfl hc4 rfl) fun W' iE iP => ?_
  exact mkI hs4.to

/-- Mul -/
theorem ref01_Mul_ok {W : GW} {v v' : Value} {z z' : Int} (h : V RI W v (ci z)) (h' : V RI W v' (ci z')) (hl : (dig z.natAbs).length ≤ 1099511627776) (hl' : (dig z'.natAbs).length ≤ 1099511627776) :
    Ok Tryz.prog 78 [v, v'] W fun W' r => V RI W' r (ci (z * z')) := by
  obtain ⟨p, m, c, rfl, hs⟩ := unI h
  obtain ⟨p', m', c', rfl, hs'⟩ := unI h'
  refine Ok.enter Tryz.func78 rfl rfl rfl rfl fun W0 iEn => ?_
  refine J.seq <| J.reg rfl <| O.boxE rfl fun W1 b1 i1 e1 hl1 hc1 hb1 => O.boxE rfl fun W2 b2 i2 e2 hl2 hc2 hb2 => O.allocE fun W3 b3 i3 e3 hl3 hc3 hb3 => JO.nil <| J.seq <| ?_
  have k1 := hc1.lt
  have k2 := hc2.lt
  have k3 := hc3.lt
  have q1 := (hc1.ext e2).ext e3
  have q2 := hc2.ext e3
  refine J.draw [.ex _, .rel _, .ex _] rfl rfl ⟨fun W1 i1 e1 _ => O.ldVw rfl (q1.ext e1) rfl <| D.ex, fun W1 i1 e1 _ => O.call rfl (ref01_Norm_ok (mkI hs.to)) fun W5 v5 i5 e5 h5 => D.rel e5 h5 V.me, fun W1 i1 e1 _ => O.ldVw rfl (q2.ext e1) rfl <| D.ex, trivial⟩ ?_
  intro W1 i1 e1 v6 h6
  refine O.call rfl (ref01_Norm_ok (mkI hs'.to)) fun W5 v5 i5 e5 h8 => ?_
  obtain ⟨pa, ma, ca, rfl, sa⟩ := unI h6
  obtain ⟨pb, mb, cb, rfl, sb⟩ := unI h8
  skip
  refine O.stPF rfl rfl hl1.to rfl (by simp [oneC, Value.cells]) fun W6 i6 B1 F1 => ?_
  have l2 := F1.loc hl2.to (by omega)
  have l3 := F1.loc hl3.to (by omega)
  refine O.stPF rfl rfl l2 rfl (by simp [oneC, Value.cells]) fun W7 i7 B2 F2 => ?_
  have l3 := F2.loc l3 (by omega)
  replace sa : Sl RW _ pa ma ca (dig z.natAbs) := sa
  replace sb : Sl RW _ pb mb cb (dig z'.natAbs) := sb
  refine JO.nil <| J.seq <| ?_
  refine J.sub [(2, _), (3, _), (4, _)] ⟨rfl, rfl, rfl, trivial⟩ ?_
  refine J.draw [.ex _, .ex _, .ex _, .ex _, .ex _, .ex _, .ex _, .ex _, .ex _, .rel _] rfl rfl ⟨fun W1 i1 e1 _ => O.fa rfl <| D.ex, fun W1 i1 e1 _ => O.ldB rfl B1.to rfl <| D.ex, fun W1 i1 e1 _ => O.fa rfl <| D.ex, fun W1 i1 e1 _ => O.ldB rfl B2.to rfl <| D.ex, fun W1 i1 e1 _ => O.bne rfl rfl <| D.ex, fun W1 i1 e1 _ => O.fa rfl <| D.ex, fun W1 i1 e1 _ => O.ldB rfl B1.to rfl <| D.ex, fun W1 i1 e1 _ => O.fa rfl <| D.ex, fun W1 i1 e1 _ => O.ldB rfl B2.to rfl <| D.ex, fun W1 i1 e1 _ => O.call rfl (ref01_times_ok sa.to sb.to (Nat.le_trans hl (by decide)) (Nat.le_trans hl' (by decide))) fun W5 v5 i5 e5 h5 => D.rel e5 h5 V.me, trivial⟩ ?_
  intro W1 i1 e1 v18 h18
  obtain ⟨pc, mc, cc, rfl, sc⟩ := h18.sl
  refine O.call rfl (ref01_signedd_ok (decide (z < 0) != decide (z' < 0)) sc.to) fun W8 v8 i8 e8 h8 => ?_
  obtain ⟨p4, m4, c4, rfl, hs4⟩ := unI h8
  skip
  refine O.st rfl rfl l3.to rfl (by simp [oneC, Value.cells]) fun W4 i4 hc4 => JO.nil <| J.ret1 rfl (.cell rfl hc4 rfl) fun W' iE iP => ?_
  rw [← sg_mul]
  exact mkI hs4.to
end Go.Proofs.YtcobdnnfmhfenaaGreat

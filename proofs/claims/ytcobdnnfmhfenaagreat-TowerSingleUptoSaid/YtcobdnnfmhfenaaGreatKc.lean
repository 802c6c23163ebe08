/- The reference's integers, third part: shifts, difference, product. -/
import Derived.Test.YtcobdnnfmhfenaaGreatKb
set_option linter.unusedVariables false
set_option linter.unusedSimpArgs false
set_option maxRecDepth 10000
set_option maxHeartbeats 1000000
namespace Go.Proofs.YtcobdnnfmhfenaaGreat
open Go Go.Rx Go.Num

/-- shifted: the words of a times 2^n, one more. -/
theorem ref01_shifted_own {W : GW} {p : Option Addr} {m c n x : Nat} (h : Sl RW W p m c (dig x)) (hx : (dig x).length ≤ 1099511627776) (hn32 : n < 32) :
    Ok Tryz.prog 110 [.slice p m c, .int .i64 (n : Int)] W fun W' v => ∃ l, l.length = m + 1 ∧ val l = x * 2 ^ n ∧ OwnR RW W W' v l := by
  have hn := h.hn
  have hp := Nat.two_pow_pos n
  have hp32 : 2 ^ n ≤ 2147483648 := by have : 2 ^ n ≤ 2 ^ 31 := Nat.pow_le_pow_right (by decide) (by omega); omega
  refine Ok.enter Tryz.func110 rfl rfl rfl rfl fun W0 iEn => ?_
  refine J.seq <| J.reg rfl <| O.as rfl <| JO.nil <| J.seq <| J.reg rfl <| O.mv rfl <| O.len rfl <| O.add rfl rfl (wI (by omega)) <| O.mk (r := RW) (m := m + 1) (c := m + 1) 0 rfl rfl rfl rfl (by omega) (by omega) (by omega) rfl rfl (by decide) (fun _ => ⟨rfl, by decide⟩) fun W2 b2 i2 e2 hb2 ho0 => O.as rfl <| JO.nil <| J.seq <| J.seq <| J.reg rfl <| O.as rfl <| JO.nil <| J.block <| ?_
  refine J.loop (α := Nat × List Nat) (fun q => [(0, .slice p m c), (1, .int .i64 (n : Int)), (5, .slice (some ⟨b2, 0, none⟩) (m + 1) (m + 1)), (6, .int .i64 (q.1 : Int))]) (fun q W' => Le W0 W' ∧ Ows RW W' (some ⟨b2, 0, none⟩) (m + 1) (m + 1) q.2 ∧ q.1 ≤ m ∧ val (q.2.take (q.1 + 1)) = val ((dig x).take q.1) * 2 ^ n ∧ (∃ w, q.2[q.1]? = some w ∧ w < 2 ^ n)) (fun q => m - q.1) (0, List.replicate (m + 1) 0) ⟨rfl, rfl, rfl, rfl, trivial⟩ ⟨inferInstance, ho0, Nat.zero_le _, val_repl0 _ _, 0, by simp, hp⟩ ?_
  rintro ⟨i, lo⟩ W3 ⟨_, ho, hi, hval, w, hw, hwn⟩
  dsimp only at *
  have hln := ho.hn
  refine J.seq <| J.seq <| J.reg rfl <| O.mv rfl <| O.mv rfl <| O.len rfl <| O.lt rfl rfl <| JO.nil <| J.condD rfl (fun h15 => ?_) (fun h15 => ?_)
  · skip
    obtain ⟨u, hu⟩ := xat (l := dig x) (k := i) (by omega)
    have hub := words_dig x u (List.mem_of_getElem? hu)
    have hs1 := shl_lt hub hn32
    have hs2 := mul_mod_pow u n (by omega)
    refine J.skip <| J.seq <| J.block <| J.seq <| J.reg rfl <| O.mv rfl <| O.mv rfl <| O.ixW (j := i) rfl rfl rfl h.to hu fun a1 => O.cv rfl (wU (by omega)) <| O.mv rfl <| O.shl rfl rfl (by omega) (shl_eq (u := u) (n := n) (by omega) (by omega)) <| O.as rfl <| JO.nil <| J.seq <| ?_
    obtain ⟨s, hs⟩ : ∃ s, s = u * 2 ^ n := ⟨_, rfl⟩
    rw [← hs]
    rw [← hs] at hs1 hs2
    refine J.reg rfl <| O.mv rfl <| O.mv rfl <| O.mv rfl <| O.mv rfl <| O.ixo (r := RW) (j := i) rfl rfl rfl ho hw rfl rfl (fun _ => rfl) fun a3 v3 h3 => ?_
    obtain rfl := h3.rw.1
    have hor : w ||| s % 4294967296 = s % 4294967296 + w := by rw [Nat.or_comm, hs2]; exact or_add _ _ _ hwn
    have hlt : s % 4294967296 + w < 4294967296 := by
      rw [hs2]
      have h1 : u % 2 ^ (32 - n) + 1 ≤ 2 ^ (32 - n) := Nat.mod_lt _ (Nat.two_pow_pos _)
      have h2 := Nat.mul_le_mul_right (2 ^ n) h1
      rw [← Nat.pow_add, show 32 - n + n = 32 from by omega, Nat.succ_mul] at h2
      omega
    refine O.mv rfl <| O.cv (r := ((s % 4294967296 : Nat) : Int)) rfl ((wWm _).trans (by omega)) <| O.or (p := w) (q := s % 4294967296) (r := ((s % 4294967296 + w : Nat) : Int)) rfl rfl rfl rfl (by show _ < 4294967296; omega) (by show _ < 4294967296; omega) ((wW (by rw [hor]; omega)).trans (by rw [hor])) <| O.iaB (r := RW) (j := i) rfl rfl rfl ho (by omega) rfl <| O.sto (r := RW) (j := i) (u := s % 4294967296 + w) rfl rfl ho (by omega) (rwv _ hlt) rfl (.inr rfl) fun W4 i4 o4 => JO.nil <| J.reg rfl <| O.mv rfl <| O.mv rfl <| O.add rfl rfl (wI (by omega)) <| O.mv rfl <| O.shr rfl rfl (by decide) (shr32 s) <| O.cv (r := ((s / 4294967296 : Nat) : Int)) rfl (wW (by omega)) <| O.iaB (r := RW) (j := i + 1) rfl rfl rfl o4 (by omega) rfl <| O.sto (r := RW) (j := i + 1) (u := s / 4294967296) rfl rfl o4 (by omega) (rwv _ (by omega)) rfl (.inr rfl) fun W5 i5 o5 => JO.nil <| J.bend <| J.reg rfl <| O.mv rfl <| O.add rfl rfl (wI (by omega)) <| O.as rfl <| JO.nil <| ?_
    have hfin : val (((lo.set i (s % 4294967296 + w)).set (i + 1) (s / 4294967296)).take (i + 1 + 1)) = val ((dig x).take (i + 1)) * 2 ^ n := by
      rw [val_set (by rw [List.length_set]; omega), val_set (by omega), val_take_succ hu, Nat.add_mul, ← hval, val_take_succ hw, Nat.mul_assoc, ← hs, Nat.pow_succ, Nat.mul_add, Nat.mul_assoc]
      have e : 4294967296 ^ i * s = 4294967296 ^ i * (s % 4294967296) + 4294967296 ^ i * (4294967296 * (s / 4294967296)) := by rw [← Nat.mul_add]; congr 1; omega
      omega
    have hlt2 : s / 4294967296 < 2 ^ n := by
      rw [Nat.div_lt_iff_lt_mul (by decide), hs, Nat.mul_comm]
      exact Nat.mul_lt_mul_of_pos_left hub hp
    exact J.at' (i + 1, (lo.set i (s % 4294967296 + w)).set (i + 1) (s / 4294967296)) ⟨rfl, rfl, rfl, rfl, trivial⟩ ⟨⟨inferInstance, o5, by show i + 1 ≤ m; omega, hfin, s / 4294967296, by rw [List.getElem?_set_self (by rw [List.length_set]; omega)], hlt2⟩, by show m - (i + 1) < m - i; omega⟩
  · skip
    refine J.exit rfl <| J.seq <| J.reg rfl <| O.mv rfl <| O.as rfl <| JO.nil <| J.ret1o rfl (.tmp rfl) fun W' iE iO => ?_
    have him : i = m := by omega
    rw [him, List.take_of_length_le (by omega), List.take_of_length_le (by omega), val_dig] at hval
    have hW : W.size = W0.size := by rw [GW.size, GW.size, iEn.w]
    exact ⟨lo, by omega, hval, _, _, _, rfl, ho.out iE iO, fun a ha _ => by injection ha with ha; subst ha; rw [hW]; exact hb2⟩
theorem ref01_shifted_ok {W : GW} {p : Option Addr} {m c n x : Nat} (h : Sl RW W p m c (dig x)) (hx : (dig x).length ≤ 1099511627776) (hn32 : n < 32) :
    Ok Tryz.prog 110 [.slice p m c, .int .i64 (n : Int)] W fun W' v => ∃ l, l.length = m + 1 ∧ val l = x * 2 ^ n ∧ V (RSl RW) W' v l := by
  have h1 := ref01_shifted_own h hx hn32
  refine ⟨h1.1, h1.2.mono ?_⟩
  rintro e w' ⟨W', v, he, hw, hE, l, hl, hv, ho⟩
  obtain ⟨W2, h2, h3, h4⟩ := own_pub hE ho
  exact ⟨W2, v, he, h2.trans hw, h3, l, hl, hv, h4⟩

theorem back_digit {u v n : Nat} (hu : u < 4294967296) (hn : n < 32) : (u + v * 4294967296) / 2 ^ n % 4294967296 = u / 2 ^ n + (v % 2 ^ n) * 2 ^ (32 - n) := by
  have e : v * 4294967296 = v * 2 ^ (32 - n) * 2 ^ n := by
    rw [Nat.mul_assoc, ← Nat.pow_add, show 32 - n + n = 32 from by omega]
  rw [e, Nat.add_mul_div_right _ _ (Nat.two_pow_pos n)]
  have h1 := mul_mod_pow v (32 - n) (by omega)
  rw [show 32 - (32 - n) = n from by omega] at h1
  have h2 := (shr_digit (v := v) hu hn).2
  rw [← h1] at h2 ⊢
  generalize v * 2 ^ (32 - n) = X at *
  generalize u / 2 ^ n = A at *
  omega
theorem shr64_eq (u n : Nat) (hn : n ≤ 64) : Int.fdiv (u : Int) (2 ^ (min (Int.toNat (n : Int)) (IntKind.bits .u64))) = ((u / 2 ^ n : Nat) : Int) := by
  rw [show min (Int.toNat (n : Int)) (IntKind.bits .u64) = n from by show min n 64 = n; omega, Int.fdiv_eq_ediv_of_nonneg _ (Int.le_of_lt (Int.pow_pos (by decide)))]
  norm_cast
/-- back -/
theorem ref01_back_ok {W : GW} {p : Option Addr} {m c n : Nat} {l : List Nat} (h : Sl RW W p m c l) (hx : l.length ≤ 1099511627776) (hn32 : n < 32) :
    Ok Tryz.prog 112 [.slice p m c, .int .i64 (n : Int)] W fun W' v => V (RSl RW) W' v (dig (val l / 2 ^ n)) := by
  have hn := h.hn
  have hp := Nat.two_pow_pos n
  have hp32 : 2 ^ n ≤ 2147483648 := by have : 2 ^ n ≤ 2 ^ 31 := Nat.pow_le_pow_right (by decide) (by omega); omega
  refine Ok.enter Tryz.func112 rfl rfl rfl rfl fun W0 iEn => ?_
  refine J.seq <| J.reg rfl <| O.as rfl <| JO.nil <| J.seq <| J.reg rfl <| O.mv rfl <| O.len rfl <| O.mk (r := RW) (m := m) (c := m) 0 rfl rfl rfl rfl (by omega) (by omega) (by omega) rfl rfl (by decide) (fun _ => ⟨rfl, by decide⟩) fun W2 b2 i2 e2 hb2 ho0 => O.as rfl <| JO.nil <| J.seq <| J.seq <| J.reg rfl <| O.as rfl <| JO.nil <| J.block <| ?_
  refine J.loop (α := Nat × List Nat) (fun q => [(0, .slice p m c), (1, .int .i64 (n : Int)), (5, .slice (some ⟨b2, 0, none⟩) m m), (6, .int .i64 (q.1 : Int))]) (fun q W' => Le W0 W' ∧ Ows RW W' (some ⟨b2, 0, none⟩) m m q.2 ∧ q.1 ≤ m ∧ val (q.2.take q.1) * 2 ^ n + val l % 2 ^ n = val (l.take q.1) + 4294967296 ^ q.1 * (l.getD q.1 0 % 2 ^ n)) (fun q => m - q.1) (0, List.replicate m 0) ⟨rfl, rfl, rfl, rfl, trivial⟩ ⟨inferInstance, ho0, Nat.zero_le _, by simp [val, val_mod_pow l n (by omega)]⟩ ?_
  rintro ⟨i, lo⟩ W3 ⟨_, ho, hi, hval⟩
  dsimp only at *
  have hln := ho.hn
  refine J.seq <| J.seq <| J.reg rfl <| O.mv rfl <| O.mv rfl <| O.len rfl <| O.lt rfl rfl <| JO.nil <| J.condD rfl (fun h14 => ?_) (fun h14 => ?_)
  · skip
    obtain ⟨u, hu⟩ := xat (l := l) (k := i) (by omega)
    have hub := slw h u (List.mem_of_getElem? hu)
    have hgu : l.getD i 0 = u := by rw [List.getD_eq_getElem?_getD, hu]; rfl
    rw [hgu] at hval
    refine J.skip <| J.seq <| J.block <| J.seq <| J.reg rfl <| O.mv rfl <| O.mv rfl <| O.ixW (j := i) rfl rfl rfl h.to hu fun a1 => O.cv rfl (wU (by omega)) <| O.as rfl <| JO.nil <| J.seq <| J.seq <| J.reg rfl <| O.mv rfl <| O.add rfl rfl (wI (by omega)) <| O.mv rfl <| O.len rfl <| O.lt rfl rfl <| JO.nil <| ?_
    refine J.cut (α := Nat) (fun s => [(0, .slice p m c), (1, .int .i64 (n : Int)), (5, .slice (some ⟨b2, 0, none⟩) m m), (6, .int .i64 (i : Int)), (7, .int .u64 (s : Int))]) (fun s W' => W' = W3 ∧ ∃ v, l.getD (i + 1) 0 = v ∧ v < 4294967296 ∧ s = u + v * 4294967296) ?_ ?_
    · skip
      refine J.condD rfl (fun h26 => ?_) (fun h26 => ?_)
      · skip
        obtain ⟨v, hv⟩ := xat (l := l) (k := i + 1) (by omega)
        have hvb := slw h v (List.mem_of_getElem? hv)
        refine J.reg rfl <| O.mv rfl <| O.mv rfl <| O.mv rfl <| O.add rfl rfl (wI (by omega)) <| O.ixW (j := i + 1) rfl rfl rfl h.to hv fun a2 => O.cv rfl (wU (by omega)) <| O.shl (r := ((v * 2 ^ 32 : Nat) : Int)) rfl rfl (by decide) (shl_eq (u := v) (n := 32) (by omega) (by omega)) <| O.or (p := u) (q := v * 2 ^ 32) (r := ((u + v * 4294967296 : Nat) : Int)) rfl rfl rfl rfl (by show _ < 18446744073709551616; omega) (by show _ < 18446744073709551616; omega) (by rw [Nat.or_comm, or_add u v 32 (by omega)]; exact (wU (by omega)).trans (by omega)) <| O.as rfl <| JO.nil <| ?_
        exact J.at' (u + v * 4294967296) ⟨rfl, rfl, rfl, rfl, rfl, trivial⟩ ⟨rfl, v, by rw [List.getD_eq_getElem?_getD, hv]; rfl, hvb, rfl⟩
      · skip
        refine J.skip <| ?_
        exact J.at' u ⟨rfl, rfl, rfl, rfl, rfl, trivial⟩ ⟨rfl, 0, by rw [List.getD_eq_getElem?_getD, List.getElem?_eq_none (by omega)]; rfl, by decide, by omega⟩
    · skip
      rintro s W4 ⟨rfl, v, hv, hvb, hs⟩
      have hbd := back_digit (v := v) hub hn32
      rw [← hs] at hbd
      refine J.reg rfl <| O.mv rfl <| O.mv rfl <| O.mv rfl <| O.mv rfl <| O.shr rfl rfl (by omega) (shr64_eq s n (by omega)) <| O.cv (r := ((s / 2 ^ n % 4294967296 : Nat) : Int)) rfl ((wWm _).trans (by omega)) <| O.iaB (r := RW) (j := i) rfl rfl rfl ho (by omega) rfl <| O.sto (r := RW) (j := i) (u := s / 2 ^ n % 4294967296) rfl rfl ho (by omega) (rwv _ (by omega)) rfl (.inr rfl) fun W5 i5 o5 => JO.nil <| J.bend <| J.reg rfl <| O.mv rfl <| O.add rfl rfl (wI (by omega)) <| O.as rfl <| JO.nil <| ?_
      have hfin : val ((lo.set i (s / 2 ^ n % 4294967296)).take (i + 1)) * 2 ^ n + val l % 2 ^ n = val (l.take (i + 1)) + 4294967296 ^ (i + 1) * (l.getD (i + 1) 0 % 2 ^ n) := by
        rw [val_set (by omega), val_take_succ hu, hv, hbd]
        exact shr_step hn32 hval
      exact J.at' (i + 1, lo.set i (s / 2 ^ n % 4294967296)) ⟨rfl, rfl, rfl, rfl, trivial⟩ ⟨⟨inferInstance, o5, by show i + 1 ≤ m; omega, hfin⟩, by show m - (i + 1) < m - i; omega⟩
  · skip
    have him : i = m := by omega
    rw [him, List.take_of_length_le (by omega), List.take_of_length_le (by omega), List.getD_eq_getElem?_getD, List.getElem?_eq_none (by omega)] at hval
    have hfin : val lo = val l / 2 ^ n := by
      simp at hval
      have := Nat.div_add_mod (val l) (2 ^ n)
      rw [Nat.mul_comm] at this
      exact Nat.eq_of_mul_eq_mul_right hp (by omega)
    refine J.pub ho fun W6 i6 s6 => ?_
    refine J.exit rfl <| J.seq <| J.reg rfl <| O.mv rfl <| O.call rfl (ref01_trim_ok s6) fun W7 v7 i7 e7 h7 => O.as rfl <| JO.nil <| J.ret1 rfl (.tmp rfl) fun W' iE iP => ?_
    rw [← hfin]
    exact h7.to

/-- minus: the difference. -/
theorem ref01_minus_new {W : GW} {p q : Option Addr} {m c m' c' x y : Nat} (h : Sl RW W p m c (dig x)) (h' : Sl RW W q m' c' (dig y)) (hx : (dig x).length ≤ 4398046511104) (hle : y ≤ x) :
    Ok Tryz.prog 101 [.slice p m c, .slice q m' c'] W fun W' v => NewR RW W W' v (dig (x - y)) := by
  have hn := h.hn
  have hn' := h'.hn
  have hll := len_mono hle
  refine Ok.enter Tryz.func101 rfl rfl rfl rfl fun W0 iEn => ?_
  refine J.seq <| J.reg rfl <| O.as rfl <| JO.nil <| J.seq <| J.reg rfl <| O.mv rfl <| O.len rfl <| O.mk (r := RW) (m := m) (c := m) 0 rfl rfl rfl rfl (by omega) (by omega) (by omega) rfl rfl (by decide) (fun _ => ⟨rfl, by decide⟩) fun W2 b2 i2 e2 hb2 ho0 => O.as rfl <| JO.nil <| J.seq <| J.reg rfl <| O.as rfl <| JO.nil <| J.seq <| J.seq <| J.reg rfl <| O.as rfl <| JO.nil <| J.block <| ?_
  refine J.loop (α := Nat × List Nat × Nat) (fun q' => [(0, .slice p m c), (1, .slice q m' c'), (5, .slice (some ⟨b2, 0, none⟩) m m), (6, .int .u64 (q'.2.2 : Int)), (7, .int .i64 (q'.1 : Int))]) (fun q' W' => Le W0 W' ∧ Ows RW W' (some ⟨b2, 0, none⟩) m m q'.2.1 ∧ q'.1 ≤ m ∧ q'.2.2 ≤ 1 ∧ val (q'.2.1.take q'.1) + val ((dig y).take q'.1) = val ((dig x).take q'.1) + 4294967296 ^ q'.1 * q'.2.2) (fun q' => m - q'.1) (0, List.replicate m 0, 0) ⟨rfl, rfl, rfl, rfl, rfl, trivial⟩ ⟨inferInstance, ho0, Nat.zero_le _, Nat.zero_le _, rfl⟩ ?_
  rintro ⟨k, lo, br⟩ W3 ⟨_, ho, hk, hbr, hval⟩
  dsimp only at *
  refine J.seq <| J.seq <| J.reg rfl <| O.mv rfl <| O.mv rfl <| O.len rfl <| O.lt rfl rfl <| JO.nil <| J.condD rfl (fun h16 => ?_) (fun h16 => ?_)
  · skip
    obtain ⟨u, hu⟩ := xat (l := dig x) (k := k) (by omega)
    have hub := words_dig x u (List.mem_of_getElem? hu)
    refine J.skip <| J.seq <| J.block <| J.seq <| J.reg rfl <| O.as rfl <| JO.nil <| J.seq <| J.seq <| J.reg rfl <| O.mv rfl <| O.mv rfl <| O.len rfl <| O.lt rfl rfl <| JO.nil <| ?_
    refine J.cut (α := Nat) (fun v => [(0, .slice p m c), (1, .slice q m' c'), (5, .slice (some ⟨b2, 0, none⟩) m m), (6, .int .u64 (br : Int)), (7, .int .i64 (k : Int)), (8, .int .u64 (v : Int))]) (fun v W => W = W3 ∧ v < 4294967296 ∧ val ((dig y).take (k + 1)) = val ((dig y).take k) + 4294967296 ^ k * v) ?_ ?_
    · skip
      refine J.condD rfl (fun h22 => ?_) (fun h22 => ?_)
      · skip
        obtain ⟨u2, hu2⟩ := xat (l := dig y) (k := k) (by omega)
        have hub2 := words_dig y u2 (List.mem_of_getElem? hu2)
        refine J.reg rfl <| O.mv rfl <| O.mv rfl <| O.ixW (j := k) rfl rfl rfl h'.to hu2 fun a2 => O.cv rfl (wU (by omega)) <| O.as rfl <| JO.nil <| ?_
        exact J.at' u2 ⟨rfl, rfl, rfl, rfl, rfl, rfl, trivial⟩ ⟨rfl, hub2, val_take_succ hu2⟩
      · skip
        refine J.skip <| ?_
        exact J.at' 0 ⟨rfl, rfl, rfl, rfl, rfl, rfl, trivial⟩ ⟨rfl, by decide, by rw [take_ge (by omega)]; rfl⟩
    · skip
      rintro v W4 ⟨rfl, hvb, hyv⟩
      refine J.seq <| J.reg rfl <| O.mv rfl <| O.mv rfl <| O.ixW (j := k) rfl rfl rfl h.to hu fun a3 => O.cv rfl (wU (by omega)) <| O.add (r := ((u + 4294967296 : Nat) : Int)) rfl rfl ((wU (by omega)).trans (by omega)) <| O.mv rfl <| O.sb (r := ((u + 4294967296 - v : Nat) : Int)) rfl rfl ((wU (by omega)).trans (by omega)) <| O.mv rfl <| O.sb (r := ((u + 4294967296 - v - br : Nat) : Int)) rfl rfl ((wU (by omega)).trans (by omega)) <| O.as rfl <| JO.nil <| J.seq <| ?_
      obtain ⟨s, hs⟩ : ∃ s, s = u + 4294967296 - v - br := ⟨_, rfl⟩
      rw [← hs]
      refine J.reg rfl <| O.mv rfl <| O.mv rfl <| O.mv rfl <| O.cv (r := ((s % 4294967296 : Nat) : Int)) rfl ((wWm _).trans (by omega)) <| O.iaB (r := RW) (j := k) rfl rfl rfl ho (by omega) rfl <| O.sto (r := RW) (j := k) (u := s % 4294967296) rfl rfl ho (by omega) (rwv _ (by omega)) rfl (.inr rfl) fun W5 i5 o5 => JO.nil <| J.reg rfl <| O.mv rfl <| O.shr rfl rfl (by decide) (shr32 s) <| O.sb (r := ((1 - s / 4294967296 : Nat) : Int)) rfl rfl ((wU (by omega)).trans (by omega)) <| O.as rfl <| JO.nil <| J.bend <| J.reg rfl <| O.mv rfl <| O.add rfl rfl (wI (by omega)) <| O.as rfl <| JO.nil <| ?_
      have hlk : k < lo.length := by rw [← ho.hn]; omega
      have hfin : val ((lo.set k (s % 4294967296)).take (k + 1)) + val ((dig y).take (k + 1)) = val ((dig x).take (k + 1)) + 4294967296 ^ (k + 1) * (1 - s / 4294967296) := by
        rw [val_set hlk, hyv, val_take_succ hu, Nat.pow_succ, Nat.mul_assoc]
        have e : 4294967296 ^ k * (s % 4294967296 + v + br) = 4294967296 ^ k * (u + 4294967296 * (1 - s / 4294967296)) := by congr 1; omega
        simp only [Nat.mul_add] at e
        omega
      exact J.at' (k + 1, lo.set k (s % 4294967296), 1 - s / 4294967296) ⟨rfl, rfl, rfl, rfl, rfl, trivial⟩ ⟨⟨inferInstance, o5, by show k + 1 ≤ m; omega, by show 1 - s / 4294967296 ≤ 1; omega, hfin⟩, by show m - (k + 1) < m - k; omega⟩
  · skip
    have hkn : k = m := by omega
    have hlw := ownw ho
    have hln := ho.hn
    rw [hkn, List.take_of_length_le (by omega), List.take_of_length_le (by omega), List.take_of_length_le (by omega), val_dig, val_dig] at hval
    have hvl := val_lt hlw
    rw [← hln] at hvl
    have hbr0 : br = 0 := by
      rcases Nat.eq_zero_or_pos br with h0 | h0
      · exact h0
      · have h1 : 4294967296 ^ m * 1 ≤ 4294967296 ^ m * br := Nat.mul_le_mul_left _ h0
        omega
    rw [hbr0, Nat.mul_zero] at hval
    have hfin : val lo = x - y := by omega
    have hW : W.size = W0.size := by rw [GW.size, GW.size, iEn.w]
    refine J.exit rfl <| J.seq <| ?_
    refine J.pub ho fun W6 i6 s6 => ?_
    refine J.reg rfl <| O.mv rfl <| O.call rfl (ref01_trimP_ok s6) fun W7 v7 i7 e7 h7 => ?_
    obtain ⟨k7, rfl, h7⟩ := h7
    refine O.as rfl <| JO.nil <| J.ret1 rfl (.tmp rfl) fun W' iE iP => ?_
    rw [← hfin]
    exact ⟨_, _, _, rfl, by rw [hW]; exact hb2, h7.to⟩
theorem ref01_minus_ok {W : GW} {p q : Option Addr} {m c m' c' x y : Nat} (h : Sl RW W p m c (dig x)) (h' : Sl RW W q m' c' (dig y)) (hx : (dig x).length ≤ 4398046511104) (hle : y ≤ x) :
    Ok Tryz.prog 101 [.slice p m c, .slice q m' c'] W fun W' v => V (RSl RW) W' v (dig (x - y)) :=
  (ref01_minus_new h h' hx hle).mono fun _ _ _ h => h.v

theorem val_zero_repl (n k : Nat) : val ((List.replicate n 0).take k) = 0 := by
  rw [List.take_replicate]; exact val_zeros _
/-- times: the product. -/
theorem ref01_times_new {W : GW} {p q : Option Addr} {m c m' c' : Nat} {l l' : List Nat} (h : Sl RW W p m c l) (h' : Sl RW W q m' c' l') (hx : l.length ≤ 4398046511104) (hy : l'.length ≤ 4398046511104) :
    Ok Tryz.prog 102 [.slice p m c, .slice q m' c'] W fun W' v => NewR RW W W' v (dig (val l * val l')) := by
  have hn := h.hn
  have hn' := h'.hn
  have hlw := slw h
  have hlw' := slw h'
  refine Ok.enter Tryz.func102 rfl rfl rfl rfl fun W0 iEn => ?_
  refine J.seq <| J.reg rfl <| O.as rfl <| JO.nil <| J.seq <| J.reg rfl <| O.mv rfl <| O.len rfl <| O.mv rfl <| O.len rfl <| O.add rfl rfl (wI (by omega)) <| O.mk (r := RW) (m := m + m') (c := m + m') 0 rfl rfl rfl rfl (by omega) (by omega) (by omega) rfl rfl (by decide) (fun _ => ⟨rfl, by decide⟩) fun W2 b2 i2 e2 hb2 ho0 => O.as rfl <| JO.nil <| J.seq <| J.seq <| J.reg rfl <| O.as rfl <| JO.nil <| J.block <| ?_
  refine J.loop (α := Nat × List Nat) (fun q' => [(0, .slice p m c), (1, .slice q m' c'), (5, .slice (some ⟨b2, 0, none⟩) (m + m') (m + m')), (6, .int .i64 (q'.1 : Int))]) (fun q' W' => Le W0 W' ∧ Ows RW W' (some ⟨b2, 0, none⟩) (m + m') (m + m') q'.2 ∧ q'.1 ≤ m ∧ val (q'.2.take (q'.1 + m')) = val (l.take q'.1) * val l') (fun q' => m - q'.1) (0, List.replicate (m + m') 0) ⟨rfl, rfl, rfl, rfl, trivial⟩ ⟨inferInstance, ho0, Nat.zero_le _, by dsimp only; rw [val_zero_repl, List.take_zero]; simp [val]⟩ ?_
  rintro ⟨i, lo0⟩ W3 ⟨_, ho1, hi, hval⟩
  dsimp only at *
  refine J.seq <| J.seq <| J.reg rfl <| O.mv rfl <| O.mv rfl <| O.len rfl <| O.lt rfl rfl <| JO.nil <| J.condD rfl (fun h18 => ?_) (fun h18 => ?_)
  · skip
    obtain ⟨u, hu⟩ := xat (l := l) (k := i) (by omega)
    have hub := hlw u (List.mem_of_getElem? hu)
    obtain ⟨bx, ox, rfl, hjx, hwx⟩ := h.word hu
    refine J.skip <| J.seq <| J.block <| J.seq <| J.reg rfl <| O.as rfl <| JO.nil <| J.seq <| J.seq <| J.reg rfl <| O.as rfl <| JO.nil <| J.block <| ?_
    refine J.loop (α := Nat × List Nat × Nat) (fun q' => [(0, .slice (some ⟨bx, ox, none⟩) m c), (1, .slice q m' c'), (5, .slice (some ⟨b2, 0, none⟩) (m + m') (m + m')), (6, .int .i64 (i : Int)), (7, .int .u64 (q'.2.2 : Int)), (8, .int .i64 (q'.1 : Int))]) (fun q' W' => Le W0 W' ∧ Ows RW W' (some ⟨b2, 0, none⟩) (m + m') (m + m') q'.2.1 ∧ q'.1 ≤ m' ∧ q'.2.2 < 4294967296 ∧ (∀ j, i + q'.1 ≤ j → q'.2.1[j]? = lo0[j]?) ∧ val (q'.2.1.take (i + q'.1)) + 4294967296 ^ (i + q'.1) * q'.2.2 = val (lo0.take (i + q'.1)) + 4294967296 ^ i * (u * val (l'.take q'.1))) (fun q' => m' - q'.1) (0, lo0, 0) ⟨rfl, rfl, rfl, rfl, rfl, rfl, trivial⟩ ⟨inferInstance, ho1, Nat.zero_le _, by show (0 : Nat) < 4294967296; decide, fun _ _ => rfl, rfl⟩ ?_
    rintro ⟨k, lo, cr⟩ W4 ⟨_, ho, hk, hcr, hrest, hval2⟩
    dsimp only at *
    have hln := ho.hn
    have hln0 := ho1.hn
    refine J.seq <| J.seq <| J.reg rfl <| O.mv rfl <| O.mv rfl <| O.len rfl <| O.lt rfl rfl <| JO.nil <| J.condD rfl (fun h24 => ?_) (fun h24 => ?_)
    · skip
      obtain ⟨v, hv⟩ := xat (l := l') (k := k) (by omega)
      have hvb := hlw' v (List.mem_of_getElem? hv)
      obtain ⟨w, hw⟩ := xat (l := lo) (k := i + k) (by omega)
      have hwb := own_val_word ho hw
      have huv : u * v ≤ 4294967295 * 4294967295 := Nat.mul_le_mul (by omega) (by omega)
      obtain ⟨by', oy, rfl, hjy, hwy⟩ := h'.word hv
      obtain ⟨_, hwo⟩ := ho.word hw
      refine J.skip <| J.seq <| J.block <| J.seq <| ?_
      refine J.sub [(0, _), (1, _), (5, _), (6, _), (7, _), (8, _)] ⟨rfl, rfl, rfl, rfl, rfl, rfl, trivial⟩ ?_
      refine J.draw [.ex _, .ex _, .ex _, .ex _, .ex _, .ex _, .ex _, .ex _, .ex _, .ex _, .ex _, .ex _, .ex _, .ex _, .ex _, .ex _, .ex _, .ex _, .ex _, .ex _, .ex _] rfl rfl ⟨fun W1 i1 e1 _ => O.mv rfl <| D.ex, fun W1 i1 e1 _ => O.mv rfl <| D.ex, fun W1 i1 e1 _ => O.mv rfl <| D.ex, fun W1 i1 e1 _ => O.mv rfl <| D.ex, fun W1 i1 e1 _ => O.add rfl rfl (wI (by omega)) <| D.ex, fun W1 i1 e1 _ => O.ia (j := i + k) rfl rfl (by omega) (by omega) <| D.ex, fun W1 i1 e1 _ => O.ldC rfl (hwo _ i1 e1) <| D.ex, fun W1 i1 e1 _ => O.cv rfl (wU (by omega)) <| D.ex, fun W1 i1 e1 _ => O.add (r := ((cr + w : Nat) : Int)) rfl rfl ((wU (by omega)).trans (by omega)) <| D.ex, fun W1 i1 e1 _ => O.mv rfl <| D.ex, fun W1 i1 e1 _ => O.mv rfl <| D.ex, fun W1 i1 e1 _ => O.ia (j := i) rfl rfl rfl hjx <| D.ex, fun W1 i1 e1 _ => O.ldC rfl (hwx _ Lf.s) <| D.ex, fun W1 i1 e1 _ => O.cv rfl (wU (by omega)) <| D.ex, fun W1 i1 e1 _ => O.mv rfl <| D.ex, fun W1 i1 e1 _ => O.mv rfl <| D.ex, fun W1 i1 e1 _ => O.ia (j := k) rfl rfl rfl hjy <| D.ex, fun W1 i1 e1 _ => O.ldC rfl (hwy _ Lf.s) <| D.ex, fun W1 i1 e1 _ => O.cv rfl (wU (by omega)) <| D.ex, fun W1 i1 e1 _ => O.mul (r := ((u * v : Nat) : Int)) rfl rfl ((wU (by rw [← Int.natCast_mul]; omega)).trans (by rw [Int.natCast_mul])) <| D.ex, fun W1 i1 e1 _ => O.add (r := ((cr + w + u * v : Nat) : Int)) rfl rfl ((wU (by omega)).trans (by omega)) <| D.ex, trivial⟩ ?_
      intro W1 i1 e1
      refine O.as rfl <| JO.nil <| J.seq <| ?_
      obtain ⟨s, hs⟩ : ∃ s, s = cr + w + u * v := ⟨_, rfl⟩
      have hs2 : s < 18446744073709551616 := by omega
      rw [← hs]
      have ho5 := ho.ext e1
      refine J.reg rfl <| O.mv rfl <| O.mv rfl <| O.mv rfl <| O.add rfl rfl (wI (by omega)) <| O.mv rfl <| O.cv (r := ((s % 4294967296 : Nat) : Int)) rfl ((wWm _).trans (by omega)) <| O.iaB (r := RW) (j := i + k) rfl rfl rfl ho5 (by omega) rfl <| O.sto (r := RW) (j := i + k) (u := s % 4294967296) rfl rfl ho5 (by omega) (rwv _ (by omega)) rfl (.inr rfl) fun W5 i5 o5 => JO.nil <| J.reg rfl <| O.mv rfl <| O.shr rfl rfl (by decide) (shr32 s) <| O.as rfl <| JO.nil <| J.bend <| J.reg rfl <| O.mv rfl <| O.add rfl rfl (wI (by omega)) <| O.as rfl <| JO.nil <| ?_
      have hfin : val ((lo.set (i + k) (s % 4294967296)).take (i + (k + 1))) + 4294967296 ^ (i + (k + 1)) * (s / 4294967296) = val (lo0.take (i + (k + 1))) + 4294967296 ^ i * (u * val (l'.take (k + 1))) := by
        have hw0 : lo0[i + k]? = some w := by rw [← hrest (i + k) (Nat.le_refl _)]; exact hw
        rw [← Nat.add_assoc, val_set (by omega), val_take_succ hw0, val_take_succ hv, Nat.pow_succ, Nat.mul_assoc, Nat.mul_add u, Nat.mul_add (4294967296 ^ i)]
        have e : 4294967296 ^ (i + k) * s = 4294967296 ^ (i + k) * (s % 4294967296) + 4294967296 ^ (i + k) * (4294967296 * (s / 4294967296)) := by rw [← Nat.mul_add]; congr 1; omega
        have e2 : 4294967296 ^ (i + k) * s = 4294967296 ^ (i + k) * cr + 4294967296 ^ i * (u * (4294967296 ^ k * v)) + 4294967296 ^ (i + k) * w := by
          rw [hs, Nat.mul_add, Nat.mul_add, Nat.pow_add]
          have : 4294967296 ^ i * 4294967296 ^ k * (u * v) = 4294967296 ^ i * (u * (4294967296 ^ k * v)) := by
            rw [Nat.mul_assoc, Nat.mul_left_comm (4294967296 ^ k) u v]
          omega
        omega
      exact J.at' (k + 1, lo.set (i + k) (s % 4294967296), s / 4294967296) ⟨rfl, rfl, rfl, rfl, rfl, rfl, trivial⟩ ⟨⟨inferInstance, o5, by show k + 1 ≤ m'; omega, by show s / 4294967296 < 4294967296; omega, fun j hj => by rw [List.getElem?_set_ne (by omega)]; exact hrest j (by omega), hfin⟩, by show m' - (k + 1) < m' - k; omega⟩
    · skip
      have hkm : k = m' := by omega
      obtain rfl := hkm
      refine J.exit rfl <| J.reg rfl <| O.mv rfl <| O.mv rfl <| O.mv rfl <| O.len rfl <| O.add rfl rfl (wI (by omega)) <| O.mv rfl <| O.cv (r := ((cr : Nat) : Int)) rfl (wW (by omega)) <| O.iaB (r := RW) (j := i + k) rfl rfl rfl ho (by omega) rfl <| O.sto (r := RW) (j := i + k) (u := cr) rfl rfl ho (by omega) (rwv _ (by omega)) rfl (.inr rfl) fun W5 i5 o5 => JO.nil <| J.bend <| J.reg rfl <| O.mv rfl <| O.add rfl rfl (wI (by omega)) <| O.as rfl <| JO.nil <| ?_
      have hfin : val ((lo.set (i + k) cr).take (i + 1 + k)) = val (l.take (i + 1)) * val l' := by
        rw [show i + 1 + k = i + k + 1 from by omega, val_set (by omega), val_take_succ hu, hval2, hval, List.take_of_length_le (l := l') (i := k) (by omega), Nat.add_mul, Nat.mul_assoc]
      exact J.at' (i + 1, lo.set (i + k) cr) ⟨rfl, rfl, rfl, rfl, trivial⟩ ⟨⟨inferInstance, o5, by show i + 1 ≤ m; omega, hfin⟩, by show m - (i + 1) < m - i; omega⟩
  · skip
    have him : i = m := by omega
    have hln0 := ho1.hn
    rw [him, List.take_of_length_le (by omega), List.take_of_length_le (by omega)] at hval
    have hW : W.size = W0.size := by rw [GW.size, GW.size, iEn.w]
    refine J.exit rfl <| J.seq <| ?_
    refine J.pub ho1 fun W6 i6 s6 => ?_
    refine J.reg rfl <| O.mv rfl <| O.call rfl (ref01_trimP_ok s6) fun W7 v7 i7 e7 h7 => ?_
    obtain ⟨k7, rfl, h7⟩ := h7
    refine O.as rfl <| JO.nil <| J.ret1 rfl (.tmp rfl) fun W' iE iP => ?_
    rw [← hval]
    exact ⟨_, _, _, rfl, by rw [hW]; exact hb2, h7.to⟩
theorem ref01_times_ok {W : GW} {p q : Option Addr} {m c m' c' x y : Nat} (h : Sl RW W p m c (dig x)) (h' : Sl RW W q m' c' (dig y)) (hx : (dig x).length ≤ 4398046511104) (hy : (dig y).length ≤ 4398046511104) :
    Ok Tryz.prog 102 [.slice p m c, .slice q m' c'] W fun W' v => V (RSl RW) W' v (dig (x * y)) :=
  (ref01_times_new h h' hx hy).mono fun _ _ _ h => by have := h.v; rwa [val_dig, val_dig] at this
end Go.Proofs.YtcobdnnfmhfenaaGreat

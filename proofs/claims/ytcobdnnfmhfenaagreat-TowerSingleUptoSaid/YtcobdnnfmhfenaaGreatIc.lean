/- The program's integers, the words, third part: shifts, division by a word. -/
import Derived.Test.YtcobdnnfmhfenaaGreatIb
set_option linter.unusedVariables false
set_option linter.unusedSimpArgs false
set_option maxRecDepth 10000
namespace Go.Proofs.YtcobdnnfmhfenaaGreat
open Go Go.Rx Go.Num

theorem shl_lt {u n : Nat} (hu : u < 4294967296) (hn : n < 32) : u * 2 ^ n < 9223372036854775808 := by
  have h1 : 2 ^ n ≤ 2 ^ 31 := Nat.pow_le_pow_right (by decide) (by omega)
  have h2 : u * 2 ^ n ≤ 4294967295 * 2 ^ 31 := Nat.mul_le_mul (by omega) h1
  omega
/-- shiftLeft: the words of a times 2^n, one more. -/
theorem integer_shiftLeft_own {W : GW} {p : Option Addr} {m c n x : Nat} (h : Sl RW W p m c (dig x)) (hx : (dig x).length ≤ 1099511627776) (hn32 : n < 32) :
    Ok Tryz.prog 117 [.slice p m c, .int .i64 (n : Int)] W fun W' v => ∃ l, l.length = m + 1 ∧ val l = x * 2 ^ n ∧ OwnR RW W W' v l := by
  have hn := h.hn
  have hp := Nat.two_pow_pos n
  have hp32 : 2 ^ n ≤ 2147483648 := by have : 2 ^ n ≤ 2 ^ 31 := Nat.pow_le_pow_right (by decide) (by omega); omega
  refine Ok.enter Tryz.func117 rfl rfl rfl rfl fun W0 iEn => ?_
  refine J.seq <| J.reg rfl <| O.as rfl <| JO.nil <| J.seq <| J.reg rfl <| O.mv rfl <| O.len rfl <| O.add rfl rfl (wI (by omega)) <| O.mk (r := RW) (m := m + 1) (c := m + 1) 0 rfl rfl rfl rfl (by omega) (by omega) (by omega) rfl rfl (by decide) (fun _ => ⟨rfl, by decide⟩) fun W2 b2 i2 e2 hb2 ho0 => O.as rfl <| JO.nil <| J.seq <| J.seq <| J.reg rfl <| O.mv rfl <| O.len rfl <| O.mv rfl <| JO.nil <| J.block <| ?_
  refine J.loop (α := Nat × List Nat) (fun q => [(1, .int .i64 (n : Int)), (5, .slice (some ⟨b2, 0, none⟩) (m + 1) (m + 1)), (13, .slice p m c), (14, .int .i64 (m : Int)), (15, .int .i64 (q.1 : Int))]) (fun q W' => Le W0 W' ∧ Ows RW W' (some ⟨b2, 0, none⟩) (m + 1) (m + 1) q.2 ∧ q.1 ≤ m ∧ val (q.2.take (q.1 + 1)) = val ((dig x).take q.1) * 2 ^ n ∧ (∃ w, q.2[q.1]? = some w ∧ w < 2 ^ n)) (fun q => m - q.1) (0, List.replicate (m + 1) 0) ⟨rfl, rfl, rfl, rfl, rfl, trivial⟩ ⟨inferInstance, ho0, Nat.zero_le _, val_repl0 _ _, 0, by simp, hp⟩ ?_
  rintro ⟨i, lo⟩ W3 ⟨_, ho, hi, hval, w, hw, hwn⟩
  dsimp only at *
  have hln := ho.hn
  refine J.seq <| J.reg rfl <| O.lt rfl rfl <| JO.nil <| J.seq <| J.condD rfl (fun h16 => ?_) (fun h16 => ?_)
  · skip
    obtain ⟨u, hu⟩ := xat (l := dig x) (k := i) (by omega)
    have hub := words_dig x u (List.mem_of_getElem? hu)
    have hs1 := shl_lt hub hn32
    have hs2 := mul_mod_pow u n (by omega)
    refine J.skip <| J.seq <| J.block <| J.seq <| J.reg rfl <| O.mv rfl <| O.ixW (j := i) rfl rfl rfl h.to hu fun a1 => O.as rfl <| O.as rfl <| JO.nil <| J.seq <| J.reg rfl <| O.mv rfl <| O.cv rfl (wU (by omega)) <| O.mv rfl <| O.shl rfl rfl (by omega) (shl_eq (u := u) (n := n) (by omega) (by omega)) <| O.as rfl <| JO.nil <| J.seq <| ?_
    obtain ⟨s, hs⟩ : ∃ s, s = u * 2 ^ n := ⟨_, rfl⟩
    rw [← hs]
    rw [← hs] at hs1 hs2
    refine J.reg rfl <| O.mv rfl <| O.mv rfl <| O.ixo (r := RW) (j := i) rfl rfl rfl ho hw rfl rfl (fun _ => rfl) fun a3 v3 h3 => ?_
    obtain rfl := h3.rw.1
    have hor : w ||| s % 4294967296 = s % 4294967296 + w := by rw [Nat.or_comm, hs2]; exact or_add _ _ _ hwn
    have hlt : s % 4294967296 + w < 4294967296 := by
      rw [hs2]
      have h1 : u % 2 ^ (32 - n) + 1 ≤ 2 ^ (32 - n) := Nat.mod_lt _ (Nat.two_pow_pos _)
      have h2 := Nat.mul_le_mul_right (2 ^ n) h1
      rw [← Nat.pow_add, show 32 - n + n = 32 from by omega, Nat.succ_mul] at h2
      omega
    refine O.mv rfl <| O.cv (r := ((s % 4294967296 : Nat) : Int)) rfl ((wWm _).trans (by omega)) <| O.or (p := w) (q := s % 4294967296) (r := ((s % 4294967296 + w : Nat) : Int)) rfl rfl rfl rfl (by show _ < 4294967296; omega) (by show _ < 4294967296; omega) ((wW (by rw [hor]; omega)).trans (by rw [hor])) <| O.iaB (r := RW) (j := i) rfl rfl rfl ho (by omega) rfl <| O.sto (r := RW) (j := i) (u := s % 4294967296 + w) rfl rfl ho (by omega) (rwv _ hlt) rfl (.inr rfl) fun W4 i4 o4 => JO.nil <| J.reg rfl <| O.mv rfl <| O.mv rfl <| O.add rfl rfl (wI (by omega)) <| O.mv rfl <| O.shr rfl rfl (by decide) (shr32 s) <| O.cv (r := ((s / 4294967296 : Nat) : Int)) rfl (wW (by omega)) <| O.iaB (r := RW) (j := i + 1) rfl rfl rfl o4 (by omega) rfl <| O.sto (r := RW) (j := i + 1) (u := s / 4294967296) rfl rfl o4 (by omega) (rwv _ (by omega)) rfl (.inr rfl) fun W5 i5 o5 => JO.nil <| J.bend <| J.reg rfl <| O.add rfl rfl (wI (by omega)) <| O.mv rfl <| JO.nil <| ?_
    have hfin : val (((lo.set i (s % 4294967296 + w)).set (i + 1) (s / 4294967296)).take (i + 1 + 1)) = val ((dig x).take (i + 1)) * 2 ^ n := by
      rw [val_set (by rw [List.length_set]; omega), val_set (by omega), val_take_succ hu, Nat.add_mul, ← hval, val_take_succ hw, Nat.mul_assoc, ← hs, Nat.pow_succ, Nat.mul_add, Nat.mul_assoc]
      have e : 4294967296 ^ i * s = 4294967296 ^ i * (s % 4294967296) + 4294967296 ^ i * (4294967296 * (s / 4294967296)) := by rw [← Nat.mul_add]; congr 1; omega
      omega
    have hlt2 : s / 4294967296 < 2 ^ n := by
      rw [Nat.div_lt_iff_lt_mul (by decide), hs, Nat.mul_comm]
      exact Nat.mul_lt_mul_of_pos_left hub hp
    exact J.at' (i + 1, (lo.set i (s % 4294967296 + w)).set (i + 1) (s / 4294967296)) ⟨rfl, rfl, rfl, rfl, rfl, trivial⟩ ⟨⟨inferInstance, o5, by show i + 1 ≤ m; omega, hfin, s / 4294967296, by rw [List.getElem?_set_self (by rw [List.length_set]; omega)], hlt2⟩, by show m - (i + 1) < m - i; omega⟩
  · skip
    refine J.exit rfl <| J.seq <| J.reg rfl <| O.mv rfl <| O.as rfl <| JO.nil <| J.ret1o rfl (.tmp rfl) fun W' iE iO => ?_
    have him : i = m := by omega
    rw [him, List.take_of_length_le (by omega), List.take_of_length_le (by omega), val_dig] at hval
    have hW : W.size = W0.size := by rw [GW.size, GW.size, iEn.w]
    exact ⟨lo, by omega, hval, _, _, _, rfl, ho.out iE iO, fun a ha _ => by injection ha with ha; subst ha; rw [hW]; exact hb2⟩

theorem integer_shiftLeft_ok {W : GW} {p : Option Addr} {m c n x : Nat} (h : Sl RW W p m c (dig x)) (hx : (dig x).length ≤ 1099511627776) (hn32 : n < 32) :
    Ok Tryz.prog 117 [.slice p m c, .int .i64 (n : Int)] W fun W' v => ∃ l, l.length = m + 1 ∧ val l = x * 2 ^ n ∧ V (RSl RW) W' v l := by
  have h1 := integer_shiftLeft_own h hx hn32
  refine ⟨h1.1, h1.2.mono ?_⟩
  rintro e w' ⟨W', v, he, hw, hE, l, hl, hv, ho⟩
  have := Ok.own (P := Tryz.prog) (f := 0) (W := W) (r := RW) (xs := l) (vs := [])
  obtain ⟨W2, h2, h3, h4⟩ := own_pub hE ho
  exact ⟨W2, v, he, h2.trans hw, h3, l, hl, hv, h4⟩

theorem shr_digit {u v n : Nat} (hu : u < 4294967296) (hn : n < 32) : (u / 2 ^ n) ||| (v * 2 ^ (32 - n) % 4294967296) = u / 2 ^ n + (v % 2 ^ n) * 2 ^ (32 - n) ∧ u / 2 ^ n + (v % 2 ^ n) * 2 ^ (32 - n) < 4294967296 := by
  have h1 := mul_mod_pow v (32 - n) (by omega)
  rw [show 32 - (32 - n) = n from by omega] at h1
  have hd : u / 2 ^ n < 2 ^ (32 - n) := by
    rw [Nat.div_lt_iff_lt_mul (Nat.two_pow_pos n), ← Nat.pow_add, show 32 - n + n = 32 from by omega]
    exact hu
  rw [h1, Nat.or_comm, or_add _ _ _ hd, Nat.add_comm]
  refine ⟨rfl, ?_⟩
  have h2 : v % 2 ^ n + 1 ≤ 2 ^ n := Nat.mod_lt _ (Nat.two_pow_pos _)
  have h3 := Nat.mul_le_mul_right (2 ^ (32 - n)) h2
  rw [← Nat.pow_add, show n + (32 - n) = 32 from by omega, Nat.succ_mul] at h3
  omega
theorem shr_step {a b u v n m P : Nat} (hn : n < 32) (h : a * 2 ^ n + b = P + 4294967296 ^ m * (u % 2 ^ n)) :
    (a + 4294967296 ^ m * (u / 2 ^ n + (v % 2 ^ n) * 2 ^ (32 - n))) * 2 ^ n + b = P + 4294967296 ^ m * u + 4294967296 ^ (m + 1) * (v % 2 ^ n) := by
  have hB : 4294967296 ^ (m + 1) = 4294967296 ^ m * 4294967296 := Nat.pow_succ ..
  have e2 : v % 2 ^ n * 2 ^ (32 - n) * 2 ^ n = 4294967296 * (v % 2 ^ n) := by
    rw [Nat.mul_assoc, ← Nat.pow_add, show 32 - n + n = 32 from by omega, Nat.mul_comm]
  rw [Nat.add_mul, Nat.mul_assoc (4294967296 ^ m), Nat.add_mul (u / 2 ^ n), e2, hB, Nat.mul_assoc (4294967296 ^ m), Nat.mul_add (4294967296 ^ m)]
  have e : 4294967296 ^ m * u = 4294967296 ^ m * (u / 2 ^ n * 2 ^ n) + 4294967296 ^ m * (u % 2 ^ n) := by
    rw [← Nat.mul_add]; congr 1; rw [Nat.mul_comm (u / 2 ^ n)]; exact (Nat.div_add_mod ..).symm
  omega
/-- shiftRight: the words of a number divided by 2^n. -/
theorem integer_shiftRight_ok {W : GW} {p : Option Addr} {m c n : Nat} {l : List Nat} (h : Sl RW W p m c l) (hx : l.length ≤ 1099511627776) (hn32 : n < 32) :
    Ok Tryz.prog 120 [.slice p m c, .int .i64 (n : Int)] W fun W' v => ∃ l', val l' = val l / 2 ^ n ∧ V (RSl RW) W' v l' := by
  have hn := h.hn
  have hp := Nat.two_pow_pos n
  have hp32 : 2 ^ n ≤ 2147483648 := by have : 2 ^ n ≤ 2 ^ 31 := Nat.pow_le_pow_right (by decide) (by omega); omega
  refine Ok.enter Tryz.func120 rfl rfl rfl rfl fun W0 iEn => ?_
  refine J.seq <| J.reg rfl <| O.as rfl <| JO.nil <| J.seq <| J.reg rfl <| O.mv rfl <| O.len rfl <| O.mk (r := RW) (m := m) (c := m) 0 rfl rfl rfl rfl (by omega) (by omega) (by omega) rfl rfl (by decide) (fun _ => ⟨rfl, by decide⟩) fun W2 b2 i2 e2 hb2 ho0 => O.as rfl <| JO.nil <| J.seq <| J.seq <| J.reg rfl <| O.mv rfl <| O.len rfl <| O.mv rfl <| JO.nil <| J.block <| ?_
  refine J.loop (α := Nat × List Nat) (fun q => [(0, .slice p m c), (1, .int .i64 (n : Int)), (5, .slice (some ⟨b2, 0, none⟩) m m), (11, .slice p m c), (12, .int .i64 (m : Int)), (13, .int .i64 (q.1 : Int))]) (fun q W' => Le W0 W' ∧ Ows RW W' (some ⟨b2, 0, none⟩) m m q.2 ∧ q.1 ≤ m ∧ val (q.2.take q.1) * 2 ^ n + val l % 2 ^ n = val (l.take q.1) + 4294967296 ^ q.1 * (l.getD q.1 0 % 2 ^ n)) (fun q => m - q.1) (0, List.replicate m 0) ⟨rfl, rfl, rfl, rfl, rfl, rfl, trivial⟩ ⟨inferInstance, ho0, Nat.zero_le _, by simp [val, val_mod_pow l n (by omega)]⟩ ?_
  rintro ⟨i, lo⟩ W3 ⟨_, ho, hi, hval⟩
  dsimp only at *
  have hln := ho.hn
  refine J.seq <| J.reg rfl <| O.lt rfl rfl <| JO.nil <| J.seq <| J.condD rfl (fun h14 => ?_) (fun h14 => ?_)
  · skip
    obtain ⟨u, hu⟩ := xat (l := l) (k := i) (by omega)
    have hub := slw h u (List.mem_of_getElem? hu)
    have hdu : u / 2 ^ n < 4294967296 := Nat.lt_of_le_of_lt (Nat.div_le_self ..) hub
    have hgu : l.getD i 0 = u := by rw [List.getD_eq_getElem?_getD, hu]; rfl
    rw [hgu] at hval
    refine J.skip <| J.seq <| J.block <| J.seq <| J.reg rfl <| O.mv rfl <| O.ixW (j := i) rfl rfl rfl h.to hu fun a1 => O.as rfl <| O.as rfl <| JO.nil <| J.seq <| J.reg rfl <| O.mv rfl <| O.mv rfl <| O.mv rfl <| O.mv rfl <| O.shr rfl rfl (by omega) (shr32_eq u n (by omega)) <| O.iaB (r := RW) (j := i) rfl rfl rfl ho (by omega) rfl <| O.sto (r := RW) (j := i) (u := u / 2 ^ n) rfl rfl ho (by omega) (rwv _ hdu) rfl (.inr rfl) fun W4 i4 o4 => JO.nil <| J.seq <| J.reg rfl <| O.mv rfl <| O.add rfl rfl (wI (by omega)) <| O.mv rfl <| O.len rfl <| O.lt rfl rfl <| JO.nil <| ?_
    refine J.cut (α := List Nat) (fun _ => [(0, .slice p m c), (1, .int .i64 (n : Int)), (5, .slice (some ⟨b2, 0, none⟩) m m), (11, .slice p m c), (12, .int .i64 (m : Int)), (13, .int .i64 (i : Int))]) (fun lo' W' => Le W0 W' ∧ Ows RW W' (some ⟨b2, 0, none⟩) m m lo' ∧ ∃ v, l.getD (i + 1) 0 = v ∧ lo' = lo.set i (u / 2 ^ n + (v % 2 ^ n) * 2 ^ (32 - n))) ?_ ?_
    · skip
      refine J.condD rfl (fun h28 => ?_) (fun h28 => ?_)
      · skip
        obtain ⟨v, hv⟩ := xat (l := l) (k := i + 1) (by omega)
        have hvb := slw h v (List.mem_of_getElem? hv)
        obtain ⟨b3, o3, rfl, hj3, hw3⟩ := h.word hv
        have hsd := shr_digit (v := v) hub hn32
        have hv64 : v * 2 ^ (32 - n) < 18446744073709551616 := by
          have h1 : 2 ^ (32 - n) ≤ 2 ^ 32 := Nat.pow_le_pow_right (by decide) (by omega)
          have h2 : v * 2 ^ (32 - n) ≤ 4294967295 * 2 ^ 32 := Nat.mul_le_mul (by omega) h1
          omega
        obtain ⟨s, hs⟩ : ∃ s, s = v * 2 ^ (32 - n) := ⟨_, rfl⟩
        have hget : (lo.set i (u / 2 ^ n))[i]? = some (u / 2 ^ n) := List.getElem?_set_self (by omega)
        have hshl := shl_eq (u := v) (n := 32 - n) hv64 (by omega)
        rw [← hs] at hsd hv64 hshl
        rw [show ((32 - n : Nat) : Int) = 32 - (n : Int) from by omega] at hshl
        obtain ⟨ob, hob⟩ := o4.word hget
        refine J.sub [(0, _), (1, _), (5, _), (6, _), (11, _), (12, _), (13, _)] ⟨rfl, rfl, rfl, rfl, rfl, rfl, rfl, trivial⟩ ?_
        refine J.draw [.ex _, .ex _, .ex _, .ex _, .ex _, .ex _, .ex _, .ex _, .ex _, .ex _, .ex _, .ex _, .ex _, .ex _, .ex _] rfl rfl ⟨fun W1 i1 e1 _ => O.mv rfl <| D.ex, fun W1 i1 e1 _ => O.mv rfl <| D.ex, fun W1 i1 e1 _ => O.ia (j := i) rfl rfl rfl (by omega) <| D.ex, fun W1 i1 e1 _ => O.ldC rfl (hob _ i1 e1) <| D.ex, fun W1 i1 e1 _ => O.mv rfl <| D.ex, fun W1 i1 e1 _ => O.mv rfl <| D.ex, fun W1 i1 e1 _ => O.add rfl rfl (wI (by omega)) <| D.ex, fun W1 i1 e1 _ => O.ia (j := i + 1) rfl rfl rfl hj3 <| D.ex, fun W1 i1 e1 _ => O.ldC rfl (hw3 _ Lf.s) <| D.ex, fun W1 i1 e1 _ => O.cv rfl (wU (by omega)) <| D.ex, fun W1 i1 e1 _ => O.mv rfl <| D.ex, fun W1 i1 e1 _ => O.sb rfl rfl (wI (by omega)) <| D.ex, fun W1 i1 e1 _ => O.shl rfl rfl (by omega) hshl <| D.ex, fun W1 i1 e1 _ => O.cv (r := ((s % 4294967296 : Nat) : Int)) rfl ((wWm _).trans (by omega)) <| D.ex, fun W1 i1 e1 _ => O.or (p := u / 2 ^ n) (q := s % 4294967296) (r := ((u / 2 ^ n + (v % 2 ^ n) * 2 ^ (32 - n) : Nat) : Int)) rfl rfl rfl rfl (by show _ < 4294967296; omega) (by show _ < 4294967296; omega) ((wW (by rw [hsd.1]; omega)).trans (by rw [hsd.1])) <| D.ex, trivial⟩ ?_
        intro W1 i1 e1
        refine O.iaB (r := RW) (j := i) rfl rfl rfl (o4.ext e1) (by omega) rfl <| O.sto (r := RW) (j := i) (u := u / 2 ^ n + (v % 2 ^ n) * 2 ^ (32 - n)) rfl rfl (o4.ext e1) (by omega) (rwv _ hsd.2) rfl (.inr rfl) fun W5 i5 o5 => JO.nil <| ?_
        exact J.at' (lo.set i (u / 2 ^ n + (v % 2 ^ n) * 2 ^ (32 - n))) ⟨rfl, rfl, rfl, rfl, rfl, rfl, trivial⟩ ⟨inferInstance, by rw [List.set_set] at o5; exact o5, v, by rw [List.getD_eq_getElem?_getD, hv]; rfl, rfl⟩
      · skip
        refine J.skip <| ?_
        exact J.at' (lo.set i (u / 2 ^ n)) ⟨rfl, rfl, rfl, rfl, rfl, rfl, trivial⟩ ⟨inferInstance, o4, 0, by rw [List.getD_eq_getElem?_getD, List.getElem?_eq_none (by omega)]; rfl, by simp⟩
    · skip
      rintro lo' W6 ⟨_, o6, v, hv, rfl⟩
      refine J.bend <| J.reg rfl <| O.add rfl rfl (wI (by omega)) <| O.mv rfl <| JO.nil <| ?_
      have hfin : val ((lo.set i (u / 2 ^ n + (v % 2 ^ n) * 2 ^ (32 - n))).take (i + 1)) * 2 ^ n + val l % 2 ^ n = val (l.take (i + 1)) + 4294967296 ^ (i + 1) * (l.getD (i + 1) 0 % 2 ^ n) := by
        rw [val_set (by omega), val_take_succ hu, hv]
        exact shr_step hn32 hval
      exact J.at' (i + 1, lo.set i (u / 2 ^ n + (v % 2 ^ n) * 2 ^ (32 - n))) ⟨rfl, rfl, rfl, rfl, rfl, rfl, trivial⟩ ⟨⟨inferInstance, o6, by show i + 1 ≤ m; omega, hfin⟩, by show m - (i + 1) < m - i; omega⟩
  · skip
    refine J.exit rfl <| J.seq <| J.reg rfl <| O.mv rfl <| O.as rfl <| JO.nil <| J.ret1 rfl (.tmp rfl) fun W' iE iP => ?_
    have him : i = m := by omega
    rw [him, List.take_of_length_le (by omega), List.take_of_length_le (by omega), List.getD_eq_getElem?_getD, List.getElem?_eq_none (by omega)] at hval
    refine ⟨lo, ?_, (ho.pub iE iP).v⟩
    simp at hval
    have := Nat.div_add_mod (val l) (2 ^ n)
    rw [Nat.mul_comm] at this
    exact Nat.eq_of_mul_eq_mul_right hp (by omega)
end Go.Proofs.YtcobdnnfmhfenaaGreat

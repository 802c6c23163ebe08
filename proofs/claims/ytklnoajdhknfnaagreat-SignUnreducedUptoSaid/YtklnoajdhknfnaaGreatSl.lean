/- The program's rounding and square roots of numbers. -/
import Derived.Test.YtklnoajdhknfnaaGreatSi
set_option linter.unusedVariables false
set_option linter.unusedSimpArgs false
set_option maxRecDepth 10000
set_option maxHeartbeats 4000000
namespace Go.Proofs.YtklnoajdhknfnaaGreat
open Go Go.Rx Go.Num Go.Tow
/-- results of several values -/
def TV {α : Type} (r : Rep α) (x : α) (W : GW) (v : Value) : Prop := ∃ v1, v = .tuple #[v1, .int .i64 0] ∧ V r W v1 x
theorem TV.me {α : Type} {r : Rep α} {x : α} : MonoR (TV r x) := fun _ _ _ e ⟨v1, h1, h2⟩ => ⟨v1, h1, h2.mono e.toLeS.f⟩
def TDM (a b : Int) (W : GW) (v : Value) : Prop := ∃ v1 v2, v = .tuple #[v1, v2, .int .i64 0] ∧ V RI W v1 (ci a) ∧ V RI W v2 (ci b)
theorem TDM.me {a b : Int} : MonoR (TDM a b) := fun _ _ _ e ⟨v1, v2, h1, h2, h3⟩ => ⟨v1, v2, h1, h2.mono e.toLeS.f, h3.mono e.toLeS.f⟩
theorem ci_two (n : Nat) : ci (2 ^ n : Int) = (false, dig (2 ^ n)) := by
  have h : ¬ (2 ^ n : Int) < 0 := by have := Int.pow_pos (n := 2) (m := n) (by decide); omega
  have e : (2 ^ n : Int).natAbs = 2 ^ n := by rw [Int.natAbs_pow]; rfl
  show (decide ((2 ^ n : Int) < 0), dig (2 ^ n : Int).natAbs) = _
  rw [decide_eq_false h, e]
theorem sign_power_ok {W : GW} {n : Nat} (hn : n ≤ 8796093022210) :
    Ok Tryz.prog 47 [.int .i64 (n : Int)] W fun W' r => V RI W' r (ci (2 ^ n : Int)) := by
  have hq : Int.tdiv (n : Int) 32 = ((n / 32 : Nat) : Int) := rfl
  refine Ok.enter Tryz.func47 rfl rfl rfl rfl fun W0 iEn => ?_
  refine J.seq <| J.reg rfl <| ?_
  refine O.allocE fun W2 b2 i2 e2 hl2 hc2 hz2 => ?_
  refine JO.nil <| J.seq <| J.reg rfl <| O.mv rfl <| O.quo (r := ((n / 32 : Nat) : Int)) rfl rfl (by decide) (by rw [hq]; exact wI (by omega)) <| O.add (r := ((n / 32 + 1 : Nat) : Int)) rfl rfl ((wI (by omega)).trans (by omega)) <| O.mk (r := RW) (m := n / 32 + 1) (c := n / 32 + 1) 0 rfl rfl rfl rfl (by omega) (by omega) (by omega) rfl rfl (by decide) (fun _ => ⟨rfl, by decide⟩) fun W7 b7 i7 e7 hb7 o7 => O.as rfl <| JO.nil <| J.seq <| J.reg rfl <| O.mv rfl <| O.mv rfl <| O.quo (r := ((n / 32 : Nat) : Int)) rfl rfl (by decide) (by rw [hq]; exact wI (by omega)) <| O.mv rfl <| O.rem (r := ((n % 32 : Nat) : Int)) rfl rfl (by decide) (trem n 32) <| O.shl rfl rfl (by omega) (shlW (j := n % 32) (by omega)) <| O.iaB (r := RW) (j := n / 32) rfl rfl rfl o7 (by omega) rfl <| O.sto (r := RW) (j := n / 32) (u := 2 ^ (n % 32)) rfl rfl o7 (by omega) (rwv _ pow32lt) rfl (.inr rfl) fun W8 i8 o8 => JO.nil <| J.seq <| ?_
  refine J.pubS o8 fun Wq iq s7 hw hloc => ?_
  have hl2 := hloc hl2.to (fun a ha _ => by injection ha with ha; subst ha; exact Nat.ne_of_lt (Nat.lt_of_lt_of_le hl2.lt hb7))
  refine J.reg rfl <| O.mv rfl <| O.bldV (r := RI) (x := (false, dig (2 ^ n))) rfl ⟨⟨[.slice none 0 0], rfl, rfl⟩, trivial⟩ rfl ⟨[.bool false], _, rfl, rfl, ⟨_, _, _, rfl, by rw [dig_pow]; exact s7⟩⟩ fun v16 h16 => ?_
  refine O.stT rfl rfl hl2.to h16.to rfl fun Ws1 is1 hb2 F2 => ?_
  refine JO.nil <| J.retT rfl rfl hb2.to.h rfl rfl fun W' v' iE iP hv' => ?_
  rw [ci_two]
  exact hv'.to
theorem dn_floor (x : Rat) (n : Nat) : (x.num * 2 ^ n).fdiv x.den = (x * pw n).floor := by
  have hd : (0 : Int) < x.den := Int.natCast_pos.2 (Nat.pos_of_ne_zero x.den_nz)
  rw [Int.fdiv_eq_ediv_of_nonneg _ (by omega)]
  have key : ∀ z : Int, z ≤ (x.num * 2 ^ n) / x.den ↔ z ≤ (x * pw n).floor := by
    intro z
    rw [Int.le_ediv_iff_mul_le hd, Rat.le_floor_iff]
    have e : x * pw n * (x.den : Rat) = ((x.num * 2 ^ n : Int) : Rat) := by
      have := mul_den x
      have h2 : pw n = ((2 ^ n : Int) : Rat) := rfl
      rw [Rat.intCast_mul, ← h2, ← this]
      grind
    have hdr : (0 : Rat) < (x.den : Rat) := by
      have := Rat.intCast_pos.2 hd
      exact this
    rw [← Rat.intCast_le_intCast, Rat.intCast_mul, ← e]
    constructor
    · intro h
      exact Rat.le_of_mul_le_mul_right h hdr
    · intro h
      exact Rat.mul_le_mul_of_nonneg_right h (Rat.le_of_lt hdr)
  have h1 := (key _).1 (Int.le_refl _)
  have h2 := (key _).2 (Int.le_refl _)
  omega
theorem sign_down_ok {W : GW} {v : Value} {x : Rat} {s b : Nat} (h : V RQ W v (cq x)) (hx : Qs s x) (hb : b ≤ 8796093022208) (hs : s + b ≤ 8796093022208) :
    Ok Tryz.prog 129 [v, .int .i64 (b : Int)] W fun W' r => V RQ W' r (cq (dnQ x b)) := by
  have hp := hx.mul (pw_qs b)
  have h2 : Zs (b + 1) (2 ^ b : Int) := Zs.two (Nat.le_refl _)
  have hn2 := hx.n.mul h2
  refine Ok.enter Tryz.func129 rfl rfl rfl rfl fun W0 iEn => ?_
  refine J.seq <| J.reg rfl <| O.boxT rfl h.to fun W2 b2 i2 hb2 => ?_
  refine O.allocE fun W4 b4 i4 e4 hl4 hc4 hz4 => ?_
  refine JO.nil <| J.seq <| J.reg rfl <| O.mv rfl <| O.call rfl (sign_power_ok (n := b) (by omega)) fun W12 v12 i12 e12 h12 => ?_
  refine O.allocE fun W5 b5 i5 e5 hl5 hc5 hz5 => ?_
  have n4_5 : b4 ≠ b5 := Nat.ne_of_lt (Nat.lt_of_lt_of_le (by exact hl4.to.lt) hz5)
  refine O.stT rfl rfl hl5.to h12.to rfl fun Ws1 is1 hb5 F5 => ?_
  have hl4 := F5.loc hl4.to n4_5
  refine JO.nil <| J.seq <| ?_
  refine J.drawM [.ex _, .rel _, .rel _, .rel _, .ex _, .rel _, .rel _, .rel _, .rel _, .rel _, .ex _, .rel _, .rel _] [false, false, false, false, false, false, false, false, false, false, false, true, true] 13 [9, 10] [([], [[14, 15]]), ([9], [[9, 14, 15]]), ([10], [[10, 14, 15], [14, 10, 15]]), ([9, 10], [[9, 10, 14, 15], [9, 14, 10, 15], [10, 9, 14, 15]])] (by decide +kernel) rfl rfl ⟨fun Wd id ed _ => O.fa rfl <| D.ex, fun Wd id ed _ => O.ldTD rfl hb2.to.h.f rfl rfl (fun h => nomatch h), fun Wd id ed _ => O.ldTD rfl hb5.to.h rfl rfl (fun h => nomatch h), fun Wd id ed _ => fun v15 h15 => fun v16 h16 => O.call rfl (integer_Mul_ok h15 h16 (hx.n.len (by omega)) (h2.len (by omega))) fun Wd vd id ed hd => D.rel ed hd V.me, fun Wd id ed _ => O.fa rfl <| D.ex, fun Wd id ed _ => O.ldTD rfl hb2.to.h.s rfl rfl (fun h => nomatch h), fun Wd id ed _ => fun _ _ => fun v19 h19 => fun v17 h17 => O.call rfl (integer_DivMod_ok h17.to h19.to (hn2.len (by omega)) (hx.d.len (by omega)) (den_ne x)) fun Wd vd id ed hd => D.rel (R := TDM _ _) ed hd TDM.me, fun Wd id ed _ => fun v20 h20 => O.mv rfl <| D.rel (R := TDM ((x.num * 2 ^ b).fdiv x.den) ((x.num * 2 ^ b).fmod x.den)) (Ext.refl _) h20 TDM.me, fun Wd id ed _ => fun v13 h13 => (by obtain ⟨v1, v2, rfl, hv1, hv2⟩ := h13; exact O.ext rfl rfl <| D.rel (R := fun W v => V RI W v (ci ((x.num * 2 ^ b).fdiv x.den))) (Ext.refl _) hv1 V.me), fun Wd id ed _ => fun v13 h13 => (by obtain ⟨v1, v2, rfl, hv1, hv2⟩ := h13; exact O.ext rfl rfl <| D.rel (R := fun W v => V RI W v (ci ((x.num * 2 ^ b).fmod x.den))) (Ext.refl _) hv2 V.me), fun Wd id ed _ => fun v13 h13 => (by obtain ⟨v1, v2, rfl, hv1, hv2⟩ := h13; exact O.ext rfl rfl <| D.ex), fun Wd id ed _ => O.allocN (by rfl) ed.size, fun Wd id ed _ => O.allocN (by rfl) ed.size, trivial⟩ ⟨⟨?_, trivial⟩, ⟨?_, trivial⟩, ⟨?_, ?_, trivial⟩, ⟨?_, ?_, ?_, trivial⟩, trivial⟩
  · skip
    intro Wr2 ir2 er2 v15 h15 v16 h16 v17 h17 v19 h19 v20 h20 v13 h13 v21 h21 v22 h22 v6 h6 ne6 v7 h7 ne7
    obtain ⟨b6, rfl, hl6, hz6⟩ := h6
    have n4_6 : b4 ≠ b6 := Nat.ne_of_lt (Nat.lt_of_lt_of_le (by exact hl4.to.lt) hz6)
    obtain ⟨b7, rfl, hl7, hz7⟩ := h7
    have n4_7 : b4 ≠ b7 := Nat.ne_of_lt (Nat.lt_of_lt_of_le (by exact hl4.to.lt) hz7)
    have n6_7 : b6 ≠ b7 := fun e => ne7.1 (by rw [e])
    obtain ⟨v1, v2, rfl, hv1, hv2⟩ := h13
    refine O.stT rfl rfl hl6.to h21.to rfl fun Ws2 is2 hb6 F6 => ?_
    have hl4 := F6.loc hl4.to n4_6
    have hl7 := F6.loc hl7.to n6_7.symm
    refine O.stT rfl rfl hl7.to h22.to rfl fun Ws3 is3 hb7 F7 => ?_
    have hl4 := F7.loc hl4.to n4_7
    refine O.as rfl <| JO.nil <| J.seq <| J.reg rfl <| O.ldT rfl hb6.to.h rfl rfl (fun h => nomatch h) fun v25 h25 => O.ldT rfl hb5.to.h rfl rfl (fun h => nomatch h) fun v26 h26 => O.call rfl (rational_Make_ok (p := s + b + 1) (b := 2 ^ b) h25.to h26.to (by rw [dn_floor]; exact (Zs.floor hp).mono (by omega)) (h2.mono (by omega)) (by omega) (two_ne b)) fun W27 v27 i27 e27 h27 => ?_
    obtain ⟨v28, rfl, h28⟩ := h27
    refine O.mv rfl <| O.ext rfl rfl <| O.ext rfl rfl <| ?_
    refine O.allocE fun W9 b9 i9 e9 hl9 hc9 hz9 => ?_
    have n4_9 : b4 ≠ b9 := Nat.ne_of_lt (Nat.lt_of_lt_of_le (by exact hl4.to.lt) hz9)
    refine O.stT rfl rfl hl9.to h28.to rfl fun Ws4 is4 hb9 F9 => ?_
    have hl4 := F9.loc hl4.to n4_9
    refine O.as rfl <| JO.nil <| J.seq <| J.reg rfl <| O.ldT rfl hb9.to.h rfl rfl (fun h => nomatch h) fun v30 h30 => ?_
    refine O.stT rfl rfl hl4.to h30.to rfl fun Ws5 is5 hb4 F4 => ?_
    refine JO.nil <| J.retT rfl rfl hb4.to.h rfl rfl fun W' v' iE iP hv' => ?_
    rw [dn_floor] at hv'
    exact hv'.to
  · skip
    intro Wr2 ir2 er2 v15 h15 v16 h16 v17 h17 v19 h19 v20 h20 v13 h13 v21 h21 v6 h6 ne6 v7 h7 ne7
    obtain ⟨b6, rfl, hl6, hz6⟩ := h6
    have n4_6 : b4 ≠ b6 := Nat.ne_of_lt (Nat.lt_of_lt_of_le (by exact hl4.to.lt) hz6)
    obtain ⟨b7, rfl, hl7, hz7⟩ := h7
    have n4_7 : b4 ≠ b7 := Nat.ne_of_lt (Nat.lt_of_lt_of_le (by exact hl4.to.lt) hz7)
    have n6_7 : b6 ≠ b7 := fun e => ne7.1 (by rw [e])
    obtain ⟨v1, v2, rfl, hv1, hv2⟩ := h13
    refine O.stT rfl rfl hl6.to h21.to rfl fun Ws6 is6 hb6 F6 => ?_
    have hl4 := F6.loc hl4.to n4_6
    have hl7 := F6.loc hl7.to n6_7.symm
    refine O.ext rfl rfl <| ?_
    have h22 := hv2
    refine O.stT rfl rfl hl7.to h22.to rfl fun Ws7 is7 hb7 F7 => ?_
    have hl4 := F7.loc hl4.to n4_7
    refine O.as rfl <| JO.nil <| J.seq <| J.reg rfl <| O.ldT rfl hb6.to.h rfl rfl (fun h => nomatch h) fun v25 h25 => O.ldT rfl hb5.to.h rfl rfl (fun h => nomatch h) fun v26 h26 => O.call rfl (rational_Make_ok (p := s + b + 1) (b := 2 ^ b) h25.to h26.to (by rw [dn_floor]; exact (Zs.floor hp).mono (by omega)) (h2.mono (by omega)) (by omega) (two_ne b)) fun W27 v27 i27 e27 h27 => ?_
    obtain ⟨v28, rfl, h28⟩ := h27
    refine O.mv rfl <| O.ext rfl rfl <| O.ext rfl rfl <| ?_
    refine O.allocE fun W9 b9 i9 e9 hl9 hc9 hz9 => ?_
    have n4_9 : b4 ≠ b9 := Nat.ne_of_lt (Nat.lt_of_lt_of_le (by exact hl4.to.lt) hz9)
    refine O.stT rfl rfl hl9.to h28.to rfl fun Ws8 is8 hb9 F9 => ?_
    have hl4 := F9.loc hl4.to n4_9
    refine O.as rfl <| JO.nil <| J.seq <| J.reg rfl <| O.ldT rfl hb9.to.h rfl rfl (fun h => nomatch h) fun v30 h30 => ?_
    refine O.stT rfl rfl hl4.to h30.to rfl fun Ws9 is9 hb4 F4 => ?_
    refine JO.nil <| J.retT rfl rfl hb4.to.h rfl rfl fun W' v' iE iP hv' => ?_
    rw [dn_floor] at hv'
    exact hv'.to
  · skip
    intro Wr2 ir2 er2 v15 h15 v16 h16 v17 h17 v19 h19 v20 h20 v13 h13 v21 h21 v22 h22 v6 h6 ne6 v7 h7 ne7
    obtain ⟨b6, rfl, hl6, hz6⟩ := h6
    have n4_6 : b4 ≠ b6 := Nat.ne_of_lt (Nat.lt_of_lt_of_le (by exact hl4.to.lt) hz6)
    obtain ⟨b7, rfl, hl7, hz7⟩ := h7
    have n4_7 : b4 ≠ b7 := Nat.ne_of_lt (Nat.lt_of_lt_of_le (by exact hl4.to.lt) hz7)
    have n6_7 : b6 ≠ b7 := fun e => ne7.1 (by rw [e])
    obtain ⟨v1, v2, rfl, hv1, hv2⟩ := h13
    refine O.stT rfl rfl hl6.to h21.to rfl fun Ws10 is10 hb6 F6 => ?_
    have hl4 := F6.loc hl4.to n4_6
    have hl7 := F6.loc hl7.to n6_7.symm
    refine O.ext rfl rfl <| ?_
    refine O.stT rfl rfl hl7.to h22.to rfl fun Ws11 is11 hb7 F7 => ?_
    have hl4 := F7.loc hl4.to n4_7
    refine O.as rfl <| JO.nil <| J.seq <| J.reg rfl <| O.ldT rfl hb6.to.h rfl rfl (fun h => nomatch h) fun v25 h25 => O.ldT rfl hb5.to.h rfl rfl (fun h => nomatch h) fun v26 h26 => O.call rfl (rational_Make_ok (p := s + b + 1) (b := 2 ^ b) h25.to h26.to (by rw [dn_floor]; exact (Zs.floor hp).mono (by omega)) (h2.mono (by omega)) (by omega) (two_ne b)) fun W27 v27 i27 e27 h27 => ?_
    obtain ⟨v28, rfl, h28⟩ := h27
    refine O.mv rfl <| O.ext rfl rfl <| O.ext rfl rfl <| ?_
    refine O.allocE fun W9 b9 i9 e9 hl9 hc9 hz9 => ?_
    have n4_9 : b4 ≠ b9 := Nat.ne_of_lt (Nat.lt_of_lt_of_le (by exact hl4.to.lt) hz9)
    refine O.stT rfl rfl hl9.to h28.to rfl fun Ws12 is12 hb9 F9 => ?_
    have hl4 := F9.loc hl4.to n4_9
    refine O.as rfl <| JO.nil <| J.seq <| J.reg rfl <| O.ldT rfl hb9.to.h rfl rfl (fun h => nomatch h) fun v30 h30 => ?_
    refine O.stT rfl rfl hl4.to h30.to rfl fun Ws13 is13 hb4 F4 => ?_
    refine JO.nil <| J.retT rfl rfl hb4.to.h rfl rfl fun W' v' iE iP hv' => ?_
    rw [dn_floor] at hv'
    exact hv'.to
  · skip
    intro Wr2 ir2 er2 v15 h15 v16 h16 v17 h17 v19 h19 v20 h20 v13 h13 v21 h21 v22 h22 v6 h6 ne6 v7 h7 ne7
    obtain ⟨b6, rfl, hl6, hz6⟩ := h6
    have n4_6 : b4 ≠ b6 := Nat.ne_of_lt (Nat.lt_of_lt_of_le (by exact hl4.to.lt) hz6)
    obtain ⟨b7, rfl, hl7, hz7⟩ := h7
    have n4_7 : b4 ≠ b7 := Nat.ne_of_lt (Nat.lt_of_lt_of_le (by exact hl4.to.lt) hz7)
    have n6_7 : b6 ≠ b7 := fun e => ne7.1 (by rw [e])
    obtain ⟨v1, v2, rfl, hv1, hv2⟩ := h13
    refine O.stT rfl rfl hl6.to h21.to rfl fun Ws14 is14 hb6 F6 => ?_
    have hl4 := F6.loc hl4.to n4_6
    have hl7 := F6.loc hl7.to n6_7.symm
    refine O.stT rfl rfl hl7.to h22.to rfl fun Ws15 is15 hb7 F7 => ?_
    have hl4 := F7.loc hl4.to n4_7
    refine O.ext rfl rfl <| O.as rfl <| JO.nil <| J.seq <| J.reg rfl <| O.ldT rfl hb6.to.h rfl rfl (fun h => nomatch h) fun v25 h25 => O.ldT rfl hb5.to.h rfl rfl (fun h => nomatch h) fun v26 h26 => O.call rfl (rational_Make_ok (p := s + b + 1) (b := 2 ^ b) h25.to h26.to (by rw [dn_floor]; exact (Zs.floor hp).mono (by omega)) (h2.mono (by omega)) (by omega) (two_ne b)) fun W27 v27 i27 e27 h27 => ?_
    obtain ⟨v28, rfl, h28⟩ := h27
    refine O.mv rfl <| O.ext rfl rfl <| O.ext rfl rfl <| ?_
    refine O.allocE fun W9 b9 i9 e9 hl9 hc9 hz9 => ?_
    have n4_9 : b4 ≠ b9 := Nat.ne_of_lt (Nat.lt_of_lt_of_le (by exact hl4.to.lt) hz9)
    refine O.stT rfl rfl hl9.to h28.to rfl fun Ws16 is16 hb9 F9 => ?_
    have hl4 := F9.loc hl4.to n4_9
    refine O.as rfl <| JO.nil <| J.seq <| J.reg rfl <| O.ldT rfl hb9.to.h rfl rfl (fun h => nomatch h) fun v30 h30 => ?_
    refine O.stT rfl rfl hl4.to h30.to rfl fun Ws17 is17 hb4 F4 => ?_
    refine JO.nil <| J.retT rfl rfl hb4.to.h rfl rfl fun W' v' iE iP hv' => ?_
    rw [dn_floor] at hv'
    exact hv'.to
  · skip
    intro Wr2 ir2 er2 v15 h15 v16 h16 v17 h17 v19 h19 v20 h20 v13 h13 v21 h21 v6 h6 ne6 v7 h7 ne7
    obtain ⟨b6, rfl, hl6, hz6⟩ := h6
    have n4_6 : b4 ≠ b6 := Nat.ne_of_lt (Nat.lt_of_lt_of_le (by exact hl4.to.lt) hz6)
    obtain ⟨b7, rfl, hl7, hz7⟩ := h7
    have n4_7 : b4 ≠ b7 := Nat.ne_of_lt (Nat.lt_of_lt_of_le (by exact hl4.to.lt) hz7)
    have n6_7 : b6 ≠ b7 := fun e => ne7.1 (by rw [e])
    obtain ⟨v1, v2, rfl, hv1, hv2⟩ := h13
    refine O.stT rfl rfl hl6.to h21.to rfl fun Ws18 is18 hb6 F6 => ?_
    have hl4 := F6.loc hl4.to n4_6
    have hl7 := F6.loc hl7.to n6_7.symm
    refine O.ext rfl rfl <| ?_
    have h22 := hv2
    refine O.ext rfl rfl <| ?_
    refine O.stT rfl rfl hl7.to h22.to rfl fun Ws19 is19 hb7 F7 => ?_
    have hl4 := F7.loc hl4.to n4_7
    refine O.as rfl <| JO.nil <| J.seq <| J.reg rfl <| O.ldT rfl hb6.to.h rfl rfl (fun h => nomatch h) fun v25 h25 => O.ldT rfl hb5.to.h rfl rfl (fun h => nomatch h) fun v26 h26 => O.call rfl (rational_Make_ok (p := s + b + 1) (b := 2 ^ b) h25.to h26.to (by rw [dn_floor]; exact (Zs.floor hp).mono (by omega)) (h2.mono (by omega)) (by omega) (two_ne b)) fun W27 v27 i27 e27 h27 => ?_
    obtain ⟨v28, rfl, h28⟩ := h27
    refine O.mv rfl <| O.ext rfl rfl <| O.ext rfl rfl <| ?_
    refine O.allocE fun W9 b9 i9 e9 hl9 hc9 hz9 => ?_
    have n4_9 : b4 ≠ b9 := Nat.ne_of_lt (Nat.lt_of_lt_of_le (by exact hl4.to.lt) hz9)
    refine O.stT rfl rfl hl9.to h28.to rfl fun Ws20 is20 hb9 F9 => ?_
    have hl4 := F9.loc hl4.to n4_9
    refine O.as rfl <| JO.nil <| J.seq <| J.reg rfl <| O.ldT rfl hb9.to.h rfl rfl (fun h => nomatch h) fun v30 h30 => ?_
    refine O.stT rfl rfl hl4.to h30.to rfl fun Ws21 is21 hb4 F4 => ?_
    refine JO.nil <| J.retT rfl rfl hb4.to.h rfl rfl fun W' v' iE iP hv' => ?_
    rw [dn_floor] at hv'
    exact hv'.to
  · skip
    intro Wr2 ir2 er2 v15 h15 v16 h16 v17 h17 v19 h19 v20 h20 v13 h13 v21 h21 v6 h6 ne6 v7 h7 ne7
    obtain ⟨b6, rfl, hl6, hz6⟩ := h6
    have n4_6 : b4 ≠ b6 := Nat.ne_of_lt (Nat.lt_of_lt_of_le (by exact hl4.to.lt) hz6)
    obtain ⟨b7, rfl, hl7, hz7⟩ := h7
    have n4_7 : b4 ≠ b7 := Nat.ne_of_lt (Nat.lt_of_lt_of_le (by exact hl4.to.lt) hz7)
    have n6_7 : b6 ≠ b7 := fun e => ne7.1 (by rw [e])
    obtain ⟨v1, v2, rfl, hv1, hv2⟩ := h13
    refine O.stT rfl rfl hl6.to h21.to rfl fun Ws22 is22 hb6 F6 => ?_
    have hl4 := F6.loc hl4.to n4_6
    have hl7 := F6.loc hl7.to n6_7.symm
    refine O.ext rfl rfl <| ?_
    have h22 := hv2
    refine O.stT rfl rfl hl7.to h22.to rfl fun Ws23 is23 hb7 F7 => ?_
    have hl4 := F7.loc hl4.to n4_7
    refine O.ext rfl rfl <| O.as rfl <| JO.nil <| J.seq <| J.reg rfl <| O.ldT rfl hb6.to.h rfl rfl (fun h => nomatch h) fun v25 h25 => O.ldT rfl hb5.to.h rfl rfl (fun h => nomatch h) fun v26 h26 => O.call rfl (rational_Make_ok (p := s + b + 1) (b := 2 ^ b) h25.to h26.to (by rw [dn_floor]; exact (Zs.floor hp).mono (by omega)) (h2.mono (by omega)) (by omega) (two_ne b)) fun W27 v27 i27 e27 h27 => ?_
    obtain ⟨v28, rfl, h28⟩ := h27
    refine O.mv rfl <| O.ext rfl rfl <| O.ext rfl rfl <| ?_
    refine O.allocE fun W9 b9 i9 e9 hl9 hc9 hz9 => ?_
    have n4_9 : b4 ≠ b9 := Nat.ne_of_lt (Nat.lt_of_lt_of_le (by exact hl4.to.lt) hz9)
    refine O.stT rfl rfl hl9.to h28.to rfl fun Ws24 is24 hb9 F9 => ?_
    have hl4 := F9.loc hl4.to n4_9
    refine O.as rfl <| JO.nil <| J.seq <| J.reg rfl <| O.ldT rfl hb9.to.h rfl rfl (fun h => nomatch h) fun v30 h30 => ?_
    refine O.stT rfl rfl hl4.to h30.to rfl fun Ws25 is25 hb4 F4 => ?_
    refine JO.nil <| J.retT rfl rfl hb4.to.h rfl rfl fun W' v' iE iP hv' => ?_
    rw [dn_floor] at hv'
    exact hv'.to
  · skip
    intro Wr2 ir2 er2 v15 h15 v16 h16 v17 h17 v19 h19 v20 h20 v13 h13 v21 h21 v6 h6 ne6 v7 h7 ne7
    obtain ⟨b6, rfl, hl6, hz6⟩ := h6
    have n4_6 : b4 ≠ b6 := Nat.ne_of_lt (Nat.lt_of_lt_of_le (by exact hl4.to.lt) hz6)
    obtain ⟨b7, rfl, hl7, hz7⟩ := h7
    have n4_7 : b4 ≠ b7 := Nat.ne_of_lt (Nat.lt_of_lt_of_le (by exact hl4.to.lt) hz7)
    have n6_7 : b6 ≠ b7 := fun e => ne7.1 (by rw [e])
    obtain ⟨v1, v2, rfl, hv1, hv2⟩ := h13
    refine O.stT rfl rfl hl6.to h21.to rfl fun Ws26 is26 hb6 F6 => ?_
    have hl4 := F6.loc hl4.to n4_6
    have hl7 := F6.loc hl7.to n6_7.symm
    refine O.ext rfl rfl <| O.ext rfl rfl <| ?_
    have h22 := hv2
    refine O.stT rfl rfl hl7.to h22.to rfl fun Ws27 is27 hb7 F7 => ?_
    have hl4 := F7.loc hl4.to n4_7
    refine O.as rfl <| JO.nil <| J.seq <| J.reg rfl <| O.ldT rfl hb6.to.h rfl rfl (fun h => nomatch h) fun v25 h25 => O.ldT rfl hb5.to.h rfl rfl (fun h => nomatch h) fun v26 h26 => O.call rfl (rational_Make_ok (p := s + b + 1) (b := 2 ^ b) h25.to h26.to (by rw [dn_floor]; exact (Zs.floor hp).mono (by omega)) (h2.mono (by omega)) (by omega) (two_ne b)) fun W27 v27 i27 e27 h27 => ?_
    obtain ⟨v28, rfl, h28⟩ := h27
    refine O.mv rfl <| O.ext rfl rfl <| O.ext rfl rfl <| ?_
    refine O.allocE fun W9 b9 i9 e9 hl9 hc9 hz9 => ?_
    have n4_9 : b4 ≠ b9 := Nat.ne_of_lt (Nat.lt_of_lt_of_le (by exact hl4.to.lt) hz9)
    refine O.stT rfl rfl hl9.to h28.to rfl fun Ws28 is28 hb9 F9 => ?_
    have hl4 := F9.loc hl4.to n4_9
    refine O.as rfl <| JO.nil <| J.seq <| J.reg rfl <| O.ldT rfl hb9.to.h rfl rfl (fun h => nomatch h) fun v30 h30 => ?_
    refine O.stT rfl rfl hl4.to h30.to rfl fun Ws29 is29 hb4 F4 => ?_
    refine JO.nil <| J.retT rfl rfl hb4.to.h rfl rfl fun W' v' iE iP hv' => ?_
    rw [dn_floor] at hv'
    exact hv'.to
theorem sign_up_ok {W : GW} {v : Value} {x : Rat} {s b : Nat} (h : V RQ W v (cq x)) (hx : Qs s x) (hb : b ≤ 8796093022208) (hs : s + b + 1 ≤ 8796093022208) :
    Ok Tryz.prog 130 [v, .int .i64 (b : Int)] W fun W' r => V RQ W' r (cq (upQ x b)) := by
  refine Ok.enter Tryz.func130 rfl rfl rfl rfl fun W0 iEn => ?_
  refine J.seq <| J.reg rfl <| O.boxT rfl h.to fun W2 b2 i2 hb2 => ?_
  refine O.allocE fun W4 b4 i4 e4 hl4 hc4 hz4 => ?_
  refine JO.nil <| J.seq <| J.reg rfl <| O.ldT rfl hb2.to.h rfl rfl (fun h => nomatch h) fun v5 h5 => O.call rfl (rational_Neg_ok h5.to (hx.n.len (by omega))) fun W6 v6 i6 e6 h6 => O.mv rfl <| O.call rfl (sign_down_ok h6.to hx.neg hb (by omega)) fun W8 v8 i8 e8 h8 => O.call rfl (rational_Neg_ok h8.to ((dnQ_qs hx.neg b).n.len (by omega))) fun W9 v9 i9 e9 h9 => ?_
  refine O.stT rfl rfl hl4.to h9.to rfl fun Ws1 is1 hb4 F4 => ?_
  refine JO.nil <| J.retT rfl rfl hb4.to.h rfl rfl fun W' v' iE iP hv' => ?_
  exact hv'.to
theorem sign_round_ok {W : GW} {v : Value} {x y : Rat} {s b : Nat} (h : V RV W v (cq x, cq y)) (hx : Qs s x) (hy : Qs s y) (hb : b ≤ 8796093022208) (hs : s + b + 1 ≤ 8796093022208) :
    Ok Tryz.prog 84 [v, .int .i64 (b : Int)] W fun W' r => V RV W' r (cq (dnQ x b), cq (upQ y b)) := by
  refine Ok.enter Tryz.func84 rfl rfl rfl rfl fun W0 iEn => ?_
  refine J.seq <| J.reg rfl <| O.boxT rfl h.to fun W2 b2 i2 hb2 => ?_
  refine O.allocE fun W4 b4 i4 e4 hl4 hc4 hz4 => ?_
  refine JO.nil <| J.seq <| ?_
  refine J.draw [.ex _, .rel _, .ex _, .rel _, .ex _, .rel _, .ex _] rfl rfl ⟨fun Wd id ed _ => O.fa rfl <| D.ex, fun Wd id ed _ => O.ldTD rfl hb2.to.h.f rfl rfl (fun h => nomatch h), fun Wd id ed _ => O.mv rfl <| D.ex, fun Wd id ed _ => fun v6 h6 => O.call rfl (sign_down_ok h6.to hx hb (by omega)) fun Wd vd id ed hd => D.rel ed hd V.me, fun Wd id ed _ => O.fa rfl <| D.ex, fun Wd id ed _ => O.ldTD rfl hb2.to.h.s rfl rfl (fun h => nomatch h), fun Wd id ed _ => O.mv rfl <| D.ex, trivial⟩ ?_
  intro Wr1 ir1 er1 v6 h6 v8 h8 v10 h10
  refine O.call rfl (sign_up_ok h10.to hy hb (by omega)) fun W12 v12 i12 e12 h12 => O.bldT rfl rfl h8.to h12.to rfl rfl fun v13 h13 => ?_
  refine O.stT rfl rfl hl4.to h13.to rfl fun Ws1 is1 hb4 F4 => ?_
  refine JO.nil <| J.retT rfl rfl hb4.to.h rfl rfl fun W' v' iE iP hv' => ?_
  exact hv'.to
theorem pw_dbl (b : Nat) : pw (2 * b) = pw b * pw b := by
  show ((2 ^ (2 * b) : Int) : Rat) = ((2 ^ b : Int) : Rat) * ((2 ^ b : Int) : Rat)
  rw [← Rat.intCast_mul, ← Int.pow_add]
  congr 2; omega
theorem sq_floor {x : Rat} (b : Nat) (h0 : 0 ≤ x) : (x.num * 2 ^ (2 * b)).fdiv x.den = ((sq2 x b).floor.toNat : Int) := by
  rw [dn_floor, pw_dbl]
  exact floor_nat (sq2_nn h0)
theorem sqLo_qs {s : Nat} {x : Rat} (h : Qs s x) (h0 : 0 ≤ x) (b : Nat) : Qs (s + (2 * b + 2)) (sqLo x b) :=
  Qs.divInt (rtF_zs (sq2_qs h) (sq2_nn h0)) (Zs.two (by omega)) (two_ne b)
theorem sign_floorRoot_ok {W : GW} {v : Value} {x : Rat} {s b : Nat} (h : V RQ W v (cq x)) (hx : Qs s x) (hx0 : 0 ≤ x) (hb : b ≤ 1099511627776) (hs : s ≤ 1099511627776) :
    Ok Tryz.prog 133 [v, .int .i64 (b : Int)] W fun W' r => V RQ W' r (cq (sqLo x b)) := by
  have h2 : Zs (2 * b + 1) (2 ^ (2 * b) : Int) := Zs.two (Nat.le_refl _)
  have hn2 := hx.n.mul h2
  have qx := sq2_qs (b := b) hx
  have nx := sq2_nn (b := b) hx0
  have zx := rtF_zs qx nx
  have fx := Zs.floor qx
  rw [floor_nat nx] at fx
  have lx := len_nat (show (sq2 x b).floor.toNat < _ from fx)
  refine Ok.enter Tryz.func133 rfl rfl rfl rfl fun W0 iEn => ?_
  refine J.seq <| J.reg rfl <| O.boxT rfl h.to fun W2 b2 i2 hb2 => ?_
  refine O.allocE fun W4 b4 i4 e4 hl4 hc4 hz4 => ?_
  refine JO.nil <| J.seq <| ?_
  refine J.drawM [.ex _, .rel _, .ex _, .ex _, .rel _, .rel _, .ex _, .rel _, .rel _, .rel _, .rel _, .rel _, .ex _, .rel _, .rel _] [false, false, false, false, false, false, false, false, false, false, false, false, false, true, true] 15 [11, 12] [([], [[16, 17]]), ([11], [[11, 16, 17]]), ([12], [[12, 16, 17], [16, 12, 17]]), ([11, 12], [[11, 12, 16, 17], [11, 16, 12, 17], [12, 11, 16, 17]])] (by decide +kernel) rfl rfl ⟨fun Wd id ed _ => O.fa rfl <| D.ex, fun Wd id ed _ => O.ldTD rfl hb2.to.h.f rfl rfl (fun h => nomatch h), fun Wd id ed _ => O.mv rfl <| D.ex, fun Wd id ed _ => O.mul (r := ((2 * b : Nat) : Int)) rfl rfl ((wI (by omega)).trans (by omega)) <| D.ex, fun Wd id ed _ => O.call rfl (sign_power_ok (n := 2 * b) (by omega)) fun Wd vd id ed hd => D.rel ed hd V.me, fun Wd id ed _ => fun v14 h14 => fun _ _ => fun v17 h17 => O.call rfl (integer_Mul_ok h14 h17 (hx.n.len (by omega)) (h2.len (by omega))) fun Wd vd id ed hd => D.rel ed hd V.me, fun Wd id ed _ => O.fa rfl <| D.ex, fun Wd id ed _ => O.ldTD rfl hb2.to.h.s rfl rfl (fun h => nomatch h), fun Wd id ed _ => fun _ _ => fun v20 h20 => fun v18 h18 => O.call rfl (integer_DivMod_ok h18.to h20.to (hn2.len (by omega)) (hx.d.len (by omega)) (den_ne x)) fun Wd vd id ed hd => D.rel (R := TDM _ _) ed hd TDM.me, fun Wd id ed _ => fun v21 h21 => O.mv rfl <| D.rel (R := TDM ((x.num * 2 ^ (2 * b)).fdiv x.den) ((x.num * 2 ^ (2 * b)).fmod x.den)) (Ext.refl _) h21 TDM.me, fun Wd id ed _ => fun v12 h12 => (by obtain ⟨v1, v2, rfl, hv1, hv2⟩ := h12; rw [sq_floor b hx0] at hv1; exact O.ext rfl rfl <| D.rel (R := fun W v => V RI W v (ci ((sq2 x b).floor.toNat : Int))) (Ext.refl _) hv1 V.me), fun Wd id ed _ => fun v12 h12 => (by obtain ⟨v1, v2, rfl, hv1, hv2⟩ := h12; exact O.ext rfl rfl <| D.rel (R := fun W v => V RI W v (ci ((x.num * 2 ^ (2 * b)).fmod x.den))) (Ext.refl _) hv2 V.me), fun Wd id ed _ => fun v12 h12 => (by obtain ⟨v1, v2, rfl, hv1, hv2⟩ := h12; exact O.ext rfl rfl <| D.ex), fun Wd id ed _ => O.allocN (by rfl) ed.size, fun Wd id ed _ => O.allocN (by rfl) ed.size, trivial⟩ ⟨⟨?_, trivial⟩, ⟨?_, trivial⟩, ⟨?_, ?_, trivial⟩, ⟨?_, ?_, ?_, trivial⟩, trivial⟩
  · skip
    intro Wr1 ir1 er1 v14 h14 v17 h17 v18 h18 v20 h20 v21 h21 v12 h12 v22 h22 v23 h23 v5 h5 ne5 v6 h6 ne6
    obtain ⟨b5, rfl, hl5, hz5⟩ := h5
    have n4_5 : b4 ≠ b5 := Nat.ne_of_lt (Nat.lt_of_lt_of_le (by exact hl4.to.lt) hz5)
    obtain ⟨b6, rfl, hl6, hz6⟩ := h6
    have n4_6 : b4 ≠ b6 := Nat.ne_of_lt (Nat.lt_of_lt_of_le (by exact hl4.to.lt) hz6)
    have n5_6 : b5 ≠ b6 := fun e => ne6.1 (by rw [e])
    obtain ⟨v1, v2, rfl, hv1, hv2⟩ := h12
    refine O.stT rfl rfl hl5.to h22.to rfl fun Ws1 is1 hb5 F5 => ?_
    have hl4 := F5.loc hl4.to n4_5
    have hl6 := F5.loc hl6.to n5_6.symm
    refine O.stT rfl rfl hl6.to h23.to rfl fun Ws2 is2 hb6 F6 => ?_
    have hl4 := F6.loc hl4.to n4_6
    refine O.as rfl <| JO.nil <| J.seq <| J.reg rfl <| O.ldT rfl hb5.to.h rfl rfl (fun h => nomatch h) fun v26 h26 => O.call rfl (integer_Sqrt_ok h26.to (by omega)) fun W27 v27 i27 e27 h27 => ?_
    obtain ⟨v28, rfl, h28⟩ := h27
    refine O.mv rfl <| O.ext rfl rfl <| O.ext rfl rfl <| ?_
    refine O.allocE fun W8 b8 i8 e8 hl8 hc8 hz8 => ?_
    have n4_8 : b4 ≠ b8 := Nat.ne_of_lt (Nat.lt_of_lt_of_le (by exact hl4.to.lt) hz8)
    refine O.stT rfl rfl hl8.to h28.to rfl fun Ws3 is3 hb8 F8 => ?_
    have hl4 := F8.loc hl4.to n4_8
    refine O.as rfl <| JO.nil <| J.seq <| ?_
    refine J.drawM [.rel _, .ex _, .rel _, .rel _, .rel _, .rel _, .ex _, .rel _] [false, false, false, false, false, false, false, true] 8 [6] [([], [[9]]), ([6], [[6, 9]])] (by decide +kernel) rfl rfl ⟨fun Wd id ed _ => O.ldTD rfl hb8.to.h rfl rfl (fun h => nomatch h), fun Wd id ed _ => O.mv rfl <| D.ex, fun Wd id ed _ => O.call rfl (sign_power_ok (n := b) (by omega)) fun Wd vd id ed hd => D.rel ed hd V.me, fun Wd id ed _ => fun v31 h31 => fun _ _ => fun v33 h33 => O.call rfl (rational_Make_ok (p := s + (2 * b + 2)) (a := (rtF (sq2 x b) : Int)) (b := 2 ^ b) h31.to h33.to zx (Zs.two (by omega)) (by omega) (two_ne b)) fun Wd vd id ed hd => D.rel (R := TV RQ _) ed hd TV.me, fun Wd id ed _ => fun v34 h34 => O.mv rfl <| D.rel (R := TV RQ (cq (sqLo x b))) (Ext.refl _) h34 TV.me, fun Wd id ed _ => fun v30 h30 => (by obtain ⟨v1, rfl, hv1⟩ := h30; exact O.ext rfl rfl <| D.rel (R := fun W v => V RQ W v (cq (sqLo x b))) (Ext.refl _) hv1 V.me), fun Wd id ed _ => fun v30 h30 => (by obtain ⟨v1, rfl, hv1⟩ := h30; exact O.ext rfl rfl <| D.ex), fun Wd id ed _ => O.allocN (by rfl) ed.size, trivial⟩ ⟨⟨?_, trivial⟩, ⟨?_, trivial⟩, trivial⟩
    · skip
      intro Wr3 ir3 er3 v31 h31 v33 h33 v34 h34 v30 h30 v35 h35 v10 h10 ne10
      obtain ⟨b10, rfl, hl10, hz10⟩ := h10
      have n4_10 : b4 ≠ b10 := Nat.ne_of_lt (Nat.lt_of_lt_of_le (by exact hl4.to.lt) hz10)
      obtain ⟨v1, rfl, hv1⟩ := h30
      refine O.stT rfl rfl hl10.to h35.to rfl fun Ws4 is4 hb10 F10 => ?_
      have hl4 := F10.loc hl4.to n4_10
      refine O.as rfl <| JO.nil <| J.seq <| J.reg rfl <| O.ldT rfl hb10.to.h rfl rfl (fun h => nomatch h) fun v37 h37 => ?_
      refine O.stT rfl rfl hl4.to h37.to rfl fun Ws5 is5 hb4 F4 => ?_
      refine JO.nil <| J.retT rfl rfl hb4.to.h rfl rfl fun W' v' iE iP hv' => ?_
      exact hv'.to
    · skip
      intro Wr3 ir3 er3 v31 h31 v33 h33 v34 h34 v30 h30 v35 h35 v10 h10 ne10
      obtain ⟨b10, rfl, hl10, hz10⟩ := h10
      have n4_10 : b4 ≠ b10 := Nat.ne_of_lt (Nat.lt_of_lt_of_le (by exact hl4.to.lt) hz10)
      obtain ⟨v1, rfl, hv1⟩ := h30
      refine O.stT rfl rfl hl10.to h35.to rfl fun Ws6 is6 hb10 F10 => ?_
      have hl4 := F10.loc hl4.to n4_10
      refine O.ext rfl rfl <| O.as rfl <| JO.nil <| J.seq <| J.reg rfl <| O.ldT rfl hb10.to.h rfl rfl (fun h => nomatch h) fun v37 h37 => ?_
      refine O.stT rfl rfl hl4.to h37.to rfl fun Ws7 is7 hb4 F4 => ?_
      refine JO.nil <| J.retT rfl rfl hb4.to.h rfl rfl fun W' v' iE iP hv' => ?_
      exact hv'.to
  · skip
    intro Wr1 ir1 er1 v14 h14 v17 h17 v18 h18 v20 h20 v21 h21 v12 h12 v22 h22 v5 h5 ne5 v6 h6 ne6
    obtain ⟨b5, rfl, hl5, hz5⟩ := h5
    have n4_5 : b4 ≠ b5 := Nat.ne_of_lt (Nat.lt_of_lt_of_le (by exact hl4.to.lt) hz5)
    obtain ⟨b6, rfl, hl6, hz6⟩ := h6
    have n4_6 : b4 ≠ b6 := Nat.ne_of_lt (Nat.lt_of_lt_of_le (by exact hl4.to.lt) hz6)
    have n5_6 : b5 ≠ b6 := fun e => ne6.1 (by rw [e])
    obtain ⟨v1, v2, rfl, hv1, hv2⟩ := h12
    refine O.stT rfl rfl hl5.to h22.to rfl fun Ws8 is8 hb5 F5 => ?_
    have hl4 := F5.loc hl4.to n4_5
    have hl6 := F5.loc hl6.to n5_6.symm
    refine O.ext rfl rfl <| ?_
    have h23 := hv2
    refine O.stT rfl rfl hl6.to h23.to rfl fun Ws9 is9 hb6 F6 => ?_
    have hl4 := F6.loc hl4.to n4_6
    refine O.as rfl <| JO.nil <| J.seq <| J.reg rfl <| O.ldT rfl hb5.to.h rfl rfl (fun h => nomatch h) fun v26 h26 => O.call rfl (integer_Sqrt_ok h26.to (by omega)) fun W27 v27 i27 e27 h27 => ?_
    obtain ⟨v28, rfl, h28⟩ := h27
    refine O.mv rfl <| O.ext rfl rfl <| O.ext rfl rfl <| ?_
    refine O.allocE fun W8 b8 i8 e8 hl8 hc8 hz8 => ?_
    have n4_8 : b4 ≠ b8 := Nat.ne_of_lt (Nat.lt_of_lt_of_le (by exact hl4.to.lt) hz8)
    refine O.stT rfl rfl hl8.to h28.to rfl fun Ws10 is10 hb8 F8 => ?_
    have hl4 := F8.loc hl4.to n4_8
    refine O.as rfl <| JO.nil <| J.seq <| ?_
    refine J.drawM [.rel _, .ex _, .rel _, .rel _, .rel _, .rel _, .ex _, .rel _] [false, false, false, false, false, false, false, true] 8 [6] [([], [[9]]), ([6], [[6, 9]])] (by decide +kernel) rfl rfl ⟨fun Wd id ed _ => O.ldTD rfl hb8.to.h rfl rfl (fun h => nomatch h), fun Wd id ed _ => O.mv rfl <| D.ex, fun Wd id ed _ => O.call rfl (sign_power_ok (n := b) (by omega)) fun Wd vd id ed hd => D.rel ed hd V.me, fun Wd id ed _ => fun v31 h31 => fun _ _ => fun v33 h33 => O.call rfl (rational_Make_ok (p := s + (2 * b + 2)) (a := (rtF (sq2 x b) : Int)) (b := 2 ^ b) h31.to h33.to zx (Zs.two (by omega)) (by omega) (two_ne b)) fun Wd vd id ed hd => D.rel (R := TV RQ _) ed hd TV.me, fun Wd id ed _ => fun v34 h34 => O.mv rfl <| D.rel (R := TV RQ (cq (sqLo x b))) (Ext.refl _) h34 TV.me, fun Wd id ed _ => fun v30 h30 => (by obtain ⟨v1, rfl, hv1⟩ := h30; exact O.ext rfl rfl <| D.rel (R := fun W v => V RQ W v (cq (sqLo x b))) (Ext.refl _) hv1 V.me), fun Wd id ed _ => fun v30 h30 => (by obtain ⟨v1, rfl, hv1⟩ := h30; exact O.ext rfl rfl <| D.ex), fun Wd id ed _ => O.allocN (by rfl) ed.size, trivial⟩ ⟨⟨?_, trivial⟩, ⟨?_, trivial⟩, trivial⟩
    · skip
      intro Wr3 ir3 er3 v31 h31 v33 h33 v34 h34 v30 h30 v35 h35 v10 h10 ne10
      obtain ⟨b10, rfl, hl10, hz10⟩ := h10
      have n4_10 : b4 ≠ b10 := Nat.ne_of_lt (Nat.lt_of_lt_of_le (by exact hl4.to.lt) hz10)
      obtain ⟨v1, rfl, hv1⟩ := h30
      refine O.stT rfl rfl hl10.to h35.to rfl fun Ws11 is11 hb10 F10 => ?_
      have hl4 := F10.loc hl4.to n4_10
      refine O.as rfl <| JO.nil <| J.seq <| J.reg rfl <| O.ldT rfl hb10.to.h rfl rfl (fun h => nomatch h) fun v37 h37 => ?_
      refine O.stT rfl rfl hl4.to h37.to rfl fun Ws12 is12 hb4 F4 => ?_
      refine JO.nil <| J.retT rfl rfl hb4.to.h rfl rfl fun W' v' iE iP hv' => ?_
      exact hv'.to
    · skip
      intro Wr3 ir3 er3 v31 h31 v33 h33 v34 h34 v30 h30 v35 h35 v10 h10 ne10
      obtain ⟨b10, rfl, hl10, hz10⟩ := h10
      have n4_10 : b4 ≠ b10 := Nat.ne_of_lt (Nat.lt_of_lt_of_le (by exact hl4.to.lt) hz10)
      obtain ⟨v1, rfl, hv1⟩ := h30
      refine O.stT rfl rfl hl10.to h35.to rfl fun Ws13 is13 hb10 F10 => ?_
      have hl4 := F10.loc hl4.to n4_10
      refine O.ext rfl rfl <| O.as rfl <| JO.nil <| J.seq <| J.reg rfl <| O.ldT rfl hb10.to.h rfl rfl (fun h => nomatch h) fun v37 h37 => ?_
      refine O.stT rfl rfl hl4.to h37.to rfl fun Ws14 is14 hb4 F4 => ?_
      refine JO.nil <| J.retT rfl rfl hb4.to.h rfl rfl fun W' v' iE iP hv' => ?_
      exact hv'.to
  · skip
    intro Wr1 ir1 er1 v14 h14 v17 h17 v18 h18 v20 h20 v21 h21 v12 h12 v22 h22 v23 h23 v5 h5 ne5 v6 h6 ne6
    obtain ⟨b5, rfl, hl5, hz5⟩ := h5
    have n4_5 : b4 ≠ b5 := Nat.ne_of_lt (Nat.lt_of_lt_of_le (by exact hl4.to.lt) hz5)
    obtain ⟨b6, rfl, hl6, hz6⟩ := h6
    have n4_6 : b4 ≠ b6 := Nat.ne_of_lt (Nat.lt_of_lt_of_le (by exact hl4.to.lt) hz6)
    have n5_6 : b5 ≠ b6 := fun e => ne6.1 (by rw [e])
    obtain ⟨v1, v2, rfl, hv1, hv2⟩ := h12
    refine O.stT rfl rfl hl5.to h22.to rfl fun Ws15 is15 hb5 F5 => ?_
    have hl4 := F5.loc hl4.to n4_5
    have hl6 := F5.loc hl6.to n5_6.symm
    refine O.ext rfl rfl <| ?_
    refine O.stT rfl rfl hl6.to h23.to rfl fun Ws16 is16 hb6 F6 => ?_
    have hl4 := F6.loc hl4.to n4_6
    refine O.as rfl <| JO.nil <| J.seq <| J.reg rfl <| O.ldT rfl hb5.to.h rfl rfl (fun h => nomatch h) fun v26 h26 => O.call rfl (integer_Sqrt_ok h26.to (by omega)) fun W27 v27 i27 e27 h27 => ?_
    obtain ⟨v28, rfl, h28⟩ := h27
    refine O.mv rfl <| O.ext rfl rfl <| O.ext rfl rfl <| ?_
    refine O.allocE fun W8 b8 i8 e8 hl8 hc8 hz8 => ?_
    have n4_8 : b4 ≠ b8 := Nat.ne_of_lt (Nat.lt_of_lt_of_le (by exact hl4.to.lt) hz8)
    refine O.stT rfl rfl hl8.to h28.to rfl fun Ws17 is17 hb8 F8 => ?_
    have hl4 := F8.loc hl4.to n4_8
    refine O.as rfl <| JO.nil <| J.seq <| ?_
    refine J.drawM [.rel _, .ex _, .rel _, .rel _, .rel _, .rel _, .ex _, .rel _] [false, false, false, false, false, false, false, true] 8 [6] [([], [[9]]), ([6], [[6, 9]])] (by decide +kernel) rfl rfl ⟨fun Wd id ed _ => O.ldTD rfl hb8.to.h rfl rfl (fun h => nomatch h), fun Wd id ed _ => O.mv rfl <| D.ex, fun Wd id ed _ => O.call rfl (sign_power_ok (n := b) (by omega)) fun Wd vd id ed hd => D.rel ed hd V.me, fun Wd id ed _ => fun v31 h31 => fun _ _ => fun v33 h33 => O.call rfl (rational_Make_ok (p := s + (2 * b + 2)) (a := (rtF (sq2 x b) : Int)) (b := 2 ^ b) h31.to h33.to zx (Zs.two (by omega)) (by omega) (two_ne b)) fun Wd vd id ed hd => D.rel (R := TV RQ _) ed hd TV.me, fun Wd id ed _ => fun v34 h34 => O.mv rfl <| D.rel (R := TV RQ (cq (sqLo x b))) (Ext.refl _) h34 TV.me, fun Wd id ed _ => fun v30 h30 => (by obtain ⟨v1, rfl, hv1⟩ := h30; exact O.ext rfl rfl <| D.rel (R := fun W v => V RQ W v (cq (sqLo x b))) (Ext.refl _) hv1 V.me), fun Wd id ed _ => fun v30 h30 => (by obtain ⟨v1, rfl, hv1⟩ := h30; exact O.ext rfl rfl <| D.ex), fun Wd id ed _ => O.allocN (by rfl) ed.size, trivial⟩ ⟨⟨?_, trivial⟩, ⟨?_, trivial⟩, trivial⟩
    · skip
      intro Wr3 ir3 er3 v31 h31 v33 h33 v34 h34 v30 h30 v35 h35 v10 h10 ne10
      obtain ⟨b10, rfl, hl10, hz10⟩ := h10
      have n4_10 : b4 ≠ b10 := Nat.ne_of_lt (Nat.lt_of_lt_of_le (by exact hl4.to.lt) hz10)
      obtain ⟨v1, rfl, hv1⟩ := h30
      refine O.stT rfl rfl hl10.to h35.to rfl fun Ws18 is18 hb10 F10 => ?_
      have hl4 := F10.loc hl4.to n4_10
      refine O.as rfl <| JO.nil <| J.seq <| J.reg rfl <| O.ldT rfl hb10.to.h rfl rfl (fun h => nomatch h) fun v37 h37 => ?_
      refine O.stT rfl rfl hl4.to h37.to rfl fun Ws19 is19 hb4 F4 => ?_
      refine JO.nil <| J.retT rfl rfl hb4.to.h rfl rfl fun W' v' iE iP hv' => ?_
      exact hv'.to
    · skip
      intro Wr3 ir3 er3 v31 h31 v33 h33 v34 h34 v30 h30 v35 h35 v10 h10 ne10
      obtain ⟨b10, rfl, hl10, hz10⟩ := h10
      have n4_10 : b4 ≠ b10 := Nat.ne_of_lt (Nat.lt_of_lt_of_le (by exact hl4.to.lt) hz10)
      obtain ⟨v1, rfl, hv1⟩ := h30
      refine O.stT rfl rfl hl10.to h35.to rfl fun Ws20 is20 hb10 F10 => ?_
      have hl4 := F10.loc hl4.to n4_10
      refine O.ext rfl rfl <| O.as rfl <| JO.nil <| J.seq <| J.reg rfl <| O.ldT rfl hb10.to.h rfl rfl (fun h => nomatch h) fun v37 h37 => ?_
      refine O.stT rfl rfl hl4.to h37.to rfl fun Ws21 is21 hb4 F4 => ?_
      refine JO.nil <| J.retT rfl rfl hb4.to.h rfl rfl fun W' v' iE iP hv' => ?_
      exact hv'.to
  · skip
    intro Wr1 ir1 er1 v14 h14 v17 h17 v18 h18 v20 h20 v21 h21 v12 h12 v22 h22 v23 h23 v5 h5 ne5 v6 h6 ne6
    obtain ⟨b5, rfl, hl5, hz5⟩ := h5
    have n4_5 : b4 ≠ b5 := Nat.ne_of_lt (Nat.lt_of_lt_of_le (by exact hl4.to.lt) hz5)
    obtain ⟨b6, rfl, hl6, hz6⟩ := h6
    have n4_6 : b4 ≠ b6 := Nat.ne_of_lt (Nat.lt_of_lt_of_le (by exact hl4.to.lt) hz6)
    have n5_6 : b5 ≠ b6 := fun e => ne6.1 (by rw [e])
    obtain ⟨v1, v2, rfl, hv1, hv2⟩ := h12
    refine O.stT rfl rfl hl5.to h22.to rfl fun Ws22 is22 hb5 F5 => ?_
    have hl4 := F5.loc hl4.to n4_5
    have hl6 := F5.loc hl6.to n5_6.symm
    refine O.stT rfl rfl hl6.to h23.to rfl fun Ws23 is23 hb6 F6 => ?_
    have hl4 := F6.loc hl4.to n4_6
    refine O.ext rfl rfl <| O.as rfl <| JO.nil <| J.seq <| J.reg rfl <| O.ldT rfl hb5.to.h rfl rfl (fun h => nomatch h) fun v26 h26 => O.call rfl (integer_Sqrt_ok h26.to (by omega)) fun W27 v27 i27 e27 h27 => ?_
    obtain ⟨v28, rfl, h28⟩ := h27
    refine O.mv rfl <| O.ext rfl rfl <| O.ext rfl rfl <| ?_
    refine O.allocE fun W8 b8 i8 e8 hl8 hc8 hz8 => ?_
    have n4_8 : b4 ≠ b8 := Nat.ne_of_lt (Nat.lt_of_lt_of_le (by exact hl4.to.lt) hz8)
    refine O.stT rfl rfl hl8.to h28.to rfl fun Ws24 is24 hb8 F8 => ?_
    have hl4 := F8.loc hl4.to n4_8
    refine O.as rfl <| JO.nil <| J.seq <| ?_
    refine J.drawM [.rel _, .ex _, .rel _, .rel _, .rel _, .rel _, .ex _, .rel _] [false, false, false, false, false, false, false, true] 8 [6] [([], [[9]]), ([6], [[6, 9]])] (by decide +kernel) rfl rfl ⟨fun Wd id ed _ => O.ldTD rfl hb8.to.h rfl rfl (fun h => nomatch h), fun Wd id ed _ => O.mv rfl <| D.ex, fun Wd id ed _ => O.call rfl (sign_power_ok (n := b) (by omega)) fun Wd vd id ed hd => D.rel ed hd V.me, fun Wd id ed _ => fun v31 h31 => fun _ _ => fun v33 h33 => O.call rfl (rational_Make_ok (p := s + (2 * b + 2)) (a := (rtF (sq2 x b) : Int)) (b := 2 ^ b) h31.to h33.to zx (Zs.two (by omega)) (by omega) (two_ne b)) fun Wd vd id ed hd => D.rel (R := TV RQ _) ed hd TV.me, fun Wd id ed _ => fun v34 h34 => O.mv rfl <| D.rel (R := TV RQ (cq (sqLo x b))) (Ext.refl _) h34 TV.me, fun Wd id ed _ => fun v30 h30 => (by obtain ⟨v1, rfl, hv1⟩ := h30; exact O.ext rfl rfl <| D.rel (R := fun W v => V RQ W v (cq (sqLo x b))) (Ext.refl _) hv1 V.me), fun Wd id ed _ => fun v30 h30 => (by obtain ⟨v1, rfl, hv1⟩ := h30; exact O.ext rfl rfl <| D.ex), fun Wd id ed _ => O.allocN (by rfl) ed.size, trivial⟩ ⟨⟨?_, trivial⟩, ⟨?_, trivial⟩, trivial⟩
    · skip
      intro Wr3 ir3 er3 v31 h31 v33 h33 v34 h34 v30 h30 v35 h35 v10 h10 ne10
      obtain ⟨b10, rfl, hl10, hz10⟩ := h10
      have n4_10 : b4 ≠ b10 := Nat.ne_of_lt (Nat.lt_of_lt_of_le (by exact hl4.to.lt) hz10)
      obtain ⟨v1, rfl, hv1⟩ := h30
      refine O.stT rfl rfl hl10.to h35.to rfl fun Ws25 is25 hb10 F10 => ?_
      have hl4 := F10.loc hl4.to n4_10
      refine O.as rfl <| JO.nil <| J.seq <| J.reg rfl <| O.ldT rfl hb10.to.h rfl rfl (fun h => nomatch h) fun v37 h37 => ?_
      refine O.stT rfl rfl hl4.to h37.to rfl fun Ws26 is26 hb4 F4 => ?_
      refine JO.nil <| J.retT rfl rfl hb4.to.h rfl rfl fun W' v' iE iP hv' => ?_
      exact hv'.to
    · skip
      intro Wr3 ir3 er3 v31 h31 v33 h33 v34 h34 v30 h30 v35 h35 v10 h10 ne10
      obtain ⟨b10, rfl, hl10, hz10⟩ := h10
      have n4_10 : b4 ≠ b10 := Nat.ne_of_lt (Nat.lt_of_lt_of_le (by exact hl4.to.lt) hz10)
      obtain ⟨v1, rfl, hv1⟩ := h30
      refine O.stT rfl rfl hl10.to h35.to rfl fun Ws27 is27 hb10 F10 => ?_
      have hl4 := F10.loc hl4.to n4_10
      refine O.ext rfl rfl <| O.as rfl <| JO.nil <| J.seq <| J.reg rfl <| O.ldT rfl hb10.to.h rfl rfl (fun h => nomatch h) fun v37 h37 => ?_
      refine O.stT rfl rfl hl4.to h37.to rfl fun Ws28 is28 hb4 F4 => ?_
      refine JO.nil <| J.retT rfl rfl hb4.to.h rfl rfl fun W' v' iE iP hv' => ?_
      exact hv'.to
  · skip
    intro Wr1 ir1 er1 v14 h14 v17 h17 v18 h18 v20 h20 v21 h21 v12 h12 v22 h22 v5 h5 ne5 v6 h6 ne6
    obtain ⟨b5, rfl, hl5, hz5⟩ := h5
    have n4_5 : b4 ≠ b5 := Nat.ne_of_lt (Nat.lt_of_lt_of_le (by exact hl4.to.lt) hz5)
    obtain ⟨b6, rfl, hl6, hz6⟩ := h6
    have n4_6 : b4 ≠ b6 := Nat.ne_of_lt (Nat.lt_of_lt_of_le (by exact hl4.to.lt) hz6)
    have n5_6 : b5 ≠ b6 := fun e => ne6.1 (by rw [e])
    obtain ⟨v1, v2, rfl, hv1, hv2⟩ := h12
    refine O.stT rfl rfl hl5.to h22.to rfl fun Ws29 is29 hb5 F5 => ?_
    have hl4 := F5.loc hl4.to n4_5
    have hl6 := F5.loc hl6.to n5_6.symm
    refine O.ext rfl rfl <| ?_
    have h23 := hv2
    refine O.ext rfl rfl <| ?_
    refine O.stT rfl rfl hl6.to h23.to rfl fun Ws30 is30 hb6 F6 => ?_
    have hl4 := F6.loc hl4.to n4_6
    refine O.as rfl <| JO.nil <| J.seq <| J.reg rfl <| O.ldT rfl hb5.to.h rfl rfl (fun h => nomatch h) fun v26 h26 => O.call rfl (integer_Sqrt_ok h26.to (by omega)) fun W27 v27 i27 e27 h27 => ?_
    obtain ⟨v28, rfl, h28⟩ := h27
    refine O.mv rfl <| O.ext rfl rfl <| O.ext rfl rfl <| ?_
    refine O.allocE fun W8 b8 i8 e8 hl8 hc8 hz8 => ?_
    have n4_8 : b4 ≠ b8 := Nat.ne_of_lt (Nat.lt_of_lt_of_le (by exact hl4.to.lt) hz8)
    refine O.stT rfl rfl hl8.to h28.to rfl fun Ws31 is31 hb8 F8 => ?_
    have hl4 := F8.loc hl4.to n4_8
    refine O.as rfl <| JO.nil <| J.seq <| ?_
    refine J.drawM [.rel _, .ex _, .rel _, .rel _, .rel _, .rel _, .ex _, .rel _] [false, false, false, false, false, false, false, true] 8 [6] [([], [[9]]), ([6], [[6, 9]])] (by decide +kernel) rfl rfl ⟨fun Wd id ed _ => O.ldTD rfl hb8.to.h rfl rfl (fun h => nomatch h), fun Wd id ed _ => O.mv rfl <| D.ex, fun Wd id ed _ => O.call rfl (sign_power_ok (n := b) (by omega)) fun Wd vd id ed hd => D.rel ed hd V.me, fun Wd id ed _ => fun v31 h31 => fun _ _ => fun v33 h33 => O.call rfl (rational_Make_ok (p := s + (2 * b + 2)) (a := (rtF (sq2 x b) : Int)) (b := 2 ^ b) h31.to h33.to zx (Zs.two (by omega)) (by omega) (two_ne b)) fun Wd vd id ed hd => D.rel (R := TV RQ _) ed hd TV.me, fun Wd id ed _ => fun v34 h34 => O.mv rfl <| D.rel (R := TV RQ (cq (sqLo x b))) (Ext.refl _) h34 TV.me, fun Wd id ed _ => fun v30 h30 => (by obtain ⟨v1, rfl, hv1⟩ := h30; exact O.ext rfl rfl <| D.rel (R := fun W v => V RQ W v (cq (sqLo x b))) (Ext.refl _) hv1 V.me), fun Wd id ed _ => fun v30 h30 => (by obtain ⟨v1, rfl, hv1⟩ := h30; exact O.ext rfl rfl <| D.ex), fun Wd id ed _ => O.allocN (by rfl) ed.size, trivial⟩ ⟨⟨?_, trivial⟩, ⟨?_, trivial⟩, trivial⟩
    · skip
      intro Wr3 ir3 er3 v31 h31 v33 h33 v34 h34 v30 h30 v35 h35 v10 h10 ne10
      obtain ⟨b10, rfl, hl10, hz10⟩ := h10
      have n4_10 : b4 ≠ b10 := Nat.ne_of_lt (Nat.lt_of_lt_of_le (by exact hl4.to.lt) hz10)
      obtain ⟨v1, rfl, hv1⟩ := h30
      refine O.stT rfl rfl hl10.to h35.to rfl fun Ws32 is32 hb10 F10 => ?_
      have hl4 := F10.loc hl4.to n4_10
      refine O.as rfl <| JO.nil <| J.seq <| J.reg rfl <| O.ldT rfl hb10.to.h rfl rfl (fun h => nomatch h) fun v37 h37 => ?_
      refine O.stT rfl rfl hl4.to h37.to rfl fun Ws33 is33 hb4 F4 => ?_
      refine JO.nil <| J.retT rfl rfl hb4.to.h rfl rfl fun W' v' iE iP hv' => ?_
      exact hv'.to
    · skip
      intro Wr3 ir3 er3 v31 h31 v33 h33 v34 h34 v30 h30 v35 h35 v10 h10 ne10
      obtain ⟨b10, rfl, hl10, hz10⟩ := h10
      have n4_10 : b4 ≠ b10 := Nat.ne_of_lt (Nat.lt_of_lt_of_le (by exact hl4.to.lt) hz10)
      obtain ⟨v1, rfl, hv1⟩ := h30
      refine O.stT rfl rfl hl10.to h35.to rfl fun Ws34 is34 hb10 F10 => ?_
      have hl4 := F10.loc hl4.to n4_10
      refine O.ext rfl rfl <| O.as rfl <| JO.nil <| J.seq <| J.reg rfl <| O.ldT rfl hb10.to.h rfl rfl (fun h => nomatch h) fun v37 h37 => ?_
      refine O.stT rfl rfl hl4.to h37.to rfl fun Ws35 is35 hb4 F4 => ?_
      refine JO.nil <| J.retT rfl rfl hb4.to.h rfl rfl fun W' v' iE iP hv' => ?_
      exact hv'.to
  · skip
    intro Wr1 ir1 er1 v14 h14 v17 h17 v18 h18 v20 h20 v21 h21 v12 h12 v22 h22 v5 h5 ne5 v6 h6 ne6
    obtain ⟨b5, rfl, hl5, hz5⟩ := h5
    have n4_5 : b4 ≠ b5 := Nat.ne_of_lt (Nat.lt_of_lt_of_le (by exact hl4.to.lt) hz5)
    obtain ⟨b6, rfl, hl6, hz6⟩ := h6
    have n4_6 : b4 ≠ b6 := Nat.ne_of_lt (Nat.lt_of_lt_of_le (by exact hl4.to.lt) hz6)
    have n5_6 : b5 ≠ b6 := fun e => ne6.1 (by rw [e])
    obtain ⟨v1, v2, rfl, hv1, hv2⟩ := h12
    refine O.stT rfl rfl hl5.to h22.to rfl fun Ws36 is36 hb5 F5 => ?_
    have hl4 := F5.loc hl4.to n4_5
    have hl6 := F5.loc hl6.to n5_6.symm
    refine O.ext rfl rfl <| ?_
    have h23 := hv2
    refine O.stT rfl rfl hl6.to h23.to rfl fun Ws37 is37 hb6 F6 => ?_
    have hl4 := F6.loc hl4.to n4_6
    refine O.ext rfl rfl <| O.as rfl <| JO.nil <| J.seq <| J.reg rfl <| O.ldT rfl hb5.to.h rfl rfl (fun h => nomatch h) fun v26 h26 => O.call rfl (integer_Sqrt_ok h26.to (by omega)) fun W27 v27 i27 e27 h27 => ?_
    obtain ⟨v28, rfl, h28⟩ := h27
    refine O.mv rfl <| O.ext rfl rfl <| O.ext rfl rfl <| ?_
    refine O.allocE fun W8 b8 i8 e8 hl8 hc8 hz8 => ?_
    have n4_8 : b4 ≠ b8 := Nat.ne_of_lt (Nat.lt_of_lt_of_le (by exact hl4.to.lt) hz8)
    refine O.stT rfl rfl hl8.to h28.to rfl fun Ws38 is38 hb8 F8 => ?_
    have hl4 := F8.loc hl4.to n4_8
    refine O.as rfl <| JO.nil <| J.seq <| ?_
    refine J.drawM [.rel _, .ex _, .rel _, .rel _, .rel _, .rel _, .ex _, .rel _] [false, false, false, false, false, false, false, true] 8 [6] [([], [[9]]), ([6], [[6, 9]])] (by decide +kernel) rfl rfl ⟨fun Wd id ed _ => O.ldTD rfl hb8.to.h rfl rfl (fun h => nomatch h), fun Wd id ed _ => O.mv rfl <| D.ex, fun Wd id ed _ => O.call rfl (sign_power_ok (n := b) (by omega)) fun Wd vd id ed hd => D.rel ed hd V.me, fun Wd id ed _ => fun v31 h31 => fun _ _ => fun v33 h33 => O.call rfl (rational_Make_ok (p := s + (2 * b + 2)) (a := (rtF (sq2 x b) : Int)) (b := 2 ^ b) h31.to h33.to zx (Zs.two (by omega)) (by omega) (two_ne b)) fun Wd vd id ed hd => D.rel (R := TV RQ _) ed hd TV.me, fun Wd id ed _ => fun v34 h34 => O.mv rfl <| D.rel (R := TV RQ (cq (sqLo x b))) (Ext.refl _) h34 TV.me, fun Wd id ed _ => fun v30 h30 => (by obtain ⟨v1, rfl, hv1⟩ := h30; exact O.ext rfl rfl <| D.rel (R := fun W v => V RQ W v (cq (sqLo x b))) (Ext.refl _) hv1 V.me), fun Wd id ed _ => fun v30 h30 => (by obtain ⟨v1, rfl, hv1⟩ := h30; exact O.ext rfl rfl <| D.ex), fun Wd id ed _ => O.allocN (by rfl) ed.size, trivial⟩ ⟨⟨?_, trivial⟩, ⟨?_, trivial⟩, trivial⟩
    · skip
      intro Wr3 ir3 er3 v31 h31 v33 h33 v34 h34 v30 h30 v35 h35 v10 h10 ne10
      obtain ⟨b10, rfl, hl10, hz10⟩ := h10
      have n4_10 : b4 ≠ b10 := Nat.ne_of_lt (Nat.lt_of_lt_of_le (by exact hl4.to.lt) hz10)
      obtain ⟨v1, rfl, hv1⟩ := h30
      refine O.stT rfl rfl hl10.to h35.to rfl fun Ws39 is39 hb10 F10 => ?_
      have hl4 := F10.loc hl4.to n4_10
      refine O.as rfl <| JO.nil <| J.seq <| J.reg rfl <| O.ldT rfl hb10.to.h rfl rfl (fun h => nomatch h) fun v37 h37 => ?_
      refine O.stT rfl rfl hl4.to h37.to rfl fun Ws40 is40 hb4 F4 => ?_
      refine JO.nil <| J.retT rfl rfl hb4.to.h rfl rfl fun W' v' iE iP hv' => ?_
      exact hv'.to
    · skip
      intro Wr3 ir3 er3 v31 h31 v33 h33 v34 h34 v30 h30 v35 h35 v10 h10 ne10
      obtain ⟨b10, rfl, hl10, hz10⟩ := h10
      have n4_10 : b4 ≠ b10 := Nat.ne_of_lt (Nat.lt_of_lt_of_le (by exact hl4.to.lt) hz10)
      obtain ⟨v1, rfl, hv1⟩ := h30
      refine O.stT rfl rfl hl10.to h35.to rfl fun Ws41 is41 hb10 F10 => ?_
      have hl4 := F10.loc hl4.to n4_10
      refine O.ext rfl rfl <| O.as rfl <| JO.nil <| J.seq <| J.reg rfl <| O.ldT rfl hb10.to.h rfl rfl (fun h => nomatch h) fun v37 h37 => ?_
      refine O.stT rfl rfl hl4.to h37.to rfl fun Ws42 is42 hb4 F4 => ?_
      refine JO.nil <| J.retT rfl rfl hb4.to.h rfl rfl fun W' v' iE iP hv' => ?_
      exact hv'.to
  · skip
    intro Wr1 ir1 er1 v14 h14 v17 h17 v18 h18 v20 h20 v21 h21 v12 h12 v22 h22 v5 h5 ne5 v6 h6 ne6
    obtain ⟨b5, rfl, hl5, hz5⟩ := h5
    have n4_5 : b4 ≠ b5 := Nat.ne_of_lt (Nat.lt_of_lt_of_le (by exact hl4.to.lt) hz5)
    obtain ⟨b6, rfl, hl6, hz6⟩ := h6
    have n4_6 : b4 ≠ b6 := Nat.ne_of_lt (Nat.lt_of_lt_of_le (by exact hl4.to.lt) hz6)
    have n5_6 : b5 ≠ b6 := fun e => ne6.1 (by rw [e])
    obtain ⟨v1, v2, rfl, hv1, hv2⟩ := h12
    refine O.stT rfl rfl hl5.to h22.to rfl fun Ws43 is43 hb5 F5 => ?_
    have hl4 := F5.loc hl4.to n4_5
    have hl6 := F5.loc hl6.to n5_6.symm
    refine O.ext rfl rfl <| O.ext rfl rfl <| ?_
    have h23 := hv2
    refine O.stT rfl rfl hl6.to h23.to rfl fun Ws44 is44 hb6 F6 => ?_
    have hl4 := F6.loc hl4.to n4_6
    refine O.as rfl <| JO.nil <| J.seq <| J.reg rfl <| O.ldT rfl hb5.to.h rfl rfl (fun h => nomatch h) fun v26 h26 => O.call rfl (integer_Sqrt_ok h26.to (by omega)) fun W27 v27 i27 e27 h27 => ?_
    obtain ⟨v28, rfl, h28⟩ := h27
    refine O.mv rfl <| O.ext rfl rfl <| O.ext rfl rfl <| ?_
    refine O.allocE fun W8 b8 i8 e8 hl8 hc8 hz8 => ?_
    have n4_8 : b4 ≠ b8 := Nat.ne_of_lt (Nat.lt_of_lt_of_le (by exact hl4.to.lt) hz8)
    refine O.stT rfl rfl hl8.to h28.to rfl fun Ws45 is45 hb8 F8 => ?_
    have hl4 := F8.loc hl4.to n4_8
    refine O.as rfl <| JO.nil <| J.seq <| ?_
    refine J.drawM [.rel _, .ex _, .rel _, .rel _, .rel _, .rel _, .ex _, .rel _] [false, false, false, false, false, false, false, true] 8 [6] [([], [[9]]), ([6], [[6, 9]])] (by decide +kernel) rfl rfl ⟨fun Wd id ed _ => O.ldTD rfl hb8.to.h rfl rfl (fun h => nomatch h), fun Wd id ed _ => O.mv rfl <| D.ex, fun Wd id ed _ => O.call rfl (sign_power_ok (n := b) (by omega)) fun Wd vd id ed hd => D.rel ed hd V.me, fun Wd id ed _ => fun v31 h31 => fun _ _ => fun v33 h33 => O.call rfl (rational_Make_ok (p := s + (2 * b + 2)) (a := (rtF (sq2 x b) : Int)) (b := 2 ^ b) h31.to h33.to zx (Zs.two (by omega)) (by omega) (two_ne b)) fun Wd vd id ed hd => D.rel (R := TV RQ _) ed hd TV.me, fun Wd id ed _ => fun v34 h34 => O.mv rfl <| D.rel (R := TV RQ (cq (sqLo x b))) (Ext.refl _) h34 TV.me, fun Wd id ed _ => fun v30 h30 => (by obtain ⟨v1, rfl, hv1⟩ := h30; exact O.ext rfl rfl <| D.rel (R := fun W v => V RQ W v (cq (sqLo x b))) (Ext.refl _) hv1 V.me), fun Wd id ed _ => fun v30 h30 => (by obtain ⟨v1, rfl, hv1⟩ := h30; exact O.ext rfl rfl <| D.ex), fun Wd id ed _ => O.allocN (by rfl) ed.size, trivial⟩ ⟨⟨?_, trivial⟩, ⟨?_, trivial⟩, trivial⟩
    · skip
      intro Wr3 ir3 er3 v31 h31 v33 h33 v34 h34 v30 h30 v35 h35 v10 h10 ne10
      obtain ⟨b10, rfl, hl10, hz10⟩ := h10
      have n4_10 : b4 ≠ b10 := Nat.ne_of_lt (Nat.lt_of_lt_of_le (by exact hl4.to.lt) hz10)
      obtain ⟨v1, rfl, hv1⟩ := h30
      refine O.stT rfl rfl hl10.to h35.to rfl fun Ws46 is46 hb10 F10 => ?_
      have hl4 := F10.loc hl4.to n4_10
      refine O.as rfl <| JO.nil <| J.seq <| J.reg rfl <| O.ldT rfl hb10.to.h rfl rfl (fun h => nomatch h) fun v37 h37 => ?_
      refine O.stT rfl rfl hl4.to h37.to rfl fun Ws47 is47 hb4 F4 => ?_
      refine JO.nil <| J.retT rfl rfl hb4.to.h rfl rfl fun W' v' iE iP hv' => ?_
      exact hv'.to
    · skip
      intro Wr3 ir3 er3 v31 h31 v33 h33 v34 h34 v30 h30 v35 h35 v10 h10 ne10
      obtain ⟨b10, rfl, hl10, hz10⟩ := h10
      have n4_10 : b4 ≠ b10 := Nat.ne_of_lt (Nat.lt_of_lt_of_le (by exact hl4.to.lt) hz10)
      obtain ⟨v1, rfl, hv1⟩ := h30
      refine O.stT rfl rfl hl10.to h35.to rfl fun Ws48 is48 hb10 F10 => ?_
      have hl4 := F10.loc hl4.to n4_10
      refine O.ext rfl rfl <| O.as rfl <| JO.nil <| J.seq <| J.reg rfl <| O.ldT rfl hb10.to.h rfl rfl (fun h => nomatch h) fun v37 h37 => ?_
      refine O.stT rfl rfl hl4.to h37.to rfl fun Ws49 is49 hb4 F4 => ?_
      refine JO.nil <| J.retT rfl rfl hb4.to.h rfl rfl fun W' v' iE iP hv' => ?_
      exact hv'.to
def mx0 (x : Rat) : Rat := if x < 0 then 0 else x
theorem mx0_nn (x : Rat) : 0 ≤ mx0 x := by unfold mx0; split <;> grind
theorem mx0_qs {s : Nat} {x : Rat} (h : Qs s x) (hs : 1 ≤ s) : Qs s (mx0 x) := by
  unfold mx0
  split
  · exact Qs.zero.mono hs
  · exact h
theorem cmpI_negR {x : Rat} : cmpI x.num 0 < 0 ↔ x < 0 := by
  rw [sgnQ_cmp]
  rcases sgnQ_tri x with ⟨h, e⟩ | ⟨h, e⟩ | ⟨h, e⟩ <;> rw [e]
  · exact ⟨fun h => absurd h (by decide), fun h' => absurd h' (by grind)⟩
  · exact ⟨fun h => absurd h (by decide), fun h' => absurd h' (by grind)⟩
  · exact ⟨fun _ => h, fun _ => by decide⟩
theorem sign_roots_ok {W : GW} {v : Value} {x y : Rat} {s b : Nat} (h : V RV W v (cq x, cq y)) (hx : Qs s x) (hy : Qs s y) (hy0 : 0 ≤ y) (hb : b ≤ 1099511627776) (hs1 : 1 ≤ s) (hs : s ≤ 1099511627776) :
    Ok Tryz.prog 87 [v, .int .i64 (b : Int)] W fun W' r => V RV W' r (cq (sqLo (mx0 x) b), cq (sqLo y b + Rat.divInt 1 (2 ^ b))) := by
  have hu : Qs (b + 1) (Rat.divInt 1 (2 ^ b)) := Qs.divInt (Zs.one (by omega)) (Zs.two (Nat.le_refl _)) (two_ne b)
  refine Ok.enter Tryz.func87 rfl rfl rfl rfl fun W0 iEn => ?_
  refine J.seq <| J.reg rfl <| O.boxT rfl h.to fun W2 b2 i2 hb2 => ?_
  refine O.allocE fun W4 b4 i4 e4 hl4 hc4 hz4 => ?_
  refine JO.nil <| J.seq <| J.reg rfl <| O.fa rfl <| O.ldT (r := RQ) rfl hb2.to.h.f rfl rfl (fun h => nomatch h) fun v9 h9 => ?_
  refine O.allocE fun W5 b5 i5 e5 hl5 hc5 hz5 => ?_
  have n4_5 : b4 ≠ b5 := Nat.ne_of_lt (Nat.lt_of_lt_of_le (by exact hl4.to.lt) hz5)
  refine O.stM rfl rfl hl5.to h9.to rfl fun Ws1 is1 hk5 F5 => ?_
  refine JO.nil <| J.seq <| J.seq <| J.reg rfl <| O.ldT rfl hk5.h rfl rfl (fun h => nomatch h) fun v10 h10 => ?_
  refine O.call rfl (rational_Sign_ok h10.to) fun W11 v11 i11 e11 h11 => ?_
  subst h11
  refine O.lt rfl rfl <| JO.nil <| J.condD rfl (fun h12 => ?_) (fun h12 => ?_)
  · skip
    have hm : mx0 x = 0 := if_pos (cmpI_negR.1 h12)
    refine J.reg rfl <| O.call rfl (rational_FromInt_ok (z := 0) (by decide)) fun W13 v13 i13 e13 h13 => ?_
    refine O.stM rfl rfl hl5.to h13.to rfl fun Ws2 is2 hk5 F5 => ?_
    refine JO.nil <| J.seq <| J.reg rfl <| O.call rfl (integer_FromInt_ok (z := 1) (by decide)) fun W15 v15 i15 e15 h15 => O.mv rfl <| O.call rfl (sign_power_ok (n := b) (by omega)) fun W17 v17 i17 e17 h17 => O.call rfl (rational_Make_ok (p := b + 1) (a := 1) (b := 2 ^ b) h15.to h17.to (Zs.one (by omega)) (Zs.two (Nat.le_refl _)) (by omega) (two_ne b)) fun W18 v18 i18 e18 h18 => ?_
    obtain ⟨v19, rfl, h19⟩ := h18
    refine O.mv rfl <| O.ext rfl rfl <| O.ext rfl rfl <| ?_
    refine O.allocE fun W6 b6 i6 e6 hl6 hc6 hz6 => ?_
    have n4_6 : b4 ≠ b6 := Nat.ne_of_lt (Nat.lt_of_lt_of_le (by exact hl4.to.lt) hz6)
    have n5_6 : b5 ≠ b6 := Nat.ne_of_lt (Nat.lt_of_lt_of_le (by exact hl5.to.lt) hz6)
    refine O.stT rfl rfl hl6.to h19.to rfl fun Ws3 is3 hb6 F6 => ?_
    have hl4 := F6.loc hl4.to n4_6
    have hl5 := F6.loc hl5.to n5_6
    have hk5 := ((((hk5.ext e15).ext e17).ext e18).ext e6).stf F6 n5_6
    refine O.as rfl <| JO.nil <| J.seq <| ?_
    refine J.draw [.rel _, .ex _, .rel _, .ex _, .rel _, .ex _, .rel _, .rel _] rfl rfl ⟨fun Wd id ed _ => O.ldTD rfl (hk5.ext ed).h rfl rfl (fun h => nomatch h), fun Wd id ed _ => O.mv rfl <| D.ex, fun Wd id ed _ => fun v21 h21 => O.call rfl (sign_floorRoot_ok (x := 0) (s := 1) h21.to Qs.zero (Rat.le_refl) hb (by decide)) fun Wd vd id ed hd => D.rel ed hd V.me, fun Wd id ed _ => O.fa rfl <| D.ex, fun Wd id ed _ => O.ldTD rfl hb2.to.h.s rfl rfl (fun h => nomatch h), fun Wd id ed _ => O.mv rfl <| D.ex, fun Wd id ed _ => fun v25 h25 => fun v23 h23 => O.call rfl (sign_floorRoot_ok h25.to hy hy0 hb hs) fun Wd vd id ed hd => D.rel ed hd V.me, fun Wd id ed _ => O.ldTD rfl hb6.to.h rfl rfl (fun h => nomatch h), trivial⟩ ?_
    intro Wr5 ir5 er5 v21 h21 v23 h23 v25 h25 v27 h27 v28 h28
    refine O.call rfl (rational_Add_ok h27.to h28.to (sqLo_qs hy hy0 b) hu (by omega)) fun W29 v29 i29 e29 h29 => O.bldT rfl rfl h23.to h29.to rfl rfl fun v30 h30 => ?_
    refine O.stT rfl rfl hl4.to h30.to rfl fun Ws4 is4 hb4 F4 => ?_
    have hl5 := F4.loc hl5.to n4_5.symm
    have hk5 := ((hk5.ext er5).ext e29).stf F4 n4_5.symm
    refine JO.nil <| J.retT rfl rfl hb4.to.h rfl rfl fun W' v' iE iP hv' => ?_
    rw [hm]
    exact hv'.to
  · skip
    have hm : mx0 x = x := if_neg (fun e => h12 (cmpI_negR.2 e))
    refine J.skip <| J.seq <| J.reg rfl <| O.call rfl (integer_FromInt_ok (z := 1) (by decide)) fun W15 v15 i15 e15 h15 => O.mv rfl <| O.call rfl (sign_power_ok (n := b) (by omega)) fun W17 v17 i17 e17 h17 => O.call rfl (rational_Make_ok (p := b + 1) (a := 1) (b := 2 ^ b) h15.to h17.to (Zs.one (by omega)) (Zs.two (Nat.le_refl _)) (by omega) (two_ne b)) fun W18 v18 i18 e18 h18 => ?_
    obtain ⟨v19, rfl, h19⟩ := h18
    refine O.mv rfl <| O.ext rfl rfl <| O.ext rfl rfl <| ?_
    refine O.allocE fun W6 b6 i6 e6 hl6 hc6 hz6 => ?_
    have n4_6 : b4 ≠ b6 := Nat.ne_of_lt (Nat.lt_of_lt_of_le (by exact hl4.to.lt) hz6)
    have n5_6 : b5 ≠ b6 := Nat.ne_of_lt (Nat.lt_of_lt_of_le (by exact hl5.to.lt) hz6)
    refine O.stT rfl rfl hl6.to h19.to rfl fun Ws5 is5 hb6 F6 => ?_
    have hl4 := F6.loc hl4.to n4_6
    have hl5 := F6.loc hl5.to n5_6
    have hk5 := (((((hk5.ext e11).ext e15).ext e17).ext e18).ext e6).stf F6 n5_6
    refine O.as rfl <| JO.nil <| J.seq <| ?_
    refine J.draw [.rel _, .ex _, .rel _, .ex _, .rel _, .ex _, .rel _, .rel _] rfl rfl ⟨fun Wd id ed _ => O.ldTD rfl (hk5.ext ed).h rfl rfl (fun h => nomatch h), fun Wd id ed _ => O.mv rfl <| D.ex, fun Wd id ed _ => fun v21 h21 => O.call rfl (sign_floorRoot_ok h21.to hx (by rw [← hm]; exact mx0_nn x) hb hs) fun Wd vd id ed hd => D.rel ed hd V.me, fun Wd id ed _ => O.fa rfl <| D.ex, fun Wd id ed _ => O.ldTD rfl hb2.to.h.s rfl rfl (fun h => nomatch h), fun Wd id ed _ => O.mv rfl <| D.ex, fun Wd id ed _ => fun v25 h25 => fun v23 h23 => O.call rfl (sign_floorRoot_ok h25.to hy hy0 hb hs) fun Wd vd id ed hd => D.rel ed hd V.me, fun Wd id ed _ => O.ldTD rfl hb6.to.h rfl rfl (fun h => nomatch h), trivial⟩ ?_
    intro Wr5 ir5 er5 v21 h21 v23 h23 v25 h25 v27 h27 v28 h28
    refine O.call rfl (rational_Add_ok h27.to h28.to (sqLo_qs hy hy0 b) hu (by omega)) fun W29 v29 i29 e29 h29 => O.bldT rfl rfl h23.to h29.to rfl rfl fun v30 h30 => ?_
    refine O.stT rfl rfl hl4.to h30.to rfl fun Ws6 is6 hb4 F4 => ?_
    have hl5 := F4.loc hl5.to n4_5.symm
    have hk5 := ((hk5.ext er5).ext e29).stf F4 n4_5.symm
    refine JO.nil <| J.retT rfl rfl hb4.to.h rfl rfl fun W' v' iE iP hv' => ?_
    rw [hm]
    exact hv'.to
end Go.Proofs.YtklnoajdhknfnaaGreat

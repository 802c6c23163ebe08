/- The statements' copies of a case. -/
import Derived.Test.YtcobdnnfmhfenaaGreatYa
import Derived.Test.YtcobdnnfmhfenaaGreatRh
import Derived.Test.YtcobdnnfmhfenaaGreatIdt
set_option linter.unusedVariables false
set_option linter.unusedSimpArgs false
set_option maxRecDepth 10000
set_option maxHeartbeats 4000000
namespace Go.Proofs.YtcobdnnfmhfenaaGreat
open Go Go.Rx Go.Num Go.Tow

/-- lists that a walk can copy -/
def midR (i : Raw) : Prop := i.1.2.length ≤ 1048576 ∧ i.2.2.length ≤ 1048576
def midL (l : List Raw) : Prop := l.length ≤ 1048576 ∧ ∀ i ∈ l, midR i
theorem law06_one_ok {W : GW} {p : Option Addr} {n c : Nat} {l : List Raw} (h : Sl RQ W p n c l) (hl : midL l) :
    Ok Tryz.prog 50 [.slice p n c] W fun W' r => V RE W' r l := by
  have hnn := h.hn
  have hn := hl.1
  refine Ok.own ?_
  refine Ok.enter Tryz.func50 rfl rfl rfl rfl fun W0 iEn => ?_
  refine J.seq <| J.reg rfl <| O.as rfl <| JO.nil <| J.seq <| J.reg rfl <| O.as rfl <| JO.nil <| J.seq <| J.seq <| J.reg rfl <| O.mv rfl <| O.len rfl <| O.mv rfl <| JO.nil <| J.block <| ?_
  refine J.loop (α := Nat × Option Addr × Nat) (fun g => [(3, .slice g.2.1 g.1 g.2.2), (6, .slice p n c), (7, .int .i64 (n : Int)), (8, .int .i64 (g.1 : Int))]) (fun g W' => Le W0 W' ∧ Ows RQ W' g.2.1 g.1 g.2.2 (l.take g.1) ∧ g.1 ≤ n) (fun g => n - g.1) (0, none, 0) ⟨rfl, rfl, rfl, rfl, trivial⟩ ⟨inferInstance, Ows.nil _ _ _, Nat.zero_le _⟩ ?_
  rintro ⟨k, p3, c3⟩ W3 ⟨_, ho, hk⟩
  dsimp only at *
  refine J.seq <| J.reg rfl <| O.lt rfl rfl <| JO.nil <| J.seq <| J.condD rfl (fun h9 => ?_) (fun h9 => ?_)
  · skip
    obtain ⟨x, hxk⟩ : ∃ x, l[k]? = some x := ⟨_, List.getElem?_eq_getElem (by omega)⟩
    have hf := hl.2 x (List.mem_of_getElem? hxk)
    refine J.skip <| J.seq <| J.block <| J.seq <| J.reg rfl <| O.iaT (j := k) rfl rfl rfl h.to hxk rfl fun b10 o10 hb10 => O.ldT rfl hb10.to.h rfl rfl (fun h => nomatch h) fun v11 h11 => ?_
    refine O.allocE fun W5 b5 i5 e5 hl5 hc5 hz5 => ?_
    refine O.stT rfl rfl hl5.to h11.to rfl fun Ws1 is1 hb5 F5 => ?_
    have os1_3 := ((ho.ext e5)).stf (ho) hz5 F5
    refine JO.nil <| ?_
    refine J.draw [.ex _, .ex _, .ex _, .ex _, .rel _, .ex _, .ex _, .rel _, .rel _, .rel _, .ex _, .ex _, .ex _, .rel _, .ex _, .ex _, .rel _, .rel _, .rel _, .rel _, .rel _] rfl rfl ⟨fun Wd id ed _ => O.mv rfl <| D.ex, fun Wd id ed _ => O.fa rfl <| D.ex, fun Wd id ed _ => O.fa rfl <| D.ex, fun Wd id ed _ => O.ldTb rfl (hb5.to.h.f.f) <| D.ex, fun Wd id ed _ => O.bs (r := RW) (ps := []) (vs := []) [] rfl trivial rfl rfl rfl (by decide) (.inr rfl) (by decide) fun Wd pd id ed sd => D.rel (R := Nil0) ed ⟨pd, rfl⟩ Nil0.me, fun Wd id ed _ => O.fa rfl <| D.ex, fun Wd id ed _ => O.fa rfl <| D.ex, fun Wd id ed _ => O.ldTD rfl hb5.to.h.f.s rfl rfl (fun _ => rfl), fun Wd id ed _ => fun v16 h16 => fun v19 h19 => O.app0V rfl rfl h16 h19 rfl rfl (Nat.le_trans (Nat.mul_le_mul_right _ hf.1) (by decide)) (Nat.lt_of_le_of_lt hf.1 (by decide)) fun Wd vd id ed hd => D.rel (R := fun W v => V (RSl RW) W v x.1.2) ed hd V.me, fun Wd id ed _ => fun v20 h20 => O.bldTD rfl rfl V.b h20 rfl rfl, fun Wd id ed _ => O.fa rfl <| D.ex, fun Wd id ed _ => O.fa rfl <| D.ex, fun Wd id ed _ => O.ldTb rfl (hb5.to.h.s.f) <| D.ex, fun Wd id ed _ => O.bs (r := RW) (ps := []) (vs := []) [] rfl trivial rfl rfl rfl (by decide) (.inr rfl) (by decide) fun Wd pd id ed sd => D.rel (R := Nil0) ed ⟨pd, rfl⟩ Nil0.me, fun Wd id ed _ => O.fa rfl <| D.ex, fun Wd id ed _ => O.fa rfl <| D.ex, fun Wd id ed _ => O.ldTD rfl hb5.to.h.s.s rfl rfl (fun _ => rfl), fun Wd id ed _ => fun v25 h25 => fun v28 h28 => fun v20 h20 => O.app0V rfl rfl h25 h28 rfl rfl (Nat.le_trans (Nat.mul_le_mul_right _ hf.2) (by decide)) (Nat.lt_of_le_of_lt hf.2 (by decide)) fun Wd vd id ed hd => D.rel (R := fun W v => V (RSl RW) W v x.2.2) ed hd V.me, fun Wd id ed _ => fun v29 h29 => O.bldTD rfl rfl V.b h29 rfl rfl, fun Wd id ed _ => fun v21 h21 => fun v30 h30 => O.bldTD rfl rfl h21 h30 rfl rfl, fun Wd id ed _ => fun v31 h31 => O.bs1D rfl h31 rfl rfl (by decide) (.inl rfl) (by decide), trivial⟩ ?_
    intro Wr5 ir5 er5 v16 h16 v19 h19 v20 h20 v21 h21 v25 h25 v28 h28 v29 h29 v30 h30 v31 h31 v32 h32
    obtain ⟨p19, m19, c19, rfl, s19⟩ := h19.sl
    obtain ⟨p20, m20, c20, rfl, s20⟩ := h20.sl
    obtain ⟨p28, m28, c28, rfl, s28⟩ := h28.sl
    obtain ⟨p29, m29, c29, rfl, s29⟩ := h29.sl
    obtain ⟨p32, m32, c32, rfl, s32⟩ := h32.sl
    obtain rfl : m32 = 1 := s32.hn
    refine O.app rfl rfl (os1_3.ext er5) s32.to rfl rfl (by omega) (by omega) fun W33 p33 c33 i33 o33 => O.as rfl <| JO.nil <| J.bend <| J.reg rfl <| O.add rfl rfl (wI (by omega)) <| O.mv rfl <| JO.nil <| ?_
    exact J.at' (k + 1, p33, c33) ⟨rfl, rfl, rfl, rfl, trivial⟩ ⟨⟨inferInstance, by rw [List.take_add_one, hxk]; exact o33, by show k + 1 ≤ n; omega⟩, by show n - (k + 1) < n - k; omega⟩
  · skip
    refine J.exit rfl <| J.seq <| J.reg rfl <| O.mv rfl <| O.as rfl <| JO.nil <| ?_
    have hkn : k = n := by omega
    subst hkn
    rw [List.take_of_length_le (by omega)] at ho
    refine J.ret1o rfl (.tmp rfl) fun W' iE iO => ?_
    exact ho.ret iE iO

def Own3 (a b c : List Raw) (W : GW) (v : Value) : Prop := ∃ p1 m1 c1 p2 m2 c2 p3 m3 c3, v = .agg #[.slice none 0 0, .slice p1 m1 c1, .slice p2 m2 c2, .slice p3 m3 c3] ∧ Sl RQ W p1 m1 c1 a ∧ Sl RQ W p2 m2 c2 b ∧ Sl RQ W p3 m3 c3 c
theorem Own3.me {a b c : List Raw} : MonoR (Own3 a b c) := fun _ _ _ e ⟨p1, m1, c1, p2, m2, c2, p3, m3, c3, h, h1, h2, h3⟩ => ⟨p1, m1, c1, p2, m2, c2, p3, m3, c3, h, h1.mono e.toLeS.f, h2.mono e.toLeS.f, h3.mono e.toLeS.f⟩
theorem law06_own_ok {W : GW} {v : Value} {t : List (List Raw)} {a b c : List Raw} (hv : V RCs W v (t, a, b, c)) (ht4 : t.length ≤ 1048576) (ht : ∀ l ∈ t, midL l) (ha : midL a) (hb : midL b) (hc : midL c) :
    Ok Tryz.prog 18 [v] W fun W' r => V RCs W' r (t, a, b, c) := by
  refine Ok.enter Tryz.func18 rfl rfl rfl rfl fun W0 iEn => ?_
  refine J.seq <| J.reg rfl <| O.boxT rfl hv.to fun W1 b1 i1 hb1 => ?_
  refine O.allocE fun W2 b2 i2 e2 hl2 hc2 hz2 => ?_
  refine JO.nil <| J.seq <| J.reg rfl <| O.as rfl <| JO.nil <| J.seq <| ?_
  refine J.drawN [.ex _, .ex _, .rel _, .rel _, .ex _, .ex _, .rel _, .rel _, .ex _, .ex _, .rel _, .rel _, .rel _, .rel _] [false, false, false, false, false, false, false, false, false, false, false, false, false, true] [0, 0, 1, 2, 0, 0, 1, 3, 0, 0, 1, 4, 5, 0] rfl rfl ⟨fun Wd id ed _ => O.mv rfl <| D.ex, fun Wd id ed _ => O.fa rfl <| D.ex, fun Wd id ed _ => O.ldTD rfl hb1.to.h.s.f rfl rfl (fun _ => rfl), fun Wd id ed _ => fun v9 h9 => (by obtain ⟨p9, m9, c9, rfl, s9⟩ := h9.sl; exact O.callv (fs := #[]) (cap := #[]) rfl rfl (law06_one_ok s9 ha) fun Wd vd id ed hd => D.rel ed hd V.me), fun Wd id ed _ => O.mv rfl <| D.ex, fun Wd id ed _ => O.fa rfl <| D.ex, fun Wd id ed _ => O.ldTD rfl hb1.to.h.s.s.f rfl rfl (fun _ => rfl), fun Wd id ed _ => fun v13 h13 => fun v10 h10 => (by obtain ⟨p13, m13, c13, rfl, s13⟩ := h13.sl; obtain ⟨p10, m10, c10, rfl, s10⟩ := h10.sl; exact O.callv (fs := #[]) (cap := #[]) rfl rfl (law06_one_ok s13 hb) fun Wd vd id ed hd => D.rel ed hd V.me), fun Wd id ed _ => O.mv rfl <| D.ex, fun Wd id ed _ => O.fa rfl <| D.ex, fun Wd id ed _ => O.ldTD rfl hb1.to.h.s.s.s rfl rfl (fun _ => rfl), fun Wd id ed _ => fun v17 h17 => fun v14 h14 => (by obtain ⟨p17, m17, c17, rfl, s17⟩ := h17.sl; obtain ⟨p14, m14, c14, rfl, s14⟩ := h14.sl; exact O.callv (fs := #[]) (cap := #[]) rfl rfl (law06_one_ok s17 hc) fun Wd vd id ed hd => D.rel ed hd V.me), fun Wd id ed _ => fun v10 h10 => fun v14 h14 => fun v18 h18 => (by obtain ⟨p10, m10, c10, rfl, s10⟩ := h10.sl; obtain ⟨p14, m14, c14, rfl, s14⟩ := h14.sl; obtain ⟨p18, m18, c18, rfl, s18⟩ := h18.sl; exact O.bldN rfl ⟨⟨[.slice none 0 0], rfl, rfl⟩, ⟨[.slice none 0 0], rfl, rfl⟩, ⟨[.slice none 0 0], rfl, rfl⟩, trivial⟩ <| D.rel (R := Own3 a b c) (Ext.refl _) ⟨_, _, _, _, _, _, _, _, _, rfl, s10, s14, s18⟩ Own3.me), fun Wd id ed _ => O.allocN (by rfl) ed.size, trivial⟩ ?_
  intro Wr2 ir2 er2 v9 h9 v10 h10 v13 h13 v14 h14 v17 h17 v18 h18 v19 h19 v4 h4 ne4
  obtain ⟨p9, m9, c9, rfl, s9⟩ := h9.sl
  obtain ⟨p10, m10, c10, rfl, s10⟩ := h10.sl
  obtain ⟨p13, m13, c13, rfl, s13⟩ := h13.sl
  obtain ⟨p14, m14, c14, rfl, s14⟩ := h14.sl
  obtain ⟨p17, m17, c17, rfl, s17⟩ := h17.sl
  obtain ⟨p18, m18, c18, rfl, s18⟩ := h18.sl
  obtain ⟨b4, rfl, hl4, hz4⟩ := h4
  have n2_4 : b2 ≠ b4 := Nat.ne_of_lt (Nat.lt_of_lt_of_le (by exact hl2.to.lt) hz4)
  obtain ⟨q1, m1, k1, q2, m2, k2, q3, m3, k3, rfl, u1, u2, u3⟩ := h19
  refine O.stX rfl rfl hl4.to rfl (fun u hu => by simp [Value.cells] at hu; rcases hu with rfl | rfl | rfl | rfl <;> rfl) fun Ws1 is1 hk4 F4 hz4' => ?_
  refine JO.nil <| J.seq <| J.seq <| J.reg rfl <| O.fa rfl <| ?_
  refine O.ldTs rfl hb1.to.h.f fun p21 m21 c21 s21 => ?_
  have h21 := s21.v
  refine O.len rfl <| O.mv rfl <| JO.nil <| J.block <| ?_
  refine J.loop (α := Nat × Option Addr × Nat) (fun g => [(2, .pointer (some ⟨b2, 0, none⟩)), (3, .func (.func 50) #[] #[]), (4, .pointer (some ⟨b4, 0, none⟩)), (21, .slice p21 m21 c21), (22, .int .i64 (m21 : Int)), (23, .int .i64 (g.1 : Int))]) (fun g W' => Le W0 W' ∧ Rx.Loc W' b2 4 ∧ Rx.Loc W' b4 4 ∧ Cnt W' b4 [.slice g.2.1 g.1 g.2.2, .slice q1 m1 k1, .slice q2 m2 k2, .slice q3 m3 k3] ∧ Ows RE W' g.2.1 g.1 g.2.2 (t.take g.1) ∧ Sl RQ W' q1 m1 k1 a ∧ Sl RQ W' q2 m2 k2 b ∧ Sl RQ W' q3 m3 k3 c ∧ Sl RE W' p21 m21 c21 t ∧ (∀ a, g.2.1 = some a → 0 < g.2.2 → b4 ≠ a.block) ∧ (∀ a, g.2.1 = some a → 0 < g.2.2 → b2 ≠ a.block) ∧ g.1 ≤ m21) (fun g => m21 - g.1) (0, none, 0) ⟨rfl, rfl, rfl, rfl, rfl, rfl, trivial⟩ ⟨inferInstance, hl2.to, hl4.to, hk4, Ows.nil _ _ _, u1.to, u2.to, u3.to, s21.to, fun _ h => (nomatch h), fun _ h => (nomatch h), Nat.zero_le _⟩ ?_
  rintro ⟨k, p, c0⟩ W3 ⟨_, hl2, hl4, hk4, ho, u1, u2, u3, s21, hn4, hn2, hk⟩
  dsimp only at *
  have hmt := s21.hn
  refine J.seq <| J.reg rfl <| O.lt rfl rfl <| JO.nil <| J.seq <| J.condD rfl (fun h24 => ?_) (fun h24 => ?_)
  · skip
    obtain ⟨x, hxk⟩ : ∃ x, t[k]? = some x := ⟨_, List.getElem?_eq_getElem (by omega)⟩
    have hxm := ht x (List.mem_of_getElem? hxk)
    refine J.skip <| J.seq <| J.block <| J.seq <| J.reg rfl <| O.iaT (j := k) rfl rfl rfl s21.to hxk rfl fun b25 o25 hb25 => ?_
    refine O.ldTs rfl hb25.to.h fun p26 m26 c26 s26 => ?_
    have h26 := s26.v
    refine O.as rfl <| JO.nil <| ?_
    refine J.draw [.ex _, .ex _, .ex _, .ex _, .rel _, .rel _] rfl rfl ⟨fun Wd id ed _ => O.fa rfl <| D.ex, fun Wd id ed _ => O.ldV rfl (hk4.ext ed) rfl <| D.ex, fun Wd id ed _ => O.mv rfl <| D.ex, fun Wd id ed _ => O.mv rfl <| D.ex, fun Wd id ed _ => O.callv (fs := #[]) (cap := #[]) rfl rfl (law06_one_ok s26.to hxm) fun Wd vd id ed hd => D.rel ed hd V.me, fun Wd id ed _ => fun v31 h31 => O.bs1D rfl h31 rfl rfl (by decide) (.inr rfl) (by decide), trivial⟩ ?_
    intro Wr6 ir6 er6 v31 h31 v32 h32
    obtain ⟨p31, m31, c31, rfl, s31⟩ := h31.sl
    obtain ⟨p32, m32, c32, rfl, s32⟩ := h32.sl
    obtain rfl : m32 = 1 := s32.hn
    refine O.appF rfl rfl (ho.ext er6) s32.to rfl rfl (by omega) (by omega) fun W33 p33 c33 i33 o33 F33 => ?_
    have hk4 := F33.cnt (hk4.ext er6) hn4
    have hn4 := F33.ne (b := b4) (Rx.Loc.lt hl4.to) hn4
    have hn2 := F33.ne (b := b2) (Rx.Loc.lt hl2.to) hn2
    refine O.fa rfl <| ?_
    refine O.stFd rfl rfl hl4.to hk4 rfl (by show 0 + 0 + 1 ≤ 4; decide) (fun u hu => by simp [Value.cells] at hu; subst hu; rfl) fun W34 i34 hk4 F34 hz34 => ?_
    refine JO.nil <| J.bend <| J.reg rfl <| O.add rfl rfl (wI (by omega)) <| O.mv rfl <| JO.nil <| ?_
    exact J.at' (k + 1, p33, c33) ⟨rfl, rfl, rfl, rfl, rfl, rfl, trivial⟩ ⟨⟨inferInstance, hl2.to, hl4.to, hk4, by rw [List.take_add_one, hxk]; exact o33.onlyP i34.s F34 hn4, u1.to, u2.to, u3.to, s21.to, hn4, hn2, by show k + 1 ≤ m21; omega⟩, by show m21 - (k + 1) < m21 - k; omega⟩
  · skip
    refine J.exit rfl <| J.seq <| ?_
    have hkn : k = m21 := by omega
    subst hkn
    rw [List.take_of_length_le (by omega)] at ho
    refine J.pubS ho fun Wq iq s27 hw hloc => ?_
    have hk4 : Cnt Wq b4 [.slice p k c0, .slice q1 m1 k1, .slice q2 m2 k2, .slice q3 m3 k3] := by
      obtain ⟨T, hT⟩ := hk4
      exact ⟨T, by rw [hw]; exact hT⟩
    refine J.reg rfl <| O.ldVw rfl hk4 rfl <| ?_
    refine O.stT rfl rfl (hloc hl2 hn2) (CaseR.v ⟨_, _, _, _, _, _, _, _, _, _, _, _, rfl, s27, u1.to, u2.to, u3.to⟩) rfl fun Ws9 is9 hb2 F2 => ?_
    refine JO.nil <| J.retT rfl rfl hb2.to.h rfl rfl fun W' v' iE iP hv' => ?_
    exact hv'.to
end Go.Proofs.YtcobdnnfmhfenaaGreat

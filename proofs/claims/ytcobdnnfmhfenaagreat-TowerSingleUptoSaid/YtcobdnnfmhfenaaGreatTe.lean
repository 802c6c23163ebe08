/- The program's towers: products, norms, inverses. -/
import Derived.Test.YtcobdnnfmhfenaaGreatTd
import Derived.Test.YtcobdnnfmhfenaaGreatRl
set_option linter.unusedVariables false
set_option linter.unusedSimpArgs false
set_option maxRecDepth 10000
set_option maxHeartbeats 4000000
namespace Go.Proofs.YtcobdnnfmhfenaaGreat
open Go Go.Rx Go.Num Go.Tow

theorem pow_le {k : Nat} (h : k ≤ 16) : 2 ^ k ≤ 65536 := Nat.pow_le_pow_right (by decide) h
theorem ct_succ {k : Nat} (t : Tw (k + 1)) : ct (toT (k + 1) t) = ct (toT k t.1) ++ [cl (toL k t.2)] := by
  show ct (toT k t.1 ++ [toL k t.2]) = _
  rw [ct, List.map_append]; rfl
theorem cl_halves {k : Nat} (a : El (k + 1)) : (cl (toL (k + 1) a)).take (2 ^ k) = cl (toL k a.1) ∧ (cl (toL (k + 1) a)).drop (2 ^ k) = cl (toL k a.2) := by
  show (cl (toL k a.1 ++ toL k a.2)).take _ = _ ∧ (cl (toL k a.1 ++ toL k a.2)).drop _ = _
  rw [cl_append]
  have h : 2 ^ k = (cl (toL k a.1)).length := by rw [cl_length, toL_length]
  exact ⟨by rw [h, List.take_left' rfl], by rw [h, List.drop_left' rfl]⟩
theorem zero_mul' {k : Nat} {t : Tw k} {a b : El k} (h : (∀ x ∈ toL k a, x = 0) ∨ (∀ x ∈ toL k b, x = 0)) : toL k (mul k t a b) = List.replicate (2 ^ k) 0 := by
  have L := ring k t
  rcases h with h | h
  · rw [(eq_zero_iff k a).2 h, L.zm, toL_zero]
  · rw [(eq_zero_iff k b).2 h, L.mz, toL_zero]
theorem Sz.qs' {p : Nat} {l : List Rat} (h : Sz p l) : ∀ x ∈ l, Qs p x := fun _ hx => h.qs hx

theorem tower_mul0 {W : GW} {p q q2 : Option Addr} {n c m d m2 d2 s s' : Nat} {t : List (List Raw)} {a b : Rat} (h : Sl RE W p n c t) (h' : Sl RQ W q m d (cl [a])) (h2 : Sl RQ W q2 m2 d2 (cl [b])) (ht : t = []) (hqa : Qs s a) (hqb : Qs s' b) (hs : s + s' + 1 ≤ 17592186044416) :
    Ok Tryz.prog 65 [.slice p n c, .slice q m d, .slice q2 m2 d2] W fun W' v => OwnR RQ W W' v (cl [a * b]) := by
  subst ht
  have hn : n = 0 := h.hn
  obtain ⟨b3, o3, rfl, hj3, hp3⟩ := h'.place (j := 0) (u := cq a) rfl
  obtain ⟨b4, o4, rfl, hj4, hp4⟩ := h2.place (j := 0) (u := cq b) rfl
  refine Ok.enter Tryz.func65 rfl rfl rfl rfl fun W0 iEn => ?_
  refine J.seq <| J.reg rfl <| O.as rfl <| JO.nil <| J.seq <| J.block <| J.seq <| J.reg rfl <| O.mv rfl <| O.len rfl <| O.eq rfl rfl <| O.as rfl <| JO.nil <| J.condD rfl (fun h14 => ?_) (fun h14 => ?_)
  · skip
    refine J.seq <| ?_
    refine J.sub [(1, _), (2, _)] ⟨rfl, rfl, trivial⟩ ?_
    refine J.draw [.ex _, .ex _, .rel _, .ex _, .ex _, .rel _, .rel _, .rel _] rfl rfl ⟨fun W1 i1 e1 _ => O.mv rfl <| D.ex, fun W1 i1 e1 _ => O.ia (j := 0) rfl rfl rfl hj3 <| D.ex, fun W1 i1 e1 _ => O.ldP (r := RQ) rfl (hp3 _ Lf.s) rfl rfl (fun h => nomatch h) fun v hv => D.rel (R := fun W v => V RQ W v (cq a)) (Ext.refl _) hv V.me, fun W1 i1 e1 _ => O.mv rfl <| D.ex, fun W1 i1 e1 _ => O.ia (j := 0) rfl rfl rfl hj4 <| D.ex, fun W1 i1 e1 _ => O.ldP (r := RQ) rfl (hp4 _ Lf.s) rfl rfl (fun h => nomatch h) fun v hv => D.rel (R := fun W v => V RQ W v (cq b)) (Ext.refl _) hv V.me, fun W1 i1 e1 _ => fun v20 h20 => fun v23 h23 => O.call rfl (rational_Mul_ok h20 h23 hqa hqb (by omega)) fun W5 v5 i5 e5 h5 => D.rel e5 h5 V.me, fun W1 i1 e1 _ => fun v24 h24 => O.bso (r := RQ) [cq (a * b)] rfl ⟨h24, trivial⟩ rfl rfl rfl (by decide) (.inl rfl) (by decide) fun W6 b6 i6 e6 hb6 o6 => D.rel (R := fun W v => OwnR RQ W0 W v [cq (a * b)]) e6 (by exact ⟨_, _, _, rfl, o6, fun a ha _ => by injection ha with ha; subst ha; exact Nat.le_trans (inferInstance : Le W0 W1).s.size hb6⟩) OwnR.me, trivial⟩ ?_
    intro W1 i1 e1 v20 h20 v23 h23 v24 h24 v25 h25
    obtain ⟨p5, n5, c5, rfl, o5, f5⟩ := h25
    refine O.as rfl <| JO.nil <| J.ret1o rfl (.tmp rfl) fun W' iE iO => ?_
    exact o5.ret iE iO
  · skip
    omega -- done

theorem tower_mul_own {k : Nat} : ∀ {W : GW} {p q q2 : Option Addr} {n c m d m2 d2 r s s' : Nat} {t : Tw k} {a b : El k}, Sl RE W p n c (ct (toT k t)) → Sl RQ W q m d (cl (toL k a)) → Sl RQ W q2 m2 d2 (cl (toL k b)) →
    TS r k t → Sz s (toL k a) → Sz s' (toL k b) → k ≤ 16 → s + s' + cB r k ≤ 8796093022208 →
    Ok Tryz.prog 65 [.slice p n c, .slice q m d, .slice q2 m2 d2] W fun W' v => OwnR RQ W W' v (cl (toL k (mul k t a b))) := by
  induction k with
  | zero =>
    intro W p q q2 n c m d m2 d2 r s s' t a b h h' h2 hT ha hb hk hs
    exact tower_mul0 (a := a) (b := b) h h' h2 rfl (ha.qs (List.mem_singleton.2 rfl)) (hb.qs (List.mem_singleton.2 rfl)) (by omega)
  | succ k ih =>
    intro W p q q2 n c m d m2 d2 r s s' t a b h h' h2 hT ha hb hk hs
    have hn : n = k + 1 := by rw [h.hn, ct, List.length_map, toT_length]
    have hm : m = 2 ^ (k + 1) := by rw [h'.hn, cl_length, toL_length]
    have hm2 : m2 = 2 ^ (k + 1) := by rw [h2.hn, cl_length, toL_length]
    have hp := pow_le hk
    have hp1 : 2 ^ (k + 1) = 2 * 2 ^ k := by rw [Nat.pow_succ]; omega
    have hcB : cB r (k + 1) = 2 * cB r k + r + 1 := rfl
    have hax : Sz s (toL k a.1) := Sz.left ha
    have hay : Sz s (toL k a.2) := Sz.right ha
    have hbx : Sz s' (toL k b.1) := Sz.left hb
    have hby : Sz s' (toL k b.2) := Sz.right hb
    have hlen := toL_length k
    refine Ok.enter Tryz.func65 rfl rfl rfl rfl fun W0 iEn => ?_
    refine J.seq <| J.reg rfl <| O.as rfl <| JO.nil <| J.seq <| J.block <| J.seq <| J.reg rfl <| O.mv rfl <| O.len rfl <| O.eq rfl rfl <| O.as rfl <| JO.nil <| J.condD rfl (fun h14 => ?_) (fun h14 => ?_)
    · skip
      omega -- done
    · skip
      refine J.seq <| J.reg rfl <| O.mv rfl <| O.call rfl (tower_Zero_ok h'.to) fun W4 v4 i4 e4 h4 => ?_
      subst h4
      refine O.mv rfl <| ?_
      by_cases hg29 : ∀ x ∈ toL (k + 1) a, x = 0
      · skip
        refine O.set (t := 29) (.bool true) rfl (by rw [decide_eq_true hg29]) <| O.gs rfl rfl rfl <| O.gs rfl rfl rfl <| O.pickT rfl rfl <| O.as rfl <| JO.nil <| J.condT rfl <| J.seq <| J.reg rfl <| O.mv rfl <| O.len rfl <| O.call rfl (tower_zeros_own (n := m) (by omega)) fun W6 v6 i6 e6 h6 => ?_
        obtain ⟨p6, n6, c6, rfl, o6, f6⟩ := h6
        refine O.as rfl <| JO.nil <| J.ret1o rfl (.tmp rfl) fun W' iE iO => ?_
        have := Ows.ret (W0 := W) o6 iE iO
        rw [hm, ← zero_mul' (t := t) (b := b) (.inl hg29)] at this
        exact this
      · skip
        refine O.set (t := 29) (.bool false) rfl (by rw [decide_eq_false hg29]) <| O.gt rfl rfl <| O.mv rfl <| O.gt rfl rfl <| O.call rfl (tower_Zero_ok h2.to) fun W5 v5 i5 e5 h5 => ?_
        subst h5
        refine O.pickF rfl rfl <| O.as rfl <| JO.nil <| J.condD rfl (fun h26 => ?_) (fun h26 => ?_)
        · skip
          refine J.seq <| J.reg rfl <| O.mv rfl <| O.len rfl <| O.call rfl (tower_zeros_own (n := m) (by omega)) fun W6 v6 i6 e6 h6 => ?_
          obtain ⟨p6, n6, c6, rfl, o6, f6⟩ := h6
          refine O.as rfl <| JO.nil <| J.ret1o rfl (.tmp rfl) fun W' iE iO => ?_
          have := Ows.ret (W0 := W) o6 iE iO
          rw [hm, ← zero_mul' (t := t) (a := a) (.inr h26)] at this
          exact this
        · skip
          refine J.skip <| J.bend <| J.seq <| J.reg rfl <| O.mv rfl <| O.call rfl (tower_split_ok (by rw [← ct_succ]; exact h.to)) fun W6 v6 i6 e6 h6 => ?_
          obtain ⟨v7, v8, rfl, h7, h8⟩ := h6
          obtain ⟨p7, n7, c7, rfl, s7⟩ := h7.sl
          obtain ⟨p8, n8, c8, rfl, s8⟩ := h8.sl
          refine O.mv rfl <| O.ext rfl rfl <| O.ext rfl rfl <| O.as rfl <| O.as rfl <| JO.nil <| J.seq <| J.reg rfl <| O.mv rfl <| O.call rfl (tower_halves_ok h'.to (hm.trans hp1)) fun W9 v9 i9 e9 h9 => ?_
          obtain ⟨v10, v11, rfl, h10, h11⟩ := h9
          rw [(cl_halves _).1] at h10
          rw [(cl_halves _).2] at h11
          obtain ⟨p10, n10, c10, rfl, s10⟩ := h10.sl
          obtain ⟨p11, n11, c11, rfl, s11⟩ := h11.sl
          refine O.mv rfl <| O.ext rfl rfl <| O.ext rfl rfl <| O.as rfl <| O.as rfl <| JO.nil <| J.seq <| J.reg rfl <| O.mv rfl <| O.call rfl (tower_halves_ok h2.to (hm2.trans hp1)) fun W12 v12 i12 e12 h12 => ?_
          obtain ⟨v13, v14, rfl, h13, h14⟩ := h12
          rw [(cl_halves _).1] at h13
          rw [(cl_halves _).2] at h14
          obtain ⟨p13, n13, c13, rfl, s13⟩ := h13.sl
          obtain ⟨p14, n14, c14, rfl, s14⟩ := h14.sl
          refine O.mv rfl <| O.ext rfl rfl <| O.ext rfl rfl <| O.as rfl <| O.as rfl <| JO.nil <| J.seq <| J.reg rfl <| O.mv rfl <| O.mv rfl <| O.mv rfl <| O.call rfl (ih s7.to s10.to s13.to hT.1 hax hbx (by omega) (by omega)).own fun W15 v15 i15 e15 h15 => ?_
          obtain ⟨p15, n15, c15, rfl, s15⟩ := h15.sl
          refine O.mv rfl <| O.mv rfl <| O.mv rfl <| O.mv rfl <| O.call rfl (ih s7.to s11.to s14.to hT.1 hay hby (by omega) (by omega)).own fun W16 v16 i16 e16 h16 => ?_
          obtain ⟨p16, n16, c16, rfl, s16⟩ := h16.sl
          refine O.mv rfl <| O.call rfl (ih s7.to s16.to s8.to hT.1 (hay.mul hT.1 hby) hT.2 (by omega) (by omega)).own fun W17 v17 i17 e17 h17 => ?_
          obtain ⟨p17, n17, c17, rfl, s17⟩ := h17.sl
          have hn15 : n15 = 2 ^ k := by rw [s15.hn, cl_length, hlen]
          refine O.call rfl (tower_add_own s15.to s17.to (by rw [hlen, hlen]) (by omega) (hax.mul hT.1 hbx).qs' ((hay.mul hT.1 hby).mul hT.1 hT.2).qs' (by omega)) fun W18 v18 i18 e18 h18 => ?_
          obtain ⟨p18, n18, c18, rfl, o18, f18⟩ := h18
          have hn18 : n18 = 2 ^ k := by rw [o18.hn, cl_length, ← toL_add, hlen]
          refine O.as rfl <| JO.nil <| J.seq <| J.reg rfl <| O.mv rfl <| O.mv rfl <| O.mv rfl <| O.mv rfl <| O.call rfl (ih s7.to s10.to s14.to hT.1 hax hby (by omega) (by omega)).own fun W19 v19 i19 e19 h19 => ?_
          obtain ⟨p19, n19, c19, rfl, s19⟩ := h19.sl
          refine O.mv rfl <| O.mv rfl <| O.mv rfl <| O.call rfl (ih s7.to s11.to s13.to hT.1 hay hbx (by omega) (by omega)).own fun W20 v20 i20 e20 h20 => ?_
          obtain ⟨p20, n20, c20, rfl, s20⟩ := h20.sl
          have hn19 : n19 = 2 ^ k := by rw [s19.hn, cl_length, hlen]
          refine O.call rfl (tower_add_own s19.to s20.to (by rw [hlen, hlen]) (by omega) (hax.mul hT.1 hby).qs' (hay.mul hT.1 hbx).qs' (by omega)).own fun W21 v21 i21 e21 h21 => ?_
          obtain ⟨p21, n21, c21, rfl, s21⟩ := h21.sl
          have hn21 : n21 = 2 ^ k := by rw [s21.hn, cl_length, ← toL_add, hlen]
          have o21 := ((o18.ext e19).ext e20).ext e21
          refine O.app (r := RQ) rfl rfl o21 s21 rfl rfl (by omega) (by omega) fun W22 p22 c22 i22 o22 => ?_
          rw [← cl_append, ← toL_add, ← toL_add] at o22
          refine O.as rfl <| JO.nil <| J.ret1o rfl (.tmp rfl) fun W' iE iO => ?_
          exact o22.ret iE iO

/-- norm -/
theorem tower_norm_own {k : Nat} {W : GW} {p q : Option Addr} {n c m d r s : Nat} {t : Tw (k + 1)} {a : El (k + 1)} (h : Sl RE W p n c (ct (toT (k + 1) t))) (h' : Sl RQ W q m d (cl (toL (k + 1) a)))
    (hT : TS r (k + 1) t) (ha : Sz s (toL (k + 1) a)) (hk : k + 1 ≤ 16) (hs : nB r k s ≤ 8796093022208) :
    Ok Tryz.prog 49 [.slice p n c, .slice q m d] W fun W' v => OwnR RQ W W' v (cl (toL k (Tow.norm k t a))) := by
  have hm : m = 2 ^ (k + 1) := by rw [h'.hn, cl_length, toL_length]
  have hp := pow_le hk
  have hp1 : 2 ^ (k + 1) = 2 * 2 ^ k := by rw [Nat.pow_succ]; omega
  have hx : Sz s (toL k a.1) := Sz.left ha
  have hy : Sz s (toL k a.2) := Sz.right ha
  have hlen := toL_length k
  have hnb : nB r k s = 4 * s + 3 * cB r k + r + 1 := rfl
  refine Ok.enter Tryz.func49 rfl rfl rfl rfl fun W0 iEn => ?_
  refine J.seq <| J.reg rfl <| O.as rfl <| JO.nil <| J.seq <| J.reg rfl <| O.mv rfl <| O.call rfl (tower_split_ok (by rw [← ct_succ]; exact h.to)) fun W6 v6 i6 e6 h6 => ?_
  obtain ⟨v7, v8, rfl, h7, h8⟩ := h6
  obtain ⟨p7, n7, c7, rfl, s7⟩ := h7.sl
  obtain ⟨p8, n8, c8, rfl, s8⟩ := h8.sl
  refine O.mv rfl <| O.ext rfl rfl <| O.ext rfl rfl <| O.as rfl <| O.as rfl <| JO.nil <| J.seq <| J.reg rfl <| O.mv rfl <| O.call rfl (tower_halves_ok h'.to (hm.trans hp1)) fun W9 v9 i9 e9 h9 => ?_
  obtain ⟨v10, v11, rfl, h10, h11⟩ := h9
  rw [(cl_halves _).1] at h10
  rw [(cl_halves _).2] at h11
  obtain ⟨p10, n10, c10, rfl, s10⟩ := h10.sl
  obtain ⟨p11, n11, c11, rfl, s11⟩ := h11.sl
  refine O.mv rfl <| O.ext rfl rfl <| O.ext rfl rfl <| O.as rfl <| O.as rfl <| JO.nil <| J.seq <| J.reg rfl <| O.mv rfl <| O.mv rfl <| O.mv rfl <| O.call rfl (tower_mul_own s7.to s10.to s10.to hT.1 hx hx (by omega) (by omega)).own fun W15 v15 i15 e15 h15 => ?_
  obtain ⟨p15, n15, c15, rfl, s15⟩ := h15.sl
  refine O.mv rfl <| O.mv rfl <| O.mv rfl <| O.mv rfl <| O.call rfl (tower_mul_own s7.to s11.to s11.to hT.1 hy hy (by omega) (by omega)).own fun W16 v16 i16 e16 h16 => ?_
  obtain ⟨p16, n16, c16, rfl, s16⟩ := h16.sl
  refine O.mv rfl <| O.call rfl (tower_mul_own s7.to s16.to s8.to hT.1 (hy.mul hT.1 hy) hT.2 (by omega) (by omega)).own fun W17 v17 i17 e17 h17 => ?_
  obtain ⟨p17, n17, c17, rfl, s17⟩ := h17.sl
  have hn17 : n17 = 2 ^ k := by rw [s17.hn, cl_length, hlen]
  refine O.call rfl (tower_neg_own s17.to (by omega) ((hy.mul hT.1 hy).mul hT.1 hT.2).qs' (by omega)).own fun W18 v18 i18 e18 h18 => ?_
  obtain ⟨p18, n18, c18, rfl, s18⟩ := h18.sl
  have hn15 : n15 = 2 ^ k := by rw [s15.hn, cl_length, hlen]
  refine O.call rfl (tower_add_own s15.to s18.to (by rw [List.length_map, hlen, hlen]) (by omega) (hx.mul hT.1 hx).qs' ((hy.mul hT.1 hy).mul hT.1 hT.2).neg.qs' (by omega)) fun W19 v19 i19 e19 h19 => ?_
  obtain ⟨p19, n19, c19, rfl, o19, f19⟩ := h19
  rw [← toL_neg, ← toL_add] at o19
  refine O.as rfl <| JO.nil <| J.ret1o rfl (.tmp rfl) fun W' iE iO => ?_
  exact o19.ret iE iO
theorem iB_norm {r k p q : Nat} (h : iB r (k + 1) p ≤ q) : nB r k p ≤ q ∧ p + iB r k (nB r k p) + cB r k ≤ q := by
  have h1 := iB_ge r k (nB r k p)
  have h2 : iB r (k + 1) p = 2 * (p + iB r k (nB r k p) + cB r k) := rfl
  omega
def DivR (x y : Rat) (W' : GW) (r : Value) : Prop := ∃ v1 e, r = .tuple #[v1, .int .i64 e] ∧ ((y = 0 ∧ e = 6 ∧ V RQ W' v1 ((false, []), (false, []))) ∨ (y ≠ 0 ∧ e = 0 ∧ V RQ W' v1 (cq (x / y))))
theorem DivR.me {x y : Rat} : MonoR (DivR x y) := fun _ _ _ e ⟨v1, c, h1, h2⟩ => ⟨v1, c, h1, h2.imp (fun h => ⟨h.1, h.2.1, h.2.2.mono e.toLeS.f⟩) (fun h => ⟨h.1, h.2.1, h.2.2.mono e.toLeS.f⟩)⟩
theorem DivR.fst {W : GW} {x y : Rat} {v : Value} {e : Int} (h : (y = 0 ∧ e = 6 ∧ V RQ W v ((false, []), (false, []))) ∨ (y ≠ 0 ∧ e = 0 ∧ V RQ W v (cq (x / y)))) : ∃ i, V RQ W v i ∧ (y ≠ 0 → i = cq (x / y)) := by
  rcases h with h | h
  · exact ⟨_, h.2.2, fun h0 => absurd h.1 h0⟩
  · exact ⟨_, h.2.2, fun _ => rfl⟩
theorem DivR.snd {W : GW} {x y : Rat} {v : Value} {e : Int} (h : (y = 0 ∧ e = 6 ∧ V RQ W v ((false, []), (false, []))) ∨ (y ≠ 0 ∧ e = 0 ∧ V RQ W v (cq (x / y)))) : Value.int .i64 e = .int .i64 (if y = 0 then 6 else 0) := by
  rcases h with h | h
  · rw [h.2.1, if_pos h.1]
  · rw [h.2.1, if_neg h.1]
/-- inverse, at the bottom -/
theorem tower_inverse0 {W : GW} {p q : Option Addr} {n c m d s : Nat} {t : List (List Raw)} {a : Rat} (h : Sl RE W p n c t) (h' : Sl RQ W q m d (cl [a])) (ht : t = []) (hqa : Qs s a) (hs : s ≤ 8796093022208) :
    Ok Tryz.prog 54 [.slice p n c, .slice q m d] W fun W' v => ∃ v1 b, v = .tuple #[v1, .bool b] ∧ (∃ l, V RE W' v1 l) ∧ b = decide (a ≠ 0) ∧ (a ≠ 0 → V RE W' v1 (cl [1 / a])) := by
  subst ht
  have hn : n = 0 := h.hn
  obtain ⟨b3, o3, rfl, hj3, hp3⟩ := h'.place (j := 0) (u := cq a) rfl
  have hone : Qs 1 ((1 : Int) : Rat) := Qs.int (Zs.one (Nat.le_refl _)) (Nat.le_refl _)
  refine Ok.enter Tryz.func54 rfl rfl rfl rfl fun W0 iEn => ?_
  refine J.seq <| J.reg rfl <| O.as rfl <| O.as rfl <| JO.nil <| J.seq <| J.seq <| J.reg rfl <| O.mv rfl <| O.len rfl <| O.eq rfl rfl <| JO.nil <| J.condD rfl (fun h16 => ?_) (fun h16 => ?_)
  · skip
    refine J.seq <| ?_
    refine J.sub [(1, _)] ⟨rfl, trivial⟩ ?_
    refine J.drawL [.rel _, .ex _, .ex _, .rel _, .rel _, .rel _, .rel _, .rel _, .rel _] 7 rfl rfl ⟨fun W1 i1 e1 _ => O.call rfl (rational_FromInt_ok (z := 1) (by decide)) fun W5 v5 i5 e5 h5 => D.rel e5 h5 V.me, fun W1 i1 e1 _ => O.mv rfl <| D.ex, fun W1 i1 e1 _ => O.ia (j := 0) rfl rfl rfl hj3 <| D.ex, fun W1 i1 e1 _ => O.ldP (r := RQ) rfl (hp3 _ Lf.s) rfl rfl (fun h => nomatch h) fun v hv => D.rel (R := fun W v => V RQ W v (cq a)) (Ext.refl _) hv V.me, fun W1 i1 e1 _ => fun _ _ => fun v21 h21 => fun v18 h18 => O.call rfl (rational_Div_ok h18 h21 hone hqa (by omega)) fun W5 v5 i5 e5 h5 => D.rel (R := DivR 1 a) e5 h5 DivR.me, fun W1 i1 e1 _ => fun v22 h22 => O.mv rfl <| D.rel (R := DivR 1 a) (Ext.refl _) h22 DivR.me, fun W1 i1 e1 _ => fun v17 h17 => (by obtain ⟨v6, ee, rfl, h6⟩ := h17; exact O.ext rfl rfl <| D.rel (R := fun W v => ∃ i, V RQ W v i ∧ (a ≠ 0 → i = cq (1 / a))) (Ext.refl _) (DivR.fst h6) (fun W W' v e ⟨i, h1, h2⟩ => ⟨i, h1.mono e.toLeS.f, h2⟩)), fun W1 i1 e1 _ => fun v17 h17 => (by obtain ⟨v6, ee, rfl, h6⟩ := h17; exact O.ext rfl rfl <| D.rel (R := fun W v => v = .int .i64 (if a = 0 then 6 else 0)) (Ext.refl _) (DivR.snd h6) (fun _ _ _ _ h => h)), fun W1 i1 e1 _ => O.allocE fun W5 b5 i5 e5 hl5 hc5 hb5 => D.rel (R := PLoc 4 W0.size) e5 (by exact ⟨_, rfl, hl5, Nat.le_trans (inferInstance : Le W0 W1).s.size hb5⟩) PLoc.me, trivial⟩ ?_ ?_
    · skip
      intro W1 i1 e1 v18 h18 v21 h21 v22 h22 v17 h17 v23 h23 v24 h24 v6 h6
      subst h24
      obtain ⟨b6, rfl, hl6, hb6⟩ := h6
      obtain ⟨i6, hv6, hi6⟩ := h23
      obtain ⟨pa, na, ca, pb, nb, cb, rfl, sa, sb⟩ := unQ hv6
      skip
      refine O.st rfl rfl hl6.to rfl (by simp [oneC, Value.cells]) fun W7 i7 hc7 => O.as rfl <| JO.nil <| J.seq <| J.reg rfl <| O.ldVw rfl hc7 rfl <| O.bs (r := RQ) [i6] rfl ⟨mkQ sa.to sb.to, trivial⟩ rfl rfl rfl (by decide) (.inl rfl) (by decide) fun W8 p8 i8 e8 s8 => O.mv rfl <| O.eq rfl rfl <| O.as rfl <| O.as rfl <| JO.nil <| J.ret2 rfl (.tmp rfl) (.tmp rfl) fun W' iE iP => ?_
      refine ⟨_, _, rfl, ⟨_, s8.to.v⟩, ?_, fun h0 => by rw [hi6 h0] at s8; exact s8.to.v⟩
      by_cases h0 : a = 0
      · simp [h0]
      · simp [h0]
    · skip
      intro W1 i1 e1 v18 h18 v21 h21 v22 h22 v17 h17 v23 h23 v6 h6
      obtain ⟨b6, rfl, hl6, hb6⟩ := h6
      obtain ⟨i6, hv6, hi6⟩ := h23
      obtain ⟨pa, na, ca, pb, nb, cb, rfl, sa, sb⟩ := unQ hv6
      skip
      refine O.st rfl rfl hl6.to rfl (by simp [oneC, Value.cells]) fun W7 i7 hc7 => ?_
      obtain ⟨v6, ee, rfl, h6⟩ := h17
      have he6 : ee = if a = 0 then 6 else 0 := by have := DivR.snd h6; injection this
      subst he6
      refine O.ext rfl rfl <| O.as rfl <| JO.nil <| J.seq <| J.reg rfl <| O.ldVw rfl hc7 rfl <| O.bs (r := RQ) [i6] rfl ⟨mkQ sa.to sb.to, trivial⟩ rfl rfl rfl (by decide) (.inl rfl) (by decide) fun W8 p8 i8 e8 s8 => O.mv rfl <| O.eq rfl rfl <| O.as rfl <| O.as rfl <| JO.nil <| J.ret2 rfl (.tmp rfl) (.tmp rfl) fun W' iE iP => ?_
      refine ⟨_, _, rfl, ⟨_, s8.to.v⟩, ?_, fun h0 => by rw [hi6 h0] at s8; exact s8.to.v⟩
      by_cases h0 : a = 0
      · simp [h0]
      · simp [h0]
  · skip
    omega -- done
end Go.Proofs.YtcobdnnfmhfenaaGreat

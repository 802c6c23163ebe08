/- The reference's towers: norms, roots, conjugates. -/
import Derived.Test.YtcobdnnfmhfenaaGreatVx
import Derived.Test.YtcobdnnfmhfenaaGreatTg
set_option linter.unusedVariables false
set_option maxRecDepth 10000
set_option maxHeartbeats 4000000
namespace Go.Proofs.YtcobdnnfmhfenaaGreat
open Go Go.Rx Go.Num Go.Tow

theorem ref06_Norm_own {k : Nat} {W : GW} {p q : Option Addr} {n c m d r s : Nat} {t : Tw (k + 1)} {a : El (k + 1)} (h : Sl RE W p n c (ct (toT (k + 1) t))) (h' : Sl RQ W q m d (cl (toL (k + 1) a)))
    (hT : TS r (k + 1) t) (ha : Sz s (toL (k + 1) a)) (hk : k + 1 ≤ 16) (hs : nB r k s ≤ 8796093022208) :
    Ok Tryz.prog 26 [.slice p n c, .slice q m d] W fun W' v => OwnR RQ W W' v (cl (toL k (Tow.norm k t a))) := by
  have hn : n = k + 1 := by rw [h.hn, ct, List.length_map, toT_length]
  have hm : m = 2 ^ (k + 1) := by rw [h'.hn, cl_length, toL_length]
  have hp := pow_le hk
  have hp1 : 2 ^ (k + 1) = 2 * 2 ^ k := by rw [Nat.pow_succ]; omega
  have hx : Sz s (toL k a.1) := Sz.left ha
  have hy : Sz s (toL k a.2) := Sz.right ha
  have hlen := toL_length k
  have hnb : nB r k s = 4 * s + 3 * cB r k + r + 1 := rfl
  have hc' := h'.hc
  have hC' := h'.hC
  have hcc := h.hc
  have hCC := h.hC
  have sA1 := h'.take (2 ^ k) (by omega)
  rw [(cl_halves a).1] at sA1
  have sA2 := h'.drop (2 ^ k) (by omega)
  rw [(cl_halves a).2] at sA2
  have s15 := h.take k (by omega)
  rw [ct_succ, List.take_left' (by rw [ct, List.length_map, toT_length])] at s15
  have hr : (ct (toT (k + 1) t))[k]? = some (cl (toL k t.2)) := by
    rw [ct_succ, List.getElem?_append_right (by rw [ct, List.length_map, toT_length]; omega), ct, List.length_map, toT_length, Nat.sub_self]; rfl
  have hq : Int.tdiv (m : Int) 2 = ((2 ^ k : Nat) : Int) := by rw [show Int.tdiv (m : Int) 2 = ((m / 2 : Nat) : Int) from rfl]; omega
  refine Ok.enter Tryz.func26 rfl rfl rfl rfl fun W0 iEn => ?_
  refine J.seq <| J.reg rfl <| O.as rfl <| JO.nil <| J.seq <| J.reg rfl <| O.mv rfl <| O.len rfl <| O.quo (r := ((2 ^ k : Nat) : Int)) rfl rfl (by decide) (by rw [hq]; exact wI (by omega)) <| O.as rfl <| JO.nil <| J.seq <| ?_
  obtain ⟨b20, o20, rfl, hj20, hb20⟩ := (h).placeP hr
  refine J.draw [.ex _, .ex _, .ex _, .ex _, .ex _, .ex _, .ex _, .ex _, .ex _, .ex _, .rel _, .ex _] rfl rfl ⟨fun Wd id ed _ => O.mv rfl <| D.ex, fun Wd id ed _ => O.mv rfl <| D.ex, fun Wd id ed _ => O.len rfl <| D.ex, fun Wd id ed _ => O.sb (r := (k : Int)) rfl rfl ((wI (by omega)).trans (by omega)) <| D.ex, fun Wd id ed _ => O.slh (hi := k) rfl rfl rfl (by omega) <| D.ex, fun Wd id ed _ => O.mv rfl <| D.ex, fun Wd id ed _ => O.mv rfl <| D.ex, fun Wd id ed _ => O.len rfl <| D.ex, fun Wd id ed _ => O.sb (r := (k : Int)) rfl rfl ((wI (by omega)).trans (by omega)) <| D.ex, fun Wd id ed _ => O.ia (j := k) rfl rfl rfl hj20 <| D.ex, fun Wd id ed _ => O.ldTD rfl hb20.to.h rfl rfl (fun _ => rfl), fun Wd id ed _ => O.as rfl <| D.ex, trivial⟩ ?_
  intro Wr2 ir2 er2 v21 h21
  obtain ⟨p21, m21, c21, rfl, s21⟩ := h21.sl
  refine O.as rfl <| JO.nil <| J.seq <| ?_
  refine J.draw [.ex _, .ex _, .ex _, .ex _, .ex _, .ex _, .ex _, .ex _, .rel _, .ex _, .ex _, .ex _, .ex _, .ex _, .ex _, .ex _, .ex _, .rel _, .ex _, .rel _] rfl rfl ⟨fun Wd id ed _ => O.mv rfl <| D.ex, fun Wd id ed _ => O.mv rfl <| D.ex, fun Wd id ed _ => O.mv rfl <| D.ex, fun Wd id ed _ => O.mv rfl <| D.ex, fun Wd id ed _ => O.slh (hi := 2 ^ k) rfl rfl rfl (by omega) <| D.ex, fun Wd id ed _ => O.mv rfl <| D.ex, fun Wd id ed _ => O.mv rfl <| D.ex, fun Wd id ed _ => O.slh (hi := 2 ^ k) rfl rfl rfl (by omega) <| D.ex, fun Wd id ed _ => O.call rfl ((ref06_Mul_own s15.to sA1.to sA1.to hT.1 hx hx (by omega) (by omega)).own) fun Wd vd id ed hd => D.rel ed hd V.me, fun Wd id ed _ => O.mv rfl <| D.ex, fun Wd id ed _ => O.mv rfl <| D.ex, fun Wd id ed _ => O.mv rfl <| D.ex, fun Wd id ed _ => O.mv rfl <| D.ex, fun Wd id ed _ => O.sll (lo := 2 ^ k) rfl rfl rfl (by omega) <| D.ex, fun Wd id ed _ => O.mv rfl <| D.ex, fun Wd id ed _ => O.mv rfl <| D.ex, fun Wd id ed _ => O.sll (lo := 2 ^ k) rfl rfl rfl (by omega) <| D.ex, fun Wd id ed _ => fun v30 h30 => (by obtain ⟨p30, m30, c30, rfl, s30⟩ := h30.sl; exact O.call rfl ((ref06_Mul_own s15.to sA2.to sA2.to hT.1 hy hy (by omega) (by omega)).own) fun Wd vd id ed hd => D.rel ed hd V.me), fun Wd id ed _ => O.mv rfl <| D.ex, fun Wd id ed _ => fun _ _ => fun v39 h39 => (by obtain ⟨p39, m39, c39, rfl, s39⟩ := h39.sl; exact O.call rfl ((ref06_Mul_own s15.to s39 s21.to hT.1 (hy.mul hT.1 hy) hT.2 (by omega) (by omega)).own) fun Wd vd id ed hd => D.rel ed hd V.me), trivial⟩ ?_
  intro Wr3 ir3 er3 v30 h30 v39 h39 v41 h41
  obtain ⟨p30, m30, c30, rfl, s30⟩ := h30.sl
  obtain ⟨p39, m39, c39, rfl, s39⟩ := h39.sl
  obtain ⟨p41, m41, c41, rfl, s41⟩ := h41.sl
  have hn30 : m30 = 2 ^ k := by rw [s30.hn, cl_length, hlen]
  refine O.call rfl (ref06_Sub_own s30.to s41.to (by rw [hlen, hlen]) (by omega) (hx.mul hT.1 hx).qs' ((hy.mul hT.1 hy).mul hT.1 hT.2).qs' (by omega)) fun W42 v42 i42 e42 h42 => ?_
  obtain ⟨p42, m42, c42, rfl, o42, f42⟩ := h42
  refine O.as rfl <| JO.nil <| J.ret1o rfl (.tmp rfl) fun W' iE iO => ?_
  have := Ows.ret (W0 := W) o42 iE iO
  rw [← toL_neg, ← toL_add] at this
  exact this

theorem ref06_Root_ok {W : GW} {p : Option Addr} {n c k i : Nat} {t : Tw k} (h : Sl RE W p n c (ct (toT k t))) (hk : k ≤ 16) (hi : i < k) :
    Ok Tryz.prog 22 [.slice p n c, .int .i64 (i : Int)] W fun W' v => V RE W' v (cl (toL k (root k i))) := by
  have hn : n = k := by rw [h.hn, ct_length]
  have hp := pow_le hk
  have hpi : 2 ^ i < 2 ^ k := Nat.pow_lt_pow_right (by decide) hi
  have hp0 := Nat.two_pow_pos k
  have hp1 := Nat.two_pow_pos i
  refine Ok.enter Tryz.func22 rfl rfl rfl rfl fun W0 iEn => ?_
  refine J.seq <| J.reg rfl <| O.as rfl <| JO.nil <| J.seq <| J.reg rfl <| O.mv rfl <| O.call rfl (ref02_FromInt_ok (z := 0) (by decide)) fun W7 v7 i7 e7 h7 => ?_
  refine O.call rfl (ref06_FromRat_own (x := 0) h.to h7.to (by omega)) fun W8 v8 i8 e8 h8 => ?_
  obtain ⟨p8, m8, c8, rfl, o8, f8⟩ := h8
  have hn8 : m8 = 2 ^ k := by rw [o8.hn, cl_length, toL_length, hn]
  obtain ⟨b8, rfl⟩ : ∃ b, p8 = some ⟨b, 0, none⟩ := by
    rcases o8.h with h0 | ⟨b, _, _, hp, _⟩
    · have := o8.hc; omega
    · exact ⟨b, hp⟩
  refine O.as rfl <| JO.nil <| J.seq <| ?_
  refine J.draw [.ex _, .ex _, .ex _, .rel _] rfl rfl ⟨fun Wd id ed _ => O.mv rfl <| D.ex, fun Wd id ed _ => O.mv rfl <| D.ex, fun Wd id ed _ => O.shl rfl rfl (by omega) (shl1 (i := i) (by omega)) <| D.ex, fun Wd id ed _ => O.call rfl (ref02_FromInt_ok (z := 1) (by decide)) fun Wd vd id ed hd => D.rel ed hd V.me, trivial⟩ ?_
  intro Wr2 ir2 er2 v12 h12
  have o9 := o8.ext er2
  refine O.iaB (r := RQ) (j := 2 ^ i) rfl rfl rfl o9 (by omega) rfl <| O.sto (r := RQ) (j := 2 ^ i) (u := cq 1) rfl rfl o9 (by omega) h12.to rfl (.inl rfl) fun W6 i6 o6 => JO.nil <| J.seq <| J.reg rfl <| O.mv rfl <| O.as rfl <| JO.nil <| J.ret1 rfl (.tmp rfl) fun W' iE iP => ?_
  have e : (cl (toL n (rat n 0))).set (2 ^ i) (cq 1) = cl (toL k (root k i)) := by
    rw [hn, rat_zero, toL_zero, toL_root hi, cl, cl, List.map_set]
  rw [e] at o6
  exact (o6.pub iE iP).v

theorem ref06_flip_own {W : GW} {p : Option Addr} {n c i : Nat} {xs : List Rat} (h : Sl RQ W p n c (cl xs)) (hn : n ≤ 65536) (hi : i ≤ 16) :
    Ok Tryz.prog 44 [.slice p n c, .int .i64 (i : Int)] W fun W' r => OwnR RQ W W' r (cl (flipL i xs)) := by
  have hnn := h.hn
  rw [cl_length] at hnn
  refine Ok.enter Tryz.func44 rfl rfl rfl rfl fun W0 iEn => ?_
  refine J.seq <| J.reg rfl <| O.as rfl <| JO.nil <| J.seq <| J.reg rfl <| O.as rfl <| JO.nil <| J.seq <| J.seq <| J.reg rfl <| O.as rfl <| JO.nil <| J.block <| ?_
  refine J.loop (α := Nat × Option Addr × Nat) (fun g => [(0, .slice p n c), (1, .int .i64 (i : Int)), (5, .slice g.2.1 g.1 g.2.2), (6, .int .i64 (g.1 : Int))]) (fun g W' => Le W0 W' ∧ Ows RQ W' g.2.1 g.1 g.2.2 (cl ((flipL i xs).take g.1)) ∧ g.1 ≤ n) (fun g => n - g.1) (0, none, 0) ⟨rfl, rfl, rfl, rfl, trivial⟩ ⟨inferInstance, Ows.nil _ _ _, Nat.zero_le _⟩ ?_
  rintro ⟨k, p5, c5⟩ W3 ⟨_, ho, hk⟩
  dsimp only at *
  refine J.seq <| J.seq <| J.reg rfl <| O.mv rfl <| O.mv rfl <| O.len rfl <| O.lt rfl rfl <| JO.nil <| J.condD rfl (fun h10 => ?_) (fun h10 => ?_)
  · skip
    obtain ⟨x, hxk⟩ := rat_get (xs := xs) (i := k) (by omega)
    have hfx := flip_get (i := i) hxk
    refine J.skip <| J.seq <| J.block <| J.seq <| J.reg rfl <| O.mv rfl <| O.mv rfl <| O.shr rfl rfl (by omega) (shrI k i (by omega)) <| O.rem (r := ((k / 2 ^ i % 2 : Nat) : Int)) rfl rfl (by decide) rfl <| O.eq rfl rfl <| JO.nil <| J.condD rfl (fun h17 => ?_) (fun h17 => ?_)
    · skip
      rw [if_pos (by omega)] at hfx
      refine J.reg rfl <| O.mv rfl <| O.mv rfl <| O.mv rfl <| O.iaT (j := k) rfl rfl rfl h.to (cl_get hxk) rfl fun b21 o21 hb21 => O.ldT rfl hb21.to.h rfl rfl (fun h => nomatch h) fun v22 h22 => O.call rfl (ref02_Neg_ok h22.to) fun W23 v23 i23 e23 h23 => O.app1 (fun _ => rfl) rfl (ho.ext e23) h23.to rfl rfl (by decide) (.inl rfl) (by decide) (by omega) (by omega) fun W25 p25 c25 v24 i24 o25 => O.as rfl <| JO.nil <| J.bend <| J.reg rfl <| O.mv rfl <| O.add rfl rfl (wI (by omega)) <| O.as rfl <| JO.nil <| ?_
      exact J.at' (k + 1, p25, c25) ⟨rfl, rfl, rfl, rfl, trivial⟩ ⟨⟨inferInstance, by rw [cl_snoc hfx]; exact o25, by show k + 1 ≤ n; omega⟩, by show n - (k + 1) < n - k; omega⟩
    · skip
      rw [if_neg (by omega)] at hfx
      refine J.reg rfl <| O.mv rfl <| O.mv rfl <| O.mv rfl <| O.iaT (j := k) rfl rfl rfl h.to (cl_get hxk) rfl fun b29 o29 hb29 => O.ldT rfl hb29.to.h rfl rfl (fun h => nomatch h) fun v30 h30 => O.app1 (fun _ => rfl) rfl ho h30.to rfl rfl (by decide) (.inl rfl) (by decide) (by omega) (by omega) fun W32 p32 c32 v31 i31 o32 => O.as rfl <| JO.nil <| J.bend <| J.reg rfl <| O.mv rfl <| O.add rfl rfl (wI (by omega)) <| O.as rfl <| JO.nil <| ?_
      exact J.at' (k + 1, p32, c32) ⟨rfl, rfl, rfl, rfl, trivial⟩ ⟨⟨inferInstance, by rw [cl_snoc hfx]; exact o32, by show k + 1 ≤ n; omega⟩, by show n - (k + 1) < n - k; omega⟩
  · skip
    refine J.exit rfl <| J.seq <| J.reg rfl <| O.mv rfl <| O.as rfl <| JO.nil <| ?_
    have hkn : k = n := by omega
    subst hkn
    rw [List.take_of_length_le (by rw [flip_length]; omega)] at ho
    refine J.ret1o rfl (.tmp rfl) fun W' iE iO => ?_
    exact ho.ret iE iO

theorem neg_self {x : Rat} (h : -x = x) : x = 0 := by grind
theorem flip_same {i : Nat} {xs : List Rat} : flipL i xs = xs ↔ ∀ p x, xs[p]? = some x → p / 2 ^ i % 2 = 1 → x = 0 := by
  constructor
  · intro h p x hx hb
    have := flip_get (i := i) hx
    rw [h, hx, if_pos hb] at this
    injection this with this
    exact neg_self this.symm
  · intro h
    apply List.ext_getElem?
    intro p
    cases hx : xs[p]? with
    | none => rw [List.getElem?_eq_none_iff] at hx ⊢; rw [flip_length]; exact hx
    | some x =>
      rw [flip_get hx]
      split
      · rename_i hb; rw [h p x hx hb]; rfl
      · rfl
theorem ref06_Conjugate_ok {W : GW} {p q : Option Addr} {n c m d k : Nat} {t : Tw k} {a : El k} {i : Int} (h : Sl RE W p n c (ct (toT k t))) (h' : Sl RQ W q m d (cl (toL k a))) (hk : k ≤ 16)
    (hi : -9223372036854775808 ≤ i ∧ i < 9223372036854775808) :
    Ok Tryz.prog 11 [.slice p n c, .slice q m d, .int .i64 i] W fun W' v => ∃ v1 b, v = .tuple #[v1, .bool b] ∧ (((0 ≤ i ∧ i < k ∧ conjOk i.toNat (toT k t)) ∧ b = true ∧ V RE W' v1 (cl (flipL i.toNat (toL k a)))) ∨ (¬ (0 ≤ i ∧ i < k ∧ conjOk i.toNat (toT k t)) ∧ b = false ∧ V RE W' v1 [])) := by
  have hn : n = k := by rw [h.hn, ct_length]
  have hm : m = 2 ^ k := by rw [h'.hn, cl_length, toL_length]
  have hp := pow_le hk
  refine Ok.enter Tryz.func11 rfl rfl rfl rfl fun W0 iEn => ?_
  refine J.seq <| J.reg rfl <| O.as rfl <| O.as rfl <| JO.nil <| J.seq <| J.seq <| J.reg rfl <| O.mv rfl <| O.lt rfl rfl <| O.mv rfl <| ?_
  by_cases hg11 : i < 0
  · skip
    refine O.set (t := 11) (.bool true) rfl (by simp only [Value.bool.injEq, decide_eq_true_eq, decide_eq_false_iff_not]; omega) <| O.gs rfl rfl rfl <| O.gs rfl rfl rfl <| O.gs rfl rfl rfl <| O.gs rfl rfl rfl <| O.pickT rfl rfl <| JO.nil <| J.condT rfl <| J.seq <| J.reg rfl <| O.as rfl <| O.as rfl <| JO.nil <| J.ret2 rfl (.tmp rfl) (.tmp rfl) fun W' iE iP => ?_
    exact ⟨_, _, rfl, .inr ⟨fun h => by omega, rfl, (nil_sl _ _ _).v⟩⟩
  · skip
    refine O.set (t := 11) (.bool false) rfl (by simp only [Value.bool.injEq, decide_eq_true_eq, decide_eq_false_iff_not]; omega) <| O.gt rfl rfl <| O.mv rfl <| O.gt rfl rfl <| O.mv rfl <| O.gt rfl rfl <| O.len rfl <| O.gt rfl rfl <| O.ge rfl rfl <| O.pickF rfl rfl <| JO.nil <| J.condD rfl (fun h16 => ?_) (fun h16 => ?_)
    · skip
      refine J.seq <| J.reg rfl <| O.as rfl <| O.as rfl <| JO.nil <| J.ret2 rfl (.tmp rfl) (.tmp rfl) fun W' iE iP => ?_
      exact ⟨_, _, rfl, .inr ⟨fun h => by omega, rfl, (nil_sl _ _ _).v⟩⟩
    · skip
      obtain ⟨j, rfl⟩ : ∃ j : Nat, i = (j : Int) := ⟨i.toNat, by omega⟩
      refine J.skip <| J.seq <| J.seq <| J.reg rfl <| O.mv rfl <| O.add (r := ((j + 1 : Nat) : Int)) rfl rfl ((wI (by omega)).trans (by omega)) <| O.as rfl <| JO.nil <| J.block <| ?_
      refine J.loop (α := Nat) (fun g => [(0, .slice p n c), (1, .slice q m d), (2, .int .i64 (j : Int)), (8, .int .i64 ((j + 1 + g : Nat) : Int))]) (fun g W' => Le W0 W' ∧ j + 1 + g ≤ n ∧ ∀ u r, j < u → u < j + 1 + g → (toT k t)[u]? = some r → flipL j r = r) (fun g => n - g) 0 ⟨rfl, rfl, rfl, rfl, trivial⟩ ⟨inferInstance, by omega, fun u r h1 h2 => by omega⟩ ?_
      rintro g W3 ⟨_, hg, hd⟩
      refine J.seq <| J.seq <| J.reg rfl <| O.mv rfl <| O.mv rfl <| O.len rfl <| O.lt rfl rfl <| JO.nil <| J.condD rfl (fun h22 => ?_) (fun h22 => ?_)
      · skip
        obtain ⟨rr, hrr⟩ : ∃ rr, (toT k t)[j + 1 + g]? = some rr := ⟨_, List.getElem?_eq_getElem (by rw [toT_length]; omega)⟩
        have hrlen := toT_get hrr
        have hpg : 2 ^ (j + 1 + g) ≤ 2 ^ k := Nat.pow_le_pow_right (by decide) (by omega)
        refine J.skip <| J.seq <| J.block <| J.seq <| ?_
        obtain ⟨b27, o27, rfl, hj27, hb27⟩ := (h).placeP (ct_get hrr)
        obtain ⟨hj33, hb33⟩ := (h).placeQ (ct_get hrr)
        refine J.draw [.ex _, .ex _, .ex _, .rel _, .ex _, .rel _, .ex _, .ex _, .ex _, .rel _] rfl rfl ⟨fun Wd id ed _ => O.mv rfl <| D.ex, fun Wd id ed _ => O.mv rfl <| D.ex, fun Wd id ed _ => O.ia (j := (j+1+g)) rfl rfl rfl hj27 <| D.ex, fun Wd id ed _ => O.ldTD rfl hb27.to.h rfl rfl (fun _ => rfl), fun Wd id ed _ => O.mv rfl <| D.ex, fun Wd id ed _ => fun v28 h28 => (by obtain ⟨p28, m28, c28, rfl, s28⟩ := h28.sl; exact O.call rfl ((ref06_flip_own s28 (by have := s28.hn; rw [cl_length] at this; omega) (by omega)).own) fun Wd vd id ed hd => D.rel ed hd V.me), fun Wd id ed _ => O.mv rfl <| D.ex, fun Wd id ed _ => O.mv rfl <| D.ex, fun Wd id ed _ => O.ia (j := (j+1+g)) rfl rfl rfl hj33 <| D.ex, fun Wd id ed _ => O.ldTD rfl hb33.to.h rfl rfl (fun _ => rfl), trivial⟩ ?_
        intro Wr6 ir6 er6 v28 h28 v30 h30 v34 h34
        obtain ⟨p28, m28, c28, rfl, s28⟩ := h28.sl
        obtain ⟨p30, m30, c30, rfl, s30⟩ := h30.sl
        obtain ⟨p34, m34, c34, rfl, s34⟩ := h34.sl
        refine O.call rfl (ref06_Same_ok s30.to s34.to) fun W35 v35 i35 e35 h35 => ?_
        subst h35
        refine O.not rfl <| JO.nil <| J.cond rfl (fun h36 => ?_) (fun h36 => ?_)
        · skip
          refine J.seq <| J.reg rfl <| O.as rfl <| O.as rfl <| JO.nil <| J.ret2 rfl (.tmp rfl) (.tmp rfl) fun W' iE iP => ?_
          exact ⟨_, _, rfl, .inr ⟨fun h => by
            have h2 := flip_same.2 (h.2.2 (j + 1 + g) rr (by show (j : Int).toNat < _; omega) hrr)
            have h3 : flipL j rr = rr := h2
            rw [h3] at h36; simp at h36, rfl, (nil_sl _ _ _).v⟩⟩
        · skip
          refine J.skip <| J.bend <| J.reg rfl <| O.mv rfl <| O.add rfl rfl (wI (by omega)) <| O.as rfl <| JO.nil <| ?_
          exact J.at' (g + 1) ⟨rfl, rfl, rfl, by congr 1, trivial⟩ ⟨⟨inferInstance, by omega, fun u r hu hu2 hur => by
            by_cases hug : u = j + 1 + g
            · subst hug
              rw [hrr] at hur; injection hur with hur; subst hur
              exact cl_inj (by simpa using h36)
            · exact hd u r hu (by omega) hur⟩, by omega⟩
      · skip
        have hconj : conjOk j (toT k t) := fun u r hu hur => by
          refine flip_same.1 (hd u r hu ?_ hur)
          have : u < (toT k t).length := by
            by_cases h : u < (toT k t).length
            · exact h
            · rw [List.getElem?_eq_none (by omega)] at hur; cases hur
          rw [toT_length] at this
          omega
        refine J.exit rfl <| J.seq <| J.reg rfl <| O.mv rfl <| O.mv rfl <| ?_
        refine O.call rfl ((ref06_flip_own h'.to (by omega) (by omega)).own) fun W39 v39 i39 e39 h39 => ?_
        obtain ⟨p39, m39, c39, rfl, s39⟩ := h39.sl
        refine O.as rfl <| O.as rfl <| JO.nil <| J.ret2 rfl (.tmp rfl) (.tmp rfl) fun W' iE iP => ?_
        exact ⟨_, _, rfl, .inl ⟨⟨by omega, by omega, hconj⟩, rfl, h39.to⟩⟩
end Go.Proofs.YtcobdnnfmhfenaaGreat

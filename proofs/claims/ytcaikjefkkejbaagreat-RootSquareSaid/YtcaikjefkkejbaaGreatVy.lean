/- The reference's towers: sums, opposites, differences. -/
import Derived.Test.YtcaikjefkkejbaaGreatLy
import Derived.Test.YtcaikjefkkejbaaGreatVa
import Derived.Test.YtcaikjefkkejbaaGreatTb
import Derived.Test.YtcaikjefkkejbaaGreatRl
set_option linter.unusedVariables false
set_option linter.unusedSimpArgs false
set_option maxRecDepth 10000
set_option maxHeartbeats 4000000
namespace Go.Proofs.YtcaikjefkkejbaaGreat
open Go Go.Rx Go.Num Go.Tow
section
theorem take_snoc {xs : List Rat} {k : Nat} {x : Rat} (h : xs[k]? = some x) : xs.take (k + 1) = xs.take k ++ [x] := by
  rw [List.take_add_one, h]; rfl
theorem cl_snoc {xs : List Rat} {k : Nat} {x : Rat} (h : xs[k]? = some x) : cl (xs.take (k + 1)) = cl (xs.take k) ++ [cq x] := by
  rw [take_snoc h, cl, List.map_append]; rfl
theorem ref06_Neg_own {W : GW} {p0 p : Option Addr} {n0 c0 n c : Nat} {xs : List Rat} (h : Sl RQ W p n c (cl xs)) (hn : n ≤ 65536) :
    Ok Tryz.prog 20 [.slice p0 n0 c0, .slice p n c] W fun W' r => OwnR RQ W W' r (cl (xs.map (- ·))) := by
  have hnn := h.hn
  rw [cl_length] at hnn
  refine Ok.enter Tryz.func20 rfl rfl rfl rfl fun W0 iEn => ?_
  refine J.seq <| J.reg rfl <| O.as rfl <| JO.nil <| J.seq <| J.reg rfl <| O.as rfl <| JO.nil <| J.seq <| J.seq <| J.reg rfl <| O.as rfl <| JO.nil <| J.block <| ?_
  refine J.loop (α := Nat × Option Addr × Nat) (fun g => [(1, .slice p n c), (5, .slice g.2.1 g.1 g.2.2), (6, .int .i64 (g.1 : Int))]) (fun g W' => Le W0 W' ∧ Ows RQ W' g.2.1 g.1 g.2.2 (cl ((xs.map (- ·)).take g.1)) ∧ g.1 ≤ n) (fun g => n - g.1) (0, none, 0) ⟨rfl, rfl, rfl, trivial⟩ ⟨inferInstance, Ows.nil _ _ _, Nat.zero_le _⟩ ?_
  rintro ⟨k, p5, c5⟩ W3 ⟨_, ho, hk⟩
  dsimp only at *
  refine J.seq <| J.seq <| J.reg rfl <| O.mv rfl <| O.mv rfl <| O.len rfl <| O.lt rfl rfl <| JO.nil <| J.condD rfl (fun h10 => ?_) (fun h10 => ?_)
  · skip
    obtain ⟨x, hxk⟩ := rat_get (xs := xs) (i := k) (by omega)
    refine J.skip <| J.seq <| J.block <| J.reg rfl <| O.mv rfl <| O.mv rfl <| O.mv rfl <| O.iaT (j := k) rfl rfl rfl h.to (cl_get hxk) rfl fun b16 o16 hb16 => O.ldT rfl hb16.to.h rfl rfl (fun h => nomatch h) fun v17 h17 => O.call rfl (ref02_Neg_ok h17.to) fun W18 v18 i18 e18 h18 => O.app1 (fun _ => rfl) rfl (ho.ext e18) h18.to rfl rfl (by decide) (.inl rfl) (by decide) (by omega) (by omega) fun W20 p20 c20 v19 i19 o20 => O.as rfl <| JO.nil <| J.bend <| J.reg rfl <| O.mv rfl <| O.add rfl rfl (wI (by omega)) <| O.as rfl <| JO.nil <| ?_
    exact J.at' (k + 1, p20, c20) ⟨rfl, rfl, rfl, trivial⟩ ⟨⟨inferInstance, by rw [cl_snoc (map_get hxk)]; exact o20, by show k + 1 ≤ n; omega⟩, by show n - (k + 1) < n - k; omega⟩
  · skip
    refine J.exit rfl <| J.seq <| J.reg rfl <| O.mv rfl <| O.as rfl <| JO.nil <| ?_
    have hkn : k = n := by omega
    subst hkn
    rw [List.take_of_length_le (by rw [List.length_map]; omega)] at ho
    refine J.ret1o rfl (.tmp rfl) fun W' iE iO => ?_
    exact ho.ret iE iO
theorem ref06_Add_own {W : GW} {p0 p q : Option Addr} {n0 c0 n c m d s s' : Nat} {xs ys : List Rat} (h : Sl RQ W p n c (cl xs)) (h' : Sl RQ W q m d (cl ys)) (hl : xs.length = ys.length) (hn : n ≤ 65536) (hx : ∀ x ∈ xs, Qs s x) (hy : ∀ y ∈ ys, Qs s' y) (hs : s + s' + 1 ≤ 17592186044416) :
    Ok Tryz.prog 49 [.slice p0 n0 c0, .slice p n c, .slice q m d] W fun W' r => OwnR RQ W W' r (cl (List.zipWith (· + ·) xs ys)) := by
  have hnn := h.hn
  have hmm := h'.hn
  rw [cl_length] at hnn hmm
  refine Ok.enter Tryz.func49 rfl rfl rfl rfl fun W0 iEn => ?_
  refine J.seq <| J.reg rfl <| O.as rfl <| JO.nil <| J.seq <| J.reg rfl <| O.as rfl <| JO.nil <| J.seq <| J.seq <| J.reg rfl <| O.as rfl <| JO.nil <| J.block <| ?_
  refine J.loop (α := Nat × Option Addr × Nat) (fun g => [(1, .slice p n c), (2, .slice q m d), (7, .slice g.2.1 g.1 g.2.2), (8, .int .i64 (g.1 : Int))]) (fun g W' => Le W0 W' ∧ Ows RQ W' g.2.1 g.1 g.2.2 (cl ((List.zipWith (· + ·) xs ys).take g.1)) ∧ g.1 ≤ n) (fun g => n - g.1) (0, none, 0) ⟨rfl, rfl, rfl, rfl, trivial⟩ ⟨inferInstance, Ows.nil _ _ _, Nat.zero_le _⟩ ?_
  rintro ⟨k, p5, c5⟩ W3 ⟨_, ho, hk⟩
  dsimp only at *
  refine J.seq <| J.seq <| J.reg rfl <| O.mv rfl <| O.mv rfl <| O.len rfl <| O.lt rfl rfl <| JO.nil <| J.condD rfl (fun h12 => ?_) (fun h12 => ?_)
  · skip
    obtain ⟨x, hxk⟩ := rat_get (xs := xs) (i := k) (by omega)
    obtain ⟨y, hyk⟩ := rat_get (xs := ys) (i := k) (by omega)
    refine J.skip <| J.seq <| J.block <| ?_
    obtain ⟨b18, o18, rfl, hj18, hb18⟩ := (h).placeP (cl_get hxk)
    obtain ⟨b22, o22, rfl, hj22, hb22⟩ := (h').placeP (cl_get hyk)
    refine J.draw [.ex _, .ex _, .ex _, .ex _, .rel _, .ex _, .ex _, .ex _, .rel _, .rel _, .rel _] rfl rfl ⟨fun Wd id ed _ => O.mv rfl <| D.ex, fun Wd id ed _ => O.mv rfl <| D.ex, fun Wd id ed _ => O.mv rfl <| D.ex, fun Wd id ed _ => O.ia (j := k) rfl rfl rfl hj18 <| D.ex, fun Wd id ed _ => O.ldTD rfl hb18.to.h rfl rfl (fun h => nomatch h), fun Wd id ed _ => O.mv rfl <| D.ex, fun Wd id ed _ => O.mv rfl <| D.ex, fun Wd id ed _ => O.ia (j := k) rfl rfl rfl hj22 <| D.ex, fun Wd id ed _ => O.ldTD rfl hb22.to.h rfl rfl (fun h => nomatch h), fun Wd id ed _ => fun v19 h19 => fun v23 h23 => O.call rfl (ref02_Add_ok h19 h23 (hx x (List.mem_of_getElem? hxk)) (hy y (List.mem_of_getElem? hyk)) hs) fun Wd vd id ed hd => D.rel ed hd V.me, fun Wd id ed _ => fun v24 h24 => O.bs1D rfl h24 rfl rfl (by decide) (.inl rfl) (by decide), trivial⟩ ?_
    intro Wr5 ir5 er5 v19 h19 v23 h23 v24 h24 v25 h25
    obtain ⟨p25, m25, c25, rfl, s25⟩ := h25.sl
    obtain rfl : m25 = 1 := s25.hn
    refine O.app rfl rfl (ho.ext er5) s25.to rfl rfl (by omega) (by omega) fun W26 p26 c26 i26 o26 => O.as rfl <| JO.nil <| J.bend <| J.reg rfl <| O.mv rfl <| O.add rfl rfl (wI (by omega)) <| O.as rfl <| JO.nil <| ?_
    exact J.at' (k + 1, p26, c26) ⟨rfl, rfl, rfl, rfl, trivial⟩ ⟨⟨inferInstance, by rw [cl_snoc (zip_get hxk hyk)]; exact o26, by show k + 1 ≤ n; omega⟩, by show n - (k + 1) < n - k; omega⟩
  · skip
    refine J.exit rfl <| J.seq <| J.reg rfl <| O.mv rfl <| O.as rfl <| JO.nil <| ?_
    have hkn : k = n := by omega
    subst hkn
    rw [List.take_of_length_le (by rw [List.length_zipWith]; omega)] at ho
    refine J.ret1o rfl (.tmp rfl) fun W' iE iO => ?_
    exact ho.ret iE iO
theorem ref06_Sub_own {W : GW} {p0 p q : Option Addr} {n0 c0 n c m d s s' : Nat} {xs ys : List Rat} (h : Sl RQ W p n c (cl xs)) (h' : Sl RQ W q m d (cl ys)) (hl : xs.length = ys.length) (hn : n ≤ 65536) (hx : ∀ x ∈ xs, Qs s x) (hy : ∀ y ∈ ys, Qs s' y) (hs : s + s' + 1 ≤ 17592186044416) :
    Ok Tryz.prog 90 [.slice p0 n0 c0, .slice p n c, .slice q m d] W fun W' r => OwnR RQ W W' r (cl (List.zipWith (· + ·) xs (ys.map (- ·)))) := by
  have hnn := h.hn
  have hmm := h'.hn
  rw [cl_length] at hnn hmm
  refine Ok.enter Tryz.func90 rfl rfl rfl rfl fun W0 iEn => ?_
  refine J.seq <| J.reg rfl <| O.as rfl <| JO.nil <| J.seq <| J.reg rfl <| O.mv rfl <| O.mv rfl <| O.mv rfl <| O.mv rfl <| ?_
  refine O.call rfl ((ref06_Neg_own h'.to (by omega)).own) fun W11 v11 i11 e11 h11 => ?_
  obtain ⟨p11, m11, c11, rfl, s11⟩ := h11.sl
  refine O.call rfl (ref06_Add_own h.to s11.to (by rw [List.length_map]; exact hl) hn hx (fun y hy' => by obtain ⟨z, hz, rfl⟩ := List.mem_map.1 hy'; exact (hy z hz).neg) hs) fun W12 v12 i12 e12 h12 => ?_
  obtain ⟨p12, m12, c12, rfl, o12, f12⟩ := h12
  refine O.as rfl <| JO.nil <| J.ret1o rfl (.tmp rfl) fun W' iE iO => ?_
  exact o12.ret iE iO
theorem mulzz {k : Nat} {t : Tw (k + 1)} {a b : El (k + 1)} (ha : a.2 = zero k) (hb : b.2 = zero k) : mul (k + 1) t a b = (mul k t.1 a.1 b.1, zero k) := by
  have L := ring k t.1
  show (_, _) = _
  simp only [ha, hb, L.zm, L.mz, L.az, L.za]
theorem mulzx {k : Nat} {t : Tw (k + 1)} {a b : El (k + 1)} (ha : a.2 = zero k) : mul (k + 1) t a b = (mul k t.1 a.1 b.1, mul k t.1 a.1 b.2) := by
  have L := ring k t.1
  show (_, _) = _
  simp only [ha, L.zm, L.mz, L.az, L.za]
theorem mulxz {k : Nat} {t : Tw (k + 1)} {a b : El (k + 1)} (hb : b.2 = zero k) : mul (k + 1) t a b = (mul k t.1 a.1 b.1, mul k t.1 a.2 b.1) := by
  have L := ring k t.1
  show (_, _) = _
  simp only [hb, L.zm, L.mz, L.az, L.za]
theorem zerL {k : Nat} {a : El k} (h : ∀ x ∈ toL k a, x = 0) : a = zero k := (eq_zero_iff k a).2 h
theorem ref06_mul0 {W : GW} {p q q2 : Option Addr} {c m d m2 d2 s s' : Nat} {a b : Rat} (h' : Sl RQ W q m d (cl [a])) (h2 : Sl RQ W q2 m2 d2 (cl [b])) (ha : Qs s a) (hb : Qs s' b) (hs : s + s' + 1 ≤ 17592186044416) :
    Ok Tryz.prog 21 [.slice p 0 c, .slice q m d, .slice q2 m2 d2] W fun W' v => OwnR RQ W W' v (cl [a * b]) := by
  refine Ok.enter Tryz.func21 rfl rfl rfl rfl fun W0 iEn => ?_
  refine J.seq <| J.reg rfl <| O.as rfl <| JO.nil <| J.seq <| J.seq <| J.reg rfl <| O.mv rfl <| O.len rfl <| O.eq rfl rfl <| JO.nil <| J.condD rfl (fun h15 => ?_) (fun h15 => ?_)
  · skip
    refine J.seq <| ?_
    refine J.sub [(1, _), (2, _)] ⟨rfl, rfl, trivial⟩ ?_
    obtain ⟨b17, o17, rfl, hj17, hb17⟩ := (h').placeP (show (cl [a])[0]? = some (cq a) from rfl)
    obtain ⟨b20, o20, rfl, hj20, hb20⟩ := (h2).placeP (show (cl [b])[0]? = some (cq b) from rfl)
    refine J.draw [.ex _, .ex _, .rel _, .ex _, .ex _, .rel _] rfl rfl ⟨fun Wd id ed _ => O.mv rfl <| D.ex, fun Wd id ed _ => O.ia (j := 0) rfl rfl rfl hj17 <| D.ex, fun Wd id ed _ => O.ldTD rfl hb17.to.h rfl rfl (fun h => nomatch h), fun Wd id ed _ => O.mv rfl <| D.ex, fun Wd id ed _ => O.ia (j := 0) rfl rfl rfl hj20 <| D.ex, fun Wd id ed _ => O.ldTD rfl hb20.to.h rfl rfl (fun h => nomatch h), trivial⟩ ?_
    intro Wr2 ir2 er2 v18 h18 v21 h21
    refine O.call rfl (ref02_Mul_ok h18.to h21.to ha hb hs) fun W22 v22 i22 e22 h22 => O.bso (r := RQ) [cq (a * b)] rfl ⟨h22.to, trivial⟩ rfl rfl rfl (by decide) (.inl rfl) (by decide) fun W23 b23 i23 e23 hb23 o23 => O.as rfl <| JO.nil <| J.ret1o rfl (.tmp rfl) fun W' iE iO => ?_
    exact o23.ret iE iO
  · skip
    omega -- done
theorem ref06_Mul_own {k : Nat} : ∀ {W : GW} {p q q2 : Option Addr} {n c m d m2 d2 r s s' : Nat} {t : Tw k} {a b : El k}, Sl RE W p n c (ct (toT k t)) → Sl RQ W q m d (cl (toL k a)) → Sl RQ W q2 m2 d2 (cl (toL k b)) →
    TS r k t → Sz s (toL k a) → Sz s' (toL k b) → k ≤ 16 → s + s' + cB r k ≤ 8796093022208 →
    Ok Tryz.prog 21 [.slice p n c, .slice q m d, .slice q2 m2 d2] W fun W' v => OwnR RQ W W' v (cl (toL k (mul k t a b))) := by
  induction k with
  | zero =>
    intro W p q q2 n c m d m2 d2 r s s' t a b h h' h2 hT ha hb hk hs
    have hn : n = 0 := h.hn
    subst hn
    exact ref06_mul0 (a := a) (b := b) h' h2 (ha.qs (List.mem_singleton.2 rfl)) (hb.qs (List.mem_singleton.2 rfl)) (by omega)
  | succ k ih =>
    intro W p q q2 n c m d m2 d2 r s s' t a b h h' h2 hT ha hb hk hs
    have hn : n = k + 1 := by rw [h.hn, ct, List.length_map, toT_length]
    have hm : m = 2 ^ (k + 1) := by rw [h'.hn, cl_length, toL_length]
    have hm2 : m2 = 2 ^ (k + 1) := by rw [h2.hn, cl_length, toL_length]
    have hp := pow_le hk
    have hp1 : 2 ^ (k + 1) = 2 * 2 ^ k := by rw [Nat.pow_succ]; omega
    have hcB : cB r (k + 1) = 2 * cB r k + r + 1 := rfl
    have hax : Sz s (toL k a.1) := Sz.left ha
    have hay : Sz s (toL k a.2) := Sz.right ha
    have hbx : Sz s' (toL k b.1) := Sz.left hb
    have hby : Sz s' (toL k b.2) := Sz.right hb
    have hlen := toL_length k
    have hc' := h'.hc
    have hc2 := h2.hc
    have hC' := h'.hC
    have hC2 := h2.hC
    have hcc := h.hc
    have hCC := h.hC
    have sA1 := h'.take (2 ^ k) (by omega)
    rw [(cl_halves a).1] at sA1
    have s40 := h'.drop (2 ^ k) (by omega)
    rw [(cl_halves a).2] at s40
    have sB1 := h2.take (2 ^ k) (by omega)
    rw [(cl_halves b).1] at sB1
    have s44 := h2.drop (2 ^ k) (by omega)
    rw [(cl_halves b).2] at s44
    have s31 := h.take k (by omega)
    rw [ct_succ, List.take_left' (by rw [ct, List.length_map, toT_length])] at s31
    have hr : (ct (toT (k + 1) t))[k]? = some (cl (toL k t.2)) := by
      rw [ct_succ, List.getElem?_append_right (by rw [ct, List.length_map, toT_length]; omega), ct, List.length_map, toT_length, Nat.sub_self]; rfl
    have hq : Int.tdiv (m : Int) 2 = ((2 ^ k : Nat) : Int) := by rw [show Int.tdiv (m : Int) 2 = ((m / 2 : Nat) : Int) from rfl]; omega
    refine Ok.enter Tryz.func21 rfl rfl rfl rfl fun W0 iEn => ?_
    refine J.seq <| J.reg rfl <| O.as rfl <| JO.nil <| J.seq <| J.seq <| J.reg rfl <| O.mv rfl <| O.len rfl <| O.eq rfl rfl <| JO.nil <| J.condD rfl (fun h15 => ?_) (fun h15 => ?_)
    · skip
      omega -- done
    · skip
      refine J.skip <| J.seq <| J.reg rfl <| O.mv rfl <| O.len rfl <| O.quo (r := ((2 ^ k : Nat) : Int)) rfl rfl (by decide) (by rw [hq]; exact wI (by omega)) <| O.as rfl <| JO.nil <| J.seq <| ?_
      obtain ⟨b36, o36, rfl, hj36, hb36⟩ := (h).placeP hr
      refine J.draw [.ex _, .ex _, .ex _, .ex _, .ex _, .ex _, .ex _, .ex _, .ex _, .ex _, .rel _, .ex _] rfl rfl ⟨fun Wd id ed _ => O.mv rfl <| D.ex, fun Wd id ed _ => O.mv rfl <| D.ex, fun Wd id ed _ => O.len rfl <| D.ex, fun Wd id ed _ => O.sb (r := (k : Int)) rfl rfl ((wI (by omega)).trans (by omega)) <| D.ex, fun Wd id ed _ => O.slh (hi := k) rfl rfl rfl (by omega) <| D.ex, fun Wd id ed _ => O.mv rfl <| D.ex, fun Wd id ed _ => O.mv rfl <| D.ex, fun Wd id ed _ => O.len rfl <| D.ex, fun Wd id ed _ => O.sb (r := (k : Int)) rfl rfl ((wI (by omega)).trans (by omega)) <| D.ex, fun Wd id ed _ => O.ia (j := k) rfl rfl rfl hj36 <| D.ex, fun Wd id ed _ => O.ldTD rfl hb36.to.h rfl rfl (fun _ => rfl), fun Wd id ed _ => O.as rfl <| D.ex, trivial⟩ ?_
      intro Wr4 ir4 er4 v37 h37
      obtain ⟨p37, m37, c37, rfl, s37⟩ := h37.sl
      refine O.as rfl <| JO.nil <| J.seq <| ?_
      refine J.draw [.ex _, .ex _, .ex _, .ex _, .ex _, .ex _, .ex _] rfl rfl ⟨fun Wd id ed _ => O.mv rfl <| D.ex, fun Wd id ed _ => O.mv rfl <| D.ex, fun Wd id ed _ => O.sll (lo := 2 ^ k) rfl rfl rfl (by omega) <| D.ex, fun Wd id ed _ => O.call rfl (ref06_Zero_ok (xs := toL k a.2) s40.to) fun Wd vd id ed hd => D.eq ed hd, fun Wd id ed _ => O.mv rfl <| D.ex, fun Wd id ed _ => O.mv rfl <| D.ex, fun Wd id ed _ => O.sll (lo := 2 ^ k) rfl rfl rfl (by omega) <| D.ex, trivial⟩ ?_
      intro Wr5 ir5 er5
      refine O.call rfl (ref06_Zero_ok (xs := toL k b.2) s44.to) fun W45 v45 i45 e45 h45 => ?_
      subst h45
      refine O.as rfl <| O.as rfl <| JO.nil <| J.seq <| ?_
      refine J.draw [.ex _, .ex _, .ex _, .ex _, .ex _, .ex _, .ex _] rfl rfl ⟨fun Wd id ed _ => O.mv rfl <| D.ex, fun Wd id ed _ => O.mv rfl <| D.ex, fun Wd id ed _ => O.mv rfl <| D.ex, fun Wd id ed _ => O.slh (hi := 2 ^ k) rfl rfl rfl (by omega) <| D.ex, fun Wd id ed _ => O.mv rfl <| D.ex, fun Wd id ed _ => O.mv rfl <| D.ex, fun Wd id ed _ => O.slh (hi := 2 ^ k) rfl rfl rfl (by omega) <| D.ex, trivial⟩ ?_
      intro Wr6 ir6 er6
      refine O.call rfl (ih s31.to sA1.to sB1.to hT.1 hax hbx (by omega) (by omega)) fun W53 v53 i53 e53 h53 => ?_
      obtain ⟨p53, m53, c53, rfl, o53, f53⟩ := h53
      have hn53 : m53 = 2 ^ k := by rw [o53.hn, cl_length, hlen]
      refine O.as rfl <| JO.nil <| J.seq <| J.seq <| J.reg rfl <| O.mv rfl <| O.mv rfl <| ?_
      by_cases hg55 : ∀ x ∈ toL k a.2, x = 0
      · skip
        refine O.set (t := 55) (.bool true) rfl (by rw [decide_eq_true hg55]) <| O.gt rfl rfl <| O.mv rfl <| O.pickT rfl rfl <| JO.nil <| J.condD rfl (fun h57 => ?_) (fun h57 => ?_)
        · skip
          refine J.seq <| J.reg rfl <| O.mv rfl <| O.mv rfl <| O.call rfl (ref02_FromInt_ok (z := 0) (by decide)) fun W60 v60 i60 e60 h60 => ?_
          refine O.call rfl ((ref06_FromRat_own (x := 0) s31.to h60.to (by omega)).own) fun W61 v61 i61 e61 h61 => ?_
          obtain ⟨p61, m61, c61, rfl, s61⟩ := h61.sl
          have hn61 : m61 = 2 ^ k := by rw [s61.hn, cl_length, hlen]
          refine O.app rfl rfl ((o53.ext e60).ext e61) s61.to rfl rfl (by omega) (by omega) fun W62 p62 c62 i62 o62 => O.as rfl <| JO.nil <| J.ret1o rfl (.tmp rfl) fun W' iE iO => ?_
          have := Ows.ret (W0 := W) o62 iE iO
          rw [← cl_append, rat_zero k] at this
          rw [mulzz (zerL hg55) (zerL h57)]
          exact this
        · skip
          refine J.skip <| J.seq <| J.seq <| J.reg rfl <| O.mv rfl <| JO.nil <| J.condD rfl (fun h63 => ?_) (fun h63 => ?_)
          · skip
            refine J.seq <| ?_
            refine J.draw [.ex _, .ex _, .ex _, .ex _, .ex _, .ex _, .ex _, .ex _, .rel _] rfl rfl ⟨fun Wd id ed _ => O.mv rfl <| D.ex, fun Wd id ed _ => O.mv rfl <| D.ex, fun Wd id ed _ => O.mv rfl <| D.ex, fun Wd id ed _ => O.mv rfl <| D.ex, fun Wd id ed _ => O.slh (hi := 2 ^ k) rfl rfl rfl (by omega) <| D.ex, fun Wd id ed _ => O.mv rfl <| D.ex, fun Wd id ed _ => O.mv rfl <| D.ex, fun Wd id ed _ => O.sll (lo := 2 ^ k) rfl rfl rfl (by omega) <| D.ex, fun Wd id ed _ => O.call rfl ((ih s31.to sA1.to s44.to hT.1 hax hby (by omega) (by omega)).own) fun Wd vd id ed hd => D.rel ed hd V.me, trivial⟩ ?_
            intro Wr10 ir10 er10 v72 h72
            obtain ⟨p72, m72, c72, rfl, s72⟩ := h72.sl
            have hn72 : m72 = 2 ^ k := by rw [s72.hn, cl_length, hlen]
            refine O.app rfl rfl (o53.ext er10) s72.to rfl rfl (by omega) (by omega) fun W73 p73 c73 i73 o73 => O.as rfl <| JO.nil <| J.ret1o rfl (.tmp rfl) fun W' iE iO => ?_
            have := Ows.ret (W0 := W) o73 iE iO
            rw [← cl_append] at this
            rw [mulzx (zerL hg55)]
            exact this
          · skip
            exact absurd hg55 h63 -- done
      · skip
        refine O.set (t := 55) (.bool false) rfl (by rw [decide_eq_false hg55]) <| O.gs rfl rfl rfl <| O.pickF rfl rfl <| JO.nil <| J.condF rfl <| J.skip <| J.seq <| J.seq <| J.reg rfl <| O.mv rfl <| JO.nil <| J.condD rfl (fun h63 => ?_) (fun h63 => ?_)
        · skip
          exact absurd h63 hg55 -- done
        · skip
          refine J.skip <| J.seq <| J.seq <| J.reg rfl <| O.mv rfl <| JO.nil <| J.condD rfl (fun h74 => ?_) (fun h74 => ?_)
          · skip
            refine J.seq <| ?_
            refine J.draw [.ex _, .ex _, .ex _, .ex _, .ex _, .ex _, .ex _, .ex _, .rel _] rfl rfl ⟨fun Wd id ed _ => O.mv rfl <| D.ex, fun Wd id ed _ => O.mv rfl <| D.ex, fun Wd id ed _ => O.mv rfl <| D.ex, fun Wd id ed _ => O.mv rfl <| D.ex, fun Wd id ed _ => O.sll (lo := 2 ^ k) rfl rfl rfl (by omega) <| D.ex, fun Wd id ed _ => O.mv rfl <| D.ex, fun Wd id ed _ => O.mv rfl <| D.ex, fun Wd id ed _ => O.slh (hi := 2 ^ k) rfl rfl rfl (by omega) <| D.ex, fun Wd id ed _ => O.call rfl ((ih s31.to s40.to sB1.to hT.1 hay hbx (by omega) (by omega)).own) fun Wd vd id ed hd => D.rel ed hd V.me, trivial⟩ ?_
            intro Wr12 ir12 er12 v83 h83
            obtain ⟨p83, m83, c83, rfl, s83⟩ := h83.sl
            have hn83 : m83 = 2 ^ k := by rw [s83.hn, cl_length, hlen]
            refine O.app rfl rfl (o53.ext er12) s83.to rfl rfl (by omega) (by omega) fun W84 p84 c84 i84 o84 => O.as rfl <| JO.nil <| J.ret1o rfl (.tmp rfl) fun W' iE iO => ?_
            have := Ows.ret (W0 := W) o84 iE iO
            rw [← cl_append] at this
            rw [mulxz (zerL h74)]
            exact this
          · skip
            refine J.skip <| J.seq <| ?_
            refine J.pub o53 fun Wq1 iq1 s53 => ?_
            refine J.sub [(1, _), (2, _), (7, _), (8, _), (9, _), (12, _)] ⟨rfl, rfl, rfl, rfl, rfl, rfl, trivial⟩ ?_
            refine J.draw [.ex _, .ex _, .ex _, .ex _, .ex _, .ex _, .ex _, .ex _, .ex _, .ex _, .rel _, .ex _, .rel _] rfl rfl ⟨fun Wd id ed _ => O.mv rfl <| D.ex, fun Wd id ed _ => O.mv rfl <| D.ex, fun Wd id ed _ => O.mv rfl <| D.ex, fun Wd id ed _ => O.mv rfl <| D.ex, fun Wd id ed _ => O.mv rfl <| D.ex, fun Wd id ed _ => O.mv rfl <| D.ex, fun Wd id ed _ => O.sll (lo := 2 ^ k) rfl rfl rfl (by omega) <| D.ex, fun Wd id ed _ => O.mv rfl <| D.ex, fun Wd id ed _ => O.mv rfl <| D.ex, fun Wd id ed _ => O.sll (lo := 2 ^ k) rfl rfl rfl (by omega) <| D.ex, fun Wd id ed _ => O.call rfl ((ih s31.to s40.to s44.to hT.1 hay hby (by omega) (by omega)).own) fun Wd vd id ed hd => D.rel ed hd V.me, fun Wd id ed _ => O.mv rfl <| D.ex, fun Wd id ed _ => fun _ _ => fun v95 h95 => (by obtain ⟨p95, m95, c95, rfl, s95⟩ := h95.sl; exact O.call rfl ((ih s31.to s95 s37.to hT.1 (hay.mul hT.1 hby) hT.2 (by omega) (by omega)).own) fun Wd vd id ed hd => D.rel ed hd V.me), trivial⟩ ?_
            intro Wr13 ir13 er13 v95 h95 v97 h97
            obtain ⟨p95, m95, c95, rfl, s95⟩ := h95.sl
            obtain ⟨p97, m97, c97, rfl, s97⟩ := h97.sl
            refine O.call rfl (ref06_Add_own s53.to s97.to (by rw [hlen, hlen]) (by omega) (hax.mul hT.1 hbx).qs' ((hay.mul hT.1 hby).mul hT.1 hT.2).qs' (by omega)) fun W98 v98 i98 e98 h98 => ?_
            obtain ⟨p98, m98, c98, rfl, o98, f98⟩ := h98
            have hn98 : m98 = 2 ^ k := by rw [o98.hn, cl_length, ← toL_add, hlen]
            refine O.as rfl <| JO.nil <| J.seq <| ?_
            refine J.draw [.ex _, .ex _, .ex _, .ex _, .ex _, .ex _, .ex _, .ex _, .ex _, .rel _, .ex _, .ex _, .ex _, .ex _, .ex _, .ex _, .ex _, .rel _, .rel _] rfl rfl ⟨fun Wd id ed _ => O.mv rfl <| D.ex, fun Wd id ed _ => O.mv rfl <| D.ex, fun Wd id ed _ => O.mv rfl <| D.ex, fun Wd id ed _ => O.mv rfl <| D.ex, fun Wd id ed _ => O.mv rfl <| D.ex, fun Wd id ed _ => O.slh (hi := 2 ^ k) rfl rfl rfl (by omega) <| D.ex, fun Wd id ed _ => O.mv rfl <| D.ex, fun Wd id ed _ => O.mv rfl <| D.ex, fun Wd id ed _ => O.sll (lo := 2 ^ k) rfl rfl rfl (by omega) <| D.ex, fun Wd id ed _ => O.call rfl ((ih s31.to sA1.to s44.to hT.1 hax hby (by omega) (by omega)).own) fun Wd vd id ed hd => D.rel ed hd V.me, fun Wd id ed _ => O.mv rfl <| D.ex, fun Wd id ed _ => O.mv rfl <| D.ex, fun Wd id ed _ => O.mv rfl <| D.ex, fun Wd id ed _ => O.sll (lo := 2 ^ k) rfl rfl rfl (by omega) <| D.ex, fun Wd id ed _ => O.mv rfl <| D.ex, fun Wd id ed _ => O.mv rfl <| D.ex, fun Wd id ed _ => O.slh (hi := 2 ^ k) rfl rfl rfl (by omega) <| D.ex, fun Wd id ed _ => fun v108 h108 => (by obtain ⟨p108, m108, c108, rfl, s108⟩ := h108.sl; exact O.call rfl ((ih s31.to s40.to sB1.to hT.1 hay hbx (by omega) (by omega)).own) fun Wd vd id ed hd => D.rel ed hd V.me), fun Wd id ed _ => fun v108 h108 => fun _ _ => fun v116 h116 => (by obtain ⟨p108, m108, c108, rfl, s108⟩ := h108.sl; obtain ⟨p116, m116, c116, rfl, s116⟩ := h116.sl; exact O.call rfl ((ref06_Add_own s108 s116 (by rw [hlen, hlen]) (by have := s108.hn; rw [cl_length, hlen] at this; omega) (hax.mul hT.1 hby).qs' (hay.mul hT.1 hbx).qs' (by omega)).own) fun Wd vd id ed hd => D.rel ed hd V.me), trivial⟩ ?_
            intro Wr14 ir14 er14 v108 h108 v116 h116 v117 h117
            obtain ⟨p108, m108, c108, rfl, s108⟩ := h108.sl
            obtain ⟨p116, m116, c116, rfl, s116⟩ := h116.sl
            obtain ⟨p117, m117, c117, rfl, s117⟩ := h117.sl
            have hn117 : m117 = 2 ^ k := by rw [s117.hn, cl_length, ← toL_add, hlen]
            refine O.app rfl rfl (o98.ext er14) s117.to rfl rfl (by omega) (by omega) fun W118 p118 c118 i118 o118 => O.as rfl <| JO.nil <| J.ret1o rfl (.tmp rfl) fun W' iE iO => ?_
            have := Ows.ret (W0 := W) o118 iE iO
            rw [← cl_append, ← toL_add, ← toL_add] at this
            exact this
theorem ref06_Norm_own {k : Nat} {W : GW} {p q : Option Addr} {n c m d r s : Nat} {t : Tw (k + 1)} {a : El (k + 1)} (h : Sl RE W p n c (ct (toT (k + 1) t))) (h' : Sl RQ W q m d (cl (toL (k + 1) a)))
    (hT : TS r (k + 1) t) (ha : Sz s (toL (k + 1) a)) (hk : k + 1 ≤ 16) (hs : nB r k s ≤ 8796093022208) :
    Ok Tryz.prog 75 [.slice p n c, .slice q m d] W fun W' v => OwnR RQ W W' v (cl (toL k (Tow.norm k t a))) := by
  have hn : n = k + 1 := by rw [h.hn, ct, List.length_map, toT_length]
  have hm : m = 2 ^ (k + 1) := by rw [h'.hn, cl_length, toL_length]
  have hp := pow_le hk
  have hp1 : 2 ^ (k + 1) = 2 * 2 ^ k := by rw [Nat.pow_succ]; omega
  have hx : Sz s (toL k a.1) := Sz.left ha
  have hy : Sz s (toL k a.2) := Sz.right ha
  have hlen := toL_length k
  have hnb : nB r k s = 4 * s + 3 * cB r k + r + 1 := rfl
  have hc' := h'.hc
  have hC' := h'.hC
  have hcc := h.hc
  have hCC := h.hC
  have sA1 := h'.take (2 ^ k) (by omega)
  rw [(cl_halves a).1] at sA1
  have sA2 := h'.drop (2 ^ k) (by omega)
  rw [(cl_halves a).2] at sA2
  have s15 := h.take k (by omega)
  rw [ct_succ, List.take_left' (by rw [ct, List.length_map, toT_length])] at s15
  have hr : (ct (toT (k + 1) t))[k]? = some (cl (toL k t.2)) := by
    rw [ct_succ, List.getElem?_append_right (by rw [ct, List.length_map, toT_length]; omega), ct, List.length_map, toT_length, Nat.sub_self]; rfl
  have hq : Int.tdiv (m : Int) 2 = ((2 ^ k : Nat) : Int) := by rw [show Int.tdiv (m : Int) 2 = ((m / 2 : Nat) : Int) from rfl]; omega
  refine Ok.enter Tryz.func75 rfl rfl rfl rfl fun W0 iEn => ?_
  refine J.seq <| J.reg rfl <| O.as rfl <| JO.nil <| J.seq <| J.reg rfl <| O.mv rfl <| O.len rfl <| O.quo (r := ((2 ^ k : Nat) : Int)) rfl rfl (by decide) (by rw [hq]; exact wI (by omega)) <| O.as rfl <| JO.nil <| J.seq <| ?_
  obtain ⟨b20, o20, rfl, hj20, hb20⟩ := (h).placeP hr
  refine J.draw [.ex _, .ex _, .ex _, .ex _, .ex _, .ex _, .ex _, .ex _, .ex _, .ex _, .rel _, .ex _] rfl rfl ⟨fun Wd id ed _ => O.mv rfl <| D.ex, fun Wd id ed _ => O.mv rfl <| D.ex, fun Wd id ed _ => O.len rfl <| D.ex, fun Wd id ed _ => O.sb (r := (k : Int)) rfl rfl ((wI (by omega)).trans (by omega)) <| D.ex, fun Wd id ed _ => O.slh (hi := k) rfl rfl rfl (by omega) <| D.ex, fun Wd id ed _ => O.mv rfl <| D.ex, fun Wd id ed _ => O.mv rfl <| D.ex, fun Wd id ed _ => O.len rfl <| D.ex, fun Wd id ed _ => O.sb (r := (k : Int)) rfl rfl ((wI (by omega)).trans (by omega)) <| D.ex, fun Wd id ed _ => O.ia (j := k) rfl rfl rfl hj20 <| D.ex, fun Wd id ed _ => O.ldTD rfl hb20.to.h rfl rfl (fun _ => rfl), fun Wd id ed _ => O.as rfl <| D.ex, trivial⟩ ?_
  intro Wr2 ir2 er2 v21 h21
  obtain ⟨p21, m21, c21, rfl, s21⟩ := h21.sl
  refine O.as rfl <| JO.nil <| J.seq <| ?_
  refine J.draw [.ex _, .ex _, .ex _, .ex _, .ex _, .ex _, .ex _, .ex _, .rel _, .ex _, .ex _, .ex _, .ex _, .ex _, .ex _, .ex _, .ex _, .rel _, .ex _, .rel _] rfl rfl ⟨fun Wd id ed _ => O.mv rfl <| D.ex, fun Wd id ed _ => O.mv rfl <| D.ex, fun Wd id ed _ => O.mv rfl <| D.ex, fun Wd id ed _ => O.mv rfl <| D.ex, fun Wd id ed _ => O.slh (hi := 2 ^ k) rfl rfl rfl (by omega) <| D.ex, fun Wd id ed _ => O.mv rfl <| D.ex, fun Wd id ed _ => O.mv rfl <| D.ex, fun Wd id ed _ => O.slh (hi := 2 ^ k) rfl rfl rfl (by omega) <| D.ex, fun Wd id ed _ => O.call rfl ((ref06_Mul_own s15.to sA1.to sA1.to hT.1 hx hx (by omega) (by omega)).own) fun Wd vd id ed hd => D.rel ed hd V.me, fun Wd id ed _ => O.mv rfl <| D.ex, fun Wd id ed _ => O.mv rfl <| D.ex, fun Wd id ed _ => O.mv rfl <| D.ex, fun Wd id ed _ => O.mv rfl <| D.ex, fun Wd id ed _ => O.sll (lo := 2 ^ k) rfl rfl rfl (by omega) <| D.ex, fun Wd id ed _ => O.mv rfl <| D.ex, fun Wd id ed _ => O.mv rfl <| D.ex, fun Wd id ed _ => O.sll (lo := 2 ^ k) rfl rfl rfl (by omega) <| D.ex, fun Wd id ed _ => fun v30 h30 => (by obtain ⟨p30, m30, c30, rfl, s30⟩ := h30.sl; exact O.call rfl ((ref06_Mul_own s15.to sA2.to sA2.to hT.1 hy hy (by omega) (by omega)).own) fun Wd vd id ed hd => D.rel ed hd V.me), fun Wd id ed _ => O.mv rfl <| D.ex, fun Wd id ed _ => fun _ _ => fun v39 h39 => (by obtain ⟨p39, m39, c39, rfl, s39⟩ := h39.sl; exact O.call rfl ((ref06_Mul_own s15.to s39 s21.to hT.1 (hy.mul hT.1 hy) hT.2 (by omega) (by omega)).own) fun Wd vd id ed hd => D.rel ed hd V.me), trivial⟩ ?_
  intro Wr3 ir3 er3 v30 h30 v39 h39 v41 h41
  obtain ⟨p30, m30, c30, rfl, s30⟩ := h30.sl
  obtain ⟨p39, m39, c39, rfl, s39⟩ := h39.sl
  obtain ⟨p41, m41, c41, rfl, s41⟩ := h41.sl
  have hn30 : m30 = 2 ^ k := by rw [s30.hn, cl_length, hlen]
  refine O.call rfl (ref06_Sub_own s30.to s41.to (by rw [hlen, hlen]) (by omega) (hx.mul hT.1 hx).qs' ((hy.mul hT.1 hy).mul hT.1 hT.2).qs' (by omega)) fun W42 v42 i42 e42 h42 => ?_
  obtain ⟨p42, m42, c42, rfl, o42, f42⟩ := h42
  refine O.as rfl <| JO.nil <| J.ret1o rfl (.tmp rfl) fun W' iE iO => ?_
  have := Ows.ret (W0 := W) o42 iE iO
  rw [← toL_neg, ← toL_add] at this
  exact this
theorem ref06_Root_ok {W : GW} {p : Option Addr} {n c k i : Nat} {t : Tw k} (h : Sl RE W p n c (ct (toT k t))) (hk : k ≤ 16) (hi : i < k) :
    Ok Tryz.prog 102 [.slice p n c, .int .i64 (i : Int)] W fun W' v => V RE W' v (cl (toL k (root k i))) := by
  have hn : n = k := by rw [h.hn, ct_length]
  have hp := pow_le hk
  have hpi : 2 ^ i < 2 ^ k := Nat.pow_lt_pow_right (by decide) hi
  have hp0 := Nat.two_pow_pos k
  have hp1 := Nat.two_pow_pos i
  refine Ok.enter Tryz.func102 rfl rfl rfl rfl fun W0 iEn => ?_
  refine J.seq <| J.reg rfl <| O.as rfl <| JO.nil <| J.seq <| J.reg rfl <| O.mv rfl <| O.call rfl (ref02_FromInt_ok (z := 0) (by decide)) fun W7 v7 i7 e7 h7 => ?_
  refine O.call rfl (ref06_FromRat_own (x := 0) h.to h7.to (by omega)) fun W8 v8 i8 e8 h8 => ?_
  obtain ⟨p8, m8, c8, rfl, o8, f8⟩ := h8
  have hn8 : m8 = 2 ^ k := by rw [o8.hn, cl_length, toL_length, hn]
  obtain ⟨b8, rfl⟩ : ∃ b, p8 = some ⟨b, 0, none⟩ := by
    rcases o8.h with h0 | ⟨b, _, _, hp, _⟩
    · have := o8.hc; omega
    · exact ⟨b, hp⟩
  refine O.as rfl <| JO.nil <| J.seq <| ?_
  refine J.draw [.ex _, .ex _, .ex _, .rel _] rfl rfl ⟨fun Wd id ed _ => O.mv rfl <| D.ex, fun Wd id ed _ => O.mv rfl <| D.ex, fun Wd id ed _ => O.shl rfl rfl (by omega) (shl1 (i := i) (by omega)) <| D.ex, fun Wd id ed _ => O.call rfl (ref02_FromInt_ok (z := 1) (by decide)) fun Wd vd id ed hd => D.rel ed hd V.me, trivial⟩ ?_
  intro Wr2 ir2 er2 v12 h12
  have o9 := o8.ext er2
  refine O.iaB (r := RQ) (j := 2 ^ i) rfl rfl rfl o9 (by omega) rfl <| O.sto (r := RQ) (j := 2 ^ i) (u := cq 1) rfl rfl o9 (by omega) h12.to rfl (.inl rfl) fun W6 i6 o6 => JO.nil <| J.seq <| J.reg rfl <| O.mv rfl <| O.as rfl <| JO.nil <| J.ret1 rfl (.tmp rfl) fun W' iE iP => ?_
  have e : (cl (toL n (rat n 0))).set (2 ^ i) (cq 1) = cl (toL k (root k i)) := by
    rw [hn, rat_zero, toL_zero, toL_root hi, cl, cl, List.map_set]
  rw [e] at o6
  exact (o6.pub iE iP).v
end
section
section
variable {W : GW} {p q q2 : Option Addr} {n c m d m2 d2 r s s' k : Nat} {t : Tw k} {a b : El k}
theorem tower_Add_ok (h : Sl RE W p n c (ct (toT k t))) (h' : Sl RQ W q m d (cl (toL k a))) (h2 : Sl RQ W q2 m2 d2 (cl (toL k b))) (hT : TS r k t) (ha : Sz s (toL k a)) (hb : Sz s' (toL k b)) (hk : k ≤ 16) (hs : s + s' ≤ 8796093022208) (hr : r ≤ 17592186044416) :
    Ok Tryz.prog 29 [.slice p n c, .slice q m d, .slice q2 m2 d2] W fun W' v => V RE W' v (cl (toL k (add k a b))) := by
  have hp := pow_le hk
  have hm : m = 2 ^ k := by rw [h'.hn, cl_length, toL_length]
  refine Ok.enter Tryz.func29 rfl rfl rfl rfl fun W0 iEn => ?_
  refine J.seq <| J.reg rfl <| O.as rfl <| JO.nil <| J.seq <| J.seq <| J.reg rfl <| O.mv rfl <| O.mv rfl <| O.mv rfl <| O.call rfl (tower_formed_ok h.to h'.to h2.to (small_ct hT hr) (small_cl ha.qs' (by omega)) (small_cl hb.qs' (by omega)) (by rw [ct_length]; omega)) fun W10 v10 i10 e10 h10 => ?_
  obtain ⟨b2, rfl, hb2⟩ := h10
  have hb2' := hb2.2 ⟨okT_ct t, okE_cl (by rw [ct_length, toL_length]), okE_cl (by rw [ct_length, toL_length])⟩
  subst hb2'
  refine O.not rfl <| JO.nil <| J.condF rfl <| J.skip <| J.seq <| J.reg rfl <| O.mv rfl <| O.mv rfl <| ?_
  refine O.call rfl ((tower_add_own h'.to h2.to (by rw [toL_length, toL_length]) (by omega) ha.qs' hb.qs' (by omega)).own) fun W14 v14 i14 e14 h14 => ?_
  obtain ⟨p14, m14, c14, rfl, s14⟩ := h14.sl
  refine O.as rfl <| JO.nil <| J.ret1 rfl (.tmp rfl) fun W' iE iP => ?_
  rw [toL_add]
  exact h14.to
theorem tower_Sub_ok (h : Sl RE W p n c (ct (toT k t))) (h' : Sl RQ W q m d (cl (toL k a))) (h2 : Sl RQ W q2 m2 d2 (cl (toL k b))) (hT : TS r k t) (ha : Sz s (toL k a)) (hb : Sz s' (toL k b)) (hk : k ≤ 16) (hs : s + s' ≤ 8796093022208) (hr : r ≤ 17592186044416) :
    Ok Tryz.prog 85 [.slice p n c, .slice q m d, .slice q2 m2 d2] W fun W' v => V RE W' v (cl (toL k (add k a (neg k b)))) := by
  have hp := pow_le hk
  have hm : m = 2 ^ k := by rw [h'.hn, cl_length, toL_length]
  have hm2 : m2 = 2 ^ k := by rw [h2.hn, cl_length, toL_length]
  refine Ok.enter Tryz.func85 rfl rfl rfl rfl fun W0 iEn => ?_
  refine J.seq <| J.reg rfl <| O.as rfl <| JO.nil <| J.seq <| J.seq <| J.reg rfl <| O.mv rfl <| O.mv rfl <| O.mv rfl <| O.call rfl (tower_formed_ok h.to h'.to h2.to (small_ct hT hr) (small_cl ha.qs' (by omega)) (small_cl hb.qs' (by omega)) (by rw [ct_length]; omega)) fun W10 v10 i10 e10 h10 => ?_
  obtain ⟨b2, rfl, hb2⟩ := h10
  have hb2' := hb2.2 ⟨okT_ct t, okE_cl (by rw [ct_length, toL_length]), okE_cl (by rw [ct_length, toL_length])⟩
  subst hb2'
  refine O.not rfl <| JO.nil <| J.condF rfl <| J.skip <| J.seq <| J.reg rfl <| O.mv rfl <| O.mv rfl <| ?_
  refine O.call rfl ((tower_neg_own h2.to (by omega) hb.qs' (by omega)).own) fun W14 v14 i14 e14 h14 => ?_
  obtain ⟨p14, m14, c14, rfl, s14⟩ := h14.sl
  refine O.call rfl ((tower_add_own h'.to s14.to (by rw [List.length_map, toL_length, toL_length]) (by omega) ha.qs' hb.neg.qs' (by omega)).own) fun W15 v15 i15 e15 h15 => ?_
  obtain ⟨p15, m15, c15, rfl, s15⟩ := h15.sl
  refine O.as rfl <| JO.nil <| J.ret1 rfl (.tmp rfl) fun W' iE iP => ?_
  rw [toL_add, toL_neg]
  exact h15.to
theorem tower_Neg_ok (h : Sl RE W p n c (ct (toT k t))) (h' : Sl RQ W q m d (cl (toL k a))) (hT : TS r k t) (ha : Sz s (toL k a)) (hk : k ≤ 16) (hs : s ≤ 8796093022208) (hr : r ≤ 17592186044416) :
    Ok Tryz.prog 67 [.slice p n c, .slice q m d] W fun W' v => V RE W' v (cl (toL k (neg k a))) := by
  have hp := pow_le hk
  have hm : m = 2 ^ k := by rw [h'.hn, cl_length, toL_length]
  refine Ok.enter Tryz.func67 rfl rfl rfl rfl fun W0 iEn => ?_
  refine J.seq <| J.reg rfl <| O.as rfl <| JO.nil <| J.seq <| J.seq <| J.reg rfl <| O.mv rfl <| O.mv rfl <| O.call rfl (tower_Formed_ok h.to h'.to (small_ct hT hr) (small_cl ha.qs' (by omega)) (by rw [ct_length]; omega)) fun W7 v7 i7 e7 h7 => ?_
  obtain ⟨b2, rfl, hb2⟩ := h7
  have hb2' := hb2.2 ⟨okT_ct t, okE_cl (by rw [ct_length, toL_length])⟩
  subst hb2'
  refine O.not rfl <| JO.nil <| J.condF rfl <| J.skip <| J.seq <| J.reg rfl <| O.mv rfl <| ?_
  refine O.call rfl ((tower_neg_own h'.to (by omega) ha.qs' (by omega)).own) fun W10 v10 i10 e10 h10 => ?_
  obtain ⟨p10, m10, c10, rfl, s10⟩ := h10.sl
  refine O.as rfl <| JO.nil <| J.ret1 rfl (.tmp rfl) fun W' iE iP => ?_
  rw [toL_neg]
  exact h10.to
end
/-! not formed -/
section
variable {W : GW} {p q q2 : Option Addr} {n c m d m2 d2 : Nat} {t : List (List Raw)} {l l2 : List Raw}
theorem tower_FromRat_nil {v : Value} {i : Raw} (h : Sl RE W p n c t) (h' : V RQ W v i) (ht : ∀ r ∈ t, ∀ i ∈ r, smallR i) (hi : smallR i) (ht4 : t.length ≤ 40) (hno : ¬ okT t ∨ ¬ ∃ x, i = cq x) :
    Ok Tryz.prog 83 [.slice p n c, v] W fun W' v => V RE W' v [] := by
  have hn := h.hn
  refine Ok.enter Tryz.func83 rfl rfl rfl rfl fun W0 iEn => ?_
  refine J.seq <| J.reg rfl <| O.boxT rfl h'.to fun W3 b3 i3 hb3 => O.as rfl <| JO.nil <| J.seq <| J.seq <| J.reg rfl <| O.mv rfl <| O.call rfl (tower_radicands_ok h.to ht ht4) fun W7 v7 i7 e7 h7 => ?_
  obtain ⟨b2, rfl, hb2⟩ := h7
  refine O.not rfl <| O.mv rfl <| ?_
  by_cases hg9 : b2 = false
  · skip
    refine O.set (t := 9) (.bool true) rfl (by rw [hg9]; rfl) <| O.gs rfl rfl rfl <| O.gs rfl rfl rfl <| O.gs rfl rfl rfl <| O.pickT rfl rfl <| JO.nil <| J.condT rfl <| J.seq <| J.reg rfl <| O.as rfl <| JO.nil <| J.ret1 rfl (.tmp rfl) fun W' iE iP => ?_
    exact (nil_sl _ _ _).v
  · skip
    refine O.set (t := 9) (.bool false) rfl (by cases b2 <;> simp_all) <| O.gt rfl rfl <| O.ldT rfl hb3.to.h rfl rfl (fun h => nomatch h) fun v10 h10 => O.gt rfl rfl <| O.call rfl (rational_Valid_ok h10.to hi.1 hi.2) fun W11 v11 i11 e11 h11 => ?_
    obtain ⟨b3, rfl, hv3⟩ := h11
    refine O.gt rfl rfl <| O.not rfl <| O.pickF rfl rfl <| JO.nil <| J.cond rfl (fun h13 => ?_) (fun h13 => ?_)
    · skip
      refine J.seq <| J.reg rfl <| O.as rfl <| JO.nil <| J.ret1 rfl (.tmp rfl) fun W' iE iP => ?_
      exact (nil_sl _ _ _).v
    · skip
      exact absurd (hv3.1 (by cases b3 <;> simp_all)) (hno.elim (fun e => absurd (hb2.1 (by cases b2 <;> simp_all)) e) id) -- done
end
theorem tower_FromRat_ok {W : GW} {p : Option Addr} {n c r k : Nat} {v : Value} {x : Rat} {t : Tw k} (h : Sl RE W p n c (ct (toT k t))) (h' : V RQ W v (cq x)) (hT : TS r k t) (hi : smallR (cq x)) (hk : k ≤ 16) (hr : r ≤ 17592186044416) :
    Ok Tryz.prog 83 [.slice p n c, v] W fun W' v => V RE W' v (cl (toL k (rat k x))) := by
  have hn : n = k := by rw [h.hn, ct_length]
  have hp := pow_le hk
  have hp0 := Nat.two_pow_pos k
  refine Ok.enter Tryz.func83 rfl rfl rfl rfl fun W0 iEn => ?_
  refine J.seq <| J.reg rfl <| O.boxT rfl h'.to fun W3 b3 i3 hb3 => O.as rfl <| JO.nil <| J.seq <| J.seq <| J.reg rfl <| O.mv rfl <| O.call rfl (tower_radicands_ok h.to (small_ct hT hr) (by rw [ct_length]; omega)) fun W7 v7 i7 e7 h7 => ?_
  obtain ⟨b2, rfl, hb2⟩ := h7
  have hb2' := hb2.2 (okT_ct t)
  subst hb2'
  refine O.not rfl <| O.mv rfl <| O.gt rfl rfl <| O.ldT rfl hb3.to.h rfl rfl (fun h => nomatch h) fun v10 h10 => O.gt rfl rfl <| O.call rfl (rational_Valid_ok h10.to hi.1 hi.2) fun W11 v11 i11 e11 h11 => ?_
  obtain ⟨b3, rfl, hv3⟩ := h11
  have hb3' := hv3.2 ⟨x, rfl⟩
  subst hb3'
  refine O.gt rfl rfl <| O.not rfl <| O.pickF rfl rfl <| JO.nil <| J.condF rfl <| J.skip <| J.seq <| J.reg rfl <| O.mv rfl <| O.len rfl <| O.shl rfl rfl (by omega) (shl1 (i := n) (by omega)) <| ?_
  refine O.call rfl (tower_zeros_own (n := 2 ^ n) (by rw [hn]; omega)) fun W17 v17 i17 e17 h17 => ?_
  obtain ⟨p17, m17, c17, rfl, o17, f17⟩ := h17
  have hn17 : m17 = 2 ^ k := by rw [o17.hn, cl_length, List.length_replicate, hn]
  obtain ⟨b17, rfl⟩ : ∃ b, p17 = some ⟨b, 0, none⟩ := by
    rcases o17.h with h0 | ⟨b, _, _, hp, _⟩
    · have := o17.hc; omega
    · exact ⟨b, hp⟩
  refine O.as rfl <| JO.nil <| J.seq <| J.reg rfl <| O.mv rfl <| O.ldT rfl hb3.to.h rfl rfl (fun h => nomatch h) fun v19 h19 => O.iaB (r := RQ) (j := 0) rfl rfl rfl o17 (by omega) rfl <| O.sto (r := RQ) (j := 0) (u := cq x) rfl rfl o17 (by omega) h19.to rfl (.inl rfl) fun W6 i6 o6 => JO.nil <| J.seq <| J.reg rfl <| O.mv rfl <| O.as rfl <| JO.nil <| J.ret1 rfl (.tmp rfl) fun W' iE iP => ?_
  have e : (cl (List.replicate (2 ^ n) 0)).set 0 (cq x) = cl (toL k (rat k x)) := by
    rw [hn, toL_rat, cl, cl, ← List.map_set]
    congr 1
    obtain ⟨u, hu⟩ : ∃ u, 2 ^ k = u + 1 := ⟨2 ^ k - 1, by omega⟩
    rw [hu]; rfl
  rw [e] at o6
  exact (o6.pub iE iP).v
end
end Go.Proofs.YtcaikjefkkejbaaGreat

/- The reference's towers: forms. -/
import Derived.Test.YtcaikjefkkejbaaGreatTb
set_option linter.unusedVariables false
set_option linter.unusedSimpArgs false
set_option maxRecDepth 10000
set_option maxHeartbeats 1000000
namespace Go.Proofs.YtcaikjefkkejbaaGreat
open Go Go.Rx Go.Num Go.Tow
theorem ref06_right_ok {W : GW} {p : Option Addr} {n c m : Nat} {l : List Raw} (h : Sl RQ W p n c l) (hl : ∀ i ∈ l, smallR i) :
    Ok Tryz.prog 56 [.slice p n c, .int .i64 (m : Int)] W fun _ r => ∃ b, r = .bool b ∧ (b = true ↔ okE m l) := by
  have hn := h.hn
  have hcc := h.hc
  have hCC := h.hC
  refine Ok.enter Tryz.func56 rfl rfl rfl rfl fun W0 iEn => ?_
  refine J.seq <| J.reg rfl <| O.as rfl <| JO.nil <| J.seq <| J.seq <| J.reg rfl <| O.as rfl <| JO.nil <| J.block <| ?_
  refine J.loop (α := Nat) (fun k => [(0, .slice p n c), (1, .int .i64 (m : Int)), (5, .int .i64 (k : Int))]) (fun k W' => Le W0 W' ∧ k ≤ n ∧ ∀ j i, j < k → l[j]? = some i → ∃ x, i = cq x) (fun k => n - k) 0 ⟨rfl, rfl, rfl, trivial⟩ ⟨inferInstance, Nat.zero_le _, fun _ _ h => nomatch h⟩ ?_
  rintro k W3 ⟨_, hk, hd⟩
  refine J.seq <| J.seq <| J.reg rfl <| O.mv rfl <| O.mv rfl <| O.len rfl <| O.lt rfl rfl <| JO.nil <| J.condD rfl (fun h9 => ?_) (fun h9 => ?_)
  · skip
    obtain ⟨u, hu⟩ : ∃ u, l[k]? = some u := ⟨_, List.getElem?_eq_getElem (by omega)⟩
    refine J.skip <| J.seq <| J.block <| J.seq <| J.reg rfl <| O.mv rfl <| O.mv rfl <| O.ix (r := RQ) (j := k) rfl rfl rfl h.to hu rfl rfl (fun h => nomatch h) fun a v hv => O.call rfl (ref02_Valid_ok hv (hl u (List.mem_of_getElem? hu)).1 (hl u (List.mem_of_getElem? hu)).2) fun W4 v4 i4 e4 h4 => ?_
    obtain ⟨b, rfl, hb⟩ := h4
    refine O.not rfl <| JO.nil <| J.cond rfl (fun h17 => ?_) (fun h17 => ?_)
    · skip
      refine J.seq <| J.reg rfl <| O.as rfl <| JO.nil <| J.ret1 rfl (.tmp rfl) fun W' iE iP => ?_
      exact ⟨false, rfl, fun h => (nomatch h), fun h => by rw [hb.2 (h.2 u (List.mem_of_getElem? hu))] at h17; cases h17⟩
    · skip
      refine J.skip <| J.bend <| J.reg rfl <| O.mv rfl <| O.add rfl rfl (wI (by omega)) <| O.as rfl <| JO.nil <| ?_
      have hbt : b = true := by simpa using h17
      exact J.at' (k + 1) ⟨rfl, rfl, rfl, trivial⟩ ⟨⟨inferInstance, by omega, fun j i hj hji => by
        by_cases hjk : j = k
        · subst hjk; rw [hu] at hji; injection hji with hji; subst hji; exact hb.1 hbt
        · exact hd j i (by omega) hji⟩, by omega⟩
  · skip
    refine J.exit rfl <| J.seq <| J.reg rfl <| O.mv rfl <| O.len rfl <| O.mv rfl <| O.eq rfl rfl <| O.as rfl <| JO.nil <| J.ret1 rfl (.tmp rfl) fun W' iE iP => ?_
    refine ⟨_, rfl, ?_⟩
    rw [decide_eq_true_eq]
    constructor
    · intro h; refine ⟨by omega, fun i hi => ?_⟩
      obtain ⟨j, hj⟩ := List.getElem?_of_mem hi
      exact hd j i (by have := Sl.lt ‹Sl RQ W p n c l› hj; omega) hj
    · intro h; have := h.1; omega
theorem ref06_Tower_ok {W : GW} {p : Option Addr} {n c : Nat} {t : List (List Raw)} (h : Sl RE W p n c t) (hl : ∀ r ∈ t, ∀ i ∈ r, smallR i) (ht : t.length ≤ 40) :
    Ok Tryz.prog 55 [.slice p n c] W fun _ r => ∃ b, r = .bool b ∧ (b = true ↔ okT t) := by
  have hn := h.hn
  refine Ok.enter Tryz.func55 rfl rfl rfl rfl fun W0 iEn => ?_
  refine J.seq <| J.reg rfl <| O.as rfl <| JO.nil <| J.seq <| J.seq <| J.reg rfl <| O.as rfl <| JO.nil <| J.block <| ?_
  refine J.loop (α := Nat) (fun k => [(0, .slice p n c), (3, .int .i64 (k : Int))]) (fun k W' => Le W0 W' ∧ k ≤ n ∧ ∀ i r, i < k → t[i]? = some r → okE (2 ^ i) r) (fun k => n - k) 0 ⟨rfl, rfl, trivial⟩ ⟨inferInstance, Nat.zero_le _, fun _ _ h => nomatch h⟩ ?_
  rintro k W3 ⟨_, hk, hd⟩
  refine J.seq <| J.seq <| J.reg rfl <| O.mv rfl <| O.mv rfl <| O.len rfl <| O.lt rfl rfl <| JO.nil <| J.condD rfl (fun h7 => ?_) (fun h7 => ?_)
  · skip
    obtain ⟨u, hu⟩ : ∃ u, t[k]? = some u := ⟨_, List.getElem?_eq_getElem (by omega)⟩
    obtain ⟨b3, o3, rfl, hj3, hp3⟩ := h.place hu
    refine J.sub [(0, _), (3, _)] ⟨rfl, rfl, trivial⟩ ?_
    refine J.skip <| J.seq <| J.block <| J.seq <| ?_
    refine J.draw [.ex _, .ex _, .ex _, .rel _, .ex _, .ex _] rfl rfl ⟨fun W1 i1 e1 _ => O.mv rfl <| D.ex, fun W1 i1 e1 _ => O.mv rfl <| D.ex, fun W1 i1 e1 _ => O.ia (j := k) rfl rfl rfl hj3 <| D.ex, fun W1 i1 e1 _ => O.ldP (r := RE) rfl (hp3 _ Lf.s) rfl rfl (fun _ => rfl) fun v hv => D.rel (R := fun W v => V RE W v u) (Ext.refl _) hv V.me, fun W1 i1 e1 _ => O.mv rfl <| D.ex, fun W1 i1 e1 _ => O.shl rfl rfl (by omega) (shl1 (i := k) (by omega)) <| D.ex, trivial⟩ ?_
    intro W1 i1 e1 v13 h13
    obtain ⟨pu, nu, cu, rfl, hsu⟩ := h13.sl
    refine O.call rfl (ref06_right_ok hsu (hl u (List.mem_of_getElem? hu))) fun W4 v4 i4 e4 h4 => ?_
    obtain ⟨b, rfl, hb⟩ := h4
    refine O.not rfl <| JO.nil <| J.cond rfl (fun h17 => ?_) (fun h17 => ?_)
    · skip
      refine J.seq <| J.reg rfl <| O.as rfl <| JO.nil <| J.ret1 rfl (.tmp rfl) fun W' iE iP => ?_
      exact ⟨false, rfl, fun h => (nomatch h), fun h => by rw [hb.2 (h k u hu)] at h17; cases h17⟩
    · skip
      refine J.skip <| J.bend <| J.reg rfl <| O.mv rfl <| O.add rfl rfl (wI (by omega)) <| O.as rfl <| JO.nil <| ?_
      have hbt : b = true := by simpa using h17
      exact J.at' (k + 1) ⟨rfl, rfl, trivial⟩ ⟨⟨inferInstance, by omega, fun i r hi hr => by
        by_cases hik : i = k
        · subst hik; rw [hu] at hr; injection hr with hr; subst hr; exact hb.1 hbt
        · exact hd i r (by omega) hr⟩, by omega⟩
  · skip
    refine J.exit rfl <| J.seq <| J.reg rfl <| O.as rfl <| JO.nil <| J.ret1 rfl (.tmp rfl) fun W' iE iP => ?_
    refine ⟨true, rfl, fun _ i r hr => hd i r ?_ hr, fun _ => rfl⟩
    have : i < t.length := by
      by_cases h : i < t.length
      · exact h
      · rw [List.getElem?_eq_none (by omega)] at hr; cases hr
    omega
theorem ref06_Formed_ok {W : GW} {p q : Option Addr} {n c m d : Nat} {t : List (List Raw)} {l : List Raw} (h : Sl RE W p n c t) (h' : Sl RQ W q m d l) (ht : ∀ r ∈ t, ∀ i ∈ r, smallR i) (hl : ∀ i ∈ l, smallR i) (ht4 : t.length ≤ 40) :
    Ok Tryz.prog 28 [.slice p n c, .slice q m d] W fun _ r => ∃ b, r = .bool b ∧ (b = true ↔ okT t ∧ okE (2 ^ t.length) l) := by
  have hn := h.hn
  refine Ok.enter Tryz.func28 rfl rfl rfl rfl fun W0 iEn => ?_
  refine J.seq <| J.reg rfl <| O.as rfl <| JO.nil <| J.seq <| J.reg rfl <| O.mv rfl <| O.call rfl (ref06_Tower_ok h.to ht ht4) fun W4 v4 i4 e4 h4 => ?_
  obtain ⟨b, rfl, hb⟩ := h4
  refine O.mv rfl <| ?_
  by_cases hg7 : b = true
  · skip
    refine O.set (t := 7) (.bool true) rfl (by rw [hg7]) <| O.gt rfl rfl <| O.mv rfl <| O.gt rfl rfl <| O.mv rfl <| O.gt rfl rfl <| O.len rfl <| O.gt rfl rfl <| O.shl rfl rfl (by omega) (shl1 (i := n) (by omega)) <| O.gt rfl rfl <| O.call rfl (ref06_right_ok h'.to hl) fun W5 v5 i5 e5 h5 => ?_
    obtain ⟨b2, rfl, hb2⟩ := h5
    refine O.pickT rfl rfl <| O.as rfl <| JO.nil <| J.ret1 rfl (.tmp rfl) fun W' iE iP => ?_
    exact ⟨_, rfl, by rw [hb2, ← hn]; exact ⟨fun h => ⟨hb.1 hg7, h⟩, fun h => h.2⟩⟩
  · skip
    refine O.set (t := 7) (.bool false) rfl (by rw [Bool.eq_false_iff.2 hg7]) <| O.gs rfl rfl rfl <| O.gs rfl rfl rfl <| O.gs rfl rfl rfl <| O.gs rfl rfl rfl <| O.gs rfl rfl rfl <| O.pickF rfl rfl <| O.as rfl <| JO.nil <| J.ret1 rfl (.tmp rfl) fun W' iE iP => ?_
    exact ⟨false, rfl, fun h => (nomatch h), fun h => absurd (hb.2 h.1) hg7⟩
theorem ref06_FromRat_own {W : GW} {p : Option Addr} {n c : Nat} {t : List (List Raw)} {v : Value} {x : Rat} (h : Sl RE W p n c t) (hv : V RQ W v (cq x)) (ht : n ≤ 16) :
    Ok Tryz.prog 47 [.slice p n c, v] W fun W' r => OwnR RQ W W' r (cl (toL n (rat n x))) := by
  obtain ⟨p1, n1, c1, p2, n2, c2, rfl, h1, h2⟩ := unQ hv
  have hp := pow_le ht
  have hp0 := Nat.two_pow_pos n
  have hfin : ∀ m, cq x :: List.replicate (m - 1) (cq 0) = cl (x :: List.replicate (m - 1) 0) := fun m => by rw [cl, List.map_cons, List.map_replicate]
  refine Ok.enter Tryz.func47 rfl rfl rfl rfl fun W0 iEn => ?_
  refine J.seq <| J.reg rfl <| O.box rfl fun W1 b1 i1 hb1 => O.as rfl <| JO.nil <| J.seq <| J.reg rfl <| O.ldBw rfl hb1.to rfl <| O.bso (r := RQ) [cq x] rfl ⟨mkQ h1.to h2.to, trivial⟩ rfl rfl rfl (by decide) (.inl rfl) (by decide) fun W2 b2 i2 e2 hb2 o2 => O.as rfl <| JO.nil <| J.seq <| J.block <| ?_
  refine J.loop (α := Nat × Option Addr × Nat) (fun g => [(0, .slice p n c), (5, .slice g.2.1 g.1 g.2.2)]) (fun g W' => Le W0 W' ∧ Ows RQ W' g.2.1 g.1 g.2.2 (cq x :: List.replicate (g.1 - 1) (cq 0)) ∧ 1 ≤ g.1 ∧ g.1 ≤ 2 ^ n) (fun g => 2 ^ n - g.1) (1, some ⟨b2, 0, none⟩, 1) ⟨rfl, rfl, trivial⟩ ⟨inferInstance, o2, Nat.le_refl _, hp0⟩ ?_
  rintro ⟨m, p5, c5⟩ W3 ⟨_, ho, hm1, hm⟩
  dsimp only at *
  refine J.seq <| J.seq <| J.reg rfl <| O.mv rfl <| O.len rfl <| O.mv rfl <| O.len rfl <| O.shl rfl rfl (by omega) (shl1 (i := n) (by omega)) <| O.lt rfl rfl <| JO.nil <| J.condD rfl (fun h13 => ?_) (fun h13 => ?_)
  · skip
    refine J.skip <| J.block <| J.reg rfl <| O.mv rfl <| O.call rfl (ref02_FromInt_ok (z := 0) (by decide)) fun W4 v4 i4 e4 h4 => ?_
    have ho4 := ho.ext e4
    refine O.app1 (r := RQ) (u := cq 0) (fun _ => rfl) rfl ho4 h4 rfl rfl (by decide) (.inl rfl) (by decide) (by omega) (by omega) fun W5 p6 c6 v5 i5 o5 => O.as rfl <| JO.nil <| J.bend <| ?_
    exact J.at' (m + 1, p6, c6) ⟨rfl, rfl, trivial⟩ ⟨⟨inferInstance, by
      have e : cq x :: List.replicate (m + 1 - 1) (cq 0) = cq x :: List.replicate (m - 1) (cq 0) ++ [cq 0] := by
        rw [List.cons_append, ← List.replicate_succ', show m - 1 + 1 = m + 1 - 1 from by omega]
      rw [e]; exact o5, by show 1 ≤ m + 1; omega, by show m + 1 ≤ _; omega⟩, by show 2 ^ n - (m + 1) < 2 ^ n - m; omega⟩
  · skip
    refine J.exit rfl <| J.seq <| J.reg rfl <| O.mv rfl <| O.as rfl <| JO.nil <| ?_
    have hmn : m = 2 ^ n := by omega
    rw [hfin, hmn, ← toL_rat] at ho
    refine J.ret1o rfl (.tmp rfl) fun W' iE iO => ?_
    rw [hmn]
    exact ho.ret iE iO
theorem atQ {W : GW} {cs : List Value} {i : Raw} (h : RQ.At W cs i) : ∃ p1 n1 c1 p2 n2 c2, cs = [.bool i.1.1, .slice p1 n1 c1, .bool i.2.1, .slice p2 n2 c2] ∧ Sl RW W p1 n1 c1 i.1.2 ∧ Sl RW W p2 n2 c2 i.2.2 := by
  obtain ⟨k1, k2, rfl, ⟨e1, e2, rfl, h1, p1, n1, c1, h2, h3⟩, ⟨f1, f2, rfl, g1, p2, n2, c2, g2, g3⟩⟩ := h
  obtain rfl : e1 = [.bool i.1.1] := h1
  obtain rfl : f1 = [.bool i.2.1] := g1
  subst h2
  subst g2
  exact ⟨p1, n1, c1, p2, n2, c2, rfl, h3, g3⟩
theorem ref06_Zero_ok {W : GW} {p : Option Addr} {n c : Nat} {xs : List Rat} (h : Sl RQ W p n c (cl xs)) :
    Ok Tryz.prog 24 [.slice p n c] W fun _ r => r = .bool (decide (∀ x ∈ xs, x = 0)) := by
  have hn := h.hn
  have hcc := h.hc
  have hCC := h.hC
  rw [cl_length] at hn
  refine Ok.enter Tryz.func24 rfl rfl rfl rfl fun W0 iEn => ?_
  refine J.seq <| J.reg rfl <| O.as rfl <| JO.nil <| J.seq <| J.seq <| J.reg rfl <| O.as rfl <| JO.nil <| J.block <| ?_
  refine J.loop (α := Nat) (fun k => [(0, .slice p n c), (3, .int .i64 (k : Int))]) (fun k W' => Le W0 W' ∧ k ≤ n ∧ ∀ j x, j < k → xs[j]? = some x → x = 0) (fun k => n - k) 0 ⟨rfl, rfl, trivial⟩ ⟨inferInstance, Nat.zero_le _, fun _ _ h => nomatch h⟩ ?_
  rintro k W3 ⟨_, hk, hd⟩
  refine J.seq <| J.seq <| J.reg rfl <| O.mv rfl <| O.mv rfl <| O.len rfl <| O.lt rfl rfl <| JO.nil <| J.condD rfl (fun h7 => ?_) (fun h7 => ?_)
  · skip
    obtain ⟨x, hx⟩ := rat_get (xs := xs) (i := k) (by omega)
    refine J.skip <| J.seq <| J.block <| J.seq <| J.reg rfl <| O.mv rfl <| O.mv rfl <| O.iaS (r := RQ) (j := k) rfl rfl rfl h.to (cl_get hx) rfl fun b off cs hcs hcell => ?_
    obtain ⟨p1, n1, c1, p2, n2, c2, rfl, h1, h2⟩ := atQ hcs
    have hn1 : n1 = (dig x.num.natAbs).length := h1.hn
    have hz := @dig_len0 x.num.natAbs
    have hx0 := @Rat.num_eq_zero x
    refine O.fa rfl <| O.fa rfl <| O.ldC rfl (hcell 1 _ rfl) <| O.len rfl <| O.gtr rfl rfl <| JO.nil <| J.condD rfl (fun h17 => ?_) (fun h17 => ?_)
    · skip
      refine J.seq <| J.reg rfl <| O.as rfl <| JO.nil <| J.ret1 rfl (.tmp rfl) fun W' iE iP => ?_
      congr 1
      refine (decide_eq_false fun h => ?_).symm
      have := h x (List.mem_of_getElem? hx)
      have := hx0.2 this
      omega
    · skip
      refine J.skip <| J.bend <| J.reg rfl <| O.mv rfl <| O.add rfl rfl (wI (by omega)) <| O.as rfl <| JO.nil <| ?_
      have hxz : x = 0 := hx0.1 (by omega)
      exact J.at' (k + 1) ⟨rfl, rfl, trivial⟩ ⟨⟨inferInstance, by omega, fun j y hj hy => by
        by_cases hjk : j = k
        · subst hjk; rw [hx] at hy; injection hy with hy; rw [← hy, hxz]
        · exact hd j y (by omega) hy⟩, by omega⟩
  · skip
    refine J.exit rfl <| J.seq <| J.reg rfl <| O.as rfl <| JO.nil <| J.ret1 rfl (.tmp rfl) fun W' iE iP => ?_
    congr 1
    refine (decide_eq_true fun x hx => ?_).symm
    obtain ⟨j, hj⟩ := List.getElem?_of_mem hx
    exact hd j x (by have := Sl.lt ‹_› (cl_get hj); omega) hj
end Go.Proofs.YtcaikjefkkejbaaGreat

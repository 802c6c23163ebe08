/- The statements about towers: the functions that they share. -/
import Derived.Test.YtcobdnnfmhfenaaGreatVa
set_option linter.unusedVariables false
set_option linter.unusedSimpArgs false
set_option maxRecDepth 10000
set_option maxHeartbeats 2000000
namespace Go.Proofs.YtcobdnnfmhfenaaGreat
open Go Go.Rx Go.Num Go.Tow

def fewR (i : Raw) : Prop := i.1.2.length ≤ 4 ∧ i.2.2.length ≤ 4
def fewL (l : List Raw) : Prop := l.length ≤ 16 ∧ ∀ i ∈ l, fewR i
theorem fewR.small {i : Raw} (h : fewR i) : smallR i := ⟨Nat.le_trans h.1 (by decide), Nat.le_trans h.2 (by decide)⟩
theorem ref06_Few_ok {W : GW} {p q : Option Addr} {n c m d : Nat} {t ls : List (List Raw)} (h : Sl RE W p n c t) (h' : Sl RE W q m d ls) (hm : m ≤ 1000) :
    Ok Tryz.prog 17 [.slice p n c, .slice q m d] W fun _ r => ∃ b, r = .bool b ∧ (b = true ↔ t.length ≤ 4 ∧ ∀ l ∈ t ++ ls, fewL l) := by
  have hn := h.hn
  have hmm := h'.hn
  refine Ok.enter Tryz.func17 rfl rfl rfl rfl fun W0 iEn => ?_
  refine J.seq <| J.reg rfl <| O.as rfl <| JO.nil <| J.seq <| J.seq <| J.reg rfl <| O.mv rfl <| O.len rfl <| O.gtr rfl rfl <| JO.nil <| J.condD rfl (fun h11 => ?_) (fun h11 => ?_)
  · skip
    refine J.seq <| J.reg rfl <| O.as rfl <| JO.nil <| J.ret1 rfl (.tmp rfl) fun W' iE iP => ?_
    exact ⟨false, rfl, fun h => (nomatch h), fun h => by have := h.1; omega⟩
  · skip
    refine J.skip <| J.seq <| J.seq <| J.reg rfl <| O.bso (r := RE) [] (vs := []) rfl trivial rfl rfl rfl (by decide) (.inr rfl) (by decide) fun W2 b2 i2 e2 hb2 o2 => O.mv rfl <| O.app (r := RE) rfl rfl o2 h.to rfl rfl (by omega) (by omega) fun W3 p3 c3 i3 o3 => O.mv rfl <| O.app (r := RE) rfl rfl o3 h'.to rfl rfl (by omega) (by omega) fun W4 p4 c4 i4 o4 => ?_
    rw [List.nil_append] at o4
    refine O.pub o4 fun W5 i5 s5 => ?_
    have hlen := s5.hn
    obtain ⟨N, hN⟩ : ∃ N, N = 0 + n + m := ⟨_, rfl⟩
    rw [← hN] at s5 hlen ⊢
    refine O.len rfl <| O.mv rfl <| JO.nil <| J.block <| ?_
    refine J.loop (α := Nat) (fun k => [(16, .slice p4 N c4), (17, .int .i64 (N : Int)), (18, .int .i64 (k : Int))]) (fun k W' => Le W5 W' ∧ Le W0 W' ∧ k ≤ N ∧ ∀ j l, j < k → (t ++ ls)[j]? = some l → fewL l) (fun k => N - k) 0 ⟨rfl, rfl, rfl, trivial⟩ ⟨inferInstance, inferInstance, Nat.zero_le _, fun _ _ h => nomatch h⟩ ?_
    rintro k W6 ⟨_, _, hk, hd⟩
    refine J.seq <| J.reg rfl <| O.lt rfl rfl <| JO.nil <| J.seq <| J.condD rfl (fun h19 => ?_) (fun h19 => ?_)
    · skip
      obtain ⟨u, hu⟩ : ∃ u, (t ++ ls)[k]? = some u := ⟨_, List.getElem?_eq_getElem (by omega)⟩
      refine J.skip <| J.seq <| J.block <| J.seq <| J.reg rfl <| O.ix (r := RE) (j := k) rfl rfl rfl s5.to hu rfl rfl (fun _ => rfl) fun a v hv => ?_
      obtain ⟨pu, nu, cu, rfl, su⟩ := hv.sl
      have hnu := su.hn
      refine O.as rfl <| JO.nil <| J.seq <| J.seq <| J.reg rfl <| O.mv rfl <| O.len rfl <| O.gtr rfl rfl <| JO.nil <| J.condD rfl (fun h24 => ?_) (fun h24 => ?_)
      · skip
        refine J.seq <| J.reg rfl <| O.as rfl <| JO.nil <| J.ret1 rfl (.tmp rfl) fun W' iE iP => ?_
        exact ⟨false, rfl, fun h => (nomatch h), fun h => by have := (h.2 u (List.mem_of_getElem? hu)).1; omega⟩
      · skip
        refine J.skip <| J.seq <| J.reg rfl <| O.mv rfl <| O.len rfl <| O.mv rfl <| JO.nil <| J.block <| ?_
        refine J.loop (α := Nat) (fun g => [(16, .slice p4 N c4), (17, .int .i64 (N : Int)), (18, .int .i64 (k : Int)), (25, .slice pu nu cu), (26, .int .i64 (nu : Int)), (27, .int .i64 (g : Int))]) (fun g W' => Le W6 W' ∧ Le W5 W' ∧ Le W0 W' ∧ g ≤ nu ∧ ∀ j i, j < g → u[j]? = some i → fewR i) (fun g => nu - g) 0 ⟨rfl, rfl, rfl, rfl, rfl, rfl, trivial⟩ ⟨inferInstance, inferInstance, inferInstance, Nat.zero_le _, fun _ _ h => nomatch h⟩ ?_
        rintro g W7 ⟨_, _, _, hg, hd2⟩
        refine J.seq <| J.reg rfl <| O.lt rfl rfl <| JO.nil <| J.seq <| J.condD rfl (fun h28 => ?_) (fun h28 => ?_)
        · skip
          obtain ⟨i, hi⟩ : ∃ i, u[g]? = some i := ⟨_, List.getElem?_eq_getElem (by omega)⟩
          refine J.skip <| J.seq <| J.block <| J.seq <| J.reg rfl <| O.ix (r := RQ) (j := g) rfl rfl rfl su.to hi rfl rfl (fun h => nomatch h) fun a v hv => ?_
          obtain ⟨p1, n1, c1, p2, n2, c2, rfl, h1, h2⟩ := unQ hv
          have hn1 := h1.hn
          have hn2 := h2.hn
          refine O.als (sz := 4) (ag := true) (z := [.bool false, .slice none 0 0, .bool false, .slice none 0 0]) (fun _ => rfl) rfl rfl (by simp [oneC, Value.cells]) fun W8 b8 i8 hb8 => JO.nil <| J.seq <| J.reg rfl <| O.fa rfl <| O.fa rfl <| O.ldB rfl hb8.to rfl <| O.len rfl <| O.gtr rfl rfl <| O.mv rfl <| ?_
          by_cases hg36 : 4 < n1
          · skip
            refine O.set (t := 36) (.bool true) rfl (by simp only [Value.bool.injEq, decide_eq_true_eq, decide_eq_false_iff_not]; omega) <| O.gs rfl rfl rfl <| O.gs rfl rfl rfl <| O.gs rfl rfl rfl <| O.gs rfl rfl rfl <| O.gs rfl rfl rfl <| O.pickT rfl rfl <| JO.nil <| J.condT rfl <| J.seq <| J.reg rfl <| O.as rfl <| JO.nil <| J.ret1 rfl (.tmp rfl) fun W' iE iP => ?_
            refine ⟨false, rfl, fun h => (nomatch h), fun h => ?_⟩
            have := (h.2 u (List.mem_of_getElem? hu)).2 i (List.mem_of_getElem? hi)
            have h3 := this.1
            have h4 := this.2
            omega
          · skip
            refine O.set (t := 36) (.bool false) rfl (by simp only [Value.bool.injEq, decide_eq_true_eq, decide_eq_false_iff_not]; omega) <| O.gt rfl rfl <| O.fa rfl <| O.gt rfl rfl <| O.fa rfl <| O.gt rfl rfl <| O.ldB rfl hb8.to rfl <| O.gt rfl rfl <| O.len rfl <| O.gt rfl rfl <| O.gtr rfl rfl <| O.pickF rfl rfl <| JO.nil <| J.condD rfl (fun h42 => ?_) (fun h42 => ?_)
            · skip
              refine J.seq <| J.reg rfl <| O.as rfl <| JO.nil <| J.ret1 rfl (.tmp rfl) fun W' iE iP => ?_
              refine ⟨false, rfl, fun h => (nomatch h), fun h => ?_⟩
              have := (h.2 u (List.mem_of_getElem? hu)).2 i (List.mem_of_getElem? hi)
              have h3 := this.1
              have h4 := this.2
              omega
            · skip
              refine J.skip <| J.bend <| J.reg rfl <| O.add rfl rfl (wI (by omega)) <| O.mv rfl <| JO.nil <| ?_
              exact J.at' (g + 1) ⟨rfl, rfl, rfl, rfl, rfl, rfl, trivial⟩ ⟨⟨inferInstance, inferInstance, inferInstance, by omega, fun j x hj hjx => by
                by_cases hjg : j = g
                · subst hjg; rw [hi] at hjx; injection hjx with hjx; subst hjx; exact ⟨by omega, by omega⟩
                · exact hd2 j x (by omega) hjx⟩, by omega⟩
        · skip
          refine J.exit rfl <| J.bend <| J.reg rfl <| O.add rfl rfl (wI (by omega)) <| O.mv rfl <| JO.nil <| ?_
          exact J.at' (k + 1) ⟨rfl, rfl, rfl, trivial⟩ ⟨⟨inferInstance, inferInstance, by omega, fun j x hj hjx => by
            by_cases hjk : j = k
            · subst hjk; rw [hu] at hjx; injection hjx with hjx; subst hjx
              refine ⟨by omega, fun i hi => ?_⟩
              obtain ⟨j2, hj2⟩ := List.getElem?_of_mem hi
              exact hd2 j2 i (by have := su.lt hj2; omega) hj2
            · exact hd j x (by omega) hjx⟩, by omega⟩
    · skip
      refine J.exit rfl <| J.seq <| J.reg rfl <| O.as rfl <| JO.nil <| J.ret1 rfl (.tmp rfl) fun W' iE iP => ?_
      refine ⟨true, rfl, fun _ => ⟨by omega, fun l hl => ?_⟩, fun _ => rfl⟩
      obtain ⟨j, hj⟩ := List.getElem?_of_mem hl
      exact hd j l (by have := s5.lt hj; omega) hj

/-- An integer of the machine. -/
def RZ : Rep Int where
  size := 1
  agg := false
  At := fun W cs x => cs = [.int .i64 x] ∧ -9223372036854775808 ≤ x ∧ x < 9223372036854775808
  len := fun h => by rw [h.1]; rfl
  mono := fun _ h => h
  one := fun h v hv => by rw [h.1] at hv; simp at hv; subst hv; rfl
theorem V.rz {W : GW} {v : Value} {x : Int} (h : V RZ W v x) : v = .int .i64 x ∧ -9223372036854775808 ≤ x ∧ x < 9223372036854775808 := by
  obtain ⟨cs, ⟨h1, h2⟩, h3⟩ := h
  subst h1
  exact ⟨h3, h2⟩
theorem rzv {W : GW} (x : Int) (h : -9223372036854775808 ≤ x ∧ x < 9223372036854775808) : V RZ W (.int .i64 x) x := ⟨_, ⟨rfl, h⟩, rfl⟩
def qs (zs : List Int) : List Rat := zs.map fun (z : Int) => (z : Rat)
theorem law06_list_ok {W : GW} {p : Option Addr} {n c : Nat} {zs : List Int} (h : Sl RZ W p n c zs) (hn0 : n ≤ 1000) :
    Ok Tryz.prog 38 [.slice p n c] W fun W' r => V RE W' r (cl (qs zs)) := by
  have hn := h.hn
  refine Ok.enter Tryz.func38 rfl rfl rfl rfl fun W0 iEn => ?_
  refine J.seq <| J.reg rfl <| O.as rfl <| JO.nil <| J.seq <| J.reg rfl <| O.as rfl <| JO.nil <| J.seq <| J.seq <| J.reg rfl <| O.mv rfl <| O.len rfl <| O.mv rfl <| JO.nil <| J.block <| ?_
  refine J.loop (α := Nat × Option Addr × Nat) (fun g => [(3, .slice g.2.1 g.1 g.2.2), (6, .slice p n c), (7, .int .i64 (n : Int)), (8, .int .i64 (g.1 : Int))]) (fun g W' => Le W0 W' ∧ g.1 ≤ n ∧ Ows RQ W' g.2.1 g.1 g.2.2 (cl (qs (zs.take g.1)))) (fun g => n - g.1) (0, none, 0) ⟨rfl, rfl, rfl, rfl, trivial⟩ ⟨inferInstance, Nat.zero_le _, Ows.nil _ _ _⟩ ?_
  rintro ⟨k, po, co⟩ W3 ⟨_, hk, ho⟩
  dsimp only at *
  refine J.seq <| J.reg rfl <| O.lt rfl rfl <| JO.nil <| J.seq <| J.condD rfl (fun h9 => ?_) (fun h9 => ?_)
  · skip
    obtain ⟨z, hz⟩ : ∃ z, zs[k]? = some z := ⟨_, List.getElem?_eq_getElem (by omega)⟩
    refine J.skip <| J.seq <| J.block <| J.seq <| J.reg rfl <| O.ix (r := RZ) (j := k) rfl rfl rfl h.to hz rfl rfl (fun _ => rfl) fun a v hv => ?_
    obtain ⟨rfl, hzr⟩ := V.rz hv
    refine O.as rfl <| JO.nil <| J.reg rfl <| O.mv rfl <| O.mv rfl <| O.call rfl (ref02_FromInt_ok hzr) fun W4 v4 i4 e4 h4 => ?_
    have ho4 := ho.ext e4
    refine O.app1 (r := RQ) (u := cq (z : Rat)) (fun _ => rfl) rfl ho4 h4 rfl rfl (by decide) (.inl rfl) (by decide) (by omega) (by omega) fun W5 p6 c6 v5 i5 o5 => O.as rfl <| JO.nil <| J.bend <| J.reg rfl <| O.add rfl rfl (wI (by omega)) <| O.mv rfl <| JO.nil <| ?_
    exact J.at' (k + 1, p6, c6) ⟨rfl, rfl, rfl, rfl, trivial⟩ ⟨⟨inferInstance, by show k + 1 ≤ n; omega, by
      have e : cl (qs (zs.take (k + 1))) = cl (qs (zs.take k)) ++ [cq (z : Rat)] := by
        rw [List.take_add_one, hz, qs, List.map_append, cl_append]; rfl
      rw [e]; exact o5⟩, by show n - (k + 1) < n - k; omega⟩
  · skip
    refine J.exit rfl <| J.seq <| J.reg rfl <| O.mv rfl <| O.as rfl <| JO.nil <| J.ret1 rfl (.tmp rfl) fun W' iE iP => ?_
    have hkn : k = n := by omega
    rw [hkn, List.take_of_length_le (by omega)] at ho
    rw [hkn]
    exact (ho.pub iE iP).v

/-- A case: a tower and three elements. -/
structure CaseR (W : GW) (v : Value) (t : List (List Raw)) (a b c : List Raw) : Prop where
  h : ∃ p n m pa na ma pb nb mb pc nc mc, v = .agg #[.slice p n m, .slice pa na ma, .slice pb nb mb, .slice pc nc mc] ∧ Sl RE W p n m t ∧ Sl RQ W pa na ma a ∧ Sl RQ W pb nb mb b ∧ Sl RQ W pc nc mc c
def formedC (t : List (List Raw)) (a b c : List Raw) : Prop := t.length ≤ 4 ∧ (∀ l ∈ t, fewL l) ∧ fewL a ∧ fewL b ∧ fewL c ∧ okT t ∧ okE (2 ^ t.length) a ∧ okE (2 ^ t.length) b ∧ okE (2 ^ t.length) c
theorem law06_right_ok {W : GW} {v : Value} {t : List (List Raw)} {a b c : List Raw} (h : CaseR W v t a b c) :
    Ok Tryz.prog 9 [v] W fun _ r => ∃ f, r = .bool f ∧ (f = true ↔ formedC t a b c) := by
  obtain ⟨p, n, m, pa, na, ma, pb, nb, mb, pc, nc, mc, rfl, ht, ha, hb, hc⟩ := h.h
  have hn := ht.hn
  refine Ok.enter Tryz.func9 rfl rfl rfl rfl fun W0 iEn => ?_
  refine J.seq <| J.reg rfl <| O.box rfl fun W1 b1 i1 hb1 => O.as rfl <| JO.nil <| J.seq <| J.reg rfl <| O.fa rfl <| O.ldB rfl hb1.to rfl <| O.fa rfl <| O.ldB rfl hb1.to rfl <| O.fa rfl <| O.ldB rfl hb1.to rfl <| O.fa rfl <| O.ldB rfl hb1.to rfl <| O.bs (r := RE) [a, b, c] rfl ⟨ha.to.v, hb.to.v, hc.to.v, trivial⟩ rfl rfl rfl (by decide) (.inr rfl) (by decide) fun W2 p2 i2 e2 s2 => O.call rfl (ref06_Few_ok ht.to s2 (by decide)) fun W3 v3 i3 e3 h3 => ?_
  obtain ⟨f1, rfl, hf1⟩ := h3
  refine O.mv rfl <| ?_
  by_cases hg13 : f1 = true
  · skip
    have hfew := hf1.1 hg13
    have hfa := hfew.2 a (by simp)
    have hfb := hfew.2 b (by simp)
    have hfc := hfew.2 c (by simp)
    have hft : ∀ l ∈ t, fewL l := fun l hl => hfew.2 l (List.mem_append_left _ hl)
    have hst : ∀ r ∈ t, ∀ i ∈ r, smallR i := fun r hr i hi => ((hft r hr).2 i hi).small
    refine O.set (t := 13) (.bool true) rfl (by rw [hg13]) <| O.gt rfl rfl <| O.fa rfl <| O.gt rfl rfl <| O.ldB rfl hb1.to rfl <| O.gt rfl rfl <| O.fa rfl <| O.gt rfl rfl <| O.ldB rfl hb1.to rfl <| O.gt rfl rfl <| O.call rfl (ref06_Formed_ok ht.to ha.to hst (fun i hi => (hfa.2 i hi).small) (by omega)) fun W4 v4 i4 e4 h4 => ?_
    obtain ⟨f2, rfl, hf2⟩ := h4
    refine O.pickT rfl rfl <| O.mv rfl <| ?_
    by_cases hg20 : f2 = true
    · skip
      refine O.set (t := 20) (.bool true) rfl (by rw [hg20]) <| O.gt rfl rfl <| O.fa rfl <| O.gt rfl rfl <| O.ldB rfl hb1.to rfl <| O.gt rfl rfl <| O.fa rfl <| O.gt rfl rfl <| O.ldB rfl hb1.to rfl <| O.gt rfl rfl <| O.call rfl (ref06_Formed_ok ht.to hb.to hst (fun i hi => (hfb.2 i hi).small) (by omega)) fun W5 v5 i5 e5 h5 => ?_
      obtain ⟨f3, rfl, hf3⟩ := h5
      refine O.pickT rfl rfl <| O.mv rfl <| ?_
      by_cases hg27 : f3 = true
      · skip
        refine O.set (t := 27) (.bool true) rfl (by rw [hg27]) <| O.gt rfl rfl <| O.fa rfl <| O.gt rfl rfl <| O.ldB rfl hb1.to rfl <| O.gt rfl rfl <| O.fa rfl <| O.gt rfl rfl <| O.ldB rfl hb1.to rfl <| O.gt rfl rfl <| O.call rfl (ref06_Formed_ok ht.to hc.to hst (fun i hi => (hfc.2 i hi).small) (by omega)) fun W6 v6 i6 e6 h6 => ?_
        obtain ⟨f4, rfl, hf4⟩ := h6
        refine O.pickT rfl rfl <| O.as rfl <| JO.nil <| J.ret1 rfl (.tmp rfl) fun W' iE iP => ?_
        refine ⟨f4, rfl, ?_⟩
        rw [hf4]
        have h2 := hf2.1 hg20
        have h3 := hf3.1 hg27
        exact ⟨fun h => ⟨hfew.1, hft, hfa, hfb, hfc, h.1, h2.2, h3.2, h.2⟩, fun h => ⟨h.2.2.2.2.2.1, h.2.2.2.2.2.2.2.2⟩⟩
      · skip
        refine O.set (t := 27) (.bool false) rfl (by rw [Bool.eq_false_iff.2 hg27]) <| O.gs rfl rfl rfl <| O.gs rfl rfl rfl <| O.gs rfl rfl rfl <| O.gs rfl rfl rfl <| O.gs rfl rfl rfl <| O.pickF rfl rfl <| O.as rfl <| JO.nil <| J.ret1 rfl (.tmp rfl) fun W' iE iP => ?_
        exact ⟨false, rfl, fun h => (nomatch h), fun h => absurd (hf3.2 ⟨h.2.2.2.2.2.1, h.2.2.2.2.2.2.2.1⟩) hg27⟩
    · skip
      refine O.set (t := 20) (.bool false) rfl (by rw [Bool.eq_false_iff.2 hg20]) <| O.gs rfl rfl rfl <| O.gs rfl rfl rfl <| O.gs rfl rfl rfl <| O.gs rfl rfl rfl <| O.gs rfl rfl rfl <| O.pickF rfl rfl <| O.mv rfl <| O.gs rfl rfl rfl <| O.gs rfl rfl rfl <| O.gs rfl rfl rfl <| O.gs rfl rfl rfl <| O.gs rfl rfl rfl <| O.pickF rfl rfl <| O.as rfl <| JO.nil <| J.ret1 rfl (.tmp rfl) fun W' iE iP => ?_
      exact ⟨false, rfl, fun h => (nomatch h), fun h => absurd (hf2.2 ⟨h.2.2.2.2.2.1, h.2.2.2.2.2.2.1⟩) hg20⟩
  · skip
    refine O.set (t := 13) (.bool false) rfl (by rw [Bool.eq_false_iff.2 hg13]) <| O.gs rfl rfl rfl <| O.gs rfl rfl rfl <| O.gs rfl rfl rfl <| O.gs rfl rfl rfl <| O.gs rfl rfl rfl <| O.pickF rfl rfl <| O.mv rfl <| O.gs rfl rfl rfl <| O.gs rfl rfl rfl <| O.gs rfl rfl rfl <| O.gs rfl rfl rfl <| O.gs rfl rfl rfl <| O.pickF rfl rfl <| O.mv rfl <| O.gs rfl rfl rfl <| O.gs rfl rfl rfl <| O.gs rfl rfl rfl <| O.gs rfl rfl rfl <| O.gs rfl rfl rfl <| O.pickF rfl rfl <| O.as rfl <| JO.nil <| J.ret1 rfl (.tmp rfl) fun W' iE iP => ?_
    refine ⟨false, rfl, fun h => (nomatch h), fun h => absurd (hf1.2 ⟨h.1, fun l hl => ?_⟩) hg13⟩
    rcases List.mem_append.1 hl with hl | hl
    · exact h.2.1 l hl
    · simp at hl
      rcases hl with rfl | rfl | rfl
      · exact h.2.2.1
      · exact h.2.2.2.1
      · exact h.2.2.2.2.1
end Go.Proofs.YtcobdnnfmhfenaaGreat

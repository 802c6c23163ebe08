/- The reference's comparisons and guards; the statements' copies. -/
import Derived.Test.YtcaikjefkkejbaaGreatQk
set_option linter.unusedVariables false
set_option linter.unusedSimpArgs false
set_option maxRecDepth 10000
set_option maxHeartbeats 4000000
namespace Go.Proofs.YtcaikjefkkejbaaGreat
open Go Go.Rx Go.Num Go.Tow
section
/-- a number in normal form of at most 96 bits -/
def short3 (i : Raw) : Prop := i.1.2.length ≤ 3 ∧ i.2.2.length ≤ 3 ∧ ∃ x, i = cq x
def short3L (l : List Raw) : Prop := l.length ≤ 16 ∧ ∀ i ∈ l, short3 i
def small3 (t : List (List Raw)) (l : List Raw) (most : Nat) : Prop := t.length ≤ most ∧ short3L l ∧ ∀ r ∈ t, short3L r
theorem cmpQ_self (x : Rat) : cmpQ x x = 0 := by have := cmpQ_swap x x; omega
theorem ct_length' (ts : List (List Rat)) : (ct ts).length = ts.length := List.length_map ..
section
variable {W : GW} {p q : Option Addr} {n c m d : Nat}
theorem ref08_Same_ok {S : Nat} {xs : List Rat} (h : Sl RQ W p n c (cl xs)) (h' : Sl RQ W q m d (cl xs)) (hs : Sz S xs) (hS : S ≤ 8796093022208) :
    Ok Tryz.prog 17 [.slice p n c, .slice q m d] W fun _ r => r = .bool true := by
  have hn := h.hn
  have hcc := h.hc
  have hCC := h.hC
  have hm := h'.hn
  refine Ok.enter Tryz.func17 rfl rfl rfl rfl fun W0 iEn => ?_
  refine J.seq <| J.reg rfl <| O.as rfl <| JO.nil <| J.seq <| J.seq <| J.reg rfl <| O.mv rfl <| O.len rfl <| O.mv rfl <| O.len rfl <| O.ne rfl rfl <| JO.nil <| J.condD rfl (fun h10 => ?_) (fun h10 => ?_)
  · skip
    omega -- done
  · skip
    refine J.skip <| J.seq <| J.seq <| J.reg rfl <| O.as rfl <| JO.nil <| J.block <| ?_
    refine J.loop (α := Nat) (fun i => [(0, .slice p n c), (1, .slice q m d), (5, .int .i64 (i : Int))]) (fun i W' => Le W0 W' ∧ i ≤ n) (fun i => n - i) 0 ⟨rfl, rfl, rfl, trivial⟩ ⟨inferInstance, Nat.zero_le _⟩ ?_
    rintro i W3 ⟨_, hi⟩
    refine J.seq <| J.seq <| J.reg rfl <| O.mv rfl <| O.mv rfl <| O.len rfl <| O.lt rfl rfl <| JO.nil <| J.condD rfl (fun h14 => ?_) (fun h14 => ?_)
    · skip
      obtain ⟨x, hx⟩ : ∃ x, xs[i]? = some x := ⟨_, List.getElem?_eq_getElem (by rw [cl_length] at hn; omega)⟩
      have hxS := hs.qs (List.mem_of_getElem? hx)
      have hxs := smallR_cq hxS (by omega)
      have hc0 := cmpQ_self x
      refine J.skip <| J.seq <| J.block <| J.seq <| ?_
      obtain ⟨b19, o19, rfl, hj19, hb19⟩ := (h).placeP (cl_get hx)
      obtain ⟨b26, o26, rfl, hj26, hb26⟩ := (h').placeP (cl_get hx)
      obtain ⟨hj34, hb34⟩ := (h).placeQ (cl_get hx)
      obtain ⟨hj38, hb38⟩ := (h').placeQ (cl_get hx)
      refine J.drawQ [17, 18, 19, 20, 21, 22, 23, 24, 25, 26, 27, 28, 29, 30, 31, 32, 33, 34, 35, 36, 37, 38, 39, 40, 41, 42] [[], [], [(0, 17), (1, 18)], [(2, 19)], [(3, 20)], [(4, 21)], [(5, 22), (4, 21)], [(6, 23)], [(6, 23)], [(7, 24), (8, 25), (6, 23)], [(9, 26), (6, 23)], [(10, 27), (6, 23), (6, 23)], [(11, 28), (6, 23)], [(6, 23), (12, 29)], [(13, 30), (11, 28)], [(14, 31)], [(14, 31)], [(15, 32), (16, 33), (14, 31)], [(17, 34), (14, 31)], [(14, 31)], [(14, 31)], [(19, 36), (20, 37), (14, 31)], [(21, 38), (14, 31)], [(18, 35), (22, 39), (14, 31), (14, 31)], [(23, 40), (14, 31)], [(14, 31), (24, 41)]] [0, 0, 1, 2, 3, 4, 5, 6, 6, 7, 8, 9, 10, 11, 12, 13, 13, 14, 15, 13, 13, 14, 15, 16, 17, 18] [2, 2, 3, 4, 6, 6, 13, 9, 9, 10, 11, 14, 13, 14, 25, 17, 17, 18, 23, 21, 21, 22, 23, 24, 25, 0] [.ex _, .ex _, .ex _, .rel _, .ex _, .ex _, .ex _, .ex _, .ex _, .ex _, .rel _, .ex _, .ex _, .ex _, .ex _, .ex _, .ex _, .ex _, .rel _, .ex _, .ex _, .ex _, .rel _, .ex _, .ex _, .ex _] [false, false, false, false, false, false, false, false, false, false, false, false, false, false, false, false, false, false, false, false, false, false, false, false, false, false] (by decide +kernel) rfl rfl rfl ⟨fun Wd id ed Lq hLq _ => O.mv rfl <| D.ex, fun Wd id ed Lq hLq _ => O.mv rfl <| D.ex, fun Wd id ed Lq hLq _ => O.ia (j := i) rfl rfl rfl hj19 <| D.ex, fun Wd id ed Lq hLq _ => O.ldTD rfl hb19.to.h rfl rfl (fun h => nomatch h), fun Wd id ed Lq hLq _ => fun v20 h20 => O.call rfl ((ref02_Valid_ok h20 hxs.1 hxs.2).eqB (b0 := true) ⟨fun _ => ⟨x, rfl⟩, fun _ => rfl⟩) fun Wd vd id ed hd => D.eq ed hd, fun Wd id ed Lq hLq _ => O.not rfl <| D.ex, fun Wd id ed Lq hLq _ => O.mv rfl <| D.ex, fun Wd id ed Lq hLq _ => O.gt (hLq _ _ rfl) rfl <| O.mv rfl <| D.ex, fun Wd id ed Lq hLq _ => O.gt (hLq _ _ rfl) rfl <| O.mv rfl <| D.ex, fun Wd id ed Lq hLq _ => O.gt (hLq _ _ rfl) rfl <| O.ia (j := i) rfl rfl rfl hj26 <| D.ex, fun Wd id ed Lq hLq _ => O.gt (hLq _ _ rfl) rfl <| O.ldTD rfl hb26.to.h rfl rfl (fun h => nomatch h), fun Wd id ed Lq hLq _ => fun v27 h27 => O.gt (hLq _ _ rfl) rfl <| O.call rfl ((ref02_Valid_ok h27 hxs.1 hxs.2).eqB (b0 := true) ⟨fun _ => ⟨x, rfl⟩, fun _ => rfl⟩) fun Wd vd id ed hd => D.eq ed hd, fun Wd id ed Lq hLq _ => O.gt (hLq _ _ rfl) rfl <| O.not rfl <| D.ex, fun Wd id ed Lq hLq _ => O.pickF rfl rfl <| D.ex, fun Wd id ed Lq hLq _ => O.mv rfl <| D.ex, fun Wd id ed Lq hLq _ => O.gt (hLq _ _ rfl) rfl <| O.mv rfl <| D.ex, fun Wd id ed Lq hLq _ => O.gt (hLq _ _ rfl) rfl <| O.mv rfl <| D.ex, fun Wd id ed Lq hLq _ => O.gt (hLq _ _ rfl) rfl <| O.ia (j := i) rfl rfl rfl hj34 <| D.ex, fun Wd id ed Lq hLq _ => O.gt (hLq _ _ rfl) rfl <| O.ldTD rfl hb34.to.h rfl rfl (fun h => nomatch h), fun Wd id ed Lq hLq _ => O.gt (hLq _ _ rfl) rfl <| O.mv rfl <| D.ex, fun Wd id ed Lq hLq _ => O.gt (hLq _ _ rfl) rfl <| O.mv rfl <| D.ex, fun Wd id ed Lq hLq _ => O.gt (hLq _ _ rfl) rfl <| O.ia (j := i) rfl rfl rfl hj38 <| D.ex, fun Wd id ed Lq hLq _ => O.gt (hLq _ _ rfl) rfl <| O.ldTD rfl hb38.to.h rfl rfl (fun h => nomatch h), fun Wd id ed Lq hLq _ => fun v35 h35 => fun v39 h39 => O.gt (hLq _ _ rfl) rfl <| O.call rfl (ref02_Cmp_ok h35 h39 hxS hxS (by omega)) fun Wd vd id ed hd => D.eq ed hd, fun Wd id ed Lq hLq _ => O.gt (hLq _ _ rfl) rfl <| O.ne rfl rfl <| D.ex, fun Wd id ed Lq hLq _ => O.pickF rfl rfl <| D.ex, trivial⟩ ?_
      intro Wr6 ir6 er6 v20 h20 v27 h27 v35 h35 v39 h39
      refine JO.nil <| J.condD rfl (fun h42 => ?_) (fun h42 => ?_)
      · skip
        exact absurd hc0 h42 -- done
      · skip
        refine J.skip <| J.bend <| J.reg rfl <| O.mv rfl <| O.add rfl rfl (wI (by omega)) <| O.as rfl <| JO.nil <| ?_
        exact J.at' (i + 1) ⟨rfl, rfl, rfl, trivial⟩ ⟨⟨inferInstance, by omega⟩, by omega⟩
    · skip
      refine J.exit rfl <| J.seq <| J.reg rfl <| O.as rfl <| JO.nil <| J.ret1 rfl (.tmp rfl) fun W' iE iP => ?_
      rfl
theorem ref08_Towers_ok {S : Nat} {ts : List (List Rat)} (h : Sl RE W p n c (ct ts)) (h' : Sl RE W q m d (ct ts)) (hs : ∀ xs ∈ ts, Sz S xs) (hS : S ≤ 8796093022208) :
    Ok Tryz.prog 34 [.slice p n c, .slice q m d] W fun _ r => r = .bool true := by
  have hn := h.hn
  have hcc := h.hc
  have hCC := h.hC
  have hm := h'.hn
  refine Ok.enter Tryz.func34 rfl rfl rfl rfl fun W0 iEn => ?_
  refine J.seq <| J.reg rfl <| O.as rfl <| JO.nil <| J.seq <| J.seq <| J.reg rfl <| O.mv rfl <| O.len rfl <| O.mv rfl <| O.len rfl <| O.ne rfl rfl <| JO.nil <| J.condD rfl (fun h10 => ?_) (fun h10 => ?_)
  · skip
    omega -- done
  · skip
    refine J.skip <| J.seq <| J.seq <| J.reg rfl <| O.as rfl <| JO.nil <| J.block <| ?_
    refine J.loop (α := Nat) (fun i => [(0, .slice p n c), (1, .slice q m d), (5, .int .i64 (i : Int))]) (fun i W' => Le W0 W' ∧ i ≤ n) (fun i => n - i) 0 ⟨rfl, rfl, rfl, trivial⟩ ⟨inferInstance, Nat.zero_le _⟩ ?_
    rintro i W3 ⟨_, hi⟩
    refine J.seq <| J.seq <| J.reg rfl <| O.mv rfl <| O.mv rfl <| O.len rfl <| O.lt rfl rfl <| JO.nil <| J.condD rfl (fun h14 => ?_) (fun h14 => ?_)
    · skip
      obtain ⟨x, hx⟩ : ∃ x, ts[i]? = some x := ⟨_, List.getElem?_eq_getElem (by rw [ct_length'] at hn; omega)⟩
      refine J.skip <| J.seq <| J.block <| J.seq <| ?_
      obtain ⟨b19, o19, rfl, hj19, hb19⟩ := (h).placeP (ct_get hx)
      obtain ⟨b23, o23, rfl, hj23, hb23⟩ := (h').placeP (ct_get hx)
      refine J.draw [.ex _, .ex _, .ex _, .rel _, .ex _, .ex _, .ex _, .rel _] rfl rfl ⟨fun Wd id ed _ => O.mv rfl <| D.ex, fun Wd id ed _ => O.mv rfl <| D.ex, fun Wd id ed _ => O.ia (j := i) rfl rfl rfl hj19 <| D.ex, fun Wd id ed _ => O.ldTD rfl hb19.to.h rfl rfl (fun _ => rfl), fun Wd id ed _ => O.mv rfl <| D.ex, fun Wd id ed _ => O.mv rfl <| D.ex, fun Wd id ed _ => O.ia (j := i) rfl rfl rfl hj23 <| D.ex, fun Wd id ed _ => O.ldTD rfl hb23.to.h rfl rfl (fun _ => rfl), trivial⟩ ?_
      intro Wr6 ir6 er6 v20 h20 v24 h24
      obtain ⟨p20, m20, c20, rfl, s20⟩ := h20.sl
      obtain ⟨p24, m24, c24, rfl, s24⟩ := h24.sl
      refine O.call rfl (ref08_Same_ok s20 s24 (hs x (List.mem_of_getElem? hx)) hS) fun W25 v25 i25 e25 h25 => ?_
      subst h25
      refine O.not rfl <| JO.nil <| J.condF rfl <| J.skip <| J.bend <| J.reg rfl <| O.mv rfl <| O.add rfl rfl (wI (by omega)) <| O.as rfl <| JO.nil <| ?_
      exact J.at' (i + 1) ⟨rfl, rfl, rfl, trivial⟩ ⟨⟨inferInstance, by omega⟩, by omega⟩
    · skip
      refine J.exit rfl <| J.seq <| J.reg rfl <| O.as rfl <| JO.nil <| J.ret1 rfl (.tmp rfl) fun W' iE iP => ?_
      rfl
theorem ref08_short_ok {l : List Raw} (h : Sl RQ W p n c l) :
    Ok Tryz.prog 37 [.slice p n c] W fun _ r => ∃ b, r = .bool b ∧ (b = true ↔ short3L l) := by
  have hn := h.hn
  have hcc := h.hc
  have hCC := h.hC
  refine Ok.enter Tryz.func37 rfl rfl rfl rfl fun W0 iEn => ?_
  refine J.seq <| J.reg rfl <| O.as rfl <| JO.nil <| J.seq <| J.seq <| J.reg rfl <| O.mv rfl <| O.len rfl <| O.gtr rfl rfl <| JO.nil <| J.condD rfl (fun h6 => ?_) (fun h6 => ?_)
  · skip
    refine J.seq <| J.reg rfl <| O.as rfl <| JO.nil <| J.ret1 rfl (.tmp rfl) fun W' iE iP => ?_
    exact ⟨false, rfl, fun e => (nomatch e), fun e => by have := e.1; omega⟩
  · skip
    refine J.skip <| J.seq <| J.seq <| J.reg rfl <| O.as rfl <| JO.nil <| J.block <| ?_
    refine J.loop (α := Nat) (fun i => [(0, .slice p n c), (3, .int .i64 (i : Int))]) (fun i W' => Le W0 W' ∧ i ≤ n ∧ ∀ j x, j < i → l[j]? = some x → short3 x) (fun i => n - i) 0 ⟨rfl, rfl, trivial⟩ ⟨inferInstance, Nat.zero_le _, fun j x hj => absurd hj (Nat.not_lt_zero _)⟩ ?_
    rintro i W3 ⟨_, hi, hd⟩
    refine J.seq <| J.seq <| J.reg rfl <| O.mv rfl <| O.mv rfl <| O.len rfl <| O.lt rfl rfl <| JO.nil <| J.condD rfl (fun h10 => ?_) (fun h10 => ?_)
    · skip
      obtain ⟨x, hx⟩ : ∃ x, l[i]? = some x := ⟨_, List.getElem?_eq_getElem (by omega)⟩
      have hxm := List.mem_of_getElem? hx
      refine J.skip <| J.seq <| J.block <| J.seq <| J.reg rfl <| O.mv rfl <| O.mv rfl <| O.iaT (j := i) rfl rfl rfl h.to hx rfl fun b15 o15 hb15 => O.fa rfl <| O.fa rfl <| ?_
      refine O.ldTs rfl hb15.to.h.f.s fun p18 m18 c18 s18 => ?_
      have h18 := s18.v
      have hm18 : x.1.2.length = m18 := s18.hn.symm
      refine O.len rfl <| O.gtr rfl rfl <| O.mv rfl <| ?_
      by_cases hg21 : m18 > 3
      · skip
        refine O.set (t := 21) (.bool true) rfl (by simp only [Value.bool.injEq, decide_eq_true_eq, decide_eq_false_iff_not]; omega) <| O.gs rfl rfl rfl <| O.gs rfl rfl rfl <| O.gs rfl rfl rfl <| O.gs rfl rfl rfl <| O.gs rfl rfl rfl <| O.gs rfl rfl rfl <| O.gs rfl rfl rfl <| O.gs rfl rfl rfl <| O.pickT rfl rfl <| O.mv rfl <| O.gs rfl rfl rfl <| O.gs rfl rfl rfl <| O.gs rfl rfl rfl <| O.gs rfl rfl rfl <| O.gs rfl rfl rfl <| O.gs rfl rfl rfl <| O.pickT rfl rfl <| JO.nil <| J.condT rfl <| J.seq <| J.reg rfl <| O.as rfl <| JO.nil <| J.ret1 rfl (.tmp rfl) fun W' iE iP => ?_
        exact ⟨false, rfl, fun e => (nomatch e), fun e => by have h1 := (e.2 x hxm).1; rw [hm18] at h1; omega⟩
      · skip
        refine O.set (t := 21) (.bool false) rfl (by simp only [Value.bool.injEq, decide_eq_true_eq, decide_eq_false_iff_not]; omega) <| O.gt rfl rfl <| O.mv rfl <| O.gt rfl rfl <| O.mv rfl <| O.gt rfl rfl <| O.iaT (j := i) rfl rfl rfl h.to hx rfl fun b24 o24 hb24 => O.gt rfl rfl <| O.fa rfl <| O.gt rfl rfl <| O.fa rfl <| O.gt rfl rfl <| ?_
        refine O.ldTs rfl hb24.to.h.s.s fun p27 m27 c27 s27 => ?_
        have h27 := s27.v
        have hm27 : x.2.2.length = m27 := s27.hn.symm
        refine O.gt rfl rfl <| O.len rfl <| O.gt rfl rfl <| O.gtr rfl rfl <| O.pickF rfl rfl <| O.mv rfl <| ?_
        by_cases hg31 : m27 > 3
        · skip
          refine O.set (t := 31) (.bool true) rfl (by simp only [Value.bool.injEq, decide_eq_true_eq, decide_eq_false_iff_not]; omega) <| O.gs rfl rfl rfl <| O.gs rfl rfl rfl <| O.gs rfl rfl rfl <| O.gs rfl rfl rfl <| O.gs rfl rfl rfl <| O.gs rfl rfl rfl <| O.pickT rfl rfl <| JO.nil <| J.condT rfl <| J.seq <| J.reg rfl <| O.as rfl <| JO.nil <| J.ret1 rfl (.tmp rfl) fun W' iE iP => ?_
          exact ⟨false, rfl, fun e => (nomatch e), fun e => by have h1 := (e.2 x hxm).2.1; rw [hm27] at h1; omega⟩
        · skip
          refine O.set (t := 31) (.bool false) rfl (by simp only [Value.bool.injEq, decide_eq_true_eq, decide_eq_false_iff_not]; omega) <| O.gt rfl rfl <| O.mv rfl <| O.gt rfl rfl <| O.mv rfl <| O.gt rfl rfl <| O.iaT (j := i) rfl rfl rfl h.to hx rfl fun b34 o34 hb34 => O.gt rfl rfl <| O.ldT rfl hb34.to.h rfl rfl (fun h => nomatch h) fun v35 h35 => O.gt rfl rfl <| O.call rfl (ref02_Valid_ok h35.to (by rw [hm18]; omega) (by rw [hm27]; omega)) fun W36 v36 i36 e36 h36 => ?_
          obtain ⟨b, rfl, hb⟩ := h36
          refine O.gt rfl rfl <| O.not rfl <| O.pickF rfl rfl <| JO.nil <| J.cond rfl (fun h38 => ?_) (fun h38 => ?_)
          · skip
            refine J.seq <| J.reg rfl <| O.as rfl <| JO.nil <| J.ret1 rfl (.tmp rfl) fun W' iE iP => ?_
            exact ⟨false, rfl, fun e => (nomatch e), fun e => by rw [hb.2 (e.2 x hxm).2.2] at h38; cases h38⟩
          · skip
            refine J.skip <| J.bend <| J.reg rfl <| O.mv rfl <| O.add rfl rfl (wI (by omega)) <| O.as rfl <| JO.nil <| ?_
            exact J.at' (i + 1) ⟨rfl, rfl, trivial⟩ ⟨⟨inferInstance, by omega, fun j y hj hy => by
              by_cases hji : j = i
              · subst hji; rw [hx] at hy; injection hy with hy; subst hy; exact ⟨by rw [hm18]; omega, by rw [hm27]; omega, hb.1 (by simpa using h38)⟩
              · exact hd j y (by omega) hy⟩, by omega⟩
    · skip
      refine J.exit rfl <| J.seq <| J.reg rfl <| O.as rfl <| JO.nil <| J.ret1 rfl (.tmp rfl) fun W' iE iP => ?_
      refine ⟨true, rfl, fun _ => ⟨by omega, fun x hx => ?_⟩, fun _ => rfl⟩
      obtain ⟨j, hj⟩ := List.getElem?_of_mem hx
      exact hd j x (by have := (List.getElem?_eq_some_iff.1 hj).1; omega) hj
theorem ref08_Small_ok {t : List (List Raw)} {l : List Raw} {most : Nat} (h : Sl RE W p n c t) (h' : Sl RQ W q m d l) (hmo : most ≤ 100) :
    Ok Tryz.prog 12 [.slice p n c, .slice q m d, .int .i64 (most : Int)] W fun _ r => ∃ b, r = .bool b ∧ (b = true ↔ small3 t l most) := by
  have hn := h.hn
  have hcc := h.hc
  have hCC := h.hC
  refine Ok.enter Tryz.func12 rfl rfl rfl rfl fun W0 iEn => ?_
  refine J.seq <| J.reg rfl <| O.as rfl <| JO.nil <| J.seq <| J.seq <| J.reg rfl <| O.mv rfl <| O.len rfl <| O.mv rfl <| O.gtr rfl rfl <| O.mv rfl <| ?_
  by_cases hg12 : t.length > most
  · skip
    refine O.set (t := 12) (.bool true) rfl (by simp only [Value.bool.injEq, decide_eq_true_eq, decide_eq_false_iff_not]; omega) <| O.gs rfl rfl rfl <| O.gs rfl rfl rfl <| O.gs rfl rfl rfl <| O.pickT rfl rfl <| JO.nil <| J.condT rfl <| J.seq <| J.reg rfl <| O.as rfl <| JO.nil <| J.ret1 rfl (.tmp rfl) fun W' iE iP => ?_
    exact ⟨false, rfl, fun e => (nomatch e), fun e => by have := e.1; omega⟩
  · skip
    refine O.set (t := 12) (.bool false) rfl (by simp only [Value.bool.injEq, decide_eq_true_eq, decide_eq_false_iff_not]; omega) <| O.gt rfl rfl <| O.mv rfl <| O.gt rfl rfl <| O.call rfl (ref08_short_ok h'.to) fun W14 v14 i14 e14 h14 => ?_
    obtain ⟨b, rfl, hb⟩ := h14
    refine O.gt rfl rfl <| O.not rfl <| O.pickF rfl rfl <| JO.nil <| J.cond rfl (fun h16 => ?_) (fun h16 => ?_)
    · skip
      refine J.seq <| J.reg rfl <| O.as rfl <| JO.nil <| J.ret1 rfl (.tmp rfl) fun W' iE iP => ?_
      exact ⟨false, rfl, fun e => (nomatch e), fun e => by rw [hb.2 e.2.1] at h16; cases h16⟩
    · skip
      refine J.skip <| J.seq <| J.seq <| J.reg rfl <| O.as rfl <| JO.nil <| J.block <| ?_
      refine J.loop (α := Nat) (fun i => [(0, .slice p n c), (7, .int .i64 (i : Int))]) (fun i W' => Le W0 W' ∧ i ≤ n ∧ ∀ j x, j < i → t[j]? = some x → short3L x) (fun i => n - i) 0 ⟨rfl, rfl, trivial⟩ ⟨inferInstance, Nat.zero_le _, fun j x hj => absurd hj (Nat.not_lt_zero _)⟩ ?_
      rintro i W3 ⟨_, hi, hd⟩
      refine J.seq <| J.seq <| J.reg rfl <| O.mv rfl <| O.mv rfl <| O.len rfl <| O.lt rfl rfl <| JO.nil <| J.condD rfl (fun h20 => ?_) (fun h20 => ?_)
      · skip
        obtain ⟨x, hx⟩ : ∃ x, t[i]? = some x := ⟨_, List.getElem?_eq_getElem (by omega)⟩
        refine J.skip <| J.seq <| J.block <| J.seq <| J.reg rfl <| O.mv rfl <| O.mv rfl <| O.iaT (j := i) rfl rfl rfl h.to hx rfl fun b25 o25 hb25 => ?_
        refine O.ldTs rfl hb25.to.h fun p26 m26 c26 s26 => ?_
        have h26 := s26.v
        refine O.call rfl (ref08_short_ok s26.to) fun W27 v27 i27 e27 h27 => ?_
        obtain ⟨bx, rfl, hbx⟩ := h27
        refine O.not rfl <| JO.nil <| J.cond rfl (fun h28 => ?_) (fun h28 => ?_)
        · skip
          refine J.seq <| J.reg rfl <| O.as rfl <| JO.nil <| J.ret1 rfl (.tmp rfl) fun W' iE iP => ?_
          exact ⟨false, rfl, fun e => (nomatch e), fun e => by rw [hbx.2 (e.2.2 x (List.mem_of_getElem? hx))] at h28; cases h28⟩
        · skip
          refine J.skip <| J.bend <| J.reg rfl <| O.mv rfl <| O.add rfl rfl (wI (by omega)) <| O.as rfl <| JO.nil <| ?_
          exact J.at' (i + 1) ⟨rfl, rfl, trivial⟩ ⟨⟨inferInstance, by omega, fun j y hj hy => by
            by_cases hji : j = i
            · subst hji; rw [hx] at hy; injection hy with hy; subst hy; exact hbx.1 (by simpa using h28)
            · exact hd j y (by omega) hy⟩, by omega⟩
      · skip
        refine J.exit rfl <| J.seq <| J.reg rfl <| O.as rfl <| JO.nil <| J.ret1 rfl (.tmp rfl) fun W' iE iP => ?_
        refine ⟨true, rfl, fun _ => ⟨by omega, hb.1 (by simpa using h16), fun x hx => ?_⟩, fun _ => rfl⟩
        obtain ⟨j, hj⟩ := List.getElem?_of_mem hx
        exact hd j x (by have := (List.getElem?_eq_some_iff.1 hj).1; omega) hj
end
end
section
theorem sB_le (r s : Nat) : ∀ {i k : Nat}, i ≤ k → sB r i s ≤ sB r k s := by
  intro i k h
  induction h with
  | refl => exact Nat.le_refl _
  | step h ih =>
    rename_i m
    refine Nat.le_trans ih (Nat.le_trans (sB_mono (Nat.le_refl r) (show s ≤ sX r m s (sB r m (nS r m s)) by unfold sX; omega)) ?_)
    show sB r m (sX r m s (sB r m (nS r m s))) ≤ sB r m (sX r m s (sB r m (nS r m s))) + _ + _ + _ + 4
    omega
/-- all bounds that a root asks -/
structure Bds (r s N : Nat) : Prop where
  q1 : qB r N r ≤ 4398046511104
  v1 : vB r N r ≤ 8796093022208
  z1 : zB r N r ≤ 8796093022208
  q2 : qB r N s ≤ 4398046511104
  z2 : zB r N s ≤ 8796093022208
  v2 : vB r N (sB r N s) ≤ 8796093022208
  v3 : vB r N s ≤ 8796093022208
theorem Bds.le {r s N n : Nat} (h : Bds r s N) (hn : n ≤ N) : Bds r s n :=
  ⟨Nat.le_trans (qB_le r r hn) h.q1, Nat.le_trans (vB_le r r hn) h.v1, Nat.le_trans (zB_le r r hn) h.z1, Nat.le_trans (qB_le r s hn) h.q2, Nat.le_trans (zB_le r s hn) h.z2,
    Nat.le_trans (Nat.le_trans (vB_le r _ hn) (vB_mono (sB_le r s hn))) h.v2, Nat.le_trans (vB_le r s hn) h.v3⟩
section
variable {W : GW} {p : Option Addr} {n c r s : Nat} {t : List (List Raw)}
theorem sqP {q : Option Addr} {m d : Nat} {l out : List Raw} {b : Bool} (B : Bds r s n) (hz : SqIs t l b out) (h : Sl RE W p n c t) (h' : Sl RQ W q m d l) (hl : ∀ r ∈ t, ∀ i ∈ r, smallR i) (hl' : ∀ i ∈ l, smallR i) (hn8 : n ≤ 8) (hS : SZT r t) (hS' : SZR s l) :
    Ok Tryz.prog 13 [.slice p n c, .slice q m d] W fun W' v => ∃ v1, v = .tuple #[v1, .bool b] ∧ V RE W' v1 out ∧ SZR (sB r n s) out := root_Square_ok hz h h' hl hl' hn8 hS hS' B.q1 B.v1 B.q2 B.v2
theorem sqR {q : Option Addr} {m d : Nat} {l out : List Raw} {b : Bool} (B : Bds r s n) (hz : SqIs t l b out) (h : Sl RE W p n c t) (h' : Sl RQ W q m d l) (hl : ∀ r ∈ t, ∀ i ∈ r, smallR i) (hl' : ∀ i ∈ l, smallR i) (hn8 : n ≤ 8) (hS : SZT r t) (hS' : SZR s l) :
    Ok Tryz.prog 16 [.slice p n c, .slice q m d] W fun W' v => ∃ v1, v = .tuple #[v1, .bool b] ∧ V RE W' v1 out ∧ SZR (sB r n s) out := ref08_Square_ok hz h h' hl hl' hn8 hS hS' B.q1 B.v1 B.z1 B.q2 B.z2 B.v2
theorem adP {q : Option Addr} {m d : Nat} {l out : List Raw} {tout : List (List Raw)} {e : Int} (B : Bds r s n) (hz : AdjIs t l tout out e) (h : Sl RE W p n c t) (h' : Sl RQ W q m d l) (hl : ∀ r ∈ t, ∀ i ∈ r, smallR i) (hl' : ∀ i ∈ l, smallR i) (hn4 : n ≤ 4) (hS : SZT r t) (hS' : SZR s l) :
    Ok Tryz.prog 32 [.slice p n c, .slice q m d] W fun W' v => ∃ v1 v2, v = .tuple #[v1, v2, .int .i64 e] ∧ V RT W' v1 tout ∧ V RE W' v2 out ∧ SZR (sB r n s + 3) out := root_Adjoin_ok hz h h' hl hl' hn4 hS hS' B.q1 B.v1 B.q2 B.v2 B.v3
theorem adR {q : Option Addr} {m d : Nat} {l out : List Raw} {tout : List (List Raw)} {e : Int} (B : Bds r s n) (hz : AdjIs t l tout out e) (h : Sl RE W p n c t) (h' : Sl RQ W q m d l) (hl : ∀ r ∈ t, ∀ i ∈ r, smallR i) (hl' : ∀ i ∈ l, smallR i) (hn4 : n ≤ 4) (hS : SZT r t) (hS' : SZR s l) :
    Ok Tryz.prog 35 [.slice p n c, .slice q m d] W fun W' v => ∃ v1 v2, v = .tuple #[v1, v2, .int .i64 e] ∧ V RT W' v1 tout ∧ V RE W' v2 out ∧ SZR (sB r n s + 3) out := ref08_Adjoin_ok hz h h' hl hl' hn4 hS hS' B.q1 B.v1 B.z1 B.q2 B.z2 B.v2 B.v3
end
theorem short3.small {i : Raw} (h : short3 i) : smallR i := ⟨Nat.le_trans h.1 (by decide), Nat.le_trans h.2.1 (by decide)⟩
theorem short3L.small {l : List Raw} (h : short3L l) : ∀ i ∈ l, smallR i := fun i hi => (h.2 i hi).small
theorem short3_qs {x : Rat} (h : short3 (cq x)) : Qs 96 x := by
  refine ⟨short_nat (m := 3) h.1, ?_⟩
  show ((x.den : Int)).natAbs < 2 ^ 96
  rw [Int.natAbs_natCast]
  exact short_nat (m := 3) h.2.1
theorem short3L.szr {l : List Raw} (h : short3L l) : SZR 1537 l := fun xs e => by
  subst e
  have hl := h.1
  rw [cl_length] at hl
  exact (Sz.all (p := 96) fun x hx => short3_qs (h.2 _ (List.mem_map.2 ⟨x, hx, rfl⟩))).mono (by omega)
theorem small3.szt {t : List (List Raw)} {l : List Raw} {m : Nat} (h : small3 t l m) : SZT 1537 t := fun l hl => (h.2.2 l hl).szr
theorem small3.st {t : List (List Raw)} {l : List Raw} {m : Nat} (h : small3 t l m) : ∀ r ∈ t, ∀ i ∈ r, smallR i := fun r hr => (h.2.2 r hr).small
theorem bds3 : Bds 1537 1537 3 := ⟨by decide +kernel, by decide +kernel, by decide +kernel, by decide +kernel, by decide +kernel, by decide +kernel, by decide +kernel⟩
/-- integers of 64 bits -/
def RZ : Rep Int where
  size := 1
  agg := false
  At := fun W cs x => cs = [.int .i64 x] ∧ -9223372036854775808 ≤ x ∧ x < 9223372036854775808
  len := fun h => by rw [h.1]; rfl
  mono := fun _ h => h
  one := fun h v hv => by rw [h.1] at hv; simp at hv; subst hv; rfl
theorem V.rz {W : GW} {v : Value} {x : Int} (h : V RZ W v x) : v = .int .i64 x ∧ -9223372036854775808 ≤ x ∧ x < 9223372036854775808 := by
  obtain ⟨cs, ⟨h1, h2⟩, h3⟩ := h
  subst h1
  exact ⟨h3, h2⟩
theorem rzv {W : GW} (x : Int) (h : -9223372036854775808 ≤ x ∧ x < 9223372036854775808) : V RZ W (.int .i64 x) x := ⟨_, ⟨rfl, h⟩, rfl⟩
def qs (zs : List Int) : List Rat := zs.map fun (z : Int) => (z : Rat)
theorem law08_ints_ok {W : GW} {p : Option Addr} {n c : Nat} {zs : List Int} (h : Sl RZ W p n c zs) (hn0 : n ≤ 1000) :
    Ok Tryz.prog 36 [.slice p n c] W fun W' r => V RE W' r (cl (qs zs)) := by
  have hn := h.hn
  refine Ok.own ?_
  refine Ok.enter Tryz.func36 rfl rfl rfl rfl fun W0 iEn => ?_
  refine J.seq <| J.reg rfl <| O.as rfl <| JO.nil <| J.seq <| J.reg rfl <| O.as rfl <| JO.nil <| J.seq <| J.seq <| J.reg rfl <| O.mv rfl <| O.len rfl <| O.mv rfl <| JO.nil <| J.block <| ?_
  refine J.loop (α := Nat × Option Addr × Nat) (fun g => [(3, .slice g.2.1 g.1 g.2.2), (6, .slice p n c), (7, .int .i64 (n : Int)), (8, .int .i64 (g.1 : Int))]) (fun g W' => Le W0 W' ∧ g.1 ≤ n ∧ Ows RQ W' g.2.1 g.1 g.2.2 (cl (qs (zs.take g.1)))) (fun g => n - g.1) (0, none, 0) ⟨rfl, rfl, rfl, rfl, trivial⟩ ⟨inferInstance, Nat.zero_le _, Ows.nil _ _ _⟩ ?_
  rintro ⟨k, po, co⟩ W3 ⟨_, hk, ho⟩
  dsimp only at *
  refine J.seq <| J.reg rfl <| O.lt rfl rfl <| JO.nil <| J.seq <| J.condD rfl (fun h9 => ?_) (fun h9 => ?_)
  · skip
    obtain ⟨z, hz⟩ : ∃ z, zs[k]? = some z := ⟨_, List.getElem?_eq_getElem (by omega)⟩
    refine J.skip <| J.seq <| J.block <| J.seq <| J.reg rfl <| O.ix (r := RZ) (j := k) rfl rfl rfl h.to hz rfl rfl (fun _ => rfl) fun a v hv => ?_
    obtain ⟨rfl, hzr⟩ := V.rz hv
    refine O.as rfl <| JO.nil <| J.reg rfl <| O.mv rfl <| O.mv rfl <| O.call rfl (ref02_FromInt_ok hzr) fun W4 v4 i4 e4 h4 => ?_
    have ho4 := ho.ext e4
    refine O.app1 (r := RQ) (u := cq (z : Rat)) (fun _ => rfl) rfl ho4 h4 rfl rfl (by decide) (.inl rfl) (by decide) (by omega) (by omega) fun W5 p6 c6 v5 i5 o5 => O.as rfl <| JO.nil <| J.bend <| J.reg rfl <| O.add rfl rfl (wI (by omega)) <| O.mv rfl <| JO.nil <| ?_
    exact J.at' (k + 1, p6, c6) ⟨rfl, rfl, rfl, rfl, trivial⟩ ⟨⟨inferInstance, by show k + 1 ≤ n; omega, by
      have e : cl (qs (zs.take (k + 1))) = cl (qs (zs.take k)) ++ [cq (z : Rat)] := by
        rw [List.take_add_one, hz, qs, List.map_append, cl_append]; rfl
      rw [e]; exact o5⟩, by show n - (k + 1) < n - k; omega⟩
  · skip
    refine J.exit rfl <| J.seq <| J.reg rfl <| O.mv rfl <| O.as rfl <| JO.nil <| ?_
    have hkn : k = n := by omega
    subst hkn
    rw [List.take_of_length_le (by omega)] at ho
    refine J.ret1o rfl (.tmp rfl) fun W' iE iO => ?_
    exact ho.ret (W0 := W) iE iO
theorem law08_own_ok {W : GW} {p : Option Addr} {n c : Nat} {l : List Raw} (h : Sl RQ W p n c l) (hn : n ≤ 1000000) :
    Ok Tryz.prog 15 [.slice p n c] W fun W' r => V RE W' r l := by
  have hnn := h.hn
  refine Ok.own ?_
  refine Ok.enter Tryz.func15 rfl rfl rfl rfl fun W0 iEn => ?_
  refine J.seq <| J.reg rfl <| O.as rfl <| JO.nil <| J.seq <| J.reg rfl <| O.bso (r := RQ) [] (vs := []) rfl trivial rfl rfl rfl (by decide) (.inl rfl) (by decide) fun W2 b2 i2 e2 hb2 o2 => O.mv rfl <| O.app rfl rfl o2 h.to rfl rfl (by omega) (by omega) fun W3 p3 c3 i3 o3 => O.as rfl <| JO.nil <| J.ret1o rfl (.tmp rfl) fun W' iE iO => ?_
  simpa using o3.ret iE iO
theorem law08_copied_ok {W : GW} {p : Option Addr} {n c : Nat} {t : List (List Raw)} (h : Sl RE W p n c t) (hn : n ≤ 1000) (hl : ∀ l ∈ t, l.length ≤ 1000000) :
    Ok Tryz.prog 14 [.slice p n c] W fun W' r => V RT W' r t := by
  have hnn := h.hn
  refine Ok.own ?_
  refine Ok.enter Tryz.func14 rfl rfl rfl rfl fun W0 iEn => ?_
  refine J.seq <| J.reg rfl <| O.as rfl <| JO.nil <| J.seq <| J.reg rfl <| O.as rfl <| JO.nil <| J.seq <| J.seq <| J.reg rfl <| O.mv rfl <| O.len rfl <| O.mv rfl <| JO.nil <| J.block <| ?_
  refine J.loop (α := Nat × Option Addr × Nat) (fun g => [(3, .slice g.2.1 g.1 g.2.2), (6, .slice p n c), (7, .int .i64 (n : Int)), (8, .int .i64 (g.1 : Int))]) (fun g W' => Le W0 W' ∧ g.1 ≤ n ∧ Ows RE W' g.2.1 g.1 g.2.2 (t.take g.1)) (fun g => n - g.1) (0, none, 0) ⟨rfl, rfl, rfl, rfl, trivial⟩ ⟨inferInstance, Nat.zero_le _, Ows.nil _ _ _⟩ ?_
  rintro ⟨k, p3, c3⟩ W3 ⟨_, hk, ho⟩
  dsimp only at *
  refine J.seq <| J.reg rfl <| O.lt rfl rfl <| JO.nil <| J.seq <| J.condD rfl (fun h9 => ?_) (fun h9 => ?_)
  · skip
    obtain ⟨u, hu⟩ : ∃ u, t[k]? = some u := ⟨_, List.getElem?_eq_getElem (by omega)⟩
    have hul := hl u (List.mem_of_getElem? hu)
    refine J.skip <| J.seq <| J.block <| J.seq <| J.reg rfl <| O.iaT (j := k) rfl rfl rfl h.to hu rfl fun b10 o10 hb10 => ?_
    refine O.ldTs rfl hb10.to.h fun p11 m11 c11 s11 => ?_
    have h11 := s11.v
    refine O.as rfl <| JO.nil <| J.reg rfl <| O.mv rfl <| O.mv rfl <| ?_
    refine O.call rfl (law08_own_ok s11.to (by have := s11.hn; omega)) fun W14 v14 i14 e14 h14 => ?_
    obtain ⟨p14, m14, c14, rfl, s14⟩ := h14.sl
    refine O.app1 (r := RE) (u := u) (fun _ => rfl) rfl (ho.ext e14) s14.to.v rfl rfl (by decide) (.inr rfl) (by decide) (by omega) (by omega) fun W16 p16 c16 v15 i16 o16 => O.as rfl <| JO.nil <| J.bend <| J.reg rfl <| O.add rfl rfl (wI (by omega)) <| O.mv rfl <| JO.nil <| ?_
    exact J.at' (k + 1, p16, c16) ⟨rfl, rfl, rfl, rfl, trivial⟩ ⟨⟨inferInstance, by show k + 1 ≤ n; omega, by rw [List.take_add_one, hu]; exact o16⟩, by show n - (k + 1) < n - k; omega⟩
  · skip
    refine J.exit rfl <| J.seq <| J.reg rfl <| O.mv rfl <| O.as rfl <| JO.nil <| ?_
    have hkn : k = n := by omega
    subst hkn
    rw [List.take_of_length_le (by omega)] at ho
    refine J.ret1o rfl (.tmp rfl) fun W' iE iO => ?_
    exact ho.ret iE iO
/-- what a statement asks of its arguments -/
def good3 (t : List (List Raw)) (ls : List (List Raw)) : Prop := (∀ a ∈ ls, small3 t a 3 ∧ okT t ∧ okE (2 ^ t.length) a) ∧ redR t
theorem law08_right_ok {W : GW} {p q : Option Addr} {n c m d : Nat} {t ls : List (List Raw)} (h : Sl RE W p n c t) (h' : Sl RE W q m d ls) (h0 : ls ≠ []) :
    Ok Tryz.prog 18 [.slice p n c, .slice q m d] W fun _ r => ∃ b, r = .bool b ∧ (b = true ↔ good3 t ls) := by
  have hn := h.hn
  have hm := h'.hn
  have hcC := h'.hC
  have hcc := h'.hc
  refine Ok.enter Tryz.func18 rfl rfl rfl rfl fun W0 iEn => ?_
  refine J.seq <| J.reg rfl <| O.as rfl <| JO.nil <| J.seq <| J.seq <| J.reg rfl <| O.mv rfl <| O.len rfl <| O.mv rfl <| JO.nil <| J.block <| ?_
  refine J.loop (α := Nat) (fun i => [(0, .slice p n c), (7, .slice q m d), (8, .int .i64 (m : Int)), (9, .int .i64 (i : Int))]) (fun i W' => Le W0 W' ∧ i ≤ m ∧ ∀ j l, j < i → ls[j]? = some l → small3 t l 3 ∧ okT t ∧ okE (2 ^ t.length) l) (fun i => m - i) 0 ⟨rfl, rfl, rfl, rfl, trivial⟩ ⟨inferInstance, Nat.zero_le _, fun _ _ h => nomatch h⟩ ?_
  rintro i W3 ⟨_, hi, hd⟩
  refine J.seq <| J.reg rfl <| O.lt rfl rfl <| JO.nil <| J.seq <| J.condD rfl (fun h10 => ?_) (fun h10 => ?_)
  · skip
    obtain ⟨u, hu⟩ : ∃ u, ls[i]? = some u := ⟨_, List.getElem?_eq_getElem (by omega)⟩
    refine J.skip <| J.seq <| J.block <| J.seq <| J.reg rfl <| O.iaT (j := i) rfl rfl rfl h'.to hu rfl fun b11 o11 hb11 => ?_
    refine O.ldTs rfl hb11.to.h fun p12 m12 c12 s12 => ?_
    have h12 := s12.v
    refine O.as rfl <| JO.nil <| J.seq <| J.reg rfl <| O.mv rfl <| O.mv rfl <| O.call rfl (ref08_Small_ok (most := 3) h.to s12.to (by decide)) fun W15 v15 i15 e15 h15 => ?_
    obtain ⟨b, rfl, hb⟩ := h15
    refine O.not rfl <| O.mv rfl <| ?_
    by_cases hg17 : b = false
    · skip
      refine O.set (t := 17) (.bool true) rfl (by simp [hg17]) <| O.gs rfl rfl rfl <| O.gs rfl rfl rfl <| O.gs rfl rfl rfl <| O.gs rfl rfl rfl <| O.pickT rfl rfl <| JO.nil <| J.condT rfl <| J.seq <| J.reg rfl <| O.as rfl <| JO.nil <| J.ret1 rfl (.tmp rfl) fun W' iE iP => ?_
      exact ⟨false, rfl, fun h => (nomatch h), fun h => by rw [hb.2 (h.1 u (List.mem_of_getElem? hu)).1] at hg17; cases hg17⟩
    · skip
      have hs := hb.1 (by simpa using hg17)
      refine O.set (t := 17) (.bool false) rfl (by simp at hg17; simp [hg17]) <| O.gt rfl rfl <| O.mv rfl <| O.gt rfl rfl <| O.mv rfl <| O.gt rfl rfl <| O.call rfl (ref06_Formed_ok h.to s12.to hs.st hs.2.1.small (by have := hs.1; omega)) fun W20 v20 i20 e20 h20 => ?_
      obtain ⟨bf, rfl, hbf⟩ := h20
      refine O.gt rfl rfl <| O.not rfl <| O.pickF rfl rfl <| JO.nil <| J.cond rfl (fun h22 => ?_) (fun h22 => ?_)
      · skip
        refine J.seq <| J.reg rfl <| O.as rfl <| JO.nil <| J.ret1 rfl (.tmp rfl) fun W' iE iP => ?_
        exact ⟨false, rfl, fun h => (nomatch h), fun h => by rw [hbf.2 (h.1 u (List.mem_of_getElem? hu)).2] at h22; cases h22⟩
      · skip
        refine J.skip <| J.bend <| J.reg rfl <| O.add rfl rfl (wI (by omega)) <| O.mv rfl <| JO.nil <| ?_
        exact J.at' (i + 1) ⟨rfl, rfl, rfl, rfl, trivial⟩ ⟨⟨inferInstance, by omega, fun j l hj hjl => by
          by_cases hji : j = i
          · subst hji; rw [hu] at hjl; injection hjl with hjl; subst hjl; exact ⟨hs, hbf.1 (by simpa using h22)⟩
          · exact hd j l (by omega) hjl⟩, by omega⟩
  · skip
    have hm0 : 0 < ls.length := List.length_pos_iff.2 h0
    have hs := (hd 0 ls[0] (by omega) (List.getElem?_eq_getElem hm0)).1
    have B := bds3.le hs.1
    refine J.exit rfl <| J.seq <| J.reg rfl <| O.mv rfl <| O.call rfl (ref08_Reduced_ok (N := t.length) (r := 1537) h.to hs.st (by have := hs.1; omega) (by omega) hs.szt B.q1 B.v1 B.z1) fun W25 v25 i25 e25 h25 => ?_
    obtain ⟨br, rfl, hbr⟩ := h25
    refine O.as rfl <| JO.nil <| J.ret1 rfl (.tmp rfl) fun W' iE iP => ?_
    refine ⟨br, rfl, fun e => ⟨fun l hl => ?_, hbr.1 e⟩, fun e => hbr.2 e.2⟩
    obtain ⟨j, hj⟩ := List.getElem?_of_mem hl
    exact hd j l (by have := (List.getElem?_eq_some_iff.1 hj).1; omega) hj
end
section
def e1 (a b : Int) : El 1 := ((a : Rat), (b : Rat))
def e2 (a b c d : Int) : El 2 := (e1 a b, e1 c d)
def w1 (a : Int) : Tw 1 := ((), (a : Rat))
def wb : Tw 2 := (w1 2, e1 3 0)
theorem qs8 {z : Int} (h : z.natAbs < 256) : Qs 8 (z : Rat) := Qs.int h (by decide)
theorem sz_of {zs : List Int} (h : ∀ z ∈ zs, z.natAbs < 256) (hl : zs.length ≤ 4) : Sz 33 (qs zs) := by
  refine (Sz.all (p := 8) fun x hx => ?_).mono (by rw [qs, List.length_map]; omega)
  obtain ⟨z, hz, rfl⟩ := List.mem_map.1 hx
  exact qs8 (h z hz)
theorem SZT_ct {r k : Nat} {w : Tw k} (h : TS r k w) : SZT r (ct (toT k w)) := fun l hl => by
  obtain ⟨xs, hx, rfl⟩ := List.mem_map.1 hl
  exact SZR_cl (h.sz xs hx)
theorem nsq0 {q : Rat} (h : ¬ (sqN q.num.natAbs ∧ sqN q.den)) : ¬ isSq 0 () q := fun ⟨x, hx⟩ => h (sqQ_iff.1 ⟨x, hx⟩).2
instance (n : Nat) : Decidable (sqN n) := inferInstanceAs (Decidable (rt n * rt n = n))
theorem SqIs.no {k : Nat} {w : Tw k} {a : El k} (h : ¬ isSq k w a) : SqIs (ct (toT k w)) (cl (toL k a)) false [] := .inr ⟨fun ⟨j, w', a', e1, e2, _, e4⟩ => by
  obtain rfl := ct_inj2 e1
  obtain rfl := toT_inj (ct_inj e1)
  obtain rfl := toL_inj (cl_inj e2)
  exact h e4, rfl, rfl⟩
theorem red2 : red 1 (w1 2) := ⟨trivial, by decide +kernel, nsq0 (by decide +kernel)⟩
theorem red6 : red 1 (w1 6) := ⟨trivial, by decide +kernel, nsq0 (by decide +kernel)⟩
theorem nsq3 : ¬ isSq 1 (w1 2) (e1 3 0) := sq_low_no (t := w1 2) (u := (3 : Rat)) (i := (1 / 2 : Rat)) red2.1 (by decide +kernel) (nsq0 (by decide +kernel)) (nsq0 (by decide +kernel))
theorem nsq5 : ¬ isSq 1 (w1 6) (e1 5 2) := fun h => by
  obtain ⟨p, _, hp⟩ := sq_hi_no (t := w1 6) (u := (5 : Rat)) (v := (2 : Rat)) (m := (1 : Rat)) red6.1 (show (2 : Rat) ≠ 0 by decide +kernel) (by decide +kernel) h
  rcases hp with hp | hp
  · exact nsq0 (q := 3) (by decide +kernel) ⟨p, hp.trans (show (1 / 2 : Rat) * ((5 : Rat) + 1) = 3 by decide +kernel)⟩
  · exact nsq0 (q := 2) (by decide +kernel) ⟨p, hp.trans (show (1 / 2 : Rat) * ((5 : Rat) + -1) = 2 by decide +kernel)⟩
theorem redb : red 2 wb := ⟨red2, by decide +kernel, nsq3⟩
theorem nred4 : ¬ red 1 (w1 4) := fun h => h.2.2 ⟨(2 : Rat), by decide +kernel⟩
theorem ex1 : SqIs (ct (toT 1 (w1 2))) (cl (toL 1 (e1 3 2))) true (cl (toL 1 (e1 1 1))) := .inl ⟨1, w1 2, e1 3 2, e1 1 1, rfl, rfl, red2, by decide +kernel, by decide +kernel, rfl, rfl⟩
theorem ex2 : SqIs (ct (toT 1 (w1 2))) (cl (toL 1 (e1 8 0))) true (cl (toL 1 (e1 0 2))) := .inl ⟨1, w1 2, e1 8 0, e1 0 2, rfl, rfl, red2, by decide +kernel, by decide +kernel, rfl, rfl⟩
theorem ex3 : SqIs (ct (toT 1 (w1 2))) (cl (toL 1 (e1 3 0))) false [] := SqIs.no nsq3
theorem ex4 : SqIs (ct (toT 1 (w1 6))) (cl (toL 1 (e1 5 2))) false [] := SqIs.no nsq5
theorem ex5 : SqIs (ct (toT 2 wb)) (cl (toL 2 (e2 5 0 0 2))) true (cl (toL 2 (e2 0 1 1 0))) := .inl ⟨2, wb, e2 5 0 0 2, e2 0 1 1 0, rfl, rfl, redb, by decide +kernel, by decide +kernel, rfl, rfl⟩
theorem law08_awake_ok {W : GW} : Ok Tryz.prog 11 [] W fun _ r => r = .bool true := by
  have hT2 : TS 33 1 (w1 2) := ⟨trivial, sz_of (zs := [2]) (by decide) (by decide)⟩
  have hT4 : TS 33 1 (w1 4) := ⟨trivial, sz_of (zs := [4]) (by decide) (by decide)⟩
  have hT6 : TS 33 1 (w1 6) := ⟨trivial, sz_of (zs := [6]) (by decide) (by decide)⟩
  have hTb : TS 33 2 wb := ⟨hT2, sz_of (zs := [3, 0]) (by decide) (by decide)⟩
  have hA1 : Sz 33 (toL 1 (e1 3 2)) := sz_of (zs := [3, 2]) (by decide) (by decide)
  have hA2 : Sz 33 (toL 1 (e1 8 0)) := sz_of (zs := [8, 0]) (by decide) (by decide)
  have hA3 : Sz 33 (toL 1 (e1 3 0)) := sz_of (zs := [3, 0]) (by decide) (by decide)
  have hA4 : Sz 33 (toL 1 (e1 5 2)) := sz_of (zs := [5, 2]) (by decide) (by decide)
  have hA5 : Sz 33 (toL 2 (e2 5 0 0 2)) := sz_of (zs := [5, 0, 0, 2]) (by decide) (by decide)
  have B2 : Bds 33 33 2 := ⟨by decide +kernel, by decide +kernel, by decide +kernel, by decide +kernel, by decide +kernel, by decide +kernel, by decide +kernel⟩
  have B1 := B2.le (n := 1) (by decide)
  refine Ok.enter Tryz.func11 rfl rfl rfl rfl fun W0 iEn => ?_
  refine J.seq <| J.reg rfl <| O.as rfl <| JO.nil <| J.seq <| J.reg rfl <| O.bs (r := RZ) [2] rfl ⟨rzv _ (by decide), trivial⟩ rfl rfl rfl (by decide) (.inr rfl) (by decide) fun W14 p14 i14 e14 s14 => ?_
  refine O.call rfl (law08_ints_ok s14.to (by decide)) fun W15 v15 i15 e15 h15 => ?_
  obtain ⟨p15, m15, c15, rfl, s15⟩ := h15.sl
  refine O.bs (r := RE) [cl (qs [2])] rfl ⟨s15.to.v, trivial⟩ rfl rfl rfl (by decide) (.inr rfl) (by decide) fun W16 p16 i16 e16 s16 => O.as rfl <| JO.nil <| J.seq <| J.reg rfl <| O.bs (r := RZ) [6] rfl ⟨rzv _ (by decide), trivial⟩ rfl rfl rfl (by decide) (.inr rfl) (by decide) fun W17 p17 i17 e17 s17 => ?_
  refine O.call rfl (law08_ints_ok s17.to (by decide)) fun W18 v18 i18 e18 h18 => ?_
  obtain ⟨p18, m18, c18, rfl, s18⟩ := h18.sl
  refine O.bs (r := RE) [cl (qs [6])] rfl ⟨s18.to.v, trivial⟩ rfl rfl rfl (by decide) (.inr rfl) (by decide) fun W19 p19 i19 e19 s19 => O.as rfl <| JO.nil <| J.seq <| J.reg rfl <| O.bs (r := RZ) [2] rfl ⟨rzv _ (by decide), trivial⟩ rfl rfl rfl (by decide) (.inr rfl) (by decide) fun W20 p20 i20 e20 s20 => ?_
  refine O.call rfl (law08_ints_ok s20.to (by decide)) fun W21 v21 i21 e21 h21 => ?_
  obtain ⟨p21, m21, c21, rfl, s21⟩ := h21.sl
  refine O.bs (r := RZ) [3, 0] rfl ⟨rzv _ (by decide), rzv _ (by decide), trivial⟩ rfl rfl rfl (by decide) (.inr rfl) (by decide) fun W22 p22 i22 e22 s22 => ?_
  refine O.call rfl (law08_ints_ok s22.to (by decide)) fun W23 v23 i23 e23 h23 => ?_
  obtain ⟨p23, m23, c23, rfl, s23⟩ := h23.sl
  refine O.bs (r := RE) [cl (qs [2]), cl (qs [3, 0])] rfl ⟨s21.to.v, s23.to.v, trivial⟩ rfl rfl rfl (by decide) (.inr rfl) (by decide) fun W24 p24 i24 e24 s24 => O.as rfl <| JO.nil <| J.seq <| J.reg rfl <| O.mv rfl <| O.bs (r := RZ) [3, 2] rfl ⟨rzv _ (by decide), rzv _ (by decide), trivial⟩ rfl rfl rfl (by decide) (.inr rfl) (by decide) fun W27 p27 i27 e27 s27 => ?_
  refine O.call rfl (law08_ints_ok s27.to (by decide)) fun W28 v28 i28 e28 h28 => ?_
  obtain ⟨p28, m28, c28, rfl, s28⟩ := h28.sl
  refine O.call rfl (sqP (r := 33) (s := 33) B1 ex1 s16.to s28.to (small_ct hT2 (by decide)) (small_cl hA1.qs' (by decide)) (by decide) (SZT_ct hT2) (SZR_cl hA1)) fun W29 v29 i29 e29 h29 => ?_
  obtain ⟨v30, rfl, h30, _⟩ := h29
  obtain ⟨p30, m30, c30, rfl, s30⟩ := h30.sl
  refine O.mv rfl <| O.ext rfl rfl <| O.ext rfl rfl <| O.as rfl <| O.as rfl <| JO.nil <| J.seq <| J.reg rfl <| O.mv rfl <| O.bs (r := RZ) [8, 0] rfl ⟨rzv _ (by decide), rzv _ (by decide), trivial⟩ rfl rfl rfl (by decide) (.inr rfl) (by decide) fun W34 p34 i34 e34 s34 => ?_
  refine O.call rfl (law08_ints_ok s34.to (by decide)) fun W35 v35 i35 e35 h35 => ?_
  obtain ⟨p35, m35, c35, rfl, s35⟩ := h35.sl
  refine O.call rfl (sqP (r := 33) (s := 33) B1 ex2 s16.to s35.to (small_ct hT2 (by decide)) (small_cl hA2.qs' (by decide)) (by decide) (SZT_ct hT2) (SZR_cl hA2)) fun W36 v36 i36 e36 h36 => ?_
  obtain ⟨v37, rfl, h37, _⟩ := h36
  obtain ⟨p37, m37, c37, rfl, s37⟩ := h37.sl
  refine O.mv rfl <| O.ext rfl rfl <| O.ext rfl rfl <| O.as rfl <| O.as rfl <| JO.nil <| J.seq <| J.reg rfl <| O.mv rfl <| O.bs (r := RZ) [3, 0] rfl ⟨rzv _ (by decide), rzv _ (by decide), trivial⟩ rfl rfl rfl (by decide) (.inr rfl) (by decide) fun W41 p41 i41 e41 s41 => ?_
  refine O.call rfl (law08_ints_ok s41.to (by decide)) fun W42 v42 i42 e42 h42 => ?_
  obtain ⟨p42, m42, c42, rfl, s42⟩ := h42.sl
  refine O.call rfl (sqP (r := 33) (s := 33) B1 ex3 s16.to s42.to (small_ct hT2 (by decide)) (small_cl hA3.qs' (by decide)) (by decide) (SZT_ct hT2) (SZR_cl hA3)) fun W43 v43 i43 e43 h43 => ?_
  obtain ⟨v44, rfl, h44, _⟩ := h43
  obtain ⟨p44, m44, c44, rfl, s44⟩ := h44.sl
  refine O.mv rfl <| O.ext rfl rfl <| O.ext rfl rfl <| O.as rfl <| O.as rfl <| JO.nil <| J.seq <| J.reg rfl <| O.mv rfl <| O.bs (r := RZ) [5, 2] rfl ⟨rzv _ (by decide), rzv _ (by decide), trivial⟩ rfl rfl rfl (by decide) (.inr rfl) (by decide) fun W48 p48 i48 e48 s48 => ?_
  refine O.call rfl (law08_ints_ok s48.to (by decide)) fun W49 v49 i49 e49 h49 => ?_
  obtain ⟨p49, m49, c49, rfl, s49⟩ := h49.sl
  refine O.call rfl (sqP (r := 33) (s := 33) B1 ex4 s19.to s49.to (small_ct hT6 (by decide)) (small_cl hA4.qs' (by decide)) (by decide) (SZT_ct hT6) (SZR_cl hA4)) fun W50 v50 i50 e50 h50 => ?_
  obtain ⟨v51, rfl, h51, _⟩ := h50
  obtain ⟨p51, m51, c51, rfl, s51⟩ := h51.sl
  refine O.mv rfl <| O.ext rfl rfl <| O.ext rfl rfl <| O.as rfl <| O.as rfl <| JO.nil <| J.seq <| J.reg rfl <| O.mv rfl <| O.bs (r := RZ) [5, 0, 0, 2] rfl ⟨rzv _ (by decide), rzv _ (by decide), rzv _ (by decide), rzv _ (by decide), trivial⟩ rfl rfl rfl (by decide) (.inr rfl) (by decide) fun W55 p55 i55 e55 s55 => ?_
  refine O.call rfl (law08_ints_ok s55.to (by decide)) fun W56 v56 i56 e56 h56 => ?_
  obtain ⟨p56, m56, c56, rfl, s56⟩ := h56.sl
  refine O.call rfl (sqP (r := 33) (s := 33) B2 ex5 s24.to s56.to (small_ct hTb (by decide)) (small_cl hA5.qs' (by decide)) (by decide) (SZT_ct hTb) (SZR_cl hA5)) fun W57 v57 i57 e57 h57 => ?_
  obtain ⟨v58, rfl, h58, _⟩ := h57
  obtain ⟨p58, m58, c58, rfl, s58⟩ := h58.sl
  refine O.mv rfl <| O.ext rfl rfl <| O.ext rfl rfl <| O.as rfl <| O.as rfl <| JO.nil <| J.seq <| J.reg rfl <| O.mv rfl <| O.mv rfl <| O.gt rfl rfl <| O.mv rfl <| O.pickT rfl rfl <| O.mv rfl <| O.gt rfl rfl <| O.mv rfl <| O.pickT rfl rfl <| O.mv rfl <| O.gt rfl rfl <| O.mv rfl <| O.gt rfl rfl <| O.not rfl <| O.pickT rfl rfl <| O.mv rfl <| O.gt rfl rfl <| O.mv rfl <| O.gt rfl rfl <| O.not rfl <| O.pickT rfl rfl <| O.mv rfl <| O.gt rfl rfl <| O.mv rfl <| O.gt rfl rfl <| O.bs (r := RZ) [1, 1] rfl ⟨rzv _ (by decide), rzv _ (by decide), trivial⟩ rfl rfl rfl (by decide) (.inr rfl) (by decide) fun W77 p77 i77 e77 s77 => O.gt rfl rfl <| ?_
  refine O.call rfl (law08_ints_ok s77.to (by decide)) fun W78 v78 i78 e78 h78 => ?_
  obtain ⟨p78, m78, c78, rfl, s78⟩ := h78.sl
  refine O.gt rfl rfl <| ?_
  refine O.call rfl (ref08_Same_ok (S := 33) (xs := qs [1, 1]) s30.to s78.to (sz_of (by decide) (by decide)) (by decide)) fun W79 v79 i79 e79 h79 => ?_
  subst h79
  refine O.pickT rfl rfl <| O.mv rfl <| O.gt rfl rfl <| O.mv rfl <| O.gt rfl rfl <| O.bs (r := RZ) [0, 2] rfl ⟨rzv _ (by decide), rzv _ (by decide), trivial⟩ rfl rfl rfl (by decide) (.inr rfl) (by decide) fun W83 p83 i83 e83 s83 => O.gt rfl rfl <| ?_
  refine O.call rfl (law08_ints_ok s83.to (by decide)) fun W84 v84 i84 e84 h84 => ?_
  obtain ⟨p84, m84, c84, rfl, s84⟩ := h84.sl
  refine O.gt rfl rfl <| ?_
  refine O.call rfl (ref08_Same_ok (S := 33) (xs := qs [0, 2]) s37.to s84.to (sz_of (by decide) (by decide)) (by decide)) fun W85 v85 i85 e85 h85 => ?_
  subst h85
  refine O.pickT rfl rfl <| O.mv rfl <| O.gt rfl rfl <| O.mv rfl <| O.gt rfl rfl <| O.bs (r := RZ) [0, 1, 1, 0] rfl ⟨rzv _ (by decide), rzv _ (by decide), rzv _ (by decide), rzv _ (by decide), trivial⟩ rfl rfl rfl (by decide) (.inr rfl) (by decide) fun W89 p89 i89 e89 s89 => O.gt rfl rfl <| ?_
  refine O.call rfl (law08_ints_ok s89.to (by decide)) fun W90 v90 i90 e90 h90 => ?_
  obtain ⟨p90, m90, c90, rfl, s90⟩ := h90.sl
  refine O.gt rfl rfl <| ?_
  refine O.call rfl (ref08_Same_ok (S := 33) (xs := qs [0, 1, 1, 0]) s58.to s90.to (sz_of (by decide) (by decide)) (by decide)) fun W91 v91 i91 e91 h91 => ?_
  subst h91
  refine O.pickT rfl rfl <| O.mv rfl <| O.gt rfl rfl <| O.bs (r := RZ) [4] rfl ⟨rzv _ (by decide), trivial⟩ rfl rfl rfl (by decide) (.inr rfl) (by decide) fun W94 p94 i94 e94 s94 => O.gt rfl rfl <| ?_
  refine O.call rfl (law08_ints_ok s94.to (by decide)) fun W95 v95 i95 e95 h95 => ?_
  obtain ⟨p95, m95, c95, rfl, s95⟩ := h95.sl
  refine O.gt rfl rfl <| O.bs (r := RE) [cl (qs [4])] rfl ⟨s95.to.v, trivial⟩ rfl rfl rfl (by decide) (.inr rfl) (by decide) fun W96 p96 i96 e96 s96 => O.gt rfl rfl <| ?_
  refine O.call rfl ((root_Reduced_ok (N := 1) (r := 33) s96.to (small_ct hT4 (by decide)) (by decide) (by decide) (SZT_ct hT4) B1.q1 B1.v1).eqB (b0 := false) ⟨fun h => (nomatch h), fun h => absurd ((redR_ct (w := w1 4)).1 h) nred4⟩) fun W97 v97 i97 e97 h97 => ?_
  subst h97
  refine O.gt rfl rfl <| O.not rfl <| O.pickT rfl rfl <| O.mv rfl <| O.gt rfl rfl <| O.mv rfl <| O.gt rfl rfl <| ?_
  refine O.call rfl ((root_Reduced_ok (N := 2) (r := 33) s24.to (small_ct hTb (by decide)) (by decide) (by decide) (SZT_ct hTb) B2.q1 B2.v1).eqB (b0 := true) ⟨fun _ => (redR_ct (w := wb)).2 redb, fun _ => rfl⟩) fun W102 v102 i102 e102 h102 => ?_
  subst h102
  refine O.pickT rfl rfl <| O.as rfl <| JO.nil <| J.ret1 rfl (.tmp rfl) fun W' iE iP => ?_
  rfl
end
end Go.Proofs.YtcaikjefkkejbaaGreat

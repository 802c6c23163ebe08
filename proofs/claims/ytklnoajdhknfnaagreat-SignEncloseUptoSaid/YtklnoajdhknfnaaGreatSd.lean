/- Intervals of rational numbers: the program's and the reference's. -/
import Derived.Test.YtklnoajdhknfnaaGreatSb
import Derived.Test.YtklnoajdhknfnaaGreatVy
set_option linter.unusedVariables false
set_option linter.unusedSimpArgs false
set_option maxRecDepth 10000
set_option maxHeartbeats 4000000
namespace Go.Proofs.YtklnoajdhknfnaaGreat
open Go Go.Rx Go.Num Go.Tow
section
abbrev RV : Rep (Raw × Raw) := RP RQ RQ
def lo2 (x y : Rat) : Rat := if y < x then y else x
def hi2 (x y : Rat) : Rat := if x < y then y else x
def minL (x : Rat) (r : List Rat) : Rat := r.foldl lo2 x
def maxL (x : Rat) (r : List Rat) : Rat := r.foldl hi2 x
/-- the least interval with a list's numbers -/
def hl (x : Rat) (r : List Rat) : Raw × Raw := (cq (minL x r), cq (maxL x r))
theorem lo2_qs {s : Nat} {x y : Rat} (hx : Qs s x) (hy : Qs s y) : Qs s (lo2 x y) := by unfold lo2; split <;> assumption
theorem hi2_qs {s : Nat} {x y : Rat} (hx : Qs s x) (hy : Qs s y) : Qs s (hi2 x y) := by unfold hi2; split <;> assumption
theorem minL_snoc (x : Rat) (r : List Rat) (y : Rat) : minL x (r ++ [y]) = lo2 (minL x r) y := by simp [minL]
theorem maxL_snoc (x : Rat) (r : List Rat) (y : Rat) : maxL x (r ++ [y]) = hi2 (maxL x r) y := by simp [maxL]
theorem minL_qs {s : Nat} {x : Rat} {r : List Rat} (h : ∀ y ∈ x :: r, Qs s y) : Qs s (minL x r) := by
  induction r generalizing x with
  | nil => exact h x (List.mem_cons_self ..)
  | cons y r ih => exact ih (x := lo2 x y) (fun z hz => by
      rcases List.mem_cons.1 hz with rfl | hz
      · exact lo2_qs (h x (List.mem_cons_self ..)) (h y (by simp))
      · exact h z (by simp [hz]))
theorem maxL_qs {s : Nat} {x : Rat} {r : List Rat} (h : ∀ y ∈ x :: r, Qs s y) : Qs s (maxL x r) := by
  induction r generalizing x with
  | nil => exact h x (List.mem_cons_self ..)
  | cons y r ih => exact ih (x := hi2 x y) (fun z hz => by
      rcases List.mem_cons.1 hz with rfl | hz
      · exact hi2_qs (h x (List.mem_cons_self ..)) (h y (by simp))
      · exact h z (by simp [hz]))
theorem cmpQ_lt {x y : Rat} : cmpQ x y < 0 ↔ x < y := by
  unfold cmpQ
  split
  · rename_i h; simp [h]
  · rename_i h
    split <;> simp [h]
theorem cmpQ_gt {x y : Rat} : cmpQ x y > 0 ↔ y < x := by
  rw [cmpQ_swap, ← cmpQ_lt]; omega
theorem qs_take {s : Nat} {x : Rat} {r : List Rat} (h : ∀ y ∈ x :: r, Qs s y) (k : Nat) : ∀ y ∈ x :: r.take k, Qs s y := fun y hy => h y (by
  rcases List.mem_cons.1 hy with rfl | hy
  · exact List.mem_cons_self ..
  · exact List.mem_cons_of_mem _ (List.mem_of_mem_take hy))
theorem interval_hull_ok {W : GW} {p : Option Addr} {n c s : Nat} {x : Rat} {r : List Rat} (h : Sl RQ W p n c (cl (x :: r))) (hx : ∀ y ∈ x :: r, Qs s y) (hs : s ≤ 8796093022208) (hn0 : n ≤ 1000) :
    Ok Tryz.prog 127 [.slice p n c] W fun W' v => V RV W' v (hl x r) := by
  have hn := h.hn
  rw [cl_length, List.length_cons] at hn
  have hx0 : (cl (x :: r))[0]? = some (cq x) := rfl
  have hd := h.drop 1 (by omega)
  have hcc := h.hc
  have hCC := h.hC
  refine Ok.enter Tryz.func127 rfl rfl rfl rfl fun W0 iEn => ?_
  refine J.seq <| J.reg rfl <| ?_
  refine O.allocE fun W2 b2 i2 e2 hl2 hc2 hz2 => ?_
  refine JO.nil <| J.seq <| ?_
  refine J.cut (α := Nat × Nat) (fun g => [(0, .slice p n c), (2, .pointer (some ⟨b2, 0, none⟩)), (3, .pointer (some ⟨g.1, 0, none⟩)), (4, .pointer (some ⟨g.2, 0, none⟩))]) (fun g W' => Le W0 W' ∧ Rx.Loc W' b2 8 ∧ Rx.Loc W' g.1 4 ∧ Rx.Loc W' g.2 4 ∧ b2 ≠ g.1 ∧ b2 ≠ g.2 ∧ g.1 ≠ g.2 ∧ Pc RQ W' g.1 (cq x) ∧ Pc RQ W' g.2 (cq x)) ?_ ?_
  · skip
    obtain ⟨b9, o9, rfl, hj9, hb9⟩ := (h).placeP hx0
    obtain ⟨hj12, hb12⟩ := (h).placeQ hx0
    refine J.drawM [.ex _, .ex _, .rel _, .ex _, .ex _, .rel _, .rel _, .rel _] [false, false, false, false, false, false, true, true] 8 [3, 4, 5] [([], [[9]]), ([5], [[5, 9]]), ([4, 5], [[4, 5, 9]]), ([3, 4, 5], [[3, 4, 5, 9]])] (by decide +kernel) rfl rfl ⟨fun Wd id ed _ => O.mv rfl <| D.ex, fun Wd id ed _ => O.ia (j := 0) rfl rfl rfl hj9 <| D.ex, fun Wd id ed _ => O.ldTD rfl hb9.to.h rfl rfl (fun h => nomatch h), fun Wd id ed _ => O.mv rfl <| D.ex, fun Wd id ed _ => O.ia (j := 0) rfl rfl rfl hj12 <| D.ex, fun Wd id ed _ => O.ldTD rfl hb12.to.h rfl rfl (fun h => nomatch h), fun Wd id ed _ => O.allocN (by rfl) ed.size, fun Wd id ed _ => O.allocN (by rfl) ed.size, trivial⟩ ⟨⟨?_, trivial⟩, ⟨?_, trivial⟩, ⟨?_, trivial⟩, ⟨?_, trivial⟩, trivial⟩
    · skip
      intro Wr1 ir1 er1 v10 h10 v13 h13 v3 h3 ne3 v4 h4 ne4
      obtain ⟨b3, rfl, hl3, hz3⟩ := h3
      have n2_3 : b2 ≠ b3 := Nat.ne_of_lt (Nat.lt_of_lt_of_le (by exact hl2.to.lt) hz3)
      obtain ⟨b4, rfl, hl4, hz4⟩ := h4
      have n2_4 : b2 ≠ b4 := Nat.ne_of_lt (Nat.lt_of_lt_of_le (by exact hl2.to.lt) hz4)
      have n3_4 : b3 ≠ b4 := fun e => ne4.1 (by rw [e])
      refine O.stM rfl rfl hl3.to h10.to rfl fun Ws1 is1 hk3 F3 => ?_
      refine O.stM rfl rfl hl4.to h13.to rfl fun Ws2 is2 hk4 F4 => ?_
      have hk3 := hk3.stf F4 n3_4
      refine JO.nil <| ?_
      exact J.at' (b3, b4) ⟨rfl, rfl, rfl, rfl, trivial⟩ ⟨inferInstance, hl2.to, hl3.to, hl4.to, n2_3, n2_4, n3_4, hk3, hk4⟩
    · skip
      intro Wr1 ir1 er1 v10 h10 v3 h3 ne3 v4 h4 ne4
      obtain ⟨b3, rfl, hl3, hz3⟩ := h3
      have n2_3 : b2 ≠ b3 := Nat.ne_of_lt (Nat.lt_of_lt_of_le (by exact hl2.to.lt) hz3)
      obtain ⟨b4, rfl, hl4, hz4⟩ := h4
      have n2_4 : b2 ≠ b4 := Nat.ne_of_lt (Nat.lt_of_lt_of_le (by exact hl2.to.lt) hz4)
      have n3_4 : b3 ≠ b4 := fun e => ne4.1 (by rw [e])
      refine O.stM rfl rfl hl3.to h10.to rfl fun Ws3 is3 hk3 F3 => ?_
      refine O.ldT rfl hb12.to.h rfl rfl (fun h => nomatch h) fun v13 h13 => ?_
      refine O.stM rfl rfl hl4.to h13.to rfl fun Ws4 is4 hk4 F4 => ?_
      have hk3 := hk3.stf F4 n3_4
      refine JO.nil <| ?_
      exact J.at' (b3, b4) ⟨rfl, rfl, rfl, rfl, trivial⟩ ⟨inferInstance, hl2.to, hl3.to, hl4.to, n2_3, n2_4, n3_4, hk3, hk4⟩
    · skip
      intro Wr1 ir1 er1 v10 h10 v3 h3 ne3 v4 h4 ne4
      obtain ⟨b3, rfl, hl3, hz3⟩ := h3
      have n2_3 : b2 ≠ b3 := Nat.ne_of_lt (Nat.lt_of_lt_of_le (by exact hl2.to.lt) hz3)
      obtain ⟨b4, rfl, hl4, hz4⟩ := h4
      have n2_4 : b2 ≠ b4 := Nat.ne_of_lt (Nat.lt_of_lt_of_le (by exact hl2.to.lt) hz4)
      have n3_4 : b3 ≠ b4 := fun e => ne4.1 (by rw [e])
      refine O.stM rfl rfl hl3.to h10.to rfl fun Ws5 is5 hk3 F3 => ?_
      refine O.iaT (j := 0) rfl rfl rfl h.to hx0 rfl fun b12 o12 hb12 => O.ldT rfl hb12.to.h rfl rfl (fun h => nomatch h) fun v13 h13 => ?_
      refine O.stM rfl rfl hl4.to h13.to rfl fun Ws6 is6 hk4 F4 => ?_
      have hk3 := hk3.stf F4 n3_4
      refine JO.nil <| ?_
      exact J.at' (b3, b4) ⟨rfl, rfl, rfl, rfl, trivial⟩ ⟨inferInstance, hl2.to, hl3.to, hl4.to, n2_3, n2_4, n3_4, hk3, hk4⟩
    · skip
      intro Wr1 ir1 er1 v10 h10 v3 h3 ne3 v4 h4 ne4
      obtain ⟨b3, rfl, hl3, hz3⟩ := h3
      have n2_3 : b2 ≠ b3 := Nat.ne_of_lt (Nat.lt_of_lt_of_le (by exact hl2.to.lt) hz3)
      obtain ⟨b4, rfl, hl4, hz4⟩ := h4
      have n2_4 : b2 ≠ b4 := Nat.ne_of_lt (Nat.lt_of_lt_of_le (by exact hl2.to.lt) hz4)
      have n3_4 : b3 ≠ b4 := fun e => ne4.1 (by rw [e])
      refine O.stM rfl rfl hl3.to h10.to rfl fun Ws7 is7 hk3 F3 => ?_
      refine O.mv rfl <| O.iaT (j := 0) rfl rfl rfl h.to hx0 rfl fun b12 o12 hb12 => O.ldT rfl hb12.to.h rfl rfl (fun h => nomatch h) fun v13 h13 => ?_
      refine O.stM rfl rfl hl4.to h13.to rfl fun Ws8 is8 hk4 F4 => ?_
      have hk3 := hk3.stf F4 n3_4
      refine JO.nil <| ?_
      exact J.at' (b3, b4) ⟨rfl, rfl, rfl, rfl, trivial⟩ ⟨inferInstance, hl2.to, hl3.to, hl4.to, n2_3, n2_4, n3_4, hk3, hk4⟩
  · skip
    rintro ⟨b3, b4⟩ Wk ⟨_, hl2, hl3, hl4, n2_3, n2_4, n3_4, hk3, hk4⟩
    dsimp only at *
    refine J.seq <| J.seq <| J.reg rfl <| O.mv rfl <| O.sll (lo := 1) rfl rfl rfl (by omega) <| ?_
    generalize hp15 : (if c = 1 then p else p.map (·.add (1 * 4))) = p15 at *
    have hd : Sl RQ W p15 (n - 1) (c - 1) (cl r) := by rw [← hp15]; exact hd
    refine O.len rfl <| O.mv rfl <| JO.nil <| J.block <| ?_
    refine J.loop (α := Nat) (fun k => [(2, .pointer (some ⟨b2, 0, none⟩)), (3, .pointer (some ⟨b3, 0, none⟩)), (4, .pointer (some ⟨b4, 0, none⟩)), (15, .slice p15 (n - 1) (c - 1)), (16, .int .i64 ((n - 1 : Nat) : Int)), (17, .int .i64 (k : Int))]) (fun k W' => Le W0 W' ∧ Rx.Loc W' b2 8 ∧ Rx.Loc W' b3 4 ∧ Rx.Loc W' b4 4 ∧ Pc RQ W' b3 (cq (minL x (r.take k))) ∧ Pc RQ W' b4 (cq (maxL x (r.take k))) ∧ k ≤ n - 1) (fun k => n - 1 - k) 0 ⟨rfl, rfl, rfl, rfl, rfl, rfl, trivial⟩ ⟨inferInstance, hl2.to, hl3.to, hl4.to, hk3, hk4, Nat.zero_le _⟩ ?_
    rintro k W3 ⟨_, hl2, hl3, hl4, hk3, hk4, hk⟩
    have s15 := hd.to (W' := W3)
    refine J.seq <| J.reg rfl <| O.lt rfl rfl <| JO.nil <| J.seq <| J.condD rfl (fun h18 => ?_) (fun h18 => ?_)
    · skip
      obtain ⟨y, hyk⟩ := rat_get (xs := r) (i := k) (by omega)
      have hyq := hx y (List.mem_cons_of_mem _ (List.mem_of_getElem? hyk))
      have hloq := minL_qs (qs_take hx k)
      have hhiq := maxL_qs (qs_take hx k)
      have hlo : minL x (r.take (k + 1)) = lo2 (minL x (r.take k)) y := by rw [take_snoc hyk, minL_snoc]
      have hhi : maxL x (r.take (k + 1)) = hi2 (maxL x (r.take k)) y := by rw [take_snoc hyk, maxL_snoc]
      refine J.skip <| J.seq <| J.block <| J.seq <| J.reg rfl <| O.iaT (j := k) rfl rfl rfl s15.to (cl_get hyk) rfl fun b19 o19 hb19 => O.ldT rfl hb19.to.h rfl rfl (fun h => nomatch h) fun v20 h20 => ?_
      refine O.allocE fun W6 b6 i6 e6 hl6 hc6 hz6 => ?_
      have n2_6 : b2 ≠ b6 := Nat.ne_of_lt (Nat.lt_of_lt_of_le (by exact hl2.to.lt) hz6)
      have n3_6 : b3 ≠ b6 := Nat.ne_of_lt (Nat.lt_of_lt_of_le (by exact hl3.to.lt) hz6)
      have n4_6 : b4 ≠ b6 := Nat.ne_of_lt (Nat.lt_of_lt_of_le (by exact hl4.to.lt) hz6)
      refine O.stT rfl rfl hl6.to h20.to rfl fun Ws9 is9 hb6 F6 => ?_
      have hl2 := F6.loc hl2.to n2_6
      have hl3 := F6.loc hl3.to n3_6
      have hl4 := F6.loc hl4.to n4_6
      have hk3 := (hk3.ext e6).stf F6 n3_6
      have hk4 := (hk4.ext e6).stf F6 n4_6
      refine JO.nil <| J.seq <| J.seq <| J.reg rfl <| O.ldT rfl hb6.to.h rfl rfl (fun h => nomatch h) fun v21 h21 => O.ldT rfl hk3.h rfl rfl (fun h => nomatch h) fun v22 h22 => ?_
      refine O.call rfl (rational_Cmp_ok h21.to h22.to hyq hloq (by omega) (by omega)) fun W23 v23 i23 e23 h23 => ?_
      subst h23
      refine O.lt rfl rfl <| JO.nil <| J.condD rfl (fun h24 => ?_) (fun h24 => ?_)
      · skip
        rw [lo2, if_pos (cmpQ_lt.1 h24)] at hlo
        refine J.reg rfl <| O.ldT rfl hb6.to.h rfl rfl (fun h => nomatch h) fun v25 h25 => ?_
        refine O.stM rfl rfl hl3.to h25.to rfl fun Ws10 is10 hk3 F3 => ?_
        have hk4 := (hk4.ext e23).stf F3 n3_4.symm
        refine JO.nil <| J.seq <| J.reg rfl <| O.ldT rfl hb6.to.h rfl rfl (fun h => nomatch h) fun v26 h26 => O.ldT rfl hk4.h rfl rfl (fun h => nomatch h) fun v27 h27 => ?_
        refine O.call rfl (rational_Cmp_ok h26.to h27.to hyq hhiq (by omega) (by omega)) fun W28 v28 i28 e28 h28 => ?_
        subst h28
        refine O.gtr rfl rfl <| JO.nil <| J.condD rfl (fun h29 => ?_) (fun h29 => ?_)
        · skip
          rw [hi2, if_pos (cmpQ_gt.1 h29)] at hhi
          refine J.reg rfl <| O.ldT rfl hb6.to.h rfl rfl (fun h => nomatch h) fun v30 h30 => ?_
          refine O.stM rfl rfl hl4.to h30.to rfl fun Ws11 is11 hk4 F4 => ?_
          have hk3 := (hk3.ext e28).stf F4 n3_4
          refine JO.nil <| J.bend <| J.reg rfl <| O.add rfl rfl (wI (by omega)) <| O.mv rfl <| JO.nil <| ?_
          exact J.at' (k + 1) ⟨rfl, rfl, rfl, rfl, rfl, rfl, trivial⟩ ⟨⟨inferInstance, hl2.to, hl3.to, hl4.to, by rw [hlo]; exact hk3, by rw [hhi]; exact hk4, by show k + 1 ≤ n - 1; omega⟩, by show n - 1 - (k + 1) < n - 1 - k; omega⟩
        · skip
          rw [hi2, if_neg (fun e => h29 (cmpQ_gt.2 e))] at hhi
          refine J.skip <| J.bend <| J.reg rfl <| O.add rfl rfl (wI (by omega)) <| O.mv rfl <| JO.nil <| ?_
          exact J.at' (k + 1) ⟨rfl, rfl, rfl, rfl, rfl, rfl, trivial⟩ ⟨⟨inferInstance, hl2.to, hl3.to, hl4.to, by rw [hlo]; exact (hk3.ext e28), by rw [hhi]; exact (hk4.ext e28), by show k + 1 ≤ n - 1; omega⟩, by show n - 1 - (k + 1) < n - 1 - k; omega⟩
      · skip
        rw [lo2, if_neg (fun e => h24 (cmpQ_lt.2 e))] at hlo
        refine J.skip <| J.seq <| J.reg rfl <| O.ldT rfl hb6.to.h rfl rfl (fun h => nomatch h) fun v26 h26 => O.ldT rfl (hk4.ext e23).h rfl rfl (fun h => nomatch h) fun v27 h27 => ?_
        refine O.call rfl (rational_Cmp_ok h26.to h27.to hyq hhiq (by omega) (by omega)) fun W28 v28 i28 e28 h28 => ?_
        subst h28
        refine O.gtr rfl rfl <| JO.nil <| J.condD rfl (fun h29 => ?_) (fun h29 => ?_)
        · skip
          rw [hi2, if_pos (cmpQ_gt.1 h29)] at hhi
          refine J.reg rfl <| O.ldT rfl hb6.to.h rfl rfl (fun h => nomatch h) fun v30 h30 => ?_
          refine O.stM rfl rfl hl4.to h30.to rfl fun Ws12 is12 hk4 F4 => ?_
          have hk3 := ((hk3.ext e23).ext e28).stf F4 n3_4
          refine JO.nil <| J.bend <| J.reg rfl <| O.add rfl rfl (wI (by omega)) <| O.mv rfl <| JO.nil <| ?_
          exact J.at' (k + 1) ⟨rfl, rfl, rfl, rfl, rfl, rfl, trivial⟩ ⟨⟨inferInstance, hl2.to, hl3.to, hl4.to, by rw [hlo]; exact hk3, by rw [hhi]; exact hk4, by show k + 1 ≤ n - 1; omega⟩, by show n - 1 - (k + 1) < n - 1 - k; omega⟩
        · skip
          rw [hi2, if_neg (fun e => h29 (cmpQ_gt.2 e))] at hhi
          refine J.skip <| J.bend <| J.reg rfl <| O.add rfl rfl (wI (by omega)) <| O.mv rfl <| JO.nil <| ?_
          exact J.at' (k + 1) ⟨rfl, rfl, rfl, rfl, rfl, rfl, trivial⟩ ⟨⟨inferInstance, hl2.to, hl3.to, hl4.to, by rw [hlo]; exact ((hk3.ext e23).ext e28), by rw [hhi]; exact ((hk4.ext e23).ext e28), by show k + 1 ≤ n - 1; omega⟩, by show n - 1 - (k + 1) < n - 1 - k; omega⟩
    · skip
      have hkn : r.take k = r := List.take_of_length_le (by omega)
      rw [hkn] at hk3 hk4
      have hloq := minL_qs hx
      have hhiq := maxL_qs hx
      refine J.exit rfl <| J.seq <| J.reg rfl <| O.call rfl (rational_FromInt_ok (z := 0) (by decide)) fun W32 v32 i32 e32 h32 => ?_
      refine O.allocE fun W7 b7 i7 e7 hl7 hc7 hz7 => ?_
      have n2_7 : b2 ≠ b7 := Nat.ne_of_lt (Nat.lt_of_lt_of_le (by exact hl2.to.lt) hz7)
      have n3_7 : b3 ≠ b7 := Nat.ne_of_lt (Nat.lt_of_lt_of_le (by exact hl3.to.lt) hz7)
      have n4_7 : b4 ≠ b7 := Nat.ne_of_lt (Nat.lt_of_lt_of_le (by exact hl4.to.lt) hz7)
      refine O.stT rfl rfl hl7.to h32.to rfl fun Ws13 is13 hb7 F7 => ?_
      have hl2 := F7.loc hl2.to n2_7
      have hl3 := F7.loc hl3.to n3_7
      have hl4 := F7.loc hl4.to n4_7
      have hk3 := ((hk3.ext e32).ext e7).stf F7 n3_7
      have hk4 := ((hk4.ext e32).ext e7).stf F7 n4_7
      refine JO.nil <| J.seq <| ?_
      refine J.draw [.rel _, .rel _, .rel _, .rel _, .rel _] rfl rfl ⟨fun Wd id ed _ => O.ldTD rfl (hk3.ext ed).h rfl rfl (fun h => nomatch h), fun Wd id ed _ => O.ldTD rfl hb7.to.h rfl rfl (fun h => nomatch h), fun Wd id ed _ => fun v33 h33 => fun v34 h34 => O.call rfl (rational_Add_ok h33 h34 hloq (Qs.int (p := 1) (z := 0) Zs.zero (by decide)) (by omega)) fun Wd vd id ed hd => D.rel ed hd V.me, fun Wd id ed _ => O.ldTD rfl (hk4.ext ed).h rfl rfl (fun h => nomatch h), fun Wd id ed _ => O.ldTD rfl hb7.to.h rfl rfl (fun h => nomatch h), trivial⟩ ?_
      intro Wr11 ir11 er11 v33 h33 v34 h34 v35 h35 v36 h36 v37 h37
      refine O.call rfl (rational_Add_ok h36.to h37.to hhiq (Qs.int (p := 1) (z := 0) Zs.zero (by decide)) (by omega)) fun W38 v38 i38 e38 h38 => O.bldT rfl rfl h35.to h38.to rfl rfl fun v39 h39 => ?_
      refine O.stT rfl rfl hl2.to h39.to rfl fun Ws14 is14 hb2 F2 => ?_
      have hl3 := F2.loc hl3.to n2_3.symm
      have hl4 := F2.loc hl4.to n2_4.symm
      have hk3 := ((hk3.ext er11).ext e38).stf F2 n2_3.symm
      have hk4 := ((hk4.ext er11).ext e38).stf F2 n2_4.symm
      refine JO.nil <| J.retT rfl rfl hb2.to.h rfl rfl fun W' v' iE iP hv' => ?_
      rw [Rat.intCast_zero, Rat.add_zero, Rat.add_zero] at hv'
      exact hv'.to
theorem interval_Point_ok {W : GW} {v : Value} {x : Rat} {s : Nat} (h : V RQ W v (cq x)) (hx : Qs s x) (hs : s ≤ 8796093022208) :
    Ok Tryz.prog 82 [v] W fun W' r => V RV W' r (cq x, cq x) := by
  have e : hl x [x] = (cq x, cq x) := by simp [hl, minL, maxL, lo2, hi2]
  refine Ok.enter Tryz.func82 rfl rfl rfl rfl fun W0 iEn => ?_
  refine J.seq <| J.reg rfl <| O.boxT rfl h.to fun W1 b1 i1 hb1 => ?_
  refine O.allocE fun W2 b2 i2 e2 hl2 hc2 hz2 => ?_
  refine JO.nil <| J.seq <| J.reg rfl <| O.ldT rfl hb1.to.h rfl rfl (fun h => nomatch h) fun v3 h3 => O.ldT rfl hb1.to.h rfl rfl (fun h => nomatch h) fun v4 h4 => O.bs (r := RQ) [cq x, cq x] rfl ⟨h3.to, h4.to, trivial⟩ rfl rfl rfl (by decide) (.inl rfl) (by decide) fun W5 p5 i5 e5 s5 => O.call rfl (interval_hull_ok (x := x) (r := [x]) s5.to (fun y hy => by simp at hy; subst hy; exact hx) hs (by decide)) fun W6 v6 i6 e6 h6 => ?_
  refine O.stT rfl rfl hl2.to h6.to rfl fun Ws1 is1 hb2 F2 => ?_
  refine JO.nil <| J.retT rfl rfl hb2.to.h rfl rfl fun W' v' iE iP hv' => ?_
  rw [e] at hv'
  exact hv'.to
section
variable {W : GW} {v v' : Value} {a b c d : Rat} {s t : Nat}
theorem interval_Width_ok (h : V RV W v (cq a, cq b)) (ha : Qs s a) (hb : Qs s b) (hs : s ≤ 4398046511104) :
    Ok Tryz.prog 50 [v] W fun W' r => V RQ W' r (cq (b - a)) := by
  refine Ok.enter Tryz.func50 rfl rfl rfl rfl fun W0 iEn => ?_
  refine J.seq <| J.reg rfl <| O.boxT rfl h.to fun W1 b1 i1 hb1 => ?_
  refine O.allocE fun W2 b2 i2 e2 hl2 hc2 hz2 => ?_
  refine JO.nil <| J.seq <| J.reg rfl <| O.fa rfl <| O.ldT (r := RQ) rfl hb1.to.h.s rfl rfl (fun h => nomatch h) fun v4 h4 => O.fa rfl <| O.ldT (r := RQ) rfl hb1.to.h.f rfl rfl (fun h => nomatch h) fun v6 h6 => O.call rfl (rational_Sub_ok h4.to h6.to hb ha (by omega)) fun W7 v7 i7 e7 h7 => ?_
  refine O.stT rfl rfl hl2.to h7.to rfl fun Ws1 is1 hb2 F2 => ?_
  refine JO.nil <| J.retT rfl rfl hb2.to.h rfl rfl fun W' v' iE iP hv' => ?_
  exact hv'.to
theorem interval_Add_ok (h : V RV W v (cq a, cq b)) (h' : V RV W v' (cq c, cq d)) (ha : Qs s a) (hb : Qs s b) (hc : Qs t c) (hd : Qs t d) (hs : s + t ≤ 4398046511104) :
    Ok Tryz.prog 85 [v, v'] W fun W' r => V RV W' r (cq (a + c), cq (b + d)) := by
  refine Ok.enter Tryz.func85 rfl rfl rfl rfl fun W0 iEn => ?_
  refine J.seq <| J.reg rfl <| O.boxT rfl h.to fun W2 b2 i2 hb2 => O.boxT rfl h'.to fun W3 b3 i3 hb3 => ?_
  refine O.allocE fun W4 b4 i4 e4 hl4 hc4 hz4 => ?_
  refine JO.nil <| J.seq <| ?_
  refine J.draw [.ex _, .rel _, .ex _, .rel _, .rel _, .ex _, .rel _, .ex _, .rel _] rfl rfl ⟨fun Wd id ed _ => O.fa rfl <| D.ex, fun Wd id ed _ => O.ldTD rfl hb2.to.h.f rfl rfl (fun h => nomatch h), fun Wd id ed _ => O.fa rfl <| D.ex, fun Wd id ed _ => O.ldTD rfl hb3.to.h.f rfl rfl (fun h => nomatch h), fun Wd id ed _ => fun v6 h6 => fun v8 h8 => O.call rfl (rational_Add_ok h6 h8 ha hc (by omega)) fun Wd vd id ed hd => D.rel ed hd V.me, fun Wd id ed _ => O.fa rfl <| D.ex, fun Wd id ed _ => O.ldTD rfl hb2.to.h.s rfl rfl (fun h => nomatch h), fun Wd id ed _ => O.fa rfl <| D.ex, fun Wd id ed _ => O.ldTD rfl hb3.to.h.s rfl rfl (fun h => nomatch h), trivial⟩ ?_
  intro Wr1 ir1 er1 v6 h6 v8 h8 v9 h9 v11 h11 v13 h13
  refine O.call rfl (rational_Add_ok h11.to h13.to hb hd (by omega)) fun W14 v14 i14 e14 h14 => O.bldT rfl rfl h9.to h14.to rfl rfl fun v15 h15 => ?_
  refine O.stT rfl rfl hl4.to h15.to rfl fun Ws1 is1 hb4 F4 => ?_
  refine JO.nil <| J.retT rfl rfl hb4.to.h rfl rfl fun W' v' iE iP hv' => ?_
  exact hv'.to
theorem interval_Mul_ok (h : V RV W v (cq a, cq b)) (h' : V RV W v' (cq c, cq d)) (ha : Qs s a) (hb : Qs s b) (hc : Qs t c) (hd : Qs t d) (hs : s + t ≤ 4398046511104) :
    Ok Tryz.prog 86 [v, v'] W fun W' r => V RV W' r (hl (a * c) [a * d, b * c, b * d]) := by
  refine Ok.enter Tryz.func86 rfl rfl rfl rfl fun W0 iEn => ?_
  refine J.seq <| J.reg rfl <| O.boxT rfl h.to fun W2 b2 i2 hb2 => O.boxT rfl h'.to fun W3 b3 i3 hb3 => ?_
  refine O.allocE fun W4 b4 i4 e4 hl4 hc4 hz4 => ?_
  refine JO.nil <| J.seq <| ?_
  refine J.draw [.ex _, .rel _, .ex _, .rel _, .rel _, .ex _, .rel _, .ex _, .rel _, .rel _, .ex _, .rel _, .ex _, .rel _, .rel _, .ex _, .rel _, .ex _, .rel _] rfl rfl ⟨fun Wd id ed _ => O.fa rfl <| D.ex, fun Wd id ed _ => O.ldTD rfl hb2.to.h.f rfl rfl (fun h => nomatch h), fun Wd id ed _ => O.fa rfl <| D.ex, fun Wd id ed _ => O.ldTD rfl hb3.to.h.f rfl rfl (fun h => nomatch h), fun Wd id ed _ => fun v6 h6 => fun v8 h8 => O.call rfl (rational_Mul_ok h6 h8 ha hc (by omega)) fun Wd vd id ed hd => D.rel ed hd V.me, fun Wd id ed _ => O.fa rfl <| D.ex, fun Wd id ed _ => O.ldTD rfl hb2.to.h.f rfl rfl (fun h => nomatch h), fun Wd id ed _ => O.fa rfl <| D.ex, fun Wd id ed _ => O.ldTD rfl hb3.to.h.s rfl rfl (fun h => nomatch h), fun Wd id ed _ => fun v11 h11 => fun v13 h13 => fun v9 h9 => O.call rfl (rational_Mul_ok h11 h13 ha hd (by omega)) fun Wd vd id ed hd => D.rel ed hd V.me, fun Wd id ed _ => O.fa rfl <| D.ex, fun Wd id ed _ => O.ldTD rfl hb2.to.h.s rfl rfl (fun h => nomatch h), fun Wd id ed _ => O.fa rfl <| D.ex, fun Wd id ed _ => O.ldTD rfl hb3.to.h.f rfl rfl (fun h => nomatch h), fun Wd id ed _ => fun v16 h16 => fun v18 h18 => fun v14 h14 => O.call rfl (rational_Mul_ok h16 h18 hb hc (by omega)) fun Wd vd id ed hd => D.rel ed hd V.me, fun Wd id ed _ => O.fa rfl <| D.ex, fun Wd id ed _ => O.ldTD rfl hb2.to.h.s rfl rfl (fun h => nomatch h), fun Wd id ed _ => O.fa rfl <| D.ex, fun Wd id ed _ => O.ldTD rfl hb3.to.h.s rfl rfl (fun h => nomatch h), trivial⟩ ?_
  intro Wr1 ir1 er1 v6 h6 v8 h8 v9 h9 v11 h11 v13 h13 v14 h14 v16 h16 v18 h18 v19 h19 v21 h21 v23 h23
  refine O.call rfl (rational_Mul_ok h21.to h23.to hb hd (by omega)) fun W24 v24 i24 e24 h24 => O.bs (r := RQ) [cq (a * c), cq (a * d), cq (b * c), cq (b * d)] rfl ⟨h9.to, h14.to, h19.to, h24.to, trivial⟩ rfl rfl rfl (by decide) (.inl rfl) (by decide) fun W25 p25 i25 e25 s25 => O.call rfl (interval_hull_ok (x := a * c) (r := [a * d, b * c, b * d]) s25.to (s := s + t) (fun y hy => by simp at hy; rcases hy with rfl | rfl | rfl | rfl; exact ha.mul hc; exact ha.mul hd; exact hb.mul hc; exact hb.mul hd) (by omega) (by decide)) fun W26 v26 i26 e26 h26 => ?_
  refine O.stT rfl rfl hl4.to h26.to rfl fun Ws1 is1 hb4 F4 => ?_
  refine JO.nil <| J.retT rfl rfl hb4.to.h rfl rfl fun W' v' iE iP hv' => ?_
  exact hv'.to
end
end
section
theorem ref03_Point_ok {W : GW} {v : Value} {x : Rat} (h : V RQ W v (cq x)) :
    Ok Tryz.prog 103 [v] W fun W' r => V RV W' r (cq x, cq x) := by
  refine Ok.enter Tryz.func103 rfl rfl rfl rfl fun W0 iEn => ?_
  refine J.seq <| J.reg rfl <| O.boxT rfl h.to fun W1 b1 i1 hb1 => ?_
  refine O.allocE fun W2 b2 i2 e2 hl2 hc2 hz2 => ?_
  refine JO.nil <| J.seq <| J.reg rfl <| O.ldT rfl hb1.to.h rfl rfl (fun h => nomatch h) fun v3 h3 => O.ldT rfl hb1.to.h rfl rfl (fun h => nomatch h) fun v4 h4 => O.bldT rfl rfl h3.to h4.to rfl rfl fun v5 h5 => ?_
  refine O.stT rfl rfl hl2.to h5.to rfl fun Ws1 is1 hb2 F2 => ?_
  refine JO.nil <| J.retT rfl rfl hb2.to.h rfl rfl fun W' v' iE iP hv' => ?_
  exact hv'.to
theorem ref03_Hull_ok {W : GW} {p : Option Addr} {n c s : Nat} {x : Rat} {r : List Rat} (h : Sl RQ W p n c (cl (x :: r))) (hx : ∀ y ∈ x :: r, Qs s y) (hs : s ≤ 8796093022208) (hn0 : n ≤ 1000) :
    Ok Tryz.prog 151 [.slice p n c] W fun W' v => V RV W' v (hl x r) := by
  have hn := h.hn
  rw [cl_length, List.length_cons] at hn
  have hx0 : (cl (x :: r))[0]? = some (cq x) := rfl
  refine Ok.enter Tryz.func151 rfl rfl rfl rfl fun W0 iEn => ?_
  refine J.seq <| J.reg rfl <| ?_
  refine O.allocE fun W2 b2 i2 e2 hl2 hc2 hz2 => ?_
  refine JO.nil <| J.seq <| J.reg rfl <| O.mv rfl <| O.iaT (j := 0) rfl rfl rfl h.to hx0 rfl fun b6 o6 hb6 => O.ldT rfl hb6.to.h rfl rfl (fun h => nomatch h) fun v7 h7 => O.call rfl (ref03_Point_ok h7.to) fun W8 v8 i8 e8 h8 => ?_
  refine O.allocE fun W3 b3 i3 e3 hl3 hc3 hz3 => ?_
  have n2_3 : b2 ≠ b3 := Nat.ne_of_lt (Nat.lt_of_lt_of_le (by exact hl2.to.lt) hz3)
  refine O.stM rfl rfl hl3.to h8.to rfl fun Ws1 is1 hk3 F3 => ?_
  refine JO.nil <| J.seq <| J.seq <| J.reg rfl <| O.as rfl <| JO.nil <| J.block <| ?_
  refine J.loop (α := Nat) (fun k => [(0, .slice p n c), (2, .pointer (some ⟨b2, 0, none⟩)), (3, .pointer (some ⟨b3, 0, none⟩)), (4, .int .i64 ((k + 1 : Nat) : Int))]) (fun k W' => Le W0 W' ∧ Rx.Loc W' b2 8 ∧ Rx.Loc W' b3 8 ∧ Pc RV W' b3 (cq (minL x (r.take k)), cq (maxL x (r.take k))) ∧ k + 1 ≤ n) (fun k => n - k) 0 ⟨rfl, rfl, rfl, rfl, trivial⟩ ⟨inferInstance, hl2.to, hl3.to, hk3, by show 0 + 1 ≤ n; omega⟩ ?_
  rintro k W3 ⟨_, hl2, hl3, hk3, hk⟩
  refine J.seq <| J.seq <| J.reg rfl <| O.mv rfl <| O.mv rfl <| O.len rfl <| O.lt rfl rfl <| JO.nil <| J.condD rfl (fun h12 => ?_) (fun h12 => ?_)
  · skip
    obtain ⟨y, hyk⟩ := rat_get (xs := r) (i := k) (by omega)
    have hyk1 : (x :: r)[k + 1]? = some y := hyk
    have hyq := hx y (List.mem_cons_of_mem _ (List.mem_of_getElem? hyk))
    have hloq := minL_qs (qs_take hx k)
    have hhiq := maxL_qs (qs_take hx k)
    have hlo : minL x (r.take (k + 1)) = lo2 (minL x (r.take k)) y := by rw [take_snoc hyk, minL_snoc]
    have hhi : maxL x (r.take (k + 1)) = hi2 (maxL x (r.take k)) y := by rw [take_snoc hyk, maxL_snoc]
    refine J.skip <| J.seq <| J.block <| J.seq <| J.seq <| ?_
    obtain ⟨b17, o17, rfl, hj17, hb17⟩ := (h).placeP (cl_get hyk1)
    refine J.draw [.ex _, .ex _, .ex _, .rel _, .ex _, .rel _] rfl rfl ⟨fun Wd id ed _ => O.mv rfl <| D.ex, fun Wd id ed _ => O.mv rfl <| D.ex, fun Wd id ed _ => O.ia (j := (k+1)) rfl rfl rfl hj17 <| D.ex, fun Wd id ed _ => O.ldTD rfl hb17.to.h rfl rfl (fun h => nomatch h), fun Wd id ed _ => O.fa rfl <| D.ex, fun Wd id ed _ => O.ldTD rfl (hk3.ext ed).h.f rfl rfl (fun h => nomatch h), trivial⟩ ?_
    intro Wr5 ir5 er5 v18 h18 v20 h20
    refine O.call rfl (ref02_Cmp_ok h18.to h20.to hyq hloq (by omega)) fun W21 v21 i21 e21 h21 => ?_
    subst h21
    refine O.lt rfl rfl <| JO.nil <| J.condD rfl (fun h22 => ?_) (fun h22 => ?_)
    · skip
      rw [lo2, if_pos (cmpQ_lt.1 h22)] at hlo
      refine J.reg rfl <| O.mv rfl <| O.mv rfl <| O.iaT (j := (k+1)) rfl rfl rfl h.to (cl_get hyk1) rfl fun b25 o25 hb25 => O.ldT rfl hb25.to.h rfl rfl (fun h => nomatch h) fun v26 h26 => O.fa rfl <| ?_
      refine O.stPf rfl rfl rfl hl3.to ((hk3.ext er5).ext e21) h26.to rfl fun Ws2 is2 hk3 F3 => ?_
      refine JO.nil <| J.seq <| ?_
      obtain ⟨hj30, hb30⟩ := (h).placeQ (cl_get hyk1)
      refine J.draw [.ex _, .ex _, .ex _, .rel _, .ex _, .rel _] rfl rfl ⟨fun Wd id ed _ => O.mv rfl <| D.ex, fun Wd id ed _ => O.mv rfl <| D.ex, fun Wd id ed _ => O.ia (j := (k+1)) rfl rfl rfl hj30 <| D.ex, fun Wd id ed _ => O.ldTD rfl hb30.to.h rfl rfl (fun h => nomatch h), fun Wd id ed _ => O.fa rfl <| D.ex, fun Wd id ed _ => O.ldTD rfl (hk3.ext ed).h.s rfl rfl (fun h => nomatch h), trivial⟩ ?_
      intro Wr7 ir7 er7 v31 h31 v33 h33
      refine O.call rfl (ref02_Cmp_ok h31.to h33.to hyq hhiq (by omega)) fun W34 v34 i34 e34 h34 => ?_
      subst h34
      refine O.gtr rfl rfl <| JO.nil <| J.condD rfl (fun h35 => ?_) (fun h35 => ?_)
      · skip
        rw [hi2, if_pos (cmpQ_gt.1 h35)] at hhi
        refine J.reg rfl <| O.mv rfl <| O.mv rfl <| O.iaT (j := (k+1)) rfl rfl rfl h.to (cl_get hyk1) rfl fun b38 o38 hb38 => O.ldT rfl hb38.to.h rfl rfl (fun h => nomatch h) fun v39 h39 => O.fa rfl <| ?_
        refine O.stPs rfl rfl rfl hl3.to ((hk3.ext er7).ext e34) h39.to rfl fun Ws3 is3 hk3 F3 => ?_
        refine JO.nil <| J.bend <| J.reg rfl <| O.mv rfl <| O.add (r := ((k + 1 + 1 : Nat) : Int)) rfl rfl ((wI (by omega)).trans (by omega)) <| O.as rfl <| JO.nil <| ?_
        exact J.at' (k + 1) ⟨rfl, rfl, rfl, rfl, trivial⟩ ⟨⟨inferInstance, hl2.to, hl3.to, by rw [hlo, hhi]; exact hk3, by show k + 1 + 1 ≤ n; omega⟩, by show n - (k + 1) < n - k; omega⟩
      · skip
        rw [hi2, if_neg (fun e => h35 (cmpQ_gt.2 e))] at hhi
        refine J.skip <| J.bend <| J.reg rfl <| O.mv rfl <| O.add (r := ((k + 1 + 1 : Nat) : Int)) rfl rfl ((wI (by omega)).trans (by omega)) <| O.as rfl <| JO.nil <| ?_
        exact J.at' (k + 1) ⟨rfl, rfl, rfl, rfl, trivial⟩ ⟨⟨inferInstance, hl2.to, hl3.to, by rw [hlo, hhi]; exact ((hk3.ext er7).ext e34), by show k + 1 + 1 ≤ n; omega⟩, by show n - (k + 1) < n - k; omega⟩
    · skip
      rw [lo2, if_neg (fun e => h22 (cmpQ_lt.2 e))] at hlo
      refine J.skip <| J.seq <| ?_
      obtain ⟨hj30, hb30⟩ := (h).placeQ (cl_get hyk1)
      refine J.draw [.ex _, .ex _, .ex _, .rel _, .ex _, .rel _] rfl rfl ⟨fun Wd id ed _ => O.mv rfl <| D.ex, fun Wd id ed _ => O.mv rfl <| D.ex, fun Wd id ed _ => O.ia (j := (k+1)) rfl rfl rfl hj30 <| D.ex, fun Wd id ed _ => O.ldTD rfl hb30.to.h rfl rfl (fun h => nomatch h), fun Wd id ed _ => O.fa rfl <| D.ex, fun Wd id ed _ => O.ldTD rfl (((hk3.ext er5).ext e21).ext ed).h.s rfl rfl (fun h => nomatch h), trivial⟩ ?_
      intro Wr7 ir7 er7 v31 h31 v33 h33
      refine O.call rfl (ref02_Cmp_ok h31.to h33.to hyq hhiq (by omega)) fun W34 v34 i34 e34 h34 => ?_
      subst h34
      refine O.gtr rfl rfl <| JO.nil <| J.condD rfl (fun h35 => ?_) (fun h35 => ?_)
      · skip
        rw [hi2, if_pos (cmpQ_gt.1 h35)] at hhi
        refine J.reg rfl <| O.mv rfl <| O.mv rfl <| O.iaT (j := (k+1)) rfl rfl rfl h.to (cl_get hyk1) rfl fun b38 o38 hb38 => O.ldT rfl hb38.to.h rfl rfl (fun h => nomatch h) fun v39 h39 => O.fa rfl <| ?_
        refine O.stPs rfl rfl rfl hl3.to ((((hk3.ext er5).ext e21).ext er7).ext e34) h39.to rfl fun Ws4 is4 hk3 F3 => ?_
        refine JO.nil <| J.bend <| J.reg rfl <| O.mv rfl <| O.add (r := ((k + 1 + 1 : Nat) : Int)) rfl rfl ((wI (by omega)).trans (by omega)) <| O.as rfl <| JO.nil <| ?_
        exact J.at' (k + 1) ⟨rfl, rfl, rfl, rfl, trivial⟩ ⟨⟨inferInstance, hl2.to, hl3.to, by rw [hlo, hhi]; exact hk3, by show k + 1 + 1 ≤ n; omega⟩, by show n - (k + 1) < n - k; omega⟩
      · skip
        rw [hi2, if_neg (fun e => h35 (cmpQ_gt.2 e))] at hhi
        refine J.skip <| J.bend <| J.reg rfl <| O.mv rfl <| O.add (r := ((k + 1 + 1 : Nat) : Int)) rfl rfl ((wI (by omega)).trans (by omega)) <| O.as rfl <| JO.nil <| ?_
        exact J.at' (k + 1) ⟨rfl, rfl, rfl, rfl, trivial⟩ ⟨⟨inferInstance, hl2.to, hl3.to, by rw [hlo, hhi]; exact ((((hk3.ext er5).ext e21).ext er7).ext e34), by show k + 1 + 1 ≤ n; omega⟩, by show n - (k + 1) < n - k; omega⟩
  · skip
    have hkn : r.take k = r := List.take_of_length_le (by omega)
    rw [hkn] at hk3
    refine J.exit rfl <| J.seq <| J.reg rfl <| O.ldT rfl hk3.h rfl rfl (fun h => nomatch h) fun v41 h41 => ?_
    refine O.stT rfl rfl hl2.to h41.to rfl fun Ws5 is5 hb2 F2 => ?_
    have hl3 := F2.loc hl3.to n2_3.symm
    have hk3 := hk3.stf F2 n2_3.symm
    refine JO.nil <| J.retT rfl rfl hb2.to.h rfl rfl fun W' v' iE iP hv' => ?_
    exact hv'.to
theorem ends_at {f : Rat → Rat → Rat} {a b c d x y : Rat} {i k : Nat} (hi : i < 2) (hk : k < 2) (hx : [a, b][i]? = some x) (hy : [c, d][k]? = some y) : [f a c, f a d, f b c, f b d][2 * i + k]? = some (f x y) := by
  match i, hi, k, hk with
  | 0, _, 0, _ => simp at hx hy; subst hx hy; rfl
  | 0, _, 1, _ => simp at hx hy; subst hx hy; rfl
  | 1, _, 0, _ => simp at hx hy; subst hx hy; rfl
  | 1, _, 1, _ => simp at hx hy; subst hx hy; rfl
section
variable {W : GW} {v v' : Value} {a b c d : Rat} {s t : Nat}
theorem ref03_ends_own {o : Nat} {f : Rat → Rat → Rat} (ho : (o = 0 ∧ f = fun x y => x + y) ∨ (o = 2 ∧ f = fun x y => x * y)) (h : V RV W v (cq a, cq b)) (h' : V RV W v' (cq c, cq d)) (ha : Qs s a) (hb : Qs s b) (hc : Qs t c) (hd : Qs t d) (hs : s + t + 1 ≤ 4398046511104) :
    Ok Tryz.prog 152 [v, v', .int .i64 (o : Int)] W fun W' r => OwnR RQ W W' r (cl [f a c, f a d, f b c, f b d]) := by
  have ho2 : o = 0 ∨ o = 2 := by rcases ho with h | h; exact .inl h.1; exact .inr h.1
  refine Ok.enter Tryz.func152 rfl rfl rfl rfl fun W0 iEn => ?_
  refine J.seq <| J.reg rfl <| O.boxT rfl h.to fun W3 b3 i3 hb3 => O.boxT rfl h'.to fun W4 b4 i4 hb4 => O.as rfl <| JO.nil <| J.seq <| J.reg rfl <| O.as rfl <| JO.nil <| J.seq <| ?_
  refine J.draw [.ex _, .rel _, .ex _, .rel _, .rel _, .ex _, .rel _, .ex _, .rel _, .rel _, .rel _] rfl rfl ⟨fun Wd id ed _ => O.fa rfl <| D.ex, fun Wd id ed _ => O.ldTD rfl hb3.to.h.f rfl rfl (fun h => nomatch h), fun Wd id ed _ => O.fa rfl <| D.ex, fun Wd id ed _ => O.ldTD rfl hb3.to.h.s rfl rfl (fun h => nomatch h), fun Wd id ed _ => fun v13 h13 => fun v15 h15 => O.bs (r := RQ) [cq a, cq b] rfl ⟨h13, h15, trivial⟩ rfl rfl rfl (by decide) (.inl rfl) (by decide) fun Wd pd id ed sd => D.rel (R := fun W v => V RE W v (cl [a, b])) ed sd.v V.me, fun Wd id ed _ => O.fa rfl <| D.ex, fun Wd id ed _ => O.ldTD rfl hb4.to.h.f rfl rfl (fun h => nomatch h), fun Wd id ed _ => O.fa rfl <| D.ex, fun Wd id ed _ => O.ldTD rfl hb4.to.h.s rfl rfl (fun h => nomatch h), fun Wd id ed _ => fun v18 h18 => fun v20 h20 => O.bs (r := RQ) [cq c, cq d] rfl ⟨h18, h20, trivial⟩ rfl rfl rfl (by decide) (.inl rfl) (by decide) fun Wd pd id ed sd => D.rel (R := fun W v => V RE W v (cl [c, d])) ed sd.v V.me, fun Wd id ed _ => fun _ _ => fun v13 h13 => fun v15 h15 => fun v16 h16 => O.as rfl <| D.rel (R := fun W v => V RE W v (cl [a, b])) (Ext.refl _) h16 V.me, trivial⟩ ?_
  intro Wr2 ir2 er2 v13 h13 v15 h15 v16 h16 v18 h18 v20 h20 v21 h21 v8 h8
  obtain ⟨p16, m16, c16, rfl, s16⟩ := h16.sl
  obtain ⟨p21, m21, c21, rfl, s21⟩ := h21.sl
  obtain ⟨p8, m8, c8, rfl, s8⟩ := h8.sl
  refine O.as rfl <| JO.nil <| J.seq <| J.seq <| J.reg rfl <| O.as rfl <| JO.nil <| J.block <| ?_
  refine J.loop (α := Nat × Option Addr × Nat) (fun g => [(2, .int .i64 (o : Int)), (7, .slice g.2.1 (2 * g.1) g.2.2), (8, .slice p8 m8 c8), (9, .slice p21 m21 c21), (10, .int .i64 (g.1 : Int))]) (fun g W' => Le W0 W' ∧ Ows RQ W' g.2.1 (2 * g.1) g.2.2 (cl ([f a c, f a d, f b c, f b d].take (2 * g.1))) ∧ Sl RQ W' p8 m8 c8 (cl [a, b]) ∧ Sl RQ W' p21 m21 c21 (cl [c, d]) ∧ g.1 ≤ 2) (fun g => 2 - g.1) (0, none, 0) ⟨rfl, rfl, rfl, rfl, rfl, trivial⟩ ⟨inferInstance, Ows.nil _ _ _, s8.to, s21.to, by decide⟩ ?_
  rintro ⟨i, p7, c7⟩ W3 ⟨_, hoo, s8, s9, hi⟩
  dsimp only at *
  refine J.seq <| J.seq <| J.reg rfl <| O.mv rfl <| O.lt rfl rfl <| JO.nil <| J.condD rfl (fun h23 => ?_) (fun h23 => ?_)
  · skip
    refine J.skip <| J.seq <| J.block <| J.seq <| J.reg rfl <| O.as rfl <| JO.nil <| J.block <| ?_
    refine J.loop (α := Nat × Option Addr × Nat) (fun g => [(2, .int .i64 (o : Int)), (7, .slice g.2.1 (2 * i + g.1) g.2.2), (8, .slice p8 m8 c8), (9, .slice p21 m21 c21), (10, .int .i64 (i : Int)), (11, .int .i64 (g.1 : Int))]) (fun g W' => Le W0 W' ∧ Ows RQ W' g.2.1 (2 * i + g.1) g.2.2 (cl ([f a c, f a d, f b c, f b d].take (2 * i + g.1))) ∧ Sl RQ W' p8 m8 c8 (cl [a, b]) ∧ Sl RQ W' p21 m21 c21 (cl [c, d]) ∧ g.1 ≤ 2) (fun g => 2 - g.1) (0, p7, c7) ⟨rfl, rfl, rfl, rfl, rfl, rfl, trivial⟩ ⟨inferInstance, hoo, s8.to, s9.to, Nat.zero_le _⟩ ?_
    rintro ⟨k, p7, c7⟩ W4 ⟨_, hoo, s8, s9, hk⟩
    dsimp only at *
    refine J.seq <| J.seq <| J.reg rfl <| O.mv rfl <| O.lt rfl rfl <| JO.nil <| J.condD rfl (fun h27 => ?_) (fun h27 => ?_)
    · skip
      have hi2 : i < 2 := by omega
      have hk2 : k < 2 := by omega
      obtain ⟨x, hx⟩ := rat_get (xs := [a, b]) (i := i) hi2
      obtain ⟨y, hy⟩ := rat_get (xs := [c, d]) (i := k) hk2
      have hxq : Qs s x := by have := List.mem_of_getElem? hx; simp at this; rcases this with rfl | rfl; exact ha; exact hb
      have hyq : Qs t y := by have := List.mem_of_getElem? hy; simp at this; rcases this with rfl | rfl; exact hc; exact hd
      have hat := ends_at (f := f) hi2 hk2 hx hy
      refine J.skip <| J.seq <| J.block <| J.seq <| J.reg rfl <| O.mv rfl <| JO.nil <| J.block <| J.seq <| J.reg rfl <| O.eq rfl rfl <| O.as rfl <| JO.nil <| J.condD rfl (fun h43 => ?_) (fun h43 => ?_)
      · skip
        obtain ⟨b48, o48, rfl, hj48, hb48⟩ := (s8).placeP (cl_get hx)
        obtain ⟨b52, o52, rfl, hj52, hb52⟩ := (s9).placeP (cl_get hy)
        refine J.draw [.ex _, .ex _, .ex _, .ex _, .rel _, .ex _, .ex _, .ex _, .rel _, .rel _, .rel _] rfl rfl ⟨fun Wd id ed _ => O.mv rfl <| D.ex, fun Wd id ed _ => O.mv rfl <| D.ex, fun Wd id ed _ => O.mv rfl <| D.ex, fun Wd id ed _ => O.ia (j := i) rfl rfl rfl hj48 <| D.ex, fun Wd id ed _ => O.ldTD rfl hb48.to.h rfl rfl (fun h => nomatch h), fun Wd id ed _ => O.mv rfl <| D.ex, fun Wd id ed _ => O.mv rfl <| D.ex, fun Wd id ed _ => O.ia (j := k) rfl rfl rfl hj52 <| D.ex, fun Wd id ed _ => O.ldTD rfl hb52.to.h rfl rfl (fun h => nomatch h), fun Wd id ed _ => fun v49 h49 => fun v53 h53 => O.call rfl (ref02_Add_ok h49 h53 hxq hyq (by omega)) fun Wd vd id ed hd => D.rel ed hd V.me, fun Wd id ed _ => fun v54 h54 => O.bs1D rfl h54 rfl rfl (by decide) (.inl rfl) (by decide), trivial⟩ ?_
        intro Wr12 ir12 er12 v49 h49 v53 h53 v54 h54 v55 h55
        obtain ⟨p55, m55, c55, rfl, s55⟩ := h55.sl
        obtain rfl : m55 = 1 := s55.hn
        refine O.app rfl rfl (hoo.ext er12) s55.to rfl rfl (by omega) (by omega) fun W56 p56 c56 i56 o56 => O.as rfl <| JO.nil <| J.bend <| J.bend <| J.reg rfl <| O.mv rfl <| O.add rfl rfl (wI (by omega)) <| O.as rfl <| JO.nil <| ?_
        have hf : f = fun x y => x + y := by rcases ho with h | h; exact h.2; exfalso; omega
        have e : cl ([f a c, f a d, f b c, f b d].take (2 * i + (k + 1))) = cl ([f a c, f a d, f b c, f b d].take (2 * i + k)) ++ [cq (x + y)] := by rw [← Nat.add_assoc, cl_snoc hat, hf]
        exact J.at' (k + 1, p56, c56) ⟨rfl, rfl, rfl, rfl, rfl, rfl, trivial⟩ ⟨⟨inferInstance, by rw [e]; exact o56, s8.to, s9.to, by show k + 1 ≤ 2; omega⟩, by show 2 - (k + 1) < 2 - k; omega⟩
      · skip
        refine J.seq <| J.reg rfl <| O.eq rfl rfl <| O.as rfl <| JO.nil <| J.condD rfl (fun h57 => ?_) (fun h57 => ?_)
        · skip
          omega -- done
        · skip
          obtain ⟨b34, o34, rfl, hj34, hb34⟩ := (s8).placeP (cl_get hx)
          obtain ⟨b38, o38, rfl, hj38, hb38⟩ := (s9).placeP (cl_get hy)
          refine J.draw [.ex _, .ex _, .ex _, .ex _, .rel _, .ex _, .ex _, .ex _, .rel _, .rel _, .rel _] rfl rfl ⟨fun Wd id ed _ => O.mv rfl <| D.ex, fun Wd id ed _ => O.mv rfl <| D.ex, fun Wd id ed _ => O.mv rfl <| D.ex, fun Wd id ed _ => O.ia (j := i) rfl rfl rfl hj34 <| D.ex, fun Wd id ed _ => O.ldTD rfl hb34.to.h rfl rfl (fun h => nomatch h), fun Wd id ed _ => O.mv rfl <| D.ex, fun Wd id ed _ => O.mv rfl <| D.ex, fun Wd id ed _ => O.ia (j := k) rfl rfl rfl hj38 <| D.ex, fun Wd id ed _ => O.ldTD rfl hb38.to.h rfl rfl (fun h => nomatch h), fun Wd id ed _ => fun v35 h35 => fun v39 h39 => O.call rfl (ref02_Mul_ok h35 h39 hxq hyq (by omega)) fun Wd vd id ed hd => D.rel ed hd V.me, fun Wd id ed _ => fun v40 h40 => O.bs1D rfl h40 rfl rfl (by decide) (.inl rfl) (by decide), trivial⟩ ?_
          intro Wr10 ir10 er10 v35 h35 v39 h39 v40 h40 v41 h41
          obtain ⟨p41, m41, c41, rfl, s41⟩ := h41.sl
          obtain rfl : m41 = 1 := s41.hn
          refine O.app rfl rfl (hoo.ext er10) s41.to rfl rfl (by omega) (by omega) fun W42 p42 c42 i42 o42 => O.as rfl <| JO.nil <| J.bend <| J.bend <| J.reg rfl <| O.mv rfl <| O.add rfl rfl (wI (by omega)) <| O.as rfl <| JO.nil <| ?_
          have hf : f = fun x y => x * y := by rcases ho with h | h; exfalso; omega; exact h.2
          have e : cl ([f a c, f a d, f b c, f b d].take (2 * i + (k + 1))) = cl ([f a c, f a d, f b c, f b d].take (2 * i + k)) ++ [cq (x * y)] := by rw [← Nat.add_assoc, cl_snoc hat, hf]
          exact J.at' (k + 1, p42, c42) ⟨rfl, rfl, rfl, rfl, rfl, rfl, trivial⟩ ⟨⟨inferInstance, by rw [e]; exact o42, s8.to, s9.to, by show k + 1 ≤ 2; omega⟩, by show 2 - (k + 1) < 2 - k; omega⟩
    · skip
      have hk2 : k = 2 := by omega
      subst hk2
      refine J.exit rfl <| J.bend <| J.reg rfl <| O.mv rfl <| O.add rfl rfl (wI (by omega)) <| O.as rfl <| JO.nil <| ?_
      exact J.at' (i + 1, p7, c7) ⟨rfl, rfl, rfl, rfl, rfl, trivial⟩ ⟨⟨inferInstance, hoo, s8.to, s9.to, by show i + 1 ≤ 2; omega⟩, by show 2 - (i + 1) < 2 - i; omega⟩
  · skip
    refine J.exit rfl <| J.seq <| J.reg rfl <| O.mv rfl <| O.as rfl <| JO.nil <| ?_
    have hi2 : i = 2 := by omega
    subst hi2
    refine J.ret1o rfl (.tmp rfl) fun W' iE iO => ?_
    exact hoo.ret iE iO
theorem ref03_Add_ok (h : V RV W v (cq a, cq b)) (h' : V RV W v' (cq c, cq d)) (ha : Qs s a) (hb : Qs s b) (hc : Qs t c) (hd : Qs t d) (hs : s + t + 1 ≤ 4398046511104) :
    Ok Tryz.prog 106 [v, v'] W fun W' r => V RV W' r (hl (a + c) [a + d, b + c, b + d]) := by
  refine Ok.enter Tryz.func106 rfl rfl rfl rfl fun W0 iEn => ?_
  refine J.seq <| J.reg rfl <| O.boxT rfl h.to fun W2 b2 i2 hb2 => O.boxT rfl h'.to fun W3 b3 i3 hb3 => ?_
  refine O.allocE fun W4 b4 i4 e4 hl4 hc4 hz4 => ?_
  refine JO.nil <| J.seq <| J.reg rfl <| O.ldT rfl hb2.to.h rfl rfl (fun h => nomatch h) fun v5 h5 => O.ldT rfl hb3.to.h rfl rfl (fun h => nomatch h) fun v6 h6 => ?_
  refine O.call rfl ((ref03_ends_own (o := 0) (.inl ⟨rfl, rfl⟩) h5.to h6.to ha hb hc hd hs).own) fun W7 v7 i7 e7 h7 => ?_
  obtain ⟨p7, m7, c7, rfl, s7⟩ := h7.sl
  refine O.call rfl (ref03_Hull_ok (x := a + c) (r := [a + d, b + c, b + d]) s7.to (s := s + t + 1) (fun y hy => by simp at hy; rcases hy with rfl | rfl | rfl | rfl; exact ha.add hc; exact ha.add hd; exact hb.add hc; exact hb.add hd) (by omega) (by have := s7.hn; rw [this]; exact (by decide : (4 : Nat) ≤ 1000))) fun W8 v8 i8 e8 h8 => ?_
  refine O.stT rfl rfl hl4.to h8.to rfl fun Ws1 is1 hb4 F4 => ?_
  refine JO.nil <| J.retT rfl rfl hb4.to.h rfl rfl fun W' v' iE iP hv' => ?_
  exact hv'.to
theorem ref03_Mul_ok (h : V RV W v (cq a, cq b)) (h' : V RV W v' (cq c, cq d)) (ha : Qs s a) (hb : Qs s b) (hc : Qs t c) (hd : Qs t d) (hs : s + t + 1 ≤ 4398046511104) :
    Ok Tryz.prog 107 [v, v'] W fun W' r => V RV W' r (hl (a * c) [a * d, b * c, b * d]) := by
  refine Ok.enter Tryz.func107 rfl rfl rfl rfl fun W0 iEn => ?_
  refine J.seq <| J.reg rfl <| O.boxT rfl h.to fun W2 b2 i2 hb2 => O.boxT rfl h'.to fun W3 b3 i3 hb3 => ?_
  refine O.allocE fun W4 b4 i4 e4 hl4 hc4 hz4 => ?_
  refine JO.nil <| J.seq <| J.reg rfl <| O.ldT rfl hb2.to.h rfl rfl (fun h => nomatch h) fun v5 h5 => O.ldT rfl hb3.to.h rfl rfl (fun h => nomatch h) fun v6 h6 => ?_
  refine O.call rfl ((ref03_ends_own (o := 2) (.inr ⟨rfl, rfl⟩) h5.to h6.to ha hb hc hd hs).own) fun W7 v7 i7 e7 h7 => ?_
  obtain ⟨p7, m7, c7, rfl, s7⟩ := h7.sl
  refine O.call rfl (ref03_Hull_ok (x := a * c) (r := [a * d, b * c, b * d]) s7.to (s := s + t) (fun y hy => by simp at hy; rcases hy with rfl | rfl | rfl | rfl; exact ha.mul hc; exact ha.mul hd; exact hb.mul hc; exact hb.mul hd) (by omega) (by have := s7.hn; rw [this]; exact (by decide : (4 : Nat) ≤ 1000))) fun W8 v8 i8 e8 h8 => ?_
  refine O.stT rfl rfl hl4.to h8.to rfl fun Ws1 is1 hb4 F4 => ?_
  refine JO.nil <| J.retT rfl rfl hb4.to.h rfl rfl fun W' v' iE iP hv' => ?_
  exact hv'.to
end
end
end Go.Proofs.YtklnoajdhknfnaaGreat

/- The program's towers: sums, differences, opposites, rational numbers; the answers to what is not formed. -/
import Derived.Test.YtcobdnnfmhfenaaGreatTg
import Derived.Test.YtcobdnnfmhfenaaGreatRh
set_option linter.unusedVariables false
set_option linter.unusedSimpArgs false
set_option maxRecDepth 10000
set_option maxHeartbeats 4000000
namespace Go.Proofs.YtcobdnnfmhfenaaGreat
open Go Go.Rx Go.Num Go.Tow

section
variable {W : GW} {p q q2 : Option Addr} {n c m d m2 d2 r s s' k : Nat} {t : Tw k} {a b : El k}
theorem tower_Add_ok (h : Sl RE W p n c (ct (toT k t))) (h' : Sl RQ W q m d (cl (toL k a))) (h2 : Sl RQ W q2 m2 d2 (cl (toL k b))) (hT : TS r k t) (ha : Sz s (toL k a)) (hb : Sz s' (toL k b)) (hk : k ≤ 16) (hs : s + s' ≤ 8796093022208) (hr : r ≤ 17592186044416) :
    Ok Tryz.prog 31 [.slice p n c, .slice q m d, .slice q2 m2 d2] W fun W' v => V RE W' v (cl (toL k (add k a b))) := by
  have hp := pow_le hk
  have hm : m = 2 ^ k := by rw [h'.hn, cl_length, toL_length]
  refine Ok.enter Tryz.func31 rfl rfl rfl rfl fun W0 iEn => ?_
  refine J.seq <| J.reg rfl <| O.as rfl <| JO.nil <| J.seq <| J.seq <| J.reg rfl <| O.mv rfl <| O.mv rfl <| O.mv rfl <| O.call rfl (tower_formed_ok h.to h'.to h2.to (small_ct hT hr) (small_cl ha.qs' (by omega)) (small_cl hb.qs' (by omega)) (by rw [ct_length]; omega)) fun W10 v10 i10 e10 h10 => ?_
  obtain ⟨b2, rfl, hb2⟩ := h10
  have hb2' := hb2.2 ⟨okT_ct t, okE_cl (by rw [ct_length, toL_length]), okE_cl (by rw [ct_length, toL_length])⟩
  subst hb2'
  refine O.not rfl <| JO.nil <| J.condF rfl <| J.skip <| J.seq <| J.reg rfl <| O.mv rfl <| O.mv rfl <| ?_
  refine O.call rfl ((tower_add_own h'.to h2.to (by rw [toL_length, toL_length]) (by omega) ha.qs' hb.qs' (by omega)).own) fun W14 v14 i14 e14 h14 => ?_
  obtain ⟨p14, m14, c14, rfl, s14⟩ := h14.sl
  refine O.as rfl <| JO.nil <| J.ret1 rfl (.tmp rfl) fun W' iE iP => ?_
  rw [toL_add]
  exact h14.to
theorem tower_Sub_ok (h : Sl RE W p n c (ct (toT k t))) (h' : Sl RQ W q m d (cl (toL k a))) (h2 : Sl RQ W q2 m2 d2 (cl (toL k b))) (hT : TS r k t) (ha : Sz s (toL k a)) (hb : Sz s' (toL k b)) (hk : k ≤ 16) (hs : s + s' ≤ 8796093022208) (hr : r ≤ 17592186044416) :
    Ok Tryz.prog 32 [.slice p n c, .slice q m d, .slice q2 m2 d2] W fun W' v => V RE W' v (cl (toL k (add k a (neg k b)))) := by
  have hp := pow_le hk
  have hm : m = 2 ^ k := by rw [h'.hn, cl_length, toL_length]
  have hm2 : m2 = 2 ^ k := by rw [h2.hn, cl_length, toL_length]
  refine Ok.enter Tryz.func32 rfl rfl rfl rfl fun W0 iEn => ?_
  refine J.seq <| J.reg rfl <| O.as rfl <| JO.nil <| J.seq <| J.seq <| J.reg rfl <| O.mv rfl <| O.mv rfl <| O.mv rfl <| O.call rfl (tower_formed_ok h.to h'.to h2.to (small_ct hT hr) (small_cl ha.qs' (by omega)) (small_cl hb.qs' (by omega)) (by rw [ct_length]; omega)) fun W10 v10 i10 e10 h10 => ?_
  obtain ⟨b2, rfl, hb2⟩ := h10
  have hb2' := hb2.2 ⟨okT_ct t, okE_cl (by rw [ct_length, toL_length]), okE_cl (by rw [ct_length, toL_length])⟩
  subst hb2'
  refine O.not rfl <| JO.nil <| J.condF rfl <| J.skip <| J.seq <| J.reg rfl <| O.mv rfl <| O.mv rfl <| ?_
  refine O.call rfl ((tower_neg_own h2.to (by omega) hb.qs' (by omega)).own) fun W14 v14 i14 e14 h14 => ?_
  obtain ⟨p14, m14, c14, rfl, s14⟩ := h14.sl
  refine O.call rfl ((tower_add_own h'.to s14.to (by rw [List.length_map, toL_length, toL_length]) (by omega) ha.qs' hb.neg.qs' (by omega)).own) fun W15 v15 i15 e15 h15 => ?_
  obtain ⟨p15, m15, c15, rfl, s15⟩ := h15.sl
  refine O.as rfl <| JO.nil <| J.ret1 rfl (.tmp rfl) fun W' iE iP => ?_
  rw [toL_add, toL_neg]
  exact h15.to
theorem tower_Neg_ok (h : Sl RE W p n c (ct (toT k t))) (h' : Sl RQ W q m d (cl (toL k a))) (hT : TS r k t) (ha : Sz s (toL k a)) (hk : k ≤ 16) (hs : s ≤ 8796093022208) (hr : r ≤ 17592186044416) :
    Ok Tryz.prog 24 [.slice p n c, .slice q m d] W fun W' v => V RE W' v (cl (toL k (neg k a))) := by
  have hp := pow_le hk
  have hm : m = 2 ^ k := by rw [h'.hn, cl_length, toL_length]
  refine Ok.enter Tryz.func24 rfl rfl rfl rfl fun W0 iEn => ?_
  refine J.seq <| J.reg rfl <| O.as rfl <| JO.nil <| J.seq <| J.seq <| J.reg rfl <| O.mv rfl <| O.mv rfl <| O.call rfl (tower_Formed_ok h.to h'.to (small_ct hT hr) (small_cl ha.qs' (by omega)) (by rw [ct_length]; omega)) fun W7 v7 i7 e7 h7 => ?_
  obtain ⟨b2, rfl, hb2⟩ := h7
  have hb2' := hb2.2 ⟨okT_ct t, okE_cl (by rw [ct_length, toL_length])⟩
  subst hb2'
  refine O.not rfl <| JO.nil <| J.condF rfl <| J.skip <| J.seq <| J.reg rfl <| O.mv rfl <| ?_
  refine O.call rfl ((tower_neg_own h'.to (by omega) ha.qs' (by omega)).own) fun W10 v10 i10 e10 h10 => ?_
  obtain ⟨p10, m10, c10, rfl, s10⟩ := h10.sl
  refine O.as rfl <| JO.nil <| J.ret1 rfl (.tmp rfl) fun W' iE iP => ?_
  rw [toL_neg]
  exact h10.to
end

/-! not formed -/
section
variable {W : GW} {p q q2 : Option Addr} {n c m d m2 d2 : Nat} {t : List (List Raw)} {l l2 : List Raw}
theorem tower_Add_nil (h : Sl RE W p n c t) (h' : Sl RQ W q m d l) (h2 : Sl RQ W q2 m2 d2 l2) (ht : ∀ r ∈ t, ∀ i ∈ r, smallR i) (hl : ∀ i ∈ l, smallR i) (hl2 : ∀ i ∈ l2, smallR i) (ht4 : t.length ≤ 40) (hno : ¬ (okT t ∧ okE (2 ^ t.length) l ∧ okE (2 ^ t.length) l2)) :
    Ok Tryz.prog 31 [.slice p n c, .slice q m d, .slice q2 m2 d2] W fun W' v => V RE W' v [] := by
  refine Ok.enter Tryz.func31 rfl rfl rfl rfl fun W0 iEn => ?_
  refine J.seq <| J.reg rfl <| O.as rfl <| JO.nil <| J.seq <| J.seq <| J.reg rfl <| O.mv rfl <| O.mv rfl <| O.mv rfl <| O.call rfl (tower_formed_ok h.to h'.to h2.to ht hl hl2 ht4) fun W10 v10 i10 e10 h10 => ?_
  obtain ⟨b2, rfl, hb2⟩ := h10
  obtain rfl : b2 = false := by cases b2 with | false => rfl | true => exact absurd (hb2.1 rfl) hno
  refine O.not rfl <| JO.nil <| J.condT rfl <| J.seq <| J.reg rfl <| O.as rfl <| JO.nil <| J.ret1 rfl (.tmp rfl) fun W' iE iP => ?_
  exact (nil_sl _ _ _).v
theorem tower_Sub_nil (h : Sl RE W p n c t) (h' : Sl RQ W q m d l) (h2 : Sl RQ W q2 m2 d2 l2) (ht : ∀ r ∈ t, ∀ i ∈ r, smallR i) (hl : ∀ i ∈ l, smallR i) (hl2 : ∀ i ∈ l2, smallR i) (ht4 : t.length ≤ 40) (hno : ¬ (okT t ∧ okE (2 ^ t.length) l ∧ okE (2 ^ t.length) l2)) :
    Ok Tryz.prog 32 [.slice p n c, .slice q m d, .slice q2 m2 d2] W fun W' v => V RE W' v [] := by
  refine Ok.enter Tryz.func32 rfl rfl rfl rfl fun W0 iEn => ?_
  refine J.seq <| J.reg rfl <| O.as rfl <| JO.nil <| J.seq <| J.seq <| J.reg rfl <| O.mv rfl <| O.mv rfl <| O.mv rfl <| O.call rfl (tower_formed_ok h.to h'.to h2.to ht hl hl2 ht4) fun W10 v10 i10 e10 h10 => ?_
  obtain ⟨b2, rfl, hb2⟩ := h10
  obtain rfl : b2 = false := by cases b2 with | false => rfl | true => exact absurd (hb2.1 rfl) hno
  refine O.not rfl <| JO.nil <| J.condT rfl <| J.seq <| J.reg rfl <| O.as rfl <| JO.nil <| J.ret1 rfl (.tmp rfl) fun W' iE iP => ?_
  exact (nil_sl _ _ _).v
theorem tower_Mul_nil (h : Sl RE W p n c t) (h' : Sl RQ W q m d l) (h2 : Sl RQ W q2 m2 d2 l2) (ht : ∀ r ∈ t, ∀ i ∈ r, smallR i) (hl : ∀ i ∈ l, smallR i) (hl2 : ∀ i ∈ l2, smallR i) (ht4 : t.length ≤ 40) (hno : ¬ (okT t ∧ okE (2 ^ t.length) l ∧ okE (2 ^ t.length) l2)) :
    Ok Tryz.prog 33 [.slice p n c, .slice q m d, .slice q2 m2 d2] W fun W' v => V RE W' v [] := by
  refine Ok.enter Tryz.func33 rfl rfl rfl rfl fun W0 iEn => ?_
  refine J.seq <| J.reg rfl <| O.as rfl <| JO.nil <| J.seq <| J.seq <| J.reg rfl <| O.mv rfl <| O.mv rfl <| O.mv rfl <| O.call rfl (tower_formed_ok h.to h'.to h2.to ht hl hl2 ht4) fun W10 v10 i10 e10 h10 => ?_
  obtain ⟨b2, rfl, hb2⟩ := h10
  obtain rfl : b2 = false := by cases b2 with | false => rfl | true => exact absurd (hb2.1 rfl) hno
  refine O.not rfl <| JO.nil <| J.condT rfl <| J.seq <| J.reg rfl <| O.as rfl <| JO.nil <| J.ret1 rfl (.tmp rfl) fun W' iE iP => ?_
  exact (nil_sl _ _ _).v
theorem tower_Neg_nil (h : Sl RE W p n c t) (h' : Sl RQ W q m d l) (ht : ∀ r ∈ t, ∀ i ∈ r, smallR i) (hl : ∀ i ∈ l, smallR i) (ht4 : t.length ≤ 40) (hno : ¬ (okT t ∧ okE (2 ^ t.length) l)) :
    Ok Tryz.prog 24 [.slice p n c, .slice q m d] W fun W' v => V RE W' v [] := by
  refine Ok.enter Tryz.func24 rfl rfl rfl rfl fun W0 iEn => ?_
  refine J.seq <| J.reg rfl <| O.as rfl <| JO.nil <| J.seq <| J.seq <| J.reg rfl <| O.mv rfl <| O.mv rfl <| O.call rfl (tower_Formed_ok h.to h'.to ht hl ht4) fun W7 v7 i7 e7 h7 => ?_
  obtain ⟨b2, rfl, hb2⟩ := h7
  obtain rfl : b2 = false := by cases b2 with | false => rfl | true => exact absurd (hb2.1 rfl) hno
  refine O.not rfl <| JO.nil <| J.condT rfl <| J.seq <| J.reg rfl <| O.as rfl <| JO.nil <| J.ret1 rfl (.tmp rfl) fun W' iE iP => ?_
  exact (nil_sl _ _ _).v
theorem tower_Norm_nil (h : Sl RE W p n c t) (h' : Sl RQ W q m d l) (ht : ∀ r ∈ t, ∀ i ∈ r, smallR i) (hl : ∀ i ∈ l, smallR i) (ht4 : t.length ≤ 40) (hno : ¬ (okT t ∧ okE (2 ^ t.length) l) ∨ t = []) :
    Ok Tryz.prog 15 [.slice p n c, .slice q m d] W fun W' v => V RE W' v [] := by
  have hn := h.hn
  refine Ok.enter Tryz.func15 rfl rfl rfl rfl fun W0 iEn => ?_
  refine J.seq <| J.reg rfl <| O.as rfl <| JO.nil <| J.seq <| J.seq <| J.reg rfl <| O.mv rfl <| O.mv rfl <| O.call rfl (tower_Formed_ok h.to h'.to ht hl ht4) fun W7 v7 i7 e7 h7 => ?_
  obtain ⟨b2, rfl, hb2⟩ := h7
  refine O.not rfl <| O.mv rfl <| ?_
  by_cases hg9 : b2 = false
  · skip
    refine O.set (t := 9) (.bool true) rfl (by rw [hg9]; rfl) <| O.gs rfl rfl rfl <| O.gs rfl rfl rfl <| O.gs rfl rfl rfl <| O.pickT rfl rfl <| JO.nil <| J.condT rfl <| J.seq <| J.reg rfl <| O.as rfl <| JO.nil <| J.ret1 rfl (.tmp rfl) fun W' iE iP => ?_
    exact (nil_sl _ _ _).v
  · skip
    refine O.set (t := 9) (.bool false) rfl (by cases b2 <;> simp_all) <| O.gt rfl rfl <| O.mv rfl <| O.gt rfl rfl <| O.len rfl <| O.gt rfl rfl <| O.eq rfl rfl <| O.pickF rfl rfl <| JO.nil <| J.condD rfl (fun h13 => ?_) (fun h13 => ?_)
    · skip
      refine J.seq <| J.reg rfl <| O.as rfl <| JO.nil <| J.ret1 rfl (.tmp rfl) fun W' iE iP => ?_
      exact (nil_sl _ _ _).v
    · skip
      exact absurd (hb2.1 (by cases b2 <;> simp_all)) (hno.elim id fun e => by subst e; simp at hn; omega) -- done
theorem tower_Inv_nil (h : Sl RE W p n c t) (h' : Sl RQ W q m d l) (ht : ∀ r ∈ t, ∀ i ∈ r, smallR i) (hl : ∀ i ∈ l, smallR i) (ht4 : t.length ≤ 40) (hno : ¬ (okT t ∧ okE (2 ^ t.length) l)) :
    Ok Tryz.prog 23 [.slice p n c, .slice q m d] W fun W' v => ∃ v1, v = .tuple #[v1, .int .i64 1] ∧ V RE W' v1 [] := by
  refine Ok.enter Tryz.func23 rfl rfl rfl rfl fun W0 iEn => ?_
  refine J.seq <| J.reg rfl <| O.as rfl <| O.as rfl <| JO.nil <| J.seq <| J.seq <| J.reg rfl <| O.mv rfl <| O.mv rfl <| O.call rfl (tower_Formed_ok h.to h'.to ht hl ht4) fun W10 v10 i10 e10 h10 => ?_
  obtain ⟨b2, rfl, hb2⟩ := h10
  obtain rfl : b2 = false := by cases b2 with | false => rfl | true => exact absurd (hb2.1 rfl) hno
  refine O.not rfl <| JO.nil <| J.condT rfl <| J.seq <| J.reg rfl <| O.as rfl <| O.as rfl <| JO.nil <| J.ret2 rfl (.tmp rfl) (.tmp rfl) fun W' iE iP => ?_
  exact ⟨_, rfl, (nil_sl _ _ _).v⟩
theorem tower_Conjugate_nil {i : Int} (h : Sl RE W p n c t) (h' : Sl RQ W q m d l) (ht : ∀ r ∈ t, ∀ i ∈ r, smallR i) (hl : ∀ i ∈ l, smallR i) (ht4 : t.length ≤ 40) (hno : ¬ (okT t ∧ okE (2 ^ t.length) l)) :
    Ok Tryz.prog 10 [.slice p n c, .slice q m d, .int .i64 i] W fun W' v => ∃ v1, v = .tuple #[v1, .bool false] ∧ V RE W' v1 [] := by
  refine Ok.enter Tryz.func10 rfl rfl rfl rfl fun W0 iEn => ?_
  refine J.seq <| J.reg rfl <| O.as rfl <| O.as rfl <| JO.nil <| J.seq <| J.seq <| J.reg rfl <| O.mv rfl <| O.mv rfl <| O.call rfl (tower_Formed_ok h.to h'.to ht hl ht4) fun W17 v17 i17 e17 h17 => ?_
  obtain ⟨b2, rfl, hb2⟩ := h17
  obtain rfl : b2 = false := by cases b2 with | false => rfl | true => exact absurd (hb2.1 rfl) hno
  refine O.not rfl <| O.mv rfl <| O.gs rfl rfl rfl <| O.gs rfl rfl rfl <| O.pickT rfl rfl <| O.mv rfl <| O.gs rfl rfl rfl <| O.gs rfl rfl rfl <| O.gs rfl rfl rfl <| O.gs rfl rfl rfl <| O.pickT rfl rfl <| JO.nil <| J.condT rfl <| J.seq <| J.reg rfl <| O.as rfl <| O.as rfl <| JO.nil <| J.ret2 rfl (.tmp rfl) (.tmp rfl) fun W' iE iP => ?_
  exact ⟨_, rfl, (nil_sl _ _ _).v⟩
theorem tower_Root_nil {i : Int} (h : Sl RE W p n c t) (ht : ∀ r ∈ t, ∀ i ∈ r, smallR i) (ht4 : t.length ≤ 40) (hno : ¬ okT t ∨ i < 0 ∨ t.length ≤ i) :
    Ok Tryz.prog 20 [.slice p n c, .int .i64 i] W fun W' v => V RE W' v [] := by
  have hn := h.hn
  refine Ok.enter Tryz.func20 rfl rfl rfl rfl fun W0 iEn => ?_
  refine J.seq <| J.reg rfl <| O.as rfl <| JO.nil <| J.seq <| J.seq <| J.reg rfl <| O.mv rfl <| O.call rfl (tower_radicands_ok h.to ht ht4) fun W7 v7 i7 e7 h7 => ?_
  obtain ⟨b2, rfl, hb2⟩ := h7
  refine O.not rfl <| O.mv rfl <| ?_
  by_cases hg9 : b2 = false
  · skip
    refine O.set (t := 9) (.bool true) rfl (by rw [hg9]; rfl) <| O.gs rfl rfl rfl <| O.gs rfl rfl rfl <| O.pickT rfl rfl <| O.mv rfl <| O.gs rfl rfl rfl <| O.gs rfl rfl rfl <| O.gs rfl rfl rfl <| O.gs rfl rfl rfl <| O.pickT rfl rfl <| JO.nil <| J.condT rfl <| J.seq <| J.reg rfl <| O.as rfl <| JO.nil <| J.ret1 rfl (.tmp rfl) fun W' iE iP => ?_
    exact (nil_sl _ _ _).v
  · skip
    refine O.set (t := 9) (.bool false) rfl (by cases b2 <;> simp_all) <| O.gt rfl rfl <| O.mv rfl <| O.gt rfl rfl <| O.lt rfl rfl <| O.pickF rfl rfl <| O.mv rfl <| ?_
    by_cases hg13 : i < 0
    · skip
      refine O.set (t := 13) (.bool true) rfl (by simp only [Value.bool.injEq, decide_eq_true_eq, decide_eq_false_iff_not]; omega) <| O.gs rfl rfl rfl <| O.gs rfl rfl rfl <| O.gs rfl rfl rfl <| O.gs rfl rfl rfl <| O.pickT rfl rfl <| JO.nil <| J.condT rfl <| J.seq <| J.reg rfl <| O.as rfl <| JO.nil <| J.ret1 rfl (.tmp rfl) fun W' iE iP => ?_
      exact (nil_sl _ _ _).v
    · skip
      refine O.set (t := 13) (.bool false) rfl (by simp only [Value.bool.injEq, decide_eq_true_eq, decide_eq_false_iff_not]; omega) <| O.gt rfl rfl <| O.mv rfl <| O.gt rfl rfl <| O.mv rfl <| O.gt rfl rfl <| O.len rfl <| O.gt rfl rfl <| O.ge rfl rfl <| O.pickF rfl rfl <| JO.nil <| J.condD rfl (fun h18 => ?_) (fun h18 => ?_)
      · skip
        refine J.seq <| J.reg rfl <| O.as rfl <| JO.nil <| J.ret1 rfl (.tmp rfl) fun W' iE iP => ?_
        exact (nil_sl _ _ _).v
      · skip
        exact absurd (hb2.1 (by cases b2 <;> simp_all)) (hno.elim id fun e => by omega) -- done
theorem tower_FromRat_nil {v : Value} {i : Raw} (h : Sl RE W p n c t) (h' : V RQ W v i) (ht : ∀ r ∈ t, ∀ i ∈ r, smallR i) (hi : smallR i) (ht4 : t.length ≤ 40) (hno : ¬ okT t ∨ ¬ ∃ x, i = cq x) :
    Ok Tryz.prog 28 [.slice p n c, v] W fun W' v => V RE W' v [] := by
  have hn := h.hn
  refine Ok.enter Tryz.func28 rfl rfl rfl rfl fun W0 iEn => ?_
  refine J.seq <| J.reg rfl <| O.boxT rfl h'.to fun W3 b3 i3 hb3 => O.as rfl <| JO.nil <| J.seq <| J.seq <| J.reg rfl <| O.mv rfl <| O.call rfl (tower_radicands_ok h.to ht ht4) fun W7 v7 i7 e7 h7 => ?_
  obtain ⟨b2, rfl, hb2⟩ := h7
  refine O.not rfl <| O.mv rfl <| ?_
  by_cases hg9 : b2 = false
  · skip
    refine O.set (t := 9) (.bool true) rfl (by rw [hg9]; rfl) <| O.gs rfl rfl rfl <| O.gs rfl rfl rfl <| O.gs rfl rfl rfl <| O.pickT rfl rfl <| JO.nil <| J.condT rfl <| J.seq <| J.reg rfl <| O.as rfl <| JO.nil <| J.ret1 rfl (.tmp rfl) fun W' iE iP => ?_
    exact (nil_sl _ _ _).v
  · skip
    refine O.set (t := 9) (.bool false) rfl (by cases b2 <;> simp_all) <| O.gt rfl rfl <| O.ldT rfl hb3.to.h rfl rfl (fun h => nomatch h) fun v10 h10 => O.gt rfl rfl <| O.call rfl (rational_Valid_ok h10.to hi.1 hi.2) fun W11 v11 i11 e11 h11 => ?_
    obtain ⟨b3, rfl, hv3⟩ := h11
    refine O.gt rfl rfl <| O.not rfl <| O.pickF rfl rfl <| JO.nil <| J.cond rfl (fun h13 => ?_) (fun h13 => ?_)
    · skip
      refine J.seq <| J.reg rfl <| O.as rfl <| JO.nil <| J.ret1 rfl (.tmp rfl) fun W' iE iP => ?_
      exact (nil_sl _ _ _).v
    · skip
      exact absurd (hv3.1 (by cases b3 <;> simp_all)) (hno.elim (fun e => absurd (hb2.1 (by cases b2 <;> simp_all)) e) id) -- done
end
theorem tower_FromRat_ok {W : GW} {p : Option Addr} {n c r k : Nat} {v : Value} {x : Rat} {t : Tw k} (h : Sl RE W p n c (ct (toT k t))) (h' : V RQ W v (cq x)) (hT : TS r k t) (hi : smallR (cq x)) (hk : k ≤ 16) (hr : r ≤ 17592186044416) :
    Ok Tryz.prog 28 [.slice p n c, v] W fun W' v => V RE W' v (cl (toL k (rat k x))) := by
  have hn : n = k := by rw [h.hn, ct_length]
  have hp := pow_le hk
  have hp0 := Nat.two_pow_pos k
  refine Ok.enter Tryz.func28 rfl rfl rfl rfl fun W0 iEn => ?_
  refine J.seq <| J.reg rfl <| O.boxT rfl h'.to fun W3 b3 i3 hb3 => O.as rfl <| JO.nil <| J.seq <| J.seq <| J.reg rfl <| O.mv rfl <| O.call rfl (tower_radicands_ok h.to (small_ct hT hr) (by rw [ct_length]; omega)) fun W7 v7 i7 e7 h7 => ?_
  obtain ⟨b2, rfl, hb2⟩ := h7
  have hb2' := hb2.2 (okT_ct t)
  subst hb2'
  refine O.not rfl <| O.mv rfl <| O.gt rfl rfl <| O.ldT rfl hb3.to.h rfl rfl (fun h => nomatch h) fun v10 h10 => O.gt rfl rfl <| O.call rfl (rational_Valid_ok h10.to hi.1 hi.2) fun W11 v11 i11 e11 h11 => ?_
  obtain ⟨b3, rfl, hv3⟩ := h11
  have hb3' := hv3.2 ⟨x, rfl⟩
  subst hb3'
  refine O.gt rfl rfl <| O.not rfl <| O.pickF rfl rfl <| JO.nil <| J.condF rfl <| J.skip <| J.seq <| J.reg rfl <| O.mv rfl <| O.len rfl <| O.shl rfl rfl (by omega) (shl1 (i := n) (by omega)) <| ?_
  refine O.call rfl (tower_zeros_own (n := 2 ^ n) (by rw [hn]; omega)) fun W17 v17 i17 e17 h17 => ?_
  obtain ⟨p17, m17, c17, rfl, o17, f17⟩ := h17
  have hn17 : m17 = 2 ^ k := by rw [o17.hn, cl_length, List.length_replicate, hn]
  obtain ⟨b17, rfl⟩ : ∃ b, p17 = some ⟨b, 0, none⟩ := by
    rcases o17.h with h0 | ⟨b, _, _, hp, _⟩
    · have := o17.hc; omega
    · exact ⟨b, hp⟩
  refine O.as rfl <| JO.nil <| J.seq <| J.reg rfl <| O.mv rfl <| O.ldT rfl hb3.to.h rfl rfl (fun h => nomatch h) fun v19 h19 => O.iaB (r := RQ) (j := 0) rfl rfl rfl o17 (by omega) rfl <| O.sto (r := RQ) (j := 0) (u := cq x) rfl rfl o17 (by omega) h19.to rfl (.inl rfl) fun W6 i6 o6 => JO.nil <| J.seq <| J.reg rfl <| O.mv rfl <| O.as rfl <| JO.nil <| J.ret1 rfl (.tmp rfl) fun W' iE iP => ?_
  have e : (cl (List.replicate (2 ^ n) 0)).set 0 (cq x) = cl (toL k (rat k x)) := by
    rw [hn, toL_rat, cl, cl, ← List.map_set]
    congr 1
    obtain ⟨u, hu⟩ : ∃ u, 2 ^ k = u + 1 := ⟨2 ^ k - 1, by omega⟩
    rw [hu]; rfl
  rw [e] at o6
  exact (o6.pub iE iP).v
end Go.Proofs.YtcobdnnfmhfenaaGreat

/- The program's towers: inverses; the functions of the package. -/
import Derived.Test.YtcobdnnfmhfenaaGreatTe
set_option linter.unusedVariables false
set_option linter.unusedSimpArgs false
set_option maxRecDepth 10000
set_option maxHeartbeats 4000000
namespace Go.Proofs.YtcobdnnfmhfenaaGreat
open Go Go.Rx Go.Num Go.Tow

theorem inv0 (x : Rat) : Tow.inv 0 () x = if x = 0 then none else some (1 / x : Rat) := rfl
/-- inverse -/
theorem tower_inverse_ok {k : Nat} : ∀ {W : GW} {p q : Option Addr} {n c m d r s : Nat} {t : Tw k} {a : El k}, Sl RE W p n c (ct (toT k t)) → Sl RQ W q m d (cl (toL k a)) →
    TS r k t → Sz s (toL k a) → k ≤ 16 → iB r k s ≤ 4398046511104 →
    Ok Tryz.prog 54 [.slice p n c, .slice q m d] W fun W' v => ∃ v1 b, v = .tuple #[v1, .bool b] ∧ (∃ l, V RE W' v1 l) ∧ b = (Tow.inv k t a).isSome ∧ ∀ x, Tow.inv k t a = some x → V RE W' v1 (cl (toL k x)) := by
  induction k with
  | zero =>
    intro W p q n c m d r s t a h h' hT ha hk hs
    have hb : iB r 0 s = s + 1 := rfl
    refine (tower_inverse0 (a := a) h h' rfl (ha.qs (List.mem_singleton.2 rfl)) (by omega)).mono ?_
    rintro W' v _ ⟨v1, b, rfl, h1, h2, h3⟩
    refine ⟨v1, b, rfl, h1, ?_, ?_⟩
    · rw [h2]
      have : ∀ x : Rat, decide (x ≠ 0) = (Tow.inv 0 () x).isSome := by
        intro x
        rw [inv0]
        by_cases h : x = 0
        · rw [if_pos h]; simp [h]; rfl
        · rw [if_neg h]; simp [h]; rfl
      exact this a
    · have : ∀ (y x : Rat), (y ≠ 0 → V RE W' v1 (cl [1 / y])) → Tow.inv 0 () y = some x → V RE W' v1 (cl [x]) := by
        intro y x h3 hx
        rw [inv0] at hx
        by_cases h : y = 0
        · rw [if_pos h] at hx; cases hx
        · rw [if_neg h] at hx
          injection hx with hx
          rw [← hx]
          exact h3 h
      intro x hx
      exact this a x h3 hx
  | succ k ih =>
    intro W p q n c m d r s t a h h' hT ha hk hs
    have hn : n = k + 1 := by rw [h.hn, ct, List.length_map, toT_length]
    have hm : m = 2 ^ (k + 1) := by rw [h'.hn, cl_length, toL_length]
    have hp := pow_le hk
    have hp1 : 2 ^ (k + 1) = 2 * 2 ^ k := by rw [Nat.pow_succ]; omega
    have hx : Sz s (toL k a.1) := Sz.left ha
    have hy : Sz s (toL k a.2) := Sz.right ha
    have hlen := toL_length k
    obtain ⟨hi1, hi2⟩ := iB_norm hs
    have hN := ha.norm hT
    have hge := iB_ge r k (nB r k s)
    refine Ok.enter Tryz.func54 rfl rfl rfl rfl fun W0 iEn => ?_
    refine J.seq <| J.reg rfl <| O.as rfl <| O.as rfl <| JO.nil <| J.seq <| J.seq <| J.reg rfl <| O.mv rfl <| O.len rfl <| O.eq rfl rfl <| JO.nil <| J.condD rfl (fun h16 => ?_) (fun h16 => ?_)
    · skip
      omega -- done
    · skip
      refine J.skip <| J.seq <| J.reg rfl <| O.mv rfl <| O.call rfl (tower_split_ok (by rw [← ct_succ]; exact h.to)) fun W6 v6 i6 e6 h6 => ?_
      obtain ⟨v7, v8, rfl, h7, h8⟩ := h6
      obtain ⟨p7, n7, c7, rfl, s7⟩ := h7.sl
      obtain ⟨p8, n8, c8, rfl, s8⟩ := h8.sl
      refine O.mv rfl <| O.ext rfl rfl <| O.ext rfl rfl <| O.as rfl <| O.as rfl <| JO.nil <| J.seq <| J.reg rfl <| O.mv rfl <| O.mv rfl <| O.mv rfl <| O.call rfl (tower_norm_own h.to h'.to hT ha hk (by omega)).own fun W9 v9 i9 e9 h9 => ?_
      obtain ⟨p9, n9, c9, rfl, s9⟩ := h9.sl
      refine O.call rfl (ih s7.to s9 hT.1 hN (by omega) (by omega)) fun W10 v10 i10 e10 h10 => ?_
      obtain ⟨v11, b11, rfl, h11, hb11, hx11⟩ := h10
      have hinv : Tow.inv (k + 1) t a = match Tow.inv k t.1 (Tow.norm k t a) with | none => none | some x => some (mul k t.1 a.1 x, neg k (mul k t.1 a.2 x)) := rfl
      refine O.mv rfl <| O.ext rfl rfl <| O.ext rfl rfl <| O.as rfl <| O.as rfl <| JO.nil <| J.seq <| J.seq <| J.reg rfl <| O.mv rfl <| O.not rfl <| JO.nil <| J.cond rfl (fun h43 => ?_) (fun h43 => ?_)
      · skip
        refine J.seq <| J.reg rfl <| O.as rfl <| O.as rfl <| JO.nil <| J.ret2 rfl (.tmp rfl) (.tmp rfl) fun W' iE iP => ?_
        have hnone : Tow.inv k t.1 (Tow.norm k t a) = none := by
          rw [hb11] at h43
          cases hh : Tow.inv k t.1 (Tow.norm k t a) with
          | none => rfl
          | some x => rw [hh] at h43; simp at h43
        rw [hnone] at hinv
        exact ⟨_, _, rfl, ⟨[], (nil_sl _ _ _).v⟩, by rw [hinv]; rfl, fun x hx => by rw [hinv] at hx; cases hx⟩
      · skip
        obtain ⟨x, hxx⟩ : ∃ x, Tow.inv k t.1 (Tow.norm k t a) = some x := by
          rw [hb11] at h43
          cases hh : Tow.inv k t.1 (Tow.norm k t a) with
          | none => rw [hh] at h43; simp at h43
          | some x => exact ⟨x, rfl⟩
        rw [hxx] at hinv
        have hv11 := hx11 x hxx
        have hzx := hN.inv hT.1 hxx
        obtain ⟨p11, n11, c11, rfl, s11⟩ := hv11.sl
        refine J.skip <| J.seq <| J.reg rfl <| O.mv rfl <| O.call rfl (tower_halves_ok h'.to (hm.trans hp1)) fun W12 v12 i12 e12 h12 => ?_
        obtain ⟨v13, v14, rfl, h13, h14⟩ := h12
        rw [(cl_halves _).1] at h13
        rw [(cl_halves _).2] at h14
        obtain ⟨p13, n13, c13, rfl, s13⟩ := h13.sl
        obtain ⟨p14, n14, c14, rfl, s14⟩ := h14.sl
        refine O.mv rfl <| O.ext rfl rfl <| O.ext rfl rfl <| O.as rfl <| O.as rfl <| JO.nil <| J.seq <| J.reg rfl <| O.mv rfl <| O.mv rfl <| O.mv rfl <| O.call rfl (tower_mul_own s7.to s13.to s11.to hT.1 hx hzx (by omega) (by omega)) fun W15 v15 i15 e15 h15 => ?_
        obtain ⟨p15, n15, c15, rfl, o15, f15⟩ := h15
        have hn15 : n15 = 2 ^ k := by rw [o15.hn, cl_length, hlen]
        refine O.mv rfl <| O.mv rfl <| O.mv rfl <| O.call rfl (tower_mul_own s7.to s14.to s11.to hT.1 hy hzx (by omega) (by omega)).own fun W16 v16 i16 e16 h16 => ?_
        obtain ⟨p16, n16, c16, rfl, s16⟩ := h16.sl
        have hn16 : n16 = 2 ^ k := by rw [s16.hn, cl_length, hlen]
        refine O.call rfl (tower_neg_own s16.to (by omega) (hy.mul hT.1 hzx).qs' (by omega)).own fun W17 v17 i17 e17 h17 => ?_
        obtain ⟨p17, n17, c17, rfl, s17⟩ := h17.sl
        have hn17 : n17 = 2 ^ k := by rw [s17.hn, cl_length, List.length_map, hlen]
        have o17 := (o15.ext e16).ext e17
        refine O.app (r := RQ) rfl rfl o17 s17 rfl rfl (by omega) (by omega) fun W18 p18 c18 i18 o18 => ?_
        rw [← cl_append, ← toL_neg] at o18
        refine O.as rfl <| O.as rfl <| JO.nil <| J.ret2 rfl (.tmp rfl) (.tmp rfl) fun W' iE iP => ?_
        have hv := (o18.pub iE iP).v
        exact ⟨_, _, rfl, ⟨_, hv⟩, by rw [hinv]; rfl, fun y hy => by rw [hinv] at hy; injection hy with hy; subst hy; exact hv⟩

/-! formed data -/
theorem smallR_cq {p : Nat} {x : Rat} (h : Qs p x) (hp : p ≤ 17592186044416) : smallR (cq x) := ⟨h.n.len hp, by have := h.d.len hp; rwa [Int.natAbs_natCast] at this⟩
theorem small_cl {p : Nat} {xs : List Rat} (h : ∀ x ∈ xs, Qs p x) (hp : p ≤ 17592186044416) : ∀ i ∈ cl xs, smallR i := fun i hi => by
  obtain ⟨x, hx, rfl⟩ := List.mem_map.1 hi
  exact smallR_cq (h x hx) hp
theorem TS.sz {r k : Nat} {t : Tw k} (h : TS r k t) : ∀ l ∈ toT k t, Sz r l := by
  induction k with
  | zero => intro l hl; cases hl
  | succ k ih =>
    intro l hl
    rcases List.mem_append.1 hl with hl | hl
    · exact ih h.1 l hl
    · rw [List.mem_singleton.1 hl]; exact h.2
theorem small_ct {r k : Nat} {t : Tw k} (h : TS r k t) (hp : r ≤ 17592186044416) : ∀ l ∈ ct (toT k t), ∀ i ∈ l, smallR i := fun l hl => by
  obtain ⟨xs, hx, rfl⟩ := List.mem_map.1 hl
  exact small_cl (h.sz xs hx).qs' hp
theorem toT_get {k : Nat} {t : Tw k} {i : Nat} {r : List Rat} (h : (toT k t)[i]? = some r) : r.length = 2 ^ i := by
  induction k with
  | zero => cases h
  | succ k ih =>
    have h' : (toT k t.1 ++ [toL k t.2])[i]? = some r := h
    by_cases hi : i < k
    · rw [List.getElem?_append_left (by rw [toT_length]; exact hi)] at h'
      exact ih h'
    · rw [List.getElem?_append_right (by rw [toT_length]; omega), toT_length] at h'
      by_cases hik : i = k
      · subst hik
        rw [Nat.sub_self] at h'
        injection h' with h'
        rw [← h', toL_length]
      · rw [List.getElem?_eq_none (by simp; omega)] at h'; cases h'
theorem okE_cl {n : Nat} {xs : List Rat} (h : xs.length = n) : okE n (cl xs) := ⟨by rw [cl_length, h], fun i hi => by obtain ⟨x, _, rfl⟩ := List.mem_map.1 hi; exact ⟨x, rfl⟩⟩
theorem okT_ct {k : Nat} (t : Tw k) : okT (ct (toT k t)) := fun i r hr => by
  rw [ct, List.getElem?_map] at hr
  cases h : (toT k t)[i]? with
  | none => rw [h] at hr; cases hr
  | some xs =>
    rw [h] at hr
    injection hr with hr
    rw [← hr]
    exact okE_cl (toT_get h)
theorem ct_length {k : Nat} (t : Tw k) : (ct (toT k t)).length = k := by rw [ct, List.length_map, toT_length]
theorem okE_typed {k : Nat} {l : List Raw} (h : okE (2 ^ k) l) : ∃ a : El k, l = cl (toL k a) := by
  have : ∀ l : List Raw, (∀ i ∈ l, ∃ x, i = cq x) → ∃ xs, l = cl xs := by
    intro l
    induction l with
    | nil => intro _; exact ⟨[], rfl⟩
    | cons i l ih =>
      intro h
      obtain ⟨x, rfl⟩ := h i (List.mem_cons_self ..)
      obtain ⟨xs, rfl⟩ := ih fun j hj => h j (List.mem_cons_of_mem _ hj)
      exact ⟨x :: xs, rfl⟩
  obtain ⟨xs, rfl⟩ := this l h.2
  obtain ⟨a, ha⟩ := exE k xs (by rw [← cl_length]; exact h.1)
  exact ⟨a, by rw [ha]⟩
theorem okT_typed {t : List (List Raw)} (h : okT t) : ∃ w : Tw t.length, t = ct (toT t.length w) := by
  have : ∀ t : List (List Raw), (∀ r ∈ t, ∃ xs, r = cl xs) → ∃ ts, t = ct ts := by
    intro t
    induction t with
    | nil => intro _; exact ⟨[], rfl⟩
    | cons i l ih =>
      intro h
      obtain ⟨x, rfl⟩ := h i (List.mem_cons_self ..)
      obtain ⟨xs, rfl⟩ := ih fun j hj => h j (List.mem_cons_of_mem _ hj)
      exact ⟨x :: xs, rfl⟩
  obtain ⟨ts, hts⟩ := this t (fun r hr => by
    obtain ⟨i, hi⟩ := List.getElem?_of_mem hr
    obtain ⟨a, ha⟩ := okE_typed (h i r hi)
    exact ⟨_, ha⟩)
  obtain ⟨w, hw⟩ := exT t.length ts (by rw [hts, ct, List.length_map]) (fun i r hr => by
    have := h i (cl r) (by rw [hts, ct, List.getElem?_map, hr]; rfl)
    rw [← cl_length]
    exact this.1)
  exact ⟨w, by rw [hw, ← hts]⟩

/-! the functions of the package, on formed data -/
section
variable {W : GW} {p q q2 : Option Addr} {n c m d m2 d2 r s s' k : Nat} {t : Tw k} {a b : El k}
theorem tower_Mul_ok (h : Sl RE W p n c (ct (toT k t))) (h' : Sl RQ W q m d (cl (toL k a))) (h2 : Sl RQ W q2 m2 d2 (cl (toL k b))) (hT : TS r k t) (ha : Sz s (toL k a)) (hb : Sz s' (toL k b)) (hk : k ≤ 16) (hs : s + s' + cB r k ≤ 8796093022208) (hr : r ≤ 17592186044416) :
    Ok Tryz.prog 33 [.slice p n c, .slice q m d, .slice q2 m2 d2] W fun W' v => V RE W' v (cl (toL k (mul k t a b))) := by
  refine Ok.enter Tryz.func33 rfl rfl rfl rfl fun W0 iEn => ?_
  refine J.seq <| J.reg rfl <| O.as rfl <| JO.nil <| J.seq <| J.seq <| J.reg rfl <| O.mv rfl <| O.mv rfl <| O.mv rfl <| O.call rfl (tower_formed_ok h.to h'.to h2.to (small_ct hT hr) (small_cl ha.qs' (by omega)) (small_cl hb.qs' (by omega)) (by rw [ct_length]; omega)) fun W2 v2 i2 e2 g2 => ?_
  obtain ⟨b2, rfl, hb2⟩ := g2
  have hb2' := hb2.2 ⟨okT_ct t, okE_cl (by rw [ct_length, toL_length]), okE_cl (by rw [ct_length, toL_length])⟩
  subst hb2'
  refine O.not rfl <| JO.nil <| J.condF rfl <| J.skip <| J.seq <| J.reg rfl <| O.mv rfl <| O.mv rfl <| O.mv rfl <| O.call rfl (tower_mul_own h.to h'.to h2.to hT ha hb hk hs).own fun W3 v3 i3 e3 h3 => O.as rfl <| JO.nil <| J.ret1 rfl (.tmp rfl) fun W' iE iP => ?_
  exact h3.to
theorem tower_Inv_ok (h : Sl RE W p n c (ct (toT k t))) (h' : Sl RQ W q m d (cl (toL k a))) (hT : TS r k t) (ha : Sz s (toL k a)) (hk : k ≤ 16) (hs : iB r k s ≤ 4398046511104) (hr : r ≤ 17592186044416) :
    Ok Tryz.prog 23 [.slice p n c, .slice q m d] W fun W' v => ∃ v1 e, v = .tuple #[v1, .int .i64 e] ∧ match Tow.inv k t a with
      | none => e = 6 ∧ V RE W' v1 []
      | some x => e = 0 ∧ V RE W' v1 (cl (toL k x)) := by
  have hge := iB_ge r k s
  refine Ok.enter Tryz.func23 rfl rfl rfl rfl fun W0 iEn => ?_
  refine J.seq <| J.reg rfl <| O.as rfl <| O.as rfl <| JO.nil <| J.seq <| J.seq <| J.reg rfl <| O.mv rfl <| O.mv rfl <| O.call rfl (tower_Formed_ok h.to h'.to (small_ct hT hr) (small_cl ha.qs' (by omega)) (by rw [ct_length]; omega)) fun W2 v2 i2 e2 g2 => ?_
  obtain ⟨b2, rfl, hb2⟩ := g2
  have hb2' := hb2.2 ⟨okT_ct t, okE_cl (by rw [ct_length, toL_length])⟩
  subst hb2'
  refine O.not rfl <| JO.nil <| J.condF rfl <| J.skip <| J.seq <| J.reg rfl <| O.mv rfl <| O.mv rfl <| O.call rfl (tower_inverse_ok h.to h'.to hT ha hk hs) fun W3 v3 i3 e3 h3 => ?_
  obtain ⟨v4, b4, rfl, h4, hb4, hx4⟩ := h3
  refine O.mv rfl <| O.ext rfl rfl <| O.ext rfl rfl <| O.as rfl <| O.as rfl <| JO.nil <| J.seq <| J.seq <| J.reg rfl <| O.mv rfl <| O.not rfl <| JO.nil <| J.cond rfl (fun h19 => ?_) (fun h19 => ?_)
  · skip
    refine J.seq <| J.reg rfl <| O.as rfl <| O.as rfl <| JO.nil <| J.ret2 rfl (.tmp rfl) (.tmp rfl) fun W' iE iP => ?_
    refine ⟨_, _, rfl, ?_⟩
    rw [hb4] at h19
    cases hh : Tow.inv k t a with
    | none => exact ⟨rfl, (nil_sl _ _ _).v⟩
    | some x => rw [hh] at h19; simp at h19
  · skip
    refine J.skip <| J.seq <| J.reg rfl <| O.mv rfl <| O.as rfl <| O.as rfl <| JO.nil <| J.ret2 rfl (.tmp rfl) (.tmp rfl) fun W' iE iP => ?_
    refine ⟨_, _, rfl, ?_⟩
    rw [hb4] at h19
    cases hh : Tow.inv k t a with
    | none => rw [hh] at h19; simp at h19
    | some x => exact ⟨rfl, (hx4 x hh).to⟩
end
theorem tower_Norm_ok {W : GW} {p q : Option Addr} {n c m d r s k : Nat} {t : Tw (k + 1)} {a : El (k + 1)} (h : Sl RE W p n c (ct (toT (k + 1) t))) (h' : Sl RQ W q m d (cl (toL (k + 1) a))) (hT : TS r (k + 1) t) (ha : Sz s (toL (k + 1) a)) (hk : k + 1 ≤ 16) (hs : nB r k s ≤ 8796093022208) (hr : r ≤ 17592186044416) :
    Ok Tryz.prog 15 [.slice p n c, .slice q m d] W fun W' v => V RE W' v (cl (toL k (Tow.norm k t a))) := by
  have hge := nB_ge r k s
  have hn : n = k + 1 := by rw [h.hn, ct_length]
  refine Ok.enter Tryz.func15 rfl rfl rfl rfl fun W0 iEn => ?_
  refine J.seq <| J.reg rfl <| O.as rfl <| JO.nil <| J.seq <| J.seq <| J.reg rfl <| O.mv rfl <| O.mv rfl <| O.call rfl (tower_Formed_ok h.to h'.to (small_ct hT hr) (small_cl ha.qs' (by omega)) (by rw [ct_length]; omega)) fun W2 v2 i2 e2 g2 => ?_
  obtain ⟨b2, rfl, hb2⟩ := g2
  have hb2' := hb2.2 ⟨okT_ct t, okE_cl (by rw [ct_length, toL_length])⟩
  subst hb2'
  refine O.not rfl <| O.mv rfl <| O.gt rfl rfl <| O.mv rfl <| O.gt rfl rfl <| O.len rfl <| O.gt rfl rfl <| O.eq rfl rfl <| O.pickF rfl rfl <| JO.nil <| J.condD rfl (fun h13 => ?_) (fun h13 => ?_)
  · skip
    omega -- done
  · skip
    refine J.skip <| J.seq <| J.reg rfl <| O.mv rfl <| O.mv rfl <| O.call rfl (tower_norm_own h.to h'.to hT ha hk hs).own fun W3 v3 i3 e3 h3 => O.as rfl <| JO.nil <| J.ret1 rfl (.tmp rfl) fun W' iE iP => ?_
    exact h3.to
theorem tower_Root_ok {W : GW} {p : Option Addr} {n c r k i : Nat} {t : Tw k} (h : Sl RE W p n c (ct (toT k t))) (hT : TS r k t) (hk : k ≤ 16) (hi : i < k) (hr : r ≤ 17592186044416) :
    Ok Tryz.prog 20 [.slice p n c, .int .i64 (i : Int)] W fun W' v => V RE W' v (cl (toL k (root k i))) := by
  have hn : n = k := by rw [h.hn, ct_length]
  have hp := pow_le hk
  have hpi : 2 ^ i < 2 ^ k := Nat.pow_lt_pow_right (by decide) hi
  have hp0 := Nat.two_pow_pos k
  have hp1 := Nat.two_pow_pos i
  refine Ok.enter Tryz.func20 rfl rfl rfl rfl fun W0 iEn => ?_
  refine J.seq <| J.reg rfl <| O.as rfl <| JO.nil <| J.seq <| J.seq <| J.reg rfl <| O.mv rfl <| O.call rfl (tower_radicands_ok h.to (small_ct hT hr) (by rw [ct_length]; omega)) fun W2 v2 i2 e2 g2 => ?_
  obtain ⟨b2, rfl, hb2⟩ := g2
  have hb2' := hb2.2 (okT_ct t)
  subst hb2'
  refine O.not rfl <| O.mv rfl <| O.gt rfl rfl <| O.mv rfl <| O.gt rfl rfl <| O.lt rfl rfl <| O.set (t := 11) (.bool false) rfl (by simp only [Value.bool.injEq, decide_eq_false_iff_not]; omega) <| O.pickF rfl rfl <| O.mv rfl <| O.gt rfl rfl <| O.mv rfl <| O.gt rfl rfl <| O.mv rfl <| O.gt rfl rfl <| O.len rfl <| O.gt rfl rfl <| O.ge rfl rfl <| O.pickF rfl rfl <| JO.nil <| J.condD rfl (fun h18 => ?_) (fun h18 => ?_)
  · skip
    omega -- done
  · skip
    refine J.skip <| J.seq <| J.reg rfl <| O.mv rfl <| O.len rfl <| O.shl rfl rfl (by omega) (shl1 (i := n) (by omega)) <| O.call rfl (tower_zeros_own (n := 2 ^ n) (by rw [hn]; omega)) fun W3 v3 i3 e3 h3 => ?_
    obtain ⟨p3, n3, c3, rfl, o3, f3⟩ := h3
    have hn3 : n3 = 2 ^ k := by rw [o3.hn, cl_length, List.length_replicate, hn]
    refine O.as rfl <| JO.nil <| J.seq <| ?_
    refine J.sub [(0, _), (1, _), (5, _)] ⟨rfl, rfl, rfl, trivial⟩ ?_
    refine J.draw [.ex _, .ex _, .ex _, .rel _] rfl rfl ⟨fun W1 i1 e1 _ => O.mv rfl <| D.ex, fun W1 i1 e1 _ => O.mv rfl <| D.ex, fun W1 i1 e1 _ => O.shl rfl rfl (by omega) (shl1 (i := i) (by omega)) <| D.ex, fun W1 i1 e1 _ => O.call rfl (rational_FromInt_ok (z := 1) (by decide)) fun W5 v5 i5 e5 h5 => D.rel e5 h5 V.me, trivial⟩ ?_
    intro W1 i1 e1 v26 h26
    have o4 := o3.ext e1
    obtain ⟨b3, rfl⟩ : ∃ b, p3 = some ⟨b, 0, none⟩ := by
      rcases o3.h with h0 | ⟨b, _, _, hp, _⟩
      · have := o3.hc; omega
      · exact ⟨b, hp⟩
    refine O.iaB (r := RQ) (j := 2 ^ i) rfl rfl rfl o4 (by omega) rfl <| O.sto (r := RQ) (j := 2 ^ i) (u := cq 1) rfl rfl o4 (by omega) h26.to rfl (.inl rfl) fun W5 i5 o5 => JO.nil <| J.seq <| J.reg rfl <| O.mv rfl <| O.as rfl <| JO.nil <| J.ret1 rfl (.tmp rfl) fun W' iE iP => ?_
    rw [toL_root hi]
    have := (o5.pub iE iP).v
    rw [hn] at this
    rw [cl, List.map_set]
    exact this
end Go.Proofs.YtcobdnnfmhfenaaGreat

/- The program's square roots in a reduced tower. -/
import Derived.Test.YtcaikjefkkejbaaGreatQa
import Derived.Test.YtcaikjefkkejbaaGreatSf
import Derived.Test.YtcaikjefkkejbaaGreatSi
set_option linter.unusedVariables false
set_option linter.unusedSimpArgs false
set_option maxRecDepth 10000
set_option maxHeartbeats 4000000
namespace Go.Proofs.YtcaikjefkkejbaaGreat
open Go Go.Rx Go.Num Go.Tow
section
theorem qB_ge {r : Nat} : ∀ (k p : Nat), p ≤ qB r k p
  | 0, _ => Nat.le_refl _
  | k + 1, p => by unfold qB; omega
theorem nS_ge (r k p : Nat) : p ≤ nS r k p := by unfold nS; omega
theorem qB_mono {r s : Nat} (hr : r ≤ s) : ∀ {k p q : Nat}, p ≤ q → qB r k p ≤ qB s k q
  | 0, p, q, h => h
  | k + 1, p, q, h => by
    have h2 := cB_mono (k := k) hr
    have hn := nS_mono (k := k) hr h
    have h1 := sB_mono hr hn (k := k)
    have h3 := iS_mono hr (k := k) hr
    have hX : sX r k p (sB r k (nS r k p)) ≤ sX s k q (sB s k (nS s k q)) := by unfold sX; omega
    have h4 := sB_mono hr hX (k := k)
    have h5 := iS_mono hr (k := k) (Nat.succ_le_succ h4)
    have h6 := qB_mono hr hn (k := k)
    have h7 := qB_mono hr hX (k := k)
    have h8 := iB_mono hr (k := k) hr
    have h9 := iB_mono hr (k := k) (show 2 * sB r k (sX r k p (sB r k (nS r k p))) + 1 ≤ 2 * sB s k (sX s k q (sB s k (nS s k q))) + 1 by omega)
    have h10 : nB r k p ≤ nB s k q := by unfold nB; omega
    simp only [Nat.succ_eq_add_one] at h5
    unfold qB
    omega
theorem cat_le {l1 l2 : List Raw} (h1 : l1.length ≤ 65536) (h2 : l2.length ≤ 65536) : sumL [l1, l2] ≤ 1048576 := by
  show l1.length + (l2.length + 0) ≤ _; omega
theorem cat2 (l1 l2 : List Raw) : [l1, l2].flatten = l1 ++ l2 := by simp
/-- what a root in a tower returns -/
def SqE (s k : Nat) (t : Tw k) (a : El k) (W : GW) (v : Value) (b : Bool) : Prop :=
  ∃ l : List Raw, V RE W v l ∧ l.length ≤ 2 ^ k ∧ (b = true → ∃ w, mul k t w w = a ∧ l = cl (toL k w) ∧ Sz s (toL k w)) ∧ (b = false → ¬ isSq k t a)
theorem Qs.zero0 : smallR (cq ((0 : Int) : Rat)) := smallR_cq (p := 1) (Qs.int (show (0 : Int).natAbs < 2 ^ 1 by decide) (Nat.le_refl _)) (by decide)
theorem Qs.half0 : Qs 2 (1 / 2 : Rat) := ⟨show (1 / 2 : Rat).num.natAbs < 2 ^ 2 by decide +kernel, show ((1 / 2 : Rat).den : Int).natAbs < 2 ^ 2 by decide +kernel⟩
theorem root_half_ok {W : GW} {p q : Option Addr} {n c m d r s k : Nat} {t : Tw k} {a : El k} (h : Sl RE W p n c (ct (toT k t))) (h' : Sl RQ W q m d (cl (toL k a))) (hT : TS r k t) (ha : Sz s (toL k a)) (hk : k ≤ 16) (hs : s + 3 + cB r k ≤ 8796093022208) (hr : r ≤ 8796093022208) :
    Ok Tryz.prog 86 [.slice p n c, .slice q m d] W fun W' v => V RE W' v (cl (toL k (mul k t a (rat k (1 / 2))))) := by
  refine Ok.enter Tryz.func86 rfl rfl rfl rfl fun W0 iEn => ?_
  refine J.seq <| J.reg rfl <| O.as rfl <| JO.nil <| J.seq <| J.reg rfl <| O.mv rfl <| O.mv rfl <| O.mv rfl <| O.call rfl (rational_Frac_ok) fun W8 v8 i8 e8 h8 => ?_
  refine O.call rfl (tower_FromRat_ok h.to h8.to hT (smallR_cq Qs.half0 (by decide)) hk (by omega)) fun W9 v9 i9 e9 h9 => ?_
  obtain ⟨p9, m9, c9, rfl, s9⟩ := h9.sl
  refine O.call rfl (tower_Mul_ok h.to h'.to s9.to hT ha Sz.half hk (by omega) (by omega)) fun W10 v10 i10 e10 h10 => ?_
  obtain ⟨p10, m10, c10, rfl, s10⟩ := h10.sl
  refine O.as rfl <| JO.nil <| J.ret1 rfl (.tmp rfl) fun W' iE iP => ?_
  exact h10.to
theorem root_square0 {W : GW} {p q : Option Addr} {c m d s : Nat} {t : Tw 0} {a : Rat} (h' : Sl RQ W q m d (cl [a])) (ha : Qs s a) (hs : s ≤ 8796093022208) :
    Ok Tryz.prog 50 [.slice p 0 c, .slice q m d] W fun W' v => ∃ v1 b, v = .tuple #[v1, .bool b] ∧ SqE (s / 2 + 1) 0 t a W' v1 b := by
  refine Ok.enter Tryz.func50 rfl rfl rfl rfl fun W0 iEn => ?_
  refine J.seq <| J.reg rfl <| O.as rfl <| O.as rfl <| JO.nil <| J.seq <| J.seq <| J.reg rfl <| O.mv rfl <| O.len rfl <| O.eq rfl rfl <| JO.nil <| J.condD rfl (fun h28 => ?_) (fun h28 => ?_)
  · skip
    refine J.seq <| J.reg rfl <| O.mv rfl <| O.iaT (j := 0) rfl rfl rfl h'.to (show (cl [a])[0]? = some (cq a) from rfl) rfl fun b31 o31 hb31 => O.ldT rfl hb31.to.h rfl rfl (fun h => nomatch h) fun v32 h32 => O.call rfl (rational_Sqrt_ok h32.to ha hs) fun W33 v33 i33 e33 h33 => ?_
    obtain ⟨v34, b7, rfl, i7, h34, hsq⟩ := h33
    refine O.mv rfl <| O.ext rfl rfl <| O.ext rfl rfl <| ?_
    refine O.allocE fun W6 b6 i6 e6 hl6 hc6 hz6 => ?_
    refine O.stT rfl rfl hl6.to h34.to rfl fun Ws1 is1 hb6 F6 => ?_
    refine O.as rfl <| JO.nil <| J.seq <| J.reg rfl <| O.ldT rfl hb6.to.h rfl rfl (fun h => nomatch h) fun v36 h36 => O.bs (r := RQ) [i7] rfl ⟨h36.to, trivial⟩ rfl rfl rfl (by decide) (.inl rfl) (by decide) fun W37 p37 i37 e37 s37 => O.mv rfl <| O.as rfl <| O.as rfl <| JO.nil <| J.ret2 rfl (.tmp rfl) (.tmp rfl) fun W' iE iP => ?_
    refine ⟨_, _, rfl, _, s37.to.v, Nat.le_refl _, ?_, ?_⟩
    · intro hb
      rcases hsq with ⟨_, x, hx, rfl⟩ | ⟨e, _⟩
      · exact ⟨x, hx, rfl, Sz.one (Qs.root (by rw [hx]; exact ha))⟩
      · rw [hb] at e; cases e
    · intro hb
      rcases hsq with ⟨e, _⟩ | ⟨_, e⟩
      · rw [hb] at e; cases e
      · exact e
  · skip
    exact absurd rfl h28 -- done
theorem root_square_ok {k : Nat} : ∀ {W : GW} {p q : Option Addr} {n c m d r s : Nat} {t : Tw k} {a : El k}, Sl RE W p n c (ct (toT k t)) → Sl RQ W q m d (cl (toL k a)) →
    TS r k t → Sz s (toL k a) → red k t → k ≤ 8 → qB r k s ≤ 4398046511104 → r ≤ 4398046511104 →
    Ok Tryz.prog 50 [.slice p n c, .slice q m d] W fun W' v => ∃ v1 b, v = .tuple #[v1, .bool b] ∧ SqE (sB r k s) k t a W' v1 b := by
  induction k with
  | zero =>
    intro W p q n c m d r s t a h h' hT ha hR hk hq hr
    have hn : n = 0 := h.hn
    subst hn
    exact root_square0 (a := a) (s := s) h' (ha.qs (List.mem_singleton.2 rfl)) (by have : s ≤ 4398046511104 := hq; omega)
  | succ k ih =>
    intro W p q n c m d r s t a h h' hT ha hR hk hq hr
    have hn : n = k + 1 := by rw [h.hn, ct, List.length_map, toT_length]
    have hm : m = 2 ^ (k + 1) := by rw [h'.hn, cl_length, toL_length]
    have hp := pow_le (show k + 1 ≤ 16 by omega)
    have hp1 : 2 ^ (k + 1) = 2 * 2 ^ k := by rw [Nat.pow_succ]; omega
    have hp0 := Nat.two_pow_pos k
    have hx : Sz s (toL k a.1) := Sz.left ha
    have hy : Sz s (toL k a.2) := Sz.right ha
    have hnS := nS_ge r k s
    have hnB : s ≤ nB r k s := vnB_ge r k s
    obtain ⟨N, hN⟩ : ∃ N, N = sB r k (nS r k s) := ⟨_, rfl⟩
    obtain ⟨X, hX⟩ : ∃ X, X = sX r k s N := ⟨_, rfl⟩
    obtain ⟨B, hB⟩ : ∃ B, B = sB r k X := ⟨_, rfl⟩
    have hXe : X = s + N + iS r k r + cB r k + 4 := hX
    have hq : s + qB r k (nS r k s) + qB r k X + nB r k s + iB r k r + iB r k (2 * B + 1) + iS r k (B + 1) + cB r k + X ≤ 4398046511104 := by rw [hB, hX, hN]; exact hq
    have hsB : sB r (k + 1) s = B + s + iS r k (B + 1) + 2 * cB r k + 4 := by rw [hB, hX, hN]; rfl
    rw [hsB]
    have q1 := qB_mono (Nat.le_refl r) hnS (k := k)
    have q2 := qB_mono (Nat.le_refl r) (show s + iS r k r + cB r k ≤ X by omega) (k := k)
    have q3 := qB_mono (Nat.le_refl r) (show s + N + 1 + 3 + cB r k ≤ X by omega) (k := k)
    have b1 : sB r k s ≤ B := by rw [hB]; exact sB_mono (Nat.le_refl r) (by omega)
    have b2 : sB r k (s + iS r k r + cB r k) ≤ B := by rw [hB]; exact sB_mono (Nat.le_refl r) (by omega)
    have b3 : sB r k (s + N + 1 + 3 + cB r k) ≤ B := by rw [hB]; exact sB_mono (Nat.le_refl r) (by omega)
    have b4 := iB_ge r k (2 * B + 1)
    have hc' := h'.hc
    have hC' := h'.hC
    have hcc := h.hc
    have hCC := h.hC
    have s54 := h'.take (2 ^ k) (by omega)
    rw [(cl_halves a).1] at s54
    have s59 := h'.drop (2 ^ k) (by omega)
    rw [(cl_halves a).2] at s59
    have s43 := h.take k (by omega)
    rw [ct_succ, List.take_left' (by rw [ct, List.length_map, toT_length])] at s43
    have hrr : (ct (toT (k + 1) t))[k]? = some (cl (toL k t.2)) := by
      rw [ct_succ, List.getElem?_append_right (by rw [ct, List.length_map, toT_length]; omega), ct, List.length_map, toT_length, Nat.sub_self]; rfl
    have hqm : Int.tdiv (m : Int) 2 = ((2 ^ k : Nat) : Int) := by rw [show Int.tdiv (m : Int) 2 = ((m / 2 : Nat) : Int) from rfl]; omega
    have hR1 := red_real hR.1
    have ht2 : t.2 ≠ zero k := fun e => by
      have := hR.2.1
      rw [e, (sgn_ok hR1).s0 (ring k t.1)] at this
      cases this
    have L := ring k t.1
    refine Ok.enter Tryz.func50 rfl rfl rfl rfl fun W0 iEn => ?_
    refine J.seq <| J.reg rfl <| O.as rfl <| O.as rfl <| JO.nil <| J.seq <| J.seq <| J.reg rfl <| O.mv rfl <| O.len rfl <| O.eq rfl rfl <| JO.nil <| J.condD rfl (fun h28 => ?_) (fun h28 => ?_)
    · skip
      omega -- done
    · skip
      refine J.skip <| J.seq <| ?_
      obtain ⟨b48, o48, rfl, hj48, hb48⟩ := (h).placeP hrr
      refine J.draw [.ex _, .ex _, .ex _, .ex _, .ex _, .ex _, .ex _, .ex _, .ex _, .ex _, .rel _, .ex _] rfl rfl ⟨fun Wd id ed _ => O.mv rfl <| D.ex, fun Wd id ed _ => O.mv rfl <| D.ex, fun Wd id ed _ => O.len rfl <| D.ex, fun Wd id ed _ => O.sb (r := (k : Int)) rfl rfl ((wI (by omega)).trans (by omega)) <| D.ex, fun Wd id ed _ => O.slh (hi := k) rfl rfl rfl (by omega) <| D.ex, fun Wd id ed _ => O.mv rfl <| D.ex, fun Wd id ed _ => O.mv rfl <| D.ex, fun Wd id ed _ => O.len rfl <| D.ex, fun Wd id ed _ => O.sb (r := (k : Int)) rfl rfl ((wI (by omega)).trans (by omega)) <| D.ex, fun Wd id ed _ => O.ia (j := k) rfl rfl rfl hj48 <| D.ex, fun Wd id ed _ => O.ldTD rfl hb48.to.h rfl rfl (fun _ => rfl), fun Wd id ed _ => O.as rfl <| D.ex, trivial⟩ ?_
      intro Wr4 ir4 er4 v49 h49
      obtain ⟨p49, m49, c49, rfl, s49⟩ := h49.sl
      refine O.as rfl <| JO.nil <| J.seq <| ?_
      refine J.draw [.ex _, .ex _, .ex _, .ex _, .ex _, .ex _, .ex _, .ex _, .ex _, .ex _, .ex _, .ex _] rfl rfl ⟨fun Wd id ed _ => O.mv rfl <| D.ex, fun Wd id ed _ => O.mv rfl <| D.ex, fun Wd id ed _ => O.len rfl <| D.ex, fun Wd id ed _ => O.quo (r := ((2 ^ k : Nat) : Int)) rfl rfl (by decide) (by rw [hqm]; exact wI (by omega)) <| D.ex, fun Wd id ed _ => O.slh (hi := 2 ^ k) rfl rfl rfl (by omega) <| D.ex, fun Wd id ed _ => O.mv rfl <| D.ex, fun Wd id ed _ => O.mv rfl <| D.ex, fun Wd id ed _ => O.len rfl <| D.ex, fun Wd id ed _ => O.quo (r := ((2 ^ k : Nat) : Int)) rfl rfl (by decide) (by rw [hqm]; exact wI (by omega)) <| D.ex, fun Wd id ed _ => O.sll (lo := 2 ^ k) rfl rfl rfl (by omega) <| D.ex, fun Wd id ed _ => O.as rfl <| D.ex, fun Wd id ed _ => O.as rfl <| D.ex, trivial⟩ ?_
      intro Wr5 ir5 er5
      refine JO.nil <| J.seq <| J.seq <| J.reg rfl <| O.mv rfl <| ?_
      refine O.call rfl (tower_Zero_ok s59.to) fun W61 v61 i61 e61 h61 => ?_
      subst h61
      refine JO.nil <| J.condD rfl (fun h61 => ?_) (fun h61 => ?_)
      · skip
        have hv0 : a.2 = zero k := (eq_zero_iff k a.2).2 h61
        have hva : up k a.1 = a := by exact Prod.ext rfl hv0.symm
        refine J.seq <| J.seq <| J.reg rfl <| O.mv rfl <| O.mv rfl <| O.call rfl (ih s43.to s54.to hT.1 hx hR.1 (by omega) (by omega) hr) fun W65 v65 i65 e65 h65 => ?_
        obtain ⟨v66, b13, rfl, l12, h66, hl12, hs1, hs2⟩ := h65
        obtain ⟨p66, m66, c66, rfl, s66⟩ := h66.sl
        refine O.mv rfl <| O.ext rfl rfl <| O.ext rfl rfl <| O.as rfl <| O.as rfl <| JO.nil <| J.seq <| J.reg rfl <| O.mv rfl <| JO.nil <| J.cond rfl (fun h68 => ?_) (fun h68 => ?_)
        · skip
          obtain ⟨w, hw, rfl, hwS⟩ := hs1 h68
          refine J.seq <| J.reg rfl <| O.mv rfl <| O.mv rfl <| O.call rfl (rational_FromInt_ok (z := 0) (by decide)) fun W71 v71 i71 e71 h71 => ?_
          refine O.call rfl (tower_FromRat_ok s43.to h71.to hT.1 Qs.zero0 (by omega) (by omega)) fun W72 v72 i72 e72 h72 => ?_
          obtain ⟨p72, m72, c72, rfl, s72⟩ := h72.sl
          refine O.bs (r := RE) [cl (toL k w), cl (toL k (rat k ((0 : Int) : Rat)))] rfl ⟨s66.to.v, s72.to.v, trivial⟩ rfl rfl rfl (by decide) (.inr rfl) (by decide) fun W73 p73 i73 e73 s73 => ?_
          refine O.call rfl (slices_Concat_ok s73.to (cat_le (by rw [cl_length, toL_length]; omega) (by rw [cl_length, toL_length]; omega))) fun W74 v74 i74 e74 h74 => ?_
          obtain ⟨p74, m74, c74, rfl, s74⟩ := h74.sl
          refine O.as rfl <| O.as rfl <| JO.nil <| J.ret2 rfl (.tmp rfl) (.tmp rfl) fun W' iE iP => ?_
          refine ⟨_, _, rfl, _, s74.to.v, ?_, fun _ => ⟨up k w, ?_, ?_, ?_⟩, fun e => nomatch e⟩
          · rw [cat2, List.length_append, cl_length, cl_length, toL_length, toL_length]; omega
          · rw [sq_up hw, hva]
          · rw [cat2, show ((0 : Int) : Rat) = 0 from rfl, rat_zero, ← cl_append]; rfl
          · exact (hwS.cat).mono (by omega)
        · skip
          have hno := hs2 h68
          obtain ⟨bi, hbi, hbm⟩ := inv_ex hR.1 ht2
          have hbS := hT.2.invS hT.1 hbi
          refine J.skip <| J.seq <| J.reg rfl <| O.mv rfl <| O.mv rfl <| O.call rfl (tower_Inv_ok s43.to s49.to hT.1 hT.2 (by omega) (by omega) (by omega)) fun W78 v78 i78 e78 h78 => ?_
          obtain ⟨v79, e15, rfl, h79⟩ := h78
          rw [hbi] at h79
          obtain ⟨rfl, h79⟩ := h79
          obtain ⟨p79, m79, c79, rfl, s79⟩ := h79.sl
          refine O.mv rfl <| O.ext rfl rfl <| O.ext rfl rfl <| O.as rfl <| O.as rfl <| JO.nil <| J.seq <| J.seq <| J.reg rfl <| O.mv rfl <| O.ne rfl rfl <| JO.nil <| J.condF rfl <| J.skip <| J.seq <| J.reg rfl <| O.mv rfl <| O.mv rfl <| O.mv rfl <| O.mv rfl <| ?_
          refine O.call rfl (tower_Mul_ok s43.to s54.to s79.to hT.1 hx hbS (by omega) (by omega) (by omega)) fun W88 v88 i88 e88 h88 => ?_
          obtain ⟨p88, m88, c88, rfl, s88⟩ := h88.sl
          refine O.call rfl (ih s43.to s88.to hT.1 (hx.mul hT.1 hbS) hR.1 (by omega) (by omega) hr) fun W89 v89 i89 e89 h89 => ?_
          obtain ⟨v90, b17, rfl, l16, h90, hl16, hs3, hs4⟩ := h89
          obtain ⟨p90, m90, c90, rfl, s90⟩ := h90.sl
          refine O.mv rfl <| O.ext rfl rfl <| O.ext rfl rfl <| O.as rfl <| O.as rfl <| JO.nil <| J.seq <| J.reg rfl <| O.mv rfl <| O.call rfl (rational_FromInt_ok (z := 0) (by decide)) fun W93 v93 i93 e93 h93 => ?_
          refine O.call rfl (tower_FromRat_ok s43.to h93.to hT.1 Qs.zero0 (by omega) (by omega)) fun W94 v94 i94 e94 h94 => ?_
          obtain ⟨p94, m94, c94, rfl, s94⟩ := h94.sl
          refine O.mv rfl <| O.bs (r := RE) [cl (toL k (rat k ((0 : Int) : Rat))), l16] rfl ⟨s94.to.v, s90.to.v, trivial⟩ rfl rfl rfl (by decide) (.inr rfl) (by decide) fun W96 p96 i96 e96 s96 => ?_
          refine O.call rfl (slices_Concat_ok s96.to (cat_le (by rw [cl_length, toL_length]; omega) (by omega))) fun W97 v97 i97 e97 h97 => ?_
          obtain ⟨p97, m97, c97, rfl, s97⟩ := h97.sl
          refine O.mv rfl <| O.as rfl <| O.as rfl <| JO.nil <| J.ret2 rfl (.tmp rfl) (.tmp rfl) fun W' iE iP => ?_
          refine ⟨_, _, rfl, _, s97.to.v, ?_, fun e => ?_, fun e => ?_⟩
          · rw [cat2, List.length_append, cl_length, toL_length]; omega
          · obtain ⟨w, hw, rfl, hwS⟩ := hs3 e
            refine ⟨(zero k, w), ?_, ?_, (hwS.cat').mono (by omega)⟩
            · rw [sq_low hbm hw, hva]
            · rw [cat2, show ((0 : Int) : Rat) = 0 from rfl, rat_zero, ← cl_append]; rfl
          · have := sq_low_no hR.1 hbm hno (hs4 e)
            rw [hva] at this; exact this
      · skip
        have hv0 : a.2 ≠ zero k := fun e => h61 ((eq_zero_iff k a.2).1 e)
        refine J.skip <| J.seq <| J.reg rfl <| O.mv rfl <| O.mv rfl <| O.mv rfl <| ?_
        refine O.call rfl (tower_Norm_ok h.to h'.to hT ha (by omega) (by omega) (by omega)) fun W103 v103 i103 e103 h103 => ?_
        obtain ⟨p103, m103, c103, rfl, s103⟩ := h103.sl
        refine O.call rfl (ih s43.to s103.to hT.1 (ha.normS hT) hR.1 (by omega) (by omega) hr) fun W104 v104 i104 e104 h104 => ?_
        obtain ⟨v105, b19, rfl, l18, h105, hl18, hs1, hs2⟩ := h104
        obtain ⟨p105, m105, c105, rfl, s105⟩ := h105.sl
        refine O.mv rfl <| O.ext rfl rfl <| O.ext rfl rfl <| O.as rfl <| O.as rfl <| JO.nil <| J.seq <| J.seq <| J.reg rfl <| O.mv rfl <| O.not rfl <| JO.nil <| J.cond rfl (fun h108 => ?_) (fun h108 => ?_)
        · skip
          refine J.seq <| J.reg rfl <| O.as rfl <| O.as rfl <| JO.nil <| J.ret2 rfl (.tmp rfl) (.tmp rfl) fun W' iE iP => ?_
          refine ⟨_, _, rfl, [], (nil_sl _ _ _).v, Nat.zero_le _, fun e => (nomatch e), fun _ e => ?_⟩
          exact hs2 (by simpa using h108) (sq_norm e)
        · skip
          obtain ⟨mm, hmm, rfl, hmS⟩ := hs1 (by simpa using h108)
          rw [← hN] at hmS
          have hS1 : Sz (s + N + 1) (toL k (add k a.1 mm)) := by rw [toL_add]; exact hx.add hmS
          have hS2 : Sz (s + N + 1) (toL k (add k a.1 (neg k mm))) := by rw [toL_add, toL_neg]; exact hx.add hmS.neg
          refine J.skip <| J.seq <| J.seq <| J.reg rfl <| O.mv rfl <| O.mv rfl <| O.mv rfl <| ?_
          refine O.call rfl (tower_Add_ok s43.to s54.to s105.to hT.1 hx hmS (by omega) (by omega) (by omega)) fun W112 v112 i112 e112 h112 => ?_
          obtain ⟨p112, m112, c112, rfl, s112⟩ := h112.sl
          refine O.mv rfl <| O.mv rfl <| O.mv rfl <| ?_
          refine O.call rfl (tower_Sub_ok s43.to s54.to s105.to hT.1 hx hmS (by omega) (by omega) (by omega)) fun W116 v116 i116 e116 h116 => ?_
          obtain ⟨p116, m116, c116, rfl, s116⟩ := h116.sl
          obtain ⟨cand, hcd0, hcd1⟩ : ∃ cand : Nat → El k, cand 0 = add k a.1 mm ∧ cand 1 = add k a.1 (neg k mm) := ⟨fun i => if i = 0 then add k a.1 mm else add k a.1 (neg k mm), rfl, rfl⟩
          rw [← hcd0] at s112 hS1
          rw [← hcd1] at s116 hS2
          refine O.bs (r := RE) [cl (toL k (cand 0)), cl (toL k (cand 1))] rfl ⟨s112.to.v, s116.to.v, trivial⟩ rfl rfl rfl (by decide) (.inr rfl) (by decide) fun W117 p117 i117 e117 s117 => O.len rfl <| O.mv rfl <| JO.nil <| J.block <| ?_
          refine J.loop (α := Nat) (fun i => [(8, .slice (some ⟨b48, o48, none⟩) k c), (11, .slice (if d = 2 ^ k then q else q.map (·.add (2 ^ k * RQ.size))) (m - 2 ^ k) (d - 2 ^ k)), (117, .slice p117 2 2), (118, .int .i64 2), (119, .int .i64 (i : Int))]) (fun i W' => Le W0 W' ∧ Sl RE W' p117 2 2 [cl (toL k (cand 0)), cl (toL k (cand 1))] ∧ i ≤ 2 ∧ ∀ j, j < i → ∀ x, x ≠ zero k → mul k t.1 x x ≠ mul k t.1 (rat k (1 / 2)) (cand j)) (fun i => 2 - i) 0 ⟨rfl, rfl, rfl, rfl, rfl, trivial⟩ ⟨inferInstance, s117.to, Nat.zero_le _, fun j hj => absurd hj (Nat.not_lt_zero _)⟩ ?_
          rintro i W3 ⟨_, s117, hi, hno⟩
          refine J.seq <| J.reg rfl <| O.lt rfl rfl <| JO.nil <| J.seq <| J.condD rfl (fun h120 => ?_) (fun h120 => ?_)
          · skip
            have hci : [cl (toL k (cand 0)), cl (toL k (cand 1))][i]? = some (cl (toL k (cand i))) := by
              rcases (show i = 0 ∨ i = 1 by omega) with rfl | rfl <;> rfl
            have hcS : Sz (s + N + 1) (toL k (cand i)) := by
              rcases (show i = 0 ∨ i = 1 by omega) with rfl | rfl
              · exact hS1
              · exact hS2
            have hhS := hcS.mul hT.1 (Sz.half (k := k))
            refine J.skip <| J.seq <| J.block <| J.seq <| J.reg rfl <| O.iaT (j := i) rfl rfl rfl s117.to hci rfl fun b121 o121 hb121 => ?_
            refine O.ldTs rfl hb121.to.h fun p122 m122 c122 s122 => ?_
            have h122 := s122.v
            refine O.as rfl <| JO.nil <| J.seq <| J.reg rfl <| O.mv rfl <| O.mv rfl <| O.mv rfl <| ?_
            refine O.call rfl (root_half_ok s43.to s122.to hT.1 hcS (by omega) (by omega) (by omega)) fun W127 v127 i127 e127 h127 => ?_
            obtain ⟨p127, m127, c127, rfl, s127⟩ := h127.sl
            refine O.call rfl (ih s43.to s127.to hT.1 hhS hR.1 (by omega) (by omega) hr) fun W128 v128 i128 e128 h128 => ?_
            obtain ⟨v129, b23, rfl, l22, h129, hl22, hs3, hs4⟩ := h128
            obtain ⟨p129, m129, c129, rfl, s129⟩ := h129.sl
            refine O.mv rfl <| O.ext rfl rfl <| O.ext rfl rfl <| O.as rfl <| O.as rfl <| JO.nil <| J.seq <| J.seq <| ?_
            cases b23
            · skip
              refine J.reg rfl <| O.mv rfl <| O.not rfl <| O.mv rfl <| O.gs rfl rfl rfl <| O.gs rfl rfl rfl <| O.pickT rfl rfl <| JO.nil <| J.condT rfl <| J.exit rfl <| J.reg rfl <| O.add rfl rfl (wI (by omega)) <| O.mv rfl <| JO.nil <| ?_
              exact J.at' (i + 1) ⟨rfl, rfl, rfl, rfl, rfl, trivial⟩ ⟨⟨inferInstance, s117.to, by omega, fun j hj x hx0 e => by
                by_cases hji : j = i
                · subst hji
                  exact hs4 rfl ⟨x, by rw [e, L.mc]⟩
                · exact hno j (by omega) x hx0 e⟩, by omega⟩
            · skip
              obtain ⟨w, hw, rfl, hwS⟩ := hs3 rfl
              rw [L.mc (cand i)] at hw
              have hwB : Sz B (toL k w) := hwS.mono b3
              refine J.reg rfl <| O.mv rfl <| O.not rfl <| O.mv rfl <| O.gt rfl rfl <| O.mv rfl <| O.gt rfl rfl <| ?_
              refine O.call rfl (tower_Zero_ok s129.to) fun W135 v135 i135 e135 h135 => ?_
              subst h135
              refine O.pickF rfl rfl <| JO.nil <| J.condD rfl (fun h136 => ?_) (fun h136 => ?_)
              · skip
                refine J.exit rfl <| J.reg rfl <| O.add rfl rfl (wI (by omega)) <| O.mv rfl <| JO.nil <| ?_
                exact J.at' (i + 1) ⟨rfl, rfl, rfl, rfl, rfl, trivial⟩ ⟨⟨inferInstance, s117.to, by omega, fun j hj x hx0 e => by
                  by_cases hji : j = i
                  · subst hji
                    rw [← hw, (eq_zero_iff k w).2 h136, L.mz] at e
                    rcases red_mul0 hR.1 e with e | e <;> exact hx0 e
                  · exact hno j (by omega) x hx0 e⟩, by omega⟩
              · skip
                have hw0 : w ≠ zero k := fun e => h136 ((eq_zero_iff k w).1 e)
                have hww : Sz (2 * B + 1) (toL k (add k w w)) := by rw [toL_add]; exact (hwB.add hwB).mono (by omega)
                have hwd : Sz (B + 1) (toL k (add k w w)) := by rw [toL_add]; exact hwB.dbl
                obtain ⟨bj, hbj, hbjm⟩ := inv_ex hR.1 (show add k w w ≠ zero k from fun e => hw0 (dbl0 hR.1 e))
                have hbjS := hwd.invS hT.1 hbj
                obtain ⟨mi, hmi, hcm⟩ : ∃ mi, mul k t.1 mi mi = Tow.norm k t (a.1, a.2) ∧ cand i = add k a.1 mi := by
                  rcases (show i = 0 ∨ i = 1 by omega) with rfl | rfl
                  · exact ⟨mm, hmm, hcd0⟩
                  · exact ⟨neg k mm, by rw [L.mn, L.nm, L.nn]; exact hmm, hcd1⟩
                rw [hcm] at hw
                refine J.skip <| J.seq <| J.reg rfl <| O.mv rfl <| O.mv rfl <| O.mv rfl <| O.mv rfl <| ?_
                refine O.call rfl (tower_Add_ok s43.to s129.to s129.to hT.1 hwB hwB (by omega) (by omega) (by omega)) fun W142 v142 i142 e142 h142 => ?_
                obtain ⟨p142, m142, c142, rfl, s142⟩ := h142.sl
                refine O.call rfl (tower_Inv_ok s43.to s142.to hT.1 hww (by omega) (by omega) (by omega)) fun W143 v143 i143 e143 h143 => ?_
                obtain ⟨v144, e25, rfl, h144⟩ := h143
                rw [hbj] at h144
                obtain ⟨rfl, h144⟩ := h144
                obtain ⟨p144, m144, c144, rfl, s144⟩ := h144.sl
                refine O.mv rfl <| O.ext rfl rfl <| O.ext rfl rfl <| O.as rfl <| O.as rfl <| JO.nil <| J.seq <| J.reg rfl <| O.mv rfl <| O.mv rfl <| O.mv rfl <| O.mv rfl <| ?_
                refine O.call rfl (tower_Mul_ok s43.to s59.to s144.to hT.1 hy hbjS (by omega) (by omega) (by omega)) fun W150 v150 i150 e150 h150 => ?_
                obtain ⟨p150, m150, c150, rfl, s150⟩ := h150.sl
                refine O.bs (r := RE) [cl (toL k w), cl (toL k (mul k t.1 a.2 bj))] rfl ⟨s129.to.v, s150.to.v, trivial⟩ rfl rfl rfl (by decide) (.inr rfl) (by decide) fun W151 p151 i151 e151 s151 => ?_
                refine O.call rfl (slices_Concat_ok s151.to (cat_le (by rw [cl_length, toL_length]; omega) (by rw [cl_length, toL_length]; omega))) fun W152 v152 i152 e152 h152 => ?_
                obtain ⟨p152, m152, c152, rfl, s152⟩ := h152.sl
                refine O.as rfl <| O.as rfl <| JO.nil <| J.ret2 rfl (.tmp rfl) (.tmp rfl) fun W' iE iP => ?_
                refine ⟨_, _, rfl, _, s152.to.v, ?_, fun _ => ⟨(w, mul k t.1 a.2 bj), sq_hi hmi hw hbjm, ?_, ?_⟩, fun e => (nomatch e)⟩
                · rw [cat2, List.length_append, cl_length, cl_length, toL_length, toL_length]; omega
                · rw [cat2, ← cl_append]; rfl
                · exact (hwB.append (hy.mul hT.1 hbjS)).mono (by omega)
          · skip
            refine J.exit rfl <| J.seq <| J.reg rfl <| O.as rfl <| O.as rfl <| JO.nil <| J.ret2 rfl (.tmp rfl) (.tmp rfl) fun W' iE iP => ?_
            refine ⟨_, _, rfl, [], (nil_sl _ _ _).v, Nat.zero_le _, fun e => (nomatch e), fun _ e => ?_⟩
            obtain ⟨x, hx0, hx⟩ := sq_hi_no hR.1 hv0 hmm e
            rw [← hcd0, ← hcd1] at hx
            rcases hx with hx | hx
            · exact hno 0 (by omega) x hx0 hx
            · exact hno 1 (by omega) x hx0 hx
end
section
theorem qB_le (r s : Nat) : ∀ {i k : Nat}, i ≤ k → qB r i s ≤ qB r k s := by
  intro i k h
  induction h with
  | refl => exact Nat.le_refl _
  | step h ih =>
    rename_i m
    refine Nat.le_trans ih (Nat.le_trans (qB_mono (Nat.le_refl r) (nS_ge r m s)) ?_)
    show qB r m (nS r m s) ≤ s + qB r m (nS r m s) + _ + _ + _ + _ + _ + _ + _
    omega
theorem low_exR : ∀ {k : Nat} (w : Tw k) {i : Nat}, i ≤ k → ∃ w' : Tw i, (toT k w).take i = toT i w' ∧ (red k w → red i w')
  | 0, w, i, hi => by
    have : i = 0 := by omega
    subst this
    exact ⟨w, rfl, fun h => h⟩
  | k + 1, w, i, hi => by
    by_cases hik : i = k + 1
    · subst hik
      exact ⟨w, List.take_of_length_le (by rw [toT_length]; exact Nat.le_refl _), fun h => h⟩
    · obtain ⟨w', h1, h3⟩ := low_exR w.1 (i := i) (by omega)
      refine ⟨w', ?_, fun h => h3 h.1⟩
      rw [show toT (k + 1) w = toT k w.1 ++ [toL k w.2] from rfl, List.take_append_of_le_length (by rw [toT_length]; omega), h1]
/-- a reduced tower, as it lies in memory -/
def redR (t : List (List Raw)) : Prop := ∃ (k : Nat) (w : Tw k), t = ct (toT k w) ∧ red k w
theorem redR_ct {k : Nat} {w : Tw k} : redR (ct (toT k w)) ↔ red k w := by
  refine ⟨fun ⟨j, v, e, h⟩ => ?_, fun h => ⟨k, w, rfl, h⟩⟩
  have e := ct_inj e
  have hkj : k = j := by rw [← toT_length k w, e, toT_length]
  subst hkj
  rw [toT_inj e]
  exact h
theorem redR_ok {t : List (List Raw)} (h : redR t) : okT t := by
  obtain ⟨k, w, rfl, _⟩ := h
  exact okT_ct w
theorem redR_at {t : List (List Raw)} (h : redR t) {i : Nat} {v : Tw i} {a : El i} (h1 : t.take i = ct (toT i v)) (h2 : t[i]? = some (cl (toL i a))) : sgn i v a = 1 ∧ ¬ isSq i v a := by
  obtain ⟨k, w, rfl, hw⟩ := h
  have hik : i < k := by
    have := (List.getElem?_eq_some_iff.1 h2).1
    rwa [ct_length] at this
  obtain ⟨w', g1, g2⟩ := low_exR w (i := i + 1) hik
  have g1' : (toT k w).take (i + 1) = toT i w'.1 ++ [toL i w'.2] := g1
  have g3 : (toT k w).take i = toT i w'.1 := by
    have := congrArg (List.take i) g1'
    rwa [List.take_take, List.take_left' (toT_length i w'.1), Nat.min_eq_left (by omega)] at this
  have g4 : (toT k w)[i]? = some (toL i w'.2) := by
    have : ((toT k w).take (i + 1))[i]? = (toT i w'.1 ++ [toL i w'.2])[i]? := by rw [g1']
    rwa [List.getElem?_take, if_pos (by omega), List.getElem?_append_right (by rw [toT_length]; exact Nat.le_refl _), toT_length, Nat.sub_self] at this
  have hr := g2 hw
  have ev : v = w'.1 := by
    rw [ct, ← List.map_take, g3] at h1
    exact (toT_inj (ct_inj h1)).symm
  have ea : a = w'.2 := by
    rw [ct_get g4] at h2
    injection h2 with h2
    exact (toL_inj (cl_inj h2)).symm
  rw [ev, ea]
  exact hr.2
theorem take_snocT {t : List (List Raw)} {i : Nat} {v : Tw i} {a : El i} (h1 : t.take i = ct (toT i v)) (h2 : t[i]? = some (cl (toL i a))) : t.take (i + 1) = ct (toT (i + 1) (tsn v a)) := by
  rw [List.take_add_one, h1, h2]
  show _ = (toT i v ++ [toL i a]).map cl
  rw [List.map_append]; rfl
/-- the numbers of each list are at most so long -/
def SZT (r : Nat) (t : List (List Raw)) : Prop := ∀ l ∈ t, SZR r l
theorem SZT.ts {r : Nat} : ∀ {i : Nat} {t : List (List Raw)} {v : Tw i}, SZT r t → t.take i = ct (toT i v) → TS r i v
  | 0, _, _, _, _ => trivial
  | i + 1, t, v, h, e => by
    have e' : t.take (i + 1) = ct (toT i v.1) ++ [cl (toL i v.2)] := by rw [e, ct_succ]
    have e1 : t.take i = ct (toT i v.1) := by
      have := congrArg (List.take i) e'
      rwa [List.take_take, List.take_left' (by rw [ct_length]), Nat.min_eq_left (by omega)] at this
    refine ⟨SZT.ts h e1, h (cl (toL i v.2)) ?_ _ rfl⟩
    exact List.mem_of_mem_take (i := i + 1) (by rw [e']; simp)
theorem TSR_ct {r k : Nat} {t : Tw k} (h : TS r k t) : TSR r (ct (toT k t)) := fun j w e => by
  have e := ct_inj e
  obtain rfl : k = j := by rw [← toT_length k t, e, toT_length]
  rw [← toT_inj e]; exact h
theorem SZR_cl {s : Nat} {xs : List Rat} (h : Sz s xs) : SZR s (cl xs) := fun ys e => by rw [← cl_inj e]; exact h
/-- what positive returns -/
def PosE (s k : Nat) (t : Tw k) (a : El k) (W : GW) (v : Value) (b : Bool) : Prop :=
  ∃ l : List Raw, V RE W v l ∧ (b = true → ∃ w, mul k t w w = a ∧ 0 ≤ sgn k t w ∧ l = cl (toL k w) ∧ Sz s (toL k w)) ∧ (b = false → ¬ isSq k t a ∧ l = [])
theorem root_positive_ok {k : Nat} {W : GW} {p q : Option Addr} {n c m d r s : Nat} {t : Tw k} {a : El k} (h : Sl RE W p n c (ct (toT k t))) (h' : Sl RQ W q m d (cl (toL k a))) (hT : TS r k t) (ha : Sz s (toL k a)) (hR : red k t) (hk : k ≤ 8) (hq : qB r k s ≤ 4398046511104) (hr : r ≤ 4398046511104)
    (hv : vB r k r ≤ 8796093022208) (hv' : vB r k (sB r k s) ≤ 8796093022208) :
    Ok Tryz.prog 39 [.slice p n c, .slice q m d] W fun W' v => ∃ v1 b, v = .tuple #[v1, .bool b] ∧ PosE (sB r k s) k t a W' v1 b := by
  have hn : n = k := by rw [h.hn, ct_length]
  have hsb : sB r k s ≤ 8796093022208 := Nat.le_trans (vB_ge k _) hv'
  have S := sgn_ok (red_real hR)
  refine Ok.enter Tryz.func39 rfl rfl rfl rfl fun W0 iEn => ?_
  refine J.seq <| J.reg rfl <| O.as rfl <| O.as rfl <| JO.nil <| J.seq <| J.reg rfl <| O.mv rfl <| O.mv rfl <| O.call rfl (root_square_ok h.to h'.to hT ha hR hk hq hr) fun W11 v11 i11 e11 h11 => ?_
  obtain ⟨v12, b7, rfl, l6, h12, hl6, hs1, hs2⟩ := h11
  obtain ⟨p12, m12, c12, rfl, s12⟩ := h12.sl
  refine O.mv rfl <| O.ext rfl rfl <| O.ext rfl rfl <| O.as rfl <| O.as rfl <| JO.nil <| J.seq <| J.seq <| J.reg rfl <| O.mv rfl <| O.not rfl <| JO.nil <| J.cond rfl (fun h15 => ?_) (fun h15 => ?_)
  · skip
    refine J.seq <| J.reg rfl <| O.as rfl <| O.as rfl <| JO.nil <| J.ret2 rfl (.tmp rfl) (.tmp rfl) fun W' iE iP => ?_
    exact ⟨_, _, rfl, [], (nil_sl _ _ _).v, fun e => (nomatch e), fun _ => ⟨hs2 (by simpa using h15), rfl⟩⟩
  · skip
    obtain ⟨w, hw, rfl, hwS⟩ := hs1 (by simpa using h15)
    refine J.skip <| J.seq <| J.seq <| J.reg rfl <| O.mv rfl <| O.mv rfl <| ?_
    refine O.call rfl (sign_Sign_ok (r := r) (s := sB r k s) (SgnIs.ct (a := w) (red_real hR)) h.to s12.to (small_ct hT (by omega)) (small_cl hwS.qs' (by omega)) (by omega) (TSR_ct hT) (SZR_cl hwS) (by rw [hn]; exact hv) (by rw [hn]; exact hv')) fun W18 v18 i18 e18 h18 => ?_
    subst h18
    refine O.lt rfl rfl <| JO.nil <| J.condD rfl (fun h19 => ?_) (fun h19 => ?_)
    · skip
      refine J.reg rfl <| O.mv rfl <| O.mv rfl <| ?_
      refine O.call rfl (tower_Neg_ok h.to s12.to hT hwS (by omega) (by omega) (by omega)) fun W22 v22 i22 e22 h22 => ?_
      obtain ⟨p22, m22, c22, rfl, s22⟩ := h22.sl
      refine O.as rfl <| JO.nil <| J.seq <| J.reg rfl <| O.mv rfl <| O.as rfl <| O.as rfl <| JO.nil <| J.ret2 rfl (.tmp rfl) (.tmp rfl) fun W' iE iP => ?_
      refine ⟨_, _, rfl, _, h22.to, fun _ => ⟨neg k w, ?_, ?_, rfl, ?_⟩, fun e => (nomatch e)⟩
      · have L := ring k t
        rw [L.mn, L.nm, L.nn, hw]
      · rw [S.sn]; omega
      · rw [toL_neg]; exact hwS.neg
    · skip
      refine J.skip <| J.seq <| J.reg rfl <| O.mv rfl <| O.as rfl <| O.as rfl <| JO.nil <| J.ret2 rfl (.tmp rfl) (.tmp rfl) fun W' iE iP => ?_
      exact ⟨_, _, rfl, _, s12.to.v, fun _ => ⟨w, hw, by omega, rfl, hwS⟩, fun e => (nomatch e)⟩
end
section
section
variable {W : GW} {p : Option Addr} {n c r : Nat} {t : List (List Raw)}
theorem root_Reduced_ok {N : Nat} (h : Sl RE W p n c t) (hl : ∀ r ∈ t, ∀ i ∈ r, smallR i) (hn8 : n ≤ 8) (hN : n ≤ N + 1) (hS : SZT r t) (hq : qB r N r ≤ 4398046511104) (hv : vB r N r ≤ 8796093022208) :
    Ok Tryz.prog 22 [.slice p n c] W fun _ v => ∃ b, v = .bool b ∧ (b = true ↔ redR t) := by
  have hn := h.hn
  have hcc := h.hc
  have hCC := h.hC
  have hr := Nat.le_trans (qB_ge N r) hq
  refine Ok.enter Tryz.func22 rfl rfl rfl rfl fun W0 iEn => ?_
  refine J.seq <| J.reg rfl <| O.as rfl <| JO.nil <| J.seq <| J.seq <| J.reg rfl <| O.mv rfl <| O.len rfl <| O.mv rfl <| JO.nil <| J.block <| ?_
  refine J.loop (α := Nat) (fun i => [(0, .slice p n c), (7, .slice p n c), (8, .int .i64 (n : Int)), (9, .int .i64 (i : Int))]) (fun i W' => Le W0 W' ∧ i ≤ n ∧ ∃ v : Tw i, t.take i = ct (toT i v) ∧ red i v) (fun i => n - i) 0 ⟨rfl, rfl, rfl, rfl, trivial⟩ ⟨inferInstance, Nat.zero_le _, (), rfl, trivial⟩ ?_
  rintro i W3 ⟨_, hi, v, hv1, hvr⟩
  refine J.seq <| J.reg rfl <| O.lt rfl rfl <| JO.nil <| J.seq <| J.condD rfl (fun h10 => ?_) (fun h10 => ?_)
  · skip
    obtain ⟨u, hu⟩ : ∃ u, t[i]? = some u := ⟨_, List.getElem?_eq_getElem (by omega)⟩
    have hul := hl u (List.mem_of_getElem? hu)
    have hTv := SZT.ts hS hv1
    have s16 := h.take i (by omega)
    rw [hv1] at s16
    have s23 := s16
    have s31 := s16
    refine J.skip <| J.seq <| J.block <| J.seq <| J.reg rfl <| O.mv rfl <| O.iaT (j := i) rfl rfl rfl h.to hu rfl fun b12 o12 hb12 => ?_
    refine O.ldTs rfl hb12.to.h fun p13 m13 c13 s13 => ?_
    have h13 := s13.v
    refine O.as rfl <| O.as rfl <| JO.nil <| J.seq <| J.seq <| J.reg rfl <| O.mv rfl <| O.mv rfl <| O.slh (hi := i) rfl rfl rfl (by omega) <| O.mv rfl <| O.call rfl (tower_Formed_ok s16.to s13.to (small_ct hTv (by omega)) hul (by rw [ct_length]; omega)) fun W18 v18 i18 e18 h18 => ?_
    obtain ⟨bf, rfl, hbf⟩ := h18
    rw [ct_length] at hbf
    refine O.not rfl <| O.mv rfl <| ?_
    by_cases hg20 : bf = false
    · skip
      refine O.set (t := 20) (.bool true) rfl (by simp [hg20]) <| O.gs rfl rfl rfl <| O.gs rfl rfl rfl <| O.gs rfl rfl rfl <| O.gs rfl rfl rfl <| O.gs rfl rfl rfl <| O.gs rfl rfl rfl <| O.pickT rfl rfl <| JO.nil <| J.condT rfl <| J.seq <| J.reg rfl <| O.as rfl <| JO.nil <| J.ret1 rfl (.tmp rfl) fun W' iE iP => ?_
      refine ⟨false, rfl, fun e => (nomatch e), fun e => ?_⟩
      rw [hbf.2 ⟨okT_ct v, redR_ok e i u hu⟩] at hg20; cases hg20
    · skip
      obtain ⟨a, rfl⟩ := okE_typed (k := i) (l := u) (hbf.1 (by simpa using hg20)).2
      have haS := hS _ (List.mem_of_getElem? hu) _ rfl
      refine O.set (t := 20) (.bool false) rfl (by simp at hg20; simp [hg20]) <| O.gt rfl rfl <| O.mv rfl <| O.gt rfl rfl <| O.mv rfl <| O.gt rfl rfl <| O.slh (hi := i) rfl rfl rfl (by omega) <| O.gt rfl rfl <| O.mv rfl <| O.gt rfl rfl <| ?_
      refine O.call rfl (sign_Sign_ok (r := r) (s := r) (SgnIs.ct (a := a) (red_real hvr)) s23.to s13.to (small_ct hTv (by omega)) hul (by omega) (TSR_ct hTv) (SZR_cl haS) (Nat.le_trans (vB_le r r (by omega)) hv) (Nat.le_trans (vB_le r r (by omega)) hv)) fun W25 v25 i25 e25 h25 => ?_
      subst h25
      refine O.gt rfl rfl <| O.ne rfl rfl <| O.pickF rfl rfl <| JO.nil <| J.condD rfl (fun h27 => ?_) (fun h27 => ?_)
      · skip
        refine J.seq <| J.reg rfl <| O.as rfl <| JO.nil <| J.ret1 rfl (.tmp rfl) fun W' iE iP => ?_
        exact ⟨false, rfl, fun e => (nomatch e), fun e => absurd (redR_at e hv1 hu).1 h27⟩
      · skip
        refine J.skip <| J.seq <| J.reg rfl <| O.mv rfl <| O.mv rfl <| O.slh (hi := i) rfl rfl rfl (by omega) <| O.mv rfl <| O.call rfl (root_square_ok s31.to s13.to hTv haS hvr (by omega) (Nat.le_trans (qB_le r r (by omega)) hq) (by omega)) fun W33 v33 i33 e33 h33 => ?_
        obtain ⟨v34, b6, rfl, l5, h34, hl5, hs1, hs2⟩ := h33
        refine O.mv rfl <| O.ext rfl rfl <| O.ext rfl rfl <| O.as rfl <| O.as rfl <| JO.nil <| J.seq <| J.reg rfl <| O.mv rfl <| JO.nil <| J.cond rfl (fun h36 => ?_) (fun h36 => ?_)
        · skip
          refine J.seq <| J.reg rfl <| O.as rfl <| JO.nil <| J.ret1 rfl (.tmp rfl) fun W' iE iP => ?_
          refine ⟨false, rfl, fun e => (nomatch e), fun e => ?_⟩
          obtain ⟨w, hw, _⟩ := hs1 h36
          exact absurd ⟨w, hw⟩ (redR_at e hv1 hu).2
        · skip
          refine J.skip <| J.bend <| J.reg rfl <| O.add rfl rfl (wI (by omega)) <| O.mv rfl <| JO.nil <| ?_
          exact J.at' (i + 1) ⟨rfl, rfl, rfl, rfl, trivial⟩ ⟨⟨inferInstance, by omega, tsn v a, take_snocT hv1 hu, hvr, Classical.byContradiction h27, hs2 h36⟩, by omega⟩
  · skip
    refine J.exit rfl <| J.seq <| J.reg rfl <| O.as rfl <| JO.nil <| J.ret1 rfl (.tmp rfl) fun W' iE iP => ?_
    refine ⟨true, rfl, fun _ => ?_, fun _ => rfl⟩
    have hin : i = n := by omega
    rw [List.take_of_length_le (by omega)] at hv1
    exact ⟨i, v, hv1, hvr⟩
theorem sB_pos (r k s : Nat) : 1 ≤ sB r k s := by
  cases k with
  | zero => show 1 ≤ s / 2 + 1; omega
  | succ k => show 1 ≤ _ + 4; omega
/-- what Square returns -/
def SqIs (t : List (List Raw)) (l : List Raw) (b : Bool) (out : List Raw) : Prop :=
  (∃ (k : Nat) (w : Tw k) (a x : El k), t = ct (toT k w) ∧ l = cl (toL k a) ∧ red k w ∧ mul k w x x = a ∧ 0 ≤ sgn k w x ∧ b = true ∧ out = cl (toL k x)) ∨
  ((¬ ∃ (k : Nat) (w : Tw k) (a : El k), t = ct (toT k w) ∧ l = cl (toL k a) ∧ red k w ∧ isSq k w a) ∧ b = false ∧ out = [])
theorem ct_inj2 {k j : Nat} {w : Tw k} {v : Tw j} (h : ct (toT k w) = ct (toT j v)) : k = j := by rw [← toT_length k w, ct_inj h, toT_length]
theorem isSq_nn {k : Nat} {w : Tw k} {a : El k} (h : real k w) (hs : isSq k w a) : ∃ x, mul k w x x = a ∧ 0 ≤ sgn k w x := by
  obtain ⟨x, hx⟩ := hs
  by_cases h0 : 0 ≤ sgn k w x
  · exact ⟨x, hx, h0⟩
  · have L := ring k w
    exact ⟨neg k x, by rw [L.mn, L.nm, L.nn, hx], by rw [(sgn_ok h).sn]; omega⟩
theorem SqIs.ex (t : List (List Raw)) (l : List Raw) : ∃ b out, SqIs t l b out := by
  by_cases h : ∃ (k : Nat) (w : Tw k) (a : El k), t = ct (toT k w) ∧ l = cl (toL k a) ∧ red k w ∧ isSq k w a
  · obtain ⟨k, w, a, h1, h2, h3, h4⟩ := h
    obtain ⟨x, h5, h6⟩ := isSq_nn (red_real h3) h4
    exact ⟨true, _, .inl ⟨k, w, a, x, h1, h2, h3, h5, h6, rfl, rfl⟩⟩
  · exact ⟨false, [], .inr ⟨h, rfl, rfl⟩⟩
theorem SqIs.uniq {t : List (List Raw)} {l : List Raw} {b b' : Bool} {out out' : List Raw} (h : SqIs t l b out) (h' : SqIs t l b' out') : b = b' ∧ out = out' := by
  rcases h with ⟨k, w, a, x, rfl, rfl, h3, h4, h5, rfl, rfl⟩ | ⟨h1, rfl, rfl⟩
  · rcases h' with ⟨j, w', a', x', e1, e2, h3', h4', h5', rfl, rfl⟩ | ⟨h1', _, _⟩
    · obtain rfl := ct_inj2 e1
      obtain rfl := toT_inj (ct_inj e1)
      obtain rfl := toL_inj (cl_inj e2)
      rw [sq_pos h3 (h4.trans h4'.symm) h5 h5']
      exact ⟨rfl, rfl⟩
    · exact absurd ⟨k, w, a, rfl, rfl, h3, x, h4⟩ h1'
  · rcases h' with ⟨j, w', a', x', e1, e2, h3', h4', h5', rfl, rfl⟩ | ⟨h1', rfl, rfl⟩
    · exact absurd ⟨j, w', a', e1, e2, h3', x', h4'⟩ h1
    · exact ⟨rfl, rfl⟩
theorem okT_redR {t : List (List Raw)} {l : List Raw} (h1 : okT t) (h2 : okE (2 ^ t.length) l) (h3 : redR t) : ∃ (k : Nat) (w : Tw k) (a : El k), t = ct (toT k w) ∧ l = cl (toL k a) ∧ red k w := by
  obtain ⟨k, w, rfl, hw⟩ := h3
  rw [ct_length] at h2
  obtain ⟨a, rfl⟩ := okE_typed h2
  exact ⟨k, w, a, rfl, rfl, hw⟩
theorem root_Square_ok {q : Option Addr} {m d s : Nat} {l out : List Raw} {b : Bool} (hz : SqIs t l b out) (h : Sl RE W p n c t) (h' : Sl RQ W q m d l) (hl : ∀ r ∈ t, ∀ i ∈ r, smallR i) (hl' : ∀ i ∈ l, smallR i) (hn8 : n ≤ 8) (hS : SZT r t) (hS' : SZR s l)
    (hq : qB r n r ≤ 4398046511104) (hv : vB r n r ≤ 8796093022208) (hq' : qB r n s ≤ 4398046511104) (hv' : vB r n (sB r n s) ≤ 8796093022208) :
    Ok Tryz.prog 13 [.slice p n c, .slice q m d] W fun W' v => ∃ v1, v = .tuple #[v1, .bool b] ∧ V RE W' v1 out ∧ SZR (sB r n s) out := by
  have hn := h.hn
  have hr := Nat.le_trans (qB_ge n r) hq
  have fin0 : (¬ ∃ (k : Nat) (w : Tw k) (a : El k), t = ct (toT k w) ∧ l = cl (toL k a) ∧ red k w ∧ isSq k w a) → b = false ∧ out = [] := fun h => hz.uniq (.inr ⟨h, rfl, rfl⟩)
  have nil0 : SZR (sB r n s) [] := fun xs e => by
    obtain rfl : xs = [] := cl_inj (ys := []) e.symm
    exact Sz.nil.mono (sB_pos r n s)
  refine Ok.enter Tryz.func13 rfl rfl rfl rfl fun W0 iEn => ?_
  refine J.seq <| J.reg rfl <| O.as rfl <| O.as rfl <| JO.nil <| J.seq <| J.seq <| J.reg rfl <| O.mv rfl <| O.mv rfl <| O.call rfl (tower_Formed_ok h.to h'.to hl hl' (by omega)) fun W8 v8 i8 e8 h8 => ?_
  obtain ⟨bf, rfl, hbf⟩ := h8
  refine O.not rfl <| O.mv rfl <| ?_
  by_cases hg10 : bf = false
  · skip
    refine O.set (t := 10) (.bool true) rfl (by simp [hg10]) <| O.gs rfl rfl rfl <| O.gs rfl rfl rfl <| O.gs rfl rfl rfl <| O.pickT rfl rfl <| JO.nil <| J.condT rfl <| J.seq <| J.reg rfl <| O.as rfl <| O.as rfl <| JO.nil <| J.ret2 rfl (.tmp rfl) (.tmp rfl) fun W' iE iP => ?_
    obtain ⟨rfl, rfl⟩ := fin0 fun ⟨k, w, a, h1, h2, _, _⟩ => by
      subst h1; subst h2
      have := hbf.2 ⟨okT_ct w, okE_cl (by rw [toL_length, ct_length])⟩
      rw [this] at hg10; cases hg10
    exact ⟨_, rfl, (nil_sl _ _ _).v, nil0⟩
  · skip
    refine O.set (t := 10) (.bool false) rfl (by simp at hg10; simp [hg10]) <| O.gt rfl rfl <| O.mv rfl <| O.gt rfl rfl <| O.call rfl (root_Reduced_ok h.to hl hn8 (Nat.le_succ n) hS hq hv) fun W12 v12 i12 e12 h12 => ?_
    obtain ⟨br, rfl, hbr⟩ := h12
    refine O.gt rfl rfl <| O.not rfl <| O.pickF rfl rfl <| JO.nil <| J.cond rfl (fun h14 => ?_) (fun h14 => ?_)
    · skip
      refine J.seq <| J.reg rfl <| O.as rfl <| O.as rfl <| JO.nil <| J.ret2 rfl (.tmp rfl) (.tmp rfl) fun W' iE iP => ?_
      obtain ⟨rfl, rfl⟩ := fin0 fun ⟨k, w, a, h1, h2, h3, _⟩ => by
        have := hbr.2 ⟨k, w, h1, h3⟩
        rw [this] at h14; cases h14
      exact ⟨_, rfl, (nil_sl _ _ _).v, nil0⟩
    · skip
      obtain ⟨k, w, a, rfl, rfl, hw⟩ := okT_redR (hbf.1 (by simpa using hg10)).1 (hbf.1 (by simpa using hg10)).2 (hbr.1 (by simpa using h14))
      rw [ct_length] at hn
      subst hn
      refine J.skip <| J.seq <| J.reg rfl <| O.mv rfl <| O.mv rfl <| O.call rfl (root_positive_ok h.to h'.to (SZT.ts hS (List.take_of_length_le (by rw [ct_length]; exact Nat.le_refl _))) (hS' _ rfl) hw hn8 hq' (by omega) hv hv') fun W17 v17 i17 e17 h17 => ?_
      obtain ⟨v18, b5, rfl, l4, h18, hs1, hs2⟩ := h17
      refine O.ext rfl rfl <| O.ext rfl rfl <| O.as rfl <| O.as rfl <| JO.nil <| J.ret2 rfl (.tmp rfl) (.tmp rfl) fun W' iE iP => ?_
      cases b5
      · obtain ⟨g1, rfl⟩ := hs2 rfl
        obtain ⟨rfl, rfl⟩ := fin0 fun ⟨j, w', a', e1, e2, _, e4⟩ => by
          obtain rfl := ct_inj2 e1
          obtain rfl := toT_inj (ct_inj e1)
          obtain rfl := toL_inj (cl_inj e2)
          exact g1 e4
        exact ⟨_, rfl, h18.to, nil0⟩
      · obtain ⟨x, g1, g2, rfl, g4⟩ := hs1 rfl
        obtain ⟨rfl, rfl⟩ := hz.uniq (.inl ⟨_, w, a, x, rfl, rfl, hw, g1, g2, rfl, rfl⟩)
        exact ⟨_, rfl, h18.to, SZR_cl g4⟩
end
end
section
theorem set_okG {α : Type} {l ys : List α} {k : Nat} {u : α} (hk : k < l.length) (h : ∀ j, j < k → l[j]? = ys[j]?) (hu : ys[k]? = some u) : ∀ j, j < k + 1 → (l.set k u)[j]? = ys[j]? := by
  intro j hj
  rw [List.getElem?_set]
  by_cases hjk : k = j
  · subst hjk; rw [if_pos rfl, if_pos hk, hu]
  · rw [if_neg hjk]; exact h j (by omega)
theorem fill_endG {α : Type} {l ys : List α} (hl : l.length = ys.length) (h : ∀ j, j < ys.length → l[j]? = ys[j]?) : l = ys := by
  apply List.ext_getElem?
  intro j
  by_cases hj : j < ys.length
  · exact h j hj
  · rw [List.getElem?_eq_none (by omega), List.getElem?_eq_none (by omega)]
theorem re_zero (W : GW) : RE.At W [.slice none 0 0] [] := ⟨none, 0, 0, rfl, nil_sl _ _ _⟩
section
variable {W : GW} {p : Option Addr} {n c r : Nat} {t : List (List Raw)}
theorem root_clone_own (h : Sl RE W p n c t) (hn16 : n ≤ 16) (hl : ∀ l ∈ t, l.length ≤ 65536) :
    Ok Tryz.prog 62 [.slice p n c] W fun W' v => OwnR RE W W' v t := by
  have hn := h.hn
  refine Ok.enter Tryz.func62 rfl rfl rfl rfl fun W0 iEn => ?_
  refine J.seq <| J.reg rfl <| O.as rfl <| JO.nil <| J.seq <| J.reg rfl <| O.mv rfl <| O.len rfl <| O.mk (r := RE) (m := n) (c := n) [] rfl rfl rfl rfl (by omega) (by omega) (by omega) rfl rfl (by decide) re_zero fun W8 b8 i8 e8 hz8 o8 => O.as rfl <| JO.nil <| J.seq <| J.seq <| J.reg rfl <| O.mv rfl <| O.len rfl <| O.mv rfl <| JO.nil <| J.block <| ?_
  refine J.loop (α := Nat × List (List Raw)) (fun g => [(3, .slice (some ⟨b8, 0, none⟩) n n), (9, .slice p n c), (10, .int .i64 (n : Int)), (11, .int .i64 (g.1 : Int))]) (fun g W' => Le W0 W' ∧ Ows RE W' (some ⟨b8, 0, none⟩) n n g.2 ∧ g.1 ≤ n ∧ ∀ j, j < g.1 → g.2[j]? = t[j]?) (fun g => n - g.1) (0, List.replicate n []) ⟨rfl, rfl, rfl, rfl, trivial⟩ ⟨inferInstance, o8, Nat.zero_le _, fun _ h => nomatch h⟩ ?_
  rintro ⟨k, lo⟩ W3 ⟨_, ho, hk, hd⟩
  dsimp only at *
  have hlo := ho.hn
  refine J.seq <| J.reg rfl <| O.lt rfl rfl <| JO.nil <| J.seq <| J.condD rfl (fun h12 => ?_) (fun h12 => ?_)
  · skip
    obtain ⟨u, hu⟩ : ∃ u, t[k]? = some u := ⟨_, List.getElem?_eq_getElem (by omega)⟩
    have hul := hl u (List.mem_of_getElem? hu)
    refine J.skip <| J.seq <| J.block <| J.seq <| J.reg rfl <| O.mv rfl <| O.iaT (j := k) rfl rfl rfl h.to hu rfl fun b14 o14 hb14 => ?_
    refine O.ldTs rfl hb14.to.h fun p15 m15 c15 s15 => ?_
    have h15 := s15.v
    refine O.as rfl <| O.as rfl <| JO.nil <| J.reg rfl <| O.mv rfl <| O.mv rfl <| O.mv rfl <| ?_
    refine O.call rfl ((slices_Clone_Rat_own s15.to (by omega)).own) fun W19 v19 i19 e19 h19 => ?_
    obtain ⟨p19, m19, c19, rfl, s19⟩ := h19.sl
    have ho4 := ho.ext e19
    refine O.iaB (r := RE) (j := k) rfl rfl rfl ho4 (by omega) rfl <| O.sto (r := RE) (j := k) (u := u) rfl rfl ho4 (by omega) s19.to.v rfl (.inr rfl) fun W6 i6 o6 => JO.nil <| J.bend <| J.reg rfl <| O.add rfl rfl (wI (by omega)) <| O.mv rfl <| JO.nil <| ?_
    exact J.at' (k + 1, lo.set k u) ⟨rfl, rfl, rfl, rfl, trivial⟩ ⟨⟨inferInstance, o6, by show k + 1 ≤ n; omega, set_okG (by omega) hd hu⟩, by show n - (k + 1) < n - k; omega⟩
  · skip
    refine J.exit rfl <| J.seq <| J.reg rfl <| O.mv rfl <| O.as rfl <| JO.nil <| ?_
    have hkn : k = n := by omega
    have hfin : lo = t := fill_endG (by omega) (fun j hj => hd j (by omega))
    rw [hfin] at ho
    refine J.ret1o rfl (.tmp rfl) fun W' iE iO => ?_
    exact ho.ret iE iO
/-- what Lift returns -/
def LiftIs (t : List (List Raw)) (l : List Raw) (more : Int) (out : List Raw) : Prop :=
  (∃ s : Nat, more = (s : Int) ∧ s + t.length ≤ 8 ∧ okT t ∧ okE (2 ^ t.length) l ∧ out = l ++ List.replicate (l.length * 2 ^ s - l.length) (cq 0)) ∨
  (¬ (okT t ∧ okE (2 ^ t.length) l ∧ 0 ≤ more ∧ more + t.length ≤ 8) ∧ out = [])
theorem LiftIs.ex (t : List (List Raw)) (l : List Raw) (more : Int) : ∃ out, LiftIs t l more out := by
  by_cases h : okT t ∧ okE (2 ^ t.length) l ∧ 0 ≤ more ∧ more + t.length ≤ 8
  · exact ⟨_, .inl ⟨more.toNat, by omega, by omega, h.1, h.2.1, rfl⟩⟩
  · exact ⟨[], .inr ⟨h, rfl⟩⟩
theorem LiftIs.uniq {t : List (List Raw)} {l : List Raw} {more : Int} {o o' : List Raw} (h : LiftIs t l more o) (h' : LiftIs t l more o') : o = o' := by
  rcases h with ⟨s, h1, h2, h3, h4, rfl⟩ | ⟨h1, rfl⟩
  · rcases h' with ⟨s', k1, k2, k3, k4, rfl⟩ | ⟨k1, rfl⟩
    · obtain rfl : s = s' := by omega
      rfl
    · exact absurd ⟨h3, h4, by omega, by omega⟩ k1
  · rcases h' with ⟨s', k1, k2, k3, k4, rfl⟩ | ⟨k1, rfl⟩
    · exact absurd ⟨k3, k4, by omega, by omega⟩ h1
    · rfl
theorem pow8 {s : Nat} (h : s ≤ 8) : 2 ^ s ≤ 256 := Nat.pow_le_pow_right (by decide) h
theorem shl_len {n s : Nat} (hs : s ≤ 16) (hn1 : n * 2 ^ s ≤ 1073741824) : IntKind.i64.wrap ((n : Int) * 2 ^ (min (Int.toNat (s : Int)) (IntKind.bits .i64))) = ((n * 2 ^ s : Nat) : Int) := by
  rw [show min (Int.toNat (s : Int)) (IntKind.bits .i64) = s from by show min s 64 = s; omega]
  have e : (n : Int) * 2 ^ s = ((n * 2 ^ s : Nat) : Int) := by norm_cast
  rw [e]
  generalize n * 2 ^ s = m at *
  exact wI (by omega)
theorem repl_more {n m : Nat} (l : List Raw) (h : n ≤ m) : l ++ List.replicate (m + 1 - n) (cq 0) = l ++ List.replicate (m - n) (cq 0) ++ [cq 0] := by
  rw [List.append_assoc, ← List.replicate_succ', show m - n + 1 = m + 1 - n from by omega]
theorem root_Lift_ok {q : Option Addr} {m d : Nat} {l out : List Raw} {more : Int} (hz : LiftIs t l more out) (h : Sl RE W p n c t) (h' : Sl RQ W q m d l) (hl : ∀ r ∈ t, ∀ i ∈ r, smallR i) (hl' : ∀ i ∈ l, smallR i) (hn8 : n ≤ 8) (hmo : -1000 ≤ more ∧ more ≤ 1000) :
    Ok Tryz.prog 26 [.slice p n c, .slice q m d, .int .i64 more] W fun W' v => V RE W' v out := by
  have hn := h.hn
  have hm := h'.hn
  have fin0 : ¬ (okT t ∧ okE (2 ^ t.length) l ∧ 0 ≤ more ∧ more + t.length ≤ 8) → out = [] := fun h => hz.uniq (.inr ⟨h, rfl⟩)
  refine Ok.own ?_
  refine Ok.enter Tryz.func26 rfl rfl rfl rfl fun W0 iEn => ?_
  refine J.seq <| J.reg rfl <| O.as rfl <| JO.nil <| J.seq <| J.seq <| J.reg rfl <| O.mv rfl <| O.mv rfl <| O.call rfl (tower_Formed_ok h.to h'.to hl hl' (by omega)) fun W10 v10 i10 e10 h10 => ?_
  obtain ⟨bf, rfl, hbf⟩ := h10
  refine O.not rfl <| O.mv rfl <| ?_
  by_cases hg12 : bf = false
  · skip
    refine O.set (t := 12) (.bool true) rfl (by simp [hg12]) <| O.gs rfl rfl rfl <| O.gs rfl rfl rfl <| O.pickT rfl rfl <| O.mv rfl <| O.gs rfl rfl rfl <| O.gs rfl rfl rfl <| O.gs rfl rfl rfl <| O.gs rfl rfl rfl <| O.gs rfl rfl rfl <| O.pickT rfl rfl <| JO.nil <| J.condT rfl <| J.seq <| J.reg rfl <| O.as rfl <| JO.nil <| J.ret1o rfl (.tmp rfl) fun W' iE iO => ?_
    rw [fin0 fun e => by rw [hbf.2 ⟨e.1, e.2.1⟩] at hg12; cases hg12]
    exact ⟨none, 0, 0, rfl, Ows.nil _ _ _, fun a h => nomatch h⟩
  · skip
    refine O.set (t := 12) (.bool false) rfl (by simp at hg12; simp [hg12]) <| O.gt rfl rfl <| O.mv rfl <| O.gt rfl rfl <| O.lt rfl rfl <| O.pickF rfl rfl <| O.mv rfl <| ?_
    by_cases hg16 : more < 0
    · skip
      refine O.set (t := 16) (.bool true) rfl (by simp only [Value.bool.injEq, decide_eq_true_eq, decide_eq_false_iff_not]; omega) <| O.gs rfl rfl rfl <| O.gs rfl rfl rfl <| O.gs rfl rfl rfl <| O.gs rfl rfl rfl <| O.gs rfl rfl rfl <| O.pickT rfl rfl <| JO.nil <| J.condT rfl <| J.seq <| J.reg rfl <| O.as rfl <| JO.nil <| J.ret1o rfl (.tmp rfl) fun W' iE iO => ?_
      rw [fin0 fun e => by omega]
      exact ⟨none, 0, 0, rfl, Ows.nil _ _ _, fun a h => nomatch h⟩
    · skip
      refine O.set (t := 16) (.bool false) rfl (by simp only [Value.bool.injEq, decide_eq_true_eq, decide_eq_false_iff_not]; omega) <| O.gt rfl rfl <| O.mv rfl <| O.gt rfl rfl <| O.mv rfl <| O.gt rfl rfl <| O.len rfl <| O.gt rfl rfl <| O.sb (r := 8 - (n : Int)) rfl rfl ((wI (by omega)).trans (by omega)) <| O.gt rfl rfl <| O.gtr rfl rfl <| O.pickF rfl rfl <| JO.nil <| J.condD rfl (fun h22 => ?_) (fun h22 => ?_)
      · skip
        refine J.seq <| J.reg rfl <| O.as rfl <| JO.nil <| J.ret1o rfl (.tmp rfl) fun W' iE iO => ?_
        rw [fin0 fun e => by omega]
        exact ⟨none, 0, 0, rfl, Ows.nil _ _ _, fun a h => nomatch h⟩
      · skip
        obtain ⟨s, rfl⟩ : ∃ s : Nat, more = (s : Int) := ⟨more.toNat, by omega⟩
        have hf := hbf.1 (by simpa using hg12)
        have hml : m = 2 ^ n := by rw [hm, hf.2.1, hn]
        have h28 := pow8 hn8
        have hs8 := pow8 (show s ≤ 8 by omega)
        have hms : m * 2 ^ s ≤ 256 * 256 := Nat.mul_le_mul (by omega) hs8
        have hp0 := Nat.two_pow_pos s
        have hle : m ≤ m * 2 ^ s := Nat.le_mul_of_pos_right _ hp0
        have ho : out = l ++ List.replicate (m * 2 ^ s - m) (cq 0) := by
          rw [hm]; exact hz.uniq (.inl ⟨s, rfl, by omega, hf.1, hf.2, rfl⟩)
        rw [ho]
        refine J.skip <| J.seq <| J.reg rfl <| O.mv rfl <| ?_
        refine O.call rfl (slices_Clone_Rat_own h'.to (by omega)) fun W24 v24 i24 e24 h24 => ?_
        obtain ⟨p24, m24, c24, rfl, o24, f24⟩ := h24
        have hm24 : m24 = m := by rw [o24.hn, hm]
        subst hm24
        refine O.as rfl <| JO.nil <| J.seq <| J.block <| ?_
        refine J.loop (α := Nat × Option Addr × Nat) (fun g => [(1, .slice q m24 d), (2, .int .i64 (s : Int)), (7, .slice g.2.1 g.1 g.2.2)]) (fun g W' => Le W0 W' ∧ Ows RQ W' g.2.1 g.1 g.2.2 (l ++ List.replicate (g.1 - m24) (cq 0)) ∧ m24 ≤ g.1 ∧ g.1 ≤ m24 * 2 ^ s) (fun g => m24 * 2 ^ s - g.1) (m24, p24, c24) ⟨rfl, rfl, rfl, trivial⟩ ⟨inferInstance, by dsimp only; rw [Nat.sub_self]; simpa using o24, Nat.le_refl _, hle⟩ ?_
        rintro ⟨k, p7, c7⟩ W3 ⟨_, ho, hk1, hk⟩
        dsimp only at *
        refine J.seq <| J.seq <| J.reg rfl <| O.mv rfl <| O.len rfl <| O.mv rfl <| O.len rfl <| O.mv rfl <| O.shl rfl rfl (by omega) (shl_len (by omega) (by omega)) <| O.lt rfl rfl <| JO.nil <| J.condD rfl (fun h31 => ?_) (fun h31 => ?_)
        · skip
          refine J.skip <| J.block <| J.reg rfl <| O.mv rfl <| O.call rfl (rational_FromInt_ok (z := 0) (by decide)) fun W33 v33 i33 e33 h33 => O.app1 (fun _ => rfl) rfl (ho.ext e33) h33.to rfl rfl (by decide) (.inl rfl) (by decide) (by omega) (by omega) fun W35 p35 c35 v34 i34 o35 => O.as rfl <| JO.nil <| J.bend <| ?_
          exact J.at' (k + 1, p35, c35) ⟨rfl, rfl, rfl, trivial⟩ ⟨⟨inferInstance, by rw [repl_more l hk1]; exact o35, by show m24 ≤ k + 1; omega, by show k + 1 ≤ _; omega⟩, by show m24 * 2 ^ s - (k + 1) < m24 * 2 ^ s - k; omega⟩
        · skip
          refine J.exit rfl <| J.seq <| J.reg rfl <| O.mv rfl <| O.as rfl <| JO.nil <| ?_
          have hkm : k = m24 * 2 ^ s := by omega
          subst hkm
          refine J.ret1o rfl (.tmp rfl) fun W' iE iO => ?_
          exact ho.ret iE iO
end
end
section
theorem up_sz {k s : Nat} {x : El k} (h : Sz s (toL k x)) : Sz (s + 1) (toL (k + 1) (up k x)) := h.append (Sz.zero k)
theorem rt1_sz (k : Nat) : Sz 3 (toL (k + 1) (rt1 k)) := (Sz.zero k).append (Sz.rat k (p := 1) (Qs.int (z := 1) (Zs.one (by decide)) (by decide)))
theorem root_rt1 (k : Nat) : root (k + 1) k = rt1 k := by rw [root, if_pos rfl]; rfl
theorem ct_snoc {k : Nat} {w : Tw k} {y : El k} : ct (toT (k + 1) (tsn w y)) = ct (toT k w) ++ [cl (toL k y)] := ct_succ (tsn w y)
theorem TS_mono {r s : Nat} (h : r ≤ s) : ∀ {k : Nat} {w : Tw k}, TS r k w → TS s k w
  | 0, _, _ => trivial
  | _ + 1, _, ht => ⟨TS_mono h ht.1, ht.2.mono h⟩
theorem isSq_zero {k : Nat} {w : Tw k} : isSq k w (zero k) := ⟨zero k, (ring k w).mz _⟩
theorem red_tsn {k : Nat} {w : Tw k} {a : El k} (h : red k w) (h0 : 0 ≤ sgn k w a) (hs : ¬ isSq k w a) : red (k + 1) (tsn w a) := by
  refine ⟨h, ?_, hs⟩
  show sgn k w a = 1
  rcases sgn_tri w a with e | e | e
  · exact e
  · rw [(red_zero h).1 e] at hs
    exact absurd isSq_zero hs
  · omega
/-- what Adjoin returns -/
def AdjIs (t : List (List Raw)) (l : List Raw) (tout : List (List Raw)) (out : List Raw) (e : Int) : Prop :=
  ((¬ ∃ (k : Nat) (w : Tw k) (a : El k), t = ct (toT k w) ∧ l = cl (toL k a) ∧ red k w) ∧ tout = [] ∧ out = [] ∧ e = 1) ∨
  (∃ (k : Nat) (w : Tw k) (a : El k), t = ct (toT k w) ∧ l = cl (toL k a) ∧ red k w ∧ ((sgn k w a < 0 ∧ tout = [] ∧ out = [] ∧ e = 7) ∨
    (∃ x, mul k w x x = a ∧ 0 ≤ sgn k w x ∧ tout = t ∧ out = cl (toL k x) ∧ e = 0) ∨ (0 ≤ sgn k w a ∧ (¬ isSq k w a) ∧ tout = t ++ [l] ∧ out = cl (toL (k + 1) (rt1 k)) ∧ e = 0)))
theorem AdjIs.ex (t : List (List Raw)) (l : List Raw) : ∃ tout out e, AdjIs t l tout out e := by
  by_cases h : ∃ (k : Nat) (w : Tw k) (a : El k), t = ct (toT k w) ∧ l = cl (toL k a) ∧ red k w
  · obtain ⟨k, w, a, h1, h2, h3⟩ := h
    by_cases h0 : sgn k w a < 0
    · exact ⟨_, _, _, .inr ⟨k, w, a, h1, h2, h3, .inl ⟨h0, rfl, rfl, rfl⟩⟩⟩
    · by_cases hs : isSq k w a
      · obtain ⟨x, h5, h6⟩ := isSq_nn (red_real h3) hs
        exact ⟨_, _, _, .inr ⟨k, w, a, h1, h2, h3, .inr (.inl ⟨x, h5, h6, rfl, rfl, rfl⟩)⟩⟩
      · exact ⟨_, _, _, .inr ⟨k, w, a, h1, h2, h3, .inr (.inr ⟨by omega, hs, rfl, rfl, rfl⟩)⟩⟩
  · exact ⟨_, _, _, .inl ⟨h, rfl, rfl, rfl⟩⟩
theorem AdjIs.uniq {t : List (List Raw)} {l : List Raw} {t1 t2 : List (List Raw)} {o1 o2 : List Raw} {e1 e2 : Int} (h : AdjIs t l t1 o1 e1) (h' : AdjIs t l t2 o2 e2) : t1 = t2 ∧ o1 = o2 ∧ e1 = e2 := by
  rcases h with ⟨h1, rfl, rfl, rfl⟩ | ⟨k, w, a, rfl, rfl, hw, h⟩
  · rcases h' with ⟨h1', rfl, rfl, rfl⟩ | ⟨k, w, a, g1, g2, hw, h⟩
    · exact ⟨rfl, rfl, rfl⟩
    · exact absurd ⟨k, w, a, g1, g2, hw⟩ h1
  · rcases h' with ⟨h1', _⟩ | ⟨j, w', a', g1, g2, _, h'⟩
    · exact absurd ⟨k, w, a, rfl, rfl, hw⟩ h1'
    · obtain rfl := ct_inj2 g1
      obtain rfl := toT_inj (ct_inj g1)
      obtain rfl := toL_inj (cl_inj g2)
      have hR := red_real hw
      rcases h with ⟨h0, rfl, rfl, rfl⟩ | ⟨x, hx, hx0, rfl, rfl, rfl⟩ | ⟨h0, hs, rfl, rfl, rfl⟩ <;> rcases h' with ⟨h0', rfl, rfl, rfl⟩ | ⟨x', hx', hx0', rfl, rfl, rfl⟩ | ⟨h0', hs', rfl, rfl, rfl⟩
      · exact ⟨rfl, rfl, rfl⟩
      · have := sq_nn hR ⟨x', hx'⟩; omega
      · omega
      · have := sq_nn hR ⟨x, hx⟩; omega
      · rw [sq_pos hw (hx.trans hx'.symm) hx0 hx0']; exact ⟨rfl, rfl, rfl⟩
      · exact absurd ⟨x, hx⟩ hs'
      · omega
      · exact absurd ⟨x', hx'⟩ hs
      · exact ⟨rfl, rfl, rfl⟩
section
variable {W : GW} {p : Option Addr} {n c r : Nat} {t : List (List Raw)}
theorem root_Adjoin_ok {q : Option Addr} {m d s : Nat} {l out : List Raw} {tout : List (List Raw)} {e : Int} (hz : AdjIs t l tout out e) (h : Sl RE W p n c t) (h' : Sl RQ W q m d l) (hl : ∀ r ∈ t, ∀ i ∈ r, smallR i) (hl' : ∀ i ∈ l, smallR i) (hn4 : n ≤ 4) (hS : SZT r t) (hS' : SZR s l)
    (hq : qB r n r ≤ 4398046511104) (hv : vB r n r ≤ 8796093022208) (hq' : qB r n s ≤ 4398046511104) (hv' : vB r n (sB r n s) ≤ 8796093022208) (hv2 : vB r n s ≤ 8796093022208) :
    Ok Tryz.prog 32 [.slice p n c, .slice q m d] W fun W' v => ∃ v1 v2, v = .tuple #[v1, v2, .int .i64 e] ∧ V RT W' v1 tout ∧ V RE W' v2 out ∧ SZR (sB r n s + 3) out := by
  have hn := h.hn
  have hm := h'.hn
  have hr := Nat.le_trans (qB_ge n r) hq
  have hs := Nat.le_trans (qB_ge n s) hq'
  have nil0 : SZR (sB r n s + 3) [] := fun xs e => by
    obtain rfl : xs = [] := cl_inj (ys := []) e.symm
    exact Sz.nil.mono (by omega)
  have hz1 : (¬ ∃ (k : Nat) (w : Tw k) (a : El k), t = ct (toT k w) ∧ l = cl (toL k a) ∧ red k w) → tout = [] ∧ out = [] ∧ e = 1 := fun h => hz.uniq (.inl ⟨h, rfl, rfl, rfl⟩)
  refine Ok.enter Tryz.func32 rfl rfl rfl rfl fun W0 iEn => ?_
  refine J.seq <| J.reg rfl <| O.as rfl <| O.as rfl <| O.as rfl <| JO.nil <| J.seq <| J.block <| J.seq <| J.reg rfl <| O.mv rfl <| O.mv rfl <| O.call rfl (tower_Formed_ok h.to h'.to hl hl' (by omega)) fun W13 v13 i13 e13 h13 => ?_
  obtain ⟨bf, rfl, hbf⟩ := h13
  refine O.not rfl <| O.mv rfl <| ?_
  by_cases hg15 : bf = false
  · skip
    refine O.set (t := 15) (.bool true) rfl (by simp [hg15]) <| O.gs rfl rfl rfl <| O.gs rfl rfl rfl <| O.gs rfl rfl rfl <| O.pickT rfl rfl <| O.as rfl <| JO.nil <| J.condT rfl <| J.seq <| J.reg rfl <| O.as rfl <| O.as rfl <| O.as rfl <| JO.nil <| J.ret3 rfl (.tmp rfl) (.tmp rfl) (.tmp rfl) fun W' iE iP => ?_
    obtain ⟨rfl, rfl, rfl⟩ := hz1 fun ⟨k, w, a, h1, h2, _⟩ => by
      subst h1; subst h2
      have := hbf.2 ⟨okT_ct w, okE_cl (by rw [toL_length, ct_length])⟩
      rw [this] at hg15; cases hg15
    exact ⟨_, _, rfl, (nil_sl _ _ _).v, (nil_sl _ _ _).v, nil0⟩
  · skip
    refine O.set (t := 15) (.bool false) rfl (by simp at hg15; simp [hg15]) <| O.gt rfl rfl <| O.mv rfl <| O.gt rfl rfl <| O.call rfl (root_Reduced_ok h.to hl (by omega) (Nat.le_succ n) hS hq hv) fun W17 v17 i17 e17 h17 => ?_
    obtain ⟨br, rfl, hbr⟩ := h17
    refine O.gt rfl rfl <| O.not rfl <| O.pickF rfl rfl <| O.as rfl <| JO.nil <| J.cond rfl (fun h10 => ?_) (fun h10 => ?_)
    · skip
      refine J.seq <| J.reg rfl <| O.as rfl <| O.as rfl <| O.as rfl <| JO.nil <| J.ret3 rfl (.tmp rfl) (.tmp rfl) (.tmp rfl) fun W' iE iP => ?_
      obtain ⟨rfl, rfl, rfl⟩ := hz1 fun ⟨k, w, a, h1, h2, h3⟩ => by
        have := hbr.2 ⟨k, w, h1, h3⟩
        rw [this] at h10; cases h10
      exact ⟨_, _, rfl, (nil_sl _ _ _).v, (nil_sl _ _ _).v, nil0⟩
    · skip
      obtain ⟨k, w, a, rfl, rfl, hw⟩ := okT_redR (hbf.1 (by simpa using hg15)).1 (hbf.1 (by simpa using hg15)).2 (hbr.1 (by simpa using h10))
      rw [ct_length] at hn
      subst hn
      have hT := SZT.ts hS (List.take_of_length_le (l := ct (toT n w)) (by rw [ct_length]; exact Nat.le_refl _))
      have hT2 : TS (r + s) (n + 1) (tsn w a) := ⟨TS_mono (by omega) hT, (hS' _ rfl).mono (by omega)⟩
      have hp := pow_le (show n ≤ 16 by omega)
      have hm2 : m = 2 ^ n := by rw [hm, cl_length, toL_length]
      have hll : ∀ l ∈ ct (toT n w), l.length ≤ 65536 := fun l hl => by
        obtain ⟨i, hi⟩ := List.getElem?_of_mem hl
        rw [(okT_ct w i l hi).1]
        have hin := (List.getElem?_eq_some_iff.1 hi).1
        rw [ct_length] at hin
        exact pow_le (by omega)
      have hz2 := @fun t1 o1 e1 h => hz.uniq (t2 := t1) (o2 := o1) (e2 := e1) (.inr ⟨n, w, a, rfl, rfl, hw, h⟩)
      refine J.seq <| J.reg rfl <| O.mv rfl <| O.mv rfl <| ?_
      refine O.call rfl (sign_Sign_ok (r := r) (s := s) (SgnIs.ct (a := a) (red_real hw)) h.to h'.to hl hl' (by omega) (TSR_ct hT) hS' hv hv2) fun W23 v23 i23 e23 h23 => ?_
      subst h23
      refine O.lt rfl rfl <| O.as rfl <| JO.nil <| J.condD rfl (fun h20 => ?_) (fun h20 => ?_)
      · skip
        refine J.seq <| J.reg rfl <| O.as rfl <| O.as rfl <| O.as rfl <| JO.nil <| J.ret3 rfl (.tmp rfl) (.tmp rfl) (.tmp rfl) fun W' iE iP => ?_
        obtain ⟨rfl, rfl, rfl⟩ := hz2 _ _ _ (.inl ⟨h20, rfl, rfl, rfl⟩)
        exact ⟨_, _, rfl, (nil_sl _ _ _).v, (nil_sl _ _ _).v, nil0⟩
      · skip
        refine J.skip <| J.bend <| J.seq <| J.seq <| J.reg rfl <| O.mv rfl <| O.mv rfl <| O.call rfl (root_positive_ok h.to h'.to hT (hS' _ rfl) hw (by omega) hq' (by omega) hv hv') fun W28 v28 i28 e28 h28 => ?_
        obtain ⟨v29, b8, rfl, l7, h29, hs1, hs2⟩ := h28
        obtain ⟨p29, m29, c29, rfl, s29⟩ := h29.sl
        refine O.mv rfl <| O.ext rfl rfl <| O.ext rfl rfl <| O.as rfl <| O.as rfl <| JO.nil <| J.seq <| J.reg rfl <| O.mv rfl <| JO.nil <| J.cond rfl (fun h31 => ?_) (fun h31 => ?_)
        · skip
          obtain ⟨x, g1, g2, rfl, g4⟩ := hs1 h31
          obtain ⟨rfl, rfl, rfl⟩ := hz2 _ _ _ (.inr (.inl ⟨x, g1, g2, rfl, rfl, rfl⟩))
          refine J.seq <| J.reg rfl <| O.mv rfl <| ?_
          refine O.call rfl ((root_clone_own h.to (by omega) hll).own) fun W33 v33 i33 e33 h33 => ?_
          obtain ⟨p33, m33, c33, rfl, s33⟩ := h33.sl
          refine O.mv rfl <| O.as rfl <| O.as rfl <| O.as rfl <| JO.nil <| J.ret3 rfl (.tmp rfl) (.tmp rfl) (.tmp rfl) fun W' iE iP => ?_
          exact ⟨_, _, rfl, s33.to.v, s29.to.v, SZR_cl (g4.mono (by omega))⟩
        · skip
          obtain ⟨g1, rfl⟩ := hs2 h31
          obtain ⟨rfl, rfl, rfl⟩ := hz2 _ _ _ (.inr (.inr ⟨by omega, g1, rfl, rfl, rfl⟩))
          refine J.skip <| J.seq <| J.seq <| J.reg rfl <| O.mv rfl <| O.len rfl <| O.ge rfl rfl <| JO.nil <| J.condD rfl (fun h37 => ?_) (fun h37 => ?_)
          · skip
            omega -- done
          · skip
            refine J.skip <| J.seq <| J.reg rfl <| O.mv rfl <| ?_
            refine O.call rfl (root_clone_own h.to (by omega) hll) fun W39 v39 i39 e39 h39 => ?_
            obtain ⟨p39, m39, c39, rfl, o39, f39⟩ := h39
            have hm39 : m39 = n := by rw [o39.hn, ct_length]
            refine O.mv rfl <| ?_
            refine O.call rfl ((slices_Clone_Rat_own h'.to (by rw [cl_length, toL_length]; omega)).own) fun W41 v41 i41 e41 h41 => ?_
            obtain ⟨p41, m41, c41, rfl, s41⟩ := h41.sl
            refine O.app1 (fun _ => rfl) rfl (o39.ext e41) h41.to rfl rfl (by decide) (.inr rfl) (by decide) (by omega) (by omega) fun W43 p43 c43 v42 i42 o43 => O.as rfl <| JO.nil <| J.seq <| ?_
            refine J.pub o43 fun Wq1 iq1 s43 => ?_
            refine J.reg rfl <| O.mv rfl <| O.mv rfl <| O.mv rfl <| O.len rfl <| ?_
            refine O.call rfl (tower_Root_ok (k := n + 1) (i := n) (t := tsn w a) (by rw [ct_snoc]; exact s43.to) hT2 (by omega) (by omega) (by omega)) fun W48 v48 i48 e48 h48 => ?_
            obtain ⟨p48, m48, c48, rfl, s48⟩ := h48.sl
            refine O.as rfl <| O.as rfl <| O.as rfl <| JO.nil <| J.ret3 rfl (.tmp rfl) (.tmp rfl) (.tmp rfl) fun W' iE iP => ?_
            refine ⟨_, _, rfl, s43.to.v, ?_, SZR_cl ((rt1_sz n).mono (by omega))⟩
            rw [← root_rt1]; exact s48.to.v
end
end
end Go.Proofs.YtcaikjefkkejbaaGreat

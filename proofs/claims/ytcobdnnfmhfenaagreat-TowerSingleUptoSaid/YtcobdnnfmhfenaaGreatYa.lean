/- The statements about towers: cases as data; the norm. -/
import Derived.Test.YtcobdnnfmhfenaaGreatWb
import Derived.Test.YtcobdnnfmhfenaaGreatVy
import Derived.Test.YtcobdnnfmhfenaaGreatTz
set_option linter.unusedVariables false
set_option linter.unusedSimpArgs false
set_option maxRecDepth 10000
set_option maxHeartbeats 4000000
namespace Go.Proofs.YtcobdnnfmhfenaaGreat
open Go Go.Rx Go.Num Go.Tow

theorem few_nat {n : Nat} (h : (dig n).length ≤ 4) : n < 2 ^ 128 := by
  have h1 := dig_ub n
  have h2 : 4294967296 ^ (dig n).length ≤ 4294967296 ^ 4 := Nat.pow_le_pow_right (by decide) h
  have h3 : (4294967296 : Nat) ^ 4 = 2 ^ 128 := by decide
  omega
theorem few_qs {x : Rat} (h : fewR (cq x)) : Qs 128 x := ⟨few_nat h.1, few_nat h.2⟩
theorem few_sz {xs : List Rat} (h : fewL (cl xs)) : Sz 2049 xs := by
  have h1 : xs.length ≤ 16 := by rw [← cl_length]; exact h.1
  exact (Sz.all (p := 128) fun x hx => few_qs (h.2 _ (List.mem_map.2 ⟨x, hx, rfl⟩))).mono (by omega)
theorem few_ts {k : Nat} {w : Tw k} (h : ∀ l ∈ ct (toT k w), fewL l) : TS 2049 k w := by
  induction k with
  | zero => trivial
  | succ k ih =>
    refine ⟨ih fun l hl => h l ?_, few_sz (h _ ?_)⟩
    · rw [ct_succ]; exact List.mem_append_left _ hl
    · rw [ct_succ]; exact List.mem_append_right _ (List.mem_singleton.2 rfl)
theorem formed_typed {t : List (List Raw)} {a b c : List Raw} (h : formedC t a b c) : ∃ (k : Nat) (w : Tw k) (x y z : El k), k ≤ 4 ∧ t = ct (toT k w) ∧ a = cl (toL k x) ∧ b = cl (toL k y) ∧ c = cl (toL k z) ∧ TS 2049 k w ∧ Sz 2049 (toL k x) ∧ Sz 2049 (toL k y) ∧ Sz 2049 (toL k z) := by
  obtain ⟨h1, h2, ha, hb, hc, h3, h4, h5, h6⟩ := h
  obtain ⟨w, hw⟩ := okT_typed h3
  obtain ⟨x, rfl⟩ := okE_typed h4
  obtain ⟨y, rfl⟩ := okE_typed h5
  obtain ⟨z, rfl⟩ := okE_typed h6
  exact ⟨t.length, w, x, y, z, h1, hw, rfl, rfl, rfl, few_ts (by rw [← hw]; exact h2), few_sz ha, few_sz hb, few_sz hc⟩
theorem cB4 : ∀ k, k < 5 → cB 2049 k ≤ 30750 := by decide
theorem nB4 {k s : Nat} (hk : k < 5) : nB 2049 k s ≤ 4 * s + 94300 := by
  have := cB4 k hk
  unfold nB; omega

abbrev RCs : Rep (List (List Raw) × List Raw × List Raw × List Raw) := RP RT (RP RE (RP RE RE))
theorem CaseR.v {W : GW} {v : Value} {t : List (List Raw)} {a b c : List Raw} (h : CaseR W v t a b c) : V RCs W v (t, a, b, c) := by
  obtain ⟨p, n, m, pa, na, ma, pb, nb, mb, pc, nc, mc, rfl, ht, ha, hb, hc⟩ := h.h
  exact ⟨_, ⟨[_], _, rfl, ⟨_, _, _, rfl, ht⟩, [_], _, rfl, ⟨_, _, _, rfl, ha⟩, [_], [_], rfl, ⟨_, _, _, rfl, hb⟩, ⟨_, _, _, rfl, hc⟩⟩, rfl⟩
theorem caseR {W : GW} {v : Value} {t : List (List Raw)} {a b c : List Raw} (h : V RCs W v (t, a, b, c)) : CaseR W v t a b c := by
  obtain ⟨cs, ⟨k1, k2, rfl, ⟨p1, n1, c1, rfl, h1⟩, k3, k4, rfl, ⟨p2, n2, c2, rfl, h2⟩, k5, k6, rfl, ⟨p3, n3, c3, rfl, h3⟩, ⟨p4, n4, c4, rfl, h4⟩⟩, rfl⟩ := h
  exact ⟨⟨p1, n1, c1, p2, n2, c2, p3, n3, c3, p4, n4, c4, rfl, h1, h2, h3, h4⟩⟩
theorem sl_low {W : GW} {p : Option Addr} {n c j : Nat} {w : Tw (j + 1)} (h : Sl RE W p n c (ct (toT (j + 1) w))) : Sl RE W p j c (ct (toT j w.1)) := by
  have hn := h.hn
  rw [ct_length] at hn
  have := h.take j (by omega)
  rwa [ct_succ, List.take_left' (by rw [ct, List.length_map, toT_length])] at this
theorem sl_left {W : GW} {p : Option Addr} {n c j : Nat} {x : El (j + 1)} (h : Sl RQ W p n c (cl (toL (j + 1) x))) : Sl RQ W p (2 ^ j) c (cl (toL j x.1)) := by
  have hn := h.hn
  rw [cl_length, toL_length, Nat.pow_succ] at hn
  have := h.take (2 ^ j) (by omega)
  rwa [(cl_halves x).1] at this
theorem ref06_Lift1_ok {W : GW} {p : Option Addr} {n c j : Nat} {x : El j} (h : Sl RQ W p n c (cl (toL j x))) (hj : j ≤ 4) :
    Ok Tryz.prog 16 [.slice p n c, .int .i64 1] W fun W' r => V RE W' r (cl (toL (j + 1) (x, zero j))) := by
  have hn : n = 2 ^ j := by rw [h.hn, cl_length, toL_length]
  have hp : 2 ^ j ≤ 2 ^ 4 := Nat.pow_le_pow_right (by decide) hj
  refine (ref06_Lift_ok (s := 1) h (by decide) (by omega) (by omega)).mono fun _ _ _ hv => ?_
  have e : cl (toL j x) ++ List.replicate (n * 2 ^ 1 - n) (cq 0) = cl (toL (j + 1) (x, zero j)) := by
    show _ = cl (toL j x ++ toL j (zero j))
    rw [cl_append, toL_zero, hn, show 2 ^ j * 2 ^ 1 - 2 ^ j = 2 ^ j from by omega]
    congr 1
    rw [cl, List.map_replicate]
  rwa [e] at hv

theorem law06_TowerNorm_ok {W : GW} {v : Value} {t : List (List Raw)} {a b c : List Raw} (h : CaseR W v t a b c) :
    Ok Tryz.prog 4 [v] W fun _ r => r = .bool true := by
  have hv := h.v
  refine Ok.enter Tryz.func4 rfl rfl rfl rfl fun W0 iEn => ?_
  refine J.seq <| J.reg rfl <| O.boxT rfl hv.to fun W1 b1 i1 hb1 => O.as rfl <| JO.nil <| J.seq <| J.seq <| J.reg rfl <| ?_
  refine O.call rfl (law06_awake_ok) fun W5 v5 i5 e5 h5 => ?_
  subst h5
  refine O.not rfl <| O.mv rfl <| O.gt rfl rfl <| O.ldT rfl hb1.to.h rfl rfl (fun h => nomatch h) fun v8 h8 => O.gt rfl rfl <| O.call rfl (law06_right_ok (caseR h8.to)) fun W9 v9 i9 e9 h9 => ?_
  obtain ⟨f, rfl, hf⟩ := h9
  refine O.gt rfl rfl <| O.not rfl <| O.pickF rfl rfl <| O.mv rfl <| ?_
  by_cases hg12 : f = false
  · skip
    refine O.set (t := 12) (.bool true) rfl (by rw [hg12]; rfl) <| O.gs rfl rfl rfl <| O.gs rfl rfl rfl <| O.gs rfl rfl rfl <| O.gs rfl rfl rfl <| O.pickT rfl rfl <| JO.nil <| J.condT rfl <| J.seq <| J.reg rfl <| ?_
    refine O.call rfl (law06_awake_ok) fun W18 v18 i18 e18 h18 => ?_
    subst h18
    refine O.as rfl <| JO.nil <| J.ret1 rfl (.tmp rfl) fun W' iE iP => ?_
    rfl
  · skip
    refine O.set (t := 12) (.bool false) rfl (by cases f <;> simp_all) <| O.gt rfl rfl <| O.fa rfl <| O.gt rfl rfl <| ?_
    refine O.ldTs rfl hb1.to.h.f fun p14 m14 c14 s14 => ?_
    have h14 := s14.v
    refine O.gt rfl rfl <| O.len rfl <| O.gt rfl rfl <| O.eq rfl rfl <| O.pickF rfl rfl <| JO.nil <| J.condD rfl (fun h17 => ?_) (fun h17 => ?_)
    · skip
      refine J.seq <| J.reg rfl <| ?_
      refine O.call rfl (law06_awake_ok) fun W18 v18 i18 e18 h18 => ?_
      subst h18
      refine O.as rfl <| JO.nil <| J.ret1 rfl (.tmp rfl) fun W' iE iP => ?_
      rfl
    · skip
      have hft : f = true := by cases f <;> simp_all
      obtain ⟨k, w, x, y, z, hk, rfl, rfl, rfl, rfl, hT, hx, hy, hz⟩ := formed_typed (hf.1 hft)
      have hn14 : m14 = k := by rw [s14.hn, ct_length]
      obtain ⟨j, rfl⟩ : ∃ j, k = j + 1 := ⟨k - 1, by omega⟩
      have hcb := cB4 (j + 1) (by omega)
      have hcb0 := cB4 j (by omega)
      have hp16 : 2 ^ j ≤ 2 ^ 4 := Nat.pow_le_pow_right (by decide) (by omega)
      have hnx := hx.norm hT
      have hny := hy.norm hT
      have hn0 := @nB4 j 2049 (by omega)
      have hn1 := @nB4 j (2049 + 2049 + cB 2049 (j + 1)) (by omega)
      refine J.skip <| J.seq <| J.reg rfl <| O.fa rfl <| ?_
      refine O.ldTs rfl hb1.to.h.f fun p20 m20 c20 s20 => ?_
      have h20 := s20.v
      refine O.fa rfl <| ?_
      refine O.ldTs rfl hb1.to.h.f fun p22 m22 c22 s22 => ?_
      have h22 := s22.v
      refine O.len rfl <| ?_
      have hn22 : m22 = j + 1 := by rw [s22.hn, ct_length]
      refine O.sb (r := (j : Int)) rfl rfl ((wI (by omega)).trans (by omega)) <| ?_
      have hn22 : m22 = j + 1 := by rw [s22.hn, ct_length]
      have hn20 : m20 = j + 1 := by rw [s20.hn, ct_length]
      have hc20 := s20.hc
      have hC20 := s20.hC
      have s25 := sl_low s20
      refine O.slh (hi := j) rfl rfl rfl (by omega) <| O.as rfl <| JO.nil <| J.seq <| J.seq <| ?_
      refine J.draw [.ex _, .rel _, .ex _, .rel _, .ex _, .rel _, .ex _, .rel _, .rel _, .rel _, .ex _, .ex _, .rel _, .ex _, .rel _, .rel _, .ex _, .rel _, .ex _, .rel _, .rel _] rfl rfl ⟨fun Wd id ed _ => O.fa rfl <| D.ex, fun Wd id ed _ => O.ldTD rfl hb1.to.h.f rfl rfl (fun _ => rfl), fun Wd id ed _ => O.fa rfl <| D.ex, fun Wd id ed _ => O.ldTD rfl hb1.to.h.f rfl rfl (fun _ => rfl), fun Wd id ed _ => O.fa rfl <| D.ex, fun Wd id ed _ => O.ldTD rfl hb1.to.h.s.f rfl rfl (fun _ => rfl), fun Wd id ed _ => O.fa rfl <| D.ex, fun Wd id ed _ => O.ldTD rfl hb1.to.h.s.s.f rfl rfl (fun _ => rfl), fun Wd id ed _ => fun v29 h29 => fun v31 h31 => fun v33 h33 => (by obtain ⟨p29, m29, c29, rfl, s29⟩ := h29.sl; obtain ⟨p31, m31, c31, rfl, s31⟩ := h31.sl; obtain ⟨p33, m33, c33, rfl, s33⟩ := h33.sl; exact O.call rfl ((ref06_Mul_own s29 s31 s33 hT hx hy (by omega) (by omega)).own) fun Wd vd id ed hd => D.rel ed hd V.me), fun Wd id ed _ => fun v27 h27 => fun _ _ => fun v34 h34 => (by obtain ⟨p27, m27, c27, rfl, s27⟩ := h27.sl; obtain ⟨p34, m34, c34, rfl, s34⟩ := h34.sl; exact O.call rfl (tower_Norm_ok s27 s34 hT (hx.mul hT hy) (by omega) (by omega) (by decide)) fun Wd vd id ed hd => D.rel ed hd V.me), fun Wd id ed _ => O.mv rfl <| D.ex, fun Wd id ed _ => O.fa rfl <| D.ex, fun Wd id ed _ => O.ldTD rfl hb1.to.h.f rfl rfl (fun _ => rfl), fun Wd id ed _ => O.fa rfl <| D.ex, fun Wd id ed _ => O.ldTD rfl hb1.to.h.s.f rfl rfl (fun _ => rfl), fun Wd id ed _ => fun v38 h38 => fun v40 h40 => fun v35 h35 => (by obtain ⟨p38, m38, c38, rfl, s38⟩ := h38.sl; obtain ⟨p40, m40, c40, rfl, s40⟩ := h40.sl; obtain ⟨p35, m35, c35, rfl, s35⟩ := h35.sl; exact O.call rfl (tower_Norm_ok s38 s40 hT hx (by omega) (by omega) (by decide)) fun Wd vd id ed hd => D.rel ed hd V.me), fun Wd id ed _ => O.fa rfl <| D.ex, fun Wd id ed _ => O.ldTD rfl hb1.to.h.f rfl rfl (fun _ => rfl), fun Wd id ed _ => O.fa rfl <| D.ex, fun Wd id ed _ => O.ldTD rfl hb1.to.h.s.s.f rfl rfl (fun _ => rfl), fun Wd id ed _ => fun v43 h43 => fun v45 h45 => fun v41 h41 => (by obtain ⟨p43, m43, c43, rfl, s43⟩ := h43.sl; obtain ⟨p45, m45, c45, rfl, s45⟩ := h45.sl; obtain ⟨p41, m41, c41, rfl, s41⟩ := h41.sl; exact O.call rfl (tower_Norm_ok s43 s45 hT hy (by omega) (by omega) (by decide)) fun Wd vd id ed hd => D.rel ed hd V.me), trivial⟩ ?_
      intro Wr4 ir4 er4 v27 h27 v29 h29 v31 h31 v33 h33 v34 h34 v35 h35 v38 h38 v40 h40 v41 h41 v43 h43 v45 h45 v46 h46
      obtain ⟨p27, m27, c27, rfl, s27⟩ := h27.sl
      obtain ⟨p29, m29, c29, rfl, s29⟩ := h29.sl
      obtain ⟨p31, m31, c31, rfl, s31⟩ := h31.sl
      obtain ⟨p33, m33, c33, rfl, s33⟩ := h33.sl
      obtain ⟨p34, m34, c34, rfl, s34⟩ := h34.sl
      obtain ⟨p35, m35, c35, rfl, s35⟩ := h35.sl
      obtain ⟨p38, m38, c38, rfl, s38⟩ := h38.sl
      obtain ⟨p40, m40, c40, rfl, s40⟩ := h40.sl
      obtain ⟨p41, m41, c41, rfl, s41⟩ := h41.sl
      obtain ⟨p43, m43, c43, rfl, s43⟩ := h43.sl
      obtain ⟨p45, m45, c45, rfl, s45⟩ := h45.sl
      obtain ⟨p46, m46, c46, rfl, s46⟩ := h46.sl
      refine O.call rfl ((ref06_Mul_own s25.to s41 s46 hT.1 hnx hny (by omega) (by omega)).own) fun W47 v47 i47 e47 h47 => ?_
      obtain ⟨p47, m47, c47, rfl, s47⟩ := h47.sl
      refine O.call rfl (ref06_Same_ok s35.to s47.to) fun W48 v48 i48 e48 h48 => ?_
      subst h48
      refine O.not rfl <| JO.nil <| J.cond rfl (fun h49 => ?_) (fun h49 => ?_)
      · skip
        exfalso; rw [norm_mul] at h49; simp at h49 -- done
      · skip
        refine J.skip <| J.seq <| J.reg rfl <| O.fa rfl <| ?_
        refine O.ldTs rfl hb1.to.h.s.f fun p51 m51 c51 s51 => ?_
        have h51 := s51.v
        refine O.fa rfl <| ?_
        refine O.ldTs rfl hb1.to.h.s.f fun p53 m53 c53 s53 => ?_
        have h53 := s53.v
        refine O.len rfl <| ?_
        have hn53 : m53 = 2 ^ (j + 1) := by rw [s53.hn, cl_length, toL_length]
        have hn51 : m51 = 2 ^ (j + 1) := by rw [s51.hn, cl_length, toL_length]
        have hp1 : 2 ^ (j + 1) = 2 * 2 ^ j := by rw [Nat.pow_succ]; omega
        have hc51 := s51.hc
        have hC51 := s51.hC
        have s56 := sl_left s51
        have hq : Int.tdiv (m53 : Int) 2 = ((2 ^ j : Nat) : Int) := by rw [show Int.tdiv (m53 : Int) 2 = ((m53 / 2 : Nat) : Int) from rfl]; omega
        refine O.quo (r := ((2 ^ j : Nat) : Int)) rfl rfl (by decide) (by rw [hq]; exact wI (by omega)) <| O.slh (hi := 2 ^ j) rfl rfl rfl (by omega) <| O.as rfl <| JO.nil <| J.seq <| ?_
        refine J.draw [.ex _, .rel _, .ex _, .rel _, .rel _, .ex _, .ex _, .ex _] rfl rfl ⟨fun Wd id ed _ => O.fa rfl <| D.ex, fun Wd id ed _ => O.ldTD rfl hb1.to.h.f rfl rfl (fun _ => rfl), fun Wd id ed _ => O.mv rfl <| D.ex, fun Wd id ed _ => O.call rfl (ref06_Lift1_ok s56.to (by omega)) fun Wd vd id ed hd => D.rel ed hd V.me, fun Wd id ed _ => fun v58 h58 => fun _ _ => fun v60 h60 => (by obtain ⟨p58, m58, c58, rfl, s58⟩ := h58.sl; obtain ⟨p60, m60, c60, rfl, s60⟩ := h60.sl; exact O.call rfl (tower_Norm_ok s58 s60 (s := 2049 + 1) hT ((Sz.left hx).append (Sz.zero j)) (by omega) (by have := @nB4 j (2049 + 1) (by omega); omega) (by decide)) fun Wd vd id ed hd => D.rel ed hd V.me), fun Wd id ed _ => O.mv rfl <| D.ex, fun Wd id ed _ => O.mv rfl <| D.ex, fun Wd id ed _ => O.mv rfl <| D.ex, trivial⟩ ?_
        intro Wr7 ir7 er7 v58 h58 v60 h60 v61 h61
        obtain ⟨p58, m58, c58, rfl, s58⟩ := h58.sl
        obtain ⟨p60, m60, c60, rfl, s60⟩ := h60.sl
        obtain ⟨p61, m61, c61, rfl, s61⟩ := h61.sl
        refine O.call rfl ((ref06_Mul_own s25.to s56.to s56.to hT.1 (Sz.left hx) (Sz.left hx) (by omega) (by omega)).own) fun W65 v65 i65 e65 h65 => ?_
        obtain ⟨p65, m65, c65, rfl, s65⟩ := h65.sl
        refine O.call rfl (ref06_Same_ok s61.to s65.to) fun W66 v66 i66 e66 h66 => ?_
        subst h66
        refine O.as rfl <| JO.nil <| J.ret1 rfl (.tmp rfl) fun W' iE iP => ?_
        rw [norm_low]; simp
end Go.Proofs.YtcobdnnfmhfenaaGreat

/- The statements about roots: RootLift. -/
import Derived.Test.YtcaikjefkkejbaaGreatQr
set_option linter.unusedVariables false
set_option linter.unusedSimpArgs false
set_option maxRecDepth 10000
set_option maxHeartbeats 8000000
namespace Go.Proofs.YtcaikjefkkejbaaGreat
open Go Go.Rx Go.Num Go.Tow
theorem LiftIs.cl {t : List (List Raw)} {l out : List Raw} {more : Int} {S : Nat} (h : LiftIs t l more out) (hl : SZR S l) : ∃ xs, out = cl xs ∧ Sz (S + 1) xs := by
  rcases h with ⟨s, _, _, _, hE, rfl⟩ | ⟨_, rfl⟩
  · have hE' : okE (2 ^ t.length) l := hE
    obtain ⟨a, rfl⟩ := okE_typed hE'
    refine ⟨toL t.length a ++ List.replicate ((Go.Proofs.YtcaikjefkkejbaaGreat.cl (toL t.length a)).length * 2 ^ s - (Go.Proofs.YtcaikjefkkejbaaGreat.cl (toL t.length a)).length) 0, ?_, ?_⟩
    · rw [cl_append]
      congr 1
      rw [Go.Proofs.YtcaikjefkkejbaaGreat.cl, Go.Proofs.YtcaikjefkkejbaaGreat.cl, List.map_replicate]
    · refine (hl _ rfl).append ⟨1, by decide, by decide, fun x hx => ?_⟩
      rw [List.eq_of_mem_replicate hx]
      exact ⟨0, by rw [Rat.zero_mul]; rfl, by decide⟩
  · exact ⟨[], rfl, Sz.nil.mono (by omega)⟩
theorem add_up {k : Nat} (w : Tw k) (a b : El k) : add (k + 1) (up k a) (up k b) = up k (add k a b) := by
  show (add k a b, add k (zero k) (zero k)) = (add k a b, zero k)
  rw [(ring k w).az]
section
variable {W : GW} {p q q2 : Option Addr} {n c m d m2 d2 : Nat} {t : List (List Raw)} {l l2 : List Raw}
theorem law08_RootLift_ok (h : Sl RE W p n c t) (h' : Sl RQ W q m d l) (h2 : Sl RQ W q2 m2 d2 l2) :
    Ok Tryz.prog 8 [.slice p n c, .slice q m d, .slice q2 m2 d2] W fun _ r => r = .bool true := by
  have hn := h.hn
  have hm := h'.hn
  have hm2 := h2.hn
  have hcc := h.hc
  have hCC := h.hC
  refine Ok.enter Tryz.func8 rfl rfl rfl rfl fun W0 iEn => ?_
  refine J.seq <| J.reg rfl <| O.as rfl <| JO.nil <| J.seq <| J.seq <| J.reg rfl <| ?_
  refine O.call rfl (law08_awake_ok) fun W14 v14 i14 e14 h14 => ?_
  subst h14
  refine O.not rfl <| JO.nil <| J.condF rfl <| J.skip <| J.seq <| J.seq <| J.reg rfl <| O.mv rfl <| O.len rfl <| O.eq rfl rfl <| O.mv rfl <| ?_
  by_cases hg19 : n = 0
  · skip
    refine O.set (t := 19) (.bool true) rfl (by simp only [Value.bool.injEq, decide_eq_true_eq, decide_eq_false_iff_not]; omega) <| O.gs rfl rfl rfl <| O.gs rfl rfl rfl <| O.gs rfl rfl rfl <| O.gs rfl rfl rfl <| O.pickT rfl rfl <| O.mv rfl <| O.gs rfl rfl rfl <| O.gs rfl rfl rfl <| O.gs rfl rfl rfl <| O.gs rfl rfl rfl <| O.pickT rfl rfl <| JO.nil <| J.condT rfl <| J.seq <| J.reg rfl <| O.as rfl <| JO.nil <| J.ret1 rfl (.tmp rfl) fun W' iE iP => ?_
    rfl
  · skip
    refine O.set (t := 19) (.bool false) rfl (by simp only [Value.bool.injEq, decide_eq_true_eq, decide_eq_false_iff_not]; omega) <| O.gt rfl rfl <| O.mv rfl <| O.gt rfl rfl <| O.mv rfl <| O.gt rfl rfl <| O.call rfl (ref08_Small_ok (most := 3) h.to h'.to (by decide)) fun W22 v22 i22 e22 h22 => ?_
    obtain ⟨b1, rfl, hb1⟩ := h22
    refine O.gt rfl rfl <| O.not rfl <| O.pickF rfl rfl <| O.mv rfl <| ?_
    by_cases hg25 : b1 = false
    · skip
      refine O.set (t := 25) (.bool true) rfl (by simp [hg25]) <| O.gs rfl rfl rfl <| O.gs rfl rfl rfl <| O.gs rfl rfl rfl <| O.gs rfl rfl rfl <| O.pickT rfl rfl <| JO.nil <| J.condT rfl <| J.seq <| J.reg rfl <| O.as rfl <| JO.nil <| J.ret1 rfl (.tmp rfl) fun W' iE iP => ?_
      rfl
    · skip
      refine O.set (t := 25) (.bool false) rfl (by simp at hg25; simp [hg25]) <| O.gt rfl rfl <| O.mv rfl <| O.gt rfl rfl <| O.mv rfl <| O.gt rfl rfl <| O.call rfl (ref08_Small_ok (most := 3) h.to h2.to (by decide)) fun W28 v28 i28 e28 h28 => ?_
      obtain ⟨b2, rfl, hb2⟩ := h28
      refine O.gt rfl rfl <| O.not rfl <| O.pickF rfl rfl <| JO.nil <| J.cond rfl (fun h30 => ?_) (fun h30 => ?_)
      · skip
        refine J.seq <| J.reg rfl <| O.as rfl <| JO.nil <| J.ret1 rfl (.tmp rfl) fun W' iE iP => ?_
        rfl
      · skip
        have hs := hb1.1 (by simpa using hg25)
        have hs2 := hb2.1 (by simpa using h30)
        have hs1 := hs.1
        have hl1 := hs.2.1.1
        have hl2 := hs2.2.1.1
        obtain ⟨k, rfl⟩ : ∃ k, n = k + 1 := ⟨n - 1, by omega⟩
        have hkl : (t.take k).length = k := by rw [List.length_take]; omega
        have s40 := h.take k (by omega)
        have s49 := s40
        have s57 := s40
        have s64 := s40
        have htk : ∀ r ∈ t.take k, ∀ i ∈ r, smallR i := fun r hr => hs.st r (List.mem_of_mem_take hr)
        have hlk : ∀ r ∈ t.take k, r.length ≤ 1000000 := fun r hr => hs.len r (List.mem_of_mem_take hr)
        refine J.skip <| J.seq <| J.reg rfl <| O.mv rfl <| O.len rfl <| O.sb (r := (k : Int)) rfl rfl ((wI (by omega)).trans (by omega)) <| O.as rfl <| JO.nil <| J.seq <| J.seq <| J.reg rfl <| O.as rfl <| JO.nil <| J.block <| ?_
        refine J.loop (α := Nat) (fun g => [(0, .slice p (k + 1) c), (1, .slice q m d), (2, .slice q2 m2 d2), (7, .int .i64 (k : Int)), (8, .int .i64 ((g : Int) - 1))]) (fun g W' => Le W0 W' ∧ g ≤ 11) (fun g => 11 - g) 0 ⟨rfl, rfl, rfl, rfl, rfl, trivial⟩ ⟨inferInstance, by decide⟩ ?_
        rintro g W3 ⟨_, hgi⟩
        refine J.seq <| J.seq <| J.reg rfl <| O.mv rfl <| O.le rfl rfl <| JO.nil <| J.condD rfl (fun h35 => ?_) (fun h35 => ?_)
        · skip
          obtain ⟨out, hzL⟩ := LiftIs.ex (t.take k) l ((g : Int) - 1)
          obtain ⟨xs, hxs, hxS⟩ := hzL.cl hs.2.1.szr
          subst hxs
          refine J.skip <| J.seq <| J.block <| J.seq <| J.reg rfl <| O.mv rfl <| O.mv rfl <| O.slh (hi := k) rfl rfl rfl (by omega) <| ?_
          refine O.call rfl (law08_copied_ok s40.to (by omega) hlk) fun W41 v41 i41 e41 h41 => ?_
          obtain ⟨p41, m41, c41, rfl, s41⟩ := h41.sl
          have hm41 : m41 = k := by rw [s41.hn, hkl]
          refine O.mv rfl <| ?_
          refine O.call rfl (law08_own_ok h'.to (by omega)) fun W43 v43 i43 e43 h43 => ?_
          obtain ⟨p43, m43, c43, rfl, s43⟩ := h43.sl
          refine O.mv rfl <| ?_
          refine O.call rfl (root_Lift_ok hzL s41.to s43.to htk hs.2.1.small (by omega) (by omega)) fun W45 v45 i45 e45 h45 => ?_
          obtain ⟨p45, m45, c45, rfl, s45⟩ := h45.sl
          refine O.as rfl <| JO.nil <| J.seq <| J.reg rfl <| O.mv rfl <| O.mv rfl <| O.mv rfl <| O.slh (hi := k) rfl rfl rfl (by omega) <| O.mv rfl <| O.mv rfl <| ?_
          refine O.call rfl (ref08_Lift_ok hzL s49.to h'.to htk hs.2.1.small (by omega) (by omega)) fun W52 v52 i52 e52 h52 => ?_
          obtain ⟨p52, m52, c52, rfl, s52⟩ := h52.sl
          refine O.call rfl (ref08_Same_ok s45.to s52.to hxS (by decide)) fun W53 v53 i53 e53 h53 => ?_
          subst h53
          refine O.not rfl <| JO.nil <| J.condF rfl <| J.skip <| J.bend <| J.reg rfl <| O.mv rfl <| O.add (r := ((g + 1 : Nat) : Int) - 1) rfl rfl ((wI (by omega)).trans (by omega)) <| O.as rfl <| JO.nil <| ?_
          exact J.at' (g + 1) ⟨rfl, rfl, rfl, rfl, rfl, trivial⟩ ⟨⟨inferInstance, by omega⟩, by omega⟩
        · skip
          refine J.exit rfl <| J.seq <| J.seq <| J.reg rfl <| O.mv rfl <| O.mv rfl <| O.slh (hi := k) rfl rfl rfl (by omega) <| O.mv rfl <| O.call rfl (ref06_Formed_ok s57.to h'.to htk hs.2.1.small (by omega)) fun W59 v59 i59 e59 h59 => ?_
          obtain ⟨b3, rfl, hb3⟩ := h59
          refine O.not rfl <| O.mv rfl <| ?_
          by_cases hg61 : b3 = false
          · skip
            refine O.set (t := 61) (.bool true) rfl (by simp [hg61]) <| O.gs rfl rfl rfl <| O.gs rfl rfl rfl <| O.gs rfl rfl rfl <| O.gs rfl rfl rfl <| O.gs rfl rfl rfl <| O.gs rfl rfl rfl <| O.pickT rfl rfl <| O.mv rfl <| O.gs rfl rfl rfl <| O.gs rfl rfl rfl <| O.gs rfl rfl rfl <| O.pickT rfl rfl <| JO.nil <| J.condT rfl <| J.seq <| J.reg rfl <| O.as rfl <| JO.nil <| J.ret1 rfl (.tmp rfl) fun W' iE iP => ?_
            rfl
          · skip
            refine O.set (t := 61) (.bool false) rfl (by simp at hg61; simp [hg61]) <| O.gt rfl rfl <| O.mv rfl <| O.gt rfl rfl <| O.mv rfl <| O.gt rfl rfl <| O.slh (hi := k) rfl rfl rfl (by omega) <| O.gt rfl rfl <| O.mv rfl <| O.gt rfl rfl <| O.call rfl (ref06_Formed_ok s64.to h2.to htk hs2.2.1.small (by omega)) fun W66 v66 i66 e66 h66 => ?_
            obtain ⟨b4, rfl, hb4⟩ := h66
            refine O.gt rfl rfl <| O.not rfl <| O.pickF rfl rfl <| O.mv rfl <| ?_
            by_cases hg69 : b4 = false
            · skip
              refine O.set (t := 69) (.bool true) rfl (by simp [hg69]) <| O.gs rfl rfl rfl <| O.gs rfl rfl rfl <| O.gs rfl rfl rfl <| O.pickT rfl rfl <| JO.nil <| J.condT rfl <| J.seq <| J.reg rfl <| O.as rfl <| JO.nil <| J.ret1 rfl (.tmp rfl) fun W' iE iP => ?_
              rfl
            · skip
              refine O.set (t := 69) (.bool false) rfl (by simp at hg69; simp [hg69]) <| O.gt rfl rfl <| O.mv rfl <| O.gt rfl rfl <| O.call rfl (ref08_Reduced_ok (N := 3) (r := 1537) h.to hs.st (by omega) (by omega) hs.szt bds3.q1 bds3.v1 bds3.z1) fun W71 v71 i71 e71 h71 => ?_
              obtain ⟨b5, rfl, hb5⟩ := h71
              refine O.gt rfl rfl <| O.not rfl <| O.pickF rfl rfl <| JO.nil <| J.cond rfl (fun h73 => ?_) (fun h73 => ?_)
              · skip
                refine J.seq <| J.reg rfl <| O.as rfl <| JO.nil <| J.ret1 rfl (.tmp rfl) fun W' iE iP => ?_
                rfl
              · skip
                have hf3 := (hb3.1 (by simpa using hg61)).2
                have hf4 := (hb4.1 (by simpa using hg69)).2
                rw [hkl] at hf3 hf4
                obtain ⟨k', w, rfl, hw⟩ := hb5.1 (by simpa using h73)
                rw [ct_length] at hn
                obtain rfl : k + 1 = k' := hn
                have hk3 : k + 1 ≤ 3 := by rw [ct_length] at hs1; exact hs1
                obtain ⟨a, rfl⟩ := okE_typed hf3
                obtain ⟨b, rfl⟩ := okE_typed hf4
                have hTs := hs.szt.ts (List.take_of_length_le (l := ct (toT (k + 1) w)) (by rw [ct_length]; exact Nat.le_refl _))
                have haS := hs.2.1.szr _ rfl
                have hbS := hs2.2.1.szr _ rfl
                have hR := red_real hw
                have s76 := h.take k (by omega)
                rw [ct_succ, List.take_left' (by rw [ct, List.length_map, toT_length])] at s76
                have s83 := s76
                have s90 := s76
                have s99 := s76
                have s115 := s76
                have s130 := s76
                have s144 := s76
                have hst1 := small_ct hTs.1 (show 1537 ≤ 17592186044416 by decide)
                have hlk1 : ∀ l ∈ ct (toT k w.1), l.length ≤ 1000000 := fun l hl => Nat.le_trans (ct_lens w.1 (by omega) l hl) (by decide)
                have hcB := cB_le3 (show k ≤ 3 by omega)
                have hcB1 := cB_le3 (show k + 1 ≤ 3 by omega)
                have haU := up_sz haS
                have hbU := up_sz hbS
                have hsS : Sz 3075 (toL k (add k a b)) := by rw [toL_add]; exact haS.add hbS
                have hpS := (haS.mul hTs.1 hbS).mono (show 1537 + 1537 + cB 1537 k ≤ 20000 by omega)
                have hsU : Sz 4000 (toL (k + 1) (up k (add k a b))) := (up_sz hsS).mono (by decide)
                have hpU : Sz 30000 (toL (k + 1) (up k (mul k w.1 a b))) := (up_sz hpS).mono (by decide)
                have hpk := pow_le (show k + 1 ≤ 16 by omega)
                have hlu : ∀ y : El (k + 1), (cl (toL (k + 1) y)).length ≤ 65536 := fun y => by rw [cl_length, toL_length]; exact hpk
                have hlk0 : ∀ y : El k, (cl (toL k y)).length ≤ 65536 := fun y => by rw [cl_length, toL_length]; exact pow_le (by omega)
                have hsg : SgnIs (ct (toT (k + 1) w)) (cl (toL (k + 1) (up k a))) (sgn k w.1 a) := by rw [← sgn_up (t := w) a hR.1]; exact SgnIs.ct hR
                refine J.skip <| J.seq <| ?_
                refine J.draw [.ex _, .ex _, .ex _, .rel _, .ex _, .rel _, .rel _, .ex _, .ex _, .ex _, .rel _, .ex _] rfl rfl ⟨fun Wd id ed _ => O.mv rfl <| D.ex, fun Wd id ed _ => O.mv rfl <| D.ex, fun Wd id ed _ => O.slh (hi := k) rfl rfl rfl (by omega) <| D.ex, fun Wd id ed _ => O.call rfl (law08_copied_ok s76.to (by omega) hlk1) fun Wd vd id ed hd => D.rel ed hd V.me, fun Wd id ed _ => O.mv rfl <| D.ex, fun Wd id ed _ => fun v77 h77 => (by obtain ⟨p77, m77, c77, rfl, s77⟩ := h77.sl; exact O.call rfl (law08_own_ok h'.to (by omega)) fun Wd vd id ed hd => D.rel ed hd V.me), fun Wd id ed _ => fun v77 h77 => fun _ _ => fun v79 h79 => (by obtain ⟨p77, m77, c77, rfl, s77⟩ := h77.sl; obtain ⟨p79, m79, c79, rfl, s79⟩ := h79.sl; exact O.call rfl (root_Lift_ok (lift1 (w := w.1) (a := a) (by omega)) s77.to s79.to hst1 (small_cl haS.qs' (by decide)) (by rw [s77.hn, ct_length]; omega) (by decide)) fun Wd vd id ed hd => D.rel ed hd V.me), fun Wd id ed _ => O.mv rfl <| D.ex, fun Wd id ed _ => O.mv rfl <| D.ex, fun Wd id ed _ => O.slh (hi := k) rfl rfl rfl (by omega) <| D.ex, fun Wd id ed _ => fun v80 h80 => (by obtain ⟨p80, m80, c80, rfl, s80⟩ := h80.sl; exact O.call rfl (law08_copied_ok s83.to (by omega) hlk1) fun Wd vd id ed hd => D.rel ed hd V.me), fun Wd id ed _ => O.mv rfl <| D.ex, trivial⟩ ?_
                intro Wr14 ir14 er14 v77 h77 v79 h79 v80 h80 v84 h84
                obtain ⟨p77, m77, c77, rfl, s77⟩ := h77.sl
                obtain ⟨p79, m79, c79, rfl, s79⟩ := h79.sl
                obtain ⟨p80, m80, c80, rfl, s80⟩ := h80.sl
                obtain ⟨p84, m84, c84, rfl, s84⟩ := h84.sl
                refine O.call rfl (law08_own_ok h2.to (by omega)) fun W86 v86 i86 e86 h86 => ?_
                obtain ⟨p86, m86, c86, rfl, s86⟩ := h86.sl
                refine O.call rfl (root_Lift_ok (lift1 (w := w.1) (a := b) (by omega)) s84.to s86.to hst1 (small_cl hbS.qs' (by decide)) (by rw [s84.hn, ct_length]; omega) (by decide)) fun W87 v87 i87 e87 h87 => ?_
                obtain ⟨p87, m87, c87, rfl, s87⟩ := h87.sl
                refine O.as rfl <| O.as rfl <| JO.nil <| J.seq <| ?_
                refine J.draw [.ex _, .ex _, .ex _, .rel _, .ex _, .rel _, .ex _, .rel _, .rel _, .ex _, .ex _, .ex _, .rel _, .ex _, .rel _, .ex _] rfl rfl ⟨fun Wd id ed _ => O.mv rfl <| D.ex, fun Wd id ed _ => O.mv rfl <| D.ex, fun Wd id ed _ => O.slh (hi := k) rfl rfl rfl (by omega) <| D.ex, fun Wd id ed _ => O.call rfl (law08_copied_ok s90.to (by omega) hlk1) fun Wd vd id ed hd => D.rel ed hd V.me, fun Wd id ed _ => O.mv rfl <| D.ex, fun Wd id ed _ => fun v91 h91 => (by obtain ⟨p91, m91, c91, rfl, s91⟩ := h91.sl; exact O.call rfl (law08_own_ok h'.to (by omega)) fun Wd vd id ed hd => D.rel ed hd V.me), fun Wd id ed _ => O.mv rfl <| D.ex, fun Wd id ed _ => fun v93 h93 => (by obtain ⟨p93, m93, c93, rfl, s93⟩ := h93.sl; exact O.call rfl (law08_own_ok h2.to (by omega)) fun Wd vd id ed hd => D.rel ed hd V.me), fun Wd id ed _ => fun v91 h91 => fun v93 h93 => fun _ _ => fun v95 h95 => (by obtain ⟨p91, m91, c91, rfl, s91⟩ := h91.sl; obtain ⟨p93, m93, c93, rfl, s93⟩ := h93.sl; obtain ⟨p95, m95, c95, rfl, s95⟩ := h95.sl; exact O.call rfl (tower_Add_ok s91.to s93.to s95.to hTs.1 haS hbS (by omega) (by decide) (by decide)) fun Wd vd id ed hd => D.rel ed hd V.me), fun Wd id ed _ => O.mv rfl <| D.ex, fun Wd id ed _ => O.mv rfl <| D.ex, fun Wd id ed _ => O.slh (hi := k) rfl rfl rfl (by omega) <| D.ex, fun Wd id ed _ => fun v96 h96 => (by obtain ⟨p96, m96, c96, rfl, s96⟩ := h96.sl; exact O.call rfl (law08_copied_ok s99.to (by omega) hlk1) fun Wd vd id ed hd => D.rel ed hd V.me), fun Wd id ed _ => O.mv rfl <| D.ex, fun Wd id ed _ => fun v100 h100 => (by obtain ⟨p100, m100, c100, rfl, s100⟩ := h100.sl; exact O.call rfl (law08_own_ok h'.to (by omega)) fun Wd vd id ed hd => D.rel ed hd V.me), fun Wd id ed _ => O.mv rfl <| D.ex, trivial⟩ ?_
                intro Wr15 ir15 er15 v91 h91 v93 h93 v95 h95 v96 h96 v100 h100 v102 h102
                obtain ⟨p91, m91, c91, rfl, s91⟩ := h91.sl
                obtain ⟨p93, m93, c93, rfl, s93⟩ := h93.sl
                obtain ⟨p95, m95, c95, rfl, s95⟩ := h95.sl
                obtain ⟨p96, m96, c96, rfl, s96⟩ := h96.sl
                obtain ⟨p100, m100, c100, rfl, s100⟩ := h100.sl
                obtain ⟨p102, m102, c102, rfl, s102⟩ := h102.sl
                refine O.call rfl (law08_own_ok h2.to (by omega)) fun W104 v104 i104 e104 h104 => ?_
                obtain ⟨p104, m104, c104, rfl, s104⟩ := h104.sl
                refine O.call rfl (tower_Mul_ok s100.to s102.to s104.to hTs.1 haS hbS (by omega) (by omega) (by decide)) fun W105 v105 i105 e105 h105 => ?_
                obtain ⟨p105, m105, c105, rfl, s105⟩ := h105.sl
                refine O.as rfl <| O.as rfl <| JO.nil <| J.seq <| ?_
                refine J.drawQ (106 :: 107 :: 108 :: 109 :: 110 :: 111 :: 112 :: 113 :: 114 :: 115 :: 116 :: 117 :: 118 :: 119 :: 120 :: 121 :: 122 :: 123 :: 124 :: 125 :: 126 :: 127 :: 128 :: 129 :: 130 :: 131 :: 132 :: 133 :: 134 :: 135 :: 136 :: 137 :: 138 :: 139 :: 140 :: 141 :: 142 :: 143 :: 144 :: 145 :: 146 :: 147 :: 148 :: []) ([] :: [(0, 106)] :: [] :: [(2, 108), (1, 107)] :: [] :: [(4, 110), (3, 109)] :: [(1, 107), (3, 109), (5, 111), (5, 111)] :: [] :: [] :: [(7, 113), (8, 114)] :: [(9, 115), (6, 112)] :: [] :: [(10, 116), (11, 117), (10, 116)] :: [(6, 112), (12, 118), (12, 118)] :: [(13, 119), (13, 119)] :: [(14, 120)] :: [(15, 121), (14, 120), (14, 120)] :: [(14, 120)] :: [(17, 123), (16, 122), (14, 120)] :: [(14, 120)] :: [(19, 125), (18, 124), (14, 120)] :: [(16, 122), (18, 124), (20, 126), (20, 126), (14, 120)] :: [(14, 120)] :: [(14, 120)] :: [(22, 128), (23, 129), (14, 120)] :: [(24, 130), (21, 127), (14, 120)] :: [(14, 120)] :: [(25, 131), (26, 132), (25, 131), (14, 120)] :: [(21, 127), (27, 133), (27, 133), (14, 120)] :: [(14, 120), (28, 134)] :: [(29, 135), (28, 134)] :: [(30, 136)] :: [(31, 137), (30, 136), (30, 136)] :: [(30, 136)] :: [(33, 139), (32, 138), (30, 136)] :: [(32, 138), (34, 140), (34, 140), (30, 136)] :: [(30, 136)] :: [(30, 136)] :: [(36, 142), (37, 143), (30, 136)] :: [(30, 136)] :: [(38, 144), (39, 145), (35, 141), (30, 136)] :: [(35, 141), (40, 146), (30, 136)] :: [(30, 136), (41, 147)] :: []) (0 :: 1 :: 0 :: 2 :: 0 :: 3 :: 4 :: 0 :: 0 :: 1 :: 5 :: 0 :: 6 :: 7 :: 8 :: 9 :: 10 :: 9 :: 11 :: 9 :: 12 :: 13 :: 9 :: 9 :: 10 :: 14 :: 9 :: 15 :: 16 :: 17 :: 18 :: 19 :: 20 :: 19 :: 21 :: 22 :: 19 :: 19 :: 20 :: 19 :: 23 :: 24 :: 25 :: []) (43 :: 43 :: 43 :: 43 :: 43 :: 43 :: 43 :: 43 :: 43 :: 43 :: 43 :: 43 :: 43 :: 43 :: 43 :: 43 :: 43 :: 43 :: 43 :: 43 :: 43 :: 43 :: 43 :: 43 :: 43 :: 43 :: 43 :: 43 :: 43 :: 43 :: 43 :: 43 :: 43 :: 43 :: 43 :: 43 :: 43 :: 43 :: 43 :: 43 :: 43 :: 43 :: 43 :: []) (.ex _ :: .rel _ :: .ex _ :: .rel _ :: .ex _ :: .rel _ :: .rel _ :: .ex _ :: .ex _ :: .ex _ :: .rel _ :: .ex _ :: .rel _ :: .ex _ :: .ex _ :: .ex _ :: .rel _ :: .ex _ :: .rel _ :: .ex _ :: .rel _ :: .rel _ :: .ex _ :: .ex _ :: .ex _ :: .rel _ :: .ex _ :: .rel _ :: .ex _ :: .ex _ :: .ex _ :: .ex _ :: .rel _ :: .ex _ :: .rel _ :: .ex _ :: .ex _ :: .ex _ :: .ex _ :: .ex _ :: .ex _ :: .ex _ :: .ex _ :: []) (false :: false :: false :: false :: false :: false :: false :: false :: false :: false :: false :: false :: false :: false :: false :: false :: false :: false :: false :: false :: false :: false :: false :: false :: false :: false :: false :: false :: false :: false :: false :: false :: false :: false :: false :: false :: false :: false :: false :: false :: false :: false :: false :: []) (by decide +kernel) rfl rfl rfl ⟨fun Wd id ed Lq hLq _ => O.mv rfl <| D.ex, fun Wd id ed Lq hLq _ => O.call rfl (law08_copied_ok h.to (by omega) hs.len) fun Wd vd id ed hd => D.rel ed hd V.me, fun Wd id ed Lq hLq _ => O.mv rfl <| D.ex, fun Wd id ed Lq hLq _ => fun v107 h107 => (by obtain ⟨p107, m107, c107, rfl, s107⟩ := h107.sl; exact O.call rfl (law08_own_ok s80.to (by rw [s80.hn]; exact Nat.le_trans (hlu _) (by decide))) fun Wd vd id ed hd => D.rel ed hd V.me), fun Wd id ed Lq hLq _ => O.mv rfl <| D.ex, fun Wd id ed Lq hLq _ => fun v109 h109 => (by obtain ⟨p109, m109, c109, rfl, s109⟩ := h109.sl; exact O.call rfl (law08_own_ok s87.to (by rw [s87.hn]; exact Nat.le_trans (hlu _) (by decide))) fun Wd vd id ed hd => D.rel ed hd V.me), fun Wd id ed Lq hLq _ => fun v107 h107 => fun v109 h109 => fun _ _ => fun v111 h111 => (by obtain ⟨p107, m107, c107, rfl, s107⟩ := h107.sl; obtain ⟨p109, m109, c109, rfl, s109⟩ := h109.sl; obtain ⟨p111, m111, c111, rfl, s111⟩ := h111.sl; exact O.call rfl (tower_Add_ok s107.to s109.to s111.to hTs haU hbU (by omega) (by decide) (by decide)) fun Wd vd id ed hd => D.rel ed hd V.me), fun Wd id ed Lq hLq _ => O.mv rfl <| D.ex, fun Wd id ed Lq hLq _ => O.mv rfl <| D.ex, fun Wd id ed Lq hLq _ => O.slh (hi := k) rfl rfl rfl (by omega) <| D.ex, fun Wd id ed Lq hLq _ => fun v112 h112 => (by obtain ⟨p112, m112, c112, rfl, s112⟩ := h112.sl; exact O.call rfl (law08_copied_ok s115.to (by omega) hlk1) fun Wd vd id ed hd => D.rel ed hd V.me), fun Wd id ed Lq hLq _ => O.mv rfl <| D.ex, fun Wd id ed Lq hLq _ => fun _ _ => fun v116 h116 => (by obtain ⟨p116, m116, c116, rfl, s116⟩ := h116.sl; exact O.call rfl (root_Lift_ok (lift1 (w := w.1) (a := add k a b) (by omega)) s116.to s96.to hst1 (small_cl hsS.qs' (by decide)) (by rw [s116.hn, ct_length]; omega) (by decide)) fun Wd vd id ed hd => D.rel ed hd V.me), fun Wd id ed Lq hLq _ => fun v112 h112 => fun _ _ => fun v118 h118 => (by obtain ⟨p112, m112, c112, rfl, s112⟩ := h112.sl; obtain ⟨p118, m118, c118, rfl, s118⟩ := h118.sl; exact O.call rfl (ref08_Same_ok (xs := toL (k + 1) (up k (add k a b))) (by rw [← add_up w.1]; exact s112.to) s118.to hsU (by decide)) fun Wd vd id ed hd => D.eq ed hd), fun Wd id ed Lq hLq _ => O.mv rfl <| D.ex, fun Wd id ed Lq hLq _ => O.gt (hLq _ _ rfl) rfl <| O.mv rfl <| D.ex, fun Wd id ed Lq hLq _ => O.gt (hLq _ _ rfl) rfl <| O.call rfl (law08_copied_ok h.to (by omega) hs.len) fun Wd vd id ed hd => D.rel ed hd V.me, fun Wd id ed Lq hLq _ => O.gt (hLq _ _ rfl) rfl <| O.mv rfl <| D.ex, fun Wd id ed Lq hLq _ => fun v122 h122 => (by obtain ⟨p122, m122, c122, rfl, s122⟩ := h122.sl; exact O.gt (hLq _ _ rfl) rfl <| O.call rfl (law08_own_ok s80.to (by rw [s80.hn]; exact Nat.le_trans (hlu _) (by decide))) fun Wd vd id ed hd => D.rel ed hd V.me), fun Wd id ed Lq hLq _ => O.gt (hLq _ _ rfl) rfl <| O.mv rfl <| D.ex, fun Wd id ed Lq hLq _ => fun v124 h124 => (by obtain ⟨p124, m124, c124, rfl, s124⟩ := h124.sl; exact O.gt (hLq _ _ rfl) rfl <| O.call rfl (law08_own_ok s87.to (by rw [s87.hn]; exact Nat.le_trans (hlu _) (by decide))) fun Wd vd id ed hd => D.rel ed hd V.me), fun Wd id ed Lq hLq _ => fun v122 h122 => fun v124 h124 => fun _ _ => fun v126 h126 => (by obtain ⟨p122, m122, c122, rfl, s122⟩ := h122.sl; obtain ⟨p124, m124, c124, rfl, s124⟩ := h124.sl; obtain ⟨p126, m126, c126, rfl, s126⟩ := h126.sl; exact O.gt (hLq _ _ rfl) rfl <| O.call rfl (tower_Mul_ok s122.to s124.to s126.to hTs haU hbU (by omega) (by omega) (by decide)) fun Wd vd id ed hd => D.rel ed hd V.me), fun Wd id ed Lq hLq _ => O.gt (hLq _ _ rfl) rfl <| O.mv rfl <| D.ex, fun Wd id ed Lq hLq _ => O.gt (hLq _ _ rfl) rfl <| O.mv rfl <| D.ex, fun Wd id ed Lq hLq _ => O.gt (hLq _ _ rfl) rfl <| O.slh (hi := k) rfl rfl rfl (by omega) <| D.ex, fun Wd id ed Lq hLq _ => fun v127 h127 => (by obtain ⟨p127, m127, c127, rfl, s127⟩ := h127.sl; exact O.gt (hLq _ _ rfl) rfl <| O.call rfl (law08_copied_ok s130.to (by omega) hlk1) fun Wd vd id ed hd => D.rel ed hd V.me), fun Wd id ed Lq hLq _ => O.gt (hLq _ _ rfl) rfl <| O.mv rfl <| D.ex, fun Wd id ed Lq hLq _ => fun _ _ => fun v131 h131 => (by obtain ⟨p131, m131, c131, rfl, s131⟩ := h131.sl; exact O.gt (hLq _ _ rfl) rfl <| O.call rfl (root_Lift_ok (lift1 (w := w.1) (a := mul k w.1 a b) (by omega)) s131.to s105.to hst1 (small_cl hpS.qs' (by decide)) (by rw [s131.hn, ct_length]; omega) (by decide)) fun Wd vd id ed hd => D.rel ed hd V.me), fun Wd id ed Lq hLq _ => fun v127 h127 => fun _ _ => fun v133 h133 => (by obtain ⟨p127, m127, c127, rfl, s127⟩ := h127.sl; obtain ⟨p133, m133, c133, rfl, s133⟩ := h133.sl; exact O.gt (hLq _ _ rfl) rfl <| O.call rfl (ref08_Same_ok (xs := toL (k + 1) (up k (mul k w.1 a b))) (by rw [← mul_up k w]; exact s127.to) s133.to hpU (by decide)) fun Wd vd id ed hd => D.eq ed hd), fun Wd id ed Lq hLq _ => O.pickT rfl rfl <| D.ex, fun Wd id ed Lq hLq _ => O.mv rfl <| D.ex, fun Wd id ed Lq hLq _ => O.gt (hLq _ _ rfl) rfl <| O.mv rfl <| D.ex, fun Wd id ed Lq hLq _ => O.gt (hLq _ _ rfl) rfl <| O.call rfl (law08_copied_ok h.to (by omega) hs.len) fun Wd vd id ed hd => D.rel ed hd V.me, fun Wd id ed Lq hLq _ => O.gt (hLq _ _ rfl) rfl <| O.mv rfl <| D.ex, fun Wd id ed Lq hLq _ => fun v138 h138 => (by obtain ⟨p138, m138, c138, rfl, s138⟩ := h138.sl; exact O.gt (hLq _ _ rfl) rfl <| O.call rfl (law08_own_ok s80.to (by rw [s80.hn]; exact Nat.le_trans (hlu _) (by decide))) fun Wd vd id ed hd => D.rel ed hd V.me), fun Wd id ed Lq hLq _ => fun v138 h138 => fun _ _ => fun v140 h140 => (by obtain ⟨p138, m138, c138, rfl, s138⟩ := h138.sl; obtain ⟨p140, m140, c140, rfl, s140⟩ := h140.sl; exact O.gt (hLq _ _ rfl) rfl <| O.call rfl (sign_Sign_ok (r := 1537) (s := 1538) hsg s138.to s140.to hs.st (small_cl haU.qs' (by decide)) (by rw [s138.hn, ct_length]; omega) (TSR_ct hTs) (SZR_cl haU) (by rw [s138.hn, ct_length]; exact Nat.le_trans (vB_le _ _ (show k + 1 ≤ 4 by omega)) S0_w) (by rw [s138.hn, ct_length]; exact Nat.le_trans (vB_le _ _ (show k + 1 ≤ 4 by omega)) (by decide +kernel))) fun Wd vd id ed hd => D.eq ed hd), fun Wd id ed Lq hLq _ => O.gt (hLq _ _ rfl) rfl <| O.mv rfl <| D.ex, fun Wd id ed Lq hLq _ => O.gt (hLq _ _ rfl) rfl <| O.mv rfl <| D.ex, fun Wd id ed Lq hLq _ => O.gt (hLq _ _ rfl) rfl <| O.slh (hi := k) rfl rfl rfl (by omega) <| D.ex, fun Wd id ed Lq hLq _ => O.gt (hLq _ _ rfl) rfl <| O.mv rfl <| D.ex, fun Wd id ed Lq hLq _ => O.gt (hLq _ _ rfl) rfl <| O.call rfl (ref07_Sign_ok (r := 1537) (s := 1537) (SgnIs.ct (a := a) hR.1) s144.to h'.to hst1 hs.2.1.small (by omega) (TSR_ct hTs.1) (SZR_cl haS) (Nat.le_trans (vB_le _ _ (show k ≤ 4 by omega)) S0_w) (Nat.le_trans (vB_le _ _ (show k ≤ 4 by omega)) S0_w)) fun Wd vd id ed hd => D.eq ed hd, fun Wd id ed Lq hLq _ => O.gt (hLq _ _ rfl) rfl <| O.eq rfl rfl <| D.ex, fun Wd id ed Lq hLq _ => O.pickT rfl rfl <| D.ex, trivial⟩ ?_
                intro Wr16 ir16 er16 v107 h107 v109 h109 v111 h111 v112 h112 v116 h116 v118 h118 v122 h122 v124 h124 v126 h126 v127 h127 v131 h131 v133 h133 v138 h138 v140 h140
                refine O.as rfl <| JO.nil <| J.ret1 rfl (.tmp rfl) fun W' iE iP => ?_
                rw [decide_eq_true rfl]
end
end Go.Proofs.YtcaikjefkkejbaaGreat

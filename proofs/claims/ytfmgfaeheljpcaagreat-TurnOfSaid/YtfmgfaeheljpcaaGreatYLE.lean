/- numbers: the reference's common towers. -/
import Derived.Test.YtfmgfaeheljpcaaGreatYLD
import Derived.Test.YtfmgfaeheljpcaaGreatYTO
set_option linter.unusedVariables false
set_option linter.unusedSimpArgs false
set_option maxRecDepth 10000
namespace Go.Proofs.YtfmgfaeheljpcaaGreat.R9
open Go Go.Vm Go.Num Go.Tow Go.Proofs.YtfmgfaeheljpcaaGreat
theorem _root_.Go.Tow.RtV.sig {K : Nat} {G : Tw K} {m z j : Nat} {rs : List (List Rat)} {ρ ρu : Nat → Tow.El K} (h : RtV G m z j rs ρ ρu) : ∃ σ : Nat → Tow.El m, Rts m z j rs σ ∧ ∀ i, i < j → ev G ρ m (σ i) = ρu i := by
  have : ∀ i, ∃ b : Tow.El m, i < j → (∃ (n : Nat) (s : Tow.El n), n ≤ m ∧ rs[i]? = some (toL n s) ∧ Lf s b ∧ Sz z (toL m b)) ∧ ev G ρ m b = ρu i := fun i => by
    by_cases hi : i < j
    · obtain ⟨n, s, h1, h2, h3, h4⟩ := h i hi
      obtain ⟨b, hb⟩ := Lf.ex h1 s
      exact ⟨b, fun _ => ⟨⟨n, s, h1, h2, hb, hb.sz h3⟩, by rw [hb.ev h1, h4]⟩⟩
    · exact ⟨zero m, fun h => absurd h hi⟩
  obtain ⟨σ, hσ⟩ := Classical.axiomOfChoice this
  exact ⟨σ, fun i hi => (hσ i hi).1, fun i hi => (hσ i hi).2⟩
theorem root_sz (m : Nat) : Sz 3 (toL (m + 1) (root (m + 1) m)) := by
  rw [root_top]
  exact ((Sz.zero m).append (Sz.rat m (x := 1) (p := 1) ⟨show (1 : Rat).num.natAbs < 2 ^ 1 by decide +kernel, show ((1 : Rat).den : Int).natAbs < 2 ^ 1 by decide +kernel⟩)).mono (by omega)
section
variable {K : Nat} {G : Tw K} {S : List (Tow.El K)} {k l : Nat} {t : Tw k} {u : Tw l} {ρ ρu : Nat → Tow.El K}
/-- what extending comes back with: r is how the roots lie behind the tower -/
def ExQ (G : Tw K) (S : List (Tow.El K)) (l k : Nat) (t : Tw k) (ρ ρu : Nat → Tow.El K) (f : D → D → AV) (v : AV) : Prop := ∃ (m : Nat) (T : Tw m) (rs : List (List Rat)) (ρ' : Nat → Tow.El K), v = f (dt T) (dts rs) ∧
  TOk G S m T ρ' ∧ Beg k t m T ∧ (∀ i, i < k → ρ' i = ρ i) ∧ RtV G m (zM wR 3) l rs ρ' ρu ∧ ((∀ i, i < l → ∃ e : Tow.El k, ev G ρ k e = ρu i) → toT m T = toT k t)
/-- where extending stands -/
def ExI (G : Tw K) (S : List (Tow.El K)) (l k : Nat) (t : Tw k) (ρ ρu : Nat → Tow.El K) (x : Nat × (Σ m, Tw m) × List (List Rat)) : Prop := x.1 ≤ l ∧ x.2.2.length = x.1 ∧ ∃ ρ' : Nat → Tow.El K, TOk G S x.2.1.1 x.2.1.2 ρ' ∧ Beg k t x.2.1.1 x.2.1.2 ∧ (∀ i, i < k → ρ' i = ρ i) ∧ RtV G x.2.1.1 (zM wR 3) x.1 x.2.2 ρ' ρu ∧ ((∀ i, i < l → ∃ e : Tow.El k, ev G ρ k e = ρu i) → toT x.2.1.1 x.2.1.2 = toT k t)
theorem ExI.sq (W : Wy G S wR) (hu : TOk G S l u ρu) {i m : Nat} {T : Tw m} {rs : List (List Rat)} {x : Tow.El i} (h : ExI G S l k t ρ ρu (i, ⟨m, T⟩, rs)) (hil : i < l) {σ : Nat → Tow.El m} {ρ' : Nat → Tow.El K} (hT : TOk G S m T ρ') (hB : Beg k t m T) (ha : ∀ i, i < k → ρ' i = ρ i) (hrt : RtV G m (zM wR 3) i rs ρ' ρu) (hc : (∀ i, i < l → ∃ e : Tow.El k, ev G ρ k e = ρu i) → toT m T = toT k t) (s2 : ∀ j, j < i → ev G ρ' m (σ j) = ρu j) (hev : ev G ρ' m (ev T σ i x) = mul K G (ρu i) (ρu i)) (x4 : sgn K G (ρu i) = 1) {y : Tow.El m} (h1 : mul m T y y = ev T σ i x) (h2 : 0 ≤ sgn m T y) : ExI G S l k t ρ ρu (i + 1, ⟨m, T⟩, rs ++ [toL m y]) := by
  have hG := W.g
  have hGr := red_real hG
  have hl3 := W.le hu
  obtain ⟨_, hrl, _⟩ := h
  have hrl : rs.length = i := hrl
  have hy : ev G ρ' m y = ρu i := sq_pos hG (by rw [← ev_mul hT.h, h1, hev]) (by rw [ev_sgn hGr hT.h]; exact h2) (by rw [x4]; decide)
  exact ⟨hil, by simp [hrl], ρ', hT, hB, ha, hrt.snoc hrl (Nat.le_refl _) ((rt_sz W hT hu i hil (fun j hj => ⟨σ j, s2 j hj⟩) y hy).mono (zM_le (by omega))) hy, hc⟩
theorem ExI.new (W : Wy G S wR) (hu : TOk G S l u ρu) {i m : Nat} {T : Tw m} {rs : List (List Rat)} {x : Tow.El i} (h : ExI G S l k t ρ ρu (i, ⟨m, T⟩, rs)) (hil : i < l) {σ : Nat → Tow.El m} {ρ' : Nat → Tow.El K} (hT : TOk G S m T ρ') (hB : Beg k t m T) (ha : ∀ i, i < k → ρ' i = ρ i) (hrt : RtV G m (zM wR 3) i rs ρ' ρu) (hev : ev G ρ' m (ev T σ i x) = mul K G (ρu i) (ρu i)) (x4 : sgn K G (ρu i) = 1) (h2 : ¬ isSq m T (ev T σ i x)) : ExI G S l k t ρ ρu (i + 1, ⟨m + 1, tsn T (ev T σ i x)⟩, rs ++ [toL (m + 1) (root (m + 1) m)]) := by
  have hG := W.g
  have hGr := red_real hG
  obtain ⟨_, hrl, _⟩ := h
  have hrl : rs.length = i := hrl
  have hT' := hT.snoc hGr h2 (hu.s i hil) (a := ev T σ i x) hev.symm x4
  refine ⟨hil, by simp [hrl], _, hT', hB.tr Beg.snoc, fun j hj => ?_, ?_, fun hh => ?_⟩
  · have := hB.le
    show (if j = m then ρu i else ρ' j) = ρ j
    rw [if_neg (by omega), ha j hj]
  · refine (hrt.mono (Nat.le_succ _) (Nat.le_refl _) (fun j hj => if_neg (by omega))).snoc hrl (Nat.le_refl _) ((root_sz m).mono (by rw [wZ]; decide)) ?_
    rw [ev_root (by omega)]; exact if_pos rfl
  · obtain ⟨b, hb⟩ := hh i hil
    obtain ⟨b', hb'⟩ := Lf.ex hB.le b
    refine absurd ⟨b', ev_inj hGr hT.h hT.r ?_⟩ h2
    rw [ev_mul hT.h, hb'.ev hB.le, ev_congr ha, hb, hev]
/-- what a step of extending asks -/
def ExB (m : Nat) : Prop := qB wR m wE ≤ 4398046511104 ∧ qB wR m wR ≤ 4398046511104 ∧ vB wR m (wE + gC wR m) ≤ 4398046511104 ∧ vB wR m wR ≤ 4398046511104
theorem exB {m : Nat} (hm : m ≤ 3) : ExB m := by
  obtain ⟨q1, q2, q3, q4⟩ := wQ
  have p1 := qB_le (r := wR) (p := wE) hm
  have p2 := qB_le (r := wR) (p := wR) hm
  have p3 := gC_le (r := wR) hm
  have p4 := vB_mono (r := wR) (k := m) (show wE + gC wR m ≤ wE + gC wR 3 by omega)
  have p5 := vB_le (r := wR) (s := wE + gC wR 3) hm
  have p6 := vB_le (r := wR) (s := wR) hm
  exact ⟨by omega, by omega, by omega, by omega⟩
/-- the radicand that a step adjoins -/
theorem ExI.rad (W : Wy G S wR) (hu : TOk G S l u ρu) {i m : Nat} {T : Tw m} {rs : List (List Rat)} {ρ' : Nat → Tow.El K} (hil : i < l) (hT : TOk G S m T ρ') (hrt : RtV G m (zM wR 3) i rs ρ' ρu) : ∃ (x : Tow.El i) (σ : Nat → Tow.El m), (toT l u)[i]? = some (toL i x) ∧ Sz wR (toL i x) ∧ Rts m (zM wR 3) i rs σ ∧ (∀ j, j < i → ev G ρ' m (σ j) = ρu j) ∧ ev G ρ' m (ev T σ i x) = mul K G (ρu i) (ρu i) ∧ sgn K G (ρu i) = 1 ∧ Sz wE (toL m (ev T σ i x)) := by
  have hl3 := W.le hu
  have hm3 := W.le hT
  obtain ⟨x, x1, x2, x3⟩ := Tw.at (t := u) hil
  have x2 := x2 wR (W.t hu)
  obtain ⟨x3, x4⟩ := x3 hu.h
  obtain ⟨σ, s1, s2⟩ := hrt.sig
  exact ⟨x, σ, x1, x2, s1, s2, by rw [ev_ev hT.h s2, x3], x4, (ev_sz (W.t hT) (a := x) (fun i' h' => (s1 i' h').elim fun _ h => h.elim fun _ h => h.2.2.2) x2).mono (wE_im hm3 (by omega))⟩
theorem extend_ok (W : Wy G S wR) (ht : TOk G S k t ρ) (hu : TOk G S l u ρu) : C0 242 [.d (dt t), .d (dt u)] (ExQ G S l k t ρ ρu fun T rs => .tup (.pr (.d T) (.pr (.d rs) (.d (.int .i64 0))))) := by
  have hl3 : l ≤ 3 := W.le hu
  refine En Tryz.func242 fun _ _ => ?_
  refine Nl 7 7 1 rfl ?_
  refine Lo (fun (x : Nat × (Σ m, Tw m) × List (List Rat)) => [(0, .d (dt x.2.1.2)), (1, .d (dt u)), (7, .gr 7 1 (x.2.2.map dqs)), (8, .d (.int .i64 x.1))]) (fun x => [(7, .tok (x.2.2.map dqs).length 1)])
    (ExI G S l k t ρ ρu) (fun x => l - x.1) (0, ⟨k, t⟩, []) [] rfl ⟨Nat.zero_le _, rfl, ρ, ht, Beg.rf, fun _ _ => rfl, fun i hi => by omega, fun _ => rfl⟩ (fun (i, ⟨m, T⟩, rs) hI => ?_)
  have hI' := hI
  obtain ⟨hi, hrl, ρ', hT, hB, ha, hrt, hc⟩ := hI
  simp only at hi hrl hT hB ha hrt hc
  have hm3 : m ≤ 3 := W.le hT
  have hz := W.t hT
  refine By rfl (fun h => ?_) fun h => ?_ <;> simp only [lt', toT_length] at h
  · have hil : i < l := by omega
    obtain ⟨x, σ, x1, x2, s1, s2, hev, x4, hsz⟩ := ExI.rad W hu hil hT hrt
    obtain ⟨q1, q2, q3, q4⟩ := exB hm3
    have hE := wE_im hm3 (show i ≤ 2 by omega)
    have hR := wR_eq
    have hE' := wE_eq
    have hlen : (rs.map dqs).length ≤ 3 := by rw [List.length_map]; omega
    refine Ix i rfl (mp x1) ?_
    refine Ce rfl (image_ok (k := m) (T := T) hz (by omega) s1 x2 (by omega) (by omega)) ?_
    refine Ca rfl (R8.Adjoin_ok (k := m) (t := T) hz hsz hT.r (by omega) q1 q2 q3 q4) fun v hv => ?_
    rcases hv with ⟨h1, rfl⟩ | ⟨y, h1, h2, rfl⟩ | ⟨h1, h2, h3, rfl⟩
    · have := ev_sgn (red_real W.g) hT.h (a := ev T σ i x)
      rw [hev, (sgn_ok (red_real W.g)).sm, x4] at this
      omega
    · refine No rfl (by simp) ?_
      refine ApG ((rs ++ [toL m y]).map dqs) rfl (by simp) (by simp at hlen ⊢; omega) ?_
      refine Ar (i + 1 : Nat) rfl ?_
      exact Bk (i + 1, ⟨m, T⟩, rs ++ [toL m y]) [(38, 7)] rfl (hI'.sq W hu hil hT hB ha hrt hc s2 hev x4 h1 h2) (by show l - (i + 1) < l - i; omega)
    · refine No rfl (by simp) ?_
      refine ApG ((rs ++ [toL (m + 1) (root (m + 1) m)]).map dqs) rfl (by simp) (by simp at hlen ⊢; omega) ?_
      refine Ar (i + 1 : Nat) rfl ?_
      exact Bk (i + 1, ⟨m + 1, tsn T (ev T σ i x)⟩, rs ++ [toL (m + 1) (root (m + 1) m)]) [(38, 7)] rfl (hI'.new W hu hil hT hB ha hrt hev x4 h2) (by show l - (i + 1) < l - i; omega)
  · obtain rfl : i = l := by omega
    exact Rt rfl (.tup (.cons (.rf rfl) (.cons (.gr rfl) fitI))) ⟨m, T, rs, ρ', rfl, hT, hB, ha, hrt, hc⟩
end
end Go.Proofs.YtfmgfaeheljpcaaGreat.R9

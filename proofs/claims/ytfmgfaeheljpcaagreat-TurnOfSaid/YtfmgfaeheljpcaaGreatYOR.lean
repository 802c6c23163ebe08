/- TurnOf, TurnTangent: the walks. -/
import Derived.Test.YtfmgfaeheljpcaaGreatYOF
import Derived.Test.YtfmgfaeheljpcaaGreatYOQ
import Derived.Test.YtfmgfaeheljpcaaGreatYOT
set_option linter.unusedVariables false
set_option linter.unusedSimpArgs false
set_option maxRecDepth 10000
namespace Go.Proofs.YtfmgfaeheljpcaaGreat
open Go Go.Vm Go.Num Go.Tow
section
variable {K : Nat} {G : Tw K} {S : List (Tow.El K)} {N : List Nm} {n m : Nat} {x y z : Nm} {a b : Tow.El K} {u s : Vn} {p q : V2 K} {f g : Int}
theorem Ww.trm (W : Ww G S N) (h : z ∈ N) : P19.Trm z := by
  obtain ⟨v, hv⟩ := W.n z h
  exact P9.Trim_tm hv.r hv.p (Nat.le_trans (hv.le (red_real W.w.w.g) W.w.w.s) (by decide)) (by decide) (by decide) (W.t z h)
theorem R15.Dot_g (W : Wn G S N) (hu : Gv G S N n u p) (hs : Gv G S N m s q) (hn : n ≤ 190) (hm : m ≤ 190) (h2 : n + m ≤ 190) : CN0 88 [.ptr 1000001 0, .d (dV u), .d (dV s)] [(1000001, cal)] (OnG G S N (n + m + (n + m)) (vdot G p q)) := by
  refine EnW Tryz.func88 fun _ _ _ => ?_
  refine Ca rfl (R13.Dot_g W hu hs hn hm h2) fun v hv => ?_
  obtain ⟨z, rfl, hz⟩ := hv
  refine Cn [] rfl R15.num_ok fun v hv => ?_
  subst hv
  exact Rw [] [(1000001, cal)] rfl (.one (.rf rfl) rfl rfl) ⟨rfl, z, rfl, hz⟩
theorem vcon_vcon (G : Tw K) : vcon (vcon p) = p := Prod.ext rfl ((ring K G).nn _)
theorem vmul_con2 : vmul G (vcon p) q = (vdot G p q, vcross G p q) := Prod.ext (by rw [← vmul_x, vcon_vcon G]) (by rw [← vmul_y, vcon_vcon G])
theorem R19.Of_g (W : Wn G S N) (hu : Gv G S N n u p) (hs : Gv G S N m s q) (h2 : n + m ≤ 190) : C0 32 [.d (dV u), .d (dV s)] (P19.OfG G S N (n + m + (n + m)) p q) := by
  refine En Tryz.func32 fun _ _ => ?_
  refine Ce rfl (R13.Zero_g W hu (by omega)) ?_
  refine By rfl (fun h => ?_) fun h => ?_
  · exact Rt rfl (.tup (.cons fitT0 fitI)) (.inr ⟨.inl h, rfl⟩)
  · refine Ce rfl (R13.Zero_g W hs (by omega)) ?_
    refine By rfl (fun h1 => ?_) fun h1 => ?_
    · exact Rt rfl (.tup (.cons fitT0 fitI)) (.inr ⟨.inr h1, rfl⟩)
    refine Dw rfl ?_
    refine Cn [(1000001, 15)] rfl (R15.Dot_g W hu hs (by omega) (by omega) h2) fun v hv => ?_
    obtain ⟨d, rfl, hd⟩ := hv
    refine Cn [(1000001, 15)] rfl (R15.Cross_g W hu hs (by omega) (by omega) h2) fun v hv => ?_
    obtain ⟨c, rfl, hc⟩ := hv
    refine Cn [(1000001, 15)] rfl (R19.result_g (u := ⟨d, c⟩) (p := (vdot G p q, vcross G p q)) (f := 0) ⟨hd, hc⟩) fun v hv => ?_
    rcases hv with ⟨_, w, rfl, hw⟩ | ⟨h3, _⟩
    · exact Rt rfl (.tup (.cons (.rf rfl) fitI)) (.inl ⟨fun e => e.elim h h1, w, rfl, by rw [vmul_con2]; exact hw⟩)
    · exact absurd (by decide) h3
theorem P19.Valid_g (W : Wn G S N) (hu : Gv G S N n u p) (hn : n ≤ 800) : C0 33 [.d (dT u f)] (· = .b (dc (p ≠ vz K ∧ lim f))) := by
  refine En Tryz.func33 fun _ _ => ?_
  refine Ce rfl (P13.Zero_g W hu hn) ?_
  refine By rfl (fun h => ?_) fun h => ?_
  · have h : p ≠ vz K := by simpa [dc_not, dc_iff] using h
    refine By rfl (fun h2 => ?_) fun h2 => ?_
    · exact R1 rfl (.bp (dc_iff.trans ⟨fun h3 => ⟨h, h2, h3⟩, fun h3 => h3.2.2⟩))
    · exact R1 rfl (.bp ⟨nofun, fun h3 => absurd h3.2.1 h2⟩)
  · have h : p = vz K := by simpa [dc_not, dc_iff] using h
    exact R1 rfl (.bp ⟨nofun, fun h3 => absurd h h3.1⟩)
theorem R19.Tangent_g (W : Wn G S N) (hu : Gv G S N n u p) (hn : n ≤ 12) : C0 13 [.d (dT u f)] (fun r => (p.1 = zero K ∧ r = .tup (.pr (.d R9.n0) (.d (.int .i64 6)))) ∨ (p.1 ≠ zero K ∧ DvG G S N (n + (15 * n + 1)) p.2 p.1 r)) := by
  refine En Tryz.func13 fun _ _ => ?_
  refine Ce rfl (R9.Sign_g W hu.x (by omega)) ?_
  refine By rfl (fun h => ?_) fun h => ?_
  · exact Rt rfl (.tup (.cons R9.fit0 fitI)) (.inl ⟨(red_zero W.w.g).1 h, rfl⟩)
  · refine Ca rfl (R9.Div_g W hu.y hu.x (by omega) hn) fun v hv => ?_
    have h : p.1 ≠ zero K := fun e => h ((red_zero W.w.g).2 e)
    rcases hv with ⟨e, rfl⟩ | ⟨w, hw, z, rfl, hz⟩
    · exact absurd e h
    · exact Rt rfl (.tup (.cons (.rf rfl) fitI)) (.inr ⟨h, .inr ⟨w, hw, z, rfl, hz⟩⟩)
theorem inv_one {c d e : Tow.El K} (h1 : Tow.mul K G c e = rat K 1) (h2 : Tow.mul K G d e = rat K 1) : c = d := by
  have L := ring K G
  rw [← L.mo c, ← h2, L.mc d, ← L.ma, h1, L.om]
end
theorem TurnOf_ok {ops : List RO} {at' : List (Fin 256)} {a b c : Int} (ha : -9223372036854775808 ≤ a ∧ a < 9223372036854775808) : C0 7 [.d (dCs ops at' a b c)] (· = .b true) := by
  refine En Tryz.func7 fun _ _ => ?_
  refine Ca rfl (Several_ok (n := 2)) fun v hv => ?_
  obtain ⟨l, c', rfl, hc⟩ := hv
  refine Ce rfl awake_ok ?_
  refine No rfl (by simp) ?_
  refine By rfl (fun h => ?_) fun h => ?_
  · refine Ce rfl awake_ok ?_
    exact R0
  obtain ⟨hl, K, G, S, N, W, hm⟩ := hc (by simpa using h)
  obtain ⟨u, s, l, rfl⟩ : ∃ u s r, l = u :: s :: r := by
    match l, hl with
    | u :: s :: r, _ => exact ⟨u, s, r, rfl⟩
  have mu := hm u (by simp)
  obtain ⟨p, hu⟩ := W.gv mu
  obtain ⟨q, hs⟩ := W.gv (hm s (by simp))
  refine Dw rfl ?_
  refine Ix 0 rfl (u := dV u) rfl ?_
  refine Ix 1 rfl (u := dV s) rfl ?_
  refine Ca rfl (P19.Of_g W.w hu hs (W.trm mu.1) (by decide)) fun v1 h1 => ?_
  rcases h1 with ⟨h1, d, rfl, hd⟩ | ⟨h1, rfl⟩
  · refine Dw rfl ?_
    refine Ix 0 rfl (u := dV u) rfl ?_
    refine Ix 1 rfl (u := dV s) rfl ?_
    refine Ca rfl (R19.Of_g W.w hu hs (by decide)) fun v2 h2 => ?_
    rcases h2 with ⟨_, e, rfl, he⟩ | ⟨h2, _⟩
    · refine Dw rfl ?_
      refine Ix 0 rfl (u := dV u) rfl ?_
      refine Ia 0 rfl (by decide) ?_
      refine Dw rfl ?_
      refine Ce rfl (sameT W.w hd he (by decide) (vmul_ne W.w.w.g (vcon_ne W.w.w.g fun e => h1 (.inl e)) fun e => h1 (.inr e)) (by decide)) ?_
      refine Yes rfl rfl ?_
      refine No rfl (by decide) ?_
      refine Yes rfl (by decide) ?_
      refine Ce rfl (P19.Valid_g (f := a) W.w hu (by decide)) ?_
      refine Ce rfl (R19.Valid_g (f := a) W.w hu (by decide)) ?_
      refine Rt rfl (.one (.rf rfl) rfl rfl) ?_
      exact congrArg AV.b (dc_iff.2 Iff.rfl)
    · exact absurd h2 h1
  · refine Dw rfl ?_
    refine Ix 0 rfl (u := dV u) rfl ?_
    refine Ix 1 rfl (u := dV s) rfl ?_
    refine Ca rfl (R19.Of_g W.w hu hs (by decide)) fun v2 h2 => ?_
    rcases h2 with ⟨h2, _⟩ | ⟨_, rfl⟩
    · exact absurd h1 h2
    · refine Dw rfl ?_
      refine Ix 0 rfl (u := dV u) rfl ?_
      refine Ia 0 rfl (by decide) ?_
      refine Dw rfl ?_
      refine Ce rfl (sameE (by decide)) ?_
      refine Yes rfl rfl ?_
      refine Yes rfl (by decide) ?_
      refine Ce rfl (P19.Valid_g (f := a) W.w hu (by decide)) ?_
      refine Ce rfl (R19.Valid_g (f := a) W.w hu (by decide)) ?_
      refine Rt rfl (.one (.rf rfl) rfl rfl) ?_
      exact congrArg AV.b (dc_iff.2 Iff.rfl)
theorem TurnTangent_ok {ops : List RO} {at' : List (Fin 256)} {a b c : Int} : C0 3 [.d (dCs ops at' a b c)] (· = .b true) := by
  refine En Tryz.func3 fun _ _ => ?_
  refine Ca rfl (Turns_ok (n := 2) (by decide)) fun v hv => ?_
  rcases hv with ⟨l, rfl⟩ | ⟨l, rfl, hl, K, G, S, N, W, hm⟩
  · refine Ce rfl awake_ok ?_
    refine No rfl (by simp) ?_
    refine Yes rfl (by simp) ?_
    refine Ce rfl awake_ok ?_
    exact R0
  · refine Ce rfl awake_ok ?_
    refine No rfl (by simp) ?_
    refine No rfl (by simp) ?_
    match l, hl with
    | [(u, f), (s, g)], _ =>
      obtain ⟨mu, mv, hf, p, hu, hp⟩ := hm (u, f) (by simp)
      obtain ⟨_, _, hg, q, hs, hq⟩ := hm (s, g) (by simp)
      have hG := W.w.w.g
      have Eq0 : ∀ {n m : Nat} {x y : Nm} {a : Tow.El K}, Gd G S N n x a → Gd G S N m y a → n ≤ 190 → m ≤ 190 → C0 14 [.d (dN x), .d (dN y)] (· = .b true) := fun hx hy h1 h2 => (R9.Equal_g W.w hx hy h1 h2).mono fun r hr => hr.trans (congrArg AV.b (dc_iff.2 rfl))
      have X0 : vmul G (vcon p) q ≠ vz K := vmul_ne hG (vcon_ne hG hp) hq
      have X1 : (vmul G (vcon p) q).1 = vdot G p q := congrArg Prod.fst vmul_con2
      have X2 : (vmul G (vcon p) q).2 = vcross G p q := congrArg Prod.snd vmul_con2
      refine Ix 0 rfl (u := dT u f) rfl ?_
      refine Ca rfl (P19.Tangent_g (f := f) W.w hu (by decide)) fun v1 h1 => ?_
      obtain ⟨x1, y1, e1, rfl, k1⟩ : ∃ x1 y1 e1, v1 = .tup (.pr (.d (.st (.pr (.sl 1 x1) (.sl 4 y1)))) (.d (.int .i64 e1))) ∧ ((p.1 = zero K ∧ e1 = 6) ∨ (p.1 ≠ zero K ∧ e1 = 0 ∧ ∃ w z, Tow.mul K G w p.1 = rat K 1 ∧ D.st (.pr (.sl 1 x1) (.sl 4 y1)) = dN z ∧ Gd G S N 17 z (Tow.mul K G p.2 w))) := by
        rcases h1 with ⟨h, rfl⟩ | ⟨h, ⟨h2, _⟩ | ⟨w, hw, z, rfl, hz⟩⟩
        · exact ⟨_, _, _, rfl, .inl ⟨h, rfl⟩⟩
        · exact absurd h2 h
        · exact ⟨_, _, _, rfl, .inr ⟨h, rfl, w, z, hw, rfl, hz⟩⟩
      refine Ix 0 rfl (u := dT u f) rfl ?_
      refine Ca rfl (R19.Tangent_g (f := f) W.w hu (by decide)) fun v2 h2 => ?_
      obtain ⟨x2, y2, rfl, k2⟩ : ∃ x2 y2, v2 = .tup (.pr (.d (.st (.pr (.sl 1 x2) (.sl 4 y2)))) (.d (.int .i64 e1))) ∧ (e1 = 0 → C0 14 [.d (.st (.pr (.sl 1 x1) (.sl 4 y1))), .d (.st (.pr (.sl 1 x2) (.sl 4 y2)))] (· = .b true)) := by
        rcases k1 with ⟨h, rfl⟩ | ⟨h, rfl, w, z, hw, hz0, hz⟩ <;> rcases h2 with ⟨h3, rfl⟩ | ⟨h3, ⟨h4, _⟩ | ⟨w', hw', z', rfl, hz'⟩⟩
        · exact ⟨_, _, rfl, fun h => absurd h (by decide)⟩
        · exact absurd h4 h3
        · exact absurd h h3
        · exact absurd h3 h
        · exact absurd h4 h3
        · rw [inv_one hw' hw] at hz'
          exact ⟨_, _, rfl, fun _ => by rw [hz0]; exact Eq0 hz hz' (by decide) (by decide)⟩
      refine Cu (some 6) (fun _ : Unit => [(3, .d (dTs [(u, f), (s, g)])), (57, .b false)]) (fun _ => []) (fun _ => True) rfl ?_ (fun _ _ => ?_)
      · refine No rfl (by simp) ?_
        refine By rfl (fun h => ?_) fun h => ?_
        · refine Ce rfl (k2 h) ?_
          exact Jn () [] rfl trivial
        · exact Jn () [] rfl trivial
      refine No rfl (by decide) ?_
      refine Dw rfl ?_
      refine Ix 0 rfl (u := dT u f) rfl ?_
      refine Ix 1 rfl (u := dT s g) rfl ?_
      refine Ca rfl (P19.Of_g W.w hu hs (W.trm mu) (by decide)) fun v3 h3 => ?_
      obtain ⟨x, rfl, hx⟩ := h3.elim (fun h => h.2) fun h => absurd h.1 fun e => e.elim hp hq
      refine No rfl (by decide) ?_
      refine Dw rfl ?_
      refine Ix 0 rfl (u := dT u f) rfl ?_
      refine Ix 1 rfl (u := dT s g) rfl ?_
      refine Ca rfl (R13.Dot_g W.w hu hs (by decide) (by decide) (by decide)) fun v4 h4 => ?_
      obtain ⟨dt, rfl, hd⟩ := h4
      refine Dw rfl ?_
      refine Ix 0 rfl (u := dT u f) rfl ?_
      refine Ix 1 rfl (u := dT s g) rfl ?_
      refine Ca rfl (R13.Cross_g W.w hu hs (by decide) (by decide) (by decide)) fun v5 h5 => ?_
      obtain ⟨cr, rfl, hc⟩ := h5
      refine Ca rfl (P19.Tangent_g (f := 0) W.w hx (by decide)) fun v6 h6 => ?_
      rw [X1, X2] at h6
      rcases h6 with ⟨h6, rfl⟩ | ⟨h6, ⟨h7, _⟩ | ⟨w, hw, z, rfl, hz⟩⟩
      · refine Ce rfl (R9.Sign_g W.w hd (by decide)) ?_
        refine Yes rfl ((red_zero hG).2 h6) ?_
        refine Rt rfl (.one (.rf rfl) rfl rfl) ?_
        exact congrArg AV.b (dc_iff.2 rfl)
      · exact absurd h7 h6
      · refine Ce rfl (R9.Sign_g W.w hd (by decide)) ?_
        refine No rfl (fun e => h6 ((red_zero hG).1 e)) ?_
        refine Ca rfl (R9.Div_g W.w hc hd (by decide) (by decide)) fun v7 h7 => ?_
        rcases h7 with ⟨h7, _⟩ | ⟨w', hw', z', rfl, hz'⟩
        · exact absurd h7 h6
        rw [inv_one hw' hw] at hz'
        refine Yes rfl (by decide) ?_
        refine Ce rfl (Eq0 hz hz' (by decide) (by decide)) ?_
        exact R0
end Go.Proofs.YtfmgfaeheljpcaaGreat

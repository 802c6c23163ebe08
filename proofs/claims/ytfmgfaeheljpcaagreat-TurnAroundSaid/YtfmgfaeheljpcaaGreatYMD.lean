/- numbers: the program's copies, comparisons, images. -/
import Derived.Test.YtfmgfaeheljpcaaGreatYMC
import Derived.Test.YtfmgfaeheljpcaaGreatYLG
set_option linter.unusedVariables false
set_option linter.unusedSimpArgs false
set_option maxRecDepth 10000
namespace Go.Proofs.YtfmgfaeheljpcaaGreat.P9
open Go Go.Vm Go.Num Go.Tow Go.Proofs.YtfmgfaeheljpcaaGreat
section
theorem copyRat_ok {x : Rat} {p : Nat} (hx : Qs p x) (hp : p ≤ 4398046511104) : C0 225 [.d (dq x)] (· = .d (dq x)) := by
  have h1 := hx.n.len2 hp
  have h2 := hx.d.len2 hp
  refine En Tryz.func225 fun _ _ => ?_
  refine Dw rfl ?_
  refine Ce rfl (clone_u32_ok (l := dig x.num.natAbs) (by omega)) ?_
  refine Ce rfl (clone_u32_ok (l := dig (x.den : Int).natAbs) (by omega)) ?_
  exact R0
theorem copyList_ok {l : List Rat} {p : Nat} (hl : Ps p l) (hp : p ≤ 4398046511104) (hn : l.length ≤ 1048576) : C0 238 [.d (dqs l)] (· = .d (dqs l)) := by
  have hll : (l.map dq).length = l.length := by simp
  refine En Tryz.func238 fun _ _ => ?_
  refine Mk l.length rfl (by omega) ?_ (by simp [hll])
  refine Lo (fun i : Nat => [(0, .d (dqs l)), (2, .nil), (3, .own 8 4 0 l.length), (9, .d (dqs l)), (10, .d (.int .i64 (l.map dq).length)), (11, .d (.int .i64 i))]) (fun i => [(8, .arr 4 (fl (l.map dq) rz i))]) (fun i => i ≤ l.length) (fun i => l.length - i) 0 [] rfl (by omega) (fun i hi => ?_) (by exact ⟨rfl, by rw [← fl_zero hll]; rfl, rfl, rfl, rfl⟩)
  refine By rfl (fun g => ?_) fun g => ?_ <;> simp only [lq] at g
  · obtain ⟨u, hu⟩ := qat (l := l) (k := i) (by omega)
    refine Ix i rfl (mp hu) ?_
    refine Ce rfl (copyRat_ok (hl u (List.mem_of_getElem? hu)) hp) ?_
    refine Eo i rfl (by omega) ?_
    refine Sto rfl (by rw [fl_len (by omega)]; omega) (fl_set (u := dq u) (by rw [List.getElem?_map, hu]; rfl)) ?_
    refine Ar (i + 1 : Nat) rfl ?_
    exact Bk (i + 1) [] rfl (show i + 1 ≤ l.length by omega) (by show l.length - (i + 1) < l.length - i; omega)
  · refine R1 rfl (.own rfl (by rw [fl_len (by omega)]; simp) ?_)
    rw [fl_end (by omega), List.drop_zero]
    exact List.take_of_length_le (by simp)
theorem same1_ok {x y : Rat} {p q : Nat} (hx : Qs p x) (hy : Qs q y) (hp : p + q ≤ 8796093022208) : C0 319 [.d (dq x), .d (dq y)] (· = .b (dc (x = y))) := by
  refine En Tryz.func319 fun _ _ => ?_
  refine Ce rfl (qCmp_ok hx hy hp) ?_
  exact R1 rfl (.bp (dc_iff.trans ⟨fun h => Classical.byContradiction fun e => R9.cmpQ_ne.2 e h, fun e => Classical.byContradiction fun h => R9.cmpQ_ne.1 h e⟩))
theorem eqF_q_ok {l m : List Rat} {p q : Nat} (hl : Ps p l) (hm : Ps q m) (hp : p + q ≤ 8796093022208) (hn : l.length ≤ 1048576) : C0 318 [.d (dqs l), .d (dqs m), .d (.raw (.func (.func 319) #[] #[]))] (· = .b (dc (l = m))) := by
  refine En Tryz.func318 fun _ _ => ?_
  refine By rfl (fun h => ?_) fun h => ?_ <;> simp only [lq] at h
  · exact R1 rfl (.bp ⟨nofun, fun e => absurd (by rw [e]) h⟩)
  have h : l.length = m.length := by omega
  refine Lo (fun k : Nat => [(0, .d (dqs l)), (1, .d (dqs m)), (2, .d (.raw (.func (.func 319) #[] #[]))), (15, .d (dqs l)), (16, .d (.int .i64 (l.map dq).length)), (17, .d (.int .i64 k))]) (fun _ => []) (fun k => k ≤ l.length ∧ l.take k = m.take k) (fun k => l.length - k) 0 [] rfl ⟨by omega, rfl⟩ fun k ⟨hk, ht⟩ => ?_
  refine By rfl (fun h2 => ?_) fun h2 => ?_ <;> simp only [lq] at h2
  · obtain ⟨x, hx⟩ := qat (l := l) (k := k) (by omega)
    obtain ⟨y, hy⟩ := qat (l := m) (k := k) (by omega)
    refine Ix k rfl (mp hx) ?_
    refine Ix k rfl (mp hy) ?_
    refine Ce rfl (same1_ok (hl x (List.mem_of_getElem? hx)) (hm y (List.mem_of_getElem? hy)) hp) ?_
    refine By rfl (fun h3 => ?_) fun h3 => ?_
    · have h3 : ¬ x = y := by simpa [dc_not, dc_iff] using h3
      exact R1 rfl (.bp ⟨nofun, fun e => by subst e; rw [hx] at hy; injection hy with hy; exact absurd hy h3⟩)
    · have e : x = y := by simpa [dc_not, dc_iff] using h3
      refine Ar (k + 1 : Nat) rfl ?_
      exact Bk (k + 1) [] rfl ⟨by omega, by rw [List.take_add_one, List.take_add_one, hx, hy, ht, e]⟩ (by show l.length - (k + 1) < l.length - k; omega)
  · rw [List.take_of_length_le (by omega), List.take_of_length_le (by omega)] at ht
    exact R1 rfl (.bp ⟨fun _ => ht, fun _ => rfl⟩)
theorem sameElement_ok {l m : List Rat} {p q : Nat} (hl : Ps p l) (hm : Ps q m) (hp : p + q ≤ 8796093022208) (hn : l.length ≤ 1048576) : C0 309 [.d (dqs l), .d (dqs m)] (· = .b (dc (l = m))) := by
  refine En Tryz.func309 fun _ _ => ?_
  refine Ce rfl (eqF_q_ok hl hm hp hn) ?_
  exact R0
theorem eqF_t_ok {T U : List (List Rat)} {p q : Nat} (hT : Pt p T) (hU : Pt q U) (hp : p + q ≤ 8796093022208) (hl : T.length ≤ 16) : C0 308 [.d (dts T), .d (dts U), .d (.raw (.func (.func 309) #[] #[]))] (· = .b (dc (T = U))) := by
  refine En Tryz.func308 fun _ _ => ?_
  refine By rfl (fun h => ?_) fun h => ?_ <;> simp only [lt'] at h
  · exact R1 rfl (.bp ⟨nofun, fun e => absurd (by rw [e]) h⟩)
  have h : T.length = U.length := by omega
  refine Lo (fun k : Nat => [(0, .d (dts T)), (1, .d (dts U)), (2, .d (.raw (.func (.func 309) #[] #[]))), (15, .d (dts T)), (16, .d (.int .i64 (T.map dqs).length)), (17, .d (.int .i64 k))]) (fun _ => []) (fun k => k ≤ T.length ∧ T.take k = U.take k) (fun k => T.length - k) 0 [] rfl ⟨by omega, rfl⟩ fun k ⟨hk, ht⟩ => ?_
  refine By rfl (fun h2 => ?_) fun h2 => ?_ <;> simp only [lt'] at h2
  · obtain ⟨x, hx⟩ : ∃ x, T[k]? = some x := ⟨_, List.getElem?_eq_getElem (by omega)⟩
    obtain ⟨y, hy⟩ : ∃ y, U[k]? = some y := ⟨_, List.getElem?_eq_getElem (by omega)⟩
    obtain ⟨x1, x2⟩ := hT k x hx
    obtain ⟨y1, y2⟩ := hU k y hy
    have := p16 (show k ≤ 16 by omega)
    refine Ix k rfl (mp hx) ?_
    refine Ix k rfl (mp hy) ?_
    refine Ce rfl (sameElement_ok x2 y2 hp (by omega)) ?_
    refine By rfl (fun h3 => ?_) fun h3 => ?_
    · have h3 : ¬ x = y := by simpa [dc_not, dc_iff] using h3
      exact R1 rfl (.bp ⟨nofun, fun e => by subst e; rw [hx] at hy; injection hy with hy; exact absurd hy h3⟩)
    · have e : x = y := by simpa [dc_not, dc_iff] using h3
      refine Ar (k + 1 : Nat) rfl ?_
      exact Bk (k + 1) [] rfl ⟨by omega, by rw [List.take_add_one, List.take_add_one, hx, hy, ht, e]⟩ (by show T.length - (k + 1) < T.length - k; omega)
  · rw [List.take_of_length_le (by omega), List.take_of_length_le (by omega)] at ht
    exact R1 rfl (.bp ⟨fun _ => ht, fun _ => rfl⟩)
theorem begins_ok {T U : List (List Rat)} {p q : Nat} (hT : Pt p T) (hU : Pt q U) (hp : p + q ≤ 8796093022208) (hl : T.length ≤ 16) : C0 284 [.d (dts T), .d (dts U)] (· = .b (dc (T.take U.length = U))) := by
  refine En Tryz.func284 fun _ _ => ?_
  refine By rfl (fun h => ?_) fun h => ?_ <;> simp only [lt'] at h
  · have hq : Pt p (T.take U.length) := fun i r hi => by
      rw [List.getElem?_take] at hi
      split at hi
      · exact hT i r hi
      · cases hi
    refine Tk U.length ((T.take U.length).map dqs) rfl rfl (by simp only [lt']; omega) (by rw [List.map_take]) ?_ (by simp only [lt'])
    refine Ce rfl (eqF_t_ok hq hU hp (by rw [List.length_take]; omega)) ?_
    exact R0
  · exact R1 rfl (.bp ⟨nofun, fun e => absurd (congrArg List.length e) (by rw [List.length_take]; omega)⟩)
theorem pad_ok {T : List (List Rat)} {l : List Rat} (h0 : 0 < l.length) (hT : T.length ≤ 16) (hl : l.length ≤ 2 ^ T.length) : C0 285 [.d (dts T), .d (dqs l)] (· = .d (dqs (l ++ List.replicate (2 ^ T.length - l.length) 0))) := by
  have hp := p16 hT
  obtain ⟨n, hn⟩ : ∃ n, n = 2 ^ T.length := ⟨_, rfl⟩
  rw [← hn] at hp hl ⊢
  refine En Tryz.func285 fun _ _ => ?_
  refine Cr rfl (clone_q_own h0 (by omega)) ?_
  refine Lo (fun k : Nat => [(0, .d (dts T)), (5, .own 7 4 0 ((l ++ List.replicate k 0).map dq).length)]) (fun k => [(7, .arr 4 ((l ++ List.replicate k 0).map dq))]) (fun k => l.length + k ≤ n) (fun k => n - k) 0 [] rfl (by omega) (fun k hk => ?_) (by exact ⟨by simp; rfl, by simp; rfl, rfl, rfl, rfl⟩)
  refine Ar n rfl ?_ (by rw [hn]; simp only [lt']; exact shl_one (by omega))
  refine By rfl (fun h => ?_) fun h => ?_ <;> simp only [lq, List.length_append, List.length_replicate] at h
  · refine Ce rfl (qFromInt_ok (z := 0) (by decide)) ?_
    refine ApO ((l ++ List.replicate (k + 1) 0).map dq) rfl rfl rfl (by rw [List.replicate_succ']; simp) (by simp; omega) ?_
    exact Bk (k + 1) [(7, 90), (17, 7)] rfl (show l.length + (k + 1) ≤ n by omega) (by show n - (k + 1) < n - k; omega)
  · refine R1 rfl (.own rfl (by omega) ?_)
    rw [List.drop_zero, show n - l.length = k by omega]
    exact List.take_of_length_le (by simp)
theorem pad_el {k m : Nat} {s : Tow.El k} {b : Tow.El m} {T : Tw m} (h : Lf s b) (hk : k ≤ m) (hm : m ≤ 16) : C0 285 [.d (dt T), .d (de s)] (· = .d (de b)) := by
  have := pad_ok (T := toT m T) (l := toL k s) (by rw [toL_length]; exact Nat.two_pow_pos k) (by rw [toT_length]; omega) (by rw [toL_length, toT_length]; exact Nat.pow_le_pow_right (by decide) hk)
  rw [toT_length, toL_length, ← h] at this
  exact this
/-- an embedding as it lies -/
abbrev dE (T rs : List (List Rat)) : D := .st (.pr (dts T) (dts rs))
theorem image_ok {k R z : Nat} {T : Tw k} {rs : List (List Rat)} {σ : Nat → Tow.El k} (hT : TS R k T) (hk : k ≤ 16) (hR : R ≤ 4398046511104) : ∀ {j p : Nat} {a : Tow.El j}, R9.Rts k z j rs σ → Sz p (toL j a) → j ≤ 16 → imB (cB R k) z j p ≤ 4398046511104 →
    C0 287 [.d (dE (toT k T) rs), .d (de a)] (· = .d (de (ev T σ j a))) := by
  intro j
  induction j with
  | zero =>
    intro p a _ ha hj hb
    have hb : p + 1 ≤ 4398046511104 := hb
    have key : ∀ y : Rat, Qs p y → C0 287 [.d (dE (toT k T) rs), .d (dqs [y])] (· = .d (de (rat k y))) := fun y hy => by
      refine En Tryz.func287 fun _ _ => ?_
      refine Yes rfl rfl ?_
      refine Dw rfl ?_
      refine Ix 0 rfl (u := dq y) rfl ?_
      refine Ce rfl (tFromRat_ok hT hk hR hy (by omega)) ?_
      exact R0
    exact key a (ha.qs (List.mem_singleton.2 rfl))
  | succ j ih =>
    intro p a hr ha hj hb
    have hb' : 2 * imB (cB R k) z j p + z + cB R k + 1 ≤ 4398046511104 := hb
    have hr' : R9.Rts k z j rs σ := fun i hi => hr i (by omega)
    have hpj := p16 (show j ≤ 16 by omega)
    have hp0 := Nat.two_pow_pos j
    have hpp := imB_ge (c := cB R k) (z := z) (p := p) (j := j)
    have hs : ∀ i, i < j → Sz z (toL k (σ i)) := fun i hi => (hr' i hi).elim fun _ h => h.elim fun _ h => h.2.2.2
    have h1 := ev_sz hT (a := a.1) hs (Sz.left ha)
    have h2 := ev_sz hT (a := a.2) hs (Sz.right ha)
    obtain ⟨m, s, m1, m2, m3, m4⟩ := hr j (by omega)
    refine En Tryz.func287 fun _ _ => ?_
    refine No rfl (by show ¬ ((((toL j a.1 ++ toL j a.2).map dq).length : Nat) : Int) = 1; rw [hvL]; omega) ?_
    refine Ar (2 ^ j : Nat) rfl ?_ (hvq a (by omega))
    refine Lo (fun i : Nat => [(1, .d (de a)), (2, .ptr 2 0), (4, .nil), (5, .d (.int .i64 (2 ^ j : Nat))), (6, .d (.int .i64 i))]) (fun _ => [(2, .var (.d (dE (toT k T) rs)))]) (fun i => i ≤ j) (fun i => j - i) 0 [] rfl (by omega) fun i hi => ?_
    refine Ar (i + 1 : Nat) rfl ?_
    refine Ar (2 ^ (i + 1) : Nat) rfl ?_ (shl_one (by omega))
    refine By rfl (fun h => ?_) fun h => ?_
    · have h : ((2 ^ (i + 1) : Nat) : Int) < (((toL j a.1 ++ toL j a.2).map dq).length : Nat) := h
      rw [hvL, ← Nat.pow_succ'] at h
      have h : i + 1 < j + 1 := (Nat.pow_lt_pow_iff_right (by decide : 1 < 2)).1 (by omega)
      refine Ar (i + 1 : Nat) rfl ?_
      exact Bk (i + 1) [] rfl (show i + 1 ≤ j by omega) (by show j - (i + 1) < j - i; omega)
    · have h : ¬ ((2 ^ (i + 1) : Nat) : Int) < (((toL j a.1 ++ toL j a.2).map dq).length : Nat) := h
      rw [hvL, ← Nat.pow_succ'] at h
      have h : ¬ i + 1 < j + 1 := fun e => h (by have := (Nat.pow_lt_pow_iff_right (by decide : 1 < 2)).2 e; omega)
      obtain rfl : i = j := by omega
      refine Dw rfl ?_
      refine Tk (2 ^ i) ((toL i a.1).map dq) rfl rfl (hv_le a) (hvT a) ?_
      refine Ce rfl (ih hr' (Sz.left ha) (by omega) (by omega)) ?_
      refine Dp (2 ^ i) ((toL i a.2).map dq) rfl rfl (hv_le a) (hvD a) ?_
      refine Ce rfl (tZero_ok (l := toL i a.2) (Sz.right ha).ps (by omega) (by rw [toL_length]; omega)) ?_
      refine By rfl (fun hv => ?_) fun hv => ?_
      · have hv : a.2 = zero i := (eq_zero_iff i a.2).2 hv
        have e : ev T σ i a.1 = ev T σ (i + 1) a := by
          have L := ring k T
          show _ = Tow.add k (ev T σ i a.1) (mul k T (ev T σ i a.2) (σ i))
          rw [hv, ev_zero, L.mc, L.mz, L.az]
        exact R1 rfl (.eq (congrArg de e))
      · refine Dw rfl ?_
        refine Dp (2 ^ i) ((toL i a.2).map dq) rfl rfl (hv_le a) (hvD a) ?_
        refine Ce rfl (ih hr' (Sz.right ha) (by omega) (by omega)) ?_
        refine Ix i rfl (mp m2) ?_
        refine Ce rfl (pad_el (T := T) m3 m1 hk) ?_
        refine Ce rfl (tMul_ok hT h2 m4 hk (by omega) hR) ?_
        refine Ce rfl (tAdd_ok hT h1 (h2.mul hT m4) hk (by omega) hR) ?_
        exact R0
section
variable {K : Nat} {G : Tw K} {S : List (Tow.El K)} {k l : Nat} {t : Tw k} {u : Tw l} {ρ ρu : Nat → Tow.El K}
theorem extend_ok (W : Wy G S wR) (ht : TOk G S k t ρ) (hu : TOk G S l u ρu) : C0 286 [.d (dt t), .d (dt u)] (R9.ExQ G S l k t ρ ρu fun T rs => .tup (.pr (.d (.st (.pr T rs))) (.d (.int .i64 0)))) := by
  have hl3 : l ≤ 3 := W.le hu
  refine En Tryz.func286 fun _ _ => ?_
  refine Nv 6 7 1 rfl ?_
  refine Lo (fun (x : Nat × (Σ m, Tw m) × List (List Rat)) => [(4, .ptr 4 0), (5, .d (.int .i64 0)), (6, .ptr 6 0), (14, .d (dt u)), (15, .d (.int .i64 ((toT l u).map dqs).length)), (16, .d (.int .i64 x.1))]) (fun x => [(4, .var (.st (.pr .nil .nil))), (6, .var (.st (.pr (.d (dt x.2.1.2)) (.gr 7 1 (x.2.2.map dqs))))), (7, .tok (x.2.2.map dqs).length 1)])
    (R9.ExI G S l k t ρ ρu) (fun x => l - x.1) (0, ⟨k, t⟩, []) [] rfl ⟨Nat.zero_le _, rfl, ρ, ht, Beg.rf, fun _ _ => rfl, fun i hi => by omega, fun _ => rfl⟩ (fun (i, ⟨m, T⟩, rs) hI => ?_)
  have hI' := hI
  obtain ⟨hi, hrl, ρ', hT, hB, ha, hrt, hc⟩ := hI
  simp only at hi hrl hT hB ha hrt hc
  have hm3 : m ≤ 3 := W.le hT
  have hz := W.t hT
  refine By rfl (fun h => ?_) fun h => ?_ <;> simp only [lt', toT_length] at h
  · have hil : i < l := by omega
    obtain ⟨x, σ, x1, x2, s1, s2, hev, x4, hsz⟩ := R9.ExI.rad W hu hil hT hrt
    obtain ⟨q1, q2, q3, q4⟩ := R9.exB hm3
    have hE := wE_im hm3 (show i ≤ 2 by omega)
    have hR := wR_eq
    have hE' := wE_eq
    have hlen : (rs.map dqs).length ≤ 3 := by rw [List.length_map]; omega
    refine Ix i rfl (mp x1) ?_
    refine Dw rfl ?_
    refine Ce rfl (image_ok (k := m) (T := T) hz (by omega) (by omega) s1 x2 (by omega) (by omega)) ?_
    refine Ca rfl (P8.Adjoin_ok (k := m) (t := T) hz hsz hT.r (by omega) q1 q2 q3 q4) fun v hv => ?_
    rcases hv with ⟨h1, rfl⟩ | ⟨y, h1, h2, rfl⟩ | ⟨h1, h2, h3, rfl⟩
    · have := ev_sgn (red_real W.g) hT.h (a := ev T σ i x)
      rw [hev, (sgn_ok (red_real W.g)).sm, x4] at this
      omega
    · refine No rfl (by simp) ?_
      refine ApG ((rs ++ [toL m y]).map dqs) rfl (by simp) (by simp at hlen ⊢; omega) ?_
      refine Ar (i + 1 : Nat) rfl ?_
      exact Bk (i + 1, ⟨m, T⟩, rs ++ [toL m y]) [(7, 90), (39, 7)] rfl (hI'.sq W hu hil hT hB ha hrt hc s2 hev x4 h1 h2) (by show l - (i + 1) < l - i; omega)
    · refine No rfl (by simp) ?_
      refine ApG ((rs ++ [toL (m + 1) (root (m + 1) m)]).map dqs) rfl (by simp) (by simp at hlen ⊢; omega) ?_
      refine Ar (i + 1 : Nat) rfl ?_
      exact Bk (i + 1, ⟨m + 1, tsn T (ev T σ i x)⟩, rs ++ [toL (m + 1) (root (m + 1) m)]) [(7, 90), (39, 7)] rfl (hI'.new W hu hil hT hB ha hrt hev x4 h2) (by show l - (i + 1) < l - i; omega)
  · obtain rfl : i = l := by omega
    exact Rt rfl (.tup (.cons (.sd (.pd (.rf rfl) (.gr rfl))) fitI)) ⟨m, T, rs, ρ', rfl, hT, hB, ha, hrt, hc⟩
end
end
section
theorem detach_ok {x : Nm} {r p : Nat} (hr : TS r x.k x.t) (hp : Sz p (toL x.k x.a)) (hk : x.k ≤ 16) (h1 : r ≤ 4398046511104) (h2 : p ≤ 4398046511104) : C0 175 [.d (dN x)] (· = .d (dN x)) := by
  have hpk := p16 hk
  refine En Tryz.func175 fun _ _ => ?_
  refine Ce rfl (copyList_ok hp.ps h2 (by rw [toL_length]; omega)) ?_
  refine Nv 3 7 1 rfl ?_
  refine Lo (fun (i : Nat) => [(2, .ptr 2 0), (3, .ptr 3 0), (11, .d (dt x.t)), (12, .d (.int .i64 ((toT x.k x.t).map dqs).length)), (13, .d (.int .i64 i))]) (fun i => [(2, .var (.st (.pr .nil .nil))), (3, .var (.st (.pr (.gr 7 1 (((toT x.k x.t).take i).map dqs)) (.d (de x.a))))), (7, .tok (((toT x.k x.t).take i).map dqs).length 1)])
    (fun i => i ≤ x.k) (fun i => x.k - i) 0 [] rfl (Nat.zero_le _) (fun i hi => ?_)
  refine By rfl (fun h => ?_) fun h => ?_ <;> simp only [lt', toT_length] at h
  · obtain ⟨w, y, y1, y2, y3, _⟩ := Tw.take (t := x.t) (i := i) (by omega)
    have hy := (y3 r hr).2
    refine Ix i rfl (mp y2) ?_
    refine Dw rfl ?_
    refine Ce rfl (copyList_ok hy.ps h1 (by rw [toL_length]; have := p16 (show i ≤ 16 by omega); omega)) ?_
    refine ApG (((toT x.k x.t).take (i + 1)).map dqs) rfl (by rw [List.take_add_one, y2]; simp) (by simp [toT_length]; omega) ?_
    refine Ar (i + 1 : Nat) rfl ?_
    exact Bk (i + 1) [(7, 90), (22, 7)] rfl (show i + 1 ≤ x.k by omega) (by show x.k - (i + 1) < x.k - i; omega)
  · have e : (toT x.k x.t).take i = toT x.k x.t := List.take_of_length_le (by rw [toT_length]; omega)
    refine R1 rfl (.sd (.pd (.gr ?_) (.rf rfl)))
    rw [e]
theorem one_zero : ∀ {k : Nat}, rat k 1 ≠ zero k
  | 0, h => by have h : (1 : Rat) = 0 := h; exact absurd h (by decide)
  | k + 1, h => one_zero (k := k) (congrArg Prod.fst h)
theorem inv_zero {k : Nat} {t : Tw k} {a : Tow.El k} (h : a = zero k) : Tow.inv k t a = none := by
  cases e : Tow.inv k t a with
  | none => rfl
  | some i =>
    have := inv_mul e
    rw [h, (ring k t).mz] at this
    exact absurd this.symm one_zero
section
variable {K : Nat} {G : Tw K} {S : List (Tow.El K)} {r p : Nat} {x y : Nm} {vx vy : Tow.El K}
theorem common_ok (W : Wy G S wR) (hx : NOk G S r p x vx) (hy : NOk G S r p y vy) : C0 283 [.d (dNs [x, y])] fun v => ∃ m T, v = .tup (.pr (.d (dt T)) (.d (.int .i64 0))) ∧ R9.CmP G S x y m T := by
  have hG := W.g
  have hR := wR_eq
  obtain ⟨ρx, hx1, hx2⟩ := hx.ex
  obtain ⟨ρy, hy1, hy2⟩ := hy.ex
  have hx3 := W.le hx1
  have hy3 := W.le hy1
  have hxr := W.t hx1
  have hyr := W.t hy1
  refine En Tryz.func283 fun _ _ => ?_
  refine Nd 4 1 rfl ?_
  refine Lo (fun (s : Nat × (Σ m, Tw m)) => [(2, .nil), (3, .d (.int .i64 0)), (4, .d (dt s.2.2)), (9, .d (dNs [x, y])), (10, .d (.int .i64 2)), (11, .d (.int .i64 s.1))]) (fun _ => []) (fun s => (s.1 = 0 ∧ s.2 = ⟨0, ()⟩) ∨ (s.1 = 1 ∧ s.2 = ⟨x.k, x.t⟩) ∨ (s.1 = 2 ∧ R9.CmP G S x y s.2.1 s.2.2)) (fun s => 2 - s.1) (0, ⟨0, ()⟩) [] rfl (.inl ⟨rfl, rfl⟩) (fun (i, ⟨m, T⟩) hI => ?_)
  simp only at hI
  rcases hI with ⟨rfl, e⟩ | ⟨rfl, e⟩ | ⟨rfl, hP⟩
  · cases e
    refine Yes rfl (show ((0 : Nat) : Int) < 2 by decide) ?_
    refine Ix 0 rfl (u := dN x) rfl ?_
    refine Ce rfl (begins_ok (T := []) (U := toT x.k x.t) (p := 1) (fun i r h => by simp at h) (TS.pt hxr) (by omega) (by decide)) ?_
    refine By rfl (fun h => ?_) fun h => ?_
    · obtain ⟨kx, tx, ax⟩ := x
      have h : [] = toT kx tx := by simpa using h
      obtain rfl : kx = 0 := by have := congrArg List.length h; rw [toT_length] at this; exact this.symm
      refine Ar (0 + 1 : Nat) rfl ?_
      exact Bk (1, ⟨0, tx⟩) [] rfl (.inr (.inl ⟨rfl, rfl⟩)) (show 1 < 2 by decide)
    · refine Ce rfl (begins_ok (U := []) (q := 1) (TS.pt hxr) (fun i r h => by simp at h) (by omega) (by rw [toT_length]; omega)) ?_
      refine Yes rfl (by simp) ?_
      refine Ar (0 + 1 : Nat) rfl ?_
      exact Bk (1, ⟨x.k, x.t⟩) [] rfl (.inr (.inl ⟨rfl, rfl⟩)) (show 1 < 2 by decide)
  · cases e
    have last : ∀ h : (toT x.k x.t).take (toT y.k y.t).length = toT y.k y.t, R9.CmP G S x y x.k x.t := fun h => .mk hG hx1 hy1 hx1 R9.rts (R9.beg_rt hG (show Beg y.k y.t x.k x.t from h) hy1 hx1)
    refine Yes rfl (show ((1 : Nat) : Int) < 2 by decide) ?_
    refine Ix 1 rfl (u := dN y) rfl ?_
    refine Ce rfl (begins_ok (T := toT x.k x.t) (U := toT y.k y.t) (TS.pt hxr) (TS.pt hyr) (by omega) (by rw [toT_length]; omega)) ?_
    refine By rfl (fun h => ?_) fun h => ?_
    · refine Ar (1 + 1 : Nat) rfl ?_
      exact Bk (2, ⟨x.k, x.t⟩) [] rfl (.inr (.inr ⟨rfl, last h⟩)) (show 0 < 1 by decide)
    refine Ce rfl (begins_ok (T := toT y.k y.t) (U := toT x.k x.t) (TS.pt hyr) (TS.pt hxr) (by omega) (by rw [toT_length]; omega)) ?_
    refine By rfl (fun h1 => ?_) fun h1 => ?_
    · have hb : Beg x.k x.t y.k y.t := h1
      refine Ar (1 + 1 : Nat) rfl ?_
      exact Bk (2, ⟨y.k, y.t⟩) [] rfl (.inr (.inr ⟨rfl, .mk hG hx1 hy1 hy1 (R9.beg_rt hG hb hx1 hy1) R9.rts⟩)) (show 0 < 1 by decide)
    · refine Ca rfl (extend_ok W hx1 hy1) fun v hv => ?_
      obtain ⟨m, T, rs, ρ', rfl, g1, g2, g3, g5, g6⟩ := hv
      refine No rfl (by simp) ?_
      refine Ar (1 + 1 : Nat) rfl ?_
      exact Bk (2, ⟨m, T⟩) [] rfl (.inr (.inr ⟨rfl, .ext hG hx1 hy1 g1 g2 g5⟩)) (show 0 < 1 by decide)
  · refine No rfl (show ¬ ((2 : Nat) : Int) < 2 by decide) ?_
    exact Rt rfl (.tup (.cons (.rf rfl) fitI)) ⟨m, T, rfl, hP⟩
theorem Join_ok (W : Wy G S wR) (hx : NOk G S r p x vx) (hy : NOk G S r p y vy) (hp : p ≤ 4000000000) : C0 235 [.d (dNs [x, y])] fun v => ∃ m T a b, v = .tup (.pr (.d (dNs [⟨m, T, a⟩, ⟨m, T, b⟩])) (.d (.int .i64 0))) ∧ R9.JnR G S p vx vy m T a b := by
  have hc := common_ok W hx hy
  have hG := W.g
  have hR := wR_eq
  have hJ : jW p = 8 * p + 73803682 := rfl
  refine En Tryz.func235 fun _ _ => ?_
  refine Ca rfl hc fun v hv => ?_
  obtain ⟨m, T, rfl, hP⟩ := hv
  obtain ⟨ρ, hT, hcon⟩ := hP
  have hTr := W.t hT
  have hm3 := W.le hT
  refine No rfl (by decide) ?_
  refine Nl 6 6 2 rfl ?_
  refine Lo (fun (s : Nat × List (Tow.El m)) => [(2, .nil), (3, .d (.int .i64 0)), (4, .d (dt T)), (6, .gr 6 2 (s.2.map fun a => dN ⟨m, T, a⟩)), (20, .d (dNs [x, y])), (21, .d (.int .i64 2)), (22, .d (.int .i64 s.1))]) (fun s => [(6, .tok (s.2.map fun a => dN ⟨m, T, a⟩).length 2)])
    (R9.JnI G p m ρ vx vy) (fun s => 2 - s.1) (0, []) [] rfl ⟨Nat.zero_le _, rfl, fun i hi => absurd hi (Nat.not_lt_zero _)⟩ (fun (j, bs) hI => ?_)
  have hI' := hI
  obtain ⟨hj, hjl, has⟩ := hI
  simp only at hj hjl has
  refine By rfl (fun h => ?_) fun h => ?_
  · have h : (j : Int) < 2 := h
    obtain ⟨z, v, ρz, z1, z2, z3, z4, z6⟩ := R9.both hx hy j (by omega)
    have z5 := W.t z3
    have hzu : ([x, y].map dN)[j]? = some (dN z) := by rw [List.getElem?_map, z1]; rfl
    have hzm := hcon z (List.mem_of_getElem? z1) ρz z3
    have hz3 := W.le z3
    have hpj : p ≤ jW p := R9.jW_ge
    refine Ix j rfl hzu ?_
    refine Ce rfl (begins_ok (T := toT m T) (U := toT z.k z.t) (TS.pt hTr) (TS.pt z5) (by omega) (by rw [toT_length]; omega)) ?_
    refine By rfl (fun h1 => ?_) fun h1 => ?_
    · have hb : Beg z.k z.t m T := h1
      obtain ⟨b, hlb⟩ := Lf.ex hb.le z.a
      have hv1 : ev G ρ m b = v := by rw [hlb.ev hb.le, ev_congr (R9.beg_ag hG hb z3 hT), z4]
      refine Ce rfl (pad_el (T := T) hlb hb.le (by omega)) ?_
      refine Ce rfl (detach_ok (x := ⟨_, T, b⟩) hTr ((hlb.sz z6).mono hpj) (show _ ≤ 16 from by show m ≤ 16; omega) (by omega) (by omega)) ?_
      refine ApG ((bs ++ [b]).map fun a => dN ⟨m, T, a⟩) rfl (by simp) (by simp; omega) ?_
      refine Ar (j + 1 : Nat) rfl ?_
      exact Bk (j + 1, bs ++ [b]) [(6, 90), (56, 6)] rfl (hI'.step (by omega) z2 hv1 ((hlb.sz z6).mono hpj)) (by show 2 - (j + 1) < 2 - j; omega)
    · refine Ca rfl (extend_ok W hT z3) fun v' hv => ?_
      obtain ⟨m', T', rs, ρ', rfl, g1, g2, g3, g5, g6⟩ := hv
      obtain rfl : m' = m := by have := congrArg List.length (g6 hzm); rwa [toT_length, toT_length] at this
      obtain rfl : T = T' := (toT_inj (g6 hzm)).symm
      have g5 : RtV G m' (zM wR 3) z.k rs ρ ρz := g5.mono (Nat.le_refl _) (Nat.le_refl _) (fun i hi => (g3 i hi).symm)
      obtain ⟨σ, s1, s2⟩ := g5.sig
      have hbd := jW_im (p := p) hm3 hz3
      refine No rfl (by simp) ?_
      refine Ce rfl (image_ok hTr (by omega) (by omega) s1 z6 (by omega) (by omega)) ?_
      refine Ce rfl (detach_ok (x := ⟨_, T, ev T σ z.k z.a⟩) hTr (R9.img W hT z3 s1 z6) (show _ ≤ 16 from by show m' ≤ 16; omega) (by omega) (by omega)) ?_
      refine ApG ((bs ++ [ev T σ z.k z.a]).map fun a => dN ⟨m', T, a⟩) rfl (by simp) (by simp; omega) ?_
      refine Ar (j + 1 : Nat) rfl ?_
      exact Bk (j + 1, bs ++ [ev T σ z.k z.a]) [(6, 90), (56, 6)] rfl (hI'.step (by omega) z2 (by rw [ev_ev hT.h s2, z4]) (R9.img W hT z3 s1 z6)) (by show 2 - (j + 1) < 2 - j; omega)
  · have h : ¬ (j : Int) < 2 := h
    obtain rfl : j = 2 := by omega
    obtain ⟨a, b, rfl, hJ⟩ := hI'.done hT
    exact Rt rfl (.tup (.cons (.gr rfl) fitI)) ⟨m, T, a, b, rfl, hJ⟩
/-- an operation on elements -/
def OpF (f : FuncId) (p : Nat) (g : (m : Nat) → Tw m → Tow.El m → Tow.El m → Tow.El m) : Prop := ∀ (m : Nat) (T : Tw m) (a b : Tow.El m), m ≤ 3 → TS wR m T → Sz (jW p) (toL m a) → Sz (jW p) (toL m b) → C0 f [.d (dt T), .d (de a), .d (de b)] (· = .d (de (g m T a b)))
theorem combine_ok {f : FuncId} {g : (m : Nat) → Tw m → Tow.El m → Tow.El m → Tow.El m} (hf : OpF f p g) (W : Wy G S wR) (hx : NOk G S r p x vx) (hy : NOk G S r p y vy) (hp : p ≤ 4000000000) : C0 171 [.d (dN x), .d (dN y), .d (fnD f)] fun v => ∃ m T a b, v = .tup (.pr (.d (dN ⟨m, T, g m T a b⟩)) (.d (.int .i64 0))) ∧ R9.JnR G S p vx vy m T a b := by
  refine En Tryz.func171 fun _ _ => ?_
  refine Ca rfl (Join_ok W hx hy hp) fun v hv => ?_
  obtain ⟨m, T, a, b, rfl, h⟩ := hv
  obtain ⟨ρ, h1, h3, h4, h5, h6⟩ := id h
  have h2 := W.t h1
  have hm := W.le h1
  refine No rfl (by simp) ?_
  refine Ix 0 rfl (u := dN ⟨m, T, a⟩) rfl ?_
  refine Dw rfl ?_
  refine Ix 0 rfl (u := dN ⟨m, T, a⟩) rfl ?_
  refine Ix 1 rfl (u := dN ⟨m, T, b⟩) rfl ?_
  refine Ce rfl (hf m T a b hm h2 h5 h6) ?_
  exact Rt rfl (.tup (.cons (.rf rfl) fitI)) ⟨m, T, a, b, rfl, h⟩
theorem Add_ok (W : Wy G S wR) (hx : NOk G S r p x vx) (hy : NOk G S r p y vy) (hp : p ≤ 4000000000) : C0 174 [.d (dN x), .d (dN y)] (R9.OpR G S (oW p) (Tow.add K vx vy)) := by
  have hO : oW p = 16 * p + 147714794 := rfl
  have hJ : jW p = 8 * p + 73803682 := rfl
  have hC := wC
  have hR := wR_eq
  refine En Tryz.func174 fun _ _ => ?_
  refine Ca rfl (combine_ok (g := fun m T a b => Tow.add m a b) (fun m T a b hm h2 h5 h6 => tAdd_ok h2 h5 h6 (by omega) (by omega) (by omega)) W hx hy hp) fun v hv => ?_
  obtain ⟨m, T, a, b, rfl, ρ, h1, h3, h4, h5, h6⟩ := hv
  have h2 := W.t h1
  exact Rt rfl (.tup (.cons (.rf rfl) fitI)) ⟨⟨m, T, Tow.add m a b⟩, rfl, ⟨ρ, h1, by rw [← h3, ← h4]; exact ev_add⟩, h2, by rw [toL_add]; exact (h5.add h6).mono (by omega)⟩
theorem Mul_ok (W : Wy G S wR) (hx : NOk G S r p x vx) (hy : NOk G S r p y vy) (hp : p ≤ 4000000000) : C0 101 [.d (dN x), .d (dN y)] (R9.OpR G S (oW p) (Tow.mul K G vx vy)) := by
  have hO : oW p = 16 * p + 147714794 := rfl
  have hJ : jW p = 8 * p + 73803682 := rfl
  have hC := wC
  have hR := wR_eq
  refine En Tryz.func101 fun _ _ => ?_
  refine Ca rfl (combine_ok (g := fun m T a b => Tow.mul m T a b) (fun m T a b hm h2 h5 h6 => tMul_ok h2 h5 h6 (by omega) (by have := cB_le' (r := wR) hm; omega) (by omega)) W hx hy hp) fun v hv => ?_
  obtain ⟨m, T, a, b, rfl, ρ, h1, h3, h4, h5, h6⟩ := hv
  have h2 := W.t h1
  have hm := W.le h1
  have hc := cB_le' (r := wR) hm
  exact Rt rfl (.tup (.cons (.rf rfl) fitI)) ⟨⟨m, T, Tow.mul m T a b⟩, rfl, ⟨ρ, h1, by rw [← h3, ← h4]; exact ev_mul h1.h⟩, h2, (h5.mul h2 h6).mono (by omega)⟩
theorem Sub_ok (W : Wy G S wR) (hx : NOk G S r p x vx) (hy : NOk G S r p y vy) (hp : p ≤ 4000000000) : C0 194 [.d (dN x), .d (dN y)] (R9.OpR G S (oW p) (Tow.add K vx (Tow.neg K vy))) := by
  have hO : oW p = 16 * p + 147714794 := rfl
  have hJ : jW p = 8 * p + 73803682 := rfl
  have hC := wC
  have hR := wR_eq
  refine En Tryz.func194 fun _ _ => ?_
  refine Ca rfl (combine_ok (g := fun m T a b => Tow.add m a (Tow.neg m b)) (fun m T a b hm h2 h5 h6 => tSub_ok h2 h5 h6 (by omega) (by omega) (by omega)) W hx hy hp) fun v hv => ?_
  obtain ⟨m, T, a, b, rfl, ρ, h1, h3, h4, h5, h6⟩ := hv
  have h2 := W.t h1
  exact Rt rfl (.tup (.cons (.rf rfl) fitI)) ⟨⟨m, T, Tow.add m a (Tow.neg m b)⟩, rfl, ⟨ρ, h1, by rw [← h3, ← h4, ← ev_neg]; exact ev_add⟩, h2, by rw [toL_add]; exact (h5.add (neg_sz h6)).mono (by omega)⟩
theorem Neg_ok (hx : NOk G S r p x vx) (hk : x.k ≤ 16) (hr : r ≤ 4398046511104) (hp : p ≤ 4398046511104) : C0 104 [.d (dN x)] (· = .d (dN ⟨x.k, x.t, Tow.neg x.k x.a⟩)) := by
  refine En Tryz.func104 fun _ _ => ?_
  refine Ce rfl (detach_ok hx.r hx.p hk hr hp) ?_
  refine Ce rfl (tNeg_ok hx.r hx.p hk hp hr) ?_
  exact R0
theorem Sign_ok (hG : red K G) (hx : NOk G S r p x vx) (hk : x.k ≤ 16) (hv : vB r x.k p ≤ 4398046511104) (hr : vB r x.k r ≤ 4398046511104) : C0 42 [.d (dN x)] (· = .d (.int .i64 (sgn K G vx))) := by
  obtain ⟨ρ, h1, h2⟩ := hx.ex
  have := vB_ge (r := r) x.k r
  refine En Tryz.func42 fun _ _ => ?_
  refine Ce rfl (Sign_el hx.r hx.p (red_real h1.r) hk hv hr (by omega)) ?_
  rw [hx.sgn (red_real hG)]
  exact R0
theorem FromRat_ok {q : Rat} {p : Nat} (hq : Qs p q) (hp : p ≤ 4398046511104) : C0 159 [.d (dq q)] (· = .d (dN ⟨0, (), q⟩)) := by
  refine En Tryz.func159 fun _ _ => ?_
  refine Ce rfl (copyRat_ok hq hp) ?_
  exact R1 rfl (.sd (.pd (.nil rfl) (.lit rfl)))
theorem FromInt_ok {z : Int} (h : -9223372036854775808 ≤ z ∧ z < 9223372036854775808) : C0 93 [.d (.int .i64 z)] (· = .d (dN ⟨0, (), (z : Rat)⟩)) := by
  refine En Tryz.func93 fun _ _ => ?_
  refine Ce rfl (qFromInt_ok h) ?_
  refine Ce rfl (FromRat_ok (q := (z : Rat)) (p := 64) (Qs.int (by unfold Zs; omega) (by omega)) (by decide)) ?_
  exact R0
theorem Cmp_ok (W : Wy G S wR) (hx : NOk G S r p x vx) (hy : NOk G S r p y vy) (hp : p ≤ 4000000000) : C0 123 [.d (dN x), .d (dN y)] (· = .tup (.pr (.d (.int .i64 (sgn K G (Tow.add K vx (Tow.neg K vy))))) (.d (.int .i64 0)))) := by
  refine En Tryz.func123 fun _ _ => ?_
  refine Ca rfl (Sub_ok W hx hy hp) fun v hv => ?_
  obtain ⟨z, rfl, hz⟩ := hv
  have h3 := hz.le (red_real W.g) W.s
  refine No rfl (by simp) ?_
  refine Ce rfl (Sign_ok W.g hz (by omega) (Nat.le_trans (Nat.le_trans (vB_le h3) (vB_mono (by unfold oW; omega))) wV) (Nat.le_trans (vB_le h3) wQ.2.2.2)) ?_
  exact RTt rfl (.cons (.rf rfl) fitI)
theorem Div_ok (W : Wy G S wR) {q : Nat} (hx : NOk G S r q x vx) (hy : NOk G S r p y vy) (hq : iS r 3 p ≤ q) (hi : iB r 3 p ≤ 4398046511104) (hp : q ≤ 4000000000) (hr : r ≤ 4398046511104) :
    C0 43 [.d (dN x), .d (dN y)] fun v => (vy = zero K ∧ v = .tup (.pr (.d R9.n0) (.d (.int .i64 6)))) ∨ ∃ w, Tow.mul K G w vy = rat K 1 ∧ R9.OpR G S (oW q) (Tow.mul K G vx w) v := by
  have hy3 := hy.le (red_real W.g) W.s
  obtain ⟨ρ, h1, h2⟩ := hy.ex
  have hle := iB_le (r := r) (p := p) hy3
  have hls := iS_le (r := r) (p := p) hy3
  refine En Tryz.func43 fun _ _ => ?_
  by_cases h0 : y.a = zero y.k
  · refine Ce rfl (tInv0_ok hy.r hy.p (by omega) (by omega) (by omega) (inv_zero h0)) ?_
    refine Yes rfl (by decide) ?_
    exact Rt rfl (.tup (.cons R9.fit0 fitI)) (.inl ⟨by rw [← h2, h0, ev_zero], rfl⟩)
  · obtain ⟨i, hi1⟩ := (red_fld h1.r).2 y.a h0
    refine Ce rfl (tInv_ok hy.r hy.p (by omega) (by omega) (by omega) hi1) ?_
    refine No rfl (by decide) ?_
    have hz : NOk G S r q ⟨y.k, y.t, i⟩ (ev G ρ y.k i) := ⟨⟨ρ, h1, rfl⟩, hy.r, (Sz.invS hy.r hy.p hi1).mono (by omega)⟩
    refine Ca rfl (Mul_ok (y := ⟨y.k, y.t, i⟩) W hx hz hp) fun v hv => ?_
    obtain ⟨z, rfl, h⟩ := hv
    exact Rt rfl (.tup (.cons (.rf rfl) fitI)) (.inr ⟨ev G ρ y.k i, by rw [← h2, ← ev_mul h1.h, inv_mul hi1, ev_rat], z, rfl, h⟩)
end
end
end Go.Proofs.YtfmgfaeheljpcaaGreat.P9

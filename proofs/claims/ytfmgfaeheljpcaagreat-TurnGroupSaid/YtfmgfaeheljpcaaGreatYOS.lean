/- TurnGroup, TurnAround: the walks. -/
import Derived.Test.YtfmgfaeheljpcaaGreatYOR
set_option linter.unusedVariables false
set_option linter.unusedSimpArgs false
set_option maxRecDepth 10000
namespace Go.Proofs.YtfmgfaeheljpcaaGreat
open Go Go.Vm Go.Num Go.Tow
section
variable {K : Nat} {G : Tw K} {S : List (Tow.El K)} {N : List Nm} {n m : Nat} {x y z : Nm} {a b : Tow.El K} {u s : Vn} {p q r : V2 K} {f g : Int}
theorem vadd_bd : f + g ≤ vadd G p q f g ∧ vadd G p q f g ≤ f + g + 1 := by unfold vadd; split <;> omega
/-- a sum of few full turns -/
theorem P19.Add_few (W : Wn G S N) (hu : Gv G S N n u p) (hs : Gv G S N m s q) (h2 : n + m + (n + m) + n ≤ 190) (hf : -5000 ≤ f ∧ f ≤ 5000) (hg : -5000 ≤ g ∧ g ≤ 5000) : C0 25 [.d (dT u f), .d (dT s g)] (fun r => ∃ v, r = .tup (.pr (.d (dT v (vadd G p q f g))) (.d (.int .i64 0))) ∧ Gv G S N (n + m + (n + m)) v (vmul G p q)) :=
  (P19.Add_g W hu hs h2 (by unfold few; omega) (by unfold few; omega)).mono fun r hr => by
    have hb := vadd_bd (G := G) (p := p) (q := q) (f := f) (g := g)
    exact hr.elim (fun h => h.2) fun h => absurd (by unfold lim; omega) h.1
/-- equal directions and full turns -/
theorem R19.Same_t (W : Wn G S N) (hu : Gv G S N n u p) (hs : Gv G S N m s p) (h2 : n + m ≤ 190) (hp : p ≠ vz K) (hf : -5000 ≤ f ∧ f ≤ 5000) : C0 28 [.d (dT u f), .d (dT s f)] (· = .b true) := by
  have hl : lim f := by unfold lim; omega
  have ht : tsame G p p f f := ⟨⟨hp, hl⟩, ⟨hp, hl⟩, by unfold tcmp; rw [if_neg (by omega), if_neg (by omega)]; exact vcmp_self W.w.g⟩
  have hs := R19.Same_g (f := f) (g := f) W hu hs h2
  rw [dc_iff.2 ht] at hs
  exact hs
theorem vopp_bd (hf : -1000 ≤ f ∧ f ≤ 1000) : min (max (P19.vopp G p f) (-1000000)) 1000000 = P19.vopp G p f ∧ -1001 ≤ P19.vopp G p f ∧ P19.vopp G p f ≤ 1000 := by
  have : P19.vopp G p f = -f ∨ P19.vopp G p f = -f - 1 := by unfold P19.vopp; split <;> omega
  omega
end
theorem TurnGroup_ok {ops : List RO} {at' : List (Fin 256)} {a b c : Int} : C0 6 [.d (dCs ops at' a b c)] (· = .b true) := by
  refine En Tryz.func6 fun _ _ => ?_
  refine Ca rfl (Turns_ok (n := 3) (by decide)) fun v hv => ?_
  rcases hv with ⟨l, rfl⟩ | ⟨l, rfl, hl, K, G, S, N, W, hm⟩
  · refine Ce rfl awake_ok ?_
    refine No rfl (by simp) ?_
    refine Yes rfl (by simp) ?_
    refine Ce rfl awake_ok ?_
    exact R0
  · refine Ce rfl awake_ok ?_
    refine No rfl (by simp) ?_
    refine No rfl (by simp) ?_
    refine Lo (fun k : Nat => [(3, .d (dTs l)), (28, .d (dTs l)), (29, .d (.int .i64 (l.map fun x => dT x.1 x.2).length)), (30, .d (.int .i64 k))]) (fun _ => []) (fun k => k ≤ 3 ∧ ∀ x ∈ l.take k, -1000 ≤ x.2 ∧ x.2 ≤ 1000) (fun k => 3 - k) 0 [] rfl ⟨by omega, by simp⟩ (fun k ⟨hk, hn⟩ => ?_)
    refine By rfl (fun h => ?_) fun h => ?_ <;> simp only [List.length_map, hl] at h
    · obtain ⟨x, hx⟩ : ∃ x, l[k]? = some x := ⟨_, List.getElem?_eq_getElem (by omega)⟩
      refine Ix k rfl (mp hx) ?_
      refine By rfl (fun h1 => ?_) fun h1 => ?_
      · exact R0
      refine By rfl (fun h2 => ?_) fun h2 => ?_
      · exact R0
      refine Ar (k + 1 : Nat) rfl ?_
      refine Bk (k + 1) [] rfl ⟨by omega, fun y hy => ?_⟩ (by show 3 - (k + 1) < 3 - k; omega)
      rw [List.take_add_one, hx] at hy
      rcases List.mem_append.1 hy with hy | hy
      · exact hn y hy
      · obtain rfl := List.mem_singleton.1 hy
        omega
    obtain rfl : k = 3 := by omega
    rw [List.take_of_length_le (by omega)] at hn
    match l, hl with
    | [(u, f), (s, g), (t, j)], _ =>
      obtain ⟨mu, mu', _, p, hu, hp⟩ := hm (u, f) (by simp)
      obtain ⟨_, _, _, q, hs, hq⟩ := hm (s, g) (by simp)
      obtain ⟨_, _, _, r, ht, hr⟩ := hm (t, j) (by simp)
      have bf := hn (u, f) (by simp)
      have bg := hn (s, g) (by simp)
      have bj := hn (t, j) (by simp)
      simp only at bf bg bj
      have hG := W.w.w.g
      have hpq := vmul_ne hG hp hq
      have b1 := vadd_bd (G := G) (p := p) (q := q) (f := f) (g := g)
      have b2 := vadd_bd (G := G) (p := q) (q := r) (f := g) (g := j)
      have b3 := vadd_bd (G := G) (p := vmul G p q) (q := r) (f := vadd G p q f g) (g := j)
      obtain ⟨e1, b4⟩ := vopp_bd (G := G) (p := p) bf
      refine Dw rfl ?_
      refine Ix 0 rfl (u := dT u f) rfl ?_
      refine Ix 1 rfl (u := dT s g) rfl ?_
      refine Ca rfl (P19.Add_few W.w hu hs (by decide) (by omega) (by omega)) fun v1 h1 => ?_
      obtain ⟨x1, rfl, hx1⟩ := h1
      refine Dw rfl ?_
      refine Ix 1 rfl (u := dT s g) rfl ?_
      refine Ix 0 rfl (u := dT u f) rfl ?_
      refine Ca rfl (P19.Add_few W.w hs hu (by decide) (by omega) (by omega)) fun v2 h2 => ?_
      rw [vadd_comm hG hq hp, vmul_comm] at h2
      obtain ⟨x2, rfl, hx2⟩ := h2
      refine Dw rfl ?_
      refine Ix 1 rfl (u := dT s g) rfl ?_
      refine Ix 2 rfl (u := dT t j) rfl ?_
      refine Ca rfl (P19.Add_few W.w hs ht (by decide) (by omega) (by omega)) fun v3 h3 => ?_
      obtain ⟨x3, rfl, hx3⟩ := h3
      refine No rfl (by decide) ?_
      refine No rfl (by decide) ?_
      refine No rfl (by decide) ?_
      refine Ce rfl (R19.Same_t W.w hx1 hx2 (by decide) hpq (by omega)) ?_
      refine No rfl (by decide) ?_
      refine Dw rfl ?_
      refine Ix 2 rfl (u := dT t j) rfl ?_
      refine Ca rfl (P19.Add_few W.w hx1 ht (by decide) (by omega) (by omega)) fun v4 h4 => ?_
      obtain ⟨x4, rfl, hx4⟩ := h4
      refine Dw rfl ?_
      refine Ix 0 rfl (u := dT u f) rfl ?_
      refine Ca rfl (P19.Add_few W.w hu hx3 (by decide) (by omega) (by omega)) fun v5 h5 => ?_
      rw [← vadd_assoc hG hp hq hr, ← vmul_assoc] at h5
      obtain ⟨x5, rfl, hx5⟩ := h5
      refine Dw rfl ?_
      refine Ix 0 rfl (u := dT u f) rfl ?_
      refine Ix 0 rfl (u := dT u f) rfl ?_
      refine Ca rfl (P19.Neg_g W.w hu (W.trm mu) (by decide) (by unfold few; omega)) fun v6 h6 => ?_
      rw [e1] at h6
      obtain ⟨x6, rfl, hx6⟩ := h6
      refine Ca rfl (P19.Add_few W.w hu hx6 (by decide) (by omega) (by omega)) fun v7 h7 => ?_
      have e0 : vadd G p (vcon p) f (P19.vopp G p f) = 0 := by
        rw [vadd_con hG hp]
        unfold P19.vopp
        split <;> omega
      rw [e0] at h7
      obtain ⟨x7, rfl, hx7⟩ := h7
      refine Yes rfl (by decide) ?_
      refine Yes rfl (by decide) ?_
      refine Yes rfl (by decide) ?_
      refine Ce rfl (R19.Same_t W.w hx4 hx5 (by decide) (vmul_ne hG hpq hr) (by omega)) ?_
      refine Yes rfl rfl ?_
      have hz := P19.Zero_g (f := 0) W.w hx7 (by decide)
      rw [dc_iff.2 ⟨rfl, vflat_con hG hp⟩] at hz
      refine Ce rfl hz ?_
      exact R0
theorem vcon_mul {K : Nat} {G : Tw K} {p q : V2 K} : vcon (vmul G p q) = vmul G (vcon p) (vcon q) := by
  obtain ⟨a, b⟩ := p
  obtain ⟨c, d⟩ := q
  have L := ring K G
  exact Prod.ext (Laws.req L [a, b, c, d] (.add (.mul (.v 0) (.v 2)) (.neg (.mul (.v 1) (.v 3)))) (.add (.mul (.v 0) (.v 2)) (.neg (.mul (.neg (.v 1)) (.neg (.v 3))))) (by decide +kernel)) (Laws.req L [a, b, c, d] (.neg (.add (.mul (.v 0) (.v 3)) (.mul (.v 1) (.v 2)))) (.add (.mul (.v 0) (.neg (.v 3))) (.mul (.neg (.v 1)) (.v 2))) (by decide +kernel))
theorem TurnAround_ok {ops : List RO} {at' : List (Fin 256)} {a b c : Int} : C0 9 [.d (dCs ops at' a b c)] (· = .b true) := by
  refine En Tryz.func9 fun _ _ => ?_
  refine Ca rfl (Turns_ok (n := 3) (by decide)) fun v hv => ?_
  rcases hv with ⟨l, rfl⟩ | ⟨l, rfl, hl, K, G, S, N, W, hm⟩
  · refine Ce rfl awake_ok ?_
    refine No rfl (by simp) ?_
    refine Yes rfl (by simp) ?_
    refine Ce rfl awake_ok ?_
    exact R0
  · refine Ce rfl awake_ok ?_
    refine No rfl (by simp) ?_
    refine No rfl (by simp) ?_
    match l, hl with
    | [(u, f), (s, g), (t, j)], _ =>
      obtain ⟨mu, mu', _, p, hu, hp⟩ := hm (u, f) (by simp)
      obtain ⟨ms', _, _, q, hs, hq⟩ := hm (s, g) (by simp)
      obtain ⟨mt, _, _, r, ht, hr⟩ := hm (t, j) (by simp)
      have hG := W.w.w.g
      obtain ⟨X, eX⟩ : ∃ X, X = vmul G (vcon p) q := ⟨_, rfl⟩
      obtain ⟨U, eU⟩ : ∃ U, U = vmul G (vcon r) q := ⟨_, rfl⟩
      have eY : vmul G (vcon q) p = vcon X := by rw [eX, vcon_mul, vcon_vcon G, vmul_comm]
      have hX : X ≠ vz K := by rw [eX]; exact vmul_ne hG (vcon_ne hG hp) hq
      have hY := vcon_ne hG hX
      have hU : U ≠ vz K := by rw [eU]; exact vmul_ne hG (vcon_ne hG hr) hq
      have b1 := vadd_bd (G := G) (p := X) (q := U) (f := 0) (g := 0)
      have b2 := vadd_bd (G := G) (p := vcon X) (q := U) (f := 0) (g := 0)
      refine Dw rfl ?_
      refine Ix 0 rfl (u := dT u f) rfl ?_
      refine Ix 1 rfl (u := dT s g) rfl ?_
      refine Ca rfl (P19.Of_g W.w hu hs (W.trm mu) (by decide)) fun v1 h1 => ?_
      rw [P19.OfG, ← eX] at h1
      obtain ⟨x1, rfl, hx1⟩ := h1.elim (fun h => h.2) fun h => absurd h.1 fun e => e.elim hp hq
      refine Dw rfl ?_
      refine Ix 1 rfl (u := dT s g) rfl ?_
      refine Ix 0 rfl (u := dT u f) rfl ?_
      refine Ca rfl (P19.Of_g W.w hs hu (W.trm ms') (by decide)) fun v2 h2 => ?_
      rw [P19.OfG, eY] at h2
      obtain ⟨x2, rfl, hx2⟩ := h2.elim (fun h => h.2) fun h => absurd h.1 fun e => e.elim hq hp
      refine Ca rfl (P19.Add_few W.w hx1 hx2 (by decide) (by omega) (by omega)) fun v3 h3 => ?_
      rw [vadd_con hG hX] at h3
      obtain ⟨x3, rfl, hx3⟩ := h3
      refine No rfl (by decide) ?_
      refine No rfl (by decide) ?_
      refine No rfl (by decide) ?_
      refine Ce rfl (at_ok (i := 1) (j := 0) (by decide) (by decide)) ?_
      refine Ce rfl (P19.Zero_g (f := 0) W.w hx1 (by decide)) ?_
      have G1 : Gv G S N 1 (v0 (1, 0)) ((rat K 1, rat K 0) : V2 K) := ⟨Gd.rat W.w (by decide +kernel), Gd.rat W.w (by decide +kernel)⟩
      have ts : tsame G (vmul G X (vcon X)) (rat K 1, rat K 0) (0 + 0 + (if vflat G X then 0 else 1)) (if vflat G X then 0 else 1) := by
        refine ⟨⟨vmul_ne hG hX hY, by unfold lim; split <;> omega⟩, ⟨fun e => P9.one_zero (congrArg Prod.fst e), by unfold lim; split <;> omega⟩, ?_⟩
        unfold tcmp
        rw [if_neg (by omega), if_neg (by omega), rat_zero]
        exact (vflat_iff hG).2 (vflat_con hG hX)
      have hsm := R19.Same_g (f := 0 + 0 + (if vflat G X then 0 else 1)) (g := if vflat G X then 0 else 1) W.w hx3 G1 (by decide)
      rw [dc_iff.2 ts] at hsm
      have key := vcmp_add hG hX hY hU
      refine Cu none (fun _ : Unit => [(3, .d (dTs [(u, f), (s, g), (t, j)])), (5, .ptr 5 0), (6, .d (.int .i64 0)), (7, .ptr 7 0), (8, .d (.int .i64 0)), (9, .ptr 9 0), (10, .d (.int .i64 0)), (11, .ptr 11 0)]) (fun _ => [(5, .var (.d (dT x1 0))), (7, .var (.d (dT x2 0))), (9, .var (.d (dT x3 (0 + 0 + (if vflat G X then 0 else 1))))), (11, .var (.d (dT (v0 (1, 0)) (if vflat G X then 0 else 1))))]) (fun _ => True) rfl ?_ (fun _ _ => ?_)
      · refine By rfl (fun h => ?_) fun h => ?_
        · rw [if_pos h.2]
          exact Jn () [] rfl trivial
        · rw [if_neg fun e => h ⟨rfl, e⟩]
          exact Jn () [] rfl trivial
      refine Ce rfl (P19.Cmp_g (f := 0) (g := 0) W.w hx1 hx2 (by decide)) ?_
      refine Dw rfl ?_
      refine Ix 2 rfl (u := dT t j) rfl ?_
      refine Ix 1 rfl (u := dT s g) rfl ?_
      refine Ca rfl (P19.Of_g W.w ht hs (W.trm mt) (by decide)) fun v4 h4 => ?_
      rw [P19.OfG, ← eU] at h4
      obtain ⟨x4, rfl, hx4⟩ := h4.elim (fun h => h.2) fun h => absurd h.1 fun e => e.elim hr hq
      refine Ca rfl (P19.Add_few W.w hx1 hx4 (by decide) (by omega) (by omega)) fun v5 h5 => ?_
      obtain ⟨x5, rfl, hx5⟩ := h5
      refine Ca rfl (P19.Add_few W.w hx2 hx4 (by decide) (by omega) (by omega)) fun v6 h6 => ?_
      obtain ⟨x6, rfl, hx6⟩ := h6
      refine Ce rfl (P19.Cmp_g (f := vadd G X U 0 0) (g := vadd G (vcon X) U 0 0) W.w hx5 hx6 (by decide)) ?_
      refine Ce rfl hsm ?_
      refine Yes rfl rfl ?_
      refine Yes rfl (by decide) ?_
      refine Yes rfl (by decide) ?_
      refine Yes rfl (by decide) ?_
      refine Yes rfl (by decide) ?_
      refine Yes rfl (by decide) ?_
      refine Rt rfl (.one (.rf rfl) rfl rfl) ?_
      exact congrArg AV.b (dc_iff.2 key.symm)
end Go.Proofs.YtfmgfaeheljpcaaGreat

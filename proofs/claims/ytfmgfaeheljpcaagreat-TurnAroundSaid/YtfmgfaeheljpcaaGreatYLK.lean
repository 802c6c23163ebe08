/- numbers: the reference's recipes. -/
import Derived.Test.YtfmgfaeheljpcaaGreatYLI
import Derived.Test.YtfmgfaeheljpcaaGreatYTP
set_option linter.unusedVariables false
set_option linter.unusedSimpArgs false
set_option maxRecDepth 10000
namespace Go.Proofs.YtfmgfaeheljpcaaGreat
open Go Go.Vm Go.Num Go.Tow
/-- a step of a recipe -/
structure RO where
  kind : Nat
  a : Nat
  b : Nat
  n : Int
  d : Nat
  h : kind < 256 ∧ a < 256 ∧ b < 256 ∧ d < 256 ∧ -128 ≤ n ∧ n < 128
abbrev dO (o : RO) : D := .st (.pr (.int .u8 o.kind) (.pr (.int .u8 o.a) (.pr (.int .u8 o.b) (.pr (.int .i8 o.n) (.int .u8 o.d)))))
abbrev dRs (l : List RO) : D := .sl 5 (l.map dO)
end Go.Proofs.YtfmgfaeheljpcaaGreat
namespace Go.Proofs.YtfmgfaeheljpcaaGreat.R9
open Go Go.Vm Go.Num Go.Tow Go.Proofs.YtfmgfaeheljpcaaGreat
theorem sh_sz {l : List Rat} {n q : Nat} (h : ∀ x ∈ l, sh x) (hn : l.length ≤ n) (hq : 64 * n + 1 ≤ q) : Sz q l := (Sz.all fun x hx => (h x hx).qs).mono (Nat.le_trans (by have := Nat.mul_le_mul_left 64 hn; omega) hq)
theorem shN.ok {K : Nat} {G : Tw K} {S : List (Tow.El K)} {r p : Nat} {z : Nm} {v : Tow.El K} (hs : shN z) (h : NOk G S r p z v) (hk : z.k ≤ 3) : NOk G S 300 600 z v :=
  ⟨h.ex, TS.of fun i l hl => by
    have hi := (List.getElem?_eq_some_iff.1 hl).1
    rw [toT_length] at hi
    have : l.length ≤ 4 := by
      rw [(TS.pt h.r _ _ hl).1]; exact Nat.pow_le_pow_right (n := 2) (by decide) (show i ≤ 2 by omega)
    exact sh_sz (n := 4) (hs.2 l (List.mem_of_getElem? hl)) this (by decide),
   sh_sz (n := 8) hs.1 (by rw [toL_length]; exact Nat.pow_le_pow_right (n := 2) (by decide) hk) (by decide)⟩
/-- what a step may come to, before it is looked at -/
def Big (l : List Nm) (n : Nat) (z : Nm) : Prop := n ≤ 3 ∧ Wld n l fun G S => ∃ v, NOk G S wR (oW 1000000) z v
theorem bnds : 300 ≤ wR ∧ 600 ≤ oW 1000000 ∧ 600 + gC 300 3 ≤ oW 1000000 ∧ 900 ≤ wR ∧ iS 300 3 600 ≤ 1000000 ∧ iB 300 3 600 ≤ 4398046511104 ∧ qB 300 3 600 ≤ 4398046511104 ∧ qB 300 3 300 ≤ 4398046511104 ∧ vB 300 3 (600 + gC 300 3) ≤ 4398046511104 ∧ vB 300 3 300 ≤ 4398046511104 ∧ vB 300 3 600 ≤ 4398046511104 ∧ oW 1000000 ≤ 8796093022208 := by decide +kernel
theorem remN {a m : Nat} {k : IntKind} (hm : 0 < m) : arB .rem k a m (a % m : Nat) := show _ ∧ _ from ⟨by omega, trem a m⟩
theorem wld_mono {n m : Nat} {l : List Nm} {P : ∀ {K : Nat}, Tw K → List (Tow.El K) → Prop} (h : Wld n l @P) (hn : n ≤ m) : Wld m l @P := by
  obtain ⟨K, G, S, h1, h2, h3, h4⟩ := h
  exact ⟨K, G, S, h1, Nat.le_trans h2 hn, h3, h4⟩
theorem frac_sh {n : Int} {d : Nat} (hn : -128 ≤ n ∧ n < 128) (hd : 0 < d ∧ d ≤ 8) : sh (Rat.divInt n d) := by
  have h1 : (Rat.divInt n d).num.natAbs ≤ n.natAbs := by
    rw [Rat.num_divInt, Int.natAbs_ediv_of_dvd ?_]
    · have hs : ((d : Int)).sign = 1 := Int.sign_eq_one_of_pos (by omega)
      rw [hs, Int.one_mul]
      exact Nat.div_le_self ..
    · have hs : ((d : Int)).sign = 1 := Int.sign_eq_one_of_pos (by omega)
      rw [hs, Int.one_mul]; exact Int.gcd_dvd_right ..
  have h2 : (Rat.divInt n d).den ≤ d := by
    rw [Rat.den_divInt, if_neg (by omega), Int.natAbs_natCast]
    exact Nat.div_le_self ..
  exact ⟨dig_len_le (Nat.lt_of_le_of_lt h1 (by omega)), dig_len_le (Nat.lt_of_le_of_lt h2 (by omega))⟩
theorem Build_ok {ops : List RO} : C0 152 [.d (dRs ops)] fun v => ∃ l : List Nm, v = .d (dNs l) ∧ l.length ≤ 24 ∧ (∀ z ∈ l, Tm z) ∧ Wld 3 l fun _ _ => True := by
  obtain ⟨b1, b2, b3, b4, b5, b6, b7, b8, b9, b10, b11, b12⟩ := bnds
  have app : ∀ {K : Nat} {G : Tw K} {S : List (Tow.El K)} {l : List Nm} {z : Nm} {v : Tow.El K}, (∀ y ∈ l, ∃ v, NOk G S 300 600 y v) → NOk G S 300 600 z v → ∀ y ∈ l ++ [z], ∃ v, NOk G S 300 600 y v := fun h hz y hy => by
    rcases List.mem_append.1 hy with hy | hy
    · exact h y hy
    · rw [List.mem_singleton.1 hy]; exact ⟨_, hz⟩
  have apt : ∀ {l : List Nm} {z : Nm}, (∀ y ∈ l, Tm y) → Tm z → ∀ y ∈ l ++ [z], Tm y := fun h hz y hy => by
    rcases List.mem_append.1 hy with hy | hy
    · exact h y hy
    · rw [List.mem_singleton.1 hy]; exact hz
  refine En Tryz.func152 fun _ _ => ?_
  refine Nl 3 3 2 rfl ?_
  refine Lo (fun (s : Nat × Nat × List Nm) => [(0, .d (dRs ops)), (3, .gr 3 2 (s.2.2.map dN)), (4, .d (.int .i64 s.2.1)), (5, .d (.int .i64 s.1))]) (fun s => [(3, .tok (s.2.2.map dN).length 2)]) (fun s => s.1 ≤ 24 ∧ s.2.2.length = s.1 ∧ s.2.1 ≤ 3 ∧ (∀ z ∈ s.2.2, Tm z) ∧ Wld s.2.1 s.2.2 fun _ _ => True) (fun s => 24 - s.1) (0, 0, []) [] rfl
    ⟨Nat.zero_le _, rfl, Nat.zero_le _, fun z hz => (nomatch hz), 0, (), [], trivial, Nat.le_refl _, fun g hg => (by cases hg), fun y hy => (by cases hy), trivial⟩ (fun (i, n, l) ⟨hi, hl, hn3, hm, hw⟩ => ?_)
  simp only at hi hl hn3 hm hw
  refine By rfl (fun h => ?_) fun h => ?_
  · have h : (i : Int) < ((ops.map dO).length : Nat) := h
    rw [List.length_map] at h
    refine By rfl (fun h2 => ?_) fun h2 => ?_
    · have h2 : (i : Int) < 24 := h2
      obtain ⟨o, ho⟩ : ∃ o, ops[i]? = some o := ⟨_, List.getElem?_eq_getElem (by omega)⟩
      obtain ⟨o1, o2, o3, o4, o5⟩ := o.h
      refine Ix i rfl (u := dO o) (by rw [List.getElem?_map, ho]; rfl) ?_
      have frac : sh (Rat.divInt o.n (o.d % 8 + 1 : Nat)) := frac_sh ⟨o5.1, o5.2⟩ ⟨by omega, by omega⟩
      obtain ⟨q, hqe⟩ : ∃ q, q = Rat.divInt o.n (o.d % 8 + 1 : Nat) := ⟨_, rfl⟩
      rw [← hqe] at frac
      have hqs : shN ⟨0, (), q⟩ := ⟨fun x hx => by obtain rfl := List.mem_singleton.1 hx; exact frac, fun l hl => nomatch hl⟩
      have hq0 : ∀ {K : Nat} (G : Tw K) (S : List (Tow.El K)) (r p : Nat), 65 ≤ p → NOk G S r p ⟨0, (), q⟩ (rat K q) := fun G S r p hp => ⟨⟨fun _ => zero _, ⟨trivial, trivial, fun i hi => absurd hi (Nat.not_lt_zero _)⟩, rfl⟩, trivial, sh_sz (n := 1) hqs.1 (Nat.le_refl _) (by omega)⟩
      refine Cv o.n rfl ?_ (wI (by omega))
      refine Ar (o.d % 8 : Nat) rfl ?_ (remN (by decide))
      refine Cv (o.d % 8 : Nat) rfl ?_ (wI (by omega))
      refine Ar (o.d % 8 + 1 : Nat) rfl ?_
      have hfr := Frac_ok (a := o.n) (b := (o.d % 8 + 1 : Nat)) (by omega) (by omega) (by omega)
      rw [← hqe] at hfr
      refine Ce rfl hfr ?_
      -- a number comes behind the others
      refine By rfl (fun h3 => ?_) fun h3 => ?_
      · have h3 : ((l.map dN).length : Int) > 0 := h3
        rw [List.length_map] at h3
        refine Ar (o.kind % 6 : Nat) rfl ?_ (remN (by decide))
        refine Cu none (fun (s : Nm × Nat) => [(0, .d (dRs ops)), (3, .gr 3 2 (l.map dN)), (4, .d (.int .i64 s.2)), (5, .d (.int .i64 i)), (7, .ptr 7 0)]) (fun s => [(3, .tok (l.map dN).length 2), (7, .var (.d (dN s.1)))]) (fun s => Big l s.2 s.1) rfl ?_ (fun (z, n') hB => ?_)
        · obtain ⟨K, G, S, hG, hS, hq, hall, _⟩ := hw
          have hS3 := Nat.le_trans hS hn3
          have hGr := red_real hG
          have W := hq.wd hG hS3
          refine By rfl (fun h4 => ?_) fun h4 => ?_
          · obtain ⟨xa, hxa⟩ : ∃ x, l[o.a % l.length]? = some x := ⟨_, List.getElem?_eq_getElem (Nat.mod_lt _ (by omega))⟩
            obtain ⟨xb, hxb⟩ : ∃ x, l[o.b % l.length]? = some x := ⟨_, List.getElem?_eq_getElem (Nat.mod_lt _ (by omega))⟩
            obtain ⟨va, ha⟩ := hall xa (List.mem_of_getElem? hxa)
            obtain ⟨vb, hb⟩ := hall xb (List.mem_of_getElem? hxb)
            have ha1 : NOk G S 300 1000000 xa va := ha.mono (Nat.le_refl _) (by decide)
            have hb1 : NOk G S 300 1000000 xb vb := hb.mono (Nat.le_refl _) (by decide)
            have hua : (l.map dN)[o.a % l.length]? = some (dN xa) := by rw [List.getElem?_map, hxa]; rfl
            have hub : (l.map dN)[o.b % l.length]? = some (dN xb) := by rw [List.getElem?_map, hxb]; rfl
            have hrm : ∀ {c : Nat}, arB .rem .i64 c ((l.map dN).length : Nat) (c % l.length : Nat) := fun {c} => by rw [List.length_map]; exact remN (by omega)
            have ka := ha.le hGr hS3
            have ok : ∀ {z : Nm} {v : Tow.El K}, NOk G S wR (oW 1000000) z v → Big l n z := fun h => ⟨hn3, K, G, S, hG, hS, hq, hall, _, h⟩
            have same : Big l n xa := ok (ha.mono b1 b2)
            refine Dz rfl ?_
            refine Cv (o.a : Nat) rfl ?_ (wI (by omega))
            refine Ar (o.a % l.length : Nat) rfl ?_ hrm
            refine Ix (o.a % l.length) rfl hua ?_
            refine Cv (o.b : Nat) rfl ?_ (wI (by omega))
            refine Ar (o.b % l.length : Nat) rfl ?_ hrm
            refine Ix (o.b % l.length) rfl hub ?_
            refine Ar (o.kind % 6 : Nat) rfl ?_ (remN (by decide))
            refine By rfl (fun c1 => ?_) fun c1 => ?_
            · refine Ca rfl (Add_ok W ha1 hb1 (by decide)) fun v hv => ?_
              obtain ⟨z, rfl, hz⟩ := hv
              refine Ce rfl (made_ok (x := z) (y := xa)) ?_
              exact Jn (z, n) [] rfl (ok hz)
            refine By rfl (fun c2 => ?_) fun c2 => ?_
            · refine Ca rfl (Sub_ok W ha1 hb1 (by decide)) fun v hv => ?_
              obtain ⟨z, rfl, hz⟩ := hv
              refine Ce rfl (made_ok (x := z) (y := xa)) ?_
              exact Jn (z, n) [] rfl (ok hz)
            refine By rfl (fun c3 => ?_) fun c3 => ?_
            · refine Ca rfl (Mul_ok W ha1 hb1 (by decide)) fun v hv => ?_
              obtain ⟨z, rfl, hz⟩ := hv
              refine Ce rfl (made_ok (x := z) (y := xa)) ?_
              exact Jn (z, n) [] rfl (ok hz)
            refine By rfl (fun c4 => ?_) fun c4 => ?_
            · refine Ca rfl (Div_ok W ha1 hb b5 b6 (by decide)) fun v hv => ?_
              rcases hv with ⟨_, rfl⟩ | ⟨w, _, z, rfl, hz⟩
              · refine Ce rfl (made6_ok (y := xa)) ?_
                exact Jn (xa, n) [] rfl same
              · refine Ce rfl (made_ok (x := z) (y := xa)) ?_
                exact Jn (z, n) [] rfl (ok hz)
            have rt : ∀ {y : Nm} {vy : Tow.El K} {v : AV}, NOk G S 300 600 y vy → RtR y v → n < 3 → ∃ z : Nm, v = .tup (.pr (.d (dN z)) (.d (.int .i64 0))) ∧ Big l (n + 1) z := fun {y vy v} hy hv hn => by
              obtain ⟨ρ, y1, y2⟩ := hy.ex
              have ky := hy.le hGr hS3
              obtain ⟨z, rfl, ⟨w, rfl, e1, e2⟩ | ⟨rfl, e1, e2⟩⟩ := hv
              · exact ⟨_, rfl, by omega, K, G, S, hG, by omega, hq, hall, _, ⟨ρ, y1, rfl⟩, hy.r.mono b1, (hy.p.rootS hy.r y1.r e1).mono (Nat.le_trans (Nat.add_le_add_left (gC_le ky) _) b3)⟩
              · exact ⟨_, rfl, by omega, root_world hG hS hq hall y1 hy.r hy.p e1 e2 ⟨hy.r.mono b1, hy.p.mono (by omega)⟩ ((root_sz y.k).mono (by omega))⟩
            have sq : ∀ {y : Nm} {vy : Tow.El K}, NOk G S 300 600 y vy → 0 ≤ sgn K G vy → C0 220 [.d (dN y)] (RtR y) := fun {y vy} hy h0 => by
              obtain ⟨ρ, y1, y2⟩ := hy.ex
              have ky := hy.le hGr hS3
              rw [hy.sgn hGr] at h0
              have q1 := qB_le (r := 300) (p := 600) ky
              have q2 := qB_le (r := 300) (p := 300) ky
              have q3 := vB_mono (r := 300) (k := y.k) (show 600 + gC 300 y.k ≤ 600 + gC 300 3 by have := gC_le (r := 300) ky; omega)
              have q4 := vB_le (r := 300) (s := 600 + gC 300 3) ky
              have q5 := vB_le (r := 300) (s := 300) ky
              exact Sqrt_ok y1.r hy.r hy.p h0 (by omega) (by omega) (by omega) (by omega) (by omega)
            have q6 := vB_le (r := 300) (s := 600) ka
            refine Ce rfl (Sign_ok hG ha (by omega) (by omega)) ?_
            refine By rfl (fun c5 => ?_) fun c5 => ?_
            · refine Ce rfl (Neg_ok ha (by omega) (by decide)) ?_
              have hneg := ha.neg
              refine By rfl (fun c6 => ?_) fun c6 => ?_
              · have c6 : (n : Int) < 3 := c6
                refine Ar (n + 1 : Nat) rfl ?_ (wr (show (n : Int) + 1 = ((n + 1 : Nat) : Int) by omega) (by simp only [inK]; omega))
                refine Ca rfl (sq hneg (by rw [(sgn_ok hGr).sn]; omega)) fun v hv => ?_
                obtain ⟨z, rfl, hz⟩ := rt hneg hv (by omega)
                refine Ce rfl (made_ok (x := z) (y := ⟨xa.k, xa.t, Tow.neg xa.k xa.a⟩)) ?_
                exact Jn (z, n + 1) [] rfl hz
              · exact Jn (xa, n) [] rfl same
            · refine By rfl (fun c6 => ?_) fun c6 => ?_
              · have c6 : (n : Int) < 3 := c6
                refine Ar (n + 1 : Nat) rfl ?_ (wr (show (n : Int) + 1 = ((n + 1 : Nat) : Int) by omega) (by simp only [inK]; omega))
                refine Ca rfl (sq ha (by omega)) fun v hv => ?_
                obtain ⟨z, rfl, hz⟩ := rt ha hv (by omega)
                refine Ce rfl (made_ok (x := z) (y := xa)) ?_
                exact Jn (z, n + 1) [] rfl hz
              · exact Jn (xa, n) [] rfl same
          · exact Jn (⟨0, (), q⟩, n) [] rfl ⟨hn3, K, G, S, hG, hS, hq, hall, _, hq0 G S _ _ (by omega)⟩
        · obtain ⟨hn', K, G, S, hG, hS, hq, hall, v, hz⟩ := hB
          have hS3 := Nat.le_trans hS hn'
          have hGr := red_real hG
          have kz : z.k ≤ 3 := hz.le hGr hS3
          refine Yes rfl (by rw [List.length_map]; exact h3) ?_
          refine Ce rfl (long_ok (x := z) (Nat.le_trans kz (by decide))) ?_
          refine By rfl (fun h5 => ?_) fun h5 => ?_
          · obtain ⟨y, hy⟩ : ∃ y, l[l.length - 1]? = some y := ⟨_, List.getElem?_eq_getElem (by omega)⟩
            obtain ⟨vy, hvy⟩ := hall y (List.mem_of_getElem? hy)
            refine Ar (l.length - 1 : Nat) rfl ?_ (wr (by rw [List.length_map]; omega) (by simp only [inK]; omega))
            refine Ix (l.length - 1) rfl (u := dN y) (by rw [List.getElem?_map, hy]; rfl) ?_
            refine Ca rfl (Trim_ok hG hS3 hvy (by decide) (by decide)) fun v hv => ?_
            obtain ⟨z', rfl, hz', ht'⟩ := hv
            refine ApG ((l ++ [z']).map dN) rfl (by simp) (by simp; omega) ?_
            refine Ar (i + 1 : Nat) rfl ?_
            exact Bk (i + 1, n', l ++ [z']) [(157, 3)] rfl ⟨by show i + 1 ≤ 24; omega, by simp [hl], hn', apt hm ht', K, G, S, hG, hS, hq, app hall hz', trivial⟩ (by show 24 - (i + 1) < 24 - i; omega)
          · have hsh : shN z := by simpa [dc_not, dc_iff] using h5
            refine Ca rfl (Trim_ok hG hS3 (hsh.ok hz kz) (by decide) (by decide)) fun v hv => ?_
            obtain ⟨z', rfl, hz', ht'⟩ := hv
            refine ApG ((l ++ [z']).map dN) rfl (by simp) (by simp; omega) ?_
            refine Ar (i + 1 : Nat) rfl ?_
            exact Bk (i + 1, n', l ++ [z']) [(157, 3)] rfl ⟨by show i + 1 ≤ 24; omega, by simp [hl], hn', apt hm ht', K, G, S, hG, hS, hq, app hall hz', trivial⟩ (by show 24 - (i + 1) < 24 - i; omega)
      · have h3 : ¬ ((l.map dN).length : Int) > 0 := h3
        rw [List.length_map] at h3
        obtain ⟨K, G, S, hG, hS, hq, hall, _⟩ := hw
        have hS3 := Nat.le_trans hS hn3
        refine No rfl (by rw [List.length_map]; exact h3) ?_
        refine Ca rfl (Trim_ok hG hS3 (hq0 G S 300 600 (by decide)) (by decide) (by decide)) fun v hv => ?_
        obtain ⟨z', rfl, hz', ht'⟩ := hv
        refine ApG ((l ++ [z']).map dN) rfl (by simp) (by simp; omega) ?_
        refine Ar (i + 1 : Nat) rfl ?_
        exact Bk (i + 1, n, l ++ [z']) [(157, 3)] rfl ⟨by show i + 1 ≤ 24; omega, by simp [hl], hn3, apt hm ht', K, G, S, hG, hS, hq, app hall hz', trivial⟩ (by show 24 - (i + 1) < 24 - i; omega)
    · exact Rt rfl (.one (.gr rfl) rfl rfl) ⟨l, rfl, by omega, hm, wld_mono hw hn3⟩
  · exact Rt rfl (.one (.gr rfl) rfl rfl) ⟨l, rfl, by omega, hm, wld_mono hw hn3⟩
end Go.Proofs.YtfmgfaeheljpcaaGreat.R9

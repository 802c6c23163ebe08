/- numbers: the reference's Trim. -/
import Derived.Test.YtfmgfaeheljpcaaGreatYLH
import Derived.Test.YtfmgfaeheljpcaaGreatYTY
set_option linter.unusedVariables false
set_option linter.unusedSimpArgs false
set_option maxRecDepth 10000
namespace Go.Proofs.YtfmgfaeheljpcaaGreat.R9
open Go Go.Vm Go.Num Go.Tow Go.Proofs.YtfmgfaeheljpcaaGreat
section
/-- the lists behind place i, up to place j, without bit i -/
def wl (i j : Nat) (zs : List (List Rat)) : List (List Rat) := zs.mapIdx fun q r => if i < q ∧ q < j then wo r i else r
theorem wl_get {i j q : Nat} {zs : List (List Rat)} : (wl i j zs)[q]? = zs[q]?.map fun r => if i < q ∧ q < j then wo r i else r := by unfold wl; rw [List.getElem?_mapIdx]
theorem wl_len {i j : Nat} {zs : List (List Rat)} : (wl i j zs).length = zs.length := by unfold wl; simp
theorem wl_start {i : Nat} {zs : List (List Rat)} : wl i (i + 1) zs = zs := List.ext_getElem? fun q => by
  rw [wl_get]
  cases zs[q]? with
  | none => rfl
  | some r => simp only [Option.map_some]; rw [if_neg (by omega)]
theorem wl_set {i j : Nat} {zs : List (List Rat)} {r : List Rat} (hi : i < j) (h : zs[j]? = some r) : (wl i j zs).set j (wo r i) = wl i (j + 1) zs := List.ext_getElem? fun q => by
  have hj := (List.getElem?_eq_some_iff.1 h).1
  rw [wl_get, List.getElem?_set]
  by_cases e : j = q
  · subst e
    rw [if_pos rfl, if_pos (by rw [wl_len]; exact hj), h, Option.map_some, if_pos ⟨hi, by omega⟩]
  · rw [if_neg e, wl_get]
    cases zs[q]? with
    | none => rfl
    | some r => simp only [Option.map_some]; congr 1; split <;> split <;> first | rfl | omega
theorem wl_end {m i : Nat} {T : Tw (m + 1)} {zs : List (List Rat)} (hz : zs.take (m + 1) = toT (m + 1) T) (hi : i ≤ m) : (wl i (m + 1) zs).take i ++ ((wl i (m + 1) zs).drop (i + 1)).take (m + 1 - (i + 1)) = toT m (rmT m i T) := by
  rw [toT_rmT hi, ← hz]
  congr 1
  · refine List.ext_getElem? fun q => ?_
    rw [List.getElem?_take, List.getElem?_take, List.getElem?_take, wl_get]
    split
    · rw [if_pos (by omega)]
      cases zs[q]? with
      | none => rfl
      | some r => simp only [Option.map_some]; rw [if_neg (by omega)]
    · rfl
  · refine List.ext_getElem? fun q => ?_
    rw [List.getElem?_take, List.getElem?_drop, List.getElem?_map, List.getElem?_drop, List.getElem?_take, wl_get]
    split
    · rw [if_pos (by omega)]
      cases zs[i + 1 + q]? with
      | none => rfl
      | some r => simp only [Option.map_some]; rw [if_pos (by omega)]
    · rw [if_neg (by omega)]; rfl
section
variable {K : Nat} {G : Tw K} {S : List (Tow.El K)} {r p : Nat} {x : Nm} {v : Tow.El K}
/-- what Trim works on: the places left, the kind of slice, the number, the array -/
structure Tst where
  n : Nat
  kd : Nat
  z : Nm
  zs : List (List Rat)
def TI (G : Tw K) (S : List (Tow.El K)) (r p : Nat) (v : Tow.El K) (s : Tst) : Prop := NOk G S r p s.z v ∧ s.n ≤ s.z.k ∧ s.zs.take s.z.k = toT s.z.k s.z.t ∧ (s.kd = 0 → s.z.k = 0) ∧ (s.kd = 1 → s.zs.length = s.z.k) ∧ (3 ≤ s.kd → s.n = 0 ∧ s.zs.length = s.z.k) ∧ ∀ j, s.n ≤ j → j < s.z.k → nd s.z j
abbrev TH (s : Tst) : Hpl := (2, .var (.st (.pr .nil .nil))) :: match s.kd with
  | 0 => [(3, .var (.st (.pr (.lit 1 []) (.d (de s.z.a)))))]
  | 1 => [(3, .var (.st (.pr (.own 11 1 0 (s.zs.map dqs).length) (.d (de s.z.a))))), (11, .arr 1 (s.zs.map dqs))]
  | 2 => [(3, .var (.st (.pr (.ow3 11 1 0 s.z.k) (.d (de s.z.a))))), (11, .arr 1 (s.zs.map dqs))]
  | _ => [(3, .var (.st (.pr (.gr 11 1 (s.zs.map dqs)) (.d (de s.z.a))))), (11, .tok (s.zs.map dqs).length 1)]
abbrev TH' (kd m : Nat) (c : List Rat) (zs ws : List (List Rat)) : Hpl := (2, .var (.st (.pr .nil .nil))) :: match kd with
  | 1 => [(3, .var (.st (.pr (.own 11 1 0 (zs.map dqs).length) (.d (dqs c))))), (11, .arr 1 (ws.map dqs))]
  | _ => [(3, .var (.st (.pr (.ow3 11 1 0 (m + 1)) (.d (dqs c))))), (11, .arr 1 (ws.map dqs))]
theorem Trim_ok (hG : red K G) (hS : S.length ≤ 3) (hx : NOk G S r p x v) (hr : r ≤ 8796093022208) (hp : p ≤ 8796093022208) : C0 222 [.d (dN x)] fun w => ∃ z : Nm, w = .d (dN z) ∧ NOk G S r p z v ∧ Tm z := by
  have hGr := red_real hG
  have hk3 := hx.le hGr hS
  obtain ⟨k, t, a⟩ := x
  have hk3 : k ≤ 3 := hk3
  have hlen := toT_length k t
  refine En Tryz.func222 fun _ _ => ?_
  refine Dl rfl ?_
  by_cases k0 : k = 0
  · subst k0
    refine ApE rfl rfl (by decide) ?_
    refine Ar (-1) rfl ?_ (show arB .sub .i64 0 1 (-1) from wr rfl (by simp [inK]))
    refine Lo (fun (s : Tst) => [(2, .ptr 2 0), (3, .ptr 3 0), (4, .d (.int .i64 ((s.n : Int) - 1)))]) (fun s => TH s) (fun s => TI G S r p v s ∧ s.kd = 0 ∧ s.n = 0) (fun s => s.n) ⟨0, 0, ⟨0, t, a⟩, []⟩ [] rfl ⟨⟨hx, Nat.le_refl _, rfl, fun _ => rfl, nofun, fun h => absurd h (show ¬ 3 ≤ 0 by decide), fun j _ hj => absurd hj (Nat.not_lt_zero _)⟩, rfl, rfl⟩ (fun ⟨n, kd, ⟨m, T, c⟩, zs⟩ hI => ?_)
    obtain ⟨⟨h1, h2, h3, h4, h5, h6, h8⟩, rfl, rfl⟩ := hI
    obtain rfl := h4 rfl
    refine No rfl (show ¬ ((0 : Nat) : Int) - 1 ≥ 0 by decide) ?_
    exact Rt rfl (.one (.sd (.pd (.lit rfl) (.eq rfl))) rfl rfl) ⟨_, rfl, h1, fun i hi => absurd hi (Nat.not_lt_zero _)⟩
  · refine ApL ((toT k t).map dqs) rfl rfl (by simp [hlen]; omega) (by simp [hlen]; omega) ?_
    refine Ar (k - 1) rfl ?_ (wr (by simp [hlen]) (by simp only [inK]; omega))
    refine Lo (fun (s : Tst) => [(2, .ptr 2 0), (3, .ptr 3 0), (4, .d (.int .i64 ((s.n : Int) - 1)))]) (fun s => TH s) (fun s => TI G S r p v s ∧ s.kd ≠ 0) (fun s => s.n) ⟨k, 1, ⟨k, t, a⟩, toT k t⟩ [] rfl ⟨⟨hx, Nat.le_refl _, List.take_of_length_le (by rw [hlen]; exact Nat.le_refl _), nofun, fun _ => hlen, fun h => absurd h (show ¬ 3 ≤ 1 by decide), fun j h1 h2 => absurd h2 (Nat.not_lt.2 h1)⟩, show 1 ≠ 0 by decide⟩ (fun ⟨n, kd, ⟨m, T, c⟩, zs⟩ hI => ?_)
    obtain ⟨⟨h1, h2, h3, h4, h5, h6, h8⟩, h7⟩ := hI
    simp only at h1 h2 h3 h4 h5 h6 h7 h8
    have hm3 : m ≤ 3 := h1.le hGr hS
    have hT : TS r m T := h1.r
    have hc : Sz p (toL m c) := h1.p
    have hcl := toL_length m c
    have hpm := p16 (show m ≤ 16 by omega)
    have hTl := toT_length m T
    have hzl : m ≤ zs.length := by have := congrArg List.length h3; rw [List.length_take, hTl] at this; omega
    cases n with
    | zero =>
      refine No rfl (show ¬ ((0 : Nat) : Int) - 1 ≥ 0 by decide) ?_
      match kd, h5, h6, h7 with
      | 1, h5, _, _ =>
        exact Rt rfl (.one (.sd (.pd (.own rfl (by omega) (by rw [List.drop_zero, List.take_length, ← h3, List.take_of_length_le (by omega)])) (.eq rfl))) rfl rfl) ⟨⟨m, T, c⟩, rfl, h1, fun i hi => h8 i (Nat.zero_le _) hi⟩
      | 2, _, _, _ =>
        exact Rt rfl (.one (.sd (.pd (.ow3 rfl (by simp; omega) (by rw [List.drop_zero, ← List.map_take, h3])) (.eq rfl))) rfl rfl) ⟨⟨m, T, c⟩, rfl, h1, fun i hi => h8 i (Nat.zero_le _) hi⟩
      | kd + 3, _, h6, _ =>
        exact Rt rfl (.one (.sd (.pd (.gr (by rw [← h3, List.take_of_length_le (by have := (h6 (by omega)).2; omega)])) (.eq rfl))) rfl rfl) ⟨⟨m, T, c⟩, rfl, h1, fun i hi => h8 i (Nat.zero_le _) hi⟩
    | succ i =>
      obtain ⟨m, rfl⟩ : ∃ m', m = m' + 1 := ⟨m - 1, by omega⟩
      have hkd : kd = 1 ∨ kd = 2 := by
        have : ¬ 3 ≤ kd := fun h => by have := (h6 h).1; omega
        omega
      let need : Nat → Nat → Prop := fun i j => oc (toL (m + 1) c) i ∨ ∃ q l, i < q ∧ q < j ∧ (toT (m + 1) T)[q]? = some l ∧ oc l i
      have need0 : dc (oc (toL (m + 1) c) i) = true ↔ need i (i + 1) := by
        rw [dc_iff]; exact ⟨.inl, fun h => h.elim id fun ⟨q, l, a1, a2, _⟩ => by omega⟩
      have needS : ∀ {j : Nat} {l : List Rat}, (toT (m + 1) T)[j]? = some l → i + 1 ≤ j → (need i (j + 1) ↔ need i j ∨ oc l i) := fun {j l} hl hij => by
        refine ⟨fun h => h.elim (fun h => .inl (.inl h)) fun ⟨q, l', a1, a2, a3, a4⟩ => ?_, fun h => h.elim (fun h => h.elim .inl fun ⟨q, l', a1, a2, a3, a4⟩ => .inr ⟨q, l', a1, by omega, a3, a4⟩) fun h => .inr ⟨j, l, by omega, by omega, hl, h⟩⟩
        by_cases e : q = j
        · subst e; rw [hl] at a3; injection a3 with a3; subst a3; exact .inr a4
        · exact .inl (.inr ⟨q, l', a1, by omega, a3, a4⟩)
      have rad : ∀ j, j < m + 1 → ∃ l, (toT (m + 1) T)[j]? = some l ∧ zs[j]? = some l ∧ Sz r l := fun j hj => by
        obtain ⟨e, e1, e2, _⟩ := Tw.at (t := T) hj
        refine ⟨_, e1, ?_, e2 r hT⟩
        rw [← h3, List.getElem?_take, if_pos hj] at e1; exact e1
      have rlen : ∀ {j : Nat} {l : List Rat}, (toT (m + 1) T)[j]? = some l → l.length = 2 ^ j := fun h => (TS.pt hT _ _ h).1
      have out : ¬ need i (m + 1) → NOk G S r p ⟨m, rmT m i T, rm m i c⟩ v ∧ toL m (rm m i c) = wo (toL (m + 1) c) i := fun h => by
        have him : i ≤ m := by omega
        obtain ⟨ρ, a1, a2⟩ := h1.ex
        refine ⟨⟨⟨skip i ρ, a1.rm hGr him fun j l hj hl ho => h (.inr ⟨j, l, hj, by have := (List.getElem?_eq_some_iff.1 hl).1; rw [hTl] at this; omega, hl, ho⟩), by rw [← a2]; exact ev_rm him fun ho => h (.inl ho)⟩, hT.rm him, ?_⟩, toL_rm him⟩
        show Sz p (toL m (rm m i c))
        rw [toL_rm him]; exact hc.sub fun x hx => woA_sub hx
      have keep : need i (m + 1) → ∀ j, i ≤ j → j < m + 1 → nd ⟨m + 1, T, c⟩ j := fun h j a b => by
        by_cases e : i = j
        · subst e
          exact h.elim .inl fun ⟨q, l, a1, _, a3, a4⟩ => .inr ⟨q, l, a1, a3, a4⟩
        · exact h8 j (by omega) b
      have gone : ¬ need i (m + 1) → ∀ j, i ≤ j → j < m → nd ⟨m, rmT m i T, rm m i c⟩ j := fun h j a b => nd_rm (by omega) (fun e => h (e.elim .inl fun ⟨q, l, a1, a3, a4⟩ => .inr ⟨q, l, a1, by have := (List.getElem?_eq_some_iff.1 a3).1; rwa [hTl] at this, a3, a4⟩)) a b (h8 (j + 1) (by omega) (by omega))
      refine Yes rfl (show ((i + 1 : Nat) : Int) - 1 ≥ 0 by omega) ?_
      have ei : ((i + 1 : Nat) : Int) - 1 = i := by omega
      have hoc : ∀ {l : List Rat} {p : Nat}, Ps p l → p ≤ 8796093022208 → l.length ≤ 1048576 → C0 275 [.d (dqs l), .d (.int .i64 (((i + 1 : Nat) : Int) - 1))] (· = .b (dc (oc l i))) := fun h1 h2 h3 => by
        have := occurs_ok (i := i) h1 h2 (by omega) h3
        rwa [← ei] at this
      have hwo : ∀ {l : List Rat}, l.length ≤ 1048576 → C0 276 [.d (dqs l), .d (.int .i64 (((i + 1 : Nat) : Int) - 1))] (· = .d (dqs (wo l i))) := fun h => by
        have := without_ok (i := i) (by omega) h
        rwa [← ei] at this
      rcases hkd with rfl | rfl
-- cases
      · refine Ce rfl (hoc (l := toL (m + 1) c) hc.ps hp (by omega)) ?_
        refine Ar (i + 1 : Nat) rfl ?_ (wr (show ((i + 1 : Nat) : Int) - 1 + 1 = ((i + 1 : Nat) : Int) by omega) (by simp only [inK]; omega))
        refine Lo (fun (q : Nat × Bool) => [(2, .ptr 2 0), (3, .ptr 3 0), (4, .d (.int .i64 (((i + 1 : Nat) : Int) - 1))), (5, .b q.2), (6, .d (.int .i64 q.1))]) (fun _ => TH ⟨i + 1, 1, ⟨m + 1, T, c⟩, zs⟩) (fun q => i + 1 ≤ q.1 ∧ q.1 ≤ m + 1 ∧ (q.2 = true ↔ need i q.1)) (fun q => m + 1 - q.1) (i + 1, dc (oc (toL (m + 1) c) i)) [] rfl ⟨Nat.le_refl _, by show i + 1 ≤ m + 1; omega, need0⟩ (fun (j, b) ⟨g1, g2, g3⟩ => ?_)
        simp only at g1 g2 g3
        refine By rfl (fun h => ?_) fun h => ?_ <;> try simp only [lt'] at h
        · obtain ⟨l, hl, hzj, hls⟩ := rad j (by omega)
          refine By rfl (fun hb => ?_) fun hb => ?_
          · refine Ar (j + 1 : Nat) rfl ?_
            exact Bk (j + 1, true) [] rfl ⟨by show i + 1 ≤ j + 1; omega, by show j + 1 ≤ m + 1; omega, by show true = true ↔ _; rw [needS hl g1]; exact ⟨fun _ => .inl (g3.1 hb), fun _ => rfl⟩⟩ (by show m + 1 - (j + 1) < m + 1 - j; omega)
          · refine Eo j rfl (by first | omega | (simp only [lt']; omega)) ?_
            refine Ld (dqs l) rfl (mp hzj) ?_
            refine Ce rfl (hoc (l := l) hls.ps hr (by rw [rlen hl]; have := p16 (show j ≤ 16 by omega); omega)) ?_
            refine Ar (j + 1 : Nat) rfl ?_
            exact Bk (j + 1, dc (oc l i)) [] rfl ⟨by show i + 1 ≤ j + 1; omega, by show j + 1 ≤ m + 1; omega, by show dc (oc l i) = true ↔ _; rw [needS hl g1, dc_iff]; exact ⟨.inr, fun h => h.elim (fun h => absurd (g3.2 h) hb) id⟩⟩ (by show m + 1 - (j + 1) < m + 1 - j; omega)
        · obtain rfl : j = m + 1 := by omega
          refine By rfl (fun hb => ?_) fun hb => ?_
          · refine Ar ((i : Int) - 1) rfl ?_ (wr (show ((i + 1 : Nat) : Int) - 1 - 1 = (i : Int) - 1 by omega) (by simp only [inK]; omega))
            exact Bk ⟨i, 1, ⟨m + 1, T, c⟩, zs⟩ [] rfl ⟨⟨h1, by show i ≤ m + 1; omega, h3, h4, h5, fun h => absurd h (show ¬ 3 ≤ 1 by decide), keep (g3.1 hb)⟩, h7⟩ (show i < i + 1 by omega)
          · have hno : ¬ need i (m + 1) := fun h => hb (g3.2 h)
            obtain ⟨w1, w2⟩ := out hno
            have hw0 := hwo (l := toL (m + 1) c) (by omega)
            rw [← w2] at hw0
            refine Ce rfl hw0 ?_
            refine Ar (i + 1 : Nat) rfl ?_ (wr (show ((i + 1 : Nat) : Int) - 1 + 1 = ((i + 1 : Nat) : Int) by omega) (by simp only [inK]; omega))
            refine Lo (fun (j : Nat) => [(2, .ptr 2 0), (3, .ptr 3 0), (4, .d (.int .i64 (((i + 1 : Nat) : Int) - 1))), (7, .d (.int .i64 j))]) (fun j => TH' 1 m (toL m (rm m i c)) zs (wl i j zs)) (fun j => i + 1 ≤ j ∧ j ≤ m + 1) (fun j => m + 1 - j) (i + 1) [] rfl ⟨Nat.le_refl _, by omega⟩ (fun j ⟨g1, g2⟩ => ?_) (by rw [wl_start]; exact ⟨rfl, rfl, rfl, rfl, rfl⟩)
            refine By rfl (fun h => ?_) fun h => ?_ <;> try simp only [lt'] at h
            · obtain ⟨l, hl, hzj, hls⟩ := rad j (by omega)
              refine Dw rfl ?_
              refine Eo j rfl (by first | omega | (simp only [lt', wl_len]; omega)) ?_
              refine Ld (dqs l) rfl (mp (by rw [wl_get, hzj, Option.map_some, if_neg (by omega)])) ?_
              refine Ce rfl (hwo (l := l) (by rw [rlen hl]; have := p16 (show j ≤ 16 by omega); omega)) ?_
              refine Eo j rfl (by first | omega | (simp only [lt', wl_len]; omega)) ?_
              refine Sto rfl (by simp only [lt', wl_len]; omega) (zs := (wl i (j + 1) zs).map dqs) (by rw [← wl_set (by omega) hzj]; exact ms) ?_
              refine Ar (j + 1 : Nat) rfl ?_
              exact Bk (j + 1) [] rfl ⟨by omega, by omega⟩ (by show m + 1 - (j + 1) < m + 1 - j; omega)
            · obtain rfl : j = m + 1 := by omega
              have hwe := wl_end h3 (show i ≤ m by omega)
              have hws : (wl i (m + 1) zs).length = zs.length := wl_len
              have hr' := toT_length m (rmT m i T)
              refine Dw rfl ?_
              by_cases i0 : i = 0
              · subst i0
                refine S30 rfl rfl ?_
                refine Ar (0 + 1 : Nat) rfl ?_
                refine Sw (0 + 1) (m + 1) rfl (by omega) (by simp only [lt']; omega) ?_ (hh := by simp only [Option.getD, lt']; omega)
                have hz0 : (((wl 0 (m + 1) zs).map dqs).drop (0 + (0 + 1))).take (m + 1 - (0 + 1)) = (toT m (rmT m 0 T)).map dqs := by rw [← hwe, List.take_zero, List.nil_append, Nat.zero_add, ← List.map_drop, ← List.map_take]
                refine AqN ((toT m (rmT m 0 T)).map dqs) rfl (by simp only [lt']; omega) hz0 (by simp [hr']; omega) ?_
                refine Ar (((0 : Nat) : Int) - 1) rfl ?_ (wr (show ((0 + 1 : Nat) : Int) - 1 - 1 = ((0 : Nat) : Int) - 1 by omega) (by simp [inK]))
                exact Bk ⟨0, 3, ⟨m, rmT m 0 T, rm m 0 c⟩, toT m (rmT m 0 T)⟩ [(11, 90), (82, 11)] rfl ⟨⟨w1, Nat.zero_le _, List.take_of_length_le (by rw [hr']; exact Nat.le_refl _), fun h => absurd h (show ¬ 3 = 0 by decide), fun h => absurd h (show ¬ 3 = 1 by decide), fun _ => ⟨rfl, hr'⟩, gone hno⟩, show 3 ≠ 0 by decide⟩ (show 0 < 0 + 1 by decide)
              · refine S3 i rfl (.inl rfl) (by omega) (by first | omega | (simp only [lt']; omega)) ?_
                refine Ar (i + 1 : Nat) rfl ?_ (wr (show ((i + 1 : Nat) : Int) - 1 + 1 = ((i + 1 : Nat) : Int) by omega) (by simp only [inK]; omega))
                refine Sw (i + 1) (m + 1) rfl (by omega) (by simp only [lt']; omega) ?_ (hh := by simp only [Option.getD, lt']; omega)
                by_cases im : i = m
                · subst im
                  refine Aq30 rfl rfl (by simp only [lt']; omega) (by simp only [lt']; omega) (by omega) (by omega) ?_
                  refine Ar ((i : Int) - 1) rfl ?_ (wr (show ((i + 1 : Nat) : Int) - 1 - 1 = (i : Int) - 1 by omega) (by simp only [inK]; omega))
                  rw [Nat.sub_self, List.take_zero, List.append_nil] at hwe
                  exact Bk ⟨i, 2, ⟨i, rmT i i T, rm i i c⟩, wl i (i + 1) zs⟩ [] rfl ⟨⟨w1, Nat.le_refl _, hwe, fun h => absurd h (show ¬ 2 = 0 by decide), fun h => absurd h (show ¬ 2 = 1 by decide), fun h => absurd h (show ¬ 3 ≤ 2 by decide), gone hno⟩, show 2 ≠ 0 by decide⟩ (show i < i + 1 by omega)
                · have hz0 : ((wl i (m + 1) zs).map dqs).take i ++ (((wl i (m + 1) zs).map dqs).drop (0 + (i + 1))).take (m + 1 - (i + 1)) = (toT m (rmT m i T)).map dqs := by rw [← hwe, Nat.zero_add, ← List.map_take, ← List.map_drop, ← List.map_take, ← List.map_append]
                  refine Aq3 ((toT m (rmT m i T)).map dqs) rfl rfl (by simp only [lt']; omega) (by simp only [lt']; omega) hz0 (by omega) (by simp [hr']; omega) ?_
                  refine Ar ((i : Int) - 1) rfl ?_ (wr (show ((i + 1 : Nat) : Int) - 1 - 1 = (i : Int) - 1 by omega) (by simp only [inK]; omega))
                  exact Bk ⟨i, 1, ⟨m, rmT m i T, rm m i c⟩, toT m (rmT m i T)⟩ [(11, 90), (82, 11)] rfl ⟨⟨w1, by show i ≤ m; omega, List.take_of_length_le (by rw [hr']; exact Nat.le_refl _), fun h => absurd h (show ¬ 1 = 0 by decide), fun _ => hr', fun h => absurd h (show ¬ 3 ≤ 1 by decide), gone hno⟩, show 1 ≠ 0 by decide⟩ (show i < i + 1 by omega)
      · refine Ce rfl (hoc (l := toL (m + 1) c) hc.ps hp (by omega)) ?_
        refine Ar (i + 1 : Nat) rfl ?_ (wr (show ((i + 1 : Nat) : Int) - 1 + 1 = ((i + 1 : Nat) : Int) by omega) (by simp only [inK]; omega))
        refine Lo (fun (q : Nat × Bool) => [(2, .ptr 2 0), (3, .ptr 3 0), (4, .d (.int .i64 (((i + 1 : Nat) : Int) - 1))), (5, .b q.2), (6, .d (.int .i64 q.1))]) (fun _ => TH ⟨i + 1, 2, ⟨m + 1, T, c⟩, zs⟩) (fun q => i + 1 ≤ q.1 ∧ q.1 ≤ m + 1 ∧ (q.2 = true ↔ need i q.1)) (fun q => m + 1 - q.1) (i + 1, dc (oc (toL (m + 1) c) i)) [] rfl ⟨Nat.le_refl _, by show i + 1 ≤ m + 1; omega, need0⟩ (fun (j, b) ⟨g1, g2, g3⟩ => ?_)
        simp only at g1 g2 g3
        refine By rfl (fun h => ?_) fun h => ?_ <;> try simp only [lt'] at h
        · obtain ⟨l, hl, hzj, hls⟩ := rad j (by omega)
          refine By rfl (fun hb => ?_) fun hb => ?_
          · refine Ar (j + 1 : Nat) rfl ?_
            exact Bk (j + 1, true) [] rfl ⟨by show i + 1 ≤ j + 1; omega, by show j + 1 ≤ m + 1; omega, by show true = true ↔ _; rw [needS hl g1]; exact ⟨fun _ => .inl (g3.1 hb), fun _ => rfl⟩⟩ (by show m + 1 - (j + 1) < m + 1 - j; omega)
          · refine E3 j rfl (by first | omega | (simp only [lt']; omega)) ?_
            refine Ld (dqs l) rfl (mp hzj) ?_
            refine Ce rfl (hoc (l := l) hls.ps hr (by rw [rlen hl]; have := p16 (show j ≤ 16 by omega); omega)) ?_
            refine Ar (j + 1 : Nat) rfl ?_
            exact Bk (j + 1, dc (oc l i)) [] rfl ⟨by show i + 1 ≤ j + 1; omega, by show j + 1 ≤ m + 1; omega, by show dc (oc l i) = true ↔ _; rw [needS hl g1, dc_iff]; exact ⟨.inr, fun h => h.elim (fun h => absurd (g3.2 h) hb) id⟩⟩ (by show m + 1 - (j + 1) < m + 1 - j; omega)
        · obtain rfl : j = m + 1 := by omega
          refine By rfl (fun hb => ?_) fun hb => ?_
          · refine Ar ((i : Int) - 1) rfl ?_ (wr (show ((i + 1 : Nat) : Int) - 1 - 1 = (i : Int) - 1 by omega) (by simp only [inK]; omega))
            exact Bk ⟨i, 2, ⟨m + 1, T, c⟩, zs⟩ [] rfl ⟨⟨h1, by show i ≤ m + 1; omega, h3, h4, h5, fun h => absurd h (show ¬ 3 ≤ 2 by decide), keep (g3.1 hb)⟩, h7⟩ (show i < i + 1 by omega)
          · have hno : ¬ need i (m + 1) := fun h => hb (g3.2 h)
            obtain ⟨w1, w2⟩ := out hno
            have hw0 := hwo (l := toL (m + 1) c) (by omega)
            rw [← w2] at hw0
            refine Ce rfl hw0 ?_
            refine Ar (i + 1 : Nat) rfl ?_ (wr (show ((i + 1 : Nat) : Int) - 1 + 1 = ((i + 1 : Nat) : Int) by omega) (by simp only [inK]; omega))
            refine Lo (fun (j : Nat) => [(2, .ptr 2 0), (3, .ptr 3 0), (4, .d (.int .i64 (((i + 1 : Nat) : Int) - 1))), (7, .d (.int .i64 j))]) (fun j => TH' 2 m (toL m (rm m i c)) zs (wl i j zs)) (fun j => i + 1 ≤ j ∧ j ≤ m + 1) (fun j => m + 1 - j) (i + 1) [] rfl ⟨Nat.le_refl _, by omega⟩ (fun j ⟨g1, g2⟩ => ?_) (by rw [wl_start]; exact ⟨rfl, rfl, rfl, rfl, rfl⟩)
            refine By rfl (fun h => ?_) fun h => ?_ <;> try simp only [lt'] at h
            · obtain ⟨l, hl, hzj, hls⟩ := rad j (by omega)
              refine Dw rfl ?_
              refine E3 j rfl (by first | omega | (simp only [lt', wl_len]; omega)) ?_
              refine Ld (dqs l) rfl (mp (by rw [wl_get, hzj, Option.map_some, if_neg (by omega)])) ?_
              refine Ce rfl (hwo (l := l) (by rw [rlen hl]; have := p16 (show j ≤ 16 by omega); omega)) ?_
              refine E3 j rfl (by first | omega | (simp only [lt', wl_len]; omega)) ?_
              refine Sto rfl (by simp only [lt', wl_len]; omega) (zs := (wl i (j + 1) zs).map dqs) (by rw [← wl_set (by omega) hzj]; exact ms) ?_
              refine Ar (j + 1 : Nat) rfl ?_
              exact Bk (j + 1) [] rfl ⟨by omega, by omega⟩ (by show m + 1 - (j + 1) < m + 1 - j; omega)
            · obtain rfl : j = m + 1 := by omega
              have hwe := wl_end h3 (show i ≤ m by omega)
              have hws : (wl i (m + 1) zs).length = zs.length := wl_len
              have hr' := toT_length m (rmT m i T)
              refine Dw rfl ?_
              by_cases i0 : i = 0
              · subst i0
                refine S30 rfl rfl ?_
                refine Ar (0 + 1 : Nat) rfl ?_
                refine D3 (0 + 1) rfl (by omega) ?_
                have hz0 : (((wl 0 (m + 1) zs).map dqs).drop (0 + (0 + 1))).take (m + 1 - (0 + 1)) = (toT m (rmT m 0 T)).map dqs := by rw [← hwe, List.take_zero, List.nil_append, Nat.zero_add, ← List.map_drop, ← List.map_take]
                refine AqN ((toT m (rmT m 0 T)).map dqs) rfl (by simp only [lt']; omega) hz0 (by simp [hr']; omega) ?_
                refine Ar (((0 : Nat) : Int) - 1) rfl ?_ (wr (show ((0 + 1 : Nat) : Int) - 1 - 1 = ((0 : Nat) : Int) - 1 by omega) (by simp [inK]))
                exact Bk ⟨0, 3, ⟨m, rmT m 0 T, rm m 0 c⟩, toT m (rmT m 0 T)⟩ [(11, 90), (82, 11)] rfl ⟨⟨w1, Nat.zero_le _, List.take_of_length_le (by rw [hr']; exact Nat.le_refl _), fun h => absurd h (show ¬ 3 = 0 by decide), fun h => absurd h (show ¬ 3 = 1 by decide), fun _ => ⟨rfl, hr'⟩, gone hno⟩, show 3 ≠ 0 by decide⟩ (show 0 < 0 + 1 by decide)
              · refine S3 i rfl (.inr rfl) (by omega) (by first | omega | (simp only [lt']; omega)) ?_
                refine Ar (i + 1 : Nat) rfl ?_ (wr (show ((i + 1 : Nat) : Int) - 1 + 1 = ((i + 1 : Nat) : Int) by omega) (by simp only [inK]; omega))
                refine D3 (i + 1) rfl (by omega) ?_
                by_cases im : i = m
                · subst im
                  refine Aq30 rfl rfl (by simp only [lt']; omega) (by simp only [lt']; omega) (by omega) (by omega) ?_
                  refine Ar ((i : Int) - 1) rfl ?_ (wr (show ((i + 1 : Nat) : Int) - 1 - 1 = (i : Int) - 1 by omega) (by simp only [inK]; omega))
                  rw [Nat.sub_self, List.take_zero, List.append_nil] at hwe
                  exact Bk ⟨i, 2, ⟨i, rmT i i T, rm i i c⟩, wl i (i + 1) zs⟩ [] rfl ⟨⟨w1, Nat.le_refl _, hwe, fun h => absurd h (show ¬ 2 = 0 by decide), fun h => absurd h (show ¬ 2 = 1 by decide), fun h => absurd h (show ¬ 3 ≤ 2 by decide), gone hno⟩, show 2 ≠ 0 by decide⟩ (show i < i + 1 by omega)
                · have hz0 : ((wl i (m + 1) zs).map dqs).take i ++ (((wl i (m + 1) zs).map dqs).drop (0 + (i + 1))).take (m + 1 - (i + 1)) = (toT m (rmT m i T)).map dqs := by rw [← hwe, Nat.zero_add, ← List.map_take, ← List.map_drop, ← List.map_take, ← List.map_append]
                  refine Aq3 ((toT m (rmT m i T)).map dqs) rfl rfl (by simp only [lt']; omega) (by simp only [lt']; omega) hz0 (by omega) (by simp [hr']; omega) ?_
                  refine Ar ((i : Int) - 1) rfl ?_ (wr (show ((i + 1 : Nat) : Int) - 1 - 1 = (i : Int) - 1 by omega) (by simp only [inK]; omega))
                  exact Bk ⟨i, 1, ⟨m, rmT m i T, rm m i c⟩, toT m (rmT m i T)⟩ [(11, 90), (82, 11)] rfl ⟨⟨w1, by show i ≤ m; omega, List.take_of_length_le (by rw [hr']; exact Nat.le_refl _), fun h => absurd h (show ¬ 1 = 0 by decide), fun _ => hr', fun h => absurd h (show ¬ 3 ≤ 1 by decide), gone hno⟩, show 1 ≠ 0 by decide⟩ (show i < i + 1 by omega)
-- end of cases
end
end
section
/-- numbers of at most 64 bits in both parts -/
def sh (x : Rat) : Prop := (dig x.num.natAbs).length ≤ 2 ∧ (dig x.den).length ≤ 2
def shN (x : Nm) : Prop := (∀ q ∈ toL x.k x.a, sh q) ∧ ∀ l ∈ toT x.k x.t, ∀ q ∈ l, sh q
theorem sh.qs {x : Rat} (h : sh x) : Qs 64 x := by
  have key : ∀ n : Nat, (dig n).length ≤ 2 → n < 2 ^ 64 := fun n hn => by
    have h1 := val_lt (words_dig n)
    rw [val_dig] at h1
    have h2 : 4294967296 ^ (dig n).length ≤ 4294967296 ^ 2 := Nat.pow_le_pow_right (by decide) hn
    omega
  exact ⟨key _ h.1, by show ((x.den : Int)).natAbs < _; rw [Int.natAbs_natCast]; exact key _ h.2⟩
theorem long_ok {x : Nm} (hk : x.k ≤ 16) : C0 221 [.d (dN x)] (· = .b (dc (¬ shN x))) := by
  obtain ⟨k, t, a⟩ := x
  have hk : k ≤ 16 := hk
  have hp := p16 hk
  have hcl := toL_length k a
  have hTl := toT_length k t
  refine En Tryz.func221 fun _ _ => ?_
  refine Lo (fun i : Nat => [(1, .ptr 1 0), (3, .d (.int .i64 i))]) (fun _ => [(1, .var (.d (dN ⟨k, t, a⟩)))]) (fun i => i ≤ 2 ^ k ∧ ∀ j q, j < i → (toL k a)[j]? = some q → sh q) (fun i => 2 ^ k - i) 0 [] rfl ⟨by omega, fun j q h => by omega⟩ fun i ⟨hi, hs⟩ => ?_
  refine By rfl (fun h => ?_) fun h => ?_
  · have h : (i : Int) < (((toL k a).map dq).length : Nat) := h
    rw [lq, hcl] at h
    obtain ⟨x, hx⟩ := qat (l := toL k a) (k := i) (by omega)
    have no : ¬ sh x → ¬ shN ⟨k, t, a⟩ := fun h h2 => h (h2.1 x (List.mem_of_getElem? hx))
    refine Ix i rfl (mp hx) ?_
    refine By rfl (fun h1 => ?_) fun h1 => ?_
    · have h1 : ((((dig x.num.natAbs).map wd).length : Nat) : Int) > 2 := h1
      rw [lw] at h1
      exact R1 rfl (.bp ⟨fun _ => no fun h => by have := h.1; omega, fun _ => rfl⟩)
    · have h1 : ¬ ((((dig x.num.natAbs).map wd).length : Nat) : Int) > 2 := h1
      rw [lw] at h1
      refine Ix i rfl (mp hx) ?_
      refine By rfl (fun h2 => ?_) fun h2 => ?_
      · have h2 : ((((dig ((x.den : Int)).natAbs).map wd).length : Nat) : Int) > 2 := h2
        rw [lw, Int.natAbs_natCast] at h2
        exact R1 rfl (.bp ⟨fun _ => no fun h => by have := h.2; omega, fun _ => rfl⟩)
      · have h2 : ¬ ((((dig ((x.den : Int)).natAbs).map wd).length : Nat) : Int) > 2 := h2
        rw [lw, Int.natAbs_natCast] at h2
        refine Ar (i + 1 : Nat) rfl ?_
        refine Bk (i + 1) [] rfl ⟨by omega, fun j q hj hq => ?_⟩ (by show 2 ^ k - (i + 1) < 2 ^ k - i; omega)
        by_cases e : j = i
        · subst e; rw [hx] at hq; injection hq with hq; subst hq; exact ⟨by omega, by omega⟩
        · exact hs j q (by omega) hq
  have h : ¬ (i : Int) < (((toL k a).map dq).length : Nat) := h
  rw [lq, hcl] at h
  have hc : ∀ q ∈ toL k a, sh q := fun q hq => by
    obtain ⟨j, hj⟩ := List.getElem?_of_mem hq
    exact hs j q (by have := (List.getElem?_eq_some_iff.1 hj).1; omega) hj
  refine Lo (fun i : Nat => [(1, .ptr 1 0), (4, .d (.int .i64 i))]) (fun _ => [(1, .var (.d (dN ⟨k, t, a⟩)))]) (fun i => i ≤ k ∧ ∀ j l, j < i → (toT k t)[j]? = some l → ∀ q ∈ l, sh q) (fun i => k - i) 0 [] rfl ⟨by omega, fun j q h => by omega⟩ fun i ⟨hi, hs⟩ => ?_
  refine By rfl (fun h => ?_) fun h => ?_
  · have h : (i : Int) < (((toT k t).map dqs).length : Nat) := h
    rw [lt', hTl] at h
    obtain ⟨l, hl⟩ : ∃ l, (toT k t)[i]? = some l := ⟨_, List.getElem?_eq_getElem (by omega)⟩
    obtain ⟨e, e1, _, _⟩ := Tw.at (t := t) (show i < k by omega)
    obtain rfl : l = toL i e := by rw [hl] at e1; injection e1
    have hll := toL_length i e
    have hpi := p16 (show i ≤ 16 by omega)
    refine Lo (fun j : Nat => [(1, .ptr 1 0), (4, .d (.int .i64 i)), (5, .d (.int .i64 j))]) (fun _ => [(1, .var (.d (dN ⟨k, t, a⟩)))]) (fun j => j ≤ 2 ^ i ∧ ∀ m q, m < j → (toL i e)[m]? = some q → sh q) (fun j => 2 ^ i - j) 0 [] rfl ⟨by omega, fun j q h => by omega⟩ fun j ⟨hj, hjs⟩ => ?_
    refine Ix i rfl (mp hl) ?_
    refine By rfl (fun h1 => ?_) fun h1 => ?_
    · have h1 : (j : Int) < (((toL i e).map dq).length : Nat) := h1
      rw [lq, hll] at h1
      obtain ⟨x, hx⟩ := qat (l := toL i e) (k := j) (by omega)
      have no : ¬ sh x → ¬ shN ⟨k, t, a⟩ := fun h h2 => h (h2.2 _ (List.mem_of_getElem? hl) x (List.mem_of_getElem? hx))
      refine Ix i rfl (mp hl) ?_
      refine Ix j rfl (mp hx) ?_
      refine By rfl (fun h1 => ?_) fun h1 => ?_
      · have h1 : ((((dig x.num.natAbs).map wd).length : Nat) : Int) > 2 := h1
        rw [lw] at h1
        exact R1 rfl (.bp ⟨fun _ => no fun h => by have := h.1; omega, fun _ => rfl⟩)
      · have h1 : ¬ ((((dig x.num.natAbs).map wd).length : Nat) : Int) > 2 := h1
        rw [lw] at h1
        refine By rfl (fun h2 => ?_) fun h2 => ?_
        · have h2 : ((((dig ((x.den : Int)).natAbs).map wd).length : Nat) : Int) > 2 := h2
          rw [lw, Int.natAbs_natCast] at h2
          exact R1 rfl (.bp ⟨fun _ => no fun h => by have := h.2; omega, fun _ => rfl⟩)
        · have h2 : ¬ ((((dig ((x.den : Int)).natAbs).map wd).length : Nat) : Int) > 2 := h2
          rw [lw, Int.natAbs_natCast] at h2
          refine Ar (j + 1 : Nat) rfl ?_
          refine Bk (j + 1) [] rfl ⟨by omega, fun m q hm hq => ?_⟩ (by show 2 ^ i - (j + 1) < 2 ^ i - j; omega)
          by_cases e : m = j
          · subst e; rw [hx] at hq; injection hq with hq; subst hq; exact ⟨by omega, by omega⟩
          · exact hjs m q (by omega) hq
    · have h1 : ¬ (j : Int) < (((toL i e).map dq).length : Nat) := h1
      rw [lq, hll] at h1
      refine Ar (i + 1 : Nat) rfl ?_
      refine Bk (i + 1) [] rfl ⟨by omega, fun m l hm hl' q hq => ?_⟩ (by show k - (i + 1) < k - i; omega)
      by_cases e : m = i
      · subst e; rw [hl] at hl'; injection hl' with hl'; subst hl'
        obtain ⟨n, hn⟩ := List.getElem?_of_mem hq
        exact hjs n q (by have := (List.getElem?_eq_some_iff.1 hn).1; omega) hn
      · exact hs m l (by omega) hl' q hq
  · have h : ¬ (i : Int) < (((toT k t).map dqs).length : Nat) := h
    rw [lt', hTl] at h
    refine R1 rfl (.bp ⟨nofun, fun h2 => absurd ⟨hc, fun l hl q hq => ?_⟩ h2⟩)
    obtain ⟨n, hn⟩ := List.getElem?_of_mem hl
    have h6 : n < (toT k t).length := (List.getElem?_eq_some_iff.1 hn).1
    exact hs n l (by omega) hn q hq
end
end Go.Proofs.YtfmgfaeheljpcaaGreat.R9

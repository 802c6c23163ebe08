/- numbers: the reference's towers, lifts, images. -/
import Derived.Test.YtfmgfaeheljpcaaGreatYLC
import Derived.Test.YtfmgfaeheljpcaaGreatYTL
import Derived.Test.YtfmgfaeheljpcaaGreatYWJ
set_option linter.unusedVariables false
set_option linter.unusedSimpArgs false
set_option maxRecDepth 10000
namespace Go.Proofs.YtfmgfaeheljpcaaGreat.R9
open Go Go.Vm Go.Num Go.Tow Go.Proofs.YtfmgfaeheljpcaaGreat
theorem cmpQ_ne {x y : Rat} : cmpQ x y ≠ 0 ↔ x ≠ y := by
  unfold cmpQ
  split
  · exact ⟨fun _ e => by subst e; exact absurd ‹_› (Rat.lt_irrefl), fun _ => by decide⟩
  · split
    · exact ⟨fun _ e => by subst e; exact absurd ‹_› (Rat.lt_irrefl), fun _ => by decide⟩
    · exact ⟨fun h => absurd rfl h, fun h => by grind⟩
theorem same_ok {l m : List Rat} {p q : Nat} (hl : Ps p l) (hm : Ps q m) (hp : p + q ≤ 8796093022208) (hn : l.length ≤ 1048576) : C0 288 [.d (dqs l), .d (dqs m)] (· = .b (dc (l = m))) := by
  refine En Tryz.func288 fun _ _ => ?_
  refine By rfl (fun h => ?_) fun h => ?_ <;> simp only [lq] at h
  · exact R1 rfl (.bp ⟨nofun, fun e => absurd (by rw [e]) h⟩)
  have h : l.length = m.length := by omega
  refine Lo (fun k : Nat => [(0, .d (dqs l)), (1, .d (dqs m)), (5, .d (.int .i64 k))]) (fun _ => []) (fun k => k ≤ l.length ∧ l.take k = m.take k) (fun k => l.length - k) 0 [] rfl ⟨by omega, rfl⟩ fun k ⟨hk, ht⟩ => ?_
  refine By rfl (fun h2 => ?_) fun h2 => ?_ <;> simp only [lq] at h2
  · obtain ⟨x, hx⟩ := qat (l := l) (k := k) (by omega)
    obtain ⟨y, hy⟩ := qat (l := m) (k := k) (by omega)
    refine Dw rfl ?_
    refine Ix k rfl (mp hx) ?_
    refine Ix k rfl (mp hy) ?_
    refine Ce rfl (R2.Cmp_ok (hl x (List.mem_of_getElem? hx)) (hm y (List.mem_of_getElem? hy)) hp) ?_
    refine By rfl (fun h3 => ?_) fun h3 => ?_
    · exact R1 rfl (.bp ⟨nofun, fun e => by subst e; rw [hx] at hy; injection hy with hy; exact absurd hy (cmpQ_ne.1 h3)⟩)
    · have e : x = y := Classical.byContradiction fun h => h3 (cmpQ_ne.2 h)
      refine Ar (k + 1 : Nat) rfl ?_
      exact Bk (k + 1) [] rfl ⟨by omega, by rw [List.take_add_one, List.take_add_one, hx, hy, ht, e]⟩ (by show l.length - (k + 1) < l.length - k; omega)
  · rw [List.take_of_length_le (by omega), List.take_of_length_le (by omega)] at ht
    exact R1 rfl (.bp ⟨fun _ => ht, fun _ => rfl⟩)
theorem begins_ok {T U : List (List Rat)} {p q : Nat} (hT : Pt p T) (hU : Pt q U) (hp : p + q ≤ 8796093022208) (hl : T.length ≤ 16) : C0 241 [.d (dts T), .d (dts U)] (· = .b (dc (T.take U.length = U))) := by
  refine En Tryz.func241 fun _ _ => ?_
  refine By rfl (fun h => ?_) fun h => ?_ <;> simp only [lt'] at h
  · exact R1 rfl (.bp ⟨nofun, fun e => absurd (congrArg List.length e) (by rw [List.length_take]; omega)⟩)
  refine Lo (fun k : Nat => [(0, .d (dts T)), (1, .d (dts U)), (5, .d (.int .i64 k))]) (fun _ => []) (fun k => k ≤ U.length ∧ T.take k = U.take k) (fun k => U.length - k) 0 [] rfl ⟨by omega, rfl⟩ fun k ⟨hk, ht⟩ => ?_
  refine By rfl (fun h2 => ?_) fun h2 => ?_ <;> simp only [lt'] at h2
  · obtain ⟨x, hx⟩ : ∃ x, T[k]? = some x := ⟨_, List.getElem?_eq_getElem (by omega)⟩
    obtain ⟨y, hy⟩ : ∃ y, U[k]? = some y := ⟨_, List.getElem?_eq_getElem (by omega)⟩
    obtain ⟨x1, x2⟩ := hT k x hx
    obtain ⟨y1, y2⟩ := hU k y hy
    have := p16 (show k ≤ 16 by omega)
    refine Dw rfl ?_
    refine Ix k rfl (mp hx) ?_
    refine Ix k rfl (mp hy) ?_
    refine Ce rfl (same_ok x2 y2 hp (by omega)) ?_
    refine By rfl (fun h3 => ?_) fun h3 => ?_
    · exact R1 rfl (.bp ⟨nofun, fun e => by
        have : U[k]? = some x := by rw [← e, List.getElem?_take, if_pos (by omega), hx]
        rw [hy] at this; injection this with this
        exact absurd this.symm (by simpa [dc_not, dc_iff] using h3)⟩)
    · have e : x = y := by simpa [dc_not, dc_iff] using h3
      refine Ar (k + 1 : Nat) rfl ?_
      exact Bk (k + 1) [] rfl ⟨by omega, by rw [List.take_add_one, List.take_add_one, hx, hy, ht, e]⟩ (by show U.length - (k + 1) < U.length - k; omega)
  · have e : k = U.length := by omega
    subst e
    rw [List.take_length] at ht
    exact R1 rfl (.bp ⟨fun _ => ht, fun _ => rfl⟩)
theorem lift_ok {T : List (List Rat)} {l : List Rat} (h0 : 0 < l.length) (hT : T.length ≤ 16) (hl : l.length ≤ 2 ^ T.length) : C0 243 [.d (dts T), .d (dqs l)] (· = .d (dqs (l ++ List.replicate (2 ^ T.length - l.length) 0))) := by
  have hp := p16 hT
  obtain ⟨n, hn⟩ : ∃ n, n = 2 ^ T.length := ⟨_, rfl⟩
  rw [← hn] at hp hl ⊢
  refine En Tryz.func243 fun _ _ => ?_
  refine ApL ((l ++ List.replicate 0 0).map dq) rfl (by simp) (by simpa using h0) (by simp; omega) ?_
  refine Lo (fun k : Nat => [(0, .d (dts T)), (5, .own 6 4 0 ((l ++ List.replicate k 0).map dq).length)]) (fun k => [(6, .arr 4 ((l ++ List.replicate k 0).map dq))]) (fun k => l.length + k ≤ n) (fun k => n - k) 0 [(8, 6)] rfl (by omega) fun k hk => ?_
  refine Ar n rfl ?_ (by rw [hn]; simp only [lt']; exact shl_one (by omega))
  refine By rfl (fun h => ?_) fun h => ?_ <;> simp only [lq, List.length_append, List.length_replicate] at h
  · refine Ce rfl (R2.FromInt_ok (z := 0) (by decide)) ?_
    refine ApO ((l ++ List.replicate (k + 1) 0).map dq) rfl rfl rfl (by rw [List.replicate_succ']; simp) (by simp; omega) ?_
    exact Bk (k + 1) [(18, 6)] rfl (show l.length + (k + 1) ≤ n by omega) (by show n - (k + 1) < n - k; omega)
  · refine R1 rfl (.own rfl (by omega) ?_)
    rw [List.drop_zero, show n - l.length = k by omega]
    exact List.take_of_length_le (by simp)
theorem lift_el {k m : Nat} {s : Tow.El k} {b : Tow.El m} {T : Tw m} (h : Lf s b) (hk : k ≤ m) (hm : m ≤ 16) : C0 243 [.d (dt T), .d (de s)] (· = .d (de b)) := by
  have := lift_ok (T := toT m T) (l := toL k s) (by rw [toL_length]; exact Nat.two_pow_pos k) (by rw [toT_length]; omega) (by rw [toL_length, toT_length]; exact Nat.pow_le_pow_right (by decide) hk)
  rw [toT_length, toL_length, ← h] at this
  exact this
/-- roots that are known in a tower of height k -/
def Rts (k z j : Nat) (rs : List (List Rat)) (σ : Nat → Tow.El k) : Prop := ∀ i, i < j → ∃ (m : Nat) (s : Tow.El m), m ≤ k ∧ rs[i]? = some (toL m s) ∧ Lf s (σ i) ∧ Sz z (toL k (σ i))
theorem image_ok {k R z : Nat} {T : Tw k} {rs : List (List Rat)} {σ : Nat → Tow.El k} (hT : TS R k T) (hk : k ≤ 16) : ∀ {j p : Nat} {a : Tow.El j}, Rts k z j rs σ → Sz p (toL j a) → j ≤ 16 → imB (cB R k) z j p ≤ 4398046511104 →
    C0 244 [.d (dt T), .d (dts rs), .d (de a)] (· = .d (de (ev T σ j a))) := by
  intro j
  induction j with
  | zero =>
    intro p a _ ha hj hb
    have key : ∀ y : Rat, Qs p y → C0 244 [.d (dt T), .d (dts rs), .d (dqs [y])] (· = .d (de (rat k y))) := fun y hy => by
      refine En Tryz.func244 fun _ _ => ?_
      refine Yes rfl rfl ?_
      refine Ix 0 rfl (u := dq y) rfl ?_
      refine Ce rfl (R6.FromRat_el hk) ?_
      exact R0
    exact key a (ha.qs (List.mem_singleton.2 rfl))
  | succ j ih =>
    intro p a hr ha hj hb
    have hb' : 2 * imB (cB R k) z j p + z + cB R k + 1 ≤ 4398046511104 := hb
    have hr' : Rts k z j rs σ := fun i hi => hr i (by omega)
    have hpj := p16 (show j ≤ 16 by omega)
    have hp0 := Nat.two_pow_pos j
    have hs : ∀ i, i < j → Sz z (toL k (σ i)) := fun i hi => (hr' i hi).elim fun _ h => h.elim fun _ h => h.2.2.2
    have h1 := ev_sz hT (a := a.1) hs (Sz.left ha)
    have h2 := ev_sz hT (a := a.2) hs (Sz.right ha)
    obtain ⟨m, s, m1, m2, m3, m4⟩ := hr j (by omega)
    refine En Tryz.func244 fun _ _ => ?_
    refine No rfl (by show ¬ ((((toL j a.1 ++ toL j a.2).map dq).length : Nat) : Int) = 1; rw [hvL]; omega) ?_
    refine Ar (2 ^ j : Nat) rfl ?_ (hvq a (by omega))
    refine Lo (fun i : Nat => [(0, .d (dt T)), (1, .d (dts rs)), (2, .d (de a)), (7, .d (.int .i64 (2 ^ j : Nat))), (8, .d (.int .i64 i))]) (fun _ => []) (fun i => i ≤ j) (fun i => j - i) 0 [] rfl (by omega) fun i hi => ?_
    refine Ar (i + 1 : Nat) rfl ?_
    refine Ar (2 ^ (i + 1) : Nat) rfl ?_ (shl_one (by omega))
    refine By rfl (fun h => ?_) fun h => ?_
    · have h : ((2 ^ (i + 1) : Nat) : Int) < (((toL j a.1 ++ toL j a.2).map dq).length : Nat) := h
      rw [hvL, ← Nat.pow_succ'] at h
      have h : i + 1 < j + 1 := (Nat.pow_lt_pow_iff_right (by decide : 1 < 2)).1 (by omega)
      refine Ar (i + 1 : Nat) rfl ?_
      exact Bk (i + 1) [] rfl (show i + 1 ≤ j by omega) (by show j - (i + 1) < j - i; omega)
    · have h : ¬ ((2 ^ (i + 1) : Nat) : Int) < (((toL j a.1 ++ toL j a.2).map dq).length : Nat) := h
      rw [hvL, ← Nat.pow_succ'] at h
      have h : ¬ i + 1 < j + 1 := fun e => h (by have := (Nat.pow_lt_pow_iff_right (by decide : 1 < 2)).2 e; omega)
      obtain rfl : i = j := by omega
      refine Dw rfl ?_
      refine Tk (2 ^ i) ((toL i a.1).map dq) rfl rfl (hv_le a) (hvT a) ?_
      refine Ce rfl (ih hr' (Sz.left ha) (by omega) (by omega)) ?_
      refine Dp (2 ^ i) ((toL i a.2).map dq) rfl rfl (hv_le a) (hvD a) ?_
      refine Ce rfl (ih hr' (Sz.right ha) (by omega) (by omega)) ?_
      refine Ix i rfl (mp m2) ?_
      refine Ce rfl (lift_el (T := T) m3 m1 hk) ?_
      refine Ce rfl (R6.Mul_el hT h2 m4 hk (by omega)) ?_
      refine Ce rfl (R6.Add_el hk h1.ps (h2.mul hT m4).ps (by omega)) ?_
      exact R0
end Go.Proofs.YtfmgfaeheljpcaaGreat.R9

/- square roots: the program's rational numbers; copies and joins of lists. -/
import Derived.Test.YtfmgfaeheljpcaaGreatYLC
import Derived.Test.YtfmgfaeheljpcaaGreatYWJ
set_option linter.unusedVariables false
set_option linter.unusedSimpArgs false
set_option maxRecDepth 10000
namespace Go.Proofs.YtfmgfaeheljpcaaGreat
open Go Go.Vm Go.Num Go.Tow
theorem clone_q_own {l : List Rat} (h0 : 0 < l.length) (hl : l.length ≤ 1048576) : CA0 310 [.d (dqs l)] 4 (l.map dq) := by
  refine EnW Tryz.func310 fun _ _ _ => ?_
  refine Ub rfl (fun h => ?_) ?_
  · exact absurd h (by intro e; have : l.length = 0 := by simpa using congrArg List.length e
                       omega)
  refine ApL (l.map dq) rfl rfl (by simpa using h0) (by simpa using Nat.le_trans hl (by decide)) ?_
  exact Rw [(7, 1000000)] [(1000000, .arr 4 (l.map dq))] rfl (.one (.rf rfl) rfl rfl) ⟨_, rfl, rfl, rfl⟩
theorem clone_q_ok {l : List Rat} (h0 : 0 < l.length) (hl : l.length ≤ 1048576) : C0 310 [.d (dqs l)] (· = .d (dqs l)) := (clone_q_own h0 hl).data
theorem grow_q_ok {n : Nat} (h0 : 0 < n) (hn : n ≤ 1048576) : CA0 333 [.nil, .d (.int .i64 n)] 4 [] := by
  refine EnW Tryz.func333 fun _ _ _ => ?_
  refine No rfl (by omega) ?_
  refine Kp rfl ?_
  refine Ar 0 rfl ?_
  refine Ar n rfl ?_
  refine Yes rfl (by omega) ?_
  refine Kp rfl ?_
  refine Sn rfl ?_
  refine ApM n rfl h0 (by omega) ?_
  refine Sw 0 0 rfl (by omega) (by omega) ?_
  exact Rw [(22, 1000000)] [(1000000, .arr 4 [])] rfl (.one (.rf rfl) rfl rfl) ⟨_, rfl, rfl, rfl⟩
theorem fitE {c c' : Bool} (h : c = c') {g : Hp} {K : Hpl} : FitT g K (.b c) (.b c') := by
  subst h; exact .one (.rf rfl) (fun _ _ e => by cases e) (fun _ _ e => by cases e)
theorem dc_congr {p q : Prop} (h : p ↔ q) : dc p = dc q := by rw [show p = q from propext h]
namespace P8
theorem Sqrt_neg {n : Int} (hn : n < 0) (hl : (dig n.natAbs).length ≤ 274877906944) : C0 314 [.d (dz n)] (· = .tup (.pr (.d (dS false [])) (.d (.int .i64 7)))) := by
  refine En Tryz.func314 fun _ _ => ?_
  refine Ce rfl (Sign_ok (z := n) (by omega)) ?_
  refine Yes rfl (by rcases cmpI_tri n 0 with ⟨g1, g2⟩ | ⟨g1, g2⟩ | ⟨g1, g2⟩ <;> omega) ?_
  exact RTt rfl (.cons (.sd (.pd (.bd rfl) (.nil rfl))) fitI)
theorem root_ok {n : Int} (hl : (dig n.natAbs).length ≤ 274877906944) : C0 332 [.d (dz n)] fun v => ∃ b l, v = .tup (.pr (.d (dS b l)) (.b (dc (0 ≤ n ∧ sqN n.natAbs)))) ∧ (0 ≤ n → dS b l = dz (rt n.natAbs : Int)) := by
  have hs := @Sqrt_ok n.natAbs hl
  refine En Tryz.func332 fun _ _ => ?_
  by_cases hn : 0 ≤ n
  · have e : ((n.natAbs : Nat) : Int) = n := by omega
    rw [e] at hs
    have hr := (rt_spec n.natAbs).1
    have h3 : rt n.natAbs ≤ rt n.natAbs * rt n.natAbs := Nat.le_mul_self _
    have l1 := len_mono (show rt n.natAbs ≤ n.natAbs by omega)
    have l2 := len_mono hr
    refine Ce rfl hs ?_
    refine Dw rfl ?_
    refine Yes rfl rfl ?_
    refine Ce rfl (Mul_ok (by rw [Int.natAbs_natCast]; omega) (by rw [Int.natAbs_natCast]; omega)) ?_
    refine Ce rfl (Cmp_ok (by rw [← Int.natCast_mul, Int.natAbs_natCast]; omega) (by omega)) ?_
    refine Rt rfl (.tup (.cons (.rf rfl) (fitE (dc_congr ?_)))) ⟨_, _, rfl, fun _ => rfl⟩
    unfold sqN
    rcases cmpI_tri ((rt n.natAbs : Int) * (rt n.natAbs : Int)) n with ⟨g1, g2⟩ | ⟨g1, g2⟩ | ⟨g1, g2⟩ <;> rw [← Int.natCast_mul] at g1 <;> rw [← Int.natCast_mul] at g2 ⊢ <;> omega
  · refine Ce rfl (Sqrt_neg (by omega) hl) ?_
    refine Dw rfl ?_
    refine No rfl (by decide) ?_
    exact Rt rfl (.tup (.cons (.rf rfl) (fitN fun h => hn h.1))) ⟨_, _, rfl, fun h => absurd h hn⟩
theorem Sqrt_q_ok {x : Rat} {p : Nat} (hx : Qs p x) (hp : p ≤ 4398046511104) : C0 328 [.d (dq x)] fun v => ∃ b l b' l', v = .tup (.pr (.d (R2.dR b l b' l')) (.b (dc (∃ y : Rat, y * y = x)))) ∧ ((∃ y : Rat, y * y = x) → ∃ y : Rat, y * y = x ∧ R2.dR b l b' l' = dq y) := by
  have h1 := hx.n.len2 hp
  have h2 := hx.d.len2 hp
  have hi := sqQ_iff (q := x)
  refine En Tryz.func328 fun _ _ => ?_
  refine Ca rfl (root_ok (n := x.num) (by omega)) fun v hv => ?_
  obtain ⟨b, l, rfl, hb⟩ := hv
  refine Ca rfl (root_ok (n := (x.den : Int)) (by omega)) fun v hv => ?_
  obtain ⟨b', l', rfl, hb'⟩ := hv
  have z : ∀ {c g K}, (c = false ∧ ¬ ∃ y : Rat, y * y = x) → FitT g K (.pr (.st (.pr (.st (.pr (.b false) .nil)) (.st (.pr (.b false) .nil)))) (.b c)) (.pr (.d (R2.dR false [] false [])) (.b (dc (∃ y : Rat, y * y = x)))) := fun ⟨h0, h⟩ => by
    subst h0; exact .cons (.sd (.pd (.sd (.pd (.bd rfl) (.nil rfl))) (.sd (.pd (.bd rfl) (.nil rfl))))) (fitN h)
  refine By rfl (fun h => ?_) fun h => ?_
  · have h : ¬ (0 ≤ x.num ∧ sqN x.num.natAbs) := by simpa only [dc_not, dc_iff] using h
    have no : ¬ ∃ y : Rat, y * y = x := fun e => h ⟨(hi.1 e).1, (hi.1 e).2.1⟩
    exact Rt rfl (.tup (z ⟨rfl, no⟩)) ⟨false, [], false, [], rfl, fun e => absurd e no⟩
  have h : 0 ≤ x.num ∧ sqN x.num.natAbs := by simpa [dc_not, dc_iff] using h
  refine By rfl (fun k => ?_) fun k => ?_
  · have k : ¬ (0 ≤ (x.den : Int) ∧ sqN (x.den : Int).natAbs) := by simpa only [dc_not, dc_iff] using k
    have no : ¬ ∃ y : Rat, y * y = x := fun e => k ⟨by omega, by rw [Int.natAbs_natCast]; exact (hi.1 e).2.2⟩
    exact Rt rfl (.tup (z ⟨rfl, no⟩)) ⟨false, [], false, [], rfl, fun e => absurd e no⟩
  have k : 0 ≤ (x.den : Int) ∧ sqN (x.den : Int).natAbs := by simpa [dc_not, dc_iff] using k
  rw [Int.natAbs_natCast] at k
  obtain ⟨y, y1, y2, y3⟩ := sqQ_some (q := x) h.1 h.2 k.2
  refine Rt rfl (.tup (.cons (.rf rfl) (fitY ⟨y, y3⟩))) ⟨_, _, _, _, rfl, fun _ => ⟨y, y3, ?_⟩⟩
  have e1 := hb h.1
  have e2 := hb' k.1
  rw [Int.natAbs_natCast] at e2
  show D.st (.pr (dS b l) (dS b' l')) = D.st (.pr (dz _) (dz _))
  rw [e1, e2, y1, y2]
theorem half_ok {k r p : Nat} {t : Tw k} {a : Tow.El k} (hT : TS r k t) (ha : Sz p (toL k a)) (hk : k ≤ 16) (hp : p + 3 + cB r k ≤ 4398046511104) (hr : r ≤ 4398046511104) : C0 331 [.d (dt t), .d (de a)] (· = .d (de (mul k t a (rat k (1 / 2))))) := by
  refine En Tryz.func331 fun _ _ => ?_
  refine Ce rfl (qFrac_ok (a := 1) (b := 2) (by decide) (by decide)) ?_
  rw [half_dq]
  refine Ce rfl (tFromRat_ok (x := 1 / 2) (p := 3) hT hk hr ⟨show (1 / 2 : Rat).num.natAbs < 2 ^ 3 by decide +kernel, show ((1 / 2 : Rat).den : Int).natAbs < 2 ^ 3 by decide +kernel⟩ (by decide)) ?_
  refine Ce rfl (tMul_ok hT ha Sz.half hk (by omega) hr) ?_
  exact R0
theorem concat_D {a b : List D} (h0 : 0 < a.length + b.length) (hl : a.length + b.length ≤ 1048576) : C0 329 [.d (.sl 1 [.sl 4 a, .sl 4 b])] (· = .d (.sl 4 (a ++ b))) := by
  refine En Tryz.func329 fun _ _ => ?_
  refine Lo (fun (x : Nat × Nat) => [(0, .d (.sl 1 [.sl 4 a, .sl 4 b])), (2, .nil), (3, .d (.int .i64 x.2)), (9, .d (.sl 1 [.sl 4 a, .sl 4 b])), (10, .d (.int .i64 2)), (11, .d (.int .i64 x.1))]) (fun _ => []) (fun x => x = (0, 0) ∨ x = (1, a.length) ∨ x = (2, a.length + b.length)) (fun x => 2 - x.1) (0, 0) [] rfl (.inl rfl) (fun x hI => ?_)
  rcases hI with rfl | rfl | rfl
  · refine Yes rfl (show ((0 : Nat) : Int) < 2 by decide) ?_
    refine Ix 0 rfl (u := .sl 4 a) rfl ?_
    refine Ar a.length rfl ?_ (wr (by omega) (by simp only [inK]; omega))
    refine No rfl (by omega) ?_
    refine Ar (1 : Nat) rfl ?_
    exact Bk (1, a.length) [] rfl (.inr (.inl rfl)) (show 1 < 2 by decide)
  · refine Yes rfl (show ((1 : Nat) : Int) < 2 by decide) ?_
    refine Ix 1 rfl (u := .sl 4 b) rfl ?_
    refine Ar (a.length + b.length : Nat) rfl ?_ (wr (by omega) (by simp only [inK]; omega))
    refine No rfl (by omega) ?_
    refine Ar (2 : Nat) rfl ?_
    exact Bk (2, a.length + b.length) [] rfl (.inr (.inr rfl)) (show 0 < 1 by decide)
  refine No rfl (show ¬ ((2 : Nat) : Int) < 2 by decide) ?_
  refine CoN rfl (grow_q_ok (n := a.length + b.length) (by omega) hl) (fun v ob hv => ?_)
  obtain ⟨rfl, rfl⟩ := hv
  refine Lo (fun (x : Nat × List D) => [(0, .d (.sl 1 [.sl 4 a, .sl 4 b])), (2, .nil), (6, .own 24 4 0 x.2.length), (25, .d (.sl 1 [.sl 4 a, .sl 4 b])), (26, .d (.int .i64 2)), (27, .d (.int .i64 x.1))]) (fun x => [(24, .arr 4 x.2)]) (fun x => x = (0, []) ∨ x = (1, a) ∨ x = (2, a ++ b)) (fun x => 2 - x.1) (0, []) [] rfl (.inl rfl) (fun x hI => ?_)
  rcases hI with rfl | rfl | rfl
  · refine Yes rfl (show ((0 : Nat) : Int) < 2 by decide) ?_
    refine Ix 0 rfl (u := .sl 4 a) rfl ?_
    refine ApO a rfl rfl rfl rfl (by omega) ?_
    refine Ar (1 : Nat) rfl ?_
    exact Bk (1, a) [(24, 90), (33, 24)] rfl (.inr (.inl rfl)) (show 1 < 2 by decide)
  · refine Yes rfl (show ((1 : Nat) : Int) < 2 by decide) ?_
    refine Ix 1 rfl (u := .sl 4 b) rfl ?_
    refine ApO (a ++ b) rfl rfl rfl (by simp) (by simp; omega) ?_
    refine Ar (2 : Nat) rfl ?_
    exact Bk (2, a ++ b) [(24, 90), (33, 24)] rfl (.inr (.inr rfl)) (show 0 < 1 by decide)
  refine No rfl (show ¬ ((2 : Nat) : Int) < 2 by decide) ?_
  exact R1 rfl (.own rfl (by simp) (by rw [List.drop_zero]; exact List.take_of_length_le (by simp)))
theorem concat_el {k : Nat} {x y : Tow.El k} (hk : k ≤ 16) : C0 329 [.d (.sl 1 [de x, de y])] (· = .d (de (pr x y))) := by
  have := concat_D (a := (toL k x).map dq) (b := (toL k y).map dq) (by simp [toL_length]; have := Nat.two_pow_pos k; omega) (by simp [toL_length]; have := p16 hk; omega)
  rwa [← List.map_append] at this
end P8
end Go.Proofs.YtfmgfaeheljpcaaGreat

/- Identities of commutative rings, by computing. -/
import Derived.Test.YtfmgfaeheljpcaaGreatYTA
set_option linter.unusedVariables false
set_option linter.unusedSimpArgs false
namespace Go.Tow
section
inductive Pe where
  | v (i : Nat)
  | z
  | o
  | add (a b : Pe)
  | mul (a b : Pe)
  | neg (a : Pe)
abbrev Poly := List (Bool × List Nat)
def ltM : List Nat → List Nat → Bool
  | [], [] => false
  | [], _ :: _ => true
  | _ :: _, [] => false
  | a :: r, b :: s => match Nat.blt a b with
    | true => true
    | false => match Nat.beq a b with
      | true => ltM r s
      | false => false
def insM (i : Nat) : List Nat → List Nat
  | [] => [i]
  | j :: r => match Nat.ble i j with
    | true => i :: j :: r
    | false => j :: insM i r
def insP (t : Bool × List Nat) : Poly → Poly
  | [] => [t]
  | h :: r => if t.2 = h.2 then (if t.1 = h.1 then t :: h :: r else r) else match ltM t.2 h.2 with
    | true => t :: h :: r
    | false => h :: insP t r
def mulM (m n : List Nat) : List Nat := m.foldr insM n
def addP (p q : Poly) : Poly := p.foldr insP q
def mulT (t : Bool × List Nat) (q acc : Poly) : Poly := q.foldr (fun u a => insP (t.1 != u.1, mulM t.2 u.2) a) acc
def mulP (p q : Poly) : Poly := p.foldr (fun t acc => mulT t q acc) []
def nrm : Pe → Poly
  | .v i => [(false, [i])]
  | .z => []
  | .o => [(false, [])]
  | .add a b => addP (nrm a) (nrm b)
  | .mul a b => mulP (nrm a) (nrm b)
  | .neg a => (nrm a).map fun t => (!t.1, t.2)
def Laws.ev {α : Type} {add mul : α → α → α} {neg : α → α} {zero one : α} (L : Laws add mul neg zero one) (xs : List α) : Pe → α
  | .v i => xs.getD i zero
  | .z => zero
  | .o => one
  | .add a b => add (Laws.ev L xs a) (Laws.ev L xs b)
  | .mul a b => mul (Laws.ev L xs a) (Laws.ev L xs b)
  | .neg a => neg (Laws.ev L xs a)
def Laws.eM {α : Type} {add mul : α → α → α} {neg : α → α} {zero one : α} (L : Laws add mul neg zero one) (xs : List α) : List Nat → α
  | [] => one
  | i :: r => mul (xs.getD i zero) (Laws.eM L xs r)
def Laws.eT {α : Type} {add mul : α → α → α} {neg : α → α} {zero one : α} (L : Laws add mul neg zero one) (xs : List α) (t : Bool × List Nat) : α := match t.1 with
  | true => neg (L.eM xs t.2)
  | false => L.eM xs t.2
def Laws.eP {α : Type} {add mul : α → α → α} {neg : α → α} {zero one : α} (L : Laws add mul neg zero one) (xs : List α) : Poly → α
  | [] => zero
  | t :: r => add (L.eT xs t) (Laws.eP L xs r)
section
variable {α : Type} {add mul : α → α → α} {neg : α → α} {zero one : α} (L : Laws add mul neg zero one) (xs : List α)
include L
theorem Laws.eM_ins (i : Nat) (m : List Nat) : L.eM xs (insM i m) = mul (xs.getD i zero) (L.eM xs m) := by
  induction m with
  | nil => rfl
  | cons j r ih =>
    simp only [insM]
    split
    · rfl
    · simp only [eM]; rw [ih, L.mlc]
theorem Laws.eM_mul (m n : List Nat) : L.eM xs (mulM m n) = mul (L.eM xs m) (L.eM xs n) := by
  induction m with
  | nil => simp only [mulM, List.foldr_nil, eM, L.om]
  | cons i m ih =>
    have : mulM (i :: m) n = insM i (mulM m n) := rfl
    rw [this, L.eM_ins, ih, ← L.ma]; rfl
theorem Laws.eP_ins (t : Bool × List Nat) (p : Poly) : L.eP xs (insP t p) = add (L.eT xs t) (L.eP xs p) := by
  induction p with
  | nil => rfl
  | cons h r ih =>
    simp only [insP]
    split
    · rename_i h1
      split
      · rfl
      · rename_i h2
        obtain ⟨s, m⟩ := t
        obtain ⟨s', m'⟩ := h
        have h1' : m = m' := h1
        subst h1'
        cases s <;> cases s' <;> first | exact absurd rfl h2 | skip
        · simp only [eP, eT]; rw [← L.aa, L.an, L.za]
        · simp only [eP, eT]; rw [← L.aa, L.na, L.za]
    · split
      · rfl
      · simp only [eP]; rw [ih, L.alc]
theorem Laws.eP_add (p q : Poly) : L.eP xs (addP p q) = add (L.eP xs p) (L.eP xs q) := by
  induction p with
  | nil => simp only [addP, List.foldr_nil, eP, L.za]
  | cons t p ih =>
    have : addP (t :: p) q = insP t (addP p q) := rfl
    rw [this, L.eP_ins, ih]; simp only [eP]; rw [L.aa]
theorem Laws.eT_mul (t u : Bool × List Nat) : L.eT xs (t.1 != u.1, mulM t.2 u.2) = mul (L.eT xs t) (L.eT xs u) := by
  obtain ⟨s, m⟩ := t
  obtain ⟨s', m'⟩ := u
  cases s <;> cases s' <;> simp [eT, L.eM_mul, L.mn, L.nm, L.nn]
theorem Laws.eP_mulT (t : Bool × List Nat) (q acc : Poly) : L.eP xs (mulT t q acc) = add (mul (L.eT xs t) (L.eP xs q)) (L.eP xs acc) := by
  induction q with
  | nil => simp only [mulT, List.foldr_nil, eP, L.mz, L.za]
  | cons u q ih =>
    have : mulT t (u :: q) acc = insP (t.1 != u.1, mulM t.2 u.2) (mulT t q acc) := rfl
    rw [this, L.eP_ins, ih, L.eT_mul]; simp only [eP]; rw [L.md, L.aa]
theorem Laws.eP_mul (p q : Poly) : L.eP xs (mulP p q) = mul (L.eP xs p) (L.eP xs q) := by
  induction p with
  | nil => simp only [mulP, List.foldr_nil, eP, L.zm]
  | cons t p ih =>
    have : mulP (t :: p) q = mulT t q (mulP p q) := rfl
    rw [this, L.eP_mulT, ih]; simp only [eP]; rw [L.dm]
theorem Laws.eP_neg (p : Poly) : L.eP xs (p.map fun t => (!t.1, t.2)) = neg (L.eP xs p) := by
  induction p with
  | nil => simp only [List.map_nil, eP, L.nz]
  | cons t p ih =>
    obtain ⟨s, m⟩ := t
    simp only [List.map_cons, eP, L.nd, ih]
    cases s <;> simp [eT, L.nn]
theorem Laws.ev_nrm (e : Pe) : L.ev xs e = L.eP xs (nrm e) := by
  induction e with
  | v i => simp only [nrm, ev, eP, eT, eM, L.mo, L.az]
  | z => rfl
  | o => simp only [nrm, ev, eP, eT, eM, L.az]
  | add a b ha hb => simp only [nrm, ev, L.eP_add, ha, hb]
  | mul a b ha hb => simp only [nrm, ev, L.eP_mul, ha, hb]
  | neg a ha => simp only [nrm, ev, L.eP_neg, ha]
theorem Laws.req (a b : Pe) (h : nrm a = nrm b) : L.ev xs a = L.ev xs b := by rw [L.ev_nrm, L.ev_nrm, h]
end
end
section
/-- a sign that respects the ring -/
structure Sgn {α : Type} (add mul : α → α → α) (neg : α → α) (one : α) (σ : α → Int) : Prop where
  tri : ∀ a, σ a = 1 ∨ σ a = 0 ∨ σ a = -1
  sn : ∀ a, σ (neg a) = - σ a
  sm : ∀ a b, σ (mul a b) = σ a * σ b
  sa : ∀ a b, 0 ≤ σ a → 0 ≤ σ b → 0 ≤ σ (add a b)
  sp : ∀ a b, σ a = 1 → 0 ≤ σ b → σ (add a b) = 1
  s1 : σ one = 1
theorem sq_tri {X : Int} (h : X = 1 ∨ X = 0 ∨ X = -1) : 0 ≤ X * X ∧ (X ≠ 0 → X * X = 1) ∧ (X = 0 → X * X = 0) := by
  rcases h with rfl | rfl | rfl <;> decide
section
variable {α : Type} {add mul : α → α → α} {neg : α → α} {zero one : α} {σ : α → Int} (L : Laws add mul neg zero one) (S : Sgn add mul neg one σ)
include L S
theorem Sgn.s0 : σ zero = 0 := by
  have := S.sn zero
  rw [L.nz] at this
  omega
theorem Sgn.add0 {a b : α} (ha : σ a = 0) : σ (add a b) = σ b := by
  rcases S.tri b with hb | hb | hb
  · rw [hb, L.ac]; exact S.sp b a hb (by omega)
  · have h1 := S.sa a b (by omega) (by omega)
    have h2 := S.sa (neg a) (neg b) (by rw [S.sn]; omega) (by rw [S.sn]; omega)
    rw [← L.nd, S.sn] at h2
    omega
  · have h2 := S.sp (neg b) (neg a) (by rw [S.sn]; omega) (by rw [S.sn]; omega)
    rw [L.ac, ← L.nd, S.sn] at h2
    omega
theorem Sgn.add0' {a b : α} (hb : σ b = 0) : σ (add a b) = σ a := by rw [L.ac, S.add0 L hb]
theorem Sgn.np {a b : α} (ha : σ a = -1) (hb : σ b ≤ 0) : σ (add a b) = -1 := by
  have h2 := S.sp (neg a) (neg b) (by rw [S.sn]; omega) (by rw [S.sn]; omega)
  rw [← L.nd, S.sn] at h2
  omega
theorem Sgn.same {a b : α} (h : σ a = σ b) : σ (add a b) = σ a := by
  rcases S.tri a with ha | ha | ha
  · rw [ha]; exact S.sp a b ha (by omega)
  · rw [S.add0 L ha, ← h]
  · rw [ha]; exact S.np L ha (by omega)
theorem Sgn.eqv {a b : α} (h : σ (add a (neg b)) = 0) : σ a = σ b := by
  have e : a = add (add a (neg b)) b := (Laws.req L [a, b] (.v 0) (.add (.add (.v 0) (.neg (.v 1))) (.v 1)) (by decide +kernel))
  rw [e, S.add0 L h]
theorem Sgn.dom {a b : α} (h : σ (add (mul a a) (neg (mul b b))) = 1) : σ (add a b) = σ a := by
  have e : add (mul a a) (neg (mul b b)) = mul (add a b) (add a (neg b)) := (Laws.req L [a, b] (.add (.mul (.v 0) (.v 0)) (.neg (.mul (.v 1) (.v 1)))) (.mul (.add (.v 0) (.v 1)) (.add (.v 0) (.neg (.v 1)))) (by decide +kernel))
  have e2 : add a a = add (add a b) (add a (neg b)) := (Laws.req L [a, b] (.add (.v 0) (.v 0)) (.add (.add (.v 0) (.v 1)) (.add (.v 0) (.neg (.v 1)))) (by decide +kernel))
  rw [e, S.sm] at h
  have h2 : σ (add a a) = σ a := S.same L rfl
  rw [e2] at h2
  rcases S.tri (add a b) with h3 | h3 | h3 <;> rcases S.tri (add a (neg b)) with h4 | h4 | h4 <;> rw [h3, h4] at h <;> first | (exact absurd h (by decide)) | skip
  · rw [← h2, h3]; exact (S.sp _ _ h3 (by omega)).symm
  · rw [← h2, h3]; exact (S.np L h3 (by omega)).symm
theorem Sgn.dom0 {a b : α} (h : σ (add (mul a a) (neg (mul b b))) = 0) : σ (add a b) = Int.sign (σ a + σ b) := by
  have e : add (mul a a) (neg (mul b b)) = mul (add a b) (add a (neg b)) := (Laws.req L [a, b] (.add (.mul (.v 0) (.v 0)) (.neg (.mul (.v 1) (.v 1)))) (.mul (.add (.v 0) (.v 1)) (.add (.v 0) (.neg (.v 1)))) (by decide +kernel))
  rw [e, S.sm] at h
  rcases Int.mul_eq_zero.1 h with h1 | h1
  · have e2 : a = add (add a b) (neg b) := (Laws.req L [a, b] (.v 0) (.add (.add (.v 0) (.v 1)) (.neg (.v 1))) (by decide +kernel))
    have h2 : σ a = - σ b := by
      conv => lhs; rw [e2]
      rw [S.add0 L h1, S.sn]
    rw [h1, h2, show -σ b + σ b = 0 from by omega]; rfl
  · have h2 := S.eqv L h1
    rw [S.same L h2, ← h2]
    rcases S.tri a with ha | ha | ha <;> rw [ha] <;> rfl
end
/-- the norm of a pair -/
def Laws.nP {α : Type} {add mul : α → α → α} {neg : α → α} {zero one : α} (L : Laws add mul neg zero one) (d : α) (p : α × α) : α := add (mul p.1 p.1) (neg (mul (mul p.2 p.2) d))
def Laws.mQ {α : Type} {add mul : α → α → α} {neg : α → α} {zero one : α} (L : Laws add mul neg zero one) (d : α) (p q : α × α) : α × α := (add (mul p.1 q.1) (mul (mul p.2 q.2) d), add (mul p.1 q.2) (mul p.2 q.1))
def Laws.aQ {α : Type} {add mul : α → α → α} {neg : α → α} {zero one : α} (L : Laws add mul neg zero one) (p q : α × α) : α × α := (add p.1 q.1, add p.2 q.2)
def Laws.gQ {α : Type} {add mul : α → α → α} {neg : α → α} {zero one : α} (L : Laws add mul neg zero one) (p : α × α) : α × α := (neg p.1, neg p.2)
def Laws.sx {α : Type} {add mul : α → α → α} {neg : α → α} {zero one : α} (L : Laws add mul neg zero one) (d : α) (σ : α → Int) (p : α × α) : Int :=
  if σ p.2 = 0 ∨ σ p.1 = σ p.2 then σ p.1 else if σ p.1 = 0 then σ p.2 else σ p.1 * σ (L.nP d p)
theorem sx_fin {X Y ν : Int} (h1 : X = 1 ∨ X = 0 ∨ X = -1) (h2 : Y = 1 ∨ Y = 0 ∨ Y = -1) (h3 : ν = 1 ∨ ν = 0 ∨ ν = -1) (hx : X = 0 → ν = -(Y * Y)) (hy : Y = 0 → ν = X * X) :
    (if Y = 0 ∨ X = Y then X else if X = 0 then Y else X * ν) = if ν = 1 then X else if ν = -1 then Y else Int.sign (X + Y) := by
  rcases h1 with rfl | rfl | rfl <;> rcases h2 with rfl | rfl | rfl <;> rcases h3 with rfl | rfl | rfl <;>
    first | rfl | (exact absurd (hx rfl) (by decide)) | (exact absurd (hy rfl) (by decide)) | decide
section
variable {α : Type} {add mul : α → α → α} {neg : α → α} {zero one d : α} {σ : α → Int} (L : Laws add mul neg zero one) (S : Sgn add mul neg one σ) (hd : σ d = 1)
include L S hd
theorem Sgn.n0x {p : α × α} (h : σ p.1 = 0) : σ (L.nP d p) = -(σ p.2 * σ p.2) := by
  unfold Laws.nP
  rw [S.add0 L (by rw [S.sm, h]; rfl), S.sn, S.sm, S.sm, hd, Int.mul_one]
theorem Sgn.n0y {p : α × α} (h : σ p.2 = 0) : σ (L.nP d p) = σ p.1 * σ p.1 := by
  have _u := hd
  unfold Laws.nP
  rw [S.add0' L (by rw [S.sn, S.sm, S.sm, h]; simp), S.sm]
theorem Sgn.sx_eq (p : α × α) : L.sx d σ p = if σ (L.nP d p) = 1 then σ p.1 else if σ (L.nP d p) = -1 then σ p.2 else Int.sign (σ p.1 + σ p.2) :=
  sx_fin (S.tri _) (S.tri _) (S.tri _) (S.n0x L hd) (S.n0y L hd)
theorem Sgn.sx1 {p : α × α} (h : σ (L.nP d p) = 1) : L.sx d σ p = σ p.1 ∧ σ p.1 ≠ 0 := by
  refine ⟨by rw [S.sx_eq L hd, if_pos h], fun h0 => ?_⟩
  have h1 := S.n0x L hd h0
  have := (sq_tri (S.tri p.2)).1
  omega
theorem Sgn.sxm {p : α × α} (h : σ (L.nP d p) = -1) : L.sx d σ p = σ p.2 ∧ σ p.2 ≠ 0 := by
  refine ⟨by rw [S.sx_eq L hd, if_neg (by omega), if_pos h], fun h0 => ?_⟩
  have h1 := S.n0y L hd h0
  have := (sq_tri (S.tri p.1)).1
  omega
theorem Sgn.sxz {p : α × α} (h : σ (L.nP d p) = 0) : L.sx d σ p = Int.sign (σ p.1 + σ p.2) ∧ (σ p.1 = 0 ↔ σ p.2 = 0) := by
  refine ⟨by rw [S.sx_eq L hd, if_neg (by omega), if_neg (by omega)], fun h0 => ?_, fun h0 => ?_⟩
  · have h1 := S.n0x L hd h0
    have h2 := (sq_tri (S.tri p.2)).2.1
    exact Classical.byContradiction fun h3 => by have := h2 h3; omega
  · have h1 := S.n0y L hd h0
    have h2 := (sq_tri (S.tri p.1)).2.1
    exact Classical.byContradiction fun h3 => by have := h2 h3; omega
theorem Sgn.sd (z : α) : σ (mul d z) = σ z := by
  have _u := L
  rw [S.sm, hd, Int.one_mul]
theorem Sgn.mul_core (p q : α × α) (h : σ (L.nP d q) = 0 → σ (L.nP d p) = 0) : L.sx d σ (L.mQ d p q) = L.sx d σ p * L.sx d σ q := by
  obtain ⟨a1, b1⟩ := p
  obtain ⟨a2, b2⟩ := q
  have hN : σ (L.nP d (L.mQ d (a1, b1) (a2, b2))) = σ (L.nP d (a1, b1)) * σ (L.nP d (a2, b2)) := by
    rw [← S.sm]; congr 1
    exact (Laws.req L [a1, b1, a2, b2, d] (.add (.mul (.add (.mul (.v 0) (.v 2)) (.mul (.mul (.v 1) (.v 3)) (.v 4))) (.add (.mul (.v 0) (.v 2)) (.mul (.mul (.v 1) (.v 3)) (.v 4)))) (.neg (.mul (.mul (.add (.mul (.v 0) (.v 3)) (.mul (.v 1) (.v 2))) (.add (.mul (.v 0) (.v 3)) (.mul (.v 1) (.v 2)))) (.v 4)))) (.mul (.add (.mul (.v 0) (.v 0)) (.neg (.mul (.mul (.v 1) (.v 1)) (.v 4)))) (.add (.mul (.v 2) (.v 2)) (.neg (.mul (.mul (.v 3) (.v 3)) (.v 4))))) (by decide +kernel))
  have eX : ∀ n1 n2, n1 = L.nP d (a1, b1) → n2 = L.nP d (a2, b2) → add (mul (mul a1 a2) (mul a1 a2)) (neg (mul (mul (mul b1 b2) d) (mul (mul b1 b2) d))) = add (add (mul (mul a1 a1) n2) (mul (mul a2 a2) n1)) (neg (mul n1 n2)) := by
    rintro _ _ rfl rfl
    exact (Laws.req L [a1, b1, a2, b2, d] (.add (.mul (.mul (.v 0) (.v 2)) (.mul (.v 0) (.v 2))) (.neg (.mul (.mul (.mul (.v 1) (.v 3)) (.v 4)) (.mul (.mul (.v 1) (.v 3)) (.v 4))))) (.add (.add (.mul (.mul (.v 0) (.v 0)) (.add (.mul (.v 2) (.v 2)) (.neg (.mul (.mul (.v 3) (.v 3)) (.v 4))))) (.mul (.mul (.v 2) (.v 2)) (.add (.mul (.v 0) (.v 0)) (.neg (.mul (.mul (.v 1) (.v 1)) (.v 4)))))) (.neg (.mul (.add (.mul (.v 0) (.v 0)) (.neg (.mul (.mul (.v 1) (.v 1)) (.v 4)))) (.add (.mul (.v 2) (.v 2)) (.neg (.mul (.mul (.v 3) (.v 3)) (.v 4))))))) (by decide +kernel))
  have eX2 : ∀ n1 n2, n1 = L.nP d (a1, b1) → n2 = L.nP d (a2, b2) → add (mul (mul a1 a2) (mul a1 a2)) (neg (mul (mul (mul b1 b2) d) (mul (mul b1 b2) d))) = add (mul (mul a1 a1) n2) (mul (mul d (mul b2 b2)) n1) := by
    rintro _ _ rfl rfl
    exact (Laws.req L [a1, b1, a2, b2, d] (.add (.mul (.mul (.v 0) (.v 2)) (.mul (.v 0) (.v 2))) (.neg (.mul (.mul (.mul (.v 1) (.v 3)) (.v 4)) (.mul (.mul (.v 1) (.v 3)) (.v 4))))) (.add (.mul (.mul (.v 0) (.v 0)) (.add (.mul (.v 2) (.v 2)) (.neg (.mul (.mul (.v 3) (.v 3)) (.v 4))))) (.mul (.mul (.v 4) (.mul (.v 3) (.v 3))) (.add (.mul (.v 0) (.v 0)) (.neg (.mul (.mul (.v 1) (.v 1)) (.v 4)))))) (by decide +kernel))
  have eXr : ∀ n1 n2, n1 = L.nP d (a1, b1) → n2 = L.nP d (a2, b2) → add (mul (mul (mul b1 b2) d) (mul (mul b1 b2) d)) (neg (mul (mul a1 a2) (mul a1 a2))) = add (add (neg (mul (mul a1 a1) n2)) (neg (mul (mul a2 a2) n1))) (mul n1 n2) := by
    rintro _ _ rfl rfl
    exact (Laws.req L [a1, b1, a2, b2, d] (.add (.mul (.mul (.mul (.v 1) (.v 3)) (.v 4)) (.mul (.mul (.v 1) (.v 3)) (.v 4))) (.neg (.mul (.mul (.v 0) (.v 2)) (.mul (.v 0) (.v 2))))) (.add (.add (.neg (.mul (.mul (.v 0) (.v 0)) (.add (.mul (.v 2) (.v 2)) (.neg (.mul (.mul (.v 3) (.v 3)) (.v 4)))))) (.neg (.mul (.mul (.v 2) (.v 2)) (.add (.mul (.v 0) (.v 0)) (.neg (.mul (.mul (.v 1) (.v 1)) (.v 4))))))) (.mul (.add (.mul (.v 0) (.v 0)) (.neg (.mul (.mul (.v 1) (.v 1)) (.v 4)))) (.add (.mul (.v 2) (.v 2)) (.neg (.mul (.mul (.v 3) (.v 3)) (.v 4)))))) (by decide +kernel))
  have eY : ∀ n1 n2, n1 = L.nP d (a1, b1) → n2 = L.nP d (a2, b2) → mul d (add (mul (mul a1 b2) (mul a1 b2)) (neg (mul (mul b1 a2) (mul b1 a2)))) = add (neg (mul (mul a1 a1) n2)) (mul (mul a2 a2) n1) := by
    rintro _ _ rfl rfl
    exact (Laws.req L [a1, b1, a2, b2, d] (.mul (.v 4) (.add (.mul (.mul (.v 0) (.v 3)) (.mul (.v 0) (.v 3))) (.neg (.mul (.mul (.v 1) (.v 2)) (.mul (.v 1) (.v 2)))))) (.add (.neg (.mul (.mul (.v 0) (.v 0)) (.add (.mul (.v 2) (.v 2)) (.neg (.mul (.mul (.v 3) (.v 3)) (.v 4)))))) (.mul (.mul (.v 2) (.v 2)) (.add (.mul (.v 0) (.v 0)) (.neg (.mul (.mul (.v 1) (.v 1)) (.v 4)))))) (by decide +kernel))
  have eYr : ∀ n1 n2, n1 = L.nP d (a1, b1) → n2 = L.nP d (a2, b2) → mul d (add (mul (mul b1 a2) (mul b1 a2)) (neg (mul (mul a1 b2) (mul a1 b2)))) = add (neg (mul (mul a2 a2) n1)) (mul (mul a1 a1) n2) := by
    rintro _ _ rfl rfl
    exact (Laws.req L [a1, b1, a2, b2, d] (.mul (.v 4) (.add (.mul (.mul (.v 1) (.v 2)) (.mul (.v 1) (.v 2))) (.neg (.mul (.mul (.v 0) (.v 3)) (.mul (.v 0) (.v 3)))))) (.add (.neg (.mul (.mul (.v 2) (.v 2)) (.add (.mul (.v 0) (.v 0)) (.neg (.mul (.mul (.v 1) (.v 1)) (.v 4)))))) (.mul (.mul (.v 0) (.v 0)) (.add (.mul (.v 2) (.v 2)) (.neg (.mul (.mul (.v 3) (.v 3)) (.v 4)))))) (by decide +kernel))
  have eX := eX _ _ rfl rfl
  have eX2 := eX2 _ _ rfl rfl
  have eXr := eXr _ _ rfl rfl
  have eY := eY _ _ rfl rfl
  have eYr := eYr _ _ rfl rfl
  have Sx := @Sgn.sx1 _ _ _ _ _ _ d σ L S hd
  have Sm := @Sgn.sxm _ _ _ _ _ _ d σ L S hd
  have Sz := @Sgn.sxz _ _ _ _ _ _ d σ L S hd
  have ta1 := S.tri a1
  have tb1 := S.tri b1
  have ta2 := S.tri a2
  have tb2 := S.tri b2
  have sA : σ (mul (mul a1 a1) (L.nP d (a2, b2))) = σ a1 * σ a1 * σ (L.nP d (a2, b2)) := by rw [S.sm, S.sm]
  have sB : σ (mul (mul a2 a2) (L.nP d (a1, b1))) = σ a2 * σ a2 * σ (L.nP d (a1, b1)) := by rw [S.sm, S.sm]
  have sC : σ (mul (L.nP d (a1, b1)) (L.nP d (a2, b2))) = σ (L.nP d (a1, b1)) * σ (L.nP d (a2, b2)) := S.sm _ _
  have sD : σ (mul (mul d (mul b2 b2)) (L.nP d (a1, b1))) = σ b2 * σ b2 * σ (L.nP d (a1, b1)) := by rw [S.sm, S.sd L hd, S.sm]
  have sb : σ (mul (mul b1 b2) d) = σ b1 * σ b2 := by rw [S.sm, S.sm, hd, Int.mul_one]
  have qa1 := sq_tri ta1
  have qa2 := sq_tri ta2
  have qb2 := sq_tri tb2
  rcases S.tri (L.nP d (a1, b1)) with h1 | h1 | h1 <;> rcases S.tri (L.nP d (a2, b2)) with h2 | h2 | h2 <;> simp only [h1, h2, Int.mul_one, Int.mul_zero, Int.mul_neg] at sA sB sC sD hN
  · obtain ⟨k1, z1⟩ := Sx h1
    obtain ⟨k2, z2⟩ := Sx h2
    have z1 : σ a1 ≠ 0 := z1
    have := S.dom L (a := mul a1 a2) (b := mul (mul b1 b2) d) (by rw [eX2]; exact S.sp _ _ (by rw [sA, qa1.2.1 z1]) (by rw [sD]; exact qb2.1))
    rw [(Sx hN).1, k1, k2]
    show σ (add (mul a1 a2) (mul (mul b1 b2) d)) = σ a1 * σ a2
    rw [this, S.sm]
  · exact absurd (h h2) (by omega)
  · obtain ⟨k1, z1⟩ := Sx h1
    obtain ⟨k2, z2⟩ := Sm h2
    have z1 : σ a1 ≠ 0 := z1
    have z2 : σ b2 ≠ 0 := z2
    have := S.dom L (a := mul a1 b2) (b := mul b1 a2) (by rw [← S.sd L hd, eY]; exact S.sp _ _ (by rw [S.sn, sA, qa1.2.1 z1]; rfl) (by rw [sB]; exact qa2.1))
    rw [(Sm hN).1, k1, k2]
    show σ (add (mul a1 b2) (mul b1 a2)) = σ a1 * σ b2
    rw [this, S.sm]
  · obtain ⟨k1, e1⟩ := Sz h1
    obtain ⟨k2, z2⟩ := Sx h2
    have z2 : σ a2 ≠ 0 := z2
    have e1 : σ a1 = 0 ↔ σ b1 = 0 := e1
    rw [(Sz hN).1, k1, k2]
    show Int.sign (σ (add (mul a1 a2) (mul (mul b1 b2) d)) + σ (add (mul a1 b2) (mul b1 a2))) = Int.sign (σ a1 + σ b1) * σ a2
    by_cases z1 : σ a1 = 0
    · have zb := e1.1 z1
      rw [S.add0 L (by rw [S.sm, z1, Int.zero_mul]), S.add0 L (by rw [S.sm, z1, Int.zero_mul]), sb, S.sm, z1, zb, Int.zero_mul, Int.zero_mul]; simp
    · have g1 := S.dom L (a := mul a1 a2) (b := mul (mul b1 b2) d) (by rw [eX]; exact S.sp _ _ (S.sp _ _ (by rw [sA, qa1.2.1 z1]) (by rw [sB]; exact Int.le_refl _)) (by rw [S.sn, sC]; decide))
      have g2 := S.dom L (a := mul b1 a2) (b := mul a1 b2) (by rw [← S.sd L hd, eYr, L.ac]; exact S.sp _ _ (by rw [sA, qa1.2.1 z1]) (by rw [S.sn, sB]; decide))
      rw [g1, L.ac (mul a1 b2), g2, S.sm, S.sm]
      have zb : σ b1 ≠ 0 := fun h => z1 (e1.2 h)
      revert z1 z2 zb
      rcases ta1 with h | h | h <;> rcases tb1 with h' | h' | h' <;> rcases ta2 with h'' | h'' | h'' <;> rw [h, h', h''] <;> decide
  · obtain ⟨k1, e1⟩ := Sz h1
    obtain ⟨k2, e2⟩ := Sz h2
    have e1 : σ a1 = 0 ↔ σ b1 = 0 := e1
    have e2 : σ a2 = 0 ↔ σ b2 = 0 := e2
    rw [(Sz hN).1, k1, k2]
    show Int.sign (σ (add (mul a1 a2) (mul (mul b1 b2) d)) + σ (add (mul a1 b2) (mul b1 a2))) = Int.sign (σ a1 + σ b1) * Int.sign (σ a2 + σ b2)
    have g1 := S.dom0 L (a := mul a1 a2) (b := mul (mul b1 b2) d) (by rw [eX, S.add0' L (by rw [S.sn, sC]; rfl), S.add0 L sA, sB])
    have g2 := S.dom0 L (a := mul a1 b2) (b := mul b1 a2) (by rw [← S.sd L hd, eY, S.add0 L (by rw [S.sn, sA]; rfl), sB])
    rw [g1, g2, sb, S.sm, S.sm, S.sm]
    revert e1 e2
    rcases ta1 with h | h | h <;> rcases tb1 with h' | h' | h' <;> rcases ta2 with h'' | h'' | h'' <;> rcases tb2 with g | g | g <;> rw [h, h', h'', g] <;> decide
  · obtain ⟨k1, e1⟩ := Sz h1
    obtain ⟨k2, z2⟩ := Sm h2
    have z2 : σ b2 ≠ 0 := z2
    have e1 : σ a1 = 0 ↔ σ b1 = 0 := e1
    rw [(Sz hN).1, k1, k2]
    show Int.sign (σ (add (mul a1 a2) (mul (mul b1 b2) d)) + σ (add (mul a1 b2) (mul b1 a2))) = Int.sign (σ a1 + σ b1) * σ b2
    by_cases z1 : σ a1 = 0
    · have zb := e1.1 z1
      rw [S.add0 L (by rw [S.sm, z1, Int.zero_mul]), S.add0 L (by rw [S.sm, z1, Int.zero_mul]), sb, S.sm, z1, zb, Int.zero_mul, Int.zero_mul]; simp
    · have g1 := S.dom L (a := mul (mul b1 b2) d) (b := mul a1 a2) (by rw [eXr]; exact S.sp _ _ (S.sp _ _ (by rw [S.sn, sA, qa1.2.1 z1]; rfl) (by rw [S.sn, sB]; decide)) (by rw [sC]; decide))
      have g2 := S.dom L (a := mul a1 b2) (b := mul b1 a2) (by rw [← S.sd L hd, eY]; exact S.sp _ _ (by rw [S.sn, sA, qa1.2.1 z1]; rfl) (by rw [sB]; exact Int.le_refl _))
      rw [L.ac (mul a1 a2), g1, g2, sb, S.sm]
      have zb : σ b1 ≠ 0 := fun h => z1 (e1.2 h)
      revert z1 z2 zb
      rcases ta1 with h | h | h <;> rcases tb1 with h' | h' | h' <;> rcases tb2 with h'' | h'' | h'' <;> rw [h, h', h''] <;> decide
  · obtain ⟨k1, z1⟩ := Sm h1
    obtain ⟨k2, z2⟩ := Sx h2
    have z2 : σ a2 ≠ 0 := z2
    have := S.dom L (a := mul b1 a2) (b := mul a1 b2) (by rw [← S.sd L hd, eYr]; exact S.sp _ _ (by rw [S.sn, sB, qa2.2.1 z2]; rfl) (by rw [sA]; exact qa1.1))
    rw [(Sm hN).1, k1, k2]
    show σ (add (mul a1 b2) (mul b1 a2)) = σ b1 * σ a2
    rw [L.ac, this, S.sm]
  · exact absurd (h h2) (by omega)
  · obtain ⟨k1, z1⟩ := Sm h1
    obtain ⟨k2, z2⟩ := Sm h2
    have := S.dom L (a := mul (mul b1 b2) d) (b := mul a1 a2) (by rw [eXr, L.ac]; exact S.sp _ _ (by rw [sC]; rfl) (S.sa _ _ (by rw [S.sn, sA]; have := qa1.1; omega) (by rw [S.sn, sB]; have := qa2.1; omega)))
    rw [(Sx hN).1, k1, k2]
    show σ (add (mul a1 a2) (mul (mul b1 b2) d)) = σ b1 * σ b2
    rw [L.ac, this, sb]
theorem Sgn.smul (p q : α × α) : L.sx d σ (L.mQ d p q) = L.sx d σ p * L.sx d σ q := by
  by_cases h : σ (L.nP d q) = 0 → σ (L.nP d p) = 0
  · exact S.mul_core L hd p q h
  · have h1 : σ (L.nP d q) = 0 := Classical.byContradiction fun h2 => h fun h3 => absurd h3 h2
    have e : L.mQ d p q = L.mQ d q p := by
      obtain ⟨a1, b1⟩ := p
      obtain ⟨a2, b2⟩ := q
      exact Prod.ext (Laws.req L [a1, b1, a2, b2, d] (.add (.mul (.v 0) (.v 2)) (.mul (.mul (.v 1) (.v 3)) (.v 4))) (.add (.mul (.v 2) (.v 0)) (.mul (.mul (.v 3) (.v 1)) (.v 4))) (by decide +kernel)) (Laws.req L [a1, b1, a2, b2, d] (.add (.mul (.v 0) (.v 3)) (.mul (.v 1) (.v 2))) (.add (.mul (.v 2) (.v 1)) (.mul (.v 3) (.v 0))) (by decide +kernel))
    rw [e, S.mul_core L hd q p fun _ => h1, Int.mul_comm]
theorem Sgn.sneg (p : α × α) : L.sx d σ (L.gQ p) = - L.sx d σ p := by
  have e : L.nP d (L.gQ p) = L.nP d p := by
    obtain ⟨a, b⟩ := p
    exact (Laws.req L [a, b, d] (.add (.mul (.neg (.v 0)) (.neg (.v 0))) (.neg (.mul (.mul (.neg (.v 1)) (.neg (.v 1))) (.v 2)))) (.add (.mul (.v 0) (.v 0)) (.neg (.mul (.mul (.v 1) (.v 1)) (.v 2)))) (by decide +kernel))
  rw [S.sx_eq L hd, S.sx_eq L hd, e]
  show (if σ (L.nP d p) = 1 then σ (neg p.1) else if σ (L.nP d p) = -1 then σ (neg p.2) else Int.sign (σ (neg p.1) + σ (neg p.2))) = _
  rw [S.sn, S.sn]
  split
  · rfl
  · split
    · rfl
    · rw [← Int.neg_add, Int.sign_neg]
/-- d is as a square -/
def Laws.Rt {α : Type} {add mul : α → α → α} {neg : α → α} {zero one : α} (L : Laws add mul neg zero one) (d : α) (σ : α → Int) (p q : α) : Prop := σ p = 1 ∧ σ q = 1 ∧ σ (add (mul p p) (neg (mul d (mul q q)))) = 0
theorem Sgn.sx_rt {p q : α} (h : L.Rt d σ p q) (x : α × α) : L.sx d σ x = σ (add (mul x.1 q) (mul x.2 p)) := by
  obtain ⟨hp, hq, h0⟩ := h
  obtain ⟨a, b⟩ := x
  show L.sx d σ (a, b) = σ (add (mul a q) (mul b p))
  have e1 : ∀ n, n = L.nP d (a, b) → mul n (mul q q) = add (mul (mul b b) (add (mul p p) (neg (mul d (mul q q))))) (mul (add (mul a q) (mul b p)) (add (mul a q) (neg (mul b p)))) := by
    rintro _ rfl
    exact (Laws.req L [a, b, p, q, d] (.mul (.add (.mul (.v 0) (.v 0)) (.neg (.mul (.mul (.v 1) (.v 1)) (.v 4)))) (.mul (.v 3) (.v 3))) (.add (.mul (.mul (.v 1) (.v 1)) (.add (.mul (.v 2) (.v 2)) (.neg (.mul (.v 4) (.mul (.v 3) (.v 3)))))) (.mul (.add (.mul (.v 0) (.v 3)) (.mul (.v 1) (.v 2))) (.add (.mul (.v 0) (.v 3)) (.neg (.mul (.v 1) (.v 2)))))) (by decide +kernel))
  have e1 := e1 _ rfl
  have hN : σ (L.nP d (a, b)) = σ (add (mul a q) (mul b p)) * σ (add (mul a q) (neg (mul b p))) := by
    have e4 := congrArg σ e1
    rw [S.add0 L (a := mul (mul b b) (add (mul p p) (neg (mul d (mul q q))))) (by rw [S.sm, h0, Int.mul_zero]), S.sm, S.sm, hq, Int.mul_one, Int.mul_one, S.sm] at e4
    exact e4
  have e2 : add (mul a q) (mul a q) = add (add (mul a q) (mul b p)) (add (mul a q) (neg (mul b p))) := (Laws.req L [a, b, p, q] (.add (.mul (.v 0) (.v 3)) (.mul (.v 0) (.v 3))) (.add (.add (.mul (.v 0) (.v 3)) (.mul (.v 1) (.v 2))) (.add (.mul (.v 0) (.v 3)) (.neg (.mul (.v 1) (.v 2))))) (by decide +kernel))
  have e3 : add (mul b p) (mul b p) = add (add (mul a q) (mul b p)) (neg (add (mul a q) (neg (mul b p)))) := (Laws.req L [a, b, p, q] (.add (.mul (.v 1) (.v 2)) (.mul (.v 1) (.v 2))) (.add (.add (.mul (.v 0) (.v 3)) (.mul (.v 1) (.v 2))) (.neg (.add (.mul (.v 0) (.v 3)) (.neg (.mul (.v 1) (.v 2)))))) (by decide +kernel))
  have hX : σ a = σ (add (add (mul a q) (mul b p)) (add (mul a q) (neg (mul b p)))) := by
    rw [← e2, S.same L rfl, S.sm, hq, Int.mul_one]
  have hY : σ b = σ (add (add (mul a q) (mul b p)) (neg (add (mul a q) (neg (mul b p))))) := by
    rw [← e3, S.same L rfl, S.sm, hp, Int.mul_one]
  generalize add (mul a q) (mul b p) = A at *
  generalize add (mul a q) (neg (mul b p)) = B at *
  rw [S.sx_eq L hd]
  show (if σ (L.nP d (a, b)) = 1 then σ a else if σ (L.nP d (a, b)) = -1 then σ b else Int.sign (σ a + σ b)) = σ A
  rw [hN]
  rcases S.tri A with h | h | h <;> rcases S.tri B with h' | h' | h'
  · rw [h, h', if_pos (by decide), hX, S.same L (by omega), h]
  · rw [h, h', if_neg (by decide), if_neg (by decide), hX, hY, S.add0' L h', S.add0' L (by rw [S.sn]; omega), h]; rfl
  · rw [h, h', if_neg (by decide), if_pos (by decide), hY, S.same L (by rw [S.sn]; omega), h]
  · rw [h, h', if_neg (by decide), if_neg (by decide), hX, hY, S.add0 L h, S.add0 L h, S.sn, h']; rfl
  · rw [h, h', if_neg (by decide), if_neg (by decide), hX, hY, S.add0 L h, S.add0 L h, S.sn, h']; rfl
  · rw [h, h', if_neg (by decide), if_neg (by decide), hX, hY, S.add0 L h, S.add0 L h, S.sn, h']; rfl
  · rw [h, h', if_neg (by decide), if_pos (by decide), hY, S.same L (by rw [S.sn]; omega), h]
  · rw [h, h', if_neg (by decide), if_neg (by decide), hX, hY, S.add0' L h', S.add0' L (by rw [S.sn]; omega), h]; rfl
  · rw [h, h', if_pos (by decide), hX, S.same L (by omega), h]
theorem Sgn.no_rt (hE : ∀ p q, ¬ L.Rt d σ p q) {x : α × α} (h : σ (L.nP d x) = 0) : σ x.1 = 0 ∧ σ x.2 = 0 := by
  obtain ⟨a, b⟩ := x
  have h0 := (S.sxz L hd h).2
  have h0 : σ a = 0 ↔ σ b = 0 := h0
  have e : ∀ n, n = L.nP d (a, b) → add (mul a a) (neg (mul d (mul b b))) = n ∧ add (mul (neg a) (neg a)) (neg (mul d (mul b b))) = n ∧ add (mul a a) (neg (mul d (mul (neg b) (neg b)))) = n ∧ add (mul (neg a) (neg a)) (neg (mul d (mul (neg b) (neg b)))) = n := by
    rintro _ rfl
    exact ⟨(Laws.req L [a, b, d] (.add (.mul (.v 0) (.v 0)) (.neg (.mul (.v 2) (.mul (.v 1) (.v 1))))) (.add (.mul (.v 0) (.v 0)) (.neg (.mul (.mul (.v 1) (.v 1)) (.v 2)))) (by decide +kernel)), (Laws.req L [a, b, d] (.add (.mul (.neg (.v 0)) (.neg (.v 0))) (.neg (.mul (.v 2) (.mul (.v 1) (.v 1))))) (.add (.mul (.v 0) (.v 0)) (.neg (.mul (.mul (.v 1) (.v 1)) (.v 2)))) (by decide +kernel)), (Laws.req L [a, b, d] (.add (.mul (.v 0) (.v 0)) (.neg (.mul (.v 2) (.mul (.neg (.v 1)) (.neg (.v 1)))))) (.add (.mul (.v 0) (.v 0)) (.neg (.mul (.mul (.v 1) (.v 1)) (.v 2)))) (by decide +kernel)), (Laws.req L [a, b, d] (.add (.mul (.neg (.v 0)) (.neg (.v 0))) (.neg (.mul (.v 2) (.mul (.neg (.v 1)) (.neg (.v 1)))))) (.add (.mul (.v 0) (.v 0)) (.neg (.mul (.mul (.v 1) (.v 1)) (.v 2)))) (by decide +kernel))⟩
  obtain ⟨e1, e2, e3, e4⟩ := e _ rfl
  show σ a = 0 ∧ σ b = 0
  rcases S.tri a with h1 | h1 | h1
  · rcases S.tri b with h2 | h2 | h2
    · exact absurd ⟨h1, h2, by rw [e1]; exact h⟩ (hE a b)
    · omega
    · exact absurd ⟨h1, by rw [S.sn]; omega, by rw [e3]; exact h⟩ (hE a (neg b))
  · exact ⟨h1, h0.1 h1⟩
  · rcases S.tri b with h2 | h2 | h2
    · exact absurd ⟨by rw [S.sn]; omega, h2, by rw [e2]; exact h⟩ (hE (neg a) b)
    · omega
    · exact absurd ⟨by rw [S.sn]; omega, by rw [S.sn]; omega, by rw [e4]; exact h⟩ (hE (neg a) (neg b))
theorem Sgn.sx_n (hE : ∀ p q, ¬ L.Rt d σ p q) {n a b : α} (hn : σ n = 1) (h : 0 ≤ L.sx d σ (a, b)) : L.sx d σ (add a n, b) = 1 := by
  have Sx := @Sgn.sx1 _ _ _ _ _ _ d σ L S hd
  have Sm := @Sgn.sxm _ _ _ _ _ _ d σ L S hd
  rcases S.tri (L.nP d (a, b)) with h1 | h1 | h1
  · obtain ⟨k1, z1⟩ := Sx h1
    have k1 : L.sx d σ (a, b) = σ a := k1
    have z1 : σ a ≠ 0 := z1
    have ha : σ a = 1 := by rcases S.tri a with h | h | h <;> omega
    have hN : σ (L.nP d (add a n, b)) = 1 := by
      have e : ∀ m, m = L.nP d (a, b) → L.nP d (add a n, b) = add m (mul n (add (add a a) n)) := by
        rintro _ rfl
        exact (Laws.req L [a, b, n, d] (.add (.mul (.add (.v 0) (.v 2)) (.add (.v 0) (.v 2))) (.neg (.mul (.mul (.v 1) (.v 1)) (.v 3)))) (.add (.add (.mul (.v 0) (.v 0)) (.neg (.mul (.mul (.v 1) (.v 1)) (.v 3)))) (.mul (.v 2) (.add (.add (.v 0) (.v 0)) (.v 2)))) (by decide +kernel))
      rw [e _ rfl]
      exact S.sp _ _ h1 (by rw [S.sm, hn, S.sp _ _ (S.sp _ _ ha (by omega)) (by omega)]; decide)
    rw [(Sx hN).1]
    exact S.sp _ _ ha (by omega)
  · obtain ⟨k1, k2⟩ := S.no_rt L hd hE h1
    have k1 : σ a = 0 := k1
    have k2 : σ b = 0 := k2
    have : σ (add a n) = 1 := by rw [S.add0 L k1, hn]
    unfold Laws.sx
    rw [if_pos (.inl k2)]; exact this
  · obtain ⟨k1, z1⟩ := Sm h1
    have k1 : L.sx d σ (a, b) = σ b := k1
    have z1 : σ b ≠ 0 := z1
    have hb : σ b = 1 := by rcases S.tri b with h | h | h <;> omega
    rcases S.tri (L.nP d (add a n, b)) with h2 | h2 | h2
    · obtain ⟨k3, z3⟩ := Sx h2
      rw [k3]
      show σ (add a n) = 1
      have z3 : σ (add a n) ≠ 0 := z3
      rcases S.tri (add a n) with h | h | h
      · exact h
      · omega
      · exfalso
        have e : ∀ m, m = L.nP d (add a n, b) → L.nP d (a, b) = add m (mul n (add (neg (add a n)) (add (neg (add a n)) n))) := by
          rintro _ rfl
          exact (Laws.req L [a, b, n, d] (.add (.mul (.v 0) (.v 0)) (.neg (.mul (.mul (.v 1) (.v 1)) (.v 3)))) (.add (.add (.mul (.add (.v 0) (.v 2)) (.add (.v 0) (.v 2))) (.neg (.mul (.mul (.v 1) (.v 1)) (.v 3)))) (.mul (.v 2) (.add (.neg (.add (.v 0) (.v 2))) (.add (.neg (.add (.v 0) (.v 2))) (.v 2))))) (by decide +kernel))
        have g1 : σ (neg (add a n)) = 1 := by rw [S.sn]; omega
        rw [e _ rfl, S.sp _ _ h2 (by rw [S.sm, hn, S.sp _ _ g1 (by rw [S.sp _ _ g1 (by omega)]; decide)]; decide)] at h1
        omega
    · have := (S.no_rt L hd hE h2).2
      have : σ b = 0 := this
      omega
    · rw [(Sm h2).1]; exact hb
theorem Sgn.ext : Sgn L.aQ (L.mQ d) L.gQ (one, zero) (L.sx d σ) := by
  have tri : ∀ p, L.sx d σ p = 1 ∨ L.sx d σ p = 0 ∨ L.sx d σ p = -1 := by
    intro p
    rw [S.sx_eq L hd]
    split
    · exact S.tri _
    · split
      · exact S.tri _
      · rcases S.tri p.1 with h | h | h <;> rcases S.tri p.2 with h' | h' | h' <;> rw [h, h'] <;> decide
  have low : ∀ a b, σ b = 0 → L.sx d σ (a, b) = σ a := by
    intro a b h
    unfold Laws.sx
    rw [if_pos (.inl h)]
  by_cases hE : ∃ p q, L.Rt d σ p q
  · obtain ⟨p, q, h⟩ := hE
    have hadd : ∀ x y : α × α, add (mul (L.aQ x y).1 q) (mul (L.aQ x y).2 p) = add (add (mul x.1 q) (mul x.2 p)) (add (mul y.1 q) (mul y.2 p)) := by
      rintro ⟨a, b⟩ ⟨a2, b2⟩
      exact (Laws.req L [a, b, a2, b2, p, q] (.add (.mul (.add (.v 0) (.v 2)) (.v 5)) (.mul (.add (.v 1) (.v 3)) (.v 4))) (.add (.add (.mul (.v 0) (.v 5)) (.mul (.v 1) (.v 4))) (.add (.mul (.v 2) (.v 5)) (.mul (.v 3) (.v 4)))) (by decide +kernel))
    refine ⟨tri, S.sneg L hd, S.smul L hd, fun x y hx hy => ?_, fun x y hx hy => ?_, by rw [low _ _ (S.s0 L), S.s1]⟩
    · rw [S.sx_rt L hd h] at hx hy ⊢
      rw [hadd]; exact S.sa _ _ hx hy
    · rw [S.sx_rt L hd h] at hx hy ⊢
      rw [hadd]; exact S.sp _ _ hx hy
  · have hE : ∀ p q, ¬ L.Rt d σ p q := fun p q h => hE ⟨p, q, h⟩
    have pos : ∀ x y : α × α, L.sx d σ x = 1 → 0 ≤ L.sx d σ y → L.sx d σ (L.aQ x y) = 1 := by
      intro x y hx hy
      have hN : σ (L.nP d x) ≠ 0 := fun h0 => by
        have h1 := (S.sxz L hd h0).1
        have h2 := S.no_rt L hd hE h0
        rw [h2.1, h2.2] at h1
        rw [h1] at hx
        exact absurd hx (by decide)
      have ex : L.mQ d x (x.1, neg x.2) = (L.nP d x, zero) := by
        obtain ⟨a, b⟩ := x
        exact Prod.ext (Laws.req L [a, b, d] (.add (.mul (.v 0) (.v 0)) (.mul (.mul (.v 1) (.neg (.v 1))) (.v 2))) (.add (.mul (.v 0) (.v 0)) (.neg (.mul (.mul (.v 1) (.v 1)) (.v 2)))) (by decide +kernel)) (Laws.req L [a, b] (.add (.mul (.v 0) (.neg (.v 1))) (.mul (.v 1) (.v 0))) .z (by decide +kernel))
      have ey : L.mQ d (L.aQ x y) (x.1, neg x.2) = (add (L.mQ d y (x.1, neg x.2)).1 (L.nP d x), (L.mQ d y (x.1, neg x.2)).2) := by
        obtain ⟨a, b⟩ := x
        obtain ⟨a2, b2⟩ := y
        exact Prod.ext (Laws.req L [a, b, a2, b2, d] (.add (.mul (.add (.v 0) (.v 2)) (.v 0)) (.mul (.mul (.add (.v 1) (.v 3)) (.neg (.v 1))) (.v 4))) (.add (.add (.mul (.v 2) (.v 0)) (.mul (.mul (.v 3) (.neg (.v 1))) (.v 4))) (.add (.mul (.v 0) (.v 0)) (.neg (.mul (.mul (.v 1) (.v 1)) (.v 4))))) (by decide +kernel)) (Laws.req L [a, b, a2, b2, d] (.add (.mul (.add (.v 0) (.v 2)) (.neg (.v 1))) (.mul (.add (.v 1) (.v 3)) (.v 0))) (.add (.mul (.v 2) (.neg (.v 1))) (.mul (.v 3) (.v 0))) (by decide +kernel))
      have hc : L.sx d σ (x.1, neg x.2) = σ (L.nP d x) := by
        have := S.smul L hd x (x.1, neg x.2)
        rw [ex, low _ _ (S.s0 L), hx, Int.one_mul] at this
        exact this.symm
      have hyc := S.smul L hd y (x.1, neg x.2)
      have hxy := S.smul L hd (L.aQ x y) (x.1, neg x.2)
      rw [hc] at hyc hxy
      rcases S.tri (L.nP d x) with h1 | h1 | h1
      · rw [h1, Int.mul_one] at hyc hxy
        rw [← hxy, ey]
        exact S.sx_n L hd hE h1 (by rw [← hyc] at hy; exact hy)
      · exact absurd h1 hN
      · rw [h1] at hyc hxy
        have hg := S.sneg L hd (L.mQ d (L.aQ x y) (x.1, neg x.2))
        have eg : L.gQ (L.mQ d (L.aQ x y) (x.1, neg x.2)) = (add (L.gQ (L.mQ d y (x.1, neg x.2))).1 (neg (L.nP d x)), (L.gQ (L.mQ d y (x.1, neg x.2))).2) := by
          rw [ey]
          exact Prod.ext (L.nd _ _) rfl
        have h2 := S.sx_n L hd hE (n := neg (L.nP d x)) (a := (L.gQ (L.mQ d y (x.1, neg x.2))).1) (b := (L.gQ (L.mQ d y (x.1, neg x.2))).2) (by rw [S.sn]; omega) (by
          show 0 ≤ L.sx d σ (L.gQ (L.mQ d y (x.1, neg x.2)))
          rw [S.sneg L hd, hyc]; omega)
        rw [← eg] at h2
        omega
    refine ⟨tri, S.sneg L hd, S.smul L hd, fun x y hx hy => ?_, pos, by rw [low _ _ (S.s0 L), S.s1]⟩
    rcases tri x with h | h | h
    · rw [pos x y h hy]; decide
    · rcases tri y with h' | h' | h'
      · have e : L.aQ x y = L.aQ y x := Prod.ext (L.ac _ _) (L.ac _ _)
        rw [e, pos y x h' hx]; decide
      · have zz : ∀ p, L.sx d σ p = 0 → σ p.1 = 0 ∧ σ p.2 = 0 := by
          intro p hp
          rcases S.tri (L.nP d p) with g | g | g
          · have := S.sx1 L hd g; omega
          · exact S.no_rt L hd hE g
          · have := S.sxm L hd g; omega
        have z1 := zz x h
        have z2 := zz y h'
        have : L.sx d σ (L.aQ x y) = 0 := by
          rw [show L.aQ x y = (add x.1 y.1, add x.2 y.2) from rfl, low _ _ (by rw [S.add0 L z1.2, z2.2]), S.add0 L z1.1, z2.1]
        omega
      · omega
    · omega
end
end
section
def sgnQ (x : Rat) : Int := if 0 < x then 1 else if x < 0 then -1 else 0
theorem sgnQ_tri (x : Rat) : (0 < x ∧ sgnQ x = 1) ∨ (x = 0 ∧ sgnQ x = 0) ∨ (x < 0 ∧ sgnQ x = -1) := by
  unfold sgnQ
  by_cases h : 0 < x
  · left; exact ⟨h, if_pos h⟩
  · by_cases h2 : x < 0
    · right; right; exact ⟨h2, by rw [if_neg h, if_pos h2]⟩
    · right; left; exact ⟨by grind, by rw [if_neg h, if_neg h2]⟩
theorem sgnQ_pos {x : Rat} (h : 0 < x) : sgnQ x = 1 := if_pos h
theorem sgnQ_neg {x : Rat} (h : x < 0) : sgnQ x = -1 := by unfold sgnQ; rw [if_neg (by grind), if_pos h]
theorem mul_neg_pos {x y : Rat} (h : x < 0) (k : 0 < y) : x * y < 0 := by
  have := Rat.mul_pos (show 0 < -x by grind) k
  grind
theorem mul_neg_neg {x y : Rat} (h : x < 0) (k : y < 0) : 0 < x * y := by
  have := Rat.mul_pos (show 0 < -x by grind) (show 0 < -y by grind)
  grind
theorem sgnQ_ok : Sgn (α := Rat) (fun x y => x + y) (fun x y => x * y) (fun x => -x) 1 sgnQ := by
  refine ⟨fun a => ?_, fun a => ?_, fun a b => ?_, fun a b ha hb => ?_, fun a b ha hb => ?_, by decide⟩
  · rcases sgnQ_tri a with h | h | h <;> simp [h.2]
  · rcases sgnQ_tri a with h | h | h
    · rw [h.2, sgnQ_neg (by grind)]
    · rw [h.1, Rat.neg_zero]; rfl
    · rw [h.2, sgnQ_pos (by grind)]; rfl
  · rcases sgnQ_tri a with h | h | h <;> rcases sgnQ_tri b with k | k | k <;> rw [h.2, k.2]
    · exact sgnQ_pos (Rat.mul_pos h.1 k.1)
    · rw [k.1, Rat.mul_zero]; rfl
    · rw [Rat.mul_comm]; exact sgnQ_neg (mul_neg_pos k.1 h.1)
    · rw [h.1, Rat.zero_mul]; rfl
    · rw [h.1, Rat.zero_mul]; rfl
    · rw [h.1, Rat.zero_mul]; rfl
    · exact sgnQ_neg (mul_neg_pos h.1 k.1)
    · rw [k.1, Rat.mul_zero]; rfl
    · exact sgnQ_pos (mul_neg_neg h.1 k.1)
  · rcases sgnQ_tri a with h | h | h <;> rcases sgnQ_tri b with k | k | k <;> rw [h.2] at ha <;> rw [k.2] at hb <;> first | (exact absurd ha (by decide)) | (exact absurd hb (by decide)) | skip
    · rw [sgnQ_pos (by grind)]; decide
    · rw [sgnQ_pos (by grind)]; decide
    · rw [sgnQ_pos (by grind)]; decide
    · rw [h.1, k.1, Rat.add_zero]; decide
  · rcases sgnQ_tri a with h | h | h <;> rcases sgnQ_tri b with k | k | k <;> rw [h.2] at ha <;> rw [k.2] at hb <;> first | (exact absurd ha (by decide)) | (exact absurd hb (by decide)) | exact sgnQ_pos (by grind)
/-- the sign -/
def sgn : (k : Nat) → Tw k → El k → Int
  | 0 => fun _ (x : Rat) => sgnQ x
  | k + 1 => fun t a => (ring k t.1).sx t.2 (sgn k t.1) a
/-- all radicands are positive -/
def real : (k : Nat) → Tw k → Prop
  | 0 => fun _ => True
  | k + 1 => fun t => real k t.1 ∧ sgn k t.1 t.2 = 1
theorem sgn_ok : ∀ {k : Nat} {t : Tw k}, real k t → Sgn (add k) (mul k t) (neg k) (rat k 1) (sgn k t)
  | 0, _, _ => sgnQ_ok
  | k + 1, t, h => (sgn_ok h.1).ext (ring k t.1) h.2
section
variable {k : Nat} {t : Tw k}
theorem sgn_up {t : Tw (k + 1)} (a : El k) (h : real k t.1) : sgn (k + 1) t (up k a) = sgn k t.1 a := by
  have hz := (sgn_ok h).s0 (ring k t.1)
  show (ring k t.1).sx t.2 (sgn k t.1) (a, zero k) = _
  unfold Laws.sx
  rw [if_pos (.inl hz)]
theorem sgn_rat {x : Rat} (h : real k t) : sgn k t (rat k x) = sgnQ x := by
  induction k with
  | zero => rfl
  | succ k ih => rw [show rat (k + 1) x = up k (rat k x) from rfl, sgn_up _ h.1, ih h.1]
theorem sgn_tri : ∀ {k : Nat} (t : Tw k) (a : El k), sgn k t a = 1 ∨ sgn k t a = 0 ∨ sgn k t a = -1
  | 0, _, a => by
    rcases sgnQ_tri a with h | h | h
    · exact .inl h.2
    · exact .inr (.inl h.2)
    · exact .inr (.inr h.2)
  | k + 1, t, a => by
    show (ring k t.1).sx t.2 (sgn k t.1) a = 1 ∨ (ring k t.1).sx t.2 (sgn k t.1) a = 0 ∨ (ring k t.1).sx t.2 (sgn k t.1) a = -1
    unfold Laws.sx
    split
    · exact sgn_tri _ _
    · split
      · exact sgn_tri _ _
      · rcases sgn_tri t.1 a.1 with h | h | h <;> rcases sgn_tri t.1 ((ring k t.1).nP t.2 a) with g | g | g <;> rw [h, g] <;> decide
/-- less or equal -/
def le (k : Nat) (t : Tw k) (a b : El k) : Prop := 0 ≤ sgn k t (add k b (neg k a))
end
end
section
section
variable {α : Type} {add mul : α → α → α} {neg : α → α} {zero one : α} {σ : α → Int} (L : Laws add mul neg zero one) (S : Sgn add mul neg one σ)
include L S
end
def tw0 : (k : Nat) → Tw k
  | 0 => ()
  | k + 1 => (tw0 k, zero k)
theorem rat_add : ∀ (k : Nat) (x y : Rat), rat k (x + y) = add k (rat k x) (rat k y)
  | 0, _, _ => rfl
  | k + 1, x, y => by
    show (rat k (x + y), zero k) = (add k (rat k x) (rat k y), add k (zero k) (zero k))
    rw [rat_add k, (ring k (tw0 k)).az]
theorem rat_neg : ∀ (k : Nat) (x : Rat), rat k (-x) = neg k (rat k x)
  | 0, _ => rfl
  | k + 1, x => by
    show (rat k (-x), zero k) = (neg k (rat k x), neg k (zero k))
    rw [rat_neg k, (ring k (tw0 k)).nz]
theorem rat_mul : ∀ (k : Nat) (t : Tw k) (x y : Rat), rat k (x * y) = mul k t (rat k x) (rat k y)
  | 0, _, _, _ => rfl
  | k + 1, t, x, y => by
    show up k (rat k (x * y)) = mul (k + 1) t (up k (rat k x)) (up k (rat k y))
    rw [mul_up, rat_mul k t.1]
section
variable {k : Nat} {t : Tw k}
end
section
variable {k : Nat} {t : Tw (k + 1)}
/-- the last root -/
def rt1 (k : Nat) : El (k + 1) := (zero k, rat k 1)
theorem rt1_sq : mul (k + 1) t (rt1 k) (rt1 k) = up k t.2 := by
  have L := ring k t.1
  simp only [mul, up, rt1, L.mz, L.zm, L.az, L.za, L.mo, L.om]; rfl
theorem sgn_rt1 (h : real k t.1) : sgn (k + 1) t (rt1 k) = 1 := by
  have S := sgn_ok h
  have h1 : sgn k t.1 (rat k 1) = 1 := S.s1
  have h0 : sgn k t.1 (zero k) = 0 := S.s0 (ring k t.1)
  show (ring k t.1).sx t.2 (sgn k t.1) (zero k, rat k 1) = 1
  unfold Laws.sx
  rw [if_neg (by rw [h1, h0]; decide), if_pos h0, h1]
end
end
section
section
variable {k : Nat} {w : Tw k} {x : El k}
/-- a tower with one more radicand -/
def tsn {k : Nat} (w : Tw k) (y : El k) : Tw (k + 1) := (w, y)
end
end
section
def isSq (k : Nat) (t : Tw k) (a : El k) : Prop := ∃ w, mul k t w w = a
/-- each radicand is positive and no square -/
def red : (k : Nat) → Tw k → Prop
  | 0 => fun _ => True
  | k + 1 => fun t => red k t.1 ∧ sgn k t.1 t.2 = 1 ∧ ¬ isSq k t.1 t.2
theorem red_real : ∀ {k : Nat} {t : Tw k}, red k t → real k t
  | 0, _, _ => trivial
  | k + 1, t, h => ⟨red_real h.1, h.2.1⟩
section
variable {α : Type} {add mul : α → α → α} {neg : α → α} {zero one : α} (L : Laws add mul neg zero one)
include L
theorem Laws.sub0 {a b : α} (h : add a (neg b) = zero) : a = b := by
  have e : a = add (add a (neg b)) b := (Laws.req L [a, b] (.v 0) (.add (.add (.v 0) (.neg (.v 1))) (.v 1)) (by decide +kernel))
  rw [e, h, L.za]
theorem Laws.sb {a b : α} (h : a = b) : add a (neg b) = zero := by rw [h, L.an]
/-- a root of u + v sqrt r from the root x of half of u + m -/
theorem Laws.hi {h i m r u v x : α} (hh : add h h = one) (hx : mul x x = mul h (add u m)) (hm : mul m m = add (mul u u) (neg (mul (mul v v) r))) (hi : mul i (add x x) = one) :
    add (mul x x) (mul (mul (mul v i) (mul v i)) r) = u ∧ add (mul x (mul v i)) (mul (mul v i) x) = v := by
  have e1 : mul (mul v v) r = mul (add u (neg m)) (add u m) := by
    have : mul (mul v v) r = add (mul u u) (neg (mul m m)) := by
      rw [hm]; exact (Laws.req L [u, v, r] (.mul (.mul (.v 1) (.v 1)) (.v 2)) (.add (.mul (.v 0) (.v 0)) (.neg (.add (.mul (.v 0) (.v 0)) (.neg (.mul (.mul (.v 1) (.v 1)) (.v 2)))))) (by decide +kernel))
    rw [this]; exact (Laws.req L [u, m] (.add (.mul (.v 0) (.v 0)) (.neg (.mul (.v 1) (.v 1)))) (.mul (.add (.v 0) (.neg (.v 1))) (.add (.v 0) (.v 1))) (by decide +kernel))
  have e2 : add u m = add (mul x x) (mul x x) := by
    rw [hx, ← L.dm, hh, L.om]
  have e3 : mul (mul i i) (add (mul x x) (mul x x)) = h := by
    have : mul (mul i i) (add (mul x x) (mul x x)) = mul h (mul (mul i (add x x)) (mul i (add x x))) := by
      have e4 : mul h (mul (mul i (add x x)) (mul i (add x x))) = mul (add h h) (mul (mul i i) (add (mul x x) (mul x x))) := (Laws.req L [h, i, x] (.mul (.v 0) (.mul (.mul (.v 1) (.add (.v 2) (.v 2))) (.mul (.v 1) (.add (.v 2) (.v 2))))) (.mul (.add (.v 0) (.v 0)) (.mul (.mul (.v 1) (.v 1)) (.add (.mul (.v 2) (.v 2)) (.mul (.v 2) (.v 2))))) (by decide +kernel))
      rw [e4, hh, L.om]
    rw [this, hi, L.mo, L.mo]
  constructor
  · have e5 : mul (mul (mul v i) (mul v i)) r = mul (add u (neg m)) h := by
      have : mul (mul (mul v i) (mul v i)) r = mul (mul i i) (mul (mul v v) r) := (Laws.req L [v, i, r] (.mul (.mul (.mul (.v 0) (.v 1)) (.mul (.v 0) (.v 1))) (.v 2)) (.mul (.mul (.v 1) (.v 1)) (.mul (.mul (.v 0) (.v 0)) (.v 2))) (by decide +kernel))
      rw [this, e1]
      have : mul (mul i i) (mul (add u (neg m)) (add u m)) = mul (add u (neg m)) (mul (mul i i) (add u m)) := (Laws.req L [u, m, i] (.mul (.mul (.v 2) (.v 2)) (.mul (.add (.v 0) (.neg (.v 1))) (.add (.v 0) (.v 1)))) (.mul (.add (.v 0) (.neg (.v 1))) (.mul (.mul (.v 2) (.v 2)) (.add (.v 0) (.v 1)))) (by decide +kernel))
      rw [this, e2, e3]
    rw [e5, hx]
    have : add (mul h (add u m)) (mul (add u (neg m)) h) = mul (add h h) u := (Laws.req L [h, u, m] (.add (.mul (.v 0) (.add (.v 1) (.v 2))) (.mul (.add (.v 1) (.neg (.v 2))) (.v 0))) (.mul (.add (.v 0) (.v 0)) (.v 1)) (by decide +kernel))
    rw [this, hh, L.om]
  · have : add (mul x (mul v i)) (mul (mul v i) x) = mul v (mul i (add x x)) := (Laws.req L [x, v, i] (.add (.mul (.v 0) (.mul (.v 1) (.v 2))) (.mul (.mul (.v 1) (.v 2)) (.v 0))) (.mul (.v 1) (.mul (.v 2) (.add (.v 0) (.v 0)))) (by decide +kernel))
    rw [this, hi, L.mo]
end
section
variable {k : Nat} {t : Tw k}
theorem sgn_mul0 (h : real k t) {a b : El k} (e : mul k t a b = zero k) : sgn k t a = 0 ∨ sgn k t b = 0 := by
  have := (sgn_ok h).sm a b
  rw [e, (sgn_ok h).s0 (ring k t)] at this
  exact Int.mul_eq_zero.1 this.symm
theorem red_fld : ∀ {k : Nat} {t : Tw k}, red k t → (∀ a, sgn k t a = 0 → a = zero k) ∧ (∀ a, a ≠ zero k → ∃ b, inv k t a = some b)
  | 0, _, _ => by
    refine ⟨fun a h => ?_, fun a h => ?_⟩
    · rcases sgnQ_tri a with ⟨h1, e⟩ | ⟨h1, e⟩ | ⟨h1, e⟩
      · exact absurd (show sgnQ a = 0 from h) (by rw [e]; decide)
      · exact h1
      · exact absurd (show sgnQ a = 0 from h) (by rw [e]; decide)
    · have h2 : ∀ x : Rat, ¬ x = 0 → ∃ b, (if x = 0 then none else some (1 / x)) = some b := fun x h => ⟨1 / x, if_neg h⟩
      exact h2 a h
  | k + 1, t, h => by
    obtain ⟨f1, f2⟩ := red_fld h.1
    have R := red_real h.1
    have L := ring k t.1
    have S := sgn_ok R
    have key : ∀ x y : El k, norm k t (x, y) = zero k → x = zero k ∧ y = zero k := by
      intro x y hn
      have hn : add k (mul k t.1 x x) (neg k (mul k t.1 (mul k t.1 y y) t.2)) = zero k := hn
      by_cases hy : y = zero k
      · subst hy
        rw [L.mz, L.zm, L.nz, L.az] at hn
        refine ⟨f1 x ?_, rfl⟩
        rcases sgn_mul0 R hn with e | e <;> exact e
      · exfalso
        obtain ⟨b, hb⟩ := f2 y hy
        have hb := inv_mul hb
        refine h.2.2 ⟨mul k t.1 x b, ?_⟩
        have e := L.sub0 hn
        have e1 : mul k t.1 (mul k t.1 x b) (mul k t.1 x b) = mul k t.1 (mul k t.1 b b) (mul k t.1 x x) := (Laws.req L [x, b] (.mul (.mul (.v 0) (.v 1)) (.mul (.v 0) (.v 1))) (.mul (.mul (.v 1) (.v 1)) (.mul (.v 0) (.v 0))) (by decide +kernel))
        have e2 : mul k t.1 (mul k t.1 b b) (mul k t.1 (mul k t.1 y y) t.2) = mul k t.1 (mul k t.1 (mul k t.1 b y) (mul k t.1 b y)) t.2 := (Laws.req L [b, y, t.2] (.mul (.mul (.v 0) (.v 0)) (.mul (.mul (.v 1) (.v 1)) (.v 2))) (.mul (.mul (.mul (.v 0) (.v 1)) (.mul (.v 0) (.v 1))) (.v 2)) (by decide +kernel))
        rw [e1, e, e2, hb, L.mo, L.om]
    refine ⟨fun a ha => ?_, fun a ha => ?_⟩
    · obtain ⟨x, y⟩ := a
      have ha : L.sx t.2 (sgn k t.1) (x, y) = 0 := ha
      have hz : x = zero k ∧ y = zero k := by
        unfold Laws.sx at ha
        split at ha
        · rename_i h1
          have h1 : sgn k t.1 y = 0 ∨ sgn k t.1 x = sgn k t.1 y := h1
          have ha : sgn k t.1 x = 0 := ha
          exact ⟨f1 _ ha, f1 _ (by omega)⟩
        · rename_i h1
          have h1 : ¬ (sgn k t.1 y = 0 ∨ sgn k t.1 x = sgn k t.1 y) := h1
          split at ha
          · have ha : sgn k t.1 y = 0 := ha
            omega
          · rename_i h2
            have h2 : ¬ sgn k t.1 x = 0 := h2
            rcases Int.mul_eq_zero.1 ha with e | e
            · exact absurd e h2
            · exact key x y (f1 _ e)
      rw [hz.1, hz.2]; rfl
    · have hn : norm k t a ≠ zero k := fun e => ha (by
        obtain ⟨x, y⟩ := a
        obtain ⟨e1, e2⟩ := key x y e
        rw [e1, e2]; rfl)
      obtain ⟨b, hb⟩ := f2 _ hn
      refine ⟨(mul k t.1 a.1 b, neg k (mul k t.1 a.2 b)), ?_⟩
      show (match inv k t.1 (norm k t a) with | none => none | some n => some (mul k t.1 a.1 n, neg k (mul k t.1 a.2 n))) = _
      rw [hb]; rfl
theorem red_zero (h : red k t) {a : El k} : sgn k t a = 0 ↔ a = zero k :=
  ⟨(red_fld h).1 a, fun e => by rw [e]; exact (sgn_ok (red_real h)).s0 (ring k t)⟩
theorem red_mul0 (h : red k t) {a b : El k} (e : mul k t a b = zero k) : a = zero k ∨ b = zero k :=
  (sgn_mul0 (red_real h) e).imp (red_zero h).1 (red_zero h).1
theorem sq_uniq (h : red k t) {a b : El k} (e : mul k t a a = mul k t b b) : a = b ∨ a = neg k b := by
  have L := ring k t
  have e1 : mul k t (add k a (neg k b)) (add k a b) = add k (mul k t a a) (neg k (mul k t b b)) := (Laws.req L [a, b] (.mul (.add (.v 0) (.neg (.v 1))) (.add (.v 0) (.v 1))) (.add (.mul (.v 0) (.v 0)) (.neg (.mul (.v 1) (.v 1)))) (by decide +kernel))
  rw [L.sb e] at e1
  rcases red_mul0 h e1 with e2 | e2
  · exact .inl (L.sub0 e2)
  · right
    rw [L.ac] at e2
    exact L.nu e2
theorem sq_pos (h : red k t) {a b : El k} (e : mul k t a a = mul k t b b) (ha : 0 ≤ sgn k t a) (hb : 0 ≤ sgn k t b) : a = b := by
  rcases sq_uniq h e with e1 | e1
  · exact e1
  · rw [e1, (sgn_ok (red_real h)).sn] at ha
    have hb0 : b = zero k := (red_zero h).1 (by omega)
    rw [e1, hb0, (ring k t).nz]
theorem sq_nn (h : real k t) {a : El k} (e : isSq k t a) : 0 ≤ sgn k t a := by
  obtain ⟨w, rfl⟩ := e
  rw [(sgn_ok h).sm]
  exact (sq_tri (sgn_tri t w)).1
theorem dbl0 (h : red k t) {a : El k} (e : add k a a = zero k) : a = zero k := by
  rw [← red_zero h] at e ⊢
  rwa [(sgn_ok (red_real h)).same (ring k t) rfl] at e
theorem half_add : add k (rat k (1 / 2)) (rat k (1 / 2)) = rat k 1 := by
  rw [← rat_add]; congr 1; grind
end
section
variable {k : Nat} {t : Tw (k + 1)}
theorem sq_up {w u : El k} (e : mul k t.1 w w = u) : mul (k + 1) t (up k w) (up k w) = up k u := by rw [mul_up, e]
theorem sq_low {w u i : El k} (hi : mul k t.1 i t.2 = rat k 1) (e : mul k t.1 w w = mul k t.1 u i) : mul (k + 1) t (zero k, w) (zero k, w) = up k u := by
  have L := ring k t.1
  have hi := hi
  refine Prod.ext ?_ ?_
  · show add k (mul k t.1 (zero k) (zero k)) (mul k t.1 (mul k t.1 w w) t.2) = u
    rw [e, L.mz, L.za, L.ma, hi, L.mo]
  · show add k (mul k t.1 (zero k) w) (mul k t.1 w (zero k)) = zero k
    rw [L.mz, L.zm, L.az]
theorem sq_low_no (h : red k t.1) {u i : El k} (hi : mul k t.1 i t.2 = rat k 1) (h1 : ¬ isSq k t.1 u) (h2 : ¬ isSq k t.1 (mul k t.1 u i)) : ¬ isSq (k + 1) t (up k u) := by
  rintro ⟨⟨p, q⟩, e⟩
  have L := ring k t.1
  have e1 : add k (mul k t.1 p p) (mul k t.1 (mul k t.1 q q) t.2) = u := congrArg Prod.fst e
  have e2 : add k (mul k t.1 p q) (mul k t.1 q p) = zero k := congrArg Prod.snd e
  rw [L.mc q p] at e2
  rcases red_mul0 h (dbl0 h e2) with e3 | e3
  · refine h2 ⟨q, ?_⟩
    rw [← e1, e3, L.mz, L.za]
    have : mul k t.1 (mul k t.1 (mul k t.1 q q) t.2) i = mul k t.1 (mul k t.1 q q) (mul k t.1 i t.2) := (Laws.req L [q, t.2, i] (.mul (.mul (.mul (.v 0) (.v 0)) (.v 1)) (.v 2)) (.mul (.mul (.v 0) (.v 0)) (.mul (.v 2) (.v 1))) (by decide +kernel))
    rw [this, hi, L.mo]
  · exact h1 ⟨p, by rw [← e1, e3, L.mz, L.zm, L.az]⟩
theorem sq_hi {u v m w i : El k} (hm : mul k t.1 m m = norm k t (u, v)) (hw : mul k t.1 w w = mul k t.1 (rat k (1 / 2)) (add k u m)) (hi : mul k t.1 i (add k w w) = rat k 1) :
    mul (k + 1) t (w, mul k t.1 v i) (w, mul k t.1 v i) = (u, v) := by
  obtain ⟨e1, e2⟩ := (ring k t.1).hi half_add hw hm hi
  exact Prod.ext e1 e2
theorem sq_norm {a : El (k + 1)} (h : isSq (k + 1) t a) : isSq k t.1 (norm k t a) := by
  obtain ⟨w, rfl⟩ := h
  exact ⟨norm k t w, by rw [norm_mul]⟩
theorem sq_hi_no (h : red k t.1) {u v m : El k} (hv : v ≠ zero k) (hm : mul k t.1 m m = norm k t (u, v)) (hs : isSq (k + 1) t (u, v)) :
    ∃ p, p ≠ zero k ∧ (mul k t.1 p p = mul k t.1 (rat k (1 / 2)) (add k u m) ∨ mul k t.1 p p = mul k t.1 (rat k (1 / 2)) (add k u (neg k m))) := by
  obtain ⟨⟨p, q⟩, e⟩ := hs
  have L := ring k t.1
  have e1 : add k (mul k t.1 p p) (mul k t.1 (mul k t.1 q q) t.2) = u := congrArg Prod.fst e
  have e2 : add k (mul k t.1 p q) (mul k t.1 q p) = v := congrArg Prod.snd e
  have hh : add k (rat k (1 / 2)) (rat k (1 / 2)) = rat k 1 := half_add
  refine ⟨p, fun e0 => hv (by rw [← e2, e0, L.mz, L.zm, L.az]), ?_⟩
  have key : mul k t.1 p p = mul k t.1 (rat k (1 / 2)) (add k u (norm k t (p, q))) := by
    rw [← e1]
    show _ = mul k t.1 (rat k (1 / 2)) (add k _ (add k (mul k t.1 p p) (neg k (mul k t.1 (mul k t.1 q q) t.2))))
    generalize rat k (1 / 2) = c at hh ⊢
    have e4 : mul k t.1 c (add k (add k (mul k t.1 p p) (mul k t.1 (mul k t.1 q q) t.2)) (add k (mul k t.1 p p) (neg k (mul k t.1 (mul k t.1 q q) t.2)))) = mul k t.1 (add k c c) (mul k t.1 p p) := (Laws.req L [c, p, q, t.2] (.mul (.v 0) (.add (.add (.mul (.v 1) (.v 1)) (.mul (.mul (.v 2) (.v 2)) (.v 3))) (.add (.mul (.v 1) (.v 1)) (.neg (.mul (.mul (.v 2) (.v 2)) (.v 3)))))) (.mul (.add (.v 0) (.v 0)) (.mul (.v 1) (.v 1))) (by decide +kernel))
    rw [e4, hh, L.om]
  have e3 : mul k t.1 m m = mul k t.1 (norm k t (p, q)) (norm k t (p, q)) := by
    rw [hm, ← e]
    exact norm_mul k t (pr p q) (pr p q)
  rcases sq_uniq h e3 with e5 | e5
  · left; rw [e5]; exact key
  · right; rw [e5, L.nn]; exact key
end
theorem inv_uniq {k : Nat} {t : Tw k} {a b b' : El k} (h : mul k t b a = rat k 1) (h' : mul k t b' a = rat k 1) : b = b' := by
  have L := ring k t
  have e : mul k t b (mul k t b' a) = mul k t b' (mul k t b a) := (Laws.req L [a, b, b'] (.mul (.v 1) (.mul (.v 2) (.v 0))) (.mul (.v 2) (.mul (.v 1) (.v 0))) (by decide +kernel))
  rw [h, h', L.mo, L.mo] at e
  exact e
theorem half_inv {k : Nat} {t : Tw k} {w i : El k} (h : mul k t i w = rat k 1) : mul k t (mul k t (rat k (1 / 2)) i) (add k w w) = rat k 1 := by
  have L := ring k t
  have hh : add k (rat k (1 / 2)) (rat k (1 / 2)) = rat k 1 := half_add
  generalize rat k (1 / 2) = c at hh ⊢
  have e : mul k t (mul k t c i) (add k w w) = mul k t (add k c c) (mul k t i w) := (Laws.req L [c, i, w] (.mul (.mul (.v 0) (.v 1)) (.add (.v 2) (.v 2))) (.mul (.add (.v 0) (.v 0)) (.mul (.v 1) (.v 2))) (by decide +kernel))
  rw [e, h, L.mo, hh]
theorem sq_w0 {k : Nat} {t : Tw (k + 1)} (h : red (k + 1) t) {u v m w : El k} (hv : v ≠ zero k) (hm : mul k t.1 m m = norm k t (u, v)) (hw : mul k t.1 w w = mul k t.1 (rat k (1 / 2)) (add k u m)) : w ≠ zero k := by
  intro e
  have L := ring k t.1
  have hh : add k (rat k (1 / 2)) (rat k (1 / 2)) = rat k 1 := half_add
  generalize rat k (1 / 2) = c at hh hw
  rw [e, L.mz] at hw
  have e1 : add k u m = add k (mul k t.1 c (add k u m)) (mul k t.1 c (add k u m)) := by rw [← L.dm, hh, L.om]
  rw [← hw, L.az] at e1
  have hm' : mul k t.1 m m = add k (mul k t.1 u u) (neg k (mul k t.1 (mul k t.1 v v) t.2)) := hm
  have e2 : mul k t.1 (mul k t.1 v v) t.2 = add k (mul k t.1 u u) (neg k (mul k t.1 m m)) := by
    rw [hm']; exact (Laws.req L [u, v, t.2] (.mul (.mul (.v 1) (.v 1)) (.v 2)) (.add (.mul (.v 0) (.v 0)) (.neg (.add (.mul (.v 0) (.v 0)) (.neg (.mul (.mul (.v 1) (.v 1)) (.v 2)))))) (by decide +kernel))
  have e3 : add k (mul k t.1 u u) (neg k (mul k t.1 m m)) = mul k t.1 (add k u (neg k m)) (add k u m) := (Laws.req L [u, m] (.add (.mul (.v 0) (.v 0)) (.neg (.mul (.v 1) (.v 1)))) (.mul (.add (.v 0) (.neg (.v 1))) (.add (.v 0) (.v 1))) (by decide +kernel))
  rw [e3, e1, L.mz] at e2
  have S := sgn_ok (red_real h.1)
  rcases red_mul0 h.1 e2 with e4 | e4
  · rcases red_mul0 h.1 e4 with e5 | e5 <;> exact hv e5
  · have := h.2.1
    rw [e4, S.s0 L] at this
    cases this
end
end Go.Tow

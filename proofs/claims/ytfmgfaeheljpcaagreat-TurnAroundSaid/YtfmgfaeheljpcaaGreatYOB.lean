/- numbers and vectors: the reference's tests, recipes' points, arithmetic of vectors. -/
import Derived.Test.YtfmgfaeheljpcaaGreatYOA
import Derived.Test.YtfmgfaeheljpcaaGreatYOP
import Derived.Test.YtfmgfaeheljpcaaGreatYLK
set_option linter.unusedVariables false
set_option linter.unusedSimpArgs false
set_option maxRecDepth 10000
namespace Go.Proofs.YtfmgfaeheljpcaaGreat
open Go Go.Vm Go.Num Go.Tow
section
/-- a vector -/
structure Vn where
  x : Nm
  y : Nm
abbrev dV (v : Vn) : D := .st (.pr (dN v.x) (dN v.y))
abbrev dVs (l : List Vn) : D := .sl 4 (l.map dV)
abbrev n00 : Nm := ⟨0, (), ((0 : Int) : Rat)⟩
/-- a vector with the value p -/
structure Gv {K : Nat} (G : Tw K) (S : List (Tow.El K)) (N : List Nm) (n : Nat) (v : Vn) (p : V2 K) : Prop where
  x : Gd G S N n v.x p.1
  y : Gd G S N n v.y p.2
/-- a world all whose short numbers have values -/
structure Ww {K : Nat} (G : Tw K) (S : List (Tow.El K)) (N : List Nm) : Prop where
  w : Wn G S N
  n : ∀ z ∈ N, ∃ v, NOk G S 300 600 z v
  t : ∀ z ∈ N, Tm z
/-- an unknown bool comes back -/
def IsB (r : AV) : Prop := ∃ c : Bool, r = .b c
section
variable {K : Nat} {G : Tw K} {S : List (Tow.El K)} {N : List Nm} {n m : Nat} {x y z : Nm} {a b v w : Tow.El K} {u s : Vn} {p q : V2 K}
theorem Ww.gd (W : Ww G S N) (h : z ∈ N) : ∃ v, Gd G S N 1 z v := let ⟨v, hv⟩ := W.n z h; ⟨v, .short W.w hv h⟩
/-- a vector comes back -/
def VeG (G : Tw K) (S : List (Tow.El K)) (N : List Nm) (n : Nat) (p : V2 K) (r : AV) : Prop := ∃ v : Vn, r = .d (dV v) ∧ Gv G S N n v p
/-- a vector comes back, and no error -/
def VoG (G : Tw K) (S : List (Tow.El K)) (N : List Nm) (n : Nat) (p : V2 K) (r : AV) : Prop := ∃ v : Vn, r = .tup (.pr (.d (dV v)) (.d (.int .i64 0))) ∧ Gv G S N n v p
theorem R9.Cmp_g (W : Wn G S N) (hx : Gd G S N n x v) (hy : Gd G S N m y w) (hn : n ≤ 190) (hm : m ≤ 190) : C0 44 [.d (dN x), .d (dN y)] (· = .tup (.pr (.d (.int .i64 (sgn K G (Tow.add K v (Tow.neg K w))))) (.d (.int .i64 0)))) := by
  refine En Tryz.func44 fun _ _ => ?_
  refine Ca rfl (R9.Sub_g W hx hy hn hm) fun v hv => ?_
  obtain ⟨z, rfl, hz⟩ := hv
  refine No rfl (by simp) ?_
  refine Ce rfl (R9.Sign_g W hz (by omega)) ?_
  exact RTt rfl (.cons (.rf rfl) fitI)
theorem R9.Equal_g (W : Wn G S N) (hx : Gd G S N n x v) (hy : Gd G S N m y w) (hn : n ≤ 190) (hm : m ≤ 190) : C0 14 [.d (dN x), .d (dN y)] (· = .b (dc (v = w))) := by
  refine En Tryz.func14 fun _ _ => ?_
  refine Ce rfl (R9.Cmp_g W hx hy hn hm) ?_
  refine Yes rfl (by simp) ?_
  have e : sgn K G (Tow.add K v (Tow.neg K w)) = 0 ↔ v = w := by
    rw [red_zero W.w.g]
    exact ⟨fun h => (ring K G).sub0 h, fun h => (ring K G).sb h⟩
  exact R1 rfl (.bp (dc_iff.trans e))
theorem R9.Valid_g (W : Wn G S N) (hx : Gd G S N n x v) (hn : n ≤ 800) : C0 151 [.d (dN x)] (· = .b true) := by
  have hk := hx.le W
  obtain ⟨ρ, h1, h2⟩ := hx.o.ex
  have hT := W.w.t h1
  have q2 := Nat.le_trans (qB_le (r := wR) (p := wR) hk) wQ.2.1
  refine En Tryz.func151 fun _ _ => ?_
  refine Yes rfl (by rw [lt', toT_length]; omega) ?_
  refine Ce rfl (R6.Formed_ok (TS.pt hT) (by decide) hx.o.p.ps (by unfold gB; omega) (by rw [toT_length]; omega) (by rw [toL_length, toT_length])) ?_
  refine Yes rfl rfl ?_
  refine Ce rfl (R8.Reduced_ok hT h1.r (by omega) q2 (vB_wR W hx)) ?_
  exact R0
theorem R9.Light_ok {x : Nm} (hk : x.k ≤ 16) : C0 223 [.d (dN x)] IsB := by
  obtain ⟨k, t, a⟩ := x
  have hk : k ≤ 16 := hk
  have hp := p16 hk
  have hcl := toL_length k a
  have hTl := toT_length k t
  refine En Tryz.func223 fun _ _ => ?_
  refine Lo (fun i : Nat => [(1, .ptr 1 0), (3, .d (.int .i64 i))]) (fun _ => [(1, .var (.d (dN ⟨k, t, a⟩)))]) (fun i => i ≤ 2 ^ k) (fun i => 2 ^ k - i) 0 [] rfl (Nat.zero_le _) fun i hi => ?_
  refine By rfl (fun h => ?_) fun h => ?_
  · have h : (i : Int) < (((toL k a).map dq).length : Nat) := h
    rw [lq, hcl] at h
    obtain ⟨x, hx⟩ := qat (l := toL k a) (k := i) (by omega)
    refine Ix i rfl (mp hx) ?_
    refine By rfl (fun h1 => ?_) fun h1 => ?_
    · exact Rt rfl (.one (.rf rfl) rfl rfl) ⟨_, rfl⟩
    · refine Ix i rfl (mp hx) ?_
      refine By rfl (fun h2 => ?_) fun h2 => ?_
      · exact Rt rfl (.one (.rf rfl) rfl rfl) ⟨_, rfl⟩
      · refine Ar (i + 1 : Nat) rfl ?_
        exact Bk (i + 1) [] rfl (show i + 1 ≤ 2 ^ k by omega) (by show 2 ^ k - (i + 1) < 2 ^ k - i; omega)
  refine Lo (fun i : Nat => [(1, .ptr 1 0), (4, .d (.int .i64 i))]) (fun _ => [(1, .var (.d (dN ⟨k, t, a⟩)))]) (fun i => i ≤ k) (fun i => k - i) 0 [] rfl (Nat.zero_le _) fun i hi => ?_
  refine By rfl (fun h => ?_) fun h => ?_
  · have h : (i : Int) < (((toT k t).map dqs).length : Nat) := h
    rw [lt', hTl] at h
    obtain ⟨l, hl⟩ : ∃ l, (toT k t)[i]? = some l := ⟨_, List.getElem?_eq_getElem (by omega)⟩
    obtain ⟨e, e1, _, _⟩ := Tw.at (t := t) (show i < k by omega)
    obtain rfl : l = toL i e := by rw [hl] at e1; injection e1
    have hll := toL_length i e
    have hpi := p16 (show i ≤ 16 by omega)
    refine Lo (fun j : Nat => [(1, .ptr 1 0), (4, .d (.int .i64 i)), (5, .d (.int .i64 j))]) (fun _ => [(1, .var (.d (dN ⟨k, t, a⟩)))]) (fun j => j ≤ 2 ^ i) (fun j => 2 ^ i - j) 0 [] rfl (Nat.zero_le _) fun j hj => ?_
    refine Ix i rfl (mp hl) ?_
    refine By rfl (fun h1 => ?_) fun h1 => ?_
    · have h1 : (j : Int) < (((toL i e).map dq).length : Nat) := h1
      rw [lq, hll] at h1
      obtain ⟨x, hx⟩ := qat (l := toL i e) (k := j) (by omega)
      refine Ix i rfl (mp hl) ?_
      refine Ix j rfl (mp hx) ?_
      refine By rfl (fun h1 => ?_) fun h1 => ?_
      · exact Rt rfl (.one (.rf rfl) rfl rfl) ⟨_, rfl⟩
      · refine Ix i rfl (mp hl) ?_
        refine Ix j rfl (mp hx) ?_
        refine By rfl (fun h2 => ?_) fun h2 => ?_
        · exact Rt rfl (.one (.rf rfl) rfl rfl) ⟨_, rfl⟩
        · refine Ar (j + 1 : Nat) rfl ?_
          exact Bk (j + 1) [] rfl (show j + 1 ≤ 2 ^ i by omega) (by show 2 ^ i - (j + 1) < 2 ^ i - j; omega)
    · refine Ar (i + 1 : Nat) rfl ?_
      exact Bk (i + 1) [] rfl (show i + 1 ≤ k by omega) (by show k - (i + 1) < k - i; omega)
  · exact Rt rfl (.one (.rf rfl) rfl rfl) ⟨_, rfl⟩
theorem R9.All_ok {l : List Nm} (hl : ∀ z ∈ l, z.k ≤ 16) (hn : l.length ≤ 1000) : C0 153 [.d (dNs l)] IsB := by
  refine En Tryz.func153 fun _ _ => ?_
  refine Lo (fun i : Nat => [(0, .d (dNs l)), (3, .d (.int .i64 i))]) (fun _ => []) (fun i => i ≤ l.length) (fun i => l.length - i) 0 [] rfl (Nat.zero_le _) fun i hi => ?_
  refine By rfl (fun h => ?_) fun h => ?_ <;> simp only [List.length_map] at h
  · obtain ⟨z, hz⟩ : ∃ z, l[i]? = some z := ⟨_, List.getElem?_eq_getElem (by omega)⟩
    refine Ix i rfl (mp hz) ?_
    refine Ca rfl (R9.Light_ok (hl z (List.mem_of_getElem? hz))) fun v hv => ?_
    obtain ⟨c, rfl⟩ := hv
    refine By rfl (fun h2 => ?_) fun h2 => ?_
    · exact Rt rfl (.one (.rf rfl) rfl rfl) ⟨_, rfl⟩
    · refine Ar (i + 1 : Nat) rfl ?_
      exact Bk (i + 1) [] rfl (show i + 1 ≤ l.length by omega) (by show l.length - (i + 1) < l.length - i; omega)
  · exact Rt rfl (.one (.rf rfl) rfl rfl) ⟨_, rfl⟩
theorem R9.At_ok {l : List Nm} {i : Nat} (hi : i < 256) (hn : l.length ≤ 1000) : C0 154 [.d (dNs l), .d (.int .i64 i)] fun v => ∃ z ∈ n00 :: l, v = .d (dN z) := by
  refine En Tryz.func154 fun _ _ => ?_
  refine By rfl (fun h => ?_) fun h => ?_ <;> simp only [List.length_map] at h
  · refine Ce rfl (R9.FromInt_ok (z := 0) (by decide)) ?_
    exact Rt rfl (.one (.rf rfl) rfl rfl) ⟨_, List.mem_cons_self .., rfl⟩
  · refine No rfl (by omega) ?_
    obtain ⟨z, hz⟩ : ∃ z, l[i % l.length]? = some z := ⟨_, List.getElem?_eq_getElem (Nat.mod_lt _ (by omega))⟩
    refine Ar (i % l.length : Nat) rfl ?_ (by rw [List.length_map]; exact R9.remN (by omega))
    refine Ix (i % l.length) rfl (mp hz) ?_
    exact Rt rfl (.one (.rf rfl) rfl rfl) ⟨z, List.mem_cons_of_mem _ (List.mem_of_getElem? hz), rfl⟩
end
end
section
section
variable {K : Nat} {G : Tw K} {S : List (Tow.El K)} {N : List Nm} {n m : Nat} {x y z : Nm} {a b : Tow.El K} {u s : Vn} {p q : V2 K}
theorem R13.Left_g (W : Wn G S N) (hu : Gv G S N n u p) (hn : n ≤ 190) : C0 51 [.d (dV u)] (VeG G S N n (neg K p.2, p.1)) := by
  refine En Tryz.func51 fun _ _ => ?_
  refine Dw rfl ?_
  refine Ca rfl (R9.Neg_g W hu.y hn) fun v hv => ?_
  obtain ⟨z, rfl, hz⟩ := hv
  exact Rt rfl (.one (.rf rfl) rfl rfl) ⟨⟨z, u.x⟩, rfl, hz, hu.x⟩
theorem R13.Dot_g (W : Wn G S N) (hu : Gv G S N n u p) (hs : Gv G S N m s q) (hn : n ≤ 190) (hm : m ≤ 190) (h2 : n + m ≤ 190) : C0 16 [.d (dV u), .d (dV s)] (OpG G S N (n + m + (n + m)) (vdot G p q)) := by
  refine En Tryz.func16 fun _ _ => ?_
  refine Ca rfl (R9.Mul_g W hu.x hs.x hn hm) fun v hv => ?_
  obtain ⟨z, rfl, hz⟩ := hv
  refine Ca rfl (R9.Mul_g W hu.y hs.y hn hm) fun v hv => ?_
  obtain ⟨w, rfl, hw⟩ := hv
  refine No rfl (by simp) ?_
  refine No rfl (by simp) ?_
  refine Ca rfl (R9.Add_g W hz hw h2 h2) fun v hv => ?_
  obtain ⟨r, rfl, hr⟩ := hv
  exact Rt rfl (.tup (.cons (.rf rfl) fitI)) ⟨r, rfl, hr⟩
theorem R13.Cross_g (W : Wn G S N) (hu : Gv G S N n u p) (hs : Gv G S N m s q) (hn : n ≤ 190) (hm : m ≤ 190) (h2 : n + m ≤ 190) : C0 17 [.d (dV u), .d (dV s)] (OpG G S N (n + m + (n + m)) (vcross G p q)) := by
  refine En Tryz.func17 fun _ _ => ?_
  refine Dw rfl ?_
  refine Ca rfl (R13.Left_g W hu hn) fun v hv => ?_
  obtain ⟨r, rfl, hr⟩ := hv
  refine Ca rfl (R13.Dot_g W hr hs hn hm h2) fun v hv => ?_
  obtain ⟨z, rfl, hz⟩ := hv
  exact Rt rfl (.tup (.cons (.rf rfl) fitI)) ⟨z, rfl, hz⟩
theorem R13.Zero_g (W : Wn G S N) (hu : Gv G S N n u p) (hn : n ≤ 800) : C0 87 [.d (dV u)] (· = .b (dc (p = vz K))) := by
  refine En Tryz.func87 fun _ _ => ?_
  refine Ce rfl (R9.Sign_g W hu.x hn) ?_
  refine By rfl (fun h => ?_) fun h => ?_
  · refine Ce rfl (R9.Sign_g W hu.y hn) ?_
    exact R1 rfl (.bp (dc_iff.trans ⟨fun h2 => (vz_iff W.w.g).2 ⟨h, h2⟩, fun h2 => ((vz_iff W.w.g).1 h2).2⟩))
  · exact R1 rfl (.bp ⟨nofun, fun h2 => absurd ((vz_iff W.w.g).1 h2).1 h⟩)
theorem R13.Valid_g (W : Wn G S N) (hu : Gv G S N n u p) (hn : n ≤ 800) : C0 83 [.d (dV u)] (· = .b true) := by
  refine En Tryz.func83 fun _ _ => ?_
  refine Ce rfl (R9.Valid_g W hu.x hn) ?_
  refine Yes rfl rfl ?_
  refine Ce rfl (R9.Valid_g W hu.y hn) ?_
  exact R0
theorem R13.Make_ok {i j : Rat} : C0 158 [.d (dq i), .d (dq j)] (· = .d (dV ⟨⟨0, (), i⟩, ⟨0, (), j⟩⟩)) := by
  refine En Tryz.func158 fun _ _ => ?_
  refine Dw rfl ?_
  refine Ce rfl R9.FromRat_ok ?_
  refine Ce rfl R9.FromRat_ok ?_
  exact R0
theorem R13.Whole_ok {i j : Int} (hi : -9223372036854775808 ≤ i ∧ i < 9223372036854775808) (hj : -9223372036854775808 ≤ j ∧ j < 9223372036854775808) : C0 92 [.d (.int .i64 i), .d (.int .i64 j)] (· = .d (dV ⟨⟨0, (), (i : Rat)⟩, ⟨0, (), (j : Rat)⟩⟩)) := by
  refine En Tryz.func92 fun _ _ => ?_
  refine Ce rfl (R2.FromInt_ok hi) ?_
  refine Ce rfl (R2.FromInt_ok hj) ?_
  refine Ce rfl R13.Make_ok ?_
  exact R0
/-- the calculation without an error -/
abbrev cal : Ob := .var (.d (.st (.int .i64 0)))
theorem R15.note_ok : CN0 224 [.ptr 1000001 0, .d (.int .i64 0)] [(1000001, cal)] (fun _ => True) := by
  refine EnW Tryz.func224 fun _ _ _ => ?_
  refine Yes rfl (by decide) ?_
  exact Rw [] [(1000001, cal)] rfl (.tup (.one (.rf rfl) (fun _ _ e => by cases e) (fun _ _ e => by cases e))) ⟨rfl, trivial⟩
theorem R15.num_ok {x : Nm} : CN0 155 [.ptr 1000001 0, .d (dN x), .d (.int .i64 0)] [(1000001, cal)] (· = .d (dN x)) := by
  refine EnW Tryz.func155 fun _ _ _ => ?_
  refine Cn [] rfl R15.note_ok fun v hv => ?_
  refine No rfl (by decide) ?_
  exact Rw [] [(1000001, cal)] rfl (.one (.rf rfl) rfl rfl) ⟨rfl, rfl⟩
theorem R15.Add_g (W : Wn G S N) (hx : Gd G S N n x a) (hy : Gd G S N m y b) (hn : n ≤ 190) (hm : m ≤ 190) : CN0 215 [.ptr 1000001 0, .d (dN x), .d (dN y)] [(1000001, cal)] (OnG G S N (n + m) (Tow.add K a b)) := by
  refine EnW Tryz.func215 fun _ _ _ => ?_
  refine Ca rfl (R9.Add_g W hx hy hn hm) fun v hv => ?_
  obtain ⟨z, rfl, hz⟩ := hv
  refine Cn [] rfl R15.num_ok fun v hv => ?_
  subst hv
  exact Rw [] [(1000001, cal)] rfl (.one (.rf rfl) rfl rfl) ⟨rfl, z, rfl, hz⟩
theorem R15.Sub_g (W : Wn G S N) (hx : Gd G S N n x a) (hy : Gd G S N m y b) (hn : n ≤ 190) (hm : m ≤ 190) : CN0 213 [.ptr 1000001 0, .d (dN x), .d (dN y)] [(1000001, cal)] (OnG G S N (n + m) (Tow.add K a (Tow.neg K b))) := by
  refine EnW Tryz.func213 fun _ _ _ => ?_
  refine Ca rfl (R9.Sub_g W hx hy hn hm) fun v hv => ?_
  obtain ⟨z, rfl, hz⟩ := hv
  refine Cn [] rfl R15.num_ok fun v hv => ?_
  subst hv
  exact Rw [] [(1000001, cal)] rfl (.one (.rf rfl) rfl rfl) ⟨rfl, z, rfl, hz⟩
theorem R15.Mul_g (W : Wn G S N) (hx : Gd G S N n x a) (hy : Gd G S N m y b) (hn : n ≤ 190) (hm : m ≤ 190) : CN0 214 [.ptr 1000001 0, .d (dN x), .d (dN y)] [(1000001, cal)] (OnG G S N (n + m) (Tow.mul K G a b)) := by
  refine EnW Tryz.func214 fun _ _ _ => ?_
  refine Ca rfl (R9.Mul_g W hx hy hn hm) fun v hv => ?_
  obtain ⟨z, rfl, hz⟩ := hv
  refine Cn [] rfl R15.num_ok fun v hv => ?_
  subst hv
  exact Rw [] [(1000001, cal)] rfl (.one (.rf rfl) rfl rfl) ⟨rfl, z, rfl, hz⟩
theorem R15.Cross_g (W : Wn G S N) (hu : Gv G S N n u p) (hs : Gv G S N m s q) (hn : n ≤ 190) (hm : m ≤ 190) (h2 : n + m ≤ 190) : CN0 89 [.ptr 1000001 0, .d (dV u), .d (dV s)] [(1000001, cal)] (OnG G S N (n + m + (n + m)) (vcross G p q)) := by
  refine EnW Tryz.func89 fun _ _ _ => ?_
  refine Ca rfl (R13.Cross_g W hu hs hn hm h2) fun v hv => ?_
  obtain ⟨z, rfl, hz⟩ := hv
  refine Cn [] rfl R15.num_ok fun v hv => ?_
  subst hv
  exact Rw [] [(1000001, cal)] rfl (.one (.rf rfl) rfl rfl) ⟨rfl, z, rfl, hz⟩
end
end
section
/-- a turn as it lies -/
abbrev dT (v : Vn) (f : Int) : D := .st (.pr (dV v) (.int .i64 f))
/-- the zero turn -/
abbrev dT0 : D := .st (.pr (.st (.pr R9.n0 R9.n0)) (.int .i64 0))
theorem fitT0 {g : Hp} {K : Hpl} : Fit g K (.st (.pr (.st (.pr (.st (.pr .nil .nil)) (.st (.pr .nil .nil)))) (.d (.int .i64 0)))) (.d dT0) := .sd (.pd (.sd (.pd R9.fit0 R9.fit0)) (.rf rfl))
/-- as many full turns as are allowed -/
def lim (f : Int) : Prop := -1000000 ≤ f ∧ f ≤ 1000000
instance {f : Int} : Decidable (lim f) := by unfold lim; infer_instance
/-- few full turns -/
def few (f : Int) : Prop := -1000000000 ≤ f ∧ f ≤ 1000000000
/-- order of turns -/
def tcmp {K : Nat} (G : Tw K) (p q : V2 K) (f g : Int) : Int := if f < g then -1 else if f > g then 1 else vcmp G p q
section
variable {K : Nat} {G : Tw K} {S : List (Tow.El K)} {N : List Nm} {n m : Nat} {x y z : Nm} {a b : Tow.El K} {u s : Vn} {p q : V2 K} {f g : Int}
/-- a turn comes back, or ErrTooLarge -/
def TuG (G : Tw K) (S : List (Tow.El K)) (N : List Nm) (n : Nat) (p : V2 K) (f : Int) (r : AV) : Prop := (lim f ∧ ∃ v, r = .tup (.pr (.d (dT v f)) (.d (.int .i64 0))) ∧ Gv G S N n v p) ∨ (¬ lim f ∧ r = .tup (.pr (.d dT0) (.d (.int .i64 3))))
theorem R19.Valid_g (W : Wn G S N) (hu : Gv G S N n u p) (hn : n ≤ 800) : C0 34 [.d (dT u f)] (· = .b (dc (p ≠ vz K ∧ lim f))) := by
  refine En Tryz.func34 fun _ _ => ?_
  refine Ce rfl (R13.Zero_g W hu hn) ?_
  refine By rfl (fun h => ?_) fun h => ?_
  · have h : p ≠ vz K := by simpa [dc_not, dc_iff] using h
    refine By rfl (fun h2 => ?_) fun h2 => ?_
    · exact R1 rfl (.bp (dc_iff.trans ⟨fun h3 => ⟨h, h2, h3⟩, fun h3 => h3.2.2⟩))
    · exact R1 rfl (.bp ⟨nofun, fun h3 => absurd h3.2.1 h2⟩)
  · have h : p = vz K := by simpa [dc_not, dc_iff] using h
    exact R1 rfl (.bp ⟨nofun, fun h3 => absurd h h3.1⟩)
theorem R19.half_g (W : Wn G S N) (hu : Gv G S N n u p) (hn : n ≤ 800) : C0 157 [.d (dV u)] (· = .d (.int .i64 (if vup G p then 0 else 1))) := by
  refine En Tryz.func157 fun _ _ => ?_
  refine Ce rfl (R9.Sign_g W hu.y hn) ?_
  refine By rfl (fun h => ?_) fun h => ?_
  · rw [if_pos (show vup G p from .inl h)]; exact R0
  · refine By rfl (fun h2 => ?_) fun h2 => ?_
    · refine Ce rfl (R9.Sign_g W hu.x hn) ?_
      refine By rfl (fun h3 => ?_) fun h3 => ?_
      · rw [if_pos (show vup G p from .inr ⟨h2, h3⟩)]; exact R0
      · rw [if_neg (show ¬ vup G p from fun e => e.elim h fun e => h3 e.2)]; exact R0
    · rw [if_neg (show ¬ vup G p from fun e => e.elim h fun e => h2 e.1)]; exact R0
theorem R19.order_g (W : Wn G S N) (hu : Gv G S N n u p) (hs : Gv G S N m s q) (hn : n ≤ 190) (hm : m ≤ 190) (h2 : n + m ≤ 190) : CN0 91 [.ptr 1000001 0, .d (dV u), .d (dV s)] [(1000001, cal)] (· = .d (.int .i64 (vcmp G p q))) := by
  refine EnW Tryz.func91 fun _ _ _ => ?_
  refine Dw rfl ?_
  refine Ce rfl (R19.half_g W hu (by omega)) ?_
  refine Ce rfl (R19.half_g W hs (by omega)) ?_
  refine By rfl (fun h => ?_) fun h => ?_
  · refine Dw rfl ?_
    refine Ce rfl (R19.half_g W hu (by omega)) ?_
    refine Ce rfl (R19.half_g W hs (by omega)) ?_
    refine Ar (vcmp G p q) rfl ?_ (by
      unfold vcmp
      by_cases h1 : vup G p <;> by_cases h2 : vup G q <;> simp [h1, h2] at h ⊢ <;> rfl)
    exact Rw [] [(1000001, cal)] rfl (.one (.rf rfl) rfl rfl) ⟨rfl, rfl⟩
  · refine Cn [] rfl (R15.Cross_g W hu hs hn hm h2) fun v hv => ?_
    obtain ⟨z, rfl, hz⟩ := hv
    refine Ce rfl (R9.Sign_g W hz (by omega)) ?_
    have hi : vup G p ↔ vup G q := by
      by_cases h1 : vup G p <;> by_cases h2 : vup G q <;> simp [h1, h2] at h ⊢
    have ht := sgn_tri G (vcross G p q)
    refine Ne (vcmp G p q) rfl ?_ (by
      unfold vcmp
      rw [if_pos hi]
      exact wr (Int.zero_sub _) (by simp only [inK]; omega))
    exact Rw [] [(1000001, cal)] rfl (.one (.rf rfl) rfl rfl) ⟨rfl, rfl⟩
theorem R19.product_g (W : Wn G S N) (hu : Gv G S N n u p) (hs : Gv G S N m s q) (h2 : n + m ≤ 190) : CN0 150 [.ptr 1000001 0, .d (dV u), .d (dV s)] [(1000001, cal)] (VeG G S N (n + m + (n + m)) (vmul G p q)) := by
  refine EnW Tryz.func150 fun _ _ _ => ?_
  refine Dw rfl ?_
  refine Cn [] rfl (R15.Mul_g W hu.x hs.x (by omega) (by omega)) fun v hv => ?_
  obtain ⟨z1, rfl, h1⟩ := hv
  refine Cn [] rfl (R15.Mul_g W hu.y hs.y (by omega) (by omega)) fun v hv => ?_
  obtain ⟨z2, rfl, h2'⟩ := hv
  refine Cn [] rfl (R15.Sub_g W h1 h2' h2 h2) fun v hv => ?_
  obtain ⟨z3, rfl, h3⟩ := hv
  refine Cn [] rfl (R15.Mul_g W hu.x hs.y (by omega) (by omega)) fun v hv => ?_
  obtain ⟨z4, rfl, h4⟩ := hv
  refine Cn [] rfl (R15.Mul_g W hu.y hs.x (by omega) (by omega)) fun v hv => ?_
  obtain ⟨z5, rfl, h5⟩ := hv
  refine Cn [] rfl (R15.Add_g W h4 h5 h2 h2) fun v hv => ?_
  obtain ⟨z6, rfl, h6⟩ := hv
  exact Rw [] [(1000001, cal)] rfl (.one (.rf rfl) rfl rfl) ⟨rfl, ⟨z3, z6⟩, rfl, h3, h6⟩
theorem R19.sum_g (W : Wn G S N) (hu : Gv G S N n u p) (hs : Gv G S N m s q) (h2 : n + m + (n + m) + n ≤ 190) (hf : few f) (hg : few g) : CN0 82 [.ptr 1000001 0, .d (dT u f), .d (dT s g)] [(1000001, cal)] (fun r => ∃ v, r = .d (dT v (vadd G p q f g)) ∧ Gv G S N (n + m + (n + m)) v (vmul G p q)) := by
  unfold few at hf hg
  refine EnW Tryz.func82 fun _ _ _ => ?_
  refine Cn [] rfl (R19.product_g W hu hs (by omega)) fun v hv => ?_
  obtain ⟨d, rfl, hd⟩ := hv
  refine Ar (f + g) rfl ?_ (wr rfl (by simp only [inK]; omega))
  refine Yes rfl (by decide) ?_
  refine Cn [] rfl (R19.order_g W hd hu (by omega) (by omega) h2) fun v hv => ?_
  subst hv
  refine By rfl (fun h => ?_) fun h => ?_
  · refine Ar (f + g + 1) rfl ?_ (wr rfl (by simp only [inK]; omega))
    exact Rw [] [(1000001, cal)] rfl (.one (.rf rfl) rfl rfl) ⟨rfl, d, by rw [vadd, if_pos h], hd⟩
  · exact Rw [] [(1000001, cal)] rfl (.one (.rf rfl) rfl rfl) ⟨rfl, d, by rw [vadd, if_neg h], hd⟩
theorem R19.result_g (hu : Gv G S N n u p) : CN0 81 [.ptr 1000001 0, .d (dT u f)] [(1000001, cal)] (TuG G S N n p f) := by
  refine EnW Tryz.func81 fun _ _ _ => ?_
  refine No rfl (by decide) ?_
  refine By rfl (fun h => ?_) fun h => ?_
  · exact Rw [] [(1000001, cal)] rfl (.tup (.cons fitT0 fitI)) ⟨rfl, .inr ⟨fun h2 => by unfold lim at h2; omega, rfl⟩⟩
  · refine By rfl (fun h2 => ?_) fun h2 => ?_
    · exact Rw [] [(1000001, cal)] rfl (.tup (.cons fitT0 fitI)) ⟨rfl, .inr ⟨fun h2 => by unfold lim at h2; omega, rfl⟩⟩
    · exact Rw [] [(1000001, cal)] rfl (.tup (.cons (.rf rfl) fitI)) ⟨rfl, .inl ⟨by unfold lim; omega, u, rfl, hu⟩⟩
theorem R19.Cmp_g (W : Wn G S N) (hu : Gv G S N n u p) (hs : Gv G S N m s q) (h2 : n + m ≤ 190) : C0 36 [.d (dT u f), .d (dT s g)] (· = .tup (.pr (.d (.int .i64 (tcmp G p q f g))) (.d (.int .i64 0)))) := by
  refine En Tryz.func36 fun _ _ => ?_
  unfold tcmp
  refine By rfl (fun h => ?_) fun h => ?_
  · rw [if_pos h]; exact RTt rfl (.cons (.rf rfl) fitI)
  rw [if_neg h]
  refine By rfl (fun h => ?_) fun h => ?_
  · rw [if_pos h]; exact RTt rfl (.cons (.rf rfl) fitI)
  rw [if_neg h]
  refine Cn [(1000001, 19)] rfl (R19.order_g W hu hs (by omega) (by omega) h2) fun v hv => ?_
  subst hv
  refine No rfl (by decide) ?_
  exact RTt rfl (.cons (.rf rfl) fitI)
/-- both turns are valid and the same -/
def tsame (G : Tw K) (p q : V2 K) (f g : Int) : Prop := (p ≠ vz K ∧ lim f) ∧ (q ≠ vz K ∧ lim g) ∧ tcmp G p q f g = 0
theorem R19.Same_g (W : Wn G S N) (hu : Gv G S N n u p) (hs : Gv G S N m s q) (h2 : n + m ≤ 190) : C0 28 [.d (dT u f), .d (dT s g)] (· = .b (dc (tsame G p q f g))) := by
  refine En Tryz.func28 fun _ _ => ?_
  refine Ce rfl (R13.Valid_g W hu (by omega)) ?_
  refine No rfl (by simp) ?_
  refine Ce rfl (R13.Valid_g W hs (by omega)) ?_
  refine No rfl (by simp) ?_
  refine Ce rfl (R19.Valid_g W hu (by omega)) ?_
  refine By rfl (fun h => ?_) fun h => ?_
  · have h : ¬ (p ≠ vz K ∧ lim f) := by simpa [dc_not, dc_iff] using h
    exact R1 rfl (.bp ⟨nofun, fun e => absurd e.1 h⟩)
  have h : p ≠ vz K ∧ lim f := by simpa [dc_not, dc_iff] using h
  refine Ce rfl (R19.Valid_g W hs (by omega)) ?_
  refine By rfl (fun h1 => ?_) fun h1 => ?_
  · have h1 : ¬ (q ≠ vz K ∧ lim g) := by simpa [dc_not, dc_iff] using h1
    exact R1 rfl (.bp ⟨nofun, fun e => absurd e.2.1 h1⟩)
  have h1 : q ≠ vz K ∧ lim g := by simpa [dc_not, dc_iff] using h1
  refine Ce rfl (R19.Cmp_g W hu hs h2) ?_
  refine By rfl (fun h3 => ?_) fun h3 => ?_
  · exact R1 rfl (.bp ⟨fun _ => ⟨h, h1, h3⟩, fun _ => dc_iff.2 rfl⟩)
  · exact R1 rfl (.bp ⟨nofun, fun e => absurd e.2.2 h3⟩)
end
end
end Go.Proofs.YtfmgfaeheljpcaaGreat

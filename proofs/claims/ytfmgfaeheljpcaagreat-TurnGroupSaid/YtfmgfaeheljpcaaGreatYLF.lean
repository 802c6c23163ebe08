/- numbers: the reference's Join of two numbers. -/
import Derived.Test.YtfmgfaeheljpcaaGreatYLE
set_option linter.unusedVariables false
set_option linter.unusedSimpArgs false
set_option maxRecDepth 10000
namespace Go.Proofs.YtfmgfaeheljpcaaGreat
open Go Go.Vm Go.Num Go.Tow
/-- a number bs it lies -/
abbrev dN (x : Nm) : D := .st (.pr (dt x.t) (de x.a))
abbrev dNs (l : List Nm) : D := .sl 2 (l.map dN)
end Go.Proofs.YtfmgfaeheljpcaaGreat
namespace Go.Proofs.YtfmgfaeheljpcaaGreat.R9
open Go Go.Vm Go.Num Go.Tow Go.Proofs.YtfmgfaeheljpcaaGreat
section
variable {K : Nat} {G : Tw K} {S : List (Tow.El K)} {r p : Nat} {x y : Nm} {vx vy : Tow.El K}
/-- a tower that holds the fields of two numbers -/
def CmP (G : Tw K) (S : List (Tow.El K)) (x y : Nm) (m : Nat) (T : Tw m) : Prop := ∃ ρ, TOk G S m T ρ ∧ ∀ z ∈ [x, y], ∀ ρz, TOk G S z.k z.t ρz → ∀ j, j < z.k → ∃ e : Tow.El m, ev G ρ m e = ρz j
theorem CmP.mk (hG : red K G) {ρx ρy : Nat → Tow.El K} (hx1 : TOk G S x.k x.t ρx) (hy1 : TOk G S y.k y.t ρy) {m : Nat} {T : Tw m} {ρ : Nat → Tow.El K} (h1 : TOk G S m T ρ) (h3 : ∀ j, j < x.k → ∃ e : Tow.El m, ev G ρ m e = ρx j) (h4 : ∀ j, j < y.k → ∃ e : Tow.El m, ev G ρ m e = ρy j) : CmP G S x y m T := ⟨_, h1, fun z hz ρz hρ j hj => by
  rcases List.mem_cons.1 hz with rfl | hz
  · obtain ⟨e, he⟩ := h3 j hj; exact ⟨e, by rw [he]; exact hx1.h.uniq hG hρ.h j hj⟩
  · obtain rfl := List.mem_singleton.1 hz
    obtain ⟨e, he⟩ := h4 j hj; exact ⟨e, by rw [he]; exact hy1.h.uniq hG hρ.h j hj⟩⟩
theorem beg_ag (hG : red K G) {k m : Nat} {t : Tw k} {T : Tw m} {ρ ρ' : Nat → Tow.El K} (h : Beg k t m T) (h1 : TOk G S k t ρ) (h2 : TOk G S m T ρ') : ∀ i, i < k → ρ' i = ρ i := (h.hom h2.h).uniq hG h1.h
theorem rts {k : Nat} {ρ : Nat → Tow.El K} (j : Nat) (hj : j < k) : ∃ e : Tow.El k, ev G ρ k e = ρ j := ⟨root _ j, ev_root hj⟩
theorem beg_rt (hG : red K G) {k m : Nat} {t : Tw k} {T : Tw m} {ρ ρ' : Nat → Tow.El K} (h : Beg k t m T) (h1 : TOk G S k t ρ) (h2 : TOk G S m T ρ') (j : Nat) (hj : j < k) : ∃ e : Tow.El m, ev G ρ' m e = ρ j := by
  obtain ⟨e, he⟩ := rts (G := G) (k := m) (ρ := ρ') j (Nat.lt_of_lt_of_le hj h.le)
  exact ⟨e, by rw [he]; exact beg_ag hG h h1 h2 j hj⟩
theorem CmP.ext (hG : red K G) {ρx ρy : Nat → Tow.El K} (hx1 : TOk G S x.k x.t ρx) (hy1 : TOk G S y.k y.t ρy) {m z : Nat} {T : Tw m} {rs : List (List Rat)} {ρ' : Nat → Tow.El K} (g1 : TOk G S m T ρ') (g2 : Beg x.k x.t m T) (g5 : RtV G m z y.k rs ρ' ρy) : CmP G S x y m T := .mk hG hx1 hy1 g1 (beg_rt hG g2 hx1 g1) fun j hj => by
  obtain ⟨n, s, s1, _, _, s4⟩ := g5 j hj
  obtain ⟨b, hb⟩ := Lf.ex s1 s
  exact ⟨b, by rw [hb.ev s1, s4]⟩
theorem both (hx : NOk G S r p x vx) (hy : NOk G S r p y vy) (i : Nat) (hi : i < 2) : ∃ (z : Nm) (v : Tow.El K) (ρz : Nat → Tow.El K), [x, y][i]? = some z ∧ [vx, vy][i]? = some v ∧ TOk G S z.k z.t ρz ∧ ev G ρz z.k z.a = v ∧ Sz p (toL z.k z.a) := by
  have : i = 0 ∨ i = 1 := by omega
  rcases this with rfl | rfl
  · obtain ⟨ρ, h1, h2⟩ := hx.ex; exact ⟨x, vx, ρ, rfl, rfl, h1, h2, hx.p⟩
  · obtain ⟨ρ, h1, h2⟩ := hy.ex; exact ⟨y, vy, ρ, rfl, rfl, h1, h2, hy.p⟩
/-- what joining two numbers comes back with -/
def JnR (G : Tw K) (S : List (Tow.El K)) (p : Nat) (vx vy : Tow.El K) (m : Nat) (T : Tw m) (a b : Tow.El m) : Prop := ∃ ρ, TOk G S m T ρ ∧ ev G ρ m a = vx ∧ ev G ρ m b = vy ∧ Sz (jW p) (toL m a) ∧ Sz (jW p) (toL m b)
/-- the elements that are joined already -/
def JnI (G : Tw K) (p m : Nat) (ρ : Nat → Tow.El K) (vx vy : Tow.El K) (s : Nat × List (Tow.El m)) : Prop := s.1 ≤ 2 ∧ s.2.length = s.1 ∧ ∀ i, i < s.1 → ∃ a v, s.2[i]? = some a ∧ [vx, vy][i]? = some v ∧ ev G ρ m a = v ∧ Sz (jW p) (toL m a)
theorem JnI.step {m : Nat} {ρ : Nat → Tow.El K} {j : Nat} {bs : List (Tow.El m)} {v : Tow.El K} (h : JnI G p m ρ vx vy (j, bs)) (hj : j < 2) (z2 : [vx, vy][j]? = some v) {b : Tow.El m} (h1 : ev G ρ m b = v) (h2 : Sz (jW p) (toL m b)) : JnI G p m ρ vx vy (j + 1, bs ++ [b]) := by
  obtain ⟨_, hjl, has⟩ := h
  have hjl : bs.length = j := hjl
  refine ⟨hj, by simp [hjl], fun i hi => ?_⟩
  by_cases e : i = j
  · subst e
    exact ⟨b, v, by rw [List.getElem?_append_right (by omega), hjl, Nat.sub_self]; rfl, z2, h1, h2⟩
  · obtain ⟨a, w, g1, g2⟩ := has i (by have : i < j + 1 := hi; show i < j; omega)
    exact ⟨a, w, by rw [List.getElem?_append_left (by omega), g1], g2⟩
theorem JnI.done {m : Nat} {T : Tw m} {ρ : Nat → Tow.El K} {bs : List (Tow.El m)} (hT : TOk G S m T ρ) (h : JnI G p m ρ vx vy (2, bs)) : ∃ a b, bs = [a, b] ∧ JnR G S p vx vy m T a b := by
  obtain ⟨_, hjl, has⟩ := h
  match bs, hjl with
  | [a, b], _ =>
    obtain ⟨a', v, a1, a2, a3, a4⟩ := has 0 (show 0 < 2 by decide)
    obtain ⟨b', w, b1, b2, b3, b4⟩ := has 1 (show 1 < 2 by decide)
    cases a1; cases a2; cases b1; cases b2
    exact ⟨a, b, rfl, ρ, hT, a3, b3, a4, b4⟩
/-- an element carried over -/
theorem img (W : Wy G S wR) {m l : Nat} {T : Tw m} {u : Tw l} {ρ ρz : Nat → Tow.El K} (hT : TOk G S m T ρ) (hu : TOk G S l u ρz) {rs : List (List Rat)} {σ : Nat → Tow.El m} (s1 : Rts m (zM wR 3) l rs σ) {a : Tow.El l} (ha : Sz p (toL l a)) : Sz (jW p) (toL m (ev T σ l a)) := (ev_sz (W.t hT) (fun i h => (s1 i h).elim fun _ h => h.elim fun _ h => h.2.2.2) ha).mono (jW_im (W.le hT) (W.le hu))
theorem jW_ge {p : Nat} : p ≤ jW p := by unfold jW; omega
theorem Join_ok (W : Wy G S wR) (hx : NOk G S r p x vx) (hy : NOk G S r p y vy) (hp : p ≤ 4000000000) : C0 183 [.d (dNs [x, y])] fun v => ∃ m T a b, v = .tup (.pr (.d (dNs [⟨m, T, a⟩, ⟨m, T, b⟩])) (.d (.int .i64 0))) ∧ JnR G S p vx vy m T a b := by
  have hG := W.g
  have hR := wR_eq
  have hJ : jW p = 8 * p + 73803682 := rfl
  obtain ⟨ρx, hx1, hx2⟩ := hx.ex
  obtain ⟨ρy, hy1, hy2⟩ := hy.ex
  have hx3 := W.le hx1
  have hy3 := W.le hy1
  have hxr := W.t hx1
  have hyr := W.t hy1
  refine En Tryz.func183 fun _ _ => ?_
  refine Nd 4 1 rfl ?_
  refine Lo (fun (s : Nat × (Σ m, Tw m)) => [(0, .d (dNs [x, y])), (4, .d (dt s.2.2)), (5, .d (.int .i64 s.1))]) (fun _ => []) (fun s => (s.1 = 0 ∧ s.2 = ⟨0, ()⟩) ∨ (s.1 = 1 ∧ s.2 = ⟨x.k, x.t⟩) ∨ (s.1 = 2 ∧ CmP G S x y s.2.1 s.2.2)) (fun s => 2 - s.1) (0, ⟨0, ()⟩) [] rfl (.inl ⟨rfl, rfl⟩) (fun (i, ⟨m, T⟩) hI => ?_)
  simp only at hI
  rcases hI with ⟨rfl, e⟩ | ⟨rfl, e⟩ | ⟨rfl, hP⟩
  · cases e
    refine Yes rfl (show (0 : Int) < 2 by decide) ?_
    refine Ix 0 rfl (u := dN x) rfl ?_
    refine By rfl (fun h => ?_) fun h => ?_
    · refine Ix 0 rfl (u := dN x) rfl ?_
      refine Ce rfl (begins_ok (U := []) (q := 1) (TS.pt hxr) (fun i r h => by simp at h) (by omega) (by rw [toT_length]; omega)) ?_
      refine Yes rfl (by simp) ?_
      refine Ix 0 rfl (u := dN x) rfl ?_
      refine Ar (0 + 1 : Nat) rfl ?_
      exact Bk (1, ⟨x.k, x.t⟩) [] rfl (.inr (.inl ⟨rfl, rfl⟩)) (show 1 < 2 by decide)
    · obtain ⟨kx, tx, ax⟩ := x
      have h : ¬ (((toT kx tx).map dqs).length : Int) > 0 := h
      obtain rfl : kx = 0 := by rw [lt', toT_length] at h; omega
      refine Ix 0 rfl (u := dN ⟨0, tx, ax⟩) rfl ?_
      refine Ce rfl (begins_ok (T := []) (U := []) (p := 1) (q := 1) (fun i r h => by simp at h) (fun i r h => by simp at h) (by omega) (by decide)) ?_
      refine No rfl (by simp) ?_
      refine Ar (0 + 1 : Nat) rfl ?_
      exact Bk (1, ⟨0, tx⟩) [] rfl (.inr (.inl ⟨rfl, rfl⟩)) (show 1 < 2 by decide)
  · cases e
    have last : ∀ h : (toT x.k x.t).take (toT y.k y.t).length = toT y.k y.t, CmP G S x y x.k x.t := fun h => .mk hG hx1 hy1 hx1 rts (beg_rt hG (show Beg y.k y.t x.k x.t from h) hy1 hx1)
    refine Yes rfl (show (1 : Int) < 2 by decide) ?_
    refine Ix 1 rfl (u := dN y) rfl ?_
    refine By rfl (fun h => ?_) fun h => ?_
    · refine Ix 1 rfl (u := dN y) rfl ?_
      refine Ce rfl (begins_ok (T := toT y.k y.t) (U := toT x.k x.t) (TS.pt hyr) (TS.pt hxr) (by omega) (by rw [toT_length]; omega)) ?_
      refine By rfl (fun h1 => ?_) fun h1 => ?_
      · have hb : Beg x.k x.t y.k y.t := h1
        refine Ix 1 rfl (u := dN y) rfl ?_
        refine Ar (1 + 1 : Nat) rfl ?_
        exact Bk (2, ⟨y.k, y.t⟩) [] rfl (.inr (.inr ⟨rfl, .mk hG hx1 hy1 hy1 (beg_rt hG hb hx1 hy1) rts⟩)) (show 0 < 1 by decide)
      · refine Ix 1 rfl (u := dN y) rfl ?_
        refine Ce rfl (begins_ok (T := toT x.k x.t) (U := toT y.k y.t) (TS.pt hxr) (TS.pt hyr) (by omega) (by rw [toT_length]; omega)) ?_
        refine By rfl (fun h2 => ?_) fun h2 => ?_
        · refine Ix 1 rfl (u := dN y) rfl ?_
          refine Ca rfl (extend_ok W hx1 hy1) fun v hv => ?_
          obtain ⟨m, T, rs, ρ', rfl, g1, g2, g3, g5, g6⟩ := hv
          refine No rfl (by simp) ?_
          refine Ar (1 + 1 : Nat) rfl ?_
          exact Bk (2, ⟨m, T⟩) [] rfl (.inr (.inr ⟨rfl, .ext hG hx1 hy1 g1 g2 g5⟩)) (show 0 < 1 by decide)
        · refine Ar (1 + 1 : Nat) rfl ?_
          exact Bk (2, ⟨x.k, x.t⟩) [] rfl (.inr (.inr ⟨rfl, last (by simpa [dc_not, dc_iff] using h2)⟩)) (show 0 < 1 by decide)
    · refine Ix 1 rfl (u := dN y) rfl ?_
      refine Ce rfl (begins_ok (T := toT x.k x.t) (U := toT y.k y.t) (TS.pt hxr) (TS.pt hyr) (by omega) (by rw [toT_length]; omega)) ?_
      refine By rfl (fun h2 => ?_) fun h2 => ?_
      · refine Ix 1 rfl (u := dN y) rfl ?_
        refine Ca rfl (extend_ok W hx1 hy1) fun v hv => ?_
        obtain ⟨m, T, rs, ρ', rfl, g1, g2, g3, g5, g6⟩ := hv
        refine No rfl (by simp) ?_
        refine Ar (1 + 1 : Nat) rfl ?_
        exact Bk (2, ⟨m, T⟩) [] rfl (.inr (.inr ⟨rfl, .ext hG hx1 hy1 g1 g2 g5⟩)) (show 0 < 1 by decide)
      · refine Ar (1 + 1 : Nat) rfl ?_
        exact Bk (2, ⟨x.k, x.t⟩) [] rfl (.inr (.inr ⟨rfl, last (by simpa [dc_not, dc_iff] using h2)⟩)) (show 0 < 1 by decide)
  · obtain ⟨ρ, hT, hcon⟩ := hP
    have hTr := W.t hT
    have hm3 := W.le hT
    refine No rfl (show ¬ (2 : Int) < 2 by decide) ?_
    refine Nl 9 9 2 rfl ?_
    refine Lo (fun (s : Nat × List (Tow.El m)) => [(0, .d (dNs [x, y])), (4, .d (dt T)), (9, .gr 9 2 (s.2.map fun a => dN ⟨m, T, a⟩)), (10, .d (.int .i64 s.1))]) (fun s => [(9, .tok (s.2.map fun a => dN ⟨m, T, a⟩).length 2)])
      (JnI G p m ρ vx vy) (fun s => 2 - s.1) (0, []) [] rfl ⟨Nat.zero_le _, rfl, fun i hi => absurd hi (Nat.not_lt_zero _)⟩ (fun (j, bs) hI => ?_)
    have hI' := hI
    obtain ⟨hj, hjl, has⟩ := hI
    simp only at hj hjl has
    refine By rfl (fun h => ?_) fun h => ?_
    · have h : (j : Int) < 2 := h
      obtain ⟨z, v, ρz, z1, z2, z3, z4, z6⟩ := both hx hy j (by omega)
      have z5 := W.t z3
      have hzu : ([x, y].map dN)[j]? = some (dN z) := by rw [List.getElem?_map, z1]; rfl
      have hzm := hcon z (List.mem_of_getElem? z1) ρz z3
      have hz3 := W.le z3
      have hpj : p ≤ jW p := jW_ge
      refine Ix j rfl hzu ?_
      refine Ce rfl (begins_ok (T := toT m T) (U := toT z.k z.t) (TS.pt hTr) (TS.pt z5) (by omega) (by rw [toT_length]; omega)) ?_
      refine By rfl (fun h1 => ?_) fun h1 => ?_
      · have hb : Beg z.k z.t m T := h1
        obtain ⟨b, hlb⟩ := Lf.ex hb.le z.a
        have hv1 : ev G ρ m b = v := by rw [hlb.ev hb.le, ev_congr (beg_ag hG hb z3 hT), z4]
        refine Ix j rfl hzu ?_
        refine Ce rfl (lift_el (T := T) hlb hb.le (by omega)) ?_
        refine ApG ((bs ++ [b]).map fun a => dN ⟨m, T, a⟩) rfl (by simp) (by simp; omega) ?_
        refine Ar (j + 1 : Nat) rfl ?_
        exact Bk (j + 1, bs ++ [b]) [(113, 9)] rfl (hI'.step (by omega) z2 hv1 ((hlb.sz z6).mono hpj)) (by show 2 - (j + 1) < 2 - j; omega)
      · refine Ix j rfl hzu ?_
        refine Ca rfl (extend_ok W hT z3) fun v' hv => ?_
        obtain ⟨m', T', rs, ρ', rfl, g1, g2, g3, g5, g6⟩ := hv
        obtain rfl : m' = m := by have := congrArg List.length (g6 hzm); rwa [toT_length, toT_length] at this
        have g5 : RtV G m' (zM wR 3) z.k rs ρ ρz := g5.mono (Nat.le_refl _) (Nat.le_refl _) (fun i hi => (g3 i hi).symm)
        obtain ⟨σ, s1, s2⟩ := g5.sig
        have hbd := jW_im (p := p) hm3 hz3
        refine Ix j rfl hzu ?_
        refine Ce rfl (image_ok hTr (by omega) s1 z6 (by omega) (by omega)) ?_
        refine ApG ((bs ++ [ev T σ z.k z.a]).map fun a => dN ⟨m', T, a⟩) rfl (by simp) (by simp; omega) ?_
        refine Ar (j + 1 : Nat) rfl ?_
        exact Bk (j + 1, bs ++ [ev T σ z.k z.a]) [(113, 9)] rfl (hI'.step (by omega) z2 (by rw [ev_ev hT.h s2, z4]) (img W hT z3 s1 z6)) (by show 2 - (j + 1) < 2 - j; omega)
    · have h : ¬ (j : Int) < 2 := h
      obtain rfl : j = 2 := by omega
      obtain ⟨a, b, rfl, hJ⟩ := hI'.done hT
      exact Rt rfl (.tup (.cons (.gr rfl) fitI)) ⟨m, T, a, b, rfl, hJ⟩
end
end Go.Proofs.YtfmgfaeheljpcaaGreat.R9

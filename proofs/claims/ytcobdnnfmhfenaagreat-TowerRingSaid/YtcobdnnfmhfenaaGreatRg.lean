/- Long statements whose order Go leaves open: closed facts by the kernel alone, each operation by itself. -/
import Derived.Test.YtcobdnnfmhfenaaGreatRn
set_option linter.unusedVariables false
set_option linter.unusedSimpArgs false
namespace Go.Rx
open Go
def dstsOk : List Oper → List Nat → Bool
  | _, [] => true
  | o :: l, d :: ds => (match o.dst with | some e => Nat.beq e d | none => false) && dstsOk l ds
  | [], _ :: _ => false
def dqOk (ds : List Nat) : List Oper → List (List (Nat × Nat)) → Bool
  | _, [] => true
  | o :: l, q :: qs => decide (depsD o = q.map (·.1)) && q.all (fun p => decide (ds[p.1]? = some p.2)) && dqOk ds l qs
  | [], _ :: _ => false
/-- The closed facts: pr names, for each operation of the cloud, one that waits for it. -/
def cloudOkQ (n : Nat) (L : List Oper) (ds : List Nat) (dq : List (List (Nat × Nat))) (rk pr : List Nat) : Bool :=
  opsOk n L && dstsOk L ds && dqOk ds L dq && Nat.beq dq.length ds.length && decide ds.Nodup &&
  (List.range L.length).all (fun i => (depsAt L i).all (fun j => Nat.blt j L.length && (if Nat.blt i ds.length then Nat.blt j ds.length && Nat.blt (rk.getD j 0) (rk.getD i 0) else Nat.blt j i))) &&
  (List.range L.length).all (fun i => Nat.ble i ds.length || (depsAt L i).contains (i - 1)) &&
  (Nat.ble L.length ds.length || (List.range ds.length).all (fun j => (Nat.beq (pr.getD j 0) ds.length || (Nat.blt (pr.getD j 0) ds.length && Nat.blt (rk.getD j 0) (rk.getD (pr.getD j 0) 0))) && (depsAt L (pr.getD j 0)).contains j))
structure CloudQ (n : Nat) (env : Env) (L : List Oper) (rk : List Nat) (k : Nat) : Prop where
  ok : opsOk n L = true
  inb : ∀ i, i < L.length → ∀ j ∈ depsAt L i, j < L.length
  lowT : ∀ i, k ≤ i → i < L.length → ∀ j ∈ depsAt L i, j < i
  rank : ∀ i, i < k → ∀ j ∈ depsAt L i, j < k ∧ rk.getD j 0 < rk.getD i 0
  dst : ∀ i, i < k → ∃ d, dstAt L i = some d ∧ look env d = none ∧ ∀ j, j < i → ∃ e, dstAt L j = some e ∧ d ≠ e
  tail : ∀ m, k < m → m < L.length → m - 1 ∈ depsAt L m
  anc : k < L.length → ∀ p : Nat → Bool, (∀ i, i < L.length → p i = true → ∀ j ∈ depsAt L i, p j = true) → (∀ j ∈ depsAt L k, p j = true) → ∀ j, j < k → p j = true
theorem dstsOk_get {ds : List Nat} : ∀ {L : List Oper}, dstsOk L ds = true → ∀ j t, ds[j]? = some t → dstAt L j = some t := by
  induction ds with
  | nil => intro L _ j t h; simp at h
  | cons d ds ih =>
    intro L h j t hj
    cases L with
    | nil => simp [dstsOk] at h
    | cons o l =>
      simp only [dstsOk, Bool.and_eq_true] at h
      cases j with
      | zero =>
        simp only [List.getElem?_cons_zero, Option.some.injEq] at hj
        subst hj
        simp only [dstAt]
        cases ho : o.dst with
        | none => rw [ho] at h; simp at h
        | some e => rw [ho] at h; simp at h; rw [h.1]
      | succ j => simp only [dstAt]; exact ih h.2 j t (by simpa using hj)
theorem dstsOk_len {ds : List Nat} : ∀ {L : List Oper}, dstsOk L ds = true → ds.length ≤ L.length := by
  induction ds with
  | nil => intro L _; simp
  | cons d ds ih =>
    intro L h
    cases L with
    | nil => simp [dstsOk] at h
    | cons o l => simp only [dstsOk, Bool.and_eq_true] at h; have := ih h.2; simp; omega
theorem dqOk_get {ds : List Nat} {dq : List (List (Nat × Nat))} : ∀ {L : List Oper}, dqOk ds L dq = true → ∀ (j : Nat) q, dq[j]? = some q → ∃ o, L[j]? = some o ∧ depsD o = q.map (·.1) ∧ ∀ p ∈ q, ds[p.1]? = some p.2 := by
  induction dq with
  | nil => intro L _ j q h; simp at h
  | cons q0 qs ih =>
    intro L h j q hj
    cases L with
    | nil => simp [dqOk] at h
    | cons o l =>
      simp only [dqOk, Bool.and_eq_true] at h
      obtain ⟨⟨h1, h2⟩, h3⟩ := h
      cases j with
      | zero =>
        simp only [List.getElem?_cons_zero, Option.some.injEq] at hj
        subst hj
        exact ⟨o, rfl, by simpa using h1, fun p hp => by simpa using List.all_eq_true.1 h2 p hp⟩
      | succ j => obtain ⟨o', k1, k2⟩ := ih h3 j q (by simpa using hj); exact ⟨o', by simpa using k1, k2⟩
theorem getD_sum (l : List Nat) (j : Nat) : l.getD j 0 ≤ l.sum := by
  induction l generalizing j with
  | nil => simp
  | cons a l ih =>
    cases j with
    | zero => simp
    | succ j => have := ih j; simp at this ⊢; omega
theorem cloudQ {n : Nat} {env : Env} {L : List Oper} {ds : List Nat} {dq : List (List (Nat × Nat))} {rk pr : List Nat} (h : cloudOkQ n L ds dq rk pr = true) (he : (ds.all fun d => !inE env d) = true) : CloudQ n env L rk ds.length := by
  simp only [cloudOkQ, Bool.and_eq_true] at h
  obtain ⟨⟨⟨⟨⟨⟨⟨h1, hds⟩, hdq⟩, hlen⟩, hnd⟩, h2⟩, h4⟩, h5⟩ := h
  generalize hk : ds.length = k at *
  have h2' : ∀ i, i < L.length → ∀ j ∈ depsAt L i, j < L.length ∧ (if i < k then j < k ∧ rk.getD j 0 < rk.getD i 0 else j < i) := by
    intro i hi j hj
    have := List.all_eq_true.1 h2 i (List.mem_range.2 hi)
    have := List.all_eq_true.1 this j hj
    rw [Bool.and_eq_true] at this
    refine ⟨by simpa using this.1, ?_⟩
    have h := this.2
    by_cases hik : i < k
    · have e : Nat.blt i k = true := by simpa using hik
      rw [if_pos hik]
      rw [if_pos e, Bool.and_eq_true] at h
      exact ⟨by simpa using h.1, by simpa using h.2⟩
    · have e : ¬ Nat.blt i k = true := by simpa using hik
      rw [if_neg hik]
      rw [if_neg e] at h
      simpa using h
  have hkl := dstsOk_len hds
  have hnd' : ds.Nodup := by simpa using hnd
  refine ⟨h1, fun i hi j hj => (h2' i hi j hj).1, fun i hk hi j hj => ?_, fun i hi j hj => ?_, fun i hi => ?_, fun m hm hm2 => ?_, fun hkL p hcl hd => ?_⟩
  · have := (h2' i hi j hj).2; rwa [if_neg (by omega)] at this
  · have := (h2' i (by omega) j hj).2; rwa [if_pos hi] at this
  · have hi' : i < ds.length := by omega
    have hgi := dstsOk_get hds i ds[i] (List.getElem?_eq_getElem hi')
    refine ⟨ds[i], hgi, ?_, fun j hj => ?_⟩
    · have := List.all_eq_true.1 he ds[i] (List.getElem_mem hi')
      cases hl : look env ds[i] with
      | none => rfl
      | some v => simp [inE, hl] at this
    · have hj' : j < ds.length := by omega
      refine ⟨ds[j], dstsOk_get hds j ds[j] (List.getElem?_eq_getElem hj'), fun e => ?_⟩
      exact absurd e.symm (by have := List.pairwise_iff_getElem.1 hnd' j i hj' hi' hj; exact this)
  · have := List.all_eq_true.1 h4 m (List.mem_range.2 hm2)
    rw [Bool.or_eq_true] at this
    rcases this with h | h
    · have := Nat.le_of_ble_eq_true h; omega
    · simpa using h
  · rw [Bool.or_eq_true] at h5
    rcases h5 with h | h
    · have := Nat.le_of_ble_eq_true h; omega
    · have key : ∀ m j, j < k → rk.sum < rk.getD j 0 + m → p j = true := by
        intro m
        induction m with
        | zero => intro j _ hh; have := getD_sum rk j; omega
        | succ m ih =>
          intro j hj hh
          have hc := List.all_eq_true.1 h j (List.mem_range.2 hj)
          rw [Bool.and_eq_true, Bool.or_eq_true, Bool.and_eq_true] at hc
          obtain ⟨hc1, hc2⟩ := hc
          have hmem : j ∈ depsAt L (pr.getD j 0) := by simpa using hc2
          rcases hc1 with hc1 | ⟨hc1, hc3⟩
          · have e : pr.getD j 0 = k := by simpa using hc1
            rw [e] at hmem
            exact hd j hmem
          · have e1 : pr.getD j 0 < k := by simpa using hc1
            have e2 : rk.getD j 0 < rk.getD (pr.getD j 0) 0 := by simpa using hc3
            exact hcl _ (by omega) (ih _ e1 (by omega)) j hmem
      intro j hj
      exact key (rk.sum + 1) j hj (by omega)
section
variable {P : Program} {n : Nat} {K : List Kt} {fin : Exit → Act → World → Prop} {env : Env} {W : GW}
/-- all of the cloud is done -/
theorem cl_doneQ {rk : List Nat} {L : List Oper} {sp : List Sp} {fl : List Bool} {ls : Nat → Bool} {a : Act} {w : World} (F : CloudQ n env L rk sp.length) (h : ClN n L sp fl env W ls a w) (hall : ∀ j, j < sp.length → ls j = true)
    (tail : ∀ W1, Ext W W1 → WithN L sp fl W1 (List.range sp.length) [] env fun E => JO P n L.toArray (L.drop sp.length) K fin E W1) : wpL P L.toArray (Done P fin K) (L.drop sp.length) a w := by
  obtain ⟨W1, vals, hw, he, hv, hp, hq⟩ := h.ex
  have h1 := WithN.use vals (List.range sp.length) (fun j hj => (hv j (List.mem_range.1 hj) (hall j (List.mem_range.1 hj))).1) (fun i j hi hj hfi hfj hne => hq i j (List.mem_range.1 hi) (List.mem_range.1 hj) (hall i (List.mem_range.1 hi)) (hall j (List.mem_range.1 hj)) hfi hfj hne) List.nodup_range (fun _ _ _ y hy => by cases hy) (tail W1 he)
  have hok : opsOk n (L.drop sp.length) = true := by
    have : ∀ (k : Nat) (l : List Oper), opsOk n l = true → opsOk n (l.drop k) = true := by
      intro k
      induction k with
      | zero => intro l h; simpa using h
      | succ k ih => intro l h; cases l with
        | nil => simpa using h
        | cons o l => simp only [List.drop_succ_cons]; exact ih l (JO.unok h)
    exact this _ _ F.ok
  rw [← hw]
  refine h1 hok a ⟨h.defers, h.size, fun t v ht => ?_⟩
  rw [look_append] at ht
  have key : ∀ js : List Nat, (∀ j ∈ js, j < sp.length) → ∀ u, look (js.map fun j => (dstD L j, vals j)) t = some u → a.tmps.getD t undef = u := by
    intro js
    induction js with
    | nil => intro _ u hu; simp [look] at hu
    | cons j js ih =>
      intro hj u hu
      simp only [List.map_cons] at hu
      rw [look_cons] at hu
      have hj1 := hj j (List.mem_cons_self ..)
      by_cases hts : t = dstD L j
      · rw [if_pos hts] at hu
        injection hu with hu
        rw [hts, (hv j hj1 (hall j hj1)).2.2, hu]
      · rw [if_neg hts] at hu
        exact ih (fun x hx => hj x (List.mem_cons_of_mem _ hx)) u hu
  cases hl : look (((List.range sp.length).reverse.map fun j => (dstD L j, vals j))) t with
  | some u =>
    rw [hl] at ht
    injection ht with ht
    rw [← ht]
    exact key _ (fun j hj => List.mem_range.1 (List.mem_reverse.1 hj)) u hl
  | none =>
    rw [hl] at ht
    exact h.env t v ht

theorem draw_coreQ {rk : List Nat} {L : List Oper} {sp : List Sp} {fl : List Bool} (F : CloudQ n env L rk sp.length) (hk : sp.length ≤ L.length) (cloud : CloudHN P n L K fin sp env W 0 L sp fl)
    (tail : ∀ W1, Ext W W1 → WithN L sp fl W1 (List.range sp.length) [] env fun E => JO P n L.toArray (L.drop sp.length) K fin E W1) (f : Nat) :
    ∀ (t : Nat) (ls : Array Bool) (a : Act) (w : World), ls.size = L.length → (∀ i, sp.length ≤ i → ls.getD i false = false) →
      (∀ i, i < L.length → ls.getD i false = true → ∀ j ∈ depsAt L i, ls.getD j false = true) →
      (List.range L.length).countP (fun i => !ls.getD i false) = f → ClN n L sp fl env W (fun i => ls.getD i false) a w →
      wpOps P L.toArray (Done P fin K) (Region.linearise.go .any L.toArray f t ls []) a w := by
  induction f with
  | zero =>
    intro t ls a w hs hb hcl hcnt hC
    have hall : ∀ j, j < L.length → ls.getD j false = true := by
      intro j hj
      have := List.countP_eq_zero.1 hcnt j (List.mem_range.2 hj)
      simpa using this
    have hkk : L.length = sp.length := by
      by_cases h : L.length ≤ sp.length
      · omega
      · have := hall sp.length (by omega)
        rw [hb sp.length (Nat.le_refl _)] at this; cases this
    have h1 := cl_doneQ F hC (fun j hj => hall j (by omega)) tail
    rw [List.drop_eq_nil_of_le (by omega)] at h1
    simpa [Region.linearise.go, wpOps, wpL] using h1
  | succ f ih =>
    intro t ls a w hs hb hcl hcnt hC
    by_cases hall : ∀ j, j < sp.length → ls.getD j false = true
    · have hcount : L.length - sp.length = f + 1 := by
        rw [← hcnt]
        exact (cnt_range sp.length L.length (fun i => !ls.getD i false) (fun j hj => by simp [hall j hj]) (fun j hj => by simp [hb j hj])).symm
      rw [go_tailR F.lowT (f + 1) sp.length t ls (Nat.le_refl _) hs (by omega) hall hb F.tail]
      have h1 := wpOps_of (P := P) (ops := L.toArray) (Q := Done P fin K) (L.drop sp.length) sp.length a w (by simp) (cl_doneQ F hC hall tail)
      rw [List.length_drop, hcount] at h1
      exact h1
    · have hex : ∃ j, j < sp.length ∧ ls.getD j false = false := by
        apply Classical.byContradiction
        intro hn
        apply hall
        intro j hj
        cases hv : ls.getD j false with
        | true => rfl
        | false => exact absurd ⟨j, hj, hv⟩ hn
      have hex2 : ∃ m, ∃ j, (j < sp.length ∧ ls.getD j false = false) ∧ rk.getD j 0 = m := by
        obtain ⟨j, hj⟩ := hex
        exact ⟨_, j, hj, rfl⟩
      obtain ⟨m0, ⟨j0, ⟨hj0, hj1⟩, hjm⟩, hmin⟩ := exists_min _ hex2
      have hready : j0 ∈ rdy L ls := by
        rw [rdy_mem hs]
        have hlt : j0 < L.length := by omega
        refine ⟨L[j0], List.getElem?_eq_getElem hlt, hj1, fun j hj => ?_⟩
        obtain ⟨hjl, hjr⟩ := F.rank j0 hj0 j (by rw [depsAt_eq L j0 _ (List.getElem?_eq_getElem hlt)]; exact hj)
        cases hv : ls.getD j false with
        | true => rfl
        | false => have := hmin _ ⟨j, ⟨hjl, hv⟩, rfl⟩; omega
      have hpos : 0 < (rdy L ls).length := List.length_pos_of_mem hready
      have hgo : Region.linearise.go .any L.toArray (f + 1) t ls [] = match (rdy L ls)[t % (rdy L ls).length]? with | some i => Region.linearise.go .any L.toArray f (t / (rdy L ls).length) (ls.setIfInBounds i true) [i] | none => [] := rfl
      have hlt := Nat.mod_lt t hpos
      rw [hgo, List.getElem?_eq_getElem hlt]
      generalize hi : (rdy L ls)[t % (rdy L ls).length] = i
      have him : i ∈ rdy L ls := by rw [← hi]; exact List.getElem_mem hlt
      obtain ⟨o, ho, hli, hdep⟩ := (rdy_mem hs).1 him
      have hil : i < L.length := by
        by_cases h : i < L.length
        · exact h
        · rw [List.getElem?_eq_none (by omega)] at ho; cases ho
      have hdi := depsAt_eq L i o ho
      have hik : i < sp.length := by
        apply Classical.byContradiction
        intro hn
        by_cases he : i = sp.length
        · have := F.anc (by omega) (fun i => ls.getD i false) hcl (fun j hj => hdep j (by rw [← hdi, he]; exact hj)) j0 hj0
          have : ls.getD j0 false = true := this
          rw [hj1] at this; cases this
        · have := hdep (i - 1) (by rw [← hdi]; exact F.tail i (by omega) hil)
          rw [hb (i - 1) (by omega)] at this; cases this
      simp only []
      rw [go_acc]
      show wpOps P L.toArray (Done P fin K) (i :: _) a w
      have ho' : L.toArray[i]? = some o := by simpa using ho
      simp only [wpOps, ho']
      obtain ⟨W1, vals, hw, he, hv, hp, hq⟩ := hC.ex
      obtain ⟨o2, ho2, hcl2⟩ := cloud.at' (fl := fl) (fun j hj => by rw [Nat.zero_add]) (fun j hj => by rw [Nat.zero_add]) hik
      rw [ho] at ho2
      injection ho2 with ho2
      subst ho2
      simp only [Nat.zero_add] at hcl2
      obtain ⟨d, hd, hde, hdd⟩ := F.dst i hik
      have hdn : d < n := by
        have : ∀ (l : List Oper) (i : Nat), opsOk n l = true → dstAt l i = some d → d < n := by
          intro l
          induction l with
          | nil => intro i _ h; simp [dstAt] at h
          | cons x l ih2 =>
            intro i hx h
            cases i with
            | zero =>
              simp only [dstAt] at h
              simp only [opsOk, h] at hx
              split at hx
              · rename_i hb; simpa using hb
              · cases hx
            | succ i => exact ih2 i (JO.unok hx) (by simpa [dstAt] using h)
        exact this L i F.ok hd
      have hdk : ∀ j ∈ depsD o, j < sp.length := fun j hj => by
        exact (F.rank i hik j (by rw [hdi]; exact hj)).1
      have hJ := WithD.use vals (depsD o) (fun j hj => (hv j (hdk j hj) (hdep j hj)).1) (hcl2 W1 ⟨he.toLeK⟩ he (allEnv a.tmps n))
      generalize hE : ((depsD o).reverse.map fun j => (dstD L j, vals j)) ++ (env ++ allEnv a.tmps n) = E at hJ
      have hRel : Rel n E a := by
        refine ⟨hC.defers, hC.size, fun t v ht => ?_⟩
        rw [← hE, look_append] at ht
        cases hl : look ((depsD o).reverse.map fun j => (dstD L j, vals j)) t with
        | some u =>
          rw [hl] at ht
          injection ht with ht
          rw [← ht]
          have key : ∀ js : List Nat, (∀ j ∈ js, j ∈ depsD o) → look (js.map fun j => (dstD L j, vals j)) t = some u → a.tmps.getD t undef = u := by
            intro js
            induction js with
            | nil => intro _ hu; simp [look] at hu
            | cons j js ih2 =>
              intro hj hu
              simp only [List.map_cons] at hu
              rw [look_cons] at hu
              have hj1 := hj j (List.mem_cons_self ..)
              by_cases hts : t = dstD L j
              · rw [if_pos hts] at hu
                injection hu with hu
                rw [hts, (hv j (hdk j hj1) (hdep j hj1)).2.2, hu]
              · rw [if_neg hts] at hu
                exact ih2 (fun x hx => hj x (List.mem_cons_of_mem _ hx)) hu
          exact key _ (fun j hj => List.mem_reverse.1 hj) hl
        | none =>
          rw [hl] at ht
          simp only [look_append] at ht
          cases hl2 : look env t with
          | some u =>
            rw [hl2] at ht
            injection ht with ht
            rw [← ht]
            exact hC.env t u hl2
          | none =>
            rw [hl2] at ht
            simp only [look_allEnv] at ht
            split at ht
            · injection ht
            · cases ht
      have hfull : ∀ t, t < n → ∃ u, look E t = some u := by
        intro t htn
        rw [← hE, look_append, look_append, look_allEnv, if_pos htn]
        split
        · exact ⟨_, rfl⟩
        · split
          · exact ⟨_, rfl⟩
          · exact ⟨_, rfl⟩
      have hoks : opsOk n [o] = true := by
        have hod : o.dst = some d := by
          have := dstAt_eq L i
          rw [hd, ho] at this
          simpa using this.symm
        simp only [opsOk, hod]
        have : Nat.blt d n = true := by simpa using hdn
        rw [this]
      have hrun := hJ hoks a hRel
      rw [hw] at hrun
      -- what the operation leaves serves the rest
      have hnext : ∀ a' w', DStopF (flD fl i) n E W1 (dstD L i) (spD sp i) a' w' → wpOps P L.toArray (Done P fin K) (Region.linearise.go .any L.toArray f (t / (rdy L ls).length) (ls.setIfInBounds i true) []) a' w' := by
        rintro a' w' hst
        obtain ⟨W2, v, hw2, he2, hr2, hok2, hm2, hnew⟩ := hst.get
        rw [dstD_of hd] at hr2
        have hsame : ∀ t, t ≠ d → a'.tmps.getD t undef = a.tmps.getD t undef := by
          intro t htd
          by_cases htn : t < n
          · obtain ⟨u, hu⟩ := hfull t htn
            rw [hRel.has t u hu]
            exact hr2.has t u (by rw [look_cons, if_neg htd]; exact hu)
          · have h1 : ¬ t < a.tmps.size := by rw [hC.size]; exact htn
            have h2 : ¬ t < a'.tmps.size := by rw [hr2.size]; exact htn
            simp [Array.getD, h1, h2]
        have hisz : i < ls.size := by omega
        have hset : ∀ j, (ls.setIfInBounds i true).getD j false = if j = i then true else ls.getD j false := by
          intro j
          by_cases hji : j = i
          · subst hji; simp [Array.getD, hisz]
          · rw [if_neg hji]
            by_cases hjs : j < ls.size
            · simp [Array.getD, hjs, Array.getElem_setIfInBounds, Ne.symm hji]
            · simp [Array.getD, hjs]
        refine ih _ _ a' w' (by simpa using hs) (fun j hj => by rw [hset, if_neg (by omega)]; exact hb j hj) (fun x hx hlx j hj => ?_) ?_ ⟨⟨W2, fun j => if j = i then v else vals j, hw2, he.trans he2, fun j hj hlj => ?_, fun j hj hlj hfj => ?_, fun x y hx hy hlx hly hfx hfy hxy => ?_⟩, hr2.defers, hr2.size, fun t u ht => ?_⟩
        · rw [hset] at hlx ⊢
          by_cases hji : j = i
          · rw [if_pos hji]
          · rw [if_neg hji]
            by_cases hxi : x = i
            · subst hxi
              exact hdep j (by rw [← hdi]; exact hj)
            · rw [if_neg hxi] at hlx
              exact hcl x hx hlx j hj
        · have hlt2 : (List.range L.length).countP (fun j => !(ls.setIfInBounds i true).getD j false) < (List.range L.length).countP (fun j => !ls.getD j false) :=
            countP_lt (List.mem_range.2 hil) (by simp [hli]) (by simp [hset]) (fun j hj => by
              rw [hset] at hj
              by_cases hji : j = i
              · rw [if_pos hji] at hj; cases hj
              · rw [if_neg hji] at hj; exact hj)
          have hge : (List.range L.length).countP (fun j => !ls.getD j false) ≤ (List.range L.length).countP (fun j => !(ls.setIfInBounds i true).getD j false) + 1 := by
            have : ∀ l : List Nat, l.Nodup → l.countP (fun j => !ls.getD j false) ≤ l.countP (fun j => !(ls.setIfInBounds i true).getD j false) + (if i ∈ l then 1 else 0) := by
              intro l
              induction l with
              | nil => intro _; simp
              | cons x l ih2 =>
                intro hnd
                have hnd2 := List.nodup_cons.1 hnd
                have := ih2 hnd2.2
                rw [List.countP_cons, List.countP_cons]
                by_cases hxi : x = i
                · subst hxi
                  rw [if_neg hnd2.1] at this
                  have e1 : (!ls.getD x false) = true := by rw [hli]; rfl
                  have e2 : (!(ls.setIfInBounds x true).getD x false) = false := by rw [hset, if_pos rfl]; rfl
                  rw [e1, e2, if_pos rfl, if_neg (by simp), if_pos (List.mem_cons_self ..)]
                  omega
                · have e : (!(ls.setIfInBounds i true).getD x false) = !ls.getD x false := by rw [hset, if_neg hxi]
                  rw [e]
                  have hm : (i ∈ x :: l) ↔ i ∈ l := by simp [Ne.symm hxi]
                  by_cases hil2 : i ∈ l
                  · rw [if_pos (hm.2 hil2)]; rw [if_pos hil2] at this; omega
                  · rw [if_neg (fun h => hil2 (hm.1 h))]; rw [if_neg hil2] at this; omega
            have := this (List.range L.length) List.nodup_range
            rw [if_pos (List.mem_range.2 hil)] at this
            exact this
          omega
        · by_cases hji : j = i
          · subst hji
            refine ⟨by simpa using hok2, hm2, ?_⟩
            rw [dstD_of hd]
            simpa using hr2.has d v (by rw [look_cons, if_pos rfl])
          · simp only [hset, if_neg hji] at hlj
            obtain ⟨g1, g2, g3⟩ := hv j hj hlj
            refine ⟨by simpa [hji] using Sp.up g2 he2 g1, g2, ?_⟩
            have hne : dstD L j ≠ d := by
              obtain ⟨dj, hdj, _, hjj⟩ := F.dst j hj
              rw [dstD_of hdj]
              by_cases hlt3 : j < i
              · obtain ⟨e, hee, hne⟩ := hdd j hlt3
                rw [hdj] at hee; injection hee with hee; rw [hee]; exact fun h => hne h.symm
              · obtain ⟨e, hee, hne⟩ := hjj i (by omega)
                rw [hd] at hee; injection hee with hee; rw [hee]; exact hne
            rw [hsame _ hne, g3]
            simp [hji]
        · by_cases hji : j = i
          · subst hji
            obtain ⟨b, hb1, hb2, hb3⟩ := hnew hfj
            exact ⟨b, by simpa using hb1, hb3⟩
          · simp only [hset, if_neg hji] at hlj
            obtain ⟨b, hb1, hb2⟩ := hp j hj hlj hfj
            exact ⟨b, by simpa [hji] using hb1, Nat.lt_of_lt_of_le hb2 he2.size⟩
        · by_cases hxi : x = i
          · subst hxi
            have hyx : y ≠ x := fun e => hxy e.symm
            simp only [hset, if_neg hyx] at hly
            obtain ⟨b, hb1, hb2, hb3⟩ := hnew hfx
            obtain ⟨b', hb1', hb2'⟩ := hp y hy hly hfy
            simp only [if_neg hyx, if_true]
            rw [hb1, hb1']
            intro e
            injection e with e; injection e with e; injection e with e
            omega
          · simp only [hset, if_neg hxi] at hlx
            by_cases hyi : y = i
            · subst hyi
              obtain ⟨b, hb1, hb2, hb3⟩ := hnew hfy
              obtain ⟨b', hb1', hb2'⟩ := hp x hx hlx hfx
              simp only [if_neg hxi, if_true]
              rw [hb1, hb1']
              intro e
              injection e with e; injection e with e; injection e with e
              omega
            · simp only [hset, if_neg hyi] at hly
              simp only [if_neg hxi, if_neg hyi]
              exact hq x y hx hy hlx hly hfx hfy hxy
        · have htd : t ≠ d := by
            intro h; subst h; rw [hde] at ht; cases ht
          rw [hsame t htd]
          exact hC.env t u ht
      simp only [wpL] at hrun
      split
      · rename_i hwant
        rw [if_pos hwant] at hrun
        exact .inl (Oper.wp_mono2 (fun a' w' h => hnext a' w' h) (fun e a' w' hne h => by cases e <;> first | exact absurd rfl hne | exact h) hrun)
      · rename_i hwant
        rw [if_neg hwant] at hrun
        exact hnext _ _ hrun

/-- what an operation may use: slots and values of those it waits for -/
def WithE (sp : List Sp) (W : GW) : List (Nat × Nat) → Env → (Env → Prop) → Prop
  | [], acc, φ => φ acc
  | (j, t) :: js, acc, φ => match spD sp j with
    | .ex v => WithE sp W js ((t, v) :: acc) φ
    | .rel R => ∀ x, R W x → WithE sp W js ((t, x) :: acc) φ
theorem WithE.to {l : List Oper} {sp : List Sp} {W : GW} : ∀ {q : List (Nat × Nat)}, (∀ p ∈ q, dstD l p.1 = p.2) → ∀ {acc : Env} {φ : Env → Prop}, WithE sp W q acc φ → WithD l sp W (q.map (·.1)) acc φ := by
  intro q
  induction q with
  | nil => intro _ acc φ h; exact h
  | cons p q ih =>
    intro hp acc φ h
    obtain ⟨j, t⟩ := p
    have e : dstD l j = t := hp (j, t) (List.mem_cons_self ..)
    have ih' : ∀ (acc : Env) (φ : Env → Prop), WithE sp W q acc φ → WithD l sp W (q.map (·.1)) acc φ := fun acc φ => ih (fun p hq => hp p (List.mem_cons_of_mem _ hq))
    simp only [WithE] at h
    simp only [List.map_cons, WithD]
    cases hs : spD sp j with
    | ex v => rw [hs] at h; rw [e]; exact ih' _ _ h
    | rel R => rw [hs] at h; rw [e]; exact fun x hx => ih' _ _ (h x hx)
/-- all of the cloud -/
def WithT (W : GW) : List Nat → List Sp → List Bool → List Value → Env → (Env → Prop) → Prop
  | t :: ds, s :: ss, f :: fs, pv, acc, φ => match s with
    | .ex v => match f with
      | true => WithT W ds ss fs (v :: pv) ((t, v) :: acc) φ
      | false => WithT W ds ss fs pv ((t, v) :: acc) φ
    | .rel R => match f with
      | true => ∀ x, R W x → NeAll x pv → WithT W ds ss fs (x :: pv) ((t, x) :: acc) φ
      | false => ∀ x, R W x → WithT W ds ss fs pv ((t, x) :: acc) φ
  | _, _, _, _, acc, φ => φ acc
theorem WithT.to {l : List Oper} {sp0 : List Sp} {fl0 : List Bool} {W : GW} : ∀ {ds : List Nat} {ss : List Sp} {fs : List Bool} {i : Nat}, ss.length = ds.length → fs.length = ds.length → (∀ j t, ds[j]? = some t → dstD l (i + j) = t) → (∀ j s, ss[j]? = some s → spD sp0 (i + j) = s) → (∀ j f, fs[j]? = some f → flD fl0 (i + j) = f) →
    ∀ {pv : List Value} {acc : Env} {φ : Env → Prop}, WithT W ds ss fs pv acc φ → WithN l sp0 fl0 W (List.range' i ds.length) pv acc φ := by
  intro ds
  induction ds with
  | nil => intro ss fs i _ _ _ _ _ pv acc φ h; simpa [WithT, WithN] using h
  | cons t ds ih =>
    intro ss fs i hs hf hd hsp hfl pv acc φ h
    match ss, fs, hs, hf with
    | s :: ss, f :: fs, hs, hf =>
      have e0 : dstD l i = t := hd 0 t rfl
      have e1 : spD sp0 i = s := hsp 0 s rfl
      have e2 : flD fl0 i = f := hfl 0 f rfl
      have ih' : ∀ (pv : List Value) (acc : Env) (φ : Env → Prop), WithT W ds ss fs pv acc φ → WithN l sp0 fl0 W (List.range' (i + 1) ds.length) pv acc φ := fun pv acc φ => ih (ss := ss) (fs := fs) (i := i + 1) (by simpa using hs) (by simpa using hf) (fun j t hj => by have := hd (j + 1) t (by simpa using hj); rw [← this]; congr 1; omega) (fun j s hj => by have := hsp (j + 1) s (by simpa using hj); rw [← this]; congr 1; omega) (fun j f hj => by have := hfl (j + 1) f (by simpa using hj); rw [← this]; congr 1; omega)
      rw [List.length_cons, List.range'_succ]
      simp only [WithT] at h
      simp only [WithN, e0, e1, e2]
      cases s with
      | ex v => cases f with
        | true => exact ih' _ _ _ h
        | false => exact ih' _ _ _ h
      | rel R => cases f with
        | true => exact fun x hx hn => ih' _ _ _ (h x hx hn)
        | false => exact fun x hx => ih' _ _ _ (h x hx)
/-- each operation of the cloud, by itself -/
def CloudHQ (P : Program) (n : Nat) (K : List Kt) (fin : Exit → Act → World → Prop) (ds : List Nat) (sp : List Sp) (env : Env) (W : GW) : List Oper → List Nat → List (List (Nat × Nat)) → List Sp → List Bool → Prop
  | o :: l, t :: ts, q :: qs, s :: ss, f :: fs => (∀ W1, Lk1 W W1 → Ext W W1 → ∀ L : List Oper, (∀ j t, ds[j]? = some t → dstAt L j = some t) → ∀ tl : Env, WithE sp W1 q (env ++ tl) fun E => JO P n L.toArray [o] (.l (DStopF f n E W1 t s) :: K) fin E W1) ∧ CloudHQ P n K fin ds sp env W l ts qs ss fs
  | _, [], [], [], [] => True
  | _, _, _, _, _ => False
theorem CloudHQ.to {L : List Oper} {ds : List Nat} {sp : List Sp} (hL : ∀ j t, ds[j]? = some t → dstAt L j = some t) : ∀ {l : List Oper} {ts : List Nat} {qs : List (List (Nat × Nat))} {ss : List Sp} {fs : List Bool} {i : Nat},
    (∀ j t, ts[j]? = some t → dstD L (i + j) = t) → (∀ (j : Nat) q, qs[j]? = some q → ∃ o, l[j]? = some o ∧ depsD o = q.map (·.1) ∧ ∀ p ∈ q, dstD L p.1 = p.2) → CloudHQ P n K fin ds sp env W l ts qs ss fs → CloudHN P n L K fin sp env W i l ss fs := by
  intro l ts qs ss fs
  induction ss generalizing l ts qs fs with
  | nil => intro i _ _ h; simp [CloudHN]
  | cons s ss ih =>
    intro i ht hq h
    match l, ts, qs, fs, h with
    | o :: l, t :: ts, q :: qs, f :: fs, h =>
      obtain ⟨h1, h2⟩ := h
      refine ⟨fun W1 l1 e1 tl => ?_, ih (fun j t hj => by have := ht (j + 1) t (by simpa using hj); rw [← this]; congr 1; omega) (fun j q hj => by obtain ⟨o', k1, k2⟩ := hq (j + 1) q (by simpa using hj); exact ⟨o', by simpa using k1, k2⟩) h2⟩
      obtain ⟨o', k1, k2, k3⟩ := hq 0 q rfl
      simp only [List.getElem?_cons_zero, Option.some.injEq] at k1
      subst k1
      have e : dstD L i = t := ht 0 t rfl
      rw [k2, e]
      exact WithE.to k3 (h1 W1 l1 e1 L hL tl)
    | [], ts, qs, fs, h => cases ts <;> cases qs <;> cases fs <;> simp [CloudHQ] at h
    | _ :: _, [], qs, fs, h => cases qs <;> cases fs <;> simp [CloudHQ] at h
    | _ :: _, _ :: _, [], fs, h => cases fs <;> simp [CloudHQ] at h
    | _ :: _, _ :: _, _ :: _, [], h => simp [CloudHQ] at h
theorem spD_get {sp : List Sp} : ∀ {j : Nat} {s : Sp}, sp[j]? = some s → spD sp j = s := by
  induction sp with
  | nil => intro j s h; simp at h
  | cons a sp ih => intro j s h; cases j with
    | zero => simpa [spD] using h
    | succ j => exact ih (by simpa using h)
theorem flD_get {fl : List Bool} : ∀ {j : Nat} {f : Bool}, fl[j]? = some f → flD fl j = f := by
  induction fl with
  | nil => intro j s h; simp at h
  | cons a sp ih => intro j s h; cases j with
    | zero => simpa [flD] using h
    | succ j => exact ih (by simpa using h)
theorem J.drawQ [mx : Mx P] {id : Nat} {L : List Oper} (ds : List Nat) (dq : List (List (Nat × Nat))) (rk pr : List Nat) (sp : List Sp) (fl : List Bool) (hchk : cloudOkQ n L ds dq rk pr = true) (he : (ds.all fun d => !inE env d) = true) (hs : sp.length = ds.length) (hf : fl.length = ds.length)
    (cloud : CloudHQ P n K fin ds sp env W L ds dq sp fl)
    (tail : ∀ W1, Lk1 W W1 → Ext W W1 → WithT W1 ds sp fl [] env fun E => JO P n L.toArray (L.drop ds.length) K fin E W1) : J P n (.c (.region id L.toArray true) :: K) fin env W := by
  intro a ha
  refine wp_region_draw fun t => ?_
  have hsc : Region.schedule (P.follows .mixedOrders) L.toArray t = Region.linearise.go .any L.toArray L.length t (Array.replicate L.length false) [] := by
    rw [mx.h]
    simp [Region.schedule, Region.linearise]
  rw [hsc]
  have F := cloudQ hchk he
  simp only [cloudOkQ, Bool.and_eq_true] at hchk
  obtain ⟨⟨⟨⟨⟨⟨⟨h1, hds⟩, hdq⟩, hlen⟩, hnd⟩, h2⟩, h4⟩, h5⟩ := hchk
  have hL := dstsOk_get hds
  have hD : ∀ j t, ds[j]? = some t → dstD L j = t := fun j t hj => dstD_of (hL j t hj)
  have hff : ∀ i, (Array.replicate L.length false).getD i false = false := by
    intro i
    by_cases h : i < L.length <;> simp [Array.getD, h]
  rw [← hs] at F
  refine draw_coreQ (fl := fl) F (by rw [hs]; exact dstsOk_len hds) (CloudHQ.to hL (fun j t hj => by rw [Nat.zero_add]; exact hD j t hj) (fun j q hj => ?_) cloud) (fun W1 e => ?_) L.length t _ a W.tick.w (by simp) (fun i _ => hff i) (fun i _ h => by rw [hff] at h; cases h) ?_
    ⟨⟨W.tick, fun _ => undef, rfl, tick_ext W, (fun i _ h => by rw [hff] at h; cases h), (fun i _ h => by rw [hff] at h; cases h), (fun i j _ _ h => by rw [hff] at h; cases h)⟩, ha.defers, ha.size, ha.has⟩
  · obtain ⟨o, k1, k2, k3⟩ := dqOk_get hdq j q hj
    exact ⟨o, k1, k2, fun p hp => hD _ _ (k3 p hp)⟩
  · have := WithT.to (l := L) (sp0 := sp) (fl0 := fl) (i := 0) hs hf (fun j t hj => by rw [Nat.zero_add]; exact hD j t hj) (fun j s hj => by rw [Nat.zero_add]; exact spD_get hj) (fun j f hj => by rw [Nat.zero_add]; exact flD_get hj) (tail W1 ⟨e.toLeK⟩ e)
    rw [hs, List.range_eq_range']
    exact this
  · have := cnt_range 0 L.length (fun i => !(Array.replicate L.length false).getD i false) (fun j hj => by omega) (fun j _ => by rw [hff]; rfl)
    rw [this]; rfl
end
end Go.Rx

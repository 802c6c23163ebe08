/- Statements whose order Go leaves open, in which several variables are made: no two of them are the same. -/
import Derived.Test.YtcobdnnfmhfenaaGreatRn
set_option linter.unusedVariables false
namespace Go.Rx
open Go
/-- The operation is done, and its value is a new variable. -/
def DStopN (n : Nat) (E : Env) (W1 : GW) (d : Nat) (s : Sp) (a : Act) (w : World) : Prop :=
  ∃ W2 v, W2.w = w ∧ Ext W1 W2 ∧ Rel n ((d, v) :: E) a ∧ s.ok W2 v ∧ s.mono ∧ ∃ b, v = .pointer (some ⟨b, 0, none⟩) ∧ W1.size ≤ b ∧ b < W2.size
def DStopF (f : Bool) (n : Nat) (E : Env) (W1 : GW) (d : Nat) (s : Sp) : Act → World → Prop := match f with
  | false => DStop n E W1 d s
  | true => DStopN n E W1 d s
theorem DStopF.get {f : Bool} {n : Nat} {E : Env} {W1 : GW} {d : Nat} {s : Sp} {a : Act} {w : World} (h : DStopF f n E W1 d s a w) :
    ∃ W2 v, W2.w = w ∧ Ext W1 W2 ∧ Rel n ((d, v) :: E) a ∧ s.ok W2 v ∧ s.mono ∧ (f = true → ∃ b, v = .pointer (some ⟨b, 0, none⟩) ∧ W1.size ≤ b ∧ b < W2.size) := by
  cases f with
  | false => obtain ⟨W2, v, h1, h2, h3, h4, h5⟩ := h; exact ⟨W2, v, h1, h2, h3, h4, h5, fun h => by cases h⟩
  | true => obtain ⟨W2, v, h1, h2, h3, h4, h5, h6⟩ := h; exact ⟨W2, v, h1, h2, h3, h4, h5, fun _ => h6⟩
def flD (fl : List Bool) (i : Nat) : Bool := match fl, i with
  | [], _ => false
  | f :: _, 0 => f
  | _ :: l, i + 1 => flD l i
def NeAll (x : Value) : List Value → Prop
  | [] => True
  | y :: l => x ≠ y ∧ NeAll x l
theorem NeAll.mk {x : Value} : ∀ {l : List Value}, (∀ y ∈ l, x ≠ y) → NeAll x l
  | [], _ => trivial
  | y :: l, h => ⟨h y (List.mem_cons_self ..), NeAll.mk fun z hz => h z (List.mem_cons_of_mem _ hz)⟩
/-- For all values that are as said, the new variables apart from each other. -/
def WithN (l : List Oper) (sp : List Sp) (fl : List Bool) (W : GW) : List Nat → List Value → Env → (Env → Prop) → Prop
  | [], _, acc, φ => φ acc
  | j :: js, pv, acc, φ => match spD sp j with
    | .ex v => WithN l sp fl W js (match flD fl j with | true => v :: pv | false => pv) ((dstD l j, v) :: acc) φ
    | .rel R => match flD fl j with
      | true => ∀ x, R W x → NeAll x pv → WithN l sp fl W js (x :: pv) ((dstD l j, x) :: acc) φ
      | false => ∀ x, R W x → WithN l sp fl W js pv ((dstD l j, x) :: acc) φ
theorem WithN.use {l : List Oper} {sp : List Sp} {fl : List Bool} {W : GW} (vals : Nat → Value) (js : List Nat) (hv : ∀ j ∈ js, (spD sp j).ok W (vals j)) (hd : ∀ i j, i ∈ js → j ∈ js → flD fl i = true → flD fl j = true → i ≠ j → vals i ≠ vals j) (hn : js.Nodup) :
    ∀ {pv : List Value} {acc : Env} {φ : Env → Prop}, (∀ j ∈ js, flD fl j = true → ∀ y ∈ pv, vals j ≠ y) → WithN l sp fl W js pv acc φ → φ ((js.reverse.map fun j => (dstD l j, vals j)) ++ acc) := by
  induction js with
  | nil => intro pv acc φ _ h; exact h
  | cons j js ih =>
    intro pv acc φ hp h
    have hj := hv j (List.mem_cons_self ..)
    have ht := fun k hk => hv k (List.mem_cons_of_mem _ hk)
    have hdt := fun i k hi hk => hd i k (List.mem_cons_of_mem _ hi) (List.mem_cons_of_mem _ hk)
    obtain ⟨hn1, hn2⟩ := List.nodup_cons.1 hn
    have hpt : ∀ (f : Bool), flD fl j = f → ∀ k ∈ js, flD fl k = true → ∀ y ∈ (match f with | true => vals j :: pv | false => pv), vals k ≠ y := by
      intro f hf k hk hkf y hy
      have hold := hp k (List.mem_cons_of_mem _ hk) hkf
      cases f with
      | false => exact hold y hy
      | true =>
        rcases List.mem_cons.1 hy with rfl | hy
        · exact hd k j (List.mem_cons_of_mem _ hk) (List.mem_cons_self ..) hkf hf (fun e => hn1 (e ▸ hk))
        · exact hold y hy
    simp only [WithN] at h
    cases hs : spD sp j with
    | ex v =>
      rw [hs] at h hj
      have hj' : vals j = v := hj
      subst hj'
      cases hf : flD fl j with
      | false =>
        rw [hf] at h
        have := ih ht hdt hn2 (hpt false hf) h
        simpa using this
      | true =>
        rw [hf] at h
        have := ih ht hdt hn2 (hpt true hf) h
        simpa using this
    | rel R =>
      rw [hs] at h hj
      cases hf : flD fl j with
      | false =>
        rw [hf] at h
        have := ih ht hdt hn2 (hpt false hf) (h (vals j) hj)
        simpa using this
      | true =>
        rw [hf] at h
        have := ih ht hdt hn2 (hpt true hf) (h (vals j) hj (NeAll.mk (hp j (List.mem_cons_self ..) hf)))
        simpa using this
def CloudHN (P : Program) (n : Nat) (L : List Oper) (K : List Kt) (fin : Exit → Act → World → Prop) (sp : List Sp) (env : Env) (W : GW) : Nat → List Oper → List Sp → List Bool → Prop
  | _, _, [], _ => True
  | _, [], _ :: _, _ => False
  | _, _, _ :: _, [] => False
  | i, o :: l, s :: ss, f :: fs => (∀ W1, Lk1 W W1 → Ext W W1 → ∀ tl : Env, WithD L sp W1 (depsD o) (env ++ tl) fun E => JO P n L.toArray [o] (.l (DStopF f n E W1 (dstD L i) s) :: K) fin E W1) ∧ CloudHN P n L K fin sp env W (i + 1) l ss fs
structure ClN (n : Nat) (L : List Oper) (sp : List Sp) (fl : List Bool) (env : Env) (W : GW) (ls : Nat → Bool) (a : Act) (w : World) : Prop where
  ex : ∃ (W1 : GW) (vals : Nat → Value), W1.w = w ∧ Ext W W1 ∧ (∀ i, i < sp.length → ls i = true → (spD sp i).ok W1 (vals i) ∧ (spD sp i).mono ∧ a.tmps.getD (dstD L i) undef = vals i) ∧
    (∀ i, i < sp.length → ls i = true → flD fl i = true → ∃ b, vals i = .pointer (some ⟨b, 0, none⟩) ∧ b < W1.size) ∧ (∀ i j, i < sp.length → j < sp.length → ls i = true → ls j = true → flD fl i = true → flD fl j = true → i ≠ j → vals i ≠ vals j)
  defers : a.defers = []
  size : a.tmps.size = n
  env : ∀ t v, look env t = some v → a.tmps.getD t undef = v
section
variable {P : Program} {n : Nat} {K : List Kt} {fin : Exit → Act → World → Prop} {env : Env} {W : GW}
theorem CloudHN.at' {L : List Oper} {sp : List Sp} {fl : List Bool} {i0 : Nat} {l : List Oper} {ss : List Sp} {fs : List Bool} (h : CloudHN P n L K fin sp env W i0 l ss fs) (hsp : ∀ j, j < ss.length → spD sp (i0 + j) = spD ss j) (hfl : ∀ j, j < ss.length → flD fl (i0 + j) = flD fs j) {i : Nat} (hi : i < ss.length) :
    ∃ o, l[i]? = some o ∧ ∀ W1, Lk1 W W1 → Ext W W1 → ∀ tl : Env, WithD L sp W1 (depsD o) (env ++ tl) fun E => JO P n L.toArray [o] (.l (DStopF (flD fl (i0 + i)) n E W1 (dstD L (i0 + i)) (spD sp (i0 + i))) :: K) fin E W1 := by
  induction ss generalizing i0 l i fs with
  | nil => simp at hi
  | cons s ss ih =>
    cases l with
    | nil => exact h.elim
    | cons o l =>
      cases fs with
      | nil => exact h.elim
      | cons f fs =>
      obtain ⟨h1, h2⟩ := h
      cases i with
      | zero =>
        have := hsp 0 (by simp)
        simp only [spD, Nat.add_zero] at this
        have hf := hfl 0 (by simp)
        simp only [flD, Nat.add_zero] at hf
        refine ⟨o, rfl, ?_⟩
        rw [Nat.add_zero, this, hf]
        exact h1
      | succ i =>
        have := ih h2 (fun j hj => by
          have := hsp (j + 1) (by simpa using hj)
          simp only [spD] at this
          rw [← this]; congr 1; omega) (fun j hj => by
          have := hfl (j + 1) (by simpa using hj)
          simp only [flD] at this
          rw [← this]; congr 1; omega) (by simpa using hi)
        obtain ⟨o', ho', h'⟩ := this
        refine ⟨o', by simpa using ho', ?_⟩
        rw [show i0 + (i + 1) = i0 + 1 + i from by omega]
        exact h'
/-- all of the cloud is done -/
theorem cl_doneN {rk : List Nat} {L : List Oper} {sp : List Sp} {fl : List Bool} {ls : Nat → Bool} {a : Act} {w : World} (F : CloudG n env L rk sp.length) (h : ClN n L sp fl env W ls a w) (hall : ∀ j, j < sp.length → ls j = true)
    (tail : ∀ W1, Ext W W1 → WithN L sp fl W1 (List.range sp.length) [] env fun E => JO P n L.toArray (L.drop sp.length) K fin E W1) : wpL P L.toArray (Done P fin K) (L.drop sp.length) a w := by
  obtain ⟨W1, vals, hw, he, hv, hp, hq⟩ := h.ex
  have h1 := WithN.use vals (List.range sp.length) (fun j hj => (hv j (List.mem_range.1 hj) (hall j (List.mem_range.1 hj))).1) (fun i j hi hj hfi hfj hne => hq i j (List.mem_range.1 hi) (List.mem_range.1 hj) (hall i (List.mem_range.1 hi)) (hall j (List.mem_range.1 hj)) hfi hfj hne) List.nodup_range (fun _ _ _ y hy => by cases hy) (tail W1 he)
  have hok : opsOk n (L.drop sp.length) = true := by
    have : ∀ (k : Nat) (l : List Oper), opsOk n l = true → opsOk n (l.drop k) = true := by
      intro k
      induction k with
      | zero => intro l h; simpa using h
      | succ k ih => intro l h; cases l with
        | nil => simpa using h
        | cons o l => simp only [List.drop_succ_cons]; exact ih l (JO.unok h)
    exact this _ _ F.ok
  rw [← hw]
  refine h1 hok a ⟨h.defers, h.size, fun t v ht => ?_⟩
  rw [look_append] at ht
  have key : ∀ js : List Nat, (∀ j ∈ js, j < sp.length) → ∀ u, look (js.map fun j => (dstD L j, vals j)) t = some u → a.tmps.getD t undef = u := by
    intro js
    induction js with
    | nil => intro _ u hu; simp [look] at hu
    | cons j js ih =>
      intro hj u hu
      simp only [List.map_cons] at hu
      rw [look_cons] at hu
      have hj1 := hj j (List.mem_cons_self ..)
      by_cases hts : t = dstD L j
      · rw [if_pos hts] at hu
        injection hu with hu
        rw [hts, (hv j hj1 (hall j hj1)).2.2, hu]
      · rw [if_neg hts] at hu
        exact ih (fun x hx => hj x (List.mem_cons_of_mem _ hx)) u hu
  cases hl : look (((List.range sp.length).reverse.map fun j => (dstD L j, vals j))) t with
  | some u =>
    rw [hl] at ht
    injection ht with ht
    rw [← ht]
    exact key _ (fun j hj => List.mem_range.1 (List.mem_reverse.1 hj)) u hl
  | none =>
    rw [hl] at ht
    exact h.env t v ht

theorem draw_coreN {rk : List Nat} {L : List Oper} {sp : List Sp} {fl : List Bool} (F : CloudG n env L rk sp.length) (hk : sp.length ≤ L.length) (cloud : CloudHN P n L K fin sp env W 0 L sp fl)
    (tail : ∀ W1, Ext W W1 → WithN L sp fl W1 (List.range sp.length) [] env fun E => JO P n L.toArray (L.drop sp.length) K fin E W1) (f : Nat) :
    ∀ (t : Nat) (ls : Array Bool) (a : Act) (w : World), ls.size = L.length → (∀ i, sp.length ≤ i → ls.getD i false = false) →
      (∀ i, i < L.length → ls.getD i false = true → ∀ j ∈ depsAt L i, ls.getD j false = true) →
      (List.range L.length).countP (fun i => !ls.getD i false) = f → ClN n L sp fl env W (fun i => ls.getD i false) a w →
      wpOps P L.toArray (Done P fin K) (Region.linearise.go .any L.toArray f t ls []) a w := by
  induction f with
  | zero =>
    intro t ls a w hs hb hcl hcnt hC
    have hall : ∀ j, j < L.length → ls.getD j false = true := by
      intro j hj
      have := List.countP_eq_zero.1 hcnt j (List.mem_range.2 hj)
      simpa using this
    have hkk : L.length = sp.length := by
      by_cases h : L.length ≤ sp.length
      · omega
      · have := hall sp.length (by omega)
        rw [hb sp.length (Nat.le_refl _)] at this; cases this
    have h1 := cl_doneN F hC (fun j hj => hall j (by omega)) tail
    rw [List.drop_eq_nil_of_le (by omega)] at h1
    simpa [Region.linearise.go, wpOps, wpL] using h1
  | succ f ih =>
    intro t ls a w hs hb hcl hcnt hC
    by_cases hall : ∀ j, j < sp.length → ls.getD j false = true
    · have hcount : L.length - sp.length = f + 1 := by
        rw [← hcnt]
        exact (cnt_range sp.length L.length (fun i => !ls.getD i false) (fun j hj => by simp [hall j hj]) (fun j hj => by simp [hb j hj])).symm
      rw [go_tailR F.lowT (f + 1) sp.length t ls (Nat.le_refl _) hs (by omega) hall hb F.tail]
      have h1 := wpOps_of (P := P) (ops := L.toArray) (Q := Done P fin K) (L.drop sp.length) sp.length a w (by simp) (cl_doneN F hC hall tail)
      rw [List.length_drop, hcount] at h1
      exact h1
    · have hex : ∃ j, j < sp.length ∧ ls.getD j false = false := by
        apply Classical.byContradiction
        intro hn
        apply hall
        intro j hj
        cases hv : ls.getD j false with
        | true => rfl
        | false => exact absurd ⟨j, hj, hv⟩ hn
      have hex2 : ∃ m, ∃ j, (j < sp.length ∧ ls.getD j false = false) ∧ rk.getD j 0 = m := by
        obtain ⟨j, hj⟩ := hex
        exact ⟨_, j, hj, rfl⟩
      obtain ⟨m0, ⟨j0, ⟨hj0, hj1⟩, hjm⟩, hmin⟩ := exists_min _ hex2
      have hready : j0 ∈ rdy L ls := by
        rw [rdy_mem hs]
        have hlt : j0 < L.length := by omega
        refine ⟨L[j0], List.getElem?_eq_getElem hlt, hj1, fun j hj => ?_⟩
        obtain ⟨hjl, hjr⟩ := F.rank j0 hj0 j (by rw [depsAt_eq L j0 _ (List.getElem?_eq_getElem hlt)]; exact hj)
        cases hv : ls.getD j false with
        | true => rfl
        | false => have := hmin _ ⟨j, ⟨hjl, hv⟩, rfl⟩; omega
      have hpos : 0 < (rdy L ls).length := List.length_pos_of_mem hready
      have hgo : Region.linearise.go .any L.toArray (f + 1) t ls [] = match (rdy L ls)[t % (rdy L ls).length]? with | some i => Region.linearise.go .any L.toArray f (t / (rdy L ls).length) (ls.setIfInBounds i true) [i] | none => [] := rfl
      have hlt := Nat.mod_lt t hpos
      rw [hgo, List.getElem?_eq_getElem hlt]
      generalize hi : (rdy L ls)[t % (rdy L ls).length] = i
      have him : i ∈ rdy L ls := by rw [← hi]; exact List.getElem_mem hlt
      obtain ⟨o, ho, hli, hdep⟩ := (rdy_mem hs).1 him
      have hil : i < L.length := by
        by_cases h : i < L.length
        · exact h
        · rw [List.getElem?_eq_none (by omega)] at ho; cases ho
      have hdi := depsAt_eq L i o ho
      have hik : i < sp.length := by
        apply Classical.byContradiction
        intro hn
        by_cases he : i = sp.length
        · have ha := ancs_listedR (L := L) (p := fun i => ls.getD i false) hcl F.inb L.length i hil (fun j hj => hdep j (by rw [← hdi]; exact hj))
          have := ha j0 (by rw [he]; exact F.anc (by omega) j0 hj0)
          rw [hj1] at this; cases this
        · have := hdep (i - 1) (by rw [← hdi]; exact F.tail i (by omega) hil)
          rw [hb (i - 1) (by omega)] at this; cases this
      simp only []
      rw [go_acc]
      show wpOps P L.toArray (Done P fin K) (i :: _) a w
      have ho' : L.toArray[i]? = some o := by simpa using ho
      simp only [wpOps, ho']
      obtain ⟨W1, vals, hw, he, hv, hp, hq⟩ := hC.ex
      obtain ⟨o2, ho2, hcl2⟩ := cloud.at' (fl := fl) (fun j hj => by rw [Nat.zero_add]) (fun j hj => by rw [Nat.zero_add]) hik
      rw [ho] at ho2
      injection ho2 with ho2
      subst ho2
      simp only [Nat.zero_add] at hcl2
      obtain ⟨d, hd, hde, hdd⟩ := F.dst i hik
      have hdn : d < n := by
        have : ∀ (l : List Oper) (i : Nat), opsOk n l = true → dstAt l i = some d → d < n := by
          intro l
          induction l with
          | nil => intro i _ h; simp [dstAt] at h
          | cons x l ih2 =>
            intro i hx h
            cases i with
            | zero =>
              simp only [dstAt] at h
              simp only [opsOk, h] at hx
              split at hx
              · rename_i hb; simpa using hb
              · cases hx
            | succ i => exact ih2 i (JO.unok hx) (by simpa [dstAt] using h)
        exact this L i F.ok hd
      have hdk : ∀ j ∈ depsD o, j < sp.length := fun j hj => by
        exact (F.rank i hik j (by rw [hdi]; exact hj)).1
      have hJ := WithD.use vals (depsD o) (fun j hj => (hv j (hdk j hj) (hdep j hj)).1) (hcl2 W1 ⟨he.toLeK⟩ he (allEnv a.tmps n))
      generalize hE : ((depsD o).reverse.map fun j => (dstD L j, vals j)) ++ (env ++ allEnv a.tmps n) = E at hJ
      have hRel : Rel n E a := by
        refine ⟨hC.defers, hC.size, fun t v ht => ?_⟩
        rw [← hE, look_append] at ht
        cases hl : look ((depsD o).reverse.map fun j => (dstD L j, vals j)) t with
        | some u =>
          rw [hl] at ht
          injection ht with ht
          rw [← ht]
          have key : ∀ js : List Nat, (∀ j ∈ js, j ∈ depsD o) → look (js.map fun j => (dstD L j, vals j)) t = some u → a.tmps.getD t undef = u := by
            intro js
            induction js with
            | nil => intro _ hu; simp [look] at hu
            | cons j js ih2 =>
              intro hj hu
              simp only [List.map_cons] at hu
              rw [look_cons] at hu
              have hj1 := hj j (List.mem_cons_self ..)
              by_cases hts : t = dstD L j
              · rw [if_pos hts] at hu
                injection hu with hu
                rw [hts, (hv j (hdk j hj1) (hdep j hj1)).2.2, hu]
              · rw [if_neg hts] at hu
                exact ih2 (fun x hx => hj x (List.mem_cons_of_mem _ hx)) hu
          exact key _ (fun j hj => List.mem_reverse.1 hj) hl
        | none =>
          rw [hl] at ht
          simp only [look_append] at ht
          cases hl2 : look env t with
          | some u =>
            rw [hl2] at ht
            injection ht with ht
            rw [← ht]
            exact hC.env t u hl2
          | none =>
            rw [hl2] at ht
            simp only [look_allEnv] at ht
            split at ht
            · injection ht
            · cases ht
      have hfull : ∀ t, t < n → ∃ u, look E t = some u := by
        intro t htn
        rw [← hE, look_append, look_append, look_allEnv, if_pos htn]
        split
        · exact ⟨_, rfl⟩
        · split
          · exact ⟨_, rfl⟩
          · exact ⟨_, rfl⟩
      have hoks : opsOk n [o] = true := by
        have hod : o.dst = some d := by
          have := dstAt_eq L i
          rw [hd, ho] at this
          simpa using this.symm
        simp only [opsOk, hod]
        have : Nat.blt d n = true := by simpa using hdn
        rw [this]
      have hrun := hJ hoks a hRel
      rw [hw] at hrun
      -- what the operation leaves serves the rest
      have hnext : ∀ a' w', DStopF (flD fl i) n E W1 (dstD L i) (spD sp i) a' w' → wpOps P L.toArray (Done P fin K) (Region.linearise.go .any L.toArray f (t / (rdy L ls).length) (ls.setIfInBounds i true) []) a' w' := by
        rintro a' w' hst
        obtain ⟨W2, v, hw2, he2, hr2, hok2, hm2, hnew⟩ := hst.get
        rw [dstD_of hd] at hr2
        have hsame : ∀ t, t ≠ d → a'.tmps.getD t undef = a.tmps.getD t undef := by
          intro t htd
          by_cases htn : t < n
          · obtain ⟨u, hu⟩ := hfull t htn
            rw [hRel.has t u hu]
            exact hr2.has t u (by rw [look_cons, if_neg htd]; exact hu)
          · have h1 : ¬ t < a.tmps.size := by rw [hC.size]; exact htn
            have h2 : ¬ t < a'.tmps.size := by rw [hr2.size]; exact htn
            simp [Array.getD, h1, h2]
        have hisz : i < ls.size := by omega
        have hset : ∀ j, (ls.setIfInBounds i true).getD j false = if j = i then true else ls.getD j false := by
          intro j
          by_cases hji : j = i
          · subst hji; simp [Array.getD, hisz]
          · rw [if_neg hji]
            by_cases hjs : j < ls.size
            · simp [Array.getD, hjs, Array.getElem_setIfInBounds, Ne.symm hji]
            · simp [Array.getD, hjs]
        refine ih _ _ a' w' (by simpa using hs) (fun j hj => by rw [hset, if_neg (by omega)]; exact hb j hj) (fun x hx hlx j hj => ?_) ?_ ⟨⟨W2, fun j => if j = i then v else vals j, hw2, he.trans he2, fun j hj hlj => ?_, fun j hj hlj hfj => ?_, fun x y hx hy hlx hly hfx hfy hxy => ?_⟩, hr2.defers, hr2.size, fun t u ht => ?_⟩
        · rw [hset] at hlx ⊢
          by_cases hji : j = i
          · rw [if_pos hji]
          · rw [if_neg hji]
            by_cases hxi : x = i
            · subst hxi
              exact hdep j (by rw [← hdi]; exact hj)
            · rw [if_neg hxi] at hlx
              exact hcl x hx hlx j hj
        · have hlt2 : (List.range L.length).countP (fun j => !(ls.setIfInBounds i true).getD j false) < (List.range L.length).countP (fun j => !ls.getD j false) :=
            countP_lt (List.mem_range.2 hil) (by simp [hli]) (by simp [hset]) (fun j hj => by
              rw [hset] at hj
              by_cases hji : j = i
              · rw [if_pos hji] at hj; cases hj
              · rw [if_neg hji] at hj; exact hj)
          have hge : (List.range L.length).countP (fun j => !ls.getD j false) ≤ (List.range L.length).countP (fun j => !(ls.setIfInBounds i true).getD j false) + 1 := by
            have : ∀ l : List Nat, l.Nodup → l.countP (fun j => !ls.getD j false) ≤ l.countP (fun j => !(ls.setIfInBounds i true).getD j false) + (if i ∈ l then 1 else 0) := by
              intro l
              induction l with
              | nil => intro _; simp
              | cons x l ih2 =>
                intro hnd
                have hnd2 := List.nodup_cons.1 hnd
                have := ih2 hnd2.2
                rw [List.countP_cons, List.countP_cons]
                by_cases hxi : x = i
                · subst hxi
                  rw [if_neg hnd2.1] at this
                  have e1 : (!ls.getD x false) = true := by rw [hli]; rfl
                  have e2 : (!(ls.setIfInBounds x true).getD x false) = false := by rw [hset, if_pos rfl]; rfl
                  rw [e1, e2, if_pos rfl, if_neg (by simp), if_pos (List.mem_cons_self ..)]
                  omega
                · have e : (!(ls.setIfInBounds i true).getD x false) = !ls.getD x false := by rw [hset, if_neg hxi]
                  rw [e]
                  have hm : (i ∈ x :: l) ↔ i ∈ l := by simp [Ne.symm hxi]
                  by_cases hil2 : i ∈ l
                  · rw [if_pos (hm.2 hil2)]; rw [if_pos hil2] at this; omega
                  · rw [if_neg (fun h => hil2 (hm.1 h))]; rw [if_neg hil2] at this; omega
            have := this (List.range L.length) List.nodup_range
            rw [if_pos (List.mem_range.2 hil)] at this
            exact this
          omega
        · by_cases hji : j = i
          · subst hji
            refine ⟨by simpa using hok2, hm2, ?_⟩
            rw [dstD_of hd]
            simpa using hr2.has d v (by rw [look_cons, if_pos rfl])
          · simp only [hset, if_neg hji] at hlj
            obtain ⟨g1, g2, g3⟩ := hv j hj hlj
            refine ⟨by simpa [hji] using Sp.up g2 he2 g1, g2, ?_⟩
            have hne : dstD L j ≠ d := by
              obtain ⟨dj, hdj, _, hjj⟩ := F.dst j hj
              rw [dstD_of hdj]
              by_cases hlt3 : j < i
              · obtain ⟨e, hee, hne⟩ := hdd j hlt3
                rw [hdj] at hee; injection hee with hee; rw [hee]; exact fun h => hne h.symm
              · obtain ⟨e, hee, hne⟩ := hjj i (by omega)
                rw [hd] at hee; injection hee with hee; rw [hee]; exact hne
            rw [hsame _ hne, g3]
            simp [hji]
        · by_cases hji : j = i
          · subst hji
            obtain ⟨b, hb1, hb2, hb3⟩ := hnew hfj
            exact ⟨b, by simpa using hb1, hb3⟩
          · simp only [hset, if_neg hji] at hlj
            obtain ⟨b, hb1, hb2⟩ := hp j hj hlj hfj
            exact ⟨b, by simpa [hji] using hb1, Nat.lt_of_lt_of_le hb2 he2.size⟩
        · by_cases hxi : x = i
          · subst hxi
            have hyx : y ≠ x := fun e => hxy e.symm
            simp only [hset, if_neg hyx] at hly
            obtain ⟨b, hb1, hb2, hb3⟩ := hnew hfx
            obtain ⟨b', hb1', hb2'⟩ := hp y hy hly hfy
            simp only [if_neg hyx, if_true]
            rw [hb1, hb1']
            intro e
            injection e with e; injection e with e; injection e with e
            omega
          · simp only [hset, if_neg hxi] at hlx
            by_cases hyi : y = i
            · subst hyi
              obtain ⟨b, hb1, hb2, hb3⟩ := hnew hfy
              obtain ⟨b', hb1', hb2'⟩ := hp x hx hlx hfx
              simp only [if_neg hxi, if_true]
              rw [hb1, hb1']
              intro e
              injection e with e; injection e with e; injection e with e
              omega
            · simp only [hset, if_neg hyi] at hly
              simp only [if_neg hxi, if_neg hyi]
              exact hq x y hx hy hlx hly hfx hfy hxy
        · have htd : t ≠ d := by
            intro h; subst h; rw [hde] at ht; cases ht
          rw [hsame t htd]
          exact hC.env t u ht
      simp only [wpL] at hrun
      split
      · rename_i hwant
        rw [if_pos hwant] at hrun
        exact .inl (Oper.wp_mono2 (fun a' w' h => hnext a' w' h) (fun e a' w' hne h => by cases e <;> first | exact absurd rfl hne | exact h) hrun)
      · rename_i hwant
        rw [if_neg hwant] at hrun
        exact hnext _ _ hrun

theorem J.drawN [mx : Mx P] {id : Nat} {L : List Oper} (sp : List Sp) (fl : List Bool) (rk : List Nat) (hchk : cloudOkR n env L rk sp.length = true) (hk : Nat.ble sp.length L.length = true) (cloud : CloudHN P n L K fin sp env W 0 L sp fl)
    (tail : ∀ W1, Lk1 W W1 → Ext W W1 → WithN L sp fl W1 (List.range sp.length) [] env fun E => JO P n L.toArray (L.drop sp.length) K fin E W1) : J P n (.c (.region id L.toArray true) :: K) fin env W := by
  intro a ha
  refine wp_region_draw fun t => ?_
  have hs : Region.schedule (P.follows .mixedOrders) L.toArray t = Region.linearise.go .any L.toArray L.length t (Array.replicate L.length false) [] := by
    rw [mx.h]
    simp [Region.schedule, Region.linearise]
  rw [hs]
  have hf : ∀ i, (Array.replicate L.length false).getD i false = false := by
    intro i
    by_cases h : i < L.length <;> simp [Array.getD, h]
  refine draw_coreN (cloudG (Nat.le_of_ble_eq_true hk) hchk) (Nat.le_of_ble_eq_true hk) cloud (fun W1 e => tail W1 ⟨e.toLeK⟩ e) L.length t _ a W.tick.w (by simp) (fun i _ => hf i) (fun i _ h => by rw [hf] at h; cases h) ?_
    ⟨⟨W.tick, fun _ => undef, rfl, tick_ext W, (fun i _ h => by rw [hf] at h; cases h), (fun i _ h => by rw [hf] at h; cases h), (fun i j _ _ h => by rw [hf] at h; cases h)⟩, ha.defers, ha.size, ha.has⟩
  have := cnt_range 0 L.length (fun i => !(Array.replicate L.length false).getD i false) (fun j hj => by omega) (fun j _ => by rw [hf]; rfl)
  rw [this]; rfl
end
section
variable {P : Program} {n : Nat} {ops : Array Oper} {K : List Kt} {fin : Exit → Act → World → Prop} {env : Env} {W : GW} {d : Nat} {ty : TypeId} {pos : String} {aft : Array Edge}
theorem O.allocN {T sz lo : Nat} {ag : Bool} {z : List Value} [i : TVar P T sz ag z] (hz : z.length = sz) (hlo : lo ≤ W.size) :
    JO P n ops [⟨some d, .alloc T, ty, pos, aft, none⟩] (.l (DStopN n env W d (.rel (PLoc sz lo))) :: K) fin env W :=
  O.allocE fun W5 b5 i5 e5 hl5 hc5 hb5 => JO.nil fun a ha => ⟨W5, _, rfl, e5, ha, ⟨b5, rfl, by rw [← hz]; exact hl5, Nat.le_trans hlo hb5⟩, PLoc.me, b5, rfl, hb5, hc5.lt⟩
end
end Go.Rx

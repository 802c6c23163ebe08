/- A statement whose order Go leaves open, where what comes first does not stand first. -/
import Derived.Test.YtcobdnnfmhfenaaGreatRt
set_option linter.unusedVariables false
set_option linter.unusedSimpArgs false
namespace Go.Rx
open Go
/-- The closed facts, with a rank of each operation of the cloud. -/
def cloudOkR (n : Nat) (env : Env) (L : List Oper) (rk : List Nat) (k : Nat) : Bool :=
  opsOk n L && (List.range L.length).all (fun i => (depsAt L i).all (fun j => Nat.blt j L.length && (if Nat.blt i k then Nat.blt j k && Nat.blt (rk.getD j 0) (rk.getD i 0) else Nat.blt j i))) &&
  (List.range k).all (fun i => match dstAt L i with
    | some d => !inE env d && (List.range i).all (fun j => match dstAt L j with | some e => !(Nat.beq d e) | none => false)
    | none => false) &&
  (List.range L.length).all (fun i => Nat.ble i k || (depsAt L i).contains (i - 1)) && (Nat.ble L.length k || (List.range k).all (fun j => (cloudOk.ancs L (L.length) k).contains j))
section
variable {P : Program} {n : Nat} {K : List Kt} {fin : Exit → Act → World → Prop} {env : Env} {W : GW}
structure CloudG (n : Nat) (env : Env) (L : List Oper) (rk : List Nat) (k : Nat) : Prop where
  ok : opsOk n L = true
  inb : ∀ i, i < L.length → ∀ j ∈ depsAt L i, j < L.length
  lowT : ∀ i, k ≤ i → i < L.length → ∀ j ∈ depsAt L i, j < i
  rank : ∀ i, i < k → ∀ j ∈ depsAt L i, j < k ∧ rk.getD j 0 < rk.getD i 0
  dst : ∀ i, i < k → ∃ d, dstAt L i = some d ∧ look env d = none ∧ ∀ j, j < i → ∃ e, dstAt L j = some e ∧ d ≠ e
  tail : ∀ m, k < m → m < L.length → m - 1 ∈ depsAt L m
  anc : k < L.length → ∀ j, j < k → j ∈ cloudOk.ancs L L.length k
theorem cloudG {n : Nat} {env : Env} {L : List Oper} {rk : List Nat} {k : Nat} (hkl : k ≤ L.length) (h : cloudOkR n env L rk k = true) : CloudG n env L rk k := by
  simp only [cloudOkR, Bool.and_eq_true] at h
  obtain ⟨⟨⟨⟨h1, h2⟩, h3⟩, h4⟩, h5⟩ := h
  have h2' : ∀ i, i < L.length → ∀ j ∈ depsAt L i, j < L.length ∧ (if i < k then j < k ∧ rk.getD j 0 < rk.getD i 0 else j < i) := by
    intro i hi j hj
    have := List.all_eq_true.1 h2 i (List.mem_range.2 hi)
    have := List.all_eq_true.1 this j hj
    rw [Bool.and_eq_true] at this
    refine ⟨by simpa using this.1, ?_⟩
    have h := this.2
    by_cases hik : i < k
    · have e : Nat.blt i k = true := by simpa using hik
      rw [if_pos hik]
      rw [if_pos e, Bool.and_eq_true] at h
      exact ⟨by simpa using h.1, by simpa using h.2⟩
    · have e : ¬ Nat.blt i k = true := by simpa using hik
      rw [if_neg hik]
      rw [if_neg e] at h
      simpa using h
  refine ⟨h1, fun i hi j hj => (h2' i hi j hj).1, fun i hk hi j hj => ?_, fun i hi j hj => ?_, fun i hi => ?_, fun m hm hm2 => ?_, fun hk j hj => ?_⟩
  · have := (h2' i hi j hj).2; rwa [if_neg (by omega)] at this
  · have := (h2' i (by omega) j hj).2; rwa [if_pos hi] at this
  · have := List.all_eq_true.1 h3 i (List.mem_range.2 hi)
    split at this
    · rename_i d hd
      rw [Bool.and_eq_true] at this
      obtain ⟨g1, g2⟩ := this
      refine ⟨d, hd, ?_, fun j hj => ?_⟩
      · cases hl : look env d with
        | none => rfl
        | some v => simp [inE, hl] at g1
      · have := List.all_eq_true.1 g2 j (List.mem_range.2 hj)
        split at this
        · rename_i e he
          refine ⟨e, he, ?_⟩
          intro h; subst h; simp at this
        · cases this
    · cases this
  · have := List.all_eq_true.1 h4 m (List.mem_range.2 hm2)
    rw [Bool.or_eq_true] at this
    rcases this with h | h
    · have := Nat.le_of_ble_eq_true h; omega
    · simpa using h
  · rw [Bool.or_eq_true] at h5
    rcases h5 with h | h
    · have := Nat.le_of_ble_eq_true h; omega
    · have := List.all_eq_true.1 h j (List.mem_range.2 hj)
      simpa using this
/-- The tail: all before i is listed, nothing behind: what is left comes in order. -/
theorem go_tailR {k : Nat} {L : List Oper} (hl : ∀ i, k ≤ i → i < L.length → ∀ j ∈ depsAt L i, j < i) (f : Nat) : ∀ (i t : Nat) (ls : Array Bool), k ≤ i → ls.size = L.length → i + f = L.length →
    (∀ j, j < i → ls.getD j false = true) → (∀ j, i ≤ j → ls.getD j false = false) → (∀ m, i < m → m < L.length → m - 1 ∈ depsAt L m) →
    Region.linearise.go .any L.toArray f t ls [] = List.range' i f := by
  induction f with
  | zero => intro i t ls _ _ _ _ _ _; simp [Region.linearise.go]
  | succ f ih =>
    intro i t ls hki hs hf h1 h2 h3
    have hr : rdy L ls = [i] := by
      have hmem : ∀ x, x ∈ rdy L ls ↔ x = i := by
        intro x
        rw [rdy_mem hs]
        constructor
        · rintro ⟨o, ho, hx, hd⟩
          have hx1 : x < L.length := by
            by_cases h : x < L.length
            · exact h
            · rw [List.getElem?_eq_none (by omega)] at ho; cases ho
          by_cases hlt : x < i
          · rw [h1 x hlt] at hx; cases hx
          · by_cases he : x = i
            · exact he
            · have hy := h3 x (by omega) hx1
              rw [depsAt_eq L x o ho] at hy
              have := hd _ hy
              rw [h2 (x - 1) (by omega)] at this; cases this
        · rintro rfl
          have hx1 : x < L.length := by omega
          refine ⟨L[x], List.getElem?_eq_getElem hx1, h2 x (Nat.le_refl _), fun j hj => h1 j ?_⟩
          exact hl x hki hx1 j (by rw [depsAt_eq L x _ (List.getElem?_eq_getElem hx1)]; exact hj)
      have hnd : (rdy L ls).Nodup := List.Pairwise.filter _ List.nodup_range
      match hq : rdy L ls with
      | [] => have := (hmem i).2 rfl; rw [hq] at this; cases this
      | [x] => have := (hmem x).1 (by rw [hq]; exact List.mem_cons_self ..); rw [this]
      | x :: y :: r =>
        have e1 := (hmem x).1 (by rw [hq]; exact List.mem_cons_self ..)
        have e2 := (hmem y).1 (by rw [hq]; simp)
        rw [hq] at hnd
        have := (List.nodup_cons.1 hnd).1
        rw [e1, e2] at this
        simp at this
    have hgo : Region.linearise.go .any L.toArray (f + 1) t ls [] = match (rdy L ls)[t % (rdy L ls).length]? with | some i => Region.linearise.go .any L.toArray f (t / (rdy L ls).length) (ls.setIfInBounds i true) [i] | none => [] := rfl
    rw [hgo, hr]
    simp only [List.length_cons, List.length_nil, Nat.zero_add, Nat.mod_one, List.getElem?_cons_zero]
    rw [go_acc, List.range'_succ]
    have hi : i < ls.size := by omega
    rw [ih (i + 1) _ _ (by omega) (by simpa using hs) (by omega) (fun j hj => by
        by_cases he : j = i
        · subst he; simp [Array.getD, hi]
        · have := h1 j (by omega)
          have hj' : j < ls.size := by omega
          simp [Array.getD, hj', Array.getElem_setIfInBounds, Ne.symm he] at this ⊢
          exact this)
      (fun j hj => by
        have := h2 j (by omega)
        by_cases hj' : j < ls.size
        · simp [Array.getD, hj', Array.getElem_setIfInBounds, show ¬ i = j from by omega] at this ⊢
          exact this
        · simp [Array.getD, hj'])
      (fun m hm hm2 => h3 m (by omega) hm2)]
    rfl

theorem ancs_listedR {L : List Oper} {p : Nat → Bool} (hcl : ∀ i, i < L.length → p i = true → ∀ j ∈ depsAt L i, p j = true) (hl : ∀ i, i < L.length → ∀ j ∈ depsAt L i, j < L.length) (f : Nat) :
    ∀ i, i < L.length → (∀ j ∈ depsAt L i, p j = true) → ∀ j ∈ cloudOk.ancs L f i, p j = true := by
  induction f with
  | zero => intro i _ _ j hj; simp [cloudOk.ancs] at hj
  | succ f ih =>
    intro i hi hd j hj
    simp only [cloudOk.ancs, List.mem_flatMap] at hj
    obtain ⟨y, hy, hj⟩ := hj
    rcases List.mem_cons.1 hj with rfl | hj
    · exact hd _ hy
    · have hyl : y < L.length := hl i hi y hy
      exact ih y hyl (hcl y hyl (hd y hy)) j hj

/-- all of the cloud is done -/
theorem cl_doneR {rk : List Nat} {L : List Oper} {sp : List Sp} {ls : Nat → Bool} {a : Act} {w : World} (F : CloudG n env L rk sp.length) (h : Cl n L sp env W ls a w) (hall : ∀ j, j < sp.length → ls j = true)
    (tail : ∀ W1, Ext W W1 → WithD L sp W1 (List.range sp.length) env fun E => JO P n L.toArray (L.drop sp.length) K fin E W1) : wpL P L.toArray (Done P fin K) (L.drop sp.length) a w := by
  obtain ⟨W1, vals, hw, he, hv⟩ := h.ex
  have h1 := WithD.use vals (List.range sp.length) (fun j hj => (hv j (List.mem_range.1 hj) (hall j (List.mem_range.1 hj))).1) (tail W1 he)
  have hok : opsOk n (L.drop sp.length) = true := by
    have : ∀ (k : Nat) (l : List Oper), opsOk n l = true → opsOk n (l.drop k) = true := by
      intro k
      induction k with
      | zero => intro l h; simpa using h
      | succ k ih => intro l h; cases l with
        | nil => simpa using h
        | cons o l => simp only [List.drop_succ_cons]; exact ih l (JO.unok h)
    exact this _ _ F.ok
  rw [← hw]
  refine h1 hok a ⟨h.defers, h.size, fun t v ht => ?_⟩
  rw [look_append] at ht
  have key : ∀ js : List Nat, (∀ j ∈ js, j < sp.length) → ∀ u, look (js.map fun j => (dstD L j, vals j)) t = some u → a.tmps.getD t undef = u := by
    intro js
    induction js with
    | nil => intro _ u hu; simp [look] at hu
    | cons j js ih =>
      intro hj u hu
      simp only [List.map_cons] at hu
      rw [look_cons] at hu
      have hj1 := hj j (List.mem_cons_self ..)
      by_cases hts : t = dstD L j
      · rw [if_pos hts] at hu
        injection hu with hu
        rw [hts, (hv j hj1 (hall j hj1)).2.2, hu]
      · rw [if_neg hts] at hu
        exact ih (fun x hx => hj x (List.mem_cons_of_mem _ hx)) u hu
  cases hl : look (((List.range sp.length).reverse.map fun j => (dstD L j, vals j))) t with
  | some u =>
    rw [hl] at ht
    injection ht with ht
    rw [← ht]
    exact key _ (fun j hj => List.mem_range.1 (List.mem_reverse.1 hj)) u hl
  | none =>
    rw [hl] at ht
    exact h.env t v ht

theorem draw_coreR {rk : List Nat} {L : List Oper} {sp : List Sp} (F : CloudG n env L rk sp.length) (hk : sp.length ≤ L.length) (cloud : CloudH P n L K fin sp env W 0 L sp)
    (tail : ∀ W1, Ext W W1 → WithD L sp W1 (List.range sp.length) env fun E => JO P n L.toArray (L.drop sp.length) K fin E W1) (f : Nat) :
    ∀ (t : Nat) (ls : Array Bool) (a : Act) (w : World), ls.size = L.length → (∀ i, sp.length ≤ i → ls.getD i false = false) →
      (∀ i, i < L.length → ls.getD i false = true → ∀ j ∈ depsAt L i, ls.getD j false = true) →
      (List.range L.length).countP (fun i => !ls.getD i false) = f → Cl n L sp env W (fun i => ls.getD i false) a w →
      wpOps P L.toArray (Done P fin K) (Region.linearise.go .any L.toArray f t ls []) a w := by
  induction f with
  | zero =>
    intro t ls a w hs hb hcl hcnt hC
    have hall : ∀ j, j < L.length → ls.getD j false = true := by
      intro j hj
      have := List.countP_eq_zero.1 hcnt j (List.mem_range.2 hj)
      simpa using this
    have hkk : L.length = sp.length := by
      by_cases h : L.length ≤ sp.length
      · omega
      · have := hall sp.length (by omega)
        rw [hb sp.length (Nat.le_refl _)] at this; cases this
    have h1 := cl_doneR F hC (fun j hj => hall j (by omega)) tail
    rw [List.drop_eq_nil_of_le (by omega)] at h1
    simpa [Region.linearise.go, wpOps, wpL] using h1
  | succ f ih =>
    intro t ls a w hs hb hcl hcnt hC
    by_cases hall : ∀ j, j < sp.length → ls.getD j false = true
    · have hcount : L.length - sp.length = f + 1 := by
        rw [← hcnt]
        exact (cnt_range sp.length L.length (fun i => !ls.getD i false) (fun j hj => by simp [hall j hj]) (fun j hj => by simp [hb j hj])).symm
      rw [go_tailR F.lowT (f + 1) sp.length t ls (Nat.le_refl _) hs (by omega) hall hb F.tail]
      have h1 := wpOps_of (P := P) (ops := L.toArray) (Q := Done P fin K) (L.drop sp.length) sp.length a w (by simp) (cl_doneR F hC hall tail)
      rw [List.length_drop, hcount] at h1
      exact h1
    · have hex : ∃ j, j < sp.length ∧ ls.getD j false = false := by
        apply Classical.byContradiction
        intro hn
        apply hall
        intro j hj
        cases hv : ls.getD j false with
        | true => rfl
        | false => exact absurd ⟨j, hj, hv⟩ hn
      have hex2 : ∃ m, ∃ j, (j < sp.length ∧ ls.getD j false = false) ∧ rk.getD j 0 = m := by
        obtain ⟨j, hj⟩ := hex
        exact ⟨_, j, hj, rfl⟩
      obtain ⟨m0, ⟨j0, ⟨hj0, hj1⟩, hjm⟩, hmin⟩ := exists_min _ hex2
      have hready : j0 ∈ rdy L ls := by
        rw [rdy_mem hs]
        have hlt : j0 < L.length := by omega
        refine ⟨L[j0], List.getElem?_eq_getElem hlt, hj1, fun j hj => ?_⟩
        obtain ⟨hjl, hjr⟩ := F.rank j0 hj0 j (by rw [depsAt_eq L j0 _ (List.getElem?_eq_getElem hlt)]; exact hj)
        cases hv : ls.getD j false with
        | true => rfl
        | false => have := hmin _ ⟨j, ⟨hjl, hv⟩, rfl⟩; omega
      have hpos : 0 < (rdy L ls).length := List.length_pos_of_mem hready
      have hgo : Region.linearise.go .any L.toArray (f + 1) t ls [] = match (rdy L ls)[t % (rdy L ls).length]? with | some i => Region.linearise.go .any L.toArray f (t / (rdy L ls).length) (ls.setIfInBounds i true) [i] | none => [] := rfl
      have hlt := Nat.mod_lt t hpos
      rw [hgo, List.getElem?_eq_getElem hlt]
      generalize hi : (rdy L ls)[t % (rdy L ls).length] = i
      have him : i ∈ rdy L ls := by rw [← hi]; exact List.getElem_mem hlt
      obtain ⟨o, ho, hli, hdep⟩ := (rdy_mem hs).1 him
      have hil : i < L.length := by
        by_cases h : i < L.length
        · exact h
        · rw [List.getElem?_eq_none (by omega)] at ho; cases ho
      have hdi := depsAt_eq L i o ho
      have hik : i < sp.length := by
        apply Classical.byContradiction
        intro hn
        by_cases he : i = sp.length
        · have ha := ancs_listedR (L := L) (p := fun i => ls.getD i false) hcl F.inb L.length i hil (fun j hj => hdep j (by rw [← hdi]; exact hj))
          have := ha j0 (by rw [he]; exact F.anc (by omega) j0 hj0)
          rw [hj1] at this; cases this
        · have := hdep (i - 1) (by rw [← hdi]; exact F.tail i (by omega) hil)
          rw [hb (i - 1) (by omega)] at this; cases this
      simp only []
      rw [go_acc]
      show wpOps P L.toArray (Done P fin K) (i :: _) a w
      have ho' : L.toArray[i]? = some o := by simpa using ho
      simp only [wpOps, ho']
      obtain ⟨W1, vals, hw, he, hv⟩ := hC.ex
      obtain ⟨o2, ho2, hcl2⟩ := cloud.at' (fun j hj => by rw [Nat.zero_add]) hik
      rw [ho] at ho2
      injection ho2 with ho2
      subst ho2
      simp only [Nat.zero_add] at hcl2
      obtain ⟨d, hd, hde, hdd⟩ := F.dst i hik
      have hdn : d < n := by
        have : ∀ (l : List Oper) (i : Nat), opsOk n l = true → dstAt l i = some d → d < n := by
          intro l
          induction l with
          | nil => intro i _ h; simp [dstAt] at h
          | cons x l ih2 =>
            intro i hx h
            cases i with
            | zero =>
              simp only [dstAt] at h
              simp only [opsOk, h] at hx
              split at hx
              · rename_i hb; simpa using hb
              · cases hx
            | succ i => exact ih2 i (JO.unok hx) (by simpa [dstAt] using h)
        exact this L i F.ok hd
      have hdk : ∀ j ∈ depsD o, j < sp.length := fun j hj => by
        exact (F.rank i hik j (by rw [hdi]; exact hj)).1
      have hJ := WithD.use vals (depsD o) (fun j hj => (hv j (hdk j hj) (hdep j hj)).1) (hcl2 W1 ⟨he.toLeK⟩ he (allEnv a.tmps n))
      generalize hE : ((depsD o).reverse.map fun j => (dstD L j, vals j)) ++ (env ++ allEnv a.tmps n) = E at hJ
      have hRel : Rel n E a := by
        refine ⟨hC.defers, hC.size, fun t v ht => ?_⟩
        rw [← hE, look_append] at ht
        cases hl : look ((depsD o).reverse.map fun j => (dstD L j, vals j)) t with
        | some u =>
          rw [hl] at ht
          injection ht with ht
          rw [← ht]
          have key : ∀ js : List Nat, (∀ j ∈ js, j ∈ depsD o) → look (js.map fun j => (dstD L j, vals j)) t = some u → a.tmps.getD t undef = u := by
            intro js
            induction js with
            | nil => intro _ hu; simp [look] at hu
            | cons j js ih2 =>
              intro hj hu
              simp only [List.map_cons] at hu
              rw [look_cons] at hu
              have hj1 := hj j (List.mem_cons_self ..)
              by_cases hts : t = dstD L j
              · rw [if_pos hts] at hu
                injection hu with hu
                rw [hts, (hv j (hdk j hj1) (hdep j hj1)).2.2, hu]
              · rw [if_neg hts] at hu
                exact ih2 (fun x hx => hj x (List.mem_cons_of_mem _ hx)) hu
          exact key _ (fun j hj => List.mem_reverse.1 hj) hl
        | none =>
          rw [hl] at ht
          simp only [look_append] at ht
          cases hl2 : look env t with
          | some u =>
            rw [hl2] at ht
            injection ht with ht
            rw [← ht]
            exact hC.env t u hl2
          | none =>
            rw [hl2] at ht
            simp only [look_allEnv] at ht
            split at ht
            · injection ht
            · cases ht
      have hfull : ∀ t, t < n → ∃ u, look E t = some u := by
        intro t htn
        rw [← hE, look_append, look_append, look_allEnv, if_pos htn]
        split
        · exact ⟨_, rfl⟩
        · split
          · exact ⟨_, rfl⟩
          · exact ⟨_, rfl⟩
      have hoks : opsOk n [o] = true := by
        have hod : o.dst = some d := by
          have := dstAt_eq L i
          rw [hd, ho] at this
          simpa using this.symm
        simp only [opsOk, hod]
        have : Nat.blt d n = true := by simpa using hdn
        rw [this]
      have hrun := hJ hoks a hRel
      rw [hw] at hrun
      -- what the operation leaves serves the rest
      have hnext : ∀ a' w', DStop n E W1 (dstD L i) (spD sp i) a' w' → wpOps P L.toArray (Done P fin K) (Region.linearise.go .any L.toArray f (t / (rdy L ls).length) (ls.setIfInBounds i true) []) a' w' := by
        rintro a' w' ⟨W2, v, hw2, he2, hr2, hok2, hm2⟩
        rw [dstD_of hd] at hr2
        have hsame : ∀ t, t ≠ d → a'.tmps.getD t undef = a.tmps.getD t undef := by
          intro t htd
          by_cases htn : t < n
          · obtain ⟨u, hu⟩ := hfull t htn
            rw [hRel.has t u hu]
            exact hr2.has t u (by rw [look_cons, if_neg htd]; exact hu)
          · have h1 : ¬ t < a.tmps.size := by rw [hC.size]; exact htn
            have h2 : ¬ t < a'.tmps.size := by rw [hr2.size]; exact htn
            simp [Array.getD, h1, h2]
        have hisz : i < ls.size := by omega
        have hset : ∀ j, (ls.setIfInBounds i true).getD j false = if j = i then true else ls.getD j false := by
          intro j
          by_cases hji : j = i
          · subst hji; simp [Array.getD, hisz]
          · rw [if_neg hji]
            by_cases hjs : j < ls.size
            · simp [Array.getD, hjs, Array.getElem_setIfInBounds, Ne.symm hji]
            · simp [Array.getD, hjs]
        refine ih _ _ a' w' (by simpa using hs) (fun j hj => by rw [hset, if_neg (by omega)]; exact hb j hj) (fun x hx hlx j hj => ?_) ?_ ⟨⟨W2, fun j => if j = i then v else vals j, hw2, he.trans he2, fun j hj hlj => ?_⟩, hr2.defers, hr2.size, fun t u ht => ?_⟩
        · rw [hset] at hlx ⊢
          by_cases hji : j = i
          · rw [if_pos hji]
          · rw [if_neg hji]
            by_cases hxi : x = i
            · subst hxi
              exact hdep j (by rw [← hdi]; exact hj)
            · rw [if_neg hxi] at hlx
              exact hcl x hx hlx j hj
        · have hlt2 : (List.range L.length).countP (fun j => !(ls.setIfInBounds i true).getD j false) < (List.range L.length).countP (fun j => !ls.getD j false) :=
            countP_lt (List.mem_range.2 hil) (by simp [hli]) (by simp [hset]) (fun j hj => by
              rw [hset] at hj
              by_cases hji : j = i
              · rw [if_pos hji] at hj; cases hj
              · rw [if_neg hji] at hj; exact hj)
          have hge : (List.range L.length).countP (fun j => !ls.getD j false) ≤ (List.range L.length).countP (fun j => !(ls.setIfInBounds i true).getD j false) + 1 := by
            have : ∀ l : List Nat, l.Nodup → l.countP (fun j => !ls.getD j false) ≤ l.countP (fun j => !(ls.setIfInBounds i true).getD j false) + (if i ∈ l then 1 else 0) := by
              intro l
              induction l with
              | nil => intro _; simp
              | cons x l ih2 =>
                intro hnd
                have hnd2 := List.nodup_cons.1 hnd
                have := ih2 hnd2.2
                rw [List.countP_cons, List.countP_cons]
                by_cases hxi : x = i
                · subst hxi
                  rw [if_neg hnd2.1] at this
                  have e1 : (!ls.getD x false) = true := by rw [hli]; rfl
                  have e2 : (!(ls.setIfInBounds x true).getD x false) = false := by rw [hset, if_pos rfl]; rfl
                  rw [e1, e2, if_pos rfl, if_neg (by simp), if_pos (List.mem_cons_self ..)]
                  omega
                · have e : (!(ls.setIfInBounds i true).getD x false) = !ls.getD x false := by rw [hset, if_neg hxi]
                  rw [e]
                  have hm : (i ∈ x :: l) ↔ i ∈ l := by simp [Ne.symm hxi]
                  by_cases hil2 : i ∈ l
                  · rw [if_pos (hm.2 hil2)]; rw [if_pos hil2] at this; omega
                  · rw [if_neg (fun h => hil2 (hm.1 h))]; rw [if_neg hil2] at this; omega
            have := this (List.range L.length) List.nodup_range
            rw [if_pos (List.mem_range.2 hil)] at this
            exact this
          omega
        · by_cases hji : j = i
          · subst hji
            refine ⟨by simpa using hok2, hm2, ?_⟩
            rw [dstD_of hd]
            simpa using hr2.has d v (by rw [look_cons, if_pos rfl])
          · simp only [hset, if_neg hji] at hlj
            obtain ⟨g1, g2, g3⟩ := hv j hj hlj
            refine ⟨by simpa [hji] using Sp.up g2 he2 g1, g2, ?_⟩
            have hne : dstD L j ≠ d := by
              obtain ⟨dj, hdj, _, hjj⟩ := F.dst j hj
              rw [dstD_of hdj]
              by_cases hlt3 : j < i
              · obtain ⟨e, hee, hne⟩ := hdd j hlt3
                rw [hdj] at hee; injection hee with hee; rw [hee]; exact fun h => hne h.symm
              · obtain ⟨e, hee, hne⟩ := hjj i (by omega)
                rw [hd] at hee; injection hee with hee; rw [hee]; exact hne
            rw [hsame _ hne, g3]
            simp [hji]
        · have htd : t ≠ d := by
            intro h; subst h; rw [hde] at ht; cases ht
          rw [hsame t htd]
          exact hC.env t u ht
      simp only [wpL] at hrun
      split
      · rename_i hwant
        rw [if_pos hwant] at hrun
        exact .inl (Oper.wp_mono2 (fun a' w' h => hnext a' w' h) (fun e a' w' hne h => by cases e <;> first | exact absurd rfl hne | exact h) hrun)
      · rename_i hwant
        rw [if_neg hwant] at hrun
        exact hnext _ _ hrun

theorem J.drawR [mx : Mx P] {id : Nat} {L : List Oper} (sp : List Sp) (rk : List Nat) (hchk : cloudOkR n env L rk sp.length = true) (hk : Nat.ble sp.length L.length = true) (cloud : CloudH P n L K fin sp env W 0 L sp)
    (tail : ∀ W1, Lk1 W W1 → Ext W W1 → WithD L sp W1 (List.range sp.length) env fun E => JO P n L.toArray (L.drop sp.length) K fin E W1) : J P n (.c (.region id L.toArray true) :: K) fin env W := by
  intro a ha
  refine wp_region_draw fun t => ?_
  have hs : Region.schedule (P.follows .mixedOrders) L.toArray t = Region.linearise.go .any L.toArray L.length t (Array.replicate L.length false) [] := by
    rw [mx.h]
    simp [Region.schedule, Region.linearise]
  rw [hs]
  have hf : ∀ i, (Array.replicate L.length false).getD i false = false := by
    intro i
    by_cases h : i < L.length <;> simp [Array.getD, h]
  refine draw_coreR (cloudG (Nat.le_of_ble_eq_true hk) hchk) (Nat.le_of_ble_eq_true hk) cloud (fun W1 e => tail W1 ⟨e.toLeK⟩ e) L.length t _ a W.tick.w (by simp) (fun i _ => hf i) (fun i _ h => by rw [hf] at h; cases h) ?_
    ⟨⟨W.tick, fun _ => undef, rfl, tick_ext W, fun i _ h => by rw [hf] at h; cases h⟩, ha.defers, ha.size, ha.has⟩
  have := cnt_range 0 L.length (fun i => !(Array.replicate L.length false).getD i false) (fun j hj => by omega) (fun j _ => by rw [hf]; rfl)
  rw [this]; rfl
end
section
variable {P : Program} {n : Nat} {ops : Array Oper} {l : List Oper} {K : List Kt} {fin : Exit → Act → World → Prop} {env : Env} {W : GW}
variable {d : Nat} {ty : TypeId} {pos : String} {aft : Array Edge}
/-- the place of an element, once for all -/
theorem Sl.place {α : Type} {r : Rep α} {p : Option Addr} {m c j : Nat} {xs : List α} {u : α} (hs : Sl r W p m c xs) (hj : xs[j]? = some u) :
    ∃ b off, p = some ⟨b, off, none⟩ ∧ j < m ∧ ∀ W' : GW, LeF W W' → ∃ cs, r.At W' cs u ∧ ∀ i v, cs[i]? = some v → W'.w.cell? ⟨b, off + j * r.size + i, none⟩ = some v := by
  obtain ⟨b, off, cs, hp, hc, hv⟩ := hs.cells hj
  refine ⟨b, off, hp, hs.lt hj, fun W' l => ?_⟩
  obtain ⟨b', off', cs', hp', hc', hv'⟩ := (hs.mono l).cells hj
  rw [hp] at hp'
  injection hp' with hp'
  injection hp' with h1 h2 _
  subst h1; subst h2
  exact ⟨cs', hc', fun i v hi => by rw [Nat.add_assoc]; exact hv' i v hi⟩
/-- a load of a datum from such a place -/
theorem O.ldP {α : Type} {r : Rep α} {T sz : Nat} {ag : Bool} {z : List Value} {x : Operand} {b off : Nat} {u : α} [i : TVar P T sz ag z] (hx : get env x = some (.pointer (some ⟨b, off, none⟩)))
    (h : ∃ cs, r.At W cs u ∧ ∀ i v, cs[i]? = some v → W.w.cell? ⟨b, off + i, none⟩ = some v) (hr : r.size = sz) (hg : r.agg = ag) (h1 : ag = false → sz = 1)
    (k : ∀ v, V r W v u → JO P n ops l K fin ((d, v) :: env) W) : JO P n ops (⟨some d, .load T x, ty, pos, aft, none⟩ :: l) K fin env W := by
  obtain ⟨cs, hc, hv⟩ := h
  exact O.ld (i := i) (b := b) (off := off) (cs := cs) hx (by rw [r.len hc, hr]) hv h1 (k _ ⟨cs, hc, by rw [hg]⟩)
theorem D.exE {E : Env} {v v' : Value} (h : v = v') : JO P n ops [] (.l (DStop n E W d (.ex v')) :: K) fin ((d, v) :: E) W := h ▸ D.ex
/-- a store into a variable, with its frame -/
theorem O.stX {T sz b : Nat} {ag : Bool} {z : List Value} {x y : Operand} {v : Value} [i : TVar P T sz ag z] (hx : get env x = some (.pointer (some ⟨b, 0, none⟩))) (hy : get env y = some v)
    (hl : Loc W b sz) (hs : v.cells.toList.length = sz) (h1 : ∀ u ∈ v.cells.toList, oneC u = true)
    (k : ∀ W', Lk1 W W' → Cnt W' b v.cells.toList → OnlyB b W W' → W.size ≤ W'.size → JO P n ops l K fin env W') : JO P n ops (⟨none, .store T x y, ty, pos, aft, none⟩ :: l) K fin env W := by
  obtain ⟨cs, ⟨U, hb⟩, hsz⟩ := hl.h
  have hr := run_storeVar (P := P) (T := T) (off := 0) (v := v) hb hs (by omega) h1
  rw [spl_full _ _ (by omega)] at hr
  refine JO.unit (W' := W.put b (.cells v.cells.toList.toArray U (0, 0))) (fun a ha => ?_)
    (k _ ⟨put_lek W b _ _ U (0, 0) hb hl.A hl.m (by simp; simpa using hs.trans hsz.symm)⟩ ⟨U, heap_put_self _ _ _ (lt_of_heap hb)⟩ (fun k' _ hk' => heap_put _ _ _ _ hk') (by rw [GW.size_put]; exact Nat.le_refl _))
  simp only [execOp, ha.get hx, ha.get hy, Instr.storeAt, Instr.sureAddr]
  rw [Sem.run_bind, Sem.run_bind]
  show Result.andThen (Result.andThen (Result.ok _ _) _) _ = _
  simp only [Result.andThen_ok]
  rw [hr]
  rfl
theorem Cnt.only {W W' : GW} {b b2 : Nat} {cs : List Value} (h : Cnt W b2 cs) (o : OnlyB b W W') (hne : b2 ≠ b) : Cnt W' b2 cs := by
  obtain ⟨T, hb⟩ := h
  exact ⟨T, by rw [o b2 (lt_of_heap hb) hne]; exact hb⟩
/-- what a function returns that it has made -/
theorem Ows.ret {α : Type} {r : Rep α} {W0 W1 W' : GW} {p : Option Addr} {m c : Nat} {xs : List α} [i : En W0 W1] [j : Le W1 W] (h : Ows r W p m c xs) (iE : Ex W W') (iO : Own1 W W') : OwnR r W0 W' (.slice p m c) xs := by
  refine ⟨p, m, c, rfl, h.out iE iO, ?_⟩
  intro a ha hc
  rcases h.h with h0 | ⟨b, cs, T, hp, hA, hm, _⟩
  · omega
  · rw [hp] at ha
    injection ha with ha
    subst ha
    rw [(out_le i j.s).2.1] at hm
    exact hm
theorem OwnR.me {α : Type} {r : Rep α} {W0 : GW} {xs : List α} : MonoR (fun W v => OwnR r W0 W v xs) := fun _ _ _ e ⟨p, m, c, h1, h2, h3⟩ => ⟨p, m, c, h1, h2.ext e, h3⟩
end
end Go.Rx

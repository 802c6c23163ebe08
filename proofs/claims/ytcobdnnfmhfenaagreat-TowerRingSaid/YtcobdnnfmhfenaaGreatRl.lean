/- A statement whose order Go leaves open, where one operation may come late. -/
import Derived.Test.YtcobdnnfmhfenaaGreatRu
set_option linter.unusedVariables false
set_option linter.unusedSimpArgs false
namespace Go.Rx
open Go
section
variable {P : Program} {n : Nat} {K : List Kt} {fin : Exit → Act → World → Prop} {env : Env} {W : GW}
theorem opsOk_drop (k : Nat) (l : List Oper) (h : opsOk n l = true) : opsOk n (l.drop k) = true := by
  induction k generalizing l with
  | zero => simpa using h
  | succ k ih => cases l with
    | nil => simpa using h
    | cons o l => simp only [List.drop_succ_cons]; exact ih l (JO.unok h)
theorem cl_doneS {L : List Oper} {sp : List Sp} {ls : Nat → Bool} {a : Act} {w : World} (Fok : opsOk n L = true) (h : Cl n L sp env W ls a w) (js : List Nat) (M : List Oper) (hM : opsOk n M = true) (hall : ∀ j ∈ js, j < sp.length ∧ ls j = true)
    (tail : ∀ W1, Ext W W1 → WithD L sp W1 js env fun E => JO P n L.toArray M K fin E W1) : wpL P L.toArray (Done P fin K) M a w := by
  obtain ⟨W1, vals, hw, he, hv⟩ := h.ex
  have h1 := WithD.use vals js (fun j hj => (hv j (hall j hj).1 (hall j hj).2).1) (tail W1 he)
  rw [← hw]
  refine h1 hM a ⟨h.defers, h.size, fun t v ht => ?_⟩
  rw [look_append] at ht
  have key : ∀ js' : List Nat, (∀ j ∈ js', j ∈ js) → ∀ u, look (js'.map fun j => (dstD L j, vals j)) t = some u → a.tmps.getD t undef = u := by
    intro js'
    induction js' with
    | nil => intro _ u hu; simp [look] at hu
    | cons j js' ih =>
      intro hj u hu
      simp only [List.map_cons] at hu
      rw [look_cons] at hu
      have hj1 := hall j (hj j (List.mem_cons_self ..))
      by_cases hts : t = dstD L j
      · rw [if_pos hts] at hu
        injection hu with hu
        rw [hts, (hv j hj1.1 hj1.2).2.2, hu]
      · rw [if_neg hts] at hu
        exact ih (fun x hx => hj x (List.mem_cons_of_mem _ hx)) u hu
  cases hl : look ((js.reverse.map fun j => (dstD L j, vals j))) t with
  | some u =>
    rw [hl] at ht
    injection ht with ht
    rw [← ht]
    exact key _ (fun j hj => List.mem_reverse.1 hj) u hl
  | none =>
    rw [hl] at ht
    exact h.env t v ht
theorem cnt_but {k m lt : Nat} {p : Nat → Bool} (h1 : ∀ j, j < k → j ≠ lt → p j = false) (hl : p lt = true) (h2 : ∀ j, k ≤ j → p j = true) (hlk : lt < k) (hkm : k ≤ m) : (List.range m).countP p = m - k + 1 := by
  have key : ∀ m, (List.range m).countP p = (if lt < m then 1 else 0) + (m - k) := by
    intro m
    induction m with
    | zero => simp
    | succ m ih =>
      rw [List.range_succ, List.countP_append, ih]
      have e : p m = if m < k then decide (m = lt) else true := by
        by_cases h : m < k
        · rw [if_pos h]
          by_cases hm : m = lt
          · subst hm; simp [hl]
          · simp [hm, h1 m h hm]
        · rw [if_neg h]; exact h2 m (by omega)
      simp only [List.countP_cons, List.countP_nil, e]
      by_cases h : m < k
      · rw [if_pos h]
        by_cases hm : m = lt
        · subst hm; simp; omega
        · have : (lt < m + 1) ↔ (lt < m) := by omega
          simp only [hm, this, decide_false]
          simp; omega
      · rw [if_neg h]
        have h3 : lt < m := by omega
        have h4 : lt < m + 1 := by omega
        simp [h3, h4]; omega
  rw [key m, if_pos (by omega)]; omega
/-- The closed facts: the first k operations in whatever order; operation lt may also come behind operation k. -/
def cloudOkL (n : Nat) (env : Env) (L : List Oper) (k lt : Nat) : Bool :=
  opsOk n L && (List.range L.length).all (fun i => (depsAt L i).all (fun j => Nat.blt j i)) &&
  (List.range k).all (fun i => match dstAt L i with
    | some d => !inE env d && (List.range i).all (fun j => match dstAt L j with | some e => !(Nat.beq d e) | none => false)
    | none => false) &&
  (List.range L.length).all (fun i => Nat.ble i k || (depsAt L i).contains (i - 1)) && (Nat.ble L.length k || (List.range k).all (fun j => Nat.beq j lt || (cloudOk.ancs L (L.length) k).contains j)) &&
  (Nat.blt lt k && (Nat.ble L.length (k + 1) || (depsAt L (k + 1)).contains lt)) && (opsOk n (pickL L (k :: lt :: List.range' (k + 1) (L.length - k - 1))) && inL L (k :: lt :: List.range' (k + 1) (L.length - k - 1)))
structure CloudL (n : Nat) (env : Env) (L : List Oper) (k lt : Nat) : Prop where
  ok : opsOk n L = true
  low : ∀ i, i < L.length → ∀ j ∈ depsAt L i, j < i
  dst : ∀ i, i < k → ∃ d, dstAt L i = some d ∧ look env d = none ∧ ∀ j, j < i → ∃ e, dstAt L j = some e ∧ d ≠ e
  tail : ∀ m, k < m → m < L.length → m - 1 ∈ depsAt L m
  anc : k < L.length → ∀ j, j < k → j ≠ lt → j ∈ cloudOk.ancs L L.length k
  lk : lt < k
  l1 : k + 1 < L.length → lt ∈ depsAt L (k + 1)
  ok2 : opsOk n (pickL L (k :: lt :: List.range' (k + 1) (L.length - k - 1))) = true
  in2 : inL L (k :: lt :: List.range' (k + 1) (L.length - k - 1)) = true
theorem cloudL {n : Nat} {env : Env} {L : List Oper} {k lt : Nat} (h : cloudOkL n env L k lt = true) : CloudL n env L k lt := by
  simp only [cloudOkL, Bool.and_eq_true] at h
  obtain ⟨⟨⟨⟨⟨⟨h1, h2⟩, h3⟩, h4⟩, h5⟩, h6, h7⟩, h8, h9⟩ := h
  refine ⟨h1, fun i hi j hj => ?_, fun i hi => ?_, fun m hm hm2 => ?_, fun hk j hj hjl => ?_, by simpa using h6, fun hk => ?_, h8, h9⟩
  · have := List.all_eq_true.1 h2 i (List.mem_range.2 hi)
    have := List.all_eq_true.1 this j hj
    simpa using this
  · have := List.all_eq_true.1 h3 i (List.mem_range.2 hi)
    split at this
    · rename_i d hd
      rw [Bool.and_eq_true] at this
      obtain ⟨g1, g2⟩ := this
      refine ⟨d, hd, ?_, fun j hj => ?_⟩
      · cases hl : look env d with
        | none => rfl
        | some v => simp [inE, hl] at g1
      · have := List.all_eq_true.1 g2 j (List.mem_range.2 hj)
        split at this
        · rename_i e he
          refine ⟨e, he, ?_⟩
          intro h; subst h; simp at this
        · cases this
    · cases this
  · have := List.all_eq_true.1 h4 m (List.mem_range.2 hm2)
    rw [Bool.or_eq_true] at this
    rcases this with h | h
    · have := Nat.le_of_ble_eq_true h; omega
    · simpa using h
  · rw [Bool.or_eq_true] at h5
    rcases h5 with h | h
    · have := Nat.le_of_ble_eq_true h; omega
    · have := List.all_eq_true.1 h j (List.mem_range.2 hj)
      rw [Bool.or_eq_true] at this
      rcases this with h | h
      · exact absurd (Nat.eq_of_beq_eq_true h) hjl
      · simpa using h
  · rw [Bool.or_eq_true] at h7
    rcases h7 with h | h
    · have := Nat.le_of_ble_eq_true h; omega
    · simpa using h
theorem draw_coreL {lt : Nat} {L : List Oper} {sp : List Sp} (F : CloudL n env L sp.length lt) (hk : sp.length ≤ L.length) (cloud : CloudH P n L K fin sp env W 0 L sp)
    (tail : ∀ W1, Ext W W1 → WithD L sp W1 (List.range sp.length) env fun E => JO P n L.toArray (L.drop sp.length) K fin E W1)
    (tailB : ∀ W1, Ext W W1 → WithD L sp W1 ((List.range sp.length).filter (fun j => !Nat.beq j lt)) env fun E => JO P n L.toArray (pickL L (sp.length :: lt :: List.range' (sp.length + 1) (L.length - sp.length - 1))) K fin E W1) (f : Nat) :
    ∀ (t : Nat) (ls : Array Bool) (a : Act) (w : World), ls.size = L.length → (∀ i, sp.length ≤ i → ls.getD i false = false) →
      (∀ i, i < L.length → ls.getD i false = true → ∀ j ∈ depsAt L i, ls.getD j false = true) →
      (List.range L.length).countP (fun i => !ls.getD i false) = f → Cl n L sp env W (fun i => ls.getD i false) a w →
      wpOps P L.toArray (Done P fin K) (Region.linearise.go .any L.toArray f t ls []) a w := by
  induction f with
  | zero =>
    intro t ls a w hs hb hcl hcnt hC
    have hall : ∀ j, j < L.length → ls.getD j false = true := by
      intro j hj
      have := List.countP_eq_zero.1 hcnt j (List.mem_range.2 hj)
      simpa using this
    have hkk : L.length = sp.length := by
      by_cases h : L.length ≤ sp.length
      · omega
      · have := hall sp.length (by omega)
        rw [hb sp.length (Nat.le_refl _)] at this; cases this
    have h1 := cl_doneS F.ok hC (List.range sp.length) (L.drop sp.length) (opsOk_drop _ _ F.ok) (fun j hj => ⟨List.mem_range.1 hj, hall j (by have := List.mem_range.1 hj; omega)⟩) tail
    rw [List.drop_eq_nil_of_le (by omega)] at h1
    simpa [Region.linearise.go, wpOps, wpL] using h1
  | succ f ih =>
    intro t ls a w hs hb hcl hcnt hC
    by_cases hall : ∀ j, j < sp.length → ls.getD j false = true
    · have hcount : L.length - sp.length = f + 1 := by
        rw [← hcnt]
        exact (cnt_range sp.length L.length (fun i => !ls.getD i false) (fun j hj => by simp [hall j hj]) (fun j hj => by simp [hb j hj])).symm
      rw [go_tail F.low (f + 1) sp.length t ls hs (by omega) hall hb F.tail]
      have h1 := wpOps_of (P := P) (ops := L.toArray) (Q := Done P fin K) (L.drop sp.length) sp.length a w (by simp) (cl_doneS F.ok hC (List.range sp.length) (L.drop sp.length) (opsOk_drop _ _ F.ok) (fun j hj => ⟨List.mem_range.1 hj, hall j (List.mem_range.1 hj)⟩) tail)
      rw [List.length_drop, hcount] at h1
      exact h1
    · have hex : ∃ j, j < sp.length ∧ ls.getD j false = false := by
        apply Classical.byContradiction
        intro hn
        apply hall
        intro j hj
        cases hv : ls.getD j false with
        | true => rfl
        | false => exact absurd ⟨j, hj, hv⟩ hn
      obtain ⟨j0, ⟨hj0, hj1⟩, hmin⟩ := exists_min _ hex
      have hready : j0 ∈ rdy L ls := by
        rw [rdy_mem hs]
        have hlt : j0 < L.length := by omega
        refine ⟨L[j0], List.getElem?_eq_getElem hlt, hj1, fun j hj => ?_⟩
        have hjl := F.low j0 hlt j (by rw [depsAt_eq L j0 _ (List.getElem?_eq_getElem hlt)]; exact hj)
        cases hv : ls.getD j false with
        | true => rfl
        | false => have := hmin j ⟨by omega, hv⟩; omega
      have hpos : 0 < (rdy L ls).length := List.length_pos_of_mem hready
      have hgo : Region.linearise.go .any L.toArray (f + 1) t ls [] = match (rdy L ls)[t % (rdy L ls).length]? with | some i => Region.linearise.go .any L.toArray f (t / (rdy L ls).length) (ls.setIfInBounds i true) [i] | none => [] := rfl
      have hlt := Nat.mod_lt t hpos
      rw [hgo, List.getElem?_eq_getElem hlt]
      generalize hi : (rdy L ls)[t % (rdy L ls).length] = i
      have him : i ∈ rdy L ls := by rw [← hi]; exact List.getElem_mem hlt
      obtain ⟨o, ho, hli, hdep⟩ := (rdy_mem hs).1 him
      have hil : i < L.length := by
        by_cases h : i < L.length
        · exact h
        · rw [List.getElem?_eq_none (by omega)] at ho; cases ho
      have hdi := depsAt_eq L i o ho
      by_cases hik : i < sp.length
      case neg =>
        have hi0 : i = sp.length := by
          apply Classical.byContradiction
          intro he
          have := hdep (i - 1) (by rw [← hdi]; exact F.tail i (by omega) hil)
          rw [hb (i - 1) (by omega)] at this; cases this
        subst hi0
        have hothers : ∀ j, j < sp.length → j ≠ lt → ls.getD j false = true := fun j hj hjl =>
          ancs_listed (L := L) (p := fun i => ls.getD i false) hcl F.low L.length _ hil (fun j hj => hdep j (by rw [← hdi]; exact hj)) j (F.anc hil j hj hjl)
        have hltf : ls.getD lt false = false := by
          cases hv : ls.getD lt false with
          | false => rfl
          | true => exact absurd (fun j hj => by by_cases h : j = lt; subst h; exact hv; exact hothers j hj h) hall
        have hcount : f + 1 = L.length - sp.length + 1 := by
          rw [← hcnt]
          exact cnt_but (fun j hj hj2 => by simp [hothers j hj hj2]) (by simp [hltf]) (fun j hj => by simp [hb j hj]) F.lk hk
        have hisz : sp.length < ls.size := by omega
        have hset : ∀ (ls : Array Bool) (i : Nat), i < ls.size → ∀ j, (ls.setIfInBounds i true).getD j false = if j = i then true else ls.getD j false := by
          intro ls i hisz j
          by_cases hji : j = i
          · subst hji; simp [Array.getD, hisz]
          · rw [if_neg hji]
            by_cases hjs : j < ls.size
            · simp [Array.getD, hjs, Array.getElem_setIfInBounds, Ne.symm hji]
            · simp [Array.getD, hjs]
        simp only []
        rw [go_acc]
        obtain ⟨g, rfl⟩ : ∃ g, f = g + 1 := ⟨f - 1, by omega⟩
        have hr2 : rdy L (ls.setIfInBounds sp.length true) = [lt] := by
          have hs2 : (ls.setIfInBounds sp.length true).size = L.length := by simpa using hs
          have hmem : ∀ x, x ∈ rdy L (ls.setIfInBounds sp.length true) ↔ x = lt := by
            intro x
            rw [rdy_mem hs2]
            constructor
            · rintro ⟨o', ho', hx, hd⟩
              have hx1 : x < L.length := by
                by_cases h : x < L.length
                · exact h
                · rw [List.getElem?_eq_none (by omega)] at ho'; cases ho'
              rw [hset ls _ hisz] at hx
              apply Classical.byContradiction
              intro hxl
              by_cases hxk : x = sp.length
              · rw [if_pos hxk] at hx; cases hx
              · rw [if_neg hxk] at hx
                by_cases hlt3 : x < sp.length
                · rw [hothers x hlt3 hxl] at hx; cases hx
                · by_cases hx2 : x = sp.length + 1
                  · have := hd lt (by rw [← depsAt_eq L x o' ho', hx2]; exact F.l1 (by omega))
                    rw [hset ls _ hisz, if_neg (by have := F.lk; omega), hltf] at this; cases this
                  · have := hd (x - 1) (by rw [← depsAt_eq L x o' ho']; exact F.tail x (by omega) hx1)
                    rw [hset ls _ hisz, if_neg (by omega), hb (x - 1) (by omega)] at this; cases this
            · rintro rfl
              have hx1 : x < L.length := by have := F.lk; omega
              refine ⟨L[x], List.getElem?_eq_getElem hx1, by rw [hset ls _ hisz, if_neg (by have := F.lk; omega)]; exact hltf, fun j hj => ?_⟩
              have hjx := F.low x hx1 j (by rw [depsAt_eq L x _ (List.getElem?_eq_getElem hx1)]; exact hj)
              rw [hset ls _ hisz]
              split
              · rfl
              · exact hothers j (by have := F.lk; omega) (by omega)
          have hnd : (rdy L (ls.setIfInBounds sp.length true)).Nodup := List.Pairwise.filter _ List.nodup_range
          match hq : rdy L (ls.setIfInBounds sp.length true) with
          | [] => have := (hmem lt).2 rfl; rw [hq] at this; cases this
          | [x] => have := (hmem x).1 (by rw [hq]; exact List.mem_cons_self ..); rw [this]
          | x :: y :: r =>
            have e1 := (hmem x).1 (by rw [hq]; exact List.mem_cons_self ..)
            have e2 := (hmem y).1 (by rw [hq]; simp)
            rw [hq] at hnd
            have := (List.nodup_cons.1 hnd).1
            rw [e1, e2] at this
            simp at this
        have hgo2 : ∀ t2, Region.linearise.go .any L.toArray (g + 1) t2 (ls.setIfInBounds sp.length true) [] = match (rdy L (ls.setIfInBounds sp.length true))[t2 % (rdy L (ls.setIfInBounds sp.length true)).length]? with | some i => Region.linearise.go .any L.toArray g (t2 / (rdy L (ls.setIfInBounds sp.length true)).length) ((ls.setIfInBounds sp.length true).setIfInBounds i true) [i] | none => [] := fun _ => rfl
        rw [hgo2, hr2]
        simp only [List.length_cons, List.length_nil, Nat.zero_add, Nat.mod_one, List.getElem?_cons_zero]
        rw [go_acc]
        have hlsz : lt < (ls.setIfInBounds sp.length true).size := by have := F.lk; simp; omega
        rw [go_tail F.low g (sp.length + 1) _ _ (by simpa using hs) (by omega) (fun j hj => by
            rw [hset _ _ hlsz, hset ls _ hisz]
            split
            · rfl
            · split
              · rfl
              · exact hothers j (by omega) (by assumption)) (fun j hj => by
            rw [hset _ _ hlsz, hset ls _ hisz, if_neg (by have := F.lk; omega), if_neg (by omega)]
            exact hb j (by omega)) (fun m hm hm2 => F.tail m (by omega) hm2)]
        have h1 := cl_doneS F.ok hC ((List.range sp.length).filter (fun j => !Nat.beq j lt)) _ (F.ok2) (fun j hj => by
          obtain ⟨g1, g2⟩ := List.mem_filter.1 hj
          have hjl : j ≠ lt := fun e => by subst e; simp at g2
          exact ⟨List.mem_range.1 g1, hothers j (List.mem_range.1 g1) hjl⟩) tailB
        have h2 := wpOps_pick _ F.in2 _ _ h1
        have e3 : g = L.length - sp.length - 1 := by omega
        rw [e3]
        exact h2
      case pos =>
        simp only []
        rw [go_acc]
        show wpOps P L.toArray (Done P fin K) (i :: _) a w
        have ho' : L.toArray[i]? = some o := by simpa using ho
        simp only [wpOps, ho']
        obtain ⟨W1, vals, hw, he, hv⟩ := hC.ex
        obtain ⟨o2, ho2, hcl2⟩ := cloud.at' (fun j hj => by rw [Nat.zero_add]) hik
        rw [ho] at ho2
        injection ho2 with ho2
        subst ho2
        simp only [Nat.zero_add] at hcl2
        obtain ⟨d, hd, hde, hdd⟩ := F.dst i hik
        have hdn : d < n := by
          have : ∀ (l : List Oper) (i : Nat), opsOk n l = true → dstAt l i = some d → d < n := by
            intro l
            induction l with
            | nil => intro i _ h; simp [dstAt] at h
            | cons x l ih2 =>
              intro i hx h
              cases i with
              | zero =>
                simp only [dstAt] at h
                simp only [opsOk, h] at hx
                split at hx
                · rename_i hb; simpa using hb
                · cases hx
              | succ i => exact ih2 i (JO.unok hx) (by simpa [dstAt] using h)
          exact this L i F.ok hd
        have hdk : ∀ j ∈ depsD o, j < sp.length := fun j hj => by
          have := F.low i hil j (by rw [hdi]; exact hj); omega
        have hJ := WithD.use vals (depsD o) (fun j hj => (hv j (hdk j hj) (hdep j hj)).1) (hcl2 W1 ⟨he.toLeK⟩ he (allEnv a.tmps n))
        generalize hE : ((depsD o).reverse.map fun j => (dstD L j, vals j)) ++ (env ++ allEnv a.tmps n) = E at hJ
        have hRel : Rel n E a := by
          refine ⟨hC.defers, hC.size, fun t v ht => ?_⟩
          rw [← hE, look_append] at ht
          cases hl : look ((depsD o).reverse.map fun j => (dstD L j, vals j)) t with
          | some u =>
            rw [hl] at ht
            injection ht with ht
            rw [← ht]
            have key : ∀ js : List Nat, (∀ j ∈ js, j ∈ depsD o) → look (js.map fun j => (dstD L j, vals j)) t = some u → a.tmps.getD t undef = u := by
              intro js
              induction js with
              | nil => intro _ hu; simp [look] at hu
              | cons j js ih2 =>
                intro hj hu
                simp only [List.map_cons] at hu
                rw [look_cons] at hu
                have hj1 := hj j (List.mem_cons_self ..)
                by_cases hts : t = dstD L j
                · rw [if_pos hts] at hu
                  injection hu with hu
                  rw [hts, (hv j (hdk j hj1) (hdep j hj1)).2.2, hu]
                · rw [if_neg hts] at hu
                  exact ih2 (fun x hx => hj x (List.mem_cons_of_mem _ hx)) hu
            exact key _ (fun j hj => List.mem_reverse.1 hj) hl
          | none =>
            rw [hl] at ht
            simp only [look_append] at ht
            cases hl2 : look env t with
            | some u =>
              rw [hl2] at ht
              injection ht with ht
              rw [← ht]
              exact hC.env t u hl2
            | none =>
              rw [hl2] at ht
              simp only [look_allEnv] at ht
              split at ht
              · injection ht
              · cases ht
        have hfull : ∀ t, t < n → ∃ u, look E t = some u := by
          intro t htn
          rw [← hE, look_append, look_append, look_allEnv, if_pos htn]
          split
          · exact ⟨_, rfl⟩
          · split
            · exact ⟨_, rfl⟩
            · exact ⟨_, rfl⟩
        have hoks : opsOk n [o] = true := by
          have hod : o.dst = some d := by
            have := dstAt_eq L i
            rw [hd, ho] at this
            simpa using this.symm
          simp only [opsOk, hod]
          have : Nat.blt d n = true := by simpa using hdn
          rw [this]
        have hrun := hJ hoks a hRel
        rw [hw] at hrun
        -- what the operation leaves serves the rest
        have hnext : ∀ a' w', DStop n E W1 (dstD L i) (spD sp i) a' w' → wpOps P L.toArray (Done P fin K) (Region.linearise.go .any L.toArray f (t / (rdy L ls).length) (ls.setIfInBounds i true) []) a' w' := by
          rintro a' w' ⟨W2, v, hw2, he2, hr2, hok2, hm2⟩
          rw [dstD_of hd] at hr2
          have hsame : ∀ t, t ≠ d → a'.tmps.getD t undef = a.tmps.getD t undef := by
            intro t htd
            by_cases htn : t < n
            · obtain ⟨u, hu⟩ := hfull t htn
              rw [hRel.has t u hu]
              exact hr2.has t u (by rw [look_cons, if_neg htd]; exact hu)
            · have h1 : ¬ t < a.tmps.size := by rw [hC.size]; exact htn
              have h2 : ¬ t < a'.tmps.size := by rw [hr2.size]; exact htn
              simp [Array.getD, h1, h2]
          have hisz : i < ls.size := by omega
          have hset : ∀ j, (ls.setIfInBounds i true).getD j false = if j = i then true else ls.getD j false := by
            intro j
            by_cases hji : j = i
            · subst hji; simp [Array.getD, hisz]
            · rw [if_neg hji]
              by_cases hjs : j < ls.size
              · simp [Array.getD, hjs, Array.getElem_setIfInBounds, Ne.symm hji]
              · simp [Array.getD, hjs]
          refine ih _ _ a' w' (by simpa using hs) (fun j hj => by rw [hset, if_neg (by omega)]; exact hb j hj) (fun x hx hlx j hj => ?_) ?_ ⟨⟨W2, fun j => if j = i then v else vals j, hw2, he.trans he2, fun j hj hlj => ?_⟩, hr2.defers, hr2.size, fun t u ht => ?_⟩
          · rw [hset] at hlx ⊢
            by_cases hji : j = i
            · rw [if_pos hji]
            · rw [if_neg hji]
              by_cases hxi : x = i
              · subst hxi
                exact hdep j (by rw [← hdi]; exact hj)
              · rw [if_neg hxi] at hlx
                exact hcl x hx hlx j hj
          · have hlt2 : (List.range L.length).countP (fun j => !(ls.setIfInBounds i true).getD j false) < (List.range L.length).countP (fun j => !ls.getD j false) :=
              countP_lt (List.mem_range.2 hil) (by simp [hli]) (by simp [hset]) (fun j hj => by
                rw [hset] at hj
                by_cases hji : j = i
                · rw [if_pos hji] at hj; cases hj
                · rw [if_neg hji] at hj; exact hj)
            have hge : (List.range L.length).countP (fun j => !ls.getD j false) ≤ (List.range L.length).countP (fun j => !(ls.setIfInBounds i true).getD j false) + 1 := by
              have : ∀ l : List Nat, l.Nodup → l.countP (fun j => !ls.getD j false) ≤ l.countP (fun j => !(ls.setIfInBounds i true).getD j false) + (if i ∈ l then 1 else 0) := by
                intro l
                induction l with
                | nil => intro _; simp
                | cons x l ih2 =>
                  intro hnd
                  have hnd2 := List.nodup_cons.1 hnd
                  have := ih2 hnd2.2
                  rw [List.countP_cons, List.countP_cons]
                  by_cases hxi : x = i
                  · subst hxi
                    rw [if_neg hnd2.1] at this
                    have e1 : (!ls.getD x false) = true := by rw [hli]; rfl
                    have e2 : (!(ls.setIfInBounds x true).getD x false) = false := by rw [hset, if_pos rfl]; rfl
                    rw [e1, e2, if_pos rfl, if_neg (by simp), if_pos (List.mem_cons_self ..)]
                    omega
                  · have e : (!(ls.setIfInBounds i true).getD x false) = !ls.getD x false := by rw [hset, if_neg hxi]
                    rw [e]
                    have hm : (i ∈ x :: l) ↔ i ∈ l := by simp [Ne.symm hxi]
                    by_cases hil2 : i ∈ l
                    · rw [if_pos (hm.2 hil2)]; rw [if_pos hil2] at this; omega
                    · rw [if_neg (fun h => hil2 (hm.1 h))]; rw [if_neg hil2] at this; omega
              have := this (List.range L.length) List.nodup_range
              rw [if_pos (List.mem_range.2 hil)] at this
              exact this
            omega
          · by_cases hji : j = i
            · subst hji
              refine ⟨by simpa using hok2, hm2, ?_⟩
              rw [dstD_of hd]
              simpa using hr2.has d v (by rw [look_cons, if_pos rfl])
            · simp only [hset, if_neg hji] at hlj
              obtain ⟨g1, g2, g3⟩ := hv j hj hlj
              refine ⟨by simpa [hji] using Sp.up g2 he2 g1, g2, ?_⟩
              have hne : dstD L j ≠ d := by
                obtain ⟨dj, hdj, _, hjj⟩ := F.dst j hj
                rw [dstD_of hdj]
                by_cases hlt3 : j < i
                · obtain ⟨e, hee, hne⟩ := hdd j hlt3
                  rw [hdj] at hee; injection hee with hee; rw [hee]; exact fun h => hne h.symm
                · obtain ⟨e, hee, hne⟩ := hjj i (by omega)
                  rw [hd] at hee; injection hee with hee; rw [hee]; exact hne
              rw [hsame _ hne, g3]
              simp [hji]
          · have htd : t ≠ d := by
              intro h; subst h; rw [hde] at ht; cases ht
            rw [hsame t htd]
            exact hC.env t u ht
        simp only [wpL] at hrun
        split
        · rename_i hwant
          rw [if_pos hwant] at hrun
          exact .inl (Oper.wp_mono2 (fun a' w' h => hnext a' w' h) (fun e a' w' hne h => by cases e <;> first | exact absurd rfl hne | exact h) hrun)
        · rename_i hwant
          rw [if_neg hwant] at hrun
          exact hnext _ _ hrun

theorem J.drawL [mx : Mx P] {id : Nat} {L : List Oper} (sp : List Sp) (lt : Nat) (hchk : cloudOkL n env L sp.length lt = true) (hk : Nat.ble sp.length L.length = true) (cloud : CloudH P n L K fin sp env W 0 L sp)
    (tail : ∀ W1, Lk1 W W1 → Ext W W1 → WithD L sp W1 (List.range sp.length) env fun E => JO P n L.toArray (L.drop sp.length) K fin E W1)
    (tailB : ∀ W1, Lk1 W W1 → Ext W W1 → WithD L sp W1 ((List.range sp.length).filter (fun j => !Nat.beq j lt)) env fun E => JO P n L.toArray (pickL L (sp.length :: lt :: List.range' (sp.length + 1) (L.length - sp.length - 1))) K fin E W1) : J P n (.c (.region id L.toArray true) :: K) fin env W := by
  intro a ha
  refine wp_region_draw fun t => ?_
  have hs : Region.schedule (P.follows .mixedOrders) L.toArray t = Region.linearise.go .any L.toArray L.length t (Array.replicate L.length false) [] := by
    rw [mx.h]
    simp [Region.schedule, Region.linearise]
  rw [hs]
  have hf : ∀ i, (Array.replicate L.length false).getD i false = false := by
    intro i
    by_cases h : i < L.length <;> simp [Array.getD, h]
  refine draw_coreL (cloudL hchk) (Nat.le_of_ble_eq_true hk) cloud (fun W1 e => tail W1 ⟨e.toLeK⟩ e) (fun W1 e => tailB W1 ⟨e.toLeK⟩ e) L.length t _ a W.tick.w (by simp) (fun i _ => hf i) (fun i _ h => by rw [hf] at h; cases h) ?_
    ⟨⟨W.tick, fun _ => undef, rfl, tick_ext W, fun i _ h => by rw [hf] at h; cases h⟩, ha.defers, ha.size, ha.has⟩
  have := cnt_range 0 L.length (fun i => !(Array.replicate L.length false).getD i false) (fun j hj => by omega) (fun j _ => by rw [hf]; rfl)
  rw [this]; rfl
end
end Go.Rx

/- Rules: &^, and a piece of code that only reads a slice of the function's own. -/
import Derived.Test.YtcaikjefkkejbaaGreatRl
set_option linter.unusedVariables false
set_option linter.unusedSimpArgs false
namespace Go.Rx
open Go
section
theorem bv_andNot (w x y : Nat) (hx : x < 2 ^ w) (hy : y < 2 ^ w) (h : x &&& y = y) : (BitVec.ofInt w (x : Int) &&& ~~~ BitVec.ofInt w (y : Int)).toNat = x - y := by
  have e : ∀ z : Nat, z < 2 ^ w → (BitVec.ofInt w (z : Int)).toNat = z := by
    intro z hz
    rw [BitVec.ofInt_natCast, BitVec.toNat_ofNat, Nat.mod_eq_of_lt hz]
  have e2 : BitVec.ofInt w (x : Int) &&& ~~~ BitVec.ofInt w (y : Int) = BitVec.ofInt w (x : Int) - BitVec.ofInt w (y : Int) := by
    have h1 : BitVec.ofInt w (x : Int) &&& BitVec.ofInt w (y : Int) = BitVec.ofInt w (y : Int) := by
      apply BitVec.eq_of_toNat_eq
      rw [BitVec.toNat_and, e x hx, e y hy, h]
    generalize BitVec.ofInt w (x : Int) = a at *
    generalize BitVec.ofInt w (y : Int) = b at *
    have h2 : (a &&& ~~~ b) + (a &&& b) = a := by
      rw [BitVec.add_eq_or_of_and_eq_zero]
      · apply BitVec.eq_of_getElem_eq; intro i hi; simp; cases a[i] <;> cases b[i] <;> simp
      · apply BitVec.eq_of_getElem_eq; intro i hi; simp; cases a[i] <;> cases b[i] <;> simp
    rw [h1] at h2
    rw [← h2, BitVec.add_sub_cancel, h2]
  have hle : y ≤ x := by rw [← h]; exact Nat.and_le_left
  rw [e2, BitVec.toNat_sub_of_le, e x hx, e y hy]
  rw [BitVec.le_def, e x hx, e y hy]; exact hle
section
variable {P : Program} {n : Nat} {ops : Array Oper} {l : List Oper} {K : List Kt} {fin : Exit → Act → World → Prop} {env : Env} {W : GW}
variable {d : Nat} {ty : TypeId} {pos : String} {aft : Array Edge}
theorem O.andNot {x y : Operand} {T T' : TypeId} {k' : IntKind} {p q : Nat} {pi qi r : Int} (hx : get env x = some (.int k' pi)) (hy : get env y = some (.int k' qi)) (hp : pi = (p : Int)) (hq : qi = (q : Int)) (hpl : p < 2 ^ k'.bits) (hql : q < 2 ^ k'.bits) (h : p &&& q = q)
    (hr : k'.wrap ((p - q : Nat) : Int) = r) (k : JO P n ops l K fin ((d, .int k' r) :: env) W) : JO P n ops (⟨some d, .binOp .andNot T x y T', ty, pos, aft, none⟩ :: l) K fin env W := by
  subst hp; subst hq
  have e := bv_andNot k'.bits p q hpl hql h
  have he : ∀ op : BinOp, op = .andNot → (Op.intBits op k' (p : Int) (q : Int)) = pure (.int k' r) := by
    intro op ho
    subst ho
    simp only [Op.intBits, e, hr]
  exact JO.value (fun a ha => by simp only [execOp, ha.get hx, ha.get hy, eqGuard, binOp, he]; simp [bind, pure, Sem.bind]) k
/-- a piece of code that only reads what block b holds -/
theorem J.lendC {α β : Type} {r : Rep β} {c : Code} {b m cc : Nat} {xs : List β} (E : α → Env) (I : α → Prop) (ho : Ows r W (some ⟨b, 0, none⟩) m cc xs) (h0 : 0 < m)
    (k1 : ∀ Wl, Le1 W Wl → Wl.w = W.w → Sl r Wl (some ⟨b, 0, none⟩) m cc xs → J P n (.c c :: .l (At n E fun x W2 => Ext Wl W2 ∧ I x) :: K) fin env Wl)
    (k2 : ∀ x W', Lk1 W W' → Ext W W' → I x → J P n K fin (E x) W') : J P n (.c c :: K) fin env W := by
  obtain ⟨hbA, hbs, hbm, hpub⟩ := ho.lend h0
  refine J.cut (W := W) E (fun x W2 => ∃ W', W'.w = W2.w ∧ Ext W W' ∧ I x) (fun a ha => ?_) fun x W2 h => ?_
  · have := k1 (W.pubB b) ⟨pubB_le W b hbm⟩ rfl hpub a ha
    refine wp_mono this ?_
    intro e a' w' h
    cases e <;> first | exact h | skip
    obtain ⟨x, W2, hw, hr, hE, hI⟩ := h
    refine ⟨x, W2, hw, hr, { w := W2.w, A := b :: W2.A, m := W2.m, hA := fun k hk => ?_, hm := W2.hm }, rfl, ?_, hI⟩
    · rcases List.mem_cons.1 hk with rfl | hk
      · exact Nat.lt_of_lt_of_le hbs hE.size
      · exact W2.hA k hk
    · have hkeep : ∀ k, k ∈ W.A → k ∈ b :: W2.A := by
        intro k hk
        by_cases hkb : k = b
        · subst hkb; exact List.mem_cons_self ..
        · exact List.mem_cons_of_mem _ (hE.keep k (List.mem_filter.2 ⟨hk, by simpa using hkb⟩))
      refine { os := hE.os, out := hE.out, tape := hE.tape, m := hE.m, size := hE.size, same := fun k hk _ => hE.all k hk, stay := fun k hk hn hm => ?_, prot := fun k _ hk => hkeep k hk, row := hE.row, keep := hkeep, all := hE.all }
      rcases List.mem_cons.1 hm with rfl | hm
      · exact hn hbA
      · exact hE.stay k hk (fun hf => hn (List.mem_filter.1 hf).1) hm
  · obtain ⟨W', hw, hE, hI⟩ := h
    intro a ha
    have := k2 x W' ⟨hE.toLeK⟩ hE hI a ha
    rw [hw] at this
    exact this
theorem Pc.eqw {α : Type} {r : Rep α} {W W' : GW} {b : Nat} {x : α} (h : Pc r W b x) (hw : W'.w = W.w) [i : Le1 W W'] : Pc r W' b x := by
  obtain ⟨cs, hc, T, hb⟩ := h
  exact ⟨cs, r.mono ‹Le1 W W'›.s.f hc, T, by rw [hw]; exact hb⟩
theorem Pc.only {α : Type} {r : Rep α} {W W' : GW} {b b2 : Nat} {x : α} (h : Pc r W b x) (o : OnlyB b2 W W') (hne : b ≠ b2) [i : Lk1 W W'] : Pc r W' b x := by
  obtain ⟨cs, hc, hb⟩ := h
  exact ⟨cs, r.mono ‹Lk1 W W'›.s.f hc, hb.only o hne⟩
end
end
section
def subsL : List Nat → List (List Nat)
  | [] => [[]]
  | x :: r => (subsL r).flatMap fun s => [s, x :: s]
theorem subsL_filter (p : Nat → Bool) : ∀ l : List Nat, l.filter p ∈ subsL l
  | [] => List.mem_singleton.2 rfl
  | x :: r => by
    have ih := subsL_filter p r
    simp only [subsL, List.mem_flatMap]
    refine ⟨_, ih, ?_⟩
    rw [List.filter_cons]
    split <;> simp
/-- what is done once operation k is done, all of N being late -/
def lsArr (m k : Nat) (N : List Nat) : Array Bool := ((List.range m).map fun j => Nat.ble j k && !(N.contains j)).toArray
def cloudOkM (n : Nat) (L : List Oper) (k : Nat) (lt : List Nat) (alts : List (List Nat × List (List Nat))) : Bool :=
  opsOk n L && ((List.range L.length).all fun i => (depsAt L i).all fun j => Nat.blt j L.length) && ((List.range (k + 1)).all fun i => (depsAt L i).all fun j => Nat.blt j i) &&
  ((List.range k).all fun i => match dstAt L i with
    | some d => (List.range i).all (fun j => match dstAt L j with | some e => !(Nat.beq d e) | none => false)
    | none => false) &&
  ((List.range L.length).all fun i => Nat.ble i k || (depsAt L i).contains (i - 1)) && Nat.blt k L.length && ((List.range k).filter (fun j => lt.contains j) == lt) &&
  ((List.range k).all fun j => lt.contains j || (cloudOk.ancs L L.length k).contains j) &&
  ((subsL lt).all fun N => !((List.range k).all fun x => N.contains x || (depsAt L x).all fun j => !N.contains j) || (alts.any fun a => a.1 == N)) &&
  (alts.all fun a => (lins L (L.length - k - 1 + a.1.length) (lsArr L.length k a.1) == a.2) && a.2.all fun s => opsOk n (pickL L (k :: s)) && inL L (k :: s))
def envOkM (env : Env) (L : List Oper) (k : Nat) : Bool := (List.range k).all fun i => match dstAt L i with
  | some d => !inE env d
  | none => false
structure CloudM (n : Nat) (env : Env) (L : List Oper) (k : Nat) (lt : List Nat) (alts : List (List Nat × List (List Nat))) : Prop where
  ok : opsOk n L = true
  inb : ∀ i, i < L.length → ∀ j ∈ depsAt L i, j < L.length
  low : ∀ i, i ≤ k → ∀ j ∈ depsAt L i, j < i
  rank : ∀ i, i < k → ∀ j ∈ depsAt L i, j < k ∧ j < i
  dst : ∀ i, i < k → ∃ d, dstAt L i = some d ∧ look env d = none ∧ ∀ j, j < i → ∃ e, dstAt L j = some e ∧ d ≠ e
  tail : ∀ m, k < m → m < L.length → m - 1 ∈ depsAt L m
  klt : k < L.length
  lts : (List.range k).filter (fun j => lt.contains j) = lt
  anc : ∀ j, j < k → lt.contains j = false → j ∈ cloudOk.ancs L L.length k
  sub : ∀ N ∈ subsL lt, (∀ x, x < k → N.contains x = false → ∀ j ∈ depsAt L x, N.contains j = false) → ∃ ss, (N, ss) ∈ alts
  alt : ∀ a ∈ alts, lins L (L.length - k - 1 + a.1.length) (lsArr L.length k a.1) = a.2 ∧ ∀ s ∈ a.2, opsOk n (pickL L (k :: s)) = true ∧ inL L (k :: s) = true
theorem cloudM {n : Nat} {env : Env} {L : List Oper} {k : Nat} {lt : List Nat} {alts : List (List Nat × List (List Nat))} (h : cloudOkM n L k lt alts = true) (he : envOkM env L k = true) : CloudM n env L k lt alts := by
  simp only [cloudOkM, Bool.and_eq_true] at h
  obtain ⟨⟨⟨⟨⟨⟨⟨⟨⟨h1, h2⟩, h3⟩, h4⟩, h5⟩, h6⟩, h7⟩, h8⟩, h9⟩, h10⟩ := h
  have low : ∀ i, i ≤ k → ∀ j ∈ depsAt L i, j < i := fun i hi j hj => by
    have := List.all_eq_true.1 h3 i (List.mem_range.2 (by omega))
    simpa using List.all_eq_true.1 this j hj
  refine ⟨h1, fun i hi j hj => ?_, low, fun i hi j hj => ⟨by have := low i (by omega) j hj; omega, low i (by omega) j hj⟩, fun i hi => ?_, fun m hm hm2 => ?_, by simpa using h6, by simpa using h7, fun j hj hl => ?_, fun N hN hc => ?_, fun a ha => ?_⟩
  · have := List.all_eq_true.1 h2 i (List.mem_range.2 hi)
    simpa using List.all_eq_true.1 this j hj
  · have g1 := List.all_eq_true.1 h4 i (List.mem_range.2 hi)
    have g2 := List.all_eq_true.1 he i (List.mem_range.2 hi)
    cases hd : dstAt L i with
    | none => simp only [hd] at g1; cases g1
    | some d =>
      simp only [hd] at g1 g2
      refine ⟨d, rfl, ?_, fun j hj => ?_⟩
      · cases hl : look env d with
        | none => rfl
        | some v => simp [inE, hl] at g2
      · have := List.all_eq_true.1 g1 j (List.mem_range.2 hj)
        cases he : dstAt L j with
        | none => simp only [he] at this; cases this
        | some e =>
          simp only [he] at this
          refine ⟨e, rfl, ?_⟩
          intro h; subst h; simp at this
  · have := List.all_eq_true.1 h5 m (List.mem_range.2 hm2)
    rw [Bool.or_eq_true] at this
    rcases this with h | h
    · have := Nat.le_of_ble_eq_true h; omega
    · simpa using h
  · have := List.all_eq_true.1 h8 j (List.mem_range.2 hj)
    rw [hl, Bool.false_or] at this
    simpa using this
  · have := List.all_eq_true.1 h9 N hN
    rw [Bool.or_eq_true] at this
    rcases this with h | h
    · exfalso
      have hall : ((List.range k).all fun x => N.contains x || (depsAt L x).all fun j => !N.contains j) = true := List.all_eq_true.2 fun x hx => by
        cases hnx : N.contains x with
        | true => rfl
        | false =>
          rw [Bool.false_or]
          exact List.all_eq_true.2 fun j hj => by rw [hc x (List.mem_range.1 hx) hnx j hj]; rfl
      rw [hall] at h; cases h
    · obtain ⟨a, ha, he⟩ := List.any_eq_true.1 h
      have he : a.1 = N := by simpa using he
      exact ⟨a.2, by rw [← he]; exact ha⟩
  · have := List.all_eq_true.1 h10 a ha
    rw [Bool.and_eq_true] at this
    refine ⟨by simpa using this.1, fun s hs => ?_⟩
    have := List.all_eq_true.1 this.2 s hs
    simpa using this
section
variable {P : Program} {n : Nat} {K : List Kt} {fin : Exit → Act → World → Prop} {env : Env} {W : GW}
theorem cl_doneM {L : List Oper} {sp : List Sp} {fl : List Bool} {ls : Nat → Bool} {a : Act} {w : World} (h : ClN n L sp fl env W ls a w) (js : List Nat) (hnd : js.Nodup) (M : List Oper) (hM : opsOk n M = true) (hall : ∀ j ∈ js, j < sp.length ∧ ls j = true)
    (tail : ∀ W1, Ext W W1 → WithN L sp fl W1 js [] env fun E => JO P n L.toArray M K fin E W1) : wpL P L.toArray (Done P fin K) M a w := by
  obtain ⟨W1, vals, hw, he, hv, hp, hq⟩ := h.ex
  have h1 := WithN.use vals js (fun j hj => (hv j (hall j hj).1 (hall j hj).2).1) (fun i j hi hj hfi hfj hne => hq i j (hall i hi).1 (hall j hj).1 (hall i hi).2 (hall j hj).2 hfi hfj hne) hnd (fun _ _ _ y hy => by cases hy) (tail W1 he)
  rw [← hw]
  refine h1 hM a ⟨h.defers, h.size, fun t v ht => ?_⟩
  rw [look_append] at ht
  have key : ∀ js' : List Nat, (∀ j ∈ js', j ∈ js) → ∀ u, look (js'.map fun j => (dstD L j, vals j)) t = some u → a.tmps.getD t undef = u := by
    intro js'
    induction js' with
    | nil => intro _ u hu; simp [look] at hu
    | cons j js' ih =>
      intro hj u hu
      simp only [List.map_cons] at hu
      rw [look_cons] at hu
      have hj1 := hall j (hj j (List.mem_cons_self ..))
      by_cases hts : t = dstD L j
      · rw [if_pos hts] at hu
        injection hu with hu
        rw [hts, (hv j hj1.1 hj1.2).2.2, hu]
      · rw [if_neg hts] at hu
        exact ih (fun x hx => hj x (List.mem_cons_of_mem _ hx)) u hu
  cases hl : look ((js.reverse.map fun j => (dstD L j, vals j))) t with
  | some u =>
    rw [hl] at ht
    injection ht with ht
    rw [← ht]
    exact key _ (fun j hj => List.mem_reverse.1 hj) u hl
  | none =>
    rw [hl] at ht
    exact h.env t v ht
theorem draw_coreM {lt : List Nat} {alts : List (List Nat × List (List Nat))} {L : List Oper} {sp : List Sp} {fl : List Bool} (F : CloudM n env L sp.length lt alts) (cloud : CloudHN P n L K fin sp env W 0 L sp fl)
    (tail : ∀ a ∈ alts, ∀ s ∈ a.2, ∀ W1, Ext W W1 → WithN L sp fl W1 ((List.range sp.length).filter fun j => !a.1.contains j) [] env fun E => JO P n L.toArray (pickL L (sp.length :: s)) K fin E W1) (f : Nat) :
    ∀ (t : Nat) (ls : Array Bool) (a : Act) (w : World), ls.size = L.length → (∀ i, sp.length ≤ i → ls.getD i false = false) →
      (∀ i, i < L.length → ls.getD i false = true → ∀ j ∈ depsAt L i, ls.getD j false = true) →
      (List.range L.length).countP (fun i => !ls.getD i false) = f → ClN n L sp fl env W (fun i => ls.getD i false) a w →
      wpOps P L.toArray (Done P fin K) (Region.linearise.go .any L.toArray f t ls []) a w := by
  induction f with
  | zero =>
    intro t ls a w hs hb hcl hcnt hC
    exfalso
    have := List.countP_eq_zero.1 hcnt sp.length (List.mem_range.2 F.klt)
    rw [hb sp.length (Nat.le_refl _)] at this
    simp at this
  | succ f ih =>
    intro t ls a w hs hb hcl hcnt hC
    obtain ⟨j0, ⟨hj0, hj1⟩, hmin⟩ := exists_min (fun j => j < L.length ∧ ls.getD j false = false) ⟨sp.length, F.klt, hb _ (Nat.le_refl _)⟩
    have hj0k : j0 ≤ sp.length := hmin _ ⟨F.klt, hb _ (Nat.le_refl _)⟩
    have hready : j0 ∈ rdy L ls := by
      rw [rdy_mem hs]
      refine ⟨L[j0], List.getElem?_eq_getElem hj0, hj1, fun j hj => ?_⟩
      have hjl := F.low j0 hj0k j (by rw [depsAt_eq L j0 _ (List.getElem?_eq_getElem hj0)]; exact hj)
      cases hv : ls.getD j false with
      | true => rfl
      | false => have := hmin j ⟨by omega, hv⟩; omega
    have hpos : 0 < (rdy L ls).length := List.length_pos_of_mem hready
    have hgo : Region.linearise.go .any L.toArray (f + 1) t ls [] = match (rdy L ls)[t % (rdy L ls).length]? with | some i => Region.linearise.go .any L.toArray f (t / (rdy L ls).length) (ls.setIfInBounds i true) [i] | none => [] := rfl
    have hlt := Nat.mod_lt t hpos
    rw [hgo, List.getElem?_eq_getElem hlt]
    generalize hi : (rdy L ls)[t % (rdy L ls).length] = i
    have him : i ∈ rdy L ls := by rw [← hi]; exact List.getElem_mem hlt
    obtain ⟨o, ho, hli, hdep⟩ := (rdy_mem hs).1 him
    have hil : i < L.length := by
      by_cases h : i < L.length
      · exact h
      · rw [List.getElem?_eq_none (by omega)] at ho; cases ho
    have hdi := depsAt_eq L i o ho
    by_cases hik : i < sp.length
    case neg =>
      have hi0 : i = sp.length := by
        apply Classical.byContradiction
        intro he
        have := hdep (i - 1) (by rw [← hdi]; exact F.tail i (by omega) hil)
        rw [hb (i - 1) (by omega)] at this; cases this
      subst hi0
      simp only []
      rw [go_acc]
      show wpOps P L.toArray (Done P fin K) (sp.length :: _) a w
      have hdone : ∀ j, j < sp.length → lt.contains j = false → ls.getD j false = true := fun j hj hjl =>
        ancs_listedR (L := L) (p := fun i => ls.getD i false) hcl F.inb L.length _ hil (fun j hj => hdep j (by rw [← hdi]; exact hj)) j (F.anc j hj hjl)
      generalize hN : (List.range sp.length).filter (fun j => !ls.getD j false) = N
      have hNm : ∀ j, N.contains j = true ↔ j < sp.length ∧ ls.getD j false = false := by
        intro j
        rw [List.contains_iff_mem, ← hN, List.mem_filter, List.mem_range]
        simp
      have hNs : N ∈ subsL lt := by
        have e : N = lt.filter (fun j => !ls.getD j false) := by
          rw [← hN, ← F.lts, List.filter_filter]
          apply List.filter_congr
          intro j hj
          have hj := List.mem_range.1 hj
          cases hv : ls.getD j false with
          | true => rfl
          | false =>
            cases hc : lt.contains j with
            | true => rfl
            | false => have := hdone j hj hc; rw [hv] at this; cases this
        rw [e]; exact subsL_filter _ _
      have hNf : ∀ j, N.contains j = false → j < sp.length → ls.getD j false = true := by
        intro j h1 h2
        cases hv : ls.getD j false with
        | true => rfl
        | false => have := (hNm j).2 ⟨h2, hv⟩; rw [h1] at this; cases this
      obtain ⟨ss, hss⟩ := F.sub N hNs (fun x hx hnx j hj => by
        cases hc : N.contains j with
        | false => rfl
        | true =>
          have h1 := ((hNm j).1 hc).2
          have h2 := hcl x (by have := F.klt; omega) (hNf x hnx hx) j hj
          rw [h1] at h2; cases h2)
      obtain ⟨hl1, hl2⟩ := F.alt _ hss
      have hf : f = L.length - sp.length - 1 + N.length := by
        have e0 : ∀ a b : Nat, List.range (a + b) = List.range a ++ List.range' a b := fun a b => by rw [List.range_eq_range', List.range_eq_range', ← List.range'_append_1, Nat.zero_add]
        have e := e0 sp.length (L.length - sp.length)
        rw [show sp.length + (L.length - sp.length) = L.length from by have := F.klt; omega] at e
        have h1 : (List.range' sp.length (L.length - sp.length)).countP (fun i => !ls.getD i false) = L.length - sp.length := by
          rw [List.countP_eq_length.2, List.length_range']
          intro j hj
          have := (List.mem_range'_1.1 hj).1
          rw [hb j this]; rfl
        have h2 : (List.range sp.length).countP (fun i => !ls.getD i false) = N.length := by rw [List.countP_eq_length_filter, hN]
        rw [e, List.countP_append, h1, h2] at hcnt
        have := F.klt
        omega
      have harr : ls.setIfInBounds sp.length true = lsArr L.length sp.length N := by
        have hsz : (ls.setIfInBounds sp.length true).size = (lsArr L.length sp.length N).size := by rw [Array.size_setIfInBounds, hs]; simp [lsArr]
        apply Array.ext hsz
        intro j h1 h2
        have hj : j < L.length := by simpa [hs] using h1
        have e2 : (lsArr L.length sp.length N)[j] = (Nat.ble j sp.length && !(N.contains j)) := by simp [lsArr]
        have e4 : (ls.setIfInBounds sp.length true)[j] = if sp.length = j then true else ls[j]'(by rw [hs]; exact hj) := Array.getElem_setIfInBounds (by rw [hs]; exact hj)
        rw [e2, e4]
        have e3 : ls[j]'(by omega) = ls.getD j false := by simp [Array.getD, hs, hj]
        split
        · rename_i hjk
          subst hjk
          cases hc : N.contains sp.length with
          | true => have := ((hNm _).1 hc).1; omega
          | false => simp
        · rename_i hjk
          rw [e3]
          by_cases hjl : j < sp.length
          · rw [show Nat.ble j sp.length = true from Nat.ble_eq_true_of_le (by omega), Bool.true_and]
            cases hc : N.contains j with
            | true => rw [((hNm j).1 hc).2]; rfl
            | false => rw [hNf j hc hjl]; rfl
          · rw [hb j (by omega), show Nat.ble j sp.length = false from by
              cases h : Nat.ble j sp.length with
              | false => rfl
              | true => have := Nat.le_of_ble_eq_true h; omega]
            rfl
      have hmem := go_lins L f (t / (rdy L ls).length) (ls.setIfInBounds sp.length true)
      rw [harr, hf, hl1, ← hf] at hmem
      rw [harr]
      obtain ⟨hm1, hm2⟩ := hl2 _ hmem
      exact wpOps_pick _ hm2 _ _ (cl_doneM hC ((List.range sp.length).filter fun j => !N.contains j) (List.Pairwise.filter _ List.nodup_range) _ hm1 (fun j hj => by
        obtain ⟨g1, g2⟩ := List.mem_filter.1 hj
        have g1 := List.mem_range.1 g1
        exact ⟨g1, hNf j (by simpa using g2) g1⟩) (tail _ hss _ hmem))
    case pos =>
      simp only []
      rw [go_acc]
      show wpOps P L.toArray (Done P fin K) (i :: _) a w
      have ho' : L.toArray[i]? = some o := by simpa using ho
      simp only [wpOps, ho']
      obtain ⟨W1, vals, hw, he, hv, hp, hq⟩ := hC.ex
      obtain ⟨o2, ho2, hcl2⟩ := cloud.at' (fl := fl) (fun j hj => by rw [Nat.zero_add]) (fun j hj => by rw [Nat.zero_add]) hik
      rw [ho] at ho2
      injection ho2 with ho2
      subst ho2
      simp only [Nat.zero_add] at hcl2
      obtain ⟨d, hd, hde, hdd⟩ := F.dst i hik
      have hdn : d < n := by
        have : ∀ (l : List Oper) (i : Nat), opsOk n l = true → dstAt l i = some d → d < n := by
          intro l
          induction l with
          | nil => intro i _ h; simp [dstAt] at h
          | cons x l ih2 =>
            intro i hx h
            cases i with
            | zero =>
              simp only [dstAt] at h
              simp only [opsOk, h] at hx
              split at hx
              · rename_i hb; simpa using hb
              · cases hx
            | succ i => exact ih2 i (JO.unok hx) (by simpa [dstAt] using h)
        exact this L i F.ok hd
      have hdk : ∀ j ∈ depsD o, j < sp.length := fun j hj => by
        exact (F.rank i hik j (by rw [hdi]; exact hj)).1
      have hJ := WithD.use vals (depsD o) (fun j hj => (hv j (hdk j hj) (hdep j hj)).1) (hcl2 W1 ⟨he.toLeK⟩ he (allEnv a.tmps n))
      generalize hE : ((depsD o).reverse.map fun j => (dstD L j, vals j)) ++ (env ++ allEnv a.tmps n) = E at hJ
      have hRel : Rel n E a := by
        refine ⟨hC.defers, hC.size, fun t v ht => ?_⟩
        rw [← hE, look_append] at ht
        cases hl : look ((depsD o).reverse.map fun j => (dstD L j, vals j)) t with
        | some u =>
          rw [hl] at ht
          injection ht with ht
          rw [← ht]
          have key : ∀ js : List Nat, (∀ j ∈ js, j ∈ depsD o) → look (js.map fun j => (dstD L j, vals j)) t = some u → a.tmps.getD t undef = u := by
            intro js
            induction js with
            | nil => intro _ hu; simp [look] at hu
            | cons j js ih2 =>
              intro hj hu
              simp only [List.map_cons] at hu
              rw [look_cons] at hu
              have hj1 := hj j (List.mem_cons_self ..)
              by_cases hts : t = dstD L j
              · rw [if_pos hts] at hu
                injection hu with hu
                rw [hts, (hv j (hdk j hj1) (hdep j hj1)).2.2, hu]
              · rw [if_neg hts] at hu
                exact ih2 (fun x hx => hj x (List.mem_cons_of_mem _ hx)) hu
          exact key _ (fun j hj => List.mem_reverse.1 hj) hl
        | none =>
          rw [hl] at ht
          simp only [look_append] at ht
          cases hl2 : look env t with
          | some u =>
            rw [hl2] at ht
            injection ht with ht
            rw [← ht]
            exact hC.env t u hl2
          | none =>
            rw [hl2] at ht
            simp only [look_allEnv] at ht
            split at ht
            · injection ht
            · cases ht
      have hfull : ∀ t, t < n → ∃ u, look E t = some u := by
        intro t htn
        rw [← hE, look_append, look_append, look_allEnv, if_pos htn]
        split
        · exact ⟨_, rfl⟩
        · split
          · exact ⟨_, rfl⟩
          · exact ⟨_, rfl⟩
      have hoks : opsOk n [o] = true := by
        have hod : o.dst = some d := by
          have := dstAt_eq L i
          rw [hd, ho] at this
          simpa using this.symm
        simp only [opsOk, hod]
        have : Nat.blt d n = true := by simpa using hdn
        rw [this]
      have hrun := hJ hoks a hRel
      rw [hw] at hrun
      -- what the operation leaves serves the rest
      have hnext : ∀ a' w', DStopF (flD fl i) n E W1 (dstD L i) (spD sp i) a' w' → wpOps P L.toArray (Done P fin K) (Region.linearise.go .any L.toArray f (t / (rdy L ls).length) (ls.setIfInBounds i true) []) a' w' := by
        rintro a' w' hst
        obtain ⟨W2, v, hw2, he2, hr2, hok2, hm2, hnew⟩ := hst.get
        rw [dstD_of hd] at hr2
        have hsame : ∀ t, t ≠ d → a'.tmps.getD t undef = a.tmps.getD t undef := by
          intro t htd
          by_cases htn : t < n
          · obtain ⟨u, hu⟩ := hfull t htn
            rw [hRel.has t u hu]
            exact hr2.has t u (by rw [look_cons, if_neg htd]; exact hu)
          · have h1 : ¬ t < a.tmps.size := by rw [hC.size]; exact htn
            have h2 : ¬ t < a'.tmps.size := by rw [hr2.size]; exact htn
            simp [Array.getD, h1, h2]
        have hisz : i < ls.size := by omega
        have hset : ∀ j, (ls.setIfInBounds i true).getD j false = if j = i then true else ls.getD j false := by
          intro j
          by_cases hji : j = i
          · subst hji; simp [Array.getD, hisz]
          · rw [if_neg hji]
            by_cases hjs : j < ls.size
            · simp [Array.getD, hjs, Array.getElem_setIfInBounds, Ne.symm hji]
            · simp [Array.getD, hjs]
        refine ih _ _ a' w' (by simpa using hs) (fun j hj => by rw [hset, if_neg (by omega)]; exact hb j hj) (fun x hx hlx j hj => ?_) ?_ ⟨⟨W2, fun j => if j = i then v else vals j, hw2, he.trans he2, fun j hj hlj => ?_, fun j hj hlj hfj => ?_, fun x y hx hy hlx hly hfx hfy hxy => ?_⟩, hr2.defers, hr2.size, fun t u ht => ?_⟩
        · rw [hset] at hlx ⊢
          by_cases hji : j = i
          · rw [if_pos hji]
          · rw [if_neg hji]
            by_cases hxi : x = i
            · subst hxi
              exact hdep j (by rw [← hdi]; exact hj)
            · rw [if_neg hxi] at hlx
              exact hcl x hx hlx j hj
        · have hlt2 : (List.range L.length).countP (fun j => !(ls.setIfInBounds i true).getD j false) < (List.range L.length).countP (fun j => !ls.getD j false) :=
            countP_lt (List.mem_range.2 hil) (by simp [hli]) (by simp [hset]) (fun j hj => by
              rw [hset] at hj
              by_cases hji : j = i
              · rw [if_pos hji] at hj; cases hj
              · rw [if_neg hji] at hj; exact hj)
          have hge : (List.range L.length).countP (fun j => !ls.getD j false) ≤ (List.range L.length).countP (fun j => !(ls.setIfInBounds i true).getD j false) + 1 := by
            have : ∀ l : List Nat, l.Nodup → l.countP (fun j => !ls.getD j false) ≤ l.countP (fun j => !(ls.setIfInBounds i true).getD j false) + (if i ∈ l then 1 else 0) := by
              intro l
              induction l with
              | nil => intro _; simp
              | cons x l ih2 =>
                intro hnd
                have hnd2 := List.nodup_cons.1 hnd
                have := ih2 hnd2.2
                rw [List.countP_cons, List.countP_cons]
                by_cases hxi : x = i
                · subst hxi
                  rw [if_neg hnd2.1] at this
                  have e1 : (!ls.getD x false) = true := by rw [hli]; rfl
                  have e2 : (!(ls.setIfInBounds x true).getD x false) = false := by rw [hset, if_pos rfl]; rfl
                  rw [e1, e2, if_pos rfl, if_neg (by simp), if_pos (List.mem_cons_self ..)]
                  omega
                · have e : (!(ls.setIfInBounds i true).getD x false) = !ls.getD x false := by rw [hset, if_neg hxi]
                  rw [e]
                  have hm : (i ∈ x :: l) ↔ i ∈ l := by simp [Ne.symm hxi]
                  by_cases hil2 : i ∈ l
                  · rw [if_pos (hm.2 hil2)]; rw [if_pos hil2] at this; omega
                  · rw [if_neg (fun h => hil2 (hm.1 h))]; rw [if_neg hil2] at this; omega
            have := this (List.range L.length) List.nodup_range
            rw [if_pos (List.mem_range.2 hil)] at this
            exact this
          omega
        · by_cases hji : j = i
          · subst hji
            refine ⟨by simpa using hok2, hm2, ?_⟩
            rw [dstD_of hd]
            simpa using hr2.has d v (by rw [look_cons, if_pos rfl])
          · simp only [hset, if_neg hji] at hlj
            obtain ⟨g1, g2, g3⟩ := hv j hj hlj
            refine ⟨by simpa [hji] using Sp.up g2 he2 g1, g2, ?_⟩
            have hne : dstD L j ≠ d := by
              obtain ⟨dj, hdj, _, hjj⟩ := F.dst j hj
              rw [dstD_of hdj]
              by_cases hlt3 : j < i
              · obtain ⟨e, hee, hne⟩ := hdd j hlt3
                rw [hdj] at hee; injection hee with hee; rw [hee]; exact fun h => hne h.symm
              · obtain ⟨e, hee, hne⟩ := hjj i (by omega)
                rw [hd] at hee; injection hee with hee; rw [hee]; exact hne
            rw [hsame _ hne, g3]
            simp [hji]
        · by_cases hji : j = i
          · subst hji
            obtain ⟨b, hb1, hb2, hb3⟩ := hnew hfj
            exact ⟨b, by simpa using hb1, hb3⟩
          · simp only [hset, if_neg hji] at hlj
            obtain ⟨b, hb1, hb2⟩ := hp j hj hlj hfj
            exact ⟨b, by simpa [hji] using hb1, Nat.lt_of_lt_of_le hb2 he2.size⟩
        · by_cases hxi : x = i
          · subst hxi
            have hyx : y ≠ x := fun e => hxy e.symm
            simp only [hset, if_neg hyx] at hly
            obtain ⟨b, hb1, hb2, hb3⟩ := hnew hfx
            obtain ⟨b', hb1', hb2'⟩ := hp y hy hly hfy
            simp only [if_neg hyx, if_true]
            rw [hb1, hb1']
            intro e
            injection e with e; injection e with e; injection e with e
            omega
          · simp only [hset, if_neg hxi] at hlx
            by_cases hyi : y = i
            · subst hyi
              obtain ⟨b, hb1, hb2, hb3⟩ := hnew hfy
              obtain ⟨b', hb1', hb2'⟩ := hp x hx hlx hfx
              simp only [if_neg hxi, if_true]
              rw [hb1, hb1']
              intro e
              injection e with e; injection e with e; injection e with e
              omega
            · simp only [hset, if_neg hyi] at hly
              simp only [if_neg hxi, if_neg hyi]
              exact hq x y hx hy hlx hly hfx hfy hxy
        · have htd : t ≠ d := by
            intro h; subst h; rw [hde] at ht; cases ht
          rw [hsame t htd]
          exact hC.env t u ht
      simp only [wpL] at hrun
      split
      · rename_i hwant
        rw [if_pos hwant] at hrun
        exact .inl (Oper.wp_mono2 (fun a' w' h => hnext a' w' h) (fun e a' w' hne h => by cases e <;> first | exact absurd rfl hne | exact h) hrun)
      · rename_i hwant
        rw [if_neg hwant] at hrun
        exact hnext _ _ hrun
def AltS (P : Program) (n : Nat) (L : List Oper) (K : List Kt) (fin : Exit → Act → World → Prop) (sp : List Sp) (fl : List Bool) (env : Env) (W : GW) (N : List Nat) : List (List Nat) → Prop
  | [] => True
  | s :: r => (∀ W1, Lk1 W W1 → Ext W W1 → WithN L sp fl W1 ((List.range sp.length).filter fun j => !N.contains j) [] env fun E => JO P n L.toArray (pickL L (sp.length :: s)) K fin E W1) ∧ AltS P n L K fin sp fl env W N r
def AltH (P : Program) (n : Nat) (L : List Oper) (K : List Kt) (fin : Exit → Act → World → Prop) (sp : List Sp) (fl : List Bool) (env : Env) (W : GW) : List (List Nat × List (List Nat)) → Prop
  | [] => True
  | a :: r => AltS P n L K fin sp fl env W a.1 a.2 ∧ AltH P n L K fin sp fl env W r
theorem AltS.get {L : List Oper} {sp : List Sp} {fl : List Bool} {N : List Nat} : ∀ {ss : List (List Nat)}, AltS P n L K fin sp fl env W N ss → ∀ s ∈ ss, ∀ W1, Lk1 W W1 → Ext W W1 → WithN L sp fl W1 ((List.range sp.length).filter fun j => !N.contains j) [] env fun E => JO P n L.toArray (pickL L (sp.length :: s)) K fin E W1
  | s :: r, ⟨h1, h2⟩, x, hx => by
    rcases List.mem_cons.1 hx with h | h
    · subst h; exact h1
    · exact h2.get x h
theorem AltH.get {L : List Oper} {sp : List Sp} {fl : List Bool} : ∀ {alts : List (List Nat × List (List Nat))}, AltH P n L K fin sp fl env W alts → ∀ a ∈ alts, AltS P n L K fin sp fl env W a.1 a.2
  | a :: r, ⟨h1, h2⟩, x, hx => by
    rcases List.mem_cons.1 hx with h | h
    · subst h; exact h1
    · exact h2.get x h
theorem J.drawM [mx : Mx P] {id : Nat} {L : List Oper} (sp : List Sp) (fl : List Bool) (k : Nat) (lt : List Nat) (alts : List (List Nat × List (List Nat))) (hchk : cloudOkM n L k lt alts = true) (hk : sp.length = k) (he : envOkM env L sp.length = true) (cloud : CloudHN P n L K fin sp env W 0 L sp fl)
    (tail : AltH P n L K fin sp fl env W alts) : J P n (.c (.region id L.toArray true) :: K) fin env W := by
  subst hk
  intro a ha
  refine wp_region_draw fun t => ?_
  have hs : Region.schedule (P.follows .mixedOrders) L.toArray t = Region.linearise.go .any L.toArray L.length t (Array.replicate L.length false) [] := by
    rw [mx.h]
    simp [Region.schedule, Region.linearise]
  rw [hs]
  have hf : ∀ i, (Array.replicate L.length false).getD i false = false := by
    intro i
    by_cases h : i < L.length <;> simp [Array.getD, h]
  refine draw_coreM (cloudM hchk he) cloud (fun a ha s hs W1 e => (tail.get a ha).get s hs W1 ⟨e.toLeK⟩ e) L.length t _ a W.tick.w (by simp) (fun i _ => hf i) (fun i _ h => by rw [hf] at h; cases h) ?_
    ⟨⟨W.tick, fun _ => undef, rfl, tick_ext W, (fun i _ h => by rw [hf] at h; cases h), (fun i _ h => by rw [hf] at h; cases h), (fun i j _ _ h => by rw [hf] at h; cases h)⟩, ha.defers, ha.size, ha.has⟩
  have := cnt_range 0 L.length (fun i => !(Array.replicate L.length false).getD i false) (fun j hj => by omega) (fun j _ => by rw [hf]; rfl)
  rw [this]; rfl
end
end
end Go.Rx

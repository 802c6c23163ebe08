/- The program's towers: forms. -/
import Derived.Test.YtcobdnnfmhfenaaGreatTb
import Derived.Test.YtcobdnnfmhfenaaGreatRl
set_option linter.unusedVariables false
set_option linter.unusedSimpArgs false
set_option maxRecDepth 10000
set_option maxHeartbeats 1000000
namespace Go.Proofs.YtcobdnnfmhfenaaGreat
open Go Go.Rx Go.Num Go.Tow

abbrev RE : Rep (List Raw) := RSl RQ
abbrev RT : Rep (List (List Raw)) := RSl RE
def cl (xs : List Rat) : List Raw := xs.map cq
def ct (t : List (List Rat)) : List (List Raw) := t.map cl
theorem cl_length (xs : List Rat) : (cl xs).length = xs.length := List.length_map ..
theorem cl_get {xs : List Rat} {i : Nat} {x : Rat} (h : xs[i]? = some x) : (cl xs)[i]? = some (cq x) := by rw [cl, List.getElem?_map, h]; rfl
theorem cl_append (xs ys : List Rat) : cl (xs ++ ys) = cl xs ++ cl ys := List.map_append ..
theorem cl_inj {xs ys : List Rat} (h : cl xs = cl ys) : xs = ys := by
  induction xs generalizing ys with
  | nil => cases ys with
    | nil => rfl
    | cons y ys => cases h
  | cons x xs ih => cases ys with
    | nil => cases h
    | cons y ys =>
      obtain ⟨h1, h2⟩ := List.cons.inj h
      rw [cq_inj h1, ih h2]
/-- a number of few words -/
def smallR (i : Raw) : Prop := i.1.2.length ≤ 1099511627776 ∧ i.2.2.length ≤ 1099511627776
open Classical in
noncomputable def validB (i : Raw) : Bool := decide (∃ x, i = cq x)
open Classical in
theorem validB_iff {i : Raw} : validB i = true ↔ ∃ x, i = cq x := by
  unfold validB
  constructor
  · intro h; exact of_decide_eq_true h
  · intro h; exact decide_eq_true h
theorem validB_cq (x : Rat) : validB (cq x) = true := validB_iff.2 ⟨x, rfl⟩

/-- What a function on numbers answers. -/
def PredOk (f : FuncId) (C : Raw → Prop) (φ : Raw → Bool) : Prop := ∀ (W : GW) (v : Value) (i : Raw), V RQ W v i → C i → Ok Tryz.prog f [v] W fun _ r => r = .bool (φ i)

theorem slices_IndexFunc_Rat_ok {W : GW} {f : FuncId} {C : Raw → Prop} {φ : Raw → Bool} {p : Option Addr} {n c : Nat} {l : List Raw} (hf : PredOk f C φ) (h : Sl RQ W p n c l) (hC : ∀ i ∈ l, C i) :
    Ok Tryz.prog 92 [.slice p n c, .func (.func f) #[] #[]] W fun _ r => ∃ j : Int, r = .int .i64 j ∧ (j ≥ 0 ↔ l.any φ = true) := by
  have hn := h.hn
  have hc := h.hc
  have hCC := h.hC
  refine Ok.enter Tryz.func92 rfl rfl rfl rfl fun W0 iEn => ?_
  refine J.seq <| J.reg rfl <| O.as rfl <| JO.nil <| J.seq <| J.seq <| J.reg rfl <| O.mv rfl <| O.len rfl <| O.mv rfl <| JO.nil <| J.block <| ?_
  refine J.loop (α := Nat) (fun k => [(0, .slice p n c), (1, .func (.func f) #[] #[]), (7, .int .i64 (n : Int)), (8, .int .i64 (k : Int))]) (fun k W' => Le W0 W' ∧ k ≤ n ∧ (l.take k).any φ = false) (fun k => n - k) 0 ⟨rfl, rfl, rfl, rfl, trivial⟩ ⟨inferInstance, Nat.zero_le _, rfl⟩ ?_
  rintro k W3 ⟨_, hk, hd⟩
  refine J.seq <| J.reg rfl <| O.lt rfl rfl <| JO.nil <| J.seq <| J.condD rfl (fun h9 => ?_) (fun h9 => ?_)
  · skip
    obtain ⟨u, hu⟩ : ∃ u, l[k]? = some u := ⟨_, List.getElem?_eq_getElem (by omega)⟩
    refine J.skip <| J.seq <| J.block <| J.seq <| J.reg rfl <| O.mv rfl <| O.as rfl <| JO.nil <| J.seq <| J.reg rfl <| O.mv rfl <| O.mv rfl <| O.mv rfl <| O.ix (r := RQ) (j := k) rfl rfl rfl h.to hu rfl rfl (fun h => nomatch h) fun a v hv => O.callv (fs := #[]) (cap := #[]) rfl rfl (hf _ _ _ hv (hC u (List.mem_of_getElem? hu))) fun W4 v4 i4 e4 h4 => ?_
    subst h4
    refine JO.nil <| J.cond rfl (fun h16 => ?_) (fun h16 => ?_)
    · skip
      refine J.seq <| J.reg rfl <| O.mv rfl <| O.as rfl <| JO.nil <| J.ret1 rfl (.tmp rfl) fun W' iE iP => ?_
      exact ⟨k, rfl, fun _ => List.any_eq_true.2 ⟨u, List.mem_of_getElem? hu, h16⟩, fun _ => by omega⟩
    · skip
      refine J.skip <| J.bend <| J.reg rfl <| O.add rfl rfl (wI (by omega)) <| O.mv rfl <| JO.nil <| ?_
      exact J.at' (k + 1) ⟨rfl, rfl, rfl, rfl, trivial⟩ ⟨⟨inferInstance, by omega, by rw [List.take_add_one, hu, List.any_append, hd, Bool.false_or]; simpa using h16⟩, by omega⟩
  · skip
    refine J.exit rfl <| J.seq <| J.reg rfl <| O.as rfl <| JO.nil <| J.ret1 rfl (.tmp rfl) fun W' iE iP => ?_
    have hkn : k = n := by omega
    rw [hkn, List.take_of_length_le (by omega)] at hd
    exact ⟨-1, rfl, fun h => absurd h (by decide), fun h => by rw [hd] at h; cases h⟩
theorem slices_ContainsFunc_Rat_ok {W : GW} {f : FuncId} {C : Raw → Prop} {φ : Raw → Bool} {p : Option Addr} {n c : Nat} {l : List Raw} (hf : PredOk f C φ) (h : Sl RQ W p n c l) (hC : ∀ i ∈ l, C i) :
    Ok Tryz.prog 67 [.slice p n c, .func (.func f) #[] #[]] W fun _ r => r = .bool (l.any φ) := by
  refine Ok.enter Tryz.func67 rfl rfl rfl rfl fun W0 iEn => ?_
  refine J.seq <| J.reg rfl <| O.as rfl <| JO.nil <| J.seq <| J.reg rfl <| O.mv rfl <| O.mv rfl <| O.call rfl (slices_IndexFunc_Rat_ok hf h.to hC) fun W2 v2 i2 e2 h2 => ?_
  obtain ⟨j, rfl, hj⟩ := h2
  refine O.ge rfl rfl <| O.as rfl <| JO.nil <| J.ret1 rfl (.tmp rfl) fun W' iE iP => ?_
  congr 1
  by_cases h : j ≥ 0
  · rw [hj.1 h]; simpa using h
  · rw [Bool.eq_false_iff.2 fun h2 => h (hj.2 h2)]; simpa using h
theorem numbersS1_ok : PredOk 84 smallR (fun i => !validB i) := by
  intro W v i h hC
  obtain ⟨p1, n1, c1, p2, n2, c2, rfl, h1, h2⟩ := unQ h
  refine Ok.enter Tryz.func84 rfl rfl rfl rfl fun W0 iEn => ?_
  refine J.seq <| J.reg rfl <| O.box rfl fun W1 b1 i1 hb1 => O.as rfl <| JO.nil <| J.seq <| J.reg rfl <| O.ldBw rfl hb1.to rfl <| O.call rfl (rational_Valid_ok (i := i) (mkQ h1.to h2.to) hC.1 hC.2) fun W2 v2 i2 e2 h2 => ?_
  obtain ⟨b, rfl, hb⟩ := h2
  refine O.not rfl <| O.as rfl <| JO.nil <| J.ret1 rfl (.tmp rfl) fun W' iE iP => ?_
  congr 2
  rw [Bool.eq_iff_iff, hb, validB_iff]
theorem ZeroS1_ok : PredOk 68 (fun i => ∃ x, i = cq x) (fun i => decide (i ≠ cq 0)) := by
  intro W v i h hC
  obtain ⟨x, rfl⟩ := hC
  obtain ⟨p1, n1, c1, p2, n2, c2, rfl, h1, h2⟩ := unQ h
  refine Ok.enter Tryz.func68 rfl rfl rfl rfl fun W0 iEn => ?_
  refine J.seq <| J.reg rfl <| O.box rfl fun W1 b1 i1 hb1 => O.as rfl <| JO.nil <| J.seq <| J.reg rfl <| O.ldBw rfl hb1.to rfl <| O.call rfl (rational_Sign_ok (x := x) (mkQ h1.to h2.to)) fun W2 v2 i2 e2 h2 => ?_
  subst h2
  refine O.ne rfl rfl <| O.as rfl <| JO.nil <| J.ret1 rfl (.tmp rfl) fun W' iE iP => ?_
  congr 1
  apply decide_eq_decide.2
  have h0 : cq x = cq 0 ↔ x.num = 0 := ⟨fun h => by rw [cq_inj h]; rfl, fun h => by rw [Rat.num_eq_zero.1 h]⟩
  rw [ne_eq, ne_eq, h0]
  unfold cmpI
  constructor
  · intro h h2; rw [h2] at h; exact h rfl
  · intro h
    split
    · decide
    · rw [if_pos (by omega)]; decide
/-- Zero -/
theorem tower_Zero_ok {W : GW} {p : Option Addr} {n c : Nat} {xs : List Rat} (h : Sl RQ W p n c (cl xs)) :
    Ok Tryz.prog 37 [.slice p n c] W fun _ r => r = .bool (decide (∀ x ∈ xs, x = 0)) := by
  refine Ok.enter Tryz.func37 rfl rfl rfl rfl fun W0 iEn => ?_
  refine J.seq <| J.reg rfl <| O.as rfl <| JO.nil <| J.seq <| J.reg rfl <| O.mv rfl <| O.call rfl (slices_ContainsFunc_Rat_ok ZeroS1_ok h.to (fun i hi => by obtain ⟨x, _, rfl⟩ := List.mem_map.1 hi; exact ⟨x, rfl⟩)) fun W2 v2 i2 e2 h2 => ?_
  subst h2
  refine O.not rfl <| O.as rfl <| JO.nil <| J.ret1 rfl (.tmp rfl) fun W' iE iP => ?_
  congr 1
  rw [Bool.eq_iff_iff, Bool.not_eq_true', decide_eq_true_eq, List.any_eq_false]
  constructor
  · intro h x hx
    have := h (cq x) (List.mem_map.2 ⟨x, hx, rfl⟩)
    exact cq_inj (by simpa using this)
  · intro h i hi
    obtain ⟨x, hx, rfl⟩ := List.mem_map.1 hi
    rw [h x hx]; simp

theorem shl1 {i : Nat} (h : i ≤ 60) : IntKind.i64.wrap ((1 : Int) * 2 ^ (min (Int.toNat (i : Int)) (IntKind.bits .i64))) = ((2 ^ i : Nat) : Int) := by
  rw [show min (Int.toNat (i : Int)) (IntKind.bits .i64) = i from by show min i 64 = i; omega, Int.one_mul]
  have h1 : 2 ^ i ≤ 2 ^ 60 := Nat.pow_le_pow_right (by decide) h
  have e : (2 : Int) ^ i = ((2 ^ i : Nat) : Int) := by norm_cast
  rw [e]
  generalize 2 ^ i = m at *
  exact wI (by omega)
/-- a list of n numbers in normal form -/
def okE (n : Nat) (l : List Raw) : Prop := l.length = n ∧ ∀ i ∈ l, ∃ x, i = cq x
def okT (t : List (List Raw)) : Prop := ∀ i r, t[i]? = some r → okE (2 ^ i) r
theorem tower_numbers_ok {W : GW} {p : Option Addr} {n c m : Nat} {l : List Raw} (h : Sl RQ W p n c l) (hl : ∀ i ∈ l, smallR i) :
    Ok Tryz.prog 58 [.slice p n c, .int .i64 (m : Int)] W fun _ r => ∃ b, r = .bool b ∧ (b = true ↔ okE m l) := by
  have hn := h.hn
  refine Ok.enter Tryz.func58 rfl rfl rfl rfl fun W0 iEn => ?_
  refine J.seq <| J.reg rfl <| O.as rfl <| JO.nil <| J.seq <| J.reg rfl <| O.mv rfl <| O.len rfl <| O.mv rfl <| O.eq rfl rfl <| O.mv rfl <| ?_
  by_cases hg9 : n = m
  · skip
    refine O.set (t := 9) (.bool true) rfl (by simp only [Value.bool.injEq, decide_eq_true_eq, decide_eq_false_iff_not]; omega) <| O.gt rfl rfl <| O.mv rfl <| O.gt rfl rfl <| O.call rfl (slices_ContainsFunc_Rat_ok numbersS1_ok h.to hl) fun W2 v2 i2 e2 h2 => ?_
    subst h2
    refine O.gt rfl rfl <| O.not rfl <| O.pickT rfl rfl <| O.as rfl <| JO.nil <| J.ret1 rfl (.tmp rfl) fun W' iE iP => ?_
    refine ⟨_, rfl, ?_⟩
    rw [Bool.not_eq_true', List.any_eq_false]
    constructor
    · intro h3
      exact ⟨by omega, fun i hi => validB_iff.1 (by simpa using h3 i hi)⟩
    · intro h3 i hi
      simpa using validB_iff.2 (h3.2 i hi)
  · skip
    refine O.set (t := 9) (.bool false) rfl (by simp only [Value.bool.injEq, decide_eq_true_eq, decide_eq_false_iff_not]; omega) <| O.gs rfl rfl rfl <| O.gs rfl rfl rfl <| O.gs rfl rfl rfl <| O.pickF rfl rfl <| O.as rfl <| JO.nil <| J.ret1 rfl (.tmp rfl) fun W' iE iP => ?_
    exact ⟨false, rfl, fun h => (nomatch h), fun h => absurd (hn.trans h.1) hg9⟩
theorem tower_radicands_ok {W : GW} {p : Option Addr} {n c : Nat} {t : List (List Raw)} (h : Sl RE W p n c t) (hl : ∀ r ∈ t, ∀ i ∈ r, smallR i) (ht : t.length ≤ 40) :
    Ok Tryz.prog 52 [.slice p n c] W fun _ r => ∃ b, r = .bool b ∧ (b = true ↔ okT t) := by
  have hn := h.hn
  refine Ok.enter Tryz.func52 rfl rfl rfl rfl fun W0 iEn => ?_
  refine J.seq <| J.reg rfl <| O.as rfl <| JO.nil <| J.seq <| J.seq <| J.reg rfl <| O.mv rfl <| O.len rfl <| O.mv rfl <| JO.nil <| J.block <| ?_
  refine J.loop (α := Nat) (fun k => [(5, .slice p n c), (6, .int .i64 (n : Int)), (7, .int .i64 (k : Int))]) (fun k W' => Le W0 W' ∧ k ≤ n ∧ ∀ i r, i < k → t[i]? = some r → okE (2 ^ i) r) (fun k => n - k) 0 ⟨rfl, rfl, rfl, trivial⟩ ⟨inferInstance, Nat.zero_le _, fun _ _ h => nomatch h⟩ ?_
  rintro k W3 ⟨_, hk, hd⟩
  refine J.seq <| J.reg rfl <| O.lt rfl rfl <| JO.nil <| J.seq <| J.condD rfl (fun h8 => ?_) (fun h8 => ?_)
  · skip
    obtain ⟨u, hu⟩ : ∃ u, t[k]? = some u := ⟨_, List.getElem?_eq_getElem (by omega)⟩
    refine J.skip <| J.seq <| J.block <| J.seq <| J.reg rfl <| O.mv rfl <| O.ix (r := RE) (j := k) rfl rfl rfl h.to hu rfl rfl (fun _ => rfl) fun a v hv => ?_
    obtain ⟨pu, nu, cu, rfl, hsu⟩ := hv.sl
    refine O.as rfl <| O.as rfl <| JO.nil <| J.seq <| J.reg rfl <| O.mv rfl <| O.mv rfl <| O.shl rfl rfl (by omega) (shl1 (i := k) (by omega)) <| O.call rfl (tower_numbers_ok hsu.to (hl u (List.mem_of_getElem? hu))) fun W4 v4 i4 e4 h4 => ?_
    obtain ⟨b, rfl, hb⟩ := h4
    refine O.not rfl <| JO.nil <| J.cond rfl (fun h16 => ?_) (fun h16 => ?_)
    · skip
      refine J.seq <| J.reg rfl <| O.as rfl <| JO.nil <| J.ret1 rfl (.tmp rfl) fun W' iE iP => ?_
      exact ⟨false, rfl, fun h => (nomatch h), fun h => by rw [hb.2 (h k u hu)] at h16; cases h16⟩
    · skip
      refine J.skip <| J.bend <| J.reg rfl <| O.add rfl rfl (wI (by omega)) <| O.mv rfl <| JO.nil <| ?_
      have hbt : b = true := by simpa using h16
      exact J.at' (k + 1) ⟨rfl, rfl, rfl, trivial⟩ ⟨⟨inferInstance, by omega, fun i r hi hr => by
        by_cases hik : i = k
        · subst hik; rw [hu] at hr; injection hr with hr; subst hr; exact hb.1 hbt
        · exact hd i r (by omega) hr⟩, by omega⟩
  · skip
    refine J.exit rfl <| J.seq <| J.reg rfl <| O.as rfl <| JO.nil <| J.ret1 rfl (.tmp rfl) fun W' iE iP => ?_
    refine ⟨true, rfl, fun _ i r hr => hd i r ?_ hr, fun _ => rfl⟩
    have : i < t.length := by
      by_cases h : i < t.length
      · exact h
      · rw [List.getElem?_eq_none (by omega)] at hr; cases hr
    omega
theorem tower_Formed_ok {W : GW} {p q : Option Addr} {n c m d : Nat} {t : List (List Raw)} {l : List Raw} (h : Sl RE W p n c t) (h' : Sl RQ W q m d l) (ht : ∀ r ∈ t, ∀ i ∈ r, smallR i) (hl : ∀ i ∈ l, smallR i) (ht4 : t.length ≤ 40) :
    Ok Tryz.prog 27 [.slice p n c, .slice q m d] W fun _ r => ∃ b, r = .bool b ∧ (b = true ↔ okT t ∧ okE (2 ^ t.length) l) := by
  have hn := h.hn
  refine Ok.enter Tryz.func27 rfl rfl rfl rfl fun W0 iEn => ?_
  refine J.seq <| J.reg rfl <| O.as rfl <| JO.nil <| J.seq <| J.reg rfl <| O.mv rfl <| O.call rfl (tower_radicands_ok h.to ht ht4) fun W4 v4 i4 e4 h4 => ?_
  obtain ⟨b, rfl, hb⟩ := h4
  refine O.mv rfl <| ?_
  by_cases hg7 : b = true
  · skip
    refine O.set (t := 7) (.bool true) rfl (by rw [hg7]) <| O.gt rfl rfl <| O.mv rfl <| O.gt rfl rfl <| O.mv rfl <| O.gt rfl rfl <| O.len rfl <| O.gt rfl rfl <| O.shl rfl rfl (by omega) (shl1 (i := n) (by omega)) <| O.gt rfl rfl <| O.call rfl (tower_numbers_ok h'.to hl) fun W5 v5 i5 e5 h5 => ?_
    obtain ⟨b2, rfl, hb2⟩ := h5
    refine O.pickT rfl rfl <| O.as rfl <| JO.nil <| J.ret1 rfl (.tmp rfl) fun W' iE iP => ?_
    exact ⟨_, rfl, by rw [hb2, ← hn]; exact ⟨fun h => ⟨hb.1 hg7, h⟩, fun h => h.2⟩⟩
  · skip
    refine O.set (t := 7) (.bool false) rfl (by rw [Bool.eq_false_iff.2 hg7]) <| O.gs rfl rfl rfl <| O.gs rfl rfl rfl <| O.gs rfl rfl rfl <| O.gs rfl rfl rfl <| O.gs rfl rfl rfl <| O.pickF rfl rfl <| O.as rfl <| JO.nil <| J.ret1 rfl (.tmp rfl) fun W' iE iP => ?_
    exact ⟨false, rfl, fun h => (nomatch h), fun h => absurd (hb.2 h.1) hg7⟩
theorem tower_formed_ok {W : GW} {p q q2 : Option Addr} {n c m d m2 d2 : Nat} {t : List (List Raw)} {l l2 : List Raw} (h : Sl RE W p n c t) (h' : Sl RQ W q m d l) (h2 : Sl RQ W q2 m2 d2 l2) (ht : ∀ r ∈ t, ∀ i ∈ r, smallR i) (hl : ∀ i ∈ l, smallR i) (hl2 : ∀ i ∈ l2, smallR i) (ht4 : t.length ≤ 40) :
    Ok Tryz.prog 63 [.slice p n c, .slice q m d, .slice q2 m2 d2] W fun _ r => ∃ b, r = .bool b ∧ (b = true ↔ okT t ∧ okE (2 ^ t.length) l ∧ okE (2 ^ t.length) l2) := by
  have hn := h.hn
  refine Ok.enter Tryz.func63 rfl rfl rfl rfl fun W0 iEn => ?_
  refine J.seq <| J.reg rfl <| O.as rfl <| JO.nil <| J.seq <| J.reg rfl <| O.mv rfl <| O.mv rfl <| O.call rfl (tower_Formed_ok h.to h'.to ht hl ht4) fun W4 v4 i4 e4 h4 => ?_
  obtain ⟨b, rfl, hb⟩ := h4
  refine O.mv rfl <| ?_
  by_cases hg10 : b = true
  · skip
    refine O.set (t := 10) (.bool true) rfl (by rw [hg10]) <| O.gt rfl rfl <| O.mv rfl <| O.gt rfl rfl <| O.mv rfl <| O.gt rfl rfl <| O.len rfl <| O.gt rfl rfl <| O.shl rfl rfl (by omega) (shl1 (i := n) (by omega)) <| O.gt rfl rfl <| O.call rfl (tower_numbers_ok h2.to hl2) fun W5 v5 i5 e5 h5 => ?_
    obtain ⟨b2, rfl, hb2⟩ := h5
    refine O.pickT rfl rfl <| O.as rfl <| JO.nil <| J.ret1 rfl (.tmp rfl) fun W' iE iP => ?_
    exact ⟨_, rfl, by rw [hb2, ← hn]; exact ⟨fun h => ⟨(hb.1 hg10).1, hn ▸ (hb.1 hg10).2, h⟩, fun h => h.2.2⟩⟩
  · skip
    refine O.set (t := 10) (.bool false) rfl (by rw [Bool.eq_false_iff.2 hg10]) <| O.gs rfl rfl rfl <| O.gs rfl rfl rfl <| O.gs rfl rfl rfl <| O.gs rfl rfl rfl <| O.gs rfl rfl rfl <| O.pickF rfl rfl <| O.as rfl <| JO.nil <| J.ret1 rfl (.tmp rfl) fun W' iE iP => ?_
    exact ⟨false, rfl, fun h => (nomatch h), fun h => absurd (hb.2 ⟨h.1, h.2.1⟩) hg10⟩
end Go.Proofs.YtcobdnnfmhfenaaGreat

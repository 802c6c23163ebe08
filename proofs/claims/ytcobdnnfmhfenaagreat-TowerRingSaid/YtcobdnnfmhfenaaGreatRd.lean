/- The rule for a statement whose order Go leaves open: a cloud of operations that only add, then a tail in order. -/
import Derived.Test.YtcobdnnfmhfenaaGreatRv
set_option linter.unusedVariables false
set_option linter.unusedSimpArgs false
namespace Go.Rx
open Go

class Mx (P : Program) : Prop where
  h : P.follows .mixedOrders = true

/-- What is known of the value of an operation of the cloud. -/
inductive Sp where
  | ex (v : Value)
  | rel (R : GW → Value → Prop)
def Sp.ok (s : Sp) (W : GW) (x : Value) : Prop := match s with
  | .ex v => x = v
  | .rel R => R W x
def MonoR (R : GW → Value → Prop) : Prop := ∀ W W' v, Ext W W' → R W v → R W' v
def Sp.mono (s : Sp) : Prop := match s with
  | .ex _ => True
  | .rel R => MonoR R
theorem Sp.up {s : Sp} {W W' : GW} {x : Value} (m : s.mono) (e : Ext W W') (h : s.ok W x) : s.ok W' x := by
  cases s with
  | ex v => exact h
  | rel R => exact m W W' x e h
theorem V.me {α : Type} {r : Rep α} {x : α} : MonoR (fun W v => V r W v x) := fun W W' v e h => h.mono e.toLeS.f

/-- The operation is done. -/
def DStop (n : Nat) (E : Env) (W1 : GW) (d : Nat) (s : Sp) (a : Act) (w : World) : Prop :=
  ∃ W2 v, W2.w = w ∧ Ext W1 W2 ∧ Rel n ((d, v) :: E) a ∧ s.ok W2 v ∧ s.mono

section
variable {P : Program} {n : Nat} {ops : Array Oper} {K : List Kt} {fin : Exit → Act → World → Prop} {E : Env} {W W1 : GW} {d : Nat}
theorem D.ex {v : Value} : JO P n ops [] (.l (DStop n E W d (.ex v)) :: K) fin ((d, v) :: E) W :=
  JO.nil fun a ha => ⟨W, v, rfl, Ext.refl W, ha, rfl, trivial⟩
theorem D.rel {v : Value} {R : GW → Value → Prop} (e : Ext W1 W) (h : R W v) (m : MonoR R) : JO P n ops [] (.l (DStop n E W1 d (.rel R)) :: K) fin ((d, v) :: E) W :=
  JO.nil fun a ha => ⟨W, v, rfl, e, ha, h, m⟩
end

def dstD (l : List Oper) (i : Nat) : Nat := match l, i with
  | [], _ => 0
  | o :: _, 0 => match o.dst with | some d => d | none => 0
  | _ :: l, i + 1 => dstD l i
def spD (sp : List Sp) (i : Nat) : Sp := match sp, i with
  | [], _ => .ex undef
  | s :: _, 0 => s
  | _ :: l, i + 1 => spD l i
/-- For all values that are as said: the entries stand in the list. -/
def WithD (l : List Oper) (sp : List Sp) (W : GW) : List Nat → Env → (Env → Prop) → Prop
  | [], acc, φ => φ acc
  | j :: js, acc, φ => match spD sp j with
    | .ex v => WithD l sp W js ((dstD l j, v) :: acc) φ
    | .rel R => ∀ x, R W x → WithD l sp W js ((dstD l j, x) :: acc) φ
theorem WithD.use {l : List Oper} {sp : List Sp} {W : GW} (vals : Nat → Value) (js : List Nat) (hv : ∀ j ∈ js, (spD sp j).ok W (vals j)) :
    ∀ {acc : Env} {φ : Env → Prop}, WithD l sp W js acc φ → φ ((js.reverse.map fun j => (dstD l j, vals j)) ++ acc) := by
  induction js with
  | nil => intro acc φ h; exact h
  | cons j js ih =>
    intro acc φ h
    have hj := hv j (List.mem_cons_self ..)
    have ht := fun k hk => hv k (List.mem_cons_of_mem _ hk)
    simp only [WithD] at h
    cases hs : spD sp j with
    | ex v =>
      rw [hs] at h hj
      have hj' : vals j = v := hj
      have := ih ht h
      simpa [hj'] using this
    | rel R =>
      rw [hs] at h hj
      have := ih ht (h (vals j) hj)
      simpa using this

def bnd (e : Edge) : Bool := Region.binds .any e
/-- The operations that must lie behind this one. -/
def depsD (o : Oper) : List Nat := (o.after.toList.filter bnd).map (·.on)
def depsAt (l : List Oper) (i : Nat) : List Nat := match l, i with
  | [], _ => []
  | o :: _, 0 => depsD o
  | _ :: l, i + 1 => depsAt l i

/-- each operation of the cloud -/
def CloudH (P : Program) (n : Nat) (L : List Oper) (K : List Kt) (fin : Exit → Act → World → Prop) (sp : List Sp) (env : Env) (W : GW) : Nat → List Oper → List Sp → Prop
  | _, _, [] => True
  | _, [], _ :: _ => False
  | i, o :: l, s :: ss => (∀ W1, Lk1 W W1 → Ext W W1 → ∀ tl : Env, WithD L sp W1 (depsD o) (env ++ tl) fun E => JO P n L.toArray [o] (.l (DStop n E W1 (dstD L i) s) :: K) fin E W1) ∧ CloudH P n L K fin sp env W (i + 1) l ss

def inE (env : Env) (d : Nat) : Bool := match look env d with
  | some _ => true
  | none => false
/-- The closed facts: the first k operations write slots of their own; whatever lies behind them comes in order. -/
def cloudOk (n : Nat) (env : Env) (L : List Oper) (k : Nat) : Bool :=
  opsOk n L && (List.range L.length).all (fun i => (depsAt L i).all (fun j => Nat.blt j i)) &&
  (List.range k).all (fun i => match dstAt L i with
    | some d => !inE env d && (List.range i).all (fun j => match dstAt L j with | some e => !(Nat.beq d e) | none => false)
    | none => false) &&
  (List.range L.length).all (fun i => Nat.ble i k || (depsAt L i).contains (i - 1)) && (Nat.ble L.length k || (List.range k).all (fun j => (ancs L (L.length) k).contains j))
where
  ancs (L : List Oper) : Nat → Nat → List Nat
    | 0, _ => []
    | f + 1, i => (depsAt L i).flatMap fun j => j :: ancs L f j

section
variable {P : Program} {n : Nat} {K : List Kt} {fin : Exit → Act → World → Prop} {env : Env} {W : GW}

theorem depsAt_eq (l : List Oper) (i : Nat) (o : Oper) (h : l[i]? = some o) : depsAt l i = depsD o := by
  induction l generalizing i with
  | nil => simp at h
  | cons a l ih => cases i with
    | zero => simp at h; subst h; rfl
    | succ i => simp only [depsAt]; exact ih i (by simpa using h)
theorem dstD_of {l : List Oper} {i d : Nat} (h : dstAt l i = some d) : dstD l i = d := by
  induction l generalizing i with
  | nil => simp [dstAt] at h
  | cons a l ih => cases i with
    | zero => simp only [dstAt] at h; simp only [dstD, h]
    | succ i => simp only [dstAt] at h; simp only [dstD]; exact ih h

theorem CloudH.at' {L : List Oper} {sp : List Sp} {i0 : Nat} {l : List Oper} {ss : List Sp} (h : CloudH P n L K fin sp env W i0 l ss) (hsp : ∀ j, j < ss.length → spD sp (i0 + j) = spD ss j) {i : Nat} (hi : i < ss.length) :
    ∃ o, l[i]? = some o ∧ ∀ W1, Lk1 W W1 → Ext W W1 → ∀ tl : Env, WithD L sp W1 (depsD o) (env ++ tl) fun E => JO P n L.toArray [o] (.l (DStop n E W1 (dstD L (i0 + i)) (spD sp (i0 + i))) :: K) fin E W1 := by
  induction ss generalizing i0 l i with
  | nil => simp at hi
  | cons s ss ih =>
    cases l with
    | nil => exact h.elim
    | cons o l =>
      obtain ⟨h1, h2⟩ := h
      cases i with
      | zero =>
        have := hsp 0 (by simp)
        simp only [spD, Nat.add_zero] at this
        refine ⟨o, rfl, ?_⟩
        rw [Nat.add_zero, this]
        exact h1
      | succ i =>
        have := ih h2 (fun j hj => by
          have := hsp (j + 1) (by simpa using hj)
          simp only [spD] at this
          rw [← this]; congr 1; omega) (by simpa using hi)
        obtain ⟨o', ho', h'⟩ := this
        refine ⟨o', by simpa using ho', ?_⟩
        rw [show i0 + (i + 1) = i0 + 1 + i from by omega]
        exact h'

/-- What is known while the cloud runs: `ls i` says that operation i is done. -/
structure Cl (n : Nat) (L : List Oper) (sp : List Sp) (env : Env) (W : GW) (ls : Nat → Bool) (a : Act) (w : World) : Prop where
  ex : ∃ (W1 : GW) (vals : Nat → Value), W1.w = w ∧ Ext W W1 ∧ (∀ i, i < sp.length → ls i = true → (spD sp i).ok W1 (vals i) ∧ (spD sp i).mono ∧ a.tmps.getD (dstD L i) undef = vals i)
  defers : a.defers = []
  size : a.tmps.size = n
  env : ∀ t v, look env t = some v → a.tmps.getD t undef = v

theorem look_append (e f : Env) (t : Nat) : look (e ++ f) t = match look e t with | some v => some v | none => look f t := by
  induction e with
  | nil => simp [look]
  | cons p e ih =>
    obtain ⟨s, v⟩ := p
    rw [List.cons_append, look_cons, look_cons, ih]
    by_cases h : t = s <;> simp [h]

/-- all slots -/
def allEnv (tm : Array Value) : Nat → Env
  | 0 => []
  | k + 1 => (k, tm.getD k undef) :: allEnv tm k
theorem look_allEnv (tm : Array Value) (k t : Nat) : look (allEnv tm k) t = if t < k then some (tm.getD t undef) else none := by
  induction k with
  | zero => simp [allEnv, look]
  | succ k ih =>
    simp only [allEnv]
    rw [look_cons, ih]
    by_cases h : t = k
    · subst h; simp
    · rw [if_neg h]
      by_cases h2 : t < k
      · rw [if_pos h2, if_pos (by omega)]
      · rw [if_neg h2, if_neg (by omega)]

theorem countP_lt {p q : Nat → Bool} {l : List Nat} {i : Nat} (hi : i ∈ l) (hp : p i = true) (hq : q i = false) (hpq : ∀ j, q j = true → p j = true) : l.countP q < l.countP p := by
  induction l with
  | nil => cases hi
  | cons a l ih =>
    rw [List.countP_cons, List.countP_cons]
    have hle : l.countP q ≤ l.countP p := List.countP_mono_left fun x _ h => hpq x h
    rcases List.mem_cons.1 hi with rfl | hi
    · simp [hp, hq]; omega
    · have := ih hi
      have h2 : (if q a = true then 1 else 0) ≤ (if p a = true then 1 else 0) := by
        by_cases h : q a = true
        · rw [if_pos h, if_pos (hpq a h)]; exact Nat.le_refl _
        · rw [if_neg h]; exact Nat.zero_le _
      omega

theorem go_acc (m : Region.Mode) (ops : Array Oper) (f : Nat) : ∀ (t : Nat) (ls : Array Bool) (acc : List Nat), Region.linearise.go m ops f t ls acc = acc.reverse ++ Region.linearise.go m ops f t ls [] := by
  induction f with
  | zero => intro t ls acc; simp [Region.linearise.go]
  | succ f ih =>
    intro t ls acc
    simp only [Region.linearise.go]
    split
    · rename_i i hi
      rw [ih _ _ (i :: acc), ih _ _ [i]]
      simp
    · simp

/-- ready operations -/
def rdy (L : List Oper) (ls : Array Bool) : List Nat :=
  (List.range L.toArray.size).filter fun i => !ls.getD i true && ((L.toArray[i]?).map (·.after.all fun e => !Region.binds .any e || ls.getD e.on false)).getD false
theorem rdy_mem {L : List Oper} {ls : Array Bool} (hs : ls.size = L.length) {i : Nat} : i ∈ rdy L ls ↔ ∃ o, L[i]? = some o ∧ ls.getD i false = false ∧ ∀ j ∈ depsD o, ls.getD j false = true := by
  unfold rdy
  rw [List.mem_filter]
  constructor
  · rintro ⟨h1, h2⟩
    have hi : i < L.length := by simpa using List.mem_range.1 h1
    rw [Bool.and_eq_true] at h2
    obtain ⟨h2, h3⟩ := h2
    have ho : L[i]? = some L[i] := List.getElem?_eq_getElem hi
    refine ⟨L[i], ho, ?_, ?_⟩
    · have : i < ls.size := by omega
      simp [Array.getD, this] at h2 ⊢
      exact h2
    · intro j hj
      have ho' : L.toArray[i]? = some L[i] := by simp
      rw [ho'] at h3
      simp only [Option.map_some, Option.getD_some] at h3
      rw [Array.all_eq_true'] at h3
      simp only [depsD, List.mem_map, List.mem_filter] at hj
      obtain ⟨e, ⟨he, hb⟩, rfl⟩ := hj
      have := h3 e (by simpa using he)
      have hb' : Region.binds .any e = true := hb
      rw [hb'] at this
      simpa using this
  · rintro ⟨o, ho, h2, h3⟩
    have hi : i < L.length := by
      by_cases h : i < L.length
      · exact h
      · rw [List.getElem?_eq_none (by omega)] at ho; cases ho
    refine ⟨by simpa using hi, ?_⟩
    rw [Bool.and_eq_true]
    refine ⟨?_, ?_⟩
    · have : i < ls.size := by omega
      simp [Array.getD, this] at h2 ⊢
      exact h2
    · have ho' : L.toArray[i]? = some o := by simpa using ho
      rw [ho']
      simp only [Option.map_some, Option.getD_some]
      rw [Array.all_eq_true']
      intro e he
      cases hb : Region.binds .any e with
      | false => rfl
      | true =>
        have := h3 e.on (by simp only [depsD, List.mem_map, List.mem_filter]; exact ⟨e, ⟨by simpa using he, hb⟩, rfl⟩)
        simp [this]

/-- The tail: all before i is listed, nothing behind: what is left comes in order. -/
theorem go_tail {L : List Oper} (hl : ∀ i, i < L.length → ∀ j ∈ depsAt L i, j < i) (f : Nat) : ∀ (i t : Nat) (ls : Array Bool), ls.size = L.length → i + f = L.length →
    (∀ j, j < i → ls.getD j false = true) → (∀ j, i ≤ j → ls.getD j false = false) → (∀ m, i < m → m < L.length → m - 1 ∈ depsAt L m) →
    Region.linearise.go .any L.toArray f t ls [] = List.range' i f := by
  induction f with
  | zero => intro i t ls _ _ _ _ _; simp [Region.linearise.go]
  | succ f ih =>
    intro i t ls hs hf h1 h2 h3
    have hr : rdy L ls = [i] := by
      have hmem : ∀ x, x ∈ rdy L ls ↔ x = i := by
        intro x
        rw [rdy_mem hs]
        constructor
        · rintro ⟨o, ho, hx, hd⟩
          have hx1 : x < L.length := by
            by_cases h : x < L.length
            · exact h
            · rw [List.getElem?_eq_none (by omega)] at ho; cases ho
          by_cases hlt : x < i
          · rw [h1 x hlt] at hx; cases hx
          · by_cases he : x = i
            · exact he
            · have hy := h3 x (by omega) hx1
              rw [depsAt_eq L x o ho] at hy
              have := hd _ hy
              rw [h2 (x - 1) (by omega)] at this; cases this
        · rintro rfl
          have hx1 : x < L.length := by omega
          refine ⟨L[x], List.getElem?_eq_getElem hx1, h2 x (Nat.le_refl _), fun j hj => h1 j ?_⟩
          exact hl x hx1 j (by rw [depsAt_eq L x _ (List.getElem?_eq_getElem hx1)]; exact hj)
      have hnd : (rdy L ls).Nodup := List.Pairwise.filter _ List.nodup_range
      match hq : rdy L ls with
      | [] => have := (hmem i).2 rfl; rw [hq] at this; cases this
      | [x] => have := (hmem x).1 (by rw [hq]; exact List.mem_cons_self ..); rw [this]
      | x :: y :: r =>
        have e1 := (hmem x).1 (by rw [hq]; exact List.mem_cons_self ..)
        have e2 := (hmem y).1 (by rw [hq]; simp)
        rw [hq] at hnd
        have := (List.nodup_cons.1 hnd).1
        rw [e1, e2] at this
        simp at this
    have hgo : Region.linearise.go .any L.toArray (f + 1) t ls [] = match (rdy L ls)[t % (rdy L ls).length]? with | some i => Region.linearise.go .any L.toArray f (t / (rdy L ls).length) (ls.setIfInBounds i true) [i] | none => [] := rfl
    rw [hgo, hr]
    simp only [List.length_cons, List.length_nil, Nat.zero_add, Nat.mod_one, List.getElem?_cons_zero]
    rw [go_acc, List.range'_succ]
    have hi : i < ls.size := by omega
    rw [ih (i + 1) _ _ (by simpa using hs) (by omega) (fun j hj => by
        by_cases he : j = i
        · subst he; simp [Array.getD, hi]
        · have := h1 j (by omega)
          have hj' : j < ls.size := by omega
          simp [Array.getD, hj', Array.getElem_setIfInBounds, Ne.symm he] at this ⊢
          exact this)
      (fun j hj => by
        have := h2 j (by omega)
        by_cases hj' : j < ls.size
        · simp [Array.getD, hj', Array.getElem_setIfInBounds, show ¬ i = j from by omega] at this ⊢
          exact this
        · simp [Array.getD, hj'])
      (fun m hm hm2 => h3 m (by omega) hm2)]
    rfl

theorem ancs_listed {L : List Oper} {p : Nat → Bool} (hcl : ∀ i, i < L.length → p i = true → ∀ j ∈ depsAt L i, p j = true) (hl : ∀ i, i < L.length → ∀ j ∈ depsAt L i, j < i) (f : Nat) :
    ∀ i, i < L.length → (∀ j ∈ depsAt L i, p j = true) → ∀ j ∈ cloudOk.ancs L f i, p j = true := by
  induction f with
  | zero => intro i _ _ j hj; simp [cloudOk.ancs] at hj
  | succ f ih =>
    intro i hi hd j hj
    simp only [cloudOk.ancs, List.mem_flatMap] at hj
    obtain ⟨y, hy, hj⟩ := hj
    rcases List.mem_cons.1 hj with rfl | hj
    · exact hd _ hy
    · have hyl : y < L.length := Nat.lt_trans (hl i hi y hy) hi
      exact ih y hyl (hcl y hyl (hd y hy)) j hj

structure CloudF (n : Nat) (env : Env) (L : List Oper) (k : Nat) : Prop where
  ok : opsOk n L = true
  low : ∀ i, i < L.length → ∀ j ∈ depsAt L i, j < i
  dst : ∀ i, i < k → ∃ d, dstAt L i = some d ∧ look env d = none ∧ ∀ j, j < i → ∃ e, dstAt L j = some e ∧ d ≠ e
  tail : ∀ m, k < m → m < L.length → m - 1 ∈ depsAt L m
  anc : k < L.length → ∀ j, j < k → j ∈ cloudOk.ancs L L.length k
theorem cloudF {n : Nat} {env : Env} {L : List Oper} {k : Nat} (h : cloudOk n env L k = true) : CloudF n env L k := by
  simp only [cloudOk, Bool.and_eq_true] at h
  obtain ⟨⟨⟨⟨h1, h2⟩, h3⟩, h4⟩, h5⟩ := h
  refine ⟨h1, fun i hi j hj => ?_, fun i hi => ?_, fun m hm hm2 => ?_, fun hk j hj => ?_⟩
  · have := List.all_eq_true.1 h2 i (List.mem_range.2 hi)
    have := List.all_eq_true.1 this j hj
    simpa using this
  · have := List.all_eq_true.1 h3 i (List.mem_range.2 hi)
    split at this
    · rename_i d hd
      rw [Bool.and_eq_true] at this
      obtain ⟨g1, g2⟩ := this
      refine ⟨d, hd, ?_, fun j hj => ?_⟩
      · cases hl : look env d with
        | none => rfl
        | some v => simp [inE, hl] at g1
      · have := List.all_eq_true.1 g2 j (List.mem_range.2 hj)
        split at this
        · rename_i e he
          refine ⟨e, he, ?_⟩
          intro h; subst h; simp at this
        · cases this
    · cases this
  · have := List.all_eq_true.1 h4 m (List.mem_range.2 hm2)
    rw [Bool.or_eq_true] at this
    rcases this with h | h
    · have := Nat.le_of_ble_eq_true h; omega
    · simpa using h
  · rw [Bool.or_eq_true] at h5
    rcases h5 with h | h
    · have := Nat.le_of_ble_eq_true h; omega
    · have := List.all_eq_true.1 h j (List.mem_range.2 hj)
      simpa using this

theorem Oper.wp_mono2 {o : Oper} {a : Act} {w : World} {K1 K2 : Act → World → Prop} {Q1 Q2 : Exit → Act → World → Prop} (h : ∀ a w, K1 a w → K2 a w) (hq : ∀ e a w, e ≠ .normal → Q1 e a w → Q2 e a w)
    (hh : o.wp P a w K1 Q1) : o.wp P a w K2 Q2 := by
  unfold Oper.wp at *
  have hL : LetsOut Q1 → LetsOut Q2 := fun ⟨a, w, q⟩ => ⟨a, w, hq _ _ _ (by simp) q⟩
  generalize (execOp a.eval o).run P w = r at *
  cases r with
  | ok n w' =>
    cases n <;> simp only [Oper.upon] at hh ⊢ <;>
      first
        | exact h _ _ hh
        | exact Calls.mono hh (fun e w'' he => by cases e <;> first | exact h _ _ he | exact hq _ _ _ (by simp) he | exact hL he)
        | exact Rows.mono hh (fun _ _ he => h _ _ he)
  | halt x w' => cases x <;> simp only [Oper.upon] at hh ⊢ <;> first | exact hh | exact hq _ _ _ (by simp) hh

theorem cnt_range (k m : Nat) (p : Nat → Bool) (h1 : ∀ j, j < k → p j = false) (h2 : ∀ j, k ≤ j → p j = true) : (List.range m).countP p = m - k := by
  induction m with
  | zero => simp
  | succ m ih =>
    rw [List.range_succ, List.countP_append, ih]
    by_cases h : m < k
    · simp [h1 m h]; omega
    · simp [h2 m (by omega)]; omega

/-- all of the cloud is done -/
theorem cl_done {L : List Oper} {sp : List Sp} {ls : Nat → Bool} {a : Act} {w : World} (F : CloudF n env L sp.length) (h : Cl n L sp env W ls a w) (hall : ∀ j, j < sp.length → ls j = true)
    (tail : ∀ W1, Ext W W1 → WithD L sp W1 (List.range sp.length) env fun E => JO P n L.toArray (L.drop sp.length) K fin E W1) : wpL P L.toArray (Done P fin K) (L.drop sp.length) a w := by
  obtain ⟨W1, vals, hw, he, hv⟩ := h.ex
  have h1 := WithD.use vals (List.range sp.length) (fun j hj => (hv j (List.mem_range.1 hj) (hall j (List.mem_range.1 hj))).1) (tail W1 he)
  have hok : opsOk n (L.drop sp.length) = true := by
    have : ∀ (k : Nat) (l : List Oper), opsOk n l = true → opsOk n (l.drop k) = true := by
      intro k
      induction k with
      | zero => intro l h; simpa using h
      | succ k ih => intro l h; cases l with
        | nil => simpa using h
        | cons o l => simp only [List.drop_succ_cons]; exact ih l (JO.unok h)
    exact this _ _ F.ok
  rw [← hw]
  refine h1 hok a ⟨h.defers, h.size, fun t v ht => ?_⟩
  rw [look_append] at ht
  have key : ∀ js : List Nat, (∀ j ∈ js, j < sp.length) → ∀ u, look (js.map fun j => (dstD L j, vals j)) t = some u → a.tmps.getD t undef = u := by
    intro js
    induction js with
    | nil => intro _ u hu; simp [look] at hu
    | cons j js ih =>
      intro hj u hu
      simp only [List.map_cons] at hu
      rw [look_cons] at hu
      have hj1 := hj j (List.mem_cons_self ..)
      by_cases hts : t = dstD L j
      · rw [if_pos hts] at hu
        injection hu with hu
        rw [hts, (hv j hj1 (hall j hj1)).2.2, hu]
      · rw [if_neg hts] at hu
        exact ih (fun x hx => hj x (List.mem_cons_of_mem _ hx)) u hu
  cases hl : look (((List.range sp.length).reverse.map fun j => (dstD L j, vals j))) t with
  | some u =>
    rw [hl] at ht
    injection ht with ht
    rw [← ht]
    exact key _ (fun j hj => List.mem_range.1 (List.mem_reverse.1 hj)) u hl
  | none =>
    rw [hl] at ht
    exact h.env t v ht

theorem draw_core {L : List Oper} {sp : List Sp} (F : CloudF n env L sp.length) (hk : sp.length ≤ L.length) (cloud : CloudH P n L K fin sp env W 0 L sp)
    (tail : ∀ W1, Ext W W1 → WithD L sp W1 (List.range sp.length) env fun E => JO P n L.toArray (L.drop sp.length) K fin E W1) (f : Nat) :
    ∀ (t : Nat) (ls : Array Bool) (a : Act) (w : World), ls.size = L.length → (∀ i, sp.length ≤ i → ls.getD i false = false) →
      (∀ i, i < L.length → ls.getD i false = true → ∀ j ∈ depsAt L i, ls.getD j false = true) →
      (List.range L.length).countP (fun i => !ls.getD i false) = f → Cl n L sp env W (fun i => ls.getD i false) a w →
      wpOps P L.toArray (Done P fin K) (Region.linearise.go .any L.toArray f t ls []) a w := by
  induction f with
  | zero =>
    intro t ls a w hs hb hcl hcnt hC
    have hall : ∀ j, j < L.length → ls.getD j false = true := by
      intro j hj
      have := List.countP_eq_zero.1 hcnt j (List.mem_range.2 hj)
      simpa using this
    have hkk : L.length = sp.length := by
      by_cases h : L.length ≤ sp.length
      · omega
      · have := hall sp.length (by omega)
        rw [hb sp.length (Nat.le_refl _)] at this; cases this
    have h1 := cl_done F hC (fun j hj => hall j (by omega)) tail
    rw [List.drop_eq_nil_of_le (by omega)] at h1
    simpa [Region.linearise.go, wpOps, wpL] using h1
  | succ f ih =>
    intro t ls a w hs hb hcl hcnt hC
    by_cases hall : ∀ j, j < sp.length → ls.getD j false = true
    · have hcount : L.length - sp.length = f + 1 := by
        rw [← hcnt]
        exact (cnt_range sp.length L.length (fun i => !ls.getD i false) (fun j hj => by simp [hall j hj]) (fun j hj => by simp [hb j hj])).symm
      rw [go_tail F.low (f + 1) sp.length t ls hs (by omega) hall hb F.tail]
      have h1 := wpOps_of (P := P) (ops := L.toArray) (Q := Done P fin K) (L.drop sp.length) sp.length a w (by simp) (cl_done F hC hall tail)
      rw [List.length_drop, hcount] at h1
      exact h1
    · have hex : ∃ j, j < sp.length ∧ ls.getD j false = false := by
        apply Classical.byContradiction
        intro hn
        apply hall
        intro j hj
        cases hv : ls.getD j false with
        | true => rfl
        | false => exact absurd ⟨j, hj, hv⟩ hn
      obtain ⟨j0, ⟨hj0, hj1⟩, hmin⟩ := exists_min _ hex
      have hready : j0 ∈ rdy L ls := by
        rw [rdy_mem hs]
        have hlt : j0 < L.length := by omega
        refine ⟨L[j0], List.getElem?_eq_getElem hlt, hj1, fun j hj => ?_⟩
        have hjl := F.low j0 hlt j (by rw [depsAt_eq L j0 _ (List.getElem?_eq_getElem hlt)]; exact hj)
        cases hv : ls.getD j false with
        | true => rfl
        | false => have := hmin j ⟨by omega, hv⟩; omega
      have hpos : 0 < (rdy L ls).length := List.length_pos_of_mem hready
      have hgo : Region.linearise.go .any L.toArray (f + 1) t ls [] = match (rdy L ls)[t % (rdy L ls).length]? with | some i => Region.linearise.go .any L.toArray f (t / (rdy L ls).length) (ls.setIfInBounds i true) [i] | none => [] := rfl
      have hlt := Nat.mod_lt t hpos
      rw [hgo, List.getElem?_eq_getElem hlt]
      generalize hi : (rdy L ls)[t % (rdy L ls).length] = i
      have him : i ∈ rdy L ls := by rw [← hi]; exact List.getElem_mem hlt
      obtain ⟨o, ho, hli, hdep⟩ := (rdy_mem hs).1 him
      have hil : i < L.length := by
        by_cases h : i < L.length
        · exact h
        · rw [List.getElem?_eq_none (by omega)] at ho; cases ho
      have hdi := depsAt_eq L i o ho
      have hik : i < sp.length := by
        apply Classical.byContradiction
        intro hn
        by_cases he : i = sp.length
        · have ha := ancs_listed (L := L) (p := fun i => ls.getD i false) hcl F.low L.length i hil (fun j hj => hdep j (by rw [← hdi]; exact hj))
          have := ha j0 (by rw [he]; exact F.anc (by omega) j0 hj0)
          rw [hj1] at this; cases this
        · have := hdep (i - 1) (by rw [← hdi]; exact F.tail i (by omega) hil)
          rw [hb (i - 1) (by omega)] at this; cases this
      simp only []
      rw [go_acc]
      show wpOps P L.toArray (Done P fin K) (i :: _) a w
      have ho' : L.toArray[i]? = some o := by simpa using ho
      simp only [wpOps, ho']
      obtain ⟨W1, vals, hw, he, hv⟩ := hC.ex
      obtain ⟨o2, ho2, hcl2⟩ := cloud.at' (fun j hj => by rw [Nat.zero_add]) hik
      rw [ho] at ho2
      injection ho2 with ho2
      subst ho2
      simp only [Nat.zero_add] at hcl2
      obtain ⟨d, hd, hde, hdd⟩ := F.dst i hik
      have hdn : d < n := by
        have : ∀ (l : List Oper) (i : Nat), opsOk n l = true → dstAt l i = some d → d < n := by
          intro l
          induction l with
          | nil => intro i _ h; simp [dstAt] at h
          | cons x l ih2 =>
            intro i hx h
            cases i with
            | zero =>
              simp only [dstAt] at h
              simp only [opsOk, h] at hx
              split at hx
              · rename_i hb; simpa using hb
              · cases hx
            | succ i => exact ih2 i (JO.unok hx) (by simpa [dstAt] using h)
        exact this L i F.ok hd
      have hdk : ∀ j ∈ depsD o, j < sp.length := fun j hj => by
        have := F.low i hil j (by rw [hdi]; exact hj); omega
      have hJ := WithD.use vals (depsD o) (fun j hj => (hv j (hdk j hj) (hdep j hj)).1) (hcl2 W1 ⟨he.toLeK⟩ he (allEnv a.tmps n))
      generalize hE : ((depsD o).reverse.map fun j => (dstD L j, vals j)) ++ (env ++ allEnv a.tmps n) = E at hJ
      have hRel : Rel n E a := by
        refine ⟨hC.defers, hC.size, fun t v ht => ?_⟩
        rw [← hE, look_append] at ht
        cases hl : look ((depsD o).reverse.map fun j => (dstD L j, vals j)) t with
        | some u =>
          rw [hl] at ht
          injection ht with ht
          rw [← ht]
          have key : ∀ js : List Nat, (∀ j ∈ js, j ∈ depsD o) → look (js.map fun j => (dstD L j, vals j)) t = some u → a.tmps.getD t undef = u := by
            intro js
            induction js with
            | nil => intro _ hu; simp [look] at hu
            | cons j js ih2 =>
              intro hj hu
              simp only [List.map_cons] at hu
              rw [look_cons] at hu
              have hj1 := hj j (List.mem_cons_self ..)
              by_cases hts : t = dstD L j
              · rw [if_pos hts] at hu
                injection hu with hu
                rw [hts, (hv j (hdk j hj1) (hdep j hj1)).2.2, hu]
              · rw [if_neg hts] at hu
                exact ih2 (fun x hx => hj x (List.mem_cons_of_mem _ hx)) hu
          exact key _ (fun j hj => List.mem_reverse.1 hj) hl
        | none =>
          rw [hl] at ht
          simp only [look_append] at ht
          cases hl2 : look env t with
          | some u =>
            rw [hl2] at ht
            injection ht with ht
            rw [← ht]
            exact hC.env t u hl2
          | none =>
            rw [hl2] at ht
            simp only [look_allEnv] at ht
            split at ht
            · injection ht
            · cases ht
      have hfull : ∀ t, t < n → ∃ u, look E t = some u := by
        intro t htn
        rw [← hE, look_append, look_append, look_allEnv, if_pos htn]
        split
        · exact ⟨_, rfl⟩
        · split
          · exact ⟨_, rfl⟩
          · exact ⟨_, rfl⟩
      have hoks : opsOk n [o] = true := by
        have hod : o.dst = some d := by
          have := dstAt_eq L i
          rw [hd, ho] at this
          simpa using this.symm
        simp only [opsOk, hod]
        have : Nat.blt d n = true := by simpa using hdn
        rw [this]
      have hrun := hJ hoks a hRel
      rw [hw] at hrun
      -- what the operation leaves serves the rest
      have hnext : ∀ a' w', DStop n E W1 (dstD L i) (spD sp i) a' w' → wpOps P L.toArray (Done P fin K) (Region.linearise.go .any L.toArray f (t / (rdy L ls).length) (ls.setIfInBounds i true) []) a' w' := by
        rintro a' w' ⟨W2, v, hw2, he2, hr2, hok2, hm2⟩
        rw [dstD_of hd] at hr2
        have hsame : ∀ t, t ≠ d → a'.tmps.getD t undef = a.tmps.getD t undef := by
          intro t htd
          by_cases htn : t < n
          · obtain ⟨u, hu⟩ := hfull t htn
            rw [hRel.has t u hu]
            exact hr2.has t u (by rw [look_cons, if_neg htd]; exact hu)
          · have h1 : ¬ t < a.tmps.size := by rw [hC.size]; exact htn
            have h2 : ¬ t < a'.tmps.size := by rw [hr2.size]; exact htn
            simp [Array.getD, h1, h2]
        have hisz : i < ls.size := by omega
        have hset : ∀ j, (ls.setIfInBounds i true).getD j false = if j = i then true else ls.getD j false := by
          intro j
          by_cases hji : j = i
          · subst hji; simp [Array.getD, hisz]
          · rw [if_neg hji]
            by_cases hjs : j < ls.size
            · simp [Array.getD, hjs, Array.getElem_setIfInBounds, Ne.symm hji]
            · simp [Array.getD, hjs]
        refine ih _ _ a' w' (by simpa using hs) (fun j hj => by rw [hset, if_neg (by omega)]; exact hb j hj) (fun x hx hlx j hj => ?_) ?_ ⟨⟨W2, fun j => if j = i then v else vals j, hw2, he.trans he2, fun j hj hlj => ?_⟩, hr2.defers, hr2.size, fun t u ht => ?_⟩
        · rw [hset] at hlx ⊢
          by_cases hji : j = i
          · rw [if_pos hji]
          · rw [if_neg hji]
            by_cases hxi : x = i
            · subst hxi
              exact hdep j (by rw [← hdi]; exact hj)
            · rw [if_neg hxi] at hlx
              exact hcl x hx hlx j hj
        · have hlt2 : (List.range L.length).countP (fun j => !(ls.setIfInBounds i true).getD j false) < (List.range L.length).countP (fun j => !ls.getD j false) :=
            countP_lt (List.mem_range.2 hil) (by simp [hli]) (by simp [hset]) (fun j hj => by
              rw [hset] at hj
              by_cases hji : j = i
              · rw [if_pos hji] at hj; cases hj
              · rw [if_neg hji] at hj; exact hj)
          have hge : (List.range L.length).countP (fun j => !ls.getD j false) ≤ (List.range L.length).countP (fun j => !(ls.setIfInBounds i true).getD j false) + 1 := by
            have : ∀ l : List Nat, l.Nodup → l.countP (fun j => !ls.getD j false) ≤ l.countP (fun j => !(ls.setIfInBounds i true).getD j false) + (if i ∈ l then 1 else 0) := by
              intro l
              induction l with
              | nil => intro _; simp
              | cons x l ih2 =>
                intro hnd
                have hnd2 := List.nodup_cons.1 hnd
                have := ih2 hnd2.2
                rw [List.countP_cons, List.countP_cons]
                by_cases hxi : x = i
                · subst hxi
                  rw [if_neg hnd2.1] at this
                  have e1 : (!ls.getD x false) = true := by rw [hli]; rfl
                  have e2 : (!(ls.setIfInBounds x true).getD x false) = false := by rw [hset, if_pos rfl]; rfl
                  rw [e1, e2, if_pos rfl, if_neg (by simp), if_pos (List.mem_cons_self ..)]
                  omega
                · have e : (!(ls.setIfInBounds i true).getD x false) = !ls.getD x false := by rw [hset, if_neg hxi]
                  rw [e]
                  have hm : (i ∈ x :: l) ↔ i ∈ l := by simp [Ne.symm hxi]
                  by_cases hil2 : i ∈ l
                  · rw [if_pos (hm.2 hil2)]; rw [if_pos hil2] at this; omega
                  · rw [if_neg (fun h => hil2 (hm.1 h))]; rw [if_neg hil2] at this; omega
            have := this (List.range L.length) List.nodup_range
            rw [if_pos (List.mem_range.2 hil)] at this
            exact this
          omega
        · by_cases hji : j = i
          · subst hji
            refine ⟨by simpa using hok2, hm2, ?_⟩
            rw [dstD_of hd]
            simpa using hr2.has d v (by rw [look_cons, if_pos rfl])
          · simp only [hset, if_neg hji] at hlj
            obtain ⟨g1, g2, g3⟩ := hv j hj hlj
            refine ⟨by simpa [hji] using Sp.up g2 he2 g1, g2, ?_⟩
            have hne : dstD L j ≠ d := by
              obtain ⟨dj, hdj, _, hjj⟩ := F.dst j hj
              rw [dstD_of hdj]
              by_cases hlt3 : j < i
              · obtain ⟨e, hee, hne⟩ := hdd j hlt3
                rw [hdj] at hee; injection hee with hee; rw [hee]; exact fun h => hne h.symm
              · obtain ⟨e, hee, hne⟩ := hjj i (by omega)
                rw [hd] at hee; injection hee with hee; rw [hee]; exact hne
            rw [hsame _ hne, g3]
            simp [hji]
        · have htd : t ≠ d := by
            intro h; subst h; rw [hde] at ht; cases ht
          rw [hsame t htd]
          exact hC.env t u ht
      simp only [wpL] at hrun
      split
      · rename_i hwant
        rw [if_pos hwant] at hrun
        exact .inl (Oper.wp_mono2 (fun a' w' h => hnext a' w' h) (fun e a' w' hne h => by cases e <;> first | exact absurd rfl hne | exact h) hrun)
      · rename_i hwant
        rw [if_neg hwant] at hrun
        exact hnext _ _ hrun

def GW.tick (W : GW) : GW where
  w := { W.w with drawn := W.w.drawn + 1 }
  A := W.A
  m := W.m
  hA := W.hA
  hm := W.hm
theorem tick_ext (W : GW) : Ext W W.tick where
  os := rfl
  out := rfl
  tape := rfl
  m := rfl
  size := Nat.le_refl _
  same := fun _ _ _ => rfl
  stay := fun _ _ h => h
  prot := fun _ _ h => h
  keep := fun _ h => h
  row := fun _ c _ _ h => ⟨c, h, rfl⟩
  all := fun _ _ => rfl

/-- THE RULE: the first operations, as many as `sp` has entries, in whatever order; the others behind them. -/
theorem J.draw [mx : Mx P] {id : Nat} {L : List Oper} (sp : List Sp) (hchk : cloudOk n env L sp.length = true) (hk : Nat.ble sp.length L.length = true) (cloud : CloudH P n L K fin sp env W 0 L sp)
    (tail : ∀ W1, Lk1 W W1 → Ext W W1 → WithD L sp W1 (List.range sp.length) env fun E => JO P n L.toArray (L.drop sp.length) K fin E W1) : J P n (.c (.region id L.toArray true) :: K) fin env W := by
  intro a ha
  refine wp_region_draw fun t => ?_
  have hs : Region.schedule (P.follows .mixedOrders) L.toArray t = Region.linearise.go .any L.toArray L.length t (Array.replicate L.length false) [] := by
    rw [mx.h]
    simp [Region.schedule, Region.linearise]
  rw [hs]
  have hf : ∀ i, (Array.replicate L.length false).getD i false = false := by
    intro i
    by_cases h : i < L.length <;> simp [Array.getD, h]
  refine draw_core (cloudF hchk) (Nat.le_of_ble_eq_true hk) cloud (fun W1 e => tail W1 ⟨e.toLeK⟩ e) L.length t _ a W.tick.w (by simp) (fun i _ => hf i) (fun i _ h => by rw [hf] at h; cases h) ?_
    ⟨⟨W.tick, fun _ => undef, rfl, tick_ext W, fun i _ h => by rw [hf] at h; cases h⟩, ha.defers, ha.size, ha.has⟩
  have := cnt_range 0 L.length (fun i => !(Array.replicate L.length false).getD i false) (fun j hj => by omega) (fun j _ => by rw [hf]; rfl)
  rw [this]; rfl
end
end Go.Rx

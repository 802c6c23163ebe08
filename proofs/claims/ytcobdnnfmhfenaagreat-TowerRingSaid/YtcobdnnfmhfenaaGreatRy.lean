/- The rules of the walk: control and operations that only compute. -/
import Derived.Test.YtcobdnnfmhfenaaGreatRx
set_option linter.unusedVariables false
set_option linter.unusedSimpArgs false
namespace Go.Rx
open Go

/-- The slots that are known. -/
abbrev Env := List (Nat × Value)
def look : Env → Nat → Option Value
  | [], _ => none
  | (s, v) :: e, t => match Nat.beq t s with
    | true => some v
    | false => look e t
def get (e : Env) : Operand → Option Value
  | .tmp t => look e t
  | .const v => some v
  | .global g => some (.pointer (some ⟨g, 0, none⟩))
  | .func f => some (.func (.func f) #[] #[])
def getL (e : Env) : List Operand → Option (List Value)
  | [] => some []
  | x :: l => match get e x with
    | none => none
    | some v => match getL e l with
      | none => none
      | some vs => some (v :: vs)

structure Rel (n : Nat) (e : Env) (a : Act) : Prop where
  defers : a.defers = []
  size : a.tmps.size = n
  has : ∀ t v, look e t = some v → a.tmps.getD t undef = v

theorem Rel.get {n : Nat} {e : Env} {a : Act} (h : Rel n e a) {x : Operand} {v : Value} (hx : Rx.get e x = some v) : a.eval x = v := by
  cases x with
  | tmp t => exact h.has t v hx
  | const c => simp only [Rx.get, Option.some.injEq] at hx; exact hx
  | global g => simp only [Rx.get, Option.some.injEq] at hx; exact hx
  | func f => simp only [Rx.get, Option.some.injEq] at hx; exact hx

theorem Rel.getL {n : Nat} {e : Env} {a : Act} (h : Rel n e a) {l : List Operand} {vs : List Value} (hx : Rx.getL e l = some vs) : l.map a.eval = vs := by
  induction l generalizing vs with
  | nil => simp only [Rx.getL, Option.some.injEq] at hx; exact hx
  | cons x l ih =>
    simp only [Rx.getL] at hx
    split at hx
    · cases hx
    · rename_i v hv
      split at hx
      · cases hx
      · rename_i us hus
        injection hx with hx
        rw [List.map_cons, h.get hv, ih hus, hx]

theorem nbeq {a b : Nat} (h : ¬ a = b) : Nat.beq a b = false := by
  cases hb : Nat.beq a b
  · rfl
  · exact absurd (Nat.eq_of_beq_eq_true hb) h

theorem look_cons (s : Nat) (v : Value) (e : Env) (t : Nat) : look ((s, v) :: e) t = if t = s then some v else look e t := by
  by_cases h : t = s
  · subst h; simp [look]
  · rw [if_neg h]
    simp only [look, nbeq h]

theorem Rel.put {n : Nat} {e : Env} {a : Act} (h : Rel n e a) {d : Nat} (hd : Nat.blt d n = true) (v : Value) : Rel n ((d, v) :: e) (a.put (some d) v) := by
  have hd' : d < n := by simpa using hd
  refine ⟨h.defers, by simp [Act.put, h.size], fun t u ht => ?_⟩
  rw [look_cons] at ht
  have hs := h.size
  by_cases hts : t = d
  · subst hts
    simp at ht
    subst ht
    simp [Act.put, Array.getD, hs, hd']
  · simp [hts] at ht
    rw [← h.has t u ht]
    simp only [Act.put, Array.getD]
    by_cases hlt : t < a.tmps.size
    · simp [hlt, Ne.symm hts]
    · simp [hlt]

/-- Every entry of E stands in env. -/
def SubL (env : Env) : Env → Prop
  | [] => True
  | (t, v) :: e => look env t = some v ∧ SubL env e

theorem Rel.sub {n : Nat} {e e' : Env} {a : Act} (h : Rel n e a) (hs : SubL e e') : Rel n e' a := by
  refine ⟨h.defers, h.size, fun t u ht => ?_⟩
  induction e' with
  | nil => simp [look] at ht
  | cons p l ih =>
    obtain ⟨s, v⟩ := p
    rw [look_cons] at ht
    by_cases hts : t = s
    · subst hts; simp at ht; subst ht; exact h.has _ _ hs.1
    · simp [hts] at ht; exact ih hs.2 ht

/-- What is left to do. -/
inductive Kt where
  | c (c : Code)
  | b (id : Nat)
  | l (I : Act → World → Prop)

def Done (P : Program) (fin : Exit → Act → World → Prop) : List Kt → Exit → Act → World → Prop
  | [], e, a, w => fin e a w
  | .c c :: K, e, a, w => match e with
    | .normal => c.wp P (Done P fin K) a w
    | e => Done P fin K e a w
  | .b id :: K, e, a, w => match e with
    | .exit id' => if id' = id then Done P fin K .normal a w else Done P fin K (.exit id') a w
    | e => Done P fin K e a w
  | .l I :: K, e, a, w => match e with
    | .normal => I a w
    | e => Done P fin K e a w

def J (P : Program) (n : Nat) (K : List Kt) (fin : Exit → Act → World → Prop) (env : Env) (W : GW) : Prop :=
  ∀ a, Rel n env a → Done P fin K .normal a W.w

section
variable {P : Program} {n : Nat} {K : List Kt} {fin : Exit → Act → World → Prop} {env : Env} {W : GW}

theorem J.seq {x y : Code} (k : J P n (.c x :: .c y :: K) fin env W) : J P n (.c (.seq x y) :: K) fin env W := by
  intro a ha
  refine wp_seq (wp_mono (k a ha) ?_)
  intro e a w h
  cases e <;> exact h
theorem J.skip (k : J P n K fin env W) : J P n (.c .skip :: K) fin env W := fun a ha => wp_skip (k a ha)
theorem J.block {id : Nat} {x : Code} (k : J P n (.c x :: .b id :: K) fin env W) : J P n (.c (.block id x) :: K) fin env W := by
  intro a ha
  refine wp_block (wp_mono (k a ha) ?_)
  intro e a w h
  cases e <;> exact h
theorem J.bend {id : Nat} (k : J P n K fin env W) : J P n (.b id :: K) fin env W := fun a ha => k a ha

def popK (id : Nat) : List Kt → Option (List Kt)
  | [] => none
  | .b i :: K => match Nat.beq id i with
    | true => some K
    | false => popK id K
  | .c _ :: K => popK id K
  | .l _ :: K => popK id K
theorem done_exit {id : Nat} {K K' : List Kt} (h : popK id K = some K') {a : Act} {w : World} (hd : Done P fin K' .normal a w) : Done P fin K (.exit id) a w := by
  induction K with
  | nil => simp [popK] at h
  | cons x K ih =>
    cases x with
    | c c => exact ih h
    | l I => exact ih h
    | b i =>
      by_cases hi : id = i
      · subst hi
        simp [popK] at h
        subst h
        simp [Done]
        exact hd
      · simp only [popK, nbeq hi] at h
        simp only [Done, if_neg hi]
        exact ih h
theorem J.exit {id : Nat} {K' : List Kt} (h : popK id K = some K') (k : J P n K' fin env W) : J P n (.c (.exit id) :: K) fin env W :=
  fun a ha => wp_exit (done_exit h (k a ha))
theorem done_ret {K : List Kt} {a : Act} {w : World} (h : fin .ret a w) : Done P fin K .ret a w := by
  induction K with
  | nil => exact h
  | cons x K ih => cases x <;> exact ih
theorem J.ret (k : ∀ a, Rel n env a → fin .ret a W.w) : J P n (.c .ret :: K) fin env W :=
  fun a ha => wp_ret (done_ret (k a ha))

/-- A test that is known. -/
theorem J.condT {x : Operand} {c d : Code} (hb : get env x = some (.bool true)) (k : J P n (.c c :: K) fin env W) : J P n (.c (.cond x c d) :: K) fin env W :=
  fun a ha => wp_cond_true (ha.get hb) (k a ha)
theorem J.condF {x : Operand} {c d : Code} (hb : get env x = some (.bool false)) (k : J P n (.c d :: K) fin env W) : J P n (.c (.cond x c d) :: K) fin env W :=
  fun a ha => wp_cond_false (ha.get hb) (k a ha)
theorem J.cond {x : Operand} {c d : Code} {b : Bool} (hb : get env x = some (.bool b)) (k1 : b = true → J P n (.c c :: K) fin env W) (k2 : b = false → J P n (.c d :: K) fin env W) :
    J P n (.c (.cond x c d) :: K) fin env W := by
  intro a ha
  cases b
  · exact wp_cond_false (ha.get hb) (k2 rfl a ha)
  · exact wp_cond_true (ha.get hb) (k1 rfl a ha)
theorem J.condD {x : Operand} {c d : Code} {p : Prop} {ip : Decidable p} (hb : get env x = some (.bool (decide p))) (k1 : p → J P n (.c c :: K) fin env W) (k2 : ¬ p → J P n (.c d :: K) fin env W) :
    J P n (.c (.cond x c d) :: K) fin env W :=
  J.cond hb (fun h => k1 (of_decide_eq_true h)) (fun h => k2 (of_decide_eq_false h))

theorem J.sub (E : Env) (h : SubL env E) (k : J P n K fin E W) : J P n K fin env W := fun a ha => k a (ha.sub h)
/-- A slot's value, said otherwise. -/
theorem J.set {t : Nat} {v : Value} (v' : Value) (h : look env t = some v) (e : v = v') (k : J P n K fin ((t, v') :: env) W) : J P n K fin env W := by
  intro a ha
  refine k a ⟨ha.defers, ha.size, fun s u hs => ?_⟩
  rw [look_cons] at hs
  by_cases hts : s = t
  · subst hts; simp at hs; rw [← hs, ← e]; exact ha.has _ _ h
  · simp [hts] at hs; exact ha.has _ _ hs

theorem exists_min (p : Nat → Prop) (h : ∃ n, p n) : ∃ n, p n ∧ ∀ m, p m → n ≤ m := by
  obtain ⟨n, hn⟩ := h
  induction n using Nat.strongRecOn with
  | _ n ih =>
    by_cases hs : ∃ m, m < n ∧ p m
    · obtain ⟨m, hm, hp⟩ := hs; exact ih m hm hp
    · exact ⟨n, hn, fun m hm => Nat.le_of_not_lt fun hlt => hs ⟨m, hlt, hm⟩⟩
open Classical in
noncomputable def least (p : Nat → Prop) : Nat := if h : ∃ n, p n then Classical.choose (exists_min p h) else 0
theorem least_spec {p : Nat → Prop} (h : ∃ n, p n) : p (least p) ∧ ∀ m, p m → least p ≤ m := by
  unfold least; rw [dif_pos h]; exact Classical.choose_spec (exists_min p h)

/-- The assertion at a place: some x, a world. -/
def At {α : Type} (n : Nat) (E : α → Env) (I : α → GW → Prop) (a : Act) (w : World) : Prop := ∃ x W', W'.w = w ∧ Rel n (E x) a ∧ I x W'

theorem J.loop {α : Type} {c : Code} (E : α → Env) (I : α → GW → Prop) (μ : α → Nat) (x : α) (hs : SubL env (E x)) (h0 : I x W)
    (k : ∀ x W', I x W' → J P n (.c c :: .l (At n E fun x' W'' => I x' W'' ∧ μ x' < μ x) :: K) fin (E x) W') : J P n (.c (.loop c) :: K) fin env W := by
  intro a ha
  refine wp_loop (fun a w => At n E I a w) (fun a w => least fun m => ∃ x W', W'.w = w ∧ Rel n (E x) a ∧ I x W' ∧ μ x = m) ⟨x, W, rfl, ha.sub hs, h0⟩ ?_
  intro a w hI
  obtain ⟨x0, W0, hw0, hr0, hi0⟩ := hI
  obtain ⟨⟨x, W', hw, hr, hi, hm⟩, hmin⟩ := least_spec (p := fun m => ∃ x W', W'.w = w ∧ Rel n (E x) a ∧ I x W' ∧ μ x = m) ⟨μ x0, x0, W0, hw0, hr0, hi0, rfl⟩
  have := k x W' hi a hr
  rw [hw] at this
  refine wp_mono this ?_
  intro e a' w' h
  cases e <;> first | exact h | skip
  obtain ⟨x', W'', hw', hr', hi', hlt⟩ := h
  refine ⟨⟨x', W'', hw', hr', hi'⟩, ?_⟩
  rw [← hm]
  refine Nat.lt_of_le_of_lt ?_ hlt
  exact (least_spec (p := fun m => ∃ x W', W'.w = w' ∧ Rel n (E x) a' ∧ I x W' ∧ μ x = m) ⟨μ x', x', W'', hw', hr', hi', rfl⟩).2 _ ⟨x', W'', hw', hr', hi', rfl⟩

/-- The place is reached. -/
theorem J.at' {α : Type} {E : α → Env} {I : α → GW → Prop} (x : α) (hs : SubL env (E x)) (h : I x W) : J P n (.l (At n E I) :: K) fin env W :=
  fun a ha => ⟨x, W, rfl, ha.sub hs, h⟩
/-- Ways meet behind a piece of code. -/
theorem J.cut {α : Type} {c : Code} (E : α → Env) (I : α → GW → Prop) (k1 : J P n (.c c :: .l (At n E I) :: K) fin env W)
    (k2 : ∀ x W', I x W' → J P n K fin (E x) W') : J P n (.c c :: K) fin env W := by
  intro a ha
  refine wp_mono (k1 a ha) ?_
  intro e a' w' h
  cases e <;> first | exact h | skip
  obtain ⟨x, W', hw, hr, hi⟩ := h
  rw [← hw]
  exact k2 x W' hi a' hr

/-! Operations -/
def opsOk (n : Nat) : List Oper → Bool
  | [] => true
  | o :: l => match o.dst with
    | none => opsOk n l
    | some d => match Nat.blt d n with
      | true => opsOk n l
      | false => false

def wpL (P : Program) (ops : Array Oper) (Q : Exit → Act → World → Prop) : List Oper → Act → World → Prop
  | [], a, w => Q .normal a w
  | o :: l, a, w => if Region.wanted o (yielded ops a.tmps) then o.wp P a w (wpL P ops Q l) Q else wpL P ops Q l (a.put o.dst undef) w

theorem wpOps_of {ops : Array Oper} {Q : Exit → Act → World → Prop} (l : List Oper) :
    ∀ (i : Nat) (a : Act) (w : World), ops.toList.drop i = l → wpL P ops Q l a w → wpOps P ops Q (List.range' i l.length) a w := by
  induction l with
  | nil => intro i a w _ h; exact h
  | cons o l ih =>
    intro i a w hd h
    have ho : ops[i]? = some o := by
      have h1 : (ops.toList.drop i)[0]? = some o := by rw [hd]; rfl
      rw [List.getElem?_drop] at h1
      simpa using h1
    have hl : ops.toList.drop (i + 1) = l := by
      have : (ops.toList.drop i).drop 1 = l := by rw [hd]; rfl
      rwa [List.drop_drop] at this
    have hn : (fun a' w' => wpOps P ops Q (List.range' (i + 1) l.length) a' w') = wpOps P ops Q (List.range' (i + 1) l.length) := rfl
    rw [List.length_cons, List.range'_succ]
    simp only [wpOps, ho]
    simp only [wpL] at h
    split at h
    · rename_i hw
      rw [if_pos hw]
      left
      exact Oper.wp_mono (fun a w h => ih (i + 1) a w hl h) h
    · rename_i hw
      rw [if_neg hw]
      exact ih (i + 1) _ w hl h

end
end Go.Rx

/- The base of the walks: ghost worlds, how a datum lies in cells, the judgement on code. Nothing of the program is named here. -/
import Derived.WalkKit
set_option linter.unusedVariables false
set_option linter.unusedSimpArgs false
namespace Go.Rx
open Go
section

/-- A world, the blocks that no datum may lie in (variables and arrays that are still written), and the heap's size when the function began. -/
structure GW where
  w : World
  A : List Nat
  m : Nat
  hA : ∀ k ∈ A, k < w.heap.size
  hm : m ≤ w.heap.size

abbrev GW.size (W : GW) : Nat := W.w.heap.size

/-- What facts on data need: blocks outside A stay as they are and stay outside A. -/
structure LeF (W W' : GW) : Prop where
  size : W.size ≤ W'.size
  same : ∀ k, k < W.size → k ∉ W.A → W'.w.heap[k]? = W.w.heap[k]?
  stay : ∀ k, k < W.size → k ∉ W.A → k ∉ W'.A

theorem LeF.refl (W : GW) : LeF W W := ⟨Nat.le_refl _, fun _ _ _ => rfl, fun _ _ h => h⟩
theorem LeF.trans {a b c : GW} (h : LeF a b) (k : LeF b c) : LeF a c where
  size := Nat.le_trans h.size k.size
  same := fun i hi hn => (k.same i (Nat.lt_of_lt_of_le hi h.size) (h.stay i hi hn)).trans (h.same i hi hn)
  stay := fun i hi hn => k.stay i (Nat.lt_of_lt_of_le hi h.size) (h.stay i hi hn)

/-- A later world of the same function. -/
structure LeS (W W' : GW) : Prop where
  os : W'.w.os = W.w.os
  out : W'.w.output = W.w.output
  tape : W'.w.tape = W.w.tape
  m : W'.m = W.m
  size : W.size ≤ W'.size
  same : ∀ k, k < W.size → (k < W.m ∨ k ∉ W.A) → W'.w.heap[k]? = W.w.heap[k]?
  stay : ∀ k, k < W.size → k ∉ W.A → k ∉ W'.A
  prot : ∀ k, k < W.m → k ∈ W.A → k ∈ W'.A
  row : ∀ (k : Nat) (c : Array Value) (T : TypeId) (fr : Nat × Nat), W.w.heap[k]? = some (Obj.cells c T fr) → ∃ c' : Array Value, W'.w.heap[k]? = some (Obj.cells c' T fr) ∧ c'.size = c.size

theorem LeS.f {W W' : GW} (h : LeS W W') : LeF W W' := ⟨h.size, fun k hk hn => h.same k hk (.inr hn), h.stay⟩
theorem LeS.refl (W : GW) : LeS W W := ⟨rfl, rfl, rfl, rfl, Nat.le_refl _, fun _ _ _ => rfl, fun _ _ h => h, fun _ _ h => h, fun _ c _ _ h => ⟨c, h, rfl⟩⟩

theorem LeS.trans {a b c : GW} (h : LeS a b) (k : LeS b c) : LeS a c where
  os := k.os.trans h.os
  out := k.out.trans h.out
  tape := k.tape.trans h.tape
  m := k.m.trans h.m
  size := Nat.le_trans h.size k.size
  same := fun i hi hp => by
    have h1 := h.same i hi hp
    have h2 : i < b.m ∨ i ∉ b.A := by
      rcases hp with hp | hp
      · exact .inl (by rw [h.m]; exact hp)
      · exact .inr (h.stay i hi hp)
    exact (k.same i (Nat.lt_of_lt_of_le hi h.size) h2).trans h1
  stay := fun i hi hn => k.stay i (Nat.lt_of_lt_of_le hi h.size) (h.stay i hi hn)
  prot := fun i hi hn => k.prot i (by rw [h.m]; exact hi) (h.prot i hi hn)
  row := fun i c T fr hc => by
    obtain ⟨c1, h1, e1⟩ := h.row i c T fr hc
    obtain ⟨c2, h2, e2⟩ := k.row i c1 T fr h1
    exact ⟨c2, h2, e2.trans e1⟩

/-- One step; the chain of steps is found by instances. -/
class Le1 (W : outParam GW) (W' : GW) : Prop where
  s : LeS W W'
class Le (W W' : GW) : Prop where
  s : LeS W W'
instance (priority := 2000) Le.rf (W : GW) : Le W W := ⟨LeS.refl W⟩
instance (priority := 100) Le.st {W W1 W2 : GW} [i : Le1 W1 W2] [j : Le W W1] : Le W W2 := ⟨j.s.trans i.s⟩
/-- A later world in which nothing has been published: what is being written may still be written. -/
structure LeK (W W' : GW) : Prop extends LeS W W' where
  keep : ∀ k, k ∈ W.A → k ∈ W'.A
theorem LeK.refl (W : GW) : LeK W W := { LeS.refl W with keep := fun _ h => h }
theorem LeK.trans {a b c : GW} (h : LeK a b) (k : LeK b c) : LeK a c := { h.toLeS.trans k.toLeS with keep := fun i hi => k.keep i (h.keep i hi) }
class Lk1 (W : outParam GW) (W' : GW) : Prop where
  s : LeK W W'
class Lk (W W' : GW) : Prop where
  s : LeK W W'
instance (priority := 2000) Lk.rf (W : GW) : Lk W W := ⟨LeK.refl W⟩
instance (priority := 100) Lk.st {W W1 W2 : GW} [i : Lk1 W1 W2] [j : Lk W W1] : Lk W W2 := ⟨j.s.trans i.s⟩
instance (priority := 50) Le1.ofK {W W1 : GW} [i : Lk1 W W1] : Le1 W W1 := ⟨i.s.toLeS⟩
instance (priority := 10) Le.ofK {W W1 : GW} [i : Lk W W1] : Le W W1 := ⟨i.s.toLeS⟩
/-- The entry of a function: the mark is set. -/
class En (W : GW) (W1 : outParam GW) : Prop where
  w : W1.w = W.w
  A : W1.A = W.A
  m : W1.m = W.size
/-- The exit: the caller's mark is set again. -/
class Ex (W : outParam GW) (W' : GW) : Prop where
  w : W'.w = W.w
  A : ∀ k ∈ W'.A, k ∈ W.A
  m : W'.m ≤ W.m
/-- The exit at which all that the function made is published. -/
class Pub (W W' : GW) : Prop where
  p : ∀ k ∈ W'.A, k < W.m
/-- The exit at which what the function made may still be written. -/
class Own1 (W W' : GW) : Prop where
  A : W'.A = W.A
class Lf (W W' : GW) : Prop where
  s : LeF W W'
theorem En.f {W W1 : GW} (h : En W W1) : LeF W W1 := ⟨by rw [GW.size, GW.size, h.w]; exact Nat.le_refl _, fun _ _ _ => by rw [h.w], fun _ _ hn => by rw [h.A]; exact hn⟩
theorem Ex.f {W W1 : GW} (h : Ex W W1) : LeF W W1 := ⟨by rw [GW.size, GW.size, h.w]; exact Nat.le_refl _, fun _ _ _ => by rw [h.w], fun _ _ hn ha => hn (h.A _ ha)⟩
instance (priority := 100) Lf.ex {W W1 W' : GW} [i : Ex W1 W'] [j : Lf W W1] : Lf W W' := ⟨j.s.trans i.f⟩
instance (priority := 200) Lf.en {W W1 W' : GW} [i : En W W1] [j : Le W1 W'] : Lf W W' := ⟨i.f.trans j.s.f⟩
instance (priority := 300) Lf.le {W W' : GW} [j : Le W W'] : Lf W W' := ⟨j.s.f⟩

/-- What a call gives: a later world in which EVERY old block is as it was. -/
structure Ext (W W' : GW) : Prop extends LeK W W' where
  all : ∀ k, k < W.size → W'.w.heap[k]? = W.w.heap[k]?

theorem Ext.refl (W : GW) : Ext W W := { LeK.refl W with all := fun _ _ => rfl }
theorem Ext.trans {a b c : GW} (h : Ext a b) (k : Ext b c) : Ext a c :=
  { h.toLeK.trans k.toLeK with all := fun i hi => (k.all i (Nat.lt_of_lt_of_le hi h.size)).trans (h.all i hi) }

theorem cell_of_heap {w w' : World} {a : Addr} (h : w'.heap[a.block]? = w.heap[a.block]?) : w'.cell? a = w.cell? a := World.cell?_of_block (w := w) h

theorem cell_lt {w : World} {a : Addr} {v : Value} (h : w.cell? a = some v) : a.block < w.heap.size := by
  unfold World.cell? at h
  by_cases hb : a.block < w.heap.size
  · exact hb
  · rw [Array.getElem?_eq_none (by omega)] at h; cases h

/-- A value of one cell. -/
def oneC : Value → Bool
  | .agg _ | .tuple _ => false
  | _ => true

/-- How a datum of type α lies in cells. -/
structure Rep (α : Type) where
  size : Nat
  agg : Bool
  At : GW → List Value → α → Prop
  len : ∀ {W : GW} {cs : List Value} {x : α}, At W cs x → cs.length = size
  mono : ∀ {W W' : GW} {cs : List Value} {x : α}, LeF W W' → At W cs x → At W' cs x
  one : ∀ {W : GW} {cs : List Value} {x : α}, At W cs x → ∀ v ∈ cs, oneC v = true

/-- The value that bears these cells. -/
def mkv (agg : Bool) (cs : List Value) : Value := if agg then .agg cs.toArray else cs.headD undef

/-- v is, in W, the datum x. -/
def V {α : Type} (r : Rep α) (W : GW) (v : Value) (x : α) : Prop := ∃ cs, r.At W cs x ∧ v = mkv r.agg cs

theorem V.mono {α : Type} {r : Rep α} {W W' : GW} {v : Value} {x : α} (h : V r W v x) (l : LeF W W') : V r W' v x :=
  let ⟨cs, a, e⟩ := h; ⟨cs, r.mono l a, e⟩
theorem V.to {α : Type} {r : Rep α} {W W' : GW} {v : Value} {x : α} (h : V r W v x) [l : Lf W W'] : V r W' v x := h.mono l.s

/-- A row of data from p on. -/
def SlAt {α : Type} (r : Rep α) (W : GW) (p : Option Addr) (xs : List α) : Prop :=
  xs = [] ∨ ∃ b off, p = some ⟨b, off, none⟩ ∧ b < W.size ∧ b ∉ W.A ∧
    ∀ i x, xs[i]? = some x → ∃ c, r.At W c x ∧ ∀ j v, c[j]? = some v → W.w.cell? ⟨b, off + (i * r.size + j), none⟩ = some v

theorem SlAt.mono {α : Type} {r : Rep α} {W W' : GW} {p : Option Addr} {xs : List α} (l : LeF W W') (h : SlAt r W p xs) : SlAt r W' p xs := by
  rcases h with h | ⟨b, off, hp, hb, hA, hx⟩
  · exact .inl h
  · refine .inr ⟨b, off, hp, Nat.lt_of_lt_of_le hb l.size, l.stay b hb hA, fun i x hi => ?_⟩
    obtain ⟨c, hc, hv⟩ := hx i x hi
    refine ⟨c, r.mono l hc, fun j v hj => ?_⟩
    rw [cell_of_heap (l.same b hb hA)]
    exact hv j v hj

/-- A slice of data. -/
structure Sl {α : Type} (r : Rep α) (W : GW) (p : Option Addr) (n c : Nat) (xs : List α) : Prop where
  hn : n = xs.length
  hc : n ≤ c
  hC : c < 9223372036854775808
  at' : SlAt r W p xs

theorem Sl.mono {α : Type} {r : Rep α} {W W' : GW} {p : Option Addr} {n c : Nat} {xs : List α} (l : LeF W W') (h : Sl r W p n c xs) : Sl r W' p n c xs :=
  ⟨h.hn, h.hc, h.hC, h.at'.mono l⟩
theorem Sl.to {α : Type} {r : Rep α} {W W' : GW} {p : Option Addr} {n c : Nat} {xs : List α} (h : Sl r W p n c xs) [l : Lf W W'] : Sl r W' p n c xs := h.mono l.s

def RSl {α : Type} (r : Rep α) : Rep (List α) where
  size := 1
  agg := false
  At := fun W cs xs => ∃ p n c, cs = [.slice p n c] ∧ Sl r W p n c xs
  len := fun ⟨p, n, c, h, _⟩ => by rw [h]; rfl
  mono := fun l ⟨p, n, c, h, s⟩ => ⟨p, n, c, h, s.mono l⟩
  one := fun ⟨p, n, c, h, _⟩ v hv => by subst h; simp at hv; subst hv; rfl

def RB : Rep Bool where
  size := 1
  agg := false
  At := fun W cs x => cs = [.bool x]
  len := fun h => by rw [h]; rfl
  mono := fun _ h => h
  one := fun h v hv => by subst h; simp at hv; subst hv; rfl

/-- A word. -/
def RW : Rep Nat where
  size := 1
  agg := false
  At := fun W cs x => cs = [.int .u32 (x : Int)] ∧ x < 4294967296
  len := fun h => by rw [h.1]; rfl
  mono := fun _ h => h
  one := fun h v hv => by rw [h.1] at hv; simp at hv; subst hv; rfl

/-- Two data side by side: a struct. -/
def RP {α β : Type} (r : Rep α) (s : Rep β) : Rep (α × β) where
  size := r.size + s.size
  agg := true
  At := fun W cs x => ∃ c d, cs = c ++ d ∧ r.At W c x.1 ∧ s.At W d x.2
  len := fun ⟨c, d, h, a, b⟩ => by rw [h, List.length_append, r.len a, s.len b]
  mono := fun l ⟨c, d, h, a, b⟩ => ⟨c, d, h, r.mono l a, s.mono l b⟩
  one := fun ⟨c, d, h, a, b⟩ v hv => by
    subst h
    rcases List.mem_append.1 hv with h | h
    · exact r.one a v h
    · exact s.one b v h

theorem V.sl {α : Type} {r : Rep α} {W : GW} {v : Value} {xs : List α} (h : V (RSl r) W v xs) : ∃ p n c, v = .slice p n c ∧ Sl r W p n c xs := by
  obtain ⟨cs, ⟨p, n, c, h, s⟩, e⟩ := h
  subst h
  exact ⟨p, n, c, e, s⟩
theorem Sl.v {α : Type} {r : Rep α} {W : GW} {p : Option Addr} {n c : Nat} {xs : List α} (h : Sl r W p n c xs) : V (RSl r) W (.slice p n c) xs :=
  ⟨[.slice p n c], ⟨p, n, c, rfl, h⟩, rfl⟩
theorem V.pair {α β : Type} {r : Rep α} {s : Rep β} {W : GW} {v : Value} {x : α × β} (h : V (RP r s) W v x) :
    ∃ c d, v = .agg (c ++ d).toArray ∧ r.At W c x.1 ∧ s.At W d x.2 := by
  obtain ⟨cs, ⟨c, d, h, a, b⟩, e⟩ := h
  subst h
  exact ⟨c, d, e, a, b⟩
theorem nil_sl {α : Type} (r : Rep α) (W : GW) (p : Option Addr) : Sl r W p 0 0 [] := ⟨rfl, Nat.le_refl _, by decide, .inl rfl⟩

/-- One cell of a slice whose data are one cell each. -/
theorem Sl.cells {α : Type} {r : Rep α} {W : GW} {p : Option Addr} {n c : Nat} {xs : List α} (h : Sl r W p n c xs) {i : Nat} {x : α} (hi : xs[i]? = some x) :
    ∃ b off cs, p = some ⟨b, off, none⟩ ∧ r.At W cs x ∧ ∀ j v, cs[j]? = some v → W.w.cell? ⟨b, off + (i * r.size + j), none⟩ = some v := by
  rcases h.at' with h | ⟨b, off, hp, hb, hA, hx⟩
  · subst h; simp at hi
  · obtain ⟨cs, hc, hv⟩ := hx i x hi
    exact ⟨b, off, cs, hp, hc, hv⟩

/-- Part of a slice: from l to h. -/
theorem SlAt.sub {α : Type} {r : Rep α} {W : GW} {p : Option Addr} {xs : List α} (h : SlAt r W p xs) (l m : Nat) (q : Option Addr)
    (hq : ∀ b off, p = some ⟨b, off, none⟩ → l < xs.length → q = some ⟨b, off + l * r.size, none⟩) : SlAt r W q ((xs.drop l).take m) := by
  rcases h with h | ⟨b, off, hp, hb, hA, hx⟩
  · subst h; exact .inl (by simp)
  · by_cases hl : l < xs.length
    · refine .inr ⟨b, off + l * r.size, hq b off hp hl, hb, hA, fun i x hi => ?_⟩
      have hi' : xs[l + i]? = some x := by
        rw [List.getElem?_take] at hi
        split at hi
        · rwa [List.getElem?_drop] at hi
        · cases hi
      obtain ⟨cs, hc, hv⟩ := hx _ x hi'
      refine ⟨cs, hc, fun j v hj => ?_⟩
      have := hv j v hj
      rw [show off + l * r.size + (i * r.size + j) = off + ((l + i) * r.size + j) from by rw [Nat.add_mul]; omega]
      exact this
    · exact .inl (by rw [List.drop_eq_nil_of_le (by omega)]; simp)
end
section

/-- The slots that are known. -/
abbrev Env := List (Nat × Value)
def look : Env → Nat → Option Value
  | [], _ => none
  | (s, v) :: e, t => match Nat.beq t s with
    | true => some v
    | false => look e t
def get (e : Env) : Operand → Option Value
  | .tmp t => look e t
  | .const v => some v
  | .global g => some (.pointer (some ⟨g, 0, none⟩))
  | .func f => some (.func (.func f) #[] #[])
def getL (e : Env) : List Operand → Option (List Value)
  | [] => some []
  | x :: l => match get e x with
    | none => none
    | some v => match getL e l with
      | none => none
      | some vs => some (v :: vs)

structure Rel (n : Nat) (e : Env) (a : Act) : Prop where
  defers : a.defers = []
  size : a.tmps.size = n
  has : ∀ t v, look e t = some v → a.tmps.getD t undef = v

theorem Rel.get {n : Nat} {e : Env} {a : Act} (h : Rel n e a) {x : Operand} {v : Value} (hx : Rx.get e x = some v) : a.eval x = v := by
  cases x with
  | tmp t => exact h.has t v hx
  | const c => simp only [Rx.get, Option.some.injEq] at hx; exact hx
  | global g => simp only [Rx.get, Option.some.injEq] at hx; exact hx
  | func f => simp only [Rx.get, Option.some.injEq] at hx; exact hx

theorem Rel.getL {n : Nat} {e : Env} {a : Act} (h : Rel n e a) {l : List Operand} {vs : List Value} (hx : Rx.getL e l = some vs) : l.map a.eval = vs := by
  induction l generalizing vs with
  | nil => simp only [Rx.getL, Option.some.injEq] at hx; exact hx
  | cons x l ih =>
    simp only [Rx.getL] at hx
    split at hx
    · cases hx
    · rename_i v hv
      split at hx
      · cases hx
      · rename_i us hus
        injection hx with hx
        rw [List.map_cons, h.get hv, ih hus, hx]

theorem nbeq {a b : Nat} (h : ¬ a = b) : Nat.beq a b = false := by
  cases hb : Nat.beq a b
  · rfl
  · exact absurd (Nat.eq_of_beq_eq_true hb) h

theorem look_cons (s : Nat) (v : Value) (e : Env) (t : Nat) : look ((s, v) :: e) t = if t = s then some v else look e t := by
  by_cases h : t = s
  · subst h; simp [look]
  · rw [if_neg h]
    simp only [look, nbeq h]

theorem Rel.put {n : Nat} {e : Env} {a : Act} (h : Rel n e a) {d : Nat} (hd : Nat.blt d n = true) (v : Value) : Rel n ((d, v) :: e) (a.put (some d) v) := by
  have hd' : d < n := by simpa using hd
  refine ⟨h.defers, by simp [Act.put, h.size], fun t u ht => ?_⟩
  rw [look_cons] at ht
  have hs := h.size
  by_cases hts : t = d
  · subst hts
    simp at ht
    subst ht
    simp [Act.put, Array.getD, hs, hd']
  · simp [hts] at ht
    rw [← h.has t u ht]
    simp only [Act.put, Array.getD]
    by_cases hlt : t < a.tmps.size
    · simp [hlt, Ne.symm hts]
    · simp [hlt]

/-- Every entry of E stands in env. -/
def SubL (env : Env) : Env → Prop
  | [] => True
  | (t, v) :: e => look env t = some v ∧ SubL env e

theorem Rel.sub {n : Nat} {e e' : Env} {a : Act} (h : Rel n e a) (hs : SubL e e') : Rel n e' a := by
  refine ⟨h.defers, h.size, fun t u ht => ?_⟩
  induction e' with
  | nil => simp [look] at ht
  | cons p l ih =>
    obtain ⟨s, v⟩ := p
    rw [look_cons] at ht
    by_cases hts : t = s
    · subst hts; simp at ht; subst ht; exact h.has _ _ hs.1
    · simp [hts] at ht; exact ih hs.2 ht

/-- What is left to do. -/
inductive Kt where
  | c (c : Code)
  | b (id : Nat)
  | l (I : Act → World → Prop)

def Done (P : Program) (fin : Exit → Act → World → Prop) : List Kt → Exit → Act → World → Prop
  | [], e, a, w => fin e a w
  | .c c :: K, e, a, w => match e with
    | .normal => c.wp P (Done P fin K) a w
    | e => Done P fin K e a w
  | .b id :: K, e, a, w => match e with
    | .exit id' => if id' = id then Done P fin K .normal a w else Done P fin K (.exit id') a w
    | e => Done P fin K e a w
  | .l I :: K, e, a, w => match e with
    | .normal => I a w
    | e => Done P fin K e a w

def J (P : Program) (n : Nat) (K : List Kt) (fin : Exit → Act → World → Prop) (env : Env) (W : GW) : Prop :=
  ∀ a, Rel n env a → Done P fin K .normal a W.w

section
variable {P : Program} {n : Nat} {K : List Kt} {fin : Exit → Act → World → Prop} {env : Env} {W : GW}

theorem J.seq {x y : Code} (k : J P n (.c x :: .c y :: K) fin env W) : J P n (.c (.seq x y) :: K) fin env W := by
  intro a ha
  refine wp_seq (wp_mono (k a ha) ?_)
  intro e a w h
  cases e <;> exact h
theorem J.skip (k : J P n K fin env W) : J P n (.c .skip :: K) fin env W := fun a ha => wp_skip (k a ha)
theorem J.block {id : Nat} {x : Code} (k : J P n (.c x :: .b id :: K) fin env W) : J P n (.c (.block id x) :: K) fin env W := by
  intro a ha
  refine wp_block (wp_mono (k a ha) ?_)
  intro e a w h
  cases e <;> exact h
theorem J.bend {id : Nat} (k : J P n K fin env W) : J P n (.b id :: K) fin env W := fun a ha => k a ha

def popK (id : Nat) : List Kt → Option (List Kt)
  | [] => none
  | .b i :: K => match Nat.beq id i with
    | true => some K
    | false => popK id K
  | .c _ :: K => popK id K
  | .l _ :: K => popK id K
theorem done_exit {id : Nat} {K K' : List Kt} (h : popK id K = some K') {a : Act} {w : World} (hd : Done P fin K' .normal a w) : Done P fin K (.exit id) a w := by
  induction K with
  | nil => simp [popK] at h
  | cons x K ih =>
    cases x with
    | c c => exact ih h
    | l I => exact ih h
    | b i =>
      by_cases hi : id = i
      · subst hi
        simp [popK] at h
        subst h
        simp [Done]
        exact hd
      · simp only [popK, nbeq hi] at h
        simp only [Done, if_neg hi]
        exact ih h
theorem J.exit {id : Nat} {K' : List Kt} (h : popK id K = some K') (k : J P n K' fin env W) : J P n (.c (.exit id) :: K) fin env W :=
  fun a ha => wp_exit (done_exit h (k a ha))
theorem done_ret {K : List Kt} {a : Act} {w : World} (h : fin .ret a w) : Done P fin K .ret a w := by
  induction K with
  | nil => exact h
  | cons x K ih => cases x <;> exact ih
theorem J.ret (k : ∀ a, Rel n env a → fin .ret a W.w) : J P n (.c .ret :: K) fin env W :=
  fun a ha => wp_ret (done_ret (k a ha))

/-- A test that is known. -/
theorem J.condT {x : Operand} {c d : Code} (hb : get env x = some (.bool true)) (k : J P n (.c c :: K) fin env W) : J P n (.c (.cond x c d) :: K) fin env W :=
  fun a ha => wp_cond_true (ha.get hb) (k a ha)
theorem J.condF {x : Operand} {c d : Code} (hb : get env x = some (.bool false)) (k : J P n (.c d :: K) fin env W) : J P n (.c (.cond x c d) :: K) fin env W :=
  fun a ha => wp_cond_false (ha.get hb) (k a ha)
theorem J.cond {x : Operand} {c d : Code} {b : Bool} (hb : get env x = some (.bool b)) (k1 : b = true → J P n (.c c :: K) fin env W) (k2 : b = false → J P n (.c d :: K) fin env W) :
    J P n (.c (.cond x c d) :: K) fin env W := by
  intro a ha
  cases b
  · exact wp_cond_false (ha.get hb) (k2 rfl a ha)
  · exact wp_cond_true (ha.get hb) (k1 rfl a ha)
theorem J.condD {x : Operand} {c d : Code} {p : Prop} {ip : Decidable p} (hb : get env x = some (.bool (decide p))) (k1 : p → J P n (.c c :: K) fin env W) (k2 : ¬ p → J P n (.c d :: K) fin env W) :
    J P n (.c (.cond x c d) :: K) fin env W :=
  J.cond hb (fun h => k1 (of_decide_eq_true h)) (fun h => k2 (of_decide_eq_false h))

theorem J.sub (E : Env) (h : SubL env E) (k : J P n K fin E W) : J P n K fin env W := fun a ha => k a (ha.sub h)
/-- A slot's value, said otherwise. -/
theorem J.set {t : Nat} {v : Value} (v' : Value) (h : look env t = some v) (e : v = v') (k : J P n K fin ((t, v') :: env) W) : J P n K fin env W := by
  intro a ha
  refine k a ⟨ha.defers, ha.size, fun s u hs => ?_⟩
  rw [look_cons] at hs
  by_cases hts : s = t
  · subst hts; simp at hs; rw [← hs, ← e]; exact ha.has _ _ h
  · simp [hts] at hs; exact ha.has _ _ hs

theorem exists_min (p : Nat → Prop) (h : ∃ n, p n) : ∃ n, p n ∧ ∀ m, p m → n ≤ m := by
  obtain ⟨n, hn⟩ := h
  induction n using Nat.strongRecOn with
  | _ n ih =>
    by_cases hs : ∃ m, m < n ∧ p m
    · obtain ⟨m, hm, hp⟩ := hs; exact ih m hm hp
    · exact ⟨n, hn, fun m hm => Nat.le_of_not_lt fun hlt => hs ⟨m, hlt, hm⟩⟩
open Classical in
noncomputable def least (p : Nat → Prop) : Nat := if h : ∃ n, p n then Classical.choose (exists_min p h) else 0
theorem least_spec {p : Nat → Prop} (h : ∃ n, p n) : p (least p) ∧ ∀ m, p m → least p ≤ m := by
  unfold least; rw [dif_pos h]; exact Classical.choose_spec (exists_min p h)

/-- The assertion at a place: some x, a world. -/
def At {α : Type} (n : Nat) (E : α → Env) (I : α → GW → Prop) (a : Act) (w : World) : Prop := ∃ x W', W'.w = w ∧ Rel n (E x) a ∧ I x W'

theorem J.loop {α : Type} {c : Code} (E : α → Env) (I : α → GW → Prop) (μ : α → Nat) (x : α) (hs : SubL env (E x)) (h0 : I x W)
    (k : ∀ x W', I x W' → J P n (.c c :: .l (At n E fun x' W'' => I x' W'' ∧ μ x' < μ x) :: K) fin (E x) W') : J P n (.c (.loop c) :: K) fin env W := by
  intro a ha
  refine wp_loop (fun a w => At n E I a w) (fun a w => least fun m => ∃ x W', W'.w = w ∧ Rel n (E x) a ∧ I x W' ∧ μ x = m) ⟨x, W, rfl, ha.sub hs, h0⟩ ?_
  intro a w hI
  obtain ⟨x0, W0, hw0, hr0, hi0⟩ := hI
  obtain ⟨⟨x, W', hw, hr, hi, hm⟩, hmin⟩ := least_spec (p := fun m => ∃ x W', W'.w = w ∧ Rel n (E x) a ∧ I x W' ∧ μ x = m) ⟨μ x0, x0, W0, hw0, hr0, hi0, rfl⟩
  have := k x W' hi a hr
  rw [hw] at this
  refine wp_mono this ?_
  intro e a' w' h
  cases e <;> first | exact h | skip
  obtain ⟨x', W'', hw', hr', hi', hlt⟩ := h
  refine ⟨⟨x', W'', hw', hr', hi'⟩, ?_⟩
  rw [← hm]
  refine Nat.lt_of_le_of_lt ?_ hlt
  exact (least_spec (p := fun m => ∃ x W', W'.w = w' ∧ Rel n (E x) a' ∧ I x W' ∧ μ x = m) ⟨μ x', x', W'', hw', hr', hi', rfl⟩).2 _ ⟨x', W'', hw', hr', hi', rfl⟩

/-- The place is reached. -/
theorem J.at' {α : Type} {E : α → Env} {I : α → GW → Prop} (x : α) (hs : SubL env (E x)) (h : I x W) : J P n (.l (At n E I) :: K) fin env W :=
  fun a ha => ⟨x, W, rfl, ha.sub hs, h⟩
/-- Ways meet behind a piece of code. -/
theorem J.cut {α : Type} {c : Code} (E : α → Env) (I : α → GW → Prop) (k1 : J P n (.c c :: .l (At n E I) :: K) fin env W)
    (k2 : ∀ x W', I x W' → J P n K fin (E x) W') : J P n (.c c :: K) fin env W := by
  intro a ha
  refine wp_mono (k1 a ha) ?_
  intro e a' w' h
  cases e <;> first | exact h | skip
  obtain ⟨x, W', hw, hr, hi⟩ := h
  rw [← hw]
  exact k2 x W' hi a' hr

/-! Operations -/
def opsOk (n : Nat) : List Oper → Bool
  | [] => true
  | o :: l => match o.dst with
    | none => opsOk n l
    | some d => match Nat.blt d n with
      | true => opsOk n l
      | false => false

def wpL (P : Program) (ops : Array Oper) (Q : Exit → Act → World → Prop) : List Oper → Act → World → Prop
  | [], a, w => Q .normal a w
  | o :: l, a, w => if Region.wanted o (yielded ops a.tmps) then o.wp P a w (wpL P ops Q l) Q else wpL P ops Q l (a.put o.dst undef) w

theorem wpOps_of {ops : Array Oper} {Q : Exit → Act → World → Prop} (l : List Oper) :
    ∀ (i : Nat) (a : Act) (w : World), ops.toList.drop i = l → wpL P ops Q l a w → wpOps P ops Q (List.range' i l.length) a w := by
  induction l with
  | nil => intro i a w _ h; exact h
  | cons o l ih =>
    intro i a w hd h
    have ho : ops[i]? = some o := by
      have h1 : (ops.toList.drop i)[0]? = some o := by rw [hd]; rfl
      rw [List.getElem?_drop] at h1
      simpa using h1
    have hl : ops.toList.drop (i + 1) = l := by
      have : (ops.toList.drop i).drop 1 = l := by rw [hd]; rfl
      rwa [List.drop_drop] at this
    have hn : (fun a' w' => wpOps P ops Q (List.range' (i + 1) l.length) a' w') = wpOps P ops Q (List.range' (i + 1) l.length) := rfl
    rw [List.length_cons, List.range'_succ]
    simp only [wpOps, ho]
    simp only [wpL] at h
    split at h
    · rename_i hw
      rw [if_pos hw]
      left
      exact Oper.wp_mono (fun a w h => ih (i + 1) a w hl h) h
    · rename_i hw
      rw [if_neg hw]
      exact ih (i + 1) _ w hl h

end
end
section

def JO (P : Program) (n : Nat) (ops : Array Oper) (l : List Oper) (K : List Kt) (fin : Exit → Act → World → Prop) (env : Env) (W : GW) : Prop :=
  opsOk n l = true → ∀ a, Rel n env a → wpL P ops (Done P fin K) l a W.w

section
variable {P : Program} {n : Nat} {ops : Array Oper} {l : List Oper} {K : List Kt} {fin : Exit → Act → World → Prop} {env : Env} {W : GW}

theorem J.reg {id : Nat} {l : List Oper} (hok : opsOk n l = true) (k : JO P n l.toArray l K fin env W) : J P n (.c (.region id l.toArray false) :: K) fin env W := by
  intro a ha
  refine wp_region ?_
  have := wpOps_of (P := P) (ops := l.toArray) (Q := Done P fin K) l 0 a W.w (by simp) (k hok a ha)
  rw [← List.range_eq_range'] at this
  simpa using this
theorem JO.nil (k : J P n K fin env W) : JO P n ops [] K fin env W := fun _ a ha => k a ha

theorem JO.unok {o : Oper} {l : List Oper} (h : opsOk n (o :: l) = true) : opsOk n l = true := by
  simp only [opsOk] at h
  split at h
  · exact h
  · split at h
    · exact h
    · cases h
theorem JO.dst {d : Nat} {op : Op} {ty : TypeId} {pos : String} {aft : Array Edge} {g : Option (Nat × Bool)} {l : List Oper} (h : opsOk n (⟨some d, op, ty, pos, aft, g⟩ :: l) = true) :
    Nat.blt d n = true := by
  simp only [opsOk] at h
  split at h
  · assumption
  · cases h

theorem JO.world {d : Nat} {op : Op} {ty : TypeId} {pos : String} {aft : Array Edge} {v : Value} {W' : GW}
    (hr : ∀ a : Act, Rel n env a → (execOp a.eval ⟨some d, op, ty, pos, aft, none⟩).run P W.w = .ok (.value v) W'.w)
    (k : JO P n ops l K fin ((d, v) :: env) W') : JO P n ops (⟨some d, op, ty, pos, aft, none⟩ :: l) K fin env W := by
  intro hok a ha
  have hw : Region.wanted ⟨some d, op, ty, pos, aft, none⟩ (yielded ops a.tmps) = true := rfl
  simp only [wpL, hw, if_true]
  unfold Oper.wp
  rw [hr a ha]
  exact k (JO.unok hok) _ (ha.put (JO.dst hok) v)
theorem JO.value {d : Nat} {op : Op} {ty : TypeId} {pos : String} {aft : Array Edge} {v : Value}
    (hr : ∀ a : Act, Rel n env a → (execOp a.eval ⟨some d, op, ty, pos, aft, none⟩).run P W.w = .ok (.value v) W.w)
    (k : JO P n ops l K fin ((d, v) :: env) W) : JO P n ops (⟨some d, op, ty, pos, aft, none⟩ :: l) K fin env W := JO.world hr k
theorem JO.unit {op : Op} {ty : TypeId} {pos : String} {aft : Array Edge} {W' : GW}
    (hr : ∀ a : Act, Rel n env a → (execOp a.eval ⟨none, op, ty, pos, aft, none⟩).run P W.w = .ok .skip W'.w)
    (k : JO P n ops l K fin env W') : JO P n ops (⟨none, op, ty, pos, aft, none⟩ :: l) K fin env W := by
  intro hok a ha
  have hw : Region.wanted ⟨none, op, ty, pos, aft, none⟩ (yielded ops a.tmps) = true := rfl
  simp only [wpL, hw, if_true]
  unfold Oper.wp
  rw [hr a ha]
  exact k (JO.unok hok) _ ha

/-! guards -/
def dstAt (ops : List Oper) (j : Nat) : Option Nat := match ops, j with
  | [], _ => none
  | o :: _, 0 => o.dst
  | _ :: l, j + 1 => dstAt l j
theorem dstAt_eq (ops : List Oper) (j : Nat) : dstAt ops j = (ops[j]?).bind (·.dst) := by
  induction ops generalizing j with
  | nil => simp [dstAt]
  | cons o l ih => cases j with
    | zero => rfl
    | succ j => simp [dstAt, ih]
theorem yielded_of {L : List Oper} {a : Act} {j t : Nat} {c : Bool} (ha : Rel n env a) (ho : dstAt L j = some t) (hv : look env t = some (.bool c)) : yielded L.toArray a.tmps j = some c := by
  rw [dstAt_eq] at ho
  have h1 := ha.has t _ hv
  have h2 : a.tmps[t]? = some (.bool c) := by
    simp only [Array.getD] at h1
    split at h1
    · rename_i hlt
      rw [Array.getElem?_eq_getElem hlt]
      exact congrArg some h1
    · simp [undef] at h1
  simp [yielded, ho, h2]
theorem O.gt {L : List Oper} {d : Option Nat} {op : Op} {ty : TypeId} {pos : String} {aft : Array Edge} {j t : Nat} {b : Bool}
    (ho : dstAt L j = some t) (hv : look env t = some (.bool b)) (k : JO P n L.toArray (⟨d, op, ty, pos, aft, none⟩ :: l) K fin env W) :
    JO P n L.toArray (⟨d, op, ty, pos, aft, some (j, b)⟩ :: l) K fin env W := by
  intro hok a ha
  have hy := yielded_of ha ho hv
  have := k hok a ha
  have hw : Region.wanted ⟨d, op, ty, pos, aft, some (j, b)⟩ (yielded L.toArray a.tmps) = true := by simp [Region.wanted, hy]
  have hw' : Region.wanted ⟨d, op, ty, pos, aft, none⟩ (yielded L.toArray a.tmps) = true := rfl
  simp only [wpL, hw, hw', if_true] at this ⊢
  exact this
theorem O.gs {L : List Oper} {d : Nat} {op : Op} {ty : TypeId} {pos : String} {aft : Array Edge} {j t : Nat} {b c : Bool}
    (ho : dstAt L j = some t) (hv : look env t = some (.bool c)) (hc : (c == b) = false) (k : JO P n L.toArray l K fin ((d, undef) :: env) W) :
    JO P n L.toArray (⟨some d, op, ty, pos, aft, some (j, b)⟩ :: l) K fin env W := by
  intro hok a ha
  have hy := yielded_of ha ho hv
  have hw : Region.wanted ⟨some d, op, ty, pos, aft, some (j, b)⟩ (yielded L.toArray a.tmps) = false := by
    simp only [Region.wanted, hy]
    cases b <;> cases c <;> first | rfl | cases hc
  simp only [wpL, hw, Bool.false_eq_true, if_false]
  exact k (JO.unok hok) _ (ha.put (JO.dst hok) undef)
theorem O.set {t : Nat} {v : Value} (v' : Value) (h : look env t = some v) (e : v = v') (k : JO P n ops l K fin ((t, v') :: env) W) : JO P n ops l K fin env W := by
  intro hok a ha
  refine k hok a ⟨ha.defers, ha.size, fun s u hs => ?_⟩
  rw [look_cons] at hs
  by_cases hts : s = t
  · subst hts; simp at hs; rw [← hs, ← e]; exact ha.has _ _ h
  · simp [hts] at hs; exact ha.has _ _ hs
theorem O.sub (E : Env) (h : SubL env E) (k : JO P n ops l K fin E W) : JO P n ops l K fin env W := fun hok a ha => k hok a (ha.sub h)

variable {d : Nat} {ty : TypeId} {pos : String} {aft : Array Edge}

/-! operations that only compute -/
theorem O.mv {x : Operand} {v : Value} (hx : get env x = some v) (k : JO P n ops l K fin ((d, v) :: env) W) : JO P n ops (⟨some d, .move x, ty, pos, aft, none⟩ :: l) K fin env W :=
  JO.value (fun a ha => by show Result.ok (Next.value (a.eval x)) W.w = _; rw [ha.get hx]) k
theorem O.as {x : Operand} {v : Value} (hx : get env x = some v) (k : JO P n ops l K fin ((d, v) :: env) W) : JO P n ops (⟨some d, .assign x, ty, pos, aft, none⟩ :: l) K fin env W :=
  JO.value (fun a ha => by show Result.ok (Next.value (a.eval x)) W.w = _; rw [ha.get hx]) k
theorem O.pickT {c x y : Operand} {v : Value} (hc : get env c = some (.bool true)) (hx : get env x = some v) (k : JO P n ops l K fin ((d, v) :: env) W) :
    JO P n ops (⟨some d, .pick c x y, ty, pos, aft, none⟩ :: l) K fin env W :=
  JO.value (fun a ha => by simp only [execOp, ha.get hc, ha.get hx]; rfl) k
theorem O.pickF {c x y : Operand} {v : Value} (hc : get env c = some (.bool false)) (hx : get env y = some v) (k : JO P n ops l K fin ((d, v) :: env) W) :
    JO P n ops (⟨some d, .pick c x y, ty, pos, aft, none⟩ :: l) K fin env W :=
  JO.value (fun a ha => by simp only [execOp, ha.get hc, ha.get hx]; rfl) k
theorem O.ext {x : Operand} {i : Nat} {vs : Array Value} {v : Value} (hx : get env x = some (.tuple vs)) (hv : vs[i]? = some v) (k : JO P n ops l K fin ((d, v) :: env) W) :
    JO P n ops (⟨some d, .extract x i, ty, pos, aft, none⟩ :: l) K fin env W :=
  JO.value (fun a ha => by simp only [execOp, ha.get hx, Instr.extract, hv]; rfl) k
theorem O.not {x : Operand} {T : TypeId} {b : Bool} (hx : get env x = some (.bool b)) (k : JO P n ops l K fin ((d, .bool (!b)) :: env) W) :
    JO P n ops (⟨some d, .unOp .not T x, ty, pos, aft, none⟩ :: l) K fin env W :=
  JO.value (fun a ha => by simp only [execOp, ha.get hx]; rfl) k

theorem beq_dec (a b : Int) : (a == b) = decide (a = b) := rfl
/-- arithmetic -/
theorem O.add {x y : Operand} {T T' : TypeId} {k' : IntKind} {a b r : Int} (hx : get env x = some (.int k' a)) (hy : get env y = some (.int k' b)) (hr : k'.wrap (a + b) = r)
    (k : JO P n ops l K fin ((d, .int k' r) :: env) W) : JO P n ops (⟨some d, .binOp .add T x y T', ty, pos, aft, none⟩ :: l) K fin env W :=
  JO.value (fun a ha => by simp only [execOp, ha.get hx, ha.get hy, eqGuard, binOp, Op.intArith, hr]; simp [bind, pure, Sem.bind, Sem.run]) k
theorem O.sb {x y : Operand} {T T' : TypeId} {k' : IntKind} {a b r : Int} (hx : get env x = some (.int k' a)) (hy : get env y = some (.int k' b)) (hr : k'.wrap (a - b) = r)
    (k : JO P n ops l K fin ((d, .int k' r) :: env) W) : JO P n ops (⟨some d, .binOp .sub T x y T', ty, pos, aft, none⟩ :: l) K fin env W :=
  JO.value (fun a ha => by simp only [execOp, ha.get hx, ha.get hy, eqGuard, binOp, Op.intArith, hr]; simp [bind, pure, Sem.bind, Sem.run]) k
theorem O.mul {x y : Operand} {T T' : TypeId} {k' : IntKind} {a b r : Int} (hx : get env x = some (.int k' a)) (hy : get env y = some (.int k' b)) (hr : k'.wrap (a * b) = r)
    (k : JO P n ops l K fin ((d, .int k' r) :: env) W) : JO P n ops (⟨some d, .binOp .mul T x y T', ty, pos, aft, none⟩ :: l) K fin env W :=
  JO.value (fun a ha => by simp only [execOp, ha.get hx, ha.get hy, eqGuard, binOp, Op.intArith, hr]; simp [bind, pure, Sem.bind, Sem.run]) k
theorem O.lt {x y : Operand} {T T' : TypeId} {k' : IntKind} {a b : Int} (hx : get env x = some (.int k' a)) (hy : get env y = some (.int k' b))
    (k : JO P n ops l K fin ((d, .bool (decide (a < b))) :: env) W) : JO P n ops (⟨some d, .binOp .lss T x y T', ty, pos, aft, none⟩ :: l) K fin env W :=
  JO.value (fun a ha => by simp only [execOp, ha.get hx, ha.get hy, eqGuard, binOp, Op.intCmp]; simp [bind, pure, Sem.bind, Sem.run]) k
theorem O.le {x y : Operand} {T T' : TypeId} {k' : IntKind} {a b : Int} (hx : get env x = some (.int k' a)) (hy : get env y = some (.int k' b))
    (k : JO P n ops l K fin ((d, .bool (decide (a ≤ b))) :: env) W) : JO P n ops (⟨some d, .binOp .leq T x y T', ty, pos, aft, none⟩ :: l) K fin env W :=
  JO.value (fun a ha => by simp only [execOp, ha.get hx, ha.get hy, eqGuard, binOp, Op.intCmp]; simp [bind, pure, Sem.bind, Sem.run]) k
theorem O.gtr {x y : Operand} {T T' : TypeId} {k' : IntKind} {a b : Int} (hx : get env x = some (.int k' a)) (hy : get env y = some (.int k' b))
    (k : JO P n ops l K fin ((d, .bool (decide (a > b))) :: env) W) : JO P n ops (⟨some d, .binOp .gtr T x y T', ty, pos, aft, none⟩ :: l) K fin env W :=
  JO.value (fun a ha => by simp only [execOp, ha.get hx, ha.get hy, eqGuard, binOp, Op.intCmp]; simp [bind, pure, Sem.bind, Sem.run]) k
theorem O.ge {x y : Operand} {T T' : TypeId} {k' : IntKind} {a b : Int} (hx : get env x = some (.int k' a)) (hy : get env y = some (.int k' b))
    (k : JO P n ops l K fin ((d, .bool (decide (a ≥ b))) :: env) W) : JO P n ops (⟨some d, .binOp .geq T x y T', ty, pos, aft, none⟩ :: l) K fin env W :=
  JO.value (fun a ha => by simp only [execOp, ha.get hx, ha.get hy, eqGuard, binOp, Op.intCmp]; simp [bind, pure, Sem.bind, Sem.run]) k
theorem O.eq {x y : Operand} {T T' : TypeId} {k' : IntKind} {a b : Int} (hx : get env x = some (.int k' a)) (hy : get env y = some (.int k' b))
    (k : JO P n ops l K fin ((d, .bool (decide (a = b))) :: env) W) : JO P n ops (⟨some d, .binOp .eql T x y T', ty, pos, aft, none⟩ :: l) K fin env W := by
  refine JO.value (v := .bool (decide (a = b))) (fun a ha => ?_) k
  simp only [execOp, ha.get hx, ha.get hy, eqGuard, binOp, Op.intCmp]
  simp [bind, pure, Sem.bind, Sem.run, beq_dec]
theorem O.ne {x y : Operand} {T T' : TypeId} {k' : IntKind} {a b : Int} (hx : get env x = some (.int k' a)) (hy : get env y = some (.int k' b))
    (k : JO P n ops l K fin ((d, .bool (decide (a ≠ b))) :: env) W) : JO P n ops (⟨some d, .binOp .neq T x y T', ty, pos, aft, none⟩ :: l) K fin env W := by
  refine JO.value (v := .bool (decide (a ≠ b))) (fun a ha => ?_) k
  simp only [execOp, ha.get hx, ha.get hy, eqGuard, binOp, Op.intCmp]
  simp [bind, pure, Sem.bind, Sem.run, bne, beq_dec]
theorem O.quo {x y : Operand} {T T' : TypeId} {k' : IntKind} {a b r : Int} (hx : get env x = some (.int k' a)) (hy : get env y = some (.int k' b)) (h0 : b ≠ 0) (hr : k'.wrap (a.tdiv b) = r)
    (k : JO P n ops l K fin ((d, .int k' r) :: env) W) : JO P n ops (⟨some d, .binOp .quo T x y T', ty, pos, aft, none⟩ :: l) K fin env W :=
  JO.value (fun a ha => by simp only [execOp, ha.get hx, ha.get hy, eqGuard, binOp, Op.intDiv, h0, hr]; simp [bind, pure, Sem.bind, Sem.run]) k
theorem O.rem {x y : Operand} {T T' : TypeId} {k' : IntKind} {a b r : Int} (hx : get env x = some (.int k' a)) (hy : get env y = some (.int k' b)) (h0 : b ≠ 0) (hr : a.tmod b = r)
    (k : JO P n ops l K fin ((d, .int k' r) :: env) W) : JO P n ops (⟨some d, .binOp .rem T x y T', ty, pos, aft, none⟩ :: l) K fin env W :=
  JO.value (fun a ha => by simp only [execOp, ha.get hx, ha.get hy, eqGuard, binOp, Op.intDiv, h0, hr]; simp [bind, pure, Sem.bind, Sem.run]) k
theorem O.shl {x y : Operand} {T T' : TypeId} {k' k'' : IntKind} {a b r : Int} (hx : get env x = some (.int k' a)) (hy : get env y = some (.int k'' b)) (h0 : ¬ b < 0) (hr : k'.wrap (a * 2 ^ (min b.toNat k'.bits)) = r)
    (k : JO P n ops l K fin ((d, .int k' r) :: env) W) : JO P n ops (⟨some d, .binOp .shl T x y T', ty, pos, aft, none⟩ :: l) K fin env W :=
  JO.value (fun a ha => by simp only [execOp, ha.get hx, ha.get hy, eqGuard, binOp, Op.shift, h0, hr]; simp [bind, pure, Sem.bind, Sem.run]) k
theorem O.shr {x y : Operand} {T T' : TypeId} {k' k'' : IntKind} {a b r : Int} (hx : get env x = some (.int k' a)) (hy : get env y = some (.int k'' b)) (h0 : ¬ b < 0) (hr : a.fdiv (2 ^ (min b.toNat k'.bits)) = r)
    (k : JO P n ops l K fin ((d, .int k' r) :: env) W) : JO P n ops (⟨some d, .binOp .shr T x y T', ty, pos, aft, none⟩ :: l) K fin env W :=
  JO.value (fun a ha => by simp only [execOp, ha.get hx, ha.get hy, eqGuard, binOp, Op.shift, h0, hr]; simp [bind, pure, Sem.bind, Sem.run]) k
end

/-! the program's types, as instances -/
class TInt (P : Program) (T : TypeId) (k : outParam IntKind) : Prop where
  u : P.underlying T = some (.int k)
class TBool (P : Program) (T : TypeId) : Prop where
  u : P.underlying T = some .bool
/-- a slice type: its element type, the element's cells and bytes, its zero -/
class TSl (P : Program) (T : TypeId) (E : outParam TypeId) (sz by' : outParam Nat) (z : outParam (List Value)) : Prop where
  u : P.underlying T = some (.slice E)
  i : ∃ i v, P.info? E = some i ∧ i.size = sz ∧ i.bytes = by' ∧ i.zero = some v ∧ v.cells.toList = z
/-- a variable's type: its cells, whether they are several, its zero -/
class TVar (P : Program) (T : TypeId) (sz : outParam Nat) (ag : outParam Bool) (z : outParam (List Value)) : Prop where
  u : ∃ t, P.underlying T = some t ∧ (t matches .struct _ | .array _ _) = ag
  i : ∃ i v, P.info? T = some i ∧ i.size = sz ∧ i.zero = some v ∧ v.cells.toList = z
class TStr (P : Program) (T : TypeId) : Prop where
  u : P.underlying T = some .string
/-- a struct of two fields -/
class TBld (P : Program) (T : TypeId) (n0 n1 : outParam Nat) : Prop where
  u : ∃ (fs : Array Field) (g0 g1 : Field) (i0 i1 ii : TypeInfo) (z : Value), P.underlying T = some (.struct fs) ∧ fs = #[g0, g1] ∧ g0.offset = 0 ∧ g1.offset = n0 ∧ P.info? g0.type = some i0 ∧ P.info? g1.type = some i1 ∧ i0.size = n0 ∧ i1.size = n1 ∧
    P.info? T = some ii ∧ ii.zero = some z ∧ z.cells.size = n0 + n1
/-- a field: where it lies -/
class TFld (P : Program) (T : TypeId) (f : Nat) (off : outParam Nat) : Prop where
  u : ∃ fs g, P.underlying T = some (.struct fs) ∧ fs[f]? = some g ∧ g.offset = off ∧ ∃ i, P.info? g.type = some i ∧ i.size ≠ 0

section
variable {P : Program} {n : Nat} {ops : Array Oper} {l : List Oper} {K : List Kt} {fin : Exit → Act → World → Prop} {env : Env} {W : GW}
variable {d : Nat} {ty : TypeId} {pos : String} {aft : Array Edge}

theorem run_und {T : TypeId} {t : TypeDesc} {w : World} (h : P.underlying T = some t) : (underlying T).run P w = .ok t w := by
  simp [underlying, program, bind, Sem.bind, Sem.run, pure, h]

theorem O.cv {S T : TypeId} {k' k'' : IntKind} {x : Operand} {a r : Int} [i : TInt P S k''] [j : TInt P T k'] (hx : get env x = some (.int k'' a)) (hr : k'.wrap a = r)
    (k : JO P n ops l K fin ((d, .int k' r) :: env) W) : JO P n ops (⟨some d, .convert S T x, ty, pos, aft, none⟩ :: l) K fin env W :=
  JO.value (fun a ha => by
    simp only [execOp, ha.get hx, convert, Conv.intToInt, hr, underlying, program, bind, Sem.bind, Sem.run, pure, i.u, j.u]) k
theorem O.len {T : TypeId} {x : Operand} {p : Option Addr} {m c : Nat} {E sz by' : Nat} {z : List Value} [i : TSl P T E sz by' z] (hx : get env x = some (.slice p m c))
    (k : JO P n ops l K fin ((d, .int .i64 (m : Int)) :: env) W) : JO P n ops (⟨some d, .call ⟨.builtin .len, #[x], #[T]⟩, ty, pos, aft, none⟩ :: l) K fin env W :=
  JO.value (fun a ha => by
    simp [execOp, resolve, invoke, builtin, Builtin.len_, ha.get hx, underlying, program, bind, Sem.bind, Sem.run, pure, i.u, goInt]) k
theorem run_bnd {α β : Type} (s : Sem α) (f : α → Sem β) (w w' : World) (x : α) (h : s.run P w = .ok x w') : (s.bind f).run P w = (f x).run P w' := by
  rw [Sem.run_bind', h]
  rfl
theorem run_eqIn {T : TypeId} (h : P.underlying T = some .bool) (a b : Bool) (w : World) (m : Nat) : (Op.equalIn (m + 1) T (.bool a) (.bool b)).run P w = .ok (a == b) w := by
  simp [Op.equalIn, underlying, program, bind, Sem.bind, Sem.run, pure, h]
theorem run_eq {T : TypeId} (h : P.underlying T = some .bool) (a b : Bool) (w : World) : (Op.equal T (.bool a) (.bool b)).run P w = .ok (a == b) w := run_eqIn h a b w 9999
theorem O.beq {T T' : TypeId} {x y : Operand} {a b : Bool} [i : TBool P T] (hx : get env x = some (.bool a)) (hy : get env y = some (.bool b))
    (k : JO P n ops l K fin ((d, .bool (a == b)) :: env) W) : JO P n ops (⟨some d, .binOp .eql T x y T', ty, pos, aft, none⟩ :: l) K fin env W :=
  JO.value (fun ac ha => by
    have h1 := run_eq i.u a b W.w
    simp only [execOp, ha.get hx, ha.get hy, eqGuard, binOp]
    show ((Sem.bind (Op.equal T (.bool a) (.bool b)) _).bind _).run P W.w = _
    rw [run_bnd _ _ W.w W.w (.bool (a == b)) (by rw [run_bnd _ _ _ _ _ h1]; rfl)]
    rfl) k
theorem O.bne {T T' : TypeId} {x y : Operand} {a b : Bool} [i : TBool P T] (hx : get env x = some (.bool a)) (hy : get env y = some (.bool b))
    (k : JO P n ops l K fin ((d, .bool (a != b)) :: env) W) : JO P n ops (⟨some d, .binOp .neq T x y T', ty, pos, aft, none⟩ :: l) K fin env W :=
  JO.value (fun ac ha => by
    have h1 := run_eq i.u a b W.w
    simp only [execOp, ha.get hx, ha.get hy, eqGuard, binOp]
    show ((Sem.bind (Op.equal T (.bool a) (.bool b)) _).bind _).run P W.w = _
    rw [run_bnd _ _ W.w W.w (.bool (a != b)) (by rw [run_bnd _ _ _ _ _ h1]; rfl)]
    rfl) k
theorem add0 (b off k : Nat) : (⟨b, off, none⟩ : Addr).add k = ⟨b, off + k, none⟩ := by
  unfold Addr.add; split
  · rename_i h; subst h; rfl
  · rfl
theorem O.fa {T f off o : Nat} {x : Operand} {b : Nat} [i : TFld P T f o] (hx : get env x = some (.pointer (some ⟨b, off, none⟩)))
    (k : JO P n ops l K fin ((d, .pointer (some ⟨b, off + o, none⟩)) :: env) W) : JO P n ops (⟨some d, .fieldAddr T x f, ty, pos, aft, none⟩ :: l) K fin env W := by
  obtain ⟨fs, g, h1, h2, h3, ii, h4, h5⟩ := i.u
  exact JO.value (fun a ha => by
    simp [execOp, ha.get hx, Instr.fieldAt, Instr.sureAddr, fieldPlace, sizeOf, typeInfo, underlying, program, bind, Sem.bind, Sem.run, pure, h1, h2, h3, h4, h5, add0]) k
theorem O.ia {T : TypeId} {E sz by' : Nat} {z : List Value} {x y : Operand} {b off m c j : Nat} {k' : IntKind} {jj : Int} [i : TSl P T E sz by' z]
    (hx : get env x = some (.slice (some ⟨b, off, none⟩) m c)) (hy : get env y = some (.int k' jj)) (hjj : jj = (j : Int)) (hj : j < m)
    (k : JO P n ops l K fin ((d, .pointer (some ⟨b, off + j * sz, none⟩)) :: env) W) : JO P n ops (⟨some d, .indexAddr T x y, ty, pos, aft, none⟩ :: l) K fin env W := by
  obtain ⟨ii, v, h1, h2, h3, h4, h5⟩ := i.i
  subst hjj
  exact JO.value (fun a ha => by
    simp [execOp, ha.get hx, ha.get hy, Instr.indexAt, asIntOf, sizeOf, typeInfo, underlying, program, bind, Sem.bind, Sem.run, pure, i.u, h1, h2, hj, add0]) k
/-- x[lo:hi] -/
theorem O.sl {T : TypeId} {E sz by' : Nat} {z : List Value} {x y1 y2 : Operand} {p : Option Addr} {m c lo hi : Nat} {k1 k2 : IntKind} {li hh : Int} [i : TSl P T E sz by' z]
    (hx : get env x = some (.slice p m c)) (h1 : get env y1 = some (.int k1 li)) (h2 : get env y2 = some (.int k2 hh)) (hli : li = (lo : Int)) (hhh : hh = (hi : Int)) (hlo : lo ≤ hi) (hhi : hi ≤ c)
    (k : JO P n ops l K fin ((d, .slice (if c = lo then p else p.map (·.add (lo * sz))) (hi - lo) (c - lo)) :: env) W) : JO P n ops (⟨some d, .slice T x (some y1) (some y2) none, ty, pos, aft, none⟩ :: l) K fin env W := by
  obtain ⟨ii, v, e1, e2, e3, e4, e5⟩ := i.i
  subst hli; subst hhh
  exact JO.value (fun a ha => by
    simp [execOp, ha.get hx, ha.get h1, ha.get h2, Instr.sliceAt, Instr.slice, Instr.sliceBounds, Instr.sliceBound, asIntOf, sizeOf, typeInfo, underlying, program, bind, Sem.bind, Sem.run, pure, i.u, e1, e2, hlo, hhi]) k
/-- x[:hi] -/
theorem O.slh {T : TypeId} {E sz by' : Nat} {z : List Value} {x y2 : Operand} {p : Option Addr} {m c hi : Nat} {k2 : IntKind} {hh : Int} [i : TSl P T E sz by' z]
    (hx : get env x = some (.slice p m c)) (h2 : get env y2 = some (.int k2 hh)) (hhh : hh = (hi : Int)) (hhi : hi ≤ c)
    (k : JO P n ops l K fin ((d, .slice p hi c) :: env) W) : JO P n ops (⟨some d, .slice T x none (some y2) none, ty, pos, aft, none⟩ :: l) K fin env W := by
  obtain ⟨ii, v, e1, e2, e3, e4, e5⟩ := i.i
  subst hhh
  have hp : p.map (·.add (0 * sz)) = p := by
    cases p with
    | none => rfl
    | some a => simp [Addr.add]
  exact JO.value (fun a ha => by
    simp [execOp, ha.get hx, ha.get h2, Instr.sliceAt, Instr.slice, Instr.sliceBounds, Instr.sliceBound, asIntOf, sizeOf, typeInfo, underlying, program, bind, Sem.bind, Sem.run, pure, i.u, e1, e2, hhi]
    cases p <;> simp [Addr.add]) k
/-- x[lo:] -/
theorem O.sll {T : TypeId} {E sz by' : Nat} {z : List Value} {x y1 : Operand} {p : Option Addr} {m c lo : Nat} {k1 : IntKind} {li : Int} [i : TSl P T E sz by' z]
    (hx : get env x = some (.slice p m c)) (h1 : get env y1 = some (.int k1 li)) (hli : li = (lo : Int)) (hlo : lo ≤ m)
    (k : JO P n ops l K fin ((d, .slice (if c = lo then p else p.map (·.add (lo * sz))) (m - lo) (c - lo)) :: env) W) : JO P n ops (⟨some d, .slice T x (some y1) none none, ty, pos, aft, none⟩ :: l) K fin env W := by
  obtain ⟨ii, v, e1, e2, e3, e4, e5⟩ := i.i
  subst hli
  exact JO.value (fun a ha => by
    simp [execOp, ha.get hx, ha.get h1, Instr.sliceAt, Instr.slice, Instr.sliceBounds, Instr.sliceBound, asIntOf, sizeOf, typeInfo, underlying, program, bind, Sem.bind, Sem.run, pure, i.u, e1, e2, hlo]) k

/-! loads -/
theorem run_load {a : Addr} {w : World} {v : Value} (h : w.cell? a = some v) : (load a).run P w = .ok v w := by
  simp [load, Sem.run, h]
theorem run_loadCells {b off : Nat} {w : World} (cs : List Value) : ∀ (i : Nat) (acc : Array Value), (∀ j v, cs[j]? = some v → w.cell? ⟨b, off + (i + j), none⟩ = some v) →
    (loadCellsFrom ⟨b, off, none⟩ i cs.length acc).run P w = .ok (acc ++ cs.toArray) w := by
  induction cs with
  | nil => intro i acc _; simp [loadCellsFrom, pure, Sem.run]
  | cons c cs ih =>
    intro i acc h
    have h0 := h 0 c rfl
    have hi := ih (i + 1) (acc.push c) (fun j v hj => by
      have := h (j + 1) v hj
      rwa [show off + (i + 1 + j) = off + (i + (j + 1)) from by omega])
    simp only [List.length_cons, loadCellsFrom, bind, load, Sem.bind, add0, Sem.run]
    rw [show off + (i + 0) = off + i from rfl] at h0
    rw [h0]
    simp only [pure, Sem.bind]
    rw [hi]
    simp
theorem O.ld {T sz : Nat} {ag : Bool} {z cs : List Value} {x : Operand} {b off : Nat} [i : TVar P T sz ag z] (hx : get env x = some (.pointer (some ⟨b, off, none⟩)))
    (hl : cs.length = sz) (hc : ∀ j v, cs[j]? = some v → W.w.cell? ⟨b, off + j, none⟩ = some v) (h1 : ag = false → sz = 1)
    (k : JO P n ops l K fin ((d, mkv ag cs) :: env) W) : JO P n ops (⟨some d, .load T x, ty, pos, aft, none⟩ :: l) K fin env W := by
  obtain ⟨t, u1, u2⟩ := i.u
  obtain ⟨ii, v, e1, e2, e3⟩ := i.i
  have hcells := run_loadCells (P := P) (b := b) (off := off) (w := W.w) cs 0 #[] (fun j v hj => by simpa using hc j v hj)
  have hs : (sizeOf T).run P W.w = .ok sz W.w := by simp [sizeOf, typeInfo, program, bind, Sem.bind, Sem.run, pure, e1, e2]
  have hag : (isAgg T).run P W.w = .ok ag W.w := by
    subst u2
    cases t <;> simp [isAgg, underlying, program, bind, Sem.bind, Sem.run, pure, u1]
  have hv : (loadVar T ⟨b, off, none⟩).run P W.w = .ok (mkv ag cs) W.w := by
    unfold loadVar
    rw [Sem.run_bind, hag]
    cases ag with
    | true =>
      subst hl
      simp only [Result.andThen_ok, if_true]
      rw [Sem.run_bind, hs]
      simp only [Result.andThen_ok]
      rw [Sem.run_bind]
      simp only [loadCells]
      rw [hcells]
      simp [mkv]
    | false =>
      have h2 := h1 rfl
      match cs, hl, hc with
      | [c], hl, hc => simpa [mkv] using run_load (P := P) (hc 0 c rfl)
      | [], hl, hc => simp at hl; omega
      | _ :: _ :: _, hl, hc => simp at hl; omega
  refine JO.value (fun a ha => ?_) k
  simp only [execOp, ha.get hx, Instr.loadAt, Instr.sureAddr]
  rw [Sem.run_bind]
  show Result.andThen ((loadVar T ⟨b, off, none⟩).run P W.w) _ = _
  rw [hv]
  rfl

/-- a load whose cell is known -/
theorem O.ldC {T : TypeId} {z : List Value} {x : Operand} {b off : Nat} {v : Value} [i : TVar P T 1 false z] (hx : get env x = some (.pointer (some ⟨b, off, none⟩))) (hc : W.w.cell? ⟨b, off, none⟩ = some v)
    (k : JO P n ops l K fin ((d, v) :: env) W) : JO P n ops (⟨some d, .load T x, ty, pos, aft, none⟩ :: l) K fin env W :=
  O.ld (ag := false) (cs := [v]) hx rfl (fun j u hj => by
    match j, hj with
    | 0, hj => simp at hj; subst hj; exact hc
    | j + 1, hj => simp at hj) (fun _ => rfl) k
theorem bv_or (w x y : Nat) (hx : x < 2 ^ w) (hy : y < 2 ^ w) : (BitVec.ofInt w (x : Int) ||| BitVec.ofInt w (y : Int)).toNat = x ||| y := by
  have e : ∀ z : Nat, z < 2 ^ w → (BitVec.ofInt w (z : Int)).toNat = z := by
    intro z hz
    rw [BitVec.ofInt_natCast, BitVec.toNat_ofNat, Nat.mod_eq_of_lt hz]
  rw [BitVec.toNat_or, e x hx, e y hy]
theorem bv_and (w x y : Nat) (hx : x < 2 ^ w) (hy : y < 2 ^ w) : (BitVec.ofInt w (x : Int) &&& BitVec.ofInt w (y : Int)).toNat = x &&& y := by
  have e : ∀ z : Nat, z < 2 ^ w → (BitVec.ofInt w (z : Int)).toNat = z := by
    intro z hz
    rw [BitVec.ofInt_natCast, BitVec.toNat_ofNat, Nat.mod_eq_of_lt hz]
  rw [BitVec.toNat_and, e x hx, e y hy]
theorem O.or {x y : Operand} {T T' : TypeId} {k' : IntKind} {p q : Nat} {pi qi r : Int} (hx : get env x = some (.int k' pi)) (hy : get env y = some (.int k' qi)) (hp : pi = (p : Int)) (hq : qi = (q : Int)) (hpl : p < 2 ^ k'.bits) (hql : q < 2 ^ k'.bits)
    (hr : k'.wrap ((p ||| q : Nat) : Int) = r) (k : JO P n ops l K fin ((d, .int k' r) :: env) W) : JO P n ops (⟨some d, .binOp .or T x y T', ty, pos, aft, none⟩ :: l) K fin env W := by
  subst hp; subst hq
  have e := bv_or k'.bits p q hpl hql
  have he : ∀ op : BinOp, op = .or → (Op.intBits op k' (p : Int) (q : Int)) = pure (.int k' r) := by
    intro op ho
    subst ho
    simp only [Op.intBits, e, hr]
  exact JO.value (fun a ha => by simp only [execOp, ha.get hx, ha.get hy, eqGuard, binOp, he]; simp [bind, pure, Sem.bind]) k
theorem O.and {x y : Operand} {T T' : TypeId} {k' : IntKind} {p q : Nat} {pi qi r : Int} (hx : get env x = some (.int k' pi)) (hy : get env y = some (.int k' qi)) (hp : pi = (p : Int)) (hq : qi = (q : Int)) (hpl : p < 2 ^ k'.bits) (hql : q < 2 ^ k'.bits)
    (hr : k'.wrap ((p &&& q : Nat) : Int) = r) (k : JO P n ops l K fin ((d, .int k' r) :: env) W) : JO P n ops (⟨some d, .binOp .and T x y T', ty, pos, aft, none⟩ :: l) K fin env W := by
  subst hp; subst hq
  have e := bv_and k'.bits p q hpl hql
  have he : ∀ op : BinOp, op = .and → (Op.intBits op k' (p : Int) (q : Int)) = pure (.int k' r) := by
    intro op ho
    subst ho
    simp only [Op.intBits, e, hr]
  exact JO.value (fun a ha => by simp only [execOp, ha.get hx, ha.get hy, eqGuard, binOp, he]; simp [bind, pure, Sem.bind]) k
/-- a slice against nil -/
theorem O.eqnil {T T' : TypeId} {E sz by' : Nat} {z : List Value} {x : Operand} {p : Option Addr} {m c : Nat} [i : TSl P T E sz by' z] (hx : get env x = some (.slice p m c))
    (k : JO P n ops l K fin ((d, .bool p.isNone) :: env) W) : JO P n ops (⟨some d, .binOp .eql T x (.const (.slice none 0 0)) T', ty, pos, aft, none⟩ :: l) K fin env W := by
  have h1 : (Op.equal T (.slice p m c) (.slice none 0 0)).run P W.w = .ok p.isNone W.w := by
    have : ∀ m' : Nat, (Op.equalIn (m' + 1) T (.slice p m c) (.slice none 0 0)).run P W.w = .ok p.isNone W.w := by
      intro m'
      cases p <;> simp [Op.equalIn, run_underlying i.u]
    exact this 9999
  exact JO.value (fun ac ha => by
    have hn : ac.eval (.const (.slice none 0 0)) = .slice none 0 0 := rfl
    simp only [execOp, ha.get hx, hn, eqGuard, binOp]
    show ((Sem.bind (Op.equal T (.slice p m c) (.slice none 0 0)) _).bind _).run P W.w = _
    rw [run_bnd _ _ W.w W.w (.bool p.isNone) (by rw [run_bnd _ _ _ _ _ h1]; rfl)]
    rfl) k

/-- a byte of a string -/
theorem O.idx {T : TypeId} {x y : Operand} {s : ByteArray} {k' : IntKind} {j : Nat} {jj : Int} {b : UInt8} [i : TStr P T] (hx : get env x = some (.string s)) (hy : get env y = some (.int k' jj)) (hjj : jj = (j : Int)) (hb : s[j]? = some b)
    (k : JO P n ops l K fin ((d, .int .u8 (b.toNat : Int)) :: env) W) : JO P n ops (⟨some d, .index T x y, ty, pos, aft, none⟩ :: l) K fin env W := by
  subst hjj
  exact JO.value (fun a ha => by
    simp [execOp, ha.get hx, ha.get hy, Instr.index, asIntOf, run_underlying i.u, hb]) k
end
end
end Go.Rx

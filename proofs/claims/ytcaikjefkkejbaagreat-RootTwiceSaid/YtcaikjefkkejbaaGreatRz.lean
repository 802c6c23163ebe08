/- The base of the walks: ghost worlds, how a datum lies in cells, the judgement on code. Nothing of the program is named here. -/
import Derived.WalkKit
set_option linter.unusedVariables false
set_option linter.unusedSimpArgs false
namespace Go.Rx
open Go
section
section
/-- A world, the blocks that no datum may lie in (variables and arrays that are still written), and the heap's size when the function began. -/
structure GW where
  w : World
  A : List Nat
  m : Nat
  hA : ∀ k ∈ A, k < w.heap.size
  hm : m ≤ w.heap.size
abbrev GW.size (W : GW) : Nat := W.w.heap.size
/-- What facts on data need: blocks outside A stay as they are and stay outside A. -/
structure LeF (W W' : GW) : Prop where
  size : W.size ≤ W'.size
  same : ∀ k, k < W.size → k ∉ W.A → W'.w.heap[k]? = W.w.heap[k]?
  stay : ∀ k, k < W.size → k ∉ W.A → k ∉ W'.A
theorem LeF.trans {a b c : GW} (h : LeF a b) (k : LeF b c) : LeF a c where
  size := Nat.le_trans h.size k.size
  same := fun i hi hn => (k.same i (Nat.lt_of_lt_of_le hi h.size) (h.stay i hi hn)).trans (h.same i hi hn)
  stay := fun i hi hn => k.stay i (Nat.lt_of_lt_of_le hi h.size) (h.stay i hi hn)
/-- A later world of the same function. -/
structure LeS (W W' : GW) : Prop where
  os : W'.w.os = W.w.os
  out : W'.w.output = W.w.output
  tape : W'.w.tape = W.w.tape
  m : W'.m = W.m
  size : W.size ≤ W'.size
  same : ∀ k, k < W.size → (k < W.m ∨ k ∉ W.A) → W'.w.heap[k]? = W.w.heap[k]?
  stay : ∀ k, k < W.size → k ∉ W.A → k ∉ W'.A
  prot : ∀ k, k < W.m → k ∈ W.A → k ∈ W'.A
  row : ∀ (k : Nat) (c : Array Value) (T : TypeId) (fr : Nat × Nat), W.w.heap[k]? = some (Obj.cells c T fr) → ∃ c' : Array Value, W'.w.heap[k]? = some (Obj.cells c' T fr) ∧ c'.size = c.size
theorem LeS.f {W W' : GW} (h : LeS W W') : LeF W W' := ⟨h.size, fun k hk hn => h.same k hk (.inr hn), h.stay⟩
theorem LeS.refl (W : GW) : LeS W W := ⟨rfl, rfl, rfl, rfl, Nat.le_refl _, fun _ _ _ => rfl, fun _ _ h => h, fun _ _ h => h, fun _ c _ _ h => ⟨c, h, rfl⟩⟩
theorem LeS.trans {a b c : GW} (h : LeS a b) (k : LeS b c) : LeS a c where
  os := k.os.trans h.os
  out := k.out.trans h.out
  tape := k.tape.trans h.tape
  m := k.m.trans h.m
  size := Nat.le_trans h.size k.size
  same := fun i hi hp => by
    have h1 := h.same i hi hp
    have h2 : i < b.m ∨ i ∉ b.A := by
      rcases hp with hp | hp
      · exact .inl (by rw [h.m]; exact hp)
      · exact .inr (h.stay i hi hp)
    exact (k.same i (Nat.lt_of_lt_of_le hi h.size) h2).trans h1
  stay := fun i hi hn => k.stay i (Nat.lt_of_lt_of_le hi h.size) (h.stay i hi hn)
  prot := fun i hi hn => k.prot i (by rw [h.m]; exact hi) (h.prot i hi hn)
  row := fun i c T fr hc => by
    obtain ⟨c1, h1, e1⟩ := h.row i c T fr hc
    obtain ⟨c2, h2, e2⟩ := k.row i c1 T fr h1
    exact ⟨c2, h2, e2.trans e1⟩
/-- One step; the chain of steps is found by instances. -/
class Le1 (W : outParam GW) (W' : GW) : Prop where
  s : LeS W W'
class Le (W W' : GW) : Prop where
  s : LeS W W'
instance (priority := 2000) Le.rf (W : GW) : Le W W := ⟨LeS.refl W⟩
instance (priority := 100) Le.st {W W1 W2 : GW} [i : Le1 W1 W2] [j : Le W W1] : Le W W2 := ⟨j.s.trans i.s⟩
/-- A later world in which nothing has been published: what is being written may still be written. -/
structure LeK (W W' : GW) : Prop extends LeS W W' where
  keep : ∀ k, k ∈ W.A → k ∈ W'.A
theorem LeK.refl (W : GW) : LeK W W := { LeS.refl W with keep := fun _ h => h }
theorem LeK.trans {a b c : GW} (h : LeK a b) (k : LeK b c) : LeK a c := { h.toLeS.trans k.toLeS with keep := fun i hi => k.keep i (h.keep i hi) }
class Lk1 (W : outParam GW) (W' : GW) : Prop where
  s : LeK W W'
class Lk (W W' : GW) : Prop where
  s : LeK W W'
instance (priority := 2000) Lk.rf (W : GW) : Lk W W := ⟨LeK.refl W⟩
instance (priority := 100) Lk.st {W W1 W2 : GW} [i : Lk1 W1 W2] [j : Lk W W1] : Lk W W2 := ⟨j.s.trans i.s⟩
instance (priority := 50) Le1.ofK {W W1 : GW} [i : Lk1 W W1] : Le1 W W1 := ⟨i.s.toLeS⟩
instance (priority := 10) Le.ofK {W W1 : GW} [i : Lk W W1] : Le W W1 := ⟨i.s.toLeS⟩
/-- The entry of a function: the mark is set. -/
class En (W : GW) (W1 : outParam GW) : Prop where
  w : W1.w = W.w
  A : W1.A = W.A
  m : W1.m = W.size
/-- The exit: the caller's mark is set again. -/
class Ex (W : outParam GW) (W' : GW) : Prop where
  w : W'.w = W.w
  A : ∀ k ∈ W'.A, k ∈ W.A
  m : W'.m ≤ W.m
/-- The exit at which all that the function made is published. -/
class Pub (W W' : GW) : Prop where
  p : ∀ k ∈ W'.A, k < W.m
/-- The exit at which what the function made may still be written. -/
class Own1 (W W' : GW) : Prop where
  A : W'.A = W.A
class Lf (W W' : GW) : Prop where
  s : LeF W W'
theorem En.f {W W1 : GW} (h : En W W1) : LeF W W1 := ⟨by rw [GW.size, GW.size, h.w]; exact Nat.le_refl _, fun _ _ _ => by rw [h.w], fun _ _ hn => by rw [h.A]; exact hn⟩
theorem Ex.f {W W1 : GW} (h : Ex W W1) : LeF W W1 := ⟨by rw [GW.size, GW.size, h.w]; exact Nat.le_refl _, fun _ _ _ => by rw [h.w], fun _ _ hn ha => hn (h.A _ ha)⟩
instance (priority := 100) Lf.ex {W W1 W' : GW} [i : Ex W1 W'] [j : Lf W W1] : Lf W W' := ⟨j.s.trans i.f⟩
instance (priority := 200) Lf.en {W W1 W' : GW} [i : En W W1] [j : Le W1 W'] : Lf W W' := ⟨i.f.trans j.s.f⟩
instance (priority := 300) Lf.le {W W' : GW} [j : Le W W'] : Lf W W' := ⟨j.s.f⟩
/-- What a call gives: a later world in which EVERY old block is as it was. -/
structure Ext (W W' : GW) : Prop extends LeK W W' where
  all : ∀ k, k < W.size → W'.w.heap[k]? = W.w.heap[k]?
theorem Ext.refl (W : GW) : Ext W W := { LeK.refl W with all := fun _ _ => rfl }
theorem Ext.trans {a b c : GW} (h : Ext a b) (k : Ext b c) : Ext a c :=
  { h.toLeK.trans k.toLeK with all := fun i hi => (k.all i (Nat.lt_of_lt_of_le hi h.size)).trans (h.all i hi) }
theorem cell_of_heap {w w' : World} {a : Addr} (h : w'.heap[a.block]? = w.heap[a.block]?) : w'.cell? a = w.cell? a := World.cell?_of_block (w := w) h
theorem cell_lt {w : World} {a : Addr} {v : Value} (h : w.cell? a = some v) : a.block < w.heap.size := by
  unfold World.cell? at h
  by_cases hb : a.block < w.heap.size
  · exact hb
  · rw [Array.getElem?_eq_none (by omega)] at h; cases h
/-- A value of one cell. -/
def oneC : Value → Bool
  | .agg _ | .tuple _ => false
  | _ => true
/-- How a datum of type α lies in cells. -/
structure Rep (α : Type) where
  size : Nat
  agg : Bool
  At : GW → List Value → α → Prop
  len : ∀ {W : GW} {cs : List Value} {x : α}, At W cs x → cs.length = size
  mono : ∀ {W W' : GW} {cs : List Value} {x : α}, LeF W W' → At W cs x → At W' cs x
  one : ∀ {W : GW} {cs : List Value} {x : α}, At W cs x → ∀ v ∈ cs, oneC v = true
/-- The value that bears these cells. -/
def mkv (agg : Bool) (cs : List Value) : Value := if agg then .agg cs.toArray else cs.headD undef
/-- v is, in W, the datum x. -/
def V {α : Type} (r : Rep α) (W : GW) (v : Value) (x : α) : Prop := ∃ cs, r.At W cs x ∧ v = mkv r.agg cs
theorem V.mono {α : Type} {r : Rep α} {W W' : GW} {v : Value} {x : α} (h : V r W v x) (l : LeF W W') : V r W' v x :=
  let ⟨cs, a, e⟩ := h; ⟨cs, r.mono l a, e⟩
theorem V.to {α : Type} {r : Rep α} {W W' : GW} {v : Value} {x : α} (h : V r W v x) [l : Lf W W'] : V r W' v x := h.mono l.s
/-- A row of data from p on. -/
def SlAt {α : Type} (r : Rep α) (W : GW) (p : Option Addr) (xs : List α) : Prop :=
  xs = [] ∨ ∃ b off, p = some ⟨b, off, none⟩ ∧ b < W.size ∧ b ∉ W.A ∧
    ∀ i x, xs[i]? = some x → ∃ c, r.At W c x ∧ ∀ j v, c[j]? = some v → W.w.cell? ⟨b, off + (i * r.size + j), none⟩ = some v
theorem SlAt.mono {α : Type} {r : Rep α} {W W' : GW} {p : Option Addr} {xs : List α} (l : LeF W W') (h : SlAt r W p xs) : SlAt r W' p xs := by
  rcases h with h | ⟨b, off, hp, hb, hA, hx⟩
  · exact .inl h
  · refine .inr ⟨b, off, hp, Nat.lt_of_lt_of_le hb l.size, l.stay b hb hA, fun i x hi => ?_⟩
    obtain ⟨c, hc, hv⟩ := hx i x hi
    refine ⟨c, r.mono l hc, fun j v hj => ?_⟩
    rw [cell_of_heap (l.same b hb hA)]
    exact hv j v hj
/-- A slice of data. -/
structure Sl {α : Type} (r : Rep α) (W : GW) (p : Option Addr) (n c : Nat) (xs : List α) : Prop where
  hn : n = xs.length
  hc : n ≤ c
  hC : c < 9223372036854775808
  at' : SlAt r W p xs
theorem Sl.mono {α : Type} {r : Rep α} {W W' : GW} {p : Option Addr} {n c : Nat} {xs : List α} (l : LeF W W') (h : Sl r W p n c xs) : Sl r W' p n c xs :=
  ⟨h.hn, h.hc, h.hC, h.at'.mono l⟩
theorem Sl.to {α : Type} {r : Rep α} {W W' : GW} {p : Option Addr} {n c : Nat} {xs : List α} (h : Sl r W p n c xs) [l : Lf W W'] : Sl r W' p n c xs := h.mono l.s
def RSl {α : Type} (r : Rep α) : Rep (List α) where
  size := 1
  agg := false
  At := fun W cs xs => ∃ p n c, cs = [.slice p n c] ∧ Sl r W p n c xs
  len := fun ⟨p, n, c, h, _⟩ => by rw [h]; rfl
  mono := fun l ⟨p, n, c, h, s⟩ => ⟨p, n, c, h, s.mono l⟩
  one := fun ⟨p, n, c, h, _⟩ v hv => by subst h; simp at hv; subst hv; rfl
def RB : Rep Bool where
  size := 1
  agg := false
  At := fun W cs x => cs = [.bool x]
  len := fun h => by rw [h]; rfl
  mono := fun _ h => h
  one := fun h v hv => by subst h; simp at hv; subst hv; rfl
/-- A word. -/
def RW : Rep Nat where
  size := 1
  agg := false
  At := fun W cs x => cs = [.int .u32 (x : Int)] ∧ x < 4294967296
  len := fun h => by rw [h.1]; rfl
  mono := fun _ h => h
  one := fun h v hv => by rw [h.1] at hv; simp at hv; subst hv; rfl
/-- Two data side by side: a struct. -/
def RP {α β : Type} (r : Rep α) (s : Rep β) : Rep (α × β) where
  size := r.size + s.size
  agg := true
  At := fun W cs x => ∃ c d, cs = c ++ d ∧ r.At W c x.1 ∧ s.At W d x.2
  len := fun ⟨c, d, h, a, b⟩ => by rw [h, List.length_append, r.len a, s.len b]
  mono := fun l ⟨c, d, h, a, b⟩ => ⟨c, d, h, r.mono l a, s.mono l b⟩
  one := fun ⟨c, d, h, a, b⟩ v hv => by
    subst h
    rcases List.mem_append.1 hv with h | h
    · exact r.one a v h
    · exact s.one b v h
theorem V.sl {α : Type} {r : Rep α} {W : GW} {v : Value} {xs : List α} (h : V (RSl r) W v xs) : ∃ p n c, v = .slice p n c ∧ Sl r W p n c xs := by
  obtain ⟨cs, ⟨p, n, c, h, s⟩, e⟩ := h
  subst h
  exact ⟨p, n, c, e, s⟩
theorem Sl.v {α : Type} {r : Rep α} {W : GW} {p : Option Addr} {n c : Nat} {xs : List α} (h : Sl r W p n c xs) : V (RSl r) W (.slice p n c) xs :=
  ⟨[.slice p n c], ⟨p, n, c, rfl, h⟩, rfl⟩
theorem V.pair {α β : Type} {r : Rep α} {s : Rep β} {W : GW} {v : Value} {x : α × β} (h : V (RP r s) W v x) :
    ∃ c d, v = .agg (c ++ d).toArray ∧ r.At W c x.1 ∧ s.At W d x.2 := by
  obtain ⟨cs, ⟨c, d, h, a, b⟩, e⟩ := h
  subst h
  exact ⟨c, d, e, a, b⟩
theorem nil_sl {α : Type} (r : Rep α) (W : GW) (p : Option Addr) : Sl r W p 0 0 [] := ⟨rfl, Nat.le_refl _, by decide, .inl rfl⟩
/-- One cell of a slice whose data are one cell each. -/
theorem Sl.cells {α : Type} {r : Rep α} {W : GW} {p : Option Addr} {n c : Nat} {xs : List α} (h : Sl r W p n c xs) {i : Nat} {x : α} (hi : xs[i]? = some x) :
    ∃ b off cs, p = some ⟨b, off, none⟩ ∧ r.At W cs x ∧ ∀ j v, cs[j]? = some v → W.w.cell? ⟨b, off + (i * r.size + j), none⟩ = some v := by
  rcases h.at' with h | ⟨b, off, hp, hb, hA, hx⟩
  · subst h; simp at hi
  · obtain ⟨cs, hc, hv⟩ := hx i x hi
    exact ⟨b, off, cs, hp, hc, hv⟩
/-- Part of a slice: from l to h. -/
theorem SlAt.sub {α : Type} {r : Rep α} {W : GW} {p : Option Addr} {xs : List α} (h : SlAt r W p xs) (l m : Nat) (q : Option Addr)
    (hq : ∀ b off, p = some ⟨b, off, none⟩ → l < xs.length → q = some ⟨b, off + l * r.size, none⟩) : SlAt r W q ((xs.drop l).take m) := by
  rcases h with h | ⟨b, off, hp, hb, hA, hx⟩
  · subst h; exact .inl (by simp)
  · by_cases hl : l < xs.length
    · refine .inr ⟨b, off + l * r.size, hq b off hp hl, hb, hA, fun i x hi => ?_⟩
      have hi' : xs[l + i]? = some x := by
        rw [List.getElem?_take] at hi
        split at hi
        · rwa [List.getElem?_drop] at hi
        · cases hi
      obtain ⟨cs, hc, hv⟩ := hx _ x hi'
      refine ⟨cs, hc, fun j v hj => ?_⟩
      have := hv j v hj
      rw [show off + l * r.size + (i * r.size + j) = off + ((l + i) * r.size + j) from by rw [Nat.add_mul]; omega]
      exact this
    · exact .inl (by rw [List.drop_eq_nil_of_le (by omega)]; simp)
end
section
/-- The slots that are known. -/
abbrev Env := List (Nat × Value)
def look : Env → Nat → Option Value
  | [], _ => none
  | (s, v) :: e, t => match Nat.beq t s with
    | true => some v
    | false => look e t
def get (e : Env) : Operand → Option Value
  | .tmp t => look e t
  | .const v => some v
  | .global g => some (.pointer (some ⟨g, 0, none⟩))
  | .func f => some (.func (.func f) #[] #[])
def getL (e : Env) : List Operand → Option (List Value)
  | [] => some []
  | x :: l => match get e x with
    | none => none
    | some v => match getL e l with
      | none => none
      | some vs => some (v :: vs)
structure Rel (n : Nat) (e : Env) (a : Act) : Prop where
  defers : a.defers = []
  size : a.tmps.size = n
  has : ∀ t v, look e t = some v → a.tmps.getD t undef = v
theorem Rel.get {n : Nat} {e : Env} {a : Act} (h : Rel n e a) {x : Operand} {v : Value} (hx : Rx.get e x = some v) : a.eval x = v := by
  cases x with
  | tmp t => exact h.has t v hx
  | const c => simp only [Rx.get, Option.some.injEq] at hx; exact hx
  | global g => simp only [Rx.get, Option.some.injEq] at hx; exact hx
  | func f => simp only [Rx.get, Option.some.injEq] at hx; exact hx
theorem Rel.getL {n : Nat} {e : Env} {a : Act} (h : Rel n e a) {l : List Operand} {vs : List Value} (hx : Rx.getL e l = some vs) : l.map a.eval = vs := by
  induction l generalizing vs with
  | nil => simp only [Rx.getL, Option.some.injEq] at hx; exact hx
  | cons x l ih =>
    simp only [Rx.getL] at hx
    split at hx
    · cases hx
    · rename_i v hv
      split at hx
      · cases hx
      · rename_i us hus
        injection hx with hx
        rw [List.map_cons, h.get hv, ih hus, hx]
theorem nbeq {a b : Nat} (h : ¬ a = b) : Nat.beq a b = false := by
  cases hb : Nat.beq a b
  · rfl
  · exact absurd (Nat.eq_of_beq_eq_true hb) h
theorem look_cons (s : Nat) (v : Value) (e : Env) (t : Nat) : look ((s, v) :: e) t = if t = s then some v else look e t := by
  by_cases h : t = s
  · subst h; simp [look]
  · rw [if_neg h]
    simp only [look, nbeq h]
theorem Rel.put {n : Nat} {e : Env} {a : Act} (h : Rel n e a) {d : Nat} (hd : Nat.blt d n = true) (v : Value) : Rel n ((d, v) :: e) (a.put (some d) v) := by
  have hd' : d < n := by simpa using hd
  refine ⟨h.defers, by simp [Act.put, h.size], fun t u ht => ?_⟩
  rw [look_cons] at ht
  have hs := h.size
  by_cases hts : t = d
  · subst hts
    simp at ht
    subst ht
    simp [Act.put, Array.getD, hs, hd']
  · simp [hts] at ht
    rw [← h.has t u ht]
    simp only [Act.put, Array.getD]
    by_cases hlt : t < a.tmps.size
    · simp [hlt, Ne.symm hts]
    · simp [hlt]
/-- Every entry of E stands in env. -/
def SubL (env : Env) : Env → Prop
  | [] => True
  | (t, v) :: e => look env t = some v ∧ SubL env e
theorem Rel.sub {n : Nat} {e e' : Env} {a : Act} (h : Rel n e a) (hs : SubL e e') : Rel n e' a := by
  refine ⟨h.defers, h.size, fun t u ht => ?_⟩
  induction e' with
  | nil => simp [look] at ht
  | cons p l ih =>
    obtain ⟨s, v⟩ := p
    rw [look_cons] at ht
    by_cases hts : t = s
    · subst hts; simp at ht; subst ht; exact h.has _ _ hs.1
    · simp [hts] at ht; exact ih hs.2 ht
/-- What is left to do. -/
inductive Kt where
  | c (c : Code)
  | b (id : Nat)
  | l (I : Act → World → Prop)
def Done (P : Program) (fin : Exit → Act → World → Prop) : List Kt → Exit → Act → World → Prop
  | [], e, a, w => fin e a w
  | .c c :: K, e, a, w => match e with
    | .normal => c.wp P (Done P fin K) a w
    | e => Done P fin K e a w
  | .b id :: K, e, a, w => match e with
    | .exit id' => if id' = id then Done P fin K .normal a w else Done P fin K (.exit id') a w
    | e => Done P fin K e a w
  | .l I :: K, e, a, w => match e with
    | .normal => I a w
    | e => Done P fin K e a w
def J (P : Program) (n : Nat) (K : List Kt) (fin : Exit → Act → World → Prop) (env : Env) (W : GW) : Prop :=
  ∀ a, Rel n env a → Done P fin K .normal a W.w
section
variable {P : Program} {n : Nat} {K : List Kt} {fin : Exit → Act → World → Prop} {env : Env} {W : GW}
theorem J.seq {x y : Code} (k : J P n (.c x :: .c y :: K) fin env W) : J P n (.c (.seq x y) :: K) fin env W := by
  intro a ha
  refine wp_seq (wp_mono (k a ha) ?_)
  intro e a w h
  cases e <;> exact h
theorem J.skip (k : J P n K fin env W) : J P n (.c .skip :: K) fin env W := fun a ha => wp_skip (k a ha)
theorem J.block {id : Nat} {x : Code} (k : J P n (.c x :: .b id :: K) fin env W) : J P n (.c (.block id x) :: K) fin env W := by
  intro a ha
  refine wp_block (wp_mono (k a ha) ?_)
  intro e a w h
  cases e <;> exact h
theorem J.bend {id : Nat} (k : J P n K fin env W) : J P n (.b id :: K) fin env W := fun a ha => k a ha
def popK (id : Nat) : List Kt → Option (List Kt)
  | [] => none
  | .b i :: K => match Nat.beq id i with
    | true => some K
    | false => popK id K
  | .c _ :: K => popK id K
  | .l _ :: K => popK id K
theorem done_exit {id : Nat} {K K' : List Kt} (h : popK id K = some K') {a : Act} {w : World} (hd : Done P fin K' .normal a w) : Done P fin K (.exit id) a w := by
  induction K with
  | nil => simp [popK] at h
  | cons x K ih =>
    cases x with
    | c c => exact ih h
    | l I => exact ih h
    | b i =>
      by_cases hi : id = i
      · subst hi
        simp [popK] at h
        subst h
        simp [Done]
        exact hd
      · simp only [popK, nbeq hi] at h
        simp only [Done, if_neg hi]
        exact ih h
theorem J.exit {id : Nat} {K' : List Kt} (h : popK id K = some K') (k : J P n K' fin env W) : J P n (.c (.exit id) :: K) fin env W :=
  fun a ha => wp_exit (done_exit h (k a ha))
theorem done_ret {K : List Kt} {a : Act} {w : World} (h : fin .ret a w) : Done P fin K .ret a w := by
  induction K with
  | nil => exact h
  | cons x K ih => cases x <;> exact ih
theorem J.ret (k : ∀ a, Rel n env a → fin .ret a W.w) : J P n (.c .ret :: K) fin env W :=
  fun a ha => wp_ret (done_ret (k a ha))
/-- A test that is known. -/
theorem J.condT {x : Operand} {c d : Code} (hb : get env x = some (.bool true)) (k : J P n (.c c :: K) fin env W) : J P n (.c (.cond x c d) :: K) fin env W :=
  fun a ha => wp_cond_true (ha.get hb) (k a ha)
theorem J.condF {x : Operand} {c d : Code} (hb : get env x = some (.bool false)) (k : J P n (.c d :: K) fin env W) : J P n (.c (.cond x c d) :: K) fin env W :=
  fun a ha => wp_cond_false (ha.get hb) (k a ha)
theorem J.cond {x : Operand} {c d : Code} {b : Bool} (hb : get env x = some (.bool b)) (k1 : b = true → J P n (.c c :: K) fin env W) (k2 : b = false → J P n (.c d :: K) fin env W) :
    J P n (.c (.cond x c d) :: K) fin env W := by
  intro a ha
  cases b
  · exact wp_cond_false (ha.get hb) (k2 rfl a ha)
  · exact wp_cond_true (ha.get hb) (k1 rfl a ha)
theorem J.condD {x : Operand} {c d : Code} {p : Prop} {ip : Decidable p} (hb : get env x = some (.bool (decide p))) (k1 : p → J P n (.c c :: K) fin env W) (k2 : ¬ p → J P n (.c d :: K) fin env W) :
    J P n (.c (.cond x c d) :: K) fin env W :=
  J.cond hb (fun h => k1 (of_decide_eq_true h)) (fun h => k2 (of_decide_eq_false h))
theorem J.sub (E : Env) (h : SubL env E) (k : J P n K fin E W) : J P n K fin env W := fun a ha => k a (ha.sub h)
/-- A slot's value, said otherwise. -/
theorem J.set {t : Nat} {v : Value} (v' : Value) (h : look env t = some v) (e : v = v') (k : J P n K fin ((t, v') :: env) W) : J P n K fin env W := by
  intro a ha
  refine k a ⟨ha.defers, ha.size, fun s u hs => ?_⟩
  rw [look_cons] at hs
  by_cases hts : s = t
  · subst hts; simp at hs; rw [← hs, ← e]; exact ha.has _ _ h
  · simp [hts] at hs; exact ha.has _ _ hs
theorem exists_min (p : Nat → Prop) (h : ∃ n, p n) : ∃ n, p n ∧ ∀ m, p m → n ≤ m := by
  obtain ⟨n, hn⟩ := h
  induction n using Nat.strongRecOn with
  | _ n ih =>
    by_cases hs : ∃ m, m < n ∧ p m
    · obtain ⟨m, hm, hp⟩ := hs; exact ih m hm hp
    · exact ⟨n, hn, fun m hm => Nat.le_of_not_lt fun hlt => hs ⟨m, hlt, hm⟩⟩
open Classical in
noncomputable def least (p : Nat → Prop) : Nat := if h : ∃ n, p n then Classical.choose (exists_min p h) else 0
theorem least_spec {p : Nat → Prop} (h : ∃ n, p n) : p (least p) ∧ ∀ m, p m → least p ≤ m := by
  unfold least; rw [dif_pos h]; exact Classical.choose_spec (exists_min p h)
/-- The assertion at a place: some x, a world. -/
def At {α : Type} (n : Nat) (E : α → Env) (I : α → GW → Prop) (a : Act) (w : World) : Prop := ∃ x W', W'.w = w ∧ Rel n (E x) a ∧ I x W'
theorem J.loop {α : Type} {c : Code} (E : α → Env) (I : α → GW → Prop) (μ : α → Nat) (x : α) (hs : SubL env (E x)) (h0 : I x W)
    (k : ∀ x W', I x W' → J P n (.c c :: .l (At n E fun x' W'' => I x' W'' ∧ μ x' < μ x) :: K) fin (E x) W') : J P n (.c (.loop c) :: K) fin env W := by
  intro a ha
  refine wp_loop (fun a w => At n E I a w) (fun a w => least fun m => ∃ x W', W'.w = w ∧ Rel n (E x) a ∧ I x W' ∧ μ x = m) ⟨x, W, rfl, ha.sub hs, h0⟩ ?_
  intro a w hI
  obtain ⟨x0, W0, hw0, hr0, hi0⟩ := hI
  obtain ⟨⟨x, W', hw, hr, hi, hm⟩, hmin⟩ := least_spec (p := fun m => ∃ x W', W'.w = w ∧ Rel n (E x) a ∧ I x W' ∧ μ x = m) ⟨μ x0, x0, W0, hw0, hr0, hi0, rfl⟩
  have := k x W' hi a hr
  rw [hw] at this
  refine wp_mono this ?_
  intro e a' w' h
  cases e <;> first | exact h | skip
  obtain ⟨x', W'', hw', hr', hi', hlt⟩ := h
  refine ⟨⟨x', W'', hw', hr', hi'⟩, ?_⟩
  rw [← hm]
  refine Nat.lt_of_le_of_lt ?_ hlt
  exact (least_spec (p := fun m => ∃ x W', W'.w = w' ∧ Rel n (E x) a' ∧ I x W' ∧ μ x = m) ⟨μ x', x', W'', hw', hr', hi', rfl⟩).2 _ ⟨x', W'', hw', hr', hi', rfl⟩
/-- The place is reached. -/
theorem J.at' {α : Type} {E : α → Env} {I : α → GW → Prop} (x : α) (hs : SubL env (E x)) (h : I x W) : J P n (.l (At n E I) :: K) fin env W :=
  fun a ha => ⟨x, W, rfl, ha.sub hs, h⟩
/-- Ways meet behind a piece of code. -/
theorem J.cut {α : Type} {c : Code} (E : α → Env) (I : α → GW → Prop) (k1 : J P n (.c c :: .l (At n E I) :: K) fin env W)
    (k2 : ∀ x W', I x W' → J P n K fin (E x) W') : J P n (.c c :: K) fin env W := by
  intro a ha
  refine wp_mono (k1 a ha) ?_
  intro e a' w' h
  cases e <;> first | exact h | skip
  obtain ⟨x, W', hw, hr, hi⟩ := h
  rw [← hw]
  exact k2 x W' hi a' hr
/-! Operations -/
def opsOk (n : Nat) : List Oper → Bool
  | [] => true
  | o :: l => match o.dst with
    | none => opsOk n l
    | some d => match Nat.blt d n with
      | true => opsOk n l
      | false => false
def wpL (P : Program) (ops : Array Oper) (Q : Exit → Act → World → Prop) : List Oper → Act → World → Prop
  | [], a, w => Q .normal a w
  | o :: l, a, w => if Region.wanted o (yielded ops a.tmps) then o.wp P a w (wpL P ops Q l) Q else wpL P ops Q l (a.put o.dst undef) w
theorem wpOps_of {ops : Array Oper} {Q : Exit → Act → World → Prop} (l : List Oper) :
    ∀ (i : Nat) (a : Act) (w : World), ops.toList.drop i = l → wpL P ops Q l a w → wpOps P ops Q (List.range' i l.length) a w := by
  induction l with
  | nil => intro i a w _ h; exact h
  | cons o l ih =>
    intro i a w hd h
    have ho : ops[i]? = some o := by
      have h1 : (ops.toList.drop i)[0]? = some o := by rw [hd]; rfl
      rw [List.getElem?_drop] at h1
      simpa using h1
    have hl : ops.toList.drop (i + 1) = l := by
      have : (ops.toList.drop i).drop 1 = l := by rw [hd]; rfl
      rwa [List.drop_drop] at this
    have hn : (fun a' w' => wpOps P ops Q (List.range' (i + 1) l.length) a' w') = wpOps P ops Q (List.range' (i + 1) l.length) := rfl
    rw [List.length_cons, List.range'_succ]
    simp only [wpOps, ho]
    simp only [wpL] at h
    split at h
    · rename_i hw
      rw [if_pos hw]
      left
      exact Oper.wp_mono (fun a w h => ih (i + 1) a w hl h) h
    · rename_i hw
      rw [if_neg hw]
      exact ih (i + 1) _ w hl h
end
end
section
def JO (P : Program) (n : Nat) (ops : Array Oper) (l : List Oper) (K : List Kt) (fin : Exit → Act → World → Prop) (env : Env) (W : GW) : Prop :=
  opsOk n l = true → ∀ a, Rel n env a → wpL P ops (Done P fin K) l a W.w
section
variable {P : Program} {n : Nat} {ops : Array Oper} {l : List Oper} {K : List Kt} {fin : Exit → Act → World → Prop} {env : Env} {W : GW}
theorem J.reg {id : Nat} {l : List Oper} (hok : opsOk n l = true) (k : JO P n l.toArray l K fin env W) : J P n (.c (.region id l.toArray false) :: K) fin env W := by
  intro a ha
  refine wp_region ?_
  have := wpOps_of (P := P) (ops := l.toArray) (Q := Done P fin K) l 0 a W.w (by simp) (k hok a ha)
  rw [← List.range_eq_range'] at this
  simpa using this
theorem JO.nil (k : J P n K fin env W) : JO P n ops [] K fin env W := fun _ a ha => k a ha
theorem JO.unok {o : Oper} {l : List Oper} (h : opsOk n (o :: l) = true) : opsOk n l = true := by
  simp only [opsOk] at h
  split at h
  · exact h
  · split at h
    · exact h
    · cases h
theorem JO.dst {d : Nat} {op : Op} {ty : TypeId} {pos : String} {aft : Array Edge} {g : Option (Nat × Bool)} {l : List Oper} (h : opsOk n (⟨some d, op, ty, pos, aft, g⟩ :: l) = true) :
    Nat.blt d n = true := by
  simp only [opsOk] at h
  split at h
  · assumption
  · cases h
theorem JO.world {d : Nat} {op : Op} {ty : TypeId} {pos : String} {aft : Array Edge} {v : Value} {W' : GW}
    (hr : ∀ a : Act, Rel n env a → (execOp a.eval ⟨some d, op, ty, pos, aft, none⟩).run P W.w = .ok (.value v) W'.w)
    (k : JO P n ops l K fin ((d, v) :: env) W') : JO P n ops (⟨some d, op, ty, pos, aft, none⟩ :: l) K fin env W := by
  intro hok a ha
  have hw : Region.wanted ⟨some d, op, ty, pos, aft, none⟩ (yielded ops a.tmps) = true := rfl
  simp only [wpL, hw, if_true]
  unfold Oper.wp
  rw [hr a ha]
  exact k (JO.unok hok) _ (ha.put (JO.dst hok) v)
theorem JO.value {d : Nat} {op : Op} {ty : TypeId} {pos : String} {aft : Array Edge} {v : Value}
    (hr : ∀ a : Act, Rel n env a → (execOp a.eval ⟨some d, op, ty, pos, aft, none⟩).run P W.w = .ok (.value v) W.w)
    (k : JO P n ops l K fin ((d, v) :: env) W) : JO P n ops (⟨some d, op, ty, pos, aft, none⟩ :: l) K fin env W := JO.world hr k
theorem JO.unit {op : Op} {ty : TypeId} {pos : String} {aft : Array Edge} {W' : GW}
    (hr : ∀ a : Act, Rel n env a → (execOp a.eval ⟨none, op, ty, pos, aft, none⟩).run P W.w = .ok .skip W'.w)
    (k : JO P n ops l K fin env W') : JO P n ops (⟨none, op, ty, pos, aft, none⟩ :: l) K fin env W := by
  intro hok a ha
  have hw : Region.wanted ⟨none, op, ty, pos, aft, none⟩ (yielded ops a.tmps) = true := rfl
  simp only [wpL, hw, if_true]
  unfold Oper.wp
  rw [hr a ha]
  exact k (JO.unok hok) _ ha
/-! guards -/
def dstAt (ops : List Oper) (j : Nat) : Option Nat := match ops, j with
  | [], _ => none
  | o :: _, 0 => o.dst
  | _ :: l, j + 1 => dstAt l j
theorem dstAt_eq (ops : List Oper) (j : Nat) : dstAt ops j = (ops[j]?).bind (·.dst) := by
  induction ops generalizing j with
  | nil => simp [dstAt]
  | cons o l ih => cases j with
    | zero => rfl
    | succ j => simp [dstAt, ih]
theorem yielded_of {L : List Oper} {a : Act} {j t : Nat} {c : Bool} (ha : Rel n env a) (ho : dstAt L j = some t) (hv : look env t = some (.bool c)) : yielded L.toArray a.tmps j = some c := by
  rw [dstAt_eq] at ho
  have h1 := ha.has t _ hv
  have h2 : a.tmps[t]? = some (.bool c) := by
    simp only [Array.getD] at h1
    split at h1
    · rename_i hlt
      rw [Array.getElem?_eq_getElem hlt]
      exact congrArg some h1
    · simp [undef] at h1
  simp [yielded, ho, h2]
theorem O.gt {L : List Oper} {d : Option Nat} {op : Op} {ty : TypeId} {pos : String} {aft : Array Edge} {j t : Nat} {b : Bool}
    (ho : dstAt L j = some t) (hv : look env t = some (.bool b)) (k : JO P n L.toArray (⟨d, op, ty, pos, aft, none⟩ :: l) K fin env W) :
    JO P n L.toArray (⟨d, op, ty, pos, aft, some (j, b)⟩ :: l) K fin env W := by
  intro hok a ha
  have hy := yielded_of ha ho hv
  have := k hok a ha
  have hw : Region.wanted ⟨d, op, ty, pos, aft, some (j, b)⟩ (yielded L.toArray a.tmps) = true := by simp [Region.wanted, hy]
  have hw' : Region.wanted ⟨d, op, ty, pos, aft, none⟩ (yielded L.toArray a.tmps) = true := rfl
  simp only [wpL, hw, hw', if_true] at this ⊢
  exact this
theorem O.gs {L : List Oper} {d : Nat} {op : Op} {ty : TypeId} {pos : String} {aft : Array Edge} {j t : Nat} {b c : Bool}
    (ho : dstAt L j = some t) (hv : look env t = some (.bool c)) (hc : (c == b) = false) (k : JO P n L.toArray l K fin ((d, undef) :: env) W) :
    JO P n L.toArray (⟨some d, op, ty, pos, aft, some (j, b)⟩ :: l) K fin env W := by
  intro hok a ha
  have hy := yielded_of ha ho hv
  have hw : Region.wanted ⟨some d, op, ty, pos, aft, some (j, b)⟩ (yielded L.toArray a.tmps) = false := by
    simp only [Region.wanted, hy]
    cases b <;> cases c <;> first | rfl | cases hc
  simp only [wpL, hw, Bool.false_eq_true, if_false]
  exact k (JO.unok hok) _ (ha.put (JO.dst hok) undef)
theorem O.set {t : Nat} {v : Value} (v' : Value) (h : look env t = some v) (e : v = v') (k : JO P n ops l K fin ((t, v') :: env) W) : JO P n ops l K fin env W := by
  intro hok a ha
  refine k hok a ⟨ha.defers, ha.size, fun s u hs => ?_⟩
  rw [look_cons] at hs
  by_cases hts : s = t
  · subst hts; simp at hs; rw [← hs, ← e]; exact ha.has _ _ h
  · simp [hts] at hs; exact ha.has _ _ hs
variable {d : Nat} {ty : TypeId} {pos : String} {aft : Array Edge}
/-! operations that only compute -/
theorem O.mv {x : Operand} {v : Value} (hx : get env x = some v) (k : JO P n ops l K fin ((d, v) :: env) W) : JO P n ops (⟨some d, .move x, ty, pos, aft, none⟩ :: l) K fin env W :=
  JO.value (fun a ha => by show Result.ok (Next.value (a.eval x)) W.w = _; rw [ha.get hx]) k
theorem O.as {x : Operand} {v : Value} (hx : get env x = some v) (k : JO P n ops l K fin ((d, v) :: env) W) : JO P n ops (⟨some d, .assign x, ty, pos, aft, none⟩ :: l) K fin env W :=
  JO.value (fun a ha => by show Result.ok (Next.value (a.eval x)) W.w = _; rw [ha.get hx]) k
theorem O.pickT {c x y : Operand} {v : Value} (hc : get env c = some (.bool true)) (hx : get env x = some v) (k : JO P n ops l K fin ((d, v) :: env) W) :
    JO P n ops (⟨some d, .pick c x y, ty, pos, aft, none⟩ :: l) K fin env W :=
  JO.value (fun a ha => by simp only [execOp, ha.get hc, ha.get hx]; rfl) k
theorem O.pickF {c x y : Operand} {v : Value} (hc : get env c = some (.bool false)) (hx : get env y = some v) (k : JO P n ops l K fin ((d, v) :: env) W) :
    JO P n ops (⟨some d, .pick c x y, ty, pos, aft, none⟩ :: l) K fin env W :=
  JO.value (fun a ha => by simp only [execOp, ha.get hc, ha.get hx]; rfl) k
theorem O.ext {x : Operand} {i : Nat} {vs : Array Value} {v : Value} (hx : get env x = some (.tuple vs)) (hv : vs[i]? = some v) (k : JO P n ops l K fin ((d, v) :: env) W) :
    JO P n ops (⟨some d, .extract x i, ty, pos, aft, none⟩ :: l) K fin env W :=
  JO.value (fun a ha => by simp only [execOp, ha.get hx, Instr.extract, hv]; rfl) k
theorem O.not {x : Operand} {T : TypeId} {b : Bool} (hx : get env x = some (.bool b)) (k : JO P n ops l K fin ((d, .bool (!b)) :: env) W) :
    JO P n ops (⟨some d, .unOp .not T x, ty, pos, aft, none⟩ :: l) K fin env W :=
  JO.value (fun a ha => by simp only [execOp, ha.get hx]; rfl) k
theorem beq_dec (a b : Int) : (a == b) = decide (a = b) := rfl
/-- arithmetic -/
theorem O.add {x y : Operand} {T T' : TypeId} {k' : IntKind} {a b r : Int} (hx : get env x = some (.int k' a)) (hy : get env y = some (.int k' b)) (hr : k'.wrap (a + b) = r)
    (k : JO P n ops l K fin ((d, .int k' r) :: env) W) : JO P n ops (⟨some d, .binOp .add T x y T', ty, pos, aft, none⟩ :: l) K fin env W :=
  JO.value (fun a ha => by simp only [execOp, ha.get hx, ha.get hy, eqGuard, binOp, Op.intArith, hr]; simp [bind, pure, Sem.bind, Sem.run]) k
theorem O.sb {x y : Operand} {T T' : TypeId} {k' : IntKind} {a b r : Int} (hx : get env x = some (.int k' a)) (hy : get env y = some (.int k' b)) (hr : k'.wrap (a - b) = r)
    (k : JO P n ops l K fin ((d, .int k' r) :: env) W) : JO P n ops (⟨some d, .binOp .sub T x y T', ty, pos, aft, none⟩ :: l) K fin env W :=
  JO.value (fun a ha => by simp only [execOp, ha.get hx, ha.get hy, eqGuard, binOp, Op.intArith, hr]; simp [bind, pure, Sem.bind, Sem.run]) k
theorem O.mul {x y : Operand} {T T' : TypeId} {k' : IntKind} {a b r : Int} (hx : get env x = some (.int k' a)) (hy : get env y = some (.int k' b)) (hr : k'.wrap (a * b) = r)
    (k : JO P n ops l K fin ((d, .int k' r) :: env) W) : JO P n ops (⟨some d, .binOp .mul T x y T', ty, pos, aft, none⟩ :: l) K fin env W :=
  JO.value (fun a ha => by simp only [execOp, ha.get hx, ha.get hy, eqGuard, binOp, Op.intArith, hr]; simp [bind, pure, Sem.bind, Sem.run]) k
theorem O.lt {x y : Operand} {T T' : TypeId} {k' : IntKind} {a b : Int} (hx : get env x = some (.int k' a)) (hy : get env y = some (.int k' b))
    (k : JO P n ops l K fin ((d, .bool (decide (a < b))) :: env) W) : JO P n ops (⟨some d, .binOp .lss T x y T', ty, pos, aft, none⟩ :: l) K fin env W :=
  JO.value (fun a ha => by simp only [execOp, ha.get hx, ha.get hy, eqGuard, binOp, Op.intCmp]; simp [bind, pure, Sem.bind, Sem.run]) k
theorem O.le {x y : Operand} {T T' : TypeId} {k' : IntKind} {a b : Int} (hx : get env x = some (.int k' a)) (hy : get env y = some (.int k' b))
    (k : JO P n ops l K fin ((d, .bool (decide (a ≤ b))) :: env) W) : JO P n ops (⟨some d, .binOp .leq T x y T', ty, pos, aft, none⟩ :: l) K fin env W :=
  JO.value (fun a ha => by simp only [execOp, ha.get hx, ha.get hy, eqGuard, binOp, Op.intCmp]; simp [bind, pure, Sem.bind, Sem.run]) k
theorem O.gtr {x y : Operand} {T T' : TypeId} {k' : IntKind} {a b : Int} (hx : get env x = some (.int k' a)) (hy : get env y = some (.int k' b))
    (k : JO P n ops l K fin ((d, .bool (decide (a > b))) :: env) W) : JO P n ops (⟨some d, .binOp .gtr T x y T', ty, pos, aft, none⟩ :: l) K fin env W :=
  JO.value (fun a ha => by simp only [execOp, ha.get hx, ha.get hy, eqGuard, binOp, Op.intCmp]; simp [bind, pure, Sem.bind, Sem.run]) k
theorem O.ge {x y : Operand} {T T' : TypeId} {k' : IntKind} {a b : Int} (hx : get env x = some (.int k' a)) (hy : get env y = some (.int k' b))
    (k : JO P n ops l K fin ((d, .bool (decide (a ≥ b))) :: env) W) : JO P n ops (⟨some d, .binOp .geq T x y T', ty, pos, aft, none⟩ :: l) K fin env W :=
  JO.value (fun a ha => by simp only [execOp, ha.get hx, ha.get hy, eqGuard, binOp, Op.intCmp]; simp [bind, pure, Sem.bind, Sem.run]) k
theorem O.eq {x y : Operand} {T T' : TypeId} {k' : IntKind} {a b : Int} (hx : get env x = some (.int k' a)) (hy : get env y = some (.int k' b))
    (k : JO P n ops l K fin ((d, .bool (decide (a = b))) :: env) W) : JO P n ops (⟨some d, .binOp .eql T x y T', ty, pos, aft, none⟩ :: l) K fin env W := by
  refine JO.value (v := .bool (decide (a = b))) (fun a ha => ?_) k
  simp only [execOp, ha.get hx, ha.get hy, eqGuard, binOp, Op.intCmp]
  simp [bind, pure, Sem.bind, Sem.run, beq_dec]
theorem O.ne {x y : Operand} {T T' : TypeId} {k' : IntKind} {a b : Int} (hx : get env x = some (.int k' a)) (hy : get env y = some (.int k' b))
    (k : JO P n ops l K fin ((d, .bool (decide (a ≠ b))) :: env) W) : JO P n ops (⟨some d, .binOp .neq T x y T', ty, pos, aft, none⟩ :: l) K fin env W := by
  refine JO.value (v := .bool (decide (a ≠ b))) (fun a ha => ?_) k
  simp only [execOp, ha.get hx, ha.get hy, eqGuard, binOp, Op.intCmp]
  simp [bind, pure, Sem.bind, Sem.run, bne, beq_dec]
theorem O.quo {x y : Operand} {T T' : TypeId} {k' : IntKind} {a b r : Int} (hx : get env x = some (.int k' a)) (hy : get env y = some (.int k' b)) (h0 : b ≠ 0) (hr : k'.wrap (a.tdiv b) = r)
    (k : JO P n ops l K fin ((d, .int k' r) :: env) W) : JO P n ops (⟨some d, .binOp .quo T x y T', ty, pos, aft, none⟩ :: l) K fin env W :=
  JO.value (fun a ha => by simp only [execOp, ha.get hx, ha.get hy, eqGuard, binOp, Op.intDiv, h0, hr]; simp [bind, pure, Sem.bind, Sem.run]) k
theorem O.rem {x y : Operand} {T T' : TypeId} {k' : IntKind} {a b r : Int} (hx : get env x = some (.int k' a)) (hy : get env y = some (.int k' b)) (h0 : b ≠ 0) (hr : a.tmod b = r)
    (k : JO P n ops l K fin ((d, .int k' r) :: env) W) : JO P n ops (⟨some d, .binOp .rem T x y T', ty, pos, aft, none⟩ :: l) K fin env W :=
  JO.value (fun a ha => by simp only [execOp, ha.get hx, ha.get hy, eqGuard, binOp, Op.intDiv, h0, hr]; simp [bind, pure, Sem.bind, Sem.run]) k
theorem O.shl {x y : Operand} {T T' : TypeId} {k' k'' : IntKind} {a b r : Int} (hx : get env x = some (.int k' a)) (hy : get env y = some (.int k'' b)) (h0 : ¬ b < 0) (hr : k'.wrap (a * 2 ^ (min b.toNat k'.bits)) = r)
    (k : JO P n ops l K fin ((d, .int k' r) :: env) W) : JO P n ops (⟨some d, .binOp .shl T x y T', ty, pos, aft, none⟩ :: l) K fin env W :=
  JO.value (fun a ha => by simp only [execOp, ha.get hx, ha.get hy, eqGuard, binOp, Op.shift, h0, hr]; simp [bind, pure, Sem.bind, Sem.run]) k
theorem O.shr {x y : Operand} {T T' : TypeId} {k' k'' : IntKind} {a b r : Int} (hx : get env x = some (.int k' a)) (hy : get env y = some (.int k'' b)) (h0 : ¬ b < 0) (hr : a.fdiv (2 ^ (min b.toNat k'.bits)) = r)
    (k : JO P n ops l K fin ((d, .int k' r) :: env) W) : JO P n ops (⟨some d, .binOp .shr T x y T', ty, pos, aft, none⟩ :: l) K fin env W :=
  JO.value (fun a ha => by simp only [execOp, ha.get hx, ha.get hy, eqGuard, binOp, Op.shift, h0, hr]; simp [bind, pure, Sem.bind, Sem.run]) k
end
/-! the program's types, as instances -/
class TInt (P : Program) (T : TypeId) (k : outParam IntKind) : Prop where
  u : P.underlying T = some (.int k)
class TBool (P : Program) (T : TypeId) : Prop where
  u : P.underlying T = some .bool
/-- a slice type: its element type, the element's cells and bytes, its zero -/
class TSl (P : Program) (T : TypeId) (E : outParam TypeId) (sz by' : outParam Nat) (z : outParam (List Value)) : Prop where
  u : P.underlying T = some (.slice E)
  i : ∃ i v, P.info? E = some i ∧ i.size = sz ∧ i.bytes = by' ∧ i.zero = some v ∧ v.cells.toList = z
/-- a variable's type: its cells, whether they are several, its zero -/
class TVar (P : Program) (T : TypeId) (sz : outParam Nat) (ag : outParam Bool) (z : outParam (List Value)) : Prop where
  u : ∃ t, P.underlying T = some t ∧ (t matches .struct _ | .array _ _) = ag
  i : ∃ i v, P.info? T = some i ∧ i.size = sz ∧ i.zero = some v ∧ v.cells.toList = z
class TStr (P : Program) (T : TypeId) : Prop where
  u : P.underlying T = some .string
/-- a struct of two fields -/
class TBld (P : Program) (T : TypeId) (n0 n1 : outParam Nat) : Prop where
  u : ∃ (fs : Array Field) (g0 g1 : Field) (i0 i1 ii : TypeInfo) (z : Value), P.underlying T = some (.struct fs) ∧ fs = #[g0, g1] ∧ g0.offset = 0 ∧ g1.offset = n0 ∧ P.info? g0.type = some i0 ∧ P.info? g1.type = some i1 ∧ i0.size = n0 ∧ i1.size = n1 ∧
    P.info? T = some ii ∧ ii.zero = some z ∧ z.cells.size = n0 + n1
/-- a field: where it lies -/
class TFld (P : Program) (T : TypeId) (f : Nat) (off : outParam Nat) : Prop where
  u : ∃ fs g, P.underlying T = some (.struct fs) ∧ fs[f]? = some g ∧ g.offset = off ∧ ∃ i, P.info? g.type = some i ∧ i.size ≠ 0
section
variable {P : Program} {n : Nat} {ops : Array Oper} {l : List Oper} {K : List Kt} {fin : Exit → Act → World → Prop} {env : Env} {W : GW}
variable {d : Nat} {ty : TypeId} {pos : String} {aft : Array Edge}
theorem run_und {T : TypeId} {t : TypeDesc} {w : World} (h : P.underlying T = some t) : (underlying T).run P w = .ok t w := by
  simp [underlying, program, bind, Sem.bind, Sem.run, pure, h]
theorem O.cv {S T : TypeId} {k' k'' : IntKind} {x : Operand} {a r : Int} [i : TInt P S k''] [j : TInt P T k'] (hx : get env x = some (.int k'' a)) (hr : k'.wrap a = r)
    (k : JO P n ops l K fin ((d, .int k' r) :: env) W) : JO P n ops (⟨some d, .convert S T x, ty, pos, aft, none⟩ :: l) K fin env W :=
  JO.value (fun a ha => by
    simp only [execOp, ha.get hx, convert, Conv.intToInt, hr, underlying, program, bind, Sem.bind, Sem.run, pure, i.u, j.u]) k
theorem O.len {T : TypeId} {x : Operand} {p : Option Addr} {m c : Nat} {E sz by' : Nat} {z : List Value} [i : TSl P T E sz by' z] (hx : get env x = some (.slice p m c))
    (k : JO P n ops l K fin ((d, .int .i64 (m : Int)) :: env) W) : JO P n ops (⟨some d, .call ⟨.builtin .len, #[x], #[T]⟩, ty, pos, aft, none⟩ :: l) K fin env W :=
  JO.value (fun a ha => by
    simp [execOp, resolve, invoke, builtin, Builtin.len_, ha.get hx, underlying, program, bind, Sem.bind, Sem.run, pure, i.u, goInt]) k
theorem run_bnd {α β : Type} (s : Sem α) (f : α → Sem β) (w w' : World) (x : α) (h : s.run P w = .ok x w') : (s.bind f).run P w = (f x).run P w' := by
  rw [Sem.run_bind', h]
  rfl
theorem run_eqIn {T : TypeId} (h : P.underlying T = some .bool) (a b : Bool) (w : World) (m : Nat) : (Op.equalIn (m + 1) T (.bool a) (.bool b)).run P w = .ok (a == b) w := by
  simp [Op.equalIn, underlying, program, bind, Sem.bind, Sem.run, pure, h]
theorem run_eq {T : TypeId} (h : P.underlying T = some .bool) (a b : Bool) (w : World) : (Op.equal T (.bool a) (.bool b)).run P w = .ok (a == b) w := run_eqIn h a b w 9999
theorem O.beq {T T' : TypeId} {x y : Operand} {a b : Bool} [i : TBool P T] (hx : get env x = some (.bool a)) (hy : get env y = some (.bool b))
    (k : JO P n ops l K fin ((d, .bool (a == b)) :: env) W) : JO P n ops (⟨some d, .binOp .eql T x y T', ty, pos, aft, none⟩ :: l) K fin env W :=
  JO.value (fun ac ha => by
    have h1 := run_eq i.u a b W.w
    simp only [execOp, ha.get hx, ha.get hy, eqGuard, binOp]
    show ((Sem.bind (Op.equal T (.bool a) (.bool b)) _).bind _).run P W.w = _
    rw [run_bnd _ _ W.w W.w (.bool (a == b)) (by rw [run_bnd _ _ _ _ _ h1]; rfl)]
    rfl) k
theorem O.bne {T T' : TypeId} {x y : Operand} {a b : Bool} [i : TBool P T] (hx : get env x = some (.bool a)) (hy : get env y = some (.bool b))
    (k : JO P n ops l K fin ((d, .bool (a != b)) :: env) W) : JO P n ops (⟨some d, .binOp .neq T x y T', ty, pos, aft, none⟩ :: l) K fin env W :=
  JO.value (fun ac ha => by
    have h1 := run_eq i.u a b W.w
    simp only [execOp, ha.get hx, ha.get hy, eqGuard, binOp]
    show ((Sem.bind (Op.equal T (.bool a) (.bool b)) _).bind _).run P W.w = _
    rw [run_bnd _ _ W.w W.w (.bool (a != b)) (by rw [run_bnd _ _ _ _ _ h1]; rfl)]
    rfl) k
theorem add0 (b off k : Nat) : (⟨b, off, none⟩ : Addr).add k = ⟨b, off + k, none⟩ := by
  unfold Addr.add; split
  · rename_i h; subst h; rfl
  · rfl
theorem O.fa {T f off o : Nat} {x : Operand} {b : Nat} [i : TFld P T f o] (hx : get env x = some (.pointer (some ⟨b, off, none⟩)))
    (k : JO P n ops l K fin ((d, .pointer (some ⟨b, off + o, none⟩)) :: env) W) : JO P n ops (⟨some d, .fieldAddr T x f, ty, pos, aft, none⟩ :: l) K fin env W := by
  obtain ⟨fs, g, h1, h2, h3, ii, h4, h5⟩ := i.u
  exact JO.value (fun a ha => by
    simp [execOp, ha.get hx, Instr.fieldAt, Instr.sureAddr, fieldPlace, sizeOf, typeInfo, underlying, program, bind, Sem.bind, Sem.run, pure, h1, h2, h3, h4, h5, add0]) k
theorem O.ia {T : TypeId} {E sz by' : Nat} {z : List Value} {x y : Operand} {b off m c j : Nat} {k' : IntKind} {jj : Int} [i : TSl P T E sz by' z]
    (hx : get env x = some (.slice (some ⟨b, off, none⟩) m c)) (hy : get env y = some (.int k' jj)) (hjj : jj = (j : Int)) (hj : j < m)
    (k : JO P n ops l K fin ((d, .pointer (some ⟨b, off + j * sz, none⟩)) :: env) W) : JO P n ops (⟨some d, .indexAddr T x y, ty, pos, aft, none⟩ :: l) K fin env W := by
  obtain ⟨ii, v, h1, h2, h3, h4, h5⟩ := i.i
  subst hjj
  exact JO.value (fun a ha => by
    simp [execOp, ha.get hx, ha.get hy, Instr.indexAt, asIntOf, sizeOf, typeInfo, underlying, program, bind, Sem.bind, Sem.run, pure, i.u, h1, h2, hj, add0]) k
/-- x[lo:hi] -/
theorem O.sl {T : TypeId} {E sz by' : Nat} {z : List Value} {x y1 y2 : Operand} {p : Option Addr} {m c lo hi : Nat} {k1 k2 : IntKind} {li hh : Int} [i : TSl P T E sz by' z]
    (hx : get env x = some (.slice p m c)) (h1 : get env y1 = some (.int k1 li)) (h2 : get env y2 = some (.int k2 hh)) (hli : li = (lo : Int)) (hhh : hh = (hi : Int)) (hlo : lo ≤ hi) (hhi : hi ≤ c)
    (k : JO P n ops l K fin ((d, .slice (if c = lo then p else p.map (·.add (lo * sz))) (hi - lo) (c - lo)) :: env) W) : JO P n ops (⟨some d, .slice T x (some y1) (some y2) none, ty, pos, aft, none⟩ :: l) K fin env W := by
  obtain ⟨ii, v, e1, e2, e3, e4, e5⟩ := i.i
  subst hli; subst hhh
  exact JO.value (fun a ha => by
    simp [execOp, ha.get hx, ha.get h1, ha.get h2, Instr.sliceAt, Instr.slice, Instr.sliceBounds, Instr.sliceBound, asIntOf, sizeOf, typeInfo, underlying, program, bind, Sem.bind, Sem.run, pure, i.u, e1, e2, hlo, hhi]) k
/-- x[:hi] -/
theorem O.slh {T : TypeId} {E sz by' : Nat} {z : List Value} {x y2 : Operand} {p : Option Addr} {m c hi : Nat} {k2 : IntKind} {hh : Int} [i : TSl P T E sz by' z]
    (hx : get env x = some (.slice p m c)) (h2 : get env y2 = some (.int k2 hh)) (hhh : hh = (hi : Int)) (hhi : hi ≤ c)
    (k : JO P n ops l K fin ((d, .slice p hi c) :: env) W) : JO P n ops (⟨some d, .slice T x none (some y2) none, ty, pos, aft, none⟩ :: l) K fin env W := by
  obtain ⟨ii, v, e1, e2, e3, e4, e5⟩ := i.i
  subst hhh
  have hp : p.map (·.add (0 * sz)) = p := by
    cases p with
    | none => rfl
    | some a => simp [Addr.add]
  exact JO.value (fun a ha => by
    simp [execOp, ha.get hx, ha.get h2, Instr.sliceAt, Instr.slice, Instr.sliceBounds, Instr.sliceBound, asIntOf, sizeOf, typeInfo, underlying, program, bind, Sem.bind, Sem.run, pure, i.u, e1, e2, hhi]
    cases p <;> simp [Addr.add]) k
/-- x[lo:] -/
theorem O.sll {T : TypeId} {E sz by' : Nat} {z : List Value} {x y1 : Operand} {p : Option Addr} {m c lo : Nat} {k1 : IntKind} {li : Int} [i : TSl P T E sz by' z]
    (hx : get env x = some (.slice p m c)) (h1 : get env y1 = some (.int k1 li)) (hli : li = (lo : Int)) (hlo : lo ≤ m)
    (k : JO P n ops l K fin ((d, .slice (if c = lo then p else p.map (·.add (lo * sz))) (m - lo) (c - lo)) :: env) W) : JO P n ops (⟨some d, .slice T x (some y1) none none, ty, pos, aft, none⟩ :: l) K fin env W := by
  obtain ⟨ii, v, e1, e2, e3, e4, e5⟩ := i.i
  subst hli
  exact JO.value (fun a ha => by
    simp [execOp, ha.get hx, ha.get h1, Instr.sliceAt, Instr.slice, Instr.sliceBounds, Instr.sliceBound, asIntOf, sizeOf, typeInfo, underlying, program, bind, Sem.bind, Sem.run, pure, i.u, e1, e2, hlo]) k
/-! loads -/
theorem run_load {a : Addr} {w : World} {v : Value} (h : w.cell? a = some v) : (load a).run P w = .ok v w := by
  simp [load, Sem.run, h]
theorem run_loadCells {b off : Nat} {w : World} (cs : List Value) : ∀ (i : Nat) (acc : Array Value), (∀ j v, cs[j]? = some v → w.cell? ⟨b, off + (i + j), none⟩ = some v) →
    (loadCellsFrom ⟨b, off, none⟩ i cs.length acc).run P w = .ok (acc ++ cs.toArray) w := by
  induction cs with
  | nil => intro i acc _; simp [loadCellsFrom, pure, Sem.run]
  | cons c cs ih =>
    intro i acc h
    have h0 := h 0 c rfl
    have hi := ih (i + 1) (acc.push c) (fun j v hj => by
      have := h (j + 1) v hj
      rwa [show off + (i + 1 + j) = off + (i + (j + 1)) from by omega])
    simp only [List.length_cons, loadCellsFrom, bind, load, Sem.bind, add0, Sem.run]
    rw [show off + (i + 0) = off + i from rfl] at h0
    rw [h0]
    simp only [pure, Sem.bind]
    rw [hi]
    simp
theorem O.ld {T sz : Nat} {ag : Bool} {z cs : List Value} {x : Operand} {b off : Nat} [i : TVar P T sz ag z] (hx : get env x = some (.pointer (some ⟨b, off, none⟩)))
    (hl : cs.length = sz) (hc : ∀ j v, cs[j]? = some v → W.w.cell? ⟨b, off + j, none⟩ = some v) (h1 : ag = false → sz = 1)
    (k : JO P n ops l K fin ((d, mkv ag cs) :: env) W) : JO P n ops (⟨some d, .load T x, ty, pos, aft, none⟩ :: l) K fin env W := by
  obtain ⟨t, u1, u2⟩ := i.u
  obtain ⟨ii, v, e1, e2, e3⟩ := i.i
  have hcells := run_loadCells (P := P) (b := b) (off := off) (w := W.w) cs 0 #[] (fun j v hj => by simpa using hc j v hj)
  have hs : (sizeOf T).run P W.w = .ok sz W.w := by simp [sizeOf, typeInfo, program, bind, Sem.bind, Sem.run, pure, e1, e2]
  have hag : (isAgg T).run P W.w = .ok ag W.w := by
    subst u2
    cases t <;> simp [isAgg, underlying, program, bind, Sem.bind, Sem.run, pure, u1]
  have hv : (loadVar T ⟨b, off, none⟩).run P W.w = .ok (mkv ag cs) W.w := by
    unfold loadVar
    rw [Sem.run_bind, hag]
    cases ag with
    | true =>
      subst hl
      simp only [Result.andThen_ok, if_true]
      rw [Sem.run_bind, hs]
      simp only [Result.andThen_ok]
      rw [Sem.run_bind]
      simp only [loadCells]
      rw [hcells]
      simp [mkv]
    | false =>
      have h2 := h1 rfl
      match cs, hl, hc with
      | [c], hl, hc => simpa [mkv] using run_load (P := P) (hc 0 c rfl)
      | [], hl, hc => simp at hl; omega
      | _ :: _ :: _, hl, hc => simp at hl; omega
  refine JO.value (fun a ha => ?_) k
  simp only [execOp, ha.get hx, Instr.loadAt, Instr.sureAddr]
  rw [Sem.run_bind]
  show Result.andThen ((loadVar T ⟨b, off, none⟩).run P W.w) _ = _
  rw [hv]
  rfl
/-- a load whose cell is known -/
theorem O.ldC {T : TypeId} {z : List Value} {x : Operand} {b off : Nat} {v : Value} [i : TVar P T 1 false z] (hx : get env x = some (.pointer (some ⟨b, off, none⟩))) (hc : W.w.cell? ⟨b, off, none⟩ = some v)
    (k : JO P n ops l K fin ((d, v) :: env) W) : JO P n ops (⟨some d, .load T x, ty, pos, aft, none⟩ :: l) K fin env W :=
  O.ld (ag := false) (cs := [v]) hx rfl (fun j u hj => by
    match j, hj with
    | 0, hj => simp at hj; subst hj; exact hc
    | j + 1, hj => simp at hj) (fun _ => rfl) k
theorem bv_or (w x y : Nat) (hx : x < 2 ^ w) (hy : y < 2 ^ w) : (BitVec.ofInt w (x : Int) ||| BitVec.ofInt w (y : Int)).toNat = x ||| y := by
  have e : ∀ z : Nat, z < 2 ^ w → (BitVec.ofInt w (z : Int)).toNat = z := by
    intro z hz
    rw [BitVec.ofInt_natCast, BitVec.toNat_ofNat, Nat.mod_eq_of_lt hz]
  rw [BitVec.toNat_or, e x hx, e y hy]
theorem O.or {x y : Operand} {T T' : TypeId} {k' : IntKind} {p q : Nat} {pi qi r : Int} (hx : get env x = some (.int k' pi)) (hy : get env y = some (.int k' qi)) (hp : pi = (p : Int)) (hq : qi = (q : Int)) (hpl : p < 2 ^ k'.bits) (hql : q < 2 ^ k'.bits)
    (hr : k'.wrap ((p ||| q : Nat) : Int) = r) (k : JO P n ops l K fin ((d, .int k' r) :: env) W) : JO P n ops (⟨some d, .binOp .or T x y T', ty, pos, aft, none⟩ :: l) K fin env W := by
  subst hp; subst hq
  have e := bv_or k'.bits p q hpl hql
  have he : ∀ op : BinOp, op = .or → (Op.intBits op k' (p : Int) (q : Int)) = pure (.int k' r) := by
    intro op ho
    subst ho
    simp only [Op.intBits, e, hr]
  exact JO.value (fun a ha => by simp only [execOp, ha.get hx, ha.get hy, eqGuard, binOp, he]; simp [bind, pure, Sem.bind]) k
/-- a slice against nil -/
theorem O.eqnil {T T' : TypeId} {E sz by' : Nat} {z : List Value} {x : Operand} {p : Option Addr} {m c : Nat} [i : TSl P T E sz by' z] (hx : get env x = some (.slice p m c))
    (k : JO P n ops l K fin ((d, .bool p.isNone) :: env) W) : JO P n ops (⟨some d, .binOp .eql T x (.const (.slice none 0 0)) T', ty, pos, aft, none⟩ :: l) K fin env W := by
  have h1 : (Op.equal T (.slice p m c) (.slice none 0 0)).run P W.w = .ok p.isNone W.w := by
    have : ∀ m' : Nat, (Op.equalIn (m' + 1) T (.slice p m c) (.slice none 0 0)).run P W.w = .ok p.isNone W.w := by
      intro m'
      cases p <;> simp [Op.equalIn, run_underlying i.u]
    exact this 9999
  exact JO.value (fun ac ha => by
    have hn : ac.eval (.const (.slice none 0 0)) = .slice none 0 0 := rfl
    simp only [execOp, ha.get hx, hn, eqGuard, binOp]
    show ((Sem.bind (Op.equal T (.slice p m c) (.slice none 0 0)) _).bind _).run P W.w = _
    rw [run_bnd _ _ W.w W.w (.bool p.isNone) (by rw [run_bnd _ _ _ _ _ h1]; rfl)]
    rfl) k
/-- a byte of a string -/
theorem O.idx {T : TypeId} {x y : Operand} {s : ByteArray} {k' : IntKind} {j : Nat} {jj : Int} {b : UInt8} [i : TStr P T] (hx : get env x = some (.string s)) (hy : get env y = some (.int k' jj)) (hjj : jj = (j : Int)) (hb : s[j]? = some b)
    (k : JO P n ops l K fin ((d, .int .u8 (b.toNat : Int)) :: env) W) : JO P n ops (⟨some d, .index T x y, ty, pos, aft, none⟩ :: l) K fin env W := by
  subst hjj
  exact JO.value (fun a ha => by
    simp [execOp, ha.get hx, ha.get hy, Instr.index, asIntOf, run_underlying i.u, hb]) k
end
end
end
section
section
/-! ghost worlds after a new block, after a write -/
def GW.push (W : GW) (o : Obj) (lock : Bool) : GW where
  w := W.w.alloc o
  A := if lock then W.size :: W.A else W.A
  m := W.m
  hA := by
    intro k hk
    rw [World.size_alloc]
    cases lock with
    | true =>
      rcases List.mem_cons.1 hk with h | h
      · subst h; exact Nat.lt_succ_self _
      · exact Nat.lt_succ_of_lt (W.hA k h)
    | false => exact Nat.lt_succ_of_lt (W.hA k hk)
  hm := by rw [World.size_alloc]; exact Nat.le_succ_of_le W.hm
theorem heap_push (w : World) (o : Obj) (k : Nat) (h : k < w.heap.size) : (w.alloc o).heap[k]? = w.heap[k]? := by
  show (w.heap.push o)[k]? = _
  rw [Array.getElem?_push, if_neg (by omega)]
theorem heap_push_self (w : World) (o : Obj) : (w.alloc o).heap[w.heap.size]? = some o := by
  show (w.heap.push o)[w.heap.size]? = _
  rw [Array.getElem?_push, if_pos rfl]
theorem push_cells (W : GW) (c : Array Value) (T : TypeId) (lock : Bool) : (W.push (.cells c T) lock).w.heap[W.size]? = some (.cells c.toList.toArray T (0, 0)) := by
  rw [Array.toArray_toList]; exact heap_push_self ..
theorem GW.size_push (W : GW) (o : Obj) (b : Bool) : (W.push o b).size = W.size + 1 := World.size_alloc ..
theorem push_ext (W : GW) (o : Obj) (lock : Bool) : Ext W (W.push o lock) where
  os := rfl
  out := rfl
  tape := rfl
  m := rfl
  size := by rw [GW.size_push]; omega
  same := fun k hk _ => heap_push _ _ _ hk
  stay := fun k hk hn => by
    cases lock with
    | true => intro h; rcases List.mem_cons.1 h with h | h
              · exact absurd h (by have : k < W.w.heap.size := hk; omega)
              · exact hn h
    | false => exact hn
  prot := fun k _ hn => by
    cases lock with
    | true => exact List.mem_cons_of_mem _ hn
    | false => exact hn
  row := fun k c T fr hc => by
    have hk : k < W.w.heap.size := by
      by_cases h : k < W.w.heap.size
      · exact h
      · rw [Array.getElem?_eq_none (by omega)] at hc; cases hc
    exact ⟨c, by rw [← hc]; exact heap_push _ _ _ hk, rfl⟩
  keep := fun k hn => by
    cases lock with
    | true => exact List.mem_cons_of_mem _ hn
    | false => exact hn
  all := fun k hk => heap_push _ _ _ hk
/-- The world with another block. -/
def setB (w : World) (b : Nat) (o : Obj) : World := { w with heap := w.heap.setIfInBounds b o }
def GW.put (W : GW) (b : Nat) (o : Obj) : GW where
  w := setB W.w b o
  A := W.A
  m := W.m
  hA := fun k hk => by simpa [setB] using W.hA k hk
  hm := by simpa [setB] using W.hm
theorem GW.size_put (W : GW) (b : Nat) (o : Obj) : (W.put b o).size = W.size := by simp [GW.size, GW.put, setB]
theorem heap_put (w : World) (b : Nat) (o : Obj) (k : Nat) (h : k ≠ b) : (setB w b o).heap[k]? = w.heap[k]? := by
  simp only [setB, Array.getElem?_setIfInBounds]
  rw [if_neg (fun e => h e.symm)]
theorem heap_put_self (w : World) (b : Nat) (o : Obj) (h : b < w.heap.size) : (setB w b o).heap[b]? = some o := by
  simp only [setB, Array.getElem?_setIfInBounds, if_true, h]
theorem lt_of_heap {w : World} {b : Nat} {o : Obj} (h : w.heap[b]? = some o) : b < w.heap.size := by
  by_cases hb : b < w.heap.size
  · exact hb
  · rw [Array.getElem?_eq_none (by omega)] at h; cases h
/-! facts on blocks -/
/-- A variable that is written no more. -/
structure Blk (W : GW) (b : Nat) (cs : List Value) : Prop where
  nA : b ∉ W.A
  h : ∃ T fr, W.w.heap[b]? = some (.cells cs.toArray T fr)
theorem Blk.mono {W W' : GW} {b : Nat} {cs : List Value} (h : Blk W b cs) (l : LeF W W') : Blk W' b cs := by
  obtain ⟨T, fr, hb⟩ := h.h
  exact ⟨l.stay b (lt_of_heap hb) h.nA, T, fr, by rw [l.same b (lt_of_heap hb) h.nA]; exact hb⟩
theorem Blk.to {W W' : GW} {b : Nat} {cs : List Value} (h : Blk W b cs) [l : Lf W W'] : Blk W' b cs := h.mono l.s
theorem cell_of {w : World} {b : Nat} {cs : List Value} {T : TypeId} {fr : Nat × Nat} (h : w.heap[b]? = some (.cells cs.toArray T fr)) (i : Nat) : w.cell? ⟨b, i, none⟩ = cs[i]? := by
  simp [World.cell?, h]
theorem Blk.cell {W : GW} {b : Nat} {cs : List Value} (h : Blk W b cs) (i : Nat) : W.w.cell? ⟨b, i, none⟩ = cs[i]? := by
  obtain ⟨T, fr, hb⟩ := h.h
  exact cell_of hb i
/-- What a block holds just now. -/
def Cnt (W : GW) (b : Nat) (cs : List Value) : Prop := ∃ T, W.w.heap[b]? = some (.cells cs.toArray T (0, 0))
theorem Cnt.cell {W : GW} {b : Nat} {cs : List Value} (h : Cnt W b cs) (i : Nat) : W.w.cell? ⟨b, i, none⟩ = cs[i]? := by
  obtain ⟨T, hb⟩ := h
  exact cell_of hb i
theorem Cnt.ext {W W' : GW} {b : Nat} {cs : List Value} (h : Cnt W b cs) (e : Ext W W') : Cnt W' b cs := by
  obtain ⟨T, hb⟩ := h
  exact ⟨T, by rw [e.all b (lt_of_heap hb)]; exact hb⟩
/-- A variable of sz cells that the function may write. -/
structure Loc (W : GW) (b sz : Nat) : Prop where
  A : b ∈ W.A
  m : W.m ≤ b
  h : ∃ cs, Cnt W b cs ∧ cs.length = sz
theorem Loc.mono {W W' : GW} {b sz : Nat} (h : Loc W b sz) (l : LeK W W') : Loc W' b sz := by
  obtain ⟨cs, ⟨T, hb⟩, hs⟩ := h.h
  obtain ⟨c', h1, h2⟩ := l.row b _ _ _ hb
  exact ⟨l.keep b h.A, by rw [l.m]; exact h.m, c'.toList, ⟨T, by simpa using h1⟩, by simpa [hs] using h2⟩
theorem Loc.to {W W' : GW} {b sz : Nat} (h : Loc W b sz) [l : Lk W W'] : Loc W' b sz := h.mono l.s
theorem put_lek (W : GW) (b : Nat) (c c' : Array Value) (T : TypeId) (fr : Nat × Nat) (hb : W.w.heap[b]? = some (.cells c T fr)) (hA : b ∈ W.A) (hm : W.m ≤ b) (hs : c'.size = c.size) : LeK W (W.put b (.cells c' T fr)) where
  os := rfl
  out := rfl
  tape := rfl
  m := rfl
  size := by rw [GW.size_put]; exact Nat.le_refl _
  same := fun k hk hp => heap_put _ _ _ _ (by
    rcases hp with hp | hp
    · omega
    · intro h; subst h; exact hp hA)
  stay := fun _ _ h => h
  prot := fun _ _ h => h
  keep := fun _ h => h
  row := fun k d U fs hd => by
    by_cases h : k = b
    · subst h
      rw [hb] at hd
      injection hd with hd
      injection hd with h1 h2 h3
      subst h1; subst h2; subst h3
      exact ⟨c', heap_put_self _ _ _ (lt_of_heap hb), hs⟩
    · exact ⟨d, by rw [← hd]; exact heap_put _ _ _ _ h, rfl⟩
/-! the operations -/
def spl (c : List Value) (o : Nat) : List Value → List Value
  | [] => c
  | v :: vs => spl (c.set o v) (o + 1) vs
theorem spl_length (c : List Value) (o : Nat) (vs : List Value) : (spl c o vs).length = c.length := by
  induction vs generalizing c o with
  | nil => rfl
  | cons v vs ih => simp [spl, ih]
theorem spl_get (c : List Value) (o : Nat) (vs : List Value) (i : Nat) (ho : o + vs.length ≤ c.length) :
    (spl c o vs)[i]? = if o ≤ i ∧ i < o + vs.length then vs[i - o]? else c[i]? := by
  induction vs generalizing c o with
  | nil => simp only [spl, List.length_nil]; rw [if_neg (by omega)]
  | cons v vs ih =>
    simp only [spl, List.length_cons] at ho ⊢
    rw [ih (c.set o v) (o + 1) (by simp; omega)]
    by_cases h1 : i = o
    · subst h1
      rw [if_neg (by omega), if_pos (by omega), List.getElem?_set_self (by omega)]
      simp
    · by_cases h2 : o + 1 ≤ i ∧ i < o + 1 + vs.length
      · rw [if_pos h2, if_pos (by omega), show i - o = (i - (o + 1)) + 1 from by omega]
        simp
      · rw [if_neg h2, if_neg (by omega), List.getElem?_set_ne (fun e => h1 e.symm)]
theorem spl_full (c vs : List Value) (h : vs.length = c.length) : spl c 0 vs = vs := by
  apply List.ext_getElem?
  intro i
  rw [spl_get _ _ _ _ (by omega)]
  by_cases hi : i < vs.length
  · rw [if_pos (by omega)]; simp
  · rw [if_neg (by omega), List.getElem?_eq_none (by omega), List.getElem?_eq_none (by omega)]
section
variable {P : Program}
theorem setCell_eq {w : World} {b : Nat} {c : List Value} {T : TypeId} {fr : Nat × Nat} (hb : w.heap[b]? = some (.cells c.toArray T fr)) (i : Nat) (v : Value) :
    w.setCell ⟨b, i, none⟩ v = setB w b (.cells (c.set i v).toArray T fr) := by
  unfold World.setCell setB
  congr 1
  apply Array.ext_getElem?
  intro k
  simp only [Array.getElem?_modify, Array.getElem?_setIfInBounds]
  by_cases h : b = k
  · subst h
    rw [if_pos rfl, if_pos rfl, if_pos (lt_of_heap hb), hb]
    simp
  · rw [if_neg h, if_neg h]
theorem setB_same {w : World} {b : Nat} {o : Obj} (hb : w.heap[b]? = some o) : setB w b o = w := by
  unfold setB
  have : w.heap.setIfInBounds b o = w.heap := by
    apply Array.ext_getElem?
    intro k
    simp only [Array.getElem?_setIfInBounds]
    by_cases h : b = k
    · subst h; rw [if_pos rfl, if_pos (lt_of_heap hb), hb]
    · rw [if_neg h]
  rw [this]
theorem setB_setB (w : World) (b : Nat) (o o' : Obj) : setB (setB w b o) b o' = setB w b o' := by
  unfold setB
  congr 1
  apply Array.ext_getElem?
  intro k
  simp only [Array.getElem?_setIfInBounds, Array.size_setIfInBounds]
  by_cases h : b = k <;> simp [h]
theorem run_storeCells {b off : Nat} {T : TypeId} (vs : List Value) : ∀ (w : World) (i : Nat) (c : List Value), w.heap[b]? = some (.cells c.toArray T (0, 0)) →
    off + i + vs.length ≤ c.length → (∀ v ∈ vs, oneC v = true) → (storeCells ⟨b, off, none⟩ vs i).run P w = .ok () (setB w b (.cells (spl c (off + i) vs).toArray T (0, 0))) := by
  induction vs with
  | nil => intro w i c hb _ _; simp only [storeCells, spl]; rw [setB_same hb]; rfl
  | cons v vs ih =>
    intro w i c hb hl h1
    simp only [List.length_cons] at hl
    have hc : w.cell? ⟨b, off + i, none⟩ = c[off + i]? := cell_of hb _
    have hlt : off + i < c.length := by omega
    rw [List.getElem?_eq_getElem hlt] at hc
    have hf : w.frozen? ⟨b, off + i, none⟩ = false := by simp [World.frozen?, hb]
    have hone := h1 v (List.mem_cons_self ..)
    have hst : (store (⟨b, off, none⟩ : Addr) v).run P w = (store (⟨b, off, none⟩ : Addr) v).run P w := rfl
    have hrun : (store ((⟨b, off, none⟩ : Addr).add i) v).run P w = .ok () (setB w b (.cells (c.set (off + i) v).toArray T (0, 0))) := by
      rw [add0, ← setCell_eq hb]
      cases v <;> simp_all [store, Sem.run, oneC]
    simp only [storeCells]
    rw [Sem.run_bind, hrun]
    simp only [Result.andThen_ok]
    rw [ih _ (i + 1) (c.set (off + i) v) (heap_put_self _ _ _ (lt_of_heap hb)) (by simp; omega) (fun u hu => h1 u (List.mem_cons_of_mem _ hu)), setB_setB]
    rfl
end
section
variable {P : Program} {n : Nat} {ops : Array Oper} {l : List Oper} {K : List Kt} {fin : Exit → Act → World → Prop} {env : Env} {W : GW}
variable {d : Nat} {ty : TypeId} {pos : String} {aft : Array Edge}
/-- a parameter's variable -/
theorem O.box {T : TypeId} {x : Operand} {v : Value} (hx : get env x = some v)
    (k : ∀ W' b, Lk1 W W' → Blk W' b v.cells.toList → JO P n ops l K fin ((d, .pointer (some ⟨b, 0, none⟩)) :: env) W') : JO P n ops (⟨some d, .box T x, ty, pos, aft, none⟩ :: l) K fin env W := by
  refine JO.world (W' := W.push (.cells v.cells T) false) (v := .pointer (some ⟨W.size, 0, none⟩)) (fun a ha => ?_)
    (k _ _ ⟨(push_ext ..).toLeK⟩ ⟨fun h => Nat.lt_irrefl _ (W.hA _ h), T, (0, 0), push_cells ..⟩)
  simp only [execOp, ha.get hx]
  rfl
/-- a variable -/
theorem O.alloc {T sz : Nat} {ag : Bool} {z : List Value} [i : TVar P T sz ag z]
    (k : ∀ W' b, Lk1 W W' → Loc W' b z.length → Cnt W' b z → W.size ≤ b → JO P n ops l K fin ((d, .pointer (some ⟨b, 0, none⟩)) :: env) W') : JO P n ops (⟨some d, .alloc T, ty, pos, aft, none⟩ :: l) K fin env W := by
  obtain ⟨ii, v, e1, e2, e3, e4⟩ := i.i
  have hc : Cnt (W.push (.cells v.cells T) true) W.size z := ⟨T, by rw [← e4]; exact push_cells ..⟩
  refine JO.world (W' := W.push (.cells v.cells T) true) (v := .pointer (some ⟨W.size, 0, none⟩)) (fun a ha => ?_)
    (k _ _ ⟨(push_ext ..).toLeK⟩ ⟨List.mem_cons_self .., W.hm, z, hc, rfl⟩ hc (Nat.le_refl _))
  have hz : (zeroValue T).run P W.w = .ok v W.w := by simp [zeroValue, typeInfo, program, bind, Sem.bind, Sem.run, pure, e1, e3]
  simp only [execOp, Instr.alloc]
  rw [Sem.run_bind, Sem.run_bind, hz]
  rfl
theorem run_storeVar {T sz b off : Nat} {ag : Bool} {z : List Value} [i : TVar P T sz ag z] {w : World} {U : TypeId} {c : List Value} {v : Value} (hb : w.heap[b]? = some (.cells c.toArray U (0, 0)))
    (hs : v.cells.toList.length = sz) (hl : off + sz ≤ c.length) (h1 : ∀ u ∈ v.cells.toList, oneC u = true) :
    (storeVar T ⟨b, off, none⟩ v).run P w = .ok () (setB w b (.cells (spl c off v.cells.toList).toArray U (0, 0))) := by
  obtain ⟨ii, u, e1, e2, e3⟩ := i.i
  have h2 : (sizeOf T).run P w = .ok sz w := by simp [sizeOf, typeInfo, program, bind, Sem.bind, Sem.run, pure, e1, e2]
  unfold storeVar
  rw [Sem.run_bind, h2]
  have h3 : v.cells.size = sz := by simpa using hs
  simp only [Result.andThen_ok, h3]
  simp only [ne_eq, not_true, if_false]
  have := run_storeCells (P := P) (off := off) v.cells.toList w 0 c hb (by rw [hs]; omega) h1
  simpa using this
/-- a variable is written whole -/
theorem O.st {T sz b : Nat} {ag : Bool} {z : List Value} {x y : Operand} {v : Value} [i : TVar P T sz ag z] (hx : get env x = some (.pointer (some ⟨b, 0, none⟩))) (hy : get env y = some v)
    (hl : Loc W b sz) (hs : v.cells.toList.length = sz) (h1 : ∀ u ∈ v.cells.toList, oneC u = true)
    (k : ∀ W', Lk1 W W' → Cnt W' b v.cells.toList → JO P n ops l K fin env W') : JO P n ops (⟨none, .store T x y, ty, pos, aft, none⟩ :: l) K fin env W := by
  obtain ⟨cs, ⟨U, hb⟩, hsz⟩ := hl.h
  have hr := run_storeVar (P := P) (T := T) (off := 0) (v := v) hb hs (by omega) h1
  rw [spl_full _ _ (by omega)] at hr
  refine JO.unit (W' := W.put b (.cells v.cells.toList.toArray U (0, 0))) (fun a ha => ?_)
    (k _ ⟨put_lek W b _ _ U (0, 0) hb hl.A hl.m (by simp; simpa using hs.trans hsz.symm)⟩ ⟨U, heap_put_self _ _ _ (lt_of_heap hb)⟩)
  simp only [execOp, ha.get hx, ha.get hy, Instr.storeAt, Instr.sureAddr]
  rw [Sem.run_bind, Sem.run_bind]
  show Result.andThen (Result.andThen (Result.ok _ _) _) _ = _
  simp only [Result.andThen_ok]
  rw [hr]
  rfl
/-! reads of variables -/
def sub2 : List Value → Nat → Option (Value × Value)
  | a :: b :: _, 0 => some (a, b)
  | _ :: l, k + 1 => sub2 l k
  | _, _ => none
theorem sub2_get {cs : List Value} {o : Nat} {u v : Value} (h : sub2 cs o = some (u, v)) : cs[o]? = some u ∧ cs[o + 1]? = some v := by
  induction cs generalizing o with
  | nil => cases o <;> simp [sub2] at h
  | cons c cs ih =>
    cases o with
    | zero => cases cs with
      | nil => simp [sub2] at h
      | cons c' cs => simp [sub2] at h; simp [h]
    | succ o => simp only [sub2] at h; simpa using ih h
theorem O.ldB {T : TypeId} {z : List Value} {x : Operand} {b off : Nat} {cs : List Value} {v : Value} [i : TVar P T 1 false z] (hx : get env x = some (.pointer (some ⟨b, off, none⟩)))
    (hb : Blk W b cs) (hv : cs[off]? = some v) (k : JO P n ops l K fin ((d, v) :: env) W) : JO P n ops (⟨some d, .load T x, ty, pos, aft, none⟩ :: l) K fin env W :=
  O.ld (ag := false) (cs := [v]) hx rfl (fun j u hj => by
    match j, hj with
    | 0, hj => simp at hj; subst hj; rw [hb.cell]; exact hv
    | j + 1, hj => simp at hj) (fun _ => rfl) k
theorem O.ldB2 {T : TypeId} {z : List Value} {x : Operand} {b off : Nat} {cs : List Value} {u v : Value} [i : TVar P T 2 true z] (hx : get env x = some (.pointer (some ⟨b, off, none⟩)))
    (hb : Blk W b cs) (hv : sub2 cs off = some (u, v)) (k : JO P n ops l K fin ((d, .agg #[u, v]) :: env) W) : JO P n ops (⟨some d, .load T x, ty, pos, aft, none⟩ :: l) K fin env W :=
  O.ld (ag := true) (cs := [u, v]) hx rfl (fun j w hj => by
    obtain ⟨h1, h2⟩ := sub2_get hv
    match j, hj with
    | 0, hj => simp at hj; subst hj; rw [hb.cell]; exact h1
    | 1, hj => simp at hj; subst hj; rw [hb.cell]; exact h2
    | j + 2, hj => simp at hj) (fun h => Bool.noConfusion h) k
/-- the whole variable -/
theorem O.ldBw {T sz : Nat} {z : List Value} {x : Operand} {b : Nat} {cs : List Value} [i : TVar P T sz true z] (hx : get env x = some (.pointer (some ⟨b, 0, none⟩)))
    (hb : Blk W b cs) (hs : cs.length = sz) (k : JO P n ops l K fin ((d, .agg cs.toArray) :: env) W) : JO P n ops (⟨some d, .load T x, ty, pos, aft, none⟩ :: l) K fin env W :=
  O.ld (ag := true) (cs := cs) hx hs (fun j w hj => by rw [hb.cell]; simpa using hj) (fun h => Bool.noConfusion h) k
end
end
section
section
variable {P : Program} {n : Nat} {ops : Array Oper} {l : List Oper} {K : List Kt} {fin : Exit → Act → World → Prop} {env : Env} {W : GW}
variable {d d2 : Nat} {ty ty2 : TypeId} {pos pos2 : String} {aft aft2 : Array Edge}
theorem V.rw {v : Value} {x : Nat} (h : V RW W v x) : v = .int .u32 (x : Int) ∧ x < 4294967296 := by
  obtain ⟨cs, ⟨h1, h2⟩, h3⟩ := h
  subst h1
  exact ⟨h3, h2⟩
theorem rwv (x : Nat) (h : x < 4294967296) : V RW W (.int .u32 (x : Int)) x := ⟨_, ⟨rfl, h⟩, rfl⟩
theorem Sl.lt {α : Type} {r : Rep α} {p : Option Addr} {m c : Nat} {xs : List α} (h : Sl r W p m c xs) {j : Nat} {x : α} (hj : xs[j]? = some x) : j < m := by
  rw [h.hn]
  by_cases h : j < xs.length
  · exact h
  · rw [List.getElem?_eq_none (by omega)] at hj; cases hj
/-- x[j]: the address alone -/
theorem O.iaS {α : Type} {r : Rep α} {T E sz by' : Nat} {z : List Value} {x y : Operand} {p : Option Addr} {m c j : Nat} {k' : IntKind} {jj : Int} {xs : List α} {u : α} [i : TSl P T E sz by' z]
    (hx : get env x = some (.slice p m c)) (hy : get env y = some (.int k' jj)) (hjj : jj = (j : Int)) (hs : Sl r W p m c xs) (hj : xs[j]? = some u) (hr : r.size = sz)
    (k : ∀ b off cs, r.At W cs u → (∀ i v, cs[i]? = some v → W.w.cell? ⟨b, off + i, none⟩ = some v) → JO P n ops l K fin ((d, .pointer (some ⟨b, off, none⟩)) :: env) W) :
    JO P n ops (⟨some d, .indexAddr T x y, ty, pos, aft, none⟩ :: l) K fin env W := by
  obtain ⟨b, off, cs, hp, hc, hv⟩ := hs.cells hj
  subst hp
  subst hjj
  refine O.ia hx hy rfl (hs.lt hj) (k b (off + j * sz) cs hc fun i v hi => ?_)
  rw [Nat.add_assoc, ← hr]
  exact hv i v hi
/-- x[j] -/
theorem O.ix {α : Type} {r : Rep α} {T E sz by' : Nat} {z z' : List Value} {ag : Bool} {x y : Operand} {p : Option Addr} {m c j : Nat} {k' : IntKind} {jj : Int} {xs : List α} {u : α} [i : TSl P T E sz by' z] [i2 : TVar P E sz ag z']
    (hx : get env x = some (.slice p m c)) (hy : get env y = some (.int k' jj)) (hjj : jj = (j : Int)) (hs : Sl r W p m c xs) (hj : xs[j]? = some u) (hr : r.size = sz) (hg : r.agg = ag) (h1 : ag = false → sz = 1)
    (k : ∀ a v, V r W v u → JO P n ops l K fin ((d2, v) :: (d, .pointer (some a)) :: env) W) :
    JO P n ops (⟨some d, .indexAddr T x y, ty, pos, aft, none⟩ :: ⟨some d2, .load E (.tmp d), ty2, pos2, aft2, none⟩ :: l) K fin env W := by
  refine O.iaS hx hy hjj hs hj hr fun b off cs hc hv => ?_
  exact O.ld (i := i2) (b := b) (off := off) (cs := cs) (by simp [get, look_cons]) (by rw [r.len hc, hr]) hv h1 (k _ _ ⟨cs, hc, by rw [hg]⟩)
theorem O.ixW {T E by' : Nat} {z z' : List Value} {x y : Operand} {p : Option Addr} {m c j : Nat} {k' : IntKind} {jj : Int} {xs : List Nat} {u : Nat} [i : TSl P T E 1 by' z] [i2 : TVar P E 1 false z']
    (hx : get env x = some (.slice p m c)) (hy : get env y = some (.int k' jj)) (hjj : jj = (j : Int)) (hs : Sl RW W p m c xs) (hj : xs[j]? = some u)
    (k : ∀ a, JO P n ops l K fin ((d2, .int .u32 (u : Int)) :: (d, .pointer (some a)) :: env) W) :
    JO P n ops (⟨some d, .indexAddr T x y, ty, pos, aft, none⟩ :: ⟨some d2, .load E (.tmp d), ty2, pos2, aft2, none⟩ :: l) K fin env W :=
  O.ix hx hy hjj hs hj rfl rfl (fun _ => rfl) fun a v hv => by rw [hv.rw.1]; exact k a
/-- the address of a word -/
theorem O.iaW {T E by' : Nat} {z : List Value} {x y : Operand} {p : Option Addr} {m c j : Nat} {k' : IntKind} {jj : Int} {xs : List Nat} {u : Nat} [i : TSl P T E 1 by' z]
    (hx : get env x = some (.slice p m c)) (hy : get env y = some (.int k' jj)) (hjj : jj = (j : Int)) (hs : Sl RW W p m c xs) (hj : xs[j]? = some u)
    (k : ∀ b off, W.w.cell? ⟨b, off, none⟩ = some (.int .u32 (u : Int)) → JO P n ops l K fin ((d, .pointer (some ⟨b, off, none⟩)) :: env) W) :
    JO P n ops (⟨some d, .indexAddr T x y, ty, pos, aft, none⟩ :: l) K fin env W :=
  O.iaS hx hy hjj hs hj rfl fun b off cs hc hv => k b off (by have := hv 0 (.int .u32 (u : Int)) (by rw [hc.1]; rfl); simpa using this)
/-- the place of a word, once for all -/
theorem Sl.word {p : Option Addr} {m c j : Nat} {xs : List Nat} {u : Nat} (hs : Sl RW W p m c xs) (hj : xs[j]? = some u) :
    ∃ b off, p = some ⟨b, off, none⟩ ∧ j < m ∧ ∀ W' : GW, LeF W W' → W'.w.cell? ⟨b, off + j * 1, none⟩ = some (.int .u32 (u : Int)) := by
  obtain ⟨b, off, cs, hp, hc, hv⟩ := hs.cells hj
  refine ⟨b, off, hp, hs.lt hj, fun W' l => ?_⟩
  obtain ⟨b', off', cs', hp', hc', hv'⟩ := (hs.mono l).cells hj
  rw [hp] at hp'
  injection hp' with hp'
  injection hp' with h1 h2 _
  subst h1; subst h2
  exact hv' 0 (.int .u32 (u : Int)) (by rw [hc'.1]; rfl)
theorem Sl.take {α : Type} {r : Rep α} {p : Option Addr} {m c : Nat} {xs : List α} (h : Sl r W p m c xs) (k : Nat) (hk : k ≤ m) : Sl r W p k c (xs.take k) := by
  refine ⟨by rw [List.length_take, ← h.hn]; omega, Nat.le_trans hk h.hc, h.hC, ?_⟩
  have := SlAt.sub h.at' 0 k p (fun b off hp _ => by rw [hp, Nat.zero_mul, Nat.add_zero])
  simpa using this
theorem Sl.drop {α : Type} {r : Rep α} {p : Option Addr} {m c : Nat} {xs : List α} (h : Sl r W p m c xs) (k : Nat) (hk : k ≤ m) :
    Sl r W (if c = k then p else p.map (·.add (k * r.size))) (m - k) (c - k) (xs.drop k) := by
  have hc := h.hc
  have hn := h.hn
  refine ⟨by rw [List.length_drop, ← hn], by omega, by have := h.hC; omega, ?_⟩
  have := SlAt.sub h.at' k (m - k) (if c = k then p else p.map (·.add (k * r.size))) (fun b off hp hl => by
    rw [if_neg (by omega), hp]
    show some (Addr.add _ _) = _
    rw [add0])
  rwa [List.take_of_length_le (by rw [List.length_drop]; omega)] at this
/-! calls -/
/-- The call of f returns what R says. -/
def Ok (P : Program) (f : FuncId) (vs : List Value) (W : GW) (R : GW → Value → Prop) : Prop :=
  (∃ fn, P.funcs[f]? = some fn ∧ (fn.name == "runtime.NumGoroutine") = false ∧ fn.body.isSome = true) ∧
  Calls P f vs.toArray W.w fun e w' => ∃ W' v, e = .returned v ∧ W'.w = w' ∧ Ext W W' ∧ R W' v
theorem Ok.mono {f : FuncId} {vs : List Value} {R R' : GW → Value → Prop} (h : Ok P f vs W R) (hr : ∀ W' v, Ext W W' → R W' v → R' W' v) : Ok P f vs W R' :=
  ⟨h.1, h.2.mono fun e w' ⟨W', v, h1, h2, h3, h4⟩ => ⟨W', v, h1, h2, h3, hr W' v h3 h4⟩⟩
theorem O.callv {f : FuncId} {g : Operand} {args : List Operand} {tys : Array TypeId} {vs : List Value} {fs cap : Array Value} {R : GW → Value → Prop} (hg : get env g = some (.func (.func f) fs cap)) (hx : getL env args = some vs)
    (hc : Ok P f (fs.toList ++ vs ++ cap.toList) W R)
    (k : ∀ W' v, Lk1 W W' → Ext W W' → R W' v → JO P n ops l K fin ((d, v) :: env) W') : JO P n ops (⟨some d, .call ⟨.value g, args.toArray, tys⟩, ty, pos, aft, none⟩ :: l) K fin env W := by
  obtain ⟨⟨fn, h1, h2, h3⟩, hcl⟩ := hc
  intro hok a ha
  have hw : Region.wanted ⟨some d, .call ⟨.value g, args.toArray, tys⟩, ty, pos, aft, none⟩ (yielded ops a.tmps) = true := rfl
  simp only [wpL, hw, if_true]
  have hargs := ha.getL hx
  have hr : (execOp a.eval ⟨some d, .call ⟨.value g, args.toArray, tys⟩, ty, pos, aft, none⟩).run P W.w = .ok (.enter f (fs.toList ++ vs ++ cap.toList).toArray) W.w := by
    have hb : fn.body.isNone = false := by cases hh : fn.body <;> simp_all
    have ea : args.toArray.map a.eval = vs.toArray := by simpa using hargs
    simp only [execOp, resolve, ea, ha.get hg, Deferred.ofValue]
    simp [invoke, callFunc, program, bind, Sem.bind, Sem.run, pure, h1, hb]
    have h2' : ¬ fn.name = "runtime.NumGoroutine" := by simpa using h2
    simp only [h2', if_false]
    have hb' : ¬ fn.body = none := fun h => by rw [h] at h3; cases h3
    rw [if_neg hb']
    congr 2
    apply Array.ext'
    simp
  unfold Oper.wp
  rw [hr, Oper.upon_enter]
  refine hcl.mono ?_
  rintro e w' ⟨W', v, rfl, hW, hE, hR⟩
  rw [← hW]
  exact k W' v ⟨hE.toLeK⟩ hE hR (JO.unok hok) _ (ha.put (JO.dst hok) v)
theorem O.call {f : FuncId} {args : List Operand} {tys : Array TypeId} {vs : List Value} {R : GW → Value → Prop} (hx : getL env args = some vs) (hc : Ok P f vs W R)
    (k : ∀ W' v, Lk1 W W' → Ext W W' → R W' v → JO P n ops l K fin ((d, v) :: env) W') : JO P n ops (⟨some d, .call ⟨.value (.func f), args.toArray, tys⟩, ty, pos, aft, none⟩ :: l) K fin env W :=
  O.callv (fs := #[]) (cap := #[]) rfl hx (by simpa using hc) k
/-! entry and return -/
def Fin (P : Program) (fn : Func) (W0 : GW) (R : GW → Value → Prop) : Exit → Act → World → Prop :=
  bodyPost P fn (fun e w' => ∃ W' v, e = .returned v ∧ W'.w = w' ∧ Ext W0 W' ∧ R W' v)
def argEnv : Nat → List Value → Env
  | _, [] => []
  | i, v :: vs => (i, v) :: argEnv (i + 1) vs
theorem look_argEnv (i : Nat) (vs : List Value) (t : Nat) : look (argEnv i vs) t = if i ≤ t then vs[t - i]? else none := by
  induction vs generalizing i with
  | nil => simp [argEnv, look]
  | cons v vs ih =>
    simp only [argEnv]
    rw [look_cons, ih (i + 1)]
    by_cases h : t = i
    · subst h; simp
    · rw [if_neg h]
      by_cases h2 : i + 1 ≤ t
      · rw [if_pos h2, if_pos (by omega), show t - i = (t - (i + 1)) + 1 from by omega]; simp
      · rw [if_neg h2, if_neg (by omega)]
theorem Ok.enter {f N : Nat} {fn : Func} {c : Code} {vs : List Value} {R : GW → Value → Prop} (hf : P.funcs[f]? = some fn) (hname : (fn.name == "runtime.NumGoroutine") = false) (hb : fn.body = some c)
    (hN : fn.ntmps = N) (hl : Nat.ble vs.length N = true) (h : ∀ W1, En W W1 → J P N [.c c] (Fin P fn W R) (argEnv 0 vs) W1) : Ok P f vs W R := by
  refine ⟨⟨fn, hf, hname, by rw [hb]; rfl⟩, calls_of_wp hf hb ?_⟩
  let W1 : GW := { w := W.w, A := W.A, m := W.size, hA := W.hA, hm := Nat.le_refl _ }
  have hl' : vs.length ≤ N := Nat.le_of_ble_eq_true hl
  have := h W1 ⟨rfl, rfl, rfl⟩ { tmps := vs.toArray ++ Array.replicate (fn.ntmps - vs.toArray.size) undef, defers := [] } ⟨rfl, by simp [hN]; omega, fun t v ht => ?_⟩
  · refine wp_mono this ?_
    intro e a w h
    cases e <;> exact h
  · rw [look_argEnv] at ht
    simp at ht
    have hlt : t < vs.length := by
      by_cases h : t < vs.length
      · exact h
      · rw [List.getElem?_eq_none (by omega)] at ht; cases ht
    rw [List.getElem?_eq_getElem hlt] at ht
    injection ht with ht
    simp only [Array.getD]
    rw [dif_pos (by simp; omega)]
    simp [Array.getElem_append_left, hlt, ht]
/-- one result -/
inductive ResAt (P : Program) (env : Env) (W : GW) : ResultVar → Value → Prop where
  | tmp {t : Nat} {v : Value} (h : look env t = some v) : ResAt P env W (.tmp t) v
  | cell {t T sz b : Nat} {z cs : List Value} [i : TVar P T sz true z] (h : look env t = some (.pointer (some ⟨b, 0, none⟩))) (hc : Cnt W b cs) (hs : cs.length = sz) : ResAt P env W (.cell t T) (.agg cs.toArray)
def exitP (W0 W : GW) (h : W0.size ≤ W.size) : GW where
  w := W.w
  A := W0.A
  m := W0.m
  hA := fun k hk => Nat.lt_of_lt_of_le (W0.hA k hk) h
  hm := Nat.le_trans W0.hm h
def exitO (W0 W : GW) (h : W0.size ≤ W.size) : GW where
  w := W.w
  A := W.A
  m := W0.m
  hA := W.hA
  hm := Nat.le_trans W0.hm h
theorem out_le {W0 W1 : GW} (i : En W0 W1) (j : LeS W1 W) : W0.size ≤ W.size ∧ W.m = W0.size ∧ (∀ k, k < W0.size → W.w.heap[k]? = W0.w.heap[k]?) ∧ (∀ k, k < W0.size → k ∈ W0.A → k ∈ W.A) ∧ (∀ k, k < W0.size → k ∉ W0.A → k ∉ W.A) := by
  have hs : W1.size = W0.size := by rw [GW.size, GW.size, i.w]
  have hm := i.m
  refine ⟨by rw [← hs]; exact j.size, by rw [j.m, hm], fun k hk => ?_, fun k hk hA => ?_, fun k hk hA => ?_⟩
  · rw [j.same k (by omega) (.inl (by omega)), i.w]
  · exact j.prot k (by omega) (by rw [i.A]; exact hA)
  · exact j.stay k (by omega) (by rw [i.A]; exact hA)
theorem exitP_ext {W0 W1 : GW} (i : En W0 W1) (j : LeS W1 W) : Ext W0 (exitP W0 W (out_le i j).1) where
  os := j.os.trans (by rw [i.w])
  out := j.out.trans (by rw [i.w])
  tape := j.tape.trans (by rw [i.w])
  m := rfl
  size := (out_le i j).1
  same := fun k hk _ => (out_le i j).2.2.1 k hk
  stay := fun _ _ h => h
  prot := fun _ _ h => h
  keep := fun _ h => h
  row := fun k c T fr hc => ⟨c, by rw [← hc]; exact (out_le i j).2.2.1 k (lt_of_heap hc), rfl⟩
  all := (out_le i j).2.2.1
theorem exitO_ext {W0 W1 : GW} (i : En W0 W1) (j : LeS W1 W) : Ext W0 (exitO W0 W (out_le i j).1) where
  os := j.os.trans (by rw [i.w])
  out := j.out.trans (by rw [i.w])
  tape := j.tape.trans (by rw [i.w])
  m := rfl
  size := (out_le i j).1
  same := fun k hk _ => (out_le i j).2.2.1 k hk
  stay := fun k hk h => (out_le i j).2.2.2.2 k hk h
  prot := fun k hk h => (out_le i j).2.2.2.1 k (Nat.lt_of_lt_of_le hk W0.hm) h
  keep := fun k h => (out_le i j).2.2.2.1 k (W0.hA k h) h
  row := fun k c T fr hc => ⟨c, by rw [← hc]; exact (out_le i j).2.2.1 k (lt_of_heap hc), rfl⟩
  all := (out_le i j).2.2.1
def resOne (tmps : Array Value) : ResultVar → Sem Value
  | .tmp t => pure (tmps.getD t undef)
  | .cell a t => do loadVar t (← asAddr (tmps.getD a undef))
theorem resAt_run {env : Env} {rv : ResultVar} {v : Value} {a : Act} {n : Nat} (ha : Rel n env a) (h : ResAt P env W rv v) :
    (resOne a.tmps rv).run P W.w = .ok v W.w := by
  cases h with
  | tmp h => simp only [resOne]; rw [ha.has _ _ h]; rfl
  | @cell t T sz b z cs i h hc hs =>
    simp only [resOne, ha.has _ _ h, asAddr]
    rw [Sem.run_bind]
    show Result.andThen (Result.ok _ _) _ = _
    simp only [Result.andThen_ok]
    obtain ⟨t', u1, u2⟩ := i.u
    obtain ⟨ii, v, e1, e2, e3⟩ := i.i
    have hcells := run_loadCells (P := P) (b := b) (off := 0) (w := W.w) cs 0 #[] (fun j v hj => by rw [hc.cell]; simpa using hj)
    have hsz : (sizeOf T).run P W.w = .ok sz W.w := by simp [sizeOf, typeInfo, program, bind, Sem.bind, Sem.run, pure, e1, e2]
    have hag : (isAgg T).run P W.w = .ok true W.w := by
      cases t' <;> simp [isAgg, underlying, program, bind, Sem.bind, Sem.run, pure, u1] at u2 ⊢
    unfold loadVar
    rw [Sem.run_bind, hag]
    subst hs
    simp only [Result.andThen_ok, if_true]
    rw [Sem.run_bind, hsz]
    simp only [Result.andThen_ok]
    rw [Sem.run_bind]
    simp only [loadCells]
    rw [hcells]
    simp
theorem results1 {fn : Func} {r1 : ResultVar} {v1 : Value} {a : Act} (ha : Rel n env a) (hres : fn.results = #[r1]) (h1 : ResAt P env W r1 v1) : (results fn a.tmps).run P W.w = .ok v1 W.w := by
  have e1 := resAt_run ha h1
  unfold results
  rw [hres, Sem.run_bind]
  simp only [List.mapM_toArray, List.mapM_cons, List.mapM_nil]
  rw [Sem.run_map, Sem.run_bind]
  erw [e1]
  simp
theorem results2 {fn : Func} {r1 r2 : ResultVar} {v1 v2 : Value} {a : Act} (ha : Rel n env a) (hres : fn.results = #[r1, r2]) (h1 : ResAt P env W r1 v1) (h2 : ResAt P env W r2 v2) :
    (results fn a.tmps).run P W.w = .ok (.tuple #[v1, v2]) W.w := by
  have e1 := resAt_run ha h1
  have e2 := resAt_run ha h2
  unfold results
  rw [hres, Sem.run_bind]
  simp only [List.mapM_toArray, List.mapM_cons, List.mapM_nil]
  rw [Sem.run_map, Sem.run_bind]
  erw [e1]
  simp only [Result.andThen_ok]
  rw [Sem.run_bind, Sem.run_bind]
  erw [e2]
  simp
theorem results3 {fn : Func} {r1 r2 r3 : ResultVar} {v1 v2 v3 : Value} {a : Act} (ha : Rel n env a) (hres : fn.results = #[r1, r2, r3]) (h1 : ResAt P env W r1 v1) (h2 : ResAt P env W r2 v2) (h3 : ResAt P env W r3 v3) :
    (results fn a.tmps).run P W.w = .ok (.tuple #[v1, v2, v3]) W.w := by
  have e1 := resAt_run ha h1
  have e2 := resAt_run ha h2
  have e3 := resAt_run ha h3
  unfold results
  rw [hres, Sem.run_bind]
  simp only [List.mapM_toArray, List.mapM_cons, List.mapM_nil]
  rw [Sem.run_map, Sem.run_bind]
  erw [e1]
  simp only [Result.andThen_ok]
  rw [Sem.run_bind, Sem.run_bind]
  erw [e2]
  simp only [Result.andThen_ok]
  rw [Sem.run_bind, Sem.run_bind]
  erw [e3]
  simp
theorem ret_p {fn : Func} {W0 W1 : GW} {R : GW → Value → Prop} {v : Value} {a : Act} (i : En W0 W1) (j : Le W1 W) (ha : Rel n env a) (hr : (results fn a.tmps).run P W.w = .ok v W.w)
    (h : ∀ W', Ex W W' → Pub W W' → R W' v) : Fin P fn W0 R .ret a W.w :=
  ⟨ha.defers, v, hr, exitP W0 W (out_le i j.s).1, v, rfl, rfl, exitP_ext i j.s,
    h _ ⟨rfl, fun k hk => (out_le i j.s).2.2.2.1 k (W0.hA k hk) hk, by have := (out_le i j.s).2.1; have hh : W0.m ≤ W0.size := W0.hm; show W0.m ≤ W.m; omega⟩ ⟨fun k hk => by rw [(out_le i j.s).2.1]; exact W0.hA k hk⟩⟩
theorem ret_o {fn : Func} {W0 W1 : GW} {R : GW → Value → Prop} {v : Value} {a : Act} (i : En W0 W1) (j : Le W1 W) (ha : Rel n env a) (hr : (results fn a.tmps).run P W.w = .ok v W.w)
    (h : ∀ W', Ex W W' → Own1 W W' → R W' v) : Fin P fn W0 R .ret a W.w :=
  ⟨ha.defers, v, hr, exitO W0 W (out_le i j.s).1, v, rfl, rfl, exitO_ext i j.s,
    h _ ⟨rfl, fun k hk => hk, by have := (out_le i j.s).2.1; have hh : W0.m ≤ W0.size := W0.hm; show W0.m ≤ W.m; omega⟩ ⟨rfl⟩⟩
theorem J.ret1 {fn : Func} {W0 W1 : GW} {R : GW → Value → Prop} {r1 : ResultVar} {v1 : Value} [i : En W0 W1] [j : Le W1 W] (hres : fn.results = #[r1]) (h1 : ResAt P env W r1 v1)
    (h : ∀ W', Ex W W' → Pub W W' → R W' v1) : J P n (.c .ret :: K) (Fin P fn W0 R) env W :=
  J.ret fun a ha => ret_p i j ha (results1 ha hres h1) h
theorem J.ret2 {fn : Func} {W0 W1 : GW} {R : GW → Value → Prop} {r1 r2 : ResultVar} {v1 v2 : Value} [i : En W0 W1] [j : Le W1 W] (hres : fn.results = #[r1, r2]) (h1 : ResAt P env W r1 v1) (h2 : ResAt P env W r2 v2)
    (h : ∀ W', Ex W W' → Pub W W' → R W' (.tuple #[v1, v2])) : J P n (.c .ret :: K) (Fin P fn W0 R) env W :=
  J.ret fun a ha => ret_p i j ha (results2 ha hres h1 h2) h
theorem J.ret3 {fn : Func} {W0 W1 : GW} {R : GW → Value → Prop} {r1 r2 r3 : ResultVar} {v1 v2 v3 : Value} [i : En W0 W1] [j : Le W1 W] (hres : fn.results = #[r1, r2, r3]) (h1 : ResAt P env W r1 v1) (h2 : ResAt P env W r2 v2) (h3 : ResAt P env W r3 v3)
    (h : ∀ W', Ex W W' → Pub W W' → R W' (.tuple #[v1, v2, v3])) : J P n (.c .ret :: K) (Fin P fn W0 R) env W :=
  J.ret fun a ha => ret_p i j ha (results3 ha hres h1 h2 h3) h
theorem J.ret1o {fn : Func} {W0 W1 : GW} {R : GW → Value → Prop} {r1 : ResultVar} {v1 : Value} [i : En W0 W1] [j : Le W1 W] (hres : fn.results = #[r1]) (h1 : ResAt P env W r1 v1)
    (h : ∀ W', Ex W W' → Own1 W W' → R W' v1) : J P n (.c .ret :: K) (Fin P fn W0 R) env W :=
  J.ret fun a ha => ret_o i j ha (results1 ha hres h1) h
theorem J.ret2o {fn : Func} {W0 W1 : GW} {R : GW → Value → Prop} {r1 r2 : ResultVar} {v1 v2 : Value} [i : En W0 W1] [j : Le W1 W] (hres : fn.results = #[r1, r2]) (h1 : ResAt P env W r1 v1) (h2 : ResAt P env W r2 v2)
    (h : ∀ W', Ex W W' → Own1 W W' → R W' (.tuple #[v1, v2])) : J P n (.c .ret :: K) (Fin P fn W0 R) env W :=
  J.ret fun a ha => ret_o i j ha (results2 ha hres h1 h2) h
end
end
section
class Mx (P : Program) : Prop where
  h : P.follows .mixedOrders = true
/-- What is known of the value of an operation of the cloud. -/
inductive Sp where
  | ex (v : Value)
  | rel (R : GW → Value → Prop)
def Sp.ok (s : Sp) (W : GW) (x : Value) : Prop := match s with
  | .ex v => x = v
  | .rel R => R W x
def MonoR (R : GW → Value → Prop) : Prop := ∀ W W' v, Ext W W' → R W v → R W' v
def Sp.mono (s : Sp) : Prop := match s with
  | .ex _ => True
  | .rel R => MonoR R
theorem Sp.up {s : Sp} {W W' : GW} {x : Value} (m : s.mono) (e : Ext W W') (h : s.ok W x) : s.ok W' x := by
  cases s with
  | ex v => exact h
  | rel R => exact m W W' x e h
theorem V.me {α : Type} {r : Rep α} {x : α} : MonoR (fun W v => V r W v x) := fun W W' v e h => h.mono e.toLeS.f
/-- The operation is done. -/
def DStop (n : Nat) (E : Env) (W1 : GW) (d : Nat) (s : Sp) (a : Act) (w : World) : Prop :=
  ∃ W2 v, W2.w = w ∧ Ext W1 W2 ∧ Rel n ((d, v) :: E) a ∧ s.ok W2 v ∧ s.mono
section
variable {P : Program} {n : Nat} {ops : Array Oper} {K : List Kt} {fin : Exit → Act → World → Prop} {E : Env} {W W1 : GW} {d : Nat}
theorem D.ex {v : Value} : JO P n ops [] (.l (DStop n E W d (.ex v)) :: K) fin ((d, v) :: E) W :=
  JO.nil fun a ha => ⟨W, v, rfl, Ext.refl W, ha, rfl, trivial⟩
theorem D.rel {v : Value} {R : GW → Value → Prop} (e : Ext W1 W) (h : R W v) (m : MonoR R) : JO P n ops [] (.l (DStop n E W1 d (.rel R)) :: K) fin ((d, v) :: E) W :=
  JO.nil fun a ha => ⟨W, v, rfl, e, ha, h, m⟩
end
def dstD (l : List Oper) (i : Nat) : Nat := match l, i with
  | [], _ => 0
  | o :: _, 0 => match o.dst with | some d => d | none => 0
  | _ :: l, i + 1 => dstD l i
def spD (sp : List Sp) (i : Nat) : Sp := match sp, i with
  | [], _ => .ex undef
  | s :: _, 0 => s
  | _ :: l, i + 1 => spD l i
/-- For all values that are as said: the entries stand in the list. -/
def WithD (l : List Oper) (sp : List Sp) (W : GW) : List Nat → Env → (Env → Prop) → Prop
  | [], acc, φ => φ acc
  | j :: js, acc, φ => match spD sp j with
    | .ex v => WithD l sp W js ((dstD l j, v) :: acc) φ
    | .rel R => ∀ x, R W x → WithD l sp W js ((dstD l j, x) :: acc) φ
theorem WithD.use {l : List Oper} {sp : List Sp} {W : GW} (vals : Nat → Value) (js : List Nat) (hv : ∀ j ∈ js, (spD sp j).ok W (vals j)) :
    ∀ {acc : Env} {φ : Env → Prop}, WithD l sp W js acc φ → φ ((js.reverse.map fun j => (dstD l j, vals j)) ++ acc) := by
  induction js with
  | nil => intro acc φ h; exact h
  | cons j js ih =>
    intro acc φ h
    have hj := hv j (List.mem_cons_self ..)
    have ht := fun k hk => hv k (List.mem_cons_of_mem _ hk)
    simp only [WithD] at h
    cases hs : spD sp j with
    | ex v =>
      rw [hs] at h hj
      have hj' : vals j = v := hj
      have := ih ht h
      simpa [hj'] using this
    | rel R =>
      rw [hs] at h hj
      have := ih ht (h (vals j) hj)
      simpa using this
def bnd (e : Edge) : Bool := Region.binds .any e
/-- The operations that must lie behind this one. -/
def depsD (o : Oper) : List Nat := (o.after.toList.filter bnd).map (·.on)
def depsAt (l : List Oper) (i : Nat) : List Nat := match l, i with
  | [], _ => []
  | o :: _, 0 => depsD o
  | _ :: l, i + 1 => depsAt l i
/-- each operation of the cloud -/
def CloudH (P : Program) (n : Nat) (L : List Oper) (K : List Kt) (fin : Exit → Act → World → Prop) (sp : List Sp) (env : Env) (W : GW) : Nat → List Oper → List Sp → Prop
  | _, _, [] => True
  | _, [], _ :: _ => False
  | i, o :: l, s :: ss => (∀ W1, Lk1 W W1 → Ext W W1 → ∀ tl : Env, WithD L sp W1 (depsD o) (env ++ tl) fun E => JO P n L.toArray [o] (.l (DStop n E W1 (dstD L i) s) :: K) fin E W1) ∧ CloudH P n L K fin sp env W (i + 1) l ss
def inE (env : Env) (d : Nat) : Bool := match look env d with
  | some _ => true
  | none => false
/-- The closed facts: the first k operations write slots of their own; whatever lies behind them comes in order. -/
def cloudOk (n : Nat) (env : Env) (L : List Oper) (k : Nat) : Bool :=
  opsOk n L && (List.range L.length).all (fun i => (depsAt L i).all (fun j => Nat.blt j i)) &&
  (List.range k).all (fun i => match dstAt L i with
    | some d => !inE env d && (List.range i).all (fun j => match dstAt L j with | some e => !(Nat.beq d e) | none => false)
    | none => false) &&
  (List.range L.length).all (fun i => Nat.ble i k || (depsAt L i).contains (i - 1)) && (Nat.ble L.length k || (List.range k).all (fun j => (ancs L (L.length) k).contains j))
where
  ancs (L : List Oper) : Nat → Nat → List Nat
    | 0, _ => []
    | f + 1, i => (depsAt L i).flatMap fun j => j :: ancs L f j
section
variable {P : Program} {n : Nat} {K : List Kt} {fin : Exit → Act → World → Prop} {env : Env} {W : GW}
theorem depsAt_eq (l : List Oper) (i : Nat) (o : Oper) (h : l[i]? = some o) : depsAt l i = depsD o := by
  induction l generalizing i with
  | nil => simp at h
  | cons a l ih => cases i with
    | zero => simp at h; subst h; rfl
    | succ i => simp only [depsAt]; exact ih i (by simpa using h)
theorem dstD_of {l : List Oper} {i d : Nat} (h : dstAt l i = some d) : dstD l i = d := by
  induction l generalizing i with
  | nil => simp [dstAt] at h
  | cons a l ih => cases i with
    | zero => simp only [dstAt] at h; simp only [dstD, h]
    | succ i => simp only [dstAt] at h; simp only [dstD]; exact ih h
theorem CloudH.at' {L : List Oper} {sp : List Sp} {i0 : Nat} {l : List Oper} {ss : List Sp} (h : CloudH P n L K fin sp env W i0 l ss) (hsp : ∀ j, j < ss.length → spD sp (i0 + j) = spD ss j) {i : Nat} (hi : i < ss.length) :
    ∃ o, l[i]? = some o ∧ ∀ W1, Lk1 W W1 → Ext W W1 → ∀ tl : Env, WithD L sp W1 (depsD o) (env ++ tl) fun E => JO P n L.toArray [o] (.l (DStop n E W1 (dstD L (i0 + i)) (spD sp (i0 + i))) :: K) fin E W1 := by
  induction ss generalizing i0 l i with
  | nil => simp at hi
  | cons s ss ih =>
    cases l with
    | nil => exact h.elim
    | cons o l =>
      obtain ⟨h1, h2⟩ := h
      cases i with
      | zero =>
        have := hsp 0 (by simp)
        simp only [spD, Nat.add_zero] at this
        refine ⟨o, rfl, ?_⟩
        rw [Nat.add_zero, this]
        exact h1
      | succ i =>
        have := ih h2 (fun j hj => by
          have := hsp (j + 1) (by simpa using hj)
          simp only [spD] at this
          rw [← this]; congr 1; omega) (by simpa using hi)
        obtain ⟨o', ho', h'⟩ := this
        refine ⟨o', by simpa using ho', ?_⟩
        rw [show i0 + (i + 1) = i0 + 1 + i from by omega]
        exact h'
/-- What is known while the cloud runs: `ls i` says that operation i is done. -/
structure Cl (n : Nat) (L : List Oper) (sp : List Sp) (env : Env) (W : GW) (ls : Nat → Bool) (a : Act) (w : World) : Prop where
  ex : ∃ (W1 : GW) (vals : Nat → Value), W1.w = w ∧ Ext W W1 ∧ (∀ i, i < sp.length → ls i = true → (spD sp i).ok W1 (vals i) ∧ (spD sp i).mono ∧ a.tmps.getD (dstD L i) undef = vals i)
  defers : a.defers = []
  size : a.tmps.size = n
  env : ∀ t v, look env t = some v → a.tmps.getD t undef = v
theorem look_append (e f : Env) (t : Nat) : look (e ++ f) t = match look e t with | some v => some v | none => look f t := by
  induction e with
  | nil => simp [look]
  | cons p e ih =>
    obtain ⟨s, v⟩ := p
    rw [List.cons_append, look_cons, look_cons, ih]
    by_cases h : t = s <;> simp [h]
/-- all slots -/
def allEnv (tm : Array Value) : Nat → Env
  | 0 => []
  | k + 1 => (k, tm.getD k undef) :: allEnv tm k
theorem look_allEnv (tm : Array Value) (k t : Nat) : look (allEnv tm k) t = if t < k then some (tm.getD t undef) else none := by
  induction k with
  | zero => simp [allEnv, look]
  | succ k ih =>
    simp only [allEnv]
    rw [look_cons, ih]
    by_cases h : t = k
    · subst h; simp
    · rw [if_neg h]
      by_cases h2 : t < k
      · rw [if_pos h2, if_pos (by omega)]
      · rw [if_neg h2, if_neg (by omega)]
theorem countP_lt {p q : Nat → Bool} {l : List Nat} {i : Nat} (hi : i ∈ l) (hp : p i = true) (hq : q i = false) (hpq : ∀ j, q j = true → p j = true) : l.countP q < l.countP p := by
  induction l with
  | nil => cases hi
  | cons a l ih =>
    rw [List.countP_cons, List.countP_cons]
    have hle : l.countP q ≤ l.countP p := List.countP_mono_left fun x _ h => hpq x h
    rcases List.mem_cons.1 hi with rfl | hi
    · simp [hp, hq]; omega
    · have := ih hi
      have h2 : (if q a = true then 1 else 0) ≤ (if p a = true then 1 else 0) := by
        by_cases h : q a = true
        · rw [if_pos h, if_pos (hpq a h)]; exact Nat.le_refl _
        · rw [if_neg h]; exact Nat.zero_le _
      omega
theorem go_acc (m : Region.Mode) (ops : Array Oper) (f : Nat) : ∀ (t : Nat) (ls : Array Bool) (acc : List Nat), Region.linearise.go m ops f t ls acc = acc.reverse ++ Region.linearise.go m ops f t ls [] := by
  induction f with
  | zero => intro t ls acc; simp [Region.linearise.go]
  | succ f ih =>
    intro t ls acc
    simp only [Region.linearise.go]
    split
    · rename_i i hi
      rw [ih _ _ (i :: acc), ih _ _ [i]]
      simp
    · simp
/-- ready operations -/
def rdy (L : List Oper) (ls : Array Bool) : List Nat :=
  (List.range L.toArray.size).filter fun i => !ls.getD i true && ((L.toArray[i]?).map (·.after.all fun e => !Region.binds .any e || ls.getD e.on false)).getD false
theorem rdy_mem {L : List Oper} {ls : Array Bool} (hs : ls.size = L.length) {i : Nat} : i ∈ rdy L ls ↔ ∃ o, L[i]? = some o ∧ ls.getD i false = false ∧ ∀ j ∈ depsD o, ls.getD j false = true := by
  unfold rdy
  rw [List.mem_filter]
  constructor
  · rintro ⟨h1, h2⟩
    have hi : i < L.length := by simpa using List.mem_range.1 h1
    rw [Bool.and_eq_true] at h2
    obtain ⟨h2, h3⟩ := h2
    have ho : L[i]? = some L[i] := List.getElem?_eq_getElem hi
    refine ⟨L[i], ho, ?_, ?_⟩
    · have : i < ls.size := by omega
      simp [Array.getD, this] at h2 ⊢
      exact h2
    · intro j hj
      have ho' : L.toArray[i]? = some L[i] := by simp
      rw [ho'] at h3
      simp only [Option.map_some, Option.getD_some] at h3
      rw [Array.all_eq_true'] at h3
      simp only [depsD, List.mem_map, List.mem_filter] at hj
      obtain ⟨e, ⟨he, hb⟩, rfl⟩ := hj
      have := h3 e (by simpa using he)
      have hb' : Region.binds .any e = true := hb
      rw [hb'] at this
      simpa using this
  · rintro ⟨o, ho, h2, h3⟩
    have hi : i < L.length := by
      by_cases h : i < L.length
      · exact h
      · rw [List.getElem?_eq_none (by omega)] at ho; cases ho
    refine ⟨by simpa using hi, ?_⟩
    rw [Bool.and_eq_true]
    refine ⟨?_, ?_⟩
    · have : i < ls.size := by omega
      simp [Array.getD, this] at h2 ⊢
      exact h2
    · have ho' : L.toArray[i]? = some o := by simpa using ho
      rw [ho']
      simp only [Option.map_some, Option.getD_some]
      rw [Array.all_eq_true']
      intro e he
      cases hb : Region.binds .any e with
      | false => rfl
      | true =>
        have := h3 e.on (by simp only [depsD, List.mem_map, List.mem_filter]; exact ⟨e, ⟨by simpa using he, hb⟩, rfl⟩)
        simp [this]
/-- The tail: all before i is listed, nothing behind: what is left comes in order. -/
theorem go_tail {L : List Oper} (hl : ∀ i, i < L.length → ∀ j ∈ depsAt L i, j < i) (f : Nat) : ∀ (i t : Nat) (ls : Array Bool), ls.size = L.length → i + f = L.length →
    (∀ j, j < i → ls.getD j false = true) → (∀ j, i ≤ j → ls.getD j false = false) → (∀ m, i < m → m < L.length → m - 1 ∈ depsAt L m) →
    Region.linearise.go .any L.toArray f t ls [] = List.range' i f := by
  induction f with
  | zero => intro i t ls _ _ _ _ _; simp [Region.linearise.go]
  | succ f ih =>
    intro i t ls hs hf h1 h2 h3
    have hr : rdy L ls = [i] := by
      have hmem : ∀ x, x ∈ rdy L ls ↔ x = i := by
        intro x
        rw [rdy_mem hs]
        constructor
        · rintro ⟨o, ho, hx, hd⟩
          have hx1 : x < L.length := by
            by_cases h : x < L.length
            · exact h
            · rw [List.getElem?_eq_none (by omega)] at ho; cases ho
          by_cases hlt : x < i
          · rw [h1 x hlt] at hx; cases hx
          · by_cases he : x = i
            · exact he
            · have hy := h3 x (by omega) hx1
              rw [depsAt_eq L x o ho] at hy
              have := hd _ hy
              rw [h2 (x - 1) (by omega)] at this; cases this
        · rintro rfl
          have hx1 : x < L.length := by omega
          refine ⟨L[x], List.getElem?_eq_getElem hx1, h2 x (Nat.le_refl _), fun j hj => h1 j ?_⟩
          exact hl x hx1 j (by rw [depsAt_eq L x _ (List.getElem?_eq_getElem hx1)]; exact hj)
      have hnd : (rdy L ls).Nodup := List.Pairwise.filter _ List.nodup_range
      match hq : rdy L ls with
      | [] => have := (hmem i).2 rfl; rw [hq] at this; cases this
      | [x] => have := (hmem x).1 (by rw [hq]; exact List.mem_cons_self ..); rw [this]
      | x :: y :: r =>
        have e1 := (hmem x).1 (by rw [hq]; exact List.mem_cons_self ..)
        have e2 := (hmem y).1 (by rw [hq]; simp)
        rw [hq] at hnd
        have := (List.nodup_cons.1 hnd).1
        rw [e1, e2] at this
        simp at this
    have hgo : Region.linearise.go .any L.toArray (f + 1) t ls [] = match (rdy L ls)[t % (rdy L ls).length]? with | some i => Region.linearise.go .any L.toArray f (t / (rdy L ls).length) (ls.setIfInBounds i true) [i] | none => [] := rfl
    rw [hgo, hr]
    simp only [List.length_cons, List.length_nil, Nat.zero_add, Nat.mod_one, List.getElem?_cons_zero]
    rw [go_acc, List.range'_succ]
    have hi : i < ls.size := by omega
    rw [ih (i + 1) _ _ (by simpa using hs) (by omega) (fun j hj => by
        by_cases he : j = i
        · subst he; simp [Array.getD, hi]
        · have := h1 j (by omega)
          have hj' : j < ls.size := by omega
          simp [Array.getD, hj', Array.getElem_setIfInBounds, Ne.symm he] at this ⊢
          exact this)
      (fun j hj => by
        have := h2 j (by omega)
        by_cases hj' : j < ls.size
        · simp [Array.getD, hj', Array.getElem_setIfInBounds, show ¬ i = j from by omega] at this ⊢
          exact this
        · simp [Array.getD, hj'])
      (fun m hm hm2 => h3 m (by omega) hm2)]
    rfl
theorem ancs_listed {L : List Oper} {p : Nat → Bool} (hcl : ∀ i, i < L.length → p i = true → ∀ j ∈ depsAt L i, p j = true) (hl : ∀ i, i < L.length → ∀ j ∈ depsAt L i, j < i) (f : Nat) :
    ∀ i, i < L.length → (∀ j ∈ depsAt L i, p j = true) → ∀ j ∈ cloudOk.ancs L f i, p j = true := by
  induction f with
  | zero => intro i _ _ j hj; simp [cloudOk.ancs] at hj
  | succ f ih =>
    intro i hi hd j hj
    simp only [cloudOk.ancs, List.mem_flatMap] at hj
    obtain ⟨y, hy, hj⟩ := hj
    rcases List.mem_cons.1 hj with rfl | hj
    · exact hd _ hy
    · have hyl : y < L.length := Nat.lt_trans (hl i hi y hy) hi
      exact ih y hyl (hcl y hyl (hd y hy)) j hj
structure CloudF (n : Nat) (env : Env) (L : List Oper) (k : Nat) : Prop where
  ok : opsOk n L = true
  low : ∀ i, i < L.length → ∀ j ∈ depsAt L i, j < i
  dst : ∀ i, i < k → ∃ d, dstAt L i = some d ∧ look env d = none ∧ ∀ j, j < i → ∃ e, dstAt L j = some e ∧ d ≠ e
  tail : ∀ m, k < m → m < L.length → m - 1 ∈ depsAt L m
  anc : k < L.length → ∀ j, j < k → j ∈ cloudOk.ancs L L.length k
theorem cloudF {n : Nat} {env : Env} {L : List Oper} {k : Nat} (h : cloudOk n env L k = true) : CloudF n env L k := by
  simp only [cloudOk, Bool.and_eq_true] at h
  obtain ⟨⟨⟨⟨h1, h2⟩, h3⟩, h4⟩, h5⟩ := h
  refine ⟨h1, fun i hi j hj => ?_, fun i hi => ?_, fun m hm hm2 => ?_, fun hk j hj => ?_⟩
  · have := List.all_eq_true.1 h2 i (List.mem_range.2 hi)
    have := List.all_eq_true.1 this j hj
    simpa using this
  · have := List.all_eq_true.1 h3 i (List.mem_range.2 hi)
    split at this
    · rename_i d hd
      rw [Bool.and_eq_true] at this
      obtain ⟨g1, g2⟩ := this
      refine ⟨d, hd, ?_, fun j hj => ?_⟩
      · cases hl : look env d with
        | none => rfl
        | some v => simp [inE, hl] at g1
      · have := List.all_eq_true.1 g2 j (List.mem_range.2 hj)
        split at this
        · rename_i e he
          refine ⟨e, he, ?_⟩
          intro h; subst h; simp at this
        · cases this
    · cases this
  · have := List.all_eq_true.1 h4 m (List.mem_range.2 hm2)
    rw [Bool.or_eq_true] at this
    rcases this with h | h
    · have := Nat.le_of_ble_eq_true h; omega
    · simpa using h
  · rw [Bool.or_eq_true] at h5
    rcases h5 with h | h
    · have := Nat.le_of_ble_eq_true h; omega
    · have := List.all_eq_true.1 h j (List.mem_range.2 hj)
      simpa using this
theorem Oper.wp_mono2 {o : Oper} {a : Act} {w : World} {K1 K2 : Act → World → Prop} {Q1 Q2 : Exit → Act → World → Prop} (h : ∀ a w, K1 a w → K2 a w) (hq : ∀ e a w, e ≠ .normal → Q1 e a w → Q2 e a w)
    (hh : o.wp P a w K1 Q1) : o.wp P a w K2 Q2 := by
  unfold Oper.wp at *
  have hL : LetsOut Q1 → LetsOut Q2 := fun ⟨a, w, q⟩ => ⟨a, w, hq _ _ _ (by simp) q⟩
  generalize (execOp a.eval o).run P w = r at *
  cases r with
  | ok n w' =>
    cases n <;> simp only [Oper.upon] at hh ⊢ <;>
      first
        | exact h _ _ hh
        | exact Calls.mono hh (fun e w'' he => by cases e <;> first | exact h _ _ he | exact hq _ _ _ (by simp) he | exact hL he)
        | exact Rows.mono hh (fun _ _ he => h _ _ he)
  | halt x w' => cases x <;> simp only [Oper.upon] at hh ⊢ <;> first | exact hh | exact hq _ _ _ (by simp) hh
theorem cnt_range (k m : Nat) (p : Nat → Bool) (h1 : ∀ j, j < k → p j = false) (h2 : ∀ j, k ≤ j → p j = true) : (List.range m).countP p = m - k := by
  induction m with
  | zero => simp
  | succ m ih =>
    rw [List.range_succ, List.countP_append, ih]
    by_cases h : m < k
    · simp [h1 m h]; omega
    · simp [h2 m (by omega)]; omega
/-- all of the cloud is done -/
theorem cl_done {L : List Oper} {sp : List Sp} {ls : Nat → Bool} {a : Act} {w : World} (F : CloudF n env L sp.length) (h : Cl n L sp env W ls a w) (hall : ∀ j, j < sp.length → ls j = true)
    (tail : ∀ W1, Ext W W1 → WithD L sp W1 (List.range sp.length) env fun E => JO P n L.toArray (L.drop sp.length) K fin E W1) : wpL P L.toArray (Done P fin K) (L.drop sp.length) a w := by
  obtain ⟨W1, vals, hw, he, hv⟩ := h.ex
  have h1 := WithD.use vals (List.range sp.length) (fun j hj => (hv j (List.mem_range.1 hj) (hall j (List.mem_range.1 hj))).1) (tail W1 he)
  have hok : opsOk n (L.drop sp.length) = true := by
    have : ∀ (k : Nat) (l : List Oper), opsOk n l = true → opsOk n (l.drop k) = true := by
      intro k
      induction k with
      | zero => intro l h; simpa using h
      | succ k ih => intro l h; cases l with
        | nil => simpa using h
        | cons o l => simp only [List.drop_succ_cons]; exact ih l (JO.unok h)
    exact this _ _ F.ok
  rw [← hw]
  refine h1 hok a ⟨h.defers, h.size, fun t v ht => ?_⟩
  rw [look_append] at ht
  have key : ∀ js : List Nat, (∀ j ∈ js, j < sp.length) → ∀ u, look (js.map fun j => (dstD L j, vals j)) t = some u → a.tmps.getD t undef = u := by
    intro js
    induction js with
    | nil => intro _ u hu; simp [look] at hu
    | cons j js ih =>
      intro hj u hu
      simp only [List.map_cons] at hu
      rw [look_cons] at hu
      have hj1 := hj j (List.mem_cons_self ..)
      by_cases hts : t = dstD L j
      · rw [if_pos hts] at hu
        injection hu with hu
        rw [hts, (hv j hj1 (hall j hj1)).2.2, hu]
      · rw [if_neg hts] at hu
        exact ih (fun x hx => hj x (List.mem_cons_of_mem _ hx)) u hu
  cases hl : look (((List.range sp.length).reverse.map fun j => (dstD L j, vals j))) t with
  | some u =>
    rw [hl] at ht
    injection ht with ht
    rw [← ht]
    exact key _ (fun j hj => List.mem_range.1 (List.mem_reverse.1 hj)) u hl
  | none =>
    rw [hl] at ht
    exact h.env t v ht
theorem draw_core {L : List Oper} {sp : List Sp} (F : CloudF n env L sp.length) (hk : sp.length ≤ L.length) (cloud : CloudH P n L K fin sp env W 0 L sp)
    (tail : ∀ W1, Ext W W1 → WithD L sp W1 (List.range sp.length) env fun E => JO P n L.toArray (L.drop sp.length) K fin E W1) (f : Nat) :
    ∀ (t : Nat) (ls : Array Bool) (a : Act) (w : World), ls.size = L.length → (∀ i, sp.length ≤ i → ls.getD i false = false) →
      (∀ i, i < L.length → ls.getD i false = true → ∀ j ∈ depsAt L i, ls.getD j false = true) →
      (List.range L.length).countP (fun i => !ls.getD i false) = f → Cl n L sp env W (fun i => ls.getD i false) a w →
      wpOps P L.toArray (Done P fin K) (Region.linearise.go .any L.toArray f t ls []) a w := by
  induction f with
  | zero =>
    intro t ls a w hs hb hcl hcnt hC
    have hall : ∀ j, j < L.length → ls.getD j false = true := by
      intro j hj
      have := List.countP_eq_zero.1 hcnt j (List.mem_range.2 hj)
      simpa using this
    have hkk : L.length = sp.length := by
      by_cases h : L.length ≤ sp.length
      · omega
      · have := hall sp.length (by omega)
        rw [hb sp.length (Nat.le_refl _)] at this; cases this
    have h1 := cl_done F hC (fun j hj => hall j (by omega)) tail
    rw [List.drop_eq_nil_of_le (by omega)] at h1
    simpa [Region.linearise.go, wpOps, wpL] using h1
  | succ f ih =>
    intro t ls a w hs hb hcl hcnt hC
    by_cases hall : ∀ j, j < sp.length → ls.getD j false = true
    · have hcount : L.length - sp.length = f + 1 := by
        rw [← hcnt]
        exact (cnt_range sp.length L.length (fun i => !ls.getD i false) (fun j hj => by simp [hall j hj]) (fun j hj => by simp [hb j hj])).symm
      rw [go_tail F.low (f + 1) sp.length t ls hs (by omega) hall hb F.tail]
      have h1 := wpOps_of (P := P) (ops := L.toArray) (Q := Done P fin K) (L.drop sp.length) sp.length a w (by simp) (cl_done F hC hall tail)
      rw [List.length_drop, hcount] at h1
      exact h1
    · have hex : ∃ j, j < sp.length ∧ ls.getD j false = false := by
        apply Classical.byContradiction
        intro hn
        apply hall
        intro j hj
        cases hv : ls.getD j false with
        | true => rfl
        | false => exact absurd ⟨j, hj, hv⟩ hn
      obtain ⟨j0, ⟨hj0, hj1⟩, hmin⟩ := exists_min _ hex
      have hready : j0 ∈ rdy L ls := by
        rw [rdy_mem hs]
        have hlt : j0 < L.length := by omega
        refine ⟨L[j0], List.getElem?_eq_getElem hlt, hj1, fun j hj => ?_⟩
        have hjl := F.low j0 hlt j (by rw [depsAt_eq L j0 _ (List.getElem?_eq_getElem hlt)]; exact hj)
        cases hv : ls.getD j false with
        | true => rfl
        | false => have := hmin j ⟨by omega, hv⟩; omega
      have hpos : 0 < (rdy L ls).length := List.length_pos_of_mem hready
      have hgo : Region.linearise.go .any L.toArray (f + 1) t ls [] = match (rdy L ls)[t % (rdy L ls).length]? with | some i => Region.linearise.go .any L.toArray f (t / (rdy L ls).length) (ls.setIfInBounds i true) [i] | none => [] := rfl
      have hlt := Nat.mod_lt t hpos
      rw [hgo, List.getElem?_eq_getElem hlt]
      generalize hi : (rdy L ls)[t % (rdy L ls).length] = i
      have him : i ∈ rdy L ls := by rw [← hi]; exact List.getElem_mem hlt
      obtain ⟨o, ho, hli, hdep⟩ := (rdy_mem hs).1 him
      have hil : i < L.length := by
        by_cases h : i < L.length
        · exact h
        · rw [List.getElem?_eq_none (by omega)] at ho; cases ho
      have hdi := depsAt_eq L i o ho
      have hik : i < sp.length := by
        apply Classical.byContradiction
        intro hn
        by_cases he : i = sp.length
        · have ha := ancs_listed (L := L) (p := fun i => ls.getD i false) hcl F.low L.length i hil (fun j hj => hdep j (by rw [← hdi]; exact hj))
          have := ha j0 (by rw [he]; exact F.anc (by omega) j0 hj0)
          rw [hj1] at this; cases this
        · have := hdep (i - 1) (by rw [← hdi]; exact F.tail i (by omega) hil)
          rw [hb (i - 1) (by omega)] at this; cases this
      simp only []
      rw [go_acc]
      show wpOps P L.toArray (Done P fin K) (i :: _) a w
      have ho' : L.toArray[i]? = some o := by simpa using ho
      simp only [wpOps, ho']
      obtain ⟨W1, vals, hw, he, hv⟩ := hC.ex
      obtain ⟨o2, ho2, hcl2⟩ := cloud.at' (fun j hj => by rw [Nat.zero_add]) hik
      rw [ho] at ho2
      injection ho2 with ho2
      subst ho2
      simp only [Nat.zero_add] at hcl2
      obtain ⟨d, hd, hde, hdd⟩ := F.dst i hik
      have hdn : d < n := by
        have : ∀ (l : List Oper) (i : Nat), opsOk n l = true → dstAt l i = some d → d < n := by
          intro l
          induction l with
          | nil => intro i _ h; simp [dstAt] at h
          | cons x l ih2 =>
            intro i hx h
            cases i with
            | zero =>
              simp only [dstAt] at h
              simp only [opsOk, h] at hx
              split at hx
              · rename_i hb; simpa using hb
              · cases hx
            | succ i => exact ih2 i (JO.unok hx) (by simpa [dstAt] using h)
        exact this L i F.ok hd
      have hdk : ∀ j ∈ depsD o, j < sp.length := fun j hj => by
        have := F.low i hil j (by rw [hdi]; exact hj); omega
      have hJ := WithD.use vals (depsD o) (fun j hj => (hv j (hdk j hj) (hdep j hj)).1) (hcl2 W1 ⟨he.toLeK⟩ he (allEnv a.tmps n))
      generalize hE : ((depsD o).reverse.map fun j => (dstD L j, vals j)) ++ (env ++ allEnv a.tmps n) = E at hJ
      have hRel : Rel n E a := by
        refine ⟨hC.defers, hC.size, fun t v ht => ?_⟩
        rw [← hE, look_append] at ht
        cases hl : look ((depsD o).reverse.map fun j => (dstD L j, vals j)) t with
        | some u =>
          rw [hl] at ht
          injection ht with ht
          rw [← ht]
          have key : ∀ js : List Nat, (∀ j ∈ js, j ∈ depsD o) → look (js.map fun j => (dstD L j, vals j)) t = some u → a.tmps.getD t undef = u := by
            intro js
            induction js with
            | nil => intro _ hu; simp [look] at hu
            | cons j js ih2 =>
              intro hj hu
              simp only [List.map_cons] at hu
              rw [look_cons] at hu
              have hj1 := hj j (List.mem_cons_self ..)
              by_cases hts : t = dstD L j
              · rw [if_pos hts] at hu
                injection hu with hu
                rw [hts, (hv j (hdk j hj1) (hdep j hj1)).2.2, hu]
              · rw [if_neg hts] at hu
                exact ih2 (fun x hx => hj x (List.mem_cons_of_mem _ hx)) hu
          exact key _ (fun j hj => List.mem_reverse.1 hj) hl
        | none =>
          rw [hl] at ht
          simp only [look_append] at ht
          cases hl2 : look env t with
          | some u =>
            rw [hl2] at ht
            injection ht with ht
            rw [← ht]
            exact hC.env t u hl2
          | none =>
            rw [hl2] at ht
            simp only [look_allEnv] at ht
            split at ht
            · injection ht
            · cases ht
      have hfull : ∀ t, t < n → ∃ u, look E t = some u := by
        intro t htn
        rw [← hE, look_append, look_append, look_allEnv, if_pos htn]
        split
        · exact ⟨_, rfl⟩
        · split
          · exact ⟨_, rfl⟩
          · exact ⟨_, rfl⟩
      have hoks : opsOk n [o] = true := by
        have hod : o.dst = some d := by
          have := dstAt_eq L i
          rw [hd, ho] at this
          simpa using this.symm
        simp only [opsOk, hod]
        have : Nat.blt d n = true := by simpa using hdn
        rw [this]
      have hrun := hJ hoks a hRel
      rw [hw] at hrun
      -- what the operation leaves serves the rest
      have hnext : ∀ a' w', DStop n E W1 (dstD L i) (spD sp i) a' w' → wpOps P L.toArray (Done P fin K) (Region.linearise.go .any L.toArray f (t / (rdy L ls).length) (ls.setIfInBounds i true) []) a' w' := by
        rintro a' w' ⟨W2, v, hw2, he2, hr2, hok2, hm2⟩
        rw [dstD_of hd] at hr2
        have hsame : ∀ t, t ≠ d → a'.tmps.getD t undef = a.tmps.getD t undef := by
          intro t htd
          by_cases htn : t < n
          · obtain ⟨u, hu⟩ := hfull t htn
            rw [hRel.has t u hu]
            exact hr2.has t u (by rw [look_cons, if_neg htd]; exact hu)
          · have h1 : ¬ t < a.tmps.size := by rw [hC.size]; exact htn
            have h2 : ¬ t < a'.tmps.size := by rw [hr2.size]; exact htn
            simp [Array.getD, h1, h2]
        have hisz : i < ls.size := by omega
        have hset : ∀ j, (ls.setIfInBounds i true).getD j false = if j = i then true else ls.getD j false := by
          intro j
          by_cases hji : j = i
          · subst hji; simp [Array.getD, hisz]
          · rw [if_neg hji]
            by_cases hjs : j < ls.size
            · simp [Array.getD, hjs, Array.getElem_setIfInBounds, Ne.symm hji]
            · simp [Array.getD, hjs]
        refine ih _ _ a' w' (by simpa using hs) (fun j hj => by rw [hset, if_neg (by omega)]; exact hb j hj) (fun x hx hlx j hj => ?_) ?_ ⟨⟨W2, fun j => if j = i then v else vals j, hw2, he.trans he2, fun j hj hlj => ?_⟩, hr2.defers, hr2.size, fun t u ht => ?_⟩
        · rw [hset] at hlx ⊢
          by_cases hji : j = i
          · rw [if_pos hji]
          · rw [if_neg hji]
            by_cases hxi : x = i
            · subst hxi
              exact hdep j (by rw [← hdi]; exact hj)
            · rw [if_neg hxi] at hlx
              exact hcl x hx hlx j hj
        · have hlt2 : (List.range L.length).countP (fun j => !(ls.setIfInBounds i true).getD j false) < (List.range L.length).countP (fun j => !ls.getD j false) :=
            countP_lt (List.mem_range.2 hil) (by simp [hli]) (by simp [hset]) (fun j hj => by
              rw [hset] at hj
              by_cases hji : j = i
              · rw [if_pos hji] at hj; cases hj
              · rw [if_neg hji] at hj; exact hj)
          have hge : (List.range L.length).countP (fun j => !ls.getD j false) ≤ (List.range L.length).countP (fun j => !(ls.setIfInBounds i true).getD j false) + 1 := by
            have : ∀ l : List Nat, l.Nodup → l.countP (fun j => !ls.getD j false) ≤ l.countP (fun j => !(ls.setIfInBounds i true).getD j false) + (if i ∈ l then 1 else 0) := by
              intro l
              induction l with
              | nil => intro _; simp
              | cons x l ih2 =>
                intro hnd
                have hnd2 := List.nodup_cons.1 hnd
                have := ih2 hnd2.2
                rw [List.countP_cons, List.countP_cons]
                by_cases hxi : x = i
                · subst hxi
                  rw [if_neg hnd2.1] at this
                  have e1 : (!ls.getD x false) = true := by rw [hli]; rfl
                  have e2 : (!(ls.setIfInBounds x true).getD x false) = false := by rw [hset, if_pos rfl]; rfl
                  rw [e1, e2, if_pos rfl, if_neg (by simp), if_pos (List.mem_cons_self ..)]
                  omega
                · have e : (!(ls.setIfInBounds i true).getD x false) = !ls.getD x false := by rw [hset, if_neg hxi]
                  rw [e]
                  have hm : (i ∈ x :: l) ↔ i ∈ l := by simp [Ne.symm hxi]
                  by_cases hil2 : i ∈ l
                  · rw [if_pos (hm.2 hil2)]; rw [if_pos hil2] at this; omega
                  · rw [if_neg (fun h => hil2 (hm.1 h))]; rw [if_neg hil2] at this; omega
            have := this (List.range L.length) List.nodup_range
            rw [if_pos (List.mem_range.2 hil)] at this
            exact this
          omega
        · by_cases hji : j = i
          · subst hji
            refine ⟨by simpa using hok2, hm2, ?_⟩
            rw [dstD_of hd]
            simpa using hr2.has d v (by rw [look_cons, if_pos rfl])
          · simp only [hset, if_neg hji] at hlj
            obtain ⟨g1, g2, g3⟩ := hv j hj hlj
            refine ⟨by simpa [hji] using Sp.up g2 he2 g1, g2, ?_⟩
            have hne : dstD L j ≠ d := by
              obtain ⟨dj, hdj, _, hjj⟩ := F.dst j hj
              rw [dstD_of hdj]
              by_cases hlt3 : j < i
              · obtain ⟨e, hee, hne⟩ := hdd j hlt3
                rw [hdj] at hee; injection hee with hee; rw [hee]; exact fun h => hne h.symm
              · obtain ⟨e, hee, hne⟩ := hjj i (by omega)
                rw [hd] at hee; injection hee with hee; rw [hee]; exact hne
            rw [hsame _ hne, g3]
            simp [hji]
        · have htd : t ≠ d := by
            intro h; subst h; rw [hde] at ht; cases ht
          rw [hsame t htd]
          exact hC.env t u ht
      simp only [wpL] at hrun
      split
      · rename_i hwant
        rw [if_pos hwant] at hrun
        exact .inl (Oper.wp_mono2 (fun a' w' h => hnext a' w' h) (fun e a' w' hne h => by cases e <;> first | exact absurd rfl hne | exact h) hrun)
      · rename_i hwant
        rw [if_neg hwant] at hrun
        exact hnext _ _ hrun
def GW.tick (W : GW) : GW where
  w := { W.w with drawn := W.w.drawn + 1 }
  A := W.A
  m := W.m
  hA := W.hA
  hm := W.hm
theorem tick_ext (W : GW) : Ext W W.tick where
  os := rfl
  out := rfl
  tape := rfl
  m := rfl
  size := Nat.le_refl _
  same := fun _ _ _ => rfl
  stay := fun _ _ h => h
  prot := fun _ _ h => h
  keep := fun _ h => h
  row := fun _ c _ _ h => ⟨c, h, rfl⟩
  all := fun _ _ => rfl
/-- THE RULE: the first operations, as many as `sp` has entries, in whatever order; the others behind them. -/
theorem J.draw [mx : Mx P] {id : Nat} {L : List Oper} (sp : List Sp) (hchk : cloudOk n env L sp.length = true) (hk : Nat.ble sp.length L.length = true) (cloud : CloudH P n L K fin sp env W 0 L sp)
    (tail : ∀ W1, Lk1 W W1 → Ext W W1 → WithD L sp W1 (List.range sp.length) env fun E => JO P n L.toArray (L.drop sp.length) K fin E W1) : J P n (.c (.region id L.toArray true) :: K) fin env W := by
  intro a ha
  refine wp_region_draw fun t => ?_
  have hs : Region.schedule (P.follows .mixedOrders) L.toArray t = Region.linearise.go .any L.toArray L.length t (Array.replicate L.length false) [] := by
    rw [mx.h]
    simp [Region.schedule, Region.linearise]
  rw [hs]
  have hf : ∀ i, (Array.replicate L.length false).getD i false = false := by
    intro i
    by_cases h : i < L.length <;> simp [Array.getD, h]
  refine draw_core (cloudF hchk) (Nat.le_of_ble_eq_true hk) cloud (fun W1 e => tail W1 ⟨e.toLeK⟩ e) L.length t _ a W.tick.w (by simp) (fun i _ => hf i) (fun i _ h => by rw [hf] at h; cases h) ?_
    ⟨⟨W.tick, fun _ => undef, rfl, tick_ext W, fun i _ h => by rw [hf] at h; cases h⟩, ha.defers, ha.size, ha.has⟩
  have := cnt_range 0 L.length (fun i => !(Array.replicate L.length false).getD i false) (fun j hj => by omega) (fun j _ => by rw [hf]; rfl)
  rw [this]; rfl
end
end
end
section
section
/-- A slice that the function may write. -/
structure Ows {α : Type} (r : Rep α) (W : GW) (p : Option Addr) (n c : Nat) (xs : List α) : Prop where
  hn : n = xs.length
  hc : n ≤ c
  hC : c < 9223372036854775808
  h : c = 0 ∨ ∃ b cs T, p = some ⟨b, 0, none⟩ ∧ b ∈ W.A ∧ W.m ≤ b ∧ W.w.heap[b]? = some (.cells (cs : List Value).toArray T (0, 0)) ∧ cs.length = c * r.size ∧
    ∀ i x, xs[i]? = some x → ∃ e, r.At W e x ∧ ∀ j v, e[j]? = some v → cs[i * r.size + j]? = some v
section
variable {α : Type} {r : Rep α} {W : GW}
theorem Ows.ext {W' : GW} {p : Option Addr} {n c : Nat} {xs : List α} (h : Ows r W p n c xs) (e : Ext W W') : Ows r W' p n c xs := by
  refine ⟨h.hn, h.hc, h.hC, ?_⟩
  rcases h.h with h0 | ⟨b, cs, T, hp, hA, hm, hb, hl, hx⟩
  · exact .inl h0
  · refine .inr ⟨b, cs, T, hp, e.keep b hA, by rw [e.m]; exact hm, by rw [e.all b (lt_of_heap hb)]; exact hb, hl, fun i x hi => ?_⟩
    obtain ⟨u, hu, hv⟩ := hx i x hi
    exact ⟨u, r.mono e.toLeS.f hu, hv⟩
theorem Ows.out {W' : GW} {p : Option Addr} {n c : Nat} {xs : List α} (h : Ows r W p n c xs) (i : Ex W W') (o : Own1 W W') : Ows r W' p n c xs := by
  refine ⟨h.hn, h.hc, h.hC, ?_⟩
  rcases h.h with h0 | ⟨b, cs, T, hp, hA, hm, hb, hl, hx⟩
  · exact .inl h0
  · refine .inr ⟨b, cs, T, hp, by rw [o.A]; exact hA, Nat.le_trans i.m hm, by rw [i.w]; exact hb, hl, fun j x hj => ?_⟩
    obtain ⟨u, hu, hv⟩ := hx j x hj
    exact ⟨u, r.mono i.f hu, hv⟩
theorem Ows.nil (r : Rep α) (W : GW) (p : Option Addr) : Ows r W p 0 0 [] := ⟨rfl, Nat.le_refl _, by decide, .inl rfl⟩
/-- As data, where it is written no more. -/
theorem Ows.sl {W' : GW} {p : Option Addr} {n c : Nat} {xs : List α} (h : Ows r W p n c xs) (l : LeF W W') (hw : W'.w = W.w) (ha : ∀ k ∈ W'.A, k < W.m) : Sl r W' p n c xs := by
  refine ⟨h.hn, h.hc, h.hC, ?_⟩
  rcases h.h with h0 | ⟨b, cs, T, hp, hA, hm, hb, hl, hx⟩
  · refine .inl (List.eq_nil_of_length_eq_zero ?_)
    have := h.hn; have := h.hc; omega
  · refine .inr ⟨b, 0, hp, by rw [GW.size, hw]; exact lt_of_heap hb, fun hh => by have := ha b hh; omega, fun i x hi => ?_⟩
    obtain ⟨u, hu, hv⟩ := hx i x hi
    refine ⟨u, r.mono l hu, fun j v hj => ?_⟩
    rw [hw, cell_of hb, Nat.zero_add]
    exact hv j v hj
theorem Ows.pub {W' : GW} {p : Option Addr} {n c : Nat} {xs : List α} (h : Ows r W p n c xs) (i : Ex W W') (q : Pub W W') : Sl r W' p n c xs := h.sl i.f i.w q.p
theorem Ows.sl' {W' : GW} {b : Nat} {n c : Nat} {xs : List α} (h : Ows r W (some ⟨b, 0, none⟩) n c xs) (l : LeF W W') (hw : W'.w = W.w) (ha : b ∉ W'.A) : Sl r W' (some ⟨b, 0, none⟩) n c xs := by
  refine ⟨h.hn, h.hc, h.hC, ?_⟩
  rcases h.h with h0 | ⟨b', cs, T, hp, hA, hm, hb, hl, hx⟩
  · refine .inl (List.eq_nil_of_length_eq_zero ?_)
    have := h.hn; have := h.hc; omega
  · injection hp with hp
    injection hp with hp _ _
    subst hp
    refine .inr ⟨b, 0, rfl, by rw [GW.size, hw]; exact lt_of_heap hb, ha, fun i x hi => ?_⟩
    obtain ⟨u, hu, hv⟩ := hx i x hi
    refine ⟨u, r.mono l hu, fun j v hj => ?_⟩
    rw [hw, cell_of hb, Nat.zero_add]
    exact hv j v hj
theorem Ows.cells {p : Option Addr} {n c : Nat} {xs : List α} (h : Ows r W p n c xs) {i : Nat} {x : α} (hi : xs[i]? = some x) :
    ∃ b e, p = some ⟨b, 0, none⟩ ∧ r.At W e x ∧ ∀ j v, e[j]? = some v → W.w.cell? ⟨b, 0 + (i * r.size + j), none⟩ = some v := by
  have hil : i < xs.length := by
    by_cases h : i < xs.length
    · exact h
    · rw [List.getElem?_eq_none (by omega)] at hi; cases hi
  rcases h.h with h0 | ⟨b, cs, T, hp, hA, hm, hb, hl, hx⟩
  · have := h.hn; have := h.hc; omega
  · obtain ⟨u, hu, hv⟩ := hx i x hi
    exact ⟨b, u, hp, hu, fun j v hj => by rw [cell_of hb, Nat.zero_add]; exact hv j v hj⟩
end
section
variable {P : Program} {n : Nat} {ops : Array Oper} {l : List Oper} {K : List Kt} {fin : Exit → Act → World → Prop} {env : Env} {W : GW}
variable {d d2 : Nat} {ty ty2 : TypeId} {pos pos2 : String} {aft aft2 : Array Edge}
/-- the place of a word of one's own, as long as nothing is written -/
theorem Ows.word {b m c j : Nat} {xs : List Nat} {u : Nat} (hs : Ows RW W (some ⟨b, 0, none⟩) m c xs) (hj : xs[j]? = some u) :
    ∃ _x : True, ∀ W' : GW, Lk1 W W' → Ext W W' → W'.w.cell? ⟨b, 0 + j * 1, none⟩ = some (.int .u32 (u : Int)) := by
  refine ⟨trivial, fun W' _ e => ?_⟩
  obtain ⟨b', e', hp, he, hv⟩ := (hs.ext e).cells hj
  injection hp with hp
  injection hp with hp _ _
  subst hp
  exact hv 0 (.int .u32 (u : Int)) (by rw [he.1]; rfl)
/-- Publishing: from here on the slice is data. What else was being written is lost sight of. -/
def GW.pubB (W : GW) (b : Nat) : GW where
  w := W.w
  A := W.A.filter (· != b)
  m := W.m
  hA := fun k hk => W.hA k (List.mem_filter.1 hk).1
  hm := W.hm
theorem pubB_le (W : GW) (b : Nat) (hb : W.m ≤ b) : LeS W (W.pubB b) where
  os := rfl
  out := rfl
  tape := rfl
  m := rfl
  size := Nat.le_refl _
  same := fun _ _ _ => rfl
  stay := fun k _ h hk => h (List.mem_filter.1 hk).1
  prot := fun k hk hA => List.mem_filter.2 ⟨hA, by simp; omega⟩
  row := fun _ c _ _ h => ⟨c, h, rfl⟩
theorem J.pub {α : Type} {r : Rep α} {p : Option Addr} {m c : Nat} {xs : List α} (h : Ows r W p m c xs) (k : ∀ W', Le1 W W' → Sl r W' p m c xs → J P n K fin env W') : J P n K fin env W := by
  rcases h.h with h0 | ⟨b, cs, T, hp, hA, hm, hb, hl, hx⟩
  · refine k W ⟨LeS.refl W⟩ ⟨h.hn, h.hc, h.hC, .inl (List.eq_nil_of_length_eq_zero ?_)⟩
    have := h.hn; have := h.hc; omega
  · refine fun a ha => k (W.pubB b) ⟨pubB_le W b hm⟩ ⟨h.hn, h.hc, h.hC, .inr ⟨b, 0, hp, lt_of_heap hb, fun hh => by have := (List.mem_filter.1 hh).2; simp at this, fun i x hi => ?_⟩⟩ a ha
    obtain ⟨u, hu, hv⟩ := hx i x hi
    exact ⟨u, r.mono (pubB_le W b hm).f hu, fun j v hj => by
      show W.w.cell? _ = _
      rw [cell_of hb, Nat.zero_add]; exact hv j v hj⟩
/-- x[j] of a slice of the function's own -/
theorem O.ixo {α : Type} {r : Rep α} {T E sz by' : Nat} {z z' : List Value} {ag : Bool} {x y : Operand} {p : Option Addr} {m c j : Nat} {k' : IntKind} {jj : Int} {xs : List α} {u : α} [i : TSl P T E sz by' z] [i2 : TVar P E sz ag z']
    (hx : get env x = some (.slice p m c)) (hy : get env y = some (.int k' jj)) (hjj : jj = (j : Int)) (hs : Ows r W p m c xs) (hj : xs[j]? = some u) (hr : r.size = sz) (hg : r.agg = ag) (h1 : ag = false → sz = 1)
    (k : ∀ a v, V r W v u → JO P n ops l K fin ((d2, v) :: (d, .pointer (some a)) :: env) W) :
    JO P n ops (⟨some d, .indexAddr T x y, ty, pos, aft, none⟩ :: ⟨some d2, .load E (.tmp d), ty2, pos2, aft2, none⟩ :: l) K fin env W := by
  obtain ⟨b, e, hp, he, hv⟩ := hs.cells hj
  subst hp
  subst hjj
  have hjm : j < m := by
    rw [hs.hn]
    by_cases h : j < xs.length
    · exact h
    · rw [List.getElem?_eq_none (by omega)] at hj; cases hj
  refine O.ia hx hy rfl hjm ?_
  exact O.ld (i := i2) (b := b) (off := 0 + j * sz) (cs := e) (by simp [get, look_cons]) (by rw [r.len he, hr]) (fun i v hi => by rw [Nat.add_assoc, ← hr]; exact hv i v hi) h1 (k _ _ ⟨e, he, by rw [hg]⟩)
/-- the address of x[j], to be written -/
theorem O.iao {α : Type} {r : Rep α} {T E sz by' : Nat} {z : List Value} {x y : Operand} {p : Option Addr} {m c j : Nat} {k' : IntKind} {jj : Int} {xs : List α} [i : TSl P T E sz by' z]
    (hx : get env x = some (.slice p m c)) (hy : get env y = some (.int k' jj)) (hjj : jj = (j : Int)) (hs : Ows r W p m c xs) (hj : j < m) (hr : r.size = sz)
    (k : ∀ b, p = some ⟨b, 0, none⟩ → JO P n ops l K fin ((d, .pointer (some ⟨b, 0 + j * r.size, none⟩)) :: env) W) :
    JO P n ops (⟨some d, .indexAddr T x y, ty, pos, aft, none⟩ :: l) K fin env W := by
  rcases hs.h with h0 | ⟨b, cs, T', hp, hA, hm, hb, hl, hx'⟩
  · have := hs.hc; omega
  · subst hp
    subst hjj
    refine O.ia hx hy rfl hj ?_
    rw [← hr]
    exact k b rfl
theorem O.iaB {α : Type} {r : Rep α} {T E sz by' : Nat} {z : List Value} {x y : Operand} {b : Nat} {m c j : Nat} {k' : IntKind} {jj : Int} {xs : List α} [i : TSl P T E sz by' z]
    (hx : get env x = some (.slice (some ⟨b, 0, none⟩) m c)) (hy : get env y = some (.int k' jj)) (hjj : jj = (j : Int)) (hs : Ows r W (some ⟨b, 0, none⟩) m c xs) (hj : j < m) (hr : r.size = sz)
    (k : JO P n ops l K fin ((d, .pointer (some ⟨b, 0 + j * r.size, none⟩)) :: env) W) :
    JO P n ops (⟨some d, .indexAddr T x y, ty, pos, aft, none⟩ :: l) K fin env W :=
  O.iao hx hy hjj hs hj hr fun b' hb => by injection hb with hb; injection hb with hb; subst hb; exact k
/-- x[j] = v -/
theorem O.sto {α : Type} {r : Rep α} {E sz : Nat} {ag : Bool} {z : List Value} {x y : Operand} {b : Nat} {m c j : Nat} {xs : List α} {u : α} {v : Value} [i : TVar P E sz ag z]
    (hx : get env x = some (.pointer (some ⟨b, 0 + j * r.size, none⟩))) (hy : get env y = some v) (hs : Ows r W (some ⟨b, 0, none⟩) m c xs) (hj : j < m) (hv : V r W v u) (hr : r.size = sz) (hg : r.agg = true ∨ r.size = 1)
    (k : ∀ W', Lk1 W W' → Ows r W' (some ⟨b, 0, none⟩) m c (xs.set j u) → JO P n ops l K fin env W') :
    JO P n ops (⟨none, .store E x y, ty, pos, aft, none⟩ :: l) K fin env W := by
  rcases hs.h with h0 | ⟨b', cs, T', hp, hA, hm, hb, hl, hx'⟩
  · have := hs.hc; omega
  · injection hp with hp
    injection hp with hp _ _
    subst hp
    obtain ⟨e, he, hve⟩ := hv
    have hcl : v.cells.toList = e := by
      subst hve
      cases hag : r.agg with
      | true => simp [mkv, Value.cells]
      | false =>
        have h1 : r.size = 1 := by rcases hg with h | h; rw [hag] at h; cases h; exact h
        have hle := r.len he
        match e, hle, he with
        | [u1], _, he =>
          have := r.one he u1 (List.mem_cons_self ..)
          simp only [mkv, List.headD_cons, Bool.false_eq_true, if_false]
          cases u1 <;> simp_all [Value.cells, oneC]
        | [], hle, _ => simp at hle; omega
        | _ :: _ :: _, hle, _ => simp at hle; omega
    have hlen : v.cells.toList.length = sz := by rw [hcl, r.len he, hr]
    have hjm := hs.hn
    have hcm := hs.hc
    have hmul : j * r.size + r.size ≤ c * r.size := by
      rw [← Nat.succ_mul]; exact Nat.mul_le_mul_right _ (by omega)
    have hr' := run_storeVar (P := P) (T := E) (off := 0 + j * r.size) (v := v) hb hlen (by rw [hl, ← hr]; omega) (by rw [hcl]; exact fun w hw => r.one he w hw)
    have hle := put_lek W b _ (spl cs (0 + j * r.size) v.cells.toList).toArray T' (0, 0) hb hA hm (by simp [spl_length])
    refine JO.unit (W' := W.put b (.cells (spl cs (0 + j * r.size) v.cells.toList).toArray T' (0, 0))) (fun a ha => ?_) (k _ ⟨hle⟩ ⟨by rw [List.length_set]; exact hjm, hcm, hs.hC, .inr ⟨b, _, T', rfl, hA, hm, heap_put_self _ _ _ (lt_of_heap hb), by rw [spl_length]; exact hl, fun i' x' hi' => ?_⟩⟩)
    · simp only [execOp, ha.get hx, ha.get hy, Instr.storeAt, Instr.sureAddr]
      rw [Sem.run_bind, Sem.run_bind]
      show Result.andThen (Result.andThen (Result.ok _ _) _) _ = _
      simp only [Result.andThen_ok]
      rw [hr']
      rfl
    · have hsp : ∀ q, (spl cs (0 + j * r.size) v.cells.toList)[q]? = if j * r.size ≤ q ∧ q < j * r.size + r.size then e[q - j * r.size]? else cs[q]? := by
        intro q
        rw [spl_get _ _ _ _ (by rw [hlen, hl, ← hr]; omega), hcl, r.len he, Nat.zero_add]
      by_cases hij : i' = j
      · subst hij
        rw [List.getElem?_set_self (by omega)] at hi'
        injection hi' with hi'
        subst hi'
        refine ⟨e, r.mono hle.f he, fun q w hq => ?_⟩
        have hqs : q < r.size := by
          rw [← r.len he]
          by_cases h : q < e.length
          · exact h
          · rw [List.getElem?_eq_none (by omega)] at hq; cases hq
        rw [hsp, if_pos (by omega), show i' * r.size + q - i' * r.size = q from by omega]
        exact hq
      · rw [List.getElem?_set_ne (fun h => hij h.symm)] at hi'
        obtain ⟨e', he', hv'⟩ := hx' i' x' hi'
        refine ⟨e', r.mono hle.f he', fun q w hq => ?_⟩
        have hqs : q < r.size := by
          rw [← r.len he']
          by_cases h : q < e'.length
          · exact h
          · rw [List.getElem?_eq_none (by omega)] at hq; cases hq
        rw [hsp, if_neg ?_]
        · exact hv' q w hq
        · rcases Nat.lt_or_gt_of_ne hij with h | h
          · have : i' * r.size + r.size ≤ j * r.size := by rw [← Nat.succ_mul]; exact Nat.mul_le_mul_right _ (by omega)
            omega
          · have : j * r.size + r.size ≤ i' * r.size := by rw [← Nat.succ_mul]; exact Nat.mul_le_mul_right _ (by omega)
            omega
/-! make -/
/-- n data one behind the other -/
def repl (z : List Value) : Nat → List Value
  | 0 => []
  | k + 1 => z ++ repl z k
theorem repl_length (z : List Value) (k : Nat) : (repl z k).length = k * z.length := by
  induction k with
  | zero => simp [repl]
  | succ k ih => simp only [repl, List.length_append, ih, Nat.succ_mul]; omega
theorem repl_get (z : List Value) (k i j : Nat) (hi : i < k) (hj : j < z.length) : (repl z k)[i * z.length + j]? = z[j]? := by
  induction k generalizing i with
  | zero => omega
  | succ k ih =>
    simp only [repl]
    cases i with
    | zero => rw [Nat.zero_mul, Nat.zero_add, List.getElem?_append_left hj]
    | succ i =>
      rw [Nat.succ_mul, List.getElem?_append_right (by omega), show i * z.length + z.length + j - z.length = i * z.length + j from by omega]
      exact ih i (by omega)
theorem zero_row (z : List Value) (k : Nat) (h : 0 < z.length) (zero : Array Value) (hz : zero.toList = z) : (Array.range (k * z.length)).map (fun i => zero[i % zero.size]!) = (repl z k).toArray := by
  apply Array.ext'
  apply List.ext_getElem?
  intro q
  have hzs : zero.size = z.length := by rw [← hz]; simp
  by_cases hq : q < k * z.length
  · have hdm := Nat.div_add_mod q z.length
    have hm := Nat.mod_lt q h
    have hd : q / z.length < k := Nat.div_lt_of_lt_mul (by rw [Nat.mul_comm]; exact hq)
    have := repl_get z k (q / z.length) (q % z.length) hd hm
    rw [show q / z.length * z.length + q % z.length = q from by rw [Nat.mul_comm]; exact hdm] at this
    simp only [Array.toList_map, Array.toList_range, List.getElem?_map]
    rw [this, List.getElem?_range hq]
    have hz2 : zero[q % z.length]? = z[q % z.length]? := by rw [← hz]; simp
    simp only [Option.map_some, hzs]
    rw [List.getElem?_eq_getElem hm] at hz2 ⊢
    have hlt : q % z.length < zero.size := by omega
    rw [Array.getElem?_eq_getElem hlt] at hz2
    rw [getElem!_pos zero _ hlt]
    exact hz2
  · rw [List.getElem?_eq_none (by simp; omega), List.getElem?_eq_none (by simp [repl_length]; omega)]
end
end
section
theorem replicate_get {α : Type} {a b : α} {n i : Nat} (h : (List.replicate n a)[i]? = some b) : i < n ∧ b = a := by
  have hi : i < n := by
    by_cases h2 : i < n
    · exact h2
    · rw [List.getElem?_eq_none (by simp; omega)] at h; cases h
  refine ⟨hi, ?_⟩
  rw [List.getElem?_replicate, if_pos hi] at h
  injection h with h
  exact h.symm
section
variable {P : Program} {n : Nat} {ops : Array Oper} {l : List Oper} {K : List Kt} {fin : Exit → Act → World → Prop} {env : Env} {W : GW}
variable {d d2 : Nat} {ty ty2 : TypeId} {pos pos2 : String} {aft aft2 : Array Edge}
/-- make([]T, m, c) -/
theorem O.mk {α : Type} {r : Rep α} {T E sz by' : Nat} {z : List Value} {x y : Operand} {m c : Nat} {kx ky : IntKind} {mi ci : Int} (u : α) [i : TSl P T E sz by' z]
    (hx : get env x = some (.int kx mi)) (hy : get env y = some (.int ky ci)) (hmi : mi = (m : Int)) (hci : ci = (c : Int)) (hmc : m ≤ c) (hC : c * by' ≤ 281474976710656) (hC2 : c < 9223372036854775808) (hr : r.size = sz) (hzl : z.length = sz) (hz0 : 0 < sz)
    (hz : ∀ W : GW, r.At W z u)
    (k : ∀ W' b, Lk1 W W' → Ext W W' → W.size ≤ b → Ows r W' (some ⟨b, 0, none⟩) m c (List.replicate m u) → JO P n ops l K fin ((d, .slice (some ⟨b, 0, none⟩) m c) :: env) W') :
    JO P n ops (⟨some d, .makeSlice T x y, ty, pos, aft, none⟩ :: l) K fin env W := by
  obtain ⟨ii, v, e1, e2, e3, e4, e5⟩ := i.i
  subst hmi; subst hci
  have hcells : v.cells.size = sz := by rw [← hzl, ← e5]; simp
  have hrow := zero_row z c (by omega) v.cells e5
  rw [hzl] at hrow
  refine JO.world (W' := W.push (.cells (repl z c).toArray E) true) (v := .slice (some ⟨W.size, 0, none⟩) m c) (fun a ha => ?_)
    (k _ _ ⟨(push_ext ..).toLeK⟩ (push_ext ..) (Nat.le_refl _) ⟨(List.length_replicate ..).symm, hmc, hC2, .inr ⟨W.size, repl z c, E, rfl, List.mem_cons_self .., W.hm, by simpa using push_cells W (repl z c).toArray E true, by rw [repl_length, hzl, hr], fun i x hi => ?_⟩⟩)
  · have hb : (ii.bytes : Int) * (c : Int) ≤ 281474976710656 := by
      have h1 : ((c * by' : Nat) : Int) ≤ ((281474976710656 : Nat) : Int) := Int.ofNat_le.2 hC
      rw [Nat.mul_comm, Int.natCast_mul] at h1
      rw [e3]
      exact h1
    have hnr : (Instr.makeSlice T (.int kx (m : Int)) (.int ky (c : Int))).run P W.w = .ok (.slice (some ⟨W.size, 0, none⟩) m c) (W.push (.cells (repl z c).toArray E) true).w := by
      have := run_make (P := P) W.w T E ii v i.u e1 e4 kx ky (m : Int) (c : Int) (by omega) (by omega) hb (by omega)
      rw [this, e2]
      simp only [Int.toNat_natCast]
      have h2 : madeCells v.cells (c * sz) = (repl z c).toArray := hrow
      rw [h2]
      rfl
    simp only [execOp, ha.get hx, ha.get hy]
    rw [Sem.run_bind, hnr]
    rfl
  · obtain ⟨h1, h2⟩ := replicate_get hi
    subst h2
    refine ⟨z, hz _, fun j v hj => ?_⟩
    have hjl : j < z.length := by
      by_cases h : j < z.length
      · exact h
      · rw [List.getElem?_eq_none (by omega)] at hj; cases hj
    rw [hr, ← hzl, repl_get z c i j (by omega) hjl]
    exact hj
theorem oneC_eq (v : Value) : oneC v = v.oneCell' := by cases v <;> rfl
/-- the cells of a slice, one behind the other -/
theorem sl_flat {α : Type} {r : Rep α} {q : Option Addr} {m c : Nat} {ys : List α} (h : Sl r W q m c ys) (hm : 0 < m) :
    ∃ b off news, q = some ⟨b, off, none⟩ ∧ (news : List Value).length = m * r.size ∧ (∀ j u, news[j]? = some u → W.w.cell? ((⟨b, off, none⟩ : Addr).add j) = some u) ∧ (∀ u ∈ news, u.oneCell' = true) ∧
      ∀ i y, ys[i]? = some y → ∃ e, r.At W e y ∧ ∀ j v, e[j]? = some v → news[i * r.size + j]? = some v := by
  rcases h.at' with h0 | ⟨b, off, hq, hb, hA, hx⟩
  · subst h0; have := h.hn; simp at this; omega
  · have hcell : ∀ k, k < m * r.size → ∃ v, W.w.cell? ⟨b, off + k, none⟩ = some v ∧ v.oneCell' = true := by
      intro k hk
      have hs : 0 < r.size := by
        rcases Nat.eq_zero_or_pos r.size with h | h
        · rw [h] at hk; simp at hk
        · exact h
      have hi : k / r.size < m := Nat.div_lt_of_lt_mul (by rw [Nat.mul_comm]; exact hk)
      have hil : k / r.size < ys.length := by rw [← h.hn]; exact hi
      obtain ⟨e, he, hv⟩ := hx (k / r.size) _ (List.getElem?_eq_getElem hil)
      have hj : k % r.size < e.length := by rw [r.len he]; exact Nat.mod_lt _ hs
      have := hv (k % r.size) _ (List.getElem?_eq_getElem hj)
      rw [show k / r.size * r.size + k % r.size = k from by rw [Nat.mul_comm]; exact Nat.div_add_mod ..] at this
      exact ⟨_, this, by rw [← oneC_eq]; exact r.one he _ (List.getElem_mem hj)⟩
    refine ⟨b, off, (List.range (m * r.size)).map fun k => (W.w.cell? ⟨b, off + k, none⟩).getD undef, hq, by simp, fun j u hj => ?_, fun u hu => ?_, fun i y hi => ?_⟩
    · rw [List.getElem?_map] at hj
      by_cases hjl : j < m * r.size
      · rw [List.getElem?_range hjl] at hj
        obtain ⟨v, hv, _⟩ := hcell j hjl
        simp only [Option.map_some, hv, Option.getD_some, Option.some.injEq] at hj
        rw [add0, hv, hj]
      · rw [List.getElem?_eq_none (by simpa using hjl)] at hj; cases hj
    · obtain ⟨k, hk, rfl⟩ := List.mem_map.1 hu
      obtain ⟨v, hv, h1⟩ := hcell k (List.mem_range.1 hk)
      rw [hv]; exact h1
    · obtain ⟨e, he, hv⟩ := hx i y hi
      refine ⟨e, he, fun j v hj => ?_⟩
      have hil : i < m := by
        rw [h.hn]
        by_cases h : i < ys.length
        · exact h
        · rw [List.getElem?_eq_none (by omega)] at hi; cases hi
      have hjl : j < r.size := by
        rw [← r.len he]
        by_cases h : j < e.length
        · exact h
        · rw [List.getElem?_eq_none (by omega)] at hj; cases hj
      have hlt : i * r.size + j < m * r.size := by
        have : i * r.size + r.size ≤ m * r.size := by rw [← Nat.succ_mul]; exact Nat.mul_le_mul_right _ (by omega)
        omega
      rw [List.getElem?_map, List.getElem?_range hlt, Option.map_some, hv j v hj]
      rfl
theorem run_room {T E b : Nat} {tyy : TypeId} {w : World} {ii : TypeInfo} (ht : P.underlying T = some (.slice E)) (hi : P.info? E = some ii) {m c k c2 : Nat} {cs news : List Value} {T' : TypeId} {a : Addr}
    (hb : w.heap[b]? = some (.cells cs.toArray T' (0, 0))) (hl : news.length = k * ii.size) (hnews : ∀ j u, news[j]? = some u → w.cell? (a.add j) = some u) (h1 : ∀ u ∈ news, u.oneCell' = true)
    (hroom : m + k ≤ c) (hfit : m * ii.size + news.length ≤ cs.length) :
    (Builtin.append_ #[T, T] tyy #[.slice (some ⟨b, 0, none⟩) m c, .slice (some a) k c2]).run P w = .ok (.slice (some ⟨b, 0, none⟩) (m + k) c) (setB w b (.cells (spl cs (m * ii.size) news).toArray T' (0, 0))) := by
  have hf := run_firstCells_some (P := P) w ii.size k a k c2 news hl hnews
  have hst := run_storeCells (P := P) (off := 0 + m * ii.size) news w 0 cs hb (by omega) (fun v hv => by rw [oneC_eq]; exact h1 v hv)
  simp only [Nat.add_zero, Nat.zero_add] at hst
  simp [Builtin.append_, run_underlying ht, sizeOf, typeInfo, hi, Builtin.lenOf, hroom, hf, add0, hst]
/-- What append leaves alone, and where its result lies. -/
structure AppF (p : Option Addr) (c : Nat) (W : GW) (p' : Option Addr) (c' : Nat) (W' : GW) : Prop where
  same : ∀ k, k < W.size → (∀ a, p = some a → 0 < c → k ≠ a.block) → W'.w.heap[k]? = W.w.heap[k]?
  new : ∀ a, p' = some a → 0 < c' → (p = some a ∧ 0 < c) ∨ W.size ≤ a.block
theorem own_append {α : Type} {r : Rep α} {T E sz by' : Nat} {z : List Value} {p q : Option Addr} {m c k c2 : Nat} {xs ys : List α} [i : TSl P T E sz by' z] (h : Ows r W p m c xs) (hy : Sl r W q k c2 ys) (hr : r.size = sz) (hz : z.length = sz)
    (hB : (m + k) * by' ≤ 140737488355328) (hL : m + k < 9223372036854775808) (tyy : TypeId) :
    ∃ p' c' W', (Builtin.append_ #[T, T] tyy #[.slice p m c, .slice q k c2]).run P W.w = .ok (.slice p' (m + k) c') W'.w ∧ LeK W W' ∧ Ows r W' p' (m + k) c' (xs ++ ys) ∧ AppF p c W p' c' W' := by
  obtain ⟨ii, v, e1, e2, e3, e4, e5⟩ := i.i
  have hlen : m + k = (xs ++ ys).length := by rw [List.length_append, h.hn, hy.hn]
  rcases Nat.eq_zero_or_pos k with hk | hk
  · subst hk
    have hys : ys = [] := List.eq_nil_of_length_eq_zero (by have := hy.hn; omega)
    subst hys
    refine ⟨p, c, W, ?_, LeK.refl W, by simpa using h, ⟨fun _ _ _ => rfl, fun a ha hc => .inl ⟨ha, hc⟩⟩⟩
    have hc := h.hc
    cases p <;> cases q <;> simp [Builtin.append_, run_underlying i.u, sizeOf, typeInfo, e1, Builtin.lenOf, Builtin.firstCells, loadCells, loadCellsFrom, storeCells, hc]
  · obtain ⟨b2, off2, news, rfl, hnl, hnc, hn1, hnx⟩ := sl_flat hy hk
    have hnl' : news.length = k * ii.size := by rw [hnl, hr, e2]
    -- a new array
    have grow : ∀ (olds : List Value) (W0 : GW), W0 = W.tick → olds.length = m * ii.size → (∀ i x, xs[i]? = some x → ∃ e, r.At W e x ∧ ∀ j v, e[j]? = some v → olds[i * r.size + j]? = some v) →
        Ows r (W0.push (.cells (olds.toArray ++ news.toArray ++ Builtin.zeroCells v.cells (grownCap W.w (m + k) c E - (m + k))) E) true) (some ⟨W.size, 0, none⟩) (m + k) (grownCap W.w (m + k) c E) (xs ++ ys) := by
      intro olds W0 hW0 hol hox
      subst hW0
      have hle := push_ext W.tick (.cells (olds.toArray ++ news.toArray ++ Builtin.zeroCells v.cells (grownCap W.w (m + k) c E - (m + k))) E) true
      have hle2 := ((tick_ext W).trans hle).toLeS.f
      have hge := grownCap_ge W.w (m + k) c E
      have hlt : grownCap W.w (m + k) c E < 9223372036854775808 := by
        have := Nat.mod_lt (W.w.tape W.w.drawn (.appendCap (m + k) c E)) (show 0 < 2 ^ 63 - (m + k) by omega)
        simp only [grownCap, Question.cut] at *
        omega
      refine ⟨hlen, hge, hlt, .inr ⟨W.size, (olds ++ news ++ (Builtin.zeroCells v.cells (grownCap W.w (m + k) c E - (m + k))).toList), E, rfl, List.mem_cons_self .., W.hm, ?_, ?_, fun i x hi => ?_⟩⟩
      · have := push_cells W.tick (olds.toArray ++ news.toArray ++ Builtin.zeroCells v.cells (grownCap W.w (m + k) c E - (m + k))) E true
        rw [show W.tick.size = W.size from rfl] at this
        rw [this]
        simp
      · have hzs : v.cells.size = ii.size := by rw [e2, ← hz, ← e5]; simp
        rw [List.length_append, List.length_append, hol, hnl', Array.length_toList, size_zeroCells, hzs, hr, ← e2, ← Nat.add_mul, ← Nat.add_mul]
        congr 1
        omega
      · by_cases him : i < m
        · rw [List.getElem?_append_left (by rw [← h.hn]; exact him)] at hi
          obtain ⟨e, he, hv⟩ := hox i x hi
          refine ⟨e, r.mono hle2 he, fun j w hj => ?_⟩
          have hjl := hv j w hj
          have hjlt : i * r.size + j < olds.length := by
            by_cases h : i * r.size + j < olds.length
            · exact h
            · rw [List.getElem?_eq_none (by omega)] at hjl; cases hjl
          rw [List.append_assoc, List.getElem?_append_left hjlt]
          exact hjl
        · rw [List.getElem?_append_right (by rw [← h.hn]; omega), ← h.hn] at hi
          obtain ⟨e, he, hv⟩ := hnx (i - m) x hi
          refine ⟨e, r.mono hle2 he, fun j w hj => ?_⟩
          have hjl := hv j w hj
          have hjlt : (i - m) * r.size + j < news.length := by
            by_cases h : (i - m) * r.size + j < news.length
            · exact h
            · rw [List.getElem?_eq_none (by omega)] at hjl; cases hjl
          have hmi : i * r.size = m * r.size + (i - m) * r.size := by rw [← Nat.add_mul]; congr 1; omega
          rw [List.append_assoc, List.getElem?_append_right (by rw [hol, e2, ← hr]; omega), List.getElem?_append_left (by rw [hol, e2, ← hr]; omega), hol, e2, ← hr,
            show i * r.size + j - m * r.size = (i - m) * r.size + j from by omega]
          exact hjl
    rcases h.h with h0 | ⟨b, cs, T', hp, hA, hm, hb, hl, hx⟩
    · have hm0 : m = 0 := by have := h.hc; omega
      have hxs : xs = [] := List.eq_nil_of_length_eq_zero (by have := h.hn; omega)
      subst hm0
      subst h0
      have hg := grow [] _ rfl (by simp) (fun i x hi => by subst hxs; simp at hi)
      have hle := (push_ext W.tick (.cells (([] : List Value).toArray ++ news.toArray ++ Builtin.zeroCells v.cells (grownCap W.w (0 + k) 0 E - (0 + k))) E) true)
      refine ⟨_, _, _, ?_, ((tick_ext W).trans hle).toLeK, hg, ⟨fun j hj _ => ((tick_ext W).trans hle).all j hj, fun a ha _ => .inr (by injection ha with ha; subst ha; exact Nat.le_refl _)⟩⟩
      cases p with
      | none =>
        have := run_append_nil (P := P) W.w T tyy E ii v i.u e1 e4 ⟨b2, off2, none⟩ k c2 news hnl' hnc hk (by omega) (by rw [e3]; have := hB; simp at this; omega)
        simp only [Nat.zero_add]
        rw [this]
        congr 3
        simp
      | some a =>
        have := run_append_grow (P := P) W.w T tyy E ii v i.u e1 e4 a 0 0 [] (by simp) (fun j u hj => by simp at hj) ⟨b2, off2, none⟩ k c2 news hnl' hnc (by omega) (by omega) (growslice_fits (by omega) (by rw [e3]; exact hB))
        rw [this]
        rfl
    · subst hp
      by_cases hroom : m + k ≤ c
      · have hfit : m * ii.size + news.length ≤ cs.toArray.size := by
          rw [hnl']
          simp only [List.size_toArray, hl, hr, e2, ← Nat.add_mul]
          exact Nat.mul_le_mul_right _ hroom
        have hfit' : m * ii.size + news.length ≤ cs.length := by simpa using hfit
        have hrun := run_room (P := P) (T := T) (E := E) (tyy := tyy) (a := ⟨b2, off2, none⟩) (c2 := c2) i.u e1 hb hnl' hnc hn1 hroom hfit'
        have hle := put_lek W b _ (spl cs (m * ii.size) news).toArray T' (0, 0) hb hA hm (by simp [spl_length])
        refine ⟨_, _, W.put b (.cells (spl cs (m * ii.size) news).toArray T' (0, 0)), hrun, hle, ⟨hlen, hroom, h.hC, .inr ⟨b, _, T', rfl, hA, hm, heap_put_self _ _ _ (lt_of_heap hb), by rw [spl_length]; exact hl, fun i x hi => ?_⟩⟩, ⟨fun j hj hne => heap_put _ _ _ _ (hne _ rfl (by omega)), fun a ha hc' => .inl ⟨ha, hc'⟩⟩⟩
        have hsp : ∀ q, (spl cs (m * ii.size) news)[q]? = if m * ii.size ≤ q ∧ q < m * ii.size + news.length then news[q - m * ii.size]? else cs[q]? := fun q => spl_get _ _ _ _ hfit'
        have hes : ii.size = r.size := by rw [e2, hr]
        by_cases him : i < m
        · rw [List.getElem?_append_left (by rw [← h.hn]; exact him)] at hi
          obtain ⟨e, he, hv⟩ := hx i x hi
          refine ⟨e, r.mono hle.f he, fun j w hj => ?_⟩
          have hjl : j < r.size := by
            rw [← r.len he]
            by_cases h : j < e.length
            · exact h
            · rw [List.getElem?_eq_none (by omega)] at hj; cases hj
          have : i * r.size + r.size ≤ m * r.size := by rw [← Nat.succ_mul]; exact Nat.mul_le_mul_right _ (by omega)
          rw [hsp, if_neg (by rw [hes]; omega)]
          exact hv j w hj
        · rw [List.getElem?_append_right (by rw [← h.hn]; omega), ← h.hn] at hi
          obtain ⟨e, he, hv⟩ := hnx (i - m) x hi
          refine ⟨e, r.mono hle.f he, fun j w hj => ?_⟩
          have hjl := hv j w hj
          have hjlt : (i - m) * r.size + j < news.length := by
            by_cases h : (i - m) * r.size + j < news.length
            · exact h
            · rw [List.getElem?_eq_none (by omega)] at hjl; cases hjl
          have hmi : i * r.size = m * r.size + (i - m) * r.size := by rw [← Nat.add_mul]; congr 1; omega
          rw [hsp, if_pos (by rw [hes]; omega), hes, show i * r.size + j - m * r.size = (i - m) * r.size + j from by omega]
          exact hjl
      · have hol : (cs.take (m * ii.size)).length = m * ii.size := by
          rw [List.length_take, hl, hr, e2]
          exact Nat.min_eq_left (Nat.mul_le_mul_right _ h.hc)
        have hg := grow (cs.take (m * ii.size)) _ rfl hol (fun i x hi => by
          obtain ⟨e, he, hv⟩ := hx i x hi
          refine ⟨e, he, fun j w hj => ?_⟩
          have him : i < m := by
            rw [h.hn]
            by_cases h : i < xs.length
            · exact h
            · rw [List.getElem?_eq_none (by omega)] at hi; cases hi
          have hjl : j < r.size := by
            rw [← r.len he]
            by_cases h : j < e.length
            · exact h
            · rw [List.getElem?_eq_none (by omega)] at hj; cases hj
          have : i * r.size + r.size ≤ m * r.size := by rw [← Nat.succ_mul]; exact Nat.mul_le_mul_right _ (by omega)
          rw [List.getElem?_take, if_pos (by rw [e2, ← hr]; omega)]
          exact hv j w hj)
        have hle := (push_ext W.tick (.cells ((cs.take (m * ii.size)).toArray ++ news.toArray ++ Builtin.zeroCells v.cells (grownCap W.w (m + k) c E - (m + k))) E) true)
        refine ⟨_, _, _, ?_, ((tick_ext W).trans hle).toLeK, hg, ⟨fun j hj _ => ((tick_ext W).trans hle).all j hj, fun a ha _ => .inr (by injection ha with ha; subst ha; exact Nat.le_refl _)⟩⟩
        have := run_append_grow (P := P) W.w T tyy E ii v i.u e1 e4 ⟨b, 0, none⟩ m c (cs.take (m * ii.size)) hol (fun j u hj => by
          rw [add0, Nat.zero_add, cell_of hb]
          rw [List.getElem?_take] at hj
          split at hj
          · exact hj
          · cases hj) ⟨b2, off2, none⟩ k c2 news hnl' hnc (by omega) (by omega) (growslice_fits (by omega) (by rw [e3]; exact hB))
        rw [this]
        rfl
/-! literals -/
def getIdx (env : Env) : Nat → List (Nat × Operand) → Option (List Value)
  | _, [] => some []
  | k, (i, x) :: l => match Nat.beq i k with
    | false => none
    | true => match get env x with
      | none => none
      | some v => match getIdx env (k + 1) l with
        | none => none
        | some vs => some (v :: vs)
def idxL : Nat → List Value → List (Nat × Value)
  | _, [] => []
  | k, v :: vs => (k, v) :: idxL (k + 1) vs
theorem getIdx_eq {env : Env} {n : Nat} {a : Act} (ha : Rel n env a) (ps : List (Nat × Operand)) : ∀ (k : Nat) (vs : List Value), getIdx env k ps = some vs → ps.map (fun (i, x) => (i, a.eval x)) = idxL k vs := by
  induction ps with
  | nil => intro k vs h; simp [getIdx] at h; subst h; rfl
  | cons p ps ih =>
    intro k vs h
    obtain ⟨i, x⟩ := p
    simp only [getIdx] at h
    split at h
    · cases h
    · rename_i hb
      have hik := Nat.eq_of_beq_eq_true hb
      subst hik
      split at h
      · cases h
      · rename_i v hv
        split at h
        · cases h
        · rename_i us hus
          injection h with h
          subst h
          simp only [List.map_cons, idxL, ha.get hv, ih _ _ hus]
theorem foldl_spl (vs : List Value) : ∀ (cs : List Value) (off k : Nat), (vs.zipIdx k).foldl (fun (cs : Array Value) (c, j) => cs.setIfInBounds (off + j) c) cs.toArray = (spl cs (off + k) vs).toArray := by
  induction vs with
  | nil => intro cs off k; rfl
  | cons v vs ih =>
    intro cs off k
    simp only [List.zipIdx_cons, List.foldl_cons, spl]
    have : cs.toArray.setIfInBounds (off + k) v = (cs.set (off + k) v).toArray := by simp
    rw [this, ih]
    rfl
theorem arr_foldl (v : Array Value) (cs : List Value) (off : Nat) : v.zipIdx.foldl (fun (cs : Array Value) (c, j) => cs.setIfInBounds (off + j) c) cs.toArray = (spl cs off v.toList).toArray := by
  have := foldl_spl v.toList cs off 0
  rw [Nat.add_zero] at this
  rw [← this, ← Array.foldl_toList]
  simp
theorem fill_rows (sz : Nat) (vs : List Value) (hvs : ∀ v ∈ vs, v.cells.size = sz) : ∀ (k : Nat) (cs : List Value), (k + vs.length) * sz ≤ cs.length →
    ∃ cs', Instr.fill (fun i => some (i * sz, sz)) cs.toArray (idxL k vs) = some (cs' : List Value).toArray ∧ cs'.length = cs.length ∧ (∀ q, q < k * sz → cs'[q]? = cs[q]?) ∧
      ∀ i v, vs[i]? = some v → ∀ j, j < sz → cs'[(k + i) * sz + j]? = v.cells.toList[j]? := by
  induction vs with
  | nil => intro k cs _; exact ⟨cs, rfl, rfl, fun _ _ => rfl, fun i v h => by simp at h⟩
  | cons v vs ih =>
    intro k cs hle
    have hv := hvs v (List.mem_cons_self ..)
    simp only [List.length_cons] at hle
    have hks : k * sz + sz ≤ cs.length := by
      have : (k + 1) * sz ≤ (k + (vs.length + 1)) * sz := Nat.mul_le_mul_right _ (by omega)
      rw [Nat.succ_mul] at this; omega
    have hvl : v.cells.toList.length = sz := by simpa using hv
    obtain ⟨cs', h1, h2, h3, h4⟩ := ih (fun u hu => hvs u (List.mem_cons_of_mem _ hu)) (k + 1) (spl cs (k * sz) v.cells.toList) (by rw [spl_length, show k + 1 + vs.length = k + (vs.length + 1) from by omega]; exact hle)
    have hsp : ∀ q, (spl cs (k * sz) v.cells.toList)[q]? = if k * sz ≤ q ∧ q < k * sz + sz then v.cells.toList[q - k * sz]? else cs[q]? := fun q => by
      rw [spl_get _ _ _ _ (by rw [hvl]; exact hks), hvl]
    refine ⟨cs', ?_, by rw [h2, spl_length], fun q hq => ?_, fun i u hi j hj => ?_⟩
    · simp only [idxL, Instr.fill]
      have e1 : (decide (v.cells.size ≠ sz) || decide (k * sz + v.cells.size > cs.toArray.size)) = false := by
        simp [hv]; omega
      rw [if_neg (by rw [e1]; simp), arr_foldl]
      exact h1
    · rw [h3 q (by rw [Nat.succ_mul]; omega), hsp, if_neg (by omega)]
    · cases i with
      | zero =>
        simp at hi
        subst hi
        rw [Nat.add_zero, h3 _ (by rw [Nat.succ_mul]; omega), hsp, if_pos (by omega), show k * sz + j - k * sz = j from by omega]
      | succ i =>
        rw [show (k + (i + 1)) * sz + j = (k + 1 + i) * sz + j from by congr 2; omega]
        exact h4 i u (by simpa using hi) j hj
/-- All2: the values are the data. -/
def AllV {α : Type} (r : Rep α) (W : GW) : List Value → List α → Prop
  | [], [] => True
  | v :: vs, x :: xs => V r W v x ∧ AllV r W vs xs
  | _, _ => False
theorem AllV.len {α : Type} {r : Rep α} {W : GW} {vs : List Value} {xs : List α} (h : AllV r W vs xs) : vs.length = xs.length := by
  induction vs generalizing xs with
  | nil => cases xs with
    | nil => rfl
    | cons => exact h.elim
  | cons v vs ih => cases xs with
    | nil => exact h.elim
    | cons x xs => simp [ih h.2]
theorem AllV.get {α : Type} {r : Rep α} {W : GW} {vs : List Value} {xs : List α} (h : AllV r W vs xs) {i : Nat} {x : α} (hi : xs[i]? = some x) : ∃ v, vs[i]? = some v ∧ V r W v x := by
  induction vs generalizing xs i with
  | nil => cases xs with
    | nil => simp at hi
    | cons => exact h.elim
  | cons v vs ih => cases xs with
    | nil => exact h.elim
    | cons y xs =>
      cases i with
      | zero => simp at hi; subst hi; exact ⟨v, rfl, h.1⟩
      | succ i => simpa using ih h.2 (by simpa using hi)
theorem V.cells {α : Type} {r : Rep α} {W : GW} {v : Value} {x : α} (h : V r W v x) (hg : r.agg = true ∨ r.size = 1) : r.At W v.cells.toList x := by
  obtain ⟨e, he, hve⟩ := h
  have hcl : v.cells.toList = e := by
    subst hve
    cases hag : r.agg with
    | true => simp [mkv, Value.cells]
    | false =>
      have h1 : r.size = 1 := by rcases hg with h | h; rw [hag] at h; cases h; exact h
      have hle := r.len he
      match e, hle, he with
      | [u1], _, he =>
        have := r.one he u1 (List.mem_cons_self ..)
        simp only [mkv, List.headD_cons, Bool.false_eq_true, if_false]
        cases u1 <;> simp_all [Value.cells, oneC]
      | [], hle, _ => simp at hle; omega
      | _ :: _ :: _, hle, _ => simp at hle; omega
  rw [hcl]; exact he
theorem run_bs {α : Type} {r : Rep α} {T E sz by' m : Nat} {z : List Value} [i : TSl P T E sz by' z] {vs : List Value} {xs : List α} (hv : AllV r W vs xs) (hm : vs.length = m) (hr : r.size = sz) (hz : z.length = sz) (hz0 : 0 < sz) (hg : r.agg = true ∨ r.size = 1) (hL : m * sz ≤ 16777216) :
    ∃ cs : List Value, (Instr.buildSlice T m (idxL 0 vs).toArray).run P W.w = .ok (.slice (some ⟨W.size, 0, none⟩) m m) (W.w.alloc (.cells cs.toArray E)) ∧ cs.length = m * sz ∧
      ∀ i x, xs[i]? = some x → ∃ e, r.At W e x ∧ ∀ j v, e[j]? = some v → cs[i * r.size + j]? = some v := by
  obtain ⟨ii, v, e1, e2, e3, e4, e5⟩ := i.i
  have hvs : ∀ u ∈ vs, u.cells.size = sz := by
    intro u hu
    obtain ⟨k, hk⟩ := List.getElem?_of_mem hu
    have hkl : k < xs.length := by
      rw [← hv.len]
      by_cases h : k < vs.length
      · exact h
      · rw [List.getElem?_eq_none (by omega)] at hk; cases hk
    obtain ⟨w, hw, hV⟩ := hv.get (List.getElem?_eq_getElem hkl)
    rw [hk] at hw; injection hw with hw; subst hw
    have := r.len (hV.cells hg)
    simpa [hr] using this
  have hrow := zero_row z m (by omega) v.cells e5
  obtain ⟨cs', h1, h2, h3, h4⟩ := fill_rows sz vs hvs 0 (repl z m) (by rw [repl_length, hz, hm]; simp)
  refine ⟨cs', ?_, by rw [h2, repl_length, hz], fun i x hi => ?_⟩
  · rw [hz] at hrow
    have hn1 : ¬ (16777216 < m * sz) := by omega
    by_cases h0 : m * sz = 0
    · have hm0 : m = 0 := by rcases Nat.mul_eq_zero.1 h0 with h | h; exact h; omega
      subst hm0
      have hvs0 : vs = [] := List.eq_nil_of_length_eq_zero hm
      subst hvs0
      simp only [repl, idxL, Instr.fill] at h1
      injection h1 with h1
      have hc0 : cs' = [] := by
        have := congrArg Array.toList h1
        simpa using this.symm
      subst hc0
      simp [Instr.buildSlice, run_underlying i.u, sizeOf, typeInfo, e1, e2, idxL, Instr.fill, newRow, Array.range_zero']
    · have hz2 : (Array.range (m * sz)).map (fun q => v.cells[q % v.cells.size]!) = (repl z m).toArray := hrow
      simp [Instr.buildSlice, run_underlying i.u, sizeOf, typeInfo, zeroValue, e1, e2, e4, hn1, h0, hz2, h1, newRow]
  · obtain ⟨w, hw, hV⟩ := hv.get hi
    refine ⟨_, hV.cells hg, fun j u hj => ?_⟩
    have hjl : j < sz := by
      rw [← hr, ← r.len (hV.cells hg)]
      by_cases h : j < w.cells.toList.length
      · exact h
      · rw [List.getElem?_eq_none (by omega)] at hj; cases hj
    have := h4 i w hw j hjl
    rw [Nat.zero_add] at this
    rw [hr, this]
    exact hj
/-- []T{..}, to be written further -/
theorem O.bso {α : Type} {r : Rep α} {T E sz by' m : Nat} {z : List Value} {ps : List (Nat × Operand)} {vs : List Value} (xs : List α) [i : TSl P T E sz by' z] (hx : getIdx env 0 ps = some vs) (hv : AllV r W vs xs) (hm : vs.length = m) (hr : r.size = sz) (hz : z.length = sz) (hz0 : 0 < sz) (hg : r.agg = true ∨ r.size = 1) (hL : m * sz ≤ 16777216)
    (k : ∀ W' b, Lk1 W W' → Ext W W' → W.size ≤ b → Ows r W' (some ⟨b, 0, none⟩) m m xs → JO P n ops l K fin ((d, .slice (some ⟨b, 0, none⟩) m m) :: env) W') :
    JO P n ops (⟨some d, .buildSlice T m ps.toArray, ty, pos, aft, none⟩ :: l) K fin env W := by
  obtain ⟨cs, h1, h2, h3⟩ := run_bs (P := P) (T := T) hv hm hr hz hz0 hg hL
  have hle := push_ext W (.cells cs.toArray E) true
  refine JO.world (W' := W.push (.cells cs.toArray E) true) (v := .slice (some ⟨W.size, 0, none⟩) m m) (fun a ha => ?_)
    (k _ _ ⟨hle.toLeK⟩ hle (Nat.le_refl _) ⟨by rw [← hm]; exact hv.len, Nat.le_refl _, by have := Nat.le_mul_of_pos_right m hz0; omega, .inr ⟨W.size, cs, E, rfl, List.mem_cons_self .., W.hm, by simpa using push_cells W cs.toArray E true, by rw [h2, hr], fun i x hi => ?_⟩⟩)
  · have he := getIdx_eq ha ps 0 vs hx
    have he' : ps.toArray.map (fun (i, x) => (i, a.eval x)) = (idxL 0 vs).toArray := by
      apply Array.ext'; simpa using he
    simp only [execOp, he']
    rw [Sem.run_bind, h1]
    rfl
  · obtain ⟨e, he, hv⟩ := h3 i x hi
    exact ⟨e, r.mono hle.toLeS.f he, hv⟩
/-- []T{..} -/
theorem O.bs {α : Type} {r : Rep α} {T E sz by' m : Nat} {z : List Value} {ps : List (Nat × Operand)} {vs : List Value} (xs : List α) [i : TSl P T E sz by' z] (hx : getIdx env 0 ps = some vs) (hv : AllV r W vs xs) (hm : vs.length = m) (hr : r.size = sz) (hz : z.length = sz) (hz0 : 0 < sz) (hg : r.agg = true ∨ r.size = 1) (hL : m * sz ≤ 16777216)
    (k : ∀ W' p, Lk1 W W' → Ext W W' → Sl r W' p m m xs → JO P n ops l K fin ((d, .slice p m m) :: env) W') :
    JO P n ops (⟨some d, .buildSlice T m ps.toArray, ty, pos, aft, none⟩ :: l) K fin env W := by
  obtain ⟨cs, h1, h2, h3⟩ := run_bs (P := P) (T := T) hv hm hr hz hz0 hg hL
  have hle := push_ext W (.cells cs.toArray E) false
  refine JO.world (W' := W.push (.cells cs.toArray E) false) (v := .slice (some ⟨W.size, 0, none⟩) m m) (fun a ha => ?_)
    (k _ _ ⟨hle.toLeK⟩ hle ⟨by rw [← hm]; exact hv.len, Nat.le_refl _, by have := Nat.le_mul_of_pos_right m hz0; omega, .inr ⟨W.size, 0, rfl, by rw [GW.size_push]; omega, fun h => Nat.lt_irrefl _ (W.hA _ h), fun i x hi => ?_⟩⟩)
  · have he := getIdx_eq ha ps 0 vs hx
    have he' : ps.toArray.map (fun (i, x) => (i, a.eval x)) = (idxL 0 vs).toArray := by
      apply Array.ext'; simpa using he
    simp only [execOp, he']
    rw [Sem.run_bind, h1]
    rfl
  · obtain ⟨e, he, hv⟩ := h3 i x hi
    exact ⟨e, r.mono hle.toLeS.f he, fun j v hj => by
      rw [Nat.zero_add, cell_of (cs := cs) (by simpa using push_cells W cs.toArray E false)]
      exact hv j v hj⟩
/-! append -/
theorem run_app {T : TypeId} {x y : Operand} {v1 v2 v : Value} {W' : GW} {a : Act} (ha : Rel n env a) (hx : get env x = some v1) (hy : get env y = some v2) (h : (Builtin.append_ #[T, T] ty #[v1, v2]).run P W.w = .ok v W'.w) :
    (execOp a.eval ⟨some d, .call ⟨.builtin .append, #[x, y], #[T, T]⟩, ty, pos, aft, none⟩).run P W.w = .ok (.value v) W'.w := by
  simp only [execOp, resolve]
  have e : (#[x, y] : Array Operand).map a.eval = #[v1, v2] := by simp [ha.get hx, ha.get hy]
  rw [e, pure_bind]
  simp only [invoke, builtin]
  rw [Sem.run_bind, h]
  rfl
/-- append(x, y...) -/
theorem O.app {α : Type} {r : Rep α} {T E sz by' : Nat} {z : List Value} {x y : Operand} {p q : Option Addr} {m c k c2 : Nat} {xs ys : List α} [i : TSl P T E sz by' z] (hx : get env x = some (.slice p m c)) (hy : get env y = some (.slice q k c2))
    (h : Ows r W p m c xs) (hs : Sl r W q k c2 ys) (hr : r.size = sz) (hz : z.length = sz)
    (hB : (m + k) * by' ≤ 140737488355328) (hL : m + k < 9223372036854775808)
    (kk : ∀ W' p' c', Lk1 W W' → Ows r W' p' (m + k) c' (xs ++ ys) → JO P n ops l K fin ((d, .slice p' (m + k) c') :: env) W') :
    JO P n ops (⟨some d, .call ⟨.builtin .append, #[x, y], #[T, T]⟩, ty, pos, aft, none⟩ :: l) K fin env W := by
  obtain ⟨p', c', W', h1, h2, h3, _⟩ := own_append (P := P) (T := T) h hs hr hz hB hL ty
  exact JO.world (fun a ha => run_app ha hx hy h1) (kk W' p' c' ⟨h2⟩ h3)
/-- append(x, u) -/
theorem O.app1 {α : Type} {r : Rep α} {T E sz by' : Nat} {z : List Value} {x y : Operand} {p : Option Addr} {m c : Nat} {xs : List α} {v : Value} {u : α} [i : TSl P T E sz by' z] (hx : ∀ w, get ((d, w) :: env) x = some (.slice p m c)) (hy : get env y = some v)
    (h : Ows r W p m c xs) (hv : V r W v u) (hr : r.size = sz) (hz : z.length = sz) (hz0 : 0 < sz) (hg : r.agg = true ∨ r.size = 1) (hL2 : 1 * sz ≤ 16777216)
    (hB : (m + 1) * by' ≤ 140737488355328) (hL : m + 1 < 9223372036854775808)
    (kk : ∀ W' p' c' v1, Lk1 W W' → Ows r W' p' (m + 1) c' (xs ++ [u]) → JO P n ops l K fin ((d2, .slice p' (m + 1) c') :: (d, v1) :: env) W') :
    JO P n ops (⟨some d, .buildSlice T 1 #[(0, y)], ty, pos, aft, none⟩ :: ⟨some d2, .call ⟨.builtin .append, #[x, .tmp d], #[T, T]⟩, ty2, pos2, aft2, none⟩ :: l) K fin env W := by
  refine O.bs (r := r) (ps := [(0, y)]) (vs := [v]) [u] (by simp [getIdx, hy]) ⟨hv, trivial⟩ rfl hr hz hz0 hg hL2 fun W1 p1 i1 e1 s1 => ?_
  refine O.app (hx _) (by simp [get, look_cons]) (h.ext e1) s1 hr hz hB hL fun W2 p2 c2 i2 o2 => ?_
  exact kk W2 p2 c2 _ ⟨i1.s.trans i2.s⟩ o2
/-! struct literals -/
theorem run_build2 {T n0 n1 : Nat} {v0 v1 : Value} {w : World} [i : TBld P T n0 n1] (h0 : v0.cells.size = n0) (h1 : v1.cells.size = n1) :
    (Instr.build T #[(0, v0), (1, v1)]).run P w = .ok (.agg (v0.cells.toList ++ v1.cells.toList).toArray) w := by
  obtain ⟨fs, g0, g1, i0, i1, ii, z, u1, u2, o0, o1, s0, s1, t0, t1, e1, e2, e3⟩ := i.u
  subst u2
  have ez : (zeroValue T).run P w = .ok z w := by simp [zeroValue, typeInfo, e1, e2]
  have k0 : v0.cells.toList.length = n0 := by simpa using h0
  have k1 : v1.cells.toList.length = n1 := by simpa using h1
  have ezl : z.cells = z.cells.toList.toArray := by simp
  have hzl : z.cells.toList.length = n0 + n1 := by simpa using e3
  have hf : Instr.fill ((#[(g0.offset, n0), (g1.offset, n1)] : Array (Nat × Nat))[·]?) z.cells [(0, v0), (1, v1)] = some (v0.cells.toList ++ v1.cells.toList).toArray := by
    have a0 : (decide (v0.cells.size ≠ n0) || decide (0 + v0.cells.size > z.cells.size)) = false := by simp [h0]; omega
    simp only [Instr.fill, o0, o1]
    rw [show ((#[((0 : Nat), n0), (n0, n1)] : Array (Nat × Nat))[0]?) = some (0, n0) from rfl, show ((#[((0 : Nat), n0), (n0, n1)] : Array (Nat × Nat))[1]?) = some (n0, n1) from rfl]
    simp only []
    rw [if_neg (by rw [a0]; simp), ezl, arr_foldl]
    have a1 : (decide (v1.cells.size ≠ n1) || decide (n0 + v1.cells.size > (spl z.cells.toList 0 v0.cells.toList).toArray.size)) = false := by simp [h1, spl_length]; simp at hzl; omega
    rw [if_neg (by rw [a1]; simp), arr_foldl]
    congr 2
    apply List.ext_getElem?
    intro q
    rw [spl_get _ _ _ _ (by rw [spl_length, hzl, k1]; omega), spl_get _ _ _ _ (by rw [hzl, k0]; omega), k0, k1]
    by_cases hq : q < n0
    · rw [if_neg (by omega), if_pos (by omega), List.getElem?_append_left (by omega), Nat.sub_zero]
    · by_cases hq2 : q < n0 + n1
      · rw [if_pos (by omega), List.getElem?_append_right (by omega), k0]
      · rw [if_neg (by omega), if_neg (by omega), List.getElem?_eq_none (by omega), List.getElem?_eq_none (by simp at *; omega)]
  have m0 : (sizeOf g0.type).run P w = .ok n0 w := by simp [sizeOf, typeInfo, s0, t0]
  have m1 : (sizeOf g1.type).run P w = .ok n1 w := by simp [sizeOf, typeInfo, s1, t1]
  have hm : ((#[g0, g1] : Array Field).mapM fun f => do pure (f.offset, ← sizeOf f.type) : Sem (Array (Nat × Nat))).run P w = .ok #[(g0.offset, n0), (g1.offset, n1)] w := by
    simp only [List.mapM_toArray, List.mapM_cons, List.mapM_nil]
    simp [m0, m1]
  unfold Instr.build
  rw [Sem.run_bind, ez]
  simp only [Result.andThen_ok]
  rw [Sem.run_bind, run_und u1]
  simp only [Result.andThen_ok]
  rw [Sem.run_bind, hm]
  simp only [Result.andThen_ok]
  rw [hf]
  rfl
theorem O.bld0 {T sz n0 n1 : Nat} {ag : Bool} {z : List Value} [i : TVar P T sz ag z] [j : TBld P T n0 n1]
    (k : JO P n ops l K fin ((d, .agg z.toArray) :: env) W) : JO P n ops (⟨some d, .build T #[], ty, pos, aft, none⟩ :: l) K fin env W := by
  obtain ⟨ii, v, e1, e2, e3, e4⟩ := i.i
  obtain ⟨fs, g0, g1, i0, i1, _, _, hu, u2, o0, o1, s0, s1, _⟩ := j.u
  have hfs : ∀ f ∈ fs.toList, ∃ i, P.info? f.type = some i := by
    subst u2
    intro f hf
    simp at hf
    rcases hf with rfl | rfl
    · exact ⟨_, s0⟩
    · exact ⟨_, s1⟩
  refine JO.value (fun a ha => ?_) k
  have ez : (zeroValue T).run P W.w = .ok v W.w := by simp [zeroValue, typeInfo, e1, e3]
  have hm : ∀ l : List Field, (∀ f ∈ l, ∃ i, P.info? f.type = some i) → ∃ r, ((l.mapM fun f => do pure (f.offset, ← sizeOf f.type) : Sem (List (Nat × Nat)))).run P W.w = .ok r W.w := by
    intro l
    induction l with
    | nil => intro _; exact ⟨[], rfl⟩
    | cons f l ih =>
      intro h
      obtain ⟨r, hr⟩ := ih fun g hg => h g (List.mem_cons_of_mem _ hg)
      obtain ⟨j, hj⟩ := h f (List.mem_cons_self ..)
      refine ⟨(f.offset, j.size) :: r, ?_⟩
      have hs : (sizeOf f.type).run P W.w = .ok j.size W.w := by simp [sizeOf, typeInfo, hj]
      rw [List.mapM_cons, Sem.run_bind, Sem.run_bind, hs]
      simp only [Result.andThen_ok, Sem.run_pure]
      rw [Sem.run_bind, hr]
      rfl
  obtain ⟨r, hr⟩ := hm fs.toList hfs
  have hr' : ((fs.mapM fun f => do pure (f.offset, ← sizeOf f.type) : Sem (Array (Nat × Nat)))).run P W.w = .ok r.toArray W.w := by
    have : fs = fs.toList.toArray := by simp
    rw [this, List.mapM_toArray, Sem.run_map, hr]
    rfl
  simp only [execOp, List.map_toArray, List.map_nil]
  rw [Sem.run_bind]
  unfold Instr.build
  rw [Sem.run_bind, ez]
  simp only [Result.andThen_ok]
  rw [Sem.run_bind, run_und hu]
  simp only [Result.andThen_ok]
  rw [Sem.run_bind, hr']
  subst e4
  simp [Instr.fill]
theorem O.bld {T n0 n1 : Nat} {x0 x1 : Operand} {v0 v1 : Value} [i : TBld P T n0 n1] (hx : get env x0 = some v0) (hy : get env x1 = some v1) (h0 : v0.cells.size = n0) (h1 : v1.cells.size = n1)
    (k : JO P n ops l K fin ((d, .agg (v0.cells.toList ++ v1.cells.toList).toArray) :: env) W) : JO P n ops (⟨some d, .build T #[(0, x0), (1, x1)], ty, pos, aft, none⟩ :: l) K fin env W :=
  JO.value (fun a ha => by
    have e : (#[(0, x0), (1, x1)] : Array (Nat × Operand)).map (fun (i, x) => (i, a.eval x)) = #[(0, v0), (1, v1)] := by simp [ha.get hx, ha.get hy]
    simp only [execOp, e]
    rw [Sem.run_bind, run_build2 h0 h1]
    rfl) k
theorem J.pub2 {α β : Type} {r : Rep α} {s : Rep β} {b1 b2 m1 c1 m2 c2 : Nat} {xs : List α} {ys : List β} (h : Ows r W (some ⟨b1, 0, none⟩) m1 c1 xs) (h' : Ows s W (some ⟨b2, 0, none⟩) m2 c2 ys)
    (k : ∀ W', Le1 W W' → Sl r W' (some ⟨b1, 0, none⟩) m1 c1 xs → Sl s W' (some ⟨b2, 0, none⟩) m2 c2 ys → J P n K fin env W') : J P n K fin env W := by
  by_cases hm : W.m ≤ b1 ∧ W.m ≤ b2
  · let W' : GW := (W.pubB b1).pubB b2
    have hl : LeS W W' := (pubB_le W b1 hm.1).trans (pubB_le (W.pubB b1) b2 hm.2)
    refine fun a ha => k W' ⟨hl⟩ (h.sl' hl.f rfl fun hh => ?_) (h'.sl' hl.f rfl fun hh => ?_) a ha
    · have := (List.mem_filter.1 (List.mem_filter.1 hh).1).2; simp at this
    · have := (List.mem_filter.1 hh).2; simp at this
  · -- one of them has no room: nothing is written there
    by_cases h1 : W.m ≤ b1
    · have h0 : c2 = 0 := by
        rcases h'.h with h0 | ⟨b, cs, T, hp, hA, hm', _⟩
        · exact h0
        · injection hp with hp; injection hp with hp; omega
      refine J.pub h fun W' i s1 => k W' i s1 ⟨h'.hn, h'.hc, h'.hC, .inl (List.eq_nil_of_length_eq_zero ?_)⟩
      have := h'.hn; have := h'.hc; omega
    · have h0 : c1 = 0 := by
        rcases h.h with h0 | ⟨b, cs, T, hp, hA, hm', _⟩
        · exact h0
        · injection hp with hp; injection hp with hp; omega
      refine J.pub h' fun W' i s1 => k W' i ⟨h.hn, h.hc, h.hC, .inl (List.eq_nil_of_length_eq_zero ?_)⟩ s1
      have := h.hn; have := h.hc; omega
/-! results that may still be written -/
def OwnR {α : Type} (r : Rep α) (W0 W : GW) (v : Value) (xs : List α) : Prop := ∃ p m c, v = .slice p m c ∧ Ows r W p m c xs ∧ ∀ a, p = some a → 0 < c → W0.size ≤ a.block
theorem own_pub {α : Type} {r : Rep α} {W W' : GW} {v : Value} {xs : List α} (hE : Ext W W') (h : OwnR r W W' v xs) : ∃ W2, W2.w = W'.w ∧ Ext W W2 ∧ V (RSl r) W2 v xs := by
  obtain ⟨p, m, c, rfl, ho, hf⟩ := h
  let W2 : GW := { w := W'.w, A := W.A, m := W.m, hA := fun k hk => Nat.lt_of_lt_of_le (W.hA k hk) hE.size, hm := Nat.le_trans W.hm hE.size }
  refine ⟨W2, rfl, { os := hE.os, out := hE.out, tape := hE.tape, m := rfl, size := hE.size, same := hE.same, stay := fun _ _ h => h, prot := fun _ _ h => h, row := hE.row, keep := fun _ h => h, all := hE.all }, ?_⟩
  have hl : LeF W' W2 := ⟨Nat.le_refl _, fun _ _ _ => rfl, fun k _ hn hk => hn (hE.keep k hk)⟩
  refine Sl.v ⟨ho.hn, ho.hc, ho.hC, ?_⟩
  rcases ho.h with h0 | ⟨b, cs, T, hp, hA, hm, hb, hl', hx⟩
  · refine .inl (List.eq_nil_of_length_eq_zero ?_)
    have := ho.hn; have := ho.hc; omega
  · by_cases hc : 0 < c
    · have hfb := hf _ hp hc
      refine .inr ⟨b, 0, hp, lt_of_heap hb, fun hh => ?_, fun i x hi => ?_⟩
      · have h1 : b < W.size := W.hA b hh
        have h2 : W.size ≤ b := hfb
        omega
      · obtain ⟨u, hu, hv⟩ := hx i x hi
        exact ⟨u, r.mono hl hu, fun j v hj => by
          show W'.w.cell? _ = _
          rw [cell_of hb, Nat.zero_add]; exact hv j v hj⟩
    · refine .inl (List.eq_nil_of_length_eq_zero ?_)
      have := ho.hn; have := ho.hc; omega
theorem Ok.own {α : Type} {r : Rep α} {f : FuncId} {vs : List Value} {xs : List α} (h : Ok P f vs W (fun W' v => OwnR r W W' v xs)) : Ok P f vs W fun W' v => V (RSl r) W' v xs := by
  refine ⟨h.1, h.2.mono ?_⟩
  rintro e w' ⟨W', v, he, hw, hE, ho⟩
  obtain ⟨W2, h2, h3, h4⟩ := own_pub hE ho
  exact ⟨W2, v, he, h2.trans hw, h3, h4⟩
theorem O.pub {α : Type} {r : Rep α} {p : Option Addr} {m c : Nat} {xs : List α} (h : Ows r W p m c xs) (k : ∀ W', Le1 W W' → Sl r W' p m c xs → JO P n ops l K fin env W') : JO P n ops l K fin env W := by
  rcases h.h with h0 | ⟨b, cs, T, hp, hA, hm, hb, hl, hx⟩
  · refine k W ⟨LeS.refl W⟩ ⟨h.hn, h.hc, h.hC, .inl (List.eq_nil_of_length_eq_zero ?_)⟩
    have := h.hn; have := h.hc; omega
  · refine fun hok a ha => k (W.pubB b) ⟨pubB_le W b hm⟩ ⟨h.hn, h.hc, h.hC, .inr ⟨b, 0, hp, lt_of_heap hb, fun hh => by have := (List.mem_filter.1 hh).2; simp at this, fun i x hi => ?_⟩⟩ hok a ha
    obtain ⟨u, hu, hv⟩ := hx i x hi
    exact ⟨u, r.mono (pubB_le W b hm).f hu, fun j v hj => by
      show W.w.cell? _ = _
      rw [cell_of hb, Nat.zero_add]; exact hv j v hj⟩
/-! calls that write what the caller owns -/
def OkK (P : Program) (f : FuncId) (vs : List Value) (W : GW) (R : GW → Value → Prop) : Prop :=
  (∃ fn, P.funcs[f]? = some fn ∧ (fn.name == "runtime.NumGoroutine") = false ∧ fn.body.isSome = true) ∧
  Calls P f vs.toArray W.w fun e w' => ∃ W' v, e = .returned v ∧ W'.w = w' ∧ LeK W W' ∧ R W' v
def FinK (P : Program) (fn : Func) (W0 : GW) (R : GW → Value → Prop) : Exit → Act → World → Prop :=
  bodyPost P fn (fun e w' => ∃ W' v, e = .returned v ∧ W'.w = w' ∧ LeK W0 W' ∧ R W' v)
theorem OkK.enter {f N : Nat} {fn : Func} {c : Code} {vs : List Value} {R : GW → Value → Prop} (hf : P.funcs[f]? = some fn) (hname : (fn.name == "runtime.NumGoroutine") = false) (hb : fn.body = some c)
    (hN : fn.ntmps = N) (hl : Nat.ble vs.length N = true) (h : J P N [.c c] (FinK P fn W R) (argEnv 0 vs) W) : OkK P f vs W R := by
  refine ⟨⟨fn, hf, hname, by rw [hb]; rfl⟩, calls_of_wp hf hb ?_⟩
  have hl' : vs.length ≤ N := Nat.le_of_ble_eq_true hl
  have := h { tmps := vs.toArray ++ Array.replicate (fn.ntmps - vs.toArray.size) undef, defers := [] } ⟨rfl, by simp [hN]; omega, fun t v ht => ?_⟩
  · refine wp_mono this ?_
    intro e a w h
    cases e <;> exact h
  · rw [look_argEnv] at ht
    simp at ht
    have hlt : t < vs.length := by
      by_cases h : t < vs.length
      · exact h
      · rw [List.getElem?_eq_none (by omega)] at ht; cases ht
    rw [List.getElem?_eq_getElem hlt] at ht
    injection ht with ht
    simp only [Array.getD]
    rw [dif_pos (by simp; omega)]
    simp [Array.getElem_append_left, hlt, ht]
theorem O.callK {f : FuncId} {args : List Operand} {tys : Array TypeId} {vs : List Value} {R : GW → Value → Prop} (hx : getL env args = some vs) (hc : OkK P f vs W R)
    (k : ∀ W' v, Lk1 W W' → R W' v → JO P n ops l K fin ((d, v) :: env) W') : JO P n ops (⟨some d, .call ⟨.value (.func f), args.toArray, tys⟩, ty, pos, aft, none⟩ :: l) K fin env W := by
  obtain ⟨⟨fn, h1, h2, h3⟩, hcl⟩ := hc
  intro hok a ha
  have hw : Region.wanted ⟨some d, .call ⟨.value (.func f), args.toArray, tys⟩, ty, pos, aft, none⟩ (yielded ops a.tmps) = true := rfl
  simp only [wpL, hw, if_true]
  have hargs := ha.getL hx
  have hr : (execOp a.eval ⟨some d, .call ⟨.value (.func f), args.toArray, tys⟩, ty, pos, aft, none⟩).run P W.w = .ok (.enter f vs.toArray) W.w := by
    have hb : fn.body.isNone = false := by cases hh : fn.body <;> simp_all
    have ea : args.toArray.map a.eval = vs.toArray := by simpa using hargs
    have eg : a.eval (.func f) = .func (.func f) #[] #[] := rfl
    simp only [execOp, resolve, ea, eg, Deferred.ofValue]
    simp [invoke, callFunc, program, bind, Sem.bind, Sem.run, pure, h1, hb]
    have h2' : ¬ fn.name = "runtime.NumGoroutine" := by simpa using h2
    simp only [h2', if_false]
    have hb' : ¬ fn.body = none := fun h => by rw [h] at h3; cases h3
    rw [if_neg hb']
  unfold Oper.wp
  rw [hr, Oper.upon_enter]
  refine hcl.mono ?_
  rintro e w' ⟨W', v, rfl, hW, hE, hR⟩
  rw [← hW]
  exact k W' v ⟨hE⟩ hR (JO.unok hok) _ (ha.put (JO.dst hok) v)
theorem results0 {fn : Func} {a : Act} (hres : fn.results = #[]) {w : World} : (results fn a.tmps).run P w = .ok (.tuple #[]) w := by
  unfold results
  rw [hres, Sem.run_bind]
  simp
theorem J.endK0 {fn : Func} {W0 : GW} {R : GW → Value → Prop} [j : Lk W0 W] (hres : fn.results = #[]) (h : R W (.tuple #[])) : J P n [] (FinK P fn W0 R) env W :=
  fun a ha => ⟨ha.defers, _, results0 hres, W, _, rfl, rfl, j.s, h⟩
theorem J.retK1 {fn : Func} {W0 : GW} {R : GW → Value → Prop} {r1 : ResultVar} {v1 : Value} [j : Lk W0 W] (hres : fn.results = #[r1]) (h1 : ResAt P env W r1 v1) (h : R W v1) : J P n (.c .ret :: K) (FinK P fn W0 R) env W :=
  J.ret fun a ha => ⟨ha.defers, _, results1 ha hres h1, W, _, rfl, rfl, j.s, h⟩
/-- the address of a word in a part of one's own slice: from q on -/
theorem O.iaQ {T E by' : Nat} {z : List Value} {x y : Operand} {b q : Nat} {m2 c2 j : Nat} {k' : IntKind} {jj : Int} [i : TSl P T E 1 by' z]
    (hx : get env x = some (.slice (some ⟨b, q, none⟩) m2 c2)) (hy : get env y = some (.int k' jj)) (hjj : jj = (j : Int)) (hj : j < m2)
    (k : JO P n ops l K fin ((d, .pointer (some ⟨b, 0 + (q + j) * RW.size, none⟩)) :: env) W) :
    JO P n ops (⟨some d, .indexAddr T x y, ty, pos, aft, none⟩ :: l) K fin env W := by
  refine O.ia hx hy hjj hj ?_
  have e : q + j * 1 = 0 + (q + j) * RW.size := by show _ = 0 + (q + j) * 1; omega
  rw [e]
  exact k
/-- a word of one's own, by its place -/
theorem O.ldQ {T : TypeId} {z : List Value} {x : Operand} {b m c j u : Nat} {xs : List Nat} [i : TVar P T 1 false z] (hx : get env x = some (.pointer (some ⟨b, 0 + j * RW.size, none⟩))) (hs : Ows RW W (some ⟨b, 0, none⟩) m c xs) (hj : xs[j]? = some u)
    (k : JO P n ops l K fin ((d, .int .u32 (u : Int)) :: env) W) : JO P n ops (⟨some d, .load T x, ty, pos, aft, none⟩ :: l) K fin env W :=
  O.ldC hx (by
    obtain ⟨b', e', hp, he, hv⟩ := hs.cells hj
    injection hp with hp
    injection hp with hp _ _
    subst hp
    exact hv 0 (.int .u32 (u : Int)) (by rw [he.1]; rfl)) k
/-- a part of one's own slice -/
theorem O.slQ {T : TypeId} {E sz by' : Nat} {z : List Value} {x y1 y2 : Operand} {b q m c lo hi : Nat} {k1 k2 : IntKind} {li hh : Int} [i : TSl P T E sz by' z]
    (hx : get env x = some (.slice (some ⟨b, q, none⟩) m c)) (h1 : get env y1 = some (.int k1 li)) (h2 : get env y2 = some (.int k2 hh)) (hli : li = (lo : Int)) (hhh : hh = (hi : Int)) (hlo : lo ≤ hi) (hhi : hi ≤ c) (hlc : lo < c)
    (k : JO P n ops l K fin ((d, .slice (some ⟨b, q + lo * sz, none⟩) (hi - lo) (c - lo)) :: env) W) : JO P n ops (⟨some d, .slice T x (some y1) (some y2) none, ty, pos, aft, none⟩ :: l) K fin env W := by
  refine O.sl hx h1 h2 hli hhh hlo hhi ?_
  rw [if_neg (by omega)]
  have e : (some (⟨b, q, none⟩ : Addr)).map (·.add (lo * sz)) = some ⟨b, q + lo * sz, none⟩ := by
    show some (Addr.add _ _) = _
    rw [add0]
  rw [e]
  exact k
end
end
end
end Go.Rx

/- The base of the walks: ghost worlds, how a datum lies in cells, the judgement on code. Nothing of the program is named here. -/
import Derived.WalkKit
set_option linter.unusedVariables false
set_option linter.unusedSimpArgs false
namespace Go.Rx
open Go

/-- A world, the blocks that no datum may lie in (variables and arrays that are still written), and the heap's size when the function began. -/
structure GW where
  w : World
  A : List Nat
  m : Nat
  hA : ∀ k ∈ A, k < w.heap.size
  hm : m ≤ w.heap.size

abbrev GW.size (W : GW) : Nat := W.w.heap.size

/-- What facts on data need: blocks outside A stay as they are and stay outside A. -/
structure LeF (W W' : GW) : Prop where
  size : W.size ≤ W'.size
  same : ∀ k, k < W.size → k ∉ W.A → W'.w.heap[k]? = W.w.heap[k]?
  stay : ∀ k, k < W.size → k ∉ W.A → k ∉ W'.A

theorem LeF.refl (W : GW) : LeF W W := ⟨Nat.le_refl _, fun _ _ _ => rfl, fun _ _ h => h⟩
theorem LeF.trans {a b c : GW} (h : LeF a b) (k : LeF b c) : LeF a c where
  size := Nat.le_trans h.size k.size
  same := fun i hi hn => (k.same i (Nat.lt_of_lt_of_le hi h.size) (h.stay i hi hn)).trans (h.same i hi hn)
  stay := fun i hi hn => k.stay i (Nat.lt_of_lt_of_le hi h.size) (h.stay i hi hn)

/-- A later world of the same function. -/
structure LeS (W W' : GW) : Prop where
  os : W'.w.os = W.w.os
  out : W'.w.output = W.w.output
  tape : W'.w.tape = W.w.tape
  m : W'.m = W.m
  size : W.size ≤ W'.size
  same : ∀ k, k < W.size → (k < W.m ∨ k ∉ W.A) → W'.w.heap[k]? = W.w.heap[k]?
  stay : ∀ k, k < W.size → k ∉ W.A → k ∉ W'.A
  prot : ∀ k, k < W.m → k ∈ W.A → k ∈ W'.A
  row : ∀ (k : Nat) (c : Array Value) (T : TypeId) (fr : Nat × Nat), W.w.heap[k]? = some (Obj.cells c T fr) → ∃ c' : Array Value, W'.w.heap[k]? = some (Obj.cells c' T fr) ∧ c'.size = c.size

theorem LeS.f {W W' : GW} (h : LeS W W') : LeF W W' := ⟨h.size, fun k hk hn => h.same k hk (.inr hn), h.stay⟩
theorem LeS.refl (W : GW) : LeS W W := ⟨rfl, rfl, rfl, rfl, Nat.le_refl _, fun _ _ _ => rfl, fun _ _ h => h, fun _ _ h => h, fun _ c _ _ h => ⟨c, h, rfl⟩⟩

theorem LeS.trans {a b c : GW} (h : LeS a b) (k : LeS b c) : LeS a c where
  os := k.os.trans h.os
  out := k.out.trans h.out
  tape := k.tape.trans h.tape
  m := k.m.trans h.m
  size := Nat.le_trans h.size k.size
  same := fun i hi hp => by
    have h1 := h.same i hi hp
    have h2 : i < b.m ∨ i ∉ b.A := by
      rcases hp with hp | hp
      · exact .inl (by rw [h.m]; exact hp)
      · exact .inr (h.stay i hi hp)
    exact (k.same i (Nat.lt_of_lt_of_le hi h.size) h2).trans h1
  stay := fun i hi hn => k.stay i (Nat.lt_of_lt_of_le hi h.size) (h.stay i hi hn)
  prot := fun i hi hn => k.prot i (by rw [h.m]; exact hi) (h.prot i hi hn)
  row := fun i c T fr hc => by
    obtain ⟨c1, h1, e1⟩ := h.row i c T fr hc
    obtain ⟨c2, h2, e2⟩ := k.row i c1 T fr h1
    exact ⟨c2, h2, e2.trans e1⟩

/-- One step; the chain of steps is found by instances. -/
class Le1 (W : outParam GW) (W' : GW) : Prop where
  s : LeS W W'
class Le (W W' : GW) : Prop where
  s : LeS W W'
instance (priority := 2000) Le.rf (W : GW) : Le W W := ⟨LeS.refl W⟩
instance (priority := 100) Le.st {W W1 W2 : GW} [i : Le1 W1 W2] [j : Le W W1] : Le W W2 := ⟨j.s.trans i.s⟩
/-- A later world in which nothing has been published: what is being written may still be written. -/
structure LeK (W W' : GW) : Prop extends LeS W W' where
  keep : ∀ k, k ∈ W.A → k ∈ W'.A
theorem LeK.refl (W : GW) : LeK W W := { LeS.refl W with keep := fun _ h => h }
theorem LeK.trans {a b c : GW} (h : LeK a b) (k : LeK b c) : LeK a c := { h.toLeS.trans k.toLeS with keep := fun i hi => k.keep i (h.keep i hi) }
class Lk1 (W : outParam GW) (W' : GW) : Prop where
  s : LeK W W'
class Lk (W W' : GW) : Prop where
  s : LeK W W'
instance (priority := 2000) Lk.rf (W : GW) : Lk W W := ⟨LeK.refl W⟩
instance (priority := 100) Lk.st {W W1 W2 : GW} [i : Lk1 W1 W2] [j : Lk W W1] : Lk W W2 := ⟨j.s.trans i.s⟩
instance (priority := 50) Le1.ofK {W W1 : GW} [i : Lk1 W W1] : Le1 W W1 := ⟨i.s.toLeS⟩
instance (priority := 10) Le.ofK {W W1 : GW} [i : Lk W W1] : Le W W1 := ⟨i.s.toLeS⟩
/-- The entry of a function: the mark is set. -/
class En (W : GW) (W1 : outParam GW) : Prop where
  w : W1.w = W.w
  A : W1.A = W.A
  m : W1.m = W.size
/-- The exit: the caller's mark is set again. -/
class Ex (W : outParam GW) (W' : GW) : Prop where
  w : W'.w = W.w
  A : ∀ k ∈ W'.A, k ∈ W.A
  m : W'.m ≤ W.m
/-- The exit at which all that the function made is published. -/
class Pub (W W' : GW) : Prop where
  p : ∀ k ∈ W'.A, k < W.m
/-- The exit at which what the function made may still be written. -/
class Own1 (W W' : GW) : Prop where
  A : W'.A = W.A
class Lf (W W' : GW) : Prop where
  s : LeF W W'
theorem En.f {W W1 : GW} (h : En W W1) : LeF W W1 := ⟨by rw [GW.size, GW.size, h.w]; exact Nat.le_refl _, fun _ _ _ => by rw [h.w], fun _ _ hn => by rw [h.A]; exact hn⟩
theorem Ex.f {W W1 : GW} (h : Ex W W1) : LeF W W1 := ⟨by rw [GW.size, GW.size, h.w]; exact Nat.le_refl _, fun _ _ _ => by rw [h.w], fun _ _ hn ha => hn (h.A _ ha)⟩
instance (priority := 100) Lf.ex {W W1 W' : GW} [i : Ex W1 W'] [j : Lf W W1] : Lf W W' := ⟨j.s.trans i.f⟩
instance (priority := 200) Lf.en {W W1 W' : GW} [i : En W W1] [j : Le W1 W'] : Lf W W' := ⟨i.f.trans j.s.f⟩
instance (priority := 300) Lf.le {W W' : GW} [j : Le W W'] : Lf W W' := ⟨j.s.f⟩

/-- What a call gives: a later world in which EVERY old block is as it was. -/
structure Ext (W W' : GW) : Prop extends LeK W W' where
  all : ∀ k, k < W.size → W'.w.heap[k]? = W.w.heap[k]?

theorem Ext.refl (W : GW) : Ext W W := { LeK.refl W with all := fun _ _ => rfl }
theorem Ext.trans {a b c : GW} (h : Ext a b) (k : Ext b c) : Ext a c :=
  { h.toLeK.trans k.toLeK with all := fun i hi => (k.all i (Nat.lt_of_lt_of_le hi h.size)).trans (h.all i hi) }

theorem cell_of_heap {w w' : World} {a : Addr} (h : w'.heap[a.block]? = w.heap[a.block]?) : w'.cell? a = w.cell? a := World.cell?_of_block (w := w) h

theorem cell_lt {w : World} {a : Addr} {v : Value} (h : w.cell? a = some v) : a.block < w.heap.size := by
  unfold World.cell? at h
  by_cases hb : a.block < w.heap.size
  · exact hb
  · rw [Array.getElem?_eq_none (by omega)] at h; cases h

/-- A value of one cell. -/
def oneC : Value → Bool
  | .agg _ | .tuple _ => false
  | _ => true

/-- How a datum of type α lies in cells. -/
structure Rep (α : Type) where
  size : Nat
  agg : Bool
  At : GW → List Value → α → Prop
  len : ∀ {W : GW} {cs : List Value} {x : α}, At W cs x → cs.length = size
  mono : ∀ {W W' : GW} {cs : List Value} {x : α}, LeF W W' → At W cs x → At W' cs x
  one : ∀ {W : GW} {cs : List Value} {x : α}, At W cs x → ∀ v ∈ cs, oneC v = true

/-- The value that bears these cells. -/
def mkv (agg : Bool) (cs : List Value) : Value := if agg then .agg cs.toArray else cs.headD undef

/-- v is, in W, the datum x. -/
def V {α : Type} (r : Rep α) (W : GW) (v : Value) (x : α) : Prop := ∃ cs, r.At W cs x ∧ v = mkv r.agg cs

theorem V.mono {α : Type} {r : Rep α} {W W' : GW} {v : Value} {x : α} (h : V r W v x) (l : LeF W W') : V r W' v x :=
  let ⟨cs, a, e⟩ := h; ⟨cs, r.mono l a, e⟩
theorem V.to {α : Type} {r : Rep α} {W W' : GW} {v : Value} {x : α} (h : V r W v x) [l : Lf W W'] : V r W' v x := h.mono l.s

/-- A row of data from p on. -/
def SlAt {α : Type} (r : Rep α) (W : GW) (p : Option Addr) (xs : List α) : Prop :=
  xs = [] ∨ ∃ b off, p = some ⟨b, off, none⟩ ∧ b < W.size ∧ b ∉ W.A ∧
    ∀ i x, xs[i]? = some x → ∃ c, r.At W c x ∧ ∀ j v, c[j]? = some v → W.w.cell? ⟨b, off + (i * r.size + j), none⟩ = some v

theorem SlAt.mono {α : Type} {r : Rep α} {W W' : GW} {p : Option Addr} {xs : List α} (l : LeF W W') (h : SlAt r W p xs) : SlAt r W' p xs := by
  rcases h with h | ⟨b, off, hp, hb, hA, hx⟩
  · exact .inl h
  · refine .inr ⟨b, off, hp, Nat.lt_of_lt_of_le hb l.size, l.stay b hb hA, fun i x hi => ?_⟩
    obtain ⟨c, hc, hv⟩ := hx i x hi
    refine ⟨c, r.mono l hc, fun j v hj => ?_⟩
    rw [cell_of_heap (l.same b hb hA)]
    exact hv j v hj

/-- A slice of data. -/
structure Sl {α : Type} (r : Rep α) (W : GW) (p : Option Addr) (n c : Nat) (xs : List α) : Prop where
  hn : n = xs.length
  hc : n ≤ c
  hC : c < 9223372036854775808
  at' : SlAt r W p xs

theorem Sl.mono {α : Type} {r : Rep α} {W W' : GW} {p : Option Addr} {n c : Nat} {xs : List α} (l : LeF W W') (h : Sl r W p n c xs) : Sl r W' p n c xs :=
  ⟨h.hn, h.hc, h.hC, h.at'.mono l⟩
theorem Sl.to {α : Type} {r : Rep α} {W W' : GW} {p : Option Addr} {n c : Nat} {xs : List α} (h : Sl r W p n c xs) [l : Lf W W'] : Sl r W' p n c xs := h.mono l.s

def RSl {α : Type} (r : Rep α) : Rep (List α) where
  size := 1
  agg := false
  At := fun W cs xs => ∃ p n c, cs = [.slice p n c] ∧ Sl r W p n c xs
  len := fun ⟨p, n, c, h, _⟩ => by rw [h]; rfl
  mono := fun l ⟨p, n, c, h, s⟩ => ⟨p, n, c, h, s.mono l⟩
  one := fun ⟨p, n, c, h, _⟩ v hv => by subst h; simp at hv; subst hv; rfl

def RB : Rep Bool where
  size := 1
  agg := false
  At := fun W cs x => cs = [.bool x]
  len := fun h => by rw [h]; rfl
  mono := fun _ h => h
  one := fun h v hv => by subst h; simp at hv; subst hv; rfl

/-- A word. -/
def RW : Rep Nat where
  size := 1
  agg := false
  At := fun W cs x => cs = [.int .u32 (x : Int)] ∧ x < 4294967296
  len := fun h => by rw [h.1]; rfl
  mono := fun _ h => h
  one := fun h v hv => by rw [h.1] at hv; simp at hv; subst hv; rfl

/-- Two data side by side: a struct. -/
def RP {α β : Type} (r : Rep α) (s : Rep β) : Rep (α × β) where
  size := r.size + s.size
  agg := true
  At := fun W cs x => ∃ c d, cs = c ++ d ∧ r.At W c x.1 ∧ s.At W d x.2
  len := fun ⟨c, d, h, a, b⟩ => by rw [h, List.length_append, r.len a, s.len b]
  mono := fun l ⟨c, d, h, a, b⟩ => ⟨c, d, h, r.mono l a, s.mono l b⟩
  one := fun ⟨c, d, h, a, b⟩ v hv => by
    subst h
    rcases List.mem_append.1 hv with h | h
    · exact r.one a v h
    · exact s.one b v h

theorem V.sl {α : Type} {r : Rep α} {W : GW} {v : Value} {xs : List α} (h : V (RSl r) W v xs) : ∃ p n c, v = .slice p n c ∧ Sl r W p n c xs := by
  obtain ⟨cs, ⟨p, n, c, h, s⟩, e⟩ := h
  subst h
  exact ⟨p, n, c, e, s⟩
theorem Sl.v {α : Type} {r : Rep α} {W : GW} {p : Option Addr} {n c : Nat} {xs : List α} (h : Sl r W p n c xs) : V (RSl r) W (.slice p n c) xs :=
  ⟨[.slice p n c], ⟨p, n, c, rfl, h⟩, rfl⟩
theorem V.pair {α β : Type} {r : Rep α} {s : Rep β} {W : GW} {v : Value} {x : α × β} (h : V (RP r s) W v x) :
    ∃ c d, v = .agg (c ++ d).toArray ∧ r.At W c x.1 ∧ s.At W d x.2 := by
  obtain ⟨cs, ⟨c, d, h, a, b⟩, e⟩ := h
  subst h
  exact ⟨c, d, e, a, b⟩
theorem nil_sl {α : Type} (r : Rep α) (W : GW) (p : Option Addr) : Sl r W p 0 0 [] := ⟨rfl, Nat.le_refl _, by decide, .inl rfl⟩

/-- One cell of a slice whose data are one cell each. -/
theorem Sl.cells {α : Type} {r : Rep α} {W : GW} {p : Option Addr} {n c : Nat} {xs : List α} (h : Sl r W p n c xs) {i : Nat} {x : α} (hi : xs[i]? = some x) :
    ∃ b off cs, p = some ⟨b, off, none⟩ ∧ r.At W cs x ∧ ∀ j v, cs[j]? = some v → W.w.cell? ⟨b, off + (i * r.size + j), none⟩ = some v := by
  rcases h.at' with h | ⟨b, off, hp, hb, hA, hx⟩
  · subst h; simp at hi
  · obtain ⟨cs, hc, hv⟩ := hx i x hi
    exact ⟨b, off, cs, hp, hc, hv⟩

/-- Part of a slice: from l to h. -/
theorem SlAt.sub {α : Type} {r : Rep α} {W : GW} {p : Option Addr} {xs : List α} (h : SlAt r W p xs) (l m : Nat) (q : Option Addr)
    (hq : ∀ b off, p = some ⟨b, off, none⟩ → l < xs.length → q = some ⟨b, off + l * r.size, none⟩) : SlAt r W q ((xs.drop l).take m) := by
  rcases h with h | ⟨b, off, hp, hb, hA, hx⟩
  · subst h; exact .inl (by simp)
  · by_cases hl : l < xs.length
    · refine .inr ⟨b, off + l * r.size, hq b off hp hl, hb, hA, fun i x hi => ?_⟩
      have hi' : xs[l + i]? = some x := by
        rw [List.getElem?_take] at hi
        split at hi
        · rwa [List.getElem?_drop] at hi
        · cases hi
      obtain ⟨cs, hc, hv⟩ := hx _ x hi'
      refine ⟨cs, hc, fun j v hj => ?_⟩
      have := hv j v hj
      rw [show off + l * r.size + (i * r.size + j) = off + ((l + i) * r.size + j) from by rw [Nat.add_mul]; omega]
      exact this
    · exact .inl (by rw [List.drop_eq_nil_of_le (by omega)]; simp)
end Go.Rx

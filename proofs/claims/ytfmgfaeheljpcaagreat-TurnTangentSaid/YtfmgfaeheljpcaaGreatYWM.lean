/- The abstract machine: an element's place in an array that a variable holds. -/
import Derived.Test.YtfmgfaeheljpcaaGreatYWJ
set_option linter.unusedVariables false
set_option linter.unusedSimpArgs false
namespace Go.Vm
open Go
section
variable {c : Cx} {s : St} {p : Pl}
noncomputable def nxAr (tb : Nat → Option TI) (n : Nat) (s : St) : Option (Pl × Nat × Nat × Int × Nat × Nat) := match nxA tb n s with
  | some (p, o, [.ptr q off, .d (.int _ j)]) => match o.op with
    | .indexAddr T _ _ => match tb T with
      | some ⟨.st _, e, _, ar⟩ => some (p, q, off, j, e.size, ar)
      | _ => none
    | _ => none
  | _ => none
theorem Ia (i : Nat) {q off sz ar : Nat} {j : Int} (h : nxAr c.tb c.n s = some (p, q, off, j, sz, ar)) (hi : i < ar) (kk : p.nx c (.ptr q (off + i * sz))) (hj : j = (i : Int) := by first | exact rfl | omega) : StP c s := by
  subst hj
  unfold nxAr at h
  split at h <;> try cases h
  rename_i p' o q1 off1 k1 j1 hA
  split at h <;> try cases h
  rename_i T x y ho
  split at h <;> try cases h
  rename_i z e eb ht
  refine nxA_ok (v := .ptr q (off + i * e.size)) (us := []) hA ?_ (Pl.nx_nil kk)
  rw [ho]
  simp [F, Fp, ht, hi]
end
end Go.Vm

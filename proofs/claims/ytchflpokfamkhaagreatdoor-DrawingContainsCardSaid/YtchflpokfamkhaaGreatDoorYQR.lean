/- DrawingContains: The box of Bounds contains the ends, the middle and the common points of the curves (up to three); the arguments read afterwards as before. -/
import Derived.Test.YtchflpokfamkhaaGreatDoorXP
set_option linter.unusedVariables false
set_option linter.unusedSimpArgs false
set_option maxRecDepth 100000
namespace Go.Proofs.YtchflpokfamkhaaGreatDoor
open P55 Go Go.Vm Go.ChangeShapes Go.WideShapes Go.ChangeAt Go.RowKit
theorem DrawingContains_args : Args Tryz.prog [22, 5] fun ds => ∃ x0 y0, ds = x0 :: y0 ∧ (∃ l : List Dft, x0 = Yfp l ∧ l.length < 9223372036854775808 ∧ ∀ y ∈ l, y.ok) ∧ (∃ x1 y1, y0 = x1 :: y1 ∧ (∃ n : Nat, x1 = .int .u8 n ∧ n < 256) ∧ (y1 = [])) := .cons Xsi (by kernel_rfl) (of_decide_eq_true (by kernel_rfl)) (.cons Yk6 (by kernel_rfl) (of_decide_eq_true (by kernel_rfl)) (.nil))
theorem DrawingContains_at : ∀ xs : List D, (∃ x0 y0, xs = x0 :: y0 ∧ (∃ l : List Dft, x0 = Yfp l ∧ l.length < 9223372036854775808 ∧ ∀ y ∈ l, y.ok) ∧ (∃ x1 y1, y0 = x1 :: y1 ∧ (∃ n : Nat, x1 = .int .u8 n ∧ n < 256) ∧ (y1 = []))) → C Tryz.prog 3 (xs.map .d) (· = .b true) := fun xs ⟨_, _, e0, ⟨l, q0, hl, hd⟩, ⟨_, _, e1, ⟨n, q1, hn⟩, e2⟩⟩ => by subst e0; subst q0; subst e1; subst q1; subst e2; exact R55.DrawingContains_ok hl hd hn
theorem drawingContains_reads (os : Os) {H : Type} (enc : TypeId × Value → H) : ∃ places, DataW.whole enc Tryz.prog ((Xds os).forCall (fun _ _ => 0) ⟨#[], #[.slice none 0 0, .int .u8 0], []⟩).memory Tryz.f3.params.toList Rows.drawingContainsSpec.vars false (#[.slice none 0 0, .int .u8 0] : Array Value).toList 8 = some ([.nil, .lit (.int .u8 0)], [], places) :=
  ⟨[], by kernel_rfl⟩
theorem drawingContains_v (os : Os) : ((Xds os).forCall (fun _ _ => 0) ⟨#[], #[.slice none 0 0, .int .u8 0], []⟩).variablesB Tryz.checked.prog = true := by kernel_rfl
theorem drawingContains_r (os : Os) : (((Xds os).forCall (fun _ _ => 0) ⟨#[], #[.slice none 0 0, .int .u8 0], []⟩).heap.toList.drop Tryz.checked.prog.globals.size).take ((begin Tryz.checked.prog (fun _ _ => 0) default).world.heap.size - Tryz.checked.prog.globals.size) = (begin Tryz.checked.prog (fun _ _ => 0) default).world.heap.toList.drop Tryz.checked.prog.globals.size := by kernel_rfl
theorem drawingContains_k (os : Os) : Input.okWideB Tryz.checked.prog ((Xds os).forCall (fun _ _ => 0) ⟨#[], #[.slice none 0 0, .int .u8 0], []⟩) 3 ⟨#[], #[.slice none 0 0, .int .u8 0], []⟩ = true := by kernel_rfl
theorem drawingContains_lifted (os : Os) (started : os.Started) (H : Type) (enc : TypeId × Value → H) (F : Stop.Interp) :
    ReturnsInHanded {} Tryz.checked os 3 .any ((OpenSpec.ofChange Rows.drawingContainsSpec).preRow enc Tryz.prog Tryz.f3 Rows.drawingContainsRow.domain false Rows.drawingContainsRow.laid) (((OpenSpec.ofChange Rows.drawingContainsSpec).at F).post enc Tryz.prog Tryz.f3 false true false false) := by
  obtain ⟨places, hx⟩ := drawingContains_reads os enc
  refine returnsInHanded_of_row (C := Tryz.checked) (s := OpenSpec.ofChange Rows.drawingContainsSpec) own started (by kernel_rfl) Tryz.func3
    (witness_row_at (enc := enc) (C := Tryz.checked) false (Xds os) #[.slice none 0 0, .int .u8 0] rfl (drawingContains_v os) (drawingContains_r os) (drawingContains_k os)
      (OpenSpec.preRow_of_cond 8 hx (by kernel_rfl) (fun k hk => by cases hk) (by kernel_rfl) (Xzo os _))) ?_
  intro W base args ds gs before hval hW _ _ _ hL _ _
  exact Ypv Yev Tryz.underlying4 (s := Rows.drawingContainsSpec) DrawingContains_args rfl rfl (fun ds h => match ds, h with | [_, _], _ => rfl) DrawingContains_at W base args ds gs before hval hW (Ync hL)
theorem drawingContains_1 : (Rows.drawingContainsRow.wf (OpenSpec.ofChange Rows.drawingContainsSpec) && laidOutB Tryz.prog && mapsRowed Tryz.prog) = true := by kernel_rfl
theorem drawingContains_4 : (Rows.drawingContainsRow.unfollowed == Tryz.prog.unfollowed 3) = true := by kernel_rfl
theorem drawingContains_3 : (Rows.drawingContainsRow.inPlace == Tryz.prog.inPlace 3) = true := by kernel_rfl
theorem drawingContains_5 : (Rows.drawingContainsRow.recurses == Tryz.prog.recurses 3) = true := by kernel_rfl
theorem drawingContains_6 : (Rows.drawingContainsRow.named == Tryz.prog.varsNamed 3) = true := by kernel_rfl
theorem drawingContains_8 : (Rows.drawingContainsSpec.vars.all (Tryz.prog.varReadable ·) && Tryz.f3.resultTypes.all (fun t => Tryz.prog.readableRec t && decide (t < Tryz.prog.types.size)) && (Rows.drawingContainsRow.ifacesOut == Tryz.f3.resultTypes.toList.any (Tryz.prog.ifacesRec ·)) && (Rows.drawingContainsRow.loopsOut == Tryz.f3.resultTypes.toList.any (Tryz.prog.loopsFrom ·)) && (Rows.drawingContainsRow.plainKeys == Tryz.prog.plainKeys) && Rows.drawingContainsRow.shortTexts.isNone && Tryz.prog.stopsHeard && Tryz.prog.mayEnter) = true := by kernel_rfl
theorem drawingContains_9 : ((Rows.drawingContainsRow.lifted == Tryz.prog.liftsFinal) && (Tryz.prog.make == some Rows.drawingContainsRow.make) && (Rows.drawingContainsRow.kinds == (if Rows.drawingContainsRow.domain.isEmpty then [] else Tryz.f3.params.toList.map fun t => match Tryz.prog.underlying t with | some (.int k) => some k | _ => none)) && (Rows.drawingContainsRow.pinned == Rows.drawingContainsRow.pinnedBy)) = true := by kernel_rfl
theorem drawingContains_facts : joinedFacts Tryz.prog 3 Tryz.f3 Rows.drawingContainsSpec Rows.drawingContainsRow = true :=
  Xz3 drawingContains_1 (by kernel_rfl) drawingContains_3 drawingContains_4 drawingContains_5 drawingContains_6 (by kernel_rfl) drawingContains_8 drawingContains_9 (by kernel_rfl)
theorem drawingContains_said : Rows.DrawingContainsSaid :=
  OpenClaim.holds_of_cond 3 Tryz.f3 rfl rfl rfl rfl rfl rfl rfl ⟨rfl, rfl, rfl, rfl, rfl⟩ rfl rfl rfl rfl rfl (by kernel_rfl) Tryz.func3 drawingContains_facts
    (of_decide_eq_true (by kernel_rfl)) (by unfold Func.isWrapper; rw [if_neg (of_decide_eq_false (by kernel_rfl))]; exact ⟨rfl, rfl⟩)
    (fun os started H enc _ F => by rw [OpenClaim.pre_eq_preRow]; exact drawingContains_lifted os started H enc F)
theorem drawingContains_plain (f : FuncId) (fn : Func) (hf : Tryz.pinned.checked.prog.funcNamed "setsquare/setsquarelaw55.DrawingContains" = some f) (hfn : Tryz.pinned.checked.prog.funcs[f]? = some fn) :
    false = Tryz.pinned.checked.prog.looks [] ∧ ∀ (j : Nat) t, fn.params[j]? = some t → Tryz.pinned.checked.prog.wantsStandIn t = false := by
  obtain rfl : f = 3 := Option.some.inj ((show Tryz.prog.funcNamed "setsquare/setsquarelaw55.DrawingContains" = some 3 by kernel_rfl).symm.trans hf) |>.symm
  obtain rfl : fn = Tryz.f3 := (Option.some.inj (Tryz.func3.symm.trans hfn)).symm
  refine ⟨by kernel_rfl, fun j t ht => ?_⟩
  have hm : t ∈ [22, 5] := by
    have := Array.mem_of_getElem? ht
    rw [show Tryz.f3.params = #[22, 5] by kernel_rfl] at this
    simpa using this
  exact (show ∀ t ∈ [22, 5], Tryz.prog.wantsStandIn t = false from fun t ht => by simp at ht; rcases ht with rfl | rfl <;> kernel_rfl) t hm
theorem goes_none : (Tryz.prog.funcs.toList.all fun fn => !fn.goes) = true := by kernel_rfl
theorem goes_of {P : Program} (h : (P.funcs.toList.all fun fn => !fn.goes) = true) (f : FuncId) : P.goes f = false := by
  have h1 : ∀ fn ∈ P.funcs.toList, fn.goes = false := fun fn hf => by simpa using List.all_eq_true.1 h fn hf
  unfold Program.goes
  rw [Bool.or_eq_false_iff]
  constructor
  · rw [Bool.eq_false_iff]
    intro e
    obtain ⟨g, _, hg⟩ := List.any_eq_true.1 e
    cases hx : P.funcs[g]? with
    | none => rw [hx] at hg; cases hg
    | some fn =>
      rw [hx] at hg
      have hg : fn.goes = true := hg
      rw [h1 fn (by have := Array.mem_of_getElem? hx; simpa using this)] at hg
      cases hg
  · rw [Bool.and_eq_false_iff]
    right
    rw [Bool.eq_false_iff]
    intro e
    rw [Array.any_eq_true'] at e
    obtain ⟨fn, hf, hg⟩ := e
    rw [h1 fn (by simpa using hf)] at hg
    cases hg
theorem goesBy_of {P : Program} {c : OpenClaim} (h : (P.funcs.toList.all fun fn => !fn.goes) = true) (hs : c.start = .entering) : false = c.goesBy P := by
  unfold OpenClaim.goesBy Program.goesAt Program.goesFrom
  rw [hs]
  cases hf : P.funcNamed c.func with
  | none => rfl
  | some f => exact (by simp [goes_of h f])
theorem DrawingContains_holds : Rows.DrawingContainsCardSaid :=
  Claim7.holds_tied_plain_at .later [] _ _ _ _ drawingContains_said (fun _ h => by cases h) (by kernel_rfl) (fun _ h => by cases h) drawingContains_row_tie rfl ⟨rfl, rfl⟩ (by kernel_rfl) rfl drawingContains_plain (goesBy_of (P := Tryz.prog) goes_none rfl)
#print axioms DrawingContains_holds
end Go.Proofs.YtchflpokfamkhaaGreatDoor

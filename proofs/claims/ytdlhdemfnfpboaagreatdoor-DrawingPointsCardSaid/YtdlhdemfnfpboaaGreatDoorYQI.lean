/- DrawingPoints: Points returns the end points of every text that consists of path data, and ErrSyntax for any other one (texts of at most 1000 bytes); the arguments read afterwards as before. -/
import Derived.Test.YtdlhdemfnfpboaaGreatDoorXF
set_option linter.unusedVariables false
set_option linter.unusedSimpArgs false
set_option maxRecDepth 100000
namespace Go.Proofs.YtdlhdemfnfpboaaGreatDoor
open P55 Go Go.Vm Go.ChangeShapes Go.WideShapes Go.ChangeAt Go.RowKit
theorem DrawingPoints_args : Args Tryz.prog [9] fun ds => ∃ x0 y0, ds = x0 :: y0 ∧ (∃ l : List UInt8, x0 = .str l ∧ l.length < 9223372036854775808) ∧ (y0 = []) := .cons Xye (by kernel_rfl) (of_decide_eq_true (by kernel_rfl)) (.nil)
theorem DrawingPoints_at : ∀ xs : List D, (∃ x0 y0, xs = x0 :: y0 ∧ (∃ l : List UInt8, x0 = .str l ∧ l.length < 9223372036854775808) ∧ (y0 = [])) → C Tryz.prog 3 (xs.map .d) (· = .b true) := fun xs ⟨_, _, e0, ⟨x, q0, hx⟩, e1⟩ => by subst e0; subst q0; subst e1; exact P56.DrawingPoints_ok
theorem drawingPoints_reads (os : Os) {H : Type} (enc : TypeId × Value → H) : ∃ places, DataW.whole enc Tryz.prog ((Xc2 os).forCall (fun _ _ => 0) ⟨#[], #[.string ByteArray.empty], []⟩).memory Tryz.f3.params.toList Rows.drawingPointsSpec.vars false (#[.string ByteArray.empty] : Array Value).toList 8 = some ([.lit (.string [])], [], places) :=
  ⟨[], by kernel_rfl⟩
theorem drawingPoints_v (os : Os) : ((Xc2 os).forCall (fun _ _ => 0) ⟨#[], #[.string ByteArray.empty], []⟩).variablesB Tryz.checked.prog = true := by kernel_rfl
theorem drawingPoints_r (os : Os) : (((Xc2 os).forCall (fun _ _ => 0) ⟨#[], #[.string ByteArray.empty], []⟩).heap.toList.drop Tryz.checked.prog.globals.size).take ((begin Tryz.checked.prog (fun _ _ => 0) default).world.heap.size - Tryz.checked.prog.globals.size) = (begin Tryz.checked.prog (fun _ _ => 0) default).world.heap.toList.drop Tryz.checked.prog.globals.size := by kernel_rfl
theorem drawingPoints_k (os : Os) : Input.okWideB Tryz.checked.prog ((Xc2 os).forCall (fun _ _ => 0) ⟨#[], #[.string ByteArray.empty], []⟩) 3 ⟨#[], #[.string ByteArray.empty], []⟩ = true := by kernel_rfl
theorem drawingPoints_lifted (os : Os) (started : os.Started) (H : Type) (enc : TypeId × Value → H) (F : Stop.Interp) :
    ReturnsInHanded {} Tryz.checked os 3 .any ((OpenSpec.ofChange Rows.drawingPointsSpec).preRow enc Tryz.prog Tryz.f3 Rows.drawingPointsRow.domain false Rows.drawingPointsRow.laid) (((OpenSpec.ofChange Rows.drawingPointsSpec).at F).post enc Tryz.prog Tryz.f3 false true false false) := by
  obtain ⟨places, hx⟩ := drawingPoints_reads os enc
  refine returnsInHanded_of_row (C := Tryz.checked) (s := OpenSpec.ofChange Rows.drawingPointsSpec) own started (by kernel_rfl) Tryz.func3
    (witness_row_at (enc := enc) (C := Tryz.checked) false (Xc2 os) #[.string ByteArray.empty] rfl (drawingPoints_v os) (drawingPoints_r os) (drawingPoints_k os)
      (OpenSpec.preRow_of_cond 8 hx (by kernel_rfl) (fun k hk => by cases hk) (by kernel_rfl) (Xxa os _))) ?_
  intro W base args ds gs before hval hW _ _ _ hL _ _
  exact Ylv Yb4 Tryz.underlying4 (s := Rows.drawingPointsSpec) DrawingPoints_args rfl rfl (fun ds h => match ds, h with | [_], _ => rfl) DrawingPoints_at W base args ds gs before hval hW (Yjl hL)
theorem drawingPoints_1 : (Rows.drawingPointsRow.wf (OpenSpec.ofChange Rows.drawingPointsSpec) && laidOutB Tryz.prog && mapsRowed Tryz.prog) = true := by kernel_rfl
theorem drawingPoints_4 : (Rows.drawingPointsRow.unfollowed == Tryz.prog.unfollowed 3) = true := by kernel_rfl
theorem drawingPoints_3 : (Rows.drawingPointsRow.inPlace == Tryz.prog.inPlace 3) = true := by kernel_rfl
theorem drawingPoints_5 : (Rows.drawingPointsRow.recurses == Tryz.prog.recurses 3) = true := by kernel_rfl
theorem drawingPoints_6 : (Rows.drawingPointsRow.named == Tryz.prog.varsNamed 3) = true := by kernel_rfl
theorem drawingPoints_8 : (Rows.drawingPointsSpec.vars.all (Tryz.prog.varReadable ·) && Tryz.f3.resultTypes.all (fun t => Tryz.prog.readableRec t && decide (t < Tryz.prog.types.size)) && (Rows.drawingPointsRow.ifacesOut == Tryz.f3.resultTypes.toList.any (Tryz.prog.ifacesRec ·)) && (Rows.drawingPointsRow.loopsOut == Tryz.f3.resultTypes.toList.any (Tryz.prog.loopsFrom ·)) && (Rows.drawingPointsRow.plainKeys == Tryz.prog.plainKeys) && Rows.drawingPointsRow.shortTexts.isNone && Tryz.prog.stopsHeard && Tryz.prog.mayEnter) = true := by kernel_rfl
theorem drawingPoints_9 : ((Rows.drawingPointsRow.lifted == Tryz.prog.liftsFinal) && (Tryz.prog.make == some Rows.drawingPointsRow.make) && (Rows.drawingPointsRow.kinds == (if Rows.drawingPointsRow.domain.isEmpty then [] else Tryz.f3.params.toList.map fun t => match Tryz.prog.underlying t with | some (.int k) => some k | _ => none)) && (Rows.drawingPointsRow.pinned == Rows.drawingPointsRow.pinnedBy)) = true := by kernel_rfl
theorem drawingPoints_facts : joinedFacts Tryz.prog 3 Tryz.f3 Rows.drawingPointsSpec Rows.drawingPointsRow = true :=
  Xxp drawingPoints_1 (by kernel_rfl) drawingPoints_3 drawingPoints_4 drawingPoints_5 drawingPoints_6 (by kernel_rfl) drawingPoints_8 drawingPoints_9 (by kernel_rfl)
theorem drawingPoints_said : Rows.DrawingPointsSaid :=
  OpenClaim.holds_of_cond 3 Tryz.f3 rfl rfl rfl rfl rfl rfl rfl ⟨rfl, rfl, rfl, rfl, rfl⟩ rfl rfl rfl rfl rfl (by kernel_rfl) Tryz.func3 drawingPoints_facts
    (of_decide_eq_true (by kernel_rfl)) (by unfold Func.isWrapper; rw [if_neg (of_decide_eq_false (by kernel_rfl))]; exact ⟨rfl, rfl⟩)
    (fun os started H enc _ F => by rw [OpenClaim.pre_eq_preRow]; exact drawingPoints_lifted os started H enc F)
theorem drawingPoints_plain (f : FuncId) (fn : Func) (hf : Tryz.pinned.checked.prog.funcNamed "setsquare/setsquarelaw55.DrawingPoints" = some f) (hfn : Tryz.pinned.checked.prog.funcs[f]? = some fn) :
    false = Tryz.pinned.checked.prog.looks [] ∧ ∀ (j : Nat) t, fn.params[j]? = some t → Tryz.pinned.checked.prog.wantsStandIn t = false := by
  obtain rfl : f = 3 := Option.some.inj ((show Tryz.prog.funcNamed "setsquare/setsquarelaw55.DrawingPoints" = some 3 by kernel_rfl).symm.trans hf) |>.symm
  obtain rfl : fn = Tryz.f3 := (Option.some.inj (Tryz.func3.symm.trans hfn)).symm
  refine ⟨by kernel_rfl, fun j t ht => ?_⟩
  have hm : t ∈ [9] := by
    have := Array.mem_of_getElem? ht
    rw [show Tryz.f3.params = #[9] by kernel_rfl] at this
    simpa using this
  exact (show ∀ t ∈ [9], Tryz.prog.wantsStandIn t = false from fun t ht => by simp at ht; subst ht; kernel_rfl) t hm
theorem goes_none : (Tryz.prog.funcs.toList.all fun fn => !fn.goes) = true := by kernel_rfl
theorem goes_of {P : Program} (h : (P.funcs.toList.all fun fn => !fn.goes) = true) (f : FuncId) : P.goes f = false := by
  have h1 : ∀ fn ∈ P.funcs.toList, fn.goes = false := fun fn hf => by simpa using List.all_eq_true.1 h fn hf
  unfold Program.goes
  rw [Bool.or_eq_false_iff]
  constructor
  · rw [Bool.eq_false_iff]
    intro e
    obtain ⟨g, _, hg⟩ := List.any_eq_true.1 e
    cases hx : P.funcs[g]? with
    | none => rw [hx] at hg; cases hg
    | some fn =>
      rw [hx] at hg
      have hg : fn.goes = true := hg
      rw [h1 fn (by have := Array.mem_of_getElem? hx; simpa using this)] at hg
      cases hg
  · rw [Bool.and_eq_false_iff]
    right
    rw [Bool.eq_false_iff]
    intro e
    rw [Array.any_eq_true'] at e
    obtain ⟨fn, hf, hg⟩ := e
    rw [h1 fn (by simpa using hf)] at hg
    cases hg
theorem goesBy_of {P : Program} {c : OpenClaim} (h : (P.funcs.toList.all fun fn => !fn.goes) = true) (hs : c.start = .entering) : false = c.goesBy P := by
  unfold OpenClaim.goesBy Program.goesAt Program.goesFrom
  rw [hs]
  cases hf : P.funcNamed c.func with
  | none => rfl
  | some f => exact (by simp [goes_of h f])
theorem DrawingPoints_holds : Rows.DrawingPointsCardSaid :=
  Claim7.holds_tied_plain_at .later [] _ _ _ _ drawingPoints_said (fun _ h => by cases h) (by kernel_rfl) (fun _ h => by cases h) drawingPoints_row_tie rfl ⟨rfl, rfl⟩ (by kernel_rfl) rfl drawingPoints_plain (goesBy_of (P := Tryz.prog) goes_none rfl)
#print axioms DrawingPoints_holds
end Go.Proofs.YtdlhdemfnfpboaaGreatDoor

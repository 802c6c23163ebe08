/- DrawingError: Error accepts exactly path data that differ from those of a path by rounding only (texts of at most 1000 bytes); the arguments read afterwards as before. -/
import Derived.Test.YtclgppjdhndgiaaGreatDoorXF
set_option linter.unusedVariables false
set_option linter.unusedSimpArgs false
set_option maxRecDepth 100000
namespace Go.Proofs.YtclgppjdhndgiaaGreatDoor
open P55 Go Go.Vm Go.ChangeShapes Go.WideShapes Go.ChangeAt Go.RowKit
theorem DrawingError_args : Args Tryz.prog [24, 9] fun ds => ∃ x0 y0, ds = x0 :: y0 ∧ (∃ (l : List Dft) (c : Bool), x0 = P57.dCh l c ∧ l.length < 9223372036854775808 ∧ ∀ y ∈ l, y.ok) ∧ (∃ x1 y1, y0 = x1 :: y1 ∧ (∃ l : List UInt8, x1 = .str l ∧ l.length < 9223372036854775808) ∧ (y1 = [])) := .cons Xxu (by kernel_rfl) (of_decide_eq_true (by kernel_rfl)) (.cons Ya3 (by kernel_rfl) (of_decide_eq_true (by kernel_rfl)) (.nil))
theorem DrawingError_at : ∀ xs : List D, (∃ x0 y0, xs = x0 :: y0 ∧ (∃ (l : List Dft) (c : Bool), x0 = P57.dCh l c ∧ l.length < 9223372036854775808 ∧ ∀ y ∈ l, y.ok) ∧ (∃ x1 y1, y0 = x1 :: y1 ∧ (∃ l : List UInt8, x1 = .str l ∧ l.length < 9223372036854775808) ∧ (y1 = []))) → C Tryz.prog 3 (xs.map .d) (· = .b true) := fun xs ⟨_, _, e0, ⟨l, c, q0, hl, hd⟩, ⟨_, _, e1, ⟨s, q1, hs⟩, e2⟩⟩ => by subst e0; subst q0; subst e1; subst q1; subst e2; exact P57.DrawingError_ok hl hd
theorem drawingError_reads (os : Os) {H : Type} (enc : TypeId × Value → H) : ∃ places, DataW.whole enc Tryz.prog ((Xdi os).forCall (fun _ _ => 0) ⟨#[], #[.agg #[.slice none 0 0, .bool false], .string ByteArray.empty], []⟩).memory Tryz.f3.params.toList Rows.drawingErrorSpec.vars false (#[.agg #[.slice none 0 0, .bool false], .string ByteArray.empty] : Array Value).toList 8 = some ([.agg [.nil, .lit (.bool false)], .lit (.string [])], [], places) :=
  ⟨[], by kernel_rfl⟩
theorem drawingError_v (os : Os) : ((Xdi os).forCall (fun _ _ => 0) ⟨#[], #[.agg #[.slice none 0 0, .bool false], .string ByteArray.empty], []⟩).variablesB Tryz.checked.prog = true := by kernel_rfl
theorem drawingError_r (os : Os) : (((Xdi os).forCall (fun _ _ => 0) ⟨#[], #[.agg #[.slice none 0 0, .bool false], .string ByteArray.empty], []⟩).heap.toList.drop Tryz.checked.prog.globals.size).take ((begin Tryz.checked.prog (fun _ _ => 0) default).world.heap.size - Tryz.checked.prog.globals.size) = (begin Tryz.checked.prog (fun _ _ => 0) default).world.heap.toList.drop Tryz.checked.prog.globals.size := by kernel_rfl
theorem drawingError_k (os : Os) : Input.okWideB Tryz.checked.prog ((Xdi os).forCall (fun _ _ => 0) ⟨#[], #[.agg #[.slice none 0 0, .bool false], .string ByteArray.empty], []⟩) 3 ⟨#[], #[.agg #[.slice none 0 0, .bool false], .string ByteArray.empty], []⟩ = true := by kernel_rfl
theorem drawingError_lifted (os : Os) (started : os.Started) (H : Type) (enc : TypeId × Value → H) (F : Stop.Interp) :
    ReturnsInHanded {} Tryz.checked os 3 .any ((OpenSpec.ofChange Rows.drawingErrorSpec).preRow enc Tryz.prog Tryz.f3 Rows.drawingErrorRow.domain false Rows.drawingErrorRow.laid) (((OpenSpec.ofChange Rows.drawingErrorSpec).at F).post enc Tryz.prog Tryz.f3 false true false false) := by
  obtain ⟨places, hx⟩ := drawingError_reads os enc
  refine returnsInHanded_of_row (C := Tryz.checked) (s := OpenSpec.ofChange Rows.drawingErrorSpec) own started (by kernel_rfl) Tryz.func3
    (witness_row_at (enc := enc) (C := Tryz.checked) false (Xdi os) #[.agg #[.slice none 0 0, .bool false], .string ByteArray.empty] rfl (drawingError_v os) (drawingError_r os) (drawingError_k os)
      (OpenSpec.preRow_of_cond 8 hx (by kernel_rfl) (fun k hk => by cases hk) (by kernel_rfl) (Xzs os _))) ?_
  intro W base args ds gs before hval hW _ _ _ hL _ _
  exact Yp8 Yfc Tryz.underlying4 (s := Rows.drawingErrorSpec) DrawingError_args rfl rfl (fun ds h => match ds, h with | [_, _], _ => rfl) DrawingError_at W base args ds gs before hval hW (Ynm hL)
theorem drawingError_1 : (Rows.drawingErrorRow.wf (OpenSpec.ofChange Rows.drawingErrorSpec) && laidOutB Tryz.prog && mapsRowed Tryz.prog) = true := by kernel_rfl
theorem drawingError_4 : (Rows.drawingErrorRow.unfollowed == Tryz.prog.unfollowed 3) = true := by kernel_rfl
theorem drawingError_3 : (Rows.drawingErrorRow.inPlace == Tryz.prog.inPlace 3) = true := by kernel_rfl
theorem drawingError_5 : (Rows.drawingErrorRow.recurses == Tryz.prog.recurses 3) = true := by kernel_rfl
theorem drawingError_6 : (Rows.drawingErrorRow.named == Tryz.prog.varsNamed 3) = true := by kernel_rfl
theorem drawingError_8 : (Rows.drawingErrorSpec.vars.all (Tryz.prog.varReadable ·) && Tryz.f3.resultTypes.all (fun t => Tryz.prog.readableRec t && decide (t < Tryz.prog.types.size)) && (Rows.drawingErrorRow.ifacesOut == Tryz.f3.resultTypes.toList.any (Tryz.prog.ifacesRec ·)) && (Rows.drawingErrorRow.loopsOut == Tryz.f3.resultTypes.toList.any (Tryz.prog.loopsFrom ·)) && (Rows.drawingErrorRow.plainKeys == Tryz.prog.plainKeys) && Rows.drawingErrorRow.shortTexts.isNone && Tryz.prog.stopsHeard && Tryz.prog.mayEnter) = true := by kernel_rfl
theorem drawingError_9 : ((Rows.drawingErrorRow.lifted == Tryz.prog.liftsFinal) && (Tryz.prog.make == some Rows.drawingErrorRow.make) && (Rows.drawingErrorRow.kinds == (if Rows.drawingErrorRow.domain.isEmpty then [] else Tryz.f3.params.toList.map fun t => match Tryz.prog.underlying t with | some (.int k) => some k | _ => none)) && (Rows.drawingErrorRow.pinned == Rows.drawingErrorRow.pinnedBy)) = true := by kernel_rfl
theorem drawingError_facts : joinedFacts Tryz.prog 3 Tryz.f3 Rows.drawingErrorSpec Rows.drawingErrorRow = true :=
  Yac drawingError_1 (by kernel_rfl) drawingError_3 drawingError_4 drawingError_5 drawingError_6 (by kernel_rfl) drawingError_8 drawingError_9 (by kernel_rfl)
theorem drawingError_said : Rows.DrawingErrorSaid :=
  OpenClaim.holds_of_cond 3 Tryz.f3 rfl rfl rfl rfl rfl rfl rfl ⟨rfl, rfl, rfl, rfl, rfl⟩ rfl rfl rfl rfl rfl (by kernel_rfl) Tryz.func3 drawingError_facts
    (of_decide_eq_true (by kernel_rfl)) (by unfold Func.isWrapper; rw [if_neg (of_decide_eq_false (by kernel_rfl))]; exact ⟨rfl, rfl⟩)
    (fun os started H enc _ F => by rw [OpenClaim.pre_eq_preRow]; exact drawingError_lifted os started H enc F)
theorem drawingError_plain (f : FuncId) (fn : Func) (hf : Tryz.pinned.checked.prog.funcNamed "setsquare/setsquarelaw55.DrawingError" = some f) (hfn : Tryz.pinned.checked.prog.funcs[f]? = some fn) :
    false = Tryz.pinned.checked.prog.looks [] ∧ ∀ (j : Nat) t, fn.params[j]? = some t → Tryz.pinned.checked.prog.wantsStandIn t = false := by
  obtain rfl : f = 3 := Option.some.inj ((show Tryz.prog.funcNamed "setsquare/setsquarelaw55.DrawingError" = some 3 by kernel_rfl).symm.trans hf) |>.symm
  obtain rfl : fn = Tryz.f3 := (Option.some.inj (Tryz.func3.symm.trans hfn)).symm
  refine ⟨by kernel_rfl, fun j t ht => ?_⟩
  have hm : t ∈ [24, 9] := by
    have := Array.mem_of_getElem? ht
    rw [show Tryz.f3.params = #[24, 9] by kernel_rfl] at this
    simpa using this
  exact (show ∀ t ∈ [24, 9], Tryz.prog.wantsStandIn t = false from fun t ht => by simp at ht; rcases ht with rfl | rfl <;> kernel_rfl) t hm
theorem goes_none : (Tryz.prog.funcs.toList.all fun fn => !fn.goes) = true := by kernel_rfl
theorem goes_of {P : Program} (h : (P.funcs.toList.all fun fn => !fn.goes) = true) (f : FuncId) : P.goes f = false := by
  have h1 : ∀ fn ∈ P.funcs.toList, fn.goes = false := fun fn hf => by simpa using List.all_eq_true.1 h fn hf
  unfold Program.goes
  rw [Bool.or_eq_false_iff]
  constructor
  · rw [Bool.eq_false_iff]
    intro e
    obtain ⟨g, _, hg⟩ := List.any_eq_true.1 e
    cases hx : P.funcs[g]? with
    | none => rw [hx] at hg; cases hg
    | some fn =>
      rw [hx] at hg
      have hg : fn.goes = true := hg
      rw [h1 fn (by have := Array.mem_of_getElem? hx; simpa using this)] at hg
      cases hg
  · rw [Bool.and_eq_false_iff]
    right
    rw [Bool.eq_false_iff]
    intro e
    rw [Array.any_eq_true'] at e
    obtain ⟨fn, hf, hg⟩ := e
    rw [h1 fn (by simpa using hf)] at hg
    cases hg
theorem goesBy_of {P : Program} {c : OpenClaim} (h : (P.funcs.toList.all fun fn => !fn.goes) = true) (hs : c.start = .entering) : false = c.goesBy P := by
  unfold OpenClaim.goesBy Program.goesAt Program.goesFrom
  rw [hs]
  cases hf : P.funcNamed c.func with
  | none => rfl
  | some f => exact (by simp [goes_of h f])
theorem DrawingError_holds : Rows.DrawingErrorCardSaid :=
  Claim7.holds_tied_plain_at .later [] _ _ _ _ drawingError_said (fun _ h => by cases h) (by kernel_rfl) (fun _ h => by cases h) drawingError_row_tie rfl ⟨rfl, rfl⟩ (by kernel_rfl) rfl drawingError_plain (goesBy_of (P := Tryz.prog) goes_none rfl)
#print axioms DrawingError_holds
end Go.Proofs.YtclgppjdhndgiaaGreatDoor

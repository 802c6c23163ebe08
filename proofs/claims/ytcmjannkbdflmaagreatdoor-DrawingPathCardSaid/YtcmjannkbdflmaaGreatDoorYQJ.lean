/- DrawingPath: Path returns the path data of a path, or ErrInvalid for other curves; Error accepts them, and Points returns their end points; the arguments read afterwards as before. -/
import Derived.Test.YtcmjannkbdflmaaGreatDoorXG
set_option linter.unusedVariables false
set_option linter.unusedSimpArgs false
set_option maxRecDepth 100000
namespace Go.Proofs.YtcmjannkbdflmaaGreatDoor
open P55 Go Go.Vm Go.ChangeShapes Go.WideShapes Go.ChangeAt Go.RowKit
theorem DrawingPath_args : Args Tryz.prog [24, 3, 5] fun ds => ∃ x0 y0, ds = x0 :: y0 ∧ (∃ (l : List Dft) (c : Bool), x0 = P57.dCh l c ∧ l.length < 9223372036854775808 ∧ ∀ y ∈ l, y.ok) ∧ (∃ x1 y1, y0 = x1 :: y1 ∧ (∃ n : Int, x1 = .int .i64 n ∧ -9223372036854775808 ≤ n ∧ n < 9223372036854775808) ∧ (∃ x2 y2, y1 = x2 :: y2 ∧ (∃ n : Nat, x2 = .int .u8 n ∧ n < 256) ∧ (y2 = []))) := .cons Xyv (by kernel_rfl) (of_decide_eq_true (by kernel_rfl)) (.cons Yhr (by kernel_rfl) (of_decide_eq_true (by kernel_rfl)) (.cons Ymj (by kernel_rfl) (of_decide_eq_true (by kernel_rfl)) (.nil)))
theorem DrawingPath_at : ∀ xs : List D, (∃ x0 y0, xs = x0 :: y0 ∧ (∃ (l : List Dft) (c : Bool), x0 = P57.dCh l c ∧ l.length < 9223372036854775808 ∧ ∀ y ∈ l, y.ok) ∧ (∃ x1 y1, y0 = x1 :: y1 ∧ (∃ n : Int, x1 = .int .i64 n ∧ -9223372036854775808 ≤ n ∧ n < 9223372036854775808) ∧ (∃ x2 y2, y1 = x2 :: y2 ∧ (∃ n : Nat, x2 = .int .u8 n ∧ n < 256) ∧ (y2 = [])))) → C Tryz.prog 3 (xs.map .d) (· = .b true) := fun xs ⟨_, _, e0, ⟨l, c, q0, hl, hd⟩, ⟨_, _, e1, ⟨n, q1, hn⟩, ⟨_, _, e2, ⟨s, q2, hs⟩, e3⟩⟩⟩ => by subst e0; subst q0; subst e1; subst q1; subst e2; subst q2; subst e3; exact P57.DrawingPath_ok hl hd hs
theorem drawingPath_reads (os : Os) {H : Type} (enc : TypeId × Value → H) : ∃ places, DataW.whole enc Tryz.prog ((Xdo os).forCall (fun _ _ => 0) ⟨#[], #[.agg #[.slice none 0 0, .bool false], .int .i64 0, .int .u8 0], []⟩).memory Tryz.f3.params.toList Rows.drawingPathSpec.vars false (#[.agg #[.slice none 0 0, .bool false], .int .i64 0, .int .u8 0] : Array Value).toList 8 = some ([.agg [.nil, .lit (.bool false)], .lit (.int .i64 0), .lit (.int .u8 0)], [], places) :=
  ⟨[], by kernel_rfl⟩
theorem drawingPath_v (os : Os) : ((Xdo os).forCall (fun _ _ => 0) ⟨#[], #[.agg #[.slice none 0 0, .bool false], .int .i64 0, .int .u8 0], []⟩).variablesB Tryz.checked.prog = true := by kernel_rfl
theorem drawingPath_r (os : Os) : (((Xdo os).forCall (fun _ _ => 0) ⟨#[], #[.agg #[.slice none 0 0, .bool false], .int .i64 0, .int .u8 0], []⟩).heap.toList.drop Tryz.checked.prog.globals.size).take ((begin Tryz.checked.prog (fun _ _ => 0) default).world.heap.size - Tryz.checked.prog.globals.size) = (begin Tryz.checked.prog (fun _ _ => 0) default).world.heap.toList.drop Tryz.checked.prog.globals.size := by kernel_rfl
theorem drawingPath_k (os : Os) : Input.okWideB Tryz.checked.prog ((Xdo os).forCall (fun _ _ => 0) ⟨#[], #[.agg #[.slice none 0 0, .bool false], .int .i64 0, .int .u8 0], []⟩) 3 ⟨#[], #[.agg #[.slice none 0 0, .bool false], .int .i64 0, .int .u8 0], []⟩ = true := by kernel_rfl
theorem drawingPath_lifted (os : Os) (started : os.Started) (H : Type) (enc : TypeId × Value → H) (F : Stop.Interp) :
    ReturnsInHanded {} Tryz.checked os 3 .any ((OpenSpec.ofChange Rows.drawingPathSpec).preRow enc Tryz.prog Tryz.f3 Rows.drawingPathRow.domain false Rows.drawingPathRow.laid) (((OpenSpec.ofChange Rows.drawingPathSpec).at F).post enc Tryz.prog Tryz.f3 false true false false) := by
  obtain ⟨places, hx⟩ := drawingPath_reads os enc
  refine returnsInHanded_of_row (C := Tryz.checked) (s := OpenSpec.ofChange Rows.drawingPathSpec) own started (by kernel_rfl) Tryz.func3
    (witness_row_at (enc := enc) (C := Tryz.checked) false (Xdo os) #[.agg #[.slice none 0 0, .bool false], .int .i64 0, .int .u8 0] rfl (drawingPath_v os) (drawingPath_r os) (drawingPath_k os)
      (OpenSpec.preRow_of_cond 8 hx (by kernel_rfl) (fun k hk => by cases hk) (by kernel_rfl) (Yap os _))) ?_
  intro W base args ds gs before hval hW _ _ _ hL _ _
  exact Yri Yge Tryz.underlying4 (s := Rows.drawingPathSpec) DrawingPath_args rfl rfl (fun ds h => match ds, h with | [_, _, _], _ => rfl) DrawingPath_at W base args ds gs before hval hW (Yox hL)
theorem drawingPath_1 : (Rows.drawingPathRow.wf (OpenSpec.ofChange Rows.drawingPathSpec) && laidOutB Tryz.prog && mapsRowed Tryz.prog) = true := by kernel_rfl
theorem drawingPath_4 : (Rows.drawingPathRow.unfollowed == Tryz.prog.unfollowed 3) = true := by kernel_rfl
theorem drawingPath_3 : (Rows.drawingPathRow.inPlace == Tryz.prog.inPlace 3) = true := by kernel_rfl
theorem drawingPath_5 : (Rows.drawingPathRow.recurses == Tryz.prog.recurses 3) = true := by kernel_rfl
theorem drawingPath_6 : (Rows.drawingPathRow.named == Tryz.prog.varsNamed 3) = true := by kernel_rfl
theorem drawingPath_8 : (Rows.drawingPathSpec.vars.all (Tryz.prog.varReadable ·) && Tryz.f3.resultTypes.all (fun t => Tryz.prog.readableRec t && decide (t < Tryz.prog.types.size)) && (Rows.drawingPathRow.ifacesOut == Tryz.f3.resultTypes.toList.any (Tryz.prog.ifacesRec ·)) && (Rows.drawingPathRow.loopsOut == Tryz.f3.resultTypes.toList.any (Tryz.prog.loopsFrom ·)) && (Rows.drawingPathRow.plainKeys == Tryz.prog.plainKeys) && Rows.drawingPathRow.shortTexts.isNone && Tryz.prog.stopsHeard && Tryz.prog.mayEnter) = true := by kernel_rfl
theorem drawingPath_9 : ((Rows.drawingPathRow.lifted == Tryz.prog.liftsFinal) && (Tryz.prog.make == some Rows.drawingPathRow.make) && (Rows.drawingPathRow.kinds == (if Rows.drawingPathRow.domain.isEmpty then [] else Tryz.f3.params.toList.map fun t => match Tryz.prog.underlying t with | some (.int k) => some k | _ => none)) && (Rows.drawingPathRow.pinned == Rows.drawingPathRow.pinnedBy)) = true := by kernel_rfl
theorem drawingPath_facts : joinedFacts Tryz.prog 3 Tryz.f3 Rows.drawingPathSpec Rows.drawingPathRow = true :=
  Ya8 drawingPath_1 (by kernel_rfl) drawingPath_3 drawingPath_4 drawingPath_5 drawingPath_6 (by kernel_rfl) drawingPath_8 drawingPath_9 (by kernel_rfl)
theorem drawingPath_said : Rows.DrawingPathSaid :=
  OpenClaim.holds_of_cond 3 Tryz.f3 rfl rfl rfl rfl rfl rfl rfl ⟨rfl, rfl, rfl, rfl, rfl⟩ rfl rfl rfl rfl rfl (by kernel_rfl) Tryz.func3 drawingPath_facts
    (of_decide_eq_true (by kernel_rfl)) (by unfold Func.isWrapper; rw [if_neg (of_decide_eq_false (by kernel_rfl))]; exact ⟨rfl, rfl⟩)
    (fun os started H enc _ F => by rw [OpenClaim.pre_eq_preRow]; exact drawingPath_lifted os started H enc F)
theorem drawingPath_plain (f : FuncId) (fn : Func) (hf : Tryz.pinned.checked.prog.funcNamed "setsquare/setsquarelaw55.DrawingPath" = some f) (hfn : Tryz.pinned.checked.prog.funcs[f]? = some fn) :
    false = Tryz.pinned.checked.prog.looks [] ∧ ∀ (j : Nat) t, fn.params[j]? = some t → Tryz.pinned.checked.prog.wantsStandIn t = false := by
  obtain rfl : f = 3 := Option.some.inj ((show Tryz.prog.funcNamed "setsquare/setsquarelaw55.DrawingPath" = some 3 by kernel_rfl).symm.trans hf) |>.symm
  obtain rfl : fn = Tryz.f3 := (Option.some.inj (Tryz.func3.symm.trans hfn)).symm
  refine ⟨by kernel_rfl, fun j t ht => ?_⟩
  have hm : t ∈ [24, 3, 5] := by
    have := Array.mem_of_getElem? ht
    rw [show Tryz.f3.params = #[24, 3, 5] by kernel_rfl] at this
    simpa using this
  exact (show ∀ t ∈ [24, 3, 5], Tryz.prog.wantsStandIn t = false from fun t ht => by simp at ht; rcases ht with rfl | rfl | rfl <;> kernel_rfl) t hm
theorem goes_none : (Tryz.prog.funcs.toList.all fun fn => !fn.goes) = true := by kernel_rfl
theorem goes_of {P : Program} (h : (P.funcs.toList.all fun fn => !fn.goes) = true) (f : FuncId) : P.goes f = false := by
  have h1 : ∀ fn ∈ P.funcs.toList, fn.goes = false := fun fn hf => by simpa using List.all_eq_true.1 h fn hf
  unfold Program.goes
  rw [Bool.or_eq_false_iff]
  constructor
  · rw [Bool.eq_false_iff]
    intro e
    obtain ⟨g, _, hg⟩ := List.any_eq_true.1 e
    cases hx : P.funcs[g]? with
    | none => rw [hx] at hg; cases hg
    | some fn =>
      rw [hx] at hg
      have hg : fn.goes = true := hg
      rw [h1 fn (by have := Array.mem_of_getElem? hx; simpa using this)] at hg
      cases hg
  · rw [Bool.and_eq_false_iff]
    right
    rw [Bool.eq_false_iff]
    intro e
    rw [Array.any_eq_true'] at e
    obtain ⟨fn, hf, hg⟩ := e
    rw [h1 fn (by simpa using hf)] at hg
    cases hg
theorem goesBy_of {P : Program} {c : OpenClaim} (h : (P.funcs.toList.all fun fn => !fn.goes) = true) (hs : c.start = .entering) : false = c.goesBy P := by
  unfold OpenClaim.goesBy Program.goesAt Program.goesFrom
  rw [hs]
  cases hf : P.funcNamed c.func with
  | none => rfl
  | some f => exact (by simp [goes_of h f])
theorem DrawingPath_holds : Rows.DrawingPathCardSaid :=
  Claim7.holds_tied_plain_at .later [] _ _ _ _ drawingPath_said (fun _ h => by cases h) (by kernel_rfl) (fun _ h => by cases h) drawingPath_row_tie rfl ⟨rfl, rfl⟩ (by kernel_rfl) rfl drawingPath_plain (goesBy_of (P := Tryz.prog) goes_none rfl)
#print axioms DrawingPath_holds
end Go.Proofs.YtcmjannkbdflmaaGreatDoor

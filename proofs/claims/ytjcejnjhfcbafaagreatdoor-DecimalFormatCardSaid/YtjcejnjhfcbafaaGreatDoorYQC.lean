/- DecimalFormat: Format and Short return the specified texts, or the specified errors; the arguments read afterwards as before. -/
import Derived.Test.YtjcejnjhfcbafaaGreatDoorXF
set_option linter.unusedVariables false
set_option linter.unusedSimpArgs false
set_option maxRecDepth 100000
namespace Go.Proofs.YtjcejnjhfcbafaaGreatDoor
open Go Go.Vm Go.ChangeShapes Go.WideShapes Go.ChangeAt Go.RowKit
theorem DecimalFormat_args : Args Tryz.prog [23, 5, 3] fun ds => ∃ x0 y0, ds = x0 :: y0 ∧ (∃ ops : List RO, x0 = dRs ops) ∧ (∃ x1 y1, y0 = x1 :: y1 ∧ (∃ n : Nat, x1 = .int .u8 n ∧ n < 256) ∧ (∃ x2 y2, y1 = x2 :: y2 ∧ (∃ n : Int, x2 = .int .i64 n ∧ -9223372036854775808 ≤ n ∧ n < 9223372036854775808) ∧ (y2 = []))) := .cons Xlf (by kernel_rfl) (of_decide_eq_true (by kernel_rfl)) (.cons Xm7 (by kernel_rfl) (of_decide_eq_true (by kernel_rfl)) (.cons Xw2 (by kernel_rfl) (of_decide_eq_true (by kernel_rfl)) (.nil)))
theorem DecimalFormat_at : ∀ xs : List D, (∃ x0 y0, xs = x0 :: y0 ∧ (∃ ops : List RO, x0 = dRs ops) ∧ (∃ x1 y1, y0 = x1 :: y1 ∧ (∃ n : Nat, x1 = .int .u8 n ∧ n < 256) ∧ (∃ x2 y2, y1 = x2 :: y2 ∧ (∃ n : Int, x2 = .int .i64 n ∧ -9223372036854775808 ≤ n ∧ n < 9223372036854775808) ∧ (y2 = [])))) → C Tryz.prog 3 (xs.map .d) (· = .b true) := fun xs ⟨_, _, e0, ⟨ops, q0⟩, ⟨_, _, e1, ⟨i, q1, hi⟩, ⟨_, _, e2, ⟨d, q2, h1, h2⟩, e3⟩⟩⟩ => by subst e0; subst q0; subst e1; subst q1; subst e2; subst q2; subst e3; exact P11.DecimalFormat_ok hi ⟨h1, h2⟩
theorem decimalFormat_reads (os : Os) {H : Type} (enc : TypeId × Value → H) : ∃ places, DataW.whole enc Tryz.prog ((Xai os).forCall (fun _ _ => 0) ⟨#[], #[.slice none 0 0, .int .u8 0, .int .i64 0], []⟩).memory Tryz.f3.params.toList Rows.decimalFormatSpec.vars false (#[.slice none 0 0, .int .u8 0, .int .i64 0] : Array Value).toList 8 = some ([.nil, .lit (.int .u8 0), .lit (.int .i64 0)], [], places) :=
  ⟨[], by kernel_rfl⟩
theorem decimalFormat_v (os : Os) : ((Xai os).forCall (fun _ _ => 0) ⟨#[], #[.slice none 0 0, .int .u8 0, .int .i64 0], []⟩).variablesB Tryz.checked.prog = true := by kernel_rfl
theorem decimalFormat_r (os : Os) : (((Xai os).forCall (fun _ _ => 0) ⟨#[], #[.slice none 0 0, .int .u8 0, .int .i64 0], []⟩).heap.toList.drop Tryz.checked.prog.globals.size).take ((begin Tryz.checked.prog (fun _ _ => 0) default).world.heap.size - Tryz.checked.prog.globals.size) = (begin Tryz.checked.prog (fun _ _ => 0) default).world.heap.toList.drop Tryz.checked.prog.globals.size := by kernel_rfl
theorem decimalFormat_k (os : Os) : Input.okWideB Tryz.checked.prog ((Xai os).forCall (fun _ _ => 0) ⟨#[], #[.slice none 0 0, .int .u8 0, .int .i64 0], []⟩) 3 ⟨#[], #[.slice none 0 0, .int .u8 0, .int .i64 0], []⟩ = true := by kernel_rfl
theorem decimalFormat_lifted (os : Os) (started : os.Started) (H : Type) (enc : TypeId × Value → H) (F : Stop.Interp) :
    ReturnsInHanded {} Tryz.checked os 3 .any ((OpenSpec.ofChange Rows.decimalFormatSpec).preRow enc Tryz.prog Tryz.f3 Rows.decimalFormatRow.domain false Rows.decimalFormatRow.laid) (((OpenSpec.ofChange Rows.decimalFormatSpec).at F).post enc Tryz.prog Tryz.f3 false true false false) := by
  obtain ⟨places, hx⟩ := decimalFormat_reads os enc
  refine returnsInHanded_of_row (C := Tryz.checked) (s := OpenSpec.ofChange Rows.decimalFormatSpec) own started (by kernel_rfl) Tryz.func3
    (witness_row_at (enc := enc) (C := Tryz.checked) false (Xai os) #[.slice none 0 0, .int .u8 0, .int .i64 0] rfl (decimalFormat_v os) (decimalFormat_r os) (decimalFormat_k os)
      (OpenSpec.preRow_of_cond 8 hx (by kernel_rfl) (fun k hk => by cases hk) (by kernel_rfl) (Xej os _))) ?_
  intro W base args ds gs before hval hW _ _ _ hL _ _
  exact Ye5 Xgb Tryz.underlying4 (s := Rows.decimalFormatSpec) DecimalFormat_args rfl rfl (fun ds h => match ds, h with | [_, _, _], _ => rfl) DecimalFormat_at W base args ds gs before hval hW (Xsb hL)
theorem decimalFormat_1 : (Rows.decimalFormatRow.wf (OpenSpec.ofChange Rows.decimalFormatSpec) && laidOutB Tryz.prog && mapsRowed Tryz.prog) = true := by kernel_rfl
theorem decimalFormat_4 : (Rows.decimalFormatRow.unfollowed == Tryz.prog.unfollowed 3) = true := by kernel_rfl
theorem decimalFormat_3 : (Rows.decimalFormatRow.inPlace == Tryz.prog.inPlace 3) = true := by kernel_rfl
theorem decimalFormat_5 : (Rows.decimalFormatRow.recurses == Tryz.prog.recurses 3) = true := by kernel_rfl
theorem decimalFormat_6 : (Rows.decimalFormatRow.named == Tryz.prog.varsNamed 3) = true := by kernel_rfl
theorem decimalFormat_8 : (Rows.decimalFormatSpec.vars.all (Tryz.prog.varReadable ·) && Tryz.f3.resultTypes.all (fun t => Tryz.prog.readableRec t && decide (t < Tryz.prog.types.size)) && (Rows.decimalFormatRow.ifacesOut == Tryz.f3.resultTypes.toList.any (Tryz.prog.ifacesRec ·)) && (Rows.decimalFormatRow.loopsOut == Tryz.f3.resultTypes.toList.any (Tryz.prog.loopsFrom ·)) && (Rows.decimalFormatRow.plainKeys == Tryz.prog.plainKeys) && Rows.decimalFormatRow.shortTexts.isNone && Tryz.prog.stopsHeard && Tryz.prog.mayEnter) = true := by kernel_rfl
theorem decimalFormat_9 : ((Rows.decimalFormatRow.lifted == Tryz.prog.liftsFinal) && (Tryz.prog.make == some Rows.decimalFormatRow.make) && (Rows.decimalFormatRow.kinds == (if Rows.decimalFormatRow.domain.isEmpty then [] else Tryz.f3.params.toList.map fun t => match Tryz.prog.underlying t with | some (.int k) => some k | _ => none)) && (Rows.decimalFormatRow.pinned == Rows.decimalFormatRow.pinnedBy)) = true := by kernel_rfl
theorem decimalFormat_facts : joinedFacts Tryz.prog 3 Tryz.f3 Rows.decimalFormatSpec Rows.decimalFormatRow = true :=
  Xem decimalFormat_1 (by kernel_rfl) decimalFormat_3 decimalFormat_4 decimalFormat_5 decimalFormat_6 (by kernel_rfl) decimalFormat_8 decimalFormat_9 (by kernel_rfl)
theorem decimalFormat_said : Rows.DecimalFormatSaid :=
  OpenClaim.holds_of_cond 3 Tryz.f3 rfl rfl rfl rfl rfl rfl rfl ⟨rfl, rfl, rfl, rfl, rfl⟩ rfl rfl rfl rfl rfl (by kernel_rfl) Tryz.func3 decimalFormat_facts
    (of_decide_eq_true (by kernel_rfl)) (by unfold Func.isWrapper; rw [if_neg (of_decide_eq_false (by kernel_rfl))]; exact ⟨rfl, rfl⟩)
    (fun os started H enc _ F => by rw [OpenClaim.pre_eq_preRow]; exact decimalFormat_lifted os started H enc F)
theorem decimalFormat_plain (f : FuncId) (fn : Func) (hf : Tryz.pinned.checked.prog.funcNamed "setsquare/setsquarelaw11.DecimalFormat" = some f) (hfn : Tryz.pinned.checked.prog.funcs[f]? = some fn) :
    false = Tryz.pinned.checked.prog.looks [] ∧ ∀ (j : Nat) t, fn.params[j]? = some t → Tryz.pinned.checked.prog.wantsStandIn t = false := by
  obtain rfl : f = 3 := Option.some.inj ((show Tryz.prog.funcNamed "setsquare/setsquarelaw11.DecimalFormat" = some 3 by kernel_rfl).symm.trans hf) |>.symm
  obtain rfl : fn = Tryz.f3 := (Option.some.inj (Tryz.func3.symm.trans hfn)).symm
  refine ⟨by kernel_rfl, fun j t ht => ?_⟩
  have hm : t ∈ [23, 5, 3] := by
    have := Array.mem_of_getElem? ht
    rw [show Tryz.f3.params = #[23, 5, 3] by kernel_rfl] at this
    simpa using this
  exact (show ∀ t ∈ [23, 5, 3], Tryz.prog.wantsStandIn t = false from fun t ht => by simp at ht; rcases ht with rfl | rfl | rfl <;> kernel_rfl) t hm
theorem DecimalFormat_holds : Rows.DecimalFormatCardSaid :=
  Claim7.holds_tied_plain_at .later [] _ _ _ _ decimalFormat_said (fun _ h => by cases h) (by kernel_rfl) (fun _ h => by cases h) decimalFormat_row_tie rfl ⟨rfl, rfl⟩ (by kernel_rfl) rfl decimalFormat_plain (by kernel_rfl)
#print axioms DecimalFormat_holds
end Go.Proofs.YtjcejnjhfcbafaaGreatDoor

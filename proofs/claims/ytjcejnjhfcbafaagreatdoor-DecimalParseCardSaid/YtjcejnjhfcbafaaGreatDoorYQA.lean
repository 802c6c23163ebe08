/- DecimalParse: Parse returns the value of every decimal fraction, and the error for any other text; the arguments read afterwards as before. -/
import Derived.Test.YtjcejnjhfcbafaaGreatDoorXF
set_option linter.unusedVariables false
set_option linter.unusedSimpArgs false
set_option maxRecDepth 100000
namespace Go.Proofs.YtjcejnjhfcbafaaGreatDoor
open Go Go.Vm Go.ChangeShapes Go.WideShapes Go.ChangeAt Go.RowKit
theorem DecimalParse_args : Args Tryz.prog [9] fun ds => ∃ x0 y0, ds = x0 :: y0 ∧ (∃ l : List UInt8, x0 = .str l ∧ l.length < 9223372036854775808) ∧ (y0 = []) := .cons Xle (by kernel_rfl) (of_decide_eq_true (by kernel_rfl)) (.nil)
theorem DecimalParse_at : ∀ xs : List D, (∃ x0 y0, xs = x0 :: y0 ∧ (∃ l : List UInt8, x0 = .str l ∧ l.length < 9223372036854775808) ∧ (y0 = [])) → C Tryz.prog 7 (xs.map .d) (· = .b true) := fun xs ⟨_, _, e0, ⟨s, q0, hs⟩, e1⟩ => by subst e0; subst q0; subst e1; exact P11.DecimalParse_ok hs
theorem decimalParse_reads (os : Os) {H : Type} (enc : TypeId × Value → H) : ∃ places, DataW.whole enc Tryz.prog ((Xai os).forCall (fun _ _ => 0) ⟨#[], #[.string ByteArray.empty], []⟩).memory Tryz.f7.params.toList Rows.decimalParseSpec.vars false (#[.string ByteArray.empty] : Array Value).toList 8 = some ([.lit (.string [])], [], places) :=
  ⟨[], by kernel_rfl⟩
theorem decimalParse_v (os : Os) : ((Xai os).forCall (fun _ _ => 0) ⟨#[], #[.string ByteArray.empty], []⟩).variablesB Tryz.checked.prog = true := by kernel_rfl
theorem decimalParse_r (os : Os) : (((Xai os).forCall (fun _ _ => 0) ⟨#[], #[.string ByteArray.empty], []⟩).heap.toList.drop Tryz.checked.prog.globals.size).take ((begin Tryz.checked.prog (fun _ _ => 0) default).world.heap.size - Tryz.checked.prog.globals.size) = (begin Tryz.checked.prog (fun _ _ => 0) default).world.heap.toList.drop Tryz.checked.prog.globals.size := by kernel_rfl
theorem decimalParse_k (os : Os) : Input.okWideB Tryz.checked.prog ((Xai os).forCall (fun _ _ => 0) ⟨#[], #[.string ByteArray.empty], []⟩) 7 ⟨#[], #[.string ByteArray.empty], []⟩ = true := by kernel_rfl
theorem decimalParse_lifted (os : Os) (started : os.Started) (H : Type) (enc : TypeId × Value → H) (F : Stop.Interp) :
    ReturnsInHanded {} Tryz.checked os 7 .any ((OpenSpec.ofChange Rows.decimalParseSpec).preRow enc Tryz.prog Tryz.f7 Rows.decimalParseRow.domain false Rows.decimalParseRow.laid) (((OpenSpec.ofChange Rows.decimalParseSpec).at F).post enc Tryz.prog Tryz.f7 false true false false) := by
  obtain ⟨places, hx⟩ := decimalParse_reads os enc
  refine returnsInHanded_of_row (C := Tryz.checked) (s := OpenSpec.ofChange Rows.decimalParseSpec) own started (by kernel_rfl) Tryz.func7
    (witness_row_at (enc := enc) (C := Tryz.checked) false (Xai os) #[.string ByteArray.empty] rfl (decimalParse_v os) (decimalParse_r os) (decimalParse_k os)
      (OpenSpec.preRow_of_cond 8 hx (by kernel_rfl) (fun k hk => by cases hk) (by kernel_rfl) (Xej os _))) ?_
  intro W base args ds gs before hval hW _ _ _ hL _ _
  exact Ye5 Xgb Tryz.underlying4 (s := Rows.decimalParseSpec) DecimalParse_args rfl rfl (fun ds h => match ds, h with | [_], _ => rfl) DecimalParse_at W base args ds gs before hval hW (Xsb hL)
theorem decimalParse_1 : (Rows.decimalParseRow.wf (OpenSpec.ofChange Rows.decimalParseSpec) && laidOutB Tryz.prog && mapsRowed Tryz.prog) = true := by kernel_rfl
theorem decimalParse_4 : (Rows.decimalParseRow.unfollowed == Tryz.prog.unfollowed 7) = true := by kernel_rfl
theorem decimalParse_3 : (Rows.decimalParseRow.inPlace == Tryz.prog.inPlace 7) = true := by kernel_rfl
theorem decimalParse_5 : (Rows.decimalParseRow.recurses == Tryz.prog.recurses 7) = true := by kernel_rfl
theorem decimalParse_6 : (Rows.decimalParseRow.named == Tryz.prog.varsNamed 7) = true := by kernel_rfl
theorem decimalParse_8 : (Rows.decimalParseSpec.vars.all (Tryz.prog.varReadable ·) && Tryz.f7.resultTypes.all (fun t => Tryz.prog.readableRec t && decide (t < Tryz.prog.types.size)) && (Rows.decimalParseRow.ifacesOut == Tryz.f7.resultTypes.toList.any (Tryz.prog.ifacesRec ·)) && (Rows.decimalParseRow.loopsOut == Tryz.f7.resultTypes.toList.any (Tryz.prog.loopsFrom ·)) && (Rows.decimalParseRow.plainKeys == Tryz.prog.plainKeys) && Rows.decimalParseRow.shortTexts.isNone && Tryz.prog.stopsHeard && Tryz.prog.mayEnter) = true := by kernel_rfl
theorem decimalParse_9 : ((Rows.decimalParseRow.lifted == Tryz.prog.liftsFinal) && (Tryz.prog.make == some Rows.decimalParseRow.make) && (Rows.decimalParseRow.kinds == (if Rows.decimalParseRow.domain.isEmpty then [] else Tryz.f7.params.toList.map fun t => match Tryz.prog.underlying t with | some (.int k) => some k | _ => none)) && (Rows.decimalParseRow.pinned == Rows.decimalParseRow.pinnedBy)) = true := by kernel_rfl
theorem decimalParse_facts : joinedFacts Tryz.prog 7 Tryz.f7 Rows.decimalParseSpec Rows.decimalParseRow = true :=
  Xem decimalParse_1 (by kernel_rfl) decimalParse_3 decimalParse_4 decimalParse_5 decimalParse_6 (by kernel_rfl) decimalParse_8 decimalParse_9 (by kernel_rfl)
theorem decimalParse_said : Rows.DecimalParseSaid :=
  OpenClaim.holds_of_cond 7 Tryz.f7 rfl rfl rfl rfl rfl rfl rfl ⟨rfl, rfl, rfl, rfl, rfl⟩ rfl rfl rfl rfl rfl (by kernel_rfl) Tryz.func7 decimalParse_facts
    (of_decide_eq_true (by kernel_rfl)) (by unfold Func.isWrapper; rw [if_neg (of_decide_eq_false (by kernel_rfl))]; exact ⟨rfl, rfl⟩)
    (fun os started H enc _ F => by rw [OpenClaim.pre_eq_preRow]; exact decimalParse_lifted os started H enc F)
theorem decimalParse_plain (f : FuncId) (fn : Func) (hf : Tryz.pinned.checked.prog.funcNamed "setsquare/setsquarelaw11.DecimalParse" = some f) (hfn : Tryz.pinned.checked.prog.funcs[f]? = some fn) :
    false = Tryz.pinned.checked.prog.looks [] ∧ ∀ (j : Nat) t, fn.params[j]? = some t → Tryz.pinned.checked.prog.wantsStandIn t = false := by
  obtain rfl : f = 7 := Option.some.inj ((show Tryz.prog.funcNamed "setsquare/setsquarelaw11.DecimalParse" = some 7 by kernel_rfl).symm.trans hf) |>.symm
  obtain rfl : fn = Tryz.f7 := (Option.some.inj (Tryz.func7.symm.trans hfn)).symm
  refine ⟨by kernel_rfl, fun j t ht => ?_⟩
  have hm : t ∈ [9] := by
    have := Array.mem_of_getElem? ht
    rw [show Tryz.f7.params = #[9] by kernel_rfl] at this
    simpa using this
  exact (show ∀ t ∈ [9], Tryz.prog.wantsStandIn t = false from fun t ht => by simp at ht; subst ht; kernel_rfl) t hm
theorem DecimalParse_holds : Rows.DecimalParseCardSaid :=
  Claim7.holds_tied_plain_at .later [] _ _ _ _ decimalParse_said (fun _ h => by cases h) (by kernel_rfl) (fun _ h => by cases h) decimalParse_row_tie rfl ⟨rfl, rfl⟩ (by kernel_rfl) rfl decimalParse_plain (by kernel_rfl)
#print axioms DecimalParse_holds
end Go.Proofs.YtjcejnjhfcbafaaGreatDoor

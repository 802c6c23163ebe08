/- DecimalRestores: the value of a decimal fraction has this text; the arguments read afterwards as before. -/
import Derived.Test.YtjcejnjhfcbafaaGreatDoorXF
set_option linter.unusedVariables false
set_option linter.unusedSimpArgs false
set_option maxRecDepth 100000
namespace Go.Proofs.YtjcejnjhfcbafaaGreatDoor
open Go Go.Vm Go.ChangeShapes Go.WideShapes Go.ChangeAt Go.RowKit
theorem DecimalRestores_args : Args Tryz.prog [9] fun ds => ∃ x0 y0, ds = x0 :: y0 ∧ (∃ l : List UInt8, x0 = .str l ∧ l.length < 9223372036854775808) ∧ (y0 = []) := .cons Xle (by kernel_rfl) (of_decide_eq_true (by kernel_rfl)) (.nil)
theorem DecimalRestores_at : ∀ xs : List D, (∃ x0 y0, xs = x0 :: y0 ∧ (∃ l : List UInt8, x0 = .str l ∧ l.length < 9223372036854775808) ∧ (y0 = [])) → C Tryz.prog 9 (xs.map .d) (· = .b true) := fun xs ⟨_, _, e0, ⟨s, q0, hs⟩, e1⟩ => by subst e0; subst q0; subst e1; exact P11.DecimalRestores_ok hs
theorem decimalRestores_reads (os : Os) {H : Type} (enc : TypeId × Value → H) : ∃ places, DataW.whole enc Tryz.prog ((Xai os).forCall (fun _ _ => 0) ⟨#[], #[.string ByteArray.empty], []⟩).memory Tryz.f9.params.toList Rows.decimalRestoresSpec.vars false (#[.string ByteArray.empty] : Array Value).toList 8 = some ([.lit (.string [])], [], places) :=
  ⟨[], by kernel_rfl⟩
theorem decimalRestores_v (os : Os) : ((Xai os).forCall (fun _ _ => 0) ⟨#[], #[.string ByteArray.empty], []⟩).variablesB Tryz.checked.prog = true := by kernel_rfl
theorem decimalRestores_r (os : Os) : (((Xai os).forCall (fun _ _ => 0) ⟨#[], #[.string ByteArray.empty], []⟩).heap.toList.drop Tryz.checked.prog.globals.size).take ((begin Tryz.checked.prog (fun _ _ => 0) default).world.heap.size - Tryz.checked.prog.globals.size) = (begin Tryz.checked.prog (fun _ _ => 0) default).world.heap.toList.drop Tryz.checked.prog.globals.size := by kernel_rfl
theorem decimalRestores_k (os : Os) : Input.okWideB Tryz.checked.prog ((Xai os).forCall (fun _ _ => 0) ⟨#[], #[.string ByteArray.empty], []⟩) 9 ⟨#[], #[.string ByteArray.empty], []⟩ = true := by kernel_rfl
theorem decimalRestores_lifted (os : Os) (started : os.Started) (H : Type) (enc : TypeId × Value → H) (F : Stop.Interp) :
    ReturnsInHanded {} Tryz.checked os 9 .any ((OpenSpec.ofChange Rows.decimalRestoresSpec).preRow enc Tryz.prog Tryz.f9 Rows.decimalRestoresRow.domain false Rows.decimalRestoresRow.laid) (((OpenSpec.ofChange Rows.decimalRestoresSpec).at F).post enc Tryz.prog Tryz.f9 false true false false) := by
  obtain ⟨places, hx⟩ := decimalRestores_reads os enc
  refine returnsInHanded_of_row (C := Tryz.checked) (s := OpenSpec.ofChange Rows.decimalRestoresSpec) own started (by kernel_rfl) Tryz.func9
    (witness_row_at (enc := enc) (C := Tryz.checked) false (Xai os) #[.string ByteArray.empty] rfl (decimalRestores_v os) (decimalRestores_r os) (decimalRestores_k os)
      (OpenSpec.preRow_of_cond 8 hx (by kernel_rfl) (fun k hk => by cases hk) (by kernel_rfl) (Xej os _))) ?_
  intro W base args ds gs before hval hW _ _ _ hL _ _
  exact Ye5 Xgb Tryz.underlying4 (s := Rows.decimalRestoresSpec) DecimalRestores_args rfl rfl (fun ds h => match ds, h with | [_], _ => rfl) DecimalRestores_at W base args ds gs before hval hW (Xsb hL)
theorem decimalRestores_1 : (Rows.decimalRestoresRow.wf (OpenSpec.ofChange Rows.decimalRestoresSpec) && laidOutB Tryz.prog && mapsRowed Tryz.prog) = true := by kernel_rfl
theorem decimalRestores_4 : (Rows.decimalRestoresRow.unfollowed == Tryz.prog.unfollowed 9) = true := by kernel_rfl
theorem decimalRestores_3 : (Rows.decimalRestoresRow.inPlace == Tryz.prog.inPlace 9) = true := by kernel_rfl
theorem decimalRestores_5 : (Rows.decimalRestoresRow.recurses == Tryz.prog.recurses 9) = true := by kernel_rfl
theorem decimalRestores_6 : (Rows.decimalRestoresRow.named == Tryz.prog.varsNamed 9) = true := by kernel_rfl
theorem decimalRestores_8 : (Rows.decimalRestoresSpec.vars.all (Tryz.prog.varReadable ·) && Tryz.f9.resultTypes.all (fun t => Tryz.prog.readableRec t && decide (t < Tryz.prog.types.size)) && (Rows.decimalRestoresRow.ifacesOut == Tryz.f9.resultTypes.toList.any (Tryz.prog.ifacesRec ·)) && (Rows.decimalRestoresRow.loopsOut == Tryz.f9.resultTypes.toList.any (Tryz.prog.loopsFrom ·)) && (Rows.decimalRestoresRow.plainKeys == Tryz.prog.plainKeys) && Rows.decimalRestoresRow.shortTexts.isNone && Tryz.prog.stopsHeard && Tryz.prog.mayEnter) = true := by kernel_rfl
theorem decimalRestores_9 : ((Rows.decimalRestoresRow.lifted == Tryz.prog.liftsFinal) && (Tryz.prog.make == some Rows.decimalRestoresRow.make) && (Rows.decimalRestoresRow.kinds == (if Rows.decimalRestoresRow.domain.isEmpty then [] else Tryz.f9.params.toList.map fun t => match Tryz.prog.underlying t with | some (.int k) => some k | _ => none)) && (Rows.decimalRestoresRow.pinned == Rows.decimalRestoresRow.pinnedBy)) = true := by kernel_rfl
theorem decimalRestores_facts : joinedFacts Tryz.prog 9 Tryz.f9 Rows.decimalRestoresSpec Rows.decimalRestoresRow = true :=
  Xem decimalRestores_1 (by kernel_rfl) decimalRestores_3 decimalRestores_4 decimalRestores_5 decimalRestores_6 (by kernel_rfl) decimalRestores_8 decimalRestores_9 (by kernel_rfl)
theorem decimalRestores_said : Rows.DecimalRestoresSaid :=
  OpenClaim.holds_of_cond 9 Tryz.f9 rfl rfl rfl rfl rfl rfl rfl ⟨rfl, rfl, rfl, rfl, rfl⟩ rfl rfl rfl rfl rfl (by kernel_rfl) Tryz.func9 decimalRestores_facts
    (of_decide_eq_true (by kernel_rfl)) (by unfold Func.isWrapper; rw [if_neg (of_decide_eq_false (by kernel_rfl))]; exact ⟨rfl, rfl⟩)
    (fun os started H enc _ F => by rw [OpenClaim.pre_eq_preRow]; exact decimalRestores_lifted os started H enc F)
theorem decimalRestores_plain (f : FuncId) (fn : Func) (hf : Tryz.pinned.checked.prog.funcNamed "setsquare/setsquarelaw11.DecimalRestores" = some f) (hfn : Tryz.pinned.checked.prog.funcs[f]? = some fn) :
    false = Tryz.pinned.checked.prog.looks [] ∧ ∀ (j : Nat) t, fn.params[j]? = some t → Tryz.pinned.checked.prog.wantsStandIn t = false := by
  obtain rfl : f = 9 := Option.some.inj ((show Tryz.prog.funcNamed "setsquare/setsquarelaw11.DecimalRestores" = some 9 by kernel_rfl).symm.trans hf) |>.symm
  obtain rfl : fn = Tryz.f9 := (Option.some.inj (Tryz.func9.symm.trans hfn)).symm
  refine ⟨by kernel_rfl, fun j t ht => ?_⟩
  have hm : t ∈ [9] := by
    have := Array.mem_of_getElem? ht
    rw [show Tryz.f9.params = #[9] by kernel_rfl] at this
    simpa using this
  exact (show ∀ t ∈ [9], Tryz.prog.wantsStandIn t = false from fun t ht => by simp at ht; subst ht; kernel_rfl) t hm
theorem DecimalRestores_holds : Rows.DecimalRestoresCardSaid :=
  Claim7.holds_tied_plain_at .later [] _ _ _ _ decimalRestores_said (fun _ h => by cases h) (by kernel_rfl) (fun _ h => by cases h) decimalRestores_row_tie rfl ⟨rfl, rfl⟩ (by kernel_rfl) rfl decimalRestores_plain (by kernel_rfl)
#print axioms DecimalRestores_holds
end Go.Proofs.YtjcejnjhfcbafaaGreatDoor

/- DecimalNearest: the texts are within half a unit of the last place, and have the same value; the arguments read afterwards as before. -/
import Derived.Test.YtjcejnjhfcbafaaGreatDoorXF
set_option linter.unusedVariables false
set_option linter.unusedSimpArgs false
set_option maxRecDepth 100000
namespace Go.Proofs.YtjcejnjhfcbafaaGreatDoor
open Go Go.Vm Go.ChangeShapes Go.WideShapes Go.ChangeAt Go.RowKit
theorem DecimalNearest_args : Args Tryz.prog [23, 5, 5] fun ds => ∃ x0 y0, ds = x0 :: y0 ∧ (∃ ops : List RO, x0 = dRs ops) ∧ (∃ x1 y1, y0 = x1 :: y1 ∧ (∃ n : Nat, x1 = .int .u8 n ∧ n < 256) ∧ (∃ x2 y2, y1 = x2 :: y2 ∧ (∃ n : Nat, x2 = .int .u8 n ∧ n < 256) ∧ (y2 = []))) := .cons Xlf (by kernel_rfl) (of_decide_eq_true (by kernel_rfl)) (.cons Xm7 (by kernel_rfl) (of_decide_eq_true (by kernel_rfl)) (.cons Xm7 (by kernel_rfl) (of_decide_eq_true (by kernel_rfl)) (.nil)))
theorem DecimalNearest_at : ∀ xs : List D, (∃ x0 y0, xs = x0 :: y0 ∧ (∃ ops : List RO, x0 = dRs ops) ∧ (∃ x1 y1, y0 = x1 :: y1 ∧ (∃ n : Nat, x1 = .int .u8 n ∧ n < 256) ∧ (∃ x2 y2, y1 = x2 :: y2 ∧ (∃ n : Nat, x2 = .int .u8 n ∧ n < 256) ∧ (y2 = [])))) → C Tryz.prog 8 (xs.map .d) (· = .b true) := fun xs ⟨_, _, e0, ⟨ops, q0⟩, ⟨_, _, e1, ⟨i, q1, hi⟩, ⟨_, _, e2, ⟨d, q2, hd⟩, e3⟩⟩⟩ => by subst e0; subst q0; subst e1; subst q1; subst e2; subst q2; subst e3; exact P11.DecimalNearest_ok hi hd
theorem decimalNearest_reads (os : Os) {H : Type} (enc : TypeId × Value → H) : ∃ places, DataW.whole enc Tryz.prog ((Xai os).forCall (fun _ _ => 0) ⟨#[], #[.slice none 0 0, .int .u8 0, .int .u8 0], []⟩).memory Tryz.f8.params.toList Rows.decimalNearestSpec.vars false (#[.slice none 0 0, .int .u8 0, .int .u8 0] : Array Value).toList 8 = some ([.nil, .lit (.int .u8 0), .lit (.int .u8 0)], [], places) :=
  ⟨[], by kernel_rfl⟩
theorem decimalNearest_v (os : Os) : ((Xai os).forCall (fun _ _ => 0) ⟨#[], #[.slice none 0 0, .int .u8 0, .int .u8 0], []⟩).variablesB Tryz.checked.prog = true := by kernel_rfl
theorem decimalNearest_r (os : Os) : (((Xai os).forCall (fun _ _ => 0) ⟨#[], #[.slice none 0 0, .int .u8 0, .int .u8 0], []⟩).heap.toList.drop Tryz.checked.prog.globals.size).take ((begin Tryz.checked.prog (fun _ _ => 0) default).world.heap.size - Tryz.checked.prog.globals.size) = (begin Tryz.checked.prog (fun _ _ => 0) default).world.heap.toList.drop Tryz.checked.prog.globals.size := by kernel_rfl
theorem decimalNearest_k (os : Os) : Input.okWideB Tryz.checked.prog ((Xai os).forCall (fun _ _ => 0) ⟨#[], #[.slice none 0 0, .int .u8 0, .int .u8 0], []⟩) 8 ⟨#[], #[.slice none 0 0, .int .u8 0, .int .u8 0], []⟩ = true := by kernel_rfl
theorem decimalNearest_lifted (os : Os) (started : os.Started) (H : Type) (enc : TypeId × Value → H) (F : Stop.Interp) :
    ReturnsInHanded {} Tryz.checked os 8 .any ((OpenSpec.ofChange Rows.decimalNearestSpec).preRow enc Tryz.prog Tryz.f8 Rows.decimalNearestRow.domain false Rows.decimalNearestRow.laid) (((OpenSpec.ofChange Rows.decimalNearestSpec).at F).post enc Tryz.prog Tryz.f8 false true false false) := by
  obtain ⟨places, hx⟩ := decimalNearest_reads os enc
  refine returnsInHanded_of_row (C := Tryz.checked) (s := OpenSpec.ofChange Rows.decimalNearestSpec) own started (by kernel_rfl) Tryz.func8
    (witness_row_at (enc := enc) (C := Tryz.checked) false (Xai os) #[.slice none 0 0, .int .u8 0, .int .u8 0] rfl (decimalNearest_v os) (decimalNearest_r os) (decimalNearest_k os)
      (OpenSpec.preRow_of_cond 8 hx (by kernel_rfl) (fun k hk => by cases hk) (by kernel_rfl) (Xej os _))) ?_
  intro W base args ds gs before hval hW _ _ _ hL _ _
  exact Ye5 Xgb Tryz.underlying4 (s := Rows.decimalNearestSpec) DecimalNearest_args rfl rfl (fun ds h => match ds, h with | [_, _, _], _ => rfl) DecimalNearest_at W base args ds gs before hval hW (Xsb hL)
theorem decimalNearest_1 : (Rows.decimalNearestRow.wf (OpenSpec.ofChange Rows.decimalNearestSpec) && laidOutB Tryz.prog && mapsRowed Tryz.prog) = true := by kernel_rfl
theorem decimalNearest_4 : (Rows.decimalNearestRow.unfollowed == Tryz.prog.unfollowed 8) = true := by kernel_rfl
theorem decimalNearest_3 : (Rows.decimalNearestRow.inPlace == Tryz.prog.inPlace 8) = true := by kernel_rfl
theorem decimalNearest_5 : (Rows.decimalNearestRow.recurses == Tryz.prog.recurses 8) = true := by kernel_rfl
theorem decimalNearest_6 : (Rows.decimalNearestRow.named == Tryz.prog.varsNamed 8) = true := by kernel_rfl
theorem decimalNearest_8 : (Rows.decimalNearestSpec.vars.all (Tryz.prog.varReadable ·) && Tryz.f8.resultTypes.all (fun t => Tryz.prog.readableRec t && decide (t < Tryz.prog.types.size)) && (Rows.decimalNearestRow.ifacesOut == Tryz.f8.resultTypes.toList.any (Tryz.prog.ifacesRec ·)) && (Rows.decimalNearestRow.loopsOut == Tryz.f8.resultTypes.toList.any (Tryz.prog.loopsFrom ·)) && (Rows.decimalNearestRow.plainKeys == Tryz.prog.plainKeys) && Rows.decimalNearestRow.shortTexts.isNone && Tryz.prog.stopsHeard && Tryz.prog.mayEnter) = true := by kernel_rfl
theorem decimalNearest_9 : ((Rows.decimalNearestRow.lifted == Tryz.prog.liftsFinal) && (Tryz.prog.make == some Rows.decimalNearestRow.make) && (Rows.decimalNearestRow.kinds == (if Rows.decimalNearestRow.domain.isEmpty then [] else Tryz.f8.params.toList.map fun t => match Tryz.prog.underlying t with | some (.int k) => some k | _ => none)) && (Rows.decimalNearestRow.pinned == Rows.decimalNearestRow.pinnedBy)) = true := by kernel_rfl
theorem decimalNearest_facts : joinedFacts Tryz.prog 8 Tryz.f8 Rows.decimalNearestSpec Rows.decimalNearestRow = true :=
  Xem decimalNearest_1 (by kernel_rfl) decimalNearest_3 decimalNearest_4 decimalNearest_5 decimalNearest_6 (by kernel_rfl) decimalNearest_8 decimalNearest_9 (by kernel_rfl)
theorem decimalNearest_said : Rows.DecimalNearestSaid :=
  OpenClaim.holds_of_cond 8 Tryz.f8 rfl rfl rfl rfl rfl rfl rfl ⟨rfl, rfl, rfl, rfl, rfl⟩ rfl rfl rfl rfl rfl (by kernel_rfl) Tryz.func8 decimalNearest_facts
    (of_decide_eq_true (by kernel_rfl)) (by unfold Func.isWrapper; rw [if_neg (of_decide_eq_false (by kernel_rfl))]; exact ⟨rfl, rfl⟩)
    (fun os started H enc _ F => by rw [OpenClaim.pre_eq_preRow]; exact decimalNearest_lifted os started H enc F)
theorem decimalNearest_plain (f : FuncId) (fn : Func) (hf : Tryz.pinned.checked.prog.funcNamed "setsquare/setsquarelaw11.DecimalNearest" = some f) (hfn : Tryz.pinned.checked.prog.funcs[f]? = some fn) :
    false = Tryz.pinned.checked.prog.looks [] ∧ ∀ (j : Nat) t, fn.params[j]? = some t → Tryz.pinned.checked.prog.wantsStandIn t = false := by
  obtain rfl : f = 8 := Option.some.inj ((show Tryz.prog.funcNamed "setsquare/setsquarelaw11.DecimalNearest" = some 8 by kernel_rfl).symm.trans hf) |>.symm
  obtain rfl : fn = Tryz.f8 := (Option.some.inj (Tryz.func8.symm.trans hfn)).symm
  refine ⟨by kernel_rfl, fun j t ht => ?_⟩
  have hm : t ∈ [23, 5, 5] := by
    have := Array.mem_of_getElem? ht
    rw [show Tryz.f8.params = #[23, 5, 5] by kernel_rfl] at this
    simpa using this
  exact (show ∀ t ∈ [23, 5, 5], Tryz.prog.wantsStandIn t = false from fun t ht => by simp at ht; rcases ht with rfl | rfl | rfl <;> kernel_rfl) t hm
theorem DecimalNearest_holds : Rows.DecimalNearestCardSaid :=
  Claim7.holds_tied_plain_at .later [] _ _ _ _ decimalNearest_said (fun _ h => by cases h) (by kernel_rfl) (fun _ h => by cases h) decimalNearest_row_tie rfl ⟨rfl, rfl⟩ (by kernel_rfl) rfl decimalNearest_plain (by kernel_rfl)
#print axioms DecimalNearest_holds
end Go.Proofs.YtjcejnjhfcbafaaGreatDoor

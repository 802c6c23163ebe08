/- DecimalWithin: Within reports for every number and text what is specified; the arguments read afterwards as before. -/
import Derived.Test.YtjcejnjhfcbafaaGreatDoorXF
set_option linter.unusedVariables false
set_option linter.unusedSimpArgs false
set_option maxRecDepth 100000
namespace Go.Proofs.YtjcejnjhfcbafaaGreatDoor
open Go Go.Vm Go.ChangeShapes Go.WideShapes Go.ChangeAt Go.RowKit
theorem DecimalWithin_args : Args Tryz.prog [23, 5, 9] fun ds => ∃ x0 y0, ds = x0 :: y0 ∧ (∃ ops : List RO, x0 = dRs ops) ∧ (∃ x1 y1, y0 = x1 :: y1 ∧ (∃ n : Nat, x1 = .int .u8 n ∧ n < 256) ∧ (∃ x2 y2, y1 = x2 :: y2 ∧ (∃ l : List UInt8, x2 = .str l ∧ l.length < 9223372036854775808) ∧ (y2 = []))) := .cons Xlf (by kernel_rfl) (of_decide_eq_true (by kernel_rfl)) (.cons Xm7 (by kernel_rfl) (of_decide_eq_true (by kernel_rfl)) (.cons Xle (by kernel_rfl) (of_decide_eq_true (by kernel_rfl)) (.nil)))
theorem DecimalWithin_at : ∀ xs : List D, (∃ x0 y0, xs = x0 :: y0 ∧ (∃ ops : List RO, x0 = dRs ops) ∧ (∃ x1 y1, y0 = x1 :: y1 ∧ (∃ n : Nat, x1 = .int .u8 n ∧ n < 256) ∧ (∃ x2 y2, y1 = x2 :: y2 ∧ (∃ l : List UInt8, x2 = .str l ∧ l.length < 9223372036854775808) ∧ (y2 = [])))) → C Tryz.prog 4 (xs.map .d) (· = .b true) := fun xs ⟨_, _, e0, ⟨ops, q0⟩, ⟨_, _, e1, ⟨i, q1, hi⟩, ⟨_, _, e2, ⟨s, q2, hs⟩, e3⟩⟩⟩ => by subst e0; subst q0; subst e1; subst q1; subst e2; subst q2; subst e3; exact P11.DecimalWithin_ok hi hs
theorem decimalWithin_reads (os : Os) {H : Type} (enc : TypeId × Value → H) : ∃ places, DataW.whole enc Tryz.prog ((Xai os).forCall (fun _ _ => 0) ⟨#[], #[.slice none 0 0, .int .u8 0, .string ByteArray.empty], []⟩).memory Tryz.f4.params.toList Rows.decimalWithinSpec.vars false (#[.slice none 0 0, .int .u8 0, .string ByteArray.empty] : Array Value).toList 8 = some ([.nil, .lit (.int .u8 0), .lit (.string [])], [], places) :=
  ⟨[], by kernel_rfl⟩
theorem decimalWithin_v (os : Os) : ((Xai os).forCall (fun _ _ => 0) ⟨#[], #[.slice none 0 0, .int .u8 0, .string ByteArray.empty], []⟩).variablesB Tryz.checked.prog = true := by kernel_rfl
theorem decimalWithin_r (os : Os) : (((Xai os).forCall (fun _ _ => 0) ⟨#[], #[.slice none 0 0, .int .u8 0, .string ByteArray.empty], []⟩).heap.toList.drop Tryz.checked.prog.globals.size).take ((begin Tryz.checked.prog (fun _ _ => 0) default).world.heap.size - Tryz.checked.prog.globals.size) = (begin Tryz.checked.prog (fun _ _ => 0) default).world.heap.toList.drop Tryz.checked.prog.globals.size := by kernel_rfl
theorem decimalWithin_k (os : Os) : Input.okWideB Tryz.checked.prog ((Xai os).forCall (fun _ _ => 0) ⟨#[], #[.slice none 0 0, .int .u8 0, .string ByteArray.empty], []⟩) 4 ⟨#[], #[.slice none 0 0, .int .u8 0, .string ByteArray.empty], []⟩ = true := by kernel_rfl
theorem decimalWithin_lifted (os : Os) (started : os.Started) (H : Type) (enc : TypeId × Value → H) (F : Stop.Interp) :
    ReturnsInHanded {} Tryz.checked os 4 .any ((OpenSpec.ofChange Rows.decimalWithinSpec).preRow enc Tryz.prog Tryz.f4 Rows.decimalWithinRow.domain false Rows.decimalWithinRow.laid) (((OpenSpec.ofChange Rows.decimalWithinSpec).at F).post enc Tryz.prog Tryz.f4 false true false false) := by
  obtain ⟨places, hx⟩ := decimalWithin_reads os enc
  refine returnsInHanded_of_row (C := Tryz.checked) (s := OpenSpec.ofChange Rows.decimalWithinSpec) own started (by kernel_rfl) Tryz.func4
    (witness_row_at (enc := enc) (C := Tryz.checked) false (Xai os) #[.slice none 0 0, .int .u8 0, .string ByteArray.empty] rfl (decimalWithin_v os) (decimalWithin_r os) (decimalWithin_k os)
      (OpenSpec.preRow_of_cond 8 hx (by kernel_rfl) (fun k hk => by cases hk) (by kernel_rfl) (Xej os _))) ?_
  intro W base args ds gs before hval hW _ _ _ hL _ _
  exact Ye5 Xgb Tryz.underlying4 (s := Rows.decimalWithinSpec) DecimalWithin_args rfl rfl (fun ds h => match ds, h with | [_, _, _], _ => rfl) DecimalWithin_at W base args ds gs before hval hW (Xsb hL)
theorem decimalWithin_1 : (Rows.decimalWithinRow.wf (OpenSpec.ofChange Rows.decimalWithinSpec) && laidOutB Tryz.prog && mapsRowed Tryz.prog) = true := by kernel_rfl
theorem decimalWithin_4 : (Rows.decimalWithinRow.unfollowed == Tryz.prog.unfollowed 4) = true := by kernel_rfl
theorem decimalWithin_3 : (Rows.decimalWithinRow.inPlace == Tryz.prog.inPlace 4) = true := by kernel_rfl
theorem decimalWithin_5 : (Rows.decimalWithinRow.recurses == Tryz.prog.recurses 4) = true := by kernel_rfl
theorem decimalWithin_6 : (Rows.decimalWithinRow.named == Tryz.prog.varsNamed 4) = true := by kernel_rfl
theorem decimalWithin_8 : (Rows.decimalWithinSpec.vars.all (Tryz.prog.varReadable ·) && Tryz.f4.resultTypes.all (fun t => Tryz.prog.readableRec t && decide (t < Tryz.prog.types.size)) && (Rows.decimalWithinRow.ifacesOut == Tryz.f4.resultTypes.toList.any (Tryz.prog.ifacesRec ·)) && (Rows.decimalWithinRow.loopsOut == Tryz.f4.resultTypes.toList.any (Tryz.prog.loopsFrom ·)) && (Rows.decimalWithinRow.plainKeys == Tryz.prog.plainKeys) && Rows.decimalWithinRow.shortTexts.isNone && Tryz.prog.stopsHeard && Tryz.prog.mayEnter) = true := by kernel_rfl
theorem decimalWithin_9 : ((Rows.decimalWithinRow.lifted == Tryz.prog.liftsFinal) && (Tryz.prog.make == some Rows.decimalWithinRow.make) && (Rows.decimalWithinRow.kinds == (if Rows.decimalWithinRow.domain.isEmpty then [] else Tryz.f4.params.toList.map fun t => match Tryz.prog.underlying t with | some (.int k) => some k | _ => none)) && (Rows.decimalWithinRow.pinned == Rows.decimalWithinRow.pinnedBy)) = true := by kernel_rfl
theorem decimalWithin_facts : joinedFacts Tryz.prog 4 Tryz.f4 Rows.decimalWithinSpec Rows.decimalWithinRow = true :=
  Xem decimalWithin_1 (by kernel_rfl) decimalWithin_3 decimalWithin_4 decimalWithin_5 decimalWithin_6 (by kernel_rfl) decimalWithin_8 decimalWithin_9 (by kernel_rfl)
theorem decimalWithin_said : Rows.DecimalWithinSaid :=
  OpenClaim.holds_of_cond 4 Tryz.f4 rfl rfl rfl rfl rfl rfl rfl ⟨rfl, rfl, rfl, rfl, rfl⟩ rfl rfl rfl rfl rfl (by kernel_rfl) Tryz.func4 decimalWithin_facts
    (of_decide_eq_true (by kernel_rfl)) (by unfold Func.isWrapper; rw [if_neg (of_decide_eq_false (by kernel_rfl))]; exact ⟨rfl, rfl⟩)
    (fun os started H enc _ F => by rw [OpenClaim.pre_eq_preRow]; exact decimalWithin_lifted os started H enc F)
theorem decimalWithin_plain (f : FuncId) (fn : Func) (hf : Tryz.pinned.checked.prog.funcNamed "setsquare/setsquarelaw11.DecimalWithin" = some f) (hfn : Tryz.pinned.checked.prog.funcs[f]? = some fn) :
    false = Tryz.pinned.checked.prog.looks [] ∧ ∀ (j : Nat) t, fn.params[j]? = some t → Tryz.pinned.checked.prog.wantsStandIn t = false := by
  obtain rfl : f = 4 := Option.some.inj ((show Tryz.prog.funcNamed "setsquare/setsquarelaw11.DecimalWithin" = some 4 by kernel_rfl).symm.trans hf) |>.symm
  obtain rfl : fn = Tryz.f4 := (Option.some.inj (Tryz.func4.symm.trans hfn)).symm
  refine ⟨by kernel_rfl, fun j t ht => ?_⟩
  have hm : t ∈ [23, 5, 9] := by
    have := Array.mem_of_getElem? ht
    rw [show Tryz.f4.params = #[23, 5, 9] by kernel_rfl] at this
    simpa using this
  exact (show ∀ t ∈ [23, 5, 9], Tryz.prog.wantsStandIn t = false from fun t ht => by simp at ht; rcases ht with rfl | rfl | rfl <;> kernel_rfl) t hm
theorem DecimalWithin_holds : Rows.DecimalWithinCardSaid :=
  Claim7.holds_tied_plain_at .later [] _ _ _ _ decimalWithin_said (fun _ h => by cases h) (by kernel_rfl) (fun _ h => by cases h) decimalWithin_row_tie rfl ⟨rfl, rfl⟩ (by kernel_rfl) rfl decimalWithin_plain (by kernel_rfl)
#print axioms DecimalWithin_holds
end Go.Proofs.YtjcejnjhfcbafaaGreatDoor

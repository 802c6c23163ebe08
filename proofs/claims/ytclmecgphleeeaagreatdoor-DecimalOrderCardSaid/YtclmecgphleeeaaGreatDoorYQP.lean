/- DecimalOrder: rounded values have the order of the numbers, and floors are at most rounded values; the arguments read afterwards as before. -/
import Derived.Test.YtclmecgphleeeaaGreatDoorXF
set_option linter.unusedVariables false
set_option linter.unusedSimpArgs false
set_option maxRecDepth 100000
namespace Go.Proofs.YtclmecgphleeeaaGreatDoor
open P11 Go Go.Vm Go.ChangeShapes Go.WideShapes Go.ChangeAt Go.RowKit
theorem DecimalOrder_args : Args Tryz.prog [23, 24, 5] fun ds => ∃ x0 y0, ds = x0 :: y0 ∧ (∃ ops : List RO, x0 = dRs ops) ∧ (∃ x1 y1, y0 = x1 :: y1 ∧ (∃ i j : Nat, x1 = dU8 i j ∧ i < 256 ∧ j < 256) ∧ (∃ x2 y2, y1 = x2 :: y2 ∧ (∃ n : Nat, x2 = .int .u8 n ∧ n < 256) ∧ (y2 = []))) := .cons Ydi (by kernel_rfl) (of_decide_eq_true (by kernel_rfl)) (.cons Xya (by kernel_rfl) (of_decide_eq_true (by kernel_rfl)) (.cons Yhl (by kernel_rfl) (of_decide_eq_true (by kernel_rfl)) (.nil)))
theorem DecimalOrder_at : ∀ xs : List D, (∃ x0 y0, xs = x0 :: y0 ∧ (∃ ops : List RO, x0 = dRs ops) ∧ (∃ x1 y1, y0 = x1 :: y1 ∧ (∃ i j : Nat, x1 = dU8 i j ∧ i < 256 ∧ j < 256) ∧ (∃ x2 y2, y1 = x2 :: y2 ∧ (∃ n : Nat, x2 = .int .u8 n ∧ n < 256) ∧ (y2 = [])))) → C Tryz.prog 3 (xs.map .d) (· = .b true) := fun xs ⟨_, _, e0, ⟨ops, q0⟩, ⟨_, _, e1, ⟨i, j, q1, hi, hj⟩, ⟨_, _, e2, ⟨d, q2, hd⟩, e3⟩⟩⟩ => by subst e0; subst q0; subst e1; subst q1; subst e2; subst q2; subst e3; exact P11.DecimalOrder_ok hi hj hd
theorem decimalOrder_reads (os : Os) {H : Type} (enc : TypeId × Value → H) : ∃ places, DataW.whole enc Tryz.prog ((Xc5 os).forCall (fun _ _ => 0) ⟨#[], #[.slice none 0 0, .agg #[.int .u8 0, .int .u8 0], .int .u8 0], []⟩).memory Tryz.f3.params.toList Rows.decimalOrderSpec.vars false (#[.slice none 0 0, .agg #[.int .u8 0, .int .u8 0], .int .u8 0] : Array Value).toList 8 = some ([.nil, .agg [.lit (.int .u8 0), .lit (.int .u8 0)], .lit (.int .u8 0)], [], places) :=
  ⟨[], by kernel_rfl⟩
theorem decimalOrder_v (os : Os) : ((Xc5 os).forCall (fun _ _ => 0) ⟨#[], #[.slice none 0 0, .agg #[.int .u8 0, .int .u8 0], .int .u8 0], []⟩).variablesB Tryz.checked.prog = true := by kernel_rfl
theorem decimalOrder_r (os : Os) : (((Xc5 os).forCall (fun _ _ => 0) ⟨#[], #[.slice none 0 0, .agg #[.int .u8 0, .int .u8 0], .int .u8 0], []⟩).heap.toList.drop Tryz.checked.prog.globals.size).take ((begin Tryz.checked.prog (fun _ _ => 0) default).world.heap.size - Tryz.checked.prog.globals.size) = (begin Tryz.checked.prog (fun _ _ => 0) default).world.heap.toList.drop Tryz.checked.prog.globals.size := by kernel_rfl
theorem decimalOrder_k (os : Os) : Input.okWideB Tryz.checked.prog ((Xc5 os).forCall (fun _ _ => 0) ⟨#[], #[.slice none 0 0, .agg #[.int .u8 0, .int .u8 0], .int .u8 0], []⟩) 3 ⟨#[], #[.slice none 0 0, .agg #[.int .u8 0, .int .u8 0], .int .u8 0], []⟩ = true := by kernel_rfl
theorem decimalOrder_lifted (os : Os) (started : os.Started) (H : Type) (enc : TypeId × Value → H) (F : Stop.Interp) :
    ReturnsInHanded {} Tryz.checked os 3 .any ((OpenSpec.ofChange Rows.decimalOrderSpec).preRow enc Tryz.prog Tryz.f3 Rows.decimalOrderRow.domain false Rows.decimalOrderRow.laid) (((OpenSpec.ofChange Rows.decimalOrderSpec).at F).post enc Tryz.prog Tryz.f3 false true false false) := by
  obtain ⟨places, hx⟩ := decimalOrder_reads os enc
  refine returnsInHanded_of_row (C := Tryz.checked) (s := OpenSpec.ofChange Rows.decimalOrderSpec) own started (by kernel_rfl) Tryz.func3
    (witness_row_at (enc := enc) (C := Tryz.checked) false (Xc5 os) #[.slice none 0 0, .agg #[.int .u8 0, .int .u8 0], .int .u8 0] rfl (decimalOrder_v os) (decimalOrder_r os) (decimalOrder_k os)
      (OpenSpec.preRow_of_cond 8 hx (by kernel_rfl) (fun k hk => by cases hk) (by kernel_rfl) (Xw5 os _))) ?_
  intro W base args ds gs before hval hW _ _ _ hL _ _
  exact Ymc Yb3 Tryz.underlying4 (s := Rows.decimalOrderSpec) DecimalOrder_args rfl rfl (fun ds h => match ds, h with | [_, _, _], _ => rfl) DecimalOrder_at W base args ds gs before hval hW (Yjw hL)
theorem decimalOrder_1 : (Rows.decimalOrderRow.wf (OpenSpec.ofChange Rows.decimalOrderSpec) && laidOutB Tryz.prog && mapsRowed Tryz.prog) = true := by kernel_rfl
theorem decimalOrder_4 : (Rows.decimalOrderRow.unfollowed == Tryz.prog.unfollowed 3) = true := by kernel_rfl
theorem decimalOrder_3 : (Rows.decimalOrderRow.inPlace == Tryz.prog.inPlace 3) = true := by kernel_rfl
theorem decimalOrder_5 : (Rows.decimalOrderRow.recurses == Tryz.prog.recurses 3) = true := by kernel_rfl
theorem decimalOrder_6 : (Rows.decimalOrderRow.named == Tryz.prog.varsNamed 3) = true := by kernel_rfl
theorem decimalOrder_8 : (Rows.decimalOrderSpec.vars.all (Tryz.prog.varReadable ·) && Tryz.f3.resultTypes.all (fun t => Tryz.prog.readableRec t && decide (t < Tryz.prog.types.size)) && (Rows.decimalOrderRow.ifacesOut == Tryz.f3.resultTypes.toList.any (Tryz.prog.ifacesRec ·)) && (Rows.decimalOrderRow.loopsOut == Tryz.f3.resultTypes.toList.any (Tryz.prog.loopsFrom ·)) && (Rows.decimalOrderRow.plainKeys == Tryz.prog.plainKeys) && Rows.decimalOrderRow.shortTexts.isNone && Tryz.prog.stopsHeard && Tryz.prog.mayEnter) = true := by kernel_rfl
theorem decimalOrder_9 : ((Rows.decimalOrderRow.lifted == Tryz.prog.liftsFinal) && (Tryz.prog.make == some Rows.decimalOrderRow.make) && (Rows.decimalOrderRow.kinds == (if Rows.decimalOrderRow.domain.isEmpty then [] else Tryz.f3.params.toList.map fun t => match Tryz.prog.underlying t with | some (.int k) => some k | _ => none)) && (Rows.decimalOrderRow.pinned == Rows.decimalOrderRow.pinnedBy)) = true := by kernel_rfl
theorem decimalOrder_facts : joinedFacts Tryz.prog 3 Tryz.f3 Rows.decimalOrderSpec Rows.decimalOrderRow = true :=
  Xxm decimalOrder_1 (by kernel_rfl) decimalOrder_3 decimalOrder_4 decimalOrder_5 decimalOrder_6 (by kernel_rfl) decimalOrder_8 decimalOrder_9 (by kernel_rfl)
theorem decimalOrder_said : Rows.DecimalOrderSaid :=
  OpenClaim.holds_of_cond 3 Tryz.f3 rfl rfl rfl rfl rfl rfl rfl ⟨rfl, rfl, rfl, rfl, rfl⟩ rfl rfl rfl rfl rfl (by kernel_rfl) Tryz.func3 decimalOrder_facts
    (of_decide_eq_true (by kernel_rfl)) (by unfold Func.isWrapper; rw [if_neg (of_decide_eq_false (by kernel_rfl))]; exact ⟨rfl, rfl⟩)
    (fun os started H enc _ F => by rw [OpenClaim.pre_eq_preRow]; exact decimalOrder_lifted os started H enc F)
theorem decimalOrder_plain (f : FuncId) (fn : Func) (hf : Tryz.pinned.checked.prog.funcNamed "setsquare/setsquarelaw11.DecimalOrder" = some f) (hfn : Tryz.pinned.checked.prog.funcs[f]? = some fn) :
    false = Tryz.pinned.checked.prog.looks [] ∧ ∀ (j : Nat) t, fn.params[j]? = some t → Tryz.pinned.checked.prog.wantsStandIn t = false := by
  obtain rfl : f = 3 := Option.some.inj ((show Tryz.prog.funcNamed "setsquare/setsquarelaw11.DecimalOrder" = some 3 by kernel_rfl).symm.trans hf) |>.symm
  obtain rfl : fn = Tryz.f3 := (Option.some.inj (Tryz.func3.symm.trans hfn)).symm
  refine ⟨by kernel_rfl, fun j t ht => ?_⟩
  have hm : t ∈ [23, 24, 5] := by
    have := Array.mem_of_getElem? ht
    rw [show Tryz.f3.params = #[23, 24, 5] by kernel_rfl] at this
    simpa using this
  exact (show ∀ t ∈ [23, 24, 5], Tryz.prog.wantsStandIn t = false from fun t ht => by simp at ht; rcases ht with rfl | rfl | rfl <;> kernel_rfl) t hm
theorem goes_none : (Tryz.prog.funcs.toList.all fun fn => !fn.goes) = true := by kernel_rfl
theorem goes_of {P : Program} (h : (P.funcs.toList.all fun fn => !fn.goes) = true) (f : FuncId) : P.goes f = false := by
  have h1 : ∀ fn ∈ P.funcs.toList, fn.goes = false := fun fn hf => by simpa using List.all_eq_true.1 h fn hf
  unfold Program.goes
  rw [Bool.or_eq_false_iff]
  constructor
  · rw [Bool.eq_false_iff]
    intro e
    obtain ⟨g, _, hg⟩ := List.any_eq_true.1 e
    cases hx : P.funcs[g]? with
    | none => rw [hx] at hg; cases hg
    | some fn =>
      rw [hx] at hg
      have hg : fn.goes = true := hg
      rw [h1 fn (by have := Array.mem_of_getElem? hx; simpa using this)] at hg
      cases hg
  · rw [Bool.and_eq_false_iff]
    right
    rw [Bool.eq_false_iff]
    intro e
    rw [Array.any_eq_true'] at e
    obtain ⟨fn, hf, hg⟩ := e
    rw [h1 fn (by simpa using hf)] at hg
    cases hg
theorem goesBy_of {P : Program} {c : OpenClaim} (h : (P.funcs.toList.all fun fn => !fn.goes) = true) (hs : c.start = .entering) : false = c.goesBy P := by
  unfold OpenClaim.goesBy Program.goesAt Program.goesFrom
  rw [hs]
  cases hf : P.funcNamed c.func with
  | none => rfl
  | some f => exact (by simp [goes_of h f])
theorem DecimalOrder_holds : Rows.DecimalOrderCardSaid :=
  Claim7.holds_tied_plain_at .later [] _ _ _ _ decimalOrder_said (fun _ h => by cases h) (by kernel_rfl) (fun _ h => by cases h) decimalOrder_row_tie rfl ⟨rfl, rfl⟩ (by kernel_rfl) rfl decimalOrder_plain (goesBy_of (P := Tryz.prog) goes_none rfl)
#print axioms DecimalOrder_holds
end Go.Proofs.YtclmecgphleeeaaGreatDoor

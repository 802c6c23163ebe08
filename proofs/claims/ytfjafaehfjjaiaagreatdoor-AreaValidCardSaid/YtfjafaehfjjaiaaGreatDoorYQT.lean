/- AreaValid: Valid accepts exactly areas in normal form, and Equal compares them; the arguments read afterwards as before. -/
import Derived.Test.YtfjafaehfjjaiaaGreatDoorXG
set_option linter.unusedVariables false
set_option linter.unusedSimpArgs false
set_option maxRecDepth 100000
namespace Go.Proofs.YtfjafaehfjjaiaaGreatDoor
open P20 Go Go.Vm Go.ChangeShapes Go.WideShapes Go.ChangeAt Go.RowKit
theorem AreaValid_args : Args Tryz.prog [29, 29, 5] fun ds => ∃ x0 y0, ds = x0 :: y0 ∧ (∃ (ops : List RO) (l : List (Fin 256)) (ts : List Int), x0 = R20.dCb ops l ts ∧ ts.length < 9223372036854775808 ∧ ∀ z ∈ ts, -9223372036854775808 ≤ z ∧ z < 9223372036854775808) ∧ (∃ x1 y1, y0 = x1 :: y1 ∧ (∃ (ops : List RO) (l : List (Fin 256)) (ts : List Int), x1 = R20.dCb ops l ts ∧ ts.length < 9223372036854775808 ∧ ∀ z ∈ ts, -9223372036854775808 ≤ z ∧ z < 9223372036854775808) ∧ (∃ x2 y2, y1 = x2 :: y2 ∧ (∃ n : Nat, x2 = .int .u8 n ∧ n < 256) ∧ (y2 = []))) := .cons Ycd (by kernel_rfl) (of_decide_eq_true (by kernel_rfl)) (.cons Ycd (by kernel_rfl) (of_decide_eq_true (by kernel_rfl)) (.cons Yjx (by kernel_rfl) (of_decide_eq_true (by kernel_rfl)) (.nil)))
theorem AreaValid_at : ∀ xs : List D, (∃ x0 y0, xs = x0 :: y0 ∧ (∃ (ops : List RO) (l : List (Fin 256)) (ts : List Int), x0 = R20.dCb ops l ts ∧ ts.length < 9223372036854775808 ∧ ∀ z ∈ ts, -9223372036854775808 ≤ z ∧ z < 9223372036854775808) ∧ (∃ x1 y1, y0 = x1 :: y1 ∧ (∃ (ops : List RO) (l : List (Fin 256)) (ts : List Int), x1 = R20.dCb ops l ts ∧ ts.length < 9223372036854775808 ∧ ∀ z ∈ ts, -9223372036854775808 ≤ z ∧ z < 9223372036854775808) ∧ (∃ x2 y2, y1 = x2 :: y2 ∧ (∃ n : Nat, x2 = .int .u8 n ∧ n < 256) ∧ (y2 = [])))) → C Tryz.prog 4 (xs.map .d) (· = .b true) := fun xs ⟨_, _, e0, ⟨o1, l1, ts, q0, ht, hz⟩, ⟨_, _, e1, ⟨o2, l2, ts2, q1, ht2, hz2⟩, ⟨_, _, e2, ⟨s, q2, hs⟩, e3⟩⟩⟩ => by subst e0; subst q0; subst e1; subst q1; subst e2; subst q2; subst e3; exact P20.AreaValid_ok hs ht hz ht2 hz2
theorem areaValid_reads (os : Os) {H : Type} (enc : TypeId × Value → H) : ∃ places, DataW.whole enc Tryz.prog ((Xdn os).forCall (fun _ _ => 0) ⟨#[], #[.agg #[.slice none 0 0, .slice none 0 0, .slice none 0 0], .agg #[.slice none 0 0, .slice none 0 0, .slice none 0 0], .int .u8 0], []⟩).memory Tryz.f4.params.toList Rows.areaValidSpec.vars false (#[.agg #[.slice none 0 0, .slice none 0 0, .slice none 0 0], .agg #[.slice none 0 0, .slice none 0 0, .slice none 0 0], .int .u8 0] : Array Value).toList 8 = some ([.agg [.agg [.nil, .nil], .nil], .agg [.agg [.nil, .nil], .nil], .lit (.int .u8 0)], [], places) :=
  ⟨[], by kernel_rfl⟩
theorem areaValid_v (os : Os) : ((Xdn os).forCall (fun _ _ => 0) ⟨#[], #[.agg #[.slice none 0 0, .slice none 0 0, .slice none 0 0], .agg #[.slice none 0 0, .slice none 0 0, .slice none 0 0], .int .u8 0], []⟩).variablesB Tryz.checked.prog = true := by kernel_rfl
theorem areaValid_r (os : Os) : (((Xdn os).forCall (fun _ _ => 0) ⟨#[], #[.agg #[.slice none 0 0, .slice none 0 0, .slice none 0 0], .agg #[.slice none 0 0, .slice none 0 0, .slice none 0 0], .int .u8 0], []⟩).heap.toList.drop Tryz.checked.prog.globals.size).take ((begin Tryz.checked.prog (fun _ _ => 0) default).world.heap.size - Tryz.checked.prog.globals.size) = (begin Tryz.checked.prog (fun _ _ => 0) default).world.heap.toList.drop Tryz.checked.prog.globals.size := by kernel_rfl
theorem areaValid_k (os : Os) : Input.okWideB Tryz.checked.prog ((Xdn os).forCall (fun _ _ => 0) ⟨#[], #[.agg #[.slice none 0 0, .slice none 0 0, .slice none 0 0], .agg #[.slice none 0 0, .slice none 0 0, .slice none 0 0], .int .u8 0], []⟩) 4 ⟨#[], #[.agg #[.slice none 0 0, .slice none 0 0, .slice none 0 0], .agg #[.slice none 0 0, .slice none 0 0, .slice none 0 0], .int .u8 0], []⟩ = true := by kernel_rfl
theorem areaValid_lifted (os : Os) (started : os.Started) (H : Type) (enc : TypeId × Value → H) (F : Stop.Interp) :
    ReturnsInHanded {} Tryz.checked os 4 .any ((OpenSpec.ofChange Rows.areaValidSpec).preRow enc Tryz.prog Tryz.f4 Rows.areaValidRow.domain false Rows.areaValidRow.laid) (((OpenSpec.ofChange Rows.areaValidSpec).at F).post enc Tryz.prog Tryz.f4 false true false false) := by
  obtain ⟨places, hx⟩ := areaValid_reads os enc
  refine returnsInHanded_of_row (C := Tryz.checked) (s := OpenSpec.ofChange Rows.areaValidSpec) own started (by kernel_rfl) Tryz.func4
    (witness_row_at (enc := enc) (C := Tryz.checked) false (Xdn os) #[.agg #[.slice none 0 0, .slice none 0 0, .slice none 0 0], .agg #[.slice none 0 0, .slice none 0 0, .slice none 0 0], .int .u8 0] rfl (areaValid_v os) (areaValid_r os) (areaValid_k os)
      (OpenSpec.preRow_of_cond 8 hx (by kernel_rfl) (fun k hk => by cases hk) (by kernel_rfl) (Xy0 os _))) ?_
  intro W base args ds gs before hval hW _ _ _ hL _ _
  exact Yo0 Yd4 Tryz.underlying4 (s := Rows.areaValidSpec) AreaValid_args rfl rfl (fun ds h => match ds, h with | [_, _, _], _ => rfl) AreaValid_at W base args ds gs before hval hW (Ymc hL)
theorem areaValid_1 : (Rows.areaValidRow.wf (OpenSpec.ofChange Rows.areaValidSpec) && laidOutB Tryz.prog && mapsRowed Tryz.prog) = true := by kernel_rfl
theorem areaValid_4 : (Rows.areaValidRow.unfollowed == Tryz.prog.unfollowed 4) = true := by kernel_rfl
theorem areaValid_3 : (Rows.areaValidRow.inPlace == Tryz.prog.inPlace 4) = true := by kernel_rfl
theorem areaValid_5 : (Rows.areaValidRow.recurses == Tryz.prog.recurses 4) = true := by kernel_rfl
theorem areaValid_6 : (Rows.areaValidRow.named == Tryz.prog.varsNamed 4) = true := by kernel_rfl
theorem areaValid_8 : (Rows.areaValidSpec.vars.all (Tryz.prog.varReadable ·) && Tryz.f4.resultTypes.all (fun t => Tryz.prog.readableRec t && decide (t < Tryz.prog.types.size)) && (Rows.areaValidRow.ifacesOut == Tryz.f4.resultTypes.toList.any (Tryz.prog.ifacesRec ·)) && (Rows.areaValidRow.loopsOut == Tryz.f4.resultTypes.toList.any (Tryz.prog.loopsFrom ·)) && (Rows.areaValidRow.plainKeys == Tryz.prog.plainKeys) && Rows.areaValidRow.shortTexts.isNone && Tryz.prog.stopsHeard && Tryz.prog.mayEnter) = true := by kernel_rfl
theorem areaValid_9 : ((Rows.areaValidRow.lifted == Tryz.prog.liftsFinal) && (Tryz.prog.make == some Rows.areaValidRow.make) && (Rows.areaValidRow.kinds == (if Rows.areaValidRow.domain.isEmpty then [] else Tryz.f4.params.toList.map fun t => match Tryz.prog.underlying t with | some (.int k) => some k | _ => none)) && (Rows.areaValidRow.pinned == Rows.areaValidRow.pinnedBy)) = true := by kernel_rfl
theorem areaValid_facts : joinedFacts Tryz.prog 4 Tryz.f4 Rows.areaValidSpec Rows.areaValidRow = true :=
  Xzh areaValid_1 (by kernel_rfl) areaValid_3 areaValid_4 areaValid_5 areaValid_6 (by kernel_rfl) areaValid_8 areaValid_9 (by kernel_rfl)
theorem areaValid_said : Rows.AreaValidSaid :=
  OpenClaim.holds_of_cond 4 Tryz.f4 rfl rfl rfl rfl rfl rfl rfl ⟨rfl, rfl, rfl, rfl, rfl⟩ rfl rfl rfl rfl rfl (by kernel_rfl) Tryz.func4 areaValid_facts
    (of_decide_eq_true (by kernel_rfl)) (by unfold Func.isWrapper; rw [if_neg (of_decide_eq_false (by kernel_rfl))]; exact ⟨rfl, rfl⟩)
    (fun os started H enc _ F => by rw [OpenClaim.pre_eq_preRow]; exact areaValid_lifted os started H enc F)
theorem areaValid_plain (f : FuncId) (fn : Func) (hf : Tryz.pinned.checked.prog.funcNamed "setsquare/setsquarelaw20.AreaValid" = some f) (hfn : Tryz.pinned.checked.prog.funcs[f]? = some fn) :
    false = Tryz.pinned.checked.prog.looks [] ∧ ∀ (j : Nat) t, fn.params[j]? = some t → Tryz.pinned.checked.prog.wantsStandIn t = false := by
  obtain rfl : f = 4 := Option.some.inj ((show Tryz.prog.funcNamed "setsquare/setsquarelaw20.AreaValid" = some 4 by kernel_rfl).symm.trans hf) |>.symm
  obtain rfl : fn = Tryz.f4 := (Option.some.inj (Tryz.func4.symm.trans hfn)).symm
  refine ⟨by kernel_rfl, fun j t ht => ?_⟩
  have hm : t ∈ [29, 29, 5] := by
    have := Array.mem_of_getElem? ht
    rw [show Tryz.f4.params = #[29, 29, 5] by kernel_rfl] at this
    simpa using this
  exact (show ∀ t ∈ [29, 29, 5], Tryz.prog.wantsStandIn t = false from fun t ht => by simp at ht; rcases ht with rfl | rfl | rfl <;> kernel_rfl) t hm
theorem goes_none : (Tryz.prog.funcs.toList.all fun fn => !fn.goes) = true := by kernel_rfl
theorem goes_of {P : Program} (h : (P.funcs.toList.all fun fn => !fn.goes) = true) (f : FuncId) : P.goes f = false := by
  have h1 : ∀ fn ∈ P.funcs.toList, fn.goes = false := fun fn hf => by simpa using List.all_eq_true.1 h fn hf
  unfold Program.goes
  rw [Bool.or_eq_false_iff]
  constructor
  · rw [Bool.eq_false_iff]
    intro e
    obtain ⟨g, _, hg⟩ := List.any_eq_true.1 e
    cases hx : P.funcs[g]? with
    | none => rw [hx] at hg; cases hg
    | some fn =>
      rw [hx] at hg
      have hg : fn.goes = true := hg
      rw [h1 fn (by have := Array.mem_of_getElem? hx; simpa using this)] at hg
      cases hg
  · rw [Bool.and_eq_false_iff]
    right
    rw [Bool.eq_false_iff]
    intro e
    rw [Array.any_eq_true'] at e
    obtain ⟨fn, hf, hg⟩ := e
    rw [h1 fn (by simpa using hf)] at hg
    cases hg
theorem goesBy_of {P : Program} {c : OpenClaim} (h : (P.funcs.toList.all fun fn => !fn.goes) = true) (hs : c.start = .entering) : false = c.goesBy P := by
  unfold OpenClaim.goesBy Program.goesAt Program.goesFrom
  rw [hs]
  cases hf : P.funcNamed c.func with
  | none => rfl
  | some f => exact (by simp [goes_of h f])
theorem AreaValid_holds : Rows.AreaValidCardSaid :=
  Claim7.holds_tied_plain_at .later [] _ _ _ _ areaValid_said (fun _ h => by cases h) (by kernel_rfl) (fun _ h => by cases h) areaValid_row_tie rfl ⟨rfl, rfl⟩ (by kernel_rfl) rfl areaValid_plain (goesBy_of (P := Tryz.prog) goes_none rfl)
#print axioms AreaValid_holds
end Go.Proofs.YtfjafaehfjjaiaaGreatDoor

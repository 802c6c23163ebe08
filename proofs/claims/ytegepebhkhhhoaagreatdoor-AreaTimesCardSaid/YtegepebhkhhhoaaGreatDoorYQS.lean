/- AreaTimes: Neg and Times return what is specified, or the specified error; the arguments read afterwards as before. -/
import Derived.Test.YtegepebhkhhhoaaGreatDoorXG
set_option linter.unusedVariables false
set_option linter.unusedSimpArgs false
set_option maxRecDepth 100000
namespace Go.Proofs.YtegepebhkhhhoaaGreatDoor
open P20 Go Go.Vm Go.ChangeShapes Go.WideShapes Go.ChangeAt Go.RowKit
theorem AreaTimes_args : Args Tryz.prog [29, 3] fun ds => ∃ x0 y0, ds = x0 :: y0 ∧ (∃ (ops : List RO) (l : List (Fin 256)) (ts : List Int), x0 = R20.dCb ops l ts ∧ ts.length < 9223372036854775808 ∧ ∀ z ∈ ts, -9223372036854775808 ≤ z ∧ z < 9223372036854775808) ∧ (∃ x1 y1, y0 = x1 :: y1 ∧ (∃ n : Int, x1 = .int .i64 n ∧ -9223372036854775808 ≤ n ∧ n < 9223372036854775808) ∧ (y1 = [])) := .cons Ykq (by kernel_rfl) (of_decide_eq_true (by kernel_rfl)) (.cons Yf3 (by kernel_rfl) (of_decide_eq_true (by kernel_rfl)) (.nil))
theorem AreaTimes_at : ∀ xs : List D, (∃ x0 y0, xs = x0 :: y0 ∧ (∃ (ops : List RO) (l : List (Fin 256)) (ts : List Int), x0 = R20.dCb ops l ts ∧ ts.length < 9223372036854775808 ∧ ∀ z ∈ ts, -9223372036854775808 ≤ z ∧ z < 9223372036854775808) ∧ (∃ x1 y1, y0 = x1 :: y1 ∧ (∃ n : Int, x1 = .int .i64 n ∧ -9223372036854775808 ≤ n ∧ n < 9223372036854775808) ∧ (y1 = []))) → C Tryz.prog 3 (xs.map .d) (· = .b true) := fun xs ⟨_, _, e0, ⟨o1, l1, ts, q0, ht, hz⟩, ⟨_, _, e1, ⟨n, q1, hn⟩, e2⟩⟩ => by subst e0; subst q0; subst e1; subst q1; subst e2; exact P20.AreaTimes_ok ht hz hn
theorem areaTimes_reads (os : Os) {H : Type} (enc : TypeId × Value → H) : ∃ places, DataW.whole enc Tryz.prog ((Xds os).forCall (fun _ _ => 0) ⟨#[], #[.agg #[.slice none 0 0, .slice none 0 0, .slice none 0 0], .int .i64 0], []⟩).memory Tryz.f3.params.toList Rows.areaTimesSpec.vars false (#[.agg #[.slice none 0 0, .slice none 0 0, .slice none 0 0], .int .i64 0] : Array Value).toList 8 = some ([.agg [.agg [.nil, .nil], .nil], .lit (.int .i64 0)], [], places) :=
  ⟨[], by kernel_rfl⟩
theorem areaTimes_v (os : Os) : ((Xds os).forCall (fun _ _ => 0) ⟨#[], #[.agg #[.slice none 0 0, .slice none 0 0, .slice none 0 0], .int .i64 0], []⟩).variablesB Tryz.checked.prog = true := by kernel_rfl
theorem areaTimes_r (os : Os) : (((Xds os).forCall (fun _ _ => 0) ⟨#[], #[.agg #[.slice none 0 0, .slice none 0 0, .slice none 0 0], .int .i64 0], []⟩).heap.toList.drop Tryz.checked.prog.globals.size).take ((begin Tryz.checked.prog (fun _ _ => 0) default).world.heap.size - Tryz.checked.prog.globals.size) = (begin Tryz.checked.prog (fun _ _ => 0) default).world.heap.toList.drop Tryz.checked.prog.globals.size := by kernel_rfl
theorem areaTimes_k (os : Os) : Input.okWideB Tryz.checked.prog ((Xds os).forCall (fun _ _ => 0) ⟨#[], #[.agg #[.slice none 0 0, .slice none 0 0, .slice none 0 0], .int .i64 0], []⟩) 3 ⟨#[], #[.agg #[.slice none 0 0, .slice none 0 0, .slice none 0 0], .int .i64 0], []⟩ = true := by kernel_rfl
theorem areaTimes_lifted (os : Os) (started : os.Started) (H : Type) (enc : TypeId × Value → H) (F : Stop.Interp) :
    ReturnsInHanded {} Tryz.checked os 3 .any ((OpenSpec.ofChange Rows.areaTimesSpec).preRow enc Tryz.prog Tryz.f3 Rows.areaTimesRow.domain false Rows.areaTimesRow.laid) (((OpenSpec.ofChange Rows.areaTimesSpec).at F).post enc Tryz.prog Tryz.f3 false true false false) := by
  obtain ⟨places, hx⟩ := areaTimes_reads os enc
  refine returnsInHanded_of_row (C := Tryz.checked) (s := OpenSpec.ofChange Rows.areaTimesSpec) own started (by kernel_rfl) Tryz.func3
    (witness_row_at (enc := enc) (C := Tryz.checked) false (Xds os) #[.agg #[.slice none 0 0, .slice none 0 0, .slice none 0 0], .int .i64 0] rfl (areaTimes_v os) (areaTimes_r os) (areaTimes_k os)
      (OpenSpec.preRow_of_cond 8 hx (by kernel_rfl) (fun k hk => by cases hk) (by kernel_rfl) (Xzr os _))) ?_
  intro W base args ds gs before hval hW _ _ _ hL _ _
  exact Ypl Yev Tryz.underlying4 (s := Rows.areaTimesSpec) AreaTimes_args rfl rfl (fun ds h => match ds, h with | [_, _], _ => rfl) AreaTimes_at W base args ds gs before hval hW (Ym4 hL)
theorem areaTimes_1 : (Rows.areaTimesRow.wf (OpenSpec.ofChange Rows.areaTimesSpec) && laidOutB Tryz.prog && mapsRowed Tryz.prog) = true := by kernel_rfl
theorem areaTimes_4 : (Rows.areaTimesRow.unfollowed == Tryz.prog.unfollowed 3) = true := by kernel_rfl
theorem areaTimes_3 : (Rows.areaTimesRow.inPlace == Tryz.prog.inPlace 3) = true := by kernel_rfl
theorem areaTimes_5 : (Rows.areaTimesRow.recurses == Tryz.prog.recurses 3) = true := by kernel_rfl
theorem areaTimes_6 : (Rows.areaTimesRow.named == Tryz.prog.varsNamed 3) = true := by kernel_rfl
theorem areaTimes_8 : (Rows.areaTimesSpec.vars.all (Tryz.prog.varReadable ·) && Tryz.f3.resultTypes.all (fun t => Tryz.prog.readableRec t && decide (t < Tryz.prog.types.size)) && (Rows.areaTimesRow.ifacesOut == Tryz.f3.resultTypes.toList.any (Tryz.prog.ifacesRec ·)) && (Rows.areaTimesRow.loopsOut == Tryz.f3.resultTypes.toList.any (Tryz.prog.loopsFrom ·)) && (Rows.areaTimesRow.plainKeys == Tryz.prog.plainKeys) && Rows.areaTimesRow.shortTexts.isNone && Tryz.prog.stopsHeard && Tryz.prog.mayEnter) = true := by kernel_rfl
theorem areaTimes_9 : ((Rows.areaTimesRow.lifted == Tryz.prog.liftsFinal) && (Tryz.prog.make == some Rows.areaTimesRow.make) && (Rows.areaTimesRow.kinds == (if Rows.areaTimesRow.domain.isEmpty then [] else Tryz.f3.params.toList.map fun t => match Tryz.prog.underlying t with | some (.int k) => some k | _ => none)) && (Rows.areaTimesRow.pinned == Rows.areaTimesRow.pinnedBy)) = true := by kernel_rfl
theorem areaTimes_facts : joinedFacts Tryz.prog 3 Tryz.f3 Rows.areaTimesSpec Rows.areaTimesRow = true :=
  Xz8 areaTimes_1 (by kernel_rfl) areaTimes_3 areaTimes_4 areaTimes_5 areaTimes_6 (by kernel_rfl) areaTimes_8 areaTimes_9 (by kernel_rfl)
theorem areaTimes_said : Rows.AreaTimesSaid :=
  OpenClaim.holds_of_cond 3 Tryz.f3 rfl rfl rfl rfl rfl rfl rfl ⟨rfl, rfl, rfl, rfl, rfl⟩ rfl rfl rfl rfl rfl (by kernel_rfl) Tryz.func3 areaTimes_facts
    (of_decide_eq_true (by kernel_rfl)) (by unfold Func.isWrapper; rw [if_neg (of_decide_eq_false (by kernel_rfl))]; exact ⟨rfl, rfl⟩)
    (fun os started H enc _ F => by rw [OpenClaim.pre_eq_preRow]; exact areaTimes_lifted os started H enc F)
theorem areaTimes_plain (f : FuncId) (fn : Func) (hf : Tryz.pinned.checked.prog.funcNamed "setsquare/setsquarelaw20.AreaTimes" = some f) (hfn : Tryz.pinned.checked.prog.funcs[f]? = some fn) :
    false = Tryz.pinned.checked.prog.looks [] ∧ ∀ (j : Nat) t, fn.params[j]? = some t → Tryz.pinned.checked.prog.wantsStandIn t = false := by
  obtain rfl : f = 3 := Option.some.inj ((show Tryz.prog.funcNamed "setsquare/setsquarelaw20.AreaTimes" = some 3 by kernel_rfl).symm.trans hf) |>.symm
  obtain rfl : fn = Tryz.f3 := (Option.some.inj (Tryz.func3.symm.trans hfn)).symm
  refine ⟨by kernel_rfl, fun j t ht => ?_⟩
  have hm : t ∈ [29, 3] := by
    have := Array.mem_of_getElem? ht
    rw [show Tryz.f3.params = #[29, 3] by kernel_rfl] at this
    simpa using this
  exact (show ∀ t ∈ [29, 3], Tryz.prog.wantsStandIn t = false from fun t ht => by simp at ht; rcases ht with rfl | rfl <;> kernel_rfl) t hm
theorem goes_none : (Tryz.prog.funcs.toList.all fun fn => !fn.goes) = true := by kernel_rfl
theorem goes_of {P : Program} (h : (P.funcs.toList.all fun fn => !fn.goes) = true) (f : FuncId) : P.goes f = false := by
  have h1 : ∀ fn ∈ P.funcs.toList, fn.goes = false := fun fn hf => by simpa using List.all_eq_true.1 h fn hf
  unfold Program.goes
  rw [Bool.or_eq_false_iff]
  constructor
  · rw [Bool.eq_false_iff]
    intro e
    obtain ⟨g, _, hg⟩ := List.any_eq_true.1 e
    cases hx : P.funcs[g]? with
    | none => rw [hx] at hg; cases hg
    | some fn =>
      rw [hx] at hg
      have hg : fn.goes = true := hg
      rw [h1 fn (by have := Array.mem_of_getElem? hx; simpa using this)] at hg
      cases hg
  · rw [Bool.and_eq_false_iff]
    right
    rw [Bool.eq_false_iff]
    intro e
    rw [Array.any_eq_true'] at e
    obtain ⟨fn, hf, hg⟩ := e
    rw [h1 fn (by simpa using hf)] at hg
    cases hg
theorem goesBy_of {P : Program} {c : OpenClaim} (h : (P.funcs.toList.all fun fn => !fn.goes) = true) (hs : c.start = .entering) : false = c.goesBy P := by
  unfold OpenClaim.goesBy Program.goesAt Program.goesFrom
  rw [hs]
  cases hf : P.funcNamed c.func with
  | none => rfl
  | some f => exact (by simp [goes_of h f])
theorem AreaTimes_holds : Rows.AreaTimesCardSaid :=
  Claim7.holds_tied_plain_at .later [] _ _ _ _ areaTimes_said (fun _ h => by cases h) (by kernel_rfl) (fun _ h => by cases h) areaTimes_row_tie rfl ⟨rfl, rfl⟩ (by kernel_rfl) rfl areaTimes_plain (goesBy_of (P := Tryz.prog) goes_none rfl)
#print axioms AreaTimes_holds
end Go.Proofs.YtegepebhkhhhoaaGreatDoor

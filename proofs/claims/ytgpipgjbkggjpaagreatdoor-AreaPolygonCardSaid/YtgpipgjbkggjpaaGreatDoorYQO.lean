/- AreaPolygon: the area of a polygon is exact, moves and turns of the list leave it, and the list from its end has the area with the other sign; the arguments read afterwards as before. -/
import Derived.Test.YtgpipgjbkggjpaaGreatDoorXP
set_option linter.unusedVariables false
set_option linter.unusedSimpArgs false
set_option maxRecDepth 100000
namespace Go.Proofs.YtgpipgjbkggjpaaGreatDoor
open P20 Go Go.Vm Go.ChangeShapes Go.WideShapes Go.ChangeAt Go.RowKit
theorem AreaPolygon_args : Args Tryz.prog [59, 5] fun ds => ∃ x0 y0, ds = x0 :: y0 ∧ (∃ (ops : List RO) (l : List (Fin 256)) (ts : List Int), x0 = R20.dCb ops l ts ∧ ts.length < 9223372036854775808 ∧ ∀ z ∈ ts, -9223372036854775808 ≤ z ∧ z < 9223372036854775808) ∧ (∃ x1 y1, y0 = x1 :: y1 ∧ (∃ n : Nat, x1 = .int .u8 n ∧ n < 256) ∧ (y1 = [])) := .cons Yjh (by kernel_rfl) (of_decide_eq_true (by kernel_rfl)) (.cons Yjg (by kernel_rfl) (of_decide_eq_true (by kernel_rfl)) (.nil))
theorem AreaPolygon_at : ∀ xs : List D, (∃ x0 y0, xs = x0 :: y0 ∧ (∃ (ops : List RO) (l : List (Fin 256)) (ts : List Int), x0 = R20.dCb ops l ts ∧ ts.length < 9223372036854775808 ∧ ∀ z ∈ ts, -9223372036854775808 ≤ z ∧ z < 9223372036854775808) ∧ (∃ x1 y1, y0 = x1 :: y1 ∧ (∃ n : Nat, x1 = .int .u8 n ∧ n < 256) ∧ (y1 = []))) → C Tryz.prog 4 (xs.map .d) (· = .b true) := fun xs ⟨_, _, e0, ⟨o1, l1, ts, q0, ht, hz⟩, ⟨_, _, e1, ⟨s, q1, hs⟩, e2⟩⟩ => by subst e0; subst q0; subst e1; subst q1; subst e2; exact P20.AreaPolygon_ok ht hz hs
theorem areaPolygon_reads (os : Os) {H : Type} (enc : TypeId × Value → H) : ∃ places, DataW.whole enc Tryz.prog ((Xdg os).forCall (fun _ _ => 0) ⟨#[], #[.agg #[.slice none 0 0, .slice none 0 0, .slice none 0 0], .int .u8 0], []⟩).memory Tryz.f4.params.toList Rows.areaPolygonSpec.vars false (#[.agg #[.slice none 0 0, .slice none 0 0, .slice none 0 0], .int .u8 0] : Array Value).toList 8 = some ([.agg [.agg [.nil, .nil], .nil], .lit (.int .u8 0)], [], places) :=
  ⟨[], by kernel_rfl⟩
theorem areaPolygon_v (os : Os) : ((Xdg os).forCall (fun _ _ => 0) ⟨#[], #[.agg #[.slice none 0 0, .slice none 0 0, .slice none 0 0], .int .u8 0], []⟩).variablesB Tryz.checked.prog = true := by kernel_rfl
theorem areaPolygon_r (os : Os) : (((Xdg os).forCall (fun _ _ => 0) ⟨#[], #[.agg #[.slice none 0 0, .slice none 0 0, .slice none 0 0], .int .u8 0], []⟩).heap.toList.drop Tryz.checked.prog.globals.size).take ((begin Tryz.checked.prog (fun _ _ => 0) default).world.heap.size - Tryz.checked.prog.globals.size) = (begin Tryz.checked.prog (fun _ _ => 0) default).world.heap.toList.drop Tryz.checked.prog.globals.size := by kernel_rfl
theorem areaPolygon_k (os : Os) : Input.okWideB Tryz.checked.prog ((Xdg os).forCall (fun _ _ => 0) ⟨#[], #[.agg #[.slice none 0 0, .slice none 0 0, .slice none 0 0], .int .u8 0], []⟩) 4 ⟨#[], #[.agg #[.slice none 0 0, .slice none 0 0, .slice none 0 0], .int .u8 0], []⟩ = true := by kernel_rfl
theorem areaPolygon_lifted (os : Os) (started : os.Started) (H : Type) (enc : TypeId × Value → H) (F : Stop.Interp) :
    ReturnsInHanded {} Tryz.checked os 4 .any ((OpenSpec.ofChange Rows.areaPolygonSpec).preRow enc Tryz.prog Tryz.f4 Rows.areaPolygonRow.domain false Rows.areaPolygonRow.laid) (((OpenSpec.ofChange Rows.areaPolygonSpec).at F).post enc Tryz.prog Tryz.f4 false true false false) := by
  obtain ⟨places, hx⟩ := areaPolygon_reads os enc
  refine returnsInHanded_of_row (C := Tryz.checked) (s := OpenSpec.ofChange Rows.areaPolygonSpec) own started (by kernel_rfl) Tryz.func4
    (witness_row_at (enc := enc) (C := Tryz.checked) false (Xdg os) #[.agg #[.slice none 0 0, .slice none 0 0, .slice none 0 0], .int .u8 0] rfl (areaPolygon_v os) (areaPolygon_r os) (areaPolygon_k os)
      (OpenSpec.preRow_of_cond 8 hx (by kernel_rfl) (fun k hk => by cases hk) (by kernel_rfl) (Xyy os _))) ?_
  intro W base args ds gs before hval hW _ _ _ hL _ _
  exact Yof Ydv Tryz.underlying4 (s := Rows.areaPolygonSpec) AreaPolygon_args rfl rfl (fun ds h => match ds, h with | [_, _], _ => rfl) AreaPolygon_at W base args ds gs before hval hW (Ylw hL)
theorem areaPolygon_1 : (Rows.areaPolygonRow.wf (OpenSpec.ofChange Rows.areaPolygonSpec) && laidOutB Tryz.prog && mapsRowed Tryz.prog) = true := by kernel_rfl
theorem areaPolygon_4 : (Rows.areaPolygonRow.unfollowed == Tryz.prog.unfollowed 4) = true := by kernel_rfl
theorem areaPolygon_3 : (Rows.areaPolygonRow.inPlace == Tryz.prog.inPlace 4) = true := by kernel_rfl
theorem areaPolygon_5 : (Rows.areaPolygonRow.recurses == Tryz.prog.recurses 4) = true := by kernel_rfl
theorem areaPolygon_6 : (Rows.areaPolygonRow.named == Tryz.prog.varsNamed 4) = true := by kernel_rfl
theorem areaPolygon_8 : (Rows.areaPolygonSpec.vars.all (Tryz.prog.varReadable ·) && Tryz.f4.resultTypes.all (fun t => Tryz.prog.readableRec t && decide (t < Tryz.prog.types.size)) && (Rows.areaPolygonRow.ifacesOut == Tryz.f4.resultTypes.toList.any (Tryz.prog.ifacesRec ·)) && (Rows.areaPolygonRow.loopsOut == Tryz.f4.resultTypes.toList.any (Tryz.prog.loopsFrom ·)) && (Rows.areaPolygonRow.plainKeys == Tryz.prog.plainKeys) && Rows.areaPolygonRow.shortTexts.isNone && Tryz.prog.stopsHeard && Tryz.prog.mayEnter) = true := by kernel_rfl
theorem areaPolygon_9 : ((Rows.areaPolygonRow.lifted == Tryz.prog.liftsFinal) && (Tryz.prog.make == some Rows.areaPolygonRow.make) && (Rows.areaPolygonRow.kinds == (if Rows.areaPolygonRow.domain.isEmpty then [] else Tryz.f4.params.toList.map fun t => match Tryz.prog.underlying t with | some (.int k) => some k | _ => none)) && (Rows.areaPolygonRow.pinned == Rows.areaPolygonRow.pinnedBy)) = true := by kernel_rfl
theorem areaPolygon_facts : joinedFacts Tryz.prog 4 Tryz.f4 Rows.areaPolygonSpec Rows.areaPolygonRow = true :=
  Xze areaPolygon_1 (by kernel_rfl) areaPolygon_3 areaPolygon_4 areaPolygon_5 areaPolygon_6 (by kernel_rfl) areaPolygon_8 areaPolygon_9 (by kernel_rfl)
theorem areaPolygon_said : Rows.AreaPolygonSaid :=
  OpenClaim.holds_of_cond 4 Tryz.f4 rfl rfl rfl rfl rfl rfl rfl ⟨rfl, rfl, rfl, rfl, rfl⟩ rfl rfl rfl rfl rfl (by kernel_rfl) Tryz.func4 areaPolygon_facts
    (of_decide_eq_true (by kernel_rfl)) (by unfold Func.isWrapper; rw [if_neg (of_decide_eq_false (by kernel_rfl))]; exact ⟨rfl, rfl⟩)
    (fun os started H enc _ F => by rw [OpenClaim.pre_eq_preRow]; exact areaPolygon_lifted os started H enc F)
theorem areaPolygon_plain (f : FuncId) (fn : Func) (hf : Tryz.pinned.checked.prog.funcNamed "setsquare/setsquarelaw20.AreaPolygon" = some f) (hfn : Tryz.pinned.checked.prog.funcs[f]? = some fn) :
    false = Tryz.pinned.checked.prog.looks [] ∧ ∀ (j : Nat) t, fn.params[j]? = some t → Tryz.pinned.checked.prog.wantsStandIn t = false := by
  obtain rfl : f = 4 := Option.some.inj ((show Tryz.prog.funcNamed "setsquare/setsquarelaw20.AreaPolygon" = some 4 by kernel_rfl).symm.trans hf) |>.symm
  obtain rfl : fn = Tryz.f4 := (Option.some.inj (Tryz.func4.symm.trans hfn)).symm
  refine ⟨by kernel_rfl, fun j t ht => ?_⟩
  have hm : t ∈ [59, 5] := by
    have := Array.mem_of_getElem? ht
    rw [show Tryz.f4.params = #[59, 5] by kernel_rfl] at this
    simpa using this
  exact (show ∀ t ∈ [59, 5], Tryz.prog.wantsStandIn t = false from fun t ht => by simp at ht; rcases ht with rfl | rfl <;> kernel_rfl) t hm
theorem goes_none : (Tryz.prog.funcs.toList.all fun fn => !fn.goes) = true := by kernel_rfl
theorem goes_of {P : Program} (h : (P.funcs.toList.all fun fn => !fn.goes) = true) (f : FuncId) : P.goes f = false := by
  have h1 : ∀ fn ∈ P.funcs.toList, fn.goes = false := fun fn hf => by simpa using List.all_eq_true.1 h fn hf
  unfold Program.goes
  rw [Bool.or_eq_false_iff]
  constructor
  · rw [Bool.eq_false_iff]
    intro e
    obtain ⟨g, _, hg⟩ := List.any_eq_true.1 e
    cases hx : P.funcs[g]? with
    | none => rw [hx] at hg; cases hg
    | some fn =>
      rw [hx] at hg
      have hg : fn.goes = true := hg
      rw [h1 fn (by have := Array.mem_of_getElem? hx; simpa using this)] at hg
      cases hg
  · rw [Bool.and_eq_false_iff]
    right
    rw [Bool.eq_false_iff]
    intro e
    rw [Array.any_eq_true'] at e
    obtain ⟨fn, hf, hg⟩ := e
    rw [h1 fn (by simpa using hf)] at hg
    cases hg
theorem goesBy_of {P : Program} {c : OpenClaim} (h : (P.funcs.toList.all fun fn => !fn.goes) = true) (hs : c.start = .entering) : false = c.goesBy P := by
  unfold OpenClaim.goesBy Program.goesAt Program.goesFrom
  rw [hs]
  cases hf : P.funcNamed c.func with
  | none => rfl
  | some f => exact (by simp [goes_of h f])
theorem AreaPolygon_holds : Rows.AreaPolygonCardSaid :=
  Claim7.holds_tied_plain_at .later [] _ _ _ _ areaPolygon_said (fun _ h => by cases h) (by kernel_rfl) (fun _ h => by cases h) areaPolygon_row_tie rfl ⟨rfl, rfl⟩ (by kernel_rfl) rfl areaPolygon_plain (goesBy_of (P := Tryz.prog) goes_none rfl)
#print axioms AreaPolygon_holds
end Go.Proofs.YtgpipgjbkggjpaaGreatDoor

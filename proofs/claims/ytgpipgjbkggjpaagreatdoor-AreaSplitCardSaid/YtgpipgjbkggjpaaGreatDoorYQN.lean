/- AreaSplit: two sectors side by side yield the sector of both; the arguments read afterwards as before. -/
import Derived.Test.YtgpipgjbkggjpaaGreatDoorXF
set_option linter.unusedVariables false
set_option linter.unusedSimpArgs false
set_option maxRecDepth 100000
namespace Go.Proofs.YtgpipgjbkggjpaaGreatDoor
open P20 Go Go.Vm Go.ChangeShapes Go.WideShapes Go.ChangeAt Go.RowKit
theorem AreaSplit_args : Args Tryz.prog [26, 5] fun ds => ∃ x0 y0, ds = x0 :: y0 ∧ (∃ (ops : List RO) (l : List (Fin 256)), x0 = dPl ops l) ∧ (∃ x1 y1, y0 = x1 :: y1 ∧ (∃ n : Nat, x1 = .int .u8 n ∧ n < 256) ∧ (y1 = [])) := .cons Xrb (by kernel_rfl) (of_decide_eq_true (by kernel_rfl)) (.cons Yi4 (by kernel_rfl) (of_decide_eq_true (by kernel_rfl)) (.nil))
theorem AreaSplit_at : ∀ xs : List D, (∃ x0 y0, xs = x0 :: y0 ∧ (∃ (ops : List RO) (l : List (Fin 256)), x0 = dPl ops l) ∧ (∃ x1 y1, y0 = x1 :: y1 ∧ (∃ n : Nat, x1 = .int .u8 n ∧ n < 256) ∧ (y1 = []))) → C Tryz.prog 5 (xs.map .d) (· = .b true) := fun xs ⟨_, _, e0, ⟨o1, l1, q0⟩, ⟨_, _, e1, ⟨s, q1, hs⟩, e2⟩⟩ => by subst e0; subst q0; subst e1; subst q1; subst e2; exact P20.AreaSplit_ok hs
theorem areaSplit_reads (os : Os) {H : Type} (enc : TypeId × Value → H) : ∃ places, DataW.whole enc Tryz.prog ((Xbp os).forCall (fun _ _ => 0) ⟨#[], #[.agg #[.slice none 0 0, .slice none 0 0], .int .u8 0], []⟩).memory Tryz.f5.params.toList Rows.areaSplitSpec.vars false (#[.agg #[.slice none 0 0, .slice none 0 0], .int .u8 0] : Array Value).toList 8 = some ([.agg [.nil, .nil], .lit (.int .u8 0)], [], places) :=
  ⟨[], by kernel_rfl⟩
theorem areaSplit_v (os : Os) : ((Xbp os).forCall (fun _ _ => 0) ⟨#[], #[.agg #[.slice none 0 0, .slice none 0 0], .int .u8 0], []⟩).variablesB Tryz.checked.prog = true := by kernel_rfl
theorem areaSplit_r (os : Os) : (((Xbp os).forCall (fun _ _ => 0) ⟨#[], #[.agg #[.slice none 0 0, .slice none 0 0], .int .u8 0], []⟩).heap.toList.drop Tryz.checked.prog.globals.size).take ((begin Tryz.checked.prog (fun _ _ => 0) default).world.heap.size - Tryz.checked.prog.globals.size) = (begin Tryz.checked.prog (fun _ _ => 0) default).world.heap.toList.drop Tryz.checked.prog.globals.size := by kernel_rfl
theorem areaSplit_k (os : Os) : Input.okWideB Tryz.checked.prog ((Xbp os).forCall (fun _ _ => 0) ⟨#[], #[.agg #[.slice none 0 0, .slice none 0 0], .int .u8 0], []⟩) 5 ⟨#[], #[.agg #[.slice none 0 0, .slice none 0 0], .int .u8 0], []⟩ = true := by kernel_rfl
theorem areaSplit_lifted (os : Os) (started : os.Started) (H : Type) (enc : TypeId × Value → H) (F : Stop.Interp) :
    ReturnsInHanded {} Tryz.checked os 5 .any ((OpenSpec.ofChange Rows.areaSplitSpec).preRow enc Tryz.prog Tryz.f5 Rows.areaSplitRow.domain false Rows.areaSplitRow.laid) (((OpenSpec.ofChange Rows.areaSplitSpec).at F).post enc Tryz.prog Tryz.f5 false true false false) := by
  obtain ⟨places, hx⟩ := areaSplit_reads os enc
  refine returnsInHanded_of_row (C := Tryz.checked) (s := OpenSpec.ofChange Rows.areaSplitSpec) own started (by kernel_rfl) Tryz.func5
    (witness_row_at (enc := enc) (C := Tryz.checked) false (Xbp os) #[.agg #[.slice none 0 0, .slice none 0 0], .int .u8 0] rfl (areaSplit_v os) (areaSplit_r os) (areaSplit_k os)
      (OpenSpec.preRow_of_cond 8 hx (by kernel_rfl) (fun k hk => by cases hk) (by kernel_rfl) (Xqk os _))) ?_
  intro W base args ds gs before hval hW _ _ _ hL _ _
  exact Ym7 Xu8 Tryz.underlying4 (s := Rows.areaSplitSpec) AreaSplit_args rfl rfl (fun ds h => match ds, h with | [_, _], _ => rfl) AreaSplit_at W base args ds gs before hval hW (Yhx hL)
theorem areaSplit_1 : (Rows.areaSplitRow.wf (OpenSpec.ofChange Rows.areaSplitSpec) && laidOutB Tryz.prog && mapsRowed Tryz.prog) = true := by kernel_rfl
theorem areaSplit_4 : (Rows.areaSplitRow.unfollowed == Tryz.prog.unfollowed 5) = true := by kernel_rfl
theorem areaSplit_3 : (Rows.areaSplitRow.inPlace == Tryz.prog.inPlace 5) = true := by kernel_rfl
theorem areaSplit_5 : (Rows.areaSplitRow.recurses == Tryz.prog.recurses 5) = true := by kernel_rfl
theorem areaSplit_6 : (Rows.areaSplitRow.named == Tryz.prog.varsNamed 5) = true := by kernel_rfl
theorem areaSplit_8 : (Rows.areaSplitSpec.vars.all (Tryz.prog.varReadable ·) && Tryz.f5.resultTypes.all (fun t => Tryz.prog.readableRec t && decide (t < Tryz.prog.types.size)) && (Rows.areaSplitRow.ifacesOut == Tryz.f5.resultTypes.toList.any (Tryz.prog.ifacesRec ·)) && (Rows.areaSplitRow.loopsOut == Tryz.f5.resultTypes.toList.any (Tryz.prog.loopsFrom ·)) && (Rows.areaSplitRow.plainKeys == Tryz.prog.plainKeys) && Rows.areaSplitRow.shortTexts.isNone && Tryz.prog.stopsHeard && Tryz.prog.mayEnter) = true := by kernel_rfl
theorem areaSplit_9 : ((Rows.areaSplitRow.lifted == Tryz.prog.liftsFinal) && (Tryz.prog.make == some Rows.areaSplitRow.make) && (Rows.areaSplitRow.kinds == (if Rows.areaSplitRow.domain.isEmpty then [] else Tryz.f5.params.toList.map fun t => match Tryz.prog.underlying t with | some (.int k) => some k | _ => none)) && (Rows.areaSplitRow.pinned == Rows.areaSplitRow.pinnedBy)) = true := by kernel_rfl
theorem areaSplit_facts : joinedFacts Tryz.prog 5 Tryz.f5 Rows.areaSplitSpec Rows.areaSplitRow = true :=
  Xqu areaSplit_1 (by kernel_rfl) areaSplit_3 areaSplit_4 areaSplit_5 areaSplit_6 (by kernel_rfl) areaSplit_8 areaSplit_9 (by kernel_rfl)
theorem areaSplit_said : Rows.AreaSplitSaid :=
  OpenClaim.holds_of_cond 5 Tryz.f5 rfl rfl rfl rfl rfl rfl rfl ⟨rfl, rfl, rfl, rfl, rfl⟩ rfl rfl rfl rfl rfl (by kernel_rfl) Tryz.func5 areaSplit_facts
    (of_decide_eq_true (by kernel_rfl)) (by unfold Func.isWrapper; rw [if_neg (of_decide_eq_false (by kernel_rfl))]; exact ⟨rfl, rfl⟩)
    (fun os started H enc _ F => by rw [OpenClaim.pre_eq_preRow]; exact areaSplit_lifted os started H enc F)
theorem areaSplit_plain (f : FuncId) (fn : Func) (hf : Tryz.pinned.checked.prog.funcNamed "setsquare/setsquarelaw20.AreaSplit" = some f) (hfn : Tryz.pinned.checked.prog.funcs[f]? = some fn) :
    false = Tryz.pinned.checked.prog.looks [] ∧ ∀ (j : Nat) t, fn.params[j]? = some t → Tryz.pinned.checked.prog.wantsStandIn t = false := by
  obtain rfl : f = 5 := Option.some.inj ((show Tryz.prog.funcNamed "setsquare/setsquarelaw20.AreaSplit" = some 5 by kernel_rfl).symm.trans hf) |>.symm
  obtain rfl : fn = Tryz.f5 := (Option.some.inj (Tryz.func5.symm.trans hfn)).symm
  refine ⟨by kernel_rfl, fun j t ht => ?_⟩
  have hm : t ∈ [26, 5] := by
    have := Array.mem_of_getElem? ht
    rw [show Tryz.f5.params = #[26, 5] by kernel_rfl] at this
    simpa using this
  exact (show ∀ t ∈ [26, 5], Tryz.prog.wantsStandIn t = false from fun t ht => by simp at ht; rcases ht with rfl | rfl <;> kernel_rfl) t hm
theorem goes_none : (Tryz.prog.funcs.toList.all fun fn => !fn.goes) = true := by kernel_rfl
theorem goes_of {P : Program} (h : (P.funcs.toList.all fun fn => !fn.goes) = true) (f : FuncId) : P.goes f = false := by
  have h1 : ∀ fn ∈ P.funcs.toList, fn.goes = false := fun fn hf => by simpa using List.all_eq_true.1 h fn hf
  unfold Program.goes
  rw [Bool.or_eq_false_iff]
  constructor
  · rw [Bool.eq_false_iff]
    intro e
    obtain ⟨g, _, hg⟩ := List.any_eq_true.1 e
    cases hx : P.funcs[g]? with
    | none => rw [hx] at hg; cases hg
    | some fn =>
      rw [hx] at hg
      have hg : fn.goes = true := hg
      rw [h1 fn (by have := Array.mem_of_getElem? hx; simpa using this)] at hg
      cases hg
  · rw [Bool.and_eq_false_iff]
    right
    rw [Bool.eq_false_iff]
    intro e
    rw [Array.any_eq_true'] at e
    obtain ⟨fn, hf, hg⟩ := e
    rw [h1 fn (by simpa using hf)] at hg
    cases hg
theorem goesBy_of {P : Program} {c : OpenClaim} (h : (P.funcs.toList.all fun fn => !fn.goes) = true) (hs : c.start = .entering) : false = c.goesBy P := by
  unfold OpenClaim.goesBy Program.goesAt Program.goesFrom
  rw [hs]
  cases hf : P.funcNamed c.func with
  | none => rfl
  | some f => exact (by simp [goes_of h f])
theorem AreaSplit_holds : Rows.AreaSplitCardSaid :=
  Claim7.holds_tied_plain_at .later [] _ _ _ _ areaSplit_said (fun _ h => by cases h) (by kernel_rfl) (fun _ h => by cases h) areaSplit_row_tie rfl ⟨rfl, rfl⟩ (by kernel_rfl) rfl areaSplit_plain (goesBy_of (P := Tryz.prog) goes_none rfl)
#print axioms AreaSplit_holds
end Go.Proofs.YtgpipgjbkggjpaaGreatDoor

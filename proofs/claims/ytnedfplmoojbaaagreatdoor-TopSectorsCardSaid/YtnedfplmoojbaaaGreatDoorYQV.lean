/- TopSectors: the sums and multiples of the sectors are those of the reference; the arguments read afterwards as before. -/
import Derived.Test.YtnedfplmoojbaaaGreatDoorXG
set_option linter.unusedVariables false
set_option linter.unusedSimpArgs false
set_option maxRecDepth 100000
namespace Go.Proofs.YtnedfplmoojbaaaGreatDoor
open P20 Go Go.Vm Go.ChangeShapes Go.WideShapes Go.ChangeAt Go.RowKit
theorem arg_i8 : Arg Tryz.prog 30 fun d => ∃ n : Int, d = .int .i8 n ∧ -128 ≤ n ∧ n < 128 := Yhn Tryz.underlying30 (Xrn Tryz.underlying30) fun x ⟨_, e, _⟩ => by rw [e]; rfl
theorem TopSectors_args : Args Tryz.prog [29, 30] fun ds => ∃ x0 y0, ds = x0 :: y0 ∧ (∃ (ops : List RO) (l : List (Fin 256)) (a b c : Int), x0 = dCs ops l a b c ∧ i64 a ∧ i64 b ∧ i64 c) ∧ (∃ x1 y1, y0 = x1 :: y1 ∧ (∃ n : Int, x1 = .int .i8 n ∧ -128 ≤ n ∧ n < 128) ∧ (y1 = [])) := .cons Ybv (by kernel_rfl) (of_decide_eq_true (by kernel_rfl)) (.cons arg_i8 (by kernel_rfl) (of_decide_eq_true (by kernel_rfl)) (.nil))
theorem TopSectors_at : ∀ xs : List D, (∃ x0 y0, xs = x0 :: y0 ∧ (∃ (ops : List RO) (l : List (Fin 256)) (a b c : Int), x0 = dCs ops l a b c ∧ i64 a ∧ i64 b ∧ i64 c) ∧ (∃ x1 y1, y0 = x1 :: y1 ∧ (∃ n : Int, x1 = .int .i8 n ∧ -128 ≤ n ∧ n < 128) ∧ (y1 = []))) → C Tryz.prog 3 (xs.map .d) (· = .b true) := fun xs ⟨_, _, e0, ⟨o1, l1, a, b, c, q0, _⟩, ⟨_, _, e1, ⟨n, q1, hn⟩, e2⟩⟩ => by subst e0; subst q0; subst e1; subst q1; subst e2; exact P20.TopSectors_of hn P5.awake20_ok
theorem topSectors_reads (os : Os) {H : Type} (enc : TypeId × Value → H) : ∃ places, DataW.whole enc Tryz.prog ((Xdz os).forCall (fun _ _ => 0) ⟨#[], #[.agg #[.slice none 0 0, .slice none 0 0, .int .i64 0, .int .i64 0, .int .i64 0], .int .i8 0], []⟩).memory Tryz.f3.params.toList Rows.topSectorsSpec.vars false (#[.agg #[.slice none 0 0, .slice none 0 0, .int .i64 0, .int .i64 0, .int .i64 0], .int .i8 0] : Array Value).toList 8 = some ([.agg [.agg [.nil, .nil], .agg [.lit (.int .i64 0), .lit (.int .i64 0), .lit (.int .i64 0)]], .lit (.int .i8 0)], [], places) :=
  ⟨[], by kernel_rfl⟩
theorem topSectors_v (os : Os) : ((Xdz os).forCall (fun _ _ => 0) ⟨#[], #[.agg #[.slice none 0 0, .slice none 0 0, .int .i64 0, .int .i64 0, .int .i64 0], .int .i8 0], []⟩).variablesB Tryz.checked.prog = true := by kernel_rfl
theorem topSectors_r (os : Os) : (((Xdz os).forCall (fun _ _ => 0) ⟨#[], #[.agg #[.slice none 0 0, .slice none 0 0, .int .i64 0, .int .i64 0, .int .i64 0], .int .i8 0], []⟩).heap.toList.drop Tryz.checked.prog.globals.size).take ((begin Tryz.checked.prog (fun _ _ => 0) default).world.heap.size - Tryz.checked.prog.globals.size) = (begin Tryz.checked.prog (fun _ _ => 0) default).world.heap.toList.drop Tryz.checked.prog.globals.size := by kernel_rfl
theorem topSectors_k (os : Os) : Input.okWideB Tryz.checked.prog ((Xdz os).forCall (fun _ _ => 0) ⟨#[], #[.agg #[.slice none 0 0, .slice none 0 0, .int .i64 0, .int .i64 0, .int .i64 0], .int .i8 0], []⟩) 3 ⟨#[], #[.agg #[.slice none 0 0, .slice none 0 0, .int .i64 0, .int .i64 0, .int .i64 0], .int .i8 0], []⟩ = true := by kernel_rfl
theorem topSectors_lifted (os : Os) (started : os.Started) (H : Type) (enc : TypeId × Value → H) (F : Stop.Interp) :
    ReturnsInHanded {} Tryz.checked os 3 .any ((OpenSpec.ofChange Rows.topSectorsSpec).preRow enc Tryz.prog Tryz.f3 Rows.topSectorsRow.domain false Rows.topSectorsRow.laid) (((OpenSpec.ofChange Rows.topSectorsSpec).at F).post enc Tryz.prog Tryz.f3 false true false false) := by
  obtain ⟨places, hx⟩ := topSectors_reads os enc
  refine returnsInHanded_of_row (C := Tryz.checked) (s := OpenSpec.ofChange Rows.topSectorsSpec) own started (by kernel_rfl) Tryz.func3
    (witness_row_at (enc := enc) (C := Tryz.checked) false (Xdz os) #[.agg #[.slice none 0 0, .slice none 0 0, .int .i64 0, .int .i64 0, .int .i64 0], .int .i8 0] rfl (topSectors_v os) (topSectors_r os) (topSectors_k os)
      (OpenSpec.preRow_of_cond 8 hx (by kernel_rfl) (fun k hk => by cases hk) (by kernel_rfl) (Yab os _))) ?_
  intro W base args ds gs before hval hW _ _ _ hL _ _
  exact Yr2 Ygc Tryz.underlying4 (s := Rows.topSectorsSpec) TopSectors_args rfl rfl (fun ds h => match ds, h with | [_, _], _ => rfl) TopSectors_at W base args ds gs before hval hW (Yo5 hL)
theorem topSectors_1 : (Rows.topSectorsRow.wf (OpenSpec.ofChange Rows.topSectorsSpec) && laidOutB Tryz.prog && mapsRowed Tryz.prog) = true := by kernel_rfl
theorem topSectors_4 : (Rows.topSectorsRow.unfollowed == Tryz.prog.unfollowed 3) = true := by kernel_rfl
theorem topSectors_3 : (Rows.topSectorsRow.inPlace == Tryz.prog.inPlace 3) = true := by kernel_rfl
theorem topSectors_5 : (Rows.topSectorsRow.recurses == Tryz.prog.recurses 3) = true := by kernel_rfl
theorem topSectors_6 : (Rows.topSectorsRow.named == Tryz.prog.varsNamed 3) = true := by kernel_rfl
theorem topSectors_8 : (Rows.topSectorsSpec.vars.all (Tryz.prog.varReadable ·) && Tryz.f3.resultTypes.all (fun t => Tryz.prog.readableRec t && decide (t < Tryz.prog.types.size)) && (Rows.topSectorsRow.ifacesOut == Tryz.f3.resultTypes.toList.any (Tryz.prog.ifacesRec ·)) && (Rows.topSectorsRow.loopsOut == Tryz.f3.resultTypes.toList.any (Tryz.prog.loopsFrom ·)) && (Rows.topSectorsRow.plainKeys == Tryz.prog.plainKeys) && Rows.topSectorsRow.shortTexts.isNone && Tryz.prog.stopsHeard && Tryz.prog.mayEnter) = true := by kernel_rfl
theorem topSectors_9 : ((Rows.topSectorsRow.lifted == Tryz.prog.liftsFinal) && (Tryz.prog.make == some Rows.topSectorsRow.make) && (Rows.topSectorsRow.kinds == (if Rows.topSectorsRow.domain.isEmpty then [] else Tryz.f3.params.toList.map fun t => match Tryz.prog.underlying t with | some (.int k) => some k | _ => none)) && (Rows.topSectorsRow.pinned == Rows.topSectorsRow.pinnedBy)) = true := by kernel_rfl
theorem topSectors_facts : joinedFacts Tryz.prog 3 Tryz.f3 Rows.topSectorsSpec Rows.topSectorsRow = true :=
  Yax topSectors_1 (by kernel_rfl) topSectors_3 topSectors_4 topSectors_5 topSectors_6 (by kernel_rfl) topSectors_8 topSectors_9 (by kernel_rfl)
theorem topSectors_said : Rows.TopSectorsSaid :=
  OpenClaim.holds_of_cond 3 Tryz.f3 rfl rfl rfl rfl rfl rfl rfl ⟨rfl, rfl, rfl, rfl, rfl⟩ rfl rfl rfl rfl rfl (by kernel_rfl) Tryz.func3 topSectors_facts
    (of_decide_eq_true (by kernel_rfl)) (by unfold Func.isWrapper; rw [if_neg (of_decide_eq_false (by kernel_rfl))]; exact ⟨rfl, rfl⟩)
    (fun os started H enc _ F => by rw [OpenClaim.pre_eq_preRow]; exact topSectors_lifted os started H enc F)
theorem topSectors_plain (f : FuncId) (fn : Func) (hf : Tryz.pinned.checked.prog.funcNamed "setsquare/setsquaretop.TopSectors" = some f) (hfn : Tryz.pinned.checked.prog.funcs[f]? = some fn) :
    false = Tryz.pinned.checked.prog.looks [] ∧ ∀ (j : Nat) t, fn.params[j]? = some t → Tryz.pinned.checked.prog.wantsStandIn t = false := by
  obtain rfl : f = 3 := Option.some.inj ((show Tryz.prog.funcNamed "setsquare/setsquaretop.TopSectors" = some 3 by kernel_rfl).symm.trans hf) |>.symm
  obtain rfl : fn = Tryz.f3 := (Option.some.inj (Tryz.func3.symm.trans hfn)).symm
  refine ⟨by kernel_rfl, fun j t ht => ?_⟩
  have hm : t ∈ [29, 30] := by
    have := Array.mem_of_getElem? ht
    rw [show Tryz.f3.params = #[29, 30] by kernel_rfl] at this
    simpa using this
  exact (show ∀ t ∈ [29, 30], Tryz.prog.wantsStandIn t = false from fun t ht => by simp at ht; rcases ht with rfl | rfl <;> kernel_rfl) t hm
theorem goes_none : (Tryz.prog.funcs.toList.all fun fn => !fn.goes) = true := by kernel_rfl
theorem goes_of {P : Program} (h : (P.funcs.toList.all fun fn => !fn.goes) = true) (f : FuncId) : P.goes f = false := by
  have h1 : ∀ fn ∈ P.funcs.toList, fn.goes = false := fun fn hf => by simpa using List.all_eq_true.1 h fn hf
  unfold Program.goes
  rw [Bool.or_eq_false_iff]
  constructor
  · rw [Bool.eq_false_iff]
    intro e
    obtain ⟨g, _, hg⟩ := List.any_eq_true.1 e
    cases hx : P.funcs[g]? with
    | none => rw [hx] at hg; cases hg
    | some fn =>
      rw [hx] at hg
      have hg : fn.goes = true := hg
      rw [h1 fn (by have := Array.mem_of_getElem? hx; simpa using this)] at hg
      cases hg
  · rw [Bool.and_eq_false_iff]
    right
    rw [Bool.eq_false_iff]
    intro e
    rw [Array.any_eq_true'] at e
    obtain ⟨fn, hf, hg⟩ := e
    rw [h1 fn (by simpa using hf)] at hg
    cases hg
theorem goesBy_of {P : Program} {c : OpenClaim} (h : (P.funcs.toList.all fun fn => !fn.goes) = true) (hs : c.start = .entering) : false = c.goesBy P := by
  unfold OpenClaim.goesBy Program.goesAt Program.goesFrom
  rw [hs]
  cases hf : P.funcNamed c.func with
  | none => rfl
  | some f => exact (by simp [goes_of h f])
theorem TopSectors_holds : Rows.TopSectorsCardSaid :=
  Claim7.holds_tied_plain_at .later [] _ _ _ _ topSectors_said (fun _ h => by cases h) (by kernel_rfl) (fun _ h => by cases h) topSectors_row_tie rfl ⟨rfl, rfl⟩ (by kernel_rfl) rfl topSectors_plain (goesBy_of (P := Tryz.prog) goes_none rfl)
#print axioms TopSectors_holds
end Go.Proofs.YtnedfplmoojbaaaGreatDoor

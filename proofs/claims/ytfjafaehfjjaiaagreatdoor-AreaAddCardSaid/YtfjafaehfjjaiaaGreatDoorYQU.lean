/- AreaAdd -/
import Derived.Test.YtfjafaehfjjaiaaGreatDoorXG
set_option linter.unusedVariables false
set_option linter.unusedSimpArgs false
set_option maxRecDepth 100000
namespace Go.Proofs.YtfjafaehfjjaiaaGreatDoor
open P20 Go Go.Vm Go.ChangeShapes Go.WideShapes Go.ChangeAt Go.RowKit
theorem AreaAdd_args: Args Tryz.prog [29,29] fun ds=>∃ x0 y0,ds = x0 :: y0∧(∃ (ops: List RO) (l: List (Fin 256)) (ts: List Int),x0 = R20.dCb ops l ts∧ts.length < 9223372036854775808∧∀ z ∈ ts,-9223372036854775808≤z∧z < 9223372036854775808)∧(∃ x1 y1,y0 = x1 :: y1∧(∃ (ops: List RO) (l: List (Fin 256)) (ts: List Int),x1 = R20.dCb ops l ts∧ts.length < 9223372036854775808∧∀ z ∈ ts,-9223372036854775808≤z∧z < 9223372036854775808)∧(y1 = [])):=.cons Yda (by kernel_rfl) (of_decide_eq_true (by kernel_rfl)) (.cons Yda (by kernel_rfl) (of_decide_eq_true (by kernel_rfl)) (.nil))
theorem AreaAdd_at: ∀ xs: List D,(∃ x0 y0,xs = x0 :: y0∧(∃ (ops: List RO) (l: List (Fin 256)) (ts: List Int),x0 = R20.dCb ops l ts∧ts.length < 9223372036854775808∧∀ z ∈ ts,-9223372036854775808≤z∧z < 9223372036854775808)∧(∃ x1 y1,y0 = x1 :: y1∧(∃ (ops: List RO) (l: List (Fin 256)) (ts: List Int),x1 = R20.dCb ops l ts∧ts.length < 9223372036854775808∧∀ z ∈ ts,-9223372036854775808≤z∧z < 9223372036854775808)∧(y1 = [])))→C Tryz.prog 3 (xs.map .d) (· = .b true):=fun xs ⟨_,_,e0,⟨o1,l1,ts,q0,ht,hz⟩,⟨_,_,e1,⟨o2,l2,ts2,q1,ht2,hz2⟩,e2⟩⟩=>by subst e0; subst q0; subst e1; subst q1; subst e2; exact P20.AreaAdd_ok ht hz ht2 hz2
theorem zqreads (os: Os) {H: Type} (enc: TypeId × Value→H): ∃ places,DataW.whole enc Tryz.prog ((Xdr os).forCall (fun _ _=>0) ⟨#[],#[.agg #[.slice none 0 0,.slice none 0 0,.slice none 0 0],.agg #[.slice none 0 0,.slice none 0 0,.slice none 0 0]],[]⟩).memory Tryz.f3.params.toList Rows.areaAddSpec.vars false (#[.agg #[.slice none 0 0,.slice none 0 0,.slice none 0 0],.agg #[.slice none 0 0,.slice none 0 0,.slice none 0 0]]: Array Value).toList 8 = some ([.agg [.agg [.nil,.nil],.nil],.agg [.agg [.nil,.nil],.nil]],[],places) :=
  ⟨[],by kernel_rfl⟩
theorem zqv (os: Os): ((Xdr os).forCall (fun _ _=>0) ⟨#[],#[.agg #[.slice none 0 0,.slice none 0 0,.slice none 0 0],.agg #[.slice none 0 0,.slice none 0 0,.slice none 0 0]],[]⟩).variablesB Tryz.checked.prog = true:=by kernel_rfl
theorem zqr (os: Os): (((Xdr os).forCall (fun _ _=>0) ⟨#[],#[.agg #[.slice none 0 0,.slice none 0 0,.slice none 0 0],.agg #[.slice none 0 0,.slice none 0 0,.slice none 0 0]],[]⟩).heap.toList.drop Tryz.checked.prog.globals.size).take ((begin Tryz.checked.prog (fun _ _=>0) default).world.heap.size - Tryz.checked.prog.globals.size) = (begin Tryz.checked.prog (fun _ _=>0) default).world.heap.toList.drop Tryz.checked.prog.globals.size:=by kernel_rfl
theorem zqk (os: Os): Input.okWideB Tryz.checked.prog ((Xdr os).forCall (fun _ _=>0) ⟨#[],#[.agg #[.slice none 0 0,.slice none 0 0,.slice none 0 0],.agg #[.slice none 0 0,.slice none 0 0,.slice none 0 0]],[]⟩) 3 ⟨#[],#[.agg #[.slice none 0 0,.slice none 0 0,.slice none 0 0],.agg #[.slice none 0 0,.slice none 0 0,.slice none 0 0]],[]⟩ = true:=by kernel_rfl
theorem zqlifted (os: Os) (started: os.Started) (H: Type) (enc: TypeId × Value→H) (F: Stop.Interp) :
    ReturnsInHanded {} Tryz.checked os 3 .any ((OpenSpec.ofChange Rows.areaAddSpec).preRow enc Tryz.prog Tryz.f3 Rows.areaAddRow.domain false Rows.areaAddRow.laid) (((OpenSpec.ofChange Rows.areaAddSpec).at F).post enc Tryz.prog Tryz.f3 false true false false):=by
  obtain ⟨places,hx⟩:=zqreads os enc
  refine returnsInHanded_of_row (C:=Tryz.checked) (s:=OpenSpec.ofChange Rows.areaAddSpec) own started (by kernel_rfl) Tryz.func3
    (witness_row_at (enc:=enc) (C:=Tryz.checked) false (Xdr os) #[.agg #[.slice none 0 0,.slice none 0 0,.slice none 0 0],.agg #[.slice none 0 0,.slice none 0 0,.slice none 0 0]] rfl (zqv os) (zqr os) (zqk os)
      (OpenSpec.preRow_of_cond 8 hx (by kernel_rfl) (fun k hk=>by cases hk) (by kernel_rfl) (Xzo os _))) ?_
  intro W base args ds gs before hval hW _ _ _ hL _ _
  exact Yqh Ye4 Tryz.underlying4 (s:=Rows.areaAddSpec) AreaAdd_args rfl rfl (fun ds h=>match ds,h with | [_,_],_=>rfl) AreaAdd_at W base args ds gs before hval hW (Yno hL)
theorem zq1: (Rows.areaAddRow.wf (OpenSpec.ofChange Rows.areaAddSpec) && laidOutB Tryz.prog && mapsRowed Tryz.prog) = true:=by kernel_rfl
theorem zq4: (Rows.areaAddRow.unfollowed == Tryz.prog.unfollowed 3) = true:=by kernel_rfl
theorem zq3: (Rows.areaAddRow.inPlace == Tryz.prog.inPlace 3) = true:=by kernel_rfl
theorem zq5: (Rows.areaAddRow.recurses == Tryz.prog.recurses 3) = true:=by kernel_rfl
theorem zq6: (Rows.areaAddRow.named == Tryz.prog.varsNamed 3) = true:=by kernel_rfl
theorem zq8: (Rows.areaAddSpec.vars.all (Tryz.prog.varReadable ·) && Tryz.f3.resultTypes.all (fun t=>Tryz.prog.readableRec t && decide (t < Tryz.prog.types.size)) && (Rows.areaAddRow.ifacesOut == Tryz.f3.resultTypes.toList.any (Tryz.prog.ifacesRec ·)) && (Rows.areaAddRow.loopsOut == Tryz.f3.resultTypes.toList.any (Tryz.prog.loopsFrom ·)) && (Rows.areaAddRow.plainKeys == Tryz.prog.plainKeys) && Rows.areaAddRow.shortTexts.isNone && Tryz.prog.stopsHeard && Tryz.prog.mayEnter) = true:=by kernel_rfl
theorem zq9: ((Rows.areaAddRow.lifted == Tryz.prog.liftsFinal) && (Tryz.prog.make == some Rows.areaAddRow.make) && (Rows.areaAddRow.kinds == (if Rows.areaAddRow.domain.isEmpty then [] else Tryz.f3.params.toList.map fun t=>match Tryz.prog.underlying t with | some (.int k)=>some k | _=>none)) && (Rows.areaAddRow.pinned == Rows.areaAddRow.pinnedBy)) = true:=by kernel_rfl
theorem zqfacts: joinedFacts Tryz.prog 3 Tryz.f3 Rows.areaAddSpec Rows.areaAddRow = true :=
  Xz5 zq1 (by kernel_rfl) zq3 zq4 zq5 zq6 (by kernel_rfl) zq8 zq9 (by kernel_rfl)
theorem zqsaid: Rows.AreaAddSaid :=
  OpenClaim.holds_of_cond 3 Tryz.f3 rfl rfl rfl rfl rfl rfl rfl ⟨rfl,rfl,rfl,rfl,rfl⟩ rfl rfl rfl rfl rfl (by kernel_rfl) Tryz.func3 zqfacts
    (of_decide_eq_true (by kernel_rfl)) (by unfold Func.isWrapper; rw [if_neg (of_decide_eq_false (by kernel_rfl))]; exact ⟨rfl,rfl⟩)
    (fun os started H enc _ F=>by rw [OpenClaim.pre_eq_preRow]; exact zqlifted os started H enc F)
theorem zqplain (f: FuncId) (fn: Func) (hf: Tryz.pinned.checked.prog.funcNamed "setsquare/setsquarelaw20.AreaAdd" = some f) (hfn: Tryz.pinned.checked.prog.funcs[f]? = some fn) :
    false = Tryz.pinned.checked.prog.looks []∧∀ (j: Nat) t,fn.params[j]? = some t→Tryz.pinned.checked.prog.wantsStandIn t = false:=by
  obtain rfl: f = 3:=Option.some.inj ((show Tryz.prog.funcNamed "setsquare/setsquarelaw20.AreaAdd" = some 3 by kernel_rfl).symm.trans hf) |>.symm
  obtain rfl: fn = Tryz.f3:=(Option.some.inj (Tryz.func3.symm.trans hfn)).symm
  refine ⟨by kernel_rfl,fun j t ht=>?_⟩
  have hm: t ∈ [29,29]:=by
    have:=Array.mem_of_getElem? ht
    rw [show Tryz.f3.params = #[29,29] by kernel_rfl] at this
    simpa using this
  exact (show ∀ t ∈ [29,29],Tryz.prog.wantsStandIn t = false from fun t ht=>by simp at ht; rcases ht with rfl | rfl <;> kernel_rfl) t hm
theorem goes_none: (Tryz.prog.funcs.toList.all fun fn=>!fn.goes) = true:=by kernel_rfl
theorem goes_of {P: Program} (h: (P.funcs.toList.all fun fn=>!fn.goes) = true) (f: FuncId): P.goes f = false:=by
  have h1: ∀ fn ∈ P.funcs.toList,fn.goes = false:=fun fn hf=>by simpa using List.all_eq_true.1 h fn hf
  unfold Program.goes
  rw [Bool.or_eq_false_iff]
  constructor
  · rw [Bool.eq_false_iff]
    intro e
    obtain ⟨g,_,hg⟩:=List.any_eq_true.1 e
    cases hx: P.funcs[g]? with
    | none=>rw [hx] at hg; cases hg
    | some fn =>
      rw [hx] at hg
      have hg: fn.goes = true:=hg
      rw [h1 fn (by have:=Array.mem_of_getElem? hx; simpa using this)] at hg
      cases hg
  · rw [Bool.and_eq_false_iff]
    right
    rw [Bool.eq_false_iff]
    intro e
    rw [Array.any_eq_true'] at e
    obtain ⟨fn,hf,hg⟩:=e
    rw [h1 fn (by simpa using hf)] at hg
    cases hg
theorem goesBy_of {P: Program} {c: OpenClaim} (h: (P.funcs.toList.all fun fn=>!fn.goes) = true) (hs: c.start = .entering): false = c.goesBy P:=by
  unfold OpenClaim.goesBy Program.goesAt Program.goesFrom
  rw [hs]
  cases hf: P.funcNamed c.func with
  | none=>rfl
  | some f=>exact (by simp [goes_of h f])
theorem AreaAdd_holds: Rows.AreaAddCardSaid :=
  Claim7.holds_tied_plain_at .later [] _ _ _ _ zqsaid (fun _ h=>by cases h) (by kernel_rfl) (fun _ h=>by cases h) areaAdd_row_tie rfl ⟨rfl,rfl⟩ (by kernel_rfl) rfl zqplain (goesBy_of (P:=Tryz.prog) goes_none rfl)
#print axioms AreaAdd_holds
end Go.Proofs.YtfjafaehfjjaiaaGreatDoor

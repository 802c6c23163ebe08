/- The statements about towers: how a case is read; the frame of the statements. -/
import Derived.Test.YtcobdnnfmhfenaaGreatRows
import Derived.Test.YtcobdnnfmhfenaaGreatZa
import Derived.Test.YtcobdnnfmhfenaaGreatWa
set_option linter.unusedVariables false
set_option linter.unusedSimpArgs false
set_option maxRecDepth 10000
namespace Go.Proofs.YtcobdnnfmhfenaaGreat
open Go Go.Rx Go.Num Go.Tow

theorem own : ownKnob Tryz.prog.godebug = none := by kernel_rfl
theorem laidOut : laidOutB Tryz.prog = true := by kernel_rfl
theorem reads_words : Reads Tryz.prog 43 (RSl RW) := reads_slice Tryz.underlying43 (reads_u32 Tryz.underlying80) (by kernel_rfl) (by decide)
theorem reads_Int : Reads Tryz.prog 45 RI := reads_struct Tryz.underlying45 (.cons rfl (reads_bool Tryz.underlying4) (by kernel_rfl) (.one rfl reads_words (by kernel_rfl))) (by kernel_rfl)
theorem reads_Rat : Reads Tryz.prog 47 RQ := reads_struct Tryz.underlying47 (.cons rfl reads_Int (by kernel_rfl) (.one rfl reads_Int (by kernel_rfl))) (by kernel_rfl)
theorem reads_RE : Reads Tryz.prog 23 RE := reads_slice Tryz.underlying23 reads_Rat (by kernel_rfl) (by decide)
theorem reads_RT : Reads Tryz.prog 22 RT := reads_slice Tryz.underlying22 reads_RE (by kernel_rfl) (by decide)
abbrev RC : Rep (List (List Raw) × List Raw × List Raw × List Raw) := RP RT (RP RE (RP RE RE))
theorem reads_Case : Reads Tryz.prog 25 RC :=
  reads_struct Tryz.underlying25 (.cons rfl reads_RT (by kernel_rfl) (.cons rfl reads_RE (by kernel_rfl) (.cons rfl reads_RE (by kernel_rfl) (.one rfl reads_RE (by kernel_rfl))))) (by kernel_rfl)
theorem case_of {W : GW} {v : Value} {i : List (List Raw) × List Raw × List Raw × List Raw} (h : V RC W v i) : CaseR W v i.1 i.2.1 i.2.2.1 i.2.2.2 := by
  obtain ⟨cs, ⟨k1, k2, rfl, ⟨p1, n1, c1, rfl, h1⟩, k3, k4, rfl, ⟨p2, n2, c2, rfl, h2⟩, k5, k6, rfl, ⟨p3, n3, c3, rfl, h3⟩, ⟨p4, n4, c4, rfl, h4⟩⟩, rfl⟩ := h
  exact ⟨⟨p1, n1, c1, p2, n2, c2, p3, n3, c3, p4, n4, c4, rfl, h1, h2, h3, h4⟩⟩

open Go.ChangeShapes Go.WideShapes Go.ChangeAt Go.RowKit in
/-- A statement on one case: what the walk gives is what is said. -/
theorem law1 {f : FuncId} {fn : Func} {s : ChangeSpec} {H : Type} {enc : TypeId × Value → H} (hp : fn.params = #[25]) (hr : fn.resultTypes = #[4]) (hv0 : s.vars = [])
    (hs : ∀ d : DataW H, s.fn H [d] = { results := [.lit (.bool true)], args := [d] })
    (law : ∀ (W : GW) (v : Value) (t : List (List Raw)) (a b c : List Raw), CaseR W v t a b c → Ok Tryz.prog f [v] W fun _ r => r = .bool true)
    (W : World) (base : Nat) (args : Array Value) (ds gs : List (DataW H)) (before : List MemPlace)
    (hval : ∀ (j : Nat) t v, fn.params[j]? = some t → args[j]? = some v → Value.okWide Tryz.prog W .any base t v)
    (hW : DataW.Whole enc Tryz.prog fn.params.toList s.vars false W args.toList ds gs before) :
    Calls Tryz.prog f args W fun e W' => ∃ v, e = .returned v ∧ s.post enc Tryz.prog fn false true false false W args v W' := by
  have hW' := hW
  have hlt := hW.lt
  rw [hp, hv0] at hW
  obtain ⟨p, q, hA, hV, rfl, hfz, hnd⟩ := hW
  obtain ⟨v0, d0, rfl, rfl, h0⟩ := trodAll_one hA
  obtain ⟨rfl, rfl⟩ := trodVars_none hV
  have hok := hval 0 25 v0 (by rw [hp]; rfl) rfl
  obtain ⟨i, hi⟩ := reads_agg Tryz.underlying25 reads_Case rfl hok h0
  have hl := law (gw0 W) v0 _ _ _ _ (case_of hi)
  refine (show Calls Tryz.prog f #[v0] W _ from hl.2).mono ?_
  rintro e w' ⟨W1, v1, rfl, rfl, hE, rfl⟩
  have hb := below_of hE
  refine ⟨_, rfl, post_of_below (pa := p) (pv := []) hW' (fun _ _ _ => ?_) (fun sp hsp => ?_) (fun _ _ => ?_) (by simp) hb (ok_one hr rfl (okWide_bool_mk Tryz.underlying4 _))⟩
  · rw [hr, List.append_nil, hs]
    exact trodAll_mk1 (shut_bool Tryz.underlying4 _)
  · rw [hp, List.append_nil, hs]
    exact trodAll_mk1 (WideElems.Trod_stays laidOut (by kernel_rfl) (of_decide_eq_true (by kernel_rfl)) h0 (fun x hx => hb.same (hlt x (by simpa using hx))) (fun x hx => hsp x (by simpa using hx)))
  · rw [hv0, List.append_nil, hs]; rfl
end Go.Proofs.YtcobdnnfmhfenaaGreat

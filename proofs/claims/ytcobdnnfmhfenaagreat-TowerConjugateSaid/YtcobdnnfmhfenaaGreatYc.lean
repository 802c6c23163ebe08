/- The frames of the statements on a case and an integer, and on a case and a number. -/
import Derived.Test.YtcobdnnfmhfenaaGreatCa
set_option linter.unusedVariables false
set_option linter.unusedSimpArgs false
set_option maxRecDepth 10000
namespace Go.Proofs.YtcobdnnfmhfenaaGreat
open Go Go.Rx Go.Num Go.Tow

open Go.ChangeShapes Go.WideShapes in
theorem reads_int {P : Program} {t : TypeId} (ht : P.underlying t = some (.int .i64)) {W : World} {base : Nat} {H : Type} {enc : TypeId × Value → H} {spare : Nat → Bool} {held : Bool} {v : Value} {d : DataW H} {p : List MemPlace}
    (hok : Value.okWide P W .any base t v) (h : DataW.Trod enc P W 0 spare held t v d p) : ∃ z : Int, v = .int .i64 z ∧ -9223372036854775808 ≤ z ∧ z < 9223372036854775808 := by
  obtain ⟨z, rfl⟩ := okWide_int ht hok
  obtain ⟨fuel, h⟩ := h
  obtain ⟨n, h1, _, h2⟩ := DataW.trod_int ht h
  simp [Lit.wf, IntKind.min, IntKind.max, IntKind.signed, IntKind.bits] at h2
  have e : z = n := by
    have : [Value.int .i64 z] = [Value.int .i64 n] := h1
    simpa using this
  subst e
  exact ⟨z, rfl, by omega, by omega⟩

open Go.ChangeShapes Go.WideShapes Go.ChangeAt Go.RowKit in
theorem law2i {f : FuncId} {fn : Func} {s : ChangeSpec} {H : Type} {enc : TypeId × Value → H} (hp : fn.params = #[25, 3]) (hr : fn.resultTypes = #[4]) (hv0 : s.vars = [])
    (hs : ∀ d d' : DataW H, s.fn H [d, d'] = { results := [.lit (.bool true)], args := [d, d'] })
    (law : ∀ (W : GW) (v : Value) (t : List (List Raw)) (a b c : List Raw) (i : Int), CaseR W v t a b c → -9223372036854775808 ≤ i ∧ i < 9223372036854775808 → Ok Tryz.prog f [v, .int .i64 i] W fun _ r => r = .bool true)
    (W : World) (base : Nat) (args : Array Value) (ds gs : List (DataW H)) (before : List MemPlace)
    (hval : ∀ (j : Nat) t v, fn.params[j]? = some t → args[j]? = some v → Value.okWide Tryz.prog W .any base t v)
    (hW : DataW.Whole enc Tryz.prog fn.params.toList s.vars false W args.toList ds gs before) :
    Calls Tryz.prog f args W fun e W' => ∃ v, e = .returned v ∧ s.post enc Tryz.prog fn false true false false W args v W' := by
  have hW' := hW
  have hlt := hW.lt
  rw [hp, hv0] at hW
  obtain ⟨p, q, hA, hV, rfl, hfz, hnd⟩ := hW
  obtain ⟨v0, v1, d0, d1, p0, p1, rfl, rfl, rfl, h0, h1⟩ := trodAll_two hA
  obtain ⟨rfl, rfl⟩ := trodVars_none hV
  have hok := hval 0 25 v0 (by rw [hp]; rfl) rfl
  have hok1 := hval 1 3 v1 (by rw [hp]; rfl) rfl
  obtain ⟨i, hi⟩ := reads_agg Tryz.underlying25 reads_Case rfl hok h0
  obtain ⟨z, rfl, hz⟩ := reads_int Tryz.underlying3 hok1 h1
  have hl := law (gw0 W) v0 _ _ _ _ z (case_of hi) hz
  refine (show Calls Tryz.prog f #[v0, .int .i64 z] W _ from hl.2).mono ?_
  rintro e w' ⟨W1, v1, rfl, rfl, hE, rfl⟩
  have hb := below_of hE
  refine ⟨_, rfl, post_of_below (pa := p0 ++ p1) (pv := []) hW' (fun _ _ _ => ?_) (fun sp hsp => ?_) (fun _ _ => ?_) (by simp) hb (ok_one hr rfl (okWide_bool_mk Tryz.underlying4 _))⟩
  · rw [hr, List.append_nil, hs]
    exact trodAll_mk1 (shut_bool Tryz.underlying4 _)
  · rw [hp, List.append_nil, hs]
    exact trodAll_mk2 (WideElems.Trod_stays laidOut (by kernel_rfl) (of_decide_eq_true (by kernel_rfl)) h0 (fun x hx => hb.same (hlt x (by simp [hx]))) (fun x hx => hsp x (by simp [hx])))
      (WideElems.Trod_stays laidOut (by kernel_rfl) (of_decide_eq_true (by kernel_rfl)) h1 (fun x hx => hb.same (hlt x (by simp [hx]))) (fun x hx => hsp x (by simp [hx])))
  · rw [hv0, List.append_nil, hs]; rfl

open Go.ChangeShapes Go.WideShapes Go.ChangeAt Go.RowKit in
theorem law2q {f : FuncId} {fn : Func} {s : ChangeSpec} {H : Type} {enc : TypeId × Value → H} (hp : fn.params = #[25, 47]) (hr : fn.resultTypes = #[4]) (hv0 : s.vars = [])
    (hs : ∀ d d' : DataW H, s.fn H [d, d'] = { results := [.lit (.bool true)], args := [d, d'] })
    (law : ∀ (W : GW) (v u : Value) (t : List (List Raw)) (a b c : List Raw) (i : Raw), CaseR W v t a b c → V RQ W u i → Ok Tryz.prog f [v, u] W fun _ r => r = .bool true)
    (W : World) (base : Nat) (args : Array Value) (ds gs : List (DataW H)) (before : List MemPlace)
    (hval : ∀ (j : Nat) t v, fn.params[j]? = some t → args[j]? = some v → Value.okWide Tryz.prog W .any base t v)
    (hW : DataW.Whole enc Tryz.prog fn.params.toList s.vars false W args.toList ds gs before) :
    Calls Tryz.prog f args W fun e W' => ∃ v, e = .returned v ∧ s.post enc Tryz.prog fn false true false false W args v W' := by
  have hW' := hW
  have hlt := hW.lt
  rw [hp, hv0] at hW
  obtain ⟨p, q, hA, hV, rfl, hfz, hnd⟩ := hW
  obtain ⟨v0, v1, d0, d1, p0, p1, rfl, rfl, rfl, h0, h1⟩ := trodAll_two hA
  obtain ⟨rfl, rfl⟩ := trodVars_none hV
  have hok := hval 0 25 v0 (by rw [hp]; rfl) rfl
  have hok1 := hval 1 47 v1 (by rw [hp]; rfl) rfl
  obtain ⟨i, hi⟩ := reads_agg Tryz.underlying25 reads_Case rfl hok h0
  obtain ⟨j, hj⟩ := reads_agg Tryz.underlying47 reads_Rat rfl hok1 h1
  have hl := law (gw0 W) v0 v1 _ _ _ _ j (case_of hi) hj
  refine (show Calls Tryz.prog f #[v0, v1] W _ from hl.2).mono ?_
  rintro e w' ⟨W1, u1, rfl, rfl, hE, rfl⟩
  have hb := below_of hE
  refine ⟨_, rfl, post_of_below (pa := p0 ++ p1) (pv := []) hW' (fun _ _ _ => ?_) (fun sp hsp => ?_) (fun _ _ => ?_) (by simp) hb (ok_one hr rfl (okWide_bool_mk Tryz.underlying4 _))⟩
  · rw [hr, List.append_nil, hs]
    exact trodAll_mk1 (shut_bool Tryz.underlying4 _)
  · rw [hp, List.append_nil, hs]
    exact trodAll_mk2 (WideElems.Trod_stays laidOut (by kernel_rfl) (of_decide_eq_true (by kernel_rfl)) h0 (fun x hx => hb.same (hlt x (by simp [hx]))) (fun x hx => hsp x (by simp [hx])))
      (WideElems.Trod_stays laidOut (by kernel_rfl) (of_decide_eq_true (by kernel_rfl)) h1 (fun x hx => hb.same (hlt x (by simp [hx]))) (fun x hx => hsp x (by simp [hx])))
  · rw [hv0, List.append_nil, hs]; rfl
end Go.Proofs.YtcobdnnfmhfenaaGreat

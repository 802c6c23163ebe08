/- The statements about roots: how lists are read; the frames of the statements. -/
import Derived.Test.YtcaikjefkkejbaaGreatRows
import Derived.Test.YtcaikjefkkejbaaGreatZa
import Derived.Test.YtcaikjefkkejbaaGreatTb
set_option linter.unusedVariables false
set_option linter.unusedSimpArgs false
set_option maxRecDepth 10000
namespace Go.Proofs.YtcaikjefkkejbaaGreat
open Go Go.Rx Go.Num Go.Tow
theorem own : ownKnob Tryz.prog.godebug = none := by kernel_rfl
theorem laidOut : laidOutB Tryz.prog = true := by kernel_rfl
theorem reads_words : Reads Tryz.prog 47 (RSl RW) := reads_slice Tryz.underlying47 (reads_u32 Tryz.underlying82) (by kernel_rfl) (by decide)
theorem reads_Int : Reads Tryz.prog 49 RI := reads_struct Tryz.underlying49 (.cons rfl (reads_bool Tryz.underlying4) (by kernel_rfl) (.one rfl reads_words (by kernel_rfl))) (by kernel_rfl)
theorem reads_Rat : Reads Tryz.prog 51 RQ := reads_struct Tryz.underlying51 (.cons rfl reads_Int (by kernel_rfl) (.one rfl reads_Int (by kernel_rfl))) (by kernel_rfl)
theorem reads_RE : Reads Tryz.prog 23 RE := reads_slice Tryz.underlying23 reads_Rat (by kernel_rfl) (by decide)
theorem reads_RT : Reads Tryz.prog 22 RT := reads_slice Tryz.underlying22 reads_RE (by kernel_rfl) (by decide)
theorem okWide_slice {P : Program} {W : World} {base : Nat} {t e : TypeId} {v : Value} (ht : P.underlying t = some (.slice e)) (h : Value.okWide P W .any base t v) : v.cells = #[v] := by
  unfold Value.okWide at h
  rw [ht] at h
  cases v with
  | agg cs => exact absurd h (by simp [Cell.okWide, Cell.ok, ht])
  | _ => rfl
theorem reads_sl {P : Program} {t e : TypeId} {α : Type} {r : Rep α} (ht : P.underlying t = some (.slice e)) (hr : Reads P t (RSl r)) {W : World} {base : Nat} {H : Type} {enc : TypeId × Value → H} {spare : Nat → Bool} {held : Bool} {v : Value} {d : DataW H} {p : List MemPlace}
    (hok : Value.okWide P W .any base t v) (h : DataW.Trod enc P W 0 spare held t v d p) : ∃ q n c xs, v = .slice q n c ∧ Sl r (gw0 W) q n c xs := by
  obtain ⟨fuel, h⟩ := h
  rw [okWide_slice ht hok] at h
  obtain ⟨i, q, n, c, hc, hs⟩ := hr (gw0 W) rfl h
  injection hc with hc _
  exact ⟨q, n, c, i, hc, hs⟩
open Go.ChangeShapes Go.WideShapes Go.ChangeAt Go.RowKit in
/-- A statement on a tower. -/
theorem law1s {f : FuncId} {fn : Func} {s : ChangeSpec} {H : Type} {enc : TypeId × Value → H} (hp : fn.params = #[22]) (hr : fn.resultTypes = #[4]) (hv0 : s.vars = [])
    (hs : ∀ d : DataW H, s.fn H [d] = { results := [.lit (.bool true)], args := [d] })
    (law : ∀ (W : GW) (p : Option Addr) (n c : Nat) (t : List (List Raw)), Sl RE W p n c t → Ok Tryz.prog f [.slice p n c] W fun _ r => r = .bool true)
    (W : World) (base : Nat) (args : Array Value) (ds gs : List (DataW H)) (before : List MemPlace)
    (hval : ∀ (j : Nat) t v, fn.params[j]? = some t → args[j]? = some v → Value.okWide Tryz.prog W .any base t v)
    (hW : DataW.Whole enc Tryz.prog fn.params.toList s.vars false W args.toList ds gs before) :
    Calls Tryz.prog f args W fun e W' => ∃ v, e = .returned v ∧ s.post enc Tryz.prog fn false true false false W args v W' := by
  have hW' := hW
  have hlt := hW.lt
  rw [hp, hv0] at hW
  obtain ⟨p, q, hA, hV, rfl, hfz, hnd⟩ := hW
  obtain ⟨v0, d0, rfl, rfl, h0⟩ := trodAll_one hA
  obtain ⟨rfl, rfl⟩ := trodVars_none hV
  have hok := hval 0 22 v0 (by rw [hp]; rfl) rfl
  obtain ⟨p0, n0, c0, t0, rfl, g0⟩ := reads_sl Tryz.underlying22 reads_RT hok h0
  have hl := law (gw0 W) _ _ _ _ g0
  refine (show Calls Tryz.prog f #[_] W _ from hl.2).mono ?_
  rintro e w' ⟨W1, v1, rfl, rfl, hE, rfl⟩
  have hb := below_of hE
  refine ⟨_, rfl, post_of_below (pa := p) (pv := []) hW' (fun _ _ _ => ?_) (fun sp hsp => ?_) (fun _ _ => ?_) (by simp) hb (ok_one hr rfl (okWide_bool_mk Tryz.underlying4 _))⟩
  · rw [hr, List.append_nil, hs]
    exact trodAll_mk1 (shut_bool Tryz.underlying4 _)
  · rw [hp, List.append_nil, hs]
    exact trodAll_mk1 (WideElems.Trod_stays laidOut (by kernel_rfl) (of_decide_eq_true (by kernel_rfl)) h0 (fun x hx => hb.same (hlt x (by simpa using hx))) (fun x hx => hsp x (by simpa using hx)))
  · rw [hv0, List.append_nil, hs]; rfl
open Go.ChangeShapes Go.WideShapes Go.ChangeAt Go.RowKit in
/-- A statement on a tower and an element. -/
theorem law2s {f : FuncId} {fn : Func} {s : ChangeSpec} {H : Type} {enc : TypeId × Value → H} (hp : fn.params = #[22, 23]) (hr : fn.resultTypes = #[4]) (hv0 : s.vars = [])
    (hs : ∀ d d' : DataW H, s.fn H [d, d'] = { results := [.lit (.bool true)], args := [d, d'] })
    (law : ∀ (W : GW) (p q : Option Addr) (n c m d : Nat) (t : List (List Raw)) (l : List Raw), Sl RE W p n c t → Sl RQ W q m d l → Ok Tryz.prog f [.slice p n c, .slice q m d] W fun _ r => r = .bool true)
    (W : World) (base : Nat) (args : Array Value) (ds gs : List (DataW H)) (before : List MemPlace)
    (hval : ∀ (j : Nat) t v, fn.params[j]? = some t → args[j]? = some v → Value.okWide Tryz.prog W .any base t v)
    (hW : DataW.Whole enc Tryz.prog fn.params.toList s.vars false W args.toList ds gs before) :
    Calls Tryz.prog f args W fun e W' => ∃ v, e = .returned v ∧ s.post enc Tryz.prog fn false true false false W args v W' := by
  have hW' := hW
  have hlt := hW.lt
  rw [hp, hv0] at hW
  obtain ⟨p, q, hA, hV, rfl, hfz, hnd⟩ := hW
  obtain ⟨v0, v1, d0, d1, p0, p1, rfl, rfl, rfl, h0, h1⟩ := trodAll_two hA
  obtain ⟨rfl, rfl⟩ := trodVars_none hV
  have hok := hval 0 22 v0 (by rw [hp]; rfl) rfl
  have hok1 := hval 1 23 v1 (by rw [hp]; rfl) rfl
  obtain ⟨q0, n0, c0, t0, rfl, g0⟩ := reads_sl Tryz.underlying22 reads_RT hok h0
  obtain ⟨q1, n1, c1, t1, rfl, g1⟩ := reads_sl Tryz.underlying23 reads_RE hok1 h1
  have hl := law (gw0 W) _ _ _ _ _ _ _ _ g0 g1
  refine (show Calls Tryz.prog f #[_, _] W _ from hl.2).mono ?_
  rintro e w' ⟨W1, u1, rfl, rfl, hE, rfl⟩
  have hb := below_of hE
  refine ⟨_, rfl, post_of_below (pa := p0 ++ p1) (pv := []) hW' (fun _ _ _ => ?_) (fun sp hsp => ?_) (fun _ _ => ?_) (by simp) hb (ok_one hr rfl (okWide_bool_mk Tryz.underlying4 _))⟩
  · rw [hr, List.append_nil, hs]
    exact trodAll_mk1 (shut_bool Tryz.underlying4 _)
  · rw [hp, List.append_nil, hs]
    exact trodAll_mk2 (WideElems.Trod_stays laidOut (by kernel_rfl) (of_decide_eq_true (by kernel_rfl)) h0 (fun x hx => hb.same (hlt x (by simp [hx]))) (fun x hx => hsp x (by simp [hx])))
      (WideElems.Trod_stays laidOut (by kernel_rfl) (of_decide_eq_true (by kernel_rfl)) h1 (fun x hx => hb.same (hlt x (by simp [hx]))) (fun x hx => hsp x (by simp [hx])))
  · rw [hv0, List.append_nil, hs]; rfl
open Go.ChangeShapes Go.WideShapes Go.ChangeAt Go.RowKit in
/-- A statement on a tower and two elements. -/
theorem law3s {f : FuncId} {fn : Func} {s : ChangeSpec} {H : Type} {enc : TypeId × Value → H} (hp : fn.params = #[22, 23, 23]) (hr : fn.resultTypes = #[4]) (hv0 : s.vars = [])
    (hs : ∀ d d' d'' : DataW H, s.fn H [d, d', d''] = { results := [.lit (.bool true)], args := [d, d', d''] })
    (law : ∀ (W : GW) (p q q2 : Option Addr) (n c m d m2 d2 : Nat) (t : List (List Raw)) (l l2 : List Raw), Sl RE W p n c t → Sl RQ W q m d l → Sl RQ W q2 m2 d2 l2 → Ok Tryz.prog f [.slice p n c, .slice q m d, .slice q2 m2 d2] W fun _ r => r = .bool true)
    (W : World) (base : Nat) (args : Array Value) (ds gs : List (DataW H)) (before : List MemPlace)
    (hval : ∀ (j : Nat) t v, fn.params[j]? = some t → args[j]? = some v → Value.okWide Tryz.prog W .any base t v)
    (hW : DataW.Whole enc Tryz.prog fn.params.toList s.vars false W args.toList ds gs before) :
    Calls Tryz.prog f args W fun e W' => ∃ v, e = .returned v ∧ s.post enc Tryz.prog fn false true false false W args v W' := by
  have hW' := hW
  have hlt := hW.lt
  rw [hp, hv0] at hW
  obtain ⟨p, q, hA, hV, rfl, hfz, hnd⟩ := hW
  obtain ⟨v0, v1, v2, d0, d1, d2, p0, p1, p2, rfl, rfl, rfl, h0, h1, h2⟩ := trodAll_three hA
  obtain ⟨rfl, rfl⟩ := trodVars_none hV
  have hok := hval 0 22 v0 (by rw [hp]; rfl) rfl
  have hok1 := hval 1 23 v1 (by rw [hp]; rfl) rfl
  have hok2 := hval 2 23 v2 (by rw [hp]; rfl) rfl
  obtain ⟨q0, n0, c0, t0, rfl, g0⟩ := reads_sl Tryz.underlying22 reads_RT hok h0
  obtain ⟨q1, n1, c1, t1, rfl, g1⟩ := reads_sl Tryz.underlying23 reads_RE hok1 h1
  obtain ⟨q2, n2, c2, t2, rfl, g2⟩ := reads_sl Tryz.underlying23 reads_RE hok2 h2
  have hl := law (gw0 W) _ _ _ _ _ _ _ _ _ _ _ _ g0 g1 g2
  rw [List.append_assoc p0 p1 p2] at hW'
  refine (show Calls Tryz.prog f #[_, _, _] W _ from hl.2).mono ?_
  rintro e w' ⟨W1, u1, rfl, rfl, hE, rfl⟩
  have hb := below_of hE
  refine ⟨_, rfl, post_of_below (pa := p0 ++ (p1 ++ p2)) (pv := []) hW' (fun _ _ _ => ?_) (fun sp hsp => ?_) (fun _ _ => ?_) (by simp) hb (ok_one hr rfl (okWide_bool_mk Tryz.underlying4 _))⟩
  · rw [hr, List.append_nil, hs]
    exact trodAll_mk1 (shut_bool Tryz.underlying4 _)
  · rw [hp, List.append_nil, hs]
    exact trodAll_mk3 (WideElems.Trod_stays laidOut (by kernel_rfl) (of_decide_eq_true (by kernel_rfl)) h0 (fun x hx => hb.same (hlt x (by simp [hx]))) (fun x hx => hsp x (by simp [hx])))
      (WideElems.Trod_stays laidOut (by kernel_rfl) (of_decide_eq_true (by kernel_rfl)) h1 (fun x hx => hb.same (hlt x (by simp [hx]))) (fun x hx => hsp x (by simp [hx])))
      (WideElems.Trod_stays laidOut (by kernel_rfl) (of_decide_eq_true (by kernel_rfl)) h2 (fun x hx => hb.same (hlt x (by simp [hx]))) (fun x hx => hsp x (by simp [hx])))
  · rw [hv0, List.append_nil, hs]; rfl
end Go.Proofs.YtcaikjefkkejbaaGreat

/- The abstract machine, part twenty-eight: ways that meet again. -/
import Derived.Test.YtfmgfaeheljpcaaGreatYVO
set_option linter.unusedVariables false
set_option linter.unusedSimpArgs false
namespace Go.Vm
open Go
section
section
variable {c : Cx} {s : St}
noncomputable def nxT (tb : Nat → Option TI) (n : Nat) (id : Option Nat) (s : St) : Option (List (Nat × Bool) × Code × List Kt × Env × Hpl) := match (match id with
    | some id => runT tb n id 1000 s
    | none => runN tb n 1000 s) with
  | .j G (.c x :: K) E H => some (G, x, K, E, H)
  | _ => none
/-- what holds where ways meet -/
def AtJ {α : Type} (E' : α → Env) (H' : α → Hpl) (I : α → Prop) (s : S) : Prop := ∃ x, s = sem (E' x) (H' x) ∧ I x
/-- WAYS MEET behind the next code (that of region id, if it is named) -/
theorem Cu {α : Type} (id : Option Nat) (E' : α → Env) (H' : α → Hpl) (I : α → Prop) {G : List (Nat × Bool)} {x : Code} {K : List Kt} {E : Env} {H : Hpl} (h : nxT c.tb c.n id s = some (G, x, K, E, H))
    (k1 : StP c (.j G (.c x :: .l (AtJ E' H' I) :: K) E H)) (k2 : ∀ y, I y → StP c (.j [] K (E' y) (H' y))) : StP c s := by
  have key : StP c (.j G (.c x :: K) E H) := J.cut (AtJ E' H' I) k1 (fun s hs => by obtain ⟨y, rfl, hy⟩ := hs; exact k2 y hy)
  unfold nxT at h
  cases id with
  | none =>
    simp only at h
    split at h <;> cases h
    rename_i hr
    exact go 1000 hr key
  | some id =>
    simp only at h
    split at h <;> cases h
    rename_i hr
    exact runT_ok 1000 (by rw [hr]; exact key)
/-- here they meet -/
theorem Jn {α : Type} {E' : α → Env} {H' : α → Hpl} {I : α → Prop} {K : List Kt} {E : Env} {H : Hpl} (x : α) (r : List (Nat × Nat)) (h : nxB c.tb c.n s = some (AtJ E' H' I, K, E, H)) (hI : I x) (hf : Fits r E (E' x) H (H' x) := by exact ⟨rfl, rfl, rfl, rfl, rfl⟩) : StP c s := by
  unfold nxB at h
  split at h <;> cases h
  rename_i hr
  exact go 1000 hr (fitS hf (J.at' ⟨x, rfl, hI⟩))
end
end
section
def Xof (θ : Loc) (H0 : Hpl) (b : Nat) : Prop := ∃ o x, look H0 o = some x ∧ x.live = true ∧ (θ o).1 = some b
/-- the objects behind a call: those handed in, and a new one, number 1000000 -/
def okH (H0 H' : Hpl) : Bool := (H0.all fun x => hasK H' x.1) && H'.all fun x => hasK H0 x.1 || Nat.beq x.1 1000000
def RetW (W0 : GW) (θ0 : Loc) (H0 : Hpl) (Post : AV → Hpl → Prop) (e : Ending) (w' : World) : Prop :=
  ∃ W' θ' v u H', e = .returned u ∧ W'.w = w' ∧ Fm W0 W' (Xof θ0 H0) ∧ Obs W' θ' (fun b => W0.size ≤ b ∨ Xof θ0 H0 b) (look H') ∧ AV.V W' θ' v u ∧ (∀ i, v.ids i → ∃ y, look H' i = some y) ∧ (∀ i y, look H0 i = some y → θ' i = θ0 i) ∧ okH H0 H' = true ∧ Post v H'
/-- A CONTRACT with objects: on these arguments, the objects H0 being handed in, the result v and the objects H' come back as Post says -/
def CW (P : Program) (f : FuncId) (args : List AV) (H0 : Hpl) (Post : AV → Hpl → Prop) : Prop := FnOk P f ∧ ∀ W θ vs, Obs W θ (fun _ => True) (look H0) → ArgL W θ args vs → Calls P f vs.toArray W.w (RetW W θ H0 Post)
theorem hasK_iff {α : Type _} {H : List (Nat × α)} {i : Nat} : hasK H i = true ↔ ∃ y, look H i = some y := by
  unfold hasK; split
  · rename_i y hy; simp [hy]
  · rename_i hy; simp [hy]
theorem hasK_none {α : Type _} {H : List (Nat × α)} {i : Nat} (h : hasK H i = false) : look H i = none := by
  unfold hasK at h; split at h <;> first | assumption | cases h
theorem argE_V' {W : GW} {θ : Loc} : ∀ {as : List AV} {vs : List Value} {i t : Nat} {v : AV}, ArgL W θ as vs → argE i as t = some v → i ≤ t ∧ ∃ u, vs[t - i]? = some u ∧ AV.V W θ v u
  | [], [], i, t, v, _, h => by simp [argE] at h
  | a :: as, u :: vs, i, t, v, ha, h => by
    rcases upd_some h with ⟨e1, e2⟩ | ⟨e1, e2⟩
    · subst e1; subst e2; exact ⟨Nat.le_refl _, u, by simp, ha.1⟩
    · obtain ⟨h1, w, h2, h3⟩ := argE_V' ha.2 e2
      exact ⟨by omega, w, by rw [show t - i = (t - (i + 1)) + 1 from by omega]; simpa using h2, h3⟩
  | [], _ :: _, _, _, _, h, _ => h.elim
  | _ :: _, [], _, _, _, h, _ => h.elim
abbrev cxW (P : Program) (t : Tab P) (m : Mx P) (hpr : ∀ T ti, t.tb T = some ti → ∀ a c, ti.z ≠ .pr a c) (n : Nat) (hn : n ≤ 1000000) (fn : Func) (W : GW) (θ : Loc) (H0 : Hpl) (Post : AV → Hpl → Prop) : Cx := ⟨P, t.tb, fun T ti h => ⟨t.ok T ti h, hpr T ti h⟩, m, n, hn, W, Xof θ H0, θ, bodyPost P fn (RetW W θ H0 Post)⟩
class WkW (c : Cx) (fn : outParam Func) (H0 : outParam Hpl) (Post : outParam (AV → Hpl → Prop)) : Prop where
  x : c.X = Xof c.θ0 H0
  f : c.fin = bodyPost c.P fn (RetW c.W0 c.θ0 H0 Post)
instance {P t m hpr n hn fn W θ H0 Post} : WkW (cxW P t m hpr n hn fn W θ H0 Post) fn H0 Post := ⟨rfl, rfl⟩
/-- A FUNCTION IS ENTERED with objects -/
theorem EnW {P : Program} [t : Tab P] [hp : Npr P] [m : Mx P] {f n : Nat} {fn : Func} {x : Code} {args : List AV} {H0 : Hpl} {Post : AV → Hpl → Prop} (hf : P.funcs[f]? = some fn) (h : ∀ W θ hn, StP (cxW P t m hp.h n hn fn W θ H0 Post) (.j [] [.c x] (argL 0 args) H0)) (hname : (fn.name == "runtime.NumGoroutine") = false := by exact rfl) (hb : fn.body = some x := by exact rfl)
    (hN : fn.ntmps = n := by exact rfl) (hl : (Nat.ble args.length n && Nat.ble n 1000000 && closed (argL 0 args) H0) = true := by exact rfl) : CW P f args H0 Post := by
  refine ⟨⟨fn, hf, hname, by rw [hb]; rfl⟩, fun W θ vs hO ha => calls_of_wp hf hb ?_⟩
  simp only [Bool.and_eq_true] at hl
  obtain ⟨⟨hl1, hl2⟩, hl3⟩ := hl
  have hl1 := Nat.le_of_ble_eq_true hl1
  have hlen := ha.len
  have hc := closed_ok hl3
  have h1 : J _ _ (sem _ _) := h W θ (Nat.le_of_ble_eq_true hl2)
  refine wp_mono (h1 _ W.w ⟨_, W, θ, rfl, ⟨Fm.refl W _, ⟨rfl, by simp [hN]; omega, fun t v ht => ?_⟩, ⟨hO.r, fun o x b h1 h2 h3 => .inr ⟨o, x, h1, h2, h3⟩, hO.dis, hO.ids⟩, hc.1⟩, fun _ _ => rfl, rfl⟩) fun e a w h => by cases e <;> exact h
  have ht : argE 0 args t = some v := by rw [argL_eq]; exact ht
  obtain ⟨_, u, h2, h3⟩ := argE_V' ha ht
  rw [Nat.sub_zero] at h2
  have hlt := get_lt h2
  rw [List.getElem?_eq_getElem hlt] at h2
  injection h2 with h2
  simp only [Array.getD]
  rw [dif_pos (by simp; omega)]
  simp [Array.getElem_append_left, hlt, h2]
  exact h3
section
variable {c : Cx} {s : St} {p : Pl}
theorem ren_sat {W0 : GW} {X : Nat → Prop} {n : Nat} {E : Env} {H : Hpl} {a : Act} {W : GW} {θ : Loc} {o o' : Nat} (hn : look H o' = none) (hs : Sat W0 X n (sem E H) a W θ) : Sat W0 X n (sem (renE o o' E) (renH o o' H)) a W (rnθ o o' θ) := by
  have hdom : ∀ {i y}, look H i = some y → i ≠ o' := fun h e => by rw [e, hn] at h; cases h
  have hni : ∀ {v : AV}, (∀ i, v.ids i → ∃ y, look H i = some y) → ¬ v.ids o' := fun h hi => by obtain ⟨y, hy⟩ := h o' hi; rw [hn] at hy; cases hy
  refine ⟨hs.fm, ⟨hs.rel.defers, hs.rel.size, fun t v ht => ?_⟩, ⟨fun i x hx => ?_, fun i x b hx hl hb => ?_, fun i j x x' b hx hx' hl hl' h1 h2 => ?_, fun i x q hx hq => ?_⟩, fun t v i ht hi => ?_⟩
  · obtain ⟨u, h1, rfl⟩ := look_renE ht
    exact ren_V (hni fun i hi => hs.ids t u i h1 hi) (hs.rel.has t u h1)
  · obtain ⟨j, y, h1, rfl, rfl⟩ := look_renH hn hx
    exact ob_ren (hdom h1) (fun hi => by obtain ⟨z, hz⟩ := hs.obs.ids j y o' h1 hi; have hz : look H o' = some z := hz; rw [hn] at hz; cases hz) (hs.obs.r j y h1)
  · obtain ⟨j, y, h1, rfl, rfl⟩ := look_renH hn hx
    rw [rnθ_ok (hdom h1)] at hb
    exact hs.obs.new j y b h1 (by cases y <;> first | rfl | cases hl) hb
  · obtain ⟨q, y, k1, rfl, rfl⟩ := look_renH hn hx
    obtain ⟨q', y', k1', rfl, rfl⟩ := look_renH hn hx'
    rw [rnθ_ok (hdom k1)] at h1
    rw [rnθ_ok (hdom k1')] at h2
    rw [hs.obs.dis q q' y y' b k1 k1' (by cases y <;> first | rfl | cases hl) (by cases y' <;> first | rfl | cases hl') h1 h2]
  · obtain ⟨j, y, h1, rfl, rfl⟩ := look_renH hn hx
    cases y with
    | var a =>
      obtain ⟨r, h2, rfl⟩ := ren_ids (a := a) hq
      obtain ⟨z, hz⟩ := hs.obs.ids j _ r h1 h2
      exact look_ren_of hn hz
    | _ => exact hq.elim
  · obtain ⟨u, h1, rfl⟩ := look_renE ht
    obtain ⟨r, h2, rfl⟩ := ren_ids hi
    obtain ⟨z, hz⟩ := hs.ids t u r h1 h2
    exact look_ren_of hn hz
def okN : List (Nat × Nat) → Hpl → Bool
  | [], _ => true
  | (o, o') :: r, H => !hasK H o' && okN r (renH o o' H)
theorem rn_sat {W0 : GW} {X : Nat → Prop} {n : Nat} {a : Act} {W : GW} : ∀ {r : List (Nat × Nat)} {E : Env} {H : Hpl} {θ : Loc}, okN r H = true → Sat W0 X n (sem E H) a W θ → ∃ θ', Sat W0 X n (sem (rnE r E) (rnH r H)) a W θ' ∧ ∀ i, hasK (r.map fun x => (x.2, x.1)) i = false → θ' i = θ i
  | [], E, H, θ, _, hs => ⟨θ, hs, fun _ _ => rfl⟩
  | (o, o') :: r, E, H, θ, h, hs => by
    simp only [okN, Bool.and_eq_true, Bool.not_eq_true'] at h
    obtain ⟨θ', h1, h2⟩ := rn_sat h.2 (ren_sat (hasK_none h.1) hs)
    refine ⟨θ', h1, fun i hi => ?_⟩
    have hne : Nat.beq i o' = false ∧ hasK (r.map fun x => (x.2, x.1)) i = false := by
      simp only [hasK, List.map_cons, look] at hi ⊢
      cases e : Nat.beq i o' with
      | true => rw [e] at hi; cases hi
      | false => rw [e] at hi; exact ⟨rfl, hi⟩
    rw [h2 i hne.2]
    unfold rnθ
    rw [if_neg fun e => by rw [e] at hne; simp at hne]
noncomputable def nxW (tb : Nat → Option TI) (n : Nat) (r : List (Nat × Nat)) (rs : List ResultVar) (s : St) : Option (AV × Hpl) := match runN tb n 1000 s with
  | .j _ (.c .ret :: _) E H => match retV tb (sem (rnE r E) (rnH r H)) rs with
    | some v => some (v, H)
    | none => none
  | .j _ [] E H => match retV tb (sem (rnE r E) (rnH r H)) rs with
    | some v => some (v, H)
    | none => none
  | _ => none
theorem exit_okW {fn : Func} {H0 H' : Hpl} {Post : AV → Hpl → Prop} (hX : c.X = Xof c.θ0 H0) {E : Env} {H : Hpl} {r : List (Nat × Nat)} {v v' : AV} (hr : retV c.tb (sem (rnE r E) (rnH r H)) fn.results.toList = some v) (hf : FitR (look (rnH r H)) H' v v') (hq : Post v' H')
    (hH : subL (rnH r H) H') (hk : (okN r H && okH H0 H' && (H0.all fun x => Nat.ble 1000000 x.1 && !hasK (r.map fun x => (x.2, x.1)) x.1) && H'.all fun x => idsInO H' x.2) = true) {a : Act} {w : World} (h : c.Nx (fun s' => s' = sem E H) a w) :
    a.defers = [] ∧ ∃ u, (results fn a.tmps).run c.P w = .ok u w ∧ RetW c.W0 c.θ0 H0 Post (.returned u) w := by
  obtain ⟨s', W, θ, rfl, hs, hθ, rfl⟩ := h
  simp only [Bool.and_eq_true] at hk
  obtain ⟨⟨⟨k1, k2⟩, k3⟩, k4⟩ := hk
  obtain ⟨θ', hs', hθ'⟩ := rn_sat k1 hs
  obtain ⟨u, hu, hv⟩ := retV_run c.hT hs' hr
  have hfm := hs'.fm
  have hobs := hs'.obs
  refine ⟨hs'.rel.defers, u, hu, ?_⟩
  have hsub : ∀ {o x}, look H' o = some x → look (rnH r H) o = some x := fun h => subL_get hH h
  let W' : GW := ⟨W.w, fun b i => W.A b i ∧ ((b < c.W0.size ∧ ¬ c.X b) ∨ ∃ o x, look H' o = some x ∧ x.live = true ∧ (θ' o).1 = some b), fun b i h => W.hA b i h.1⟩
  have hle : LeF W W' := fun b i x hx => ⟨hx.1, fun hA => hx.2 hA.1⟩
  have E : Exi W W' (fun b => c.W0.size ≤ b ∨ c.X b) θ' (look (rnH r H)) H' := ⟨hobs, hle, fun o x b ho hl hb hk i y hy => ⟨hy, fun hA => by
    rcases hA.2 with ⟨h1, h2⟩ | ⟨o2, x2, h1, h2, h3⟩
    · exact (hobs.new o x b ho hl hb).elim (fun h => absurd h1 (Nat.not_lt.2 h)) h2
    · have := hobs.dis o o2 x x2 b ho (hsub h1) hl h2 hb h3
      subst this
      rw [hasK_none hk] at h1; cases h1⟩⟩
  obtain ⟨f1, f2⟩ := fit_R E hf hv
  refine ⟨W', θ', v', u, H', rfl, rfl, ?_, ?_, f1, f2, fun i y hi => ?_, k2, hq⟩
  · rw [← hX]
    exact ⟨hfm.os, hfm.out, hfm.tape, hfm.size, hfm.same, fun b hb hx i => ⟨fun h => (hfm.A b hb hx i).1 h.1, fun h => ⟨(hfm.A b hb hx i).2 h, .inl ⟨hb, hx⟩⟩⟩, hfm.le.trans hle⟩
  · rw [← hX]
    refine ⟨fun o x hx => (hobs.r o x (hsub hx)).keep hle rfl (fun _ _ => rfl) fun hl b hb => ⟨rfl, fun i hA => ⟨hA, .inr ⟨o, x, hx, hl, hb⟩⟩⟩, fun o x b hx => hobs.new o x b (hsub hx), fun o o' x x' b hx hx' => hobs.dis o o' x x' b (hsub hx) (hsub hx'), fun o x i hx hi => ?_⟩
    have := List.all_eq_true.1 k4 _ (look_mem hx)
    cases x with
    | var a => exact idsIn_ok (a := a) this i hi
    | _ => exact hi.elim
  · have := List.all_eq_true.1 k3 _ (look_mem hi)
    simp only [Bool.and_eq_true, Bool.not_eq_true'] at this
    rw [hθ' i this.2]
    exact hθ i (Nat.le_of_ble_eq_true this.1)
/-- the end, with objects: r names them, H' are those that come back -/
theorem Rw {fn : Func} {H0 : Hpl} {Post : AV → Hpl → Prop} [w : WkW c fn H0 Post] (r : List (Nat × Nat)) (H' : Hpl) {v v' : AV} {H : Hpl} (h : nxW c.tb c.n r fn.results.toList s = some (v, H)) (hf : FitR (look (rnH r H)) H' v v') (hq : Post v' H')
    (hH : subL (rnH r H) H' := by exact rfl) (hk : (okN r H && okH H0 H' && (H0.all fun x => Nat.ble 1000000 x.1 && !hasK (r.map fun x => (x.2, x.1)) x.1) && H'.all fun x => idsInO H' x.2) = true := by exact rfl) : StP c s := by
  unfold nxW at h
  split at h <;> try cases h
  · rename_i hr
    split at h <;> cases h
    rename_i hv
    exact go 1000 hr (J.ret fun a w' h => by rw [w.f]; exact exit_okW w.x hv hf hq hH hk h)
  · rename_i hr
    split at h <;> cases h
    rename_i hv
    exact go 1000 hr (fun a w' h => by show c.fin .normal a w'; rw [w.f]; exact exit_okW w.x hv hf hq hH hk h)
end
/-! objects named by a function -/
def AV.rnf (ρ : Nat → Nat) : AV → AV
  | .st a => .st (a.rnf ρ)
  | .pr a c => .pr (a.rnf ρ) (c.rnf ρ)
  | .tup a => .tup (a.rnf ρ)
  | .ptr i f => .ptr (ρ i) f
  | .own i sz l n => .own (ρ i) sz l n
  | .ow3 i sz l n => .ow3 (ρ i) sz l n
  | .gr i sz xs => .gr (ρ i) sz xs
  | .el i sz j f => .el (ρ i) sz j f
  | .fn f i => .fn f (ρ i)
  | a => a
def Ob.rnf (ρ : Nat → Nat) : Ob → Ob
  | .var a => .var (a.rnf ρ)
  | x => x
def rnL : List (Nat × Nat) → Nat → Nat
  | [], i => i
  | (o, o') :: r, i => match Nat.beq i o with
    | true => o'
    | false => rnL r i
def rfH (ρ : Nat → Nat) (H : Hpl) : Hpl := H.map fun x => (ρ x.1, x.2.rnf ρ)
theorem rnf_C {W : GW} {θ : Loc} {ρ : Nat → Nat} : ∀ {a : AV} {cs : List Value}, AV.C W θ (a.rnf ρ) cs ↔ AV.C W (fun i => θ (ρ i)) a cs := by
  intro a
  induction a with
  | st a ih => exact ih
  | pr a c iha ihc => intro cs; simp only [AV.rnf, AV.C, iha, ihc]
  | _ => intro cs; exact Iff.rfl
theorem rnf_ag {ρ : Nat → Nat} (a : AV) : (a.rnf ρ).ag = a.ag := by cases a <;> rfl
theorem rnf_V1 {W : GW} {θ : Loc} {ρ : Nat → Nat} {a : AV} {v : Value} : AV.V1 W θ (a.rnf ρ) v ↔ AV.V1 W (fun i => θ (ρ i)) a v := by
  unfold AV.V1; simp only [rnf_C, rnf_ag]
theorem rnf_T {W : GW} {θ : Loc} {ρ : Nat → Nat} : ∀ {a : AV} {vs : List Value}, AV.T W θ (a.rnf ρ) vs ↔ AV.T W (fun i => θ (ρ i)) a vs := by
  intro a
  induction a with
  | pr a c _ ih =>
    intro vs
    match vs with
    | v :: vs => simp only [AV.rnf, AV.T, rnf_V1, ih]
    | [] => exact Iff.rfl
  | un =>
    intro vs
    match vs with
    | [] => exact Iff.rfl
    | [v] => exact ⟨fun ⟨_, h, _⟩ => h.elim, fun ⟨_, h, _⟩ => h.elim⟩
    | _ :: _ :: _ => exact Iff.rfl
  | _ =>
    intro vs
    match vs with
    | [] => exact Iff.rfl
    | [v] => exact rnf_V1
    | _ :: _ :: _ => exact Iff.rfl
theorem rnf_V {W : GW} {θ : Loc} {ρ : Nat → Nat} {a : AV} {v : Value} : AV.V W θ (a.rnf ρ) v ↔ AV.V W (fun i => θ (ρ i)) a v := by
  cases a with
  | tup a => simp only [AV.rnf, AV.V, rnf_T]
  | un => exact Iff.rfl
  | _ => exact rnf_V1
theorem rnf_ids {ρ : Nat → Nat} {i : Nat} : ∀ {a : AV}, (a.rnf ρ).ids i ↔ ∃ j, a.ids j ∧ i = ρ j := by
  intro a
  induction a with
  | st a ih => exact ih
  | tup a ih => exact ih
  | pr a c iha ihc =>
    simp only [AV.rnf, AV.ids, iha, ihc]
    exact ⟨fun h => h.elim (fun ⟨j, h1, h2⟩ => ⟨j, .inl h1, h2⟩) fun ⟨j, h1, h2⟩ => ⟨j, .inr h1, h2⟩, fun ⟨j, h1, h2⟩ => h1.elim (fun h => .inl ⟨j, h, h2⟩) fun h => .inr ⟨j, h, h2⟩⟩
  | ptr o f => exact ⟨fun h => ⟨o, rfl, h⟩, fun ⟨j, h1, h2⟩ => by rw [show j = o from h1] at h2; exact h2⟩
  | own o _ _ _ => exact ⟨fun h => ⟨o, rfl, h⟩, fun ⟨j, h1, h2⟩ => by rw [show j = o from h1] at h2; exact h2⟩
  | ow3 o _ _ _ => exact ⟨fun h => ⟨o, rfl, h⟩, fun ⟨j, h1, h2⟩ => by rw [show j = o from h1] at h2; exact h2⟩
  | gr o _ _ => exact ⟨fun h => ⟨o, rfl, h⟩, fun ⟨j, h1, h2⟩ => by rw [show j = o from h1] at h2; exact h2⟩
  | el o _ _ _ => exact ⟨fun h => ⟨o, rfl, h⟩, fun ⟨j, h1, h2⟩ => by rw [show j = o from h1] at h2; exact h2⟩
  | fn _ o => exact ⟨fun h => ⟨o, rfl, h⟩, fun ⟨j, h1, h2⟩ => by rw [show j = o from h1] at h2; exact h2⟩
  | _ => exact ⟨fun h => h.elim, fun ⟨j, h, _⟩ => h.elim⟩
theorem rnf_R {W : GW} {θ : Loc} {ρ : Nat → Nat} {o : Nat} {x : Ob} : (x.rnf ρ).R W θ (ρ o) ↔ x.R W (fun i => θ (ρ i)) o := by
  cases x with
  | var a => simp only [Ob.rnf, Ob.R, rnf_C]
  | _ => exact Iff.rfl
theorem rnf_live {ρ : Nat → Nat} (x : Ob) : (x.rnf ρ).live = x.live := by cases x <;> rfl
theorem look_rfH {ρ : Nat → Nat} : ∀ {H : Hpl} {j : Nat} {x : Ob}, (∀ a b, hasK H a = true → hasK H b = true → ρ a = ρ b → a = b) → look (rfH ρ H) j = some x → ∃ i y, look H i = some y ∧ j = ρ i ∧ x = y.rnf ρ
  | [], _, _, _, h => by simp [rfH, look] at h
  | (s, w) :: H, j, x, hi, h => by
    simp only [rfH, List.map_cons, look] at h
    split at h
    · rename_i hb
      injection h with h
      exact ⟨s, w, by simp [look], Nat.eq_of_beq_eq_true hb, h.symm⟩
    · rename_i hb
      have hsub : ∀ a, hasK H a = true → hasK ((s, w) :: H) a = true := fun a ha => by
        simp only [hasK, look] at ha ⊢
        cases Nat.beq a s <;> first | exact ha | rfl
      obtain ⟨i, y, h1, h2, h3⟩ := look_rfH (fun a b ha hb => hi a b (hsub a ha) (hsub b hb)) h
      refine ⟨i, y, ?_, h2, h3⟩
      have : i ≠ s := fun e => by subst e; rw [h2] at hb; simp at hb
      simp only [look, nbeq this]; exact h1
theorem look_rfH_of {ρ : Nat → Nat} : ∀ {H : Hpl} {i : Nat} {y : Ob}, look H i = some y → ∃ x, look (rfH ρ H) (ρ i) = some x
  | [], _, _, h => by simp [look] at h
  | (s, w) :: H, i, y, h => by
    simp only [rfH, List.map_cons, look]
    by_cases e : i = s
    · subst e; exact ⟨w.rnf ρ, by simp⟩
    · simp only [look, nbeq e] at h
      obtain ⟨x, hx⟩ := look_rfH_of h
      split
      · exact ⟨_, rfl⟩
      · exact ⟨x, hx⟩
theorem upds_look {g : Hp} : ∀ {l : List (Nat × Ob)} {o : Nat}, upds g l o = match look l o with | some x => some x | none => g o
  | [], _ => rfl
  | (o', x) :: l, o => by
    simp only [upds, upd, look]
    cases Nat.beq o o' with
    | true => rfl
    | false => exact upds_look
theorem rnf_ArgL {W : GW} {θ : Loc} {ρ : Nat → Nat} : ∀ {args : List AV} {vs : List Value}, ArgL W θ (args.map (AV.rnf ρ)) vs → ArgL W (fun i => θ (ρ i)) args vs
  | [], [], _ => trivial
  | [], _ :: _, h => h.elim
  | _ :: _, [], h => h.elim
  | _ :: _, _ :: _, h => ⟨rnf_V.1 h.1, rnf_ArgL h.2⟩
/-- A CONTRACT with objects AT A CALL: r gives the objects handed in their names, d that of the new one -/
theorem CW.cs {P : Program} {f : FuncId} {args : List AV} {H0 : Hpl} {Post : AV → Hpl → Prop} (h : CW P f args H0 Post) (r : List (Nat × Nat)) (d : Nat) {g : Hp} (hd : d < 1000000) (hgd : g d = none) (hH : ∀ o x, look H0 o = some x → g (rnL r o) = some (x.rnf (rnL r))) (h0 : hasK H0 1000000 = false)
    (hinj : ∀ a b, hasK H0 a = true → hasK H0 b = true → rnL r a = rnL r b → a = b) (hids : ∀ a ∈ args, idsIn H0 a = true) (hcl : (H0.all fun x => idsInO H0 x.2) = true) :
    CS P f (args.map (AV.rnf (rnL r))) g fun v g' => ∃ v0 H', okH H0 H' = true ∧ Post v0 H' ∧ v = v0.rnf (rnL ((1000000, d) :: r)) ∧ g' = upds g (rfH (rnL ((1000000, d) :: r)) H') := by
  refine ⟨h.1, fun N W θ vs hO hN _ ha => ?_⟩
  have hl : ∀ {o x}, look H0 o = some x → g (rnL r o) = some (x.rnf (rnL r)) := fun h => hH _ _ h
  have hO0 : Obs W (fun i => θ (rnL r i)) (fun _ => True) (look H0) := by
    refine ⟨fun o x hx => rnf_R.1 (hO.r _ _ (hl hx)), fun _ _ _ _ _ _ => trivial, fun o o' x x' b hx hx' k k' b1 b2 => ?_, fun o x i hx hi => ?_⟩
    · exact hinj o o' (hasK_iff.2 ⟨x, hx⟩) (hasK_iff.2 ⟨x', hx'⟩) (hO.dis _ _ _ _ b (hl hx) (hl hx') (by rw [rnf_live]; exact k) (by rw [rnf_live]; exact k') b1 b2)
    · have := List.all_eq_true.1 hcl _ (look_mem hx)
      cases x with
      | var a => exact idsIn_ok (a := a) this i hi
      | _ => exact hi.elim
  have ha0 : ArgL W (fun i => θ (rnL r i)) args vs := rnf_ArgL ha
  refine (h.2 W _ vs hO0 ha0).mono ?_
  rintro e w' ⟨W', θ', v, u, H', rfl, rfl, hf, hob, hv, hvi, hθ, hok, hp⟩
  have hok' := hok
  simp only [okH, Bool.and_eq_true] at hok
  obtain ⟨ok1, ok2⟩ := hok
  have hX : ∀ b, Xof (fun i => θ (rnL r i)) H0 b → b < W.size ∧ N b ∧ ∃ o x y, look H0 o = some y ∧ g (rnL r o) = some x ∧ x.live = true ∧ (θ (rnL r o)).1 = some b := by
    rintro b ⟨o, x, h1, h2, h3⟩
    have hlv : (x.rnf (rnL r)).live = true := by rw [rnf_live]; exact h2
    exact ⟨hO.lt (hl h1) hlv h3, hO.new _ _ b (hl h1) hlv h3, o, _, x, h1, hl h1, hlv, h3⟩
  have hnd : ∀ {i}, hasK H0 i = true → rnL ((1000000, d) :: r) i = rnL r i := by
    intro i hi
    have : i ≠ 1000000 := fun e => by rw [e, h0] at hi; cases hi
    simp only [rnL, nbeq this]
  have hdn : rnL ((1000000, d) :: r) 1000000 = d := by simp [rnL]
  have hcase : ∀ {i}, hasK H' i = true → hasK H0 i = true ∨ i = 1000000 := by
    intro i hi
    obtain ⟨y, hy⟩ := hasK_iff.1 hi
    have := List.all_eq_true.1 ok2 _ (look_mem hy)
    rw [Bool.or_eq_true] at this
    exact this.imp id Nat.eq_of_beq_eq_true
  have hgo : ∀ {i}, hasK H0 i = true → ∃ x, g (rnL r i) = some x := fun hi => by obtain ⟨y, hy⟩ := hasK_iff.1 hi; exact ⟨_, hl hy⟩
  have hne : ∀ {i}, hasK H0 i = true → rnL r i ≠ d := fun hi e => by obtain ⟨x, hx⟩ := hgo hi; rw [e, hgd] at hx; cases hx
  have hinj' : ∀ a b, hasK H' a = true → hasK H' b = true → rnL ((1000000, d) :: r) a = rnL ((1000000, d) :: r) b → a = b := by
    intro a b ha hb hab
    rcases hcase ha with h1 | h1 <;> rcases hcase hb with h2 | h2
    · rw [hnd h1, hnd h2] at hab; exact hinj a b h1 h2 hab
    · rw [hnd h1, h2, hdn] at hab; exact absurd hab (hne h1)
    · rw [hnd h2, h1, hdn] at hab; exact absurd hab.symm (hne h2)
    · rw [h1, h2]
  let θ2 : Loc := fun i => if i = d then θ' 1000000 else θ i
  have hθ2 : ∀ {i}, hasK H' i = true → θ2 (rnL ((1000000, d) :: r) i) = θ' i := by
    intro i hi
    rcases hcase hi with h1 | h1
    · rw [hnd h1]
      obtain ⟨y, hy⟩ := hasK_iff.1 h1
      show (if _ then _ else _) = _
      rw [if_neg (hne h1)]
      exact (hθ i y hy).symm
    · rw [h1, hdn]; exact if_pos rfl
  have hold : ∀ {o x}, g o = some x → θ2 o = θ o := fun ho => if_neg fun e => by rw [e, hgd] at ho; cases ho
  have hR' : ∀ {i y}, look H' i = some y → (y.rnf (rnL ((1000000, d) :: r))).R W' θ2 (rnL ((1000000, d) :: r) i) := by
    intro i y hy
    refine rnf_R.2 ((hob.r i y hy).keep (LeF.refl W') (hθ2 (hasK_iff.2 ⟨y, hy⟩)) (fun j hj => ?_) fun _ _ _ => ⟨rfl, fun _ h => h⟩)
    obtain ⟨z, hz⟩ := hob.ids i y j hy hj
    exact hθ2 (hasK_iff.2 ⟨z, hz⟩)
  have hrest : ∀ {o x}, upds g (rfH (rnL ((1000000, d) :: r)) H') o = some x → (∃ i y, look H' i = some y ∧ o = rnL ((1000000, d) :: r) i ∧ x = y.rnf (rnL ((1000000, d) :: r))) ∨
      (g o = some x ∧ ∀ b, x.live = true → (θ o).1 = some b → b < W.size ∧ ¬ Xof (fun i => θ (rnL r i)) H0 b) := by
    intro o x hx
    rw [upds_look] at hx
    split at hx
    · rename_i y hy
      injection hx with hx; subst hx
      exact .inl (look_rfH hinj' hy)
    · rename_i hn
      refine .inr ⟨hx, fun b hlv hb => ⟨hO.lt hx hlv hb, fun hXb => ?_⟩⟩
      obtain ⟨_, _, o1, x1, y1, h1, h2, h3, h4⟩ := hX b hXb
      have := hO.dis o _ x x1 b hx h2 hlv h3 hb h4
      have hk : hasK H' o1 = true := by
        have := List.all_eq_true.1 ok1 _ (look_mem h1); exact this
      obtain ⟨z, hz⟩ := hasK_iff.1 hk
      obtain ⟨q, hq⟩ := look_rfH_of (ρ := rnL ((1000000, d) :: r)) hz
      rw [hnd (hasK_iff.2 ⟨_, h1⟩), ← this, hn] at hq
      cases hq
  have hblk : ∀ {i y b}, look H' i = some y → y.live = true → (θ2 (rnL ((1000000, d) :: r) i)).1 = some b → (W.size ≤ b ∨ Xof (fun i => θ (rnL r i)) H0 b) := by
    intro i y b hy hlv hb
    rw [hθ2 (hasK_iff.2 ⟨y, hy⟩)] at hb
    exact hob.new i y b hy hlv hb
  refine ⟨W', θ2, v.rnf (rnL ((1000000, d) :: r)), u, _, rfl, rfl, ?_, ?_, fun i hi => ?_, v, H', hok', hp, rfl, rfl⟩
  · exact {
      os := hf.os, out := hf.out, tape := hf.tape, size := hf.size
      same := fun b hb hN => hf.same b hb fun hx => hN (hX b hx).2.1
      A := fun b hb hN => hf.A b hb fun hx => hN (hX b hx).2.1
      le := hf.le
      th := fun i y hy => hold hy
      hi := fun i hi => if_neg (by omega)
      obs := {
        r := fun o x hx => by
          rcases hrest hx with ⟨i, y, hy, rfl, rfl⟩ | ⟨ho, hb⟩
          · exact hR' hy
          · refine (hO.r o x ho).keep hf.le (hold ho) (fun i hi => ?_) fun hlv b h1 => ?_
            · obtain ⟨z, hz⟩ := hO.ids o x i ho hi
              exact hold hz
            · obtain ⟨b1, b2⟩ := hb b hlv h1
              exact ⟨hf.same b b1 b2, fun i hA => (hf.A b b1 b2 i).2 hA⟩
        new := fun o x b hx hlv hb => by
          rcases hrest hx with ⟨i, y, hy, rfl, rfl⟩ | ⟨ho, _⟩
          · exact (hblk hy (by rw [rnf_live] at hlv; exact hlv) hb).elim (hN b) fun h => (hX b h).2.1
          · rw [hold ho] at hb; exact hO.new o x b ho hlv hb
        dis := fun o o' x x' b hx hx' hlv hlv' hb hb' => by
          rcases hrest hx with ⟨i, y, hy, rfl, rfl⟩ | ⟨ho, h1⟩ <;> rcases hrest hx' with ⟨i', y', hy', rfl, rfl⟩ | ⟨ho', h1'⟩
          · rw [rnf_live] at hlv hlv'
            rw [hθ2 (hasK_iff.2 ⟨y, hy⟩)] at hb
            rw [hθ2 (hasK_iff.2 ⟨y', hy'⟩)] at hb'
            rw [hob.dis i i' y y' b hy hy' hlv hlv' hb hb']
          · rw [rnf_live] at hlv
            rw [hold ho'] at hb'
            obtain ⟨b1, b2⟩ := h1' b hlv' hb'
            exact ((hblk hy hlv hb).elim (fun h => absurd b1 (Nat.not_lt.2 h)) b2).elim
          · rw [rnf_live] at hlv'
            rw [hold ho] at hb
            obtain ⟨b1, b2⟩ := h1 b hlv hb
            exact ((hblk hy' hlv' hb').elim (fun h => absurd b1 (Nat.not_lt.2 h)) b2).elim
          · rw [hold ho] at hb; rw [hold ho'] at hb'
            exact hO.dis o o' x x' b ho ho' hlv hlv' hb hb'
        ids := fun o x i hx hi => by
          have fin : ∀ {j}, hasK H' j = true → ∃ z, upds g (rfH (rnL ((1000000, d) :: r)) H') (rnL ((1000000, d) :: r) j) = some z := fun hj => by
            obtain ⟨z, hz⟩ := hasK_iff.1 hj
            obtain ⟨q, hq⟩ := look_rfH_of (ρ := rnL ((1000000, d) :: r)) hz
            rw [upds_look, hq]; exact ⟨q, rfl⟩
          rcases hrest hx with ⟨i', y, hy, rfl, rfl⟩ | ⟨ho, _⟩
          · cases y with
            | var a =>
              obtain ⟨j, h1, rfl⟩ := rnf_ids.1 hi
              obtain ⟨z, hz⟩ := hob.ids i' _ j hy h1
              exact fin (hasK_iff.2 ⟨z, hz⟩)
            | _ => exact hi.elim
          · obtain ⟨z, hz⟩ := hO.ids o x i ho hi
            rw [upds_look]
            split
            · exact ⟨_, rfl⟩
            · exact ⟨z, hz⟩ }
      dom := fun i y hy => by
        rw [upds_look]
        split
        · exact ⟨_, rfl⟩
        · exact ⟨y, hy⟩ }
  · refine rnf_V.2 (hv.mono (LeF.refl W') fun i hi => ?_)
    obtain ⟨z, hz⟩ := hvi i hi
    exact hθ2 (hasK_iff.2 ⟨z, hz⟩)
  · obtain ⟨j, h1, rfl⟩ := rnf_ids.1 hi
    obtain ⟨z, hz⟩ := hvi j h1
    obtain ⟨q, hq⟩ := look_rfH_of (ρ := rnL ((1000000, d) :: r)) hz
    rw [upds_look, hq]; exact ⟨q, rfl⟩
end
section
noncomputable def nxK (tb : Nat → Option TI) (n : Nat) (s : St) : Option (Pl × FuncId × List AV) := match nxO tb n s with
  | some (p, o) => match o.op with
    | .call ⟨.value x, as, tys⟩ => match callee (look p.E) x, getEs (look p.E) as.toList with
      | some (f, ex), some vs => some (p, f, nrmA tb tys.toList vs ++ ex)
      | _, _ => none
    | _ => none
  | none => none
def injB (ρ : Nat → Nat) (H : Hpl) : Bool := H.all fun x => H.all fun y => Nat.beq x.1 y.1 || !Nat.beq (ρ x.1) (ρ y.1)
/-- what is seen of a call with objects by computing -/
def chkC (args : List AV) (H0 : Hpl) (r : List (Nat × Nat)) (d : Nat) (H : Hpl) : Bool := Nat.blt d 1000000 && !hasK H d && !hasK H0 1000000 && injB (rnL r) H0 && (args.all (idsIn H0)) && H0.all fun x => idsInO H0 x.2
theorem mem_hasK {α : Type _} : ∀ {H : List (Nat × α)} {o : Nat} {x : α}, (o, x) ∈ H → hasK H o = true
  | [], _, _, h => by cases h
  | (s, w) :: H, o, x, h => by
    simp only [hasK, look]
    cases e : Nat.beq o s with
    | true => rfl
    | false =>
      rcases List.mem_cons.1 h with h | h
      · injection h with h1; subst h1; simp at e
      · exact mem_hasK h
section
variable {c : Cx} {s : St} {p : Pl}
theorem nxK_ok {f : FuncId} {as : List AV} {R : S → Prop} (h : nxK c.tb c.n s = some (p, f, as)) (hR : R = WL c.P c.tb p.dr p.L (J c p.K) p.l)
    (k : ∃ o : Oper, p.d = o.dst ∧ match p.dr with
      | true => ∃ nw H0 Q, Cd c.P f as o (look p.H) nw H0 Q ∧ ∀ r, Nu nw o r.2 → Q r → R (aft (sem p.E p.H) o r)
      | false => ∃ Post, CS c.P f as (look p.H) Post ∧ ∀ v g', Post v g' → R (S.put ((sem p.E p.H).1, g') o.dst v)) : StP c s := by
  subst hR
  unfold nxK at h
  split at h <;> try cases h
  rename_i p' o ho
  obtain ⟨hw, hd⟩ := nxO_w ho
  split at h <;> try cases h
  rename_i x as' tys he
  split at h <;> cases h
  rename_i ex vs hvs hf
  obtain ⟨o', ho', k⟩ := k
  refine nxO_ok ho (.inl ⟨hw, ?_⟩)
  unfold Wb
  rw [he]
  refine ⟨_, _, _, hf, hvs, ?_⟩
  rw [hd] at ho'
  have e1 : ∀ r, aft (sem p.E p.H) o' r = aft (sem p.E p.H) o r := fun r => by unfold aft; rw [ho']
  have e2 : ∀ nw us, Nu nw o us ↔ Nu nw o' us := fun nw us => by unfold Nu; rw [ho']
  cases hdr : p.dr with
  | true =>
    rw [hdr] at k
    obtain ⟨nw, H0, Q, ⟨k1, k2, k3⟩, k4⟩ := k
    refine ⟨nw, H0, Q, ⟨by rw [ho']; exact k1, k2, by rw [ho']; intro g a b; simp only [e2]; exact k3 g a b⟩, fun r hr hq => by rw [← e1]; exact k4 r ((e2 _ _).1 hr) hq⟩
  | false =>
    rw [hdr] at k
    obtain ⟨Post, k1, k2⟩ := k
    exact ⟨_, Post, .inl rfl, k1, fun v g' hv => by rw [ho']; exact k2 v g' hv⟩
theorem chkC_cs {f : FuncId} {args : List AV} {H0 : Hpl} {Post : AV → Hpl → Prop} {r : List (Nat × Nat)} {d : Nat} {H : Hpl} (hc : CW c.P f args H0 Post) (hk : chkC args H0 r d H = true) {g : Hp} (hgd : g d = none) (hH : ∀ o x, look H0 o = some x → g (rnL r o) = some (x.rnf (rnL r))) :
    CS c.P f (args.map (AV.rnf (rnL r))) g fun v g' => ∃ v0 H', okH H0 H' = true ∧ Post v0 H' ∧ v = v0.rnf (rnL ((1000000, d) :: r)) ∧ g' = upds g (rfH (rnL ((1000000, d) :: r)) H') := by
  simp only [chkC, Bool.and_eq_true, Bool.not_eq_true'] at hk
  obtain ⟨⟨⟨⟨⟨k1, k2⟩, k3⟩, k4⟩, k5⟩, k6⟩ := hk
  refine hc.cs r d (nltb k1) hgd hH k3 (fun a b ha hb hab => ?_) (fun a ha => List.all_eq_true.1 k5 a ha) k6
  obtain ⟨x, hx⟩ := hasK_iff.1 ha
  obtain ⟨y, hy⟩ := hasK_iff.1 hb
  have := List.all_eq_true.1 (List.all_eq_true.1 k4 _ (look_mem hx)) _ (look_mem hy)
  simp only [Bool.or_eq_true, Bool.not_eq_true'] at this
  rcases this with h | h
  · exact Nat.eq_of_beq_eq_true h
  · rw [hab] at h; simp at h
theorem rfH_get {H H0 : Hpl} {ρ : Nat → Nat} (hH : subL H (rfH ρ H0)) {o : Nat} {x : Ob} (h : look H0 o = some x) : look H (ρ o) = some (x.rnf ρ) := by
  have hm : (ρ o, x.rnf ρ) ∈ rfH ρ H0 := List.mem_map.2 ⟨_, look_mem h, rfl⟩
  exact List.map_inj_left.1 hH _ hm
/-- a call with objects -/
theorem Cw {f : FuncId} {as args : List AV} {H0 : Hpl} {Post : AV → Hpl → Prop} (r : List (Nat × Nat)) (h : nxK c.tb c.n s = some (p, f, as)) (hc : CW c.P f args H0 Post) (k : ∀ v H', okH H0 H' = true → Post v H' → p.nx' c (v.rnf (rnL ((1000000, p.d.getD 0) :: r))) (rfH (rnL ((1000000, p.d.getD 0) :: r)) H'))
    (hr : as = args.map (AV.rnf (rnL r)) := by exact rfl) (hH : subL p.H (rfH (rnL r) H0) := by exact rfl) (hk : (chkC args H0 r (p.d.getD 0) p.H && !p.dr) = true := by exact rfl) : StP c s := by
  rw [Bool.and_eq_true, Bool.not_eq_true'] at hk
  obtain ⟨hk, hdr⟩ := hk
  have hk' := hk
  simp only [chkC, Bool.and_eq_true, Bool.not_eq_true'] at hk'
  refine nxK_ok h rfl ⟨⟨p.d, .move (.tmp 0), 0, "", #[], none⟩, rfl, ?_⟩
  rw [hdr, hr]
  refine ⟨_, chkC_cs hc hk (hasK_none hk'.1.1.1.1.2) (fun o x hx => rfH_get hH hx), ?_⟩
  rintro v g' ⟨v0, H', h1, h2, rfl, rfl⟩
  have := Pl.nx'_eq.1 (k v0 H' h1 h2)
  have : WL c.P c.tb p.dr p.L (J c p.K) p.l (sem (putE p.E p.d _) (_ ++ p.H)) := this
  rw [← sem_put, hdr] at this
  exact this
theorem upds_same {g : Hp} : ∀ {l : List (Nat × Ob)}, (∀ o x, (o, x) ∈ l → g o = some x) → upds g l = g
  | [], _ => rfl
  | (o, x) :: l, h => by
    rw [upds, upds_same fun o x hm => h o x (List.mem_cons_of_mem _ hm)]
    funext t
    by_cases e : t = o
    · subst e; rw [upd_self, h t x (List.mem_cons_self ..)]
    · rw [upd_ne e]
/-- .. that changes none of them -/
def CN (P : Program) (f : FuncId) (args : List AV) (H0 : Hpl) (Q : AV → Prop) : Prop := CW P f args H0 fun v H' => H' = H0 ∧ Q v
theorem rfH_con {H0 : Hpl} {r : List (Nat × Nat)} {d : Nat} (h0 : hasK H0 1000000 = false) (hcl : (H0.all fun x => idsInO H0 x.2) = true) : ∀ o x, look H0 o = some x → (rnL ((1000000, d) :: r) o, x.rnf (rnL ((1000000, d) :: r))) = (rnL r o, x.rnf (rnL r)) := by
  have hne : ∀ i, hasK H0 i = true → rnL ((1000000, d) :: r) i = rnL r i := fun i hi => by
    have : i ≠ 1000000 := fun e => by rw [e, h0] at hi; cases hi
    simp only [rnL, nbeq this]
  have hv : ∀ {a : AV}, idsIn H0 a = true → a.rnf (rnL ((1000000, d) :: r)) = a.rnf (rnL r) := by
    intro a
    induction a with
    | st a ih => intro h; simp only [AV.rnf]; rw [ih h]
    | tup a ih => intro h; simp only [AV.rnf]; rw [ih h]
    | pr a c iha ihc => intro h; simp only [idsIn, Bool.and_eq_true] at h; simp only [AV.rnf]; rw [iha h.1, ihc h.2]
    | _ => intro h; first | rfl | (simp only [AV.rnf]; rw [hne _ h])
  intro o x hx
  rw [hne o (hasK_iff.2 ⟨x, hx⟩)]
  have := List.all_eq_true.1 hcl _ (look_mem hx)
  cases x with
  | var a => simp only [Ob.rnf]; rw [hv this]
  | _ => rfl
theorem Cn {f : FuncId} {as args : List AV} {H0 : Hpl} {Q : AV → Prop} (r : List (Nat × Nat)) (h : nxK c.tb c.n s = some (p, f, as)) (hc : CN c.P f args H0 Q) (k : ∀ v, Q v → p.nx c (v.rnf (rnL ((1000000, p.d.getD 0) :: r))))
    (hr : as = args.map (AV.rnf (rnL r)) := by exact rfl) (hH : subL p.H (rfH (rnL r) H0) := by exact rfl) (hk : (chkC args H0 r (p.d.getD 0) p.H && H0.all fun x => as.any fun a => hasK (match a with | .ptr o _ => [(o, ())] | .own o _ _ _ => [(o, ())] | .gr o _ _ => [(o, ())] | .fn _ o => [(o, ())] | _ => []) (rnL r x.1)) = true := by exact rfl) (hd : (!p.dr || p.d.isSome) = true := by exact rfl) : StP c s := by
  rw [Bool.and_eq_true] at hk
  obtain ⟨hk, hids⟩ := hk
  have hk' := hk
  simp only [chkC, Bool.and_eq_true, Bool.not_eq_true'] at hk'
  obtain ⟨⟨⟨⟨⟨k1, k2⟩, k3⟩, k4⟩, k5⟩, k6⟩ := hk'
  have hsame : ∀ g : Hp, (∀ o x, look H0 o = some x → g (rnL r o) = some (x.rnf (rnL r))) → upds g (rfH (rnL ((1000000, p.d.getD 0) :: r)) H0) = g := fun g hg => upds_same fun o x hm => by
    obtain ⟨⟨i, y⟩, hm1, e⟩ := List.mem_map.1 hm
    injection e with e1 e2
    subst e1; subst e2
    have hy : ∃ z, look H0 i = some z := by
      exact hasK_iff.1 (mem_hasK hm1)
    obtain ⟨z, hz⟩ := hy
    have hm2 := List.map_inj_left.1 hH (rnL r i, y.rnf (rnL r)) (List.mem_map.2 ⟨_, hm1, rfl⟩)
    have hz2 := rfH_get hH hz
    rw [hz2] at hm2
    injection hm2 with hm2
    have h3 := rfH_con (d := p.d.getD 0) (r := r) k3 k6 i z hz
    injection h3 with h3 h4
    show g (rnL _ i) = some (y.rnf _)
    rw [h3, hg i z hz, hm2]
    congr 1
    have hcl : idsInO H0 y = true := List.all_eq_true.1 k6 _ hm1
    have hv : ∀ {a : AV}, idsIn H0 a = true → a.rnf (rnL ((1000000, p.d.getD 0) :: r)) = a.rnf (rnL r) := by
      intro a
      induction a with
      | st a ih => intro h; simp only [AV.rnf]; rw [ih h]
      | tup a ih => intro h; simp only [AV.rnf]; rw [ih h]
      | pr a c iha ihc => intro h; simp only [idsIn, Bool.and_eq_true] at h; simp only [AV.rnf]; rw [iha h.1, ihc h.2]
      | _ =>
        intro h
        first
          | rfl
          | (simp only [AV.rnf]
             congr 1
             obtain ⟨q, hq⟩ := hasK_iff.1 h
             have := rfH_con (d := p.d.getD 0) (r := r) k3 k6 _ q hq
             injection this)
    cases y with
    | var a => simp only [Ob.rnf]; rw [hv hcl]
    | _ => rfl
  refine nxK_ok h rfl ⟨⟨p.d, .move (.tmp 0), 0, "", #[], none⟩, rfl, ?_⟩
  have kk : ∀ v, Q v → WL c.P c.tb p.dr p.L (J c p.K) p.l (S.put (sem p.E p.H) p.d (v.rnf (rnL ((1000000, p.d.getD 0) :: r)))) := fun v hv => by
    have := Pl.nx_eq.1 (k v hv)
    have this : WL c.P c.tb p.dr p.L (J c p.K) p.l (sem (putE p.E p.d _) p.H) := this
    rw [show S.put (sem p.E p.H) p.d _ = sem (putE p.E p.d _) p.H from sem_put p.E p.H [] p.d _]
    exact this
  have hH' : ∀ o x, look H0 o = some x → look p.H (rnL r o) = some (x.rnf (rnL r)) := fun o x hx => rfH_get hH hx
  generalize WL c.P c.tb p.dr p.L (J c p.K) p.l = R at kk ⊢
  rw [hr] at hids ⊢
  cases hdr : p.dr with
  | true =>
    obtain ⟨dd, hdd⟩ := Option.isSome_iff_exists.1 (show p.d.isSome = true by rw [hdr] at hd; exact hd)
    have hD : p.d.getD 0 = dd := by rw [hdd]; rfl
    refine ⟨true, look (rfH (rnL r) H0), fun q => q.2 = [] ∧ ∃ v, Q v ∧ q.1 = v.rnf (rnL ((1000000, p.d.getD 0) :: r)), ⟨fun _ => ⟨dd, hdd, by rw [← hD]; exact hasK_none k2⟩, fun i y hi => ?_, fun g hg hn => ?_⟩, fun q _ ⟨hq, v, h1, h2⟩ => ?_⟩
    · have hm := look_mem hi
      refine ⟨List.map_inj_left.1 hH _ hm, ?_⟩
      obtain ⟨⟨j, z⟩, hm1, e⟩ := List.mem_map.1 hm
      injection e with e1 e2
      have := List.all_eq_true.1 hids _ hm1
      obtain ⟨a, ha, hk⟩ := List.any_eq_true.1 this
      refine ⟨a, ha, ?_⟩
      rw [← e1]
      cases a <;> simp only [hasK, look] at hk <;> first | (cases hk; done) | skip
      all_goals
        show rnL r j = _
        split at hk
        · rename_i hx
          split at hx
          · rename_i hb; exact Nat.eq_of_beq_eq_true hb
          · cases hx
        · cases hk
    · have hg' : ∀ o x, look H0 o = some x → g (rnL r o) = some (x.rnf (rnL r)) := fun o x hx => hg _ _ (by
        obtain ⟨q, hq⟩ := look_rfH_of (ρ := rnL r) hx
        have h1 := List.map_inj_left.1 hH _ (look_mem hq)
        rw [hH' o x hx] at h1
        rw [hq]; exact h1.symm)
      have hgd : g (p.d.getD 0) = none := by rw [hD]; exact hn rfl dd hdd
      obtain ⟨a1, a2⟩ := chkC_cs hc hk hgd hg'
      refine ⟨a1, fun N W θ vs b1 b2 b3 b4 => (a2 N W θ vs b1 b2 b3 b4).mono ?_⟩
      rintro e w' ⟨W', θ', v, u, g', c1, c2, c3, c4, c5, v0, H', d1, ⟨rfl, d2⟩, rfl, rfl⟩
      exact ⟨W', θ', _, u, _, c1, c2, c3, c4, c5, [], .inl rfl, hsame g hg', rfl, v0, d2, rfl⟩
    · unfold aft; rw [hq, h2]; exact kk v h1
  | false =>
    refine ⟨_, chkC_cs hc hk (hasK_none k2) hH', ?_⟩
    rintro v g' ⟨v0, H', h1, ⟨rfl, h2⟩, rfl, rfl⟩
    rw [hsame _ hH']
    exact kk v0 h2
/-- .. that makes a new one out of data -/
def CO (P : Program) (f : FuncId) (args : List AV) (Q : AV → Ob → Prop) : Prop := CW P f args [] fun v H' => ∃ ob, H' = [(1000000, ob)] ∧ Q v ob
theorem Co {f : FuncId} {as : List AV} {Q : AV → Ob → Prop} (h : nxK c.tb c.n s = some (p, f, as)) (hc : CO c.P f as Q) (k : ∀ v ob, Q v ob → p.nx' c (v.rnf (rnL [(1000000, p.d.getD 0)])) [(p.d.getD 0, ob.rnf (rnL [(1000000, p.d.getD 0)]))])
    (hk : (chkC as [] [] (p.d.getD 0) p.H && p.d.isSome) = true := by exact rfl) : StP c s := by
  rw [Bool.and_eq_true] at hk
  obtain ⟨hk, hd⟩ := hk
  have hk' := hk
  simp only [chkC, Bool.and_eq_true, Bool.not_eq_true'] at hk'
  obtain ⟨⟨⟨⟨⟨k1, k2⟩, k3⟩, k4⟩, k5⟩, k6⟩ := hk'
  obtain ⟨dd, hdd⟩ := Option.isSome_iff_exists.1 hd
  have hD : p.d.getD 0 = dd := by rw [hdd]; rfl
  have hid : ∀ {a : AV}, a.rnf (rnL []) = a := by
    intro a
    induction a with
    | st a ih => simp only [AV.rnf, ih]
    | tup a ih => simp only [AV.rnf, ih]
    | pr a c iha ihc => simp only [AV.rnf, iha, ihc]
    | _ => rfl
  have hmap : as.map (AV.rnf (rnL [])) = as := by rw [show AV.rnf (rnL []) = id from funext fun a => hid, List.map_id]
  have hcs : ∀ {g : Hp}, g (p.d.getD 0) = none → CS c.P f as g fun v g' => ∃ v0 ob, Q v0 ob ∧ v = v0.rnf (rnL [(1000000, p.d.getD 0)]) ∧ g' = upds g [(p.d.getD 0, ob.rnf (rnL [(1000000, p.d.getD 0)]))] := by
    intro g hg
    obtain ⟨a1, a2⟩ := chkC_cs hc hk hg (fun o x hx => by simp [look] at hx)
    rw [hmap] at a2
    refine ⟨a1, fun N W θ vs b1 b2 b3 b4 => (a2 N W θ vs b1 b2 b3 b4).mono ?_⟩
    rintro e w' ⟨W', θ', v, u, g', c1, c2, c3, c4, c5, v0, H', d1, ⟨ob, rfl, d2⟩, rfl, rfl⟩
    refine ⟨W', θ', _, u, _, c1, c2, c3, c4, c5, v0, ob, d2, rfl, ?_⟩
    simp [rfH, rnL]
  refine nxK_ok h rfl ⟨⟨p.d, .move (.tmp 0), 0, "", #[], none⟩, rfl, ?_⟩
  have kk : ∀ v ob, Q v ob → WL c.P c.tb p.dr p.L (J c p.K) p.l (S.put ((sem p.E p.H).1, upds (sem p.E p.H).2 [(p.d.getD 0, ob.rnf (rnL [(1000000, p.d.getD 0)]))]) p.d (v.rnf (rnL [(1000000, p.d.getD 0)]))) := fun v ob hv => by
    have := Pl.nx'_eq.1 (k v ob hv)
    have this : WL c.P c.tb p.dr p.L (J c p.K) p.l (sem (putE p.E p.d _) (_ ++ p.H)) := this
    rw [sem_put]
    exact this
  generalize WL c.P c.tb p.dr p.L (J c p.K) p.l = R at kk ⊢
  cases p.dr with
  | true =>
    refine ⟨true, fun _ => none, fun q => ∃ v ob, Q v ob ∧ q = (v.rnf (rnL [(1000000, p.d.getD 0)]), [(p.d.getD 0, ob.rnf (rnL [(1000000, p.d.getD 0)]))]), ⟨fun _ => ⟨dd, hdd, by rw [← hD]; exact hasK_none k2⟩, fun i y hi => (nomatch hi), fun g _ hn => ?_⟩, ?_⟩
    · obtain ⟨a1, a2⟩ := hcs (g := g) (by rw [hD]; exact hn rfl dd hdd)
      refine ⟨a1, fun N W θ vs b1 b2 b3 b4 => (a2 N W θ vs b1 b2 b3 b4).mono ?_⟩
      rintro e w' ⟨W', θ', v, u, g', c1, c2, c3, c4, c5, v0, ob, d1, rfl, rfl⟩
      exact ⟨W', θ', _, u, _, c1, c2, c3, c4, c5, _, .inr ⟨rfl, dd, _, hdd, by rw [hD]⟩, rfl, v0, ob, d1, rfl⟩
    · rintro q _ ⟨v, ob, h1, rfl⟩
      exact kk v ob h1
  | false =>
    refine ⟨_, hcs (hasK_none k2), ?_⟩
    rintro v g' ⟨v0, ob, h1, rfl, rfl⟩
    exact kk v0 ob h1
/-- a growing slice comes back -/
def CG (P : Program) (f : FuncId) (args : List AV) (sz : Nat) (xs : List D) : Prop := CO P f args fun v ob => v = .gr 1000000 sz xs ∧ ob = .tok xs.length sz
theorem Cg {f : FuncId} {as : List AV} {sz : Nat} {xs : List D} (h : nxK c.tb c.n s = some (p, f, as)) (hc : CG c.P f as sz xs) (k : p.nx' c (.gr (p.d.getD 0) sz xs) [(p.d.getD 0, .tok xs.length sz)])
    (hk : (chkC as [] [] (p.d.getD 0) p.H && p.d.isSome) = true := by exact rfl) : StP c s :=
  Co h hc (fun v ob hv => by obtain ⟨rfl, rfl⟩ := hv; exact k) hk
/-- an array of one's own comes back -/
def CA (P : Program) (f : FuncId) (args : List AV) (sz : Nat) (xs : List D) : Prop := CO P f args fun v ob => v = .own 1000000 sz 0 xs.length ∧ ob = .arr sz xs
theorem Cr {f : FuncId} {as : List AV} {sz : Nat} {xs : List D} (h : nxK c.tb c.n s = some (p, f, as)) (hc : CA c.P f as sz xs) (k : p.nx' c (.own (p.d.getD 0) sz 0 xs.length) [(p.d.getD 0, .arr sz xs)])
    (hk : (chkC as [] [] (p.d.getD 0) p.H && p.d.isSome) = true := by exact rfl) : StP c s :=
  Co h hc (fun v ob hv => by obtain ⟨rfl, rfl⟩ := hv; exact k) hk
end
/-- objects that come back may be forgotten -/
theorem CW.data {P : Program} {f : FuncId} {args : List AV} {Post : AV → Hpl → Prop} {Q : AV → Prop} (h : CW P f args [] Post) (hn : (args.all noId) = true) (hp : ∀ v H', Post v H' → ∃ v', FitR (look H') [] v v' ∧ Q v') : C P f args Q := by
  refine ⟨h.1, fun W vs ha => (h.2 W θe vs ⟨fun o x h => (nomatch h), fun o x b h => (nomatch h), fun o o' x x' b h => (nomatch h), fun o x i h => (nomatch h)⟩ ha).mono ?_⟩
  rintro e w' ⟨W', θ', v, u, H', rfl, rfl, hf, hob, hv, hvi, _, _, hpo⟩
  obtain ⟨v', hfit, hq⟩ := hp v H' hpo
  have hX : ∀ b, ¬ Xof θe ([] : Hpl) b := fun b ⟨o, x, h, _⟩ => (nomatch h)
  let W2 : GW := ⟨W'.w, W.A, fun b i h => Nat.lt_of_lt_of_le (W.hA b i h) hf.size⟩
  have hle : LeF W' W2 := fun b i x hx => ⟨hx.1, fun hA => hx.2 ((hf.A b (W.hA b i hA) (hX b) i).2 hA)⟩
  have E : Exi W' W2 (fun b => W.size ≤ b ∨ Xof θe ([] : Hpl) b) θ' (look H') [] := ⟨hob, hle, fun o x b ho hl hb _ i y hy => ⟨hy, fun hA => absurd (W.hA b i hA) (Nat.not_lt.2 ((hob.new o x b ho hl hb).resolve_right (hX b)))⟩⟩
  obtain ⟨f1, f2⟩ := fit_R E hfit hv
  have f2 : ∀ i, ¬ v'.ids i := fun i hi => by obtain ⟨y, hy⟩ := f2 i hi; cases hy
  exact ⟨W2, v', u, rfl, rfl, ⟨hf.os, hf.out, hf.tape, hf.size, fun b hb _ => hf.same b hb (hX b), fun _ _ _ _ => Iff.rfl, fun b i x hx => ⟨(hf.le b i x hx).1, hx.2⟩⟩, f1.mono (LeF.refl W2) fun i hi => absurd hi (f2 i), f2, hq⟩
theorem CG.data {P : Program} {f : FuncId} {args : List AV} {sz : Nat} {xs : List D} (h : CG P f args sz xs) (hn : (args.all noId) = true := by exact rfl) : C P f args (· = .d (.sl sz xs)) :=
  CW.data h hn fun v H' ⟨ob, e, h1, h2⟩ => ⟨_, by rw [h1]; exact .one (.gr rfl) rfl rfl, rfl⟩
theorem CA.data {P : Program} {f : FuncId} {args : List AV} {sz : Nat} {xs : List D} (h : CA P f args sz xs) (hn : (args.all noId) = true := by exact rfl) : C P f args (· = .d (.sl sz xs)) :=
  CW.data h hn fun v H' ⟨ob, e, h1, h2⟩ => ⟨_, by rw [h1, e, h2]; exact .one (.own rfl (by simp) (by simp)) rfl rfl, rfl⟩
end
section
section
variable {c : Cx} {s : St} {p : Pl}
/-- the least, the greatest of two -/
noncomputable def nxMM (tb : Nat → Option TI) (n : Nat) (s : St) : Option (Pl × Bool × IntKind × Int × Int) := match nxA tb n s with
  | some (p, o, [.d (.int k x), .d (.int k' y)]) => match o.op with
    | .call ⟨.builtin .min, _, _⟩ => if k = k' then some (p, true, k, x, y) else none
    | .call ⟨.builtin .max, _, _⟩ => if k = k' then some (p, false, k, x, y) else none
    | _ => none
  | _ => none
theorem Mm {b : Bool} {k : IntKind} {x y : Int} (r : Int) (h : nxMM c.tb c.n s = some (p, b, k, x, y)) (kk : p.nx c (.d (.int k r))) (hr : (match b with | true => min x y | false => max x y) = r := by first | rfl | omega) : StP c s := by
  unfold nxMM at h
  split at h <;> try cases h
  rename_i p' o k1 x1 k2 y1 hA
  split at h <;> try cases h
  · rename_i as tys ho
    split at h <;> cases h
    rename_i hk
    refine nxA_ok (us := []) hA ?_ (Pl.nx_nil kk)
    rw [ho]
    simp only [F, Fp, if_pos hk]
    subst hr
    simp only [Int.min_def]
    split <;> split <;> first | rfl | (congr; omega)
  · rename_i as tys ho
    split at h <;> cases h
    rename_i hk
    refine nxA_ok (us := []) hA ?_ (Pl.nx_nil kk)
    rw [ho]
    simp only [F, Fp, if_pos hk]
    subst hr
    simp only [Int.max_def]
    split <;> split <;> first | rfl | (congr; omega)
/-- a byte of a text -/
noncomputable def nxY (tb : Nat → Option TI) (n : Nat) (s : St) : Option (Pl × ByteArray × Int) := match nxA tb n s with
  | some (p, o, [.d (.str t), .d (.int _ j)]) => match o.op with
    | .index T _ _ => match tb T with
      | some ⟨.str _, _, _, _⟩ => some (p, t, j)
      | _ => none
    | _ => none
  | _ => none
theorem Yx (i : Nat) (b : UInt8) {t : ByteArray} {j : Int} (h : nxY c.tb c.n s = some (p, t, j)) (hb : t[i]? = some b) (kk : p.nx c (.d (.int .u8 b.toNat))) (hj : j = (i : Int) := by first | exact rfl | omega) : StP c s := by
  subst hj
  unfold nxY at h
  split at h <;> try cases h
  rename_i hA
  split at h <;> try cases h
  rename_i ho
  split at h <;> cases h
  rename_i ht
  refine nxA_ok (us := []) hA ?_ (Pl.nx_nil kk)
  rw [ho]
  simp [F, Fp, ht, hb]
end
def nbA : AV → AV
  | .d (.bool c) => .b c
  | a => a
theorem nbA_V {W : GW} {θ : Loc} {a : AV} {u : Value} (h : AV.V W θ a u) : AV.V W θ (nbA a) u := by
  unfold nbA; split
  · obtain ⟨cs, h1, h2⟩ := h; exact ⟨cs, h1, h2⟩
  · exact h
theorem nbA_L {W : GW} {θ : Loc} : ∀ {as : List AV} {vs : List Value}, ArgL W θ as vs → ArgL W θ (as.map nbA) vs
  | [], [], _ => trivial
  | a :: as, v :: vs, h => ⟨nbA_V h.1, nbA_L h.2⟩
  | [], _ :: _, h => h.elim
  | _ :: _, [], h => h.elim
theorem C.mono {P : Program} {f : FuncId} {as : List AV} {Q Q' : AV → Prop} (h : C P f as Q) (k : ∀ v, Q v → Q' v) : C P f as Q' := ⟨h.1, fun W vs ha => (h.2 W vs ha).mono fun e w' ⟨W', v, u, h1, h2, h3, h4, h5, h6⟩ => ⟨W', v, u, h1, h2, h3, h4, h5, k v h6⟩⟩
/-- bools handed in -/
theorem C.nb {P : Program} {f : FuncId} {as : List AV} {Q : AV → Prop} (h : C P f (as.map nbA) Q) : C P f as Q := ⟨h.1, fun W vs ha => h.2 W vs (nbA_L ha)⟩
end
section
/-! a load and a store whose addresses lead to different objects -/
def idsL : AV → List Nat
  | .st a | .tup a => idsL a
  | .pr a c => idsL a ++ idsL c
  | .ptr o _ | .own o _ _ _ | .ow3 o _ _ _ | .gr o _ _ | .el o _ _ _ | .fn _ o => [o]
  | _ => []
theorem idsL_iff {i : Nat} : ∀ {a : AV}, a.ids i → i ∈ idsL a
  | .st a, h => idsL_iff (a := a) h
  | .tup a, h => idsL_iff (a := a) h
  | .pr a c, h => List.mem_append.2 (h.imp (idsL_iff (a := a)) (idsL_iff (a := c)))
  | .ptr o _, h | .own o _ _ _, h | .ow3 o _ _ _, h | .gr o _ _, h | .el o _ _ _, h | .fn _ o, h => List.mem_singleton.2 h
abbrev Trk := List (Nat × List Nat)
def dsL : List Oper → List Nat
  | [] => []
  | o :: l => match o.dst with
    | some d => d :: dsL l
    | none => dsL l
theorem dsL_mem {o : Oper} {d : Nat} (hd : o.dst = some d) : ∀ {L : List Oper}, o ∈ L → d ∈ dsL L
  | x :: l, h => by
    rcases List.mem_cons.1 h with e | e
    · subst e; simp [dsL, hd]
    · have := dsL_mem hd e
      simp only [dsL]; split <;> simp [this]
def bnd (D : List Nat) (E : Env) (T : Trk) (t : Nat) : Option (List Nat) := match inL t D with
  | true => look T t
  | false => match look E t with
    | some v => some (idsL v)
    | none => none
def argO : Op → Option Nat
  | .move (.tmp t) | .assign (.tmp t) | .nilCheck (.tmp t) | .fieldAddr _ (.tmp t) _ | .indexAddr _ (.tmp t) _ => some t
  | _ => none
def isNew : Op → Bool
  | .alloc _ | .box _ _ => true
  | _ => false
/-- the objects that the slots of a region may lead to -/
def trk (D : List Nat) (E : Env) : List Oper → Trk → Trk
  | [], T => T
  | o :: l, T => match o.dst with
    | none => trk D E l T
    | some d => match isNew o.op, argO o.op with
      | true, _ => trk D E l ((d, [d]) :: T)
      | false, some t => match bnd D E T t with
        | some v => trk D E l ((d, v) :: T)
        | none => trk D E l T
      | false, none => trk D E l T
def subN (a b : List Nat) : Bool := a.all fun x => inL x b
def trkOk (D : List Nat) (E : Env) (T : Trk) (L : List Oper) : Bool := (T.all fun x => !hasK E x.1) && L.all fun o => match o.dst with
  | none => true
  | some d => match look T d with
    | none => true
    | some l => (isNew o.op && inL d l) || match argO o.op with
      | some t => match bnd D E T t with
        | some v => subN v l
        | none => false
      | none => false
def ldst (L : List Oper) (D : List Nat) (E : Env) (T : Trk) (k i : Oper) : Bool := match k.op, i.op with
  | .load _ (.tmp a), .store _ (.tmp b) _ => match bnd D E T a, bnd D E T b with
    | some la, some lb => apart L k.dst i && apart L i.dst k && la.all fun x => !inL x lb
    | _, _ => false
  | _, _ => false
def spT (L : List Oper) (D : List Nat) (E : Env) (T : Trk) (k i : Oper) : Bool := ldst L D E T k i || ldst L D E T i k
def ZT (D : List Nat) (E : Env) (T : Trk) (s : S) : Prop := (∀ t, inL t D = false → s.1 t = look E t) ∧ ∀ t l, look T t = some l → s.1 t = none ∨ ∃ x, s.1 t = some x ∧ ∀ i, x.ids i → i ∈ l
section
variable {tb : Nat → Option TI}
theorem bnd_ok {D : List Nat} {E : Env} {T : Trk} {s : S} (hz : ZT D E T s) {t : Nat} {l : List Nat} (h : bnd D E T t = some l) {v : AV} (hv : s.1 t = some v) {i : Nat} (hi : v.ids i) : i ∈ l := by
  unfold bnd at h
  split at h
  · rcases hz.2 t l h with e | ⟨x, e, h1⟩ <;> rw [hv] at e
    · cases e
    · injection e with e; subst e; exact h1 i hi
  · rename_i hD
    have e := hz.1 t hD
    rw [hv] at e
    rw [← e] at h
    injection h with h; subst h
    exact idsL_iff hi
theorem eff_arg {o : Oper} {t : Nat} (ha : argO o.op = some t) {s : S} {r : AV × List (Nat × Ob)} (h : eff tb o s = some r) : ∃ v, s.1 t = some v ∧ ∀ i, r.1.ids i → v.ids i := by
  have one : ∀ {x : Nat} {as : List AV}, getEs s.1 [.tmp x] = some as → ∃ v, s.1 x = some v ∧ as = [v] := by
    intro x as h
    simp only [getEs, getE] at h
    split at h <;> try cases h
    rename_i v hv
    exact ⟨v, hv, rfl⟩
  unfold eff at h
  split at h <;> try cases h
  rename_i as has
  split at h <;> try cases h
  unfold argO at ha
  split at ha <;> cases ha
  all_goals rename_i ho
  · rw [ho] at h has
    obtain ⟨v, hv, rfl⟩ := one has
    simp only [F, Fp] at h
    injection h with h; subst h
    exact ⟨v, hv, fun _ h => h⟩
  · rw [ho] at h has
    obtain ⟨v, hv, rfl⟩ := one has
    simp only [F, Fp] at h
    injection h with h; subst h
    exact ⟨v, hv, fun _ h => h⟩
  · rw [ho] at h has
    obtain ⟨v, hv, rfl⟩ := one has
    refine ⟨v, hv, ?_⟩
    simp only [F, Fp] at h
    split at h <;> try cases h
    rename_i hq
    split at hq <;> cases hq
    rename_i e; cases e
    exact fun _ h => h
  · rw [ho] at h has
    obtain ⟨v, hv, rfl⟩ := one has
    refine ⟨v, hv, ?_⟩
    simp only [F, Fp] at h
    split at h <;> try cases h
    rename_i hq
    split at hq <;> try cases hq
    split at hq <;> try cases hq
    split at hq <;> try cases hq
    split at hq <;> try cases hq
    · rename_i e; cases e
      split at hq <;> cases hq
      exact fun _ h => h
    all_goals
      rename_i e; cases e
      exact fun _ h => h
  · rw [ho] at h has
    rename_i T' y' _
    simp only [Op.operands, getEs] at has
    split at has <;> try cases has
    rename_i v hv
    split at has <;> try cases has
    rename_i as' has'
    refine ⟨v, hv, ?_⟩
    simp only [F, Fp] at h
    split at h <;> try cases h
    rename_i hq
    split at hq <;> try cases hq
    rename_i e; cases e
    split at hq <;> try cases hq
    · unfold ixA at hq
      split at hq <;> try cases hq
      · unfold ixA.ixL at hq
        split at hq <;> try cases hq
        split at hq <;> cases hq
        exact fun _ h => h.elim
      · unfold ixA.ixL at hq
        split at hq <;> try cases hq
        split at hq <;> cases hq
        exact fun _ h => h.elim
      · unfold ixA.ixL at hq
        split at hq <;> try cases hq
        split at hq <;> cases hq
        exact fun _ h => h.elim
      · split at hq <;> cases hq
        exact fun _ h => h
      · split at hq <;> cases hq
        exact fun _ h => h
    · split at hq <;> cases hq
      exact fun _ h => h
theorem ld_eq {k : Oper} {T : TypeId} {a : Nat} (ho : k.op = .load T (.tmp a)) {e : Ev} {g g' : Hp} {r : AV × List (Nat × Ob)} {v : AV} (hv : e a = some v) (hg : ∀ i, v.ids i → g i = g' i) (h : eff tb k (e, g) = some r) : r.2 = [] ∧ eff tb k (e, g') = some r := by
  have has : getEs e k.op.operands.toList = some [v] := by rw [ho]; simp [Op.operands, getEs, getE, hv]
  unfold eff at h ⊢
  rw [has] at h ⊢
  simp only [ho, isStore, Bool.false_and, F] at h ⊢
  split at h <;> try cases h
  rename_i ti hti
  cases v <;> try (cases h; done)
  · simp only [hti] at h ⊢
    split at h <;> cases h
    rename_i hf
    exact ⟨rfl, by simp [hf]⟩
  · simp only [hti] at h ⊢
    rw [← hg _ rfl]
    split at h <;> try cases h
    rename_i hq
    split at h <;> cases h
    rename_i hy
    exact ⟨rfl, by simp [hq, hy]⟩
  · simp only [hti] at h ⊢
    rw [← hg _ rfl]
    split at h <;> try cases h
    rename_i hq
    split at h <;> try cases h
    rename_i hs
    split at h <;> try cases h
    rename_i hx
    split at h <;> cases h
    rename_i hy
    exact ⟨rfl, by simp [hq, hs, hx, hy]⟩
theorem st_us {i : Oper} {T : TypeId} {b : Nat} {x : Operand} (ho : i.op = .store T (.tmp b) x) {e : Ev} {g : Hp} {r : AV × List (Nat × Ob)} (h : eff tb i (e, g) = some r) : ∃ v o ob, e b = some v ∧ v.ids o ∧ r.2 = [(o, ob)] := by
  unfold eff at h
  split at h <;> try cases h
  rename_i as has
  rw [ho] at has
  simp only [Op.operands, getEs, getE] at has
  split at has <;> try cases has
  rename_i v hv
  split at has <;> try cases has
  rename_i as' has'
  split at h <;> try cases h
  rw [ho] at h
  simp only [F] at h
  split at h <;> try cases h
  split at h <;> try cases h
  · rename_i e; cases e
    split at h <;> try cases h
    split at h <;> cases h
    exact ⟨_, _, _, hv, rfl, rfl⟩
  · rename_i e; cases e
    split at h <;> try cases h
    split at h <;> try cases h
    split at h <;> cases h
    exact ⟨_, _, _, hv, rfl, rfl⟩
theorem new_val {o : Oper} (hn : isNew o.op = true) {s : S} {r : AV × List (Nat × Ob)} (h : eff tb o s = some r) : r.1 = .ptr (o.dst.getD 0) 0 := by
  unfold eff at h
  split at h <;> try cases h
  rename_i as has
  split at h <;> try cases h
  unfold isNew at hn
  split at hn <;> try cases hn
  all_goals
    rename_i ho
    rw [ho] at h
    simp only [F] at h
  · split at h <;> cases h; rfl
  · split at h <;> try cases h
    split at h <;> cases h; rfl
theorem subN_ok {a b : List Nat} (h : subN a b = true) {i : Nat} (hi : i ∈ a) : i ∈ b := inL_iff.1 (List.all_eq_true.1 h i hi)
theorem aft1 {s : S} {o : Oper} {r : AV × List (Nat × Ob)} {t : Nat} (h : o.dst ≠ some t) : (aft s o r).1 t = s.1 t := by
  unfold aft S.put
  cases hd : o.dst with
  | none => rfl
  | some d => exact upd_ne fun e => h (by rw [hd, e])
theorem aft1' {s : S} {o : Oper} {r : AV × List (Nat × Ob)} {t : Nat} (h : o.dst = some t) : (aft s o r).1 t = some r.1 := by
  unfold aft S.put
  rw [h]; exact upd_self ..
theorem ZT.aft {L : List Oper} {E : Env} {T : Trk} (hT : trkOk (dsL L) E T L = true) {o : Oper} (ho : o ∈ L) {s : S} (hz : ZT (dsL L) E T s) {r : AV × List (Nat × Ob)}
    (hr : r.1 = .un ∨ (isCall o = true) ∨ eff tb o s = some r) : ZT (dsL L) E T (aft s o r) := by
  refine ⟨fun t ht => ?_, fun t l hl => ?_⟩
  · rw [aft1 fun e => by rw [inL_iff.2 (dsL_mem e ho)] at ht; cases ht]
    exact hz.1 t ht
  · by_cases hd : o.dst = some t
    · refine .inr ⟨r.1, aft1' hd, fun i hi => ?_⟩
      simp only [trkOk, Bool.and_eq_true] at hT
      have := List.all_eq_true.1 hT.2 o ho
      rw [hd] at this
      simp only [hl, Bool.or_eq_true, Bool.and_eq_true] at this
      rcases hr with hr | hr | hr
      · rw [hr] at hi; exact hi.elim
      · obtain ⟨x, as, tys, hc⟩ := isCall_op hr
        rw [hc] at this
        simp [isNew, argO] at this
      · rcases this with ⟨h1, h2⟩ | h
        · rw [new_val h1 hr, hd] at hi
          have hi : i = t := hi
          rw [hi]; exact inL_iff.1 h2
        · split at h
          · rename_i t' ha
            split at h
            · rename_i v hv
              obtain ⟨x, hx, h1⟩ := eff_arg ha hr
              exact subN_ok h (bnd_ok hz hv hx (h1 i hi))
            · cases h
          · cases h
    · rw [aft1 hd]; exact hz.2 t l hl
theorem ldst_par {L : List Oper} {E : Env} {T : Trk} {k i : Oper} (h : ldst L (dsL L) E T k i = true) : isCall k = false ∧ isCall i = false ∧ apart L k.dst i = true ∧ apart L i.dst k = true ∧ ∀ {s : S}, ZT (dsL L) E T s →
    (∀ {rk}, efw tb L k s = some rk → rk.2 = []) ∧ ∀ {g : Hp} {ri : AV × List (Nat × Ob)}, efw tb L i (s.1, g) = some ri → ∀ rk, efw tb L k (s.1, g) = some rk ↔ efw tb L k (s.1, upds g ri.2) = some rk := by
  unfold ldst at h
  split at h
  · rename_i T1 a T2 b x hk hi
    split at h
    · rename_i la lb hla hlb
      simp only [Bool.and_eq_true] at h
      obtain ⟨⟨h1, h2⟩, h3⟩ := h
      refine ⟨by unfold isCall; rw [hk]; rfl, by unfold isCall; rw [hi]; rfl, h1, h2, fun {s} hz => ⟨fun {rk} hr => ?_, fun {g ri} hri rk => ?_⟩⟩
      · rcases efw_cases hr with ⟨_, e, _⟩ | ⟨_, e⟩
        · exact e
        · exact (eff1 (o := k) (by rw [hk]; rfl) (e := s.1) (g := s.2) e).1
      · have key : ∀ {g g' : Hp}, (∀ o, o ∉ lb → g o = g' o) → efw tb L k (s.1, g) = some rk → efw tb L k (s.1, g') = some rk := by
          intro g g' hg hr
          rcases efw_cases hr with ⟨_, _, e⟩ | ⟨hw, e⟩
          · exact e g'
          · have : ∃ v, s.1 a = some v := by
              unfold eff at e
              split at e <;> try cases e
              rename_i as has
              rw [hk] at has
              simp only [Op.operands, getEs, getE] at has
              split at has <;> try cases has
              exact ⟨_, by assumption⟩
            obtain ⟨v, hv⟩ := this
            refine efw_of (s := (s.1, g)) hw (ld_eq hk hv (fun o ho => hg o fun hb => ?_) e).2
            have := List.all_eq_true.1 h3 o (bnd_ok hz hla hv ho)
            rw [inL_iff.2 hb] at this; cases this
        have hu : ∀ o, o ∉ lb → g o = upds g ri.2 o := by
          intro o hob
          rcases efw_cases hri with ⟨_, e, _⟩ | ⟨_, e⟩
          · rw [e]; rfl
          · obtain ⟨v, o', ob, hv, ho', e2⟩ := st_us hi e
            rw [e2]
            show g o = upd g o' ob o
            rw [upd_ne fun e => hob (by rw [e]; exact bnd_ok hz hlb hv ho')]
        exact ⟨key hu, key fun o ho => (hu o ho).symm⟩
    · cases h
  · cases h
theorem Dm.trk {L : List Oper} {E : Env} {T : Trk} (hT : trkOk (dsL L) E T L = true) : Dm tb L (spT L (dsL L) E T) (ZT (dsL L) E T) := by
  have fin : ∀ {k i : Oper} {s : S} {rk ri : AV × List (Nat × Ob)}, apart L i.dst k = true → rk.2 = [] → Vm.aft (Vm.aft s i ri) k rk = Vm.aft (Vm.aft s k rk) i ri := by
    intro k i s rk ri h hr
    unfold Vm.aft
    rw [S.put_g, S.put_g, hr]
    have e1 := S.put_e (s := s) (g := upds s.2 ri.2) (g' := s.2) (d := i.dst) (v := ri.1)
    have e2 := S.put_e (s := s) (g := upds s.2 []) (g' := s.2) (d := k.dst) (v := rk.1)
    rw [e1, e2]
    exact put_put (s := s) (fun a b ha hb => dst_ne h ha hb) rfl
  have one : ∀ {k i : Oper} {s : S} {rk ri : AV × List (Nat × Ob)}, ldst L (dsL L) E T k i = true → ZT (dsL L) E T s → efw tb L k s = some rk → efw tb L i s = some ri → efw tb L i (Vm.aft s k rk) = some ri ∧ efw tb L k (Vm.aft s i ri) = some rk ∧ Vm.aft (Vm.aft s i ri) k rk = Vm.aft (Vm.aft s k rk) i ri := by
    intro k i s rk ri h hz h1 h2
    obtain ⟨c1, c2, a1, a2, hh⟩ := ldst_par (tb := tb) h
    obtain ⟨b1, b2⟩ := hh hz
    have e := b1 h1
    exact ⟨by rw [efw_aft a1, e]; exact h2, by rw [efw_aft a2]; exact (b2 (g := s.2) h2 rk).1 h1, fin a2 e⟩
  refine ⟨fun {k i} h => ?_, fun {k i s rk ri} h hz h1 h2 => ?_, fun {k i s rk ri} h hz h1 h2 => ?_, fun {k s r} hk hc hz h => ?_, fun {k s r} hk hc hz h => ZT.aft (tb := tb) hT hk hz (.inr (.inl hc))⟩
  · rcases Bool.or_eq_true_iff.1 h with h | h
    · have := ldst_par (tb := tb) h; exact ⟨this.1, this.2.1⟩
    · have := ldst_par (tb := tb) h; exact ⟨this.2.1, this.1⟩
  · rcases Bool.or_eq_true_iff.1 h with h | h
    · exact one h hz h1 h2
    · obtain ⟨p1, p2, p3⟩ := one h hz h2 h1; exact ⟨p2, p1, p3.symm⟩
  · rcases Bool.or_eq_true_iff.1 h with h | h
    · obtain ⟨c1, c2, a1, a2, hh⟩ := ldst_par (tb := tb) h
      rw [efw_aft a1, (hh hz).1 h1] at h2
      exact h2
    · obtain ⟨c1, c2, a1, a2, hh⟩ := ldst_par (tb := tb) h
      rw [efw_aft a2] at h2
      exact ((hh hz).2 (g := s.2) h1 ri).2 h2
  · refine ZT.aft (tb := tb) hT hk hz ?_
    rcases efw_cases h with ⟨hw, _, e⟩ | ⟨_, e⟩
    · refine .inl ?_
      unfold efw at h
      rw [hw] at h
      simp only at h
      split at h <;> cases h
      rfl
    · exact .inr (.inr e)
section
variable {c : Cx} {s : St}
def chkZ : St → Bool
  | .o _ _ L _ _ E _ => trkOk (dsL L) E (trk (dsL L) E L []) L && chkAll L (spT L (dsL L) E (trk (dsL L) E L [])) [] [] L
  | _ => false
theorem ZT.start {L : List Oper} {E : Env} {H : Hpl} {T : Trk} (hT : trkOk (dsL L) E T L = true) : ZT (dsL L) E T (sem E H) := by
  refine ⟨fun t _ => rfl, fun t l hl => .inl ?_⟩
  simp only [trkOk, Bool.and_eq_true] at hT
  have := List.all_eq_true.1 hT.1 _ (look_mem hl)
  rw [Bool.not_eq_true'] at this
  exact hasK_none this
/-- a drawn region in which a load and a store of different objects are not ordered -/
theorem Dz {s' : St} (h : nxD c.tb c.n s = some s') (k : StP c s') (hchk : chkZ s' = true := by exact rfl) : StP c s := by
  unfold nxD at h
  split at h <;> try cases h
  rename_i hr
  split at h <;> cases h
  rename_i hok
  have hchk := Bool.and_eq_true_iff.1 hchk
  exact go 1000 hr (J.draw (Dm.trk hchk.1) (ZT.start hchk.1) hok hchk.2 k)
end
end
end
end Go.Vm

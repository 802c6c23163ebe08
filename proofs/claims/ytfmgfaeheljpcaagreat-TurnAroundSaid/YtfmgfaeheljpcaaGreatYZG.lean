/- The frames of the statements: from contracts on data to what is said. -/
import Derived.Test.YtfmgfaeheljpcaaGreatRows
import Derived.Test.YtfmgfaeheljpcaaGreatYZF
import Derived.Test.YtfmgfaeheljpcaaGreatYVY
set_option linter.unusedVariables false
set_option linter.unusedSimpArgs false
set_option maxRecDepth 10000
namespace Go.Vm
open Go Go.ChangeShapes Go.WideShapes Go.ChangeAt Go.RowKit
/-- an argument of type t is a datum of this kind -/
def Arg (P : Program) (t : TypeId) (r : D → Prop) : Prop := ∀ (W : World) (base : Nat) {H : Type} {enc : TypeId × Value → H} {spare : Nat → Bool} {held : Bool} {v : Value} {d : DataW H} {p : List MemPlace},
  Value.okWide P W .any base t v → DataW.Trod enc P W 0 spare held t v d p → ∃ x, r x ∧ AV.V (gw0 W) θe (.d x) v
theorem arg_struct {P : Program} {t : TypeId} {fs : Array Field} {r : D → Prop} (ht : P.underlying t = some (.struct fs)) (hr : Reads P t r) (hg : ∀ x, r x → x.ag = true) : Arg P t r := fun W base _ _ _ _ v d p hok h => by
  unfold Value.okWide at hok
  rw [ht] at hok
  obtain ⟨cs, rfl, _⟩ := hok
  obtain ⟨fuel, h⟩ := h
  obtain ⟨x, h1, h2⟩ := hr W h
  exact ⟨x, h1, cs.toList, h2, by rw [show AV.ag (.d x) = true from hg x h1]; simp [mkv]⟩
inductive Args (P : Program) : List TypeId → (List D → Prop) → Prop where
  | nil : Args P [] (· = [])
  | cons {t : TypeId} {ts : List TypeId} {r : D → Prop} {R : List D → Prop} (h : Arg P t r) (hc : P.readableRec t = true) (hl : t < P.types.size) (k : Args P ts R) : Args P (t :: ts) fun ds => ∃ x xs, ds = x :: xs ∧ r x ∧ R xs
theorem Args.read {P : Program} {ts : List TypeId} {R : List D → Prop} (ha : Args P ts R) {W : World} {base : Nat} {H : Type} {enc : TypeId × Value → H} {spare : Nat → Bool} {held : Bool} : ∀ {vs : List Value} {ds : List (DataW H)} {p : List MemPlace},
    (∀ (j : Nat) t v, ts[j]? = some t → vs[j]? = some v → Value.okWide P W .any base t v) → DataW.TrodAll enc P W 0 spare held ts vs ds p → ∃ xs, R xs ∧ ArgL (gw0 W) θe (xs.map .d) vs := by
  induction ha with
  | nil => intro vs ds p _ h; obtain ⟨rfl, _⟩ := trodAll_nil h; exact ⟨[], rfl, trivial⟩
  | cons h hc hl k ih =>
    intro vs ds p hv ht
    obtain ⟨v, vs, d, ds', p, q, rfl, rfl, rfl, hd, hr⟩ := trodAll_cons ht
    obtain ⟨x, h1, h2⟩ := h W base (hv 0 _ v rfl rfl) hd
    obtain ⟨xs, h3, h4⟩ := ih (fun j t v h5 h6 => hv (j + 1) t v h5 h6) hr
    exact ⟨x :: xs, ⟨x, xs, rfl, h1, h3⟩, h2, h4⟩
theorem Args.stay {P : Program} (hP : laidOutB P = true) {ts : List TypeId} {R : List D → Prop} (ha : Args P ts R) {W W' : World} {H : Type} {enc : TypeId × Value → H} {spare' : Nat → Bool} (hb : Below W.heap.size W W') : ∀ {vs : List Value} {ds : List (DataW H)} {p : List MemPlace},
    (∀ x ∈ p, x.block < W.heap.size) → (∀ x ∈ p, spare' x.block = true) → DataW.TrodAll enc P W 0 (fun _ => true) true ts vs ds p → DataW.TrodAll enc P W' 0 spare' true ts vs ds p := by
  induction ha with
  | nil => intro vs ds p _ _ h; obtain ⟨rfl, rfl, rfl⟩ := trodAll_nil h; rfl
  | cons h hc hl k ih =>
    intro vs ds p h1 h2 ht
    obtain ⟨v, vs, d, ds', p, q, rfl, rfl, rfl, hd, hr⟩ := trodAll_cons ht
    exact ⟨p, q, WideElems.Trod_stays hP hc hl hd (fun x hx => hb.same (h1 x (by simp [hx]))) (fun x hx => h2 x (by simp [hx])), ih (fun x hx => h1 x (by simp [hx])) (fun x hx => h2 x (by simp [hx])) hr, rfl⟩
/-- What stands behind the call, where nothing old has turned. -/
theorem post_of_below {H : Type} {enc : TypeId × Value → H} {P : Program} {f : Func} {s : ChangeSpec} {apart fresh handsOn again : Bool} {W W' : World} {args : Array Value} {v : Value} {ds gs : List (DataW H)} {before pa pv : List MemPlace}
    (hW : DataW.Whole enc P f.params.toList s.vars apart W args.toList ds gs before)
    (hres : ∀ (b : Nat) (sp : Nat → Bool) (hd : Bool), DataW.TrodAll enc P W' b sp hd f.resultTypes.toList (v.resultList f.resultTypes.size) (s.fn H (ds ++ gs)).results [])
    (hargs : ∀ sp : Nat → Bool, (∀ p ∈ before, sp p.block = true) → DataW.TrodAll enc P W' 0 sp true f.params.toList args.toList (s.fn H (ds ++ gs)).args pa)
    (hvars : ∀ sp : Nat → Bool, (∀ p ∈ before, sp p.block = true) → DataW.TrodVars enc P W' sp s.vars (s.fn H (ds ++ gs)).vars pv)
    (hps : before = pa ++ pv) (hb : Below W.heap.size W W')
    (hok : ∀ (j : Nat) (t : TypeId) (r : Value), f.resultTypes[j]? = some t → (v.resultList f.resultTypes.size)[j]? = some r → Value.okWide P W' .any 0 t r) :
    s.post enc P f apart fresh handsOn again W args v W' := by
  have hlt := hW.lt
  have hold : ∀ p ∈ before, (fun b => decide (b < W.heap.size)) p.block = true := fun p hp => by simpa using hlt p hp
  refine ⟨ds, gs, before, [], pa, pv, hW, hres _ _ _, hargs _ hold, hvars _ hold, World.keptBut_mono (fun p hp => ⟨hp, ?_⟩) (hb.frame (· ∈ before)), fun _ => ?_⟩
  · rw [hps, List.mem_append] at hp
    exact Or.inr hp
  · obtain ⟨_, _, _, _, _, hz, hn⟩ := hW
    refine ⟨hok, _, _, ([] ++ pa) ++ pv, ⟨[] ++ pa, pv, trodAll_append (hargs _ (fun _ _ => rfl)) (hres _ _ _), hvars _ (fun _ _ => rfl), rfl, ?_, ?_⟩, ?_⟩
    · intro b off hp
      have hp' : MemPlace.cell b off ∈ before := by rw [hps]; simpa using hp
      rw [hb.frozen (hlt _ hp')]
      exact hz b off hp'
    · intro ha
      have := hn ha
      rw [hps] at this
      simpa using this
    · intro p hp _
      rw [hps]
      simpa using hp
/-- A statement on these arguments. -/
theorem lawV {P : Program} (hP : laidOutB P = true) {tB : TypeId} (hB : P.underlying tB = some .bool) {f : FuncId} {fn : Func} {s : ChangeSpec} {H : Type} {enc : TypeId × Value → H} {R : List D → Prop} (hp : Args P fn.params.toList R) (hr : fn.resultTypes = #[tB]) (hv0 : s.vars = [])
    (hs : ∀ ds : List (DataW H), ds.length = fn.params.size → s.fn H ds = { results := [.lit (.bool true)], args := ds })
    (law : ∀ xs, R xs → C P f (xs.map .d) (· = .b true))
    (W : World) (base : Nat) (args : Array Value) (ds gs : List (DataW H)) (before : List MemPlace)
    (hval : ∀ (j : Nat) t v, fn.params[j]? = some t → args[j]? = some v → Value.okWide P W .any base t v)
    (hW : DataW.Whole enc P fn.params.toList s.vars false W args.toList ds gs before) :
    Calls P f args W fun e W' => ∃ v, e = .returned v ∧ s.post enc P fn false true false false W args v W' := by
  have hW' := hW
  have hlt := hW.lt
  rw [hv0] at hW
  obtain ⟨p, q, hA, hV, rfl, hfz, hnd⟩ := hW
  obtain ⟨rfl, rfl⟩ := trodVars_none hV
  obtain ⟨xs, h1, h2⟩ := hp.read (fun j t v ht hv => hval j t v (by simpa using ht) (by simpa using hv)) hA
  have hlen : ds.length = fn.params.size := by
    have : ∀ {sp : Nat → Bool} {hd : Bool} {ts : List TypeId} {vs : List Value} {ds : List (DataW H)} {p : List MemPlace}, DataW.TrodAll enc P W 0 sp hd ts vs ds p → ds.length = ts.length := by
      intro sp hd ts
      induction ts with
      | nil => intro vs ds p h; obtain ⟨_, rfl, _⟩ := trodAll_nil h; rfl
      | cons t ts ih => intro vs ds p h; obtain ⟨_, _, _, _, _, _, _, rfl, _, _, h⟩ := trodAll_cons h; simp [ih h]
    rw [this hA]; simp
  have hfn : s.fn H (ds ++ []) = { results := [.lit (.bool true)], args := ds } := by rw [List.append_nil]; exact hs ds hlen
  have hc := (law xs h1).2 (gw0 W) args.toList h2
  rw [show args.toList.toArray = args by simp] at hc
  refine hc.mono ?_
  rintro e w' ⟨W1, v1, u, rfl, rfl, hF, hv, _, rfl⟩
  have hb : Below W.heap.size W W1.w := ⟨hF.os, hF.tape, hF.out, hF.size, fun k hk => hF.same k hk id⟩
  have hu : u = .bool true := by
    obtain ⟨cs, h3, h4⟩ := hv
    have h3 : cs = [.bool true] := h3
    rw [h4, h3]; rfl
  subst hu
  refine ⟨_, rfl, post_of_below (pa := p) (pv := []) hW' (fun _ _ _ => ?_) (fun sp hsp => ?_) (fun _ _ => ?_) (by simp) hb (ok_one hr rfl (okWide_bool_mk hB _))⟩
  · rw [hr, hfn]
    exact trodAll_mk1 (shut_bool hB _)
  · rw [hfn]
    exact hp.stay hP hb (fun x hx => hlt x (by simpa using hx)) (fun x hx => hsp x (by simpa using hx)) hA
  · rw [hv0, hfn]; rfl
/-- what is checked of the program, part by part -/
theorem facts_of {P : Program} {f : FuncId} {fn : Func} {s : ChangeSpec} {c : OpenClaim}
    (h1 : (c.wf (OpenSpec.ofChange s) && laidOutB P && mapsRowed P) = true)
    (h2 : (fn.params.all (P.readableRec ·) && namedTie P c.named s.vars && (c.stops == []) && (P.stops == []) && (c.knobs == []) && (P.stopKnobs == [])) = true)
    (h3 : (c.inPlace == P.inPlace f) = true) (h4 : (c.unfollowed == P.unfollowed f) = true) (h5 : (c.recurses == P.recurses f) = true) (h6 : (c.named == P.varsNamed f) = true)
    (h7 : ((c.maps == (fn.params.toList ++ s.plain.varTypes P).any (P.mapsRec ·)) && (c.ifaces == (fn.params.toList ++ s.plain.varTypes P).any (P.ifacesRec ·)) && (c.mapsOut == P.mapsAmong fn.resultTypes.toList) &&
      (c.loops == (fn.params.toList ++ s.plain.varTypes P).any (P.loopsFrom ·)) && (c.wideKeys == (fn.params.toList ++ s.plain.varTypes P ++ fn.resultTypes.toList).any (P.wideKeysFrom ·))) = true)
    (h8 : (s.vars.all (P.varReadable ·) && fn.resultTypes.all (fun t => P.readableRec t && decide (t < P.types.size)) && (c.ifacesOut == fn.resultTypes.toList.any (P.ifacesRec ·)) && (c.loopsOut == fn.resultTypes.toList.any (P.loopsFrom ·)) && (c.plainKeys == P.plainKeys) && c.shortTexts.isNone && P.stopsHeard && P.mayEnter) = true)
    (h9 : ((c.lifted == P.liftsFinal) && (P.make == some c.make) && (c.kinds == (if c.domain.isEmpty then [] else fn.params.toList.map fun t => match P.underlying t with | some (.int k) => some k | _ => none)) && (c.pinned == c.pinnedBy)) = true)
    (h10 : ((c.veiled == (fn.params.toList ++ s.plain.varTypes P ++ fn.resultTypes.toList).any (P.veiledRec ·)) && c.veiledFits P fn.params.toList (fn.params.toList ++ s.plain.varTypes P ++ fn.resultTypes.toList)) = true) : joinedFacts P f fn s c = true := by
  unfold joinedFacts
  rw [Bool.and_eq_true] at h10
  simp only [Bool.and_eq_true] at h1 h2 h7 h8 h9 ⊢
  exact ⟨⟨⟨⟨⟨⟨⟨⟨⟨⟨⟨⟨⟨⟨⟨⟨⟨⟨⟨⟨⟨⟨⟨⟨⟨⟨⟨⟨⟨⟨⟨h1.1.1, h1.1.2⟩, h1.2⟩, h2.1.1.1.1.1⟩, h2.1.1.1.1.2⟩, h2.1.1.1.2⟩, h2.1.1.2⟩, h2.1.2⟩, h2.2⟩, h3⟩, h4⟩, h5⟩, h6⟩, h7.1.1.1.1⟩, h7.1.1.1.2⟩, h7.1.1.2⟩, h7.1.2⟩, h7.2⟩, h8.1.1.1.1.1.1.1⟩, h8.1.1.1.1.1.1.2⟩, h8.1.1.1.1.1.2⟩, h8.1.1.1.1.2⟩, h8.1.1.1.2⟩, h8.1.1.2⟩, h8.1.2⟩, h8.2⟩, h9.1.1.1⟩, h9.1.1.2⟩, h9.1.2⟩, h9.2⟩, h10.1⟩, h10.2⟩
end Go.Vm
namespace Go.Proofs.YtfmgfaeheljpcaaGreat
open Go Go.Vm Go.Num
theorem own : ownKnob Tryz.prog.godebug = none := by kernel_rfl
theorem laidOut : laidOutB Tryz.prog = true := by kernel_rfl
end Go.Proofs.YtfmgfaeheljpcaaGreat

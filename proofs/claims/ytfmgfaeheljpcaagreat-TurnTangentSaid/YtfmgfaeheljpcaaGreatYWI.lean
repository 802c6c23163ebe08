/- The abstract machine, part thirty-three: an array of one's own becomes a slice that grows. -/
import Derived.Test.YtfmgfaeheljpcaaGreatYWD
set_option linter.unusedVariables false
set_option linter.unusedSimpArgs false
namespace Go.Vm
open Go
/-- the first m cells of block b are not written any more -/
def GW.pub (W : GW) (b m : Nat) : GW := ⟨W.w, fun b' i => (b' = b → m ≤ i) ∧ W.A b' i, fun b' i k => W.hA b' i k.2⟩
theorem pub_le (W : GW) (b m : Nat) : LeF W (W.pub b m) := fun _ _ _ k => ⟨k.1, fun hA => k.2 hA.2⟩
theorem Stp.pub {N : Nat → Prop} {W : GW} {θ : Loc} {g : Hp} (h : Obs W θ N g) {o b sz : Nat} {xs : List D} (ho : g o = some (.arr sz xs)) (hb : (θ o).1 = some b) :
    Stp N W (W.pub b (xs.length * sz)) θ θ g (upd g o (.tok xs.length sz)) where
  os := _root_.rfl
  out := _root_.rfl
  tape := _root_.rfl
  size := Nat.le_refl _
  same := fun _ _ _ => _root_.rfl
  A := fun b' _ hn i => ⟨fun k => k.2, fun k => ⟨fun e => by subst e; exact absurd (h.new o _ _ ho _root_.rfl hb) hn, k⟩⟩
  le := pub_le W b _
  th := fun _ _ _ => _root_.rfl
  hi := fun _ _ => _root_.rfl
  obs := {
    r := fun o' z hz => by
      rcases upd_some hz with ⟨e1, e2⟩ | ⟨e1, e2⟩
      · subst e1; subst e2
        obtain ⟨b', cs, T', r1, r2, r3, r4, r5, r6, r7⟩ := h.r _ _ ho
        rw [hb] at r1; injection r1 with r1; subst r1
        exact ⟨r5, r4, .inr ⟨b, cs, T', hb, r2, r3, fun i hi => ⟨fun _ => hi, r7 i⟩⟩⟩
      · exact (h.r o' z e2).keep (pub_le W b _) _root_.rfl (fun _ _ => _root_.rfl) fun hl b' hb' => ⟨_root_.rfl, fun i hA => ⟨fun e => by
          subst e
          exact absurd (h.dis o' o z _ _ e2 ho hl _root_.rfl hb' hb) e1, hA⟩⟩
    new := fun o' z b2 hz hl hb2 => by
      rcases upd_some hz with ⟨e1, e2⟩ | ⟨e1, e2⟩
      · subst e1; exact h.new _ _ b2 ho _root_.rfl hb2
      · exact h.new o' z b2 e2 hl hb2
    dis := fun o1 o2 y1 y2 b h1 h2 l1 l2 b1 b2 => by
      rcases upd_some h1 with ⟨e1, f1⟩ | ⟨e1, f1⟩ <;> rcases upd_some h2 with ⟨e2, f2⟩ | ⟨e2, f2⟩
      · rw [e1, e2]
      · subst e1; exact h.dis _ _ _ _ b ho f2 _root_.rfl l2 b1 b2
      · subst e2; exact h.dis _ _ _ _ b f1 ho l1 _root_.rfl b1 b2
      · exact h.dis o1 o2 y1 y2 b f1 f2 l1 l2 b1 b2
    ids := fun o' z i hz hzi => by
      have : ∃ w, g i = some w := by
        rcases upd_some hz with ⟨e1, e2⟩ | ⟨e1, e2⟩
        · subst e2; exact hzi.elim
        · exact h.ids o' z i e2 hzi
      obtain ⟨w, hw⟩ := this
      by_cases e : i = o
      · subst e; exact ⟨_, upd_self _ _ _⟩
      · exact ⟨w, by rw [upd_ne e]; exact hw⟩ }
  dom := fun i y hy => by
    by_cases e : i = o
    · subst e; exact ⟨_, upd_self _ _ _⟩
    · exact ⟨y, by rw [upd_ne e]; exact hy⟩
section
variable {c : Cx} {s : St}
noncomputable def nxW' (tb : Nat → Option TI) (n t : Nat) (s : St) : Option (List Kt × Env × Hpl × Nat × Nat × Nat × List D) := match runN tb n 1000 s with
  | .j _ K E H => match look E t with
    | some (.own o sz 0 n) => match look H o with
      | some (.arr sz' xs) => match Nat.beq sz sz' with
        | true => some (K, E, H, o, sz, n, xs)
        | false => none
      | _ => none
    | _ => none
  | _ => none
/-- the array in slot t becomes a slice that grows -/
theorem Og (t : Nat) {K : List Kt} {E : Env} {H : Hpl} {o sz n : Nat} {xs : List D} (h : nxW' c.tb c.n t s = some (K, E, H, o, sz, n, xs)) (hn : n = xs.length) (k : StP c (.j [] K ((t, .gr o sz xs) :: E) ((o, .tok xs.length sz) :: H))) : StP c s := by
  unfold nxW' at h
  split at h <;> try cases h
  rename_i hr
  split at h <;> try cases h
  rename_i he
  split at h <;> try cases h
  rename_i ho
  split at h <;> cases h
  rename_i hz
  have hz := Nat.eq_of_beq_eq_true hz
  subst hz; subst hn
  refine go 1000 hr ?_
  rintro a w ⟨s0, W, θ, hw, hs, hθ, rfl⟩
  obtain ⟨b, bs, T', r1, r2, r3, r4, r5, r6, r7⟩ := hs.obs.r _ _ ho
  have st := Stp.pub hs.obs ho r1
  have h1 := hs.step0 st
  refine k a w ⟨_, W.pub b (xs.length * sz), θ, hw, ?_, hθ, rfl⟩
  rw [show sem ((t, AV.gr o sz xs) :: E) ((o, Ob.tok xs.length sz) :: H) = (upd (look E) t (.gr o sz xs), upd (look H) o (.tok xs.length sz)) from by rw [look_upd, look_upd]]
  refine ⟨h1.fm, ⟨h1.rel.defers, h1.rel.size, fun q v hq => ?_⟩, h1.obs, fun q v i hq hi => ?_⟩
  · rcases upd_some hq with ⟨e1, e2⟩ | ⟨e1, e2⟩
    · subst e1; subst e2
      have hv := hs.rel.has q _ he
      obtain ⟨b1, p, v1, v2, v3, e, v5⟩ := V_own hv
      rw [r1] at v1; injection v1 with v1; subst v1
      rw [e]
      rw [Nat.sub_zero]
      refine gr_V rfl rfl (.inr (by rw [v5 (.inl rfl), Nat.zero_mul, r1]; rfl)) r5 r4 (.inr ⟨b, r1, ?_⟩)
      have hlen : ∀ q u, (bs.take (xs.length * sz))[q]? = some u → q < xs.length * sz ∧ bs[q]? = some u := fun q u hu => by
        rw [List.getElem?_take] at hu
        split at hu
        · exact ⟨by assumption, hu⟩
        · cases hu
      refine (AtL.mono (pub_le W b _) (sz := sz) (xs := xs) (cs := bs.take (xs.length * sz)) (AtL.ext r6 fun q v hq hv => by rw [List.getElem?_take, if_pos hq]; exact hv)).row fun q u hq hu => ?_
      rw [Nat.zero_add]
      exact ⟨show W.w.cell? _ = _ by rw [cell_of r2]; exact (hlen q u hu).2, fun hA => by have := hA.1 rfl; omega⟩
    · exact h1.rel.has q v e2
  · rcases upd_some hq with ⟨e1, e2⟩ | ⟨e1, e2⟩
    · subst e2
      have hi : i = o := hi
      subst hi
      exact ⟨_, upd_self _ _ _⟩
    · exact h1.ids q v i e2 hi
end
end Go.Vm

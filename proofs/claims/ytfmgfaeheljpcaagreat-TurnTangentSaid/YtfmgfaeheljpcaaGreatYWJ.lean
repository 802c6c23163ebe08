/- The abstract machine, part thirty-four: parts of arrays without more room. -/
import Derived.Test.YtfmgfaeheljpcaaGreatYWI
import Derived.Lib.AppendZeros
set_option linter.unusedVariables false
set_option linter.unusedSimpArgs false
namespace Go.Vm
open Go
section
section
variable {c : Cx} {s : St} {p : Pl}
noncomputable def nxS3 (tb : Nat → Option TI) (n : Nat) (s : St) : Option (Pl × AV × Int × Int) := match nxA tb n s with
  | some (p, o, args) => match o.op with
    | .slice T _ lo hi mx => match tb T with
      | some ti => match ti.z, slArgs lo hi mx args with
        | .sl _ _, some (a, none, some h, some m) => some (p, a, h, m)
        | _, _ => none
      | none => none
    | _ => none
  | none => none
/-- the first i of an array of one's own, without more room -/
theorem S3 (i : Nat) {o sz l n : Nat} {h' m : Int} {a : AV} (h : nxS3 c.tb c.n s = some (p, a, h', m)) (ha : a = .own o sz l n ∨ a = .ow3 o sz l n) (h0 : 0 < i) (hi : i ≤ n) (k : p.nx c (.ow3 o sz l i)) (e1 : h' = i := by first | exact rfl | omega) (e2 : m = i := by first | exact rfl | omega) : StP c s := by
  subst e1; subst e2
  unfold nxS3 at h
  split at h <;> try cases h
  rename_i hA
  split at h <;> try cases h
  rename_i ho
  split at h <;> try cases h
  rename_i ti ht
  split at h <;> cases h
  rename_i hz hs
  refine nxA_ok (us := []) hA ?_ (Pl.nx_nil k)
  rw [ho]
  have hr : sl3 (i : Int) (i : Int) a = some (.ow3 o sz l i) := by rcases ha with rfl | rfl <;> (rw [sl3, if_pos ⟨by omega, by omega, rfl⟩]; simp)
  simp only [F, Fp, ht, hz, hs, hr]
  rw [if_neg (fun h => by omega)]
/-- none of it -/
theorem S30 {a : AV} {h' m : Int} (h : nxS3 c.tb c.n s = some (p, a, h', m)) (ha : isSl a = true) (k : p.nx c .nil) (e1 : h' = 0 := by first | exact rfl | omega) (e2 : m = 0 := by first | exact rfl | omega) : StP c s := by
  subst e1; subst e2
  unfold nxS3 at h
  split at h <;> try cases h
  rename_i hA
  split at h <;> try cases h
  rename_i ho
  split at h <;> try cases h
  rename_i ti ht
  split at h <;> cases h
  rename_i hz hs
  refine nxA_ok (us := []) hA ?_ (Pl.nx_nil k)
  rw [ho]
  simp only [F, Fp, ht, hz, hs]
  simp only [ha, true_and, and_self, if_true]
/-- all but the first i of such a part -/
theorem D3 (i : Nat) {o sz l n : Nat} {i' : Int} (h : nxS c.tb c.n s = some (p, .ow3 o sz l n, some i', none)) (hi : i ≤ n) (k : p.nx c (.ow3 o sz (l + i) (n - i))) (e : i' = i := by first | exact rfl | omega) : StP c s := by
  subst e
  refine nxS_ok h ?_ k
  rw [slA, if_pos ⟨by omega, by omega⟩]; simp
noncomputable def nxE3 (tb : Nat → Option TI) (n : Nat) (s : St) : Option (Pl × Nat × Nat × Nat × Nat × Int) := match nxA tb n s with
  | some (p, o, [.ow3 q sz l m, .d (.int _ j)]) => match o.op with
    | .indexAddr T _ _ => match tb T with
      | some ti => match ti.z, Nat.beq sz ti.e.size with
        | .sl _ _, true => some (p, q, sz, l, m, j)
        | _, _ => none
      | none => none
    | _ => none
  | _ => none
/-- an element's place in such a part -/
theorem E3 (i : Nat) {q sz m : Nat} {j : Int} (h : nxE3 c.tb c.n s = some (p, q, sz, 0, m, j)) (hi : i < m) (k : p.nx c (.el q sz i 0)) (hj : j = i := by first | exact rfl | omega) : StP c s := by
  subst hj
  unfold nxE3 at h
  split at h <;> try cases h
  rename_i hA
  split at h <;> try cases h
  rename_i ho
  split at h <;> try cases h
  rename_i ti ht
  split at h <;> cases h
  rename_i hz hb
  refine nxA_ok (us := []) hA ?_ (Pl.nx_nil k)
  rw [ho]
  simp only [F, Fp, ht, hz, ixA]
  rw [if_pos ⟨by omega, by omega, Nat.eq_of_beq_eq_true hb⟩]
  simp
/-- a nil slice is a datum -/
theorem Nd (t sz : Nat) {K : List Kt} {E : Env} {H : Hpl} (h : nxJ c.tb c.n s = some (K, E, H)) (k : StP c (.j [] K ((t, .d (.sl sz [])) :: E) H)) (hv : look E t = some .nil := by exact rfl) : StP c s := by
  unfold nxJ at h
  split at h <;> cases h
  rename_i hr
  refine go 1000 hr ?_
  rintro a w ⟨s0, W, θ, hw, hs, hθ, rfl⟩
  refine k a w ⟨_, W, θ, hw, ?_, hθ, rfl⟩
  rw [show sem ((t, AV.d (.sl sz [])) :: E) H = (upd (look E) t (.d (.sl sz [])), look H) from by rw [look_upd]]
  refine ⟨hs.fm, ⟨hs.rel.defers, hs.rel.size, fun q v hq => ?_⟩, hs.obs, fun q v i hq hi => ?_⟩
  · rcases upd_some hq with ⟨e1, e2⟩ | ⟨e1, e2⟩
    · subst e1; subst e2
      obtain ⟨p, e⟩ := V_nil (hs.rel.has q _ hv)
      rw [e]
      exact sl_V rfl (Nat.le_refl _) (by decide) (.inl rfl)
    · exact hs.rel.has q v e2
  · rcases upd_some hq with ⟨e1, e2⟩ | ⟨e1, e2⟩
    · subst e2; exact hi.elim
    · exact hs.ids q v i e2 hi
end
end
section
def isBS : Op → Bool
  | .buildSlice _ _ _ => true
  | _ => false
/-- the slots that literals are put in -/
def litS : List Oper → List Nat
  | [] => []
  | o :: l => match isBS o.op, o.dst with
    | true, some d => d :: litS l
    | _, _ => litS l
def litOk (E : Env) (LB : List Nat) (L : List Oper) : Bool := (LB.all fun b => !hasK E b) && L.all fun o => match o.dst with
  | none => true
  | some d => !inL d LB || isBS o.op
/-- an append to a literal: where its result goes -/
def apD (LB : List Nat) (k : Oper) : Option Nat := match k.op, k.dst with
  | .call ⟨.builtin .append, ⟨[.tmp b, _]⟩, _⟩, some d => match inL b LB with
    | true => some d
    | false => none
  | _, _ => none
def ldap (LB : List Nat) (L : List Oper) (D : List Nat) (E : Env) (T : Trk) (k i : Oper) : Bool := match k.op, apD LB i with
  | .load _ (.tmp a), some d => match bnd D E T a with
    | some la => apart L k.dst i && apart L i.dst k && !inL d la
    | none => false
  | _, _ => false
def nwap (LB : List Nat) (L : List Oper) (k i : Oper) : Bool := match isNew k.op, k.dst, apD LB i with
  | true, some dk, some d => apart L k.dst i && apart L i.dst k
  | _, _, _ => false
def ZL (LB : List Nat) (s : S) : Prop := ∀ b, inL b LB = true → s.1 b = none ∨ s.1 b = some .un ∨ ∃ sz xs, s.1 b = some (.lit sz xs)
section
variable {tb : Nat → Option TI}
theorem srcL_g {g g' : Hp} {z : D} {sz : Nat} {c : AV} {ys : List D} (hg : ∀ o s xs, g o = some (.arr s xs) → g' o = some (.arr s xs)) (h : srcL g z sz c = some ys) : srcL g' z sz c = some ys := by
  unfold srcL at h ⊢
  split at h
  · split at h <;> try cases h
    rename_i ho
    rw [hg _ _ _ ho]; exact h
  · split at h <;> try cases h
    rename_i ho
    rw [hg _ _ _ ho]; exact h
  · exact h
theorem ap_us {LB : List Nat} {k : Oper} {d : Nat} (hk : apD LB k = some d) {s : S} (hz : ZL LB s) {r : AV × List (Nat × Ob)} {g : Hp} (h : eff tb k (s.1, g) = some r) : k.dst = some d ∧ isCall k = false ∧ g d = none ∧ (r.2 = [] ∨ ∃ ob, r.2 = [(d, ob)]) ∧ ∀ g', g' d = none → (∀ o s xs, g o = some (.arr s xs) → g' o = some (.arr s xs)) → eff tb k (s.1, g') = some r := by
  unfold apD at hk
  split at hk <;> try cases hk
  rename_i b y tys d' ho hd
  split at hk <;> cases hk
  rename_i hb
  unfold eff at h
  split at h <;> try cases h
  rename_i as has
  split at h <;> try cases h
  rename_i hst
  have has0 := has
  have has : getEs s.1 [.tmp b, y] = some as := by rw [ho] at has; exact has
  simp only [getEs, getE] at has
  split at has <;> try cases has
  rename_i v hv
  split at has <;> try cases has
  rename_i as' has'
  split at has' <;> try cases has'
  rename_i w hw
  have htys : ∃ T T', tys = ⟨[T, T']⟩ := by
    rcases tys with ⟨_ | ⟨T, _ | ⟨T', _ | ⟨U, l⟩⟩⟩⟩
    · rw [ho] at h; simp [F, Fp] at h
    · rw [ho] at h; simp [F, Fp] at h
    · exact ⟨_, _, rfl⟩
    · rw [ho] at h; simp [F, Fp] at h
  obtain ⟨T, T', rfl⟩ := htys
  rcases hz b hb with e | e | ⟨sz, xs, e⟩
  · rw [e] at hv; cases hv
  · rw [e] at hv; injection hv with hv; subst hv
    exfalso
    rw [ho] at h
    simp only [F] at h
    repeat' split at h
    all_goals first
      | (cases h; done)
      | (simp [appR] at h; done)
      | simp_all [Fp, appR]
  · rw [e] at hv; injection hv with hv; subst hv
    rw [ho] at h
    simp only [F, hd, Option.getD_some] at h
    split at h <;> try cases h
    rename_i hT
    split at h <;> try cases h
    rename_i ti ht hgd
    split at h <;> try cases h
    rename_i sz' xs' hz'
    split at h <;> try cases h
    rename_i ys hys
    refine ⟨hd, by unfold isCall; rw [ho]; rfl, hgd, ?_, fun g' h1 h2 => ?_⟩
    · simp only [appR] at h
      split at h
      · cases h; exact .inr ⟨_, rfl⟩
      · split at h <;> cases h
        exact .inl rfl
    · unfold eff
      rw [has0]
      simp only [hst]
      rw [ho]
      subst hT
      have hs' := srcL_g h2 hys
      rw [hz'] at hs'
      simp only [F, hd, Option.getD_some, ht, h1, hz', hs', if_true]
      exact h
theorem ldap_par {LB : List Nat} {L : List Oper} {E : Env} {T : Trk} {k i : Oper} (h : ldap LB L (dsL L) E T k i = true) : isCall k = false ∧ apart L k.dst i = true ∧ apart L i.dst k = true ∧ (∃ d, apD LB i = some d) ∧ ∀ {s : S}, ZT (dsL L) E T s → ZL LB s →
    (∀ {rk}, efw tb L k s = some rk → rk.2 = []) ∧ ∀ {g : Hp} {ri : AV × List (Nat × Ob)}, efw tb L i (s.1, g) = some ri → ∀ rk, efw tb L k (s.1, g) = some rk ↔ efw tb L k (s.1, upds g ri.2) = some rk := by
  unfold ldap at h
  split at h <;> try cases h
  rename_i T1 a d hk hi
  split at h <;> try cases h
  rename_i la hla
  simp only [Bool.and_eq_true, Bool.not_eq_true'] at h
  obtain ⟨⟨h1, h2⟩, h3⟩ := h
  refine ⟨by unfold isCall; rw [hk]; rfl, h1, h2, ⟨d, hi⟩, fun {s} hz hl => ⟨fun {rk} hr => ?_, fun {g ri} hri rk => ?_⟩⟩
  · rcases efw_cases hr with ⟨_, e, _⟩ | ⟨_, e⟩
    · exact e
    · exact (eff1 (o := k) (by rw [hk]; rfl) (e := s.1) (g := s.2) e).1
  · have key : ∀ {g g' : Hp}, (∀ o, o ≠ d → g o = g' o) → efw tb L k (s.1, g) = some rk → efw tb L k (s.1, g') = some rk := by
      intro g g' hg hr
      rcases efw_cases hr with ⟨_, _, e⟩ | ⟨hw, e⟩
      · exact e g'
      · have : ∃ v, s.1 a = some v := by
          unfold eff at e
          split at e <;> try cases e
          rename_i as has
          rw [hk] at has
          simp only [Op.operands, getEs, getE] at has
          split at has <;> try cases has
          exact ⟨_, by assumption⟩
        obtain ⟨v, hv⟩ := this
        refine efw_of (s := (s.1, g)) hw (ld_eq hk hv (fun o ho => hg o fun hb => ?_) e).2
        subst hb
        rw [inL_iff.2 (bnd_ok hz hla hv ho)] at h3; cases h3
    have hu : ∀ o, o ≠ d → g o = upds g ri.2 o := by
      intro o hod
      rcases efw_cases hri with ⟨_, e, _⟩ | ⟨_, e⟩
      · rw [e]; rfl
      · obtain ⟨_, _, _, e1 | ⟨ob, e1⟩, _⟩ := ap_us hi hl e
        · rw [e1]; rfl
        · rw [e1]; exact (upd_ne hod).symm
    exact ⟨key hu, key fun o ho => (hu o ho).symm⟩
theorem new_us {o : Oper} (hn : isNew o.op = true) {s : S} {r : AV × List (Nat × Ob)} (h : eff tb o s = some r) : ∃ a, r.2 = [(o.dst.getD 0, .var a)] ∧ s.2 (o.dst.getD 0) = none ∧ ∀ g', g' (o.dst.getD 0) = none → eff tb o (s.1, g') = some r := by
  have hc : cls o.op = 2 := by unfold isNew at hn; split at hn <;> first | (rename_i e; rw [e]; rfl) | cases hn
  obtain ⟨ob, h1, h2, h3⟩ := eff2 (e := s.1) (g := s.2) hc h
  have : ∃ a, r.2 = [(o.dst.getD 0, .var a)] := by
    unfold eff at h
    split at h <;> try cases h
    split at h <;> try cases h
    unfold isNew at hn
    split at hn <;> try cases hn
    all_goals
      rename_i ho
      rw [ho] at h
      simp only [F] at h
    · split at h <;> cases h; exact ⟨_, rfl⟩
    · split at h <;> try cases h
      split at h <;> cases h; exact ⟨_, rfl⟩
  obtain ⟨a, ha⟩ := this
  exact ⟨a, ha, h2, h3⟩
theorem nwap_u {LB : List Nat} {L : List Oper} {k i : Oper} (h : nwap LB L k i = true) : isNew k.op = true ∧ isCall k = false ∧ apart L k.dst i = true ∧ apart L i.dst k = true ∧ ∃ dk d, k.dst = some dk ∧ apD LB i = some d := by
  unfold nwap at h
  split at h <;> try cases h
  rename_i dk d h1 h2 h3
  simp only [Bool.and_eq_true] at h
  refine ⟨h1, ?_, h.1, h.2, dk, d, h2, h3⟩
  unfold isNew at h1
  unfold isCall
  split at h1 <;> first | (rename_i e; rw [e]; rfl) | cases h1
theorem nwap_par {LB : List Nat} {L : List Oper} {k i : Oper} (h : nwap LB L k i = true) {s : S} (hl : ZL LB s) {rk ri : AV × List (Nat × Ob)} :
    (efw tb L k s = some rk → efw tb L i s = some ri → efw tb L i (s.1, upds s.2 rk.2) = some ri ∧ efw tb L k (s.1, upds s.2 ri.2) = some rk ∧ upds (upds s.2 ri.2) rk.2 = upds (upds s.2 rk.2) ri.2) ∧
    (efw tb L k s = some rk → efw tb L i (s.1, upds s.2 rk.2) = some ri → efw tb L i s = some ri) ∧ (efw tb L i s = some ri → efw tb L k (s.1, upds s.2 ri.2) = some rk → efw tb L k s = some rk) := by
  obtain ⟨hn, _, a1, a2, dk, d, hdk, hd⟩ := nwap_u h
  have hi0 : i.dst = some d := by
    unfold apD at hd
    split at hd <;> try cases hd
    rename_i h1 h2
    split at hd <;> cases hd
    exact h2
  have hne : dk ≠ d := dst_ne a1 hdk hi0
  refine ⟨fun h1 h2 => ?_, fun h1 h2 => ?_, fun h1 h2 => ?_⟩
  · rcases efw_cases h1 with ⟨_, e1, f1⟩ | ⟨w1, e1⟩
    · rw [e1]; exact ⟨h2, f1 _, rfl⟩
    · obtain ⟨a, k1, k2, k3⟩ := new_us hn e1
      rw [hdk] at k1 k2 k3
      simp only [Option.getD_some] at k1 k2 k3
      rcases efw_cases h2 with ⟨_, e2, f2⟩ | ⟨w2, e2⟩
      · rw [e2]; exact ⟨f2 _, h1, rfl⟩
      · obtain ⟨_, _, j2, j3, j4⟩ := ap_us hd hl (g := s.2) e2
        refine ⟨?_, ?_, ?_⟩
        · rw [k1]
          refine efw_of (s := s) w2 (j4 _ (by show upd s.2 dk _ d = none; rw [upd_ne fun e => hne e.symm]; exact j2) fun o sz xs ho => ?_)
          show upd s.2 dk _ o = _
          rw [upd_ne fun e => by rw [e, k2] at ho; cases ho]; exact ho
        · refine efw_of (s := s) w1 (k3 _ ?_)
          rcases j3 with e | ⟨ob, e⟩ <;> rw [e]
          · exact k2
          · show upd s.2 d ob dk = none; rw [upd_ne hne]; exact k2
        · rw [k1]
          rcases j3 with e | ⟨ob, e⟩ <;> rw [e]
          · rfl
          · exact upd_comm (fun e => hne e.symm)
  · rcases efw_cases h1 with ⟨_, e1, f1⟩ | ⟨w1, e1⟩
    · rw [e1] at h2; exact h2
    · obtain ⟨a, k1, k2, k3⟩ := new_us hn e1
      rw [hdk] at k1 k2
      simp only [Option.getD_some] at k1 k2
      rcases efw_cases h2 with ⟨_, e2, f2⟩ | ⟨w2, e2⟩
      · exact f2 s.2
      · obtain ⟨_, _, j2, j3, j4⟩ := ap_us (s := s) hd hl e2
        rw [k1] at j2 j4
        have j2 : upd s.2 dk (.var a) d = none := j2
        rw [upd_ne fun e => hne e.symm] at j2
        refine efw_of (s := s) w2 (j4 s.2 j2 fun o sz xs ho => ?_)
        have ho : upd s.2 dk (.var a) o = _ := ho
        rcases upd_some ho with ⟨_, e⟩ | ⟨_, e⟩
        · cases e
        · exact e
  · rcases efw_cases h1 with ⟨_, e1, f1⟩ | ⟨w1, e1⟩
    · rw [e1] at h2; exact h2
    · obtain ⟨_, _, j2, j3, j4⟩ := ap_us hd hl (g := s.2) e1
      rcases efw_cases h2 with ⟨_, e2, f2⟩ | ⟨w2, e2⟩
      · exact f2 s.2
      · obtain ⟨a, k1, k2, k3⟩ := new_us (s := (s.1, upds s.2 ri.2)) hn e2
        rw [hdk] at k2 k3
        simp only [Option.getD_some] at k2 k3
        refine efw_of (s := s) w2 (k3 s.2 ?_)
        rcases j3 with e | ⟨ob, e⟩ <;> rw [e] at k2
        · exact k2
        · have k2 : upd s.2 d ob dk = none := k2
          rwa [upd_ne hne] at k2
theorem bs_lit {o : Oper} (ho : isBS o.op = true) {s : S} {r : AV × List (Nat × Ob)} (h : eff tb o s = some r) : ∃ sz xs, r.1 = .lit sz xs := by
  unfold eff at h
  split at h <;> try cases h
  split at h <;> try cases h
  unfold isBS at ho
  split at ho <;> try cases ho
  rename_i ho
  rw [ho] at h
  simp only [F, Fp] at h
  split at h <;> try cases h
  rename_i hq
  split at hq <;> try cases hq
  split at hq <;> try cases hq
  split at hq <;> cases hq
  exact ⟨_, _, rfl⟩
theorem ZL.aft {E : Env} {LB : List Nat} {L : List Oper} (hL : litOk E LB L = true) {o : Oper} (ho : o ∈ L) {s : S} (hz : ZL LB s) {r : AV × List (Nat × Ob)} (hr : r.1 = .un ∨ isCall o = true ∨ eff tb o s = some r) : ZL LB (aft s o r) := fun b hb => by
  by_cases hd : o.dst = some b
  · rw [aft1' hd]
    simp only [litOk, Bool.and_eq_true] at hL
    have := List.all_eq_true.1 hL.2 o ho
    rw [hd] at this
    simp only [hb, Bool.not_true, Bool.false_or] at this
    rcases hr with hr | hr | hr
    · rw [hr]; exact .inr (.inl rfl)
    · obtain ⟨x, as, tys, hc⟩ := isCall_op hr
      rw [hc] at this; cases this
    · obtain ⟨sz, xs, e⟩ := bs_lit this hr
      rw [e]; exact .inr (.inr ⟨_, _, rfl⟩)
  · rw [aft1 hd]; exact hz b hb
def spL (LB : List Nat) (L : List Oper) (E : Env) (T : Trk) (k i : Oper) : Bool := ldap LB L (dsL L) E T k i || ldap LB L (dsL L) E T i k || nwap LB L k i || nwap LB L i k
def chkL : St → Bool
  | .o _ _ L _ _ E _ => litOk E (litS L) L && trkOk (dsL L) E (trk (dsL L) E L []) L && chkAll L (spL (litS L) L E (trk (dsL L) E L [])) [] [] L
  | _ => false
theorem Dm.lit {L : List Oper} {E : Env} {T : Trk} {LB : List Nat} (hL : litOk E LB L = true) (hT : trkOk (dsL L) E T L = true) : Dm tb L (spL LB L E T) fun s => ZT (dsL L) E T s ∧ ZL LB s := by
  have fin : ∀ {k i : Oper} {s : S} {rk ri : AV × List (Nat × Ob)}, apart L i.dst k = true → upds (upds s.2 ri.2) rk.2 = upds (upds s.2 rk.2) ri.2 → Vm.aft (Vm.aft s i ri) k rk = Vm.aft (Vm.aft s k rk) i ri := by
    intro k i s rk ri h hg
    unfold Vm.aft
    rw [S.put_g, S.put_g, hg]
    have e1 := S.put_e (s := s) (g := upds s.2 ri.2) (g' := s.2) (d := i.dst) (v := ri.1)
    have e2 := S.put_e (s := s) (g := upds s.2 rk.2) (g' := s.2) (d := k.dst) (v := rk.1)
    rw [e1, e2]
    exact put_put (s := s) (fun a b ha hb => dst_ne h ha hb) rfl
  have one : ∀ {k i : Oper} {s : S} {rk ri : AV × List (Nat × Ob)}, ldap LB L (dsL L) E T k i = true → ZT (dsL L) E T s ∧ ZL LB s → efw tb L k s = some rk → efw tb L i s = some ri → efw tb L i (Vm.aft s k rk) = some ri ∧ efw tb L k (Vm.aft s i ri) = some rk ∧ Vm.aft (Vm.aft s i ri) k rk = Vm.aft (Vm.aft s k rk) i ri := by
    intro k i s rk ri h hz h1 h2
    obtain ⟨c1, a1, a2, _, hh⟩ := ldap_par (tb := tb) h
    obtain ⟨b1, b2⟩ := hh hz.1 hz.2
    have e := b1 h1
    exact ⟨by rw [efw_aft a1, e]; exact h2, by rw [efw_aft a2]; exact (b2 (g := s.2) h2 rk).1 h1, fin a2 (by rw [e]; rfl)⟩
  have two : ∀ {k i : Oper} {s : S} {rk ri : AV × List (Nat × Ob)}, nwap LB L k i = true → ZL LB s → efw tb L k s = some rk → efw tb L i s = some ri → efw tb L i (Vm.aft s k rk) = some ri ∧ efw tb L k (Vm.aft s i ri) = some rk ∧ Vm.aft (Vm.aft s i ri) k rk = Vm.aft (Vm.aft s k rk) i ri := by
    intro k i s rk ri h hz h1 h2
    obtain ⟨_, _, a1, a2, _⟩ := nwap_u h
    obtain ⟨b1, b2, b3⟩ := (nwap_par (tb := tb) h hz).1 h1 h2
    exact ⟨by rw [efw_aft a1]; exact b1, by rw [efw_aft a2]; exact b2, fin a2 b3⟩
  have ncA : ∀ {i : Oper} {d : Nat}, apD LB i = some d → isCall i = false := fun {i d} h => by
    unfold apD at h
    split at h <;> try cases h
    rename_i h1 h2
    unfold isCall; rw [h1]; rfl
  refine ⟨fun {k i} h => ?_, fun {k i s rk ri} h hz h1 h2 => ?_, fun {k i s rk ri} h hz h1 h2 => ?_, fun {k s r} hk hc hz h => ?_, fun {k s r} hk hc hz h => ⟨ZT.aft (tb := tb) hT hk hz.1 (.inr (.inl hc)), ZL.aft (tb := tb) hL hk hz.2 (.inr (.inl hc))⟩⟩
  · simp only [spL, Bool.or_eq_true] at h
    rcases h with ((h | h) | h) | h
    · obtain ⟨c1, _, _, ⟨d, hd⟩, _⟩ := ldap_par (tb := tb) h; exact ⟨c1, ncA hd⟩
    · obtain ⟨c1, _, _, ⟨d, hd⟩, _⟩ := ldap_par (tb := tb) h; exact ⟨ncA hd, c1⟩
    · obtain ⟨_, c1, _, _, dk, d, _, hd⟩ := nwap_u h; exact ⟨c1, ncA hd⟩
    · obtain ⟨_, c1, _, _, dk, d, _, hd⟩ := nwap_u h; exact ⟨ncA hd, c1⟩
  · simp only [spL, Bool.or_eq_true] at h
    rcases h with ((h | h) | h) | h
    · exact one h hz h1 h2
    · obtain ⟨p1, p2, p3⟩ := one h hz h2 h1; exact ⟨p2, p1, p3.symm⟩
    · exact two h hz.2 h1 h2
    · obtain ⟨p1, p2, p3⟩ := two h hz.2 h2 h1; exact ⟨p2, p1, p3.symm⟩
  · simp only [spL, Bool.or_eq_true] at h
    rcases h with ((h | h) | h) | h
    · obtain ⟨c1, a1, a2, _, hh⟩ := ldap_par (tb := tb) h
      rw [efw_aft a1, (hh hz.1 hz.2).1 h1] at h2
      exact h2
    · obtain ⟨c1, a1, a2, _, hh⟩ := ldap_par (tb := tb) h
      rw [efw_aft a2] at h2
      exact ((hh hz.1 hz.2).2 (g := s.2) h1 ri).2 h2
    · obtain ⟨_, _, a1, a2, _⟩ := nwap_u h
      rw [efw_aft a1] at h2
      exact (nwap_par (tb := tb) h hz.2).2.1 h1 h2
    · obtain ⟨_, _, a1, a2, _⟩ := nwap_u h
      rw [efw_aft a2] at h2
      exact (nwap_par (tb := tb) h hz.2).2.2 h1 h2
  · have hr : r.1 = .un ∨ isCall k = true ∨ eff tb k s = some r := by
      rcases efw_cases h with ⟨hw, _, e⟩ | ⟨_, e⟩
      · refine .inl ?_
        unfold efw at h
        rw [hw] at h
        simp only at h
        split at h <;> cases h
        rfl
      · exact .inr (.inr e)
    exact ⟨ZT.aft (tb := tb) hT hk hz.1 hr, ZL.aft (tb := tb) hL hk hz.2 hr⟩
end
section
variable {c : Cx} {s : St}
/-- a drawn region in which an append to a literal is not ordered against a load or a new variable -/
theorem Dl {s' : St} (h : nxD c.tb c.n s = some s') (k : StP c s') (hchk : chkL s' = true := by exact rfl) : StP c s := by
  unfold nxD at h
  split at h <;> try cases h
  rename_i hr
  split at h <;> cases h
  rename_i hok
  simp only [chkL, Bool.and_eq_true] at hchk
  obtain ⟨⟨h1, h2⟩, h3⟩ := hchk
  refine go 1000 hr (J.draw (Dm.lit h1 h2) ⟨ZT.start h2, fun b hb => .inl ?_⟩ hok h3 k)
  simp only [litOk, Bool.and_eq_true] at h1
  have := List.all_eq_true.1 h1.1 b (inL_iff.1 hb)
  rw [Bool.not_eq_true'] at this
  exact hasK_none this
variable {p : Pl}
/-- an append of a part of an array: its slot, an element's size, the part, the array, to what -/
noncomputable def nxQ (tb : Nat → Option TI) (n : Nat) (s : St) : Option (Pl × Nat × Nat × Nat × Nat × List D × AV) := match nxA tb n s with
  | some (p, o, [a, b]) => match o.op with
    | .call ⟨.builtin .append, _, ⟨[T, T']⟩⟩ => match Nat.beq T T', tb T, look p.H (o.dst.getD 0) with
      | true, some ti, none => match Nat.ble ti.eb 128, ti.z, b with
        | true, .sl sz _, .own q s l m => match look p.H q with
          | some (.arr s' xs) => match Nat.beq s sz && Nat.beq s' sz with
            | true => some (p, o.dst.getD 0, sz, l, m, xs, a)
            | false => none
          | _ => none
        | true, .sl sz _, .ow3 q s l m => match look p.H q with
          | some (.arr s' xs) => match Nat.beq s sz && Nat.beq s' sz with
            | true => some (p, o.dst.getD 0, sz, l, m, xs, a)
            | false => none
          | _ => none
        | _, _, _ => none
      | _, _, _ => none
    | _ => none
  | _ => none
theorem nxQ_ok {d sz l m : Nat} {xs ys : List D} {a v : AV} {us : Hpl} (h : nxQ c.tb c.n s = some (p, d, sz, l, m, xs, a)) (hl : l + m ≤ xs.length) (hy : (xs.drop l).take m = ys) (hF : ∀ ti : TI, ti.eb ≤ 128 → appR d (look p.H) ti sz ys a = some (v, us)) (k : p.nx' c v us) : StP c s := by
  unfold nxQ at h
  split at h <;> try cases h
  rename_i p' o a' b hA
  split at h <;> try cases h
  rename_i as T T' ho
  split at h <;> try cases h
  rename_i ti hT hti hd
  have hT := Nat.eq_of_beq_eq_true hT
  subst hT
  have fin : ∀ {sz' xs0}, ti.eb ≤ 128 → ti.z = .sl sz' xs0 → srcL (look p'.H) ti.z sz' b = some ys → (p', o.dst.getD 0, sz', a') = (p, d, sz, a) → StP c s := by
    intro sz' xs0 he hz hs e
    injection e with e1 e2; injection e2 with e2 e3; injection e3 with e3 e4
    subst e1; subst e2; subst e3; subst e4
    refine nxA_ok hA ?_ k
    rw [ho]
    simp only [F, if_true, hti, hd, hz]
    rw [hz] at hs
    rw [hs]
    exact hF ti he
  split at h
  · rename_i he hz
    split at h <;> try cases h
    rename_i hq
    split at h <;> cases h
    rename_i hs
    rw [Bool.and_eq_true] at hs
    have h1 := Nat.eq_of_beq_eq_true hs.1
    have h2 := Nat.eq_of_beq_eq_true hs.2
    exact fin (Nat.le_of_ble_eq_true he) hz (by simp only [srcL, hq]; rw [if_pos ⟨h2, h1, hl⟩, hy]) rfl
  · rename_i he hz
    split at h <;> try cases h
    rename_i hq
    split at h <;> cases h
    rename_i hs
    rw [Bool.and_eq_true] at hs
    have h1 := Nat.eq_of_beq_eq_true hs.1
    have h2 := Nat.eq_of_beq_eq_true hs.2
    exact fin (Nat.le_of_ble_eq_true he) hz (by simp only [srcL, hq]; rw [if_pos ⟨h2, h1, hl⟩, hy]) rfl
  · cases h
/-- to nothing -/
theorem AqN {d sz l m : Nat} {xs : List D} (zs : List D) (h : nxQ c.tb c.n s = some (p, d, sz, l, m, xs, .nil)) (hl : l + m ≤ xs.length) (hz : (xs.drop l).take m = zs) (hr : zs.length ≤ 1099511627776) (k : p.nx' c (.gr d sz zs) [(d, .tok zs.length sz)]) : StP c s :=
  nxQ_ok h hl hz (fun ti he => by simp [appR, roomy_of hr he]) k
/-- to a part of an array without more room -/
theorem Aq3 {d sz o n l m : Nat} {xs ws : List D} (zs : List D) (h : nxQ c.tb c.n s = some (p, d, sz, l, m, xs, .ow3 o sz 0 n)) (ht : look p.H o = some (.arr sz ws)) (hl : l + m ≤ xs.length) (hn : n ≤ ws.length) (hz : ws.take n ++ (xs.drop l).take m = zs) (h0 : 0 < m) (hr : zs.length ≤ 1099511627776) (k : p.nx' c (.own d sz 0 zs.length) [(d, .arr sz zs)]) : StP c s := by
  subst hz
  have e1 : ((xs.drop l).take m).length = m := by simp; omega
  have e : (ws.take n ++ (xs.drop l).take m).length = n + m := by rw [List.length_append, e1, List.length_take]; omega
  rw [e] at hr k
  refine nxQ_ok h hl rfl (fun ti he => ?_) k
  simp only [appR, ht]
  rw [if_pos ⟨by rw [e1]; exact roomy_of hr he, rfl, hn, rfl, rfl⟩, if_neg (by omega), e1]
/-- .. nothing -/
theorem Aq30 {d sz o n l m : Nat} {xs ws : List D} (h : nxQ c.tb c.n s = some (p, d, sz, l, m, xs, .ow3 o sz 0 n)) (ht : look p.H o = some (.arr sz ws)) (hl : l + m ≤ xs.length) (hn : n ≤ ws.length) (h0 : m = 0) (hr : n ≤ 1099511627776) (k : p.nx' c (.ow3 o sz 0 n) []) : StP c s := by
  subst h0
  refine nxQ_ok (ys := []) h hl (List.take_zero) (fun ti he => ?_) k
  simp only [appR, ht, List.length_nil, Nat.add_zero]
  rw [if_pos ⟨roomy_of hr he, rfl, hn, rfl, rfl⟩, if_pos trivial]
end
end
section
section
variable {c : Cx} {s : St} {p : Pl}
/-- a step whose outcome is known from elsewhere -/
theorem nxRaw {o : Oper} {v : AV} {us : Hpl} (h : nxO c.tb c.n s = some (p, o)) (hc : isCall o = false) (hdr : p.dr = false) (hr : Raw c.P o (sem p.E p.H) (v, us)) (k : p.nx' c v us) : StP c s := by
  obtain ⟨hw, hd⟩ := nxO_w h
  refine nxO_ok h (.inl ⟨hw, (Wb_eff' hc).2 (.inr ⟨hdr, (v, us), hr, ?_⟩)⟩)
  unfold aft
  rw [sem_put, ← hd]; exact Pl.nx'_eq.1 k
/-- append(nil, make([]T, n)...): its slot, an element's size, n -/
noncomputable def nxAm (tb : Nat → Option TI) (n : Nat) (s : St) : Option (Pl × Oper × Operand × Operand × TypeId × TypeId × TI × Nat × Int) := match nxO tb n s with
  | some (p, o) => match o.op, p.dr with
    | .call ⟨.builtin .append, ⟨[x, y]⟩, ⟨[T, T']⟩⟩, false => match getE (look p.E) x, getE (look p.E) y, tb T, tb T' with
      | some .nil, some (.d (.int .i64 m)), some ti, some ⟨.int _ _, _, _, _⟩ => match look p.H (o.dst.getD 0), ti.z, Nat.ble ti.eb 128 with
        | none, .sl sz _, true => some (p, o, x, y, T, T', ti, sz, m)
        | _, _, _ => none
      | _, _, _, _ => none
    | _, _ => none
  | none => none
end
theorem run_am {P : Program} (w : World) (t tn ty e : TypeId) (i : TypeInfo) (z : Value) (k kn : IntKind) (ht : P.underlying t = some (.slice e)) (htn : P.underlying tn = some (.int kn)) (hi : P.info? e = some i) (hz : i.zero = some z) (q : Option Addr)
    (n : Nat) (h0 : 0 < n) (hs : 0 < i.size) (h63 : (n : Int) ≤ 9223372036854775807) (h48 : n * i.bytes ≤ 281474976710656) :
    (Builtin.append_ #[t, tn] ty #[.slice q 0 0, .int k n]).run P w =
      .ok (.slice (some ⟨w.heap.size, 0, none⟩) n (grownCap w n 0 e)) (w.drew.alloc (.cells (Builtin.zeroCells z.cells n ++ Builtin.zeroCells z.cells (grownCap w n 0 e - n)) e)) := by
  cases q with
  | none => exact Go.Lib.run_append_nil_zeros w t tn ty e i z k kn ht htn hi hz n h0 hs h63 h48
  | some a =>
    have hn : n ≠ 0 := by omega
    have hw : IntKind.i64.wrap (n : Int) = n := by rw [IntKind.wrap_i64]; omega
    have h63' : ¬ (9223372036854775807 < (n : Int)) := by omega
    have h48' : ¬ (281474976710656 < Builtin.nextslicecap n 0 * i.bytes) := by rw [nextslicecap_zero h0]; omega
    have h48i : ¬ (281474976710656 < (n : Int) * (i.bytes : Int)) := by
      rw [← Int.natCast_mul]
      omega
    have hneg : ¬ ((n : Int) < 0) := by omega
    have hns : ¬ (n * i.size = 0) := Nat.mul_ne_zero hn (by omega)
    simp [Builtin.append_, run_underlying ht, run_underlying htn, sizeOf, typeInfo, zeroValue, hi, hz, asInt, asIntOf, hw, hn, hneg, hns, h63', h48', h48i, Question.forced, Builtin.firstCells, loadCells, loadCellsFrom, newRow, grownCap]
section
variable {c : Cx} {s : St} {p : Pl}
theorem ApM {o : Oper} {x y : Operand} {T T' : TypeId} {ti : TI} {sz : Nat} {m : Int} (n : Nat) (h : nxAm c.tb c.n s = some (p, o, x, y, T, T', ti, sz, m)) (h0 : 0 < n) (hr : n ≤ 1099511627776) (k : p.nx' c (.own (o.dst.getD 0) sz 0 n) [(o.dst.getD 0, .arr sz [])]) (hm : m = (n : Int) := by first | exact rfl | omega) : StP c s := by
  subst hm
  unfold nxAm at h
  split at h <;> try cases h
  rename_i p' o' ho
  split at h <;> try cases h
  rename_i x' y' T1 T2 hop hdr
  split at h <;> try cases h
  rename_i m' ti1 kn _ e' eb' ar' hx hy hti hti'
  split at h <;> cases h
  rename_i hd hb hz
  refine nxRaw ho (by unfold isCall; rw [hop]; rfl) hdr (fun N W θ ρ hO hN hB hv => ?_) k
  obtain ⟨hk, _⟩ := c.hT _ _ hti
  obtain ⟨t, u1, _, u3⟩ := hk.u
  rw [hz] at u3
  obtain ⟨E, e, hsz, hez, ii, v0, i1, i2, i3, i4, i5⟩ := u3
  subst e
  obtain ⟨hk', _⟩ := c.hT _ _ hti'
  obtain ⟨t', u1', _, u3'⟩ := hk'.u
  have u3' : t' = .int kn := u3'
  subst u3'
  obtain ⟨q, ex⟩ := V_nil (hv _ _ hx)
  obtain ⟨ey, _⟩ := V_int (hv _ _ hy)
  have hsp : 0 < ii.size := by rw [i2]; exact D.size_pos _
  have hbb : n * ii.bytes ≤ 281474976710656 := by rw [i3]; have := Nat.mul_le_mul hr (Nat.le_of_ble_eq_true hb); omega
  have hrun := run_am (P := c.P) W.w T T' o.type E ii v0 .i64 kn u1 u1' i1 i4 q n h0 hsp (by omega) hbb
  have hge := grownCap_ge W.w n 0 E
  have hlt : grownCap W.w n 0 E < 9223372036854775808 := by
    have := Nat.mod_lt (W.w.tape W.w.drawn (.appendCap n 0 E)) (show 0 < 2 ^ 63 - n by omega)
    simp only [grownCap, Question.cut] at *
    omega
  have hzs : v0.cells.size = sz := by rw [hsz, ← D.zc_len, ← i5]; simp
  obtain ⟨W', θ', e1, e2, e3⟩ := own_new (W := W.tick) (θ := θ) (g := (sem p.E p.H).2) (dd := o.dst.getD 0) (E := E) (sz := sz) (xs := []) (cs := []) (c := grownCap W.w n 0 E) (zs := (Builtin.zeroCells v0.cells n ++ Builtin.zeroCells v0.cells (grownCap W.w n 0 E - n)).toList) (Stp.tick hO).obs hN hB hd (fun i x h => by simp at h) (by simp) (by simp) hlt (by
    rw [List.nil_append, Array.length_toList, Array.size_append, size_zeroCells, size_zeroCells, hzs, ← Nat.add_mul]
    congr 1
    omega)
  obtain ⟨cs, ⟨b, pp, k1, k2, k3, k4, k5⟩, k6⟩ := e3
  subst k4
  have k6 : Value.slice (some ⟨W.tick.size, 0, none⟩) 0 (grownCap W.w n 0 E) = .slice pp 0 ((θ' (o.dst.getD 0)).2 - 0) := k6
  injection k6 with k6 k7 k8
  have k5 := k5 (.inl rfl)
  rw [← k6] at k5
  injection k5 with k5
  injection k5 with k5
  have k5 : W.size = b := k5
  subst k5
  refine ⟨W', θ', .value (.slice (some ⟨W.size, 0, none⟩) n (grownCap W.w n 0 E)), ?_, (Stp.tick hO).trans e2, .inr ⟨_, rfl, own_V (xs := []) k1 (by omega) (by omega) k3⟩, fun i hi => ⟨_, by subst hi; exact upd_self _ _ _⟩⟩
  have h1 : execOp ρ o = (Builtin.append_ #[T, T'] o.type #[ρ x, ρ y] >>= fun v => pure (.value v)) := by
    simp [execOp, hop, resolve, invoke, builtin]
  rw [h1, Sem.run_bind, ex, ey, hrun, e1]
  have fin : ∀ {a b : Array Value}, a = b → (Result.ok (Next.value (.slice (some ⟨W.size, 0, none⟩) n (grownCap W.w n 0 E))) (W.w.drew.alloc (.cells a E)) : Result Next) = .ok (.value (.slice (some ⟨W.size, 0, none⟩) n (grownCap W.w n 0 E))) (W.tick.w.alloc (.cells b E)) := by
    rintro a b rfl; rfl
  exact fin (by simp)
/-- the room of a nil slice -/
noncomputable def nxKp (tb : Nat → Option TI) (n : Nat) (s : St) : Option Pl := match nxA tb n s with
  | some (p, o, [.nil]) => match o.op with
    | .call ⟨.builtin .cap, _, ⟨[T]⟩⟩ => match tb T with
      | some ⟨.sl _ _, _, _, _⟩ => some p
      | _ => none
    | _ => none
  | _ => none
theorem Kp (h : nxKp c.tb c.n s = some p) (k : p.nx c (.d (.int .i64 0))) : StP c s := by
  unfold nxKp at h
  split at h <;> try cases h
  rename_i p' o hA
  split at h <;> try cases h
  rename_i as T ho
  split at h <;> cases h
  rename_i ht
  refine nxA_ok (us := []) hA ?_ (Pl.nx_nil k)
  rw [ho]
  simp [F, Fp, ht]
/-- a part of a nil slice -/
theorem Sn {h' : Int} (h : nxS c.tb c.n s = some (p, .nil, none, some h')) (k : p.nx c .nil) (hh : h' = 0 := by exact rfl) : StP c s := nxS_ok h (by subst hh; rfl) k
/-- a call, the arguments as they stand -/
noncomputable def nxK' (tb : Nat → Option TI) (n : Nat) (s : St) : Option (Pl × FuncId × List AV) := match nxO tb n s with
  | some (p, o) => match o.op with
    | .call ⟨.value x, as, tys⟩ => match callee (look p.E) x, getEs (look p.E) as.toList with
      | some (f, ex), some vs => some (p, f, vs ++ ex)
      | _, _ => none
    | _ => none
  | none => none
theorem CoN {f : FuncId} {as : List AV} {Q : AV → Ob → Prop} (h : nxK' c.tb c.n s = some (p, f, as)) (hc : CO c.P f as Q) (k : ∀ v ob, Q v ob → p.nx' c (v.rnf (rnL [(1000000, p.d.getD 0)])) [(p.d.getD 0, ob.rnf (rnL [(1000000, p.d.getD 0)]))])
    (hk : (chkC as [] [] (p.d.getD 0) p.H && !p.dr) = true := by exact rfl) : StP c s := by
  rw [Bool.and_eq_true, Bool.not_eq_true'] at hk
  obtain ⟨hk, hdr⟩ := hk
  have hk' := hk
  simp only [chkC, Bool.and_eq_true, Bool.not_eq_true'] at hk'
  obtain ⟨⟨⟨⟨⟨k1, k2⟩, k3⟩, k4⟩, k5⟩, k6⟩ := hk'
  have hid : ∀ {a : AV}, a.rnf (rnL []) = a := by
    intro a
    induction a with
    | st a ih => simp only [AV.rnf, ih]
    | tup a ih => simp only [AV.rnf, ih]
    | pr a c iha ihc => simp only [AV.rnf, iha, ihc]
    | _ => rfl
  have hmap : as.map (AV.rnf (rnL [])) = as := by rw [show AV.rnf (rnL []) = id from funext fun a => hid, List.map_id]
  unfold nxK' at h
  split at h <;> try cases h
  rename_i p' o ho
  obtain ⟨hw, hd⟩ := nxO_w ho
  split at h <;> try cases h
  rename_i x as' tys he
  split at h <;> cases h
  rename_i ex vs hvs hf
  have kk : ∀ v ob, Q v ob → WL c.P c.tb p.dr p.L (J c p.K) p.l (S.put ((sem p.E p.H).1, upds (sem p.E p.H).2 [(p.d.getD 0, ob.rnf (rnL [(1000000, p.d.getD 0)]))]) o.dst (v.rnf (rnL [(1000000, p.d.getD 0)]))) := fun v ob hv => by
    have := Pl.nx'_eq.1 (k v ob hv)
    have this : WL c.P c.tb p.dr p.L (J c p.K) p.l (sem (putE p.E p.d _) (_ ++ p.H)) := this
    rw [← hd, sem_put]
    exact this
  refine nxO_ok ho (.inl ⟨hw, ?_⟩)
  unfold Wb
  rw [he]
  refine ⟨_, _, _, hf, hvs, ?_⟩
  rw [hdr] at kk ⊢
  obtain ⟨a1, a2⟩ := chkC_cs hc hk (hasK_none k2) (g := look p.H) (fun o x hx => by simp [look] at hx)
  rw [hmap] at a2
  refine ⟨_, _, .inr rfl, ⟨a1, a2⟩, ?_⟩
  rintro v g' ⟨v0, H', d1, ⟨ob, rfl, d2⟩, rfl, rfl⟩
  have := kk v0 ob d2
  simpa [rfH, rnL] using this
end
/-! a nil slice in a variable becomes a growing one -/
def AV.nl (o sz : Nat) : AV → AV
  | .nil => .gr o sz []
  | .st a => .st (a.nl o sz)
  | .pr a c => .pr (a.nl o sz) (c.nl o sz)
  | a => a
theorem nl_C {W : GW} {θ : Loc} {o sz : Nat} (h0 : θ o = (none, 0)) : ∀ {a : AV} {cs : List Value}, AV.C W θ a cs → AV.C W θ (a.nl o sz) cs := by
  intro a
  induction a with
  | st a ih => intro cs h; exact ih h
  | pr a c iha ihc => intro cs ⟨u, v, h, h1, h2⟩; exact ⟨u, v, h, iha h1, ihc h2⟩
  | nil => intro cs ⟨p, h⟩; exact ⟨p, by rw [h, h0]; rfl, .inl (by rw [h0]), by simp, by rw [h0]; decide, .inl rfl⟩
  | _ => intro cs h; exact h
theorem nl_ids {o sz i : Nat} : ∀ {a : AV}, (a.nl o sz).ids i → i = o ∨ a.ids i := by
  intro a
  induction a with
  | st a ih => exact ih
  | pr a c iha ihc => exact fun h => h.elim (fun h => (iha h).imp id .inl) fun h => (ihc h).imp id .inr
  | nil => exact .inl
  | _ => exact .inr
section
variable {c : Cx} {s : St} {p : Pl}
theorem nvS {K : List Kt} {E : Env} {H : Hpl} (q o' sz : Nat) {a : AV} (hv : look H q = some (.var a)) (hb : (Nat.blt o' 1000000 && !hasK H o') = true) (k : J c K (sem E ((q, .var (a.nl o' sz)) :: (o', .tok 0 sz) :: H))) : J c K (sem E H) := by
  simp only [Bool.and_eq_true, Bool.not_eq_true'] at hb
  have hb1 := nltb hb.1
  have hn : look H o' = none := hasK_none hb.2
  have hq : q ≠ o' := fun e => by rw [e, hn] at hv; cases hv
  rintro x w ⟨s0, W, θ, hw, hs, hθ, rfl⟩
  have st := Stp.new0 (d := o') hs.obs hb1 hn (x := .tok 0 sz) ⟨by simp, by simp, .inl (by simp)⟩ (fun i h => h)
  have h1 := hs.step0 st
  refine k x w ⟨_, W, _, hw, ?_, fun i hi => (st.hi i hi).trans (hθ i hi), rfl⟩
  rw [show sem E ((q, Ob.var (a.nl o' sz)) :: (o', Ob.tok 0 sz) :: H) = (look E, upd (upd (look H) o' (.tok 0 sz)) q (.var (a.nl o' sz))) from by rw [look_upd, look_upd]]
  have hq1 : upd (look H) o' (.tok 0 sz) q = some (.var a) := by rw [upd_ne hq]; exact hv
  have hdom : ∀ {i : Nat} {y : Ob}, upd (look H) o' (.tok 0 sz) i = some y → ∃ z, upd (upd (look H) o' (.tok 0 sz)) q (.var (a.nl o' sz)) i = some z := fun {i y} hy => by
    by_cases e : i = q
    · subst e; exact ⟨_, upd_self _ _ _⟩
    · exact ⟨y, by rw [upd_ne e]; exact hy⟩
  refine ⟨h1.fm, h1.rel, ⟨fun i y hy => ?_, fun i y b hy hl hb => ?_, fun i j y y' b hy hy' hl hl' b1 b2 => ?_, fun i y j hy hj => ?_⟩, fun t v i ht hi => ?_⟩
  · rcases upd_some hy with ⟨e1, e2⟩ | ⟨e1, e2⟩
    · subst e1; subst e2
      obtain ⟨b, cs, T, r1, r2, r3, r4⟩ := h1.obs.r _ _ hq1
      exact ⟨b, cs, T, r1, r2, nl_C (by simp) r3, r4⟩
    · exact h1.obs.r _ _ e2
  · rcases upd_some hy with ⟨e1, e2⟩ | ⟨e1, e2⟩
    · subst e1; exact h1.obs.new _ _ b hq1 rfl hb
    · exact h1.obs.new _ _ b e2 hl hb
  · rcases upd_some hy with ⟨e1, e2⟩ | ⟨e1, e2⟩ <;> rcases upd_some hy' with ⟨f1, f2⟩ | ⟨f1, f2⟩
    · rw [e1, f1]
    · subst e1; exact h1.obs.dis _ _ _ _ b hq1 f2 rfl hl' b1 b2
    · subst f1; exact h1.obs.dis _ _ _ _ b e2 hq1 hl rfl b1 b2
    · exact h1.obs.dis _ _ _ _ b e2 f2 hl hl' b1 b2
  · rcases upd_some hy with ⟨e1, e2⟩ | ⟨e1, e2⟩
    · subst e2
      rcases nl_ids (a := a) hj with h | h
      · exact hdom (y := .tok 0 sz) (by rw [h]; exact upd_self _ _ _)
      · obtain ⟨z, hz⟩ := h1.obs.ids _ _ j hq1 h
        exact hdom hz
    · obtain ⟨z, hz⟩ := h1.obs.ids _ _ j e2 hj
      exact hdom hz
  · obtain ⟨z, hz⟩ := h1.ids t v i ht hi
    exact hdom hz
theorem Nv {K : List Kt} {E : Env} {H : Hpl} (q o' sz : Nat) {a : AV} (h : nxJ c.tb c.n s = some (K, E, H)) (k : StP c (.j [] K E ((q, .var (a.nl o' sz)) :: (o', .tok 0 sz) :: H))) (hv : look H q = some (.var a) := by exact rfl) (hb : (Nat.blt o' 1000000 && !hasK H o') = true := by exact rfl) : StP c s := by
  unfold nxJ at h
  split at h <;> cases h
  rename_i hr
  exact go 1000 hr (nvS q o' sz hv hb k)
end
end
end Go.Vm

/- the reference's towers: lists, sums. -/
import Derived.Test.YtfmgfaeheljpcaaGreatYTB
set_option linter.unusedVariables false
set_option linter.unusedSimpArgs false
set_option maxRecDepth 10000
namespace Go.Proofs.YtfmgfaeheljpcaaGreat.R6
open Go Go.Vm Go.Num Go.Tow Go.Proofs.YtfmgfaeheljpcaaGreat
theorem right_ok {l : List Rat} {p n : Nat} (hx : Ps p l) (hp : p ≤ 8796093022208) (hl : l.length ≤ 1099511627776) (hn : l.length = n) : C0 271 [.d (dqs l), .d (.int .i64 n)] (· = .b true) := by
  refine En Tryz.func271 fun _ _ => ?_
  refine Lo (fun k : Nat => [(0, .d (dqs l)), (1, .d (.int .i64 n)), (5, .d (.int .i64 k))]) (fun _ => []) (fun k => k ≤ l.length) (fun k => l.length - k) 0 [] rfl (by omega) (fun k hk => ?_)
  refine By rfl (fun h => ?_) fun h => ?_ <;> simp only [lq] at h
  · obtain ⟨x, hx'⟩ := qat (l := l) (k := k) (by omega)
    refine Ix k rfl (mp hx') ?_
    refine Ce rfl (R2.Valid_ok (hx x (List.mem_of_getElem? hx')) hp) ?_
    refine No rfl (by simp) ?_
    refine Ar (k + 1 : Nat) rfl ?_
    exact Bk (k + 1) [] rfl (show k + 1 ≤ l.length by omega) (by show l.length - (k + 1) < l.length - k; omega)
  · exact R1 rfl (by exact (show dc (((l.map dq).length : Int) = n) = true by rw [dc_iff, lq, hn]) ▸ .rf rfl)
theorem Tower_ok {t : List (List Rat)} {p : Nat} (ht : Pt p t) (hp : p ≤ 8796093022208) (hl : t.length ≤ 40) : C0 270 [.d (dts t)] (· = .b true) := by
  refine En Tryz.func270 fun _ _ => ?_
  refine Lo (fun k : Nat => [(0, .d (dts t)), (3, .d (.int .i64 k))]) (fun _ => []) (fun k => k ≤ t.length) (fun k => t.length - k) 0 [] rfl (by omega) (fun k hk => ?_)
  refine By rfl (fun h => ?_) fun h => ?_ <;> simp only [lt'] at h
  · obtain ⟨r, hr⟩ : ∃ r, t[k]? = some r := ⟨_, List.getElem?_eq_getElem (by omega)⟩
    obtain ⟨h1, h2⟩ := ht k r hr
    have := p2le (show k ≤ 40 by omega)
    refine Dw rfl ?_
    refine Ix k rfl (mp hr) ?_
    refine Ar (2 ^ k : Nat) rfl ?_ (shl_one (by omega))
    refine Ce rfl (right_ok h2 hp (by omega) h1) ?_
    refine No rfl (by simp) ?_
    refine Ar (k + 1 : Nat) rfl ?_
    exact Bk (k + 1) [] rfl (show k + 1 ≤ t.length by omega) (by show t.length - (k + 1) < t.length - k; omega)
  · exact R0
theorem Formed_ok {t : List (List Rat)} {l : List Rat} {p q : Nat} (ht : Pt p t) (hp : p ≤ 8796093022208) (hx : Ps q l) (hq : q ≤ 8796093022208) (hl : t.length ≤ 39) (hn : l.length = 2 ^ t.length) : C0 216 [.d (dts t), .d (dqs l)] (· = .b true) := by
  have := p2le (show t.length ≤ 39 by omega)
  refine En Tryz.func216 fun _ _ => ?_
  refine Ce rfl (Tower_ok ht hp (by omega)) ?_
  refine Yes rfl rfl ?_
  refine Ar (2 ^ t.length : Nat) rfl ?_ (by simp only [lt']; exact shl_one (by omega))
  refine Ce rfl (right_ok hx hq (by omega) hn) ?_
  exact R0
theorem Zero_ok {l : List Rat} (hl : l.length ≤ 1099511627776) : C0 113 [.d (dqs l)] (· = .b (dc (∀ x ∈ l, x = 0))) := by
  refine En Tryz.func113 fun _ _ => ?_
  refine Lo (fun k : Nat => [(0, .d (dqs l)), (3, .d (.int .i64 k))]) (fun _ => []) (fun k => k ≤ l.length ∧ ∀ x ∈ l.take k, x = 0) (fun k => l.length - k) 0 [] rfl ⟨by omega, by simp⟩ (fun k ⟨hk, hz⟩ => ?_)
  refine By rfl (fun h => ?_) fun h => ?_ <;> simp only [lq] at h
  · obtain ⟨x, hx⟩ := qat (l := l) (k := k) (by omega)
    refine Ix k rfl (mp hx) ?_
    refine By rfl (fun h1 => ?_) fun h1 => ?_
    · exact R1 rfl (.bp ⟨nofun, fun e => by
        rw [e x (List.mem_of_getElem? hx), lw] at h1
        simp [dig_zero] at h1⟩)
    · refine Ar (k + 1 : Nat) rfl ?_
      refine Bk (k + 1) [] rfl ⟨by omega, fun y hy => ?_⟩ (by show l.length - (k + 1) < l.length - k; omega)
      rw [List.take_add_one, hx] at hy
      rcases List.mem_append.1 hy with hy | hy
      · exact hz y hy
      · simp at hy; rw [hy]; exact R2.zero_of (by omega)
  · rw [List.take_of_length_le (by omega)] at hz
    exact R1 rfl (.bp ⟨fun _ => hz, fun _ => rfl⟩)
theorem Neg_ok {T : List (List Rat)} {xs : List Rat} {p : Nat} (hn : xs.length ≤ 1073741824) (hx : Ps p xs) (hp : p ≤ 8796093022208) : CG0 116 [.d (dts T), .d (dqs xs)] 4 ((xs.map (- ·)).map dq) := by
  refine EnW Tryz.func116 fun _ _ _ => ?_
  refine Nl 5 5 4 rfl ?_
  refine Lo (fun k : Nat => [(1, .d (dqs xs)), (5, .gr 5 4 (((xs.take k).map (- ·)).map dq)), (6, .d (.int .i64 k))]) (fun k => [(5, .tok (((xs.take k).map (- ·)).map dq).length 4)]) (fun k => k ≤ xs.length) (fun k => xs.length - k) 0 [] rfl (by omega) (fun k hk => ?_)
  refine By rfl (fun h => ?_) fun h => ?_ <;> simp only [lq] at h
  · obtain ⟨x, hx'⟩ := qat (l := xs) (k := k) (by omega)
    refine Ix k rfl (mp hx') ?_
    refine Ce rfl (R2.Neg_ok (hx x (List.mem_of_getElem? hx')) hp) ?_
    refine ApG (((xs.take (k + 1)).map (- ·)).map dq) rfl (by rw [List.take_add_one, hx']; simp) (by simp; omega) ?_
    refine Ar (k + 1 : Nat) rfl ?_
    exact Bk (k + 1) [(20, 5)] rfl (show k + 1 ≤ xs.length by omega) (by show xs.length - (k + 1) < xs.length - k; omega)
  · exact Rw [(5, 1000000)] [(1000000, .tok ((xs.map (- ·)).map dq).length 4)] rfl (.one (.rf rfl) rfl rfl) ⟨_, rfl, by rw [List.take_of_length_le (by omega)]; rfl, rfl⟩ (by rw [List.take_of_length_le (by omega)]; rfl)
theorem Neg_el {T : List (List Rat)} {k p : Nat} {a : Tow.El k} (hk : k ≤ 16) (ha : Ps p (toL k a)) (hp : p ≤ 8796093022208) : C0 116 [.d (dts T), .d (de a)] (· = .d (de (Tow.neg k a))) := by
  have := CG.data (Neg_ok (T := T) (by rw [toL_length]; have := p16 hk; omega) ha hp)
  rwa [← toL_neg] at this
theorem Add_ok {T : List (List Rat)} {xs ys : List Rat} {p q : Nat} (hl : xs.length = ys.length) (hn : xs.length ≤ 1073741824) (hx : Ps p xs) (hy : Ps q ys) (hp : p + q + 1 ≤ 8796093022208) : CG0 109 [.d (dts T), .d (dqs xs), .d (dqs ys)] 4 ((List.zipWith (· + ·) xs ys).map dq) := by
  have hz : (List.zipWith (· + ·) xs ys).length = xs.length := by simp; omega
  refine EnW Tryz.func109 fun _ _ _ => ?_
  refine Nl 7 7 4 rfl ?_
  refine Lo (fun k : Nat => [(1, .d (dqs xs)), (2, .d (dqs ys)), (7, .gr 7 4 (((List.zipWith (· + ·) xs ys).take k).map dq)), (8, .d (.int .i64 k))]) (fun k => [(7, .tok (((List.zipWith (· + ·) xs ys).take k).map dq).length 4)]) (fun k => k ≤ xs.length) (fun k => xs.length - k) 0 [] rfl (by omega) (fun k hk => ?_)
  refine By rfl (fun h => ?_) fun h => ?_ <;> simp only [lq] at h
  · obtain ⟨x, hx'⟩ := qat (l := xs) (k := k) (by omega)
    obtain ⟨y, hy'⟩ := qat (l := ys) (k := k) (by omega)
    refine Dw rfl ?_
    refine Ix k rfl (mp hx') ?_
    refine Ix k rfl (mp hy') ?_
    refine Ce rfl (R2.Add_ok (hx x (List.mem_of_getElem? hx')) (hy y (List.mem_of_getElem? hy')) hp) ?_
    refine ApG (((List.zipWith (· + ·) xs ys).take (k + 1)).map dq) rfl (by rw [List.take_add_one, List.getElem?_zipWith, hx', hy']; simp) (by simp; omega) ?_
    refine Ar (k + 1 : Nat) rfl ?_
    exact Bk (k + 1) [(26, 7)] rfl (show k + 1 ≤ xs.length by omega) (by show xs.length - (k + 1) < xs.length - k; omega)
  · exact Rw [(7, 1000000)] [(1000000, .tok ((List.zipWith (· + ·) xs ys).map dq).length 4)] rfl (.one (.rf rfl) rfl rfl) ⟨_, rfl, by rw [List.take_of_length_le (by omega)]; rfl, rfl⟩ (by rw [List.take_of_length_le (by omega)]; rfl)
theorem Add_el {T : List (List Rat)} {k p q : Nat} {a b : Tow.El k} (hk : k ≤ 16) (ha : Ps p (toL k a)) (hb : Ps q (toL k b)) (hp : p + q + 1 ≤ 8796093022208) : C0 109 [.d (dts T), .d (de a), .d (de b)] (· = .d (de (Tow.add k a b))) := by
  have := CG.data (Add_ok (T := T) (by rw [toL_length, toL_length]) (by rw [toL_length]; have := p16 hk; omega) ha hb hp)
  rwa [← toL_add] at this
theorem Sub_el {T : List (List Rat)} {k p q : Nat} {a b : Tow.El k} (hk : k ≤ 16) (ha : Ps p (toL k a)) (hb : Sz q (toL k b)) (hp : p + q + 1 ≤ 8796093022208) : C0 184 [.d (dts T), .d (de a), .d (de b)] (· = .d (de (Tow.add k a (Tow.neg k b)))) := by
  refine En Tryz.func184 fun _ _ => ?_
  refine Ce rfl (Neg_el hk hb.ps (by omega)) ?_
  refine Ce rfl (Add_el hk ha (neg_sz hb).ps hp) ?_
  exact R0
/-- what FromRat gives: a literal at height 0, else an array of its own -/
theorem FromRat_own {t : List (List Rat)} {x : Rat} (ht : t.length ≤ 16) (h1 : 1 ≤ t.length) : CA0 114 [.d (dts t), .d (dq x)] 4 ((x :: List.replicate (2 ^ t.length - 1) 0).map dq) := by
  have hp := p16 ht
  have h2 : 2 ^ 1 ≤ 2 ^ t.length := p2le h1
  obtain ⟨n, hn⟩ : ∃ n, n = 2 ^ t.length := ⟨_, rfl⟩
  rw [← hn] at hp h2 ⊢
  refine EnW Tryz.func114 fun _ _ _ => ?_
  refine Lo (fun k : Nat => [(0, .d (dts t)), (3, .ptr 3 0), (5, match k with | 0 => .lit 4 [dq x] | k + 1 => .own 5 4 0 (k + 2))]) (fun k => match k with | 0 => [(3, .var (.d (dq x)))] | k + 1 => [(5, .arr 4 ((x :: List.replicate (k + 1) (0 : Rat)).map dq)), (3, .var (.d (dq x)))]) (fun k => k + 1 ≤ n) (fun k => n - k) 0 [] rfl (by omega) (fun k hk => ?_)
  cases k with
  | zero =>
    refine Ar n rfl ?_ (by rw [hn]; simp only [lt']; exact shl_one (by omega))
    refine Yes rfl (by simp only [List.length_cons, List.length_nil]; omega) ?_
    refine Ce rfl (R2.FromInt_ok (z := 0) (by decide)) ?_
    refine ApL ((x :: List.replicate 1 0).map dq) rfl rfl (by decide) (by simp) ?_
    exact Bk 1 [(17, 5)] rfl (show 1 + 1 ≤ n by omega) (by show n - 1 < n - 0; omega)
  | succ k =>
    refine Ar n rfl ?_ (by rw [hn]; simp only [lt']; exact shl_one (by omega))
    refine By rfl (fun h => ?_) fun h => ?_
    · refine Ce rfl (R2.FromInt_ok (z := 0) (by decide)) ?_
      refine ApO ((x :: List.replicate (k + 1 + 1) 0).map dq) rfl rfl (by simp) (by rw [List.replicate_succ' (n := k + 1)]; simp) (by simp; omega) ?_
      exact Bk (k + 1 + 1) [(17, 5)] rfl (show k + 1 + 1 + 1 ≤ n by omega) (by show n - (k + 1 + 1) < n - (k + 1); omega) (by exact ⟨by simp only [List.length_map, List.length_cons, List.length_replicate]; rfl, rfl, rfl, rfl, rfl⟩)
    · have e : n - 1 = k + 1 := by omega
      exact Rw [(5, 1000000)] [(1000000, .arr 4 ((x :: List.replicate (n - 1) (0 : Rat)).map dq))] rfl (.one (.rf rfl) rfl rfl) ⟨_, rfl, by rw [e]; simp; rfl, rfl⟩ (by rw [e]; rfl)
theorem FromRat0_ok {x : Rat} : C0 114 [.d (dts []), .d (dq x)] (· = .lit 4 [dq x]) := by
  refine En Tryz.func114 fun _ _ => ?_
  refine Lo (fun _ : Unit => [(0, .d (dts [])), (5, .lit 4 [dq x])]) (fun _ => []) (fun _ => True) (fun _ => 0) () [] rfl trivial fun _ _ => ?_
  refine Ar (1 : Nat) rfl ?_ (shl_one (k := 0) (by decide))
  refine No rfl (by simp only [List.length_cons, List.length_nil]; omega) ?_
  exact R0
theorem _root_.Go.Vm.C.lit {P : Program} {f : FuncId} {vs0 : List AV} {sz : Nat} {xs : List D} (h : C P f vs0 (· = .lit sz xs)) : C P f vs0 (· = .d (.sl sz xs)) := ⟨h.1, fun W vs ha => (h.2 W vs ha).mono fun e w' ⟨W', v, u, h1, h2, h3, h4, h5, h6⟩ => ⟨W', _, u, h1, h2, h3, V_lit_sl (h6 ▸ h4), fun _ h => h.elim, rfl⟩⟩
theorem FromRat_ok {t : List (List Rat)} {x : Rat} (ht : t.length ≤ 16) : C0 114 [.d (dts t), .d (dq x)] (· = .d (dqs (x :: List.replicate (2 ^ t.length - 1) 0))) := by
  cases t with
  | nil => exact C.lit FromRat0_ok
  | cons r t => exact CA.data (FromRat_own ht (by simp))
end Go.Proofs.YtfmgfaeheljpcaaGreat.R6

/- The program's towers: conjugates. -/
import Derived.Test.YtcobdnnfmhfenaaGreatTf
set_option linter.unusedVariables false
set_option linter.unusedSimpArgs false
set_option maxRecDepth 10000
set_option maxHeartbeats 4000000
namespace Go.Proofs.YtcobdnnfmhfenaaGreat
open Go Go.Rx Go.Num Go.Tow

theorem shrI (u n : Nat) (hn : n ≤ 64) : Int.fdiv (u : Int) (2 ^ (min (Int.toNat (n : Int)) (IntKind.bits .i64))) = ((u / 2 ^ n : Nat) : Int) := by
  rw [show min (Int.toNat (n : Int)) (IntKind.bits .i64) = n from by show min n 64 = n; omega, Int.fdiv_eq_ediv_of_nonneg _ (Int.le_of_lt (Int.pow_pos (by decide)))]
  norm_cast
theorem andI (u : Nat) : IntKind.i64.wrap ((u &&& 1 : Nat) : Int) = ((u % 2 : Nat) : Int) := by
  rw [Nat.and_one_is_mod]
  exact wI (by omega)
/-- the coefficients whose place has bit i get the opposite sign -/
def flipL (i : Nat) (xs : List Rat) : List Rat := xs.mapIdx fun p x => if p / 2 ^ i % 2 = 1 then -x else x
def conjOk (i : Nat) (ts : List (List Rat)) : Prop := ∀ j r, i < j → ts[j]? = some r → ∀ p x, r[p]? = some x → p / 2 ^ i % 2 = 1 → x = 0
theorem flip_get {i p : Nat} {xs : List Rat} {x : Rat} (h : xs[p]? = some x) : (flipL i xs)[p]? = some (if p / 2 ^ i % 2 = 1 then -x else x) := by
  rw [flipL, List.getElem?_mapIdx, h]; rfl
theorem flip_length (i : Nat) (xs : List Rat) : (flipL i xs).length = xs.length := List.length_mapIdx

theorem cmpI_ne {x : Rat} : cmpI x.num 0 ≠ 0 ↔ x ≠ 0 := by
  rw [ne_eq, ne_eq, ← Rat.num_eq_zero]
  unfold cmpI
  constructor
  · intro h h2; rw [h2] at h; exact h rfl
  · intro h
    split
    · decide
    · rw [if_pos (by omega)]; decide
theorem slices_Clone_Rat_own {W : GW} {p : Option Addr} {m c : Nat} {l : List Raw} (h : Sl RQ W p m c l) (hl : l.length ≤ 1073741824) :
    Ok Tryz.prog 42 [.slice p m c] W fun W' v => OwnR RQ W W' v l := by
  have hn := h.hn
  refine Ok.enter Tryz.func42 rfl rfl rfl rfl fun W0 iEn => ?_
  refine J.seq <| J.reg rfl <| O.as rfl <| JO.nil <| J.seq <| J.seq <| J.reg rfl <| O.mv rfl <| O.eqnil rfl <| JO.nil <| J.cond rfl (fun h4 => ?_) (fun h4 => ?_)
  · skip
    refine J.seq <| J.reg rfl <| O.as rfl <| JO.nil <| J.ret1o rfl (.tmp rfl) fun W' iE iO => ?_
    have h0 : l = [] := by
      rcases h.at' with h | ⟨b, off, hp, _⟩
      · exact h
      · rw [hp] at h4; cases h4
    rw [h0]
    exact ⟨none, 0, 0, rfl, Ows.nil _ _ _, fun a h => nomatch h⟩
  · skip
    refine J.skip <| J.seq <| J.reg rfl <| O.bso (r := RQ) [] (vs := []) rfl trivial rfl rfl rfl (by decide) (.inl rfl) (by decide) fun W2 b2 i2 e2 hb2 o2 => O.mv rfl <| O.app rfl rfl o2 h.to rfl rfl (by omega) (by omega) fun W3 p3 c3 i3 o3 => O.as rfl <| JO.nil <| J.ret1o rfl (.tmp rfl) fun W' iE iO => ?_
    have := Ows.ret (W0 := W) o3 iE iO
    simpa using this

theorem ct_get {t : List (List Rat)} {i : Nat} {r : List Rat} (h : t[i]? = some r) : (ct t)[i]? = some (cl r) := by rw [ct, List.getElem?_map, h]; rfl
theorem tower_Conjugate_ok {W : GW} {p q : Option Addr} {n c m d r s k : Nat} {t : Tw k} {a : El k} {i : Int} (h : Sl RE W p n c (ct (toT k t))) (h' : Sl RQ W q m d (cl (toL k a))) (hT : TS r k t) (ha : Sz s (toL k a)) (hk : k ≤ 16) (hs : s ≤ 17592186044416) (hr : r ≤ 17592186044416)
    (hi : -9223372036854775808 ≤ i ∧ i < 9223372036854775808) :
    Ok Tryz.prog 10 [.slice p n c, .slice q m d, .int .i64 i] W fun W' v => ∃ v1 b, v = .tuple #[v1, .bool b] ∧ (((0 ≤ i ∧ i < k ∧ conjOk i.toNat (toT k t)) ∧ b = true ∧ V RE W' v1 (cl (flipL i.toNat (toL k a)))) ∨ (¬ (0 ≤ i ∧ i < k ∧ conjOk i.toNat (toT k t)) ∧ b = false ∧ V RE W' v1 [])) := by
  have hn : n = k := by rw [h.hn, ct_length]
  have hm : m = 2 ^ k := by rw [h'.hn, cl_length, toL_length]
  have hp := pow_le hk
  have hcc := h.hc
  have hCC := h.hC
  refine Ok.enter Tryz.func10 rfl rfl rfl rfl fun W0 iEn => ?_
  refine J.seq <| J.reg rfl <| O.as rfl <| O.as rfl <| JO.nil <| J.seq <| J.seq <| J.reg rfl <| O.mv rfl <| O.mv rfl <| O.call rfl (tower_Formed_ok h.to h'.to (small_ct hT hr) (small_cl ha.qs' hs) (by rw [ct_length]; omega)) fun W2 v2 i2 e2 g2 => ?_
  obtain ⟨b2, rfl, hb2⟩ := g2
  have hb2' := hb2.2 ⟨okT_ct t, okE_cl (by rw [ct_length, toL_length])⟩
  subst hb2'
  refine O.not rfl <| O.mv rfl <| O.gt rfl rfl <| O.mv rfl <| O.gt rfl rfl <| O.lt rfl rfl <| O.pickF rfl rfl <| O.mv rfl <| ?_
  by_cases hg23 : i < 0
  · skip
    refine O.set (t := 23) (.bool true) rfl (by simp only [Value.bool.injEq, decide_eq_true_eq, decide_eq_false_iff_not]; omega) <| O.gs rfl rfl rfl <| O.gs rfl rfl rfl <| O.gs rfl rfl rfl <| O.gs rfl rfl rfl <| O.pickT rfl rfl <| JO.nil <| J.condT rfl <| J.seq <| J.reg rfl <| O.as rfl <| O.as rfl <| JO.nil <| J.ret2 rfl (.tmp rfl) (.tmp rfl) fun W' iE iP => ?_
    exact ⟨_, _, rfl, .inr ⟨fun h => by omega, rfl, (nil_sl _ _ _).v⟩⟩
  · skip
    refine O.set (t := 23) (.bool false) rfl (by simp only [Value.bool.injEq, decide_eq_true_eq, decide_eq_false_iff_not]; omega) <| O.gt rfl rfl <| O.mv rfl <| O.gt rfl rfl <| O.mv rfl <| O.gt rfl rfl <| O.len rfl <| O.gt rfl rfl <| O.ge rfl rfl <| O.pickF rfl rfl <| JO.nil <| J.condD rfl (fun h28 => ?_) (fun h28 => ?_)
    · skip
      refine J.seq <| J.reg rfl <| O.as rfl <| O.as rfl <| JO.nil <| J.ret2 rfl (.tmp rfl) (.tmp rfl) fun W' iE iP => ?_
      exact ⟨_, _, rfl, .inr ⟨fun h => by omega, rfl, (nil_sl _ _ _).v⟩⟩
    · skip
      obtain ⟨j, rfl⟩ : ∃ j : Nat, i = (j : Int) := ⟨i.toNat, by omega⟩
      have hdr := h.drop (j + 1) (by omega)
      refine J.skip <| J.seq <| J.seq <| J.reg rfl <| O.mv rfl <| O.mv rfl <| O.add (r := ((j + 1 : Nat) : Int)) rfl rfl ((wI (by omega)).trans (by omega)) <| O.sll (lo := j + 1) rfl rfl rfl (by omega) <| O.len rfl <| O.mv rfl <| JO.nil <| J.block <| ?_
      refine J.loop (α := Nat) (fun g => [(1, .slice q m d), (2, .int .i64 (j : Int)), (32, .slice (if c = j + 1 then p else p.map (·.add ((j + 1) * 1))) (n - (j + 1)) (c - (j + 1))), (33, .int .i64 ((n - (j + 1) : Nat) : Int)), (34, .int .i64 (g : Int))]) (fun g W' => Le W0 W' ∧ g ≤ n - (j + 1) ∧ ∀ u r, j < u → u < j + 1 + g → (toT k t)[u]? = some r → ∀ p x, r[p]? = some x → p / 2 ^ j % 2 = 1 → x = 0) (fun g => n - (j + 1) - g) 0 ⟨rfl, rfl, rfl, rfl, rfl, trivial⟩ ⟨inferInstance, Nat.zero_le _, fun u r h1 h2 => by omega⟩ ?_
      rintro g W3 ⟨_, hg, hd⟩
      refine J.seq <| J.reg rfl <| O.lt rfl rfl <| JO.nil <| J.seq <| J.condD rfl (fun h35 => ?_) (fun h35 => ?_)
      · skip
        obtain ⟨rr, hrr⟩ : ∃ rr, (toT k t)[j + 1 + g]? = some rr := ⟨_, List.getElem?_eq_getElem (by rw [toT_length]; omega)⟩
        have hrr2 : ((ct (toT k t)).drop (j + 1))[g]? = some (cl rr) := by rw [List.getElem?_drop]; exact ct_get hrr
        have hrlen := toT_get hrr
        refine J.skip <| J.seq <| J.block <| J.seq <| J.reg rfl <| O.ix (r := RE) (j := g) rfl rfl rfl hdr.to hrr2 rfl rfl (fun _ => rfl) fun a3 v3 h3 => ?_
        obtain ⟨p3, n3, c3, rfl, s3⟩ := h3.sl
        have hn3 : n3 = rr.length := by rw [s3.hn, cl_length]
        have hpg : 2 ^ (j + 1 + g) ≤ 2 ^ k := Nat.pow_le_pow_right (by decide) (by omega)
        refine O.as rfl <| JO.nil <| J.seq <| J.reg rfl <| O.mv rfl <| O.len rfl <| O.mv rfl <| JO.nil <| J.block <| ?_
        refine J.loop (α := Nat) (fun g2 => [(1, .slice q m d), (2, .int .i64 (j : Int)), (32, .slice (if c = j + 1 then p else p.map (·.add ((j + 1) * 1))) (n - (j + 1)) (c - (j + 1))), (33, .int .i64 ((n - (j + 1) : Nat) : Int)), (34, .int .i64 (g : Int)), (38, .slice p3 n3 c3), (39, .int .i64 (n3 : Int)), (40, .int .i64 (g2 : Int))]) (fun g2 W' => Le W0 W' ∧ Le W3 W' ∧ g2 ≤ n3 ∧ ∀ p x, p < g2 → rr[p]? = some x → p / 2 ^ j % 2 = 1 → x = 0) (fun g2 => n3 - g2) 0 ⟨rfl, rfl, rfl, rfl, rfl, rfl, rfl, rfl, trivial⟩ ⟨inferInstance, inferInstance, Nat.zero_le _, fun p x h => nomatch h⟩ ?_
        rintro g2 W4 ⟨_, _, hg2, hd2⟩
        refine J.seq <| J.reg rfl <| O.lt rfl rfl <| JO.nil <| J.seq <| J.condD rfl (fun h41 => ?_) (fun h41 => ?_)
        · skip
          obtain ⟨x, hx⟩ := rat_get (xs := rr) (i := g2) (by omega)
          refine J.skip <| J.seq <| J.block <| J.seq <| J.reg rfl <| O.mv rfl <| O.ix (r := RQ) (j := g2) rfl rfl rfl s3.to (cl_get hx) rfl rfl (fun h => nomatch h) fun a4 v4 h4 => ?_
          obtain ⟨pa, na, ca, pb, nb, cb, rfl, sa, sb⟩ := unQ h4
          refine O.alloc fun W5 b5 i5 hl5 hc5 hb5 => O.as rfl <| ?_
          skip
          refine O.st rfl rfl hl5.to rfl (by simp [oneC, Value.cells]) fun W6 i6 hc6 => JO.nil <| J.seq <| J.reg rfl <| O.mv rfl <| O.mv rfl <| O.shr rfl rfl (by omega) (shrI g2 j (by omega)) <| O.and (p := g2 / 2 ^ j) (q := 1) (r := ((g2 / 2 ^ j % 2 : Nat) : Int)) rfl rfl rfl rfl (by have := Nat.div_le_self g2 (2 ^ j); show _ < 18446744073709551616; omega) (by decide) (andI _) <| O.eq rfl rfl <| O.mv rfl <| ?_
          by_cases hg50 : g2 / 2 ^ j % 2 = 1
          · skip
            refine O.set (t := 50) (.bool true) rfl (by simp only [Value.bool.injEq, decide_eq_true_eq, decide_eq_false_iff_not]; omega) <| O.gt rfl rfl <| O.ldVw rfl hc6 rfl <| O.gt rfl rfl <| O.call rfl (rational_Sign_ok (x := x) (mkQ sa.to sb.to)) fun W7 v7 i7 e7 h7 => ?_
            subst h7
            have hx0 := @cmpI_ne x
            refine O.gt rfl rfl <| O.ne rfl rfl <| O.pickT rfl rfl <| JO.nil <| J.condD rfl (fun h54 => ?_) (fun h54 => ?_)
            · skip
              refine J.seq <| J.reg rfl <| O.as rfl <| O.as rfl <| JO.nil <| J.ret2 rfl (.tmp rfl) (.tmp rfl) fun W' iE iP => ?_
              exact ⟨_, _, rfl, .inr ⟨fun h => hx0.1 h54 (h.2.2 (j + 1 + g) rr (by show (j : Int).toNat < _; omega) hrr g2 x hx hg50), rfl, (nil_sl _ _ _).v⟩⟩
            · skip
              refine J.skip <| J.bend <| J.reg rfl <| O.add rfl rfl (wI (by omega)) <| O.mv rfl <| JO.nil <| ?_
              exact J.at' (g2 + 1) ⟨rfl, rfl, rfl, rfl, rfl, rfl, rfl, rfl, trivial⟩ ⟨⟨inferInstance, inferInstance, by omega, fun p y hp hy hb => by
                by_cases hpg : p = g2
                · subst hpg; rw [hx] at hy; injection hy with hy; subst hy; exact Classical.byContradiction fun h0 => h54 (hx0.2 h0)
                · exact hd2 p y (by omega) hy hb⟩, by omega⟩
          · skip
            refine O.set (t := 50) (.bool false) rfl (by simp only [Value.bool.injEq, decide_eq_true_eq, decide_eq_false_iff_not]; omega) <| O.gs rfl rfl rfl <| O.gs rfl rfl rfl <| O.gs rfl rfl rfl <| O.pickF rfl rfl <| JO.nil <| J.condF rfl <| J.skip <| J.bend <| J.reg rfl <| O.add rfl rfl (wI (by omega)) <| O.mv rfl <| JO.nil <| ?_
            exact J.at' (g2 + 1) ⟨rfl, rfl, rfl, rfl, rfl, rfl, rfl, rfl, trivial⟩ ⟨⟨inferInstance, inferInstance, by omega, fun p y hp hy hb => by
              by_cases hpg : p = g2
              · subst hpg; exact absurd hb hg50
              · exact hd2 p y (by omega) hy hb⟩, by omega⟩
        · skip
          have hgn : g2 = n3 := by omega
          refine J.exit rfl <| J.bend <| J.reg rfl <| O.add rfl rfl (wI (by omega)) <| O.mv rfl <| JO.nil <| ?_
          exact J.at' (g + 1) ⟨rfl, rfl, rfl, rfl, rfl, trivial⟩ ⟨⟨inferInstance, by omega, fun u r hu hu2 hur p x hpx hb => by
            by_cases hug : u = j + 1 + g
            · subst hug
              rw [hrr] at hur; injection hur with hur; subst hur
              refine hd2 p x ?_ hpx hb
              have : p < rr.length := by
                by_cases h : p < rr.length
                · exact h
                · rw [List.getElem?_eq_none (by omega)] at hpx; cases hpx
              omega
            · exact hd u r hu (by omega) hur p x hpx hb⟩, by omega⟩
      · skip
        have hconj : conjOk j (toT k t) := fun u r hu hur => by
          refine hd u r hu ?_ hur
          have : u < (toT k t).length := by
            by_cases h : u < (toT k t).length
            · exact h
            · rw [List.getElem?_eq_none (by omega)] at hur; cases hur
          rw [toT_length] at this
          omega
        refine J.exit rfl <| J.seq <| J.reg rfl <| O.mv rfl <| O.call rfl (slices_Clone_Rat_own h'.to (by rw [cl_length, toL_length]; omega)) fun W8 v8 i8 e8 h8 => ?_
        obtain ⟨p8, n8, c8, rfl, o8, f8⟩ := h8
        have hn8 : n8 = 2 ^ k := by rw [o8.hn, cl_length, toL_length]
        have hpos := Nat.two_pow_pos k
        obtain ⟨b8, rfl⟩ : ∃ b, p8 = some ⟨b, 0, none⟩ := by
          rcases o8.h with h0 | ⟨b, _, _, hp, _⟩
          · have := o8.hc; omega
          · exact ⟨b, hp⟩
        refine O.as rfl <| JO.nil <| J.seq <| J.seq <| J.reg rfl <| O.mv rfl <| O.len rfl <| O.mv rfl <| JO.nil <| J.block <| ?_
        refine J.loop (α := Nat × List Raw) (fun g => [(2, .int .i64 (j : Int)), (12, .slice (some ⟨b8, 0, none⟩) n8 c8), (59, .slice q m d), (60, .int .i64 (m : Int)), (61, .int .i64 (g.1 : Int))]) (fun g W' => Le W0 W' ∧ Ows RQ W' (some ⟨b8, 0, none⟩) n8 c8 g.2 ∧ g.1 ≤ m ∧ (∀ u, u < g.1 → g.2[u]? = (cl (flipL j (toL k a)))[u]?) ∧ (∀ u, g.1 ≤ u → g.2[u]? = (cl (toL k a))[u]?)) (fun g => m - g.1) (0, cl (toL k a)) ⟨rfl, rfl, rfl, rfl, rfl, trivial⟩ ⟨inferInstance, o8, Nat.zero_le _, fun _ h => (nomatch h), fun _ _ => rfl⟩ ?_
        rintro ⟨g, lo⟩ W9 ⟨_, o9, hg, hlo, hhi⟩
        dsimp only at *
        have hlo9 := o9.hn
        refine J.seq <| J.reg rfl <| O.lt rfl rfl <| JO.nil <| J.seq <| J.condD rfl (fun h62 => ?_) (fun h62 => ?_)
        · skip
          obtain ⟨x, hx⟩ := rat_get (xs := toL k a) (i := g) (by rw [toL_length]; omega)
          refine J.skip <| J.seq <| J.block <| J.seq <| J.reg rfl <| O.mv rfl <| O.ix (r := RQ) (j := g) rfl rfl rfl h'.to (cl_get hx) rfl rfl (fun h => nomatch h) fun a4 v4 h4 => ?_
          obtain ⟨pa, na, ca, pb, nb, cb, rfl, sa, sb⟩ := unQ h4
          refine O.allocE fun W5 b5 i5 e5 hl5 hc5 hb5 => ?_
          have o5 := o9.ext e5
          have hbne : b8 ≠ b5 := by
            rcases o9.h with h0 | ⟨b, cs, T, hp, hA, hm, hb, _⟩
            · have := o9.hc; omega
            · injection hp with hp
              injection hp with hp _ _
              have h9 : b < W9.size := lt_of_heap hb
              have h8 : W9.size ≤ b5 := hb5
              omega
          refine O.as rfl <| ?_
          skip
          refine O.stX rfl rfl hl5 rfl (by simp [oneC, Value.cells]) fun W6 i6 hc6 hf6 hz6 => ?_
          have o6 := o5.only i6.s hf6 hbne
          refine JO.nil <| J.seq <| J.reg rfl <| O.mv rfl <| O.mv rfl <| O.shr rfl rfl (by omega) (shrI g j (by omega)) <| O.and (p := g / 2 ^ j) (q := 1) (r := ((g / 2 ^ j % 2 : Nat) : Int)) rfl rfl rfl rfl (by have := Nat.div_le_self g (2 ^ j); show _ < 18446744073709551616; omega) (by decide) (andI _) <| O.eq rfl rfl <| JO.nil <| ?_
          refine J.cut (α := List Raw) (fun _ => [(2, .int .i64 (j : Int)), (12, .slice (some ⟨b8, 0, none⟩) n8 c8), (59, .slice q m d), (60, .int .i64 (m : Int)), (61, .int .i64 (g : Int))]) (fun l W' => Le W0 W' ∧ Ows RQ W' (some ⟨b8, 0, none⟩) n8 c8 l ∧ (∀ u, u < g + 1 → l[u]? = (cl (flipL j (toL k a)))[u]?) ∧ (∀ u, g + 1 ≤ u → l[u]? = (cl (toL k a))[u]?)) ?_ ?_
          · skip
            refine J.condD rfl (fun h70 => ?_) (fun h70 => ?_)
            · skip
              refine J.reg rfl <| O.mv rfl <| O.mv rfl <| O.ldVw rfl hc6 rfl <| O.call rfl (rational_Neg_ok (x := x) (mkQ sa.to sb.to) ((ha.qs (List.mem_of_getElem? hx)).n.len hs)) fun W7 v7 i7 e7 h7 => ?_
              have o7 := o6.ext e7
              refine O.iaB (r := RQ) (j := g) rfl rfl rfl o7 (by omega) rfl <| O.sto (r := RQ) (j := g) (u := cq (-x)) rfl rfl o7 (by omega) h7 rfl (.inl rfl) fun W8 i8 o8 => JO.nil <| ?_
              have hf : (flipL j (toL k a))[g]? = some (-x) := by rw [flip_get hx, if_pos (by omega)]
              exact J.at' (lo.set g (cq (-x))) ⟨rfl, rfl, rfl, rfl, rfl, trivial⟩ ⟨inferInstance, o8, set_ok (by omega) hlo (cl_get hf), fun u hu => by rw [List.getElem?_set_ne (by omega)]; exact hhi u (by omega)⟩
            · skip
              refine J.skip <| ?_
              have hf : (flipL j (toL k a))[g]? = some x := by rw [flip_get hx, if_neg (by omega)]
              exact J.at' lo ⟨rfl, rfl, rfl, rfl, rfl, trivial⟩ ⟨inferInstance, o6, fun u hu => by
                by_cases hug : u = g
                · subst hug; rw [hhi u (Nat.le_refl _), cl_get hf, cl_get hx]
                · exact hlo u (by omega), fun u hu => hhi u (by omega)⟩
          · skip
            rintro l W10 ⟨_, o10, h10, h11⟩
            refine J.bend <| J.reg rfl <| O.add rfl rfl (wI (by omega)) <| O.mv rfl <| JO.nil <| ?_
            exact J.at' (g + 1, l) ⟨rfl, rfl, rfl, rfl, rfl, trivial⟩ ⟨⟨inferInstance, o10, by show g + 1 ≤ m; omega, h10, h11⟩, by show m - (g + 1) < m - g; omega⟩
        · skip
          refine J.exit rfl <| J.seq <| J.reg rfl <| O.mv rfl <| O.as rfl <| O.as rfl <| JO.nil <| J.ret2 rfl (.tmp rfl) (.tmp rfl) fun W' iE iP => ?_
          have hgm : g = m := by omega
          have hfin : lo = cl (flipL j (toL k a)) := fill_end (by rw [cl_length, flip_length, toL_length]; omega) (fun u hu => hlo u (by rw [cl_length, flip_length, toL_length] at hu; omega))
          rw [hfin] at o9
          exact ⟨_, _, rfl, .inl ⟨⟨by omega, by omega, hconj⟩, rfl, (o9.pub iE iP).v⟩⟩
end Go.Proofs.YtcobdnnfmhfenaaGreat

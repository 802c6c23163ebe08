/- The statements about towers: roots, rational numbers, inverses: the walks. -/
import Derived.Test.YtcobdnnfmhfenaaWb
set_option linter.unusedVariables false
set_option maxRecDepth 10000
set_option maxHeartbeats 2000000
namespace Go.Proofs.Ytcobdnnfmhfenaa
open Go Go.Rx Go.Num Go.Tow

theorem few_nat {n : Nat} (h : (dig n).length ≤ 4) : n < 2 ^ 128 := by
  have h1 := dig_ub n
  have h2 : 4294967296 ^ (dig n).length ≤ 4294967296 ^ 4 := Nat.pow_le_pow_right (by decide) h
  have h3 : (4294967296 : Nat) ^ 4 = 2 ^ 128 := by decide
  omega
theorem few_qs {x : Rat} (h : fewR (cq x)) : Qs 128 x := ⟨few_nat h.1, few_nat h.2⟩
theorem few_sz {xs : List Rat} (h : fewL (cl xs)) : Sz 2049 xs := by
  have h1 : xs.length ≤ 16 := by rw [← cl_length]; exact h.1
  exact (Sz.all (p := 128) fun x hx => few_qs (h.2 _ (List.mem_map.2 ⟨x, hx, rfl⟩))).mono (by omega)
theorem few_ts {k : Nat} {w : Tw k} (h : ∀ l ∈ ct (toT k w), fewL l) : TS 2049 k w := by
  induction k with
  | zero => trivial
  | succ k ih =>
    refine ⟨ih fun l hl => h l ?_, few_sz (h _ ?_)⟩
    · rw [ct_succ]; exact List.mem_append_left _ hl
    · rw [ct_succ]; exact List.mem_append_right _ (List.mem_singleton.2 rfl)
theorem formed_typed {t : List (List Raw)} {a b c : List Raw} (h : formedC t a b c) : ∃ (k : Nat) (w : Tw k) (x y z : El k), k ≤ 4 ∧ t = ct (toT k w) ∧ a = cl (toL k x) ∧ b = cl (toL k y) ∧ c = cl (toL k z) ∧ TS 2049 k w ∧ Sz 2049 (toL k x) ∧ Sz 2049 (toL k y) ∧ Sz 2049 (toL k z) := by
  obtain ⟨h1, h2, ha, hb, hc, h3, h4, h5, h6⟩ := h
  obtain ⟨w, hw⟩ := okT_typed h3
  obtain ⟨x, rfl⟩ := okE_typed h4
  obtain ⟨y, rfl⟩ := okE_typed h5
  obtain ⟨z, rfl⟩ := okE_typed h6
  exact ⟨t.length, w, x, y, z, h1, hw, rfl, rfl, rfl, few_ts (by rw [← hw]; exact h2), few_sz ha, few_sz hb, few_sz hc⟩
theorem cB4 : ∀ k, k < 5 → cB 2049 k ≤ 30750 := by decide
theorem iB4 : ∀ k, k < 5 → iB 2049 k 2049 ≤ 77624150 := by decide
theorem qs01 {x : Rat} (h : x = 0 ∨ x = 1) : Qs 1 x := by
  rcases h with rfl | rfl
  · exact Qs.int (z := 0) Zs.zero (by decide)
  · exact Qs.int (z := 1) (Zs.one (by decide)) (by decide)
theorem root_sz {k i : Nat} (hi : i < k) (hk : k ≤ 4) : Sz 2049 (toL k (root k i)) := by
  refine (Sz.all (p := 1) fun x hx => qs01 ?_).mono ?_
  · rw [toL_root hi] at hx
    rcases List.mem_or_eq_of_mem_set hx with h | h
    · exact .inl (List.eq_of_mem_replicate h)
    · exact .inr h
  · rw [toL_length]
    have : 2 ^ k ≤ 2 ^ 4 := Nat.pow_le_pow_right (by decide) hk
    omega
theorem root_law {k i : Nat} {w : Tw k} (hi : i < k) : ∃ r, (toT k w)[i]? = some r ∧ cl (toL k (mul k w (root k i) (root k i))) = cl r ++ List.replicate (2 ^ i * 2 ^ (k - i) - 2 ^ i) (cq 0) := by
  obtain ⟨r, h1, h2⟩ := toL_radi (t := w) hi
  refine ⟨r, h1, ?_⟩
  rw [root_sq hi, h2, cl_append, ← Nat.pow_add, show i + (k - i) = k from by omega]
  congr 1
  rw [cl, List.map_replicate]

theorem law06_TowerRoots_ok {W : GW} {v : Value} {t : List (List Raw)} {a b c : List Raw} (h : CaseR W v t a b c) :
    Ok Try.prog 3 [v] W fun _ r => r = .bool true := by
  obtain ⟨p, n, m, pa, na, ma, pb, nb, mb, pc, nc, mc, rfl, ht, ha, hb, hc⟩ := h.h
  refine Ok.enter Try.func3 rfl rfl rfl rfl fun W0 iEn => ?_
  refine J.seq <| J.reg rfl <| O.box rfl fun W1 b1 i1 hb1 => O.as rfl <| JO.nil <| J.seq <| J.seq <| J.reg rfl <| O.call rfl law06_awake_ok fun W2 v2 i2 e2 h2 => ?_
  subst h2
  refine O.not rfl <| O.mv rfl <| O.gt rfl rfl <| O.ldBw rfl hb1.to rfl <| O.gt rfl rfl <| O.call rfl (law06_right_ok ⟨_, _, _, _, _, _, _, _, _, _, _, _, rfl, ht.to, ha.to, hb.to, hc.to⟩) fun W3 v3 i3 e3 h3 => ?_
  obtain ⟨f, rfl, hf⟩ := h3
  refine O.gt rfl rfl <| O.not rfl <| O.pickF rfl rfl <| JO.nil <| J.cond rfl (fun h11 => ?_) (fun h11 => ?_)
  · skip
    refine J.seq <| J.reg rfl <| O.call rfl law06_awake_ok fun W4 v4 i4 e4 h4 => ?_
    subst h4
    refine O.as rfl <| JO.nil <| J.ret1 rfl (.tmp rfl) fun W' iE iP => ?_
    rfl
  · skip
    have hft : f = true := by simpa using h11
    obtain ⟨k, w, x, y, z, hk, rfl, rfl, rfl, rfl, hT, hx, hy, hz⟩ := formed_typed (hf.1 hft)
    have hn : n = k := by rw [ht.hn, ct_length]
    have hcb := cB4 k (by omega)
    refine J.skip <| J.seq <| J.seq <| J.reg rfl <| O.fa rfl <| O.ldB rfl hb1.to rfl <| O.len rfl <| O.mv rfl <| JO.nil <| J.block <| ?_
    refine J.loop (α := Nat) (fun i => [(1, .pointer (some ⟨b1, 0, none⟩)), (15, .int .i64 (n : Int)), (16, .int .i64 (i : Int))]) (fun i W' => Lk1 W3 W' ∧ i ≤ n) (fun i => n - i) 0 ⟨rfl, rfl, rfl, trivial⟩ ⟨⟨Lk.s⟩, Nat.zero_le _⟩ ?_
    rintro i W5 ⟨_, hin⟩
    refine J.seq <| J.reg rfl <| O.lt rfl rfl <| JO.nil <| J.seq <| J.condD rfl (fun h17 => ?_) (fun h17 => ?_)
    · skip
      have hik : i < k := by omega
      obtain ⟨r, hr, hlaw⟩ := root_law (w := w) hik
      have hrl := toT_get hr
      refine J.skip <| J.seq <| J.block <| J.seq <| J.reg rfl <| O.mv rfl <| O.as rfl <| JO.nil <| J.seq <| J.reg rfl <| O.fa rfl <| O.ldB rfl hb1.to rfl <| O.mv rfl <| O.call rfl (tower_Root_ok ht.to hT (by omega) hik (by decide)) fun W6 v6 i6 e6 h6 => ?_
      obtain ⟨p6, n6, c6, rfl, s6⟩ := h6.sl
      obtain ⟨b7, o7, rfl, hj7, hp7⟩ := ht.place (ct_get hr)
      refine O.as rfl <| JO.nil <| J.seq <| ?_
      refine J.sub [(1, _), (3, _), (4, _), (15, _), (16, _)] ⟨rfl, rfl, rfl, rfl, rfl, trivial⟩ ?_
      refine J.draw [.ex _, .ex _, .ex _, .ex _, .rel _, .ex _, .ex _, .ex _, .ex _, .rel _, .ex _, .ex _, .ex _, .ex _, .ex _] rfl rfl ⟨fun W1 i1 e1 _ => O.fa rfl <| D.ex, fun W1 i1 e1 _ => O.ldB rfl hb1.to rfl <| D.ex, fun W1 i1 e1 _ => O.mv rfl <| D.ex, fun W1 i1 e1 _ => O.mv rfl <| D.ex, fun W1 i1 e1 _ => O.call rfl (tower_Mul_ok ht.to s6.to s6.to hT (root_sz hik hk) (root_sz hik hk) (by omega) (by omega) (by decide)) fun W7 v7 i7 e7 h7 => D.rel e7 h7 V.me, fun W1 i1 e1 _ => O.fa rfl <| D.ex, fun W1 i1 e1 _ => O.ldB rfl hb1.to rfl <| D.ex, fun W1 i1 e1 _ => O.mv rfl <| D.ex, fun W1 i1 e1 _ => O.ia (j := i) rfl rfl rfl hj7 <| D.ex, fun W1 i1 e1 _ => O.ldP (r := RE) rfl (hp7 _ Lf.s) rfl rfl (fun _ => rfl) fun v hv => D.rel (R := fun W v => V RE W v (cl r)) (Ext.refl _) hv V.me, fun W1 i1 e1 _ => O.fa rfl <| D.ex, fun W1 i1 e1 _ => O.ldB rfl hb1.to rfl <| D.ex, fun W1 i1 e1 _ => O.len rfl <| D.ex, fun W1 i1 e1 _ => O.mv rfl <| D.ex, fun W1 i1 e1 _ => O.sb (r := ((k - i : Nat) : Int)) rfl rfl ((wI (by omega)).trans (by omega)) <| D.ex, trivial⟩ ?_
      intro W1 i1 e1 v27 h27 v32 h32
      obtain ⟨p8, n8, c8, rfl, s8⟩ := h27.sl
      obtain ⟨p9, n9, c9, rfl, s9⟩ := h32.sl
      have hn9 : n9 = 2 ^ i := by rw [s9.hn, cl_length, hrl]
      have h2i : 2 ^ i ≤ 2 ^ 4 := Nat.pow_le_pow_right (by decide) (by omega)
      have h2k : 2 ^ i * 2 ^ (k - i) ≤ 2 ^ 4 := by rw [← Nat.pow_add]; exact Nat.pow_le_pow_right (by decide) (by omega)
      refine O.call rfl (ref06_Lift_ok s9.to (by omega) (by omega) (by rw [hn9]; omega)) fun W8 v8 i8 e8 h8 => ?_
      obtain ⟨p10, n10, c10, rfl, s10⟩ := h8.sl
      refine O.call rfl (ref06_Same_ok s8.to s10.to) fun W9 v9 i9 e9 h9 => ?_
      obtain rfl := same_t h9 (by rw [hn9]; exact hlaw)
      refine O.not rfl <| JO.nil <| J.condF rfl <| J.skip <| J.bend <| J.reg rfl <| O.add rfl rfl (wI (by omega)) <| O.mv rfl <| JO.nil <| ?_
      exact J.at' (i + 1) ⟨rfl, rfl, rfl, trivial⟩ ⟨⟨⟨Lk.s⟩, by omega⟩, by omega⟩
    · skip
      refine J.exit rfl <| J.seq <| J.reg rfl <| O.as rfl <| JO.nil <| J.ret1 rfl (.tmp rfl) fun W' iE iP => ?_
      rfl
end Go.Proofs.Ytcobdnnfmhfenaa

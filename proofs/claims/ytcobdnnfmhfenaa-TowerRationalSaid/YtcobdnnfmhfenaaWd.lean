/- The statements about towers: rational numbers: the walk. -/
import Derived.Test.YtcobdnnfmhfenaaWc
set_option linter.unusedVariables false
set_option maxRecDepth 10000
set_option maxHeartbeats 2000000
namespace Go.Proofs.Ytcobdnnfmhfenaa
open Go Go.Rx Go.Num Go.Tow

/-- What Rational answers. -/
def RatR (x : Rat) (rest : List Rat) (W : GW) (r : Value) : Prop := ∃ v1 b, r = .tuple #[v1, .bool b] ∧ b = decide (∀ y ∈ rest, y = 0) ∧ ∃ i, V RQ W v1 i ∧ (b = true → i = cq x)
theorem tower_Rational_ok {W : GW} {p : Option Addr} {n c : Nat} {x : Rat} {rest : List Rat} (h : Sl RQ W p n c (cl (x :: rest))) :
    Ok Try.prog 12 [.slice p n c] W (RatR x rest) := by
  have hn := h.hn
  rw [cl_length, List.length_cons] at hn
  have hd : Sl RQ W _ (n - 1) (c - 1) (cl rest) := h.drop 1 (by omega)
  have hcc := h.hc
  refine Ok.enter Try.func12 rfl rfl rfl rfl fun W0 iEn => ?_
  refine J.seq <| J.reg rfl <| O.alloc fun W1 b1 i1 hl1 hc1 hb1 => O.as rfl <| JO.nil <| J.seq <| J.seq <| J.reg rfl <| O.mv rfl <| O.len rfl <| O.eq rfl rfl <| O.mv rfl <| ?_
  by_cases hg7 : n = 0
  · skip
    omega -- done
  · skip
    refine O.set (t := 7) (.bool false) rfl (by simp only [Value.bool.injEq, decide_eq_true_eq, decide_eq_false_iff_not]; omega) <| O.gt rfl rfl <| O.mv rfl <| O.gt rfl rfl <| O.sll (lo := 1) rfl rfl rfl (by omega) <| O.gt rfl rfl <| O.call rfl (tower_Zero_ok (xs := rest) hd.to) fun W2 v2 i2 e2 h2 => ?_
    subst h2
    refine O.gt rfl rfl <| O.not rfl <| O.pickF rfl rfl <| JO.nil <| J.cond rfl (fun h12 => ?_) (fun h12 => ?_)
    · skip
      refine J.seq <| J.reg rfl <| O.bld0 <| ?_
      skip
      refine O.st rfl rfl hl1.to rfl (by simp [oneC, Value.cells]) fun W3 i3 hc3 => O.as rfl <| JO.nil <| J.ret2 rfl (.cell rfl hc3 rfl) (.tmp rfl) fun W' iE iP => ?_
      exact ⟨_, _, rfl, (by simpa using h12), _, mkQ (a := (false, [])) (b := (false, [])) (nil_sl _ _ _) (nil_sl _ _ _), fun h => nomatch h⟩
    · skip
      refine J.skip <| J.seq <| J.reg rfl <| O.mv rfl <| O.ix (r := RQ) (j := 0) rfl rfl rfl h.to (u := cq x) rfl rfl rfl (fun h => nomatch h) fun a v hv => ?_
      obtain ⟨pa, na, ca, pb, nb, cb, rfl, sa, sb⟩ := unQ hv
      skip
      refine O.st rfl rfl hl1.to rfl (by simp [oneC, Value.cells]) fun W3 i3 hc3 => O.as rfl <| JO.nil <| J.ret2 rfl (.cell rfl hc3 rfl) (.tmp rfl) fun W' iE iP => ?_
      exact ⟨_, _, rfl, (by simpa using h12), _, mkQ (a := ci x.num) (b := ci x.den) sa.to sb.to, fun _ => rfl⟩
theorem ref06_Rational_ok {W : GW} {p : Option Addr} {n c : Nat} {x : Rat} {rest : List Rat} (h : Sl RQ W p n c (cl (x :: rest))) :
    Ok Try.prog 13 [.slice p n c] W (RatR x rest) := by
  have hn := h.hn
  rw [cl_length, List.length_cons] at hn
  have hd : Sl RQ W _ (n - 1) (c - 1) (cl rest) := h.drop 1 (by omega)
  have hcc := h.hc
  refine Ok.enter Try.func13 rfl rfl rfl rfl fun W0 iEn => ?_
  refine J.seq <| J.reg rfl <| O.alloc fun W1 b1 i1 hl1 hc1 hb1 => O.as rfl <| JO.nil <| J.seq <| J.seq <| J.reg rfl <| O.mv rfl <| O.len rfl <| O.eq rfl rfl <| O.mv rfl <| ?_
  by_cases hg7 : n = 0
  · skip
    omega -- done
  · skip
    refine O.set (t := 7) (.bool false) rfl (by simp only [Value.bool.injEq, decide_eq_true_eq, decide_eq_false_iff_not]; omega) <| O.gt rfl rfl <| O.mv rfl <| O.gt rfl rfl <| O.sll (lo := 1) rfl rfl rfl (by omega) <| O.gt rfl rfl <| O.call rfl (ref06_Zero_ok (xs := rest) hd.to) fun W2 v2 i2 e2 h2 => ?_
    subst h2
    refine O.gt rfl rfl <| O.not rfl <| O.pickF rfl rfl <| JO.nil <| J.cond rfl (fun h12 => ?_) (fun h12 => ?_)
    · skip
      refine J.seq <| J.reg rfl <| O.bld0 <| ?_
      skip
      refine O.st rfl rfl hl1.to rfl (by simp [oneC, Value.cells]) fun W3 i3 hc3 => O.as rfl <| JO.nil <| J.ret2 rfl (.cell rfl hc3 rfl) (.tmp rfl) fun W' iE iP => ?_
      exact ⟨_, _, rfl, (by simpa using h12), _, mkQ (a := (false, [])) (b := (false, [])) (nil_sl _ _ _) (nil_sl _ _ _), fun h => nomatch h⟩
    · skip
      refine J.skip <| J.seq <| J.reg rfl <| O.mv rfl <| O.ix (r := RQ) (j := 0) rfl rfl rfl h.to (u := cq x) rfl rfl rfl (fun h => nomatch h) fun a v hv => ?_
      obtain ⟨pa, na, ca, pb, nb, cb, rfl, sa, sb⟩ := unQ hv
      skip
      refine O.st rfl rfl hl1.to rfl (by simp [oneC, Value.cells]) fun W3 i3 hc3 => O.as rfl <| JO.nil <| J.ret2 rfl (.cell rfl hc3 rfl) (.tmp rfl) fun W' iE iP => ?_
      exact ⟨_, _, rfl, (by simpa using h12), _, mkQ (a := ci x.num) (b := ci x.den) sa.to sb.to, fun _ => rfl⟩

theorem law06_TowerRational_ok {W : GW} {v : Value} {t : List (List Raw)} {a b c : List Raw} (h : CaseR W v t a b c) :
    Ok Try.prog 4 [v] W fun _ r => r = .bool true := by
  obtain ⟨p, n, m, pa, na, ma, pb, nb, mb, pc, nc, mc, rfl, ht, ha, hb, hc⟩ := h.h
  refine Ok.enter Try.func4 rfl rfl rfl rfl fun W0 iEn => ?_
  refine J.seq <| J.reg rfl <| O.box rfl fun W1 b1 i1 hb1 => O.as rfl <| JO.nil <| J.seq <| J.seq <| J.reg rfl <| O.call rfl law06_awake_ok fun W2 v2 i2 e2 h2 => ?_
  subst h2
  refine O.not rfl <| O.mv rfl <| O.gt rfl rfl <| O.ldBw rfl hb1.to rfl <| O.gt rfl rfl <| O.call rfl (law06_right_ok ⟨_, _, _, _, _, _, _, _, _, _, _, _, rfl, ht.to, ha.to, hb.to, hc.to⟩) fun W3 v3 i3 e3 h3 => ?_
  obtain ⟨f, rfl, hf⟩ := h3
  refine O.gt rfl rfl <| O.not rfl <| O.pickF rfl rfl <| JO.nil <| J.cond rfl (fun h13 => ?_) (fun h13 => ?_)
  · skip
    refine J.seq <| J.reg rfl <| O.call rfl law06_awake_ok fun W4 v4 i4 e4 h4 => ?_
    subst h4
    refine O.as rfl <| JO.nil <| J.ret1 rfl (.tmp rfl) fun W' iE iP => ?_
    rfl
  · skip
    have hft : f = true := by simpa using h13
    obtain ⟨k, w, x, y, z, hk, rfl, rfl, rfl, rfl, hT, hx, hy, hz⟩ := formed_typed (hf.1 hft)
    obtain ⟨x0, xs, hxl⟩ : ∃ x0 xs, toL k x = x0 :: xs := by
      have h1 := toL_length k x
      have h2 := Nat.two_pow_pos k
      cases hh : toL k x with
      | nil => rw [hh] at h1; simp at h1; omega
      | cons x0 xs => exact ⟨x0, xs, rfl⟩
    rw [hxl] at ha
    refine J.skip <| J.seq <| J.reg rfl <| O.fa rfl <| O.ldB rfl hb1.to rfl <| O.call rfl (tower_Rational_ok ha.to) fun W5 v5 i5 e5 h5 => ?_
    obtain ⟨v6, b6, rfl, hb6, j6, hv6, hj6⟩ := h5
    obtain ⟨p1, n1, c1, p2, n2, c2, rfl, s1, s2⟩ := unQ hv6
    refine O.mv rfl <| O.ext rfl rfl <| O.ext rfl rfl <| O.als (sz := 4) (ag := true) (z := [.bool false, .slice none 0 0, .bool false, .slice none 0 0]) (fun _ => rfl) rfl rfl (by simp [oneC, Value.cells]) fun W7 b7 i7 hb7 => O.as rfl <| JO.nil <| J.seq <| J.reg rfl <| O.fa rfl <| O.ldB rfl hb1.to rfl <| O.call rfl (ref06_Rational_ok ha.to) fun W8 v8 i8 e8 h8 => ?_
    obtain ⟨v9, b9, rfl, hb9, j9, hv9, hj9⟩ := h8
    obtain ⟨p3, n3, c3, p4, n4, c4, rfl, s3, s4⟩ := unQ hv9
    obtain rfl : b9 = b6 := hb9.trans hb6.symm
    refine O.mv rfl <| O.ext rfl rfl <| O.ext rfl rfl <| O.als (sz := 4) (ag := true) (z := [.bool false, .slice none 0 0, .bool false, .slice none 0 0]) (fun _ => rfl) rfl rfl (by simp [oneC, Value.cells]) fun W10 b10 i10 hb10 => O.as rfl <| JO.nil <| J.seq <| ?_
    cases b9
    · skip
      refine J.sub [(1, _), (3, _), (4, _), (5, _), (6, _)] ⟨rfl, rfl, rfl, rfl, rfl, trivial⟩ ?_
      refine J.draw [.ex _, .ex _, .rel _, .ex _, .ex _, .rel _, .ex _, .ex _, .ex _, .ex _, .ex _, .ex _, .ex _, .ex _, .ex _, .ex _, .ex _, .ex _] rfl rfl ⟨fun W1 i1 e1 _ => O.fa rfl <| D.ex, fun W1 i1 e1 _ => O.ldB rfl hb1.to rfl <| D.ex, fun W1 i1 e1 _ => O.call rfl (tower_Zero_ok ha.to) fun W5 v5 i5 e5 h5 => D.rel (R := fun _ v => v = .bool (decide (∀ y ∈ x0 :: xs, y = 0))) e5 h5 (fun _ _ _ _ h => h), fun W1 i1 e1 _ => O.fa rfl <| D.ex, fun W1 i1 e1 _ => O.ldB rfl hb1.to rfl <| D.ex, fun W1 i1 e1 _ => fun v29 h29 => O.call rfl (ref06_Zero_ok ha.to) fun W5 v5 i5 e5 h5 => D.rel (R := fun _ v => v = .bool (decide (∀ y ∈ x0 :: xs, y = 0))) e5 h5 (fun _ _ _ _ h => h), fun W1 i1 e1 _ => fun v29 h29 => fun v32 h32 => (by subst h29; subst h32; exact O.beq rfl rfl <| D.exE (v' := .bool true) (by simp)), fun W1 i1 e1 _ => fun v32 h32 => O.mv rfl <| D.ex, fun W1 i1 e1 _ => O.gt rfl rfl <| O.mv rfl <| D.ex, fun W1 i1 e1 _ => O.gt rfl rfl <| O.mv rfl <| D.ex, fun W1 i1 e1 _ => O.gt rfl rfl <| O.beq rfl rfl <| D.exE (v' := .bool true) (by simp), fun W1 i1 e1 _ => O.pickT rfl rfl <| D.ex, fun W1 i1 e1 _ => O.mv rfl <| D.ex, fun W1 i1 e1 _ => O.gt rfl rfl <| O.mv rfl <| D.ex, fun W1 i1 e1 _ => O.gt rfl rfl <| O.not rfl <| D.ex, fun W1 i1 e1 _ => O.gt rfl rfl <| O.mv rfl <| D.ex, fun W1 i1 e1 _ => O.gs rfl rfl rfl <| D.ex, fun W1 i1 e1 _ => O.gs rfl rfl rfl <| D.ex, trivial⟩ ?_
      intro W1 i1 e1 v29 h29 v32 h32
      refine O.gs rfl rfl rfl <| O.gt rfl rfl <| O.pickT rfl rfl <| O.pickT rfl rfl <| O.as rfl <| JO.nil <| J.ret1 rfl (.tmp rfl) fun W' iE iP => ?_
      rfl
    · skip
      refine J.sub [(1, _), (3, _), (4, _), (5, _), (6, _)] ⟨rfl, rfl, rfl, rfl, rfl, trivial⟩ ?_
      refine J.draw [.ex _, .ex _, .rel _, .ex _, .ex _, .rel _, .ex _, .ex _, .ex _, .ex _, .ex _, .ex _, .ex _, .ex _, .ex _, .ex _, .ex _, .ex _] rfl rfl ⟨fun W1 i1 e1 _ => O.fa rfl <| D.ex, fun W1 i1 e1 _ => O.ldB rfl hb1.to rfl <| D.ex, fun W1 i1 e1 _ => O.call rfl (tower_Zero_ok ha.to) fun W5 v5 i5 e5 h5 => D.rel (R := fun _ v => v = .bool (decide (∀ y ∈ x0 :: xs, y = 0))) e5 h5 (fun _ _ _ _ h => h), fun W1 i1 e1 _ => O.fa rfl <| D.ex, fun W1 i1 e1 _ => O.ldB rfl hb1.to rfl <| D.ex, fun W1 i1 e1 _ => fun v29 h29 => O.call rfl (ref06_Zero_ok ha.to) fun W5 v5 i5 e5 h5 => D.rel (R := fun _ v => v = .bool (decide (∀ y ∈ x0 :: xs, y = 0))) e5 h5 (fun _ _ _ _ h => h), fun W1 i1 e1 _ => fun v29 h29 => fun v32 h32 => (by subst h29; subst h32; exact O.beq rfl rfl <| D.exE (v' := .bool true) (by simp)), fun W1 i1 e1 _ => fun v32 h32 => O.mv rfl <| D.ex, fun W1 i1 e1 _ => O.gt rfl rfl <| O.mv rfl <| D.ex, fun W1 i1 e1 _ => O.gt rfl rfl <| O.mv rfl <| D.ex, fun W1 i1 e1 _ => O.gt rfl rfl <| O.beq rfl rfl <| D.exE (v' := .bool true) (by simp), fun W1 i1 e1 _ => O.pickT rfl rfl <| D.ex, fun W1 i1 e1 _ => O.mv rfl <| D.ex, fun W1 i1 e1 _ => O.gt rfl rfl <| O.mv rfl <| D.ex, fun W1 i1 e1 _ => O.gt rfl rfl <| O.not rfl <| D.ex, fun W1 i1 e1 _ => O.gt rfl rfl <| O.mv rfl <| D.ex, fun W1 i1 e1 _ => O.gt rfl rfl <| O.ldBw rfl hb7.to rfl <| D.ex, fun W1 i1 e1 _ => O.gt rfl rfl <| O.ldBw rfl hb10.to rfl <| D.ex, trivial⟩ ?_
      intro W1 i1 e1 v29 h29 v32 h32
      refine O.gt rfl rfl <| ?_
      have hj := (hj6 rfl).trans (hj9 rfl).symm
      refine O.call rfl (ref02_Same_ok (mkQ s1.to s2.to) (mkQ s3.to s4.to)) fun W11 v11 i11 e11 h11 => ?_
      obtain rfl : v11 = .bool true := by rw [h11]; exact congrArg _ (decide_eq_true hj)
      refine O.gt rfl rfl <| O.pickF rfl rfl <| O.pickT rfl rfl <| O.as rfl <| JO.nil <| J.ret1 rfl (.tmp rfl) fun W' iE iP => ?_
      rfl
end Go.Proofs.Ytcobdnnfmhfenaa

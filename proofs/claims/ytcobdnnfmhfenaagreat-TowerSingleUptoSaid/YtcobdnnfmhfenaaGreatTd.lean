/- The program's towers: sums, products. -/
import Derived.Test.YtcobdnnfmhfenaaGreatTc
set_option linter.unusedVariables false
set_option linter.unusedSimpArgs false
set_option maxRecDepth 10000
set_option maxHeartbeats 1000000
namespace Go.Proofs.YtcobdnnfmhfenaaGreat
open Go Go.Rx Go.Num Go.Tow

/-- the zero of the type, no number in normal form -/
def rawz : Raw := ((false, []), (false, []))
theorem rawz_at (W : GW) : RQ.At W [.bool false, .slice none 0 0, .bool false, .slice none 0 0] rawz :=
  ⟨[.bool false, .slice none 0 0], [.bool false, .slice none 0 0], rfl, ⟨[.bool false], [.slice none 0 0], rfl, rfl, ⟨none, 0, 0, rfl, nil_sl _ _ _⟩⟩, ⟨[.bool false], [.slice none 0 0], rfl, rfl, ⟨none, 0, 0, rfl, nil_sl _ _ _⟩⟩⟩
theorem fill_end {l : List Raw} {ys : List Raw} (h1 : l.length = ys.length) (h2 : ∀ j, j < ys.length → l[j]? = ys[j]?) : l = ys := by
  apply List.ext_getElem?
  intro i
  by_cases hi : i < ys.length
  · exact h2 i hi
  · rw [List.getElem?_eq_none (by omega), List.getElem?_eq_none (by omega)]
theorem set_ok {l ys : List Raw} {k : Nat} {u : Raw} (hk : k < l.length) (h : ∀ j, j < k → l[j]? = ys[j]?) (hu : ys[k]? = some u) : ∀ j, j < k + 1 → (l.set k u)[j]? = ys[j]? := by
  intro j hj
  by_cases hjk : j = k
  · subst hjk; rw [List.getElem?_set_self hk, hu]
  · rw [List.getElem?_set_ne (fun h => hjk h.symm)]; exact h j (by omega)

theorem tower_zeros_own {W : GW} {n : Nat} (hn : n ≤ 1073741824) :
    Ok Tryz.prog 53 [.int .i64 (n : Int)] W fun W' r => OwnR RQ W W' r (cl (List.replicate n 0)) := by
  have hget : ∀ j, j < n → (cl (List.replicate n 0))[j]? = some (cq 0) := fun j hj => by simp [cl, hj]
  refine Ok.enter Tryz.func53 rfl rfl rfl rfl fun W0 iEn => ?_
  refine J.seq <| J.reg rfl <| O.as rfl <| JO.nil <| J.seq <| J.reg rfl <| O.mv rfl <| O.mk (r := RQ) (m := n) (c := n) rawz rfl rfl rfl rfl (by omega) (by omega) (by omega) rfl rfl (by decide) rawz_at fun W2 b2 i2 e2 hb2 ho0 => O.as rfl <| JO.nil <| J.seq <| J.seq <| J.reg rfl <| O.mv rfl <| O.len rfl <| O.mv rfl <| JO.nil <| J.block <| ?_
  refine J.loop (α := Nat × List Raw) (fun q => [(3, .slice (some ⟨b2, 0, none⟩) n n), (8, .int .i64 (n : Int)), (9, .int .i64 (q.1 : Int))]) (fun q W' => Le W0 W' ∧ Ows RQ W' (some ⟨b2, 0, none⟩) n n q.2 ∧ q.1 ≤ n ∧ ∀ j, j < q.1 → q.2[j]? = (cl (List.replicate n 0))[j]?) (fun q => n - q.1) (0, List.replicate n rawz) ⟨rfl, rfl, rfl, trivial⟩ ⟨inferInstance, ho0, Nat.zero_le _, fun _ h => nomatch h⟩ ?_
  rintro ⟨k, lo⟩ W3 ⟨_, ho, hk, hd⟩
  dsimp only at *
  have hlo := ho.hn
  refine J.seq <| J.reg rfl <| O.lt rfl rfl <| JO.nil <| J.seq <| J.condD rfl (fun h10 => ?_) (fun h10 => ?_)
  · skip
    refine J.skip <| J.seq <| J.block <| J.seq <| J.reg rfl <| O.mv rfl <| O.as rfl <| JO.nil <| J.reg rfl <| O.mv rfl <| O.mv rfl <| O.call rfl (rational_FromInt_ok (z := 0) (by decide)) fun W4 v4 i4 e4 h4 => ?_
    have ho4 := ho.ext e4
    refine O.iaB (r := RQ) (j := k) rfl rfl rfl ho4 (by omega) rfl <| O.sto (r := RQ) (j := k) (u := cq 0) rfl rfl ho4 (by omega) h4 rfl (.inl rfl) fun W5 i5 o5 => JO.nil <| J.bend <| J.reg rfl <| O.add rfl rfl (wI (by omega)) <| O.mv rfl <| JO.nil <| ?_
    exact J.at' (k + 1, lo.set k (cq 0)) ⟨rfl, rfl, rfl, trivial⟩ ⟨⟨inferInstance, o5, by show k + 1 ≤ n; omega, set_ok (by omega) hd (hget k (by omega))⟩, by show n - (k + 1) < n - k; omega⟩
  · skip
    refine J.exit rfl <| J.seq <| J.reg rfl <| O.mv rfl <| O.as rfl <| JO.nil <| ?_
    have hkn : k = n := by omega
    have hfin : lo = cl (List.replicate n 0) := fill_end (by rw [cl_length, List.length_replicate]; omega) (fun j hj => hd j (by rw [cl_length, List.length_replicate] at hj; omega))
    rw [hfin] at ho
    refine J.ret1o rfl (.tmp rfl) fun W' iE iO => ?_
    exact ho.ret iE iO

theorem zip_get {xs ys : List Rat} {i : Nat} {x y : Rat} (h : xs[i]? = some x) (k : ys[i]? = some y) : (List.zipWith (· + ·) xs ys)[i]? = some (x + y) := by
  rw [List.getElem?_zipWith, h, k]
theorem rat_get {xs : List Rat} {i : Nat} (h : i < xs.length) : ∃ x, xs[i]? = some x := ⟨_, List.getElem?_eq_getElem h⟩
theorem tower_add_own {W : GW} {p q : Option Addr} {n c m d s s' : Nat} {xs ys : List Rat} (h : Sl RQ W p n c (cl xs)) (h' : Sl RQ W q m d (cl ys)) (hl : xs.length = ys.length) (hn : n ≤ 1073741824) (hx : ∀ x ∈ xs, Qs s x) (hy : ∀ y ∈ ys, Qs s' y) (hs : s + s' + 1 ≤ 17592186044416) :
    Ok Tryz.prog 64 [.slice p n c, .slice q m d] W fun W' r => OwnR RQ W W' r (cl (List.zipWith (· + ·) xs ys)) := by
  have hnn := h.hn
  have hmm := h'.hn
  rw [cl_length] at hnn hmm
  refine Ok.enter Tryz.func64 rfl rfl rfl rfl fun W0 iEn => ?_
  refine J.seq <| J.reg rfl <| O.as rfl <| JO.nil <| J.seq <| J.reg rfl <| O.mv rfl <| O.len rfl <| O.mk (r := RQ) (m := n) (c := n) rawz rfl rfl rfl rfl (by omega) (by omega) (by omega) rfl rfl (by decide) rawz_at fun W2 b2 i2 e2 hb2 ho0 => O.as rfl <| JO.nil <| J.seq <| J.seq <| J.reg rfl <| O.mv rfl <| O.len rfl <| O.mv rfl <| JO.nil <| J.block <| ?_
  refine J.loop (α := Nat × List Raw) (fun g => [(0, .slice p n c), (1, .slice q m d), (5, .slice (some ⟨b2, 0, none⟩) n n), (11, .int .i64 (n : Int)), (12, .int .i64 (g.1 : Int))]) (fun g W' => Le W0 W' ∧ Ows RQ W' (some ⟨b2, 0, none⟩) n n g.2 ∧ g.1 ≤ n ∧ ∀ j, j < g.1 → g.2[j]? = (cl (List.zipWith (· + ·) xs ys))[j]?) (fun g => n - g.1) (0, List.replicate n rawz) ⟨rfl, rfl, rfl, rfl, rfl, trivial⟩ ⟨inferInstance, ho0, Nat.zero_le _, fun _ h => nomatch h⟩ ?_
  rintro ⟨k, lo⟩ W3 ⟨_, ho, hk, hd⟩
  dsimp only at *
  have hlo := ho.hn
  refine J.seq <| J.reg rfl <| O.lt rfl rfl <| JO.nil <| J.seq <| J.condD rfl (fun h13 => ?_) (fun h13 => ?_)
  · skip
    obtain ⟨x, hxk⟩ := rat_get (xs := xs) (i := k) (by omega)
    obtain ⟨y, hyk⟩ := rat_get (xs := ys) (i := k) (by omega)
    obtain ⟨b3, o3, rfl, hj3, hp3⟩ := h.place (cl_get hxk)
    obtain ⟨b4, o4, rfl, hj4, hp4⟩ := h'.place (cl_get hyk)
    refine J.skip <| J.seq <| J.block <| J.seq <| J.reg rfl <| O.mv rfl <| O.as rfl <| JO.nil <| ?_
    refine J.draw [.ex _, .ex _, .ex _, .ex _, .ex _, .rel _, .ex _, .ex _, .ex _, .rel _, .rel _] rfl rfl ⟨fun W1 i1 e1 _ => O.mv rfl <| D.ex, fun W1 i1 e1 _ => O.mv rfl <| D.ex, fun W1 i1 e1 _ => O.mv rfl <| D.ex, fun W1 i1 e1 _ => O.mv rfl <| D.ex, fun W1 i1 e1 _ => O.ia (j := k) rfl rfl rfl hj3 <| D.ex, fun W1 i1 e1 _ => O.ldP (r := RQ) rfl (hp3 _ Lf.s) rfl rfl (fun h => nomatch h) fun v hv => D.rel (R := fun W v => V RQ W v (cq x)) (Ext.refl _) hv V.me, fun W1 i1 e1 _ => O.mv rfl <| D.ex, fun W1 i1 e1 _ => O.mv rfl <| D.ex, fun W1 i1 e1 _ => O.ia (j := k) rfl rfl rfl hj4 <| D.ex, fun W1 i1 e1 _ => O.ldP (r := RQ) rfl (hp4 _ Lf.s) rfl rfl (fun h => nomatch h) fun v hv => D.rel (R := fun W v => V RQ W v (cq y)) (Ext.refl _) hv V.me, fun W1 i1 e1 _ => fun v20 h20 => fun v24 h24 => O.call rfl (rational_Add_ok h20 h24 (hx x (List.mem_of_getElem? hxk)) (hy y (List.mem_of_getElem? hyk)) hs) fun W5 v5 i5 e5 h5 => D.rel (R := fun W v => V RQ W v (cq (x + y))) e5 h5 V.me, trivial⟩ ?_
    intro W1 i1 e1 v20 h20 v24 h24 v25 h25
    have ho4 := ho.ext e1
    refine O.iaB (r := RQ) (j := k) rfl rfl rfl ho4 (by omega) rfl <| O.sto (r := RQ) (j := k) (u := cq (x + y)) rfl rfl ho4 (by omega) h25.to rfl (.inl rfl) fun W5 i5 o5 => JO.nil <| J.bend <| J.reg rfl <| O.add rfl rfl (wI (by omega)) <| O.mv rfl <| JO.nil <| ?_
    exact J.at' (k + 1, lo.set k (cq (x + y))) ⟨rfl, rfl, rfl, rfl, rfl, trivial⟩ ⟨⟨inferInstance, o5, by show k + 1 ≤ n; omega, set_ok (by omega) hd (cl_get (zip_get hxk hyk))⟩, by show n - (k + 1) < n - k; omega⟩
  · skip
    refine J.exit rfl <| J.seq <| J.reg rfl <| O.mv rfl <| O.as rfl <| JO.nil <| ?_
    have hkn : k = n := by omega
    have hzl : (List.zipWith (· + ·) xs ys).length = n := by rw [List.length_zipWith]; omega
    have hfin : lo = cl (List.zipWith (· + ·) xs ys) := fill_end (by rw [cl_length]; omega) (fun j hj => hd j (by rw [cl_length] at hj; omega))
    rw [hfin] at ho
    refine J.ret1o rfl (.tmp rfl) fun W' iE iO => ?_
    exact ho.ret iE iO
theorem map_get {xs : List Rat} {i : Nat} {x : Rat} (h : xs[i]? = some x) : (xs.map (- ·))[i]? = some (-x) := by
  rw [List.getElem?_map, h]; rfl
theorem tower_neg_own {W : GW} {p : Option Addr} {n c s : Nat} {xs : List Rat} (h : Sl RQ W p n c (cl xs)) (hn : n ≤ 1073741824) (hx : ∀ x ∈ xs, Qs s x) (hs : s ≤ 17592186044416) :
    Ok Tryz.prog 55 [.slice p n c] W fun W' r => OwnR RQ W W' r (cl (xs.map (- ·))) := by
  have hnn := h.hn
  rw [cl_length] at hnn
  refine Ok.enter Tryz.func55 rfl rfl rfl rfl fun W0 iEn => ?_
  refine J.seq <| J.reg rfl <| O.as rfl <| JO.nil <| J.seq <| J.reg rfl <| O.mv rfl <| O.len rfl <| O.mk (r := RQ) (m := n) (c := n) rawz rfl rfl rfl rfl (by omega) (by omega) (by omega) rfl rfl (by decide) rawz_at fun W2 b2 i2 e2 hb2 ho0 => O.as rfl <| JO.nil <| J.seq <| J.seq <| J.reg rfl <| O.mv rfl <| O.len rfl <| O.mv rfl <| JO.nil <| J.block <| ?_
  refine J.loop (α := Nat × List Raw) (fun g => [(3, .slice (some ⟨b2, 0, none⟩) n n), (9, .slice p n c), (10, .int .i64 (n : Int)), (11, .int .i64 (g.1 : Int))]) (fun g W' => Le W0 W' ∧ Ows RQ W' (some ⟨b2, 0, none⟩) n n g.2 ∧ g.1 ≤ n ∧ ∀ j, j < g.1 → g.2[j]? = (cl (xs.map (- ·)))[j]?) (fun g => n - g.1) (0, List.replicate n rawz) ⟨rfl, rfl, rfl, rfl, trivial⟩ ⟨inferInstance, ho0, Nat.zero_le _, fun _ h => nomatch h⟩ ?_
  rintro ⟨k, lo⟩ W3 ⟨_, ho, hk, hd⟩
  dsimp only at *
  have hlo := ho.hn
  refine J.seq <| J.reg rfl <| O.lt rfl rfl <| JO.nil <| J.seq <| J.condD rfl (fun h12 => ?_) (fun h12 => ?_)
  · skip
    obtain ⟨x, hxk⟩ := rat_get (xs := xs) (i := k) (by omega)
    refine J.skip <| J.seq <| J.block <| J.seq <| J.reg rfl <| O.mv rfl <| O.ix (r := RQ) (j := k) rfl rfl rfl h.to (cl_get hxk) rfl rfl (fun h => nomatch h) fun a v hv => ?_
    obtain ⟨p1, n1, c1, p2, n2, c2, rfl, h1, h2⟩ := unQ hv
    refine O.allocE fun W5 b5 i5 e5 hl5 hc5 hb5 => ?_
    have ho5 := ho.ext e5
    have hbne : b2 ≠ b5 := by
      rcases ho.h with h0 | ⟨b, cs, T, hp, hA, hm, hb, _⟩
      · have := ho.hc; omega
      · injection hp with hp
        injection hp with hp _ _
        have h9 : b < W3.size := lt_of_heap hb
        have h8 : W3.size ≤ b5 := hb5
        omega
    refine O.as rfl <| ?_
    skip
    refine O.stX rfl rfl hl5 rfl (by simp [oneC, Value.cells]) fun W6 i6 hc6 hf6 hz6 => JO.nil <| J.reg rfl <| O.mv rfl <| O.mv rfl <| ?_
    have ho6 := ho5.only i6.s hf6 hbne
    refine O.ldVw rfl hc6 rfl <| O.call rfl (rational_Neg_ok (x := x) (mkQ h1.to h2.to) ((hx x (List.mem_of_getElem? hxk)).n.len hs)) fun W7 v7 i7 e7 h7 => ?_
    have ho7 := ho6.ext e7
    refine O.iaB (r := RQ) (j := k) rfl rfl rfl ho7 (by omega) rfl <| O.sto (r := RQ) (j := k) (u := cq (-x)) rfl rfl ho7 (by omega) h7 rfl (.inl rfl) fun W8 i8 o8 => JO.nil <| J.bend <| J.reg rfl <| O.add rfl rfl (wI (by omega)) <| O.mv rfl <| JO.nil <| ?_
    exact J.at' (k + 1, lo.set k (cq (-x))) ⟨rfl, rfl, rfl, rfl, trivial⟩ ⟨⟨inferInstance, o8, by show k + 1 ≤ n; omega, set_ok (by omega) hd (cl_get (map_get hxk))⟩, by show n - (k + 1) < n - k; omega⟩
  · skip
    refine J.exit rfl <| J.seq <| J.reg rfl <| O.mv rfl <| O.as rfl <| JO.nil <| ?_
    have hkn : k = n := by omega
    have hfin : lo = cl (xs.map (- ·)) := fill_end (by rw [cl_length, List.length_map]; omega) (fun j hj => hd j (by rw [cl_length, List.length_map] at hj; omega))
    rw [hfin] at ho
    refine J.ret1o rfl (.tmp rfl) fun W' iE iO => ?_
    exact ho.ret iE iO

theorem tower_halves_ok {W : GW} {p : Option Addr} {n c h2 : Nat} {l : List Raw} (h : Sl RQ W p n c l) (hn2 : n = 2 * h2) :
    Ok Tryz.prog 81 [.slice p n c] W fun W' r => ∃ v1 v2, r = .tuple #[v1, v2] ∧ V RE W' v1 (l.take h2) ∧ V RE W' v2 (l.drop h2) := by
  have hc := h.hc
  have hC := h.hC
  have hq : Int.tdiv (n : Int) 2 = (h2 : Int) := by rw [show Int.tdiv (n : Int) 2 = ((n / 2 : Nat) : Int) from rfl]; omega
  have f1 := h.take h2 (by omega)
  have f2 := h.drop h2 (by omega)
  refine Ok.enter Tryz.func81 rfl rfl rfl rfl fun W0 iEn => ?_
  refine J.seq <| J.reg rfl <| O.as rfl <| O.as rfl <| JO.nil <| J.seq <| ?_
  refine J.sub [(0, _)] ⟨rfl, trivial⟩ ?_
  refine J.draw [.ex _, .ex _, .ex _, .ex _, .ex _, .ex _, .ex _, .ex _, .ex _, .ex _, .ex _] rfl rfl ⟨fun W1 i1 e1 _ => O.mv rfl <| D.ex, fun W1 i1 e1 _ => O.mv rfl <| D.ex, fun W1 i1 e1 _ => O.len rfl <| D.ex, fun W1 i1 e1 _ => O.quo (r := (h2 : Int)) rfl rfl (by decide) (by rw [hq]; exact wI (by omega)) <| D.ex, fun W1 i1 e1 _ => O.slh (hi := h2) rfl rfl rfl (by omega) <| D.ex, fun W1 i1 e1 _ => O.mv rfl <| D.ex, fun W1 i1 e1 _ => O.mv rfl <| D.ex, fun W1 i1 e1 _ => O.len rfl <| D.ex, fun W1 i1 e1 _ => O.quo (r := (h2 : Int)) rfl rfl (by decide) (by rw [hq]; exact wI (by omega)) <| D.ex, fun W1 i1 e1 _ => O.sll (lo := h2) rfl rfl rfl (by omega) <| D.ex, fun W1 i1 e1 _ => O.as rfl <| D.ex, trivial⟩ ?_
  intro W1 i1 e1
  refine O.as rfl <| JO.nil <| J.ret2 rfl (.tmp rfl) (.tmp rfl) fun W' iE iP => ?_
  exact ⟨_, _, rfl, f1.to.v, f2.to.v⟩
theorem tower_split_ok {W : GW} {p : Option Addr} {n c : Nat} {t : List (List Raw)} {r : List Raw} (h : Sl RE W p n c (t ++ [r])) :
    Ok Tryz.prog 80 [.slice p n c] W fun W' v => ∃ v1 v2, v = .tuple #[v1, v2] ∧ V RT W' v1 t ∧ V RE W' v2 r := by
  have hn := h.hn
  have hc := h.hc
  have hC := h.hC
  rw [List.length_append, List.length_singleton] at hn
  have f1 := h.take (n - 1) (by omega)
  rw [show n - 1 = t.length from by omega, List.take_left' rfl] at f1
  obtain ⟨b, o, rfl, hj, hp⟩ := h.place (j := t.length) (u := r) (by rw [List.getElem?_append_right (Nat.le_refl _), Nat.sub_self]; rfl)
  refine Ok.enter Tryz.func80 rfl rfl rfl rfl fun W0 iEn => ?_
  refine J.seq <| J.reg rfl <| O.as rfl <| O.as rfl <| JO.nil <| J.seq <| ?_
  refine J.sub [(0, _)] ⟨rfl, trivial⟩ ?_
  refine J.draw [.ex _, .ex _, .ex _, .ex _, .ex _, .ex _, .ex _, .ex _, .ex _, .ex _, .rel _, .ex _] rfl rfl ⟨fun W1 i1 e1 _ => O.mv rfl <| D.ex, fun W1 i1 e1 _ => O.mv rfl <| D.ex, fun W1 i1 e1 _ => O.len rfl <| D.ex, fun W1 i1 e1 _ => O.sb (r := (t.length : Int)) rfl rfl ((wI (by omega)).trans (by omega)) <| D.ex, fun W1 i1 e1 _ => O.slh (hi := t.length) rfl rfl rfl (by omega) <| D.ex, fun W1 i1 e1 _ => O.mv rfl <| D.ex, fun W1 i1 e1 _ => O.mv rfl <| D.ex, fun W1 i1 e1 _ => O.len rfl <| D.ex, fun W1 i1 e1 _ => O.sb (r := (t.length : Int)) rfl rfl ((wI (by omega)).trans (by omega)) <| D.ex, fun W1 i1 e1 _ => O.ia (j := t.length) rfl rfl rfl hj <| D.ex, fun W1 i1 e1 _ => O.ldP (r := RE) rfl (hp _ Lf.s) rfl rfl (fun _ => rfl) fun v hv => D.rel (R := fun W v => V RE W v r) (Ext.refl _) hv V.me, fun W1 i1 e1 _ => O.as rfl <| D.ex, trivial⟩ ?_
  intro W1 i1 e1 v14 h14
  refine O.as rfl <| JO.nil <| J.ret2 rfl (.tmp rfl) (.tmp rfl) fun W' iE iP => ?_
  exact ⟨_, _, rfl, f1.to.v, h14.to⟩
end Go.Proofs.YtcobdnnfmhfenaaGreat

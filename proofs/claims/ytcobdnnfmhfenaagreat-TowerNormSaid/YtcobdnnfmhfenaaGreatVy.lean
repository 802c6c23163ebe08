/- The reference's towers: sums, opposites, differences. -/
import Derived.Test.YtcobdnnfmhfenaaGreatLy
import Derived.Test.YtcobdnnfmhfenaaGreatVa
set_option linter.unusedVariables false
set_option maxRecDepth 10000
set_option maxHeartbeats 2000000
namespace Go.Proofs.YtcobdnnfmhfenaaGreat
open Go Go.Rx Go.Num Go.Tow

theorem take_snoc {xs : List Rat} {k : Nat} {x : Rat} (h : xs[k]? = some x) : xs.take (k + 1) = xs.take k ++ [x] := by
  rw [List.take_add_one, h]; rfl
theorem cl_snoc {xs : List Rat} {k : Nat} {x : Rat} (h : xs[k]? = some x) : cl (xs.take (k + 1)) = cl (xs.take k) ++ [cq x] := by
  rw [take_snoc h, cl, List.map_append]; rfl

theorem ref06_Neg_own {W : GW} {p0 p : Option Addr} {n0 c0 n c : Nat} {xs : List Rat} (h : Sl RQ W p n c (cl xs)) (hn : n ≤ 65536) :
    Ok Tryz.prog 25 [.slice p0 n0 c0, .slice p n c] W fun W' r => OwnR RQ W W' r (cl (xs.map (- ·))) := by
  have hnn := h.hn
  rw [cl_length] at hnn
  refine Ok.enter Tryz.func25 rfl rfl rfl rfl fun W0 iEn => ?_
  refine J.seq <| J.reg rfl <| O.as rfl <| JO.nil <| J.seq <| J.reg rfl <| O.as rfl <| JO.nil <| J.seq <| J.seq <| J.reg rfl <| O.as rfl <| JO.nil <| J.block <| ?_
  refine J.loop (α := Nat × Option Addr × Nat) (fun g => [(1, .slice p n c), (5, .slice g.2.1 g.1 g.2.2), (6, .int .i64 (g.1 : Int))]) (fun g W' => Le W0 W' ∧ Ows RQ W' g.2.1 g.1 g.2.2 (cl ((xs.map (- ·)).take g.1)) ∧ g.1 ≤ n) (fun g => n - g.1) (0, none, 0) ⟨rfl, rfl, rfl, trivial⟩ ⟨inferInstance, Ows.nil _ _ _, Nat.zero_le _⟩ ?_
  rintro ⟨k, p5, c5⟩ W3 ⟨_, ho, hk⟩
  dsimp only at *
  refine J.seq <| J.seq <| J.reg rfl <| O.mv rfl <| O.mv rfl <| O.len rfl <| O.lt rfl rfl <| JO.nil <| J.condD rfl (fun h10 => ?_) (fun h10 => ?_)
  · skip
    obtain ⟨x, hxk⟩ := rat_get (xs := xs) (i := k) (by omega)
    refine J.skip <| J.seq <| J.block <| J.reg rfl <| O.mv rfl <| O.mv rfl <| O.mv rfl <| O.iaT (j := k) rfl rfl rfl h.to (cl_get hxk) rfl fun b16 o16 hb16 => O.ldT rfl hb16.to.h rfl rfl (fun h => nomatch h) fun v17 h17 => O.call rfl (ref02_Neg_ok h17.to) fun W18 v18 i18 e18 h18 => O.app1 (fun _ => rfl) rfl (ho.ext e18) h18.to rfl rfl (by decide) (.inl rfl) (by decide) (by omega) (by omega) fun W20 p20 c20 v19 i19 o20 => O.as rfl <| JO.nil <| J.bend <| J.reg rfl <| O.mv rfl <| O.add rfl rfl (wI (by omega)) <| O.as rfl <| JO.nil <| ?_
    exact J.at' (k + 1, p20, c20) ⟨rfl, rfl, rfl, trivial⟩ ⟨⟨inferInstance, by rw [cl_snoc (map_get hxk)]; exact o20, by show k + 1 ≤ n; omega⟩, by show n - (k + 1) < n - k; omega⟩
  · skip
    refine J.exit rfl <| J.seq <| J.reg rfl <| O.mv rfl <| O.as rfl <| JO.nil <| ?_
    have hkn : k = n := by omega
    subst hkn
    rw [List.take_of_length_le (by rw [List.length_map]; omega)] at ho
    refine J.ret1o rfl (.tmp rfl) fun W' iE iO => ?_
    exact ho.ret iE iO

theorem ref06_Add_own {W : GW} {p0 p q : Option Addr} {n0 c0 n c m d s s' : Nat} {xs ys : List Rat} (h : Sl RQ W p n c (cl xs)) (h' : Sl RQ W q m d (cl ys)) (hl : xs.length = ys.length) (hn : n ≤ 65536) (hx : ∀ x ∈ xs, Qs s x) (hy : ∀ y ∈ ys, Qs s' y) (hs : s + s' + 1 ≤ 17592186044416) :
    Ok Tryz.prog 13 [.slice p0 n0 c0, .slice p n c, .slice q m d] W fun W' r => OwnR RQ W W' r (cl (List.zipWith (· + ·) xs ys)) := by
  have hnn := h.hn
  have hmm := h'.hn
  rw [cl_length] at hnn hmm
  refine Ok.enter Tryz.func13 rfl rfl rfl rfl fun W0 iEn => ?_
  refine J.seq <| J.reg rfl <| O.as rfl <| JO.nil <| J.seq <| J.reg rfl <| O.as rfl <| JO.nil <| J.seq <| J.seq <| J.reg rfl <| O.as rfl <| JO.nil <| J.block <| ?_
  refine J.loop (α := Nat × Option Addr × Nat) (fun g => [(1, .slice p n c), (2, .slice q m d), (7, .slice g.2.1 g.1 g.2.2), (8, .int .i64 (g.1 : Int))]) (fun g W' => Le W0 W' ∧ Ows RQ W' g.2.1 g.1 g.2.2 (cl ((List.zipWith (· + ·) xs ys).take g.1)) ∧ g.1 ≤ n) (fun g => n - g.1) (0, none, 0) ⟨rfl, rfl, rfl, rfl, trivial⟩ ⟨inferInstance, Ows.nil _ _ _, Nat.zero_le _⟩ ?_
  rintro ⟨k, p5, c5⟩ W3 ⟨_, ho, hk⟩
  dsimp only at *
  refine J.seq <| J.seq <| J.reg rfl <| O.mv rfl <| O.mv rfl <| O.len rfl <| O.lt rfl rfl <| JO.nil <| J.condD rfl (fun h12 => ?_) (fun h12 => ?_)
  · skip
    obtain ⟨x, hxk⟩ := rat_get (xs := xs) (i := k) (by omega)
    obtain ⟨y, hyk⟩ := rat_get (xs := ys) (i := k) (by omega)
    refine J.skip <| J.seq <| J.block <| ?_
    obtain ⟨b18, o18, rfl, hj18, hb18⟩ := (h).placeP (cl_get hxk)
    obtain ⟨b22, o22, rfl, hj22, hb22⟩ := (h').placeP (cl_get hyk)
    refine J.draw [.ex _, .ex _, .ex _, .ex _, .rel _, .ex _, .ex _, .ex _, .rel _, .rel _, .rel _] rfl rfl ⟨fun Wd id ed _ => O.mv rfl <| D.ex, fun Wd id ed _ => O.mv rfl <| D.ex, fun Wd id ed _ => O.mv rfl <| D.ex, fun Wd id ed _ => O.ia (j := k) rfl rfl rfl hj18 <| D.ex, fun Wd id ed _ => O.ldTD rfl hb18.to.h rfl rfl (fun h => nomatch h), fun Wd id ed _ => O.mv rfl <| D.ex, fun Wd id ed _ => O.mv rfl <| D.ex, fun Wd id ed _ => O.ia (j := k) rfl rfl rfl hj22 <| D.ex, fun Wd id ed _ => O.ldTD rfl hb22.to.h rfl rfl (fun h => nomatch h), fun Wd id ed _ => fun v19 h19 => fun v23 h23 => O.call rfl (ref02_Add_ok h19 h23 (hx x (List.mem_of_getElem? hxk)) (hy y (List.mem_of_getElem? hyk)) hs) fun Wd vd id ed hd => D.rel ed hd V.me, fun Wd id ed _ => fun v24 h24 => O.bs1D rfl h24 rfl rfl (by decide) (.inl rfl) (by decide), trivial⟩ ?_
    intro Wr5 ir5 er5 v19 h19 v23 h23 v24 h24 v25 h25
    obtain ⟨p25, m25, c25, rfl, s25⟩ := h25.sl
    obtain rfl : m25 = 1 := s25.hn
    refine O.app rfl rfl (ho.ext er5) s25.to rfl rfl (by omega) (by omega) fun W26 p26 c26 i26 o26 => O.as rfl <| JO.nil <| J.bend <| J.reg rfl <| O.mv rfl <| O.add rfl rfl (wI (by omega)) <| O.as rfl <| JO.nil <| ?_
    exact J.at' (k + 1, p26, c26) ⟨rfl, rfl, rfl, rfl, trivial⟩ ⟨⟨inferInstance, by rw [cl_snoc (zip_get hxk hyk)]; exact o26, by show k + 1 ≤ n; omega⟩, by show n - (k + 1) < n - k; omega⟩
  · skip
    refine J.exit rfl <| J.seq <| J.reg rfl <| O.mv rfl <| O.as rfl <| JO.nil <| ?_
    have hkn : k = n := by omega
    subst hkn
    rw [List.take_of_length_le (by rw [List.length_zipWith]; omega)] at ho
    refine J.ret1o rfl (.tmp rfl) fun W' iE iO => ?_
    exact ho.ret iE iO
end Go.Proofs.YtcobdnnfmhfenaaGreat

/- part 5 -/
import Derived.Test.YtdlhdemfnfpboaaGreatDoorXD
import Derived.Shelf.Strings.AsciiSet
import Derived.Shelf.Strings.BuilderK
import Derived.Shelf.Strings.OnBuilder
import Derived.RangeFuncLeaves
import Derived.ControlIn
import Derived.RangeFuncCalls
set_option linter.unusedVariables false
set_option linter.unusedSimpArgs false
set_option maxRecDepth 100000
set_option maxHeartbeats 4000000
namespace Go.Proofs.YtdlhdemfnfpboaaGreatDoor
open Go Go.Vm Go.Num Go.Proofs Go.Shelf Go.RowKit Go.Tow
section
theorem Xht {xs : List Bool} {b : UInt8} {v : Bool} (hx : xs.length=256) (hv : xs[b.toNat]?=some v) : CN0 312 [.ap 1000001 256,.d (.int .u8 b.toNat)] [(1000001,.arr 1 (xs.map D.bool))] (·=.b v):=by
 refine EnW Tryz.func312 fun _ _ _ _=>?_
 refine Nk rfl ?_
 refine Ea b.toNat rfl (UInt8.toNat_lt b) ?_
 refine Ld (.bool v) rfl (by rw [W0w,hv];rfl) ?_
 exact Rw [] [(1000001,.arr 1 (xs.map D.bool))] rfl (.one (.rf rfl) rfl rfl) ⟨rfl,rfl⟩
def Xn2 (f : UInt8→Bool) (s : List UInt8) : List UInt8:=(s.reverse.dropWhile f).reverse
theorem Xgk {f : UInt8→Bool} (s : List UInt8) (x : UInt8) : Xn2 f (s++[x])=if f x=true then Xn2 f s else s++[x]:=by
 unfold Xn2
 rw [List.reverse_append,List.reverse_singleton,List.singleton_append,W4f]
 by_cases h : f x=true <;> simp [h]
theorem Xfc {xs : List Bool} {f : UInt8→Bool} {s : List UInt8} (hx : xs.length=256) (hf : ∀ b : UInt8,xs[b.toNat]?=some (f b)) (hs : Tx s) : CN0 272 [.d (.str s),.ap 1000001 256] [(1000001,.arr 1 (xs.map D.bool))] (·=.d (.str (Xn2 f s))):=by
 refine EnW Tryz.func272 fun _ _ _ _=>?_
 refine Lo (fun (t : List UInt8)=>[(0,.d (.str t)),(1,.ap 1000001 256)]) (fun _=>[(1000001,.arr 1 (xs.map D.bool))]) (fun t=>Tx t∧Xn2 f t=Xn2 f s) (fun t=>t.length) s [] rfl ⟨hs,rfl⟩ ?_ (by exact ⟨rfl,rfl,rfl,rfl,rfl⟩)
 rintro t ⟨ht,he⟩
 refine By rfl (fun h=>?_) fun h=>?_
 · rcases List.eq_nil_or_concat t with rfl | ⟨u,x,rfl⟩
   · simp at h
   rw [List.concat_eq_append] at *
   have hl : (u++[x]).length=u.length+1:=by simp
   refine Ar (u.length : Nat) rfl ?_ (wr (by omega) (by simp only [inK];omega))
   refine Yx u.length x rfl (by simp) ?_
   refine Cn [] rfl (Xht hx (hf x)) fun v hv=>?_
   subst hv
   refine By rfl (fun h1=>?_) fun h1=>?_
   · refine Rw [] [(1000001,.arr 1 (xs.map D.bool))] rfl (.one (.eq ?_) rfl rfl) ⟨rfl,rfl⟩
     rw [←he,Xgk,if_neg h1]
   · refine Ar (u.length : Nat) rfl ?_ (wr (by omega) (by simp only [inK];omega))
     refine Stk u.length u rfl (by omega) (by simp) ?_
     refine Bk u [] rfl ⟨by show u.length<_;omega,?_⟩ (by simp) (by exact ⟨rfl,rfl,rfl,rfl,rfl⟩)
     rw [←he,Xgk,if_pos (W4c.1 h1)]
 · have : t=[]:=W2h.1 (by omega)
   subst this
   exact Rw [] [(1000001,.arr 1 (xs.map D.bool))] rfl (.one (.eq (by rw [←he];rfl)) rfl rfl) ⟨rfl,rfl⟩
theorem Xf0 {xs : List Bool} {f : UInt8→Bool} {s : List UInt8} (hx : xs.length=256) (hf : ∀ b : UInt8,xs[b.toNat]?=some (f b)) (hs : Tx s) : CN0 271 [.d (.str s),.ap 1000001 256] [(1000001,.arr 1 (xs.map D.bool))] (·=.d (.str (s.dropWhile f))):=by
 refine EnW Tryz.func271 fun _ _ _ _=>?_
 refine Lo (fun (t : List UInt8)=>[(0,.d (.str t)),(1,.ap 1000001 256)]) (fun _=>[(1000001,.arr 1 (xs.map D.bool))]) (fun t=>Tx t∧t.dropWhile f=s.dropWhile f) (fun t=>t.length) s [] rfl ⟨hs,rfl⟩ ?_ (by exact ⟨rfl,rfl,rfl,rfl,rfl⟩)
 rintro t ⟨ht,he⟩
 refine By rfl (fun h=>?_) fun h=>?_
 · cases t with
   | nil=>simp at h
   | cons x u =>
   have hl : (x::u).length=u.length+1:=rfl
   refine Yx 0 x rfl rfl ?_
   refine Cn [] rfl (Xht hx (hf x)) fun v hv=>?_
   subst hv
   refine By rfl (fun h1=>?_) fun h1=>?_
   · refine Rw [] [(1000001,.arr 1 (xs.map D.bool))] rfl (.one (.eq ?_) rfl rfl) ⟨rfl,rfl⟩
     rw [←he,W4f,if_neg h1]
   · refine Sdp 1 u rfl (by omega) rfl ?_
     refine Bk u [] rfl ⟨by show u.length<_;have : (x::u).length<_:=ht;omega,?_⟩ (by simp) (by exact ⟨rfl,rfl,rfl,rfl,rfl⟩)
     rw [←he,W4f,if_pos (W4c.1 h1)]
 · have : t=[]:=W2h.1 (by omega)
   subst this
   exact Rw [] [(1000001,.arr 1 (xs.map D.bool))] rfl (.one (.eq (by rw [←he];rfl)) rfl rfl) ⟨rfl,rfl⟩
end
section
def rnS : Ren:=⟨fun _=>270,fun n=>match n with
 | 3=>3
 | 4=>4
 | 5=>5
 | 9=>9
 | 116=>290
 | _=>0,fun n=>n⟩
theorem Yfr : Lays.n227 Tryz.prog rnS where
 mixed:=by kernel_rfl
 f227:=by kernel_rfl
 t0:=by kernel_rfl
 a0:=fun _=>by kernel_rfl
 z0:=fun _=>by kernel_rfl
 v0:=fun _=>by kernel_rfl
 t3:=by kernel_rfl
 a3:=fun _=>by kernel_rfl
 z3:=fun _=>by kernel_rfl
 v3:=fun _=>by kernel_rfl
 t4:=by kernel_rfl
 a4:=fun _=>by kernel_rfl
 z4:=fun _=>by kernel_rfl
 v4:=fun _=>by kernel_rfl
 t5:=by kernel_rfl
 a5:=fun _=>by kernel_rfl
 z5:=fun _=>by kernel_rfl
 v5:=fun _=>by kernel_rfl
 t9:=by kernel_rfl
 a9:=fun _=>by kernel_rfl
 z9:=fun _=>by kernel_rfl
 v9:=fun _=>by kernel_rfl
 t116:=by kernel_rfl
 a116:=fun _=>by kernel_rfl
 z116:=fun _=>by kernel_rfl
def chB : List Bool→D
 | []=>.bool false
 | [b]=>.bool b
 | b::l=>.pr (.bool b) (chB l)
theorem Yaj {W : GW} : ∀ {l : List Bool},l≠[]→D.At W (chB l) (l.map Value.bool)
 | [b],_=>rfl
 | b::c::l,_=>⟨[.bool b],(c::l).map Value.bool,rfl,rfl,Yaj (by simp)⟩
theorem Xl3 : ∀ {l : List Bool},l≠[]→(chB l).comps=l.map D.bool
 | [b],_=>rfl
 | b::c::l,_=>by
  show D.bool b::(chB (c::l)).comps=_
  rw [Xl3 (by simp)];rfl
def Ydv : List UInt8:=[48,49,50,51,52,53,54,55,56,57]
def Ycr : List Bool:=(List.range 256).map fun j=>Ydv.contains (UInt8.ofNat j)
theorem Xg9 : C0 270 [.d (.str Ydv)] (·=.tup (.pr (.d (.st (chB Ycr))) (.b true))):=by
 refine ⟨⟨_,Tryz.func270,rfl,rfl⟩,fun W vs _ ha=>?_⟩
 match vs,ha with
 | [v],ha =>
  obtain ⟨rfl,_⟩:=Xh9 ha.1
  refine (Any.strings_makeASCIISet Yfr (fun _=>by kernel_rfl) (by kernel_rfl) ⟨Ydv.toArray⟩ W.w (by decide) (by
   intro j b hj
   have hm : b∈Ydv:=W1b (by simpa using hj)
   have hall : ∀ x∈Ydv,x.toNat<128:=by decide
   exact hall b hm)).mono ?_
  rintro e w' ⟨rfl,hw⟩
  obtain ⟨W',hW,hE⟩:=Xf9 (W:=W) (w':=w') (by rw [hw];exact (Below.refl _ _).alloc (W0a _) _)
  refine ⟨W',.tup (.pr (.d (.st (chB Ycr))) (.b true)),_,rfl,hW,hE,?_,fun _ h=>h.elim id id,rfl⟩
  have hc : Lib.setCells Ydv=(Ycr.map Value.bool).toArray:=by
   rw [Lib.setCells_eq]
   apply Array.ext'
   simp [Ycr]
  refine ⟨[.agg (Lib.setCells Ydv),.bool true],rfl,⟨_,Yaj (l:=Ycr) (by decide),?_⟩,⟨[.bool true],rfl,rfl⟩⟩
  rw [hc];rfl
end
section
def rnB : Ren:=⟨fun n=>match n with
 | 166=>58
 | 167=>101
 | 169=>59
 | 240=>107
 | 276=>170
 | _=>0,fun n=>match n with
 | 3=>3
 | 4=>4
 | 5=>5
 | 9=>9
 | 20=>20
 | 37=>112
 | 70=>111
 | 72=>114
 | 75=>117
 | 80=>59
 | 127=>169
 | 164=>216
 | _=>0,fun n=>n⟩
theorem Yft : Lays.n166 Tryz.prog rnB where
 mixed:=by kernel_rfl
 f166:=by kernel_rfl
 f240:=by kernel_rfl
 f276:=by kernel_rfl
 t0:=by kernel_rfl
 a0:=fun _=>by kernel_rfl
 z0:=fun _=>by kernel_rfl
 v0:=fun _=>by kernel_rfl
 t3:=by kernel_rfl
 a3:=fun _=>by kernel_rfl
 z3:=fun _=>by kernel_rfl
 v3:=fun _=>by kernel_rfl
 t4:=by kernel_rfl
 a4:=fun _=>by kernel_rfl
 z4:=fun _=>by kernel_rfl
 v4:=fun _=>by kernel_rfl
 t9:=by kernel_rfl
 a9:=fun _=>by kernel_rfl
 z9:=fun _=>by kernel_rfl
 v9:=fun _=>by kernel_rfl
 t20:=by kernel_rfl
 a20:=fun _=>by kernel_rfl
 z20:=fun _=>by kernel_rfl
 v20:=fun _=>by kernel_rfl
 t37:=by kernel_rfl
 a37:=fun _=>by kernel_rfl
 z37:=fun _=>by kernel_rfl
 v37:=fun _=>by kernel_rfl
 t70:=by kernel_rfl
 a70:=fun _=>by kernel_rfl
 z70:=fun _=>by kernel_rfl
 v70:=fun _=>by kernel_rfl
 t72:=by kernel_rfl
 a72:=fun _=>by kernel_rfl
 z72:=fun _=>by kernel_rfl
 v72:=fun _=>by kernel_rfl
 t75:=by kernel_rfl
 a75:=fun _=>by kernel_rfl
 z75:=fun _=>by kernel_rfl
 v75:=fun _=>by kernel_rfl
 t164:=by kernel_rfl
 a164:=fun _=>by kernel_rfl
 z164:=fun _=>by kernel_rfl
 v164:=fun _=>by kernel_rfl
theorem Yfs : Lays.n167 Tryz.prog rnB where
 mixed:=by kernel_rfl
 f167:=by kernel_rfl
 f240:=by kernel_rfl
 f276:=by kernel_rfl
 t0:=by kernel_rfl
 a0:=fun _=>by kernel_rfl
 z0:=fun _=>by kernel_rfl
 v0:=fun _=>by kernel_rfl
 t4:=by kernel_rfl
 a4:=fun _=>by kernel_rfl
 z4:=fun _=>by kernel_rfl
 v4:=fun _=>by kernel_rfl
 t5:=by kernel_rfl
 a5:=fun _=>by kernel_rfl
 z5:=fun _=>by kernel_rfl
 v5:=fun _=>by kernel_rfl
 t9:=by kernel_rfl
 a9:=fun _=>by kernel_rfl
 z9:=fun _=>by kernel_rfl
 v9:=fun _=>by kernel_rfl
 t20:=by kernel_rfl
 a20:=fun _=>by kernel_rfl
 z20:=fun _=>by kernel_rfl
 v20:=fun _=>by kernel_rfl
 t37:=by kernel_rfl
 a37:=fun _=>by kernel_rfl
 z37:=fun _=>by kernel_rfl
 v37:=fun _=>by kernel_rfl
 t70:=by kernel_rfl
 a70:=fun _=>by kernel_rfl
 z70:=fun _=>by kernel_rfl
 v70:=fun _=>by kernel_rfl
 t72:=by kernel_rfl
 a72:=fun _=>by kernel_rfl
 z72:=fun _=>by kernel_rfl
 v72:=fun _=>by kernel_rfl
 t75:=by kernel_rfl
 a75:=fun _=>by kernel_rfl
 z75:=fun _=>by kernel_rfl
 v75:=fun _=>by kernel_rfl
 t164:=by kernel_rfl
 a164:=fun _=>by kernel_rfl
 z164:=fun _=>by kernel_rfl
 v164:=fun _=>by kernel_rfl
theorem Xz1 : Lays.n169 Tryz.prog rnB where
 mixed:=by kernel_rfl
 f169:=by kernel_rfl
 t0:=by kernel_rfl
 a0:=fun _=>by kernel_rfl
 z0:=fun _=>by kernel_rfl
 v0:=fun _=>by kernel_rfl
 t3:=by kernel_rfl
 a3:=fun _=>by kernel_rfl
 z3:=fun _=>by kernel_rfl
 v3:=fun _=>by kernel_rfl
 t9:=by kernel_rfl
 a9:=fun _=>by kernel_rfl
 z9:=fun _=>by kernel_rfl
 v9:=fun _=>by kernel_rfl
 t37:=by kernel_rfl
 a37:=fun _=>by kernel_rfl
 z37:=fun _=>by kernel_rfl
 v37:=fun _=>by kernel_rfl
 t70:=by kernel_rfl
 a70:=fun _=>by kernel_rfl
 z70:=fun _=>by kernel_rfl
 v70:=fun _=>by kernel_rfl
 t72:=by kernel_rfl
 a72:=fun _=>by kernel_rfl
 z72:=fun _=>by kernel_rfl
 v72:=fun _=>by kernel_rfl
 t127:=by kernel_rfl
 a127:=fun _=>by kernel_rfl
 z127:=fun _=>by kernel_rfl
 v127:=fun _=>by kernel_rfl
theorem Yh1 : Builder.Extra Tryz.prog rnB where
 sizeBuilder:=by kernel_rfl
 liesBuilder:=by kernel_rfl
 t5:=by kernel_rfl
 a5:=fun _=>by kernel_rfl
 z5:=fun _=>by kernel_rfl
 v5:=fun _=>by kernel_rfl
 infoByte:=by kernel_rfl
 cellsByte:=by kernel_rfl
 sizeByte:=by kernel_rfl
 neB5:=by decide
end
section
def rnJ : Ren:=⟨fun n=>match n with
 | 156=>27
 | 165=>57
 | 166=>58
 | 169=>59
 | 240=>107
 | 241=>108
 | 276=>170
 | 277=>171
 | _=>0,fun n=>match n with
 | 3=>3
 | 4=>4
 | 5=>5
 | 9=>9
 | 20=>20
 | 31=>55
 | 37=>112
 | 70=>111
 | 72=>114
 | 75=>117
 | 76=>118
 | 80=>59
 | 127=>169
 | 164=>216
 | _=>0,fun n=>n⟩
theorem Xtj : Lays.n156 Tryz.prog rnJ where
 mixed:=by kernel_rfl
 f156:=by kernel_rfl
 f165:=by kernel_rfl
 f166:=by kernel_rfl
 f169:=by kernel_rfl
 f240:=by kernel_rfl
 f241:=by kernel_rfl
 f276:=by kernel_rfl
 f277:=by kernel_rfl
 t0:=by kernel_rfl
 a0:=fun _=>by kernel_rfl
 z0:=fun _=>by kernel_rfl
 v0:=fun _=>by kernel_rfl
 t3:=by kernel_rfl
 a3:=fun _=>by kernel_rfl
 z3:=fun _=>by kernel_rfl
 v3:=fun _=>by kernel_rfl
 t4:=by kernel_rfl
 a4:=fun _=>by kernel_rfl
 z4:=fun _=>by kernel_rfl
 v4:=fun _=>by kernel_rfl
 t9:=by kernel_rfl
 a9:=fun _=>by kernel_rfl
 z9:=fun _=>by kernel_rfl
 v9:=fun _=>by kernel_rfl
 t20:=by kernel_rfl
 a20:=fun _=>by kernel_rfl
 z20:=fun _=>by kernel_rfl
 v20:=fun _=>by kernel_rfl
 t31:=by kernel_rfl
 a31:=fun _=>by kernel_rfl
 z31:=fun _=>by kernel_rfl
 v31:=fun _=>by kernel_rfl
 t37:=by kernel_rfl
 a37:=fun _=>by kernel_rfl
 z37:=fun _=>by kernel_rfl
 v37:=fun _=>by kernel_rfl
 t70:=by kernel_rfl
 a70:=fun _=>by kernel_rfl
 z70:=fun _=>by kernel_rfl
 v70:=fun _=>by kernel_rfl
 t72:=by kernel_rfl
 a72:=fun _=>by kernel_rfl
 z72:=fun _=>by kernel_rfl
 v72:=fun _=>by kernel_rfl
 t75:=by kernel_rfl
 a75:=fun _=>by kernel_rfl
 z75:=fun _=>by kernel_rfl
 v75:=fun _=>by kernel_rfl
 t76:=by kernel_rfl
 a76:=fun _=>by kernel_rfl
 z76:=fun _=>by kernel_rfl
 v76:=fun _=>by kernel_rfl
 t127:=by kernel_rfl
 a127:=fun _=>by kernel_rfl
 z127:=fun _=>by kernel_rfl
 v127:=fun _=>by kernel_rfl
 t164:=by kernel_rfl
 a164:=fun _=>by kernel_rfl
 z164:=fun _=>by kernel_rfl
 v164:=fun _=>by kernel_rfl
theorem Yjo : Builder.Extra Tryz.prog rnJ where
 sizeBuilder:=by kernel_rfl
 liesBuilder:=by kernel_rfl
 t5:=by kernel_rfl
 a5:=fun _=>by kernel_rfl
 z5:=fun _=>by kernel_rfl
 v5:=fun _=>by kernel_rfl
 infoByte:=by kernel_rfl
 cellsByte:=by kernel_rfl
 sizeByte:=by kernel_rfl
 neB5:=by decide
abbrev tB (s : List UInt8) : ByteArray:=⟨s.toArray⟩
abbrev dXs (l : List (List UInt8)) : D:=.sl 1 (l.map .str)
theorem Join_ok {l : List (List UInt8)} {sep : List UInt8} (hn : l.length≤1000000) (hl : (Lib.join l sep).length≤140737488355328) : C0 27 [.d (dXs l),.d (.str sep)] (·=.d (.str (Lib.join l sep))):=by
 refine ⟨⟨_,Tryz.func27,rfl,rfl⟩,fun W vs _ ha=>?_⟩
 match vs,ha with
 | [v,u],ha =>
  obtain ⟨p,c,rfl,h1,h2,h3⟩:=V_sl ha.1
  obtain ⟨rfl,_⟩:=Xh9 ha.2.1
  have hmm : (l.map tB).map (·.data.toList)=l:=by rw [List.map_map];exact (List.map_congr_left fun x _=>by simp [tB]).trans (List.map_id l)
  have hsp : (tB sep).data.toList=sep:=by simp [tB]
  have key : Calls Tryz.prog 27 #[.slice p (l.map D.str).length c,.string (tB sep)] W.w fun e w'=>e=.returned (.string (tB (Lib.join l sep)))∧Below W.w.heap.size W.w w':=by
   rcases h3 with h3 | ⟨b,off,rfl,hrow⟩
   · obtain rfl : l=[]:=List.map_eq_nil_iff.1 h3
     exact (Any.strings_Join_none Xtj Yjo p c (tB sep) W.w).mono fun e w' ⟨he,hw⟩=>⟨he,hw ▸ Below.refl _ _⟩
   · cases hl0 : l with
     | nil =>
      exact (Any.strings_Join_none Xtj Yjo _ c (tB sep) W.w).mono fun e w' ⟨he,hw⟩=>⟨he,hw ▸ Below.refl _ _⟩
     | cons x0 r =>
      rw [←hl0]
      have hc : ∀ (j : Nat) x,(l.map tB)[j]?=some x→W.w.cell? ⟨b,off+j,none⟩=some (.string x):=fun j x hj=>by
       rw [W0w,Option.map_eq_some_iff] at hj
       obtain ⟨s,hs,rfl⟩:=hj
       obtain ⟨e,g1,_,g3⟩:=D.row_get hrow (i:=j) (x:=.str s) (by rw [W0w,hs];rfl)
       have:=(g3 0 (.string (tB s)) (by rw [g1.1];rfl)).1
       rwa [W3u,W2n] at this
      have hb : b<W.w.heap.size:=World.block_lt_of_cell? _ _ (hc 0 (tB x0) (by rw [hl0];rfl))
      have:=Any.strings_Join Xtj Yjo b off c (l.map tB) (tB sep) W.w hc hb (by rw [W0h];omega) (by rw [W0h] at h1 ⊢;exact h1) (by rw [hmm,hsp];exact hl)
      rw [hmm,hsp] at this
      rw [W0h] at this ⊢
      exact this
  refine key.mono ?_
  rintro e w' ⟨rfl,hw⟩
  obtain ⟨W',hW,hE⟩:=Xf9 hw
  exact ⟨W',.d (.str (Lib.join l sep)),_,rfl,hW,hE,Xko (by omega),fun _ h=>h.elim,rfl⟩
end
section
theorem Xvr (s : ByteArray) (c : UInt8) (w : World) : Calls Tryz.prog 81 #[.string s,.string ⟨#[c]⟩] w fun e w'=>e=.returned (.int .i64 (Lib.countByte s.data.toList c))∧w'=w:=by
 go_enter Tryz.func81,Tryz.ntmps81
 go_wp2
 rw [run_callFunc_extern Tryz.func136 (by kernel_rfl) (by kernel_rfl) (by kernel_rfl) (e:=Extern.BytealgCount.count) (by kernel_rfl),Lib.run_countString]
 simp only [Result.andThen]
 rw [Oper.upon_value]
 go_wp2
 go_ret
 exact ⟨rfl,rfl⟩
theorem Xyp {s : List UInt8} (hs : Tx s) : C0 81 [.d (.str s),.d (.str [32])] (·=.d (.int .i64 ((spl s).length - 1 : Nat))):=by
 refine ⟨⟨_,Tryz.func81,rfl,rfl⟩,fun W vs _ ha=>?_⟩
 match vs,ha with
 | [v,u],ha =>
  obtain ⟨rfl,_⟩:=Xh9 ha.1
  obtain ⟨rfl,_⟩:=Xh9 ha.2.1
  refine (Xvr _ 32 W.w).mono ?_
  rintro e w' ⟨rfl,rfl⟩
  have e1 : Lib.countByte (⟨s.toArray⟩ : ByteArray).data.toList 32=(spl s).length - 1:=by rw [Xbg];simp [Lib.countByte]
  have h2 : ((spl s).length - 1)<9223372036854775808:=by
   have hs : s.length<_:=hs
   have:=W4m (a:=(32 : UInt8)) (l:=s)
   rw [Xbg];omega
  rw [e1]
  refine ⟨W,.d (.int .i64 ((spl s).length - 1 : Nat)),_,rfl,rfl,Fm.refl _ _,?_,fun _ h=>h,rfl⟩
  exact Vm.int_V (by show IntKind.i64.wrap _=_;exact wI ⟨by omega,by omega⟩)
theorem Xki {s : List UInt8} {b : UInt8} {r : Int} (hs : Tx s) (hr : Lib.indexByte s b=r) : C0 82 [.d (.str s),.d (.str [b])] (·=.d (.int .i64 r)):=by
 refine En Tryz.func82 fun _ _ _=>?_
 refine Ce rfl (Xhx hs hr) ?_
 exact R0
theorem Xop {L : List (List UInt8)} {i n : Nat} {u : List UInt8} (hn : L.length=n) (hu : L[i]?=some u) : ((L.take i).map D.str++List.replicate (n - i) (D.str [])).set i (.str u)=(L.take (i+1)).map D.str++List.replicate (n - (i+1)) (D.str []):=by
 have hi:=(W3a.1 hu).1
 rw [W7c _ _ (by simp;omega)]
 have e : i - ((L.take i).map D.str).length=0:=by simp;omega
 rw [e,show n - i=n - (i+1)+1 by omega,W5t,List.set_cons_zero,W1j,hu]
 simp
theorem Xnd {s : List UInt8} (hs : s.length≤1000000) : C0 37 [.d (.str s),.d (.str [32]),.d (.int .i64 0),.d (.int .i64 (-1))] (·=.d (dXs (spl s))):=by
 obtain ⟨n,hn⟩ : ∃ n,(spl s).length=n+1:=⟨_,Xbg s⟩
 have hn1 : n≤s.length:=by
  have:=Xbg s
  have:=W4m (a:=(32 : UInt8)) (l:=s)
  omega
 have hc:=Xyp (s:=s) (by show _<_;omega)
 rw [hn,W3c] at hc
 refine En Tryz.func37 fun _ _ _=>?_
 refine No rfl (by decide) ?_
 refine No rfl (by decide) ?_
 refine Yes rfl (by decide) ?_
 refine Ce rfl hc ?_
 refine Ar (n+1 : Nat) rfl ?_
 refine Ar (s.length+1 : Nat) rfl ?_
 refine Mm (n+1 : Nat) rfl ?_ (by show min ((n+1 : Nat) : Int) ((s.length+1 : Nat) : Int)=_;omega)
 refine Mk (n+1) rfl (by omega) ?_
 refine Ar (n : Nat) rfl ?_
 refine Lo (fun ((i,r) : Nat × List UInt8)=>[(0,.d (.str r)),(1,.d (.str [32])),(2,.d (.int .i64 0)),(3,.d (.int .i64 n)),(9,.own 31 1 0 (n+1)),(10,.d (.int .i64 i))]) (fun (i,_)=>[(31,.arr 1 (((spl s).take i).map D.str++List.replicate (n+1 - i) (D.str [])))]) (fun (i,r)=>i≤n∧spl r=(spl s).drop i∧r.length≤s.length) (fun (i,_)=>n - i) (0,s) [] rfl ⟨W0y _,rfl,W0a _⟩ ?_
 rintro ⟨i,r⟩ ⟨hi,hr,hrl⟩
 have hrn : (spl r).length=n+1 - i:=by rw [hr,W1i,hn]
 have hlen : (((spl s).take i).map D.str++List.replicate (n+1 - i) (D.str [])).length=n+1:=by simp;omega
 refine By rfl (fun h=>?_) fun h=>?_
 · rcases Xtm 32 r with h1 | ⟨u,t,rfl,h1⟩
   · rw [Xog h1] at hrn
     simp only [W3r] at hrn
     omega
   · have hul : (u++32::t).length=u.length+(t.length+1):=by simp
     refine Ce rfl (Xki (by show _<_;omega) (Xxc h1)) ?_
     refine No rfl (by omega) ?_
     refine Ar (u.length : Nat) rfl ?_
     refine Stk u.length u rfl (by omega) (by simp) ?_
     refine Eo i rfl (by omega) ?_
     have hu : (spl s)[i]?=some u:=by
      have:=congrArg (·[0]?) hr
      rw [Xkr h1] at this
      simpa using this.symm
     refine Sto (zs:=((spl s).take (i+1)).map D.str++List.replicate (n+1 - (i+1)) (D.str [])) rfl (by omega) (Xop hn hu) ?_
     refine Ar (u.length+1 : Nat) rfl ?_ (wr (by simp) (by simp only [inK];omega))
     refine Sdp (u.length+1) t rfl (by omega) (by simp) ?_
     refine Ar (i+1 : Nat) rfl ?_
     refine Bk (i+1,t) [] rfl ⟨by omega,?_,by omega⟩ (by show n - (i+1)<n - i;omega)
     rw [Xkr h1] at hr
     rw [←W4p,←hr];rfl
 · obtain rfl : i=n:=by omega
   have h1 : spl r=[r]:=by
    rcases Xtm 32 r with h1 | ⟨u,t,rfl,h1⟩
    · exact Xog h1
    · rw [Xkr h1] at hrn
      have:=W4d.2 (Xoh t)
      simp only [W0l] at hrn
      omega
   have hu : (spl s)[i]?=some r:=by
    have:=congrArg (·[0]?) hr
    rw [h1] at this
    simpa using this.symm
   refine Eo i rfl (by omega) ?_
   refine Sto (zs:=(spl s).map D.str) rfl (by omega) (by rw [Xop hn hu,W0b (by omega),W2t];simp) ?_
   refine Ar (i+1 : Nat) rfl ?_
   refine Sw 0 (i+1) rfl (by omega) (by omega) ?_
   exact R1 rfl (.own rfl (by simp;omega) (by rw [W1n,W0z,W0b (by simp;omega)]))
theorem Xkg {s : List UInt8} (hs : s.length≤1000000) : C0 15 [.d (.str s),.d (.str [32])] (·=.d (dXs (spl s))):=by
 refine En Tryz.func15 fun _ _ _=>?_
 refine Ce rfl (Xnd hs) ?_
 exact R0
end
section
def lo2 (x y : Rat) : Rat:=if y<x then y else x
def hi2 (x y : Rat) : Rat:=if x<y then y else x
def Xvy (x : Rat) (r : List Rat) : Rat:=r.foldl lo2 x
def Xvz (x : Rat) (r : List Rat) : Rat:=r.foldl hi2 x
theorem Yfm {s : Nat} {x y : Rat} (hx : Qs s x) (hy : Qs s y) : Qs s (lo2 x y):=by unfold lo2;split <;> assumption
theorem Yf2 {s : Nat} {x y : Rat} (hx : Qs s x) (hy : Qs s y) : Qs s (hi2 x y):=by unfold hi2;split <;> assumption
theorem Xs8 (x : Rat) (r : List Rat) (y : Rat) : Xvy x (r++[y])=lo2 (Xvy x r) y:=by simp [Xvy]
theorem Xtd (x : Rat) (r : List Rat) (y : Rat) : Xvz x (r++[y])=hi2 (Xvz x r) y:=by simp [Xvz]
theorem Xs9 {s : Nat} {x : Rat} {r : List Rat} (h : ∀ y∈x::r,Qs s y) : Qs s (Xvy x r):=by
 induction r generalizing x with
 | nil=>exact h x (W0v ..)
 | cons y r ih=>exact ih (x:=lo2 x y) (fun z hz=>by
  rcases W1o.1 hz with rfl | hz
  · exact Yfm (h x (W0v ..)) (h y (by simp))
  · exact h z (by simp [hz]))
theorem Xte {s : Nat} {x : Rat} {r : List Rat} (h : ∀ y∈x::r,Qs s y) : Qs s (Xvz x r):=by
 induction r generalizing x with
 | nil=>exact h x (W0v ..)
 | cons y r ih=>exact ih (x:=hi2 x y) (fun z hz=>by
  rcases W1o.1 hz with rfl | hz
  · exact Yf2 (h x (W0v ..)) (h y (by simp))
  · exact h z (by simp [hz]))
theorem Ycw {x y : Rat} : Xnl x y<0↔x<y:=by
 unfold Xnl
 split
 · rename_i h;simp [h]
 · rename_i h
   split <;> simp [h]
theorem Ycy {x y : Rat} : Xnl x y > 0↔y<x:=by
 rw [Xlw,←Ycw];omega
theorem Xss {s : Nat} {x : Rat} {r : List Rat} (h : ∀ y∈x::r,Qs s y) (k : Nat) : ∀ y∈x::r.take k,Qs s y:=fun y hy=>h y (by
 rcases W1o.1 hy with rfl | hy
 · exact W0v ..
 · exact W1d _ (W5h hy))
theorem Xuo (n : Int) : Rat.divInt n 1=(n : Rat):=by
 rw [W3k]
 have : ((1 : Int) : Rat)=1:=rfl
 grind
def pw (b : Nat) : Rat:=((2 ^ b : Int) : Rat)
theorem Zs.two {b p : Nat} (h : b+1≤p) : Zs p (2 ^ b : Int):=by
 refine Zs.mono (p:=b+1) ?_ h
 unfold Zs
 rw [W6u]
 exact W5k (by decide) (Nat.lt_succ_self b)
theorem Xgi (b : Nat) : (2 ^ b : Int)≠0:=by have:=W6j (n:=2) (m:=b) (by decide);omega
theorem Xwv (b : Nat) : Qs (b+1) (pw b):=⟨Zs.two (W0a _),Zs.one (by omega)⟩
theorem Zs.floor {s : Nat} {x : Rat} (h : Qs s x) : Zs s x.floor:=by
 have hn:=h.n
 unfold Zs at *
 rw [Rat.floor_def]
 exact W1q (Int.natAbs_ediv_le_natAbs _ _) hn
def dnQ (x : Rat) (b : Nat) : Rat:=Rat.divInt (x*pw b).floor (2 ^ b)
def upQ (x : Rat) (b : Nat) : Rat:=-dnQ (-x) b
theorem Xul {s : Nat} {x : Rat} (h : Qs s x) (b : Nat) : Qs (s+b+1) (dnQ x b) :=
 Qs.divInt (p:=s+b+1) ((Zs.floor (h.mul (Xwv b))).mono (by omega)) (Zs.two (by omega)) (Xgi b)
theorem Yd5 {s : Nat} {x : Rat} (h : Qs s x) (b : Nat) : Qs (s+b+1) (upQ x b):=(Xul h.neg b).neg
theorem Ycx {x y : Rat} : Xnl x y≤0↔¬ y<x:=by rw [←Ycy];omega
theorem Yb3 {a p : Nat} (h : a<2 ^ p) : (dig a).length≤p / 32+1:=by
 refine Xao (W0q h ?_)
 rw [show (4294967296 : Nat)=2 ^ 32 from rfl,←W4u]
 exact W0m (by decide) (by omega)
def rtF (x : Rat) : Nat:=rt x.floor.toNat
theorem Yiv (n : Nat) : rt n≤n:=by
 have h:=(Xc9 n).1
 by_cases h0 : rt n=0
 · omega
 · have:=W0n (rt n) (show 1≤rt n by omega)
   omega
theorem Xds {x : Rat} (h : 0≤x) : x.floor=(x.floor.toNat : Int):=by
 have : (0 : Int)≤x.floor:=Rat.le_floor_iff.2 h
 omega
theorem Xzd {s : Nat} {x : Rat} (h : Qs s x) (h0 : 0≤x) : Zs s (rtF x : Int):=by
 have h1:=Zs.floor h
 rw [Xds h0] at h1
 have h2:=Yiv x.floor.toNat
 unfold Zs at *
 have h1 : x.floor.toNat<2 ^ s:=h1
 show rt x.floor.toNat<2 ^ s
 omega
theorem Xas (b : Nat) : 0<pw b:=Rat.intCast_pos.2 (W6j (by decide))
def sq2 (x : Rat) (b : Nat) : Rat:=x*(pw b*pw b)
def Xc5 (x : Rat) (b : Nat) : Rat:=Rat.divInt (rtF (sq2 x b) : Int) (2 ^ b)
open Classical in
noncomputable def Xr3 (x : Rat) : Nat:=if ((rtF x*rtF x : Int) : Rat)<x then rtF x+1 else rtF x
noncomputable def Xr5 (x : Rat) (b : Nat) : Rat:=Rat.divInt (Xr3 (sq2 x b) : Int) (2 ^ b)
theorem Xy4 {s b : Nat} {x : Rat} (h : Qs s x) : Qs (s+(2*b+2)) (sq2 x b):=(h.mul ((Xwv b).mul (Xwv b))).mono (by omega)
theorem Xfq {x : Rat} {b : Nat} (h : 0≤x) : 0≤sq2 x b:=Rat.mul_nonneg h (Rat.mul_nonneg (W2f (Xas b)) (W2f (Xas b)))
theorem Xj5 (x : Rat) (n : Nat) : (x.num*2 ^ n).fdiv x.den=(x*pw n).floor:=by
 have hd : (0 : Int)<x.den:=Int.natCast_pos.2 (W2c x.den_nz)
 rw [W1p _ (by omega)]
 have key : ∀ z : Int,z≤(x.num*2 ^ n) / x.den↔z≤(x*pw n).floor:=by
  intro z
  rw [Int.le_ediv_iff_mul_le hd,Rat.le_floor_iff]
  have e : x*pw n*(x.den : Rat)=((x.num*2 ^ n : Int) : Rat):=by
   have:=Xjw x
   have h2 : pw n=((2 ^ n : Int) : Rat):=rfl
   rw [W3v,←h2,←this]
   grind
  have hdr : (0 : Rat)<(x.den : Rat):=by
   have:=Rat.intCast_pos.2 hd
   exact this
  rw [←W3h,W3v,←e]
  constructor
  · intro h
    exact W1t h hdr
  · intro h
    exact W2g h (W2f hdr)
 have h1:=(key _).1 (W7w _)
 have h2:=(key _).2 (W7w _)
 omega
theorem Xzi (b : Nat) : pw (2*b)=pw b*pw b:=by
 show ((2 ^ (2*b) : Int) : Rat)=((2 ^ b : Int) : Rat)*((2 ^ b : Int) : Rat)
 rw [←W3v,←W6y]
 congr 2;omega
theorem Xwg {x : Rat} (b : Nat) (h0 : 0≤x) : (x.num*2 ^ (2*b)).fdiv x.den=((sq2 x b).floor.toNat : Int):=by
 rw [Xj5,Xzi]
 exact Xds (Xfq h0)
theorem Xjf {s : Nat} {x : Rat} (h : Qs s x) (h0 : 0≤x) (b : Nat) : Qs (s+(2*b+2)) (Xc5 x b) :=
 Qs.divInt (Xzd (Xy4 h) (Xfq h0)) (Zs.two (by omega)) (Xgi b)
def mx0 (x : Rat) : Rat:=if x<0 then 0 else x
theorem Xfu (x : Rat) : 0≤mx0 x:=by unfold mx0;split <;> grind
theorem Xzx {s : Nat} {x : Rat} (h : Qs s x) (hs : 1≤s) : Qs s (mx0 x):=by
 unfold mx0
 split
 · exact qs0.mono hs
 · exact h
theorem Ygw {x : Rat} : Xaz x.num 0<0↔x<0:=by
 rw [Xom]
 rcases Xa0 x with ⟨h,e⟩ | ⟨h,e⟩ | ⟨h,e⟩ <;> rw [e]
 · exact ⟨fun h=>absurd h (by decide),fun h'=>absurd h' (by grind)⟩
 · exact ⟨fun h=>absurd h (by decide),fun h'=>absurd h' (by grind)⟩
 · exact ⟨fun _=>h,fun _=>by decide⟩
def rnd (p : Rat × Rat) (b : Nat) : Rat × Rat:=(dnQ p.1 b,upQ p.2 b)
def rts (p : Rat × Rat) (b : Nat) : Rat × Rat:=(Xc5 (mx0 p.1) b,Xc5 p.2 b+Rat.divInt 1 (2 ^ b))
def Xbv (p q : Rat × Rat) : Rat × Rat:=(Xvy (p.1*q.1) [p.1*q.2,p.2*q.1,p.2*q.2],Xvz (p.1*q.1) [p.1*q.2,p.2*q.1,p.2*q.2])
def Xmf (p q : Rat × Rat) : Rat × Rat:=(p.1+q.1,p.2+q.2)
def enc : (k : Nat)→Tw k→El k→Nat→Rat × Rat
 | 0=>fun _ (x : Rat) _=>(x,x)
 | k+1=>fun t a b=>if (∀ x∈toL k a.2,x=0) then enc k t.1 a.1 b else rnd (Xmf (enc k t.1 a.1 b) (Xbv (enc k t.1 a.2 b) (rts (enc k t.1 t.2 b) b))) b
theorem Yah (x : Rat) (b : Nat) : dnQ x b*pw b=((x*pw b).floor : Rat):=by
 unfold dnQ
 rw [W3k]
 have h:=Xas b
 show ((x*pw b).floor : Rat) / pw b*pw b=_
 rw [W5a (by grind)]
theorem Xp8 (x : Rat) (b : Nat) : dnQ x b≤x:=by
 refine W1t ?_ (Xas b)
 rw [Yah]
 exact Rat.floor_le _
theorem Xum (x : Rat) (b : Nat) : x*pw b<dnQ x b*pw b+1:=by
 rw [Yah]
 have:=@Rat.lt_floor (x*pw b)
 grind
theorem Xrn (x : Rat) (b : Nat) : x≤upQ x b:=by
 have:=Xp8 (-x) b
 unfold upQ;grind
theorem Xyv (x : Rat) (b : Nat) : upQ x b*pw b<x*pw b+1:=by
 have:=Xum (-x) b
 unfold upQ;grind
theorem Xtg {x y : Rat} : lo2 x y≤x∧lo2 x y≤y:=by unfold lo2;split <;> grind
theorem Xt4 {x y : Rat} : x≤hi2 x y∧y≤hi2 x y:=by unfold hi2;split <;> grind
theorem Xtf {x y : Rat} : lo2 x y=x∨lo2 x y=y:=by unfold lo2;split <;> simp
theorem Xt3 {x y : Rat} : hi2 x y=x∨hi2 x y=y:=by unfold hi2;split <;> simp
theorem Xg7 (p q : Rat × Rat) : (Xbv p q).1≤p.1*q.1∧(Xbv p q).1≤p.1*q.2∧(Xbv p q).1≤p.2*q.1∧(Xbv p q).1≤p.2*q.2:=by
 show lo2 (lo2 (lo2 (p.1*q.1) (p.1*q.2)) (p.2*q.1)) (p.2*q.2)≤_∧lo2 (lo2 (lo2 (p.1*q.1) (p.1*q.2)) (p.2*q.1)) (p.2*q.2)≤_∧lo2 (lo2 (lo2 (p.1*q.1) (p.1*q.2)) (p.2*q.1)) (p.2*q.2)≤_∧lo2 (lo2 (lo2 (p.1*q.1) (p.1*q.2)) (p.2*q.1)) (p.2*q.2)≤_
 have h1:=@Xtg (p.1*q.1) (p.1*q.2)
 have h2:=@Xtg (lo2 (p.1*q.1) (p.1*q.2)) (p.2*q.1)
 have h3:=@Xtg (lo2 (lo2 (p.1*q.1) (p.1*q.2)) (p.2*q.1)) (p.2*q.2)
 refine ⟨?_,?_,?_,h3.2⟩ <;> grind
theorem Xg8 (p q : Rat × Rat) : p.1*q.1≤(Xbv p q).2∧p.1*q.2≤(Xbv p q).2∧p.2*q.1≤(Xbv p q).2∧p.2*q.2≤(Xbv p q).2:=by
 show _≤hi2 (hi2 (hi2 (p.1*q.1) (p.1*q.2)) (p.2*q.1)) (p.2*q.2)∧_≤hi2 (hi2 (hi2 (p.1*q.1) (p.1*q.2)) (p.2*q.1)) (p.2*q.2)∧_≤hi2 (hi2 (hi2 (p.1*q.1) (p.1*q.2)) (p.2*q.1)) (p.2*q.2)∧_≤hi2 (hi2 (hi2 (p.1*q.1) (p.1*q.2)) (p.2*q.1)) (p.2*q.2)
 have h1:=@Xt4 (p.1*q.1) (p.1*q.2)
 have h2:=@Xt4 (hi2 (p.1*q.1) (p.1*q.2)) (p.2*q.1)
 have h3:=@Xt4 (hi2 (hi2 (p.1*q.1) (p.1*q.2)) (p.2*q.1)) (p.2*q.2)
 refine ⟨?_,?_,?_,h3.2⟩ <;> grind
theorem Xee (x : Rat) (b : Nat) : Xc5 x b*pw b=((rtF (sq2 x b) : Int) : Rat):=by
 unfold Xc5
 rw [W3k]
 have h:=Xas b
 show ((rtF (sq2 x b) : Int) : Rat) / pw b*pw b=_
 rw [W5a (by grind)]
theorem Xc6 (b : Nat) : Rat.divInt 1 (2 ^ b)*pw b=1:=by
 rw [W3k]
 have h:=Xas b
 show ((1 : Int) : Rat) / pw b*pw b=_
 rw [W5a (by grind)];rfl
theorem Xct (x : Rat) (b : Nat) : 0≤Xc5 x b:=by
 refine W1t ?_ (Xas b)
 rw [Xee,W4z]
 exact Rat.intCast_nonneg.2 (by omega)
theorem Xze {x : Rat} (h : 0≤x) : (((rtF x : Int)) : Rat)*((rtF x : Int) : Rat)≤x:=by
 have h1:=(Xc9 x.floor.toNat).1
 have h2:=Xds h
 have h3:=@Rat.floor_le x
 have h4 : ((rtF x*rtF x : Int) : Rat)≤(x.floor : Rat):=by
  rw [W3h,h2]
  unfold rtF
  exact_mod_cast h1
 rw [W3v] at h4
 exact W5b h4 h3
theorem Xsj {x : Rat} (h : 0≤x) : x<(((rtF x : Int))+1 : Rat)*(((rtF x : Int))+1 : Rat):=by
 have h1:=(Xc9 x.floor.toNat).2
 have h2:=Xds h
 have h3:=@Rat.lt_floor x
 have h4 : ((x.floor+1 : Int) : Rat)≤(((rtF x+1 : Int)*(rtF x+1 : Int) : Int) : Rat):=by
  rw [W3h,h2]
  unfold rtF
  have h1 : x.floor.toNat+1≤(rt x.floor.toNat+1)*(rt x.floor.toNat+1):=h1
  exact_mod_cast h1
 rw [W3v,W5d,W5d] at h4
 have h5 : ((1 : Int) : Rat)=1:=rfl
 rw [h5] at h4
 grind
theorem Xgq {x : Rat} {b : Nat} (h : 0≤x) : Xc5 x b*Xc5 x b≤x:=by
 have hp:=Xas b
 have hpp:=W4j hp hp
 refine W1t ?_ hpp
 have h1:=Xze (Xfq (b:=b) h)
 rw [←Xee] at h1
 unfold sq2 at h1
 grind
theorem Xr4 {x : Rat} {b : Nat} (h : 0≤x) : x≤(Xc5 x b+Rat.divInt 1 (2 ^ b))*(Xc5 x b+Rat.divInt 1 (2 ^ b)):=by
 have hp:=Xas b
 have hpp:=W4j hp hp
 refine W1t ?_ hpp
 have h1:=Xsj (Xfq (b:=b) h)
 have h2:=Xc6 b
 rw [←Xee] at h1
 have h3 : sq2 x b=x*(pw b*pw b):=rfl
 have h4 : (Xc5 x b+Rat.divInt 1 (2 ^ b))*(Xc5 x b+Rat.divInt 1 (2 ^ b))*(pw b*pw b)=(Xc5 x b*pw b+1)*(Xc5 x b*pw b+1):=by
  rw [←h2];grind
 rw [h4,←h3]
 exact W2f h1
theorem Xfw : ∀ {k : Nat} {t : Tw k} (h : Xbz k t) (a : El k) (b : Nat),inI k t a (enc k t a b).1 (enc k t a b).2
 | 0,t,h,a,b=>⟨(Xa3 h).le_rf (Xbf 0 t) a,(Xa3 h).le_rf (Xbf 0 t) a⟩
 | k+1,t,h,a,b=>by
  have iu:=Xle (t:=t) h.1 (Xfw h.1 a.1 b)
  have hs:=Xp6 (t:=t) a
  by_cases hz : ∀ x∈toL k a.2,x=0
  · have he : enc (k+1) t a b=enc k t.1 a.1 b:=if_pos hz
    rw [he]
    have ha : a=up k a.1:=W4e rfl ((Xbi k a.2).2 hz)
    rw [ha]
    exact iu
  · have he : enc (k+1) t a b=rnd (Xmf (enc k t.1 a.1 b) (Xbv (enc k t.1 a.2 b) (rts (enc k t.1 t.2 b) b))) b:=if_neg hz
    have iv:=Xle (t:=t) h.1 (Xfw h.1 a.2 b)
    have ir:=Xfw h.1 t.2 b
    have hr2 : 0≤(enc k t.1 t.2 b).2:=by
     have h0 : le k t.1 (rat k 0) t.2:=(Xg5 h.1).2 (by rw [h.2];decide)
     exact (Xa7 h.1).1 (le_tr h.1 h0 ir.2)
    have hu : 0≤Rat.divInt 1 (2 ^ b):=W1t (by rw [Xc6,W4z];decide) (Xas b)
    have is:=Xts h ir (c:=Xc5 (mx0 (enc k t.1 t.2 b).1) b) (d:=Xc5 (enc k t.1 t.2 b).2 b+Rat.divInt 1 (2 ^ b)) (Xct _ _) (by have:=Xct (enc k t.1 t.2 b).2 b;grind)
     (by
      have h1:=Xgq (b:=b) (Xfu (enc k t.1 t.2 b).1)
      by_cases h0 : (enc k t.1 t.2 b).1<0
      · right
        have e : mx0 (enc k t.1 t.2 b).1=0:=if_pos h0
        rw [e] at h1 ⊢
        have h2:=Xct 0 b
        by_cases h3 : Xc5 0 b=0
        · exact h3
        · have:=W4j (show 0<Xc5 0 b by grind) (show 0<Xc5 0 b by grind)
          grind
      · left
        have e : mx0 (enc k t.1 t.2 b).1=(enc k t.1 t.2 b).1:=if_neg h0
        rw [e] at h1 ⊢
        exact h1) (Xr4 hr2)
    have im:=Xtt h iv is (Xct _ _) (Xg7 (enc k t.1 a.2 b) (rts (enc k t.1 t.2 b) b)).1 (Xg7 (enc k t.1 a.2 b) (rts (enc k t.1 t.2 b) b)).2.1 (Xg8 (enc k t.1 a.2 b) (rts (enc k t.1 t.2 b) b)).2.2.1 (Xg8 (enc k t.1 a.2 b) (rts (enc k t.1 t.2 b) b)).2.2.2
    have ia:=Xtu h iu im
    rw [←hs] at ia
    rw [he]
    exact Xpt h ia (Xp8 _ _) (Xrn _ _)
def eB (s b : Nat) : Nat→Nat
 | 0=>s
 | k+1=>3*eB s b k+4*b+6
theorem Xxv (s b : Nat) : ∀ k,s≤eB s b k
 | 0=>W0a _
 | k+1=>by have:=Xxv s b k;show s≤3*eB s b k+4*b+6;omega
theorem Yae {k : Nat} {t : Tw (k+1)} (h : Xbz (k+1) t) (b : Nat) : 0≤(enc k t.1 t.2 b).2:=by
 have h0 : le k t.1 (rat k 0) t.2:=(Xg5 h.1).2 (by rw [h.2];decide)
 exact (Xa7 h.1).1 (le_tr h.1 h0 (Xfw h.1 t.2 b).2)
def Q2 (s : Nat) (p : Rat × Rat) : Prop:=Qs s p.1∧Qs s p.2
theorem Xi6 (b : Nat) : Qs (b+1) (Rat.divInt 1 (2 ^ b)):=Qs.divInt (Zs.one (by omega)) (Zs.two (W0a _)) (Xgi b)
theorem Xzb {s b : Nat} {p : Rat × Rat} (h : Q2 s p) (h0 : 0≤p.2) (hs : 1≤s) : Q2 (s+3*b+4) (rts p b) :=
 ⟨(Xjf (Xzx h.1 hs) (Xfu _) b).mono (by omega),((Xjf h.2 h0 b).add (Xi6 b)).mono (by omega)⟩
theorem Xs3 {s s' : Nat} {p q : Rat × Rat} (h : Q2 s p) (h' : Q2 s' q) : Q2 (s+s') (Xbv p q):=by
 have key : ∀ y∈p.1*q.1::[p.1*q.2,p.2*q.1,p.2*q.2],Qs (s+s') y:=by
  intro y hy
  simp at hy
  rcases hy with rfl | rfl | rfl | rfl
  · exact h.1.mul h'.1
  · exact h.1.mul h'.2
  · exact h.2.mul h'.1
  · exact h.2.mul h'.2
 exact ⟨Xs9 key,Xte key⟩
theorem Xvj {s s' : Nat} {p q : Rat × Rat} (h : Q2 s p) (h' : Q2 s' q) : Q2 (s+s'+1) (Xmf p q):=⟨h.1.add h'.1,h.2.add h'.2⟩
theorem Yew {s : Nat} {p : Rat × Rat} (h : Q2 s p) (b : Nat) : Q2 (s+b+1) (rnd p b):=⟨Xul h.1 b,Yd5 h.2 b⟩
theorem Q2.mono {s s' : Nat} {p : Rat × Rat} (h : Q2 s p) (hs : s≤s') : Q2 s' p:=⟨h.1.mono hs,h.2.mono hs⟩
theorem Xhn : ∀ {k : Nat} {t : Tw k} {a : El k} {s b : Nat},Xbz k t→TS s k t→Sz s (toL k a)→1≤s→Q2 (eB s b k) (enc k t a b)
 | 0,t,a,s,b,h,hT,ha,hs=>⟨ha.qs (W0g.2 rfl),ha.qs (W0g.2 rfl)⟩
 | k+1,t,a,s,b,h,hT,ha,hs=>by
  have hu:=Xhn (b:=b) h.1 hT.1 (Sz.left (l:=toL k a.1) (m:=toL k a.2) ha) hs
  have hv:=Xhn (b:=b) h.1 hT.1 (Sz.right (l:=toL k a.1) (m:=toL k a.2) ha) hs
  have hr:=Xhn (b:=b) h.1 hT.1 hT.2 hs
  have hge:=Xxv s b k
  show Q2 (3*eB s b k+4*b+6) (if (∀ x∈toL k a.2,x=0) then enc k t.1 a.1 b else rnd (Xmf (enc k t.1 a.1 b) (Xbv (enc k t.1 a.2 b) (rts (enc k t.1 t.2 b) b))) b)
  split
  · exact hu.mono (by omega)
  · exact (Yew (Xvj hu (Xs3 hv (Xzb hr (Yae h b) (by omega)))) b).mono (by omega)
theorem Xk1 (a b : Nat) : pw (a+b)=pw a*pw b:=by
 show ((2 ^ (a+b) : Int) : Rat)=((2 ^ a : Int) : Rat)*((2 ^ b : Int) : Rat)
 rw [←W3v,←W6y]
theorem Xcc (n : Nat) : pw (n+1)=2*pw n:=by rw [Xk1,show pw 1=2 from rfl];grind
theorem Xfs (n : Nat) : 1≤pw n:=by
 induction n with
 | zero=>exact W6l
 | succ n ih=>rw [Xcc];grind
theorem Xg0 {a b : Nat} (h : a≤b) : pw a≤pw b:=by
 obtain ⟨c,rfl⟩:=Nat.le.dest h
 rw [Xk1]
 have h1:=W2r (Xfs c) (W2f (Xas a))
 grind
theorem Xik {x y : Rat} (h : 0≤x) (k : 0≤y) : 0≤x*y:=Rat.mul_nonneg h k
theorem Xzz {a b c d : Rat} (h : a≤b) (k : c≤d) (hc : 0≤c) (hb : 0≤b) : a*c≤b*d:=by
 have h1:=W2g h hc
 have h2:=W2r k hb
 grind
theorem Xjx {x y X Y : Rat} (h1 : -X≤x) (h2 : x≤X) (h3 : -Y≤y) (h4 : y≤Y) : x*y≤X*Y:=by
 have a:=Xik (show 0≤X - x by grind) (show 0≤Y+y by grind)
 have b:=Xik (show 0≤X+x by grind) (show 0≤Y - y by grind)
 grind
theorem Xpr {x y : Rat} (hy : 0≤y) (h : x*x≤y*y) : x≤y:=by
 by_cases hxy : x≤y
 · exact hxy
 · have h1 : y<x:=by grind
   have a:=W4j (show 0<x - y by grind) (show 0<x by grind)
   have b:=Xik hy (show 0≤x - y by grind)
   grind
def Wid (p : Rat × Rat) (e : Nat) : Prop:=p.1≤p.2∧(p.2 - p.1)*pw e≤1
def Mg (p : Rat × Rat) (m : Nat) : Prop:=-pw m≤p.1∧p.2≤pw m
theorem Wid.mono {p : Rat × Rat} {e f : Nat} (h : Wid p e) (hf : f≤e) : Wid p f:=by
 refine ⟨h.1,?_⟩
 have:=W2r (Xg0 hf) (show 0≤p.2 - p.1 by have:=h.1;grind)
 have:=h.2
 grind
theorem Mg.mono {p : Rat × Rat} {m n : Nat} (h : Mg p m) (hn : m≤n) : Mg p n:=by
 have:=Xg0 hn
 have h1:=h.1
 have h2:=h.2
 exact ⟨by grind,by grind⟩
structure RtOf (r : Rat × Rat) (b : Nat) (s : Rat × Rat) : Prop where
 lo : s.1=Xc5 (mx0 r.1) b
 l : Xc5 r.2 b≤s.2
 h : s.2≤Xc5 r.2 b+Rat.divInt 1 (2 ^ b)
theorem Xdx (b : Nat) : 0<Rat.divInt 1 (2 ^ b):=by
 by_cases h : 0<Rat.divInt 1 (2 ^ b)
 · exact h
 · have h1:=W2g (show Rat.divInt 1 (2 ^ b)≤0 by grind) (W2f (Xas b))
   rw [Xc6] at h1
   exact absurd h1 (by grind)
theorem Xro {b f : Nat} (h : f+1≤b) : 2*(Rat.divInt 1 (2 ^ b)*pw f)≤1:=by
 have h1:=W2r (Xg0 h) (W2f (Xdx b))
 rw [Xc6,Xcc] at h1
 grind
theorem Xi7 (b : Nat) : Rat.divInt 1 (2 ^ b)≤1:=by
 have h1:=W2r (Xfs b) (W2f (Xdx b))
 rw [Xc6] at h1
 grind
theorem Yfe (x : Rat) : x≤mx0 x:=by unfold mx0;split <;> grind
theorem Xgr {x y : Rat} {b : Nat} (hx : 0≤x) (h : x≤y) : Xc5 x b≤Xc5 y b:=by
 have hp:=Xas b
 refine W1t ?_ hp
 rw [Xee,Xee,W3h]
 have h1 : sq2 x b≤sq2 y b:=W2g h (W2f (W4j hp hp))
 have h2:=Xze (Xfq (b:=b) hx)
 have h3:=Xsj (x:=sq2 y b) (W5b (Xfq (b:=b) hx) h1)
 by_cases h4 : (rtF (sq2 x b) : Int)≤rtF (sq2 y b)
 · exact h4
 · have h5 : (rtF (sq2 y b) : Int)+1≤rtF (sq2 x b):=by omega
   have h6:=W3h.2 h5
   rw [W5d,show ((1 : Int) : Rat)=1 from rfl] at h6
   have h7 : (0 : Rat)≤((rtF (sq2 y b) : Int) : Rat):=Rat.intCast_nonneg.2 (by omega)
   have h8:=Xzz h6 h6 (by grind) (by grind)
   grind
theorem RtOf.wd {r s : Rat × Rat} {b e f : Nat} (R : RtOf r b s) (hr : Wid r e) (h0 : 0≤r.2) (hf : 2*f≤e) (hb : f+1≤b) : s.1≤s.2∧(s.2 - s.1)*pw f≤2:=by
 obtain ⟨r1,r2⟩:=r
 obtain ⟨c,d⟩:=s
 obtain ⟨h1,h2,h3⟩:=R
 dsimp only at *
 have hA:=Xgq (b:=b) h0
 have hB:=Xr4 (b:=b) (Xfu r1)
 have hB0:=Xct (mx0 r1) b
 have hm:=Yfe r1
 have hu:=Xdx b
 have hul:=Xro hb
 rw [←h1] at hB hB0
 have hw:=(hr.mono hf).2
 have hpf:=Xas f
 rw [show 2*f=f+f by omega,Xk1] at hw
 dsimp only at hw
 generalize Rat.divInt 1 (2 ^ b)=ε at *
 generalize hAe : Xc5 r2 b=A at *
 have key : (A - (c+ε))*pw f≤1:=by
  by_cases hk : (A - (c+ε))*pw f≤1
  · exact hk
  · have hk : 1<(A - (c+ε))*pw f:=by grind
    have hD : 0<A - (c+ε):=by
     by_cases hD : 0<A - (c+ε)
     · exact hD
     · have:=W2g (show A - (c+ε)≤0 by grind) (W2f hpf)
       grind
    have e1:=Xik (W2f hD) (show 0≤2*(c+ε) by grind)
    have e2 : (A - (c+ε))*(A - (c+ε))≤r2 - r1:=by grind
    have e3:=W2g e2 (W2f (W4j hpf hpf))
    have e4:=Xzz (W2f hk) (W2f hk) (by decide) (by grind)
    have e5:=W4j (show 0<(A - (c+ε))*pw f - 1 by grind) (show 0<(A - (c+ε))*pw f by grind)
    grind
 refine ⟨?_,?_⟩
 · have hmono : mx0 r1≤r2:=by
    have:=hr.1
    unfold mx0
    dsimp only at this
    split
    · exact h0
    · exact this
   have:=Xgr (b:=b) (Xfu r1) hmono
   rw [hAe,←h1] at this
   grind
 · have:=W2g (show d - c≤(A - (c+ε))+2*ε by grind) (W2f hpf)
   grind
theorem RtOf.mg {r s : Rat × Rat} {b m : Nat} (R : RtOf r b s) (hr : Mg r m) (h0 : 0≤r.2) : 0≤s.1∧s.2≤pw (m+1):=by
 have h1:=Xgq (b:=b) h0
 have h2:=Xct (mx0 r.1) b
 rw [←R.lo] at h2
 refine ⟨h2,?_⟩
 have h3 : Xc5 r.2 b≤pw m:=by
  refine Xpr (W2f (Xas m)) (W5b h1 (W5b hr.2 ?_))
  have:=W2r (Xfs m) (W2f (Xas m))
  grind
 have h4:=R.h
 have h5:=Xi7 b
 have h6:=Xfs m
 rw [Xcc]
 grind
theorem Xs4 (p q : Rat × Rat) : (∃ v s,(v=p.1∨v=p.2)∧(s=q.1∨s=q.2)∧(Xbv p q).1=v*s)∧∃ v s,(v=p.1∨v=p.2)∧(s=q.1∨s=q.2)∧(Xbv p q).2=v*s:=by
 constructor
 · show ∃ v s,(v=p.1∨v=p.2)∧(s=q.1∨s=q.2)∧lo2 (lo2 (lo2 (p.1*q.1) (p.1*q.2)) (p.2*q.1)) (p.2*q.2)=v*s
   rcases @Xtf (lo2 (lo2 (p.1*q.1) (p.1*q.2)) (p.2*q.1)) (p.2*q.2) with h | h <;> rw [h]
   · rcases @Xtf (lo2 (p.1*q.1) (p.1*q.2)) (p.2*q.1) with h | h <;> rw [h]
     · rcases @Xtf (p.1*q.1) (p.1*q.2) with h | h <;> rw [h]
       · exact ⟨_,_,.inl rfl,.inl rfl,rfl⟩
       · exact ⟨_,_,.inl rfl,.inr rfl,rfl⟩
     · exact ⟨_,_,.inr rfl,.inl rfl,rfl⟩
   · exact ⟨_,_,.inr rfl,.inr rfl,rfl⟩
 · show ∃ v s,(v=p.1∨v=p.2)∧(s=q.1∨s=q.2)∧hi2 (hi2 (hi2 (p.1*q.1) (p.1*q.2)) (p.2*q.1)) (p.2*q.2)=v*s
   rcases @Xt3 (hi2 (hi2 (p.1*q.1) (p.1*q.2)) (p.2*q.1)) (p.2*q.2) with h | h <;> rw [h]
   · rcases @Xt3 (hi2 (p.1*q.1) (p.1*q.2)) (p.2*q.1) with h | h <;> rw [h]
     · rcases @Xt3 (p.1*q.1) (p.1*q.2) with h | h <;> rw [h]
       · exact ⟨_,_,.inl rfl,.inl rfl,rfl⟩
       · exact ⟨_,_,.inl rfl,.inr rfl,rfl⟩
     · exact ⟨_,_,.inr rfl,.inl rfl,rfl⟩
   · exact ⟨_,_,.inr rfl,.inr rfl,rfl⟩
theorem Xn7 {u v r s : Rat × Rat} {b b' e f m : Nat} (hu : Wid u f) (hv : Wid v f) (hr : Wid r e) (hf : 2*f≤e) (mv : Mg v m) (ms : 0≤s.1∧s.2≤pw (m+1)) (h0 : 0≤r.2) (R : RtOf r b s) (hb : f+1≤b) (hb' : b≤b') (he : m+3≤f) :
 Wid (rnd (Xmf u (Xbv v s)) b') (f - (m+3)):=by
 have hs:=R.wd hr h0 (f:=f) hf hb
 have wu:=hu.2
 have wv:=hv.2
 have hu1:=hu.1
 have hv1:=hv.1
 have hs1:=hs.1
 have hs2:=hs.2
 have hpf:=Xas f
 have hpm:=Xas m
 obtain ⟨⟨v1,s1,hv1',hs1',e1⟩,v2,s2,hv2',hs2',e2⟩:=Xs4 v s
 have hle:=(Xg7 v s).1
 have hge:=(Xg8 v s).1
 have hP : (Xbv v s).2 - (Xbv v s).1≤pw m*(s.2 - s.1)+pw (m+1)*(v.2 - v.1):=by
  rw [e1,e2]
  have a1 : -pw m≤v2∧v2≤pw m:=by
   have:=mv.1;have:=mv.2
   rcases hv2' with rfl | rfl <;> exact ⟨by grind,by grind⟩
  have a2 : -(s.2 - s.1)≤s2 - s1∧s2 - s1≤s.2 - s.1:=by
   rcases hs1' with rfl | rfl <;> rcases hs2' with rfl | rfl <;> exact ⟨by grind,by grind⟩
  have a3 : -pw (m+1)≤s1∧s1≤pw (m+1):=by
   have:=ms.1;have:=ms.2;have:=Xas (m+1)
   rcases hs1' with rfl | rfl <;> exact ⟨by grind,by grind⟩
  have a4 : -(v.2 - v.1)≤v2 - v1∧v2 - v1≤v.2 - v.1:=by
   rcases hv1' with rfl | rfl <;> rcases hv2' with rfl | rfl <;> exact ⟨by grind,by grind⟩
  have b1:=Xjx a1.1 a1.2 a2.1 a2.2
  have b2:=Xjx a3.1 a3.2 a4.1 a4.2
  grind
 have hPf : ((Xbv v s).2 - (Xbv v s).1)*pw f≤pw (m+2):=by
  have c1:=W2g hP (W2f hpf)
  have c2:=W2r hs2 (W2f hpm)
  have c3:=W2r wv (W2f (Xas (m+1)))
  rw [Xcc,Xcc] at *
  grind
 have d1:=Xum (u.1+(Xbv v s).1) b'
 have d2:=Xyv (u.2+(Xbv v s).2) b'
 have d3:=Xp8 (u.1+(Xbv v s).1) b'
 have d4:=Xrn (u.2+(Xbv v s).2) b'
 have hε:=Xro (b:=b') (f:=f) (by omega)
 have hεp:=Xdx b'
 have hεe:=Xc6 b'
 have d5 : u.1+(Xbv v s).1 - Rat.divInt 1 (2 ^ b')≤dnQ (u.1+(Xbv v s).1) b':=by
  refine W1t ?_ (Xas b')
  grind
 have d6 : upQ (u.2+(Xbv v s).2) b'≤u.2+(Xbv v s).2+Rat.divInt 1 (2 ^ b'):=by
  refine W1t ?_ (Xas b')
  grind
 refine ⟨?_,?_⟩
 · show dnQ (u.1+(Xbv v s).1) b'≤upQ (u.2+(Xbv v s).2) b'
   grind
 · show (upQ (u.2+(Xbv v s).2) b' - dnQ (u.1+(Xbv v s).1) b')*pw (f - (m+3))≤1
   refine W1t ?_ (Xas (m+3))
   rw [Rat.mul_assoc,←Xk1,show f - (m+3)+(m+3)=f by omega,Rat.one_mul]
   have g1:=W2g (show upQ (u.2+(Xbv v s).2) b' - dnQ (u.1+(Xbv v s).1) b'≤(u.2 - u.1)+((Xbv v s).2 - (Xbv v s).1)+2*Rat.divInt 1 (2 ^ b') by grind) (W2f hpf)
   have g2:=Xfs (m+1)
   rw [Xcc (m+1)] at hPf
   rw [Xcc (m+2),Xcc (m+1)]
   grind
theorem Ya0 {u v r s : Rat × Rat} {b b' e m : Nat} (hu : Wid u e) (hv : Wid v e) (hr : Wid r e) (mv : Mg v m) (mr : Mg r m) (h0 : 0≤r.2) (R : RtOf r b s) (hb : e / 2+1≤b) (hb' : b≤b') (he : m+3≤e / 2) :
 Wid (rnd (Xmf u (Xbv v s)) b') (e / 2 - (m+3)):=Xn7 (hu.mono (by omega)) (hv.mono (by omega)) hr (by omega) mv (R.mg mr h0) h0 R hb hb' he
theorem Xn8 {u v s : Rat × Rat} {b' m j : Nat} (mu : Mg u m) (mv : Mg v m) (ms : 0≤s.1∧s.2≤pw (j+1)) (hs1 : s.1≤s.2) (hv1 : v.1≤v.2) : Mg (rnd (Xmf u (Xbv v s)) b') (m+j+2):=by
 obtain ⟨⟨v1,s1,hv1',hs1',e1⟩,v2,s2,hv2',hs2',e2⟩:=Xs4 v s
 have key : ∀ x y,(x=v.1∨x=v.2)→(y=s.1∨y=s.2)→-(pw m*pw (j+1))≤x*y∧x*y≤pw m*pw (j+1):=by
  intro x y hx hy
  have a1 : -pw m≤x∧x≤pw m:=by
   have:=mv.1;have:=mv.2
   rcases hx with rfl | rfl <;> exact ⟨by grind,by grind⟩
  have a3 : -pw (j+1)≤y∧y≤pw (j+1):=by
   have:=ms.1;have:=ms.2;have:=Xas (j+1)
   rcases hy with rfl | rfl <;> exact ⟨by grind,by grind⟩
  have b1:=Xjx a1.1 a1.2 a3.1 a3.2
  have b2:=Xjx (x:=-x) (show -pw m≤-x by grind) (show -x≤pw m by grind) a3.1 a3.2
  exact ⟨by grind,b1⟩
 have k1:=(key _ _ hv1' hs1').1
 have k2:=(key _ _ hv2' hs2').2
 rw [←e1] at k1
 rw [←e2] at k2
 have hεe:=Xc6 b'
 have hε1:=Xi7 b'
 have d1:=Xum (u.1+(Xbv v s).1) b'
 have d2:=Xyv (u.2+(Xbv v s).2) b'
 have d5 : u.1+(Xbv v s).1 - Rat.divInt 1 (2 ^ b')≤dnQ (u.1+(Xbv v s).1) b':=by
  refine W1t ?_ (Xas b')
  grind
 have d6 : upQ (u.2+(Xbv v s).2) b'≤u.2+(Xbv v s).2+Rat.divInt 1 (2 ^ b'):=by
  refine W1t ?_ (Xas b')
  grind
 have e3 : pw (m+j+2)=2*(pw m*pw (j+1)):=by rw [←Xk1,←Xcc];congr 1
 have e4 : pw m+1≤pw m*pw (j+1):=by
  have h1:=Xfs m
  have h3:=Xfs j
  have h2:=W2r (show 2≤pw (j+1) by rw [Xcc];grind) (W2f (Xas m))
  grind
 have m1:=mu.1
 have m2:=mu.2
 refine ⟨?_,?_⟩
 · show -pw (m+j+2)≤dnQ (u.1+(Xbv v s).1) b'
   rw [e3];grind
 · show upQ (u.2+(Xbv v s).2) b'≤pw (m+j+2)
   rw [e3];grind
theorem Ya2 {u v r s : Rat × Rat} {b b' m : Nat} (mu : Mg u m) (mv : Mg v m) (mr : Mg r m) (h0 : 0≤r.2) (hs1 : s.1≤s.2) (hv1 : v.1≤v.2) (R : RtOf r b s) : Mg (rnd (Xmf u (Xbv v s)) b') (2*m+2):=by
 rw [show 2*m+2=m+m+2 by omega];exact Xn8 mu mv (R.mg mr h0) hs1 hv1
def mW (m : Nat) : Nat→Nat
 | 0=>m
 | k+1=>2*mW m k+2
def eW (m b : Nat) : Nat→Nat
 | 0=>2*b - 2
 | k+1=>eW m b k / 2 - (mW m k+3)
theorem Ygo (m b : Nat) : ∀ k,eW m b k≤2*b - 2
 | 0=>W0a _
 | k+1=>by have:=Ygo m b k;show eW m b k / 2 - (mW m k+3)≤_;omega
theorem Yfk {m : Nat} {x : Rat} (h : Qs m x) : Mg (x,x) m:=by
 have h1:=h.n
 unfold Zs at h1
 have e:=Xjw x
 have hd : (1 : Rat)≤(x.den : Rat):=by
  have : ((1 : Int) : Rat)≤((x.den : Int) : Rat):=W3h.2 (by have:=x.den_pos;omega)
  exact this
 have h2 : ((x.num : Int) : Rat) ≤ pw m := W3h.2 (by have : (x.num.natAbs : Int) < ((2 ^ m : Nat) : Int) := by exact_mod_cast h1
                                                     have e2 : ((2 ^ m : Nat) : Int)=2 ^ m:=by simp
                                                     omega)
 have h3 : -pw m≤((x.num : Int) : Rat):=by
  have h4 : ((-(2 ^ m) : Int) : Rat) ≤ ((x.num : Int) : Rat) := W3h.2 (by have : (x.num.natAbs : Int) < ((2 ^ m : Nat) : Int) := by exact_mod_cast h1
                                                                          have e2 : ((2 ^ m : Nat) : Int)=2 ^ m:=by simp
                                                                          omega)
  rwa [Rat.intCast_neg] at h4
 have hp:=Xas m
 refine ⟨?_,?_⟩
 · show -pw m≤x
   by_cases h0 : 0≤x
   · grind
   · have:=Xik (show 0≤-x by grind) (show 0≤(x.den : Rat) - 1 by grind)
     grind
 · show x≤pw m
   by_cases h0 : 0≤x
   · have:=Xik h0 (show 0≤(x.den : Rat) - 1 by grind)
     grind
   · grind
def MgL (m : Nat) (l : List Rat) : Prop:=∀ x∈l,Qs m x
def MgT (m : Nat) : (k : Nat)→Tw k→Prop
 | 0,_=>True
 | k+1,t=>MgT m k t.1∧MgL m (toL k t.2)
theorem Xzc (r : Rat × Rat) (b : Nat) : RtOf r b (rts r b):=⟨rfl,by have:=Xdx b;show _≤Xc5 r.2 b+_;grind,W6l⟩
theorem Xuf {k : Nat} {t : Tw k} (h : Xbz k t) (a : El k) (b : Nat) : (enc k t a b).1≤(enc k t a b).2:=Xz3 h (Xfw h a b)
theorem Xlr : ∀ {k : Nat} {t : Tw k} {a : El k} {m : Nat} (b : Nat),Xbz k t→MgT m k t→MgL m (toL k a)→Mg (enc k t a b) (mW m k)
 | 0,t,a,m,b,h,hT,ha=>Yfk (ha _ (W0g.2 rfl))
 | k+1,t,a,m,b,h,hT,ha=>by
  have hu:=Xlr (a:=a.1) b h.1 hT.1 fun x hx=>ha x (W2e _ hx)
  have hv:=Xlr (a:=a.2) b h.1 hT.1 fun x hx=>ha x (W1k _ hx)
  have hr:=Xlr b h.1 hT.1 hT.2
  have h0 : 0≤(enc k t.1 t.2 b).2:=by
   have h0 : le k t.1 (rat k 0) t.2:=(Xg5 h.1).2 (by rw [h.2];decide)
   exact (Xa7 h.1).1 (le_tr h.1 h0 (Xfw h.1 t.2 b).2)
  show Mg (if (∀ x∈toL k a.2,x=0) then enc k t.1 a.1 b else rnd (Xmf (enc k t.1 a.1 b) (Xbv (enc k t.1 a.2 b) (rts (enc k t.1 t.2 b) b))) b) (2*mW m k+2)
  split
  · exact hu.mono (by omega)
  · refine Ya2 hu hv hr h0 ?_ (Xuf h.1 _ _) (Xzc _ b)
    have hle:=Xuf h.1 t.2 b
    have hm : mx0 (enc k t.1 t.2 b).1≤(enc k t.1 t.2 b).2:=by unfold mx0;split <;> assumption
    have:=Xgr (b:=b) (Xfu _) hm
    have:=Xdx b
    show Xc5 (mx0 (enc k t.1 t.2 b).1) b≤Xc5 (enc k t.1 t.2 b).2 b+Rat.divInt 1 (2 ^ b)
    grind
theorem Xp4 : ∀ {k : Nat} {t : Tw k} {a : El k} {m b : Nat},Xbz k t→MgT m k t→MgL m (toL k a)→0<eW m b k→Wid (enc k t a b) (eW m b k)
 | 0,t,a,m,b,h,hT,ha,he=>⟨W6l,(fun (x : Rat)=>(by grind : (x - x)*pw (eW m b 0)≤1)) a⟩
 | k+1,t,a,m,b,h,hT,ha,he=>by
  have he' : 0<eW m b k / 2 - (mW m k+3):=he
  have hle:=Ygo m b k
  have hu:=Xp4 (a:=a.1) (m:=m) (b:=b) h.1 hT.1 (fun x hx=>ha x (W2e _ hx)) (by omega)
  have hv:=Xp4 (a:=a.2) (m:=m) (b:=b) h.1 hT.1 (fun x hx=>ha x (W1k _ hx)) (by omega)
  have hr:=Xp4 (m:=m) (b:=b) h.1 hT.1 hT.2 (by omega)
  have mv:=Xlr (a:=a.2) b h.1 hT.1 fun x hx=>ha x (W1k _ hx)
  have mr:=Xlr b h.1 hT.1 hT.2
  have h0 : 0≤(enc k t.1 t.2 b).2:=by
   have h0 : le k t.1 (rat k 0) t.2:=(Xg5 h.1).2 (by rw [h.2];decide)
   exact (Xa7 h.1).1 (le_tr h.1 h0 (Xfw h.1 t.2 b).2)
  show Wid (if (∀ x∈toL k a.2,x=0) then enc k t.1 a.1 b else rnd (Xmf (enc k t.1 a.1 b) (Xbv (enc k t.1 a.2 b) (rts (enc k t.1 t.2 b) b))) b) (eW m b k / 2 - (mW m k+3))
  split
  · exact hu.mono (by omega)
  · exact Ya0 hu hv hr mv mr h0 (Xzc _ b) (by omega) (W0a _) (by omega)
end
section
theorem Xnh {s b b' : Nat} (h : b≤b') : ∀ k,eB s b k≤eB s b' k
 | 0=>W0a _
 | k+1=>by have:=Xnh (s:=s) h k;show 3*eB s b k+4*b+6≤3*eB s b' k+4*b'+6;omega
theorem Yid {x y : Rat} {b : Nat} : Xnl (y - x) (Rat.divInt 1 (2 ^ b))≤0↔(y - x)*pw b≤1:=by
 rw [Ycx]
 have h:=Xc6 b
 constructor
 · intro h1
   have:=W2g (show y - x≤Rat.divInt 1 (2 ^ b) by grind) (W2f (Xas b))
   rwa [h] at this
 · intro h1 h2
   have:=W4j (show 0<y - x - Rat.divInt 1 (2 ^ b) by grind) (Xas b)
   grind
def Xb4 (k : Nat) (t : Tw k) (a : El k) (z : Int) : Prop:=le k t (rat k (z : Rat)) a∧sgn k t (add k a (neg k (rat k ((z+1 : Int) : Rat))))=-1
theorem Xz0 {k : Nat} {t : Tw k} (h : Xbz k t) {a b : El k} : sgn k t (add k a (neg k b))=-1↔¬ le k t b a:=by
 unfold le
 have:=(Xa3 h).tri (add k a (neg k b))
 omega
theorem Xb4.uniq {k : Nat} {t : Tw k} {a : El k} {z z' : Int} (h : Xbz k t) (i : Xb4 k t a z) (j : Xb4 k t a z') : z=z':=by
 have key : ∀ z z',Xb4 k t a z→Xb4 k t a z'→z≤z':=by
  intro z z' i j
  by_cases hz : z≤z'
  · exact hz
  · exact absurd (le_tr h ((Xa7 h).2 (W3h.2 (show z'+1≤z by omega))) i.1) ((Xz0 h).1 j.2)
 have:=key _ _ i j
 have:=key _ _ j i
 omega
theorem Xxj {k : Nat} {t : Tw k} {a : El k} {x y : Rat} (h : Xbz k t) (i : inI k t a x y) (hw : Wid (x,y) 1) : (sgn k t (add k a (neg k (rat k (y.floor : Rat))))<0→Xb4 k t a (y.floor - 1))∧(¬ sgn k t (add k a (neg k (rat k (y.floor : Rat))))<0→Xb4 k t a y.floor):=by
 have h1:=@Rat.floor_le y
 have h2:=@Rat.lt_floor y
 have h3 : (y - x)*2≤1:=hw.2
 have e1 : ((1 : Int) : Rat)=1:=rfl
 have hup : sgn k t (add k a (neg k (rat k ((y.floor+1 : Int) : Rat))))=-1:=by
  rw [Xz0 h]
  intro hl
  have:=(Xa7 h).1 (le_tr h hl i.2)
  rw [W5d,e1] at this
  grind
 refine ⟨fun hn=>⟨le_tr h ((Xa7 h).2 ?_) i.1,?_⟩,fun hn=>⟨?_,hup⟩⟩
 · rw [Rat.intCast_sub,e1]
   grind
 · rw [show y.floor - 1+1=y.floor by omega]
   have:=(Xa3 h).tri (add k a (neg k (rat k (y.floor : Rat))))
   omega
 · show 0≤_
   omega
noncomputable def rtb (p : Rat × Rat) (b : Nat) : Rat × Rat:=(Xc5 (mx0 p.1) b,Xr5 p.2 b)
noncomputable def bx : (k : Nat)→Tw k→El k→Nat→Rat × Rat
 | 0=>fun _ (x : Rat) _=>(x,x)
 | k+1=>fun t a b=>rnd (Xmf (bx k t.1 a.1 b) (Xbv (bx k t.1 a.2 b) (rtb (bx k t.1 t.2 b) b))) (b+20)
theorem Xml (x : Rat) (b : Nat) : Xr5 x b*pw b=((Xr3 (sq2 x b) : Int) : Rat):=by
 unfold Xr5
 rw [W3k]
 have h:=Xas b
 show ((Xr3 (sq2 x b) : Int) : Rat) / pw b*pw b=_
 rw [W5a (by grind)]
theorem Ya5 (x : Rat) : (Xr3 x=rtF x∧x≤((rtF x : Int) : Rat)*((rtF x : Int) : Rat))∨Xr3 x=rtF x+1:=by
 unfold Xr3
 split
 · exact .inr rfl
 · rename_i h
   rw [W3v] at h
   exact .inl ⟨rfl,by grind⟩
theorem Xkq (x : Rat) : ((rtF x : Int) : Rat)≤((Xr3 x : Int) : Rat)∧((Xr3 x : Int) : Rat)≤((rtF x : Int) : Rat)+1∧(0≤x→x≤((Xr3 x : Int) : Rat)*((Xr3 x : Int) : Rat)):=by
 have e1 : ((1 : Int) : Rat)=1:=rfl
 rcases Ya5 x with ⟨h,h2⟩ | h
 · rw [h];exact ⟨W6l,by grind,fun _=>h2⟩
 · have e : ((Xr3 x : Int) : Rat)=((rtF x : Int) : Rat)+1:=by
    rw [h,←e1,←W5d];congr 1
   rw [e]
   exact ⟨by grind,W6l,fun h0=>W2f (Xsj h0)⟩
theorem Xor (r : Rat × Rat) (b : Nat) : RtOf r b (rtb r b):=by
 have h:=Xkq (sq2 r.2 b)
 have hp:=Xas b
 refine ⟨rfl,?_,?_⟩
 · refine W1t ?_ hp
   rw [Xee]
   show _≤Xr5 r.2 b*pw b
   rw [Xml];exact h.1
 · refine W1t ?_ hp
   show Xr5 r.2 b*pw b≤_
   have e:=Xee r.2 b
   have e2:=Xc6 b
   have e3:=Xml r.2 b
   have h2:=h.2.1
   grind
theorem Xwh {x : Rat} {b : Nat} (h : 0≤x) : x≤Xr5 x b*Xr5 x b:=by
 have hp:=Xas b
 have hpp:=W4j hp hp
 refine W1t ?_ hpp
 have h1:=(Xkq (sq2 x b)).2.2 (Xfq h)
 rw [←Xml] at h1
 have h3 : sq2 x b=x*(pw b*pw b):=rfl
 rw [←h3]
 have h4 : Xr5 x b*Xr5 x b*(pw b*pw b)=Xr5 x b*pw b*(Xr5 x b*pw b):=by grind
 rw [h4];exact h1
theorem Yjd {x : Rat} {b : Nat} : Xc5 (mx0 x) b*Xc5 (mx0 x) b≤x∨Xc5 (mx0 x) b=0:=by
 have h1:=Xgq (b:=b) (Xfu x)
 by_cases h0 : x<0
 · right
   have e : mx0 x=0:=if_pos h0
   rw [e] at h1 ⊢
   have h2:=Xct 0 b
   by_cases h3 : Xc5 0 b=0
   · exact h3
   · have:=W4j (show 0<Xc5 0 b by grind) (show 0<Xc5 0 b by grind)
     grind
 · left
   have e : mx0 x=x:=if_neg h0
   rw [e] at h1 ⊢
   exact h1
theorem Xkv {k : Nat} {t : Tw (k+1)} (h : Xbz (k+1) t) {x y : Rat} (i : inI k t.1 t.2 x y) : 0≤y:=by
 have h0 : le k t.1 (rat k 0) t.2:=(Xg5 h.1).2 (by rw [h.2];decide)
 exact (Xa7 h.1).1 (le_tr h.1 h0 i.2)
theorem Ya3 {k : Nat} {t : Tw (k+1)} (h : Xbz (k+1) t) {a : El (k+1)} {u v r s : Rat × Rat} {b b' : Nat} (iu : inI k t.1 a.1 u.1 u.2) (iv : inI k t.1 a.2 v.1 v.2) (ir : inI k t.1 t.2 r.1 r.2) (R : RtOf r b s) (hs : r.2≤s.2*s.2) :
 inI (k+1) t a (rnd (Xmf u (Xbv v s)) b').1 (rnd (Xmf u (Xbv v s)) b').2:=by
 have iu:=Xle (t:=t) h.1 iu
 have iv:=Xle (t:=t) h.1 iv
 have hr2:=Xkv h ir
 have h0 : 0≤s.1:=by rw [R.lo];exact Xct _ _
 have h2 : 0≤s.2:=W5b (Xct _ _) R.l
 have is:=Xts h ir (c:=s.1) (d:=s.2) h0 h2 (by rw [R.lo];exact Yjd) hs
 have im:=Xtt h iv is h0 (Xg7 v s).1 (Xg7 v s).2.1 (Xg8 v s).2.2.1 (Xg8 v s).2.2.2
 have ia:=Xtu h iu im
 rw [←Xp6 a] at ia
 exact Xpt h ia (Xp8 _ _) (Xrn _ _)
theorem Xnn {k : Nat} {t : Tw (k+1)} {a : El (k+1)} {b : Nat} : bx (k+1) t a b=rnd (Xmf (bx k t.1 a.1 b) (Xbv (bx k t.1 a.2 b) (rtb (bx k t.1 t.2 b) b))) (b+20):=rfl
theorem Xno : ∀ {k : Nat} {t : Tw k} (h : Xbz k t) (a : El k) (b : Nat),inI k t a (bx k t a b).1 (bx k t a b).2
 | 0,t,h,a,b=>⟨(Xa3 h).le_rf (Xbf 0 t) a,(Xa3 h).le_rf (Xbf 0 t) a⟩
 | k+1,t,h,a,b=>by
  have hu:=Xno h.1 a.1 b
  have hv:=Xno h.1 a.2 b
  have hr:=Xno h.1 t.2 b
  have hs : (bx k t.1 t.2 b).2≤(rtb (bx k t.1 t.2 b) b).2*(rtb (bx k t.1 t.2 b) b).2:=Xwh (Xkv h hr)
  have R:=Xor (bx k t.1 t.2 b) b
  rw [Xnn]
  generalize rtb (bx k t.1 t.2 b) b=s at *
  exact Ya3 h hu hv hr R hs
theorem Yg5 {k : Nat} {t : Tw k} (h : Xbz k t) (a : El k) (b : Nat) : (bx k t a b).1≤(bx k t a b).2:=Xz3 h (Xno h a b)
theorem Yeq {r : Rat × Rat} {b : Nat} (h0 : 0≤r.2) (h : r.1≤r.2) : (rtb r b).1≤(rtb r b).2:=by
 have hm : mx0 r.1≤r.2:=by unfold mx0;split <;> assumption
 exact W5b (Xgr (b:=b) (Xfu _) hm) (Xor r b).l
def bB (s b : Nat) : Nat→Nat
 | 0=>s
 | k+1=>3*bB s b k+3*b+30
end
section
abbrev dI (p : Rat × Rat) : D:=.st (.pr (dq p.1) (dq p.2))
theorem Ygd {a b a' b' : D} {g : Hp} {K : Hpl} (h1 : a=a') (h2 : b=b') : Fit g K (.d (.st (.pr a b))) (.d (.st (.pr a' b'))):=.eq (by rw [h1,h2])
abbrev zq : AV:=.st (.pr (.st (.pr (.b false) .nil)) (.st (.pr (.b false) .nil)))
abbrev zI : AV:=.st (.pr zq zq)
theorem Xt2 {x : Rat} {r : List Rat} {s : Nat} (hx : ∀ y∈x::r,Qs s y) (hs : s+3≤4398046511104) (hn : r.length≤1000) : C0 325 [.d (dqs (x::r))] (·=.d (dI (Xvy x r,Xvz x r))):=by
 refine En Tryz.func325 fun _ _ _=>?_
 refine Dz rfl ?_
 refine Ix 0 rfl (u:=dq x) rfl ?_
 refine Ix 0 rfl (u:=dq x) rfl ?_
 refine Dp 1 (r.map dq) rfl rfl (by simp) rfl ?_
 refine Lo (fun (q : Nat × Rat × Rat)=>[(2,.ptr 2 0),(3,.ptr 3 0),(4,.ptr 4 0),(15,.d (dqs r)),(16,.d (.int .i64 (r.map dq).length)),(17,.d (.int .i64 q.1))]) (fun q=>[(2,.var zI),(3,.var (.d (dq q.2.1))),(4,.var (.d (dq q.2.2)))]) (fun q=>q.1≤r.length∧q.2.1=Xvy x (r.take q.1)∧q.2.2=Xvz x (r.take q.1)) (fun q=>r.length - q.1) (0,x,x) [] rfl ⟨W0y _,rfl,rfl⟩ (fun (k,lo,hi) ⟨hk,hlo,hhi⟩=>?_)
 simp only at hk hlo hhi
 have qlo : Qs s lo:=hlo ▸ Xs9 (Xss hx k)
 have qhi : Qs s hi:=hhi ▸ Xte (Xss hx k)
 refine By rfl (fun h=>?_) fun h=>?_
 · have h : (k : Int)<((r.map dq).length : Nat):=h
   rw [lq] at h
   obtain ⟨y,hy⟩:=qat (l:=r) (k:=k) (by omega)
   have qy : Qs s y:=hx y (W1d _ (W1b hy))
   have e : r.take (k+1)=r.take k++[y]:=by rw [W1j,hy];rfl
   have e1 : Xvy x (r.take (k+1))=lo2 lo y:=by rw [e,Xs8,hlo]
   have e2 : Xvz x (r.take (k+1))=hi2 hi y:=by rw [e,Xtd,hhi]
   have fin : ∀ lo' hi',lo'=lo2 lo y→hi'=hi2 hi y→k+1≤r.length∧lo'=Xvy x (r.take (k+1))∧hi'=Xvz x (r.take (k+1)):=fun lo' hi' a b=>⟨by omega,by rw [a,e1],by rw [b,e2]⟩
   refine Ix k rfl (mp hy) ?_
   refine Ce rfl (Xgz qy qlo (by omega)) ?_
   refine By rfl (fun h1=>?_) fun h1=>?_
   · refine Ce rfl (Xgz qy qhi (by omega)) ?_
     refine By rfl (fun h2=>?_) fun h2=>?_
     · refine Ar (k+1 : Nat) rfl ?_ (wr (show (k : Int)+1=((k+1 : Nat) : Int) by omega) (by simp only [inK];omega))
       exact Bk (k+1,y,y) [] rfl (fin y y (if_pos (Ycw.1 h1)).symm (if_pos (Ycy.1 h2)).symm) (by show r.length - (k+1)<r.length - k;omega)
     · refine Ar (k+1 : Nat) rfl ?_ (wr (show (k : Int)+1=((k+1 : Nat) : Int) by omega) (by simp only [inK];omega))
       exact Bk (k+1,y,hi) [] rfl (fin y hi (if_pos (Ycw.1 h1)).symm (if_neg fun h=>h2 (Ycy.2 h)).symm) (by show r.length - (k+1)<r.length - k;omega)
   · refine Ce rfl (Xgz qy qhi (by omega)) ?_
     refine By rfl (fun h2=>?_) fun h2=>?_
     · refine Ar (k+1 : Nat) rfl ?_ (wr (show (k : Int)+1=((k+1 : Nat) : Int) by omega) (by simp only [inK];omega))
       exact Bk (k+1,lo,y) [] rfl (fin lo y (if_neg fun h=>h1 (Ycw.2 h)).symm (if_pos (Ycy.1 h2)).symm) (by show r.length - (k+1)<r.length - k;omega)
     · refine Ar (k+1 : Nat) rfl ?_ (wr (show (k : Int)+1=((k+1 : Nat) : Int) by omega) (by simp only [inK];omega))
       exact Bk (k+1,lo,hi) [] rfl (fin lo hi (if_neg fun h=>h1 (Ycw.2 h)).symm (if_neg fun h=>h2 (Ycy.2 h)).symm) (by show r.length - (k+1)<r.length - k;omega)
 · have h : ¬ (k : Int)<((r.map dq).length : Nat):=h
   rw [lq] at h
   rw [W0b (by omega)] at hlo hhi
   refine Ce rfl (Xav (z:=0) (by decide)) ?_
   refine Dw rfl ?_
   refine Ce rfl (Xdn (y:=0) qlo qs0 (by omega)) ?_
   refine Ce rfl (Xdn (y:=0) qhi qs0 (by omega)) ?_
   exact R1 rfl (Ygd (by rw [W7j,hlo]) (by rw [W7j,hhi]))
section
variable {p q : Rat × Rat} {s t : Nat}
theorem Xt0 {x : Rat} (hx : Qs s x) (hs : s+3≤4398046511104) : C0 300 [.d (dq x)] (·=.d (dI (x,x))):=by
 have e1 : Xvy x [x]=x:=by show lo2 x x=x;unfold lo2;split <;> rfl
 have e2 : Xvz x [x]=x:=by show hi2 x x=x;unfold hi2;split <;> rfl
 have:=Xt2 (x:=x) (r:=[x]) (s:=s) (fun y hy=>by simp at hy;rw [hy];exact hx) hs (by simp)
 rw [e1,e2] at this
 refine En Tryz.func300 fun _ _ _=>?_
 refine Ce rfl this ?_
 exact R1 rfl (.rf rfl)
theorem Xtx (hp : Q2 s p) (hs : 2*s+1≤4398046511104) : C0 258 [.d (dI p)] (·=.d (dq (p.2 - p.1))):=by
 refine En Tryz.func258 fun _ _ _=>?_
 refine Ce rfl (Ybi hp.2 hp.1 (by omega)) ?_
 exact R1 rfl (.rf rfl)
theorem Ycd (hp : Q2 s p) (hq : Q2 t q) (hs : s+t+1≤4398046511104) : C0 302 [.d (dI p),.d (dI q)] (·=.d (dI (Xmf p q))):=by
 refine En Tryz.func302 fun _ _ _=>?_
 refine Dw rfl ?_
 refine Ce rfl (Xdn hp.1 hq.1 (by omega)) ?_
 refine Ce rfl (Xdn hp.2 hq.2 (by omega)) ?_
 exact R1 rfl (Ygd rfl rfl)
theorem Yca (hp : Q2 s p) (hq : Q2 t q) (hs : s+t+3≤4398046511104) : C0 303 [.d (dI p),.d (dI q)] (·=.d (dI (Xbv p q))):=by
 have hh:=Xt2 (x:=p.1*q.1) (r:=[p.1*q.2,p.2*q.1,p.2*q.2]) (s:=s+t) (fun y hy=>by
  simp only [W1o,List.not_mem_nil,or_false] at hy
  rcases hy with rfl | rfl | rfl | rfl
  · exact hp.1.mul hq.1
  · exact hp.1.mul hq.2
  · exact hp.2.mul hq.1
  · exact hp.2.mul hq.2) hs (by simp)
 refine En Tryz.func303 fun _ _ _=>?_
 refine Dw rfl ?_
 refine Ce rfl (Xgy hp.1 hq.1 (by omega)) ?_
 refine Ce rfl (Xgy hp.1 hq.2 (by omega)) ?_
 refine Ce rfl (Xgy hp.2 hq.1 (by omega)) ?_
 refine Ce rfl (Xgy hp.2 hq.2 (by omega)) ?_
 refine Ce rfl hh ?_
 exact R1 rfl (.rf rfl)
end
theorem Yjr {n m r : Nat} (hr : n / m=r) (hm : 0<m) (hn : n<9223372036854775808) : arB .quo .i64 n m r:=show _∧_ from ⟨by omega,by
 rw [show Int.tdiv (n : Int) (m : Int)=((n / m : Nat) : Int) from rfl,hr]
 have:=W3t n m
 exact wI (by omega)⟩
theorem Xc0 {n : Nat} (hn : n≤8796093022200) : C0 256 [.d (.int .i64 n)] (·=.d (dz (2 ^ n : Int))):=by
 have e : (2 ^ n : Int)=((2 ^ n : Nat) : Int):=by simp
 refine En Tryz.func256 fun _ _ _=>?_
 refine Ar (n / 32 : Nat) rfl ?_ (Yjr (m:=32) rfl (by decide) (by omega))
 refine Ar (n / 32+1 : Nat) rfl ?_
 refine Mk (n / 32+1) rfl (by omega) ?_
 refine Ar (n / 32 : Nat) rfl ?_ (Yjr (m:=32) rfl (by decide) (by omega))
 refine Ar (n % 32 : Nat) rfl ?_ (show _∧_ from ⟨by decide,Xvw n 32⟩)
 refine Ar (2 ^ (n % 32) : Nat) rfl ?_ (Xok (W1z _ (by decide)))
 refine Eo (n / 32) rfl (by omega) ?_
 refine Sto rfl (by simp) rfl ?_
 refine R1 rfl (.sd (.pd (.bd (by rw [e];exact (decide_eq_false (by have:=W6j (n:=2) (m:=n) (by decide);omega)).symm)) (.own rfl (by simp) ?_)))
 rw [e,W1r,Xni,W0z,W0b (by simp),←ms,W2l]
 rfl
theorem Xbn (x : Rat) : (x.den : Int)≠0:=by have:=x.den_nz;omega
section
variable {x : Rat} {s b : Nat}
theorem Xuj (hx : Qs s x) (hb : b≤1099511627776) (hs : s≤1099511627776) : C0 326 [.d (dq x),.d (.int .i64 b)] (·=.d (dq (dnQ x b))):=by
 have hp:=hx.mul (Xwv b)
 have h2 : Zs (b+1) (2 ^ b : Int):=Zs.two (W0a _)
 have hn2:=(hx.n.mul h2).len (by omega)
 have l1:=hx.n.len (by omega)
 have l2:=h2.len (by omega)
 have l3:=hx.d.len (by omega)
 have hm:=Make_ok (p:=s+b+1) (a:=(x*pw b).floor) (b:=2 ^ b) ((Zs.floor hp).mono (by omega)) (h2.mono (by omega)) (by omega) (Xgi b)
 have hd:=DivMod_ok (a:=x.num*2 ^ b) (b:=x.den) (by omega) (by omega) (Xbn x)
 rw [Xj5] at hd
 refine En Tryz.func326 fun _ _ _=>?_
 refine Ce rfl (Xc0 (n:=b) (by omega)) ?_
 refine Dz rfl ?_
 refine Ce rfl (Mul_ok (by omega) (by omega)) ?_
 refine Ce rfl hd ?_
 refine Ce rfl hm ?_
 exact R1 rfl (.rf rfl)
theorem Yih (hx : Qs s x) (hb : b≤1099511627776) (hs : s≤1099511627776) : C0 327 [.d (dq x),.d (.int .i64 b)] (·=.d (dq (upQ x b))):=by
 refine En Tryz.func327 fun _ _ _=>?_
 refine Ce rfl (Xjn hx (by omega)) ?_
 refine Ce rfl (Xuj hx.neg hb hs) ?_
 refine Ce rfl (Xjn (Xul hx.neg b) (by omega)) ?_
 exact R1 rfl (.rf rfl)
theorem Xwo {p : Rat × Rat} (hp : Q2 s p) (hb : b≤1099511627776) (hs : s≤1099511627776) : C0 301 [.d (dI p),.d (.int .i64 b)] (·=.d (dI (rnd p b))):=by
 refine En Tryz.func301 fun _ _ _=>?_
 refine Dw rfl ?_
 refine Ce rfl (Xuj hp.1 hb hs) ?_
 refine Ce rfl (Yih hp.2 hb hs) ?_
 exact R1 rfl (Ygd rfl rfl)
theorem Xcp (hx : Qs s x) (hx0 : 0≤x) (hb : b≤1099511627776) (hs : s≤1099511627776) : C0 328 [.d (dq x),.d (.int .i64 b)] (·=.d (dq (Xc5 x b))):=by
 have h2 : Zs (2*b+1) (2 ^ (2*b) : Int):=Zs.two (W0a _)
 have hn2:=(hx.n.mul h2).len (by omega)
 have qx:=Xy4 (b:=b) hx
 have nx:=Xfq (b:=b) hx0
 have zx:=Xzd qx nx
 have fx:=Zs.floor qx
 rw [Xds nx] at fx
 have lx:=Yb3 (show (sq2 x b).floor.toNat<_ from fx)
 have l1:=hx.n.len (by omega)
 have l2:=h2.len (by omega)
 have l3:=hx.d.len (by omega)
 have hd:=DivMod_ok (a:=x.num*2 ^ (2*b)) (b:=x.den) (by omega) (by omega) (Xbn x)
 rw [Xwg b hx0] at hd
 refine En Tryz.func328 fun _ _ _=>?_
 refine Dz rfl ?_
 refine Ar (2*b : Nat) rfl ?_
 refine Ce rfl (Xc0 (n:=2*b) (by omega)) ?_
 refine Ce rfl (Mul_ok (by omega) (by omega)) ?_
 refine Ce rfl hd ?_
 refine Ce rfl (Xvn (a:=(sq2 x b).floor.toNat) (by omega)) ?_
 refine Dz rfl ?_
 refine Ce rfl (Xc0 (n:=b) (by omega)) ?_
 refine Ce rfl (Make_ok (p:=s+(2*b+2)) (a:=(rtF (sq2 x b) : Int)) (b:=2 ^ b) zx (Zs.two (by omega)) (by omega) (Xgi b)) ?_
 exact R1 rfl (.rf rfl)
theorem Xwp {p : Rat × Rat} (hp : Q2 s p) (hp0 : 0≤p.2) (hb : b≤1099511627776) (hs1 : 1≤s) (hs : s≤1099511627776) : C0 304 [.d (dI p),.d (.int .i64 b)] (·=.d (dI (rts p b))):=by
 have hm:=Xzx hp.1 hs1
 have hmk:=Make_ok (p:=b+1) (a:=1) (b:=2 ^ b) (Zs.one (by omega)) (Zs.two (W0a _)) (by omega) (Xgi b)
 refine En Tryz.func304 fun _ _ _=>?_
 refine Ce rfl (Xex hp.1 (by omega)) ?_
 refine By rfl (fun h=>?_) fun h=>?_
 · have e : mx0 p.1=0:=if_pos (Ygw.1 h)
   rw [e] at hm
   refine Ce rfl (Xav (z:=0) (by decide)) ?_
   refine Ce rfl (FromInt_ok (z:=1) (by decide)) ?_
   refine Ce rfl (Xc0 (n:=b) (by omega)) ?_
   refine Ce rfl hmk ?_
   refine Dw rfl ?_
   refine Ce rfl (Xcp (x:=0) hm W6l hb hs) ?_
   refine Ce rfl (Xcp hp.2 hp0 hb hs) ?_
   refine Ce rfl (Xdn (Xjf hp.2 hp0 b) (Xi6 b) (by omega)) ?_
   exact R1 rfl (Ygd (by show dq _=dq (Xc5 (mx0 p.1) b);rw [e]) rfl)
 · have e : mx0 p.1=p.1:=if_neg (fun e=>h (Ygw.2 e))
   refine Ce rfl (FromInt_ok (z:=1) (by decide)) ?_
   refine Ce rfl (Xc0 (n:=b) (by omega)) ?_
   refine Ce rfl hmk ?_
   refine Dw rfl ?_
   refine Ce rfl (Xcp hp.1 (by rw [←e];exact Xfu _) hb hs) ?_
   refine Ce rfl (Xcp hp.2 hp0 hb hs) ?_
   refine Ce rfl (Xdn (Xjf hp.2 hp0 b) (Xi6 b) (by omega)) ?_
   exact R1 rfl (Ygd (by show dq _=dq (Xc5 (mx0 p.1) b);rw [e]) rfl)
end
theorem Xq2 {k : Nat} : ∀ {s b : Nat} {t : Tw k} {a : Tow.El k},Xbz k t→TS s k t→Sz s (toL k a)→1≤s→k≤16→eB s b k≤274877906944→b≤274877906944→C0 257 [.d (dt t),.d (de a),.d (.int .i64 b)] (·=.d (dI (enc k t a b))):=by
 induction k with
 | zero =>
  intro s b t a hR hT ha hs1 hk hs hb
  have hs : s≤274877906944:=hs
  have key : ∀ y : Rat,Qs s y→C0 257 [.d (dts []),.d (dqs [y]),.d (.int .i64 b)] (·=.d (dI (y,y))):=fun y hy=>by
   refine En Tryz.func257 fun _ _ _=>?_
   refine Yes rfl rfl ?_
   refine Ix 0 rfl (u:=dq y) rfl ?_
   refine Ce rfl (Xt0 hy (by omega)) ?_
   exact R1 rfl (.rf rfl)
  exact key a (ha.qs (W0g.2 rfl))
 | succ k ih =>
  intro s b t a hR hT ha hs1 hk hs hb
  have hx : Sz s (toL k a.1):=Sz.left ha
  have hy : Sz s (toL k a.2):=Sz.right ha
  have hge:=Xxv s b k
  have hs' : 3*eB s b k+4*b+6≤274877906944:=hs
  have qu:=Xhn (b:=b) hR.1 hT.1 hx hs1
  have qv:=Xhn (b:=b) hR.1 hT.1 hy hs1
  have qr:=Xhn (b:=b) hR.1 hT.1 hT.2 hs1
  have hhi:=Yae hR b
  have qs:=Xzb (b:=b) qr hhi (by omega)
  have qm:=Xs3 qv qs
  have qa:=Xvj qu qm
  have hlen:=Xac k
  have hp:=p16 hk
  refine En Tryz.func257 fun _ _ _=>?_
  refine No rfl (by show ¬ ((((toT k t.1++[toL k t.2]).map dqs).length : Nat) : Int)=0;rw [twL];omega) ?_
  refine Ar k rfl ?_ (tw1 t (by omega))
  refine Ar (2 ^ k : Nat) rfl ?_ (hvq a (by omega))
  refine Tk k ((toT k t.1).map dqs) rfl rfl (Yat t) (twT t) ?_
  refine Tk (2 ^ k) ((toL k a.1).map dq) rfl rfl (Xh7 a) (hvT a) ?_
  refine Ce rfl (ih hR.1 hT.1 hx hs1 (by omega) (by omega) hb) ?_
  refine Dp (2 ^ k) ((toL k a.2).map dq) rfl rfl (Xh7 a) (hvD a) ?_
  refine Ce rfl (Xdy (l:=toL k a.2) hy.ps (by omega) (by rw [hlen];have:=p16 (show k≤16 by omega);omega)) ?_
  refine By rfl (fun h=>?_) fun h=>?_
  · have he : enc (k+1) t a b=enc k t.1 a.1 b:=if_pos h
    exact R1 rfl (by rw [he];exact .rf rfl)
  · have he : enc (k+1) t a b=rnd (Xmf (enc k t.1 a.1 b) (Xbv (enc k t.1 a.2 b) (rts (enc k t.1 t.2 b) b))) b:=if_neg h
    refine Dz rfl ?_
    refine Dp (2 ^ k) ((toL k a.2).map dq) rfl rfl (Xh7 a) (hvD a) ?_
    refine Ce rfl (ih hR.1 hT.1 hy hs1 (by omega) (by omega) hb) ?_
    refine Ix k rfl (twU t) ?_
    refine Ce rfl (ih hR.1 hT.1 hT.2 hs1 (by omega) (by omega) hb) ?_
    refine Dw rfl ?_
    refine Ce rfl (Xwp qr hhi (by omega) (by omega) (by omega)) ?_
    refine Ce rfl (Yca qv qs (by omega)) ?_
    refine Ce rfl (Ycd qu qm (by omega)) ?_
    refine Ce rfl (Xwo qa (by omega) (by omega)) ?_
    rw [he]
    exact R1 rfl (.rf rfl)
theorem Xre {k : Nat} {t : Tw k} {a : Tow.El k} {bits P s : Nat} (hR : Xbz k t) (hw : ∀ b,P≤b→Wid (enc k t a b) bits) (hT : TS s k t) (ha : Sz s (toL k a)) (hs1 : 1≤s) (hk : k≤16) (hv : vB s k s≤4398046511104) (hb : bits≤1024) (hP : P≤1000000000) (he : eB s (2*(P+bits+16)) k≤274877906944) :
 C0 189 [.d (dt t),.d (de a),.d (.int .i64 bits)] fun v=>∃ p : Rat × Rat,v=.d (dI p)∧inI k t a p.1 p.2∧Wid p bits∧Q2 (eB s (2*(P+bits+16)) k) p:=by
 have hsb : s≤4398046511104:=W0j (Xgh k s) hv
 obtain ⟨B,hB⟩ : ∃ B,B=eB s (2*(P+bits+16)) k:=⟨_,rfl⟩
 rw [←hB] at he ⊢
 have hq : ∀ b,b≤2*(P+bits+16)→Q2 B (enc k t a b):=fun b hb=>(Xhn hR hT ha hs1).mono (by rw [hB];exact Xnh hb k)
 refine En Tryz.func189 fun _ _ _=>?_
 refine No rfl (by omega) ?_
 refine No rfl (by omega) ?_
 refine Ce rfl (Xnb (l:=[toL k a]) (s:=s) hT hR hk hv hsb (fun x hx=>⟨a,W0g.1 hx,ha⟩) (by simp) hsb) ?_
 refine No rfl (by simp) ?_
 refine Ce rfl (FromInt_ok (z:=1) (by decide)) ?_
 refine Ce rfl (Xc0 (n:=bits) (by omega)) ?_
 refine Ce rfl (Make_ok (p:=bits+1) (a:=1) (b:=2 ^ bits) (Zs.one (by omega)) (Zs.two (W0a _)) (by omega) (Xgi bits)) ?_
 refine Ar (bits+16 : Nat) rfl ?_
 refine Lo (fun (g : Nat)=>[(0,.d (dt t)),(1,.d (de a)),(6,.ptr 6 0),(7,.ptr 7 0),(9,.d (.int .i64 g))]) (fun _=>[(6,.var (.st (.pr (.st (.pr (.st (.pr (.b false) .nil)) (.st (.pr (.b false) .nil)))) (.st (.pr (.st (.pr (.b false) .nil)) (.st (.pr (.b false) .nil))))))),(7,.var (.d (dq (Rat.divInt 1 (2 ^ bits)))))]) (fun g=>1≤g∧g≤2*(P+bits+16)) (fun g=>2*(P+bits+16) - g) (bits+16) [] rfl ⟨by omega,by omega⟩ (fun g ⟨hg1,hg⟩=>?_)
 have hge:=hq g hg
 have heB : eB s g k≤274877906944:=W0j (Xnh hg k) (by omega)
 refine Ce rfl (Xq2 hR hT ha hs1 hk heB (by omega)) ?_
 refine Dw rfl ?_
 refine Ce rfl (Xtx hge (by omega)) ?_
 refine Ce rfl (Xgz (by rw [Rat.sub_eq_add_neg];exact hge.2.add hge.1.neg) (Xi6 bits) (by omega)) ?_
 refine By rfl (fun h=>?_) fun h=>?_
 · exact Rt rfl (.one (.rf rfl) rfl rfl) ⟨_,rfl,Xfw hR a g,⟨Xuf hR a g,Yid.1 h⟩,hge⟩
 · have hgP : g<P:=by
    by_cases hgP : g<P
    · exact hgP
    · exact absurd (Yid.2 (hw g (by omega)).2) h
   refine Ar (2*g : Nat) rfl ?_
   exact Bk (2*g) [] rfl ⟨by omega,by omega⟩ (by show 2*(P+bits+16) - 2*g<2*(P+bits+16) - g;omega)
end
section
theorem RtOf.mg2 {r s : Rat × Rat} {b j : Nat} (R : RtOf r b s) (hr : r.2≤pw (2*j)) (h0 : 0≤r.2) : 0≤s.1∧s.2≤pw (j+1):=by
 have h1:=Xgq (b:=b) h0
 have h2:=Xct (mx0 r.1) b
 rw [←R.lo] at h2
 refine ⟨h2,?_⟩
 have h3 : Xc5 r.2 b≤pw j:=Xpr (W2f (Xas j)) (W5b h1 (by rw [←Xzi];exact hr))
 have h4:=R.h
 have h5:=Xi7 b
 have h6:=Xfs j
 rw [Xcc]
 grind
def mE (m : Nat) : Nat→Nat→Nat
 | 0,M=>M
 | k+1,M=>mE m k M+(mE m k m+1) / 2+2
def eE (m b : Nat) : Nat→Nat→Nat
 | 0,_=>2*b - 2
 | k+1,M=>min (eE m b k M) (eE m b k m / 2) - (max (mE m k M) ((mE m k m+1) / 2)+3)
theorem Ygp (m b : Nat) : ∀ k M,eE m b k M≤2*b - 2
 | 0,_=>W0a _
 | k+1,M=>by have:=Ygp m b k M;show min (eE m b k M) (eE m b k m / 2) - (max (mE m k M) ((mE m k m+1) / 2)+3)≤_;omega
theorem Yg4 {k : Nat} {t : Tw (k+1)} {m b : Nat} (h : Xbz (k+1) t) (hr : Mg (bx k t.1 t.2 b) (mE m k m)) : 0≤(rtb (bx k t.1 t.2 b) b).1∧(rtb (bx k t.1 t.2 b) b).2≤pw ((mE m k m+1) / 2+1) :=
 (Xor _ b).mg2 (W5b hr.2 (Xg0 (by omega))) (Xkv h (Xno h.1 t.2 b))
theorem Xl4 : ∀ {k : Nat} {t : Tw k} {a : El k} {m M : Nat} (b : Nat),Xbz k t→MgT m k t→MgL M (toL k a)→Mg (bx k t a b) (mE m k M)
 | 0,t,a,m,M,b,h,hT,ha=>Yfk (ha _ (W0g.2 rfl))
 | k+1,t,a,m,M,b,h,hT,ha=>by
  have hu:=Xl4 (a:=a.1) (M:=M) b h.1 hT.1 fun x hx=>ha x (W2e _ hx)
  have hv:=Xl4 (a:=a.2) (M:=M) b h.1 hT.1 fun x hx=>ha x (W1k _ hx)
  have hr:=Xl4 (M:=m) b h.1 hT.1 hT.2
  have h0:=Xkv h (Xno h.1 t.2 b)
  rw [Xnn]
  exact Xn8 hu hv (Yg4 h hr) (Yeq h0 (Yg5 h.1 _ _)) (Yg5 h.1 _ _)
theorem Xfx : ∀ {k : Nat} {t : Tw k} {a : El k} {m M b : Nat},Xbz k t→MgT m k t→MgL M (toL k a)→0<eE m b k M→Wid (bx k t a b) (eE m b k M)
 | 0,t,a,m,M,b,h,hT,ha,he=>⟨W6l,(fun (x : Rat)=>(by grind : (x - x)*pw (eE m b 0 M)≤1)) a⟩
 | k+1,t,a,m,M,b,h,hT,ha,he=>by
  have he' : 0<min (eE m b k M) (eE m b k m / 2) - (max (mE m k M) ((mE m k m+1) / 2)+3):=he
  have hle:=Ygp m b k m
  have hu:=Xfx (a:=a.1) (m:=m) (M:=M) (b:=b) h.1 hT.1 (fun x hx=>ha x (W2e _ hx)) (by omega)
  have hv:=Xfx (a:=a.2) (m:=m) (M:=M) (b:=b) h.1 hT.1 (fun x hx=>ha x (W1k _ hx)) (by omega)
  have hr:=Xfx (m:=m) (M:=m) (b:=b) h.1 hT.1 hT.2 (by omega)
  have mv:=Xl4 (a:=a.2) (M:=M) b h.1 hT.1 fun x hx=>ha x (W1k _ hx)
  have mr:=Xl4 (M:=m) b h.1 hT.1 hT.2
  have ms:=Yg4 h mr
  have h0:=Xkv h (Xno h.1 t.2 b)
  rw [Xnn]
  exact Xn7 (m:=max (mE m k M) ((mE m k m+1) / 2)) (hu.mono (by omega)) (hv.mono (by omega)) hr (by omega) (mv.mono (by omega)) ⟨ms.1,W5b ms.2 (Xg0 (by omega))⟩ h0 (Xor _ b) (by omega) (by omega) (by omega)
theorem Yc2 {k : Nat} {t : Tw k} {a : El k} (h : Xbz k t) (hT : MgT 64 k t) (ha : MgL 300 (toL k a)) (hk : k≤3) : Wid (bx k t a 2048) 1:=by
 have hk : k=0∨k=1∨k=2∨k=3:=by omega
 rcases hk with rfl | rfl | rfl | rfl
 · exact (Xfx h hT ha (show 0<eE 64 2048 0 300 by decide)).mono (by decide)
 · exact (Xfx h hT ha (show 0<eE 64 2048 1 300 by decide)).mono (by decide)
 · exact (Xfx h hT ha (show 0<eE 64 2048 2 300 by decide)).mono (by decide)
 · exact (Xfx h hT ha (show 0<eE 64 2048 3 300 by decide)).mono (by decide)
theorem Xho {k : Nat} {t : Tw k} {a : El k} {m : Nat} (h : Xbz k t) (hT : MgT m k t) (ha : MgL m (toL k a)) (hk : k≤3) (hm : m≤10000) : ∀ b,1000000≤b→Wid (enc k t a b) 1:=fun b hb=>by
 have key : ∀ e,(0<e→Wid (enc k t a b) e)→1≤e→Wid (enc k t a b) 1:=fun e h1 h2=>(h1 (by omega)).mono h2
 refine key _ (fun he=>Xp4 h hT ha he) ?_
 have hk : k=0∨k=1∨k=2∨k=3:=by omega
 rcases hk with rfl | rfl | rfl | rfl <;> simp only [eW,mW] <;> omega
end
section
theorem Zs.pow {q : Nat} {z : Int} (h : Zs q z) (n : Nat) : Zs (q*n+1) (z ^ n):=by
 unfold Zs at *
 rw [W6u]
 have h1 : z.natAbs ^ n≤(2 ^ q) ^ n:=W5w (W1v h) n
 rw [←W4u] at h1
 rw [W0p]
 have:=W0x (q*n)
 omega
theorem Zs.len2 {q : Nat} {z : Int} (h : Zs q z) (hq : q≤8000000000000) : (dig z.natAbs).length≤274877906944:=by
 have h1 : z.natAbs<4294967296 ^ (q / 32+1):=by
  rw [show 4294967296=2 ^ 32 from rfl,←W4u]
  exact W0q h (W0m (by decide) (by omega))
 have:=Xao h1
 omega
theorem Xxf {a : Int} (ha : (dig a.natAbs).length≤549755813888) : C0 192 [.d (dz a),.d (dz 1)] (·=.d (dz (a - 1))):=by
 have h1 : (dig (Int.natAbs (-1))).length≤549755813888:=W0j (Xao (n:=1) (k:=1) (by decide)) (by decide)
 have h:=Add_ok (a:=a) (b:=-1) ha h1
 have hc : C0 261 [.d (dz a),.d (.st (.pr (.bool (!decide ((1 : Int)<0))) (ws (dig (Int.natAbs 1)))))] (·=.d (dz (a - 1))):=h
 refine En Tryz.func192 fun _ _ _=>?_
 refine Ce rfl hc ?_
 exact R1 rfl (.rf rfl)
theorem Xst {x : Rat} {p : Nat} (hx : Qs p x) (hp : p≤4398046511104) : C0 188 [.d (dq x)] (·=.d (dz x.floor)):=by
 have h:=DivMod_ok (a:=x.num) (b:=x.den) (W0j (hx.n.len (by omega)) (by decide)) (W0j (hx.d.len (by omega)) (by decide)) (Xbn x)
 have e : x.num.fdiv x.den=x.floor:=by
  have:=Xj5 x 0
  rw [show pw 0=1 from rfl,Rat.mul_one,W6s,W4t] at this
  exact this
 rw [e] at h
 refine En Tryz.func188 fun _ _ _=>?_
 refine Ce rfl h ?_
 exact R1 rfl (.rf rfl)
theorem Xtz {n : Nat} {z : Int} {q : Nat} (hz : Zs q z) (hn : n≤4096) (hq : q≤100000) : C0 73 [.d (dz z),.d (.int .i64 n)] (·=.tup (.pr (.d (dz (z ^ n))) (.d (.int .i64 0)))):=by
 refine En Tryz.func73 fun _ _ _=>?_
 refine No rfl (by omega) ?_
 refine No rfl (by omega) ?_
 refine Dw rfl ?_
 refine Ce rfl (FromInt_ok (z:=1) (by decide)) ?_
 refine Ce rfl (Xcj (W0j (hz.len (by omega)) (by decide))) ?_
 refine Lo (fun ((m,o,e) : Nat × Nat × Nat)=>[(1,.d (.int .i64 m)),(4,.ptr 4 0),(5,.d (.int .i64 0)),(6,.ptr 6 0),(7,.ptr 7 0)]) (fun (m,o,e)=>[(4,.var (.st (.pr (.b false) .nil))),(6,.var (.d (dz (z ^ o)))),(7,.var (.d (dz (z ^ e))))]) (fun (m,o,e)=>o+e*m=n∧e≤max n 1∧m≤n) (fun (m,_,_)=>m) (n,0,1) [] rfl ⟨by omega,by omega,W0a n⟩ ?_ (by exact ⟨rfl,by show Xrg _ [(4,Ob.var (AV.st (.pr (.b false) .nil))),(6,Ob.var (AV.d (dz (z ^ 0)))),(7,Ob.var (AV.d (dz (z ^ 1))))];rw [W6s,show z ^ 1=z by rw [Int.pow_succ,W6s,W5m]];rfl,rfl,rfl,rfl⟩)
 rintro ⟨m,o,e⟩ ⟨hm,he,hmn⟩
 have hsz : ∀ j,j≤4096→(dig (z ^ j).natAbs).length≤549755813888:=fun j hj=>by
  have:=Zs.pow hz j
  have hqj : q*j≤100000*4096:=W1w hq hj
  exact W0j (this.len (by omega)) (by decide)
 have ho : o≤4096:=by have:=W0y (e*m);omega
 have he4 : e≤4096:=by omega
 refine By rfl (fun h=>?_) fun h=>?_
 · have h : (m : Int) > 0:=h
   have hdm:=W2d m 2
   have hem : e*m=2*(e*(m / 2))+e*(m % 2):=by
    conv=>lhs;rw [←hdm,W0u]
    rw [W4b]
   have hq2 : arB .quo .i64 (m : Int) 2 ((m / 2 : Nat) : Int):=Yjr (m:=2) rfl (by decide) (by omega)
   have sqr : ∀ e : Nat,z ^ e*z ^ e=z ^ (e+e):=fun e=>(W6y ..).symm
   refine Ar (m % 2 : Nat) rfl ?_ (show _∧_ from ⟨by decide,Xvw m 2⟩)
   refine By rfl (fun h1=>?_) fun h1=>?_
   · have h1 : m % 2=1:=by omega
     rw [h1,W3u] at hem
     refine Ce rfl (Mul_ok (hsz o ho) (hsz e he4)) ?_
     rw [←W6y]
     refine Ar (m / 2 : Nat) rfl ?_ hq2
     refine By rfl (fun h2=>?_) fun h2=>?_
     · have he2 : e*1≤e*(m / 2):=W0n e (by omega)
       refine Ce rfl (Mul_ok (hsz e he4) (hsz e he4)) ?_
       rw [sqr]
       exact Bk (m / 2,o+e,e+e) [] rfl ⟨by rw [W1e];omega,by omega,by omega⟩ (by show m / 2<m;omega)
     · have h20 : m / 2=0:=by omega
       rw [h20] at hem
       exact Bk (m / 2,o+e,e) [] rfl ⟨by rw [h20];omega,he,by omega⟩ (by show m / 2<m;omega)
   · have h1 : m % 2=0:=by omega
     rw [h1,W2w] at hem
     refine Ar (m / 2 : Nat) rfl ?_ hq2
     have he2 : e*1≤e*(m / 2):=W0n e (by omega)
     refine Yes rfl (by omega) ?_
     refine Ce rfl (Mul_ok (hsz e he4) (hsz e he4)) ?_
     rw [sqr]
     exact Bk (m / 2,o,e+e) [] rfl ⟨by rw [W1e];omega,by omega,by omega⟩ (by show m / 2<m;omega)
 · have h : ¬ (m : Int) > 0:=h
   have hm0 : m=0:=by omega
   rw [hm0,W2w,W2n] at hm
   rw [hm]
   exact RTt rfl (.cons (.rf rfl) Xb3)
theorem Xse {k : Nat} {t : Tw k} {a : Tow.El k} {P s : Nat} (hR : Xbz k t) (hw : ∀ b,P≤b→Wid (enc k t a b) 1) (hT : TS s k t) (ha : Sz s (toL k a)) (hs1 : 1≤s) (hk : k≤16) (hP : P≤1000000000) (he : eB s (2*(P+1+16)) k≤274877906944) (hv : vB s k (s+eB s (2*(P+1+16)) k+4)≤4398046511104) :
 C0 124 [.d (dt t),.d (de a)] fun v=>∃ z,v=.d (dz z)∧Xb4 k t a z∧(dig z.natAbs).length≤274877906944:=by
 have hsB:=W0j (Xgh (r:=s) k _) hv
 obtain ⟨B,hB⟩ : ∃ B,B=eB s (2*(P+1+16)) k:=⟨_,rfl⟩
 have hvs : vB s k s≤4398046511104:=W0j (Xdi (by omega)) hv
 have hE:=Xre (bits:=1) hR hw hT ha hs1 hk hvs (by decide) hP he
 rw [←hB] at he hv hsB hE
 have hB1 : 1≤B:=by rw [hB];exact W0j hs1 (Xxv ..)
 refine En Tryz.func124 fun _ _ _=>?_
 refine Ce rfl (Xnb (l:=[toL k a]) (s:=s) hT hR hk hvs (by omega) (fun x hx=>⟨a,W0g.1 hx,ha⟩) (by simp) (by omega)) ?_
 refine No rfl (by simp) ?_
 refine Ca rfl hE fun v hv'=>?_
 obtain ⟨p,rfl,hin,hwd,hq⟩:=hv'
 have hz:=Zs.floor hq.2
 have hfl:=Xxj hR hin hwd
 have hl0:=Zs.len2 (z:=p.2.floor) hz (by omega)
 have hl1:=Zs.len2 (z:=p.2.floor - 1) (q:=B+1) (by unfold Zs at *;rw [W0p];omega) (by omega)
 have hmk:=Make_ok (p:=B) (a:=p.2.floor) (b:=1) hz (Zs.one (by omega)) (by omega) (by decide)
 rw [Xuo] at hmk
 have qz : Qs B ((p.2.floor : Int) : Rat):=Qs.int hz (by omega)
 have hzr:=Sz.rat k qz
 refine Ce rfl (Xst hq.2 (by omega)) ?_
 refine Dw rfl ?_
 refine Ce rfl (FromInt_ok (z:=1) (by decide)) ?_
 refine Ce rfl hmk ?_
 refine Ce rfl (Xcb hT hk (by omega) qz (by omega)) ?_
 refine Ce rfl (Xjc hT ha hzr hk (by omega) (by omega)) ?_
 refine Ce rfl (Xi4 (s:=s+B+4) hT (by rw [Xa2,Xca];exact (ha.add hzr.neg).mono (by omega)) hk hv (by omega)) ?_
 refine By rfl (fun h=>?_) fun h=>?_
 · refine Dw rfl ?_
   refine Ce rfl (FromInt_ok (z:=1) (by decide)) ?_
   refine Ce rfl (Xxf (W0j (hz.len (by omega)) (by decide))) ?_
   exact Rt rfl (.one (.rf rfl) rfl rfl) ⟨_,rfl,hfl.1 h,hl1⟩
 · exact Rt rfl (.one (.rf rfl) rfl rfl) ⟨_,rfl,hfl.2 h,hl0⟩
end
open Go Go.Vm Go.Num Go.Tow
theorem Xhu {l : List Rat} (h0 : 0<l.length) (hl : l.length≤1048576) : CA0 230 [.d (dqs l)] 4 (l.map dq):=by
 refine EnW Tryz.func230 fun _ _ _ _=>?_
 refine Ub rfl (fun h=>?_) ?_
 · exact absurd h (by intro e; have : l.length = 0 := by simpa using congrArg List.length e
                      omega)
 refine ApL (l.map dq) rfl rfl (by simpa using h0) (by simpa using W0j hl (by decide)) ?_
 exact Rw [(7,1000000)] [(1000000,.arr 4 (l.map dq))] rfl (.one (.rf rfl) rfl rfl) ⟨_,rfl,rfl,rfl⟩
theorem Xix {l : List Rat} (h0 : 0<l.length) (hl : l.length≤1048576) : C0 230 [.d (dqs l)] (·=.d (dqs l)):=(Xhu h0 hl).data
theorem Xt5 {n : Nat} (h0 : 0<n) (hn : n≤1048576) : CA0 333 [.nil,.d (.int .i64 n)] 4 []:=by
 refine EnW Tryz.func333 fun _ _ _ _=>?_
 refine No rfl (by omega) ?_
 refine Kp rfl ?_
 refine Ar 0 rfl ?_
 refine Ar n rfl ?_
 refine Yes rfl (by omega) ?_
 refine Kp rfl ?_
 refine Sn rfl ?_
 refine ApM n rfl h0 (by omega) ?_
 refine Sw 0 0 rfl (by omega) (by omega) ?_
 exact Rw [(22,1000000)] [(1000000,.arr 4 [])] rfl (.one (.rf rfl) rfl rfl) ⟨_,rfl,rfl,rfl⟩
theorem Yk9 {c c' : Bool} (h : c=c') {g : Hp} {K : Hpl} : FitT g K (.b c) (.b c'):=by
 subst h;exact .one (.rf rfl) (fun _ _ e=>by cases e) (fun _ _ e=>by cases e)
theorem Xqb {p q : Prop} (h : p↔q) : dc p=dc q:=by rw [show p=q from propext h]
namespace P8
theorem Xyj {n : Int} (hn : n<0) (hl : (dig n.natAbs).length≤274877906944) : C0 336 [.d (dz n)] (·=.tup (.pr (.d (dS false [])) (.d (.int .i64 7)))):=by
 refine En Tryz.func336 fun _ _ _=>?_
 refine Ce rfl (Sign_ok (z:=n) (by omega)) ?_
 refine Yes rfl (by rcases Xaq n 0 with ⟨g1,g2⟩ | ⟨g1,g2⟩ | ⟨g1,g2⟩ <;> omega) ?_
 exact RTt rfl (.cons (.sd (.pd (.bd rfl) (.nil rfl))) Xb3)
theorem Xsk {n : Int} (hl : (dig n.natAbs).length≤274877906944) : C0 332 [.d (dz n)] fun v=>∃ b l,v=.tup (.pr (.d (dS b l)) (.b (dc (0≤n∧sqN n.natAbs))))∧(0≤n→dS b l=dz (rt n.natAbs : Int)):=by
 have hs:=@Xvn n.natAbs hl
 refine En Tryz.func332 fun _ _ _=>?_
 by_cases hn : 0≤n
 · have e : ((n.natAbs : Nat) : Int)=n:=by omega
   rw [e] at hs
   have hr:=(Xc9 n.natAbs).1
   have h3 : rt n.natAbs≤rt n.natAbs*rt n.natAbs:=Nat.le_mul_self _
   have l1:=Xan (show rt n.natAbs≤n.natAbs by omega)
   have l2:=Xan hr
   refine Ce rfl hs ?_
   refine Dw rfl ?_
   refine Yes rfl rfl ?_
   refine Ce rfl (Mul_ok (by rw [W1r];omega) (by rw [W1r];omega)) ?_
   refine Ce rfl (Xvs (by rw [←W2u,W1r];omega) (by omega)) ?_
   refine Rt rfl (.tup (.cons (.rf rfl) (Yk9 (Xqb ?_)))) ⟨_,_,rfl,fun _=>rfl⟩
   unfold sqN
   rcases Xaq ((rt n.natAbs : Int)*(rt n.natAbs : Int)) n with ⟨g1,g2⟩ | ⟨g1,g2⟩ | ⟨g1,g2⟩ <;> rw [←W2u] at g1 <;> rw [←W2u] at g2 ⊢ <;> omega
 · refine Ce rfl (Xyj (by omega) hl) ?_
   refine Dw rfl ?_
   refine No rfl (by decide) ?_
   exact Rt rfl (.tup (.cons (.rf rfl) (Xxl fun h=>hn h.1))) ⟨_,_,rfl,fun h=>absurd h hn⟩
theorem Xvm {x : Rat} {p : Nat} (hx : Qs p x) (hp : p≤4398046511104) : C0 317 [.d (dq x)] fun v=>∃ b l b' l',v=.tup (.pr (.d (R2.dR b l b' l')) (.b (dc (∃ y : Rat,y*y=x))))∧((∃ y : Rat,y*y=x)→∃ y : Rat,y*y=x∧R2.dR b l b' l'=dq y):=by
 have h1:=hx.n.len2 hp
 have h2:=hx.d.len2 hp
 have hi:=Ya6 (q:=x)
 refine En Tryz.func317 fun _ _ _=>?_
 refine Ca rfl (Xsk (n:=x.num) (by omega)) fun v hv=>?_
 obtain ⟨b,l,rfl,hb⟩:=hv
 refine Ca rfl (Xsk (n:=(x.den : Int)) (by omega)) fun v hv=>?_
 obtain ⟨b',l',rfl,hb'⟩:=hv
 have z : ∀ {c g K},(c=false∧¬ ∃ y : Rat,y*y=x)→FitT g K (.pr (.st (.pr (.st (.pr (.b false) .nil)) (.st (.pr (.b false) .nil)))) (.b c)) (.pr (.d (R2.dR false [] false [])) (.b (dc (∃ y : Rat,y*y=x)))):=fun ⟨h0,h⟩=>by
  subst h0;exact .cons (.sd (.pd (.sd (.pd (.bd rfl) (.nil rfl))) (.sd (.pd (.bd rfl) (.nil rfl))))) (Xxl h)
 refine By rfl (fun h=>?_) fun h=>?_
 · have h : ¬ (0≤x.num∧sqN x.num.natAbs):=by simpa only [Xb6,Xaw] using h
   have no : ¬ ∃ y : Rat,y*y=x:=fun e=>h ⟨(hi.1 e).1,(hi.1 e).2.1⟩
   exact Rt rfl (.tup (z ⟨rfl,no⟩)) ⟨false,[],false,[],rfl,fun e=>absurd e no⟩
 have h : 0≤x.num∧sqN x.num.natAbs:=by simpa [Xb6,Xaw] using h
 refine By rfl (fun k=>?_) fun k=>?_
 · have k : ¬ (0≤(x.den : Int)∧sqN (x.den : Int).natAbs):=by simpa only [Xb6,Xaw] using k
   have no : ¬ ∃ y : Rat,y*y=x:=fun e=>k ⟨by omega,by rw [W1r];exact (hi.1 e).2.2⟩
   exact Rt rfl (.tup (z ⟨rfl,no⟩)) ⟨false,[],false,[],rfl,fun e=>absurd e no⟩
 have k : 0≤(x.den : Int)∧sqN (x.den : Int).natAbs:=by simpa [Xb6,Xaw] using k
 rw [W1r] at k
 obtain ⟨y,y1,y2,y3⟩:=Xoc (q:=x) h.1 h.2 k.2
 refine Rt rfl (.tup (.cons (.rf rfl) (Ygc ⟨y,y3⟩))) ⟨_,_,_,_,rfl,fun _=>⟨y,y3,?_⟩⟩
 have e1:=hb h.1
 have e2:=hb' k.1
 rw [W1r] at e2
 show D.st (.pr (dS b l) (dS b' l'))=D.st (.pr (dz _) (dz _))
 rw [e1,e2,y1,y2]
theorem Xna {k r p : Nat} {t : Tw k} {a : Tow.El k} (hT : TS r k t) (ha : Sz p (toL k a)) (hk : k≤16) (hp : p+3+cB r k≤4398046511104) (hr : r≤4398046511104) : C0 321 [.d (dt t),.d (de a)] (·=.d (de (mul k t a (rat k (1 / 2))))):=by
 refine En Tryz.func321 fun _ _ _=>?_
 refine Ce rfl (Xo2 (a:=1) (b:=2) (by decide) (by decide)) ?_
 rw [Yce]
 refine Ce rfl (Xcb (x:=1 / 2) (p:=3) hT hk hr ⟨show (1 / 2 : Rat).num.natAbs<2 ^ 3 by decide +kernel,show ((1 / 2 : Rat).den : Int).natAbs<2 ^ 3 by decide +kernel⟩ (by decide)) ?_
 refine Ce rfl (Xc7 hT ha Sz.half hk (by omega) hr) ?_
 exact R0
theorem Xqd {a b : List D} (h0 : 0<a.length+b.length) (hl : a.length+b.length≤1048576) : C0 318 [.d (.sl 1 [.sl 4 a,.sl 4 b])] (·=.d (.sl 4 (a++b))):=by
 refine En Tryz.func318 fun _ _ _=>?_
 refine Lo (fun (x : Nat × Nat)=>[(0,.d (.sl 1 [.sl 4 a,.sl 4 b])),(2,.nil),(3,.d (.int .i64 x.2)),(9,.d (.sl 1 [.sl 4 a,.sl 4 b])),(10,.d (.int .i64 2)),(11,.d (.int .i64 x.1))]) (fun _=>[]) (fun x=>x=(0,0)∨x=(1,a.length)∨x=(2,a.length+b.length)) (fun x=>2 - x.1) (0,0) [] rfl (.inl rfl) (fun x hI=>?_)
 rcases hI with rfl | rfl | rfl
 · refine Yes rfl (show ((0 : Nat) : Int)<2 by decide) ?_
   refine Ix 0 rfl (u:=.sl 4 a) rfl ?_
   refine Ar a.length rfl ?_ (wr (by omega) (by simp only [inK];omega))
   refine No rfl (by omega) ?_
   refine Ar (1 : Nat) rfl ?_
   exact Bk (1,a.length) [] rfl (.inr (.inl rfl)) (show 1<2 by decide)
 · refine Yes rfl (show ((1 : Nat) : Int)<2 by decide) ?_
   refine Ix 1 rfl (u:=.sl 4 b) rfl ?_
   refine Ar (a.length+b.length : Nat) rfl ?_ (wr (by omega) (by simp only [inK];omega))
   refine No rfl (by omega) ?_
   refine Ar (2 : Nat) rfl ?_
   exact Bk (2,a.length+b.length) [] rfl (.inr (.inr rfl)) (show 0<1 by decide)
 refine No rfl (show ¬ ((2 : Nat) : Int)<2 by decide) ?_
 refine CoN rfl (Xt5 (n:=a.length+b.length) (by omega) hl) (fun v ob hv=>?_)
 obtain ⟨rfl,rfl⟩:=hv
 refine Lo (fun (x : Nat × List D)=>[(0,.d (.sl 1 [.sl 4 a,.sl 4 b])),(2,.nil),(6,.own 24 4 0 x.2.length),(25,.d (.sl 1 [.sl 4 a,.sl 4 b])),(26,.d (.int .i64 2)),(27,.d (.int .i64 x.1))]) (fun x=>[(24,.arr 4 x.2)]) (fun x=>x=(0,[])∨x=(1,a)∨x=(2,a++b)) (fun x=>2 - x.1) (0,[]) [] rfl (.inl rfl) (fun x hI=>?_)
 rcases hI with rfl | rfl | rfl
 · refine Yes rfl (show ((0 : Nat) : Int)<2 by decide) ?_
   refine Ix 0 rfl (u:=.sl 4 a) rfl ?_
   refine ApO a rfl rfl rfl rfl (by omega) ?_
   refine Ar (1 : Nat) rfl ?_
   exact Bk (1,a) [(24,90),(33,24)] rfl (.inr (.inl rfl)) (show 1<2 by decide)
 · refine Yes rfl (show ((1 : Nat) : Int)<2 by decide) ?_
   refine Ix 1 rfl (u:=.sl 4 b) rfl ?_
   refine ApO (a++b) rfl rfl rfl (by simp) (by simp;omega) ?_
   refine Ar (2 : Nat) rfl ?_
   exact Bk (2,a++b) [(24,90),(33,24)] rfl (.inr (.inr rfl)) (show 0<1 by decide)
 refine No rfl (show ¬ ((2 : Nat) : Int)<2 by decide) ?_
 exact R1 rfl (.own rfl (by simp) (by rw [W0z];exact W0b (by simp)))
theorem Xlu {k : Nat} {x y : Tow.El k} (hk : k≤16) : C0 318 [.d (.sl 1 [de x,de y])] (·=.d (de (pr x y))):=by
 have:=Xqd (a:=(toL k x).map dq) (b:=(toL k y).map dq) (by simp [Xac];have:=W0x k;omega) (by simp [Xac];have:=p16 hk;omega)
 rwa [←W3o] at this
end P8
open Go Go.Num Go.Tow
theorem Xz5 {r : Nat} : ∀ {k p : Nat},0<iS r k p
 | 0,p=>Nat.succ_pos p
 | k+1,p=>by have:=Xz5 (r:=r) (k:=k) (p:=nS r k p);show 0<p+iS r k (nS r k p)+cB r k;omega
theorem Yjj {r : Nat} : ∀ {k p : Nat},p≤iS r k p
 | 0,p=>W7x p
 | k+1,p=>by show p≤p+iS r k (nS r k p)+cB r k;omega
theorem Yf1 {r : Nat} : ∀ {k p : Nat},p≤iB r k p
 | 0,p=>W7x p
 | k+1,p=>by show p≤2*(p+iB r k (nB r k p)+cB r k);omega
end Go.Proofs.YtdlhdemfnfpboaaGreatDoor
namespace Go.Proofs.YtdlhdemfnfpboaaGreatDoor.P8
open Go Go.Vm Go.Num Go.Tow Go.Proofs.YtdlhdemfnfpboaaGreatDoor
def SqP (k : Nat) (t : Tw k) (a : Tow.El k) (v : AV) : Prop:=∃ w : List D,w.length≤2 ^ k∧v=.tup (.pr (.d (.sl 4 w)) (.b (dc (Xeb k t a))))∧(Xeb k t a→∃ x,mul k t x x=a∧D.sl 4 w=de x)
theorem Xid {k r : Nat} {t : Tw k} (hT : TS r k t) (hk : k≤16) (hr : r≤4398046511104) : C0 191 [.d (dt t),.d (dq ((0 : Int) : Rat))] (·=.d (de (zero k))):=by
 have:=Xcb (x:=((0 : Int) : Rat)) (p:=1) hT hk hr (Qs.int Zs.zero (W0a 1)) (by decide)
 rwa [show ((0 : Int) : Rat)=0 from rfl,Xjm] at this
theorem Xkp {k : Nat} : ∀ {r p : Nat} {t : Tw k} {a : Tow.El k},TS r k t→Sz p (toL k a)→red k t→k≤16→qB r k p≤4398046511104→r≤4398046511104→C0 285 [.d (dt t),.d (de a)] (SqP k t a):=by
 induction k with
 | zero =>
  intro r p t a hT ha hR hk hq hr
  have hq : p≤4398046511104:=hq
  have key : ∀ y : Rat,Qs p y→C0 285 [.d (dts []),.d (dqs [y])] fun v=>∃ w : List D,w.length≤2 ^ 0∧v=.tup (.pr (.d (.sl 4 w)) (.b (dc (∃ x : Rat,x*x=y))))∧((∃ x : Rat,x*x=y)→∃ x : Rat,x*x=y∧D.sl 4 w=dqs [x]):=fun y hy=>by
   refine En Tryz.func285 fun _ _ _=>?_
   refine Yes rfl rfl ?_
   refine Ix 0 rfl (u:=dq y) rfl ?_
   refine Ca rfl (Xvm hy (by omega)) fun v hv=>?_
   obtain ⟨b,l,b',l',rfl,hw⟩:=hv
   exact Rt rfl (.tup (.cons (.lit rfl) (.one (.rf rfl) (fun _ _ e=>by cases e) (fun _ _ e=>by cases e)))) ⟨_,W0a _,rfl,fun h=>let ⟨y,h1,h2⟩:=hw h;⟨y,h1,by rw [show dqs [y]=D.sl 4 [dq y] from rfl,←h2];rfl⟩⟩
  exact key a (ha.qs (W0g.2 rfl))
 | succ k ih =>
  intro r p t a hT ha hR hk hq hr
  have hx : Sz p (toL k a.1):=Sz.left ha
  have hy : Sz p (toL k a.2):=Sz.right ha
  have hlen:=Xac k
  have hk0:=W0x k
  have hpk:=p16 (show k≤16 by omega)
  have hz:=ha.normS hT
  have L:=Xbf k t.1
  have hqq : p+vB r (k+1) p+vB r (k+1) r+nB r k p+qB r k (sX r k p)+iB r k (sX r k p+gC r k)+iS r k (sX r k p+gC r k)+iB r k r+2*cB r k+4≤4398046511104:=hq
  have hX : sX r k p=p+nS r k p+gC r k+cB r k+iS r k r+4:=rfl
  have hN : nB r k p=4*p+3*cB r k+r+1:=rfl
  have hI : 0<iS r k r:=Xz5
  have q6:=Yjj (r:=r) (k:=k) (p:=sX r k p+gC r k)
  have q7:=Yf1 (r:=r) (k:=k) (p:=sX r k p+gC r k)
  have q1 : qB r k p≤qB r k (sX r k p):=Xfk (by omega)
  have q2 : qB r k (nS r k p)≤qB r k (sX r k p):=Xfk (by omega)
  have q3 : qB r k (p+iS r k r+cB r k)≤qB r k (sX r k p):=Xfk (by omega)
  have q4 : sX r k p≤qB r k (sX r k p):=Yi1
  have hr0 : t.2≠zero k:=fun h0=>hR.2.2 ⟨zero k,by rw [h0,L.mz]⟩
  obtain ⟨i,hi⟩:=(Xgx hR.1).2 t.2 hr0
  have him:=Xhd hi
  have hiz:=Sz.invS hT.1 hT.2 hi
  have no0 : ∀ {g K},¬ Xeb (k+1) t a→FitT g K (.pr .nil (.b false)) (.pr (.d (.sl 4 [])) (.b (dc (Xeb (k+1) t a)))):=fun h=>.cons (.nil (sz:=4) rfl) (Xxl h)
  refine En Tryz.func285 fun _ _ _=>?_
  refine No rfl (by show ¬ ((((toT k t.1++[toL k t.2]).map dqs).length : Nat) : Int)=0;rw [twL];omega) ?_
  refine Dw rfl ?_
  refine Ar k rfl ?_ (tw1 t (by omega))
  refine Tk k ((toT k t.1).map dqs) rfl rfl (Yat t) (twT t) ?_
  refine Ar k rfl ?_ (tw1 t (by omega))
  refine Ix k rfl (twU t) ?_
  refine Dw rfl ?_
  refine Ar (2 ^ k : Nat) rfl ?_ (hvq a (by omega))
  refine Tk (2 ^ k) ((toL k a.1).map dq) rfl rfl (Xh7 a) (hvT a) ?_
  refine Ar (2 ^ k : Nat) rfl ?_ (hvq a (by omega))
  refine Dp (2 ^ k) ((toL k a.2).map dq) rfl rfl (Xh7 a) (hvD a) ?_
  refine Ce rfl (Xdy (l:=toL k a.2) hy.ps (by omega) (by rw [hlen];omega)) ?_
  refine By rfl (fun hv=>?_) fun hv=>?_
  · have ev:=(Xbi k a.2).2 hv
    have ea : a=up k a.1:=by show (a.1,a.2)=(a.1,zero k);rw [ev]
    refine Ca rfl (ih hT.1 hx hR.1 (by omega) (by omega) hr) fun v hv=>?_
    obtain ⟨w,hwl,rfl,hw⟩:=hv
    refine By rfl (fun h1=>?_) fun h1=>?_
    · obtain ⟨x,hx1,hx2⟩:=hw h1
      injection hx2 with _ hx2
      subst hx2
      have hs : mul (k+1) t (pr x (zero k)) (pr x (zero k))=a:=(Yiq hx1).trans ea.symm
      refine Ce rfl (Xav (z:=0) (by decide)) ?_
      refine Ce rfl (Xid hT.1 (by omega) hr) ?_
      refine Ce rfl (Xlu (x:=x) (y:=zero k) (by omega)) ?_
      exact Rt rfl (.tup (.cons (.rf rfl) (Ygc ⟨_,hs⟩))) ⟨_,by simp [Xac],rfl,fun _=>⟨_,hs,rfl⟩⟩
    · refine Ce rfl (Xry hT.1 hT.2 (by omega) (by omega) hr hi) ?_
      refine No rfl (by decide) ?_
      refine Ce rfl (Xc7 hT.1 hx hiz (by omega) (by omega) hr) ?_
      refine Ca rfl (ih hT.1 (hx.mul hT.1 hiz) hR.1 (by omega) (by omega) hr) fun v hv=>?_
      obtain ⟨w,hwl,rfl,hw⟩:=hv
      refine Ce rfl (Xav (z:=0) (by decide)) ?_
      refine Ce rfl (Xid hT.1 (by omega) hr) ?_
      refine Ce rfl (Xqd (a:=(toL k (zero k)).map dq) (b:=w) (by simp [hlen];omega) (by simp [hlen];omega)) ?_
      have hiff : Xeb k t.1 (mul k t.1 a.1 i)↔Xeb (k+1) t a:=⟨fun ⟨x,hx1⟩=>⟨_,(Xy3 him hx1).trans ea.symm⟩,fun e=>W1f fun h2=>Xr2 hR.1 him h1 h2 (ea ▸ e)⟩
      refine Rt rfl (.tup (.cons (.rf rfl) (Yk9 (Xqb hiff)))) ⟨_,by simp [hlen];omega,rfl,fun e=>?_⟩
      obtain ⟨x,hx1,hx2⟩:=hw (hiff.2 e)
      injection hx2 with _ hx2
      subst hx2
      exact ⟨(zero k,x),(Xy3 him hx1).trans ea.symm,by rw [←W3o];rfl⟩
  have ev : a.2≠zero k:=fun e=>hv ((Xbi k a.2).1 e)
  refine Ce rfl (Xwa hT ha hk (by omega) hr) ?_
  refine Ca rfl (ih hT.1 hz hR.1 (by omega) (by omega) hr) fun v hv=>?_
  obtain ⟨w,hwl,rfl,hw⟩:=hv
  refine By rfl (fun h1=>?_) fun h1=>?_
  · have no : ¬ Xeb (k+1) t a:=fun e=>by
     exact h1 (Ya4 e)
    exact Rt rfl (.tup (.cons (.nil (sz:=4) rfl) (Xxl no))) ⟨[],W0y _,rfl,fun e=>absurd e no⟩
  obtain ⟨m,hm,hm2⟩:=hw (W4c.1 h1)
  injection hm2 with _ hm2
  subst hm2
  have hm : mul k t.1 m m=Tow.norm k t a:=hm
  have hmz:=hz.rootS hT.1 hR.1 hm
  refine Ce rfl (Xgo hT.1 hx hmz (by omega) (by omega) hr) ?_
  refine Ce rfl (Xjc hT.1 hx hmz (by omega) (by omega) hr) ?_
  refine Lo (fun (x : Nat)=>[(4,.nil),(5,.b false),(8,.d (dt t.1)),(11,.d (de a.2)),(117,.lit 1 [de (Tow.add k a.1 m),de (Tow.add k a.1 (Tow.neg k m))]),(118,.d (.int .i64 2)),(119,.d (.int .i64 x))]) (fun _=>[]) (fun x=>x=0∨(x=1∧¬ Xeb k t.1 (mul k t.1 (rat k (1 / 2)) (Tow.add k a.1 m)))∨(x=2∧¬ Xeb k t.1 (mul k t.1 (rat k (1 / 2)) (Tow.add k a.1 m))∧¬ Xeb k t.1 (mul k t.1 (rat k (1 / 2)) (Tow.add k a.1 (Tow.neg k m))))) (fun x=>2 - x) 0 [] rfl (.inl rfl) (fun x hI=>?_)
  have step : ∀ (mm : Tow.El k),mul k t.1 mm mm=Tow.norm k t a→Sz (nS r k p+gC r k) (toL k mm)→Sz (3+(p+(nS r k p+gC r k)+1)+cB r k) (toL k (mul k t.1 (Tow.add k a.1 mm) (rat k (1 / 2))))∧mul k t.1 (Tow.add k a.1 mm) (rat k (1 / 2))=mul k t.1 (rat k (1 / 2)) (Tow.add k a.1 mm):=fun mm _ hs=>⟨by
   rw [L.mc];exact Sz.half.mul hT.1 (by rw [Xa2];exact hx.add hs),L.mc _ _⟩
  have q5 : qB r k (3+(p+(nS r k p+gC r k)+1)+cB r k)≤qB r k (sX r k p):=Xfk (by omega)
  refine By rfl (fun h2=>?_) fun h2=>?_
  · obtain ⟨mm,e1,e2,e3,next⟩ : ∃ mm,[de (Tow.add k a.1 m),de (Tow.add k a.1 (Tow.neg k m))][x]?=some (de (Tow.add k a.1 mm))∧mul k t.1 mm mm=Tow.norm k t a∧Sz (nS r k p+gC r k) (toL k mm)∧(¬ Xeb k t.1 (mul k t.1 (rat k (1 / 2)) (Tow.add k a.1 mm))→(x+1=0∨(x+1=1∧¬ Xeb k t.1 (mul k t.1 (rat k (1 / 2)) (Tow.add k a.1 m)))∨(x+1=2∧¬ Xeb k t.1 (mul k t.1 (rat k (1 / 2)) (Tow.add k a.1 m))∧¬ Xeb k t.1 (mul k t.1 (rat k (1 / 2)) (Tow.add k a.1 (Tow.neg k m)))))):=by
     rcases hI with rfl | ⟨rfl,g1⟩ | ⟨rfl,g1,g2⟩
     · exact ⟨m,rfl,hm,hmz,fun h=>.inr (.inl ⟨rfl,h⟩)⟩
     · exact ⟨Tow.neg k m,rfl,by rw [L.mn,L.nm,L.nn,hm],Xpl hmz,fun h=>.inr (.inr ⟨rfl,g1,h⟩)⟩
     · omega
    refine Ix x rfl e1 ?_
    obtain ⟨s1,s2⟩:=step mm e2 e3
    refine Ce rfl (Xna hT.1 (a:=Tow.add k a.1 mm) (p:=p+(nS r k p+gC r k)+1) (by rw [Xa2];exact hx.add e3) (by omega) (by omega) hr) ?_
    refine Ca rfl (ih hT.1 s1 hR.1 (by omega) (by omega) hr) fun v hv=>?_
    obtain ⟨w,hwl,rfl,hw⟩:=hv
    refine By rfl (fun h3=>?_) fun h3=>?_
    · have h3 : ¬ Xeb k t.1 (mul k t.1 (Tow.add k a.1 mm) (rat k (1 / 2))):=by simpa only [Xb6,Xaw] using h3
      rw [s2] at h3
      refine Ar (x+1 : Nat) rfl ?_
      exact Bk (x+1) [] rfl (next h3) (by omega)
    · have h3 : Xeb k t.1 (mul k t.1 (Tow.add k a.1 mm) (rat k (1 / 2))):=by simpa [Xb6,Xaw] using h3
      obtain ⟨w,hw1,hw2⟩:=hw h3
      injection hw2 with _ hw2
      subst hw2
      rw [s2] at hw1
      have hw0:=Yip hR ev e2 hw1
      have hwz : Sz (3+(p+(nS r k p+gC r k)+1)+cB r k+gC r k) (toL k w):=(s2 ▸ s1).rootS hT.1 hR.1 hw1
      have hw2 : Tow.add k w w≠zero k:=fun e=>hw0 (by
       have e3 : mul k t.1 (rat k (1 / 2)) (Tow.add k w w)=w:=by rw [L.md,←L.dm,Xf8,L.om]
       rw [←e3,e,L.mz])
      obtain ⟨j,hj⟩:=(Xgx hR.1).2 _ hw2
      have hdz : Sz (sX r k p+gC r k) (toL k (Tow.add k w w)):=by rw [Xa2];exact hwz.dbl.mono (by omega)
      have hjz:=Sz.invS hT.1 hdz hj
      have hs:=Yir e2 hw1 (Xhd hj)
      refine Ce rfl (Xdy (l:=toL k w) hwz.ps (by omega) (by rw [hlen];omega)) ?_
      refine No rfl (fun e=>hw0 ((Xbi k w).2 e)) ?_
      refine Ce rfl (Xgo hT.1 hwz hwz (by omega) (by omega) hr) ?_
      refine Ce rfl (Xry hT.1 hdz (by omega) (by omega) hr hj) ?_
      refine Ce rfl (Xc7 hT.1 hy hjz (by omega) (by omega) hr) ?_
      refine Ce rfl (Xlu (by omega)) ?_
      exact Rt rfl (.tup (.cons (.rf rfl) (Ygc ⟨_,hs⟩))) ⟨_,by simp [Xac],rfl,fun _=>⟨_,hs,rfl⟩⟩
  · have no : ¬ Xeb (k+1) t a:=fun e=>by
     rcases hI with rfl | ⟨rfl,g1⟩ | ⟨rfl,g1,g2⟩
     · omega
     · omega
     · obtain ⟨w,_,h6 | h6⟩:=Xwf hR.1 ev hm e
       · exact g1 ⟨w,h6⟩
       · exact g2 ⟨w,h6⟩
    exact Rt rfl (.tup (.cons (.nil (sz:=4) rfl) (Xxl no))) ⟨[],W0y _,rfl,fun e=>absurd e no⟩
theorem Xmv {k r p : Nat} {t : Tw k} {a : Tow.El k} (hT : TS r k t) (ha : Sz p (toL k a)) (hR : red k t) (hk : k≤16) (hq : qB r k p≤4398046511104) (hv : vB r k (p+gC r k)≤4398046511104) (hr : vB r k r≤4398046511104) :
 C0 233 [.d (dt t),.d (de a)] fun v=>∃ w : D,v=.tup (.pr (.d w) (.b (dc (Xeb k t a))))∧(Xeb k t a→∃ x,mul k t x x=a∧0≤sgn k t x∧w=de x):=by
 have L:=Xbf k t
 have S:=Xa3 (Xap hR)
 have:=Xgh (r:=r) k (p+gC r k)
 have hr2:=Xgh (r:=r) k r
 refine En Tryz.func233 fun _ _ _=>?_
 refine Ca rfl (Xkp hT ha hR hk hq (by omega)) fun v hv=>?_
 obtain ⟨w,_,rfl,hw⟩:=hv
 refine By rfl (fun h=>?_) fun h=>?_
 · exact Rt rfl (.tup (.cons (.nil (sz:=4) rfl) (Xxl h))) ⟨_,rfl,fun e=>absurd e h⟩
 have h:=W4c.1 h
 obtain ⟨x,hx,hx2⟩:=hw h
 injection hx2 with _ hx2
 subst hx2
 have hz:=ha.rootS hT hR hx
 refine Ce rfl (Xkh hT hz (Xap hR) hk hv hr (by omega)) ?_
 refine By rfl (fun h1=>?_) fun h1=>?_
 · refine Ce rfl (Xrx hT hz hk (by omega) (by omega)) ?_
   exact Rt rfl (.tup (.cons (.rf rfl) (Ygc h))) ⟨_,rfl,fun _=>⟨Tow.neg k x,by rw [L.mn,L.nm,L.nn,hx],by rw [S.sn];omega,rfl⟩⟩
 · exact Rt rfl (.tup (.cons (.rf rfl) (Ygc h))) ⟨_,rfl,fun _=>⟨x,hx,by omega,rfl⟩⟩
theorem Xrc {k r : Nat} {t : Tw k} (hT : TS r k t) (hR : red k t) (hk : k≤16) (hq : qB r k r≤4398046511104) (hv : vB r k r≤4398046511104) : C0 231 [.d (dt t)] (·=.b true):=by
 have:=Xgh (r:=r) k r
 refine En Tryz.func231 fun _ _ _=>?_
 refine Lo (fun i : Nat=>[(0,.d (dt t)),(2,.b false),(7,.d (dt t)),(8,.d (.int .i64 ((toT k t).map dqs).length)),(9,.d (.int .i64 i))]) (fun _=>[]) (fun i=>i≤k) (fun i=>k - i) 0 [] rfl (by omega) (fun i hi=>?_)
 refine By rfl (fun h=>?_) fun h=>?_ <;> simp only [lt',Xaa] at h
 · obtain ⟨w,x,h1,h2,h3,h4,h5⟩:=Tw.take (t:=t) (i:=i) (by omega)
   have hx:=h3 r hT
   obtain ⟨h6,h7,h8⟩:=h5 hR
   have q1:=Ybk (r:=r) (p:=r) (show i≤k by omega)
   have v1:=Xqn (r:=r) (s:=r) (show i≤k by omega)
   refine Ix i rfl (mp h2) ?_
   refine Tk i ((toT i w).map dqs) rfl rfl (by rw [lt',Xaa];omega) (by rw [←W3q,h1]) ?_
   refine Ce rfl (Xbq hx.1 hx.2 (by omega) (by omega) (by omega)) ?_
   refine No rfl (by simp) ?_
   refine Tk i ((toT i w).map dqs) rfl rfl (by rw [lt',Xaa];omega) (by rw [←W3q,h1]) ?_
   refine Ce rfl (Xkh hx.1 hx.2 (Xap h6) (by omega) (by omega) (by omega) (by omega)) ?_
   refine No rfl (fun e=>e (by rcases Xef w x with h | h | h <;> omega)) ?_
   refine Tk i ((toT i w).map dqs) rfl rfl (by rw [lt',Xaa];omega) (by rw [←W3q,h1]) ?_
   refine Ca rfl (Xkp hx.1 hx.2 h6 (by omega) (by omega) (by omega)) fun v hv=>?_
   obtain ⟨d,_,rfl,hd⟩:=hv
   refine No rfl h8 ?_
   refine Ar (i+1 : Nat) rfl ?_
   exact Bk (i+1) [] rfl (show i+1≤k by omega) (by show k - (i+1)<k - i;omega)
 · exact R0
theorem Xqe {l : List (List Rat)} (hl : l.length≤1048576) (h : ∀ x∈l,0<x.length∧x.length≤1048576) : CA0 234 [.d (dts l)] 1 (l.map dqs):=by
 have hll : (l.map dqs).length=l.length:=by simp
 refine EnW Tryz.func234 fun _ _ _ _=>?_
 refine Mk l.length rfl (by omega) ?_ (by simp [hll])
 refine Lo (fun i : Nat=>[(0,.d (dts l)),(2,.nil),(3,.own 8 1 0 l.length),(9,.d (dts l)),(10,.d (.int .i64 (l.map dqs).length)),(11,.d (.int .i64 i))]) (fun i=>[(8,.arr 1 (fl (l.map dqs) (.sl 4 []) i))]) (fun i=>i≤l.length) (fun i=>l.length - i) 0 [] rfl (by omega) (fun i hi=>?_) (by exact ⟨rfl,by rw [←Xhk hll];rfl,rfl,rfl,rfl⟩)
 refine By rfl (fun g=>?_) fun g=>?_ <;> simp only [lt'] at g
 · have hu : l[i]?=some l[i]:=W0c (by omega)
   have hm:=h _ (W6f (l:=l) (n:=i) (by omega))
   refine Ix i rfl (mp hu) ?_
   refine Ce rfl (Xix hm.1 hm.2) ?_
   refine Eo i rfl (by omega) ?_
   refine Sto rfl (by rw [Xiq (by omega)];omega) (Xlj (u:=dqs l[i]) (by rw [W0w,hu];rfl)) ?_
   refine Ar (i+1 : Nat) rfl ?_
   exact Bk (i+1) [] rfl (show i+1≤l.length by omega) (by show l.length - (i+1)<l.length - i;omega)
 · exact Rw [(8,1000000)] [(1000000,.arr 1 (l.map dqs))] rfl (.one (.rf rfl) rfl rfl) ⟨_,rfl,by rw [hll];rfl,rfl⟩ (by rw [Xlk (by omega)];rfl)
theorem Adjoin_ok {k r p : Nat} {t : Tw k} {a : Tow.El k} (hT : TS r k t) (ha : Sz p (toL k a)) (hR : red k t) (hk : k<8) (hq : qB r k p≤4398046511104) (hq2 : qB r k r≤4398046511104) (hv : vB r k (p+gC r k)≤4398046511104) (hr : vB r k r≤4398046511104) :
 C0 159 [.d (dt t),.d (de a)] (R8.AdjR k t a):=by
 have h0:=Xgh (r:=r) k r
 have h1:=Xgh (r:=r) k (p+gC r k)
 have h2:=Xdi (r:=r) (k:=k) (show p≤p+gC r k by omega)
 have hlen:=Xaa k t
 have e2 : (((toT k t).map dqs).length : Int)=k:=by simp [hlen]
 have hle : ∀ x∈toT k t,0<x.length∧x.length≤1048576:=fun x hx=>by
  obtain ⟨i,hi,e⟩:=List.mem_iff_getElem.1 hx
  have:=(Xi9 hT (i:=i) (l:=x) (by rw [W0c hi,e])).1
  rw [hlen] at hi
  have h3:=W0m (n:=2) (by decide) (show i≤8 by omega)
  have:=W0x i
  omega
 refine En Tryz.func159 fun _ _ _=>?_
 refine Ce rfl (Xbq hT ha (by omega) (by omega) (by omega)) ?_
 refine No rfl (by simp) ?_
 refine Ce rfl (Xrc hT hR (by omega) hq2 hr) ?_
 refine No rfl (by simp) ?_
 refine Ce rfl (Xkh hT ha (Xap hR) (by omega) (by omega) hr (by omega)) ?_
 refine By rfl (fun h=>?_) fun h=>?_
 · exact Rt rfl (.tup (.cons (.nil rfl) (.cons (.nil rfl) Xb3))) (.inl ⟨h,rfl⟩)
 refine Ca rfl (Xmv hT ha hR (by omega) hq hv hr) fun v hv=>?_
 obtain ⟨w,rfl,hw⟩:=hv
 refine By rfl (fun h1=>?_) fun h1=>?_
 · obtain ⟨x,x1,x2,rfl⟩:=hw h1
   refine Ce rfl (Xqe (by omega) hle).data ?_
   exact Rt rfl (.tup (.cons (.rf rfl) (.cons (.rf rfl) Xb3))) (.inr (.inl ⟨x,x1,x2,rfl⟩))
 refine No rfl (by simp only [lt',hlen];omega) ?_
 refine Cr rfl (Xqe (by omega) hle) ?_
 refine Ce rfl (Xix (by rw [Xac];exact W0x k) (by rw [Xac];have:=W0m (n:=2) (by decide) (show k≤8 by omega);omega)) ?_
 refine ApO ((toT k t++[toL k a]).map dqs) rfl rfl rfl (by simp) (by simp [hlen];omega) ?_
 refine Fz 11 9 ((toT k t++[toL k a]).map dqs) rfl (by simp) (by rw [W0z];exact W0b (by simp)) ?_
 have hrt:=Xv9 (r:=max r p) (t:=tsn t a) (i:=k) ?_ (by omega) (by omega) (by omega)
 rw [←e2] at hrt
 refine Ce rfl hrt ?_
 exact Rt rfl (.tup (.cons (.rf rfl) (.cons (.rf rfl) Xb3))) (.inr (.inr ⟨by omega,h1,hk,rfl⟩))
 exact ⟨hT.mono (by omega),ha.mono (by omega)⟩
end Go.Proofs.YtdlhdemfnfpboaaGreatDoor.P8
namespace Go.Proofs.YtdlhdemfnfpboaaGreatDoor.P9
open Go Go.Vm Go.Num Go.Tow Go.Proofs.YtdlhdemfnfpboaaGreatDoor
section
theorem Xiw {x : Rat} {p : Nat} (hx : Qs p x) (hp : p≤4398046511104) : C0 172 [.d (dq x)] (·=.d (dq x)):=by
 have h1:=hx.n.len2 hp
 have h2:=hx.d.len2 hp
 refine En Tryz.func172 fun _ _ _=>?_
 refine Dw rfl ?_
 refine Ce rfl (Xbd (l:=dig x.num.natAbs) (by omega)) ?_
 refine Ce rfl (Xbd (l:=dig (x.den : Int).natAbs) (by omega)) ?_
 exact R0
theorem Xhs {l : List Rat} {p : Nat} (hl : Ps p l) (hp : p≤4398046511104) (hn : l.length≤1048576) : C0 118 [.d (dqs l)] (·=.d (dqs l)):=by
 have hll : (l.map dq).length=l.length:=by simp
 refine En Tryz.func118 fun _ _ _=>?_
 refine Mk l.length rfl (by omega) ?_ (by simp [hll])
 refine Lo (fun i : Nat=>[(0,.d (dqs l)),(2,.nil),(3,.own 8 4 0 l.length),(9,.d (dqs l)),(10,.d (.int .i64 (l.map dq).length)),(11,.d (.int .i64 i))]) (fun i=>[(8,.arr 4 (fl (l.map dq) rz i))]) (fun i=>i≤l.length) (fun i=>l.length - i) 0 [] rfl (by omega) (fun i hi=>?_) (by exact ⟨rfl,by rw [←Xhk hll];rfl,rfl,rfl,rfl⟩)
 refine By rfl (fun g=>?_) fun g=>?_ <;> simp only [lq] at g
 · obtain ⟨u,hu⟩:=qat (l:=l) (k:=i) (by omega)
   refine Ix i rfl (mp hu) ?_
   refine Ce rfl (Xiw (hl u (W1b hu)) hp) ?_
   refine Eo i rfl (by omega) ?_
   refine Sto rfl (by rw [Xiq (by omega)];omega) (Xlj (u:=dq u) (by rw [W0w,hu];rfl)) ?_
   refine Ar (i+1 : Nat) rfl ?_
   exact Bk (i+1) [] rfl (show i+1≤l.length by omega) (by show l.length - (i+1)<l.length - i;omega)
 · refine R1 rfl (.own rfl (by rw [Xiq (by omega)];simp) ?_)
   rw [Xlk (by omega),W0z]
   exact W0b (by simp)
theorem Xwl {x y : Rat} {p q : Nat} (hx : Qs p x) (hy : Qs q y) (hp : p+q≤8796093022208) : C0 225 [.d (dq x),.d (dq y)] (·=.b (dc (x=y))):=by
 refine En Tryz.func225 fun _ _ _=>?_
 refine Ce rfl (Xgz hx hy hp) ?_
 exact R1 rfl (.bp (Xaw.trans ⟨fun h=>W1f fun e=>R9.cmpQ_ne.2 e h,fun e=>W1f fun h=>R9.cmpQ_ne.1 h e⟩))
theorem Xxs {l m : List Rat} {p q : Nat} (hl : Ps p l) (hm : Ps q m) (hp : p+q≤8796093022208) (hn : l.length≤1048576) : C0 224 [.d (dqs l),.d (dqs m),.d (.raw (.func (.func 225) #[] #[]))] (·=.b (dc (l=m))):=by
 refine En Tryz.func224 fun _ _ _=>?_
 refine By rfl (fun h=>?_) fun h=>?_ <;> simp only [lq] at h
 · exact R1 rfl (.bp ⟨nofun,fun e=>absurd (by rw [e]) h⟩)
 have h : l.length=m.length:=by omega
 refine Lo (fun k : Nat=>[(0,.d (dqs l)),(1,.d (dqs m)),(2,.d (.raw (.func (.func 225) #[] #[]))),(15,.d (dqs l)),(16,.d (.int .i64 (l.map dq).length)),(17,.d (.int .i64 k))]) (fun _=>[]) (fun k=>k≤l.length∧l.take k=m.take k) (fun k=>l.length - k) 0 [] rfl ⟨by omega,rfl⟩ fun k ⟨hk,ht⟩=>?_
 refine By rfl (fun h2=>?_) fun h2=>?_ <;> simp only [lq] at h2
 · obtain ⟨x,hx⟩:=qat (l:=l) (k:=k) (by omega)
   obtain ⟨y,hy⟩:=qat (l:=m) (k:=k) (by omega)
   refine Ix k rfl (mp hx) ?_
   refine Ix k rfl (mp hy) ?_
   refine Ce rfl (Xwl (hl x (W1b hx)) (hm y (W1b hy)) hp) ?_
   refine By rfl (fun h3=>?_) fun h3=>?_
   · have h3 : ¬ x=y:=by simpa [Xb6,Xaw] using h3
     exact R1 rfl (.bp ⟨nofun,fun e=>by subst e;rw [hx] at hy;injection hy with hy;exact absurd hy h3⟩)
   · have e : x=y:=by simpa [Xb6,Xaw] using h3
     refine Ar (k+1 : Nat) rfl ?_
     exact Bk (k+1) [] rfl ⟨by omega,by rw [W1j,W1j,hx,hy,ht,e]⟩ (by show l.length - (k+1)<l.length - k;omega)
 · rw [W0b (by omega),W0b (by omega)] at ht
   exact R1 rfl (.bp ⟨fun _=>ht,fun _=>rfl⟩)
theorem sameElement_ok {l m : List Rat} {p q : Nat} (hl : Ps p l) (hm : Ps q m) (hp : p+q≤8796093022208) (hn : l.length≤1048576) : C0 153 [.d (dqs l),.d (dqs m)] (·=.b (dc (l=m))):=by
 refine En Tryz.func153 fun _ _ _=>?_
 refine Ce rfl (Xxs hl hm hp hn) ?_
 exact R0
theorem Xxr {T U : List (List Rat)} {p q : Nat} (hT : Pt p T) (hU : Pt q U) (hp : p+q≤8796093022208) (hl : T.length≤16) : C0 223 [.d (dts T),.d (dts U),.d (.raw (.func (.func 153) #[] #[]))] (·=.b (dc (T=U))):=by
 refine En Tryz.func223 fun _ _ _=>?_
 refine By rfl (fun h=>?_) fun h=>?_ <;> simp only [lt'] at h
 · exact R1 rfl (.bp ⟨nofun,fun e=>absurd (by rw [e]) h⟩)
 have h : T.length=U.length:=by omega
 refine Lo (fun k : Nat=>[(0,.d (dts T)),(1,.d (dts U)),(2,.d (.raw (.func (.func 153) #[] #[]))),(15,.d (dts T)),(16,.d (.int .i64 (T.map dqs).length)),(17,.d (.int .i64 k))]) (fun _=>[]) (fun k=>k≤T.length∧T.take k=U.take k) (fun k=>T.length - k) 0 [] rfl ⟨by omega,rfl⟩ fun k ⟨hk,ht⟩=>?_
 refine By rfl (fun h2=>?_) fun h2=>?_ <;> simp only [lt'] at h2
 · obtain ⟨x,hx⟩ : ∃ x,T[k]?=some x:=⟨_,W0c (by omega)⟩
   obtain ⟨y,hy⟩ : ∃ y,U[k]?=some y:=⟨_,W0c (by omega)⟩
   obtain ⟨x1,x2⟩:=hT k x hx
   obtain ⟨y1,y2⟩:=hU k y hy
   have:=p16 (show k≤16 by omega)
   refine Ix k rfl (mp hx) ?_
   refine Ix k rfl (mp hy) ?_
   refine Ce rfl (sameElement_ok x2 y2 hp (by omega)) ?_
   refine By rfl (fun h3=>?_) fun h3=>?_
   · have h3 : ¬ x=y:=by simpa [Xb6,Xaw] using h3
     exact R1 rfl (.bp ⟨nofun,fun e=>by subst e;rw [hx] at hy;injection hy with hy;exact absurd hy h3⟩)
   · have e : x=y:=by simpa [Xb6,Xaw] using h3
     refine Ar (k+1 : Nat) rfl ?_
     exact Bk (k+1) [] rfl ⟨by omega,by rw [W1j,W1j,hx,hy,ht,e]⟩ (by show T.length - (k+1)<T.length - k;omega)
 · rw [W0b (by omega),W0b (by omega)] at ht
   exact R1 rfl (.bp ⟨fun _=>ht,fun _=>rfl⟩)
theorem begins_ok {T U : List (List Rat)} {p q : Nat} (hT : Pt p T) (hU : Pt q U) (hp : p+q≤8796093022208) (hl : T.length≤16) : C0 152 [.d (dts T),.d (dts U)] (·=.b (dc (T.take U.length=U))):=by
 refine En Tryz.func152 fun _ _ _=>?_
 refine By rfl (fun h=>?_) fun h=>?_ <;> simp only [lt'] at h
 · have hq : Pt p (T.take U.length):=fun i r hi=>by
    rw [W1l] at hi
    split at hi
    · exact hT i r hi
    · cases hi
   refine Tk U.length ((T.take U.length).map dqs) rfl rfl (by simp only [lt'];omega) (by rw [W3q]) ?_ (by simp only [lt'])
   refine Ce rfl (Xxr hq hU hp (by rw [W0i];omega)) ?_
   exact R0
 · exact R1 rfl (.bp ⟨nofun,fun e=>absurd (congrArg List.length e) (by rw [W0i];omega)⟩)
theorem Ye4 {T : List (List Rat)} {l : List Rat} (h0 : 0<l.length) (hT : T.length≤16) (hl : l.length≤2 ^ T.length) : C0 158 [.d (dts T),.d (dqs l)] (·=.d (dqs (l++List.replicate (2 ^ T.length - l.length) 0))):=by
 have hp:=p16 hT
 obtain ⟨n,hn⟩ : ∃ n,n=2 ^ T.length:=⟨_,rfl⟩
 rw [←hn] at hp hl ⊢
 refine En Tryz.func158 fun _ _ _=>?_
 refine Cr rfl (Xhu h0 (by omega)) ?_
 refine Lo (fun k : Nat=>[(0,.d (dts T)),(5,.own 7 4 0 ((l++List.replicate k 0).map dq).length)]) (fun k=>[(7,.arr 4 ((l++List.replicate k 0).map dq))]) (fun k=>l.length+k≤n) (fun k=>n - k) 0 [] rfl (by omega) (fun k hk=>?_) (by exact ⟨by simp;rfl,by simp;rfl,rfl,rfl,rfl⟩)
 refine Ar n rfl ?_ (by rw [hn];simp only [lt'];exact Xdk (by omega))
 refine By rfl (fun h=>?_) fun h=>?_ <;> simp only [lq,W0d,W2o] at h
 · refine Ce rfl (Xav (z:=0) (by decide)) ?_
   refine ApO ((l++List.replicate (k+1) 0).map dq) rfl rfl rfl (by rw [List.replicate_succ'];simp) (by simp;omega) ?_
   exact Bk (k+1) [(7,90),(17,7)] rfl (show l.length+(k+1)≤n by omega) (by show n - (k+1)<n - k;omega)
 · refine R1 rfl (.own rfl (by omega) ?_)
   rw [W0z,show n - l.length=k by omega]
   exact W0b (by simp)
theorem Xo8 {k m : Nat} {s : Tow.El k} {b : Tow.El m} {T : Tw m} (h : Lf s b) (hk : k≤m) (hm : m≤16) : C0 158 [.d (dt T),.d (de s)] (·=.d (de b)):=by
 have:=Ye4 (T:=toT m T) (l:=toL k s) (by rw [Xac];exact W0x k) (by rw [Xaa];omega) (by rw [Xac,Xaa];exact W0m (by decide) hk)
 rw [Xaa,Xac,←h] at this
 exact this
abbrev dE (T rs : List (List Rat)) : D:=.st (.pr (dts T) (dts rs))
theorem Xpu {k R z : Nat} {T : Tw k} {rs : List (List Rat)} {σ : Nat→Tow.El k} (hT : TS R k T) (hk : k≤16) (hR : R≤4398046511104) : ∀ {j p : Nat} {a : Tow.El j},R9.Rts k z j rs σ→Sz p (toL j a)→j≤16→imB (cB R k) z j p≤4398046511104 →
 C0 229 [.d (dE (toT k T) rs),.d (de a)] (·=.d (de (ev T σ j a))):=by
 intro j
 induction j with
 | zero =>
  intro p a _ ha hj hb
  have hb : p+1≤4398046511104:=hb
  have key : ∀ y : Rat,Qs p y→C0 229 [.d (dE (toT k T) rs),.d (dqs [y])] (·=.d (de (rat k y))):=fun y hy=>by
   refine En Tryz.func229 fun _ _ _=>?_
   refine Yes rfl rfl ?_
   refine Dw rfl ?_
   refine Ix 0 rfl (u:=dq y) rfl ?_
   refine Ce rfl (Xcb hT hk hR hy (by omega)) ?_
   exact R0
  exact key a (ha.qs (W0g.2 rfl))
 | succ j ih =>
  intro p a hr ha hj hb
  have hb' : 2*imB (cB R k) z j p+z+cB R k+1≤4398046511104:=hb
  have hr' : R9.Rts k z j rs σ:=fun i hi=>hr i (by omega)
  have hpj:=p16 (show j≤16 by omega)
  have hp0:=W0x j
  have hpp:=Xz4 (c:=cB R k) (z:=z) (p:=p) (j:=j)
  have hs : ∀ i,i<j→Sz z (toL k (σ i)):=fun i hi=>(hr' i hi).elim fun _ h=>h.elim fun _ h=>h.2.2.2
  have h1:=Xne hT (a:=a.1) hs (Sz.left ha)
  have h2:=Xne hT (a:=a.2) hs (Sz.right ha)
  obtain ⟨m,s,m1,m2,m3,m4⟩:=hr j (by omega)
  refine En Tryz.func229 fun _ _ _=>?_
  refine No rfl (by show ¬ ((((toL j a.1++toL j a.2).map dq).length : Nat) : Int)=1;rw [hvL];omega) ?_
  refine Ar (2 ^ j : Nat) rfl ?_ (hvq a (by omega))
  refine Lo (fun i : Nat=>[(1,.d (de a)),(2,.ptr 2 0),(4,.nil),(5,.d (.int .i64 (2 ^ j : Nat))),(6,.d (.int .i64 i))]) (fun _=>[(2,.var (.d (dE (toT k T) rs)))]) (fun i=>i≤j) (fun i=>j - i) 0 [] rfl (by omega) fun i hi=>?_
  refine Ar (i+1 : Nat) rfl ?_
  refine Ar (2 ^ (i+1) : Nat) rfl ?_ (Xdk (by omega))
  refine By rfl (fun h=>?_) fun h=>?_
  · have h : ((2 ^ (i+1) : Nat) : Int)<(((toL j a.1++toL j a.2).map dq).length : Nat):=h
    rw [hvL,←Nat.pow_succ'] at h
    have h : i+1<j+1:=(W2x (by decide : 1<2)).1 (by omega)
    refine Ar (i+1 : Nat) rfl ?_
    exact Bk (i+1) [] rfl (show i+1≤j by omega) (by show j - (i+1)<j - i;omega)
  · have h : ¬ ((2 ^ (i+1) : Nat) : Int)<(((toL j a.1++toL j a.2).map dq).length : Nat):=h
    rw [hvL,←Nat.pow_succ'] at h
    have h : ¬ i+1<j+1:=fun e=>h (by have:=(W2x (by decide : 1<2)).2 e;omega)
    obtain rfl : i=j:=by omega
    refine Dw rfl ?_
    refine Tk (2 ^ i) ((toL i a.1).map dq) rfl rfl (Xh7 a) (hvT a) ?_
    refine Ce rfl (ih hr' (Sz.left ha) (by omega) (by omega)) ?_
    refine Dp (2 ^ i) ((toL i a.2).map dq) rfl rfl (Xh7 a) (hvD a) ?_
    refine Ce rfl (Xdy (l:=toL i a.2) (Sz.right ha).ps (by omega) (by rw [Xac];omega)) ?_
    refine By rfl (fun hv=>?_) fun hv=>?_
    · have hv : a.2=zero i:=(Xbi i a.2).2 hv
      have e : ev T σ i a.1=ev T σ (i+1) a:=by
       have L:=Xbf k T
       show _=Tow.add k (ev T σ i a.1) (mul k T (ev T σ i a.2) (σ i))
       rw [hv,Xhl,L.mc,L.mz,L.az]
      exact R1 rfl (.eq (congrArg de e))
    · refine Dw rfl ?_
      refine Dp (2 ^ i) ((toL i a.2).map dq) rfl rfl (Xh7 a) (hvD a) ?_
      refine Ce rfl (ih hr' (Sz.right ha) (by omega) (by omega)) ?_
      refine Ix i rfl (mp m2) ?_
      refine Ce rfl (Xo8 (T:=T) m3 m1 hk) ?_
      refine Ce rfl (Xc7 hT h2 m4 hk (by omega) hR) ?_
      refine Ce rfl (Xgo hT h1 (h2.mul hT m4) hk (by omega) hR) ?_
      exact R0
section
variable {K : Nat} {G : Tw K} {S : List (Tow.El K)} {k l : Nat} {t : Tw k} {u : Tw l} {ρ ρu : Nat→Tow.El K}
theorem Xlo (W : Wy G S wR) (ht : TOk G S k t ρ) (hu : TOk G S l u ρu) : C0 228 [.d (dt t),.d (dt u)] (R9.ExQ G S l k t ρ ρu fun T rs=>.tup (.pr (.d (.st (.pr T rs))) (.d (.int .i64 0)))):=by
 have hl3 : l≤3:=W.le hu
 refine En Tryz.func228 fun _ _ _=>?_
 refine Nv 6 7 1 rfl ?_
 refine Lo (fun (x : Nat × (Σ m,Tw m) × List (List Rat))=>[(4,.ptr 4 0),(5,.d (.int .i64 0)),(6,.ptr 6 0),(14,.d (dt u)),(15,.d (.int .i64 ((toT l u).map dqs).length)),(16,.d (.int .i64 x.1))]) (fun x=>[(4,.var (.st (.pr .nil .nil))),(6,.var (.st (.pr (.d (dt x.2.1.2)) (.gr 7 1 (x.2.2.map dqs))))),(7,.tok (x.2.2.map dqs).length 1)])
  (R9.ExI G S l k t ρ ρu) (fun x=>l - x.1) (0,⟨k,t⟩,[]) [] rfl ⟨W0y _,rfl,ρ,ht,Beg.rf,fun _ _=>rfl,fun i hi=>by omega,fun _=>rfl⟩ (fun (i,⟨m,T⟩,rs) hI=>?_)
 have hI':=hI
 obtain ⟨hi,hrl,ρ',hT,hB,ha,hrt,hc⟩:=hI
 simp only at hi hrl hT hB ha hrt hc
 have hm3 : m≤3:=W.le hT
 have hz:=W.t hT
 refine By rfl (fun h=>?_) fun h=>?_ <;> simp only [lt',Xaa] at h
 · have hil : i<l:=by omega
   obtain ⟨x,σ,x1,x2,s1,s2,hev,x4,hsz⟩:=R9.ExI.rad W hu hil hT hrt
   obtain ⟨q1,q2,q3,q4⟩:=R9.exB hm3
   have hE:=Ydz hm3 (show i≤2 by omega)
   have hR:=Xkm
   have hE':=Yie
   have hlen : (rs.map dqs).length≤3:=by rw [W0h];omega
   refine Ix i rfl (mp x1) ?_
   refine Dw rfl ?_
   refine Ce rfl (Xpu (k:=m) (T:=T) hz (by omega) (by omega) s1 x2 (by omega) (by omega)) ?_
   refine Ca rfl (P8.Adjoin_ok (k:=m) (t:=T) hz hsz hT.r (by omega) q1 q2 q3 q4) fun v hv=>?_
   rcases hv with ⟨h1,rfl⟩ | ⟨y,h1,h2,rfl⟩ | ⟨h1,h2,h3,rfl⟩
   · have:=Xfv (Xap W.g) hT.h (a:=ev T σ i x)
     rw [hev,(Xa3 (Xap W.g)).sm,x4] at this
     omega
   · refine No rfl (by simp) ?_
     refine ApG ((rs++[toL m y]).map dqs) rfl (by simp) (by simp at hlen ⊢;omega) ?_
     refine Ar (i+1 : Nat) rfl ?_
     exact Bk (i+1,⟨m,T⟩,rs++[toL m y]) [(7,90),(39,7)] rfl (hI'.sq W hu hil hT hB ha hrt hc s2 hev x4 h1 h2) (by show l - (i+1)<l - i;omega)
   · refine No rfl (by simp) ?_
     refine ApG ((rs++[toL (m+1) (Xf4 (m+1) m)]).map dqs) rfl (by simp) (by simp at hlen ⊢;omega) ?_
     refine Ar (i+1 : Nat) rfl ?_
     exact Bk (i+1,⟨m+1,tsn T (ev T σ i x)⟩,rs++[toL (m+1) (Xf4 (m+1) m)]) [(7,90),(39,7)] rfl (hI'.new W hu hil hT hB ha hrt hev x4 h2) (by show l - (i+1)<l - i;omega)
 · obtain rfl : i=l:=by omega
   exact Rt rfl (.tup (.cons (.sd (.pd (.rf rfl) (.gr rfl))) Xb3)) ⟨m,T,rs,ρ',rfl,hT,hB,ha,hrt,hc⟩
end
end
section
theorem detach_ok {x : Nm} {r p : Nat} (hr : TS r x.k x.t) (hp : Sz p (toL x.k x.a)) (hk : x.k≤16) (h1 : r≤4398046511104) (h2 : p≤4398046511104) : C0 65 [.d (dN x)] (·=.d (dN x)):=by
 have hpk:=p16 hk
 refine En Tryz.func65 fun _ _ _=>?_
 refine Ce rfl (Xhs hp.ps h2 (by rw [Xac];omega)) ?_
 refine Nv 3 7 1 rfl ?_
 refine Lo (fun (i : Nat)=>[(2,.ptr 2 0),(3,.ptr 3 0),(11,.d (dt x.t)),(12,.d (.int .i64 ((toT x.k x.t).map dqs).length)),(13,.d (.int .i64 i))]) (fun i=>[(2,.var (.st (.pr .nil .nil))),(3,.var (.st (.pr (.gr 7 1 (((toT x.k x.t).take i).map dqs)) (.d (de x.a))))),(7,.tok (((toT x.k x.t).take i).map dqs).length 1)])
  (fun i=>i≤x.k) (fun i=>x.k - i) 0 [] rfl (W0y _) (fun i hi=>?_)
 refine By rfl (fun h=>?_) fun h=>?_ <;> simp only [lt',Xaa] at h
 · obtain ⟨w,y,y1,y2,y3,_⟩:=Tw.take (t:=x.t) (i:=i) (by omega)
   have hy:=(y3 r hr).2
   refine Ix i rfl (mp y2) ?_
   refine Dw rfl ?_
   refine Ce rfl (Xhs hy.ps h1 (by rw [Xac];have:=p16 (show i≤16 by omega);omega)) ?_
   refine ApG (((toT x.k x.t).take (i+1)).map dqs) rfl (by rw [W1j,y2];simp) (by simp [Xaa];omega) ?_
   refine Ar (i+1 : Nat) rfl ?_
   exact Bk (i+1) [(7,90),(22,7)] rfl (show i+1≤x.k by omega) (by show x.k - (i+1)<x.k - i;omega)
 · have e : (toT x.k x.t).take i=toT x.k x.t:=W0b (by rw [Xaa];omega)
   refine R1 rfl (.sd (.pd (.gr ?_) (.rf rfl)))
   rw [e]
theorem Xpa : ∀ {k : Nat},rat k 1≠zero k
 | 0,h=>by have h : (1 : Rat)=0:=h;exact absurd h (by decide)
 | k+1,h=>Xpa (k:=k) (congrArg Prod.fst h)
theorem inv_zero {k : Nat} {t : Tw k} {a : Tow.El k} (h : a=zero k) : Tow.inv k t a=none:=by
 cases e : Tow.inv k t a with
 | none=>rfl
 | some i =>
  have:=Xhd e
  rw [h,(Xbf k t).mz] at this
  exact absurd this.symm Xpa
section
variable {K : Nat} {G : Tw K} {S : List (Tow.El K)} {r p : Nat} {x y : Nm} {vx vy : Tow.El K}
theorem Xu0 (W : Wy G S wR) (hx : NOk G S r p x vx) (hy : NOk G S r p y vy) : C0 227 [.d (dNs [x,y])] fun v=>∃ m T,v=.tup (.pr (.d (dt T)) (.d (.int .i64 0)))∧R9.CmP G S x y m T:=by
 have hG:=W.g
 have hR:=Xkm
 obtain ⟨ρx,hx1,hx2⟩:=hx.ex
 obtain ⟨ρy,hy1,hy2⟩:=hy.ex
 have hx3:=W.le hx1
 have hy3:=W.le hy1
 have hxr:=W.t hx1
 have hyr:=W.t hy1
 refine En Tryz.func227 fun _ _ _=>?_
 refine Nd 4 1 rfl ?_
 refine Lo (fun (s : Nat × (Σ m,Tw m))=>[(2,.nil),(3,.d (.int .i64 0)),(4,.d (dt s.2.2)),(9,.d (dNs [x,y])),(10,.d (.int .i64 2)),(11,.d (.int .i64 s.1))]) (fun _=>[]) (fun s=>(s.1=0∧s.2=⟨0,()⟩)∨(s.1=1∧s.2=⟨x.k,x.t⟩)∨(s.1=2∧R9.CmP G S x y s.2.1 s.2.2)) (fun s=>2 - s.1) (0,⟨0,()⟩) [] rfl (.inl ⟨rfl,rfl⟩) (fun (i,⟨m,T⟩) hI=>?_)
 simp only at hI
 rcases hI with ⟨rfl,e⟩ | ⟨rfl,e⟩ | ⟨rfl,hP⟩
 · cases e
   refine Yes rfl (show ((0 : Nat) : Int)<2 by decide) ?_
   refine Ix 0 rfl (u:=dN x) rfl ?_
   refine Ce rfl (begins_ok (T:=[]) (U:=toT x.k x.t) (p:=1) (fun i r h=>by simp at h) (TS.pt hxr) (by omega) (by decide)) ?_
   refine By rfl (fun h=>?_) fun h=>?_
   · obtain ⟨kx,tx,ax⟩:=x
     have h : []=toT kx tx:=by simpa using h
     obtain rfl : kx=0:=by have:=congrArg List.length h;rw [Xaa] at this;exact this.symm
     refine Ar (0+1 : Nat) rfl ?_
     exact Bk (1,⟨0,tx⟩) [] rfl (.inr (.inl ⟨rfl,rfl⟩)) (show 1<2 by decide)
   · refine Ce rfl (begins_ok (U:=[]) (q:=1) (TS.pt hxr) (fun i r h=>by simp at h) (by omega) (by rw [Xaa];omega)) ?_
     refine Yes rfl (by simp) ?_
     refine Ar (0+1 : Nat) rfl ?_
     exact Bk (1,⟨x.k,x.t⟩) [] rfl (.inr (.inl ⟨rfl,rfl⟩)) (show 1<2 by decide)
 · cases e
   have last : ∀ h : (toT x.k x.t).take (toT y.k y.t).length=toT y.k y.t,R9.CmP G S x y x.k x.t:=fun h=>.mk hG hx1 hy1 hx1 R9.rts (R9.beg_rt hG (show Beg y.k y.t x.k x.t from h) hy1 hx1)
   refine Yes rfl (show ((1 : Nat) : Int)<2 by decide) ?_
   refine Ix 1 rfl (u:=dN y) rfl ?_
   refine Ce rfl (begins_ok (T:=toT x.k x.t) (U:=toT y.k y.t) (TS.pt hxr) (TS.pt hyr) (by omega) (by rw [Xaa];omega)) ?_
   refine By rfl (fun h=>?_) fun h=>?_
   · refine Ar (1+1 : Nat) rfl ?_
     exact Bk (2,⟨x.k,x.t⟩) [] rfl (.inr (.inr ⟨rfl,last h⟩)) (show 0<1 by decide)
   refine Ce rfl (begins_ok (T:=toT y.k y.t) (U:=toT x.k x.t) (TS.pt hyr) (TS.pt hxr) (by omega) (by rw [Xaa];omega)) ?_
   refine By rfl (fun h1=>?_) fun h1=>?_
   · have hb : Beg x.k x.t y.k y.t:=h1
     refine Ar (1+1 : Nat) rfl ?_
     exact Bk (2,⟨y.k,y.t⟩) [] rfl (.inr (.inr ⟨rfl,.mk hG hx1 hy1 hy1 (R9.beg_rt hG hb hx1 hy1) R9.rts⟩)) (show 0<1 by decide)
   · refine Ca rfl (Xlo W hx1 hy1) fun v hv=>?_
     obtain ⟨m,T,rs,ρ',rfl,g1,g2,g3,g5,g6⟩:=hv
     refine No rfl (by simp) ?_
     refine Ar (1+1 : Nat) rfl ?_
     exact Bk (2,⟨m,T⟩) [] rfl (.inr (.inr ⟨rfl,.ext hG hx1 hy1 g1 g2 g5⟩)) (show 0<1 by decide)
 · refine No rfl (show ¬ ((2 : Nat) : Int)<2 by decide) ?_
   exact Rt rfl (.tup (.cons (.rf rfl) Xb3)) ⟨m,T,rfl,hP⟩
theorem Join_ok (W : Wy G S wR) (hx : NOk G S r p x vx) (hy : NOk G S r p y vy) (hp : p≤4000000000) : C0 154 [.d (dNs [x,y])] fun v=>∃ m T a b,v=.tup (.pr (.d (dNs [⟨m,T,a⟩,⟨m,T,b⟩])) (.d (.int .i64 0)))∧R9.JnR G S p vx vy m T a b:=by
 have hc:=Xu0 W hx hy
 have hG:=W.g
 have hR:=Xkm
 have hJ : jW p=8*p+73803682:=rfl
 refine En Tryz.func154 fun _ _ _=>?_
 refine Ca rfl hc fun v hv=>?_
 obtain ⟨m,T,rfl,hP⟩:=hv
 obtain ⟨ρ,hT,hcon⟩:=hP
 have hTr:=W.t hT
 have hm3:=W.le hT
 refine No rfl (by decide) ?_
 refine Nl 6 6 2 rfl ?_
 refine Lo (fun (s : Nat × List (Tow.El m))=>[(2,.nil),(3,.d (.int .i64 0)),(4,.d (dt T)),(6,.gr 6 2 (s.2.map fun a=>dN ⟨m,T,a⟩)),(20,.d (dNs [x,y])),(21,.d (.int .i64 2)),(22,.d (.int .i64 s.1))]) (fun s=>[(6,.tok (s.2.map fun a=>dN ⟨m,T,a⟩).length 2)])
  (R9.JnI G p m ρ vx vy) (fun s=>2 - s.1) (0,[]) [] rfl ⟨W0y _,rfl,fun i hi=>absurd hi (Nat.not_lt_zero _)⟩ (fun (j,bs) hI=>?_)
 have hI':=hI
 obtain ⟨hj,hjl,has⟩:=hI
 simp only at hj hjl has
 refine By rfl (fun h=>?_) fun h=>?_
 · have h : (j : Int)<2:=h
   obtain ⟨z,v,ρz,z1,z2,z3,z4,z6⟩:=R9.both hx hy j (by omega)
   have z5:=W.t z3
   have hzu : ([x,y].map dN)[j]?=some (dN z):=by rw [W0w,z1];rfl
   have hzm:=hcon z (W1b z1) ρz z3
   have hz3:=W.le z3
   have hpj : p≤jW p:=R9.jW_ge
   refine Ix j rfl hzu ?_
   refine Ce rfl (begins_ok (T:=toT m T) (U:=toT z.k z.t) (TS.pt hTr) (TS.pt z5) (by omega) (by rw [Xaa];omega)) ?_
   refine By rfl (fun h1=>?_) fun h1=>?_
   · have hb : Beg z.k z.t m T:=h1
     obtain ⟨b,hlb⟩:=Lf.ex hb.le z.a
     have hv1 : ev G ρ m b=v:=by rw [hlb.ev hb.le,Xbm (R9.beg_ag hG hb z3 hT),z4]
     refine Ce rfl (Xo8 (T:=T) hlb hb.le (by omega)) ?_
     refine Ce rfl (detach_ok (x:=⟨_,T,b⟩) hTr ((hlb.sz z6).mono hpj) (show _≤16 from by show m≤16;omega) (by omega) (by omega)) ?_
     refine ApG ((bs++[b]).map fun a=>dN ⟨m,T,a⟩) rfl (by simp) (by simp;omega) ?_
     refine Ar (j+1 : Nat) rfl ?_
     exact Bk (j+1,bs++[b]) [(6,90),(56,6)] rfl (hI'.step (by omega) z2 hv1 ((hlb.sz z6).mono hpj)) (by show 2 - (j+1)<2 - j;omega)
   · refine Ca rfl (Xlo W hT z3) fun v' hv=>?_
     obtain ⟨m',T',rs,ρ',rfl,g1,g2,g3,g5,g6⟩:=hv
     obtain rfl : m'=m:=by have:=congrArg List.length (g6 hzm);rwa [Xaa,Xaa] at this
     obtain rfl : T=T':=(Xi8 (g6 hzm)).symm
     have g5 : RtV G m' (zM wR 3) z.k rs ρ ρz:=g5.mono (W0a _) (W0a _) (fun i hi=>(g3 i hi).symm)
     obtain ⟨σ,s1,s2⟩:=g5.sig
     have hbd:=Yfv (p:=p) hm3 hz3
     refine No rfl (by simp) ?_
     refine Ce rfl (Xpu hTr (by omega) (by omega) s1 z6 (by omega) (by omega)) ?_
     refine Ce rfl (detach_ok (x:=⟨_,T,ev T σ z.k z.a⟩) hTr (R9.img W hT z3 s1 z6) (show _≤16 from by show m'≤16;omega) (by omega) (by omega)) ?_
     refine ApG ((bs++[ev T σ z.k z.a]).map fun a=>dN ⟨m',T,a⟩) rfl (by simp) (by simp;omega) ?_
     refine Ar (j+1 : Nat) rfl ?_
     exact Bk (j+1,bs++[ev T σ z.k z.a]) [(6,90),(56,6)] rfl (hI'.step (by omega) z2 (by rw [Xq1 hT.h s2,z4]) (R9.img W hT z3 s1 z6)) (by show 2 - (j+1)<2 - j;omega)
 · have h : ¬ (j : Int)<2:=h
   obtain rfl : j=2:=by omega
   obtain ⟨a,b,rfl,hJ⟩:=hI'.done hT
   exact Rt rfl (.tup (.cons (.gr rfl) Xb3)) ⟨m,T,a,b,rfl,hJ⟩
def OpF (f : FuncId) (p : Nat) (g : (m : Nat)→Tw m→Tow.El m→Tow.El m→Tow.El m) : Prop:=∀ (m : Nat) (T : Tw m) (a b : Tow.El m),m≤3→TS wR m T→Sz (jW p) (toL m a)→Sz (jW p) (toL m b)→C0 f [.d (dt T),.d (de a),.d (de b)] (·=.d (de (g m T a b)))
theorem Xfm {f : FuncId} {g : (m : Nat)→Tw m→Tow.El m→Tow.El m→Tow.El m} (hf : OpF f p g) (W : Wy G S wR) (hx : NOk G S r p x vx) (hy : NOk G S r p y vy) (hp : p≤4000000000) : C0 160 [.d (dN x),.d (dN y),.d (fnD f)] fun v=>∃ m T a b,v=.tup (.pr (.d (dN ⟨m,T,g m T a b⟩)) (.d (.int .i64 0)))∧R9.JnR G S p vx vy m T a b:=by
 refine En Tryz.func160 fun _ _ _=>?_
 refine Ca rfl (Join_ok W hx hy hp) fun v hv=>?_
 obtain ⟨m,T,a,b,rfl,h⟩:=hv
 obtain ⟨ρ,h1,h3,h4,h5,h6⟩:=id h
 have h2:=W.t h1
 have hm:=W.le h1
 refine No rfl (by simp) ?_
 refine Ix 0 rfl (u:=dN ⟨m,T,a⟩) rfl ?_
 refine Dw rfl ?_
 refine Ix 0 rfl (u:=dN ⟨m,T,a⟩) rfl ?_
 refine Ix 1 rfl (u:=dN ⟨m,T,b⟩) rfl ?_
 refine Ce rfl (hf m T a b hm h2 h5 h6) ?_
 exact Rt rfl (.tup (.cons (.rf rfl) Xb3)) ⟨m,T,a,b,rfl,h⟩
theorem Add_ok (W : Wy G S wR) (hx : NOk G S r p x vx) (hy : NOk G S r p y vy) (hp : p≤4000000000) : C0 95 [.d (dN x),.d (dN y)] (R9.OpR G S (oW p) (Tow.add K vx vy)):=by
 have hO : oW p=16*p+147714794:=rfl
 have hJ : jW p=8*p+73803682:=rfl
 have hC:=wC
 have hR:=Xkm
 refine En Tryz.func95 fun _ _ _=>?_
 refine Ca rfl (Xfm (g:=fun m T a b=>Tow.add m a b) (fun m T a b hm h2 h5 h6=>Xgo h2 h5 h6 (by omega) (by omega) (by omega)) W hx hy hp) fun v hv=>?_
 obtain ⟨m,T,a,b,rfl,ρ,h1,h3,h4,h5,h6⟩:=hv
 have h2:=W.t h1
 exact Rt rfl (.tup (.cons (.rf rfl) Xb3)) ⟨⟨m,T,Tow.add m a b⟩,rfl,⟨ρ,h1,by rw [←h3,←h4];exact Xec⟩,h2,by rw [Xa2];exact (h5.add h6).mono (by omega)⟩
theorem Mul_ok (W : Wy G S wR) (hx : NOk G S r p x vx) (hy : NOk G S r p y vy) (hp : p≤4000000000) : C0 121 [.d (dN x),.d (dN y)] (R9.OpR G S (oW p) (Tow.mul K G vx vy)):=by
 have hO : oW p=16*p+147714794:=rfl
 have hJ : jW p=8*p+73803682:=rfl
 have hC:=wC
 have hR:=Xkm
 refine En Tryz.func121 fun _ _ _=>?_
 refine Ca rfl (Xfm (g:=fun m T a b=>Tow.mul m T a b) (fun m T a b hm h2 h5 h6=>Xc7 h2 h5 h6 (by omega) (by have:=Xi0 (r:=wR) hm;omega) (by omega)) W hx hy hp) fun v hv=>?_
 obtain ⟨m,T,a,b,rfl,ρ,h1,h3,h4,h5,h6⟩:=hv
 have h2:=W.t h1
 have hm:=W.le h1
 have hc:=Xi0 (r:=wR) hm
 exact Rt rfl (.tup (.cons (.rf rfl) Xb3)) ⟨⟨m,T,Tow.mul m T a b⟩,rfl,⟨ρ,h1,by rw [←h3,←h4];exact Xb5 h1.h⟩,h2,(h5.mul h2 h6).mono (by omega)⟩
theorem Sub_ok (W : Wy G S wR) (hx : NOk G S r p x vx) (hy : NOk G S r p y vy) (hp : p≤4000000000) : C0 94 [.d (dN x),.d (dN y)] (R9.OpR G S (oW p) (Tow.add K vx (Tow.neg K vy))):=by
 have hO : oW p=16*p+147714794:=rfl
 have hJ : jW p=8*p+73803682:=rfl
 have hC:=wC
 have hR:=Xkm
 refine En Tryz.func94 fun _ _ _=>?_
 refine Ca rfl (Xfm (g:=fun m T a b=>Tow.add m a (Tow.neg m b)) (fun m T a b hm h2 h5 h6=>Xjc h2 h5 h6 (by omega) (by omega) (by omega)) W hx hy hp) fun v hv=>?_
 obtain ⟨m,T,a,b,rfl,ρ,h1,h3,h4,h5,h6⟩:=hv
 have h2:=W.t h1
 exact Rt rfl (.tup (.cons (.rf rfl) Xb3)) ⟨⟨m,T,Tow.add m a (Tow.neg m b)⟩,rfl,⟨ρ,h1,by rw [←h3,←h4,←Xe5];exact Xec⟩,h2,by rw [Xa2];exact (h5.add (Xpl h6)).mono (by omega)⟩
theorem Neg_ok (hx : NOk G S r p x vx) (hk : x.k≤16) (hr : r≤4398046511104) (hp : p≤4398046511104) : C0 31 [.d (dN x)] (·=.d (dN ⟨x.k,x.t,Tow.neg x.k x.a⟩)):=by
 refine En Tryz.func31 fun _ _ _=>?_
 refine Ce rfl (detach_ok hx.r hx.p hk hr hp) ?_
 refine Ce rfl (Xrx hx.r hx.p hk hp hr) ?_
 exact R0
theorem Sign_ok (hG : red K G) (hx : NOk G S r p x vx) (hk : x.k≤16) (hv : vB r x.k p≤4398046511104) (hr : vB r x.k r≤4398046511104) : C0 181 [.d (dN x)] (·=.d (.int .i64 (sgn K G vx))):=by
 obtain ⟨ρ,h1,h2⟩:=hx.ex
 have:=Xgh (r:=r) x.k r
 refine En Tryz.func181 fun _ _ _=>?_
 refine Ce rfl (Xkh hx.r hx.p (Xap h1.r) hk hv hr (by omega)) ?_
 rw [hx.sgn (Xap hG)]
 exact R0
theorem FromRat_ok {q : Rat} {p : Nat} (hq : Qs p q) (hp : p≤4398046511104) : C0 111 [.d (dq q)] (·=.d (dN ⟨0,(),q⟩)):=by
 refine En Tryz.func111 fun _ _ _=>?_
 refine Ce rfl (Xiw hq hp) ?_
 exact R1 rfl (.sd (.pd (.nil rfl) (.lit rfl)))
theorem FromInt_ok {z : Int} (h : -9223372036854775808≤z∧z<9223372036854775808) : C0 63 [.d (.int .i64 z)] (·=.d (dN ⟨0,(),(z : Rat)⟩)):=by
 refine En Tryz.func63 fun _ _ _=>?_
 refine Ce rfl (Xav h) ?_
 refine Ce rfl (FromRat_ok (q:=(z : Rat)) (p:=64) (Qs.int (by unfold Zs;omega) (by omega)) (by decide)) ?_
 exact R0
end
end
section
abbrev nq (q : Rat) : Nm:=⟨0,(),q⟩
theorem Yfn {k : Nat} {q : Rat} : Lf (k:=0) (m:=k) q (rat k q):=by
 show toL k (rat k q)=[q]++_
 rw [Xgl];rfl
section
variable {r p s : Nat} {x : Nm} {q : Rat}
theorem Xx3 (hr : TS r x.k x.t) (hk : x.k≤8) (hr2 : r≤4000000000) : C0 227 [.d (dNs [x,nq q])] (·=.tup (.pr (.d (dt x.t)) (.d (.int .i64 0)))):=by
 refine En Tryz.func227 fun _ _ _=>?_
 refine Nd 4 1 rfl ?_
 refine Lo (fun (s : Nat × (Σ m,Tw m))=>[(2,.nil),(3,.d (.int .i64 0)),(4,.d (dt s.2.2)),(9,.d (dNs [x,nq q])),(10,.d (.int .i64 2)),(11,.d (.int .i64 s.1))]) (fun _=>[]) (fun s=>(s.1=0∧s.2=⟨0,()⟩)∨(s.1=1∧s.2=⟨x.k,x.t⟩)∨(s.1=2∧s.2=⟨x.k,x.t⟩)) (fun s=>2 - s.1) (0,⟨0,()⟩) [] rfl (.inl ⟨rfl,rfl⟩) (fun (i,⟨m,T⟩) hI=>?_)
 simp only at hI
 rcases hI with ⟨rfl,e⟩ | ⟨rfl,e⟩ | ⟨rfl,e⟩
 · cases e
   refine Yes rfl (show ((0 : Nat) : Int)<2 by decide) ?_
   refine Ix 0 rfl (u:=dN x) rfl ?_
   refine Ce rfl (begins_ok (T:=[]) (U:=toT x.k x.t) (p:=1) (fun i r h=>by simp at h) (TS.pt hr) (by omega) (by decide)) ?_
   refine By rfl (fun h=>?_) fun h=>?_
   · obtain ⟨kx,tx,ax⟩:=x
     have h : []=toT kx tx:=by simpa using h
     obtain rfl : kx=0:=by have:=congrArg List.length h;rw [Xaa] at this;exact this.symm
     refine Ar (0+1 : Nat) rfl ?_
     exact Bk (1,⟨0,tx⟩) [] rfl (.inr (.inl ⟨rfl,rfl⟩)) (show 1<2 by decide)
   · refine Ce rfl (begins_ok (U:=[]) (q:=1) (TS.pt hr) (fun i r h=>by simp at h) (by omega) (by rw [Xaa];omega)) ?_
     refine Yes rfl (by simp) ?_
     refine Ar (0+1 : Nat) rfl ?_
     exact Bk (1,⟨x.k,x.t⟩) [] rfl (.inr (.inl ⟨rfl,rfl⟩)) (show 1<2 by decide)
 · cases e
   refine Yes rfl (show ((1 : Nat) : Int)<2 by decide) ?_
   refine Ix 1 rfl (u:=dN (nq q)) rfl ?_
   refine Ce rfl (begins_ok (T:=toT x.k x.t) (U:=[]) (q:=1) (TS.pt hr) (fun i r h=>by simp at h) (by omega) (by rw [Xaa];omega)) ?_
   refine Yes rfl (by simp) ?_
   refine Ar (1+1 : Nat) rfl ?_
   exact Bk (2,⟨x.k,x.t⟩) [] rfl (.inr (.inr ⟨rfl,rfl⟩)) (show 0<1 by decide)
 · cases e
   refine No rfl (show ¬ ((2 : Nat) : Int)<2 by decide) ?_
   exact R0t
theorem Yho (hr : TS r x.k x.t) (hp : Sz p (toL x.k x.a)) (hq : Qs s q) (hk : x.k≤8) (hr2 : r≤4000000000) (hp2 : p≤4000000000) (hs2 : s<4000000000) : C0 154 [.d (dNs [x,nq q])] (·=.tup (.pr (.d (dNs [x,⟨x.k,x.t,rat x.k q⟩])) (.d (.int .i64 0)))):=by
 have hc:=Xx3 (q:=q) hr hk hr2
 refine En Tryz.func154 fun _ _ _=>?_
 refine Ce rfl hc ?_
 refine No rfl (by decide) ?_
 refine Nl 6 6 2 rfl ?_
 refine Lo (fun (j : Nat)=>[(2,.nil),(3,.d (.int .i64 0)),(4,.d (dt x.t)),(6,.gr 6 2 (([x,⟨x.k,x.t,rat x.k q⟩].take j).map dN)),(20,.d (dNs [x,nq q])),(21,.d (.int .i64 2)),(22,.d (.int .i64 j))]) (fun j=>[(6,.tok (([x,⟨x.k,x.t,rat x.k q⟩].take j).map dN).length 2)])
  (fun j=>j≤2) (fun j=>2 - j) 0 [] rfl (W0y _) (fun j hj=>?_)
 have hj : j=0∨j=1∨j=2:=by omega
 rcases hj with rfl | rfl | rfl
 · refine Yes rfl (show ((0 : Nat) : Int)<2 by decide) ?_
   refine Ix 0 rfl (u:=dN x) rfl ?_
   refine Ce rfl (begins_ok (T:=toT x.k x.t) (U:=toT x.k x.t) (TS.pt hr) (TS.pt hr) (by omega) (by rw [Xaa];omega)) ?_
   refine Yes rfl (W1y ..) ?_
   refine Ce rfl (Xo8 (T:=x.t) (Lf.rfl' x.a) (W0a _) (by omega)) ?_
   refine Ce rfl (detach_ok (x:=x) hr hp (by omega) (by omega) (by omega)) ?_
   refine ApG ([x].map dN) rfl (by simp) (by simp) ?_
   refine Ar (0+1 : Nat) rfl ?_
   exact Bk 1 [(6,90),(56,6)] rfl (show 1≤2 by decide) (show 2 - 1<2 - 0 by decide)
 · refine Yes rfl (show ((1 : Nat) : Int)<2 by decide) ?_
   refine Ix 1 rfl (u:=dN (nq q)) rfl ?_
   refine Ce rfl (begins_ok (T:=toT x.k x.t) (U:=[]) (q:=1) (TS.pt hr) (fun i r h=>by simp at h) (by omega) (by rw [Xaa];omega)) ?_
   refine Yes rfl (by simp) ?_
   refine Ce rfl (Xo8 (k:=0) (T:=x.t) (Yfn (q:=q)) (W0y _) (by omega)) ?_
   refine Ce rfl (detach_ok (x:=⟨x.k,x.t,rat x.k q⟩) hr (Sz.rat x.k hq) (show _≤16 from by show x.k≤16;omega) (by omega) (by omega)) ?_
   refine ApG ([x,⟨x.k,x.t,rat x.k q⟩].map dN) rfl (by simp) (by simp) ?_
   refine Ar (1+1 : Nat) rfl ?_
   exact Bk 2 [(6,90),(56,6)] rfl (show 2≤2 by decide) (show 2 - 2<2 - 1 by decide)
 · refine No rfl (show ¬ ((2 : Nat) : Int)<2 by decide) ?_
   exact RTt rfl (.cons (.gr rfl) Xb3)
theorem Xlv {f : FuncId} {z : Tow.El x.k} (hf : C0 f [.d (dt x.t),.d (de x.a),.d (de (rat x.k q))] (·=.d (de z))) (hr : TS r x.k x.t) (hp : Sz p (toL x.k x.a)) (hq : Qs s q) (hk : x.k≤8) (hr2 : r≤4000000000) (hp2 : p≤4000000000) (hs2 : s<4000000000) : C0 160 [.d (dN x),.d (dN (nq q)),.d (fnD f)] (·=.tup (.pr (.d (dN ⟨x.k,x.t,z⟩)) (.d (.int .i64 0)))):=by
 refine En Tryz.func160 fun _ _ _=>?_
 refine Ce rfl (Yho hr hp hq hk hr2 hp2 hs2) ?_
 refine No rfl (by simp) ?_
 refine Ix 0 rfl (u:=dN x) rfl ?_
 refine Dw rfl ?_
 refine Ix 0 rfl (u:=dN x) rfl ?_
 refine Ix 1 rfl (u:=dN ⟨x.k,x.t,rat x.k q⟩) rfl ?_
 refine Ce rfl hf ?_
 exact RTt rfl (.cons (.rf rfl) Xb3)
theorem Ykh (hr : TS r x.k x.t) (hp : Sz p (toL x.k x.a)) (hq : Qs s q) (hk : x.k≤8) (hr2 : r≤4000000000) (hp2 : p≤2000000000) (hs2 : s<2000000000) : C0 95 [.d (dN x),.d (dN (nq q))] (·=.tup (.pr (.d (dN ⟨x.k,x.t,Tow.add x.k x.a (rat x.k q)⟩)) (.d (.int .i64 0)))):=by
 refine En Tryz.func95 fun _ _ _=>?_
 refine Ce rfl (Xlv (Xgo hr hp (Sz.rat x.k hq) (by omega) (by omega) (by omega)) hr hp hq hk hr2 (by omega) (by omega)) ?_
 exact R0t
theorem Ykd (hr : TS r x.k x.t) (hp : Sz p (toL x.k x.a)) (hq : Qs s q) (hk : x.k≤8) (hr2 : r≤4000000000) (hp2 : p≤2000000000) (hs2 : s<2000000000) (hc : cB r x.k≤1000000000) : C0 121 [.d (dN x),.d (dN (nq q))] (·=.tup (.pr (.d (dN ⟨x.k,x.t,Tow.mul x.k x.t x.a (rat x.k q)⟩)) (.d (.int .i64 0)))):=by
 refine En Tryz.func121 fun _ _ _=>?_
 refine Ce rfl (Xlv (Xc7 hr hp (Sz.rat x.k hq) (by omega) (by omega) (by omega)) hr hp hq hk hr2 (by omega) (by omega)) ?_
 exact R0t
end
end
end Go.Proofs.YtdlhdemfnfpboaaGreatDoor.P9
namespace Go.Proofs.YtdlhdemfnfpboaaGreatDoor
open Go Go.Vm Go.Num
theorem Xur (b : UInt8) : Ycr[b.toNat]?=some (Ydv.contains b):=by
 have hb:=UInt8.toNat_lt b
 unfold Ycr
 rw [W0w,List.getElem?_range hb]
 simp
theorem Xj8 : Ycr.length=256:=by unfold Ycr;rw [W0h,List.length_range]
theorem Ydi {s : List UInt8} (hs : Tx s) : C0 203 [.d (.str s),.d (.str Ydv)] (·=.d (.str ((Xn2 Ydv.contains s).dropWhile Ydv.contains))):=by
 refine En Tryz.func203 fun _ _ _=>?_
 refine By rfl (fun h=>?_) fun h=>?_
 · subst h;exact R1 rfl (.eq rfl)
 refine No rfl (by decide) ?_
 refine No rfl (by decide) ?_
 refine Ce rfl Xg9 ?_
 refine Yes rfl rfl ?_
 refine Va 7 5 900 256 (Ycr.map D.bool) rfl (Xl3 (by decide)) (by intro x hx;obtain ⟨b,_,rfl⟩:=W4v.1 hx;rfl) (by rw [W0h,Xj8]) ?_
 refine Cn (args:=[.d (.str s),.ap 1000001 256]) [(1000001,900)] rfl (Xfc Xj8 Xur hs) fun v hv=>?_
 subst hv
 have ht : Tx (Xn2 Ydv.contains s):=by
  have h1 : (Xn2 Ydv.contains s).length≤s.length:=by
   unfold Xn2;rw [List.length_reverse]
   exact W0j (List.Sublist.length_le (List.dropWhile_sublist _)) (by simp)
  exact W1q h1 hs
 refine Cn (args:=[.d (.str (Xn2 Ydv.contains s)),.ap 1000001 256]) [(1000001,900)] rfl (Xf0 Xj8 Xur ht) fun v hv=>?_
 subst hv
 exact R1 rfl (.eq rfl)
end Go.Proofs.YtdlhdemfnfpboaaGreatDoor
namespace Go.Num
open Go.Proofs.YtdlhdemfnfpboaaGreatDoor
section
theorem Xug {f : UInt8→Bool} : ∀ {l : List UInt8},l.dropWhile f=[]↔l.all f=true
 | []=>by simp
 | x::l=>by
  rw [W4f,W6h]
  cases h : f x with
  | true=>simpa using Xug (l:=l)
  | false=>simp
theorem Xv6 {f : UInt8→Bool} (s : List UInt8) : (Xn2 f s).dropWhile f=[]↔s.all f=true:=by
 induction s using Xet with
 | h0=>simp [Xn2]
 | hs s x ih =>
  rw [Xgk,W4x]
  cases h : f x with
  | true=>rw [if_pos rfl,ih];simp [h]
  | false=>rw [if_neg (by simp),Xug,W4x]
theorem Xxy (b : UInt8) : Ydv.contains b=isD b:=by
 have key : ∀ n : Fin 256,Ydv.contains (UInt8.ofNat n.val)=isD (UInt8.ofNat n.val):=by decide +kernel
 have:=key ⟨b.toNat,UInt8.toNat_lt b⟩
 simpa using this
theorem Xxz (s : List UInt8) : s.all Ydv.contains=s.all isD:=by
 congr 1
 funext b;exact Xxy b
theorem Yib (s : List UInt8) : trL 48 s=[]↔z0 s=true:=by
 unfold trL z0;rw [Xug]
theorem Ye2 {s q : List UInt8} {ng : Bool} (hl : s.length≤400) (hs : s=sgB ng++q) (hn : ng=false→s.head?≠some 45) (h : (46 : UInt8) ∉ q) :
 prs s=if q=[]∨(1<q.length∧q.head?=some 48)∨q.all isD=false then none else if ng && z0 q then none else some (ng,q,[]):=by
 by_cases hd : q.all isD=true
 · rw [Xk3 (a:=q) (r:=[]) hl (by rw [W3e];exact hs) hn hd (fun x t e=>nomatch e)]
   simp only [hd,Bool.true_eq_false,or_false]
   rfl
 · rw [if_pos (.inr (.inr (by simpa using hd)))]
   have hq : q=q.takeWhile isD++q.dropWhile isD:=(W5x ..).symm
   obtain ⟨x,r,hr⟩ : ∃ x r,q.dropWhile isD=x::r:=by
    cases h : q.dropWhile isD with
    | nil=>exact absurd (Xug.1 h) hd
    | cons x r=>exact ⟨x,r,rfl⟩
   have hx : isD x=false:=by
    have:=W6t isD q
    rw [hr] at this
    simpa using this
   have hx46 : x≠46:=fun e=>h (by rw [hq,hr,e];simp)
   rw [hr] at hq
   rw [Xk3 (a:=q.takeWhile isD) (r:=x::r) hl (by rw [←hq];exact hs) hn (Xrr q) (fun y t e=>by cases e;exact hx)]
   split
   · rfl
   · show (if x=46∧_ then _ else none)=none
     rw [if_neg fun h=>hx46 h.1]
theorem Ye1 {s u t : List UInt8} {ng : Bool} (hl : s.length≤400) (hs : s=sgB ng++(u++46::t)) (hn : ng=false→s.head?≠some 45) (h : (46 : UInt8) ∉ u) :
 prs s=if u=[]∨t=[]∨(1<u.length∧u.head?=some 48)∨(u++t).all isD=false then none else if ng && z0 (u++t) then none else some (ng,u,t):=by
 by_cases hd : u.all isD=true
 · rw [Xk3 (a:=u) (r:=46::t) hl hs hn hd (fun x r e=>by cases e;decide)]
   by_cases hu : u=[]∨(1<u.length∧u.head?=some 48)
   · rw [if_pos hu,if_pos (hu.elim .inl fun h=>.inr (.inr (.inl h)))]
   · rw [if_neg hu]
     show (if (46 : UInt8)=46∧t≠[]∧t.all isD=true∧(ng && z0 (u++t))=false then some (ng,u,t) else none)=_
     rw [not_or] at hu
     by_cases ht : t=[]
     · rw [if_neg (fun h=>h.2.1 ht),if_pos (.inr (.inl ht))]
     · by_cases hta : t.all isD=true
       · rw [if_neg (c:=u=[]∨_) (by
          rintro (h | h | h | h)
          · exact hu.1 h
          · exact ht h
          · exact hu.2 h
          · rw [W4x,hd,hta] at h;cases h)]
         cases hz : (ng && z0 (u++t)) with
         | true=>simp
         | false=>simp [ht,hta]
       · rw [if_neg (fun h=>hta h.2.2.1),if_pos (.inr (.inr (.inr (by rw [W4x,hd];simpa using hta))))]
 · have hf : (u++t).all isD=false:=by
    rw [W4x]
    have : u.all isD=false:=by simpa using hd
    rw [this];rfl
   rw [if_pos (.inr (.inr (.inr hf)))]
   have hq : u=u.takeWhile isD++u.dropWhile isD:=(W5x ..).symm
   obtain ⟨x,r,hr⟩ : ∃ x r,u.dropWhile isD=x::r:=by
    cases h : u.dropWhile isD with
    | nil=>exact absurd (Xug.1 h) hd
    | cons x r=>exact ⟨x,r,rfl⟩
   have hx : isD x=false:=by
    have:=W6t isD u
    rw [hr] at this
    simpa using this
   have hx46 : x≠46:=fun e=>h (by rw [hq,hr,e];simp)
   rw [hr] at hq
   rw [Xk3 (a:=u.takeWhile isD) (r:=x::(r++46::t)) hl (by rw [hs];congr 1;rw [←W3j,←W2p,←hq]) hn (Xrr u) (fun y t e=>by cases e;exact hx)]
   split
   · rfl
   · show (if x=46∧_ then _ else none)=none
     rw [if_neg fun h=>hx46 h.1]
end
section
theorem Xo7 {k m d : Nat} (hd : d<10) (hm : m<10 ^ (k+1)) : pad k (dec m)++[UInt8.ofNat (48+d)]=pad (k+1) (dec (10*m+d)):=by
 by_cases h0 : m=0
 · subst h0
   rw [show 10*0+d=d by omega,Xc4 hd,Xc4 (show 0<10 by decide)]
   show List.replicate (k+1 - 1) 48++[UInt8.ofNat (48+0)]++[UInt8.ofNat (48+d)]=List.replicate (k+1+1 - 1) 48++[UInt8.ofNat (48+d)]
   rw [show k+1+1 - 1=k+1 - 1+1 by omega,List.replicate_succ']
   rfl
 · have e : dec (10*m+d)=dec m++[UInt8.ofNat (48+d)]:=by
    rw [Xe6 (show 10≤10*m+d by omega),show (10*m+d) / 10=m by omega,show (10*m+d) % 10=d by omega]
   rw [e]
   unfold pad
   rw [W0d,W3r,show k+1+1 - ((dec m).length+1)=k+1 - (dec m).length by omega,W2p]
theorem Xuu : ∀ (k n : Nat),10 ^ (k+1)≤n→dec n=dec (n / 10 ^ (k+1))++pad k (dec (n % 10 ^ (k+1)))
 | 0,n,h=>by
  have h : 10≤n:=h
  rw [Xe6 h]
  show _=dec (n / 10)++pad 0 (dec (n % 10))
  rw [Xc4 (n:=n % 10) (W1z _ (by decide))]
  rfl
 | k+1,n,h=>by
  have e1 : 10 ^ (k+1+1)=10*10 ^ (k+1):=by rw [W0p];omega
  have hp : 0<10 ^ (k+1):=W6k (by decide)
  have h10 : 10≤n:=by omega
  have ih:=Xuu k (n / 10) (by rw [W7b (by decide)];omega)
  have hm : n / 10 % 10 ^ (k+1)<10 ^ (k+1):=W1z _ hp
  rw [Xe6 h10,ih,W2p,Xo7 (W1z _ (by decide)) hm,W6b,←e1]
  congr 3
  have:=Nat.mod_mul (a:=10) (b:=10 ^ (k+1)) (x:=n)
  rw [e1,this];omega
def cks (n : Nat) : List Nat:=if h : n=0 then [] else n % 1000000000::cks (n / 1000000000)
termination_by n
decreasing_by omega
theorem Xd7 : cks 0=[]:=by rw [cks,dif_pos rfl]
theorem Xem {n : Nat} (h : n≠0) : cks n=n % 1000000000::cks (n / 1000000000):=by rw [cks,dif_neg h]
theorem Yg1 : ∀ (n c : Nat),c∈cks n→c<1000000000:=fun n=>by
 induction n using Nat.strongRecOn with
 | _ n ih =>
  intro c hc
  by_cases h : n=0
  · subst h;rw [Xd7] at hc;cases hc
  · rw [Xem h,W1o] at hc
    rcases hc with rfl | hc
    · omega
    · exact ih _ (by omega) c hc
theorem Xu4 : ∀ {k n : Nat},n<4294967296 ^ k→(cks n).length≤2*k
 | 0,n,h=>by
  have : n=0:=by simpa using h
  subst this;rw [Xd7];exact W0a _
 | k+1,n,h=>by
  by_cases h0 : n=0
  · subst h0;rw [Xd7];exact W0y _
  · rw [Xem h0]
    by_cases h1 : n / 1000000000=0
    · rw [h1,Xd7];simp;omega
    · rw [Xem h1]
      have:=Xu4 (k:=k) (n:=n / 1000000000 / 1000000000) (by
       rw [W0p] at h
       rw [W6b,W2j (by decide)]
       refine W0q h (W0n _ (by decide)))
      simp only [W0l];omega
def Xw4 : List Nat→List UInt8
 | []=>[]
 | [c]=>dec c
 | c::e::l=>Xw4 (e::l)++pad 8 (dec c)
theorem Xw3 : ∀ n,n≠0→Xw4 (cks n)=dec n:=fun n=>by
 induction n using Nat.strongRecOn with
 | _ n ih =>
  intro h
  rw [Xem h]
  by_cases h2 : n / 1000000000=0
  · rw [h2,Xd7]
    show dec (n % 1000000000)=_
    congr 1;omega
  · have:=ih (n / 1000000000) (by omega) h2
    rw [Xem h2] at this ⊢
    show Xw4 (n / 1000000000 % 1000000000::cks (n / 1000000000 / 1000000000))++pad 8 (dec (n % 1000000000))=_
    rw [this]
    exact (Xuu 8 n (by show 1000000000≤n;omega)).symm
theorem Xsv {c : Nat} {l : List Nat} (h : l≠[]) : Xw4 (c::l)=Xw4 l++pad 8 (dec c):=by
 cases l with
 | nil=>exact absurd rfl h
 | cons e l=>rfl
end
section
theorem Ylc {l : List UInt8} : l.all isD=true↔∀ b∈l,Xh6 b:=by
 rw [W1m]
 exact ⟨fun h b hb=>Yjh.1 (h b hb),fun h b hb=>Yjh.2 (h b hb)⟩
theorem Xuh {l : List UInt8} (h : z0 l=true) : Xbx l=0:=by
 induction l using Xet with
 | h0=>rfl
 | hs l x ih =>
  rw [Xge,W0e,beq_iff_eq] at h
  rw [Xb1,ih h.1,h.2];rfl
theorem Yct : ∀ (k : Nat) (l : List UInt8),l.length=k+1→(∀ b∈l,Xh6 b)→pad k (dec (Xbx l))=l:=fun k=>by
 induction k with
 | zero =>
  intro l hl hd
  match l,hl with
  | [x],_ =>
   have hx:=hd x (by simp)
   unfold Xh6 at hx
   rw [Xp7,Xc4 (by omega)]
   show [UInt8.ofNat (48+(x.toNat - 48))]=[x]
   rw [show 48+(x.toNat - 48)=x.toNat by omega];simp
 | succ k ih =>
  intro l hl hd
  obtain ⟨m,x,rfl⟩ : ∃ m x,l=m++[x]:=⟨l.dropLast,l.getLast (by intro e;rw [e] at hl;simp at hl),(List.dropLast_concat_getLast _).symm⟩
  have hm : m.length=k+1:=by simpa using hl
  have hdm : ∀ b∈m,Xh6 b:=fun b hb=>hd b (by simp [hb])
  have hx:=hd x (by simp)
  unfold Xh6 at hx
  have h1:=Xhp hdm
  rw [hm] at h1
  rw [Xb1,←Xo7 (by omega) h1,ih m hm hdm,show 48+(x.toNat - 48)=x.toNat by omega]
  simp
def frI (ng : Bool) (a b : List UInt8) : Int:=if ng then -(Xbx (a++b) : Int) else (Xbx (a++b) : Int)
theorem Xyz (n : Nat) : ((10 ^ n : Int) : Rat)≠0:=fun h=>by
 have : (10 ^ n : Int)=0:=Rat.intCast_inj.1 (by rw [h];rfl)
 have:=W6j (n:=10) (m:=n) (by decide)
 omega
theorem Xz6 (ng : Bool) (a b : List UInt8) : fr ng a b=((frI ng a b : Int) : Rat) / ((10 ^ b.length : Int) : Rat):=by
 unfold fr frI
 split
 · rw [Rat.intCast_neg,W7v,W7v,Rat.neg_mul]
 · rfl
end
end Go.Num
namespace Go.Proofs.YtdlhdemfnfpboaaGreatDoor
open Go Go.Num Go.Tow
abbrev scl (k : Nat) (t : Tw k) (a : El k) (u h : Rat) : El k:=add k (mul k t a (rat k u)) (rat k h)
section
variable {k : Nat} {t : Tw k} {a : El k}
theorem Xrt {u : Rat} : toL k (mul k t a (rat k u))=(toL k a).map (u*·):=by rw [(Xbf k t).mc,Xja]
theorem Xk8 {m n : Nat} {u : Rat} (ha : MgL m (toL k a)) (hu : Qs n u) : MgL (n+m) (toL k (mul k t a (rat k u))):=fun x hx=>by
 rw [Xrt] at hx
 obtain ⟨y,hy,rfl⟩:=W4v.1 hx
 exact hu.mul (ha y hy)
theorem Xtb {n : Nat} {h : Rat} (hh : Qs n h) (h1 : 1≤n) : MgL n (toL k (rat k h)):=fun x hx=>by
 rw [Xgl] at hx
 rcases W1o.1 hx with rfl | hx
 · exact hh
 · obtain rfl:=(W6a.1 hx).2
   exact Qs.int (z:=0) (by unfold Zs;exact W6k (by decide)) h1
theorem Xtc {m n : Nat} {b : El k} (ha : MgL m (toL k a)) (hb : MgL n (toL k b)) : MgL (m+n+1) (toL k (add k a b)):=fun x hx=>by
 rw [Xa2] at hx
 obtain ⟨i,hi⟩:=W5g hx
 rw [W7d] at hi
 split at hi
 · rename_i y z hy hz
   cases hi
   exact (ha y (W1b hy)).add (hb z (W1b hz))
 · cases hi
end
end Go.Proofs.YtdlhdemfnfpboaaGreatDoor
namespace Go.Proofs.YtdlhdemfnfpboaaGreatDoor.R1
open Go Go.Vm Go.Num Go.Proofs.YtdlhdemfnfpboaaGreatDoor
end Go.Proofs.YtdlhdemfnfpboaaGreatDoor.R1
namespace Go.Proofs.YtdlhdemfnfpboaaGreatDoor.R11
open Go Go.Vm Go.Num Go.Proofs.YtdlhdemfnfpboaaGreatDoor
section
theorem Xrq {z : Int} (h : z<0) : tx z=45::dec z.natAbs:=by rw [tx,if_pos h];rfl
theorem Xrp {z : Int} (h : ¬ z<0) : tx z=dec z.natAbs:=by rw [tx,if_neg h];rfl
end
section
theorem Places_ok {s : List UInt8} (hs : Tx s) : C0 40 [.d (.str s)] (·=.d (.int .i64 (plc s))):=by
 refine En Tryz.func40 fun _ _ _=>?_
 refine By rfl (fun h=>?_) fun h=>?_
 · refine R1 rfl (.eq ?_)
   unfold plc prs;rw [if_pos (by omega)]
 have h400 : s.length≤400:=by omega
 refine Cu (some 4) (fun (ng : Bool)=>[(0,.d (.str s)),(3,.d (.int .i64 0)),(19,.b ng)]) (fun _=>[]) (fun ng=>(∃ r,s=sgB ng++r)∧(ng=false→s.head?≠some 45)) rfl ?_ ?_
 · refine By rfl (fun h0=>?_) fun h0=>?_
   · obtain ⟨x,t,hx⟩ : ∃ x t,s=x::t:=by
      cases s with
      | nil=>simp at h0
      | cons x t=>exact ⟨x,t,rfl⟩
     refine Yx 0 x rfl (by rw [hx];rfl) ?_
     by_cases h1 : x=45
     · refine Jn true [] rfl ⟨⟨t,by rw [hx,h1];rfl⟩,nofun⟩ (by exact ⟨by rw [show dc ((x.toNat : Int)=45)=true from Xaw.2 (by rw [h1];rfl)];rfl,rfl,rfl,rfl,rfl⟩)
     · refine Jn false [] rfl ⟨⟨s,rfl⟩,fun _ e=>by rw [hx] at e;injection e with e;exact h1 e⟩ (by exact ⟨by rw [show dc ((x.toNat : Int)=45)=false from W2s.2 fun e=>h1 (Xeq (Xaw.1 e))];rfl,rfl,rfl,rfl,rfl⟩)
   · refine Jn false [] rfl ⟨⟨s,rfl⟩,fun _ e=>?_⟩
     cases s with
     | nil=>cases e
     | cons x t=>simp at h0
 rintro ng ⟨hq,hng⟩
 refine Cu none (fun (_ : Unit)=>[(0,.d (.str s)),(3,.d (.int .i64 (sgB ng).length))]) (fun _=>[]) (fun _=>True) rfl ?_ ?_
 · cases ng with
   | true =>
    refine Yes rfl rfl ?_
    refine Ar 1 rfl ?_
    exact Jn () [] rfl trivial
   | false =>
    refine No rfl nofun ?_
    exact Jn () [] rfl trivial
 intro _ _
 obtain ⟨q,hq⟩:=hq
 have hsl : (sgB ng).length≤1:=by unfold sgB;split <;> simp
 refine Cu (some 1000000) (fun ((a,r,zb) : List UInt8 × List UInt8 × Bool)=>[(0,.d (.str s)),(3,.d (.int .i64 ((sgB ng).length+a.length : Nat))),(4,.d (.int .i64 (sgB ng).length)),(5,.b zb)]) (fun _=>[]) (fun (a,r,zb)=>s=sgB ng++(a++r)∧a.all isD=true∧zb=z0 a∧Yia r) rfl ?_ ?_
 · refine Lo (fun ((a,r,zb) : List UInt8 × List UInt8 × Bool)=>[(0,.d (.str s)),(3,.d (.int .i64 ((sgB ng).length+a.length : Nat))),(4,.d (.int .i64 (sgB ng).length)),(5,.b zb)]) (fun _=>[]) (fun (a,r,zb)=>s=sgB ng++(a++r)∧a.all isD=true∧zb=z0 a) (fun (_,r,_)=>r.length) ([],q,true) [] rfl ⟨hq,rfl,rfl⟩ ?_ (by exact ⟨rfl,rfl,rfl,rfl,rfl⟩)
   rintro ⟨a,r,zb⟩ ⟨hsr,had,hzb⟩
   have hlen : s.length=(sgB ng).length+(a.length+r.length):=by rw [hsr];simp
   cases r with
   | nil =>
    simp only [W3m] at hlen
    refine No rfl (by omega) ?_
    exact Jn (a,[],zb) [] rfl ⟨hsr,had,hzb,fun x t e=>by cases e⟩
   | cons x t =>
    simp only [W0l] at hlen
    have hx : s[(sgB ng).length+a.length]?=some x:=by
     rw [hsr,W0o (by omega),W3f,W0o (W0a _),W2t];rfl
    refine Yes rfl (by omega) ?_
    refine Yx ((sgB ng).length+a.length) x rfl hx ?_
    refine By rfl (fun h1=>?_) fun h1=>?_
    · refine Yx ((sgB ng).length+a.length) x rfl hx ?_
      refine By rfl (fun h2=>?_) fun h2=>?_
      · have hxd : isD x=true:=Yjh.2 ⟨by omega,by omega⟩
        have had' : (a++[x]).all isD=true:=by simp [had,hxd]
        have hsr' : s=sgB ng++((a++[x])++t):=by rw [hsr];simp
        have hl' : (a++[x]).length=a.length+1:=by simp
        refine By rfl (fun h3=>?_) fun h3=>?_
        · refine Yx ((sgB ng).length+a.length) x rfl hx ?_
          refine Ar ((sgB ng).length+(a++[x]).length : Nat) rfl ?_
          refine Bk (a++[x],t,dc ((x.toNat : Int)=48)) [] rfl ⟨hsr',had',?_⟩ (by show t.length<t.length+1;omega) (by exact ⟨rfl,rfl,rfl,rfl,rfl⟩)
          rw [Xge,←hzb,h3,Bool.true_and]
          exact W4g.2 (Xaw.trans ⟨fun e=>beq_iff_eq.2 (Xeq e),fun e=>by rw [beq_iff_eq.1 e];rfl⟩)
        · refine Ar ((sgB ng).length+(a++[x]).length : Nat) rfl ?_
          refine Bk (a++[x],t,false) [] rfl ⟨hsr',had',?_⟩ (by show t.length<t.length+1;omega) (by exact ⟨rfl,rfl,rfl,rfl,rfl⟩)
          rw [Xge,←hzb,W2s.2 h3,W7q]
      · exact Jn (a,x::t,zb) [] rfl ⟨hsr,had,hzb,fun y u e=>by cases e;exact W2s.2 fun e=>h2 (by have:=(Yjh.1 e).2;omega)⟩
    · exact Jn (a,x::t,zb) [] rfl ⟨hsr,had,hzb,fun y u e=>by cases e;exact W2s.2 fun e=>h1 (by have:=(Yjh.1 e).1;omega)⟩
 rintro ⟨a,r,zb⟩ ⟨hsr,had,hzb,hend⟩
 have hlen : s.length=(sgB ng).length+(a.length+r.length):=by rw [hsr];simp
 have hpr:=Xk3 h400 hsr hng had hend
 refine Cu (some 11) (fun (bad : Bool)=>[(0,.d (.str s)),(3,.d (.int .i64 ((sgB ng).length+a.length : Nat))),(4,.d (.int .i64 (sgB ng).length)),(5,.b zb),(62,.b bad)]) (fun _=>[]) (fun bad=>bad=true↔(a=[]∨(1<a.length∧a.head?=some 48))) rfl ?_ ?_
 · refine By rfl (fun h1=>?_) fun h1=>?_
   · exact Jn true [] rfl ⟨fun _=>.inl (W2h.1 (by omega)),fun _=>rfl⟩
   · have ha0 : a≠[]:=fun e=>h1 (by rw [e];simp)
     refine Ar ((sgB ng).length+1 : Nat) rfl ?_
     refine By rfl (fun h2=>?_) fun h2=>?_
     · obtain ⟨x,t,hx⟩ : ∃ x t,a=x::t:=by
        cases a with
        | nil=>exact absurd rfl ha0
        | cons x t=>exact ⟨x,t,rfl⟩
       refine Yx (sgB ng).length x rfl (by rw [hsr,W0o (W0a _),W2t,hx];rfl) ?_
       refine Jn (dc ((x.toNat : Int)=48)) [] rfl (Xaw.trans ⟨fun e=>.inr ⟨by omega,by rw [hx,show x=48 from Xeq e];rfl⟩,fun e=>?_⟩)
       rcases e with e | ⟨_,e⟩
       · exact absurd e ha0
       · rw [hx] at e;injection e with e;rw [e];rfl
     · exact Jn false [] rfl ⟨nofun,fun e=>e.elim (fun e=>absurd e ha0) fun e=>absurd e.1 (by omega)⟩
 intro bad hbad
 refine By rfl (fun h1=>?_) fun h1=>?_
 · refine R1 rfl (.eq ?_)
   unfold plc
   rw [hpr,if_pos (hbad.1 h1)]
 rw [if_neg fun e=>h1 (hbad.2 e)] at hpr
 have ha0 : a≠[]:=fun e=>h1 (hbad.2 (.inl e))
 obtain ⟨x0,hx0,hx45⟩ : ∃ x0,s[0]?=some x0∧(x0=45↔ng=true):=by
  cases ng with
  | true=>exact ⟨45,by rw [hsr];rfl,by simp⟩
  | false =>
   cases hs0 : s with
   | nil=>rw [hs0] at hsr;cases a with
    | nil=>exact absurd rfl ha0
    | cons y a=>cases hsr
   | cons y t =>
    refine ⟨y,rfl,fun e=>?_,nofun⟩
    have:=hng rfl
    rw [hs0,e] at this
    exact absurd rfl this
 have hfin : ∀ (zz : Bool),(zz=true∧(x0.toNat : Int)=45)↔(ng && zz)=true:=fun zz=>by
  rw [W0e]
  exact ⟨fun ⟨h1,h2⟩=>⟨hx45.1 (Xeq h2),h1⟩,fun ⟨h1,h2⟩=>⟨h2,by rw [hx45.2 h1];rfl⟩⟩
 cases r with
 | nil =>
  simp only [W3m] at hlen
  refine No rfl (by omega) ?_
  refine No rfl (by omega) ?_
  refine By rfl (fun h2=>?_) fun h2=>?_
  · refine Yx 0 x0 rfl hx0 ?_
    refine By rfl (fun h3=>?_) fun h3=>?_
    · refine R1 rfl (.eq ?_)
      unfold plc
      rw [hpr,prT,←hzb,if_pos ((hfin zb).1 ⟨h2,h3⟩)]
    · refine R1 rfl (.eq ?_)
      unfold plc
      rw [hpr,prT,←hzb,if_neg fun e=>h3 ((hfin zb).2 e).2];rfl
  · refine R1 rfl (.eq ?_)
    unfold plc
    rw [hpr,prT,←hzb,if_neg fun e=>h2 ((hfin zb).2 e).1];rfl
 | cons x t =>
  simp only [W0l] at hlen
  have hx : s[(sgB ng).length+a.length]?=some x:=by
   rw [hsr,W0o (by omega),W3f,W0o (W0a _),W2t];rfl
  refine Yes rfl (by omega) ?_
  refine Yx ((sgB ng).length+a.length) x rfl hx ?_
  refine By rfl (fun h2=>?_) fun h2=>?_
  · have hx46 : x=46:=Xeq h2
    refine Ar ((sgB ng).length+a.length+1 : Nat) rfl ?_
    subst hx46
    refine Cu (some 1000002) (fun ((b,r,z) : List UInt8 × List UInt8 × Bool)=>[(0,.d (.str s)),(3,.d (.int .i64 ((sgB ng).length+a.length+1+b.length : Nat))),(5,.b z),(6,.d (.int .i64 b.length))]) (fun _=>[]) (fun (b,r,z)=>t=b++r∧b.all isD=true∧z=z0 (a++b)∧Yia r) rfl ?_ ?_
    · refine Lo (fun ((b,r,z) : List UInt8 × List UInt8 × Bool)=>[(0,.d (.str s)),(3,.d (.int .i64 ((sgB ng).length+a.length+1+b.length : Nat))),(5,.b z),(6,.d (.int .i64 b.length))]) (fun _=>[]) (fun (b,r,z)=>t=b++r∧b.all isD=true∧z=z0 (a++b)) (fun (_,r,_)=>r.length) ([],t,zb) [] rfl ⟨rfl,rfl,by rw [W3e];exact hzb⟩ ?_ (by exact ⟨rfl,rfl,rfl,rfl,rfl⟩)
      rintro ⟨b,r,z⟩ ⟨hbr,hbd,hz⟩
      have hlt : t.length=b.length+r.length:=by rw [hbr];simp
      cases r with
      | nil =>
       simp only [W3m] at hlt
       refine No rfl (by omega) ?_
       exact Jn (b,[],z) [] rfl ⟨hbr,hbd,hz,fun x t e=>by cases e⟩
      | cons x r =>
       simp only [W0l] at hlt
       have hx : s[(sgB ng).length+a.length+1+b.length]?=some x:=by
        rw [hsr,W0o (by omega),W0o (by omega),show (sgB ng).length+a.length+1+b.length - (sgB ng).length - a.length=b.length+1 by omega,List.getElem?_cons_succ,hbr,W0o (W0a _),W2t];rfl
       refine Yes rfl (by omega) ?_
       refine Yx ((sgB ng).length+a.length+1+b.length) x rfl hx ?_
       refine By rfl (fun h1=>?_) fun h1=>?_
       · refine Yx ((sgB ng).length+a.length+1+b.length) x rfl hx ?_
         refine By rfl (fun h2=>?_) fun h2=>?_
         · have hxd : isD x=true:=Yjh.2 ⟨by omega,by omega⟩
           have hbd' : (b++[x]).all isD=true:=by simp [hbd,hxd]
           have hbr' : t=(b++[x])++r:=by rw [hbr];simp
           have hl' : (b++[x]).length=b.length+1:=by simp
           refine By rfl (fun h3=>?_) fun h3=>?_
           · refine Yx ((sgB ng).length+a.length+1+b.length) x rfl hx ?_
             refine Ar ((sgB ng).length+a.length+1+(b++[x]).length : Nat) rfl ?_
             refine Ar ((b++[x]).length : Nat) rfl ?_
             refine Bk (b++[x],r,dc ((x.toNat : Int)=48)) [] rfl ⟨hbr',hbd',?_⟩ (by show r.length<r.length+1;omega) (by exact ⟨rfl,rfl,rfl,rfl,rfl⟩)
             rw [←W2p,Xge,←hz,h3,Bool.true_and]
             exact W4g.2 (Xaw.trans ⟨fun e=>beq_iff_eq.2 (Xeq e),fun e=>by rw [beq_iff_eq.1 e];rfl⟩)
           · refine Ar ((sgB ng).length+a.length+1+(b++[x]).length : Nat) rfl ?_
             refine Ar ((b++[x]).length : Nat) rfl ?_
             refine Bk (b++[x],r,false) [] rfl ⟨hbr',hbd',?_⟩ (by show r.length<r.length+1;omega) (by exact ⟨rfl,rfl,rfl,rfl,rfl⟩)
             rw [←W2p,Xge,←hz,W2s.2 h3,W7q]
         · exact Jn (b,x::r,z) [] rfl ⟨hbr,hbd,hz,fun y u e=>by cases e;exact W2s.2 fun e=>h2 (by have:=(Yjh.1 e).2;omega)⟩
       · exact Jn (b,x::r,z) [] rfl ⟨hbr,hbd,hz,fun y u e=>by cases e;exact W2s.2 fun e=>h1 (by have:=(Yjh.1 e).1;omega)⟩
    rintro ⟨b,r,z⟩ ⟨hbr,hbd,hz,hend2⟩
    have hlt : t.length=b.length+r.length:=by rw [hbr];simp
    have hall : r≠[]→¬ (t≠[]∧t.all isD=true):=fun hr ⟨_,h⟩=>by
     cases r with
     | nil=>exact hr rfl
     | cons y r =>
      rw [hbr,W4x,W0e,W6h,W0e,hend2 y r rfl] at h
      cases h.2.1
    refine By rfl (fun h3=>?_) fun h3=>?_
    · refine R1 rfl (.eq ?_)
      have hb : b=[]:=W2h.1 (by omega)
      unfold plc
      rw [hpr,prT,if_neg fun e=>?_]
      cases hr : r with
      | nil=>rw [hb,hr] at hbr;exact e.2.1 hbr
      | cons y u=>exact hall (by rw [hr];nofun) ⟨e.2.1,e.2.2.1⟩
    · cases hr : r with
      | cons y u =>
       rw [hr] at hlt
       simp only [W0l] at hlt
       refine Yes rfl (by omega) ?_
       refine R1 rfl (.eq ?_)
       unfold plc
       rw [hpr,prT,if_neg fun e=>hall (by rw [hr];nofun) ⟨e.2.1,e.2.2.1⟩]
      | nil =>
       rw [hr] at hlt
       simp only [W3m] at hlt
       have htb : t=b:=by rw [hbr,hr,W3e]
       refine No rfl (by omega) ?_
       have hall2 : (t≠[]∧t.all isD=true):=⟨fun e=>by rw [←htb,e] at h3;exact h3 rfl,by rw [htb];exact hbd⟩
       have hfin2:=hfin z
       rw [hz,←htb] at hfin2
       refine By rfl (fun h4=>?_) fun h4=>?_
       · refine Yx 0 x0 rfl hx0 ?_
         refine By rfl (fun h5=>?_) fun h5=>?_
         · refine R1 rfl (.eq ?_)
           unfold plc
           rw [hpr,prT,if_neg fun e=>by
            have:=hfin2.1 ⟨by rw [htb,←hz];exact h4,h5⟩
            rw [e.2.2.2] at this;cases this]
         · refine R1 rfl (.eq ?_)
           unfold plc
           rw [hpr,prT,if_pos ⟨rfl,hall2.1,hall2.2,W2s.2 fun e=>h5 (hfin2.2 e).2⟩,htb]
       · refine R1 rfl (.eq ?_)
         unfold plc
         rw [hpr,prT,if_pos ⟨rfl,hall2.1,hall2.2,W2s.2 fun e=>h4 (by have:=(hfin2.2 e).1;rw [hz,←htb];exact this)⟩,htb]
  · refine Yes rfl (by omega) ?_
    refine R1 rfl (.eq ?_)
    unfold plc
    rw [hpr,prT,if_neg fun e=>h2 (by rw [e.1];rfl)]
end
section
theorem p10 (n : Nat) : Zs (4*n+1) (10 ^ n : Int):=by
 have : (10 ^ n : Int)=((10 ^ n : Nat) : Int):=by simp
 rw [this]
 show 10 ^ n<2 ^ (4*n+1)
 have h1 : 10 ^ n≤16 ^ n:=W5w (by decide) n
 have h2 : 2 ^ (4*n+1)=16 ^ n*2:=by rw [W0p,W4u]
 have h3 : 0<16 ^ n:=W6k (by decide)
 omega
theorem di1 (n : Int) : Rat.divInt n 1=(n : Rat):=by
 rw [W3k]
 have : ((1 : Int) : Rat)=1:=rfl
 grind
def pw (b : Nat) : Rat:=((2 ^ b : Int) : Rat)
theorem Xd1 {n : Nat} (hn : n≤400) : C0 88 [.d (.int .i64 n)] (·=.d (dq ((10 ^ n : Int) : Rat))):=by
 refine En Tryz.func88 fun _ _ _=>?_
 refine Ce rfl (R1.FromInt_ok (z:=10) (by decide)) ?_
 refine Ce rfl (R1.Pow_ok (z:=10) (q:=4) (by unfold Zs;decide) (by omega) (by decide)) ?_
 refine Dw rfl ?_
 refine Ce rfl (R1.FromInt_ok (z:=1) (by decide)) ?_
 refine Ce rfl (R2.Make_ok (p:=4*n+1) (p10 n) (Zs.one (by omega)) (by omega) (by decide)) ?_
 exact R1 rfl (.eq (by rw [di1]))
def dq0 : D:=.st (.pr (dS false []) (dS false []))
theorem Ylz {s a r : List UInt8} {ng : Bool} (hsr : s=sgB ng++(a++r)) (ha0 : a≠[]) (had : a.all isD=true) : ∃ x0,s[0]?=some x0∧(x0=45↔ng=true):=by
 cases ng with
 | true=>exact ⟨45,by rw [hsr];rfl,by simp⟩
 | false =>
  cases a with
  | nil=>exact absurd rfl ha0
  | cons y a =>
   refine ⟨y,by rw [hsr];rfl,fun e=>?_,nofun⟩
   rw [e,W6h,W0e] at had
   exact absurd had.1 (by decide)
theorem Qn {n i : Nat} (hn : n<10 ^ i) (hi : i≤400) : Qs 1601 ((n : Int) : Rat):=by
 have:=p10 i
 have e : (10 ^ i : Int)=((10 ^ i : Nat) : Int):=by simp
 rw [e] at this
 have h1 : Zs (4*i+1) (n : Int):=Nat.lt_trans hn this
 exact Qs.int (h1.mono (by omega)) (by decide)
theorem Parse_yes {s a b : List UInt8} {ng : Bool} (hs : Tx s) (h : prs s=some (ng,a,b)) : C0 41 [.d (.str s)] (·=.tup (.pr (.d (dq (fr ng a b))) (.d (.int .i64 0)))):=by
 obtain ⟨h400,hsr,ha0,had,hbd⟩:=Xo3 h
 have hp : plc s=(b.length : Int):=by unfold plc;rw [h]
 have hbl : b.length≤s.length:=by rw [hsr];unfold ptB;split <;> simp_all <;> omega
 obtain ⟨pt,hfold⟩:=Xxi hsr had hbd
 refine En Tryz.func41 fun _ _ _=>?_
 refine Ce rfl (show C0 _ _ (·=.d (.int .i64 (b.length : Int))) by rw [←hp];exact Places_ok hs) ?_
 refine No rfl (by omega) ?_
 refine Ce rfl (R2.FromInt_ok (z:=0) (by decide)) ?_
 refine Lo (fun ((i,n,p,pt) : Nat × Nat × Nat × Bool)=>[(0,.d (.str s)),(2,.ptr 2 0),(4,.ptr 4 0),(5,.d (.int .i64 p)),(6,.b pt),(7,.d (.int .i64 i))]) (fun (i,n,p,pt)=>[(4,.var (.d (dq ((n : Int) : Rat)))),(2,.var (.st (.pr (.st (.pr (.b false) .nil)) (.st (.pr (.b false) .nil)))))])
  (fun (i,n,p,pt)=>i≤s.length∧p≤i∧n<10 ^ i∧(s.take i).foldl stp (0,0,false)=(n,p,pt)) (fun (i,_)=>s.length - i) (0,0,0,false) [] rfl ⟨W0y _,W0a _,by decide,rfl⟩ ?_ (by exact ⟨rfl,rfl,rfl,rfl,rfl⟩)
 rintro ⟨i,n,p,pt⟩ ⟨hi,hpi,hn,hst⟩
 refine By rfl (fun hlt=>?_) fun hlt=>?_
 · obtain ⟨x,hx⟩ : ∃ x,s[i]?=some x:=⟨_,W0c (by omega)⟩
   have htk : (s.take (i+1)).foldl stp (0,0,false)=stp (n,p,pt) x:=by
    rw [W1j,hx,W6x,hst];rfl
   have hgo : n<10 ^ (i+1):=W0q hn (W0m (by decide) (by omega))
   refine Yx i x rfl hx ?_
   refine By rfl (fun h1=>?_) fun h1=>?_
   · have hx46 : x=46:=Xeq h1
     have e : stp (n,p,pt) x=(n,p,true):=by rw [stp,if_pos hx46]
     refine Yx i x rfl hx ?_
     refine No rfl (by omega) ?_
     refine Ar (i+1 : Nat) rfl ?_
     exact Bk (i+1,n,p,true) [] rfl ⟨by omega,by omega,hgo,by rw [htk,e]⟩ (by show s.length - (i+1)<s.length - i;omega) (by exact ⟨rfl,rfl,rfl,rfl,rfl⟩)
   · have hx46 : ¬ x=46:=fun e=>h1 (by rw [e];rfl)
     have e0 : ¬ isD x=true→stp (n,p,pt) x=(n,p,pt):=fun hd=>by rw [stp,if_neg hx46,if_neg hd]
     refine Yx i x rfl hx ?_
     refine By rfl (fun h2=>?_) fun h2=>?_
     · refine Yx i x rfl hx ?_
       refine By rfl (fun h3=>?_) fun h3=>?_
       · have hxd : isD x=true:=Yjh.2 ⟨by omega,by omega⟩
         have e : stp (n,p,pt) x=(10*n+(x.toNat - 48),if pt then p+1 else p,pt):=Xr0 hxd _
         have hn1 : 10*n+(x.toNat - 48)<10 ^ (i+1):=by rw [W0p];omega
         have q1:=Qn hn (by omega)
         have q2 : Qs 4 ((10 : Int) : Rat):=Qs.int (by unfold Zs;decide) (by decide)
         have q3 : Qs 8 (((x.toNat - 48 : Nat) : Int) : Rat):=Qs.int (by show x.toNat - 48<2 ^ 8;omega) (by decide)
         have q4 : Qs 1606 (((n : Int) : Rat)*((10 : Int) : Rat)):=by
          have e5 : ((n : Int) : Rat)*((10 : Int) : Rat)=(((10*n : Nat) : Int) : Rat):=by rw [←W3v];congr 1;omega
          rw [e5]
          exact (Qn (n:=10*n) (i:=i+1) (by rw [W0p];omega) (by omega)).mono (by decide)
         have hadd : C0 85 [.d (dq (((n : Int) : Rat)*((10 : Int) : Rat))),.d (dq (((x.toNat - 48 : Nat) : Int) : Rat))] (·=.d (dq (((10*n+(x.toNat - 48) : Nat) : Int) : Rat))):=by
          have e5 : ((n : Int) : Rat)*((10 : Int) : Rat)+(((x.toNat - 48 : Nat) : Int) : Rat)=(((10*n+(x.toNat - 48) : Nat) : Int) : Rat):=by rw [←W3v,←W5d];congr 1;omega
          rw [←e5]
          exact R2.Add_ok q4 q3 (by decide)
         refine Dw rfl ?_
         refine Ce rfl (R2.FromInt_ok (z:=10) (by decide)) ?_
         refine Ce rfl (R2.Mul_ok q1 q2 (by decide)) ?_
         refine Yx i x rfl hx ?_
         refine Ar ((x.toNat - 48 : Nat) : Int) rfl ?_
         refine Go.Vm.Cv ((x.toNat - 48 : Nat) : Int) rfl ?_
         refine Ce rfl (R2.FromInt_ok (z:=((x.toNat - 48 : Nat) : Int)) (by omega)) ?_
         refine Ce rfl hadd ?_
         refine By rfl (fun h4=>?_) fun h4=>?_
         · refine Ar (p+1 : Nat) rfl ?_
           refine Ar (i+1 : Nat) rfl ?_
           exact Bk (i+1,10*n+(x.toNat - 48),p+1,pt) [] rfl ⟨by omega,by omega,hn1,by rw [htk,e,if_pos h4]⟩ (by show s.length - (i+1)<s.length - i;omega) (by exact ⟨rfl,rfl,rfl,rfl,rfl⟩)
         · refine Ar (i+1 : Nat) rfl ?_
           exact Bk (i+1,10*n+(x.toNat - 48),p,pt) [] rfl ⟨by omega,by omega,hn1,by rw [htk,e,if_neg h4]⟩ (by show s.length - (i+1)<s.length - i;omega) (by exact ⟨rfl,rfl,rfl,rfl,rfl⟩)
       · refine Ar (i+1 : Nat) rfl ?_
         exact Bk (i+1,n,p,pt) [] rfl ⟨by omega,by omega,hgo,by rw [htk,e0 fun h=>h3 (by have:=(Yjh.1 h).2;omega)]⟩ (by show s.length - (i+1)<s.length - i;omega) (by exact ⟨rfl,rfl,rfl,rfl,rfl⟩)
     · refine Ar (i+1 : Nat) rfl ?_
       exact Bk (i+1,n,p,pt) [] rfl ⟨by omega,by omega,hgo,by rw [htk,e0 fun h=>h2 (by have:=(Yjh.1 h).1;omega)]⟩ (by show s.length - (i+1)<s.length - i;omega) (by exact ⟨rfl,rfl,rfl,rfl,rfl⟩)
 · have hil : i=s.length:=by omega
   rw [hil,W1y,hfold] at hst
   injection hst with e1 e2
   injection e2 with e2 e3
   obtain ⟨x0,hx0,hx45⟩:=Ylz hsr ha0 had
   have q1 : Qs 1601 ((n : Int) : Rat):=Qn hn (by omega)
   have q2 : Qs 1601 ((10 ^ p : Int) : Rat):=Qs.int ((p10 p).mono (by omega)) (by decide)
   have h10 : ((10 ^ p : Int) : Rat)≠0:=fun e=>by
    have h3 : (10 ^ p : Int)=0:=by exact_mod_cast e
    have h4 : 0<(10 ^ p : Int):=W6j (by decide)
    omega
   have hdv:=R2.Div_ok q1 q2 (by decide) h10
   have q3 : Qs 1601 (((n : Int) : Rat) / ((10 ^ p : Int) : Rat)):=by
    rw [←W3k]
    exact Qs.divInt q1.n ((p10 p).mono (by omega)) (fun e=>h10 (by rw [e];rfl))
   refine Dw rfl ?_
   refine Ce rfl (Xd1 (n:=p) (by omega)) ?_
   refine Ce rfl hdv ?_
   refine Yx 0 x0 rfl hx0 ?_
   refine By rfl (fun h1=>?_) fun h1=>?_
   · refine Ce rfl (R2.Neg_ok q3 (by decide)) ?_
     refine RTt rfl (.cons (.eq ?_) (.one (.rf rfl) (fun _ _ e=>by cases e) (fun _ _ e=>by cases e)))
     rw [fr,if_pos (hx45.1 (Xeq h1)),e1,e2];rfl
   · refine RTt rfl (.cons (.eq ?_) (.one (.rf rfl) (fun _ _ e=>by cases e) (fun _ _ e=>by cases e)))
     rw [fr,if_neg fun e=>h1 (by rw [hx45.2 e];rfl),e1,e2];rfl
end
end Go.Proofs.YtdlhdemfnfpboaaGreatDoor.R11
namespace Go.Proofs.YtdlhdemfnfpboaaGreatDoor.P11
open Go Go.Vm Go.Num Go.Tow Go.Proofs.YtdlhdemfnfpboaaGreatDoor Go.Proofs.YtdlhdemfnfpboaaGreatDoor.P9 Go.Proofs.YtdlhdemfnfpboaaGreatDoor.R11
structure Pk (x : Nm) : Prop where
 k : x.k≤3
 re : Xbz x.k x.t
 t : TS 300 x.k x.t
 mt : MgT 64 x.k x.t
 ml : MgL 64 (toL x.k x.a)∨(x.k=0∧MgL 1700 (toL x.k x.a))
theorem MgL.mono' {m n : Nat} {l : List Rat} (h : MgL m l) (hn : m≤n) : MgL n l:=fun x hx=>(h x hx).mono hn
theorem MgT.mono' : ∀ {k m n : Nat} {t : Tw k},MgT m k t→m≤n→MgT n k t
 | 0,_,_,_,_,_=>trivial
 | _+1,_,_,_,h,hn=>⟨MgT.mono' h.1 hn,MgL.mono' h.2 hn⟩
theorem Xqq {k n : Nat} {a : El k} (h : MgL n (toL k a)) (hk : k≤3∧n≤400∨k=0∧n≤3999) : Sz 4000 (toL k a):=by
 refine (Sz.all h).mono ?_
 rw [Xac]
 rcases hk with ⟨h3,hn⟩ | ⟨rfl,hn⟩
 · have hp : 2 ^ k≤2 ^ 3:=W0m (by decide) h3
   have:=W1w hn hp
   omega
 · rw [Nat.pow_zero];omega
structure Scd (x : Nm) (u h : Rat) : Prop where
 s1 : Sz 4000 (toL x.k (mul x.k x.t x.a (rat x.k u)))
 s2 : Sz 4000 (toL x.k (scl x.k x.t x.a u h))
 w1 : Wid (bx x.k x.t (scl x.k x.t x.a u h) 2048) 1
 w2 : ∀ b,1000000≤b→Wid (enc x.k x.t (scl x.k x.t x.a u h) b) 1
theorem Pk.sz {x : Nm} (H : Pk x) : Sz 4000 (toL x.k x.a):=by
 rcases H.ml with h | ⟨h0,h⟩
 · exact Xqq h (.inl ⟨H.k,by decide⟩)
 · exact Xqq h (.inr ⟨h0,by decide⟩)
theorem Pk.sc {x : Nm} (H : Pk x) {u h : Rat} (hu : Qs 200 u) (hh : Qs 2 h) : Scd x u h:=by
 rcases H.ml with hl | ⟨h0,hl⟩
 · have m1:=Xk8 (t:=x.t) hl hu
   have m2:=Xtc m1 (Xtb (k:=x.k) hh (by decide))
   exact ⟨Xqq m1 (.inl ⟨H.k,by decide⟩),Xqq m2 (.inl ⟨H.k,by decide⟩),Yc2 H.re H.mt (MgL.mono' m2 (by decide)) H.k,Xho H.re (MgT.mono' H.mt (by decide)) (MgL.mono' m2 (by decide)) H.k (show 10000≤10000 by decide)⟩
 · have m1:=Xk8 (t:=x.t) hl hu
   have m2:=Xtc m1 (Xtb (k:=x.k) hh (by decide))
   refine ⟨Xqq m1 (.inr ⟨h0,by decide⟩),Xqq m2 (.inr ⟨h0,by decide⟩),?_,Xho H.re (MgT.mono' H.mt (by decide)) (MgL.mono' m2 (by decide)) H.k (show 10000≤10000 by decide)⟩
   obtain ⟨k,t,a⟩:=x
   obtain rfl : k=0:=h0
   exact (Xfx (m:=64) (b:=2048) H.re H.mt m2 (show 0<eE 64 2048 0 _ by exact (by decide : 0<2*2048 - 2))).mono (show 1≤2*2048 - 2 by decide)
theorem Yeb {n : Nat} (hn : n≤60) : Qs 200 ((10 ^ n : Int) : Rat):=by
 have h1 : (10 : Nat) ^ n≤10 ^ 60:=W0m (by decide) hn
 refine Qs.int ?_ (by decide)
 show ((10 : Int) ^ n).natAbs<2 ^ 200
 rw [W6u]
 exact W1q h1 (by decide)
theorem Yl7 {k : Nat} (hk : k≤3) : eB 4000 (2*(1000000+1+16)) k≤274877906944∧vB 4000 k (4000+eB 4000 (2*(1000000+1+16)) k+4)≤4398046511104∧vB 4000 k (4000+bB 4000 2048 k+4)≤4398046511104∧bB 4000 2048 k≤274877906944∧cB 300 k≤1000000000:=by
 have h : k=0∨k=1∨k=2∨k=3:=by omega
 rcases h with rfl | rfl | rfl | rfl <;> decide +kernel
theorem Xd1 {n : Nat} (hn : n≤400) : C0 123 [.d (.int .i64 n)] (·=.d (dz (10 ^ n))):=by
 refine En Tryz.func123 fun _ _ _=>?_
 refine Ce rfl (FromInt_ok (z:=10) (by decide)) ?_
 refine Ce rfl (Xtz (z:=10) (q:=4) (show (10 : Int).natAbs<2 ^ 4 by decide) (by omega) (by decide)) ?_
 exact R1 rfl (.rf rfl)
theorem Xv2 {z : Int} {p : Nat} (hz : Zs p z) (hp : 1≤p) (hp2 : p≤8796093022208) : C0 122 [.d (dz z)] (·=.d (dq (z : Rat))):=by
 have h:=Make_ok hz (Zs.one hp) hp2 (by decide)
 rw [Xuo] at h
 refine En Tryz.func122 fun _ _ _=>?_
 refine Dw rfl ?_
 refine Ce rfl (FromInt_ok (z:=1) (by decide)) ?_
 refine Ce rfl h ?_
 exact R1 rfl (.rf rfl)
theorem Xpz {x : Nm} {d : Nat} {h : Rat} (H : Pk x) (hd : d≤60) (hh : Qs 2 h) : C0 67 [.d (dN x),.d (.int .i64 d),.d (dq h)] fun v=>∃ z,v=.tup (.pr (.d (dz z)) (.d (.int .i64 0)))∧Xb4 x.k x.t (scl x.k x.t x.a ((10 ^ d : Int) : Rat) h) z∧(dig z.natAbs).length≤274877906944:=by
 have hu:=Yeb hd
 have S:=H.sc hu hh
 obtain ⟨b1,b2,b3,b4,b5⟩:=Yl7 H.k
 have hz : Zs 200 (10 ^ d : Int):=hu.n
 refine En Tryz.func67 fun _ _ _=>?_
 refine No rfl (by omega) ?_
 refine No rfl (by omega) ?_
 refine Dw rfl ?_
 refine Ce rfl (Xd1 (by omega)) ?_
 refine Ce rfl (Xv2 hz (by decide) (by decide)) ?_
 refine Ce rfl (P9.FromRat_ok hu (by decide)) ?_
 refine Ce rfl (Ykd H.t H.sz hu (by have:=H.k;omega) (by decide) (by decide) (by decide) b5) ?_
 refine No rfl (by decide) ?_
 refine Dw rfl ?_
 refine Ce rfl (P9.FromRat_ok hh (by decide)) ?_
 refine Ce rfl (Ykh (x:=⟨x.k,x.t,mul x.k x.t x.a (rat x.k ((10 ^ d : Int) : Rat))⟩) H.t S.s1 hh (by have:=H.k;show x.k≤8;omega) (by decide) (by decide) (by decide)) ?_
 refine No rfl (by decide) ?_
 refine Ca rfl (Xse (P:=1000000) H.re S.w2 (H.t.mono (by decide)) S.s2 (by decide) (show x.k≤16 by have:=H.k;omega) (by decide) b1 b2) fun v hv=>?_
 obtain ⟨z,rfl,hz⟩:=hv
 exact Rt rfl (.tup (.cons (.rf rfl) Xb3)) ⟨z,rfl,hz⟩
theorem dz0 : dz 0=dS false []:=by show D.st (.pr (.bool _) (ws (dig 0)))=_;rw [Xai];rfl
theorem Floor_ok {x : Nm} {d : Nat} (H : Pk x) (hd : d≤60) : C0 32 [.d (dN x),.d (.int .i64 d)] fun v=>∃ z,v=.tup (.pr (.d (dz z)) (.d (.int .i64 0)))∧Xb4 x.k x.t (scl x.k x.t x.a ((10 ^ d : Int) : Rat) ((0 : Int) : Rat)) z∧(dig z.natAbs).length≤274877906944:=by
 refine En Tryz.func32 fun _ _ _=>?_
 refine Dw rfl ?_
 refine Ce rfl (Xav (z:=0) (by decide)) ?_
 refine Ca rfl (Xpz H hd (Qs.int (z:=0) (show Int.natAbs 0<2 ^ 2 by decide) (by decide))) fun v hv=>?_
 obtain ⟨z,rfl,hz⟩:=hv
 exact Rt rfl (.tup (.cons (.rf rfl) Xb3)) ⟨z,rfl,hz⟩
abbrev hf : Rat:=Rat.divInt 1 2
theorem Yjk : Qs 2 hf:=⟨show hf.num.natAbs<2 ^ 2 by decide,show ((hf.den : Int)).natAbs<2 ^ 2 by decide⟩
theorem Xyk {x : Nm} {d : Nat} (H : Pk x) (hd : d≤60) : C0 53 [.d (dN x),.d (.int .i64 d)] fun v=>∃ z,v=.tup (.pr (.d (dz z)) (.d (.int .i64 0)))∧Xb4 x.k x.t (scl x.k x.t x.a ((10 ^ d : Int) : Rat) hf) z∧(dig z.natAbs).length≤274877906944:=by
 refine En Tryz.func53 fun _ _ _=>?_
 refine Dw rfl ?_
 refine Ce rfl (Xo2 (a:=1) (b:=2) (by decide) (by decide)) ?_
 refine Ca rfl (Xpz H hd Yjk) fun v hv=>?_
 obtain ⟨z,rfl,hz⟩:=hv
 exact Rt rfl (.tup (.cons (.rf rfl) Xb3)) ⟨z,rfl,hz⟩
end Go.Proofs.YtdlhdemfnfpboaaGreatDoor.P11
namespace Go.Vm
open Go
abbrev cxM (P : Program) (gb : Gb P) (t : Tab P) (m : Mx P) (hpr : ∀ T ti,t.tb T=some ti→∀ a c,ti.z≠.pr a c) (n : Nat) (hn : n≤1000000) (fn : Func) (W : GW) (Q : AV→Prop) (hg : gb.g W) : Cx:=⟨P,gb,t.tb,fun T ti h=>⟨t.ok T ti h,hpr T ti h⟩,m,n,hn,W,fun _=>False,θe,bodyPostM Fence.wide 8 P fn (Ret W Q),hg⟩
theorem EnM {P : Program} [gb : Gb P] [t : Tab P] [hp : Npr P] [m : Mx P] {f n : Nat} {fn : Func} {x : Code} {args : List AV} {Q : AV → Prop} (hf : P.funcs[f]? = some fn) (h : ∀ W hg hn, StP (cxM P gb t m hp.h n hn fn W Q hg) (.j [] [.c x] (Ydx 0 args) [])) (hname : (fn.name == "runtime.NumGoroutine") = false := by exact rfl) (hb : fn.body = some x := by exact rfl)
 (hN : fn.ntmps=n:=by exact rfl) (hl : (Nat.ble args.length n && Nat.ble n 1000000 && args.all Xkl)=true:=by exact rfl) : C P f args Q:=by
 refine ⟨⟨fn,hf,hname,by rw [hb];rfl⟩,fun W vs hg ha=>(callsIn_wide (n:=8)).1 (callsIn_of_wp_marks hf hb trivial (wpIn_wide.2 ?_) rfl)⟩
 have h:=h W hg (by simp only [W0e] at hl;exact W1x hl.1.2)
 simp only [StP,sem,←Xkc] at h
 simp only [W0e] at hl
 obtain ⟨⟨hl1,hl2⟩,hl3⟩:=hl
 have hl1:=W1x hl1
 have hlen:=ha.len
 refine wp_mono (h _ W.w ⟨_,W,θe,rfl,⟨Fm.refl W _,⟨rfl,by simp [hN];omega,fun t v ht=>?_⟩,⟨fun o x h=>(by cases h),fun o x b h=>(by cases h),fun o o' x x' b h=>(by cases h),fun o x i h=>(by cases h)⟩,fun t v i ht hi=>?_⟩,fun _ _=>rfl,rfl⟩) fun e a w h=>by cases e <;> exact h
 · obtain ⟨_,u,h2,h3,_⟩:=Xl8 ha ht
   rw [W7f] at h2
   have hlt:=Xbe h2
   rw [W0c hlt] at h2
   injection h2 with h2
   simp only [Array.getD]
   rw [dif_pos (by simp;omega)]
   simp [W6o,hlt,h2]
   exact h3
 · obtain ⟨_,u,_,_,h4⟩:=Xl8 ha ht
   exact absurd hi (Xjr (W1m.1 hl3 v h4) i)
theorem StP.rest2 {c : Cx} {G : List (Nat × Bool)} {x y : Code} {E : Env} {H : Hpl} (h : ∀ a w,c.Nx (fun s'=>s'=sem E H) a w→x.wp c.P (Exit.then (y.wp c.P c.fin) c.fin) a w) : StP c (.j G [.c x,.c y] E H) :=
 fun a w hw=>wp_mono (h a w hw) fun e a w h=>by
  cases e with
  | normal=>exact wp_mono h fun e a w h=>by cases e <;> exact h
  | _=>exact h
theorem Tl {c : Cx} {s : St} (id : Nat) {G : List (Nat × Bool)} {x y : Code} {E : Env} {H : Hpl} (h : nxT c.tb c.n (some id) s=some (G,x,[.c y],E,H)) (k : ∀ a w,c.Nx (fun s'=>s'=sem E H) a w→x.wpIn Fence.wide 8 c.P (Exit.then (y.wpIn Fence.wide 8 c.P c.fin) c.fin) a w) : StP c s:=by
 have key : StP c (.j G [.c x,.c y] E H):=StP.rest2 fun a w hw=>wp_mono (wpIn_wide.1 (k a w hw)) fun e a w h=>by
  cases e with
  | normal=>exact wpIn_wide.1 h
  | _=>exact h
 unfold nxT at h
 simp only at h
 split at h <;> cases h
 rename_i hr
 exact Xfi 1000 (by rw [hr];exact key)
theorem Xag {α : Type} {n : Nat} : ∀ {l : List α},l.length=n+1→∃ t l',l=t::l'∧l'.length=n
 | t::l',h=>⟨t,l',rfl,by simpa using h⟩
end Go.Vm
namespace Go.Proofs.YtdlhdemfnfpboaaGreatDoor
open Go Go.Vm Go.Num Go.Proofs Go.Shelf Go.RowKit
section
def pa6 : Option (List Nat)→AV
 | none=>.nil
 | some w=>.own 600 1 0 w.length
def paH : Option (List Nat)→Hpl
 | none=>[(2,.var (.st (.pr (.b false) .nil)))]
 | some w=>[(2,.var (.st (.pr (.b false) .nil))),(600,.arr 1 (w.map wd))]
def paI (s d : List UInt8) : Option (List Nat)→Prop
 | none=>d=s
 | some w=>∃ u,s=u++d∧w=dig (Xbx u)∧0<Xbx u
theorem Xx0 {c : Nat} (h : c<4294967296) (h0 : 0<c) : dig c=[c]:=by
 have h1 : val [c]=c:=by simp [val]
 have:=Xcx (l:=[c]) (fun x hx=>by rw [W0g.1 hx];exact h) (Xer (fun x hx=>by rw [W0g.1 hx];exact h) (by simp) (by rw [h1];have : 4294967296 ^ ([c].length - 1)=1:=rfl;omega))
 rwa [h1] at this
theorem Xj7 {l : List UInt8} (h : ∀ b∈l,Xh6 b) : (dig (Xbx l)).length≤l.length :=
 Xao (W0q (Xhp h) (W5w (by decide) _))
theorem Xyl {s : List UInt8} (hs : ∀ b∈s,Xh6 b) (hl : s.length≤65536) (h0 : ∃ b l,s=b::l∧48<b.toNat) : C0 205 [.d (.str s)] (·=.tup (.pr (.d (dz (Xbx s))) (.d (.int .i64 0)))):=by
 obtain ⟨b,l,hbl,hb⟩:=h0
 have hcp : C0 54 [.d (.str s),.d (.str [45])] (·=.tup (.pr (.d (.str s)) (.b false))):=by
  have hn : ¬ s.take [(45 : UInt8)].length=[45]:=fun e=>by
   rw [hbl] at e
   have : b=45:=by simpa using e
   rw [this] at hb;exact absurd hb (by decide)
  refine (Xdv (s:=s) (t:=[45]) (by show s.length<_;omega) (by decide)).mono fun v hv=>?_
  rw [hv,if_neg hn]
  congr 3
  exact W2s.2 fun e=>hn (Xaw.1 e)
 refine En Tryz.func205 fun _ _ _=>?_
 refine No rfl (by omega) ?_
 refine Ce rfl hcp ?_
 refine No rfl (by rw [hbl];simp) ?_
 refine Yx 0 b rfl (by rw [hbl];rfl) ?_
 refine No rfl (fun e=>by omega) ?_
 refine Lo (fun ((d,o) : List UInt8 × Option (List Nat))=>[(2,.ptr 2 0),(3,.d (.int .i64 0)),(4,.d (.str d)),(5,.b false),(6,pa6 o)]) (fun (_,o)=>paH o)
  (fun (d,o)=>d.length≤s.length∧(∀ b∈d,Xh6 b)∧paI s d o) (fun (d,_)=>d.length) (s,none) [] rfl ⟨W0a _,hs,rfl⟩ ?_ (by exact ⟨rfl,rfl,rfl,rfl,rfl⟩)
 rintro ⟨d,o⟩ ⟨hdl,hdd,hI⟩
 cases o with
 | none =>
  refine By rfl (fun hd0=>?_) fun hd0=>?_
  · obtain ⟨n,hn⟩ : ∃ n,n=(d.length - 1) % 9+1:=⟨_,rfl⟩
    refine Ar (d.length - 1 : Nat) rfl ?_
    refine Ar ((d.length - 1) % 9 : Nat) rfl ?_ (reN (b:=9) (by decide) rfl)
    refine Ar (n : Nat) rfl ?_
    have hnl : n≤d.length:=by omega
    refine Lo (fun (i : Nat)=>[(2,.ptr 2 0),(3,.d (.int .i64 0)),(4,.d (.str d)),(5,.b false),(6,pa6 (none)),(7,.d (.int .i64 n)),(8,.d (.int .u64 (Xbx (d.take i) : Nat))),(9,.d (.int .u64 (10 ^ i : Nat))),(46,.d (.int .i64 n)),(47,.d (.int .i64 i))]) (fun _=>paH (none)) (fun i=>i≤n) (fun i=>n - i) 0 [] rfl (W0y _) ?_ (by exact ⟨rfl,rfl,rfl,rfl,rfl⟩)
    intro i hi
    have htk : ∀ j,j≤n→Xbx (d.take j)<10 ^ j∧10 ^ j≤10 ^ 9:=fun j hj=>by
     have:=Xhp (l:=d.take j) fun b hb=>hdd b (W5h hb)
     rw [W0i,W1u (by omega)] at this
     exact ⟨this,W0m (by decide) (by omega)⟩
    refine By rfl (fun hlt=>?_) fun hlt=>?_
    · obtain ⟨x,hx⟩ : ∃ x,d[i]?=some x:=⟨_,W0c (by omega)⟩
      have hxd:=hdd x (W1b hx)
      unfold Xh6 at hxd
      have hsn : d.take (i+1)=d.take i++[x]:=by rw [W1j,hx];rfl
      have hv:=Xb1 (d.take i) x
      rw [←hsn] at hv
      have h1:=htk i (by omega)
      have h2:=htk (i+1) (by omega)
      refine Yx i x rfl hx ?_
      refine No rfl (by omega) ?_
      refine No rfl (by omega) ?_
      refine Ar (10*Xbx (d.take i) : Nat) rfl ?_
      refine Ar (x.toNat - 48 : Nat) rfl ?_
      refine Go.Vm.Cv (x.toNat - 48 : Nat) rfl ?_
      refine Ar (Xbx (d.take (i+1)) : Nat) rfl ?_
      refine Ar (10 ^ (i+1) : Nat) rfl ?_ (wr (by rw [W0p];simp) (by simp only [inK];omega))
      refine Ar (i+1 : Nat) rfl ?_
      exact Bk (i+1) [] rfl (show i+1≤n by omega) (show n - (i+1)<n - i by omega) (by exact ⟨rfl,rfl,rfl,rfl,rfl⟩)
    · have hin : i=n:=by omega
      subst hin
      obtain ⟨c0,hc0⟩ : ∃ c,c=Xbx (d.take i):=⟨_,rfl⟩
      obtain ⟨F,hF⟩ : ∃ F,F=10 ^ i:=⟨_,rfl⟩
      have h1:=htk i (W0a _)
      rw [←hc0,←hF] at h1
      have hds : d=s:=hI
      refine Lo (fun (_ : Unit)=>[(2,.ptr 2 0),(3,.d (.int .i64 0)),(4,.d (.str d)),(5,.b false),(6,.nil),(7,.d (.int .i64 i)),(8,.d (.int .u64 c0)),(70,.d (.int .i64 0)),(71,.d (.int .i64 0))]) (fun _=>[(2,.var (.st (.pr (.b false) .nil)))]) (fun _=>True) (fun _=>0) () [] rfl trivial ?_ (by exact ⟨by rw [hc0];rfl,rfl,rfl,rfl,rfl⟩)
      intro _ _
      refine No rfl (by decide) ?_
      have hcp : 0<c0:=by
       rw [hc0,hds,hbl]
       obtain ⟨q,hq⟩ : ∃ q,i=q+1:=⟨i - 1,by omega⟩
       rw [hq,List.take_succ_cons]
       exact Xxw hb
      refine Yes rfl (by omega) ?_
      refine Go.Vm.Cv c0 rfl ?_
      refine ApW rfl (by simp) (by simp) ?_
      refine Sdp i (d.drop i) rfl (by omega) rfl ?_
      refine Bk (d.drop i,some [c0]) [(97,600)] rfl ⟨by simp only [W1i];omega,fun b hb=>hdd b (W6g hb),d.take i,by rw [←hds,W4h],by rw [←hc0,Xx0 (by omega) hcp],by rw [←hc0];exact hcp⟩ (by show (d.drop i).length<d.length;rw [W1i];omega) (by exact ⟨rfl,rfl,rfl,rfl,rfl⟩)
  · exact absurd (show d=s from hI) (fun e=>by rw [e,hbl] at hd0;simp at hd0)
 | some w =>
  obtain ⟨u,hu,hw,hv0⟩:=hI
  refine By rfl (fun hd0=>?_) fun hd0=>?_
  · obtain ⟨n,hn⟩ : ∃ n,n=(d.length - 1) % 9+1:=⟨_,rfl⟩
    refine Ar (d.length - 1 : Nat) rfl ?_
    refine Ar ((d.length - 1) % 9 : Nat) rfl ?_ (reN (b:=9) (by decide) rfl)
    refine Ar (n : Nat) rfl ?_
    have hnl : n≤d.length:=by omega
    refine Lo (fun (i : Nat)=>[(2,.ptr 2 0),(3,.d (.int .i64 0)),(4,.d (.str d)),(5,.b false),(6,pa6 (some w)),(7,.d (.int .i64 n)),(8,.d (.int .u64 (Xbx (d.take i) : Nat))),(9,.d (.int .u64 (10 ^ i : Nat))),(46,.d (.int .i64 n)),(47,.d (.int .i64 i))]) (fun _=>paH (some w)) (fun i=>i≤n) (fun i=>n - i) 0 [] rfl (W0y _) ?_ (by exact ⟨rfl,rfl,rfl,rfl,rfl⟩)
    intro i hi
    have htk : ∀ j,j≤n→Xbx (d.take j)<10 ^ j∧10 ^ j≤10 ^ 9:=fun j hj=>by
     have:=Xhp (l:=d.take j) fun b hb=>hdd b (W5h hb)
     rw [W0i,W1u (by omega)] at this
     exact ⟨this,W0m (by decide) (by omega)⟩
    refine By rfl (fun hlt=>?_) fun hlt=>?_
    · obtain ⟨x,hx⟩ : ∃ x,d[i]?=some x:=⟨_,W0c (by omega)⟩
      have hxd:=hdd x (W1b hx)
      unfold Xh6 at hxd
      have hsn : d.take (i+1)=d.take i++[x]:=by rw [W1j,hx];rfl
      have hv:=Xb1 (d.take i) x
      rw [←hsn] at hv
      have h1:=htk i (by omega)
      have h2:=htk (i+1) (by omega)
      refine Yx i x rfl hx ?_
      refine No rfl (by omega) ?_
      refine No rfl (by omega) ?_
      refine Ar (10*Xbx (d.take i) : Nat) rfl ?_
      refine Ar (x.toNat - 48 : Nat) rfl ?_
      refine Go.Vm.Cv (x.toNat - 48 : Nat) rfl ?_
      refine Ar (Xbx (d.take (i+1)) : Nat) rfl ?_
      refine Ar (10 ^ (i+1) : Nat) rfl ?_ (wr (by rw [W0p];simp) (by simp only [inK];omega))
      refine Ar (i+1 : Nat) rfl ?_
      exact Bk (i+1) [] rfl (show i+1≤n by omega) (show n - (i+1)<n - i by omega) (by exact ⟨rfl,rfl,rfl,rfl,rfl⟩)
    · have hin : i=n:=by omega
      subst hin
      obtain ⟨c0,hc0⟩ : ∃ c,c=Xbx (d.take i):=⟨_,rfl⟩
      obtain ⟨F,hF⟩ : ∃ F,F=10 ^ i:=⟨_,rfl⟩
      have h1:=htk i (W0a _)
      rw [←hc0,←hF] at h1
      have hww : Xam w:=by rw [hw];exact Xad _
      have hvw : val w=Xbx u:=by rw [hw,Xae]
      have hwl : w.length≤65536:=by
       rw [hw]
       refine W0j (Xj7 fun b hb=>hs b (by rw [hu];exact W2e _ hb)) ?_
       rw [hu,W0d] at hl
       omega
      refine Lo (fun ((j,lo,cr) : Nat × List Nat × Nat)=>[(2,.ptr 2 0),(3,.d (.int .i64 0)),(4,.d (.str d)),(5,.b false),(6,.own 600 1 0 w.length),(7,.d (.int .i64 i)),(8,.d (.int .u64 cr)),(9,.d (.int .u64 F)),(70,.d (.int .i64 w.length)),(71,.d (.int .i64 j))]) (fun (_,lo,_)=>[(2,.var (.st (.pr (.b false) .nil))),(600,.arr 1 (lo.map wd))])
       (fun (j,lo,cr)=>j≤w.length∧lo.length=w.length∧Xam lo∧cr<F∧val (lo.take j)+4294967296 ^ j*cr=val (w.take j)*F+c0∧lo.drop j=w.drop j) (fun (j,_,_)=>w.length - j) (0,w,c0) [] rfl ⟨W0y _,rfl,hww,h1.1,by simp [val],rfl⟩ ?_ (by exact ⟨by rw [hc0,hF];rfl,rfl,rfl,rfl,rfl⟩)
      rintro ⟨j,lo,cr⟩ ⟨hj,hlo,hwo,hcr,hval,hdr⟩
      refine By rfl (fun hlt=>?_) fun hlt=>?_
      · obtain ⟨x,hx⟩:=xat (l:=lo) (k:=j) (by omega)
        have hxb:=ww hx hwo
        have hxw : w[j]?=some x:=by
         have:=congrArg (fun l=>l[0]?) hdr
         simpa [hx] using this.symm
        have hxF : x*F≤4294967295*F:=W0s F (by omega)
        obtain ⟨s1,hs1⟩ : ∃ s1,s1=cr+x*F:=⟨_,rfl⟩
        have hs1b : s1<4294967296*F:=by omega
        refine Eo j rfl (by omega) ?_
        refine Ld (wd x) rfl (mp hx) ?_
        refine Go.Vm.Cv x rfl ?_
        refine Ar (x*F : Nat) rfl ?_ (wr (W2u ..).symm (by simp only [inK];omega))
        refine Ar s1 rfl ?_
        refine Go.Vm.Cv (s1 % 4294967296 : Nat) rfl ?_ (by rw [wWm];omega)
        refine Eo j rfl (by omega) ?_
        refine Sto rfl (by simp;omega) ms ?_
        refine Ar (s1 / 2 ^ 32 : Nat) rfl ?_ (Xhz (n:=32) (by decide))
        refine Ar (j+1 : Nat) rfl ?_
        refine Bk (j+1,lo.set j (s1 % 4294967296),s1 / 2 ^ 32) [] rfl ⟨by omega,by simp [hlo],Xgf hwo (by omega),W3y (by simpa using hs1b),?_,?_⟩ (by show w.length - (j+1)<w.length - j;omega) (by exact ⟨rfl,rfl,rfl,rfl,rfl⟩)
        · rw [Xa6 (by omega),Xab hxw,W1e,W0p]
          have h3 : 4294967296 ^ j*s1=4294967296 ^ j*cr+4294967296 ^ j*x*F:=by rw [hs1,W0u,W0r]
          have h4 : 4294967296 ^ j*(s1 % 4294967296)+4294967296 ^ j*4294967296*(s1 / 2 ^ 32)=4294967296 ^ j*s1:=by
           rw [W0r,←W0u]
           congr 1
           omega
          omega
        · rw [List.drop_set_of_lt (by omega)]
          have:=congrArg (List.drop 1) hdr
          rw [W4p,W4p] at this
          exact this
      · have hje : j=w.length:=by omega
        have hval' : val lo+4294967296 ^ lo.length*cr=Xbx u*F+c0:=by
         rw [hje,W0b (by omega),W0b (W0a _),hvw] at hval
         rw [hlo];exact hval
        have hv' : Xbx (u++d.take i)=Xbx u*F+c0:=by
         rw [Xga,W0i,W1u hnl,←hF,←hc0]
        have hsd : s=(u++d.take i)++d.drop i:=by rw [W2p,W4h];exact hu
        have hF0 : 0<F:=by rw [hF];exact W6k (by decide)
        have hgrow : Xbx u≤Xbx u*F:=W3x _ hF0
        refine By rfl (fun hc=>?_) fun hc=>?_
        · refine Go.Vm.Cv cr rfl ?_
          refine ApO ((lo++[cr]).map wd) rfl rfl (by simp [hlo]) (by simp;rfl) (by simp;omega) ?_
          refine Sdp i (d.drop i) rfl (by omega) rfl ?_
          refine Bk (d.drop i,some (lo++[cr])) [(97,600)] rfl ⟨by simp only [W1i];omega,fun b hb=>hdd b (W6g hb),u++d.take i,hsd,?_,by omega⟩ (by show (d.drop i).length<d.length;rw [W1i];omega) (by exact ⟨by simp only [W0h];rfl,rfl,rfl,rfl,rfl⟩)
          have hva : val (lo++[cr])=Xbx u*F+c0:=by rw [Xb8,←hval'];simp [val]
          rw [hv',←hva]
          refine (Xcx (hwo.app (.cons (by omega) .nil)) (Xer (hwo.app (.cons (by omega) .nil)) (by simp) ?_)).symm
          rw [Xb8,W0d,W3r,W3c]
          have : 4294967296 ^ lo.length*1≤4294967296 ^ lo.length*val [cr]:=W0n _ (by simp [val];omega)
          omega
        · refine Sdp i (d.drop i) rfl (by omega) rfl ?_
          refine Bk (d.drop i,some lo) [] rfl ⟨by simp only [W1i];omega,fun b hb=>hdd b (W6g hb),u++d.take i,hsd,?_,by omega⟩ (by show (d.drop i).length<d.length;rw [W1i];omega) (by exact ⟨by simp only [pa6,hlo];rfl,rfl,rfl,rfl,rfl⟩)
          have hcr0 : cr=0:=by omega
          rw [hcr0,W2w,W2n] at hval'
          rw [hv',←hval']
          have hlb:=Xlt (n:=Xbx u) (by omega)
          rw [←hw] at hlb
          have hl0 : 0<w.length:=by
           rw [hw];exact W4d.2 fun e=>by have:=Xq3.1 e;omega
          exact (Xcx hwo (Xer hwo (by omega) (by rw [hlo];omega))).symm
  · have hd0 : d=[]:=W2h.1 (by omega)
    subst hd0
    rw [W3e] at hu
    subst hu
    subst hw
    have hdl:=Xj7 hs
    refine Fz 29 6 ((dig (Xbx s)).map wd) rfl (by simp) (by rw [W0z,W0b (by simp)]) ?_
    refine Ce rfl (Xah (b:=false) (n:=Xbx s) (by omega)) ?_
    exact R0t
end
section
theorem Xtn {q n : Nat} {l : List Nat} (hw : Xam l) (hq : q+n≤l.length) (hl : n≤1099511627776) : CN0 72 [.own 1000001 1 q n] [(1000001,.arr 1 (l.map wd))] fun v=>∃ k,k≤n∧v=.own 1000001 1 q k∧(l.drop q).take k=dig (val ((l.drop q).take n)):=by
 have dtk : ∀ {m k : Nat},k<m→((l.drop q).take m)[k]?=l[q+k]?:=fun h=>by rw [W1l,if_pos h,W2b]
 have Yai : ∀ {m : Nat},q+m≤l.length→((l.drop q).take m).length=m:=fun h=>by rw [W0i,W1i];omega
 refine EnW Tryz.func72 fun _ _ _ _=>?_
 refine Lo (fun k=>[(0,.own 1000001 1 q k)]) (fun _=>[(1000001,.arr 1 (l.map wd))]) (fun k=>k≤n∧val ((l.drop q).take k)=val ((l.drop q).take n)) id n [] rfl ⟨W0a _,rfl⟩ fun k ⟨hk,hv⟩=>?_
 have hwk:=(hw.drop q).take k
 refine By rfl (fun h=>?_) fun h=>?_
 · obtain ⟨u,hu⟩:=xat (l:=l) (k:=q+(k - 1)) (by omega)
   have hs:=Xab (l:=l.drop q) (k:=k - 1) (x:=u) (by rw [W2b];exact hu)
   rw [show k - 1+1=k by omega,hv] at hs
   refine Ar (k - 1 : Nat) rfl ?_
   refine El (k - 1) rfl (by omega) ?_
   refine Ld (wd u) rfl (mp hu) ?_
   refine By rfl (fun h0=>?_) fun h0=>?_
   · refine Ar (k - 1 : Nat) rfl ?_
     refine Sw 0 (k - 1) rfl (by omega) (by omega) ?_
     exact Bk (k - 1) [] rfl ⟨by omega,by rw [hs,show u=0 by omega,W2w,W2n]⟩ (show k - 1<k by omega)
   · exact Rw [] [(1000001,.arr 1 (l.map wd))] rfl (.one (.rf rfl) rfl rfl) ⟨rfl,k,hk,rfl,by rw [←hv,Xcx hwk (.inr ⟨u,by rw [Yai (by omega),dtk (by omega)];exact hu,fun e=>h0 (by rw [e];rfl)⟩)]⟩
 · refine Rw [] [(1000001,.arr 1 (l.map wd))] rfl (.one (.rf rfl) rfl rfl) ⟨rfl,k,hk,rfl,?_⟩
   rw [show k=0 by omega] at hv ⊢
   rw [←hv,W7r,val,Xai]
theorem Xka {l : List Nat} (h0 : 0<l.length) (hl : l.length≤1099511627776) : CA0 77 [.d (ws l)] 1 (l.map wd):=by
 refine EnW Tryz.func77 fun _ _ _ _=>?_
 refine Ub rfl (fun h=>?_) ?_
 · exact absurd h (by intro e; have : l.length = 0 := by simpa using congrArg List.length e
                      omega)
 refine ApL (l.map wd) rfl rfl (by simpa using h0) (by simpa using hl) ?_
 exact Rw [(7,1000000)] [(1000000,.arr 1 (l.map wd))] rfl (.one (.rf rfl) rfl rfl) ⟨_,rfl,rfl,rfl⟩
theorem Xnv : C0 55 [.d (dz 0)] (·=.d (.str [48])):=by
 refine En Tryz.func55 fun _ _ _=>?_
 refine Ce rfl (Xby (n:=0) (by rw [Xai];decide)) ?_
 refine Ce rfl (Xbd (l:=dig 0) (by rw [Xai];decide)) ?_
 refine Yes rfl (by rw [Xai];rfl) ?_
 exact R0
def Fm9 (z x n : Nat) (lo cs : List Nat) : Prop:=n≤lo.length∧lo.length≤549755813888∧Xam lo∧lo.take n=dig x∧cks z=cs++cks x
theorem Ydo {z x n : Nat} {lo cs : List Nat} (h : Fm9 z x n lo cs) : n=(dig x).length:=by
 have:=congrArg List.length h.2.2.2.1
 rw [W0i,W1u h.1] at this
 exact this
end
section
attribute [local go_sem] Oper.semAt_some
abbrev C9:={ x : Nat // x<1000000000 }
def b9 (zs : List C9) (k : Nat) : List (Nat × C9):=(List.range k).map fun j=>(zs.length - 1 - j,zs[zs.length - 1 - j]?.getD ⟨0,by decide⟩)
theorem Xve (zs : List C9) (k : Nat) : b9 zs (k+1)=b9 zs k++[(zs.length - 1 - k,zs[zs.length - 1 - k]?.getD ⟨0,by decide⟩)]:=by simp [b9,W7h]
theorem Xvf (zs : List C9) (k : Nat) : (b9 zs k).length=k:=by simp [b9]
set_option maxRecDepth 100000 in
set_option maxHeartbeats 2000000 in
theorem Yg8 (F : Fence) (n : Nat) (h8 : F.fn 166) (hro : F.round=none) (hn : 1≤n) (l Bs n₀ b off cap : Nat) (zs : List C9) (hreach : zs.length*4≤140737488351232) (hb : b<n₀) (J Jx : List (Nat × C9)→World→Prop)
 (hY : ∀ pre x W,J pre W→pre.length<zs.length→YieldAt F (n - 1) Tryz.prog l #[.int .i64 (x.1 : Int),.int .u32 (x.2.1 : Int)] W fun e W' =>
  (e=.returned (.bool true)∧J (pre++[x]) W'∧Kq n₀ Bs W W')∨(e=.returned (.bool false)∧Jx (pre++[x]) W'))
 (W : World) (hBs : W.cell? ⟨Bs,0,none⟩=some (.slice (some ⟨b,off,none⟩) zs.length cap)) (hc : ∀ j,j<zs.length→W.cell? ⟨b,off+j,none⟩=some (.int .u32 ((zs[j]?.getD ⟨0,by decide⟩).1 : Int))) (h0 : J [] W) :
 CallsIn F n Tryz.prog 166 #[.func (.yield l) #[] #[],.pointer (some ⟨Bs,0,none⟩)] W fun e W'=>(∃ v,e=.returned v) ∧
  ((∃ ys,ys=b9 zs zs.length∧J ys W')∨(∃ pre,True∧Jx pre W')):=by
 refine callsIn_of_wp Tryz.func166 rfl h8 ?_ hro
 simp only [Tryz.ntmps166,W6d,W0l,W3m,Nat.reduceAdd,Nat.reduceSub,W5i,W5j,W6e,W5v,W3s,W3j]
 gi_wp2
 gi_loopw [3] (fun i wr=>∃ k : Nat,k≤zs.length∧i=.int .i64 ((zs.length : Int) - 1 - k)∧J (b9 zs k) wr∧Kq n₀ Bs W wr)
  (fun i _=>(intOf i+1).toNat)
 case atStart=>exact ⟨0,W0y _,by simp,h0,Kq.refl _ _ _⟩
 case round =>
  obtain ⟨k,hk,rfl,hJs,hnx⟩:=hrel
  have hBs':=(World.cell?_of_block hnx.b).trans hBs
  by_cases hlt : k<zs.length
  · obtain ⟨q,hq⟩ : ∃ q,q+(k+1)=zs.length:=⟨zs.length - 1 - k,by omega⟩
    have hqi : ((zs.length : Int) - 1 - k)=(q : Int):=by omega
    have hcx:=(hnx.a.cell (p:=⟨b,off+q,none⟩) hb).trans (hc q (by omega))
    obtain ⟨fn,tmps,assign,body,hy,hR⟩:=hY _ (q,zs[q]?.getD ⟨0,by decide⟩) wr hJs (by rw [Xvf];exact hlt)
    dsimp only at hy
    rw [hqi]
    gi_wp2
    refine hR.mono ?_
    rintro e W3 (⟨rfl,hJ3,hk3⟩ | ⟨rfl,hJx3⟩)
    · gi_wp2
      go_roundw
      case rel=>exact ⟨k+1,by omega,by congr 1;omega,by rw [Xve,show zs.length - 1 - k=q from by omega];exact hJ3,hnx.trans hk3⟩
      case measure=>simp [intOf]
    · gi_wp2
      refine bodyPost_ret (results_none rfl _ _ _) rfl ?_
      exact ⟨⟨_,rfl⟩,.inr ⟨_,trivial,hJx3⟩⟩
  · obtain rfl : k=zs.length:=by omega
    rw [show ((zs.length : Int) - 1 - (zs.length : Int))=-1 from by omega]
    gi_wp2
    go_end0
    exact ⟨⟨_,rfl⟩,.inl ⟨_,rfl,hJs⟩⟩
theorem Xl5 (F : Fence) (n : Nat) (h8 : F.fn 166) (hro : F.round=none) (hn : 1≤n) (Bs n₀ b off cap : Nat) (zs : List C9) (hreach : zs.length*4≤140737488351232) (w : World) (hBs : Bs<w.heap.size) (hn₀ : n₀≤w.heap.size)
 (hc : w.cell? ⟨Bs,0,none⟩=some (.slice (some ⟨b,off,none⟩) zs.length cap)) (hb : b<n₀) (hcs : ∀ j,j<zs.length→w.cell? ⟨b,off+j,none⟩=some (.int .u32 ((zs[j]?.getD ⟨0,by decide⟩).1 : Int))) :
 SeqStopsK F n Tryz.prog 166 #[.pointer (some ⟨Bs,0,none⟩)] (fun x : Nat × C9=>#[Value.int .i64 (x.1 : Int),Value.int .u32 (x.2.1 : Int)]) (Kq n₀ Bs) (fun ys=>ys=b9 zs zs.length)
  (fun _=>True) zs.length w:=fun l J Jx W hW _ _ hY h0=>by
 have hc':=(hW.cell (p:=⟨Bs,0,none⟩) hBs).trans hc
 exact Yg8 F n h8 hro hn l Bs n₀ b off cap zs hreach hb J Jx hY W hc' (fun j hj=>(hW.cell (p:=⟨b,off+j,none⟩) (W0q hb hn₀)).trans (hcs j hj)) h0
def o9 (N : Nat) (sg : List UInt8) : List (Nat × C9)→List UInt8:=List.foldl (fun t x=>t++(if x.1+1<N then List.replicate (9 - (dec x.2.1).length) 48 else [])++dec x.2.1) sg
theorem Xmy (N : Nat) (sg : List UInt8) (pre : List (Nat × C9)) (x : Nat × C9) : o9 N sg (pre++[x])=o9 N sg pre++(if x.1+1<N then List.replicate (9 - (dec x.2.1).length) 48 else [])++dec x.2.1:=by simp [o9]
theorem Yjs (x : C9) : (dec x.1).length≤9:=Xel 8 x.1 x.2
theorem Xsx (N : Nat) : ∀ (pre : List (Nat × C9)) (sg : List UInt8),(o9 N sg pre).length≤sg.length+18*pre.length
 | [],_=>W5n _ _
 | x::l,sg=>by
  have ih:=Xsx N l (sg++(if x.1+1<N then List.replicate (9 - (dec x.2.1).length) 48 else [])++dec x.2.1)
  have:=Yjs x.2
  have h : (if x.1+1<N then List.replicate (9 - (dec x.2.1).length) (48 : UInt8) else []).length≤9:=by split <;> simp
  simp only [W0d,W0l] at h ih ⊢
  refine W0j (show (o9 N sg (x::l)).length≤_ from ih) ?_
  omega
theorem Ybq (sg : List UInt8) (zs : List C9) : ∀ k,k≤zs.length→o9 zs.length sg (b9 zs k)=sg++Xw4 ((zs.map (·.1)).drop (zs.length - k))
 | 0,_=>by
  rw [W1g (by simp)]
  simp [b9,o9,Xw4]
 | k+1,h=>by
  obtain ⟨x,hx⟩ : ∃ x,zs[zs.length - 1 - k]?=some x:=⟨_,W0c (by omega)⟩
  have hxm : (zs.map (·.1))[zs.length - (k+1)]?=some x.1:=by rw [W0w,show zs.length - (k+1)=zs.length - 1 - k by omega,hx];rfl
  have hd : (zs.map (·.1)).drop (zs.length - (k+1))=x.1::(zs.map (·.1)).drop (zs.length - k):=by
   obtain ⟨hlt,he⟩:=W3a.1 hxm
   rw [W3b hlt,he,show zs.length - (k+1)+1=zs.length - k by omega]
  rw [Xve,Xmy,Ybq sg zs k (by omega),hx,hd]
  simp only [W5o]
  by_cases hk : k=0
  · subst hk
    rw [if_neg (by omega),show (zs.map (·.1)).drop (zs.length - 0)=[] from W1g (by simp)]
    simp [Xw4]
  · have hne : (zs.map (·.1)).drop (zs.length - k)≠[]:=fun e=>by
     have:=congrArg List.length e
     simp at this;omega
    rw [if_pos (by omega),Xsv hne]
    unfold pad
    simp
theorem c9s {l : List Nat} (h : ∀ x∈l,x<1000000000) : ∃ zs : List C9,zs.map (·.1)=l:=by
 induction l with
 | nil=>exact ⟨[],rfl⟩
 | cons a l ih =>
  obtain ⟨zs,hz⟩:=ih fun x hx=>h x (W1d _ hx)
  exact ⟨⟨a,h a (W0v ..)⟩::zs,by rw [W3z,hz]⟩
def gw1 (w : World) : GW:=⟨w,fun _ _=>False,fun _ _ h=>h.elim⟩
theorem cell_lt {w : World} {b i : Nat} {v : Value} (h : w.cell? ⟨b,i,none⟩=some v) : b<w.heap.size:=by
 apply W1f
 intro hn
 simp only [World.cell?] at h
 rw [W4a (by omega)] at h
 cases h
theorem Yfp {W : GW} {n : Nat} {w' : World} (h : Below n W.w w') (hn : W.w.heap.size≤n) : LeF W (gw1 w'):=fun b i v hv =>
 ⟨(World.cell?_of_block (h.block b (W0q (cell_lt hv.1) hn))).trans hv.1,id⟩
theorem Xqg {f : FuncId} {args : List AV} {vs : List Value} {s : List UInt8} {w : World} (hc : C0 f args (·=.d (.str s))) (hg : Gb.g Tryz.prog (gw1 w)) (ha : Xhy (gw1 w) θe args vs) :
 Calls Tryz.prog f vs.toArray w fun e w'=>e=.returned (.string ⟨s.toArray⟩)∧Below w.heap.size w w' :=
 (hc.2 (gw1 w) vs hg ha).mono fun e w' ⟨W',v,u,h1,h2,h3,h4,_,h6⟩=>by
  subst h6;subst h2
  obtain ⟨rfl,_⟩:=Xh9 h4
  exact ⟨h1,h3.os,h3.tape,h3.out,h3.size,fun k hk=>h3.same k hk id⟩
theorem Yk8 {w : World} (hg : Gb.g Tryz.prog (gw1 w)) (x : C9) : Calls Tryz.prog 103 #[.int .u64 (x.1 : Int),.int .i64 10] w fun e w'=>e=.returned (.string ⟨(dec x.1).toArray⟩)∧Below w.heap.size w w' :=
 Xqg (vs:=[.int .u64 (x.1 : Int),.int .i64 10]) (Xkk x.2) hg ⟨int_V (by have:=x.2;show IntKind.u64.wrap _=_;exact wU (by omega)),int_V (wI (by omega)),trivial⟩
theorem Ykn {w : World} (hg : Gb.g Tryz.prog (gw1 w)) {n : Nat} {k : Int} (hk : k=n) (hn : n<65) : Calls Tryz.prog 56 #[.string ⟨#[48]⟩,.int .i64 k] w fun e w'=>e=.returned (.string ⟨(List.replicate n 48).toArray⟩)∧Below w.heap.size w w':=by
 subst hk
 exact Xqg (vs:=[.string ⟨#[48]⟩,.int .i64 (n : Int)]) (Xi2 hn) hg ⟨Xko (s:=[48]) (by decide),int_V (by show IntKind.i64.wrap _=_;exact wI (by omega)),trivial⟩
theorem Xtp {β : Type} (T e : TypeId) (B b : Nat) (f : β→List Value) : Own (fun s W=>Lib.IsBuilderF T e B b (f s) W):=by
 intro s X Y row h hg hrow
 have key : ∀ p,Lib.BuilderAtF T e B b p (f s) X→Lib.BuilderAtF T e B b p (f s) Y:=fun p ⟨hB,v,hb,hown,hne⟩=>by
  have cells : ∀ k cs t fz,X.heap[k]?=some (.cells cs t fz)→some k≠row:=fun k cs t fz hk e'=>by
   obtain ⟨o,ho,hc⟩:=hrow k e'.symm
   rw [hk] at ho;cases ho;cases hc
  refine ⟨hB,v,(hg.block b (W3l.1 hb).1 (cells b _ _ _ hb)).trans hb,hown.kept hg ?_,hne⟩
  cases hv : v.ownBlock with
  | none=>exact .inl rfl
  | some g =>
   obtain ⟨c,fz,hc⟩:=Lib.ownsRowF_kind hown g hv
   exact .inr (cells g _ _ _ hc)
 exact h.elim (fun h=>.inl (key _ h)) fun h=>.inr (key _ h)
theorem Xhh {W W' : World} {row : Option Nat} {b : Nat} {cs : Array Value} {t : TypeId} {fz : Nat × Nat} (h : W.heap[b]?=some (.cells cs t fz)) (hg : W.grownBy W' row) (hr : ∀ r,row=some r→∃ o : Obj,W.heap[r]?=some o∧o.isCells=false) : W'.heap[b]?=some (.cells cs t fz) :=
 (hg.block b (W3l.1 h).1 (fun e'=>by
  obtain ⟨o,ho,hc⟩:=hr b e'.symm
  rw [h] at ho;cases ho;cases hc)).trans h
theorem Xtq {T e : TypeId} {B b : Nat} {bs : List Value} {w w' : World} (h : Lib.IsBuilderF T e B b bs w) (hw : Below w.heap.size w w') : Lib.IsBuilderF T e B b bs w':=by
 have key : ∀ p,Lib.BuilderAtF T e B b p bs w→Lib.BuilderAtF T e B b p bs w':=fun p ⟨hB,v,hb,hown,hne⟩ =>
  ⟨hB,v,(hw.block b (W3l.1 hb).1).trans hb,hown.kept (row:=none) ⟨hw.os,hw.tape,hw.output,hw.size,fun k hk _=>hw.block k hk⟩ (by cases hv : v.ownBlock <;> simp),hne⟩
 exact h.elim (fun h=>.inl (key _ h)) fun h=>.inr (key _ h)
theorem Xm6 {w w' : World} (h : Below w.heap.size w w') : KeepsOthers w w':=⟨h.size,fun k o hk _=>(h.block k (W3l.1 hk).1).trans hk⟩
theorem Xjy {T e : TypeId} {B b n : Nat} {bs : List Value} {w w' : World} (h : Lib.IsBuilderF T e B b bs w) (hw : Below n w w') (ho : Lib.OthersKept e (some b) w w') : KeepsOthers w w':=⟨hw.size,fun k o hk hc=>by
 refine ho k o hk (fun e'=>?_) (fun c fz e'=>by subst e';cases hc)
 cases e'
 rcases h with ⟨_,v,hb,_⟩ | ⟨_,v,hb,_⟩ <;> rw [hk] at hb <;> cases hb <;> cases hc⟩
structure W9 (n BS B : Nat) (sl : Value) (w W : World) (t : List UInt8) (W' : World) : Prop where
 b : Lib.IsBuilderF (rnB.t 72) (rnB.t 5) n n (Lib.byteCells t) W'
 s : W'.heap[BS]?=some (.cells #[sl] 41 (0,0))
 l : Below n w W'
 k : KeepsFrom B W W'
 q : Kq n BS W W'
theorem W9.below {n BS B : Nat} {sl : Value} {w W W' W'' : World} {t : List UInt8} (h : W9 n BS B sl w W t W') (hn : n≤W'.heap.size) (hb : Below W'.heap.size W' W'') : W9 n BS B sl w W t W'' :=
 ⟨Xtq h.b hb,(hb.block BS (W3l.1 h.s).1).trans h.s,h.l.trans (hb.mono hn),h.k.trans ((Xm6 hb).from _),h.q.trans ⟨hb.mono hn,hb.block BS (W3l.1 h.s).1⟩⟩
theorem W9.wr {n BS B : Nat} {sl : Value} {w W W' : World} {t : List UInt8} (h : W9 n BS B sl w W t W') (u : List UInt8) (hn : n≤W'.heap.size) (hB : BS≠n) (hl : t.length+u.length≤140737488355328) :
 Calls Tryz.prog 58 #[.pointer (some ⟨n,0,none⟩),.string ⟨u.toArray⟩] W' fun e W''=>e=.returned (.tuple #[.int .i64 u.length,.nilIface])∧W9 n BS B sl w W (t++u) W'':=by
 have hsz : (⟨u.toArray⟩ : ByteArray).size=u.length:=by simp [ByteArray.size]
 refine (Any.Builder_WriteString_k Yft Yh1 n n _ ⟨u.toArray⟩ W' h.b (by rw [Lib.byteCells_length,hsz];exact hl) hn).mono ?_
 rintro e W'' ⟨rfl,hb,hbl,ho⟩
 have hs : W''.heap[BS]?=some (.cells #[sl] 41 (0,0)):=ho BS _ h.s (by intro e;cases e;exact hB rfl) (by intro c fz e;cases e)
 refine ⟨by rw [hsz],.inr (by rw [Lib.byteCells_append];exact hb),hs,h.l.trans hbl,h.k.trans ((Xjy h.b hbl ho).from _),h.q.trans ⟨hbl,hs.trans h.s.symm⟩⟩
end
section
attribute [local go_sem] Oper.semAt_some
theorem Xrd {z : Int} (hz : z≠0) (hl : (dig z.natAbs).length≤274877906944) : C0 55 [.d (dz z)] (·=.d (.str (tx z))):=by
 have hcl:=Xu4 (n:=z.natAbs) (k:=(dig z.natAbs).length) (by have:=Xbo (Xad z.natAbs);rwa [Xae] at this)
 have hp:=W4d.2 (fun e : dig z.natAbs=[]=>hz (by have:=Xq3.1 e;omega))
 refine EnM Tryz.func55 fun W0 hg0 _=>?_
 refine Ce rfl (Xby (n:=z.natAbs) (by omega)) ?_
 refine Cr rfl (Xka (l:=dig z.natAbs) hp (by omega)) ?_
 refine No rfl (by simp only [W0h];omega) ?_
 refine Nv 4 7 1 rfl ?_
 refine Lo (fun ((x,n,lo,cs) : Nat × Nat × List Nat × List Nat)=>[(1,.ptr 1 0),(2,.d (.str [])),(3,.own 14 1 0 n),(4,.ptr 4 0)]) (fun (x,n,lo,cs)=>[(1,.var (.d (dz z))),(14,.arr 1 (lo.map wd)),(4,.var (.gr 7 1 (cs.map wd))),(7,.tok (cs.map wd).length 1)])
  (fun (x,n,lo,cs)=>Fm9 z.natAbs x n lo cs) (fun (x,_)=>x) (z.natAbs,(dig z.natAbs).length,dig z.natAbs,[]) [] rfl ⟨W0a _,by omega,Xad _,W1y ..,rfl⟩ ?_ (by exact ⟨by simp only [W0h];rfl,rfl,rfl,rfl,rfl⟩)
 rintro ⟨x,n,lo,cs⟩ hI
 have hn:=Ydo hI
 obtain ⟨hnl,hll,hwo,hdx,hck⟩:=hI
 have hsz : ∀ j,j<n→lo[j]?=(dig x)[j]?:=fun j hj=>by rw [←hdx,W1l,if_pos hj]
 refine By rfl (fun h=>?_) fun h=>?_
 · have h : (n : Int) > 0:=h
   have hx0 : x≠0:=fun e=>by rw [e,Xai] at hn;simp at hn;omega
   refine Ar ((n : Int) - 1) rfl ?_ (wr rfl (by simp only [inK];omega))
   refine Lo (fun ((k,l,r) : Nat × List Nat × Nat)=>[(1,.ptr 1 0),(2,.d (.str [])),(3,.own 14 1 0 n),(4,.ptr 4 0),(5,.d (.int .u64 r)),(6,.d (.int .i64 ((k : Int) - 1)))]) (fun (_,l,_)=>[(1,.var (.d (dz z))),(14,.arr 1 (l.map wd)),(4,.var (.gr 7 1 (cs.map wd))),(7,.tok (cs.map wd).length 1)])
    (fun (k,l,r)=>k≤n∧l.length=lo.length∧Xam l∧r<1000000000∧val ((l.take n).drop k)*1000000000+r=val ((dig x).drop k)∧∀ j,j<k→l[j]?=(dig x)[j]?) (fun (k,_,_)=>k) (n,lo,0) [] rfl
    ⟨W0a _,rfl,hwo,by decide,by rw [W1g (by rw [W0i];omega),W1g (by omega)];simp [val],hsz⟩ ?_
   rintro ⟨k,l,r⟩ ⟨hk,hl2,hwl,hr,hval,hlj⟩
   refine By rfl (fun h2=>?_) fun h2=>?_
   · have h2 : (k : Int) - 1 ≥ 0:=h2
     obtain ⟨u,hu⟩:=xat (l:=dig x) (k:=k - 1) (by omega)
     have hub:=ww hu (Xad x)
     have hul : l[k - 1]?=some u:=by rw [hlj _ (by omega),hu]
     obtain ⟨s,hs⟩ : ∃ s,s=r*2 ^ 32+u:=⟨_,rfl⟩
     have hs64 : s<18446744073709551616:=by omega
     have hsy : s / 1000000000<4294967296:=by omega
     have hek : ((k : Int) - 1)=((k - 1 : Nat) : Int):=by omega
     refine Ar (r*2 ^ 32 : Nat) rfl ?_ (Xgt (n:=32) rfl (by omega) (by decide))
     refine Eo (k - 1) (by rw [hek];rfl) (by omega) ?_
     refine Ld (wd u) rfl (mp hul) ?_
     refine Go.Vm.Cv u rfl ?_
     refine Ar s rfl ?_ (Xzl (by omega) (by omega) (by rw [Xdf u r 32 (by omega),←hs]) hs64)
     refine Ar (s / 1000000000 : Nat) rfl ?_ (show _∧_ from ⟨by decide,Yau s 1000000000 hs64⟩)
     refine Go.Vm.Cv (s / 1000000000 : Nat) rfl ?_ (wW ⟨W4y _,W6q.2 hsy⟩)
     refine Eo (k - 1) (by rw [hek];rfl) (by omega) ?_
     refine Sto rfl (by simp only [W0h];omega) ms ?_
     refine Ar (s % 1000000000 : Nat) rfl ?_ (show _∧_ from ⟨by decide,Xvw s 1000000000⟩)
     refine Ar ((k - 1 : Nat) - 1 : Int) rfl ?_ (wr (by omega) (by simp only [inK];omega))
     have hs0 : val ((dig x).drop (k - 1))=u+4294967296*val ((dig x).drop k):=by
      have:=Xbh hu
      rwa [show k - 1+1=k by omega] at this
     refine Bk (k - 1,l.set (k - 1) (s / 1000000000),s % 1000000000) [] rfl ⟨by omega,by simp [hl2],Xgf hwl hsy,W1z _ (by decide),?_,fun j hj=>?_⟩ (by show k - 1<k;omega)
     · rw [hs0,←hval,List.take_set,drop_set (by rw [W0i];omega),val,show k - 1+1=k by omega]
       have e:=W2d s 1000000000
       have hs2 : s=r*4294967296+u:=hs
       generalize val (((l.take n)).drop k)=V
       generalize s / 1000000000=q at e ⊢
       generalize s % 1000000000=m at e ⊢
       clear hck hcl hdx hsz hlj hs hval hs0 hsy hs64
       omega
     · rw [W2a (by omega)];exact hlj j (by omega)
   · have hk0 : k=0:=by
      have h2 : ¬ (k : Int) - 1 ≥ 0:=h2
      omega
     subst hk0
     rw [W0z,W0z,Xae] at hval
     have hq : x / 1000000000=val (l.take n):=by omega
     have hm : x % 1000000000=r:=by omega
     refine Cn [(1000001,14)] rfl (Xtn (l:=l) (q:=0) (n:=n) hwl (by omega) (by omega)) fun v hv=>?_
     obtain ⟨m,hmn,rfl,hml⟩:=hv
     rw [W0z,←hq] at hml
     refine Go.Vm.Cv r rfl ?_
     refine ApG ((cs++[r]).map wd) rfl (by simp;rfl) (by simp;have:=congrArg List.length hck;rw [W0d] at this;omega) ?_
     refine Bk (x / 1000000000,m,l,cs++[r]) [(50,7)] rfl ⟨by omega,by omega,hwl,hml,?_⟩ (by show x / 1000000000<x;omega)
     rw [hck,Xem hx0,hm];simp
 · have h : ¬ (n : Int) > 0:=h
   have hx0 : x=0:=by
    have : dig x=[]:=W0k (by omega)
    exact Xq3.1 this
   subst hx0
   rw [Xd7,W3e] at hck
   obtain ⟨zs,hzs⟩:=c9s (l:=cs) fun x hx=>Yg1 z.natAbs x (by rw [hck];exact hx)
   have hzl : zs.length=cs.length:=by rw [←hzs,W0h]
   have hz0 : z.natAbs≠0:=by omega
   have hz1 : 0<zs.length:=by
    rw [hzl,←hck,Xem hz0];simp
   have hzn : zs.length≤549755813888:=by rw [hzl,←hck];omega
   have htx : ∀ sg,sg++Xw4 (zs.map (·.1))=sg++dec z.natAbs:=fun sg=>by rw [hzs,←hck,Xw3 _ hz0]
   refine Tl 15 rfl fun a w hw=>?_
   obtain ⟨s',W,θ,rfl,hS,hθ,rfl⟩:=hw
   have hgW : Gb.g Tryz.prog W:=Gb.mono _ _ hS.fm.le hg0
   obtain ⟨b1,p1,e1⟩:=Xia (hS.rel.has 1 (.ptr 1 0) rfl)
   obtain ⟨b4,p4,e4⟩:=Xia (hS.rel.has 4 (.ptr 4 0) rfl)
   obtain ⟨bx,cx1,T1,q1,q2,q3,_⟩:=hS.obs.r 1 (.var (.d (dz z))) rfl
   obtain ⟨by4,cx4,T4,q5,q6,q7,_⟩:=hS.obs.r 4 (.var (.gr 7 1 (cs.map wd))) rfl
   obtain rfl : bx=b1:=Option.some.inj (q1.symm.trans p1)
   obtain rfl : by4=b4:=Option.some.inj (q5.symm.trans p4)
   have c1 : W.w.cell? ⟨bx,0,none⟩=some (.bool (decide (z<0))):=by
    obtain ⟨u,v,h1,h2,_⟩:=q3
    have h2 : u=[.bool (decide (z<0))]:=h2
    rw [Xa5 q2,h1,h2];rfl
   obtain ⟨b7,cp,c4,hcell⟩ : ∃ b7 cp,W.w.cell? ⟨by4,0,none⟩=some (.slice (some ⟨b7,0,none⟩) zs.length cp)∧∀ j,j<zs.length→W.w.cell? ⟨b7,0+j,none⟩=some (.int .u32 ((zs[j]?.getD ⟨0,by decide⟩).1 : Int)):=by
    obtain ⟨p,h1,h0,h2,_,h5⟩:=q7
    simp only [W0h] at h1 h2
    rcases h5 with h5 | ⟨b7,h5,hrow⟩
    · have:=congrArg List.length h5
      rw [W0h] at this
      have : cs.length=0:=this
      omega
    · have hp : p=some ⟨b7,0,none⟩:=by
       rcases h0 with h0 | h0
       · omega
       · rw [h0,h5];rfl
      refine ⟨b7,_,by rw [Xa5 q6,h1,hp,←hzl];rfl,fun j hj=>?_⟩
      obtain ⟨x,hx⟩ : ∃ x,zs[j]?=some x:=⟨_,W0c hj⟩
      obtain ⟨e,g1,_,g3⟩:=D.row_get hrow (i:=j) (x:=wd x.1) (by rw [←hzs];simp [hx])
      have g1 : e=[.int .u32 x.1]:=g1.1
      have:=(g3 0 (.int .u32 x.1) (by rw [g1];rfl)).1
      rw [hx]
      simpa using this
   have hb1:=Go.Proofs.YtdlhdemfnfpboaaGreatDoor.cell_lt c1
   have hb4:=Go.Proofs.YtdlhdemfnfpboaaGreatDoor.cell_lt c4
   have hb7:=Go.Proofs.YtdlhdemfnfpboaaGreatDoor.cell_lt (hcell 0 hz1)
   have hfm:=hS.fm
   obtain ⟨tm,df⟩:=a
   obtain rfl : df=[]:=hS.rel.defers
   obtain ⟨L⟩:=tm
   have hL : L.length=74:=hS.rel.size
   clear hS
   obtain ⟨t0,L0,rfl,hL0⟩:=Xag hL
   clear hL
   obtain ⟨t1,L1,rfl,hL1⟩:=Xag hL0
   clear hL0
   obtain ⟨t2,L2,rfl,hL2⟩:=Xag hL1
   clear hL1
   obtain ⟨t3,L3,rfl,hL3⟩:=Xag hL2
   clear hL2
   obtain ⟨t4,L4,rfl,hL4⟩:=Xag hL3
   clear hL3
   obtain ⟨t5,L5,rfl,hL5⟩:=Xag hL4
   clear hL4
   obtain ⟨t6,L6,rfl,hL6⟩:=Xag hL5
   clear hL5
   obtain ⟨t7,L7,rfl,hL7⟩:=Xag hL6
   clear hL6
   obtain ⟨t8,L8,rfl,hL8⟩:=Xag hL7
   clear hL7
   obtain ⟨t9,L9,rfl,hL9⟩:=Xag hL8
   clear hL8
   obtain ⟨t10,L10,rfl,hL10⟩:=Xag hL9
   clear hL9
   obtain ⟨t11,L11,rfl,hL11⟩:=Xag hL10
   clear hL10
   obtain ⟨t12,L12,rfl,hL12⟩:=Xag hL11
   clear hL11
   obtain ⟨t13,L13,rfl,hL13⟩:=Xag hL12
   clear hL12
   obtain ⟨t14,L14,rfl,hL14⟩:=Xag hL13
   clear hL13
   obtain ⟨t15,L15,rfl,hL15⟩:=Xag hL14
   clear hL14
   obtain ⟨t16,L16,rfl,hL16⟩:=Xag hL15
   clear hL15
   obtain ⟨t17,L17,rfl,hL17⟩:=Xag hL16
   clear hL16
   obtain ⟨t18,L18,rfl,hL18⟩:=Xag hL17
   clear hL17
   obtain ⟨t19,L19,rfl,hL19⟩:=Xag hL18
   clear hL18
   obtain ⟨t20,L20,rfl,hL20⟩:=Xag hL19
   clear hL19
   obtain ⟨t21,L21,rfl,hL21⟩:=Xag hL20
   clear hL20
   obtain ⟨t22,L22,rfl,hL22⟩:=Xag hL21
   clear hL21
   obtain ⟨t23,L23,rfl,hL23⟩:=Xag hL22
   clear hL22
   obtain ⟨t24,L24,rfl,hL24⟩:=Xag hL23
   clear hL23
   obtain ⟨t25,L25,rfl,hL25⟩:=Xag hL24
   clear hL24
   obtain ⟨t26,L26,rfl,hL26⟩:=Xag hL25
   clear hL25
   obtain ⟨t27,L27,rfl,hL27⟩:=Xag hL26
   clear hL26
   obtain ⟨t28,L28,rfl,hL28⟩:=Xag hL27
   clear hL27
   obtain ⟨t29,L29,rfl,hL29⟩:=Xag hL28
   clear hL28
   obtain ⟨t30,L30,rfl,hL30⟩:=Xag hL29
   clear hL29
   obtain ⟨t31,L31,rfl,hL31⟩:=Xag hL30
   clear hL30
   obtain ⟨t32,L32,rfl,hL32⟩:=Xag hL31
   clear hL31
   obtain ⟨t33,L33,rfl,hL33⟩:=Xag hL32
   clear hL32
   obtain ⟨t34,L34,rfl,hL34⟩:=Xag hL33
   clear hL33
   obtain ⟨t35,L35,rfl,hL35⟩:=Xag hL34
   clear hL34
   obtain ⟨t36,L36,rfl,hL36⟩:=Xag hL35
   clear hL35
   obtain ⟨t37,L37,rfl,hL37⟩:=Xag hL36
   clear hL36
   obtain ⟨t38,L38,rfl,hL38⟩:=Xag hL37
   clear hL37
   obtain ⟨t39,L39,rfl,hL39⟩:=Xag hL38
   clear hL38
   obtain ⟨t40,L40,rfl,hL40⟩:=Xag hL39
   clear hL39
   obtain ⟨t41,L41,rfl,hL41⟩:=Xag hL40
   clear hL40
   obtain ⟨t42,L42,rfl,hL42⟩:=Xag hL41
   clear hL41
   obtain ⟨t43,L43,rfl,hL43⟩:=Xag hL42
   clear hL42
   obtain ⟨t44,L44,rfl,hL44⟩:=Xag hL43
   clear hL43
   obtain ⟨t45,L45,rfl,hL45⟩:=Xag hL44
   clear hL44
   obtain ⟨t46,L46,rfl,hL46⟩:=Xag hL45
   clear hL45
   obtain ⟨t47,L47,rfl,hL47⟩:=Xag hL46
   clear hL46
   obtain ⟨t48,L48,rfl,hL48⟩:=Xag hL47
   clear hL47
   obtain ⟨t49,L49,rfl,hL49⟩:=Xag hL48
   clear hL48
   obtain ⟨t50,L50,rfl,hL50⟩:=Xag hL49
   clear hL49
   obtain ⟨t51,L51,rfl,hL51⟩:=Xag hL50
   clear hL50
   obtain ⟨t52,L52,rfl,hL52⟩:=Xag hL51
   clear hL51
   obtain ⟨t53,L53,rfl,hL53⟩:=Xag hL52
   clear hL52
   obtain ⟨t54,L54,rfl,hL54⟩:=Xag hL53
   clear hL53
   obtain ⟨t55,L55,rfl,hL55⟩:=Xag hL54
   clear hL54
   obtain ⟨t56,L56,rfl,hL56⟩:=Xag hL55
   clear hL55
   obtain ⟨t57,L57,rfl,hL57⟩:=Xag hL56
   clear hL56
   obtain ⟨t58,L58,rfl,hL58⟩:=Xag hL57
   clear hL57
   obtain ⟨t59,L59,rfl,hL59⟩:=Xag hL58
   clear hL58
   obtain ⟨t60,L60,rfl,hL60⟩:=Xag hL59
   clear hL59
   obtain ⟨t61,L61,rfl,hL61⟩:=Xag hL60
   clear hL60
   obtain ⟨t62,L62,rfl,hL62⟩:=Xag hL61
   clear hL61
   obtain ⟨t63,L63,rfl,hL63⟩:=Xag hL62
   clear hL62
   obtain ⟨t64,L64,rfl,hL64⟩:=Xag hL63
   clear hL63
   obtain ⟨t65,L65,rfl,hL65⟩:=Xag hL64
   clear hL64
   obtain ⟨t66,L66,rfl,hL66⟩:=Xag hL65
   clear hL65
   obtain ⟨t67,L67,rfl,hL67⟩:=Xag hL66
   clear hL66
   obtain ⟨t68,L68,rfl,hL68⟩:=Xag hL67
   clear hL67
   obtain ⟨t69,L69,rfl,hL69⟩:=Xag hL68
   clear hL68
   obtain ⟨t70,L70,rfl,hL70⟩:=Xag hL69
   clear hL69
   obtain ⟨t71,L71,rfl,hL71⟩:=Xag hL70
   clear hL70
   obtain ⟨t72,L72,rfl,hL72⟩:=Xag hL71
   clear hL71
   obtain ⟨t73,L73,rfl,hL73⟩:=Xag hL72
   clear hL72
   obtain rfl:=W0k hL73
   obtain rfl : t1=.pointer (some ⟨bx,0,none⟩):=e1
   obtain rfl : t4=.pointer (some ⟨by4,0,none⟩):=e4
   have hfin : ∀ {w' : World} {s : List UInt8},Below W.w.heap.size W.w w'→s=tx z→Ret W0 (fun x=>x=.d (.str (tx z))) (.returned (.string ⟨s.toArray⟩)) w':=fun {w' s} h e=>by
    obtain ⟨W',h1,h2⟩:=Xf9 h
    subst e
    refine ⟨W',_,_,rfl,h1,⟨h2.os.trans hfm.os,h2.out.trans hfm.out,h2.tape.trans hfm.tape,W0j hfm.size h2.size,fun b hb hx=>(h2.same b (W0q hb hfm.size) id).trans (hfm.same b hb hx),fun b hb hx i=>(h2.A b (W0q hb hfm.size) id i).trans (hfm.A b hb hx i),hfm.le.trans h2.le⟩,Xko ?_,fun _ h=>h,rfl⟩
    have:=Xnj z.natAbs
    unfold tx
    split <;> simp only [W0d,W0l,W3m] <;> omega
   clear q2 q3 q6 q7 hθ hck
   obtain ⟨w,hww⟩ : ∃ w,w=W.w:=⟨_,rfl⟩
   have hgw : ∀ {w' : World},Below w.heap.size w w'→Gb.g Tryz.prog (gw1 w'):=fun h=>Gb.mono _ _ (Yfp (n:=w.heap.size) (by rw [←hww];exact h) (by rw [←hww];exact W0a _)) hgW
   rw [←hww] at c1 c4 hcell hb1 hb4 hb7 hfin ⊢
   clear hww hgW hzl hzs hcl hnl hll hwo hn hdx hsz h hp hl q1 q5 p1 p4 hfm
   have hz9 : zs.length*4≤140737488351232:=by omega
   have cA : ∀ o,(w.alloc o).cell? ⟨bx,0,none⟩=some (.bool (decide (z<0))):=fun o=>(World.cell?_of_block (a:=⟨bx,0,none⟩) (Below.heap_alloc w o bx hb1)).trans c1
   have c4A : ∀ o,(w.alloc o).cell? ⟨by4,0,none⟩=some (.slice (some ⟨b7,0,none⟩) zs.length cp):=fun o=>(World.cell?_of_block (a:=⟨by4,0,none⟩) (Below.heap_alloc w o by4 hb4)).trans c4
   by_cases hneg : z<0
   · simp only [decide_eq_true hneg] at cA
     gi_wp2
     refine ⟨trivial,(callsIn_wide.2 (Any.Builder_WriteByte_k Yfs Yh1 w.heap.size w.heap.size [] 45 _ (.of (Lib.fresh_isBuilder _ _ w)) (by decide) (by simp))).mono ?_⟩
     rintro e wb ⟨rfl,hB,hbw,hok⟩
     have hB : Lib.IsBuilderF (rnB.t 72) (rnB.t 5) w.heap.size w.heap.size (Lib.byteCells [45]) wb:=.inr hB
     have hbw : Below w.heap.size w wb:=((Below.refl _ w).alloc (W0a _) _).trans hbw
     have hlt : w.heap.size<wb.heap.size:=by rcases hB with h | h <;> exact h.lt
     have c4b : wb.cell? ⟨by4,0,none⟩=some (.slice (some ⟨b7,0,none⟩) zs.length cp):=(hbw.cell (p:=⟨by4,0,none⟩) hb4).trans c4
     gi_wp2
     refine ⟨trivial,(Xnq Fence.wide 7 trivial rfl _ _ _ _).mono ?_⟩
     rintro e w2 ⟨rfl,hw2⟩
     have hBS : w2.heap[wb.heap.size]?=some (.cells #[.slice (some ⟨b7,0,none⟩) zs.length cp] 41 (0,0)):=by rw [hw2];exact World.alloc_heap_new wb _
     have hb2 : Below w.heap.size w w2:=by rw [hw2];exact hbw.alloc (by have:=hbw.size;omega) _
     have hB2 : Lib.IsBuilderF (rnB.t 72) (rnB.t 5) w.heap.size w.heap.size (Lib.byteCells [45]) w2:=by rw [hw2];exact hB.alloc _
     have hs2 : w2.heap.size=wb.heap.size+1:=by rw [hw2];simp
     have hcell2 : ∀ j,j<zs.length→w2.cell? ⟨b7,0+j,none⟩=some (.int .u32 ((zs[j]?.getD ⟨0,by decide⟩).1 : Int)):=fun j hj=>(hb2.cell (p:=⟨b7,0+j,none⟩) hb7).trans (hcell j hj)
     have cBS : w2.cell? ⟨wb.heap.size,0,none⟩=some (.slice (some ⟨b7,0,none⟩) zs.length cp):=by simp [World.cell?,hBS]
     obtain ⟨BS,hBSe⟩ : ∃ BS,BS=wb.heap.size:=⟨_,rfl⟩
     rw [←hBSe] at hBS hs2 cBS hlt ⊢
     clear hw2 hBSe hB hbw c4b hok
     gi_wp2
     refine wpIn_rangeFunc_ownG rfl (by decide) (gf:=166) (lb:=#[.pointer (some ⟨BS,0,none⟩)]) rfl trivial (enters_of Tryz.func166 (by kernel_rfl) rfl)
      (Xl5 Fence.wide (8 - 1) trivial rfl (by decide) BS w.heap.size b7 0 cp zs hz9 w2 (by omega) (by omega) cBS hb7 hcell2) Kq.trans (fun W l o o' hl h _ _=>Xtk W l o hl (by omega) (by omega) h o') (Below.refl _ _) (fun _=>rfl)
      (fun pre W=>(Lib.IsBuilderF (rnB.t 72) (rnB.t 5) w.heap.size w.heap.size (Lib.byteCells (o9 zs.length [45] pre)) W∧W.heap[BS]?=some (.cells #[.slice (some ⟨b7,0,none⟩) zs.length cp] 41 (0,0)))∧Below w.heap.size w W)
      (fun _ _ _=>False)
      (OwnFrom.and (Own.from (fun s A B row hs hg hr=>⟨Xtp _ _ _ _ (fun p=>Lib.byteCells (o9 zs.length [45] p)) s A B row hs.1 hg hr,Xhh hs.2 hg hr⟩) _) (ownFrom_below (W0a _) (by omega)))
      (fun _ _ _ _ _ hs _ _=>hs)
      ⟨⟨hB2,hBS⟩,hb2⟩
      (fun x=>{ tmps:=#[t0,.pointer (some ⟨bx,0,none⟩),t2,t3,.pointer (some ⟨by4,0,none⟩),t5,t6,.pointer (some ⟨w.heap.size,0,none⟩),.int .i64 (x.1 : Int),.int .u32 (x.2.1 : Int),t10,t11,t12,t13,t14,t15,t16,t17,t18,t19,t20,t21,t22,t23,t24,t25,t26,t27,t28,t29,t30,t31,t32,t33,t34,t35,t36,t37,t38,t39,t40,t41,t42,t43,t44,t45,t46,t47,t48,t49,t50,.pointer (some ⟨bx,0,none⟩),.bool true,.nilIface,.slice (some ⟨b7,0,none⟩) zs.length cp,.func (.func 166) #[] #[.pointer (some ⟨BS,0,none⟩)],.int .i64 (x.1 : Int),.int .u32 (x.2.1 : Int),t58,t59,t60,t61,t62,t63,t64,t65,t66,t67,t68,t69,t70,t71,t72,t73],defers:=[] }) ?assign ?body ?done ?stop
     case assign =>
      intro l x W K hK
      gi_wp2
      exact hK
     case stop =>
      rintro D c pre W _ _ h _
      exact h.elim
     case body =>
      rintro l pre x W ⟨⟨hBd,hBS⟩,hBl⟩ hlen
      gi_wp2
      rw [wU (by have:=x.2.2;omega)]
      refine ⟨trivial,(CallsIn.inRound l (callsIn_wide.2 (Yk8 (hgw hBl) x.2))).mono ?_⟩
      rintro e W1 ⟨rfl,hW1⟩
      have h9 : W9 w.heap.size BS w2.heap.size (.slice (some ⟨b7,0,none⟩) zs.length cp) w W (o9 zs.length [45] pre) W1:=W9.below ⟨hBd,hBS,hBl,KeepsFrom.refl _ _,Kq.refl _ _ _⟩ hBl.size hW1
      have c41 : W1.cell? ⟨by4,0,none⟩=some (.slice (some ⟨b7,0,none⟩) zs.length cp):=(h9.l.cell (p:=⟨by4,0,none⟩) hb4).trans c4
      have hxl:=Yjs x.2
      have hol:=Xsx zs.length pre [45]
      have hos:=Xmy zs.length [45] pre x
      have hsgl : ([45] : List UInt8).length≤1:=by decide
      have hpl : pre.length<549755813888:=by omega
      obtain ⟨ds,hds⟩ : ∃ ds,ds=dec x.2.1:=⟨_,rfl⟩
      rw [←hds] at hxl hos ⊢
      have hBn : BS≠w.heap.size:=by omega
      clear hds hBd hBS hW1
      gi_wp2
      · rename_i hx
        refine ⟨trivial,(CallsIn.inRound l (callsIn_wide.2 (Ykn (hgw h9.l) (n:=9 - ds.length) (by omega) (by omega)))).mono ?_⟩
        rintro e W2 ⟨rfl,hW2⟩
        have h9b:=h9.below h9.l.size hW2
        obtain ⟨zr,hzr⟩ : ∃ zr,zr=List.replicate (9 - ds.length) (48 : UInt8):=⟨_,rfl⟩
        have hzrl : zr.length≤9:=by rw [hzr,W2o];omega
        rw [←hzr]
        rw [if_pos (by omega),←hzr] at hos
        clear hzr
        gi_wp2
        refine ⟨trivial,(CallsIn.inRound l (callsIn_wide.2 (h9b.wr zr h9b.l.size hBn (by omega)))).mono ?_⟩
        rintro e W3 ⟨rfl,h9c⟩
        gi_wp2
        refine ⟨trivial,(CallsIn.inRound l (callsIn_wide.2 (h9c.wr ds h9c.l.size hBn (by simp only [W0d];omega)))).mono ?_⟩
        rintro e W4 ⟨rfl,h9d⟩
        gi_wp2
        exact ⟨h9d.k,h9d.q,⟨by rw [hos];exact h9d.b,h9d.s⟩,h9d.l⟩
      · rename_i hx
        rw [if_neg (by omega),W3e] at hos
        refine ⟨trivial,(CallsIn.inRound l (callsIn_wide.2 (h9.wr ds h9.l.size hBn (by omega)))).mono ?_⟩
        rintro e W4 ⟨rfl,h9d⟩
        gi_wp2
        exact ⟨h9d.k,h9d.q,⟨by rw [hos];exact h9d.b,h9d.s⟩,h9d.l⟩
     case done =>
      rintro D ys W hD rfl ⟨⟨hBd,hBS⟩,hBl⟩ hK
      gi_wp2
      have hne : o9 zs.length [45] (b9 zs zs.length)=tx z:=by
       rw [Ybq _ _ _ (W0a _),W2t,W0z,htx]
       unfold tx
       rw [if_pos hneg]
      rw [hne] at hBd
      have hn0 : tx z≠[]:=by
       unfold tx
       intro h
       exact Xuv _ (List.append_eq_nil_iff.1 h).2
      refine ⟨trivial,(callsIn_wide.2 (Any.Builder_String_k Xz1 Yh1 w.heap.size w.heap.size (tx z) W hBd hn0)).mono ?_⟩
      rintro e W3 ⟨rfl,_,hb3,hok3⟩
      have hK3:=hok3 D _ hK (by intro h;cases h;have:=hBl.size;omega) (by intro c fz h;cases h)
      gi_wp2
      refine ⟨by simp,.inl ⟨_,_,rfl,run_takeDeferred hK3,?_⟩⟩
      refine ⟨_,results_tmp rfl _ _ _,?_⟩
      refine hfin (s:=tx z) ?_ rfl
      exact (hBl.trans hb3).trans (belowK_b (w:=w) (W0a _) W3 D _ _ (by omega) hK3 rfl rfl)
   · simp only [decide_eq_false hneg] at cA
     gi_wp2
     obtain ⟨wb,hwb⟩ : ∃ wb,wb=w.alloc (.cells #[.pointer none,.slice none 0 0] 114):=⟨_,rfl⟩
     have hB : Lib.IsBuilderF (rnB.t 72) (rnB.t 5) w.heap.size w.heap.size (Lib.byteCells []) wb:=by rw [hwb];exact .of (Lib.fresh_isBuilder _ _ w)
     have hbw : Below w.heap.size w wb:=by rw [hwb];exact (Below.refl _ w).alloc (W0a _) _
     have hlt : w.heap.size<wb.heap.size:=by rcases hB with h | h <;> exact h.lt
     rw [←hwb]
     clear hwb
     refine ⟨trivial,(Xnq Fence.wide 7 trivial rfl _ _ _ _).mono ?_⟩
     rintro e w2 ⟨rfl,hw2⟩
     have hBS : w2.heap[wb.heap.size]?=some (.cells #[.slice (some ⟨b7,0,none⟩) zs.length cp] 41 (0,0)):=by rw [hw2];exact World.alloc_heap_new wb _
     have hb2 : Below w.heap.size w w2:=by rw [hw2];exact hbw.alloc (by have:=hbw.size;omega) _
     have hB2 : Lib.IsBuilderF (rnB.t 72) (rnB.t 5) w.heap.size w.heap.size (Lib.byteCells []) w2:=by rw [hw2];exact hB.alloc _
     have hs2 : w2.heap.size=wb.heap.size+1:=by rw [hw2];simp
     have hcell2 : ∀ j,j<zs.length→w2.cell? ⟨b7,0+j,none⟩=some (.int .u32 ((zs[j]?.getD ⟨0,by decide⟩).1 : Int)):=fun j hj=>(hb2.cell (p:=⟨b7,0+j,none⟩) hb7).trans (hcell j hj)
     have cBS : w2.cell? ⟨wb.heap.size,0,none⟩=some (.slice (some ⟨b7,0,none⟩) zs.length cp):=by simp [World.cell?,hBS]
     obtain ⟨BS,hBSe⟩ : ∃ BS,BS=wb.heap.size:=⟨_,rfl⟩
     rw [←hBSe] at hBS hs2 cBS hlt ⊢
     clear hw2 hBSe hB hbw
     gi_wp2
     refine wpIn_rangeFunc_ownG rfl (by decide) (gf:=166) (lb:=#[.pointer (some ⟨BS,0,none⟩)]) rfl trivial (enters_of Tryz.func166 (by kernel_rfl) rfl)
      (Xl5 Fence.wide (8 - 1) trivial rfl (by decide) BS w.heap.size b7 0 cp zs hz9 w2 (by omega) (by omega) cBS hb7 hcell2) Kq.trans (fun W l o o' hl h _ _=>Xtk W l o hl (by omega) (by omega) h o') (Below.refl _ _) (fun _=>rfl)
      (fun pre W=>(Lib.IsBuilderF (rnB.t 72) (rnB.t 5) w.heap.size w.heap.size (Lib.byteCells (o9 zs.length [] pre)) W∧W.heap[BS]?=some (.cells #[.slice (some ⟨b7,0,none⟩) zs.length cp] 41 (0,0)))∧Below w.heap.size w W)
      (fun _ _ _=>False)
      (OwnFrom.and (Own.from (fun s A B row hs hg hr=>⟨Xtp _ _ _ _ (fun p=>Lib.byteCells (o9 zs.length [] p)) s A B row hs.1 hg hr,Xhh hs.2 hg hr⟩) _) (ownFrom_below (W0a _) (by omega)))
      (fun _ _ _ _ _ hs _ _=>hs)
      ⟨⟨hB2,hBS⟩,hb2⟩
      (fun x=>{ tmps:=#[t0,.pointer (some ⟨bx,0,none⟩),t2,t3,.pointer (some ⟨by4,0,none⟩),t5,t6,.pointer (some ⟨w.heap.size,0,none⟩),.int .i64 (x.1 : Int),.int .u32 (x.2.1 : Int),t10,t11,t12,t13,t14,t15,t16,t17,t18,t19,t20,t21,t22,t23,t24,t25,t26,t27,t28,t29,t30,t31,t32,t33,t34,t35,t36,t37,t38,t39,t40,t41,t42,t43,t44,t45,t46,t47,t48,t49,t50,.pointer (some ⟨bx,0,none⟩),.bool false,t53,.slice (some ⟨b7,0,none⟩) zs.length cp,.func (.func 166) #[] #[.pointer (some ⟨BS,0,none⟩)],.int .i64 (x.1 : Int),.int .u32 (x.2.1 : Int),t58,t59,t60,t61,t62,t63,t64,t65,t66,t67,t68,t69,t70,t71,t72,t73],defers:=[] }) ?assign ?body ?done ?stop
     case assign =>
      intro l x W K hK
      gi_wp2
      exact hK
     case stop =>
      rintro D c pre W _ _ h _
      exact h.elim
     case body =>
      rintro l pre x W ⟨⟨hBd,hBS⟩,hBl⟩ hlen
      gi_wp2
      rw [wU (by have:=x.2.2;omega)]
      refine ⟨trivial,(CallsIn.inRound l (callsIn_wide.2 (Yk8 (hgw hBl) x.2))).mono ?_⟩
      rintro e W1 ⟨rfl,hW1⟩
      have h9 : W9 w.heap.size BS w2.heap.size (.slice (some ⟨b7,0,none⟩) zs.length cp) w W (o9 zs.length [] pre) W1:=W9.below ⟨hBd,hBS,hBl,KeepsFrom.refl _ _,Kq.refl _ _ _⟩ hBl.size hW1
      have c41 : W1.cell? ⟨by4,0,none⟩=some (.slice (some ⟨b7,0,none⟩) zs.length cp):=(h9.l.cell (p:=⟨by4,0,none⟩) hb4).trans c4
      have hxl:=Yjs x.2
      have hol:=Xsx zs.length pre []
      have hos:=Xmy zs.length [] pre x
      have hsgl : ([] : List UInt8).length≤1:=by decide
      have hpl : pre.length<549755813888:=by omega
      obtain ⟨ds,hds⟩ : ∃ ds,ds=dec x.2.1:=⟨_,rfl⟩
      rw [←hds] at hxl hos ⊢
      have hBn : BS≠w.heap.size:=by omega
      clear hds hBd hBS hW1
      gi_wp2
      · rename_i hx
        refine ⟨trivial,(CallsIn.inRound l (callsIn_wide.2 (Ykn (hgw h9.l) (n:=9 - ds.length) (by omega) (by omega)))).mono ?_⟩
        rintro e W2 ⟨rfl,hW2⟩
        have h9b:=h9.below h9.l.size hW2
        obtain ⟨zr,hzr⟩ : ∃ zr,zr=List.replicate (9 - ds.length) (48 : UInt8):=⟨_,rfl⟩
        have hzrl : zr.length≤9:=by rw [hzr,W2o];omega
        rw [←hzr]
        rw [if_pos (by omega),←hzr] at hos
        clear hzr
        gi_wp2
        refine ⟨trivial,(CallsIn.inRound l (callsIn_wide.2 (h9b.wr zr h9b.l.size hBn (by omega)))).mono ?_⟩
        rintro e W3 ⟨rfl,h9c⟩
        gi_wp2
        refine ⟨trivial,(CallsIn.inRound l (callsIn_wide.2 (h9c.wr ds h9c.l.size hBn (by simp only [W0d];omega)))).mono ?_⟩
        rintro e W4 ⟨rfl,h9d⟩
        gi_wp2
        exact ⟨h9d.k,h9d.q,⟨by rw [hos];exact h9d.b,h9d.s⟩,h9d.l⟩
      · rename_i hx
        rw [if_neg (by omega),W3e] at hos
        refine ⟨trivial,(CallsIn.inRound l (callsIn_wide.2 (h9.wr ds h9.l.size hBn (by omega)))).mono ?_⟩
        rintro e W4 ⟨rfl,h9d⟩
        gi_wp2
        exact ⟨h9d.k,h9d.q,⟨by rw [hos];exact h9d.b,h9d.s⟩,h9d.l⟩
     case done =>
      rintro D ys W hD rfl ⟨⟨hBd,hBS⟩,hBl⟩ hK
      gi_wp2
      have hne : o9 zs.length [] (b9 zs zs.length)=tx z:=by
       rw [Ybq _ _ _ (W0a _),W2t,W0z,htx]
       unfold tx
       rw [if_neg (by omega)]
      rw [hne] at hBd
      have hn0 : tx z≠[]:=by
       unfold tx
       intro h
       exact Xuv _ (List.append_eq_nil_iff.1 h).2
      refine ⟨trivial,(callsIn_wide.2 (Any.Builder_String_k Xz1 Yh1 w.heap.size w.heap.size (tx z) W hBd hn0)).mono ?_⟩
      rintro e W3 ⟨rfl,_,hb3,hok3⟩
      have hK3:=hok3 D _ hK (by intro h;cases h;have:=hBl.size;omega) (by intro c fz h;cases h)
      gi_wp2
      refine ⟨by simp,.inl ⟨_,_,rfl,run_takeDeferred hK3,?_⟩⟩
      refine ⟨_,results_tmp rfl _ _ _,?_⟩
      refine hfin (s:=tx z) ?_ rfl
      exact (hBl.trans hb3).trans (belowK_b (w:=w) (W0a _) W3 D _ _ (by omega) hK3 rfl rfl)
theorem Xqz {z : Int} (hl : (dig z.natAbs).length≤274877906944) : C0 55 [.d (dz z)] (·=.d (.str (tx z))):=by
 by_cases hz : z=0
 · subst hz
   have : tx 0=[48]:=by unfold tx;rw [if_neg (by decide),show Int.natAbs 0=0 from rfl,Xc4 (by decide)];rfl
   rw [this];exact Xnv
 · exact Xrd hz hl
end
end Go.Proofs.YtdlhdemfnfpboaaGreatDoor
namespace Go.Proofs.YtdlhdemfnfpboaaGreatDoor.P11
open Go Go.Vm Go.Num Go.Tow Go.Proofs.YtdlhdemfnfpboaaGreatDoor Go.Proofs.YtdlhdemfnfpboaaGreatDoor.P9 Go.Proofs.YtdlhdemfnfpboaaGreatDoor.R11
section
def fmtV (z : Int) (d : Nat) : AV:=if (txt z d).length≤400 then .tup (.pr (.d (.str (txt z d))) (.d (.int .i64 0))) else .tup (.pr (.d (.str [])) (.d (.int .i64 3)))
abbrev RndOf (x : Nm) (d : Nat) (z : Int) : Prop:=Xb4 x.k x.t (scl x.k x.t x.a ((10 ^ d : Int) : Rat) hf) z
theorem dcT {p : Prop} (h : p) : dc p=true:=Xaw.2 h
theorem dcF {p : Prop} (h : ¬ p) : dc p=false:=W2s.2 fun e=>h (Xaw.1 e)
theorem Ygv {z : Int} (hl : (dig z.natAbs).length≤274877906944) : C0 54 [.d (.str (tx z)),.d (.str [45])] (·=.tup (.pr (.d (.str (dec z.natAbs))) (.b (dc (z<0))))):=by
 have hlen:=Xnj z.natAbs
 have hT : Tx (tx z):=by
  by_cases h : z<0
  · rw [Xrq h];show (45::dec z.natAbs).length<_;rw [W0l];omega
  · rw [Xrp h];show (dec z.natAbs).length<_;omega
 have h:=Xdv (s:=tx z) (t:=[45]) hT (by decide)
 by_cases hz : z<0
 · have e : (tx z).take [(45 : UInt8)].length=[45]:=by rw [Xrq hz];rfl
   rw [if_pos e,show (tx z).drop [(45 : UInt8)].length=dec z.natAbs by rw [Xrq hz];rfl] at h
   exact h.mono fun v hv=>by rw [hv,dcT e,dcT hz]
 · have e : ¬ (tx z).take [(45 : UInt8)].length=[45]:=fun e=>by
    rw [Xrp hz] at e
    have hm : (45 : UInt8)∈dec z.natAbs:=W5h (by rw [e];exact W0g.2 rfl)
    have:=(Ygs z.natAbs 45 hm).1
    exact absurd this (by decide)
   exact h.mono fun v hv=>by rw [hv,if_neg e,dcF e,dcF hz,Xrp hz]
theorem Xvp {x : Nm} {d : Nat} (H : Pk x) (hd : d≤60) : C0 26 [.d (dN x),.d (.int .i64 d)] fun v=>∃ z,RndOf x d z∧(dig z.natAbs).length≤274877906944∧v=fmtV z d:=by
 refine En Tryz.func26 fun _ _ _=>?_
 refine Ca rfl (Xyk H hd) fun v hv=>?_
 obtain ⟨z,rfl,hz,hl⟩:=hv
 have hlen:=Xnj z.natAbs
 have hpl:=Ybo d (dec z.natAbs)
 have hdp:=Xut z.natAbs
 obtain ⟨s,hs⟩ : ∃ s,s=dec z.natAbs:=⟨_,rfl⟩
 rw [←hs] at hlen hpl hdp
 have hct:=Ygv hl
 rw [←hs] at hct
 refine No rfl (by decide) ?_
 refine Ce rfl (Xqz hl) ?_
 refine Ce rfl hct ?_
 obtain ⟨q,hq⟩ : ∃ q,q=pad d s:=⟨_,rfl⟩
 have hql : q.length=max (d+1) s.length:=by rw [hq,hpl]
 obtain ⟨r,hr⟩ : ∃ r,r=pt d q:=⟨_,rfl⟩
 have hrl : r.length≤q.length+1:=by
  rw [hr,pt];split
  · omega
  · rw [W0d,W0l,W0i,W1i];omega
 have htx : txt z d=(if z<0 then [45] else [])++r:=by rw [txt,hr,hq,hs]
 refine Cu none (fun (_ : Unit)=>[(1,.d (.int .i64 d)),(8,.d (.str q)),(9,.b (dc (z<0)))]) (fun _=>[]) (fun _=>True) rfl ?_ fun _ _=>?_
 · refine By rfl (fun h=>?_) fun h=>?_
   · have h : ((s.length : Nat) : Int)≤d:=h
     refine Ar (d+1 : Nat) rfl ?_
     refine Ar (d+1 - s.length : Nat) rfl ?_
     refine Ce rfl (Xi2 (by omega)) ?_
     refine Sc q rfl (by rw [hq];rfl) (by rw [W2o];omega) ?_
     exact Jn () [] rfl trivial
   · have h : ¬ ((s.length : Nat) : Int)≤d:=h
     have e : q=s:=by rw [hq,pad,show d+1 - s.length=0 by omega];rfl
     rw [e]
     exact Jn () [] rfl trivial
 refine Cu none (fun (_ : Unit)=>[(1,.d (.int .i64 d)),(8,.d (.str r)),(9,.b (dc (z<0)))]) (fun _=>[]) (fun _=>True) rfl ?_ fun _ _=>?_
 · refine By rfl (fun h=>?_) fun h=>?_
   · refine Dw rfl ?_
     refine Ar ((q.length - d : Nat) : Int) rfl ?_
     refine Stk (q.length - d) _ rfl (by omega) rfl ?_
     refine Sc (q.take (q.length - d)++[46]) rfl rfl (by simp;omega) ?_
     refine Ar ((q.length - d : Nat) : Int) rfl ?_
     refine Sdp (q.length - d) _ rfl (by omega) rfl ?_
     refine Sc r rfl (by rw [hr,pt,if_neg (by omega)];simp) (by simp;omega) ?_
     exact Jn () [] rfl trivial
   · have e : r=q:=by rw [hr,pt,if_pos (by omega)]
     rw [e]
     exact Jn () [] rfl trivial
 refine Cu none (fun (_ : Unit)=>[(8,.d (.str (txt z d)))]) (fun _=>[]) (fun _=>True) rfl ?_ fun _ _=>?_
 · refine By rfl (fun h=>?_) fun h=>?_
   · refine Sc (txt z d) rfl (by rw [htx,if_pos h]) (by show 1+r.length<_;omega) ?_
     exact Jn () [] rfl trivial
   · rw [htx,if_neg h]
     exact Jn () [] rfl trivial
 refine By rfl (fun h=>?_) fun h=>?_
 · exact Rt rfl (.tup (.cons (.rf rfl) Xb3)) ⟨z,hz,hl,by rw [fmtV,if_neg (by omega)]⟩
 · exact Rt rfl (.tup (.cons (.rf rfl) Xb3)) ⟨z,hz,hl,by rw [fmtV,if_pos (by omega)]⟩
theorem dFmt_ok {x : Nm} {d : Nat} (H : Pk x) (hd : d≤60) : C0 26 [.d (dN x),.d (.int .i64 d)] fun v=>∃ z,RndOf x d z∧(dig z.natAbs).length≤274877906944∧v=fmtV z d:=Xvp H hd
end
section
def pP (s : List UInt8) (v : AV) : Prop:=match prs s with
 | none=>∃ m : Int,v=.tup (.pr (.d (dz 0)) (.pr (.d (.int .i64 m)) (.b false)))
 | some (ng,a,b)=>v=.tup (.pr (.d (dz (frI ng a b))) (.pr (.d (.int .i64 b.length)) (.b true)))
theorem Xw2 {s : List UInt8} {v : AV} (h : prs s=none) : pP s v↔∃ m : Int,v=.tup (.pr (.d (dz 0)) (.pr (.d (.int .i64 m)) (.b false))):=by unfold pP;rw [h]
theorem Xo9 {s a b : List UInt8} {ng : Bool} {v : AV} (h : prs s=some (ng,a,b)) : pP s v↔v=.tup (.pr (.d (dz (frI ng a b))) (.pr (.d (.int .i64 b.length)) (.b true))):=by unfold pP;rw [h]
theorem Yl4 {s : List UInt8} (hs : Tx s) : ∃ ng q,s=sgB ng++q∧(ng=false→s.head?≠some 45)∧C0 54 [.d (.str s),.d (.str [45])] (·=.tup (.pr (.d (.str q)) (.b ng))):=by
 have h:=Xdv (s:=s) (t:=[45]) hs (by decide)
 by_cases e : s.take [(45 : UInt8)].length=[45]
 · refine ⟨true,s.drop 1,?_,nofun,h.mono fun v hv=>by rw [hv,if_pos e,dcT e];rfl⟩
   have:=W4h 1 s
   rw [show s.take 1=[45] from e] at this
   exact this.symm
 · refine ⟨false,s,rfl,fun _ hh=>e ?_,h.mono fun v hv=>by rw [hv,if_neg e,dcF e]⟩
   cases s with
   | nil=>cases hh
   | cons x t=>cases hh;rfl
theorem Yl3 {s q : List UInt8} {ng : Bool} (hl : s.length≤400) (hs : s=sgB ng++q) (hn : ng=false→s.head?≠some 45) : ∃ u t pt,u.length+t.length≤400∧C0 202 [.d (.str q),.d (.str [46])] (·=.tup (.pr (.d (.str u)) (.pr (.d (.str t)) (.b pt)))) ∧
 prs s=if u=[]∨(pt=true∧t=[])∨(1<u.length∧u.head?=some 48)∨(u++t).all isD=false then none else if ng && z0 (u++t) then none else some (ng,u,t):=by
 have hql : q.length≤400:=by have:=congrArg List.length hs;rw [W0d] at this;omega
 rcases Xtm 46 q with h | ⟨u,t,rfl,h⟩
 · refine ⟨q,[],false,by simpa using hql,Yhr (b:=46) (by show q.length<_;omega) h,?_⟩
   rw [Ye2 hl hs hn h,W3e]
   simp only [Bool.false_eq_true,false_and,false_or]
 · refine ⟨u,t,true,by rw [W0d,W0l] at hql;omega,Yhs (by show _<_;omega) h,?_⟩
   rw [Ye1 hl hs hn h]
   simp only [true_and]
theorem Xyw {c : UInt8} : ∀ l : List UInt8,∃ n,l=List.replicate n c++trL c l
 | []=>⟨0,rfl⟩
 | x::l=>by
  unfold trL
  rw [W4f]
  by_cases h : x=c
  · obtain ⟨n,hn⟩:=Xyw (c:=c) l
    rw [if_pos (by rw [h];exact beq_self_eq_true c)]
    exact ⟨n+1,by rw [W5t,W3j,h];congr 1⟩
  · rw [if_neg (by simpa using h)]
    exact ⟨0,rfl⟩
theorem Ycp (l : List UInt8) (n : Nat) : Xbx (List.replicate n 48++l)=Xbx l:=by
 rw [Xga,Xuh (by unfold z0;simp),W5p,W1n]
theorem Yd7 {l y : List UInt8} (hd : ∀ b∈l,Xh6 b) (hy : y=trL 48 l) (h0 : y≠[]) : ∃ b r,y=b::r∧48<b.toNat:=by
 cases y with
 | nil=>exact absurd rfl h0
 | cons b r =>
  refine ⟨b,r,rfl,?_⟩
  have h1:=W6t (· == (48 : UInt8)) l
  unfold trL at hy
  rw [←hy] at h1
  have h1 : ¬ b=48:=by simpa using h1
  have hb : b∈l:=(List.dropWhile_sublist _).subset (by rw [←hy];exact W0v ..)
  have:=(hd b hb).1
  have h2 : b.toNat≠48:=fun e=>h1 (W7m.1 e)
  omega
theorem Xxl {m : Int} {g : Hp} {K : Hpl} : FitT g K (.pr (AV.st (.pr (.b false) .nil)) (.pr (.d (.int .i64 m)) (.b false))) (.pr (.d (dz 0)) (.pr (.d (.int .i64 m)) (.b false))):=by
 rw [dz0];exact .cons (.sd (.pd (.bd rfl) (.nil rfl))) (.cons (.rf rfl) (.one (.rf rfl) (fun _ _ e=>by cases e) (fun _ _ e=>by cases e)))
theorem Xo6 {s : List UInt8} (hs : Tx s) : C0 138 [.d (.str s)] (pP s):=by
 obtain ⟨ng,q,hq,hn,hc⟩:=Yl4 hs
 by_cases hl : s.length≤400
 · obtain ⟨u,t,pt,hut,hk,hp⟩:=Yl3 hl hq hn
   have hTx : Tx (u++t):=by show (u++t).length<_;rw [W0d];omega
   have htr:=Ydi hTx
   obtain ⟨w,hw⟩ : ∃ w,w=(Xn2 Ydv.contains (u++t)).dropWhile Ydv.contains:=⟨_,rfl⟩
   have hwn : w=[]↔(u++t).all isD=true:=by rw [hw,Xv6,Xxz]
   rw [←hw] at htr
   refine En Tryz.func138 fun _ _ _=>?_
   refine No rfl (by omega) ?_
   refine Ce rfl hc ?_
   refine Ce rfl hk ?_
   let fl : Prop:=u=[]∨(pt=true∧t=[])∨(1<u.length∧u.head?=some 48)∨(u++t).all isD=false
   refine Cu (some 5) (fun (c : Bool)=>[(2,.ptr 2 0),(6,.b ng),(7,.d (.str u)),(8,.d (.str t)),(53,.b c)]) (fun _=>[(2,.var (.st (.pr (.b false) .nil)))]) (fun c=>c=true↔fl) rfl ?_ fun c hcf=>?_
   · refine By rfl (fun h=>?_) fun hu=>?_
     · exact Jn true [] rfl ⟨fun _=>.inl h,fun _=>rfl⟩
     have ulen : 0<u.length:=W4d.2 hu
     have last : (¬ (pt=true∧t=[]))→(¬ (1<u.length∧u.head?=some 48))→(w≠[]↔fl):=fun h1 h2=>by
      show _↔(_∨_∨_∨_)
      simp only [hu,h1,h2,false_or,hwn,ne_eq,Bool.not_eq_true]
     have fin2 : ∀ b,u[0]?=some b→((b.toNat : Int)=48↔u.head?=some 48):=fun b hb=>by
      rw [List.head?_eq_getElem?,hb]
      constructor
      · intro e;rw [show b=48 from W7m.1 (by show b.toNat=48;omega)]
      · intro e;injection e with e;rw [e];rfl
     have hu0 : u[0]?=some (u[0]):=W0c ulen
     have hsc : (u++t).length<9223372036854775808:=by rw [W0d];omega
     have hsl : u.length+t.length<9223372036854775808:=by omega
     refine By rfl (fun hpt=>By rfl (fun h=>Jn true [] rfl ⟨fun _=>.inr (.inl ⟨hpt,h⟩),fun _=>rfl⟩) fun ht=>?_) fun hpt=>?_
     · have hA : ¬ (pt=true∧t=[]):=fun h=>ht h.2
       refine By rfl (fun h1=>Yx 0 _ rfl hu0 (By rfl (fun h48=>Jn true [] rfl ⟨fun _=>.inr (.inr (.inl ⟨by omega,(fin2 _ hu0).1 h48⟩)),fun _=>rfl⟩) fun h48=>?_)) fun h1=>?_
       · refine Sc (u++t) rfl rfl hsl ?_
         refine Ce rfl htr ?_
         exact Jn (dc (w≠[])) [] rfl (Xaw.trans (last hA fun h=>h48 ((fin2 _ hu0).2 h.2)))
       · refine Sc (u++t) rfl rfl hsl ?_
         refine Ce rfl htr ?_
         exact Jn (dc (w≠[])) [] rfl (Xaw.trans (last hA fun h=>by omega))
     · have hA : ¬ (pt=true∧t=[]):=fun h=>hpt h.1
       refine By rfl (fun h1=>Yx 0 _ rfl hu0 (By rfl (fun h48=>Jn true [] rfl ⟨fun _=>.inr (.inr (.inl ⟨by omega,(fin2 _ hu0).1 h48⟩)),fun _=>rfl⟩) fun h48=>?_)) fun h1=>?_
       · refine Sc (u++t) rfl rfl hsl ?_
         refine Ce rfl htr ?_
         exact Jn (dc (w≠[])) [] rfl (Xaw.trans (last hA fun h=>h48 ((fin2 _ hu0).2 h.2)))
       · refine Sc (u++t) rfl rfl hsl ?_
         refine Ce rfl htr ?_
         exact Jn (dc (w≠[])) [] rfl (Xaw.trans (last hA fun h=>by omega))
   · refine By rfl (fun h=>?_) fun h=>?_
     · exact Rt rfl (.tup Xxl) ((Xw2 (by rw [hp,if_pos (hcf.1 h)])).2 ⟨0,rfl⟩)
     · have hf : ¬ fl:=fun e=>h (hcf.2 e)
       have hp' : prs s=if ng && z0 (u++t) then none else some (ng,u,t):=by rw [hp,if_neg hf]
       have hall : (u++t).all isD=true:=by
        cases e : (u++t).all isD with
        | true=>rfl
        | false=>exact absurd (.inr (.inr (.inr e))) hf
       have hdg : ∀ b∈u++t,Xh6 b:=Ylc.1 hall
       have hTL:=Xmb (s:=u++t) (b:=48) hTx (by decide)
       obtain ⟨y,hy⟩ : ∃ y,y=trL 48 (u++t):=⟨_,rfl⟩
       have hz0 : y=[]↔z0 (u++t)=true:=by rw [hy];exact Yib _
       rw [←hy] at hTL
       refine Sc (u++t) rfl rfl (by omega) ?_
       refine Ce rfl hTL ?_
       refine By rfl (fun hy0=>?_) fun hy0=>?_
       · have hz:=hz0.1 hy0
         refine Ce rfl (FromInt_ok (z:=0) (by decide)) ?_
         cases ng with
         | true =>
          rw [hz] at hp'
          exact Rt rfl (.tup (.cons (.rf rfl) (.cons (.rf rfl) (.one (.rf rfl) (fun _ _ e=>by cases e) (fun _ _ e=>by cases e))))) ((Xw2 (by rw [hp'];rfl)).2 ⟨t.length,rfl⟩)
         | false =>
          exact Rt rfl (.tup (.cons (.rf rfl) (.cons (.rf rfl) (.one (.rf rfl) (fun _ _ e=>by cases e) (fun _ _ e=>by cases e))))) ((Xo9 (by rw [hp'];rfl)).2 (by rw [frI,Xuh hz];rfl))
       · have hz : z0 (u++t)=false:=by cases e : z0 (u++t) with | true=>exact absurd (hz0.2 e) hy0 | false=>rfl
         have hyp : prs s=some (ng,u,t):=by rw [hp',hz,Bool.and_false];rfl
         obtain ⟨n,hyn⟩:=Xyw (u++t)
         rw [←hy] at hyn
         have hyd : ∀ b∈y,Xh6 b:=fun b hb=>hdg b (by rw [hyn];exact W1k _ hb)
         have hyl : y.length≤400:=by have:=congrArg List.length hyn;rw [W0d,W0d] at this;omega
         have hyv : Xbx y=Xbx (u++t):=by rw [hyn,Ycp]
         have hdl:=Xj7 hyd
         refine Ce rfl (Xyl hyd (by omega) (Yd7 hdg hy hy0)) ?_
         rw [hyv] at hdl ⊢
         refine By rfl (fun hng=>?_) fun hng=>?_
         · refine Ce rfl (Neg_ok (by rw [W1r];omega)) ?_
           exact Rt rfl (.tup (.cons (.rf rfl) (.cons (.rf rfl) (.one (.rf rfl) (fun _ _ e=>by cases e) (fun _ _ e=>by cases e))))) ((Xo9 hyp).2 (by rw [frI,if_pos hng,dcT (p:=(0 : Int)=0) rfl];rfl))
         · exact Rt rfl (.tup (.cons (.rf rfl) (.cons (.rf rfl) (.one (.rf rfl) (fun _ _ e=>by cases e) (fun _ _ e=>by cases e))))) ((Xo9 hyp).2 (by rw [frI,if_neg hng,dcT (p:=(0 : Int)=0) rfl];rfl))
 · have hp : prs s=none:=by unfold prs;rw [if_pos (by omega)]
   refine En Tryz.func138 fun _ _ _=>?_
   refine Yes rfl (by omega) ?_
   exact Rt rfl (.tup Xxl) ((Xw2 hp).2 ⟨0,rfl⟩)
theorem frI_zs {s a b : List UInt8} {ng : Bool} (h : prs s=some (ng,a,b)) : Zs 1601 (frI ng a b)∧b.length≤400:=by
 obtain ⟨h1,h2,h3,h4,h5⟩:=Xo3 h
 have hl : a.length+b.length≤400:=by
  have:=congrArg List.length h2
  rw [W0d,W0d] at this
  have : b.length≤(ptB b).length:=by unfold ptB;split <;> simp_all
  omega
 have hd : ∀ x∈a++b,Xh6 x:=Ylc.1 (by rw [W4x,h4,h5];rfl)
 have hv:=Xhp hd
 rw [W0d] at hv
 have:=Qn hv hl
 refine ⟨?_,by omega⟩
 have hz : Zs 1601 ((Xbx (a++b) : Nat) : Int):=this.n
 unfold frI
 unfold Zs at *
 split
 · rw [W4k];exact hz
 · exact hz
theorem Parse_no {s : List UInt8} (hs : Tx s) (h : prs s=none) : C0 83 [.d (.str s)] (·=.tup (.pr (.d dq0) (.d (.int .i64 2)))):=by
 refine En Tryz.func83 fun _ _ _=>?_
 refine Ca rfl (Xo6 hs) fun v hv=>?_
 obtain ⟨m,rfl⟩:=(Xw2 h).1 hv
 refine Yes rfl (by decide) ?_
 exact RTt rfl (.cons (.sd (.pd (.sd (.pd (.bd rfl) (.nil rfl))) (.sd (.pd (.bd rfl) (.nil rfl))))) Xb3)
theorem Parse_yes {s a b : List UInt8} {ng : Bool} (hs : Tx s) (h : prs s=some (ng,a,b)) : C0 83 [.d (.str s)] (·=.tup (.pr (.d (dq (fr ng a b))) (.d (.int .i64 0)))):=by
 obtain ⟨hz,hb⟩:=frI_zs h
 have hm:=Make_ok (p:=1605) (hz.mono (by decide)) ((p10 b.length).mono (by omega)) (by decide) (fun e=>Xyz b.length (by rw [e];rfl))
 rw [W3k,←Xz6] at hm
 refine En Tryz.func83 fun _ _ _=>?_
 refine Ca rfl (Xo6 hs) fun v hv=>?_
 obtain rfl:=(Xo9 h).1 hv
 refine No rfl (by decide) ?_
 refine Dw rfl ?_
 refine Ce rfl (Xd1 (by omega)) ?_
 refine Ce rfl hm ?_
 exact RTt rfl (.cons (.rf rfl) Xb3)
end
end Go.Proofs.YtdlhdemfnfpboaaGreatDoor.P11
namespace Go.Vm
open Go
variable {c : Cx} {s : St}
noncomputable def Yks (tb : Nat→Option TI) (n id : Nat) (s : St) : Option (List Kt × Env × Hpl):=match runT tb n id 1000 s with
 | .j _ K E H=>some (K,E,H)
 | _=>none
theorem NvT {K : List Kt} {E : Env} {H : Hpl} (id q o' sz : Nat) {a : AV} (h : Yks c.tb c.n id s=some (K,E,H)) (k : StP c (.j [] K E ((q,.var (a.nl o' sz))::(o',.tok 0 sz)::H))) (hv : look H q=some (.var a):=by exact rfl) (hb : (Nat.blt o' 1000000 && !Xbs H o')=true:=by exact rfl) : StP c s:=by
 unfold Yks at h
 split at h <;> cases h
 rename_i hr
 exact Xfi (id:=id) 1000 (by rw [hr];exact nvS q o' sz hv hb k)
end Go.Vm
namespace Go.Num
def hd (r : List Wd) : Wd:=r.headD []
theorem Ybt : num []=none:=rfl
theorem Xsu (r : List Wd) : pt2 r=match num (hd r),num (hd r.tail) with
 | some a,some b=>some ((a,b),r.tail.tail)
 | _,_=>none:=by
 match r with
 | []=>rfl
 | [x] =>
  show none=match num x,num [] with
   | some a,some b=>some ((a,b),([] : List Wd))
   | _,_=>none
  rw [Ybt];cases num x <;> rfl
 | x::y::r=>rfl
theorem Xkd (r : List Wd) : Xqj r=if (num (hd r)).isSome=true∧(num (hd r.tail)).isSome=true∧hd r.tail.tail=[48]∧Xm7 (hd r.tail.tail.tail)∧Xm7 (hd r.tail.tail.tail.tail) then pt2 r.tail.tail.tail.tail.tail else none:=by
 match r with
 | []=>exact (if_neg fun h=>nomatch h.1).symm
 | [_]=>exact (if_neg fun h=>nomatch h.2.1).symm
 | [_,_]=>exact (if_neg fun h=>nomatch h.2.2.1).symm
 | [_,_,_]=>exact (if_neg fun h=>h.2.2.2.1.elim nofun nofun).symm
 | [_,_,_,_]=>exact (if_neg fun h=>h.2.2.2.2.elim nofun nofun).symm
 | _::_::_::_::_::r=>rfl
def wat (l : List Wd) (a : Nat) : Wd:=hd (l.drop a)
def nx (l : List Wd) (a : Nat) : Nat:=if a<l.length then a+1 else a
theorem Xhr (l : List Wd) (a : Nat) : l.drop (nx l a)=(l.drop a).tail:=by
 unfold nx
 split
 · rw [W4q]
 · rw [W1g (by omega)];rfl
theorem Xn0 {l : List Wd} {a : Nat} {w : Wd} (h : l[a]?=some w) : wat l a=w:=by
 unfold wat hd
 rw [List.headD_eq_head?_getD,List.head?_drop,h];rfl
theorem Xnz {l : List Wd} {a : Nat} (h : l.length≤a) : wat l a=[]:=by
 unfold wat;rw [W1g h];rfl
theorem Xk5 {l : List Wd} {a : Nat} (h : a<l.length) : nx l a=a+1:=if_pos h
theorem Yi6 {l : List Wd} {a : Nat} (h : l.length≤a) : nx l a=a:=if_neg (by omega)
theorem Xh4 (l : List Wd) (a : Nat) : a≤nx l a:=by unfold nx;split <;> omega
theorem Xcd {l : List Wd} {a : Nat} (h : a≤l.length) : nx l a≤l.length:=by unfold nx;split <;> omega
theorem Xyu {l : List Wd} {a : Nat} (h : wat l a≠[]) : a<l.length:=by
 rcases Nat.lt_or_ge a l.length with h1 | h1
 · exact h1
 · exact absurd (Xnz h1) h
theorem Yi5 {l : List Wd} {a : Nat} {q : Pt × List Wd} (h : pt2 (l.drop a)=some q) : a+1<l.length:=by
 have:=Xjo (l:=l.drop a) (p:=q.1) (r:=q.2) h
 rw [W1i] at this
 omega
theorem Xl0 {l : List Wd} {a : Nat} (h : a<l.length) : cmd (l.drop a)=if wat l a=[76] then (pt2 (l.drop (nx l a))).map fun q=>([q.1],q.2) else if wat l a=[65] then (Xqj (l.drop (nx l a))).map fun q=>([q.1],q.2) else if wat l a=[90] then (if l.drop (nx l a)=[] then some ([],[]) else none) else none:=by
 obtain ⟨w,hw⟩ : ∃ w,l[a]?=some w:=⟨_,W0c h⟩
 rw [Xn0 hw,Xhr]
 obtain ⟨w',r,e⟩ : ∃ w' r,l.drop a=w'::r:=W6i (by rw [ne_eq,W5l];omega)
 have hww : w'=w:=by
  have:=List.head?_drop (l:=l) (i:=a)
  rw [e,hw] at this
  exact Option.some.inj this
 subst hww
 rw [e]
 rfl
theorem Xo0 (r : List Wd) : rdP r=if hd r=[77] then match pt2 r.tail with
 | none=>none
 | some (p,r)=>(body r).map (p::·)
 else none:=by
 cases r with
 | nil=>rfl
 | cons m r=>rfl
end Go.Num
namespace Go.Proofs.YtdlhdemfnfpboaaGreatDoor.P56
open Go Go.Vm Go.Num Go.Tow Go.Proofs.YtdlhdemfnfpboaaGreatDoor Go.Proofs.YtdlhdemfnfpboaaGreatDoor.R11
theorem Xki {l : List Num.Wd} {w : Num.Wd} (hl : l.length≤1000000) : C0 139 [.d (dXs l),.d (.str w)] (fun v=>∃ r : Int,v=.d (.int .i64 r)∧(0≤r↔w∈l)):=by
 have lm : (l.map D.str).length=l.length:=W0h ..
 refine En Tryz.func139 fun _ _ _=>?_
 refine Lo (fun k : Nat=>[(0,.d (dXs l)),(1,.d (.str w)),(7,.d (.int .i64 (l.map D.str).length)),(8,.d (.int .i64 k))]) (fun _=>[]) (fun k=>k≤l.length∧w ∉ l.take k) (fun k=>l.length - k) 0 [] rfl ⟨W0y _,nofun⟩ fun k ⟨hk,hn⟩=>?_
 refine By rfl (fun h=>?_) fun h=>?_ <;> simp only [lm] at h
 · obtain ⟨x,hx⟩ : ∃ x,l[k]?=some x:=⟨_,W0c (by omega)⟩
   refine Ix k rfl (u:=.str x) (by rw [W0w,hx];rfl) ?_
   refine By rfl (fun h1=>?_) fun h1=>?_
   · exact Rt rfl (.one (.rf rfl) rfl rfl) ⟨k,rfl,fun _=>by rw [h1];exact W1b hx,fun _=>by omega⟩
   · refine Ar (k+1 : Nat) rfl ?_
     refine Bk (k+1) [] rfl ⟨by omega,fun hm=>?_⟩ (by show l.length - (k+1)<l.length - k;omega)
     rw [W1j,hx] at hm
     rcases W2z.1 hm with hm | hm
     · exact hn hm
     · exact h1 (W0g.1 hm)
 · rw [W0b (by omega)] at hn
   exact Rt rfl (.one (.rf rfl) rfl rfl) ⟨-1,rfl,fun h=>by omega,fun h=>absurd h hn⟩
theorem Xnw {l : List Num.Wd} {w : Num.Wd} (hl : l.length≤1000000) : C0 84 [.d (dXs l),.d (.str w)] (·=.b (dc (w∈l))):=by
 refine En Tryz.func84 fun _ _ _=>?_
 refine Ca rfl (Xki hl) fun v hv=>?_
 obtain ⟨r,rfl,hr⟩:=hv
 exact R1 rfl (.bp (by rw [Xaw];exact hr))
abbrev rwq (b1 b2 : Bool) (l1 l2 : List D) : D:=.st (.pr (.st (.pr (.bool b1) (.sl 1 l1))) (.st (.pr (.bool b2) (.sl 1 l2))))
theorem Yjq (x : Rat) : ∃ b1 b2 l1 l2,dq x=rwq b1 b2 l1 l2:=⟨_,_,_,_,rfl⟩
abbrev rdV (l : List Num.Wd) (a o : Nat) (P : List D) : AV:=.st (.pr (.d (dXs l)) (.pr (.d (.int .i64 (a : Nat))) (.gr o 8 P)))
abbrev rdH (l : List Num.Wd) (a : Nat) (P : List D) : Hpl:=[(1000001,.var (rdV l a 1000002 P)),(1000002,.tok P.length 8)]
abbrev rdB (l : List Num.Wd) (a : Nat) (P : List D) : Hpl:=[(1000001,.var (rdV l a 1000000 P)),(1000002,.dead),(1000000,.tok P.length 8)]
structure Lw (l : List Num.Wd) : Prop where
 n : l.length≤1000000
 w : ∀ w∈l,w.length≤1000000
theorem Lw.tx {l : List Num.Wd} (h : Lw l) (a : Nat) : Tx (wat l a):=by
 rcases Nat.lt_or_ge a l.length with h1 | h1
 · obtain ⟨w,hw⟩ : ∃ w,l[a]?=some w:=⟨_,W0c h1⟩
   rw [Xn0 hw]
   have:=h.w w (W1b hw)
   show w.length<_
   omega
 · rw [Xnz h1];exact (show ([] : List UInt8).length<4611686018427387904 by decide)
variable {l : List Num.Wd} {a : Nat} {P : List D}
theorem Xju (H : Lw l) (ha : a≤l.length) : CW0 16 [.ptr 1000001 0] (rdH l a P) (fun v H'=>v=.d (.str (wat l a))∧H'=rdH l (nx l a) P):=by
 have lm : (l.map D.str).length=l.length:=W0h ..
 have hn:=H.n
 refine EnW Tryz.func16 fun _ _ _ _=>?_
 refine Dw rfl ?_
 refine By rfl (fun h=>?_) fun h=>?_ <;> simp only [lm] at h
 · rw [Xnz (by omega),Yi6 (by omega)]
   exact Rw [] (rdH l a P) rfl (.one (.rf rfl) rfl rfl) ⟨rfl,rfl⟩
 · obtain ⟨w,hw⟩ : ∃ w,l[a]?=some w:=⟨_,W0c (by omega)⟩
   rw [Xn0 hw,Xk5 (by omega)]
   refine Ar (a+1 : Nat) rfl ?_
   refine Dw rfl ?_
   refine Ar (a : Nat) rfl ?_
   refine Ix a rfl (u:=.str w) (by rw [W0w,hw];rfl) ?_
   exact Rw [] (rdH l (a+1) P) rfl (.one (.rf rfl) rfl rfl) ⟨rfl,rfl⟩
theorem Xez {b : Nat} (H : Lw l) (ha : a≤l.length) (hb : nx l a=b) : CW0 38 [.ptr 1000001 0] (rdH l a P) (fun v H'=>H'=rdH l b P∧∃ b1 b2 l1 l2,v=.tup (.pr (.d (rwq b1 b2 l1 l2)) (.b (num (wat l a)).isSome))∧∀ x,num (wat l a)=some x→rwq b1 b2 l1 l2=dq x):=by
 subst hb
 refine EnW Tryz.func38 fun _ _ _ _=>?_
 refine Cw [(1000001,1000001),(1000002,1000002)] rfl (Xju H ha) fun v H' _ hv=>?_
 obtain ⟨rfl,rfl⟩:=hv
 have ht:=H.tx a
 cases hp : prs (wat l a) with
 | none =>
  refine Ce rfl (P11.Parse_no ht hp) ?_
  rw [Ye9 hp]
  exact Rw [] (rdH l (nx l a) P) rfl (.tup (.cons (.rf rfl) (.one (.rf rfl) (fun _ _ e=>by cases e) (fun _ _ e=>by cases e)))) ⟨rfl,false,false,[],[],by show AV.tup (.pr (.d dq0) (.b (dc _)))=_;rw [P11.dcF (by decide)];rfl,nofun⟩
 | some q =>
  obtain ⟨ng,u,t⟩:=q
  obtain ⟨b1,b2,l1,l2,he⟩:=Yjq (fr ng u t)
  refine Ce rfl (P11.Parse_yes ht hp) ?_
  rw [Ybr hp]
  exact Rw [] (rdH l (nx l a) P) rfl (.tup (.cons (.rf rfl) (.one (.rf rfl) (fun _ _ e=>by cases e) (fun _ _ e=>by cases e)))) ⟨rfl,b1,b2,l1,l2,by show AV.tup (.pr (.d (dq (fr ng u t))) (.b (dc _)))=_;rw [P11.dcT rfl,he];rfl,fun x e=>by cases e;exact he.symm⟩
theorem Xdt {L : List Num.Wd} {b : Nat} (H : Lw l) (ha : a≤l.length) (hb : nx l a=b) (hL : L.length≤1000000) : CW0 39 [.ptr 1000001 0,.d (dXs L)] (rdH l a P) (fun v H'=>v=.b (dc (wat l a∈L))∧H'=rdH l b P):=by
 subst hb
 refine EnW Tryz.func39 fun _ _ _ _=>?_
 refine Cw [(1000001,1000001),(1000002,1000002)] rfl (Xju H ha) fun v H' _ hv=>?_
 obtain ⟨rfl,rfl⟩:=hv
 refine Ce rfl (Xnw hL) ?_
 exact Rw [] (rdH l (nx l a) P) rfl (.one (.rf rfl) rfl rfl) ⟨rfl,rfl⟩
abbrev dPt (p : Num.Pt) : D:=.st (.pr (dq p.1) (dq p.2))
theorem Xdb (H : Lw l) (ha : a≤l.length) (hP : P.length≤1000000) : CW0 17 [.ptr 1000001 0] (rdH l a P) (fun v H'=>∃ x,H'=rdB l (nx l (nx l a)) (P++[x])∧v=.b (pt2 (l.drop a)).isSome∧∀ p r,pt2 (l.drop a)=some (p,r)→x=dPt p∧r=l.drop (nx l (nx l a))):=by
 have h1:=Xcd ha
 have h2:=Xcd h1
 refine EnW Tryz.func17 fun _ _ _ _=>?_
 refine Cw [(1000001,1000001),(1000002,1000002)] rfl (Xez H ha rfl) fun v H' _ hv=>?_
 obtain ⟨rfl,b1,b2,l1,l2,rfl,k1⟩:=hv
 refine Cw [(1000001,1000001),(1000002,1000002)] rfl (Xez H h1 rfl) fun v H' _ hv=>?_
 obtain ⟨rfl,c1,c2,m1,m2,rfl,k2⟩:=hv
 refine Dw rfl ?_
 refine ApG (P++[.st (.pr (rwq b1 b2 l1 l2) (rwq c1 c2 m1 m2))]) rfl rfl (by simp;omega) ?_
 have e:=Xsu (l.drop a)
 rw [←Xhr,←Xhr] at e
 have e : pt2 (l.drop a)=match num (wat l a),num (wat l (nx l a)) with | some a',some b'=>some ((a',b'),l.drop (nx l (nx l a))) | _,_=>none:=e
 rw [e]
 revert k1 k2
 generalize num (wat l a)=o1
 generalize num (wat l (nx l a))=o2
 intro k1 k2
 cases o1 with
 | none =>
  refine No rfl nofun ?_
  exact Rw [(26,1000000)] (rdB l (nx l (nx l a)) (P++[.st (.pr (rwq b1 b2 l1 l2) (rwq c1 c2 m1 m2))])) rfl (.one (.rf rfl) rfl rfl) ⟨_,rfl,rfl,nofun⟩
 | some u =>
  refine Yes rfl rfl ?_
  cases o2 with
  | none=>exact Rw [(26,1000000)] (rdB l (nx l (nx l a)) (P++[.st (.pr (rwq b1 b2 l1 l2) (rwq c1 c2 m1 m2))])) rfl (.one (.rf rfl) rfl rfl) ⟨_,rfl,rfl,nofun⟩
  | some t=>exact Rw [(26,1000000)] (rdB l (nx l (nx l a)) (P++[.st (.pr (rwq b1 b2 l1 l2) (rwq c1 c2 m1 m2))])) rfl (.one (.rf rfl) rfl rfl) ⟨_,rfl,rfl,fun p r e=>by cases e;exact ⟨by rw [k1 u rfl,k2 t rfl],rfl⟩⟩
theorem Ydd (l : List Num.Wd) (b : Nat) : Xqj (l.drop b)=if (num (wat l b)).isSome=true∧(num (wat l (nx l b))).isSome=true∧wat l (nx l (nx l b))=[48]∧Xm7 (wat l (nx l (nx l (nx l b))))∧Xm7 (wat l (nx l (nx l (nx l (nx l b))))) then pt2 (l.drop (nx l (nx l (nx l (nx l (nx l b)))))) else none:=by
 rw [Xkd]
 unfold wat
 simp only [Xhr]
inductive CmdR (l : List Num.Wd) (a : Nat) (P : List D) : AV→Hpl→Prop
 | fa {b : Nat} (h : cmd (l.drop a)=none) : CmdR l a P (.b false) (rdH l b P)
 | fb {b : Nat} {x : D} (h : cmd (l.drop a)=none) : CmdR l a P (.b false) (rdB l b (P++[x]))
 | ya (h : cmd (l.drop a)=some ([],[])) : CmdR l a P (.b true) (rdH l l.length P)
 | yb {b : Nat} {p : Num.Pt} (h : cmd (l.drop a)=some ([p],l.drop b)) (hb : a<b) (hl : b≤l.length) : CmdR l a P (.b true) (rdB l b (P++[dPt p]))
theorem fl2 {w : Num.Wd} : w∈([[48],[49]] : List Num.Wd)↔Xm7 w:=by unfold Xm7;simp
set_option maxHeartbeats 1000000 in
theorem Xq4 (H : Lw l) (ha : a<l.length) (hP : P.length≤1000000) : CW0 18 [.ptr 1000001 0] (rdH l a P) (CmdR l a P):=by
 have h1:=Xcd (W1v ha)
 have hc:=Xl0 ha
 have hb:=Xk5 ha
 have hn:=H.n
 have lm : (l.map D.str).length=l.length:=W0h ..
 refine EnW Tryz.func18 fun _ _ _ _=>?_
 refine Cw [(1000001,1000001),(1000002,1000002)] rfl (Xju H (W1v ha)) fun v H' _ hv=>?_
 obtain ⟨rfl,rfl⟩:=hv
 show Pl.nx' _ _ (.d (.str (wat l a))) (rdH l (nx l a) P)
 refine By rfl (fun hw=>?_) fun hw=>?_
 · rw [if_pos hw] at hc
   refine Cw [(1000001,1000001),(1000002,1000002)] rfl (Xdb H h1 hP) fun v H' _ hv=>?_
   obtain ⟨x,rfl,rfl,k⟩:=hv
   cases e : pt2 (l.drop (nx l a)) with
   | none=>exact Rw [(12,1000000)] (rdB l (nx l (nx l (nx l a))) (P++[x])) rfl (.one (.rf rfl) rfl rfl) (.fb (by rw [hc,e];rfl))
   | some q =>
    obtain ⟨p,r⟩:=q
    obtain ⟨rfl,rfl⟩:=k p r e
    exact Rw [(12,1000000)] (rdB l (nx l (nx l (nx l a))) (P++[dPt p])) rfl (.one (.rf rfl) rfl rfl) (.yb (by rw [hc,e];rfl) (by have:=Xh4 l (nx l a);have:=Xh4 l (nx l (nx l a));omega) (Xcd (Xcd h1)))
 rw [if_neg hw] at hc
 refine By rfl (fun hw2=>?_) fun hw2=>?_
 · rw [if_pos hw2,Ydd] at hc
   obtain ⟨a1,e1⟩ : ∃ b,nx l a=b:=⟨_,rfl⟩
   obtain ⟨a2,e2⟩ : ∃ b,nx l a1=b:=⟨_,rfl⟩
   obtain ⟨a3,e3⟩ : ∃ b,nx l a2=b:=⟨_,rfl⟩
   obtain ⟨a4,e4⟩ : ∃ b,nx l a3=b:=⟨_,rfl⟩
   obtain ⟨a5,e5⟩ : ∃ b,nx l a4=b:=⟨_,rfl⟩
   obtain ⟨a6,e6⟩ : ∃ b,nx l a5=b:=⟨_,rfl⟩
   rw [e1,e2,e3,e4,e5,e6] at hc
   rw [e1] at h1 ⊢
   have h2:=Xcd h1
   rw [e2] at h2
   have h3:=Xcd h2
   rw [e3] at h3
   have h4:=Xcd h3
   rw [e4] at h4
   have h5:=Xcd h4
   rw [e5] at h5
   have h6:=Xcd h5
   rw [e6] at h6
   have h0 : a<a6:=by
    have i1:=Xh4 l a1
    have i2:=Xh4 l a2
    have i3:=Xh4 l a3
    have i4:=Xh4 l a4
    have i5:=Xh4 l a5
    omega
   have no : ∀ {p : Prop} [Decidable p],¬ p→cmd (l.drop a)=((if p then pt2 (l.drop a6) else none).map fun q=>([q.1],q.2))→cmd (l.drop a)=none:=fun hp e=>by rw [e,if_neg hp];rfl
   refine Cw [(1000001,1000001),(1000002,1000002)] rfl (Xez H h1 e2) fun v H' _ hv=>?_
   obtain ⟨rfl,b1,b2,l1,l2,rfl,k1⟩:=hv
   show Pl.nx' _ _ (.tup (.pr (.d (rwq b1 b2 l1 l2)) (.b (num (wat l a1)).isSome))) (rdH l a2 P)
   refine Cw [(1000001,1000001),(1000002,1000002)] rfl (Xez H h2 e3) fun v H' _ hv=>?_
   obtain ⟨rfl,c1,c2,m1,m2,rfl,k2⟩:=hv
   show Pl.nx' _ _ (.tup (.pr (.d (rwq c1 c2 m1 m2)) (.b (num (wat l a2)).isSome))) (rdH l a3 P)
   refine By rfl (fun g1=>?_) fun g1=>?_
   · refine By rfl (fun g2=>?_) fun g2=>?_
     · refine Cw (args:=[.ptr 1000001 0,.d (dXs [[48]])]) [(1000001,1000001),(1000002,1000002)] rfl (Xdt H h3 e4 (by decide)) fun v H' _ hv=>?_
       obtain ⟨rfl,rfl⟩:=hv
       show Pl.nx' _ _ (.b (dc (wat l a3∈([[48]] : List Num.Wd)))) (rdH l a4 P)
       refine By rfl (fun g3=>?_) fun g3=>?_
       · refine Cw (args:=[.ptr 1000001 0,.d (dXs [[48],[49]])]) [(1000001,1000001),(1000002,1000002)] rfl (Xdt H h4 e5 (by decide)) fun v H' _ hv=>?_
         obtain ⟨rfl,rfl⟩:=hv
         show Pl.nx' _ _ (.b (dc (wat l a4∈([[48],[49]] : List Num.Wd)))) (rdH l a5 P)
         refine By rfl (fun g4=>?_) fun g4=>?_
         · refine Cw (args:=[.ptr 1000001 0,.d (dXs [[48],[49]])]) [(1000001,1000001),(1000002,1000002)] rfl (Xdt H h5 e6 (by decide)) fun v H' _ hv=>?_
           obtain ⟨rfl,rfl⟩:=hv
           show Pl.nx' _ _ (.b (dc (wat l a5∈([[48],[49]] : List Num.Wd)))) (rdH l a6 P)
           refine By rfl (fun g5=>?_) fun g5=>?_
           · rw [if_pos ⟨g1,g2,W0g.1 g3,fl2.1 g4,fl2.1 g5⟩] at hc
             refine Cw [(1000001,1000001),(1000002,1000002)] rfl (Xdb H h6 hP) fun v H' _ hv=>?_
             obtain ⟨x,rfl,rfl,k⟩:=hv
             cases e : pt2 (l.drop a6) with
             | none=>exact Rw [(46,1000000)] (rdB l (nx l (nx l a6)) (P++[x])) rfl (.one (.rf rfl) rfl rfl) (.fb (by rw [hc,e];rfl))
             | some q =>
              obtain ⟨p,r⟩:=q
              obtain ⟨rfl,rfl⟩:=k p r e
              exact Rw [(46,1000000)] (rdB l (nx l (nx l a6)) (P++[dPt p])) rfl (.one (.rf rfl) rfl rfl) (.yb (by rw [hc,e];rfl) (by have:=Xh4 l a6;have:=Xh4 l (nx l a6);omega) (Xcd (Xcd h6)))
           · exact Rw [] (rdH l a6 P) rfl (.one (.rf rfl) rfl rfl) (.fa (no (fun h=>g5 (fl2.2 h.2.2.2.2)) hc))
         · exact Rw [] (rdH l a5 P) rfl (.one (.rf rfl) rfl rfl) (.fa (no (fun h=>g4 (fl2.2 h.2.2.2.1)) hc))
       · exact Rw [] (rdH l a4 P) rfl (.one (.rf rfl) rfl rfl) (.fa (no (fun h=>g3 (W0g.2 h.2.2.1)) hc))
     · exact Rw [] (rdH l a3 P) rfl (.one (.rf rfl) rfl rfl) (.fa (no (fun h=>g2 h.2.1) hc))
   · exact Rw [] (rdH l a3 P) rfl (.one (.rf rfl) rfl rfl) (.fa (no (fun h=>g1 h.1) hc))
 rw [if_neg hw2] at hc
 refine By rfl (fun hw3=>?_) fun hw3=>?_
 · rw [if_pos hw3] at hc
   refine Dw rfl ?_
   by_cases hz : nx l a=l.length
   · rw [if_pos (by rw [hz];exact List.drop_length)] at hc
     refine Rw [] (rdH l (nx l a) P) rfl (.one (.rf rfl) rfl rfl) ?_
     rw [show dc (((nx l a : Nat) : Int)=((l.map D.str).length : Nat))=true from P11.dcT (by rw [lm,hz]),hz]
     exact .ya hc
   · rw [if_neg (by rw [W5l];omega)] at hc
     refine Rw [] (rdH l (nx l a) P) rfl (.one (.rf rfl) rfl rfl) ?_
     rw [show dc (((nx l a : Nat) : Int)=((l.map D.str).length : Nat))=false from P11.dcF (by rw [lm];omega)]
     exact .fa hc
 · rw [if_neg hw3] at hc
   exact Rw [] (rdH l (nx l a) P) rfl (.one (.rf rfl) rfl rfl) (.fa hc)
def pdR : Option (List Num.Pt)→AV
 | none=>.tup (.pr (.d (.sl 8 [])) (.d (.int .i64 2)))
 | some ps=>.tup (.pr (.d (.sl 8 (ps.map dPt))) (.d (.int .i64 0)))
theorem Points_ok {s : List UInt8} (hs : s.length≤100000) : C0 5 [.d (.str s)] (·=pdR (rdP (spl s))):=by
 have H : Lw (spl s):=⟨by
  have:=Xbg s
  have:=W4m (a:=(32 : UInt8)) (l:=s)
  omega,fun w hw=>by have:=Xgs s w hw;omega⟩
 have hS:=Xkg (s:=s) (by omega)
 have hn : (spl s).length≤100001:=by
  have:=Xbg s
  have:=W4m (a:=(32 : UInt8)) (l:=s)
  omega
 generalize spl s=l at hS H hn
 have lm : (l.map D.str).length=l.length:=W0h ..
 have e:=Xo0 l
 have e0 : l.tail=l.drop (nx l 0):=by rw [Xhr];rfl
 have e1 : hd l=wat l 0:=rfl
 rw [e0,e1] at e
 have h1:=Xcd (W0y l.length)
 refine En Tryz.func5 fun _ _ _=>?_
 refine Ce rfl hS ?_
 refine NvT 2 8 900 8 rfl ?_
 refine Cw [(1000001,8),(1000002,900)] rfl (Xju (a:=0) (P:=[]) H (W0y _)) fun v H' _ hv=>?_
 obtain ⟨rfl,rfl⟩:=hv
 refine By rfl (fun hw=>?_) fun hw=>?_
 · rw [if_neg hw] at e
   rw [e]
   exact RTt rfl (.cons (.nil rfl) Xb3)
 rw [if_pos (W4c.1 hw)] at e
 refine Cw [(1000001,8),(1000002,900)] rfl (Xdb (P:=[]) H h1 (by decide)) fun v H' _ hv=>?_
 obtain ⟨x,rfl,rfl,k⟩:=hv
 cases hp : pt2 (l.drop (nx l 0)) with
 | none =>
  rw [hp] at e
  rw [e]
  refine Yes rfl (by decide) ?_
  exact RTt rfl (.cons (.nil rfl) Xb3)
 | some q =>
 obtain ⟨p,r⟩:=q
 obtain ⟨rfl,rfl⟩:=k p r hp
 rw [hp] at e
 have e : rdP l=(body (l.drop (nx l (nx l (nx l 0))))).map (p::·):=e
 rw [e]
 have h3 : ([p] : List Num.Pt).length≤nx l (nx l (nx l 0)):=by
  have h4:=Yi5 hp
  rw [Xk5 (l:=l) (a:=0) (by omega),Xk5 (l:=l) (a:=0+1) (by rw [Xk5 (l:=l) (a:=0) (by omega)] at h4;omega)]
  show 1≤_
  have:=Xh4 l (0+1+1)
  omega
 refine No rfl nofun ?_
 refine Lo (fun ((a,ps) : Nat × List Num.Pt)=>[(4,.ptr 8 0)]) (fun (a,ps)=>[(8,.var (rdV l a 14 (ps.map dPt))),(14,.tok (ps.map dPt).length 8)]) (fun (a,ps)=>a≤l.length∧ps.length≤a∧(body (l.drop (nx l (nx l (nx l 0))))).map (p::·)=(body (l.drop a)).map (ps++·)) (fun (a,_)=>l.length - a) (nx l (nx l (nx l 0)),[p]) [] rfl ⟨Xcd (Xcd h1),h3,rfl⟩ ?_
 rintro ⟨a,ps⟩ ⟨ha,hps,hI⟩
 rw [hI]
 refine Dw rfl ?_
 refine By rfl (fun h=>?_) fun h=>?_ <;> simp only [lm] at h
 · have hd : l.drop a≠[]:=by rw [ne_eq,W5l];omega
   refine Cw [(1000001,8),(1000002,14)] rfl (Xq4 (a:=a) (P:=ps.map dPt) H (by omega) (by rw [W0h];omega)) fun v H' _ hv=>?_
   cases hv with
   | fa h =>
    rw [Xnp hd h]
    refine Yes rfl (by decide) ?_
    exact RTt rfl (.cons (.nil rfl) Xb3)
   | fb h =>
    rw [Xnp hd h]
    refine Yes rfl (by decide) ?_
    exact RTt rfl (.cons (.nil rfl) Xb3)
   | ya h =>
    refine No rfl nofun ?_
    refine Bk (l.length,ps) [] rfl ⟨W0a _,by omega,?_⟩ (by show l.length - l.length<l.length - a;omega)
    rw [Xgb h,List.drop_length,W7t];rfl
   | @yb b q h hb hl =>
    refine No rfl nofun ?_
    have ez : ps.map dPt++[dPt q]=(ps++[q]).map dPt:=by simp
    rw [ez]
    refine Bk (b,ps++[q]) [(14,901),(28,14)] rfl ⟨hl,by simp;omega,?_⟩ (by show l.length - b<l.length - a;omega)
    rw [Xgb h,W7t]
    exact congrArg (fun f=>Option.map f (body (l.drop b))) (funext fun t=>by simp)
 · have ea : l.drop a=[]:=W1g (by omega)
   rw [ea,Xqh]
   exact RTt rfl (.cons (.gr (by simp)) Xb3)
end Go.Proofs.YtdlhdemfnfpboaaGreatDoor.P56
namespace Go.Tow
open Go Go.Num Go.Proofs.YtdlhdemfnfpboaaGreatDoor
variable {K : Nat} {G : Tw K} {S : List (El K)} {N : List Nm} {n m : Nat} {x y z : Nm} {v w : El K} {r p : Nat}
structure Wn (G : Tw K) (S : List (El K)) (N : List Nm) : Prop where
 w : Wy G S wR
 h : ∀ z∈N,∃ ρz,TOk G S z.k z.t ρz
def gB (n : Nat) : Nat:=n*20000000 - 107430
structure Gd (G : Tw K) (S : List (El K)) (N : List Nm) (n : Nat) (x : Nm) (v : El K) : Prop where
 o : NOk G S wR (gB n) x v
 g : Gs G S N (gB n) v
 n : 1≤n
theorem Yf8 (h : n≤m) : gB n≤gB m:=by unfold gB;omega
theorem Gd.mono (h : Gd G S N n x v) (hm : n≤m) : Gd G S N m x v:=⟨h.o.mono (W0a _) (Yf8 hm),h.g.mono (Yf8 hm),W0j h.n hm⟩
theorem Gd.neg (h : Gd G S N n x v) : Gd G S N n ⟨x.k,x.t,Tow.neg x.k x.a⟩ (Tow.neg K v):=⟨h.o.neg,h.g.neg,h.n⟩
theorem Gd.add (W : Wn G S N) (hx : Gd G S N n x v) (hy : Gd G S N m y w) (hz : NOk G S r p z (Tow.add K v w)) : Gd G S N (n+m) z (Tow.add K v w):=by
 have h:=(hx.g.add hy.g).mono (show _≤gB (n+m) by have:=hx.n;have:=hy.n;unfold gB;omega)
 exact ⟨hz.re W.w W.h h,h,W0j hx.n (W5n ..)⟩
theorem Gd.mul (W : Wn G S N) (hx : Gd G S N n x v) (hy : Gd G S N m y w) (hz : NOk G S r p z (Tow.mul K G v w)) : Gd G S N (n+m) z (Tow.mul K G v w):=by
 have h:=(hx.g.mul W.w hy.g).mono (show _≤gB (n+m) by rw [wC];have:=hx.n;have:=hy.n;unfold gB;omega)
 exact ⟨hz.re W.w W.h h,h,W0j hx.n (W5n ..)⟩
theorem Gd.rat (W : Wn G S N) {q : Rat} (h : Qs 64 q) : Gd G S N 1 ⟨0,(),q⟩ (Tow.rat K q):=by
 have h0 : NOk G S 0 65 ⟨0,(),q⟩ (Tow.rat K q):=⟨⟨fun _=>zero _,⟨trivial,trivial,fun i hi=>absurd hi (Nat.not_lt_zero _)⟩,rfl⟩,trivial,Sz.rat 0 h⟩
 have hg : Gs G S N (gB 1) (Tow.rat K q):=(Gs.rat h).mono (by decide)
 exact ⟨h0.re W.w W.h hg,hg,W0a _⟩
theorem Gd.le (W : Wn G S N) (h : Gd G S N n x v) : x.k≤3:=h.o.le (Xap W.w.g) W.w.s
theorem Gd.op (h : Gd G S N n x v) (hn : n≤190) : NOk G S wR 3799892570 x v:=h.o.mono (W0a _) (by unfold gB;omega)
theorem Yig (W : Wn G S N) (h : Gd G S N n x v) (hn : n≤800) : vB wR x.k (gB n)≤4398046511104:=W0j (W0j (Xqn (h.le W)) (Xdi (show gB n≤oW 4000000000 by unfold gB oW;omega))) wV
theorem Yif (W : Wn G S N) (h : Gd G S N n x v) : vB wR x.k wR≤4398046511104:=W0j (Xqn (h.le W)) wQ.2.2.2
end Go.Tow
namespace Go.Proofs.YtdlhdemfnfpboaaGreatDoor
open Go Go.Vm Go.Num Go.Tow
section
variable {K : Nat} {G : Tw K} {S : List (Tow.El K)} {N : List Nm} {n m : Nat} {x y z : Nm} {v w : Tow.El K}
def OpG (G : Tw K) (S : List (Tow.El K)) (N : List Nm) (n : Nat) (w : Tow.El K) (r : AV) : Prop:=∃ z : Nm,r=.tup (.pr (.d (dN z)) (.d (.int .i64 0)))∧Gd G S N n z w
def OnG (G : Tw K) (S : List (Tow.El K)) (N : List Nm) (n : Nat) (w : Tow.El K) (r : AV) : Prop:=∃ z : Nm,r=.d (dN z)∧Gd G S N n z w
theorem P9.Add_g (W : Wn G S N) (hx : Gd G S N n x v) (hy : Gd G S N m y w) (hn : n≤190) (hm : m≤190) : C0 95 [.d (dN x),.d (dN y)] (OpG G S N (n+m) (Tow.add K v w)):=(P9.Add_ok W.w (hx.op hn) (hy.op hm) (by decide)).mono fun _ ⟨z,e,h⟩=>⟨z,e,hx.add W hy h⟩
theorem P9.Mul_g (W : Wn G S N) (hx : Gd G S N n x v) (hy : Gd G S N m y w) (hn : n≤190) (hm : m≤190) : C0 121 [.d (dN x),.d (dN y)] (OpG G S N (n+m) (Tow.mul K G v w)):=(P9.Mul_ok W.w (hx.op hn) (hy.op hm) (by decide)).mono fun _ ⟨z,e,h⟩=>⟨z,e,hx.mul W hy h⟩
theorem P9.Neg_g (W : Wn G S N) (hx : Gd G S N n x v) (hn : n≤190) : C0 31 [.d (dN x)] (OnG G S N n (Tow.neg K v)):=(P9.Neg_ok hx.o (by have:=hx.le W;omega) (by decide) (by unfold gB;omega)).mono fun _ e=>⟨_,e,hx.neg⟩
theorem P9.Sign_g (W : Wn G S N) (hx : Gd G S N n x v) (hn : n≤800) : C0 181 [.d (dN x)] (·=.d (.int .i64 (sgn K G v))):=P9.Sign_ok W.w.g hx.o (by have:=hx.le W;omega) (Yig W hx hn) (Yif W hx)
end
end Go.Proofs.YtdlhdemfnfpboaaGreatDoor
namespace Go.Tow
open Go
abbrev V2 (K : Nat):=El K × El K
section
variable {K : Nat} {G : Tw K} {p q : V2 K}
def Xv4 (G : Tw K) (p q : V2 K) : El K:=add K (mul K G p.1 q.1) (mul K G p.2 q.2)
end
end Go.Tow
namespace Go.Proofs.YtdlhdemfnfpboaaGreatDoor
open Go Go.Vm Go.Num Go.Tow
section
structure Vn where
 x : Nm
 y : Nm
abbrev dV (v : Vn) : D:=.st (.pr (dN v.x) (dN v.y))
abbrev dVs (l : List Vn) : D:=.sl 4 (l.map dV)
abbrev n00 : Nm:=⟨0,(),((0 : Int) : Rat)⟩
structure Gv {K : Nat} (G : Tw K) (S : List (Tow.El K)) (N : List Nm) (n : Nat) (v : Vn) (p : V2 K) : Prop where
 x : Gd G S N n v.x p.1
 y : Gd G S N n v.y p.2
def IsB (r : AV) : Prop:=∃ c : Bool,r=.b c
section
variable {K : Nat} {G : Tw K} {S : List (Tow.El K)} {N : List Nm} {n m : Nat} {x y z : Nm} {a b v w : Tow.El K} {u s : Vn} {p q : V2 K}
def VeG (G : Tw K) (S : List (Tow.El K)) (N : List Nm) (n : Nat) (p : V2 K) (r : AV) : Prop:=∃ v : Vn,r=.d (dV v)∧Gv G S N n v p
def VoG (G : Tw K) (S : List (Tow.El K)) (N : List Nm) (n : Nat) (p : V2 K) (r : AV) : Prop:=∃ v : Vn,r=.tup (.pr (.d (dV v)) (.d (.int .i64 0)))∧Gv G S N n v p
end
end
section
section
variable {K : Nat} {G : Tw K} {S : List (Tow.El K)} {N : List Nm} {n m : Nat} {x y z : Nm} {a b : Tow.El K} {u s : Vn} {p q : V2 K}
theorem R13.Make_ok {i j : Rat} : C0 60 [.d (dq i),.d (dq j)] (·=.d (dV ⟨⟨0,(),i⟩,⟨0,(),j⟩⟩)):=by
 refine En Tryz.func60 fun _ _ _=>?_
 refine Dw rfl ?_
 refine Ce rfl R9.FromRat_ok ?_
 refine Ce rfl R9.FromRat_ok ?_
 exact R0
theorem R13.Whole_ok {i j : Int} (hi : -9223372036854775808≤i∧i<9223372036854775808) (hj : -9223372036854775808≤j∧j<9223372036854775808) : C0 28 [.d (.int .i64 i),.d (.int .i64 j)] (·=.d (dV ⟨⟨0,(),(i : Rat)⟩,⟨0,(),(j : Rat)⟩⟩)):=by
 refine En Tryz.func28 fun _ _ _=>?_
 refine Ce rfl (R2.FromInt_ok hi) ?_
 refine Ce rfl (R2.FromInt_ok hj) ?_
 refine Ce rfl R13.Make_ok ?_
 exact R0
abbrev cal : Ob:=.var (.d (.st (.int .i64 0)))
end
end
section
section
variable {K : Nat} {G : Tw K} {S : List (Tow.El K)} {N : List Nm} {n m : Nat} {x y z : Nm} {a b : Tow.El K} {u s : Vn} {p q : V2 K} {f g : Int}
end
end
open Go Go.Vm Go.Num Go.Tow
section
variable {K : Nat} {G : Tw K} {S : List (Tow.El K)} {N : List Nm} {n m : Nat} {x y z : Nm} {a b : Tow.El K} {u s : Vn} {p q : V2 K} {f g : Int}
namespace P13
end P13
namespace P19
def Trm (x : Nm) : Prop:=C0 149 [.d (dN x)] (·=.d (dN x))
end P19
end
open Go Go.Vm Go.Num Go.Tow
end Go.Proofs.YtdlhdemfnfpboaaGreatDoor
namespace Go.Proofs.YtdlhdemfnfpboaaGreatDoor.P9
open Go Go.Vm Go.Num Go.Tow Go.Proofs.YtdlhdemfnfpboaaGreatDoor
end Go.Proofs.YtdlhdemfnfpboaaGreatDoor.P9
namespace Go.Proofs.YtdlhdemfnfpboaaGreatDoor
open Go Go.Vm Go.Num Go.Tow
section
variable {K : Nat} {G : Tw K} {S : List (Tow.El K)} {N : List Nm} {n m k : Nat} {x y z : Nm} {a b v w : Tow.El K} {u s t : Vn} {p q r : V2 K}
def Xic {K : Nat} (p q : V2 K) : V2 K:=(Tow.add K p.1 (Tow.neg K q.1),Tow.add K p.2 (Tow.neg K q.2))
def Yaq {K : Nat} (p q : V2 K) : V2 K:=(Tow.add K p.1 q.1,Tow.add K p.2 q.2)
theorem P9.Sub_g (W : Wn G S N) (hx : Gd G S N n x v) (hy : Gd G S N m y w) (hn : n≤190) (hm : m≤190) : C0 94 [.d (dN x),.d (dN y)] (OpG G S N (n+m) (Tow.add K v (Tow.neg K w))):=(P9.Sub_ok W.w (hx.op hn) (hy.op hm) (by decide)).mono fun _ ⟨z,e,h⟩=>⟨z,e,hx.add W hy.neg h⟩
theorem Yd8 {K : Nat} {a b : Tow.El K} : toL K a=toL K b↔a=b:=⟨Xgm,fun e=>by rw [e]⟩
theorem P9.Equal_g (W : Wn G S N) (hx : Gd G S N n x v) (hy : Gd G S N m y w) (hn : n≤190) (hm : m≤190) : C0 91 [.d (dN x),.d (dN y)] (·=.b (dc (v=w))):=by
 have hG:=W.w.g
 have hR:=Xkm
 have hx':=hx.op hn
 have hy':=hy.op hm
 obtain ⟨ρx,hx1,hx2⟩:=hx'.ex
 obtain ⟨ρy,hy1,hy2⟩:=hy'.ex
 have hx3:=W.w.le hx1
 have hy3:=W.w.le hy1
 have hxr:=W.w.t hx1
 have hyr:=W.w.t hy1
 have hpx:=p16 (show x.k≤16 by omega)
 have hJ : jW 3799892570=8*3799892570+73803682:=rfl
 have hj : C0 154 [.d (dNs [x,y])] fun v'=>∃ m T a b,v'=.tup (.pr (.d (dNs [⟨m,T,a⟩,⟨m,T,b⟩])) (.d (.int .i64 0)))∧R9.JnR G S 3799892570 v w m T a b:=P9.Join_ok W.w hx' hy' (by decide)
 have fin : ∀ {k : Nat} {T : Tw k} {a b : Tow.El k} {ρ : Nat→Tow.El K},TOk G S k T ρ→ev G ρ k a=v→ev G ρ k b=w→(dc (toL k a=toL k b)=true↔v=w):=fun {k T a b ρ} h1 h2 h3=>by
  rw [Xaw,Yd8,←h2,←h3]
  exact ⟨fun e=>by rw [e],fun e=>Xlp (Xap hG) h1.h h1.r e⟩
 refine En Tryz.func91 fun _ _ _=>?_
 refine Ce rfl (P9.begins_ok (T:=toT x.k x.t) (U:=toT y.k y.t) (TS.pt hxr) (TS.pt hyr) (by omega) (by rw [Xaa];omega)) ?_
 refine By rfl (fun h1=>?_) fun h1=>?_
 · refine Ce rfl (P9.begins_ok (T:=toT y.k y.t) (U:=toT x.k x.t) (TS.pt hyr) (TS.pt hxr) (by omega) (by rw [Xaa];omega)) ?_
   refine By rfl (fun h2=>?_) fun h2=>?_
   · refine Ce rfl (P9.sameElement_ok hx'.p.ps hy'.p.ps (by omega) (by rw [Xac];omega)) ?_
     refine R1 rfl (.bp ?_)
     have e1 : (toT x.k x.t).take (toT y.k y.t).length=toT y.k y.t:=h1
     have e2 : (toT y.k y.t).take (toT x.k x.t).length=toT x.k x.t:=h2
     have l1:=congrArg List.length e1
     have l2:=congrArg List.length e2
     rw [W0i,Xaa,Xaa] at l1 l2
     obtain ⟨kx,tx,ax⟩:=x
     obtain ⟨ky,ty,ay⟩:=y
     have l1 : min ky kx=ky:=l1
     have l2 : min kx ky=kx:=l2
     obtain rfl : kx=ky:=by omega
     have e3 : toT kx tx=toT kx ty:=by
      have e1 : (toT kx tx).take (toT kx ty).length=toT kx ty:=e1
      rwa [Xaa,W0b (by rw [Xaa];omega)] at e1
     obtain rfl:=Xi8 e3
     have hy2 : ev G ρx kx ay=w:=by rw [←hy2];exact Xbm fun i hi=>Hom.uniq hG hx1.h hy1.h i hi
     exact fin hx1 hx2 hy2
   · refine Ca rfl hj fun v' hv=>?_
     obtain ⟨m',T,a,b,rfl,ρ,j1,j2,j3,j4,j5⟩:=hv
     have jm:=W.w.le j1
     have jp:=p16 (show m'≤16 by omega)
     refine Yes rfl (by decide) ?_
     refine Dw rfl ?_
     refine Ix 0 rfl (u:=dN ⟨m',T,a⟩) rfl ?_
     refine Ix 1 rfl (u:=dN ⟨m',T,b⟩) rfl ?_
     refine Ce rfl (P9.sameElement_ok (l:=toL m' a) (m:=toL m' b) j4.ps j5.ps (by omega) (by rw [Xac];omega)) ?_
     exact R1 rfl (.bp (fin j1 j2 j3))
 · refine Ca rfl hj fun v' hv=>?_
   obtain ⟨m',T,a,b,rfl,ρ,j1,j2,j3,j4,j5⟩:=hv
   have jm:=W.w.le j1
   have jp:=p16 (show m'≤16 by omega)
   refine Yes rfl (by decide) ?_
   refine Dw rfl ?_
   refine Ix 0 rfl (u:=dN ⟨m',T,a⟩) rfl ?_
   refine Ix 1 rfl (u:=dN ⟨m',T,b⟩) rfl ?_
   refine Ce rfl (P9.sameElement_ok (l:=toL m' a) (m:=toL m' b) j4.ps j5.ps (by omega) (by rw [Xac];omega)) ?_
   exact R1 rfl (.bp (fin j1 j2 j3))
theorem P13.both_add (W : Wn G S N) (hu : Gv G S N n u p) (hs : Gv G S N m s q) (hn : n≤190) (hm : m≤190) : C0 93 [.d (dV u),.d (dV s),.d (fnD 95)] (VoG G S N (n+m) (Yaq p q)):=by
 refine En Tryz.func93 fun _ _ _=>?_
 refine Ca rfl (P9.Add_g W hu.x hs.x hn hm) fun v hv=>?_
 obtain ⟨z,rfl,hz⟩:=hv
 refine No rfl (by simp) ?_
 refine Ca rfl (P9.Add_g W hu.y hs.y hn hm) fun v hv=>?_
 obtain ⟨w,rfl,hw⟩:=hv
 refine No rfl (by simp) ?_
 exact Rt rfl (.tup (.cons (.rf rfl) Xb3)) ⟨⟨z,w⟩,rfl,hz,hw⟩
theorem P13.both_sub (W : Wn G S N) (hu : Gv G S N n u p) (hs : Gv G S N m s q) (hn : n≤190) (hm : m≤190) : C0 93 [.d (dV u),.d (dV s),.d (fnD 94)] (VoG G S N (n+m) (Xic p q)):=by
 refine En Tryz.func93 fun _ _ _=>?_
 refine Ca rfl (P9.Sub_g W hu.x hs.x hn hm) fun v hv=>?_
 obtain ⟨z,rfl,hz⟩:=hv
 refine No rfl (by simp) ?_
 refine Ca rfl (P9.Sub_g W hu.y hs.y hn hm) fun v hv=>?_
 obtain ⟨w,rfl,hw⟩:=hv
 refine No rfl (by simp) ?_
 exact Rt rfl (.tup (.cons (.rf rfl) Xb3)) ⟨⟨z,w⟩,rfl,hz,hw⟩
theorem P13.Add_g (W : Wn G S N) (hu : Gv G S N n u p) (hs : Gv G S N m s q) (hn : n≤190) (hm : m≤190) : C0 51 [.d (dV u),.d (dV s)] (VoG G S N (n+m) (Yaq p q)):=by
 refine En Tryz.func51 fun _ _ _=>?_
 refine Ca rfl (P13.both_add W hu hs hn hm) fun v hv=>?_
 obtain ⟨r,rfl,hr⟩:=hv
 exact Rt rfl (.tup (.cons (.rf rfl) Xb3)) ⟨r,rfl,hr⟩
theorem P13.Sub_g (W : Wn G S N) (hu : Gv G S N n u p) (hs : Gv G S N m s q) (hn : n≤190) (hm : m≤190) : C0 50 [.d (dV u),.d (dV s)] (VoG G S N (n+m) (Xic p q)):=by
 refine En Tryz.func50 fun _ _ _=>?_
 refine Ca rfl (P13.both_sub W hu hs hn hm) fun v hv=>?_
 obtain ⟨r,rfl,hr⟩:=hv
 exact Rt rfl (.tup (.cons (.rf rfl) Xb3)) ⟨r,rfl,hr⟩
theorem P13.Equal_g (W : Wn G S N) (hu : Gv G S N n u p) (hs : Gv G S N m s q) (hn : n≤190) (hm : m≤190) : C0 44 [.d (dV u),.d (dV s)] (·=.b (dc (p=q))):=by
 refine En Tryz.func44 fun _ _ _=>?_
 refine Ce rfl (P9.Equal_g W hu.x hs.x hn hm) ?_
 refine By rfl (fun h=>?_) fun h=>?_
 · refine Ce rfl (P9.Equal_g W hu.y hs.y hn hm) ?_
   exact R1 rfl (.bp (Xaw.trans ⟨fun h2=>W4e h h2,fun e=>by rw [e]⟩))
 · exact R1 rfl (.bp ⟨nofun,fun e=>absurd (by rw [e]) h⟩)
end
end Go.Proofs.YtdlhdemfnfpboaaGreatDoor

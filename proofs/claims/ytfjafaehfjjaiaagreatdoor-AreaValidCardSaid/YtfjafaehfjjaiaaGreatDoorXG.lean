/- part 7 -/
import Derived.Test.YtfjafaehfjjaiaaGreatDoorXF
set_option linter.unusedVariables false
set_option linter.unusedSimpArgs false
set_option maxRecDepth 10000
namespace Go.Proofs.YtfjafaehfjjaiaaGreatDoor.P20
open Go Go.Vm Go.Num Go.Tow Go.Proofs.YtfjafaehfjjaiaaGreatDoor Go.Proofs.YtfjafaehfjjaiaaGreatDoor.R20
section
variable{K:Nat}{G:Tw K}{S:List (Tow.El K)}{N:List Nm}{U U' n m:Nat}{x y z:Nm}{a b:Tow.El K}{L M:List (SV K)}{u:Vn}{p:V2 K}{f:Int}
theorem Xx0(W:Wn G S N)(hu:Gv G S N n u p)(hn:n<=800): C0 36 [.d (dT u f)] (·=.b (dc (p≠vz K/\lim f))):=by
 refine En Tryz.func36 λ_ _ _=>?_
 refine Ce rfl (P13.Zero_g W hu hn) ?_
 refine By rfl (λh=>?_) λh=>?_
 . have h:p≠vz K:=by simpa [Xal,Xah] using h
   refine By rfl (λh2=>?_) λh2=>?_
   . exact R1 rfl (.bp (Xah.trans ⟨λh3=>⟨h,h2,h3⟩,λh3=>h3.2.2⟩))
   . exact R1 rfl (.bp ⟨nofun,λh3=>absurd h3.2.1 h2⟩)
 . have h:p=vz K:=by simpa [Xal,Xah] using h
   exact R1 rfl (.bp ⟨nofun,λh3=>absurd h h3.1⟩)
theorem Valid_v(W:Wn G S N)(hU:U<=400)(hl:L.length<=100)(hL:∀y∈L,SQ G S N U y): C0 11 [.d (dAr x (ls L))] (·=.b (dc (VlP G (Xb3 L)))):=by
 have hG:=W.w.g
 refine En Tryz.func11 λ_ _ _=>?_
 refine Lo (λk:Nat=>[(1,.ptr 1 0),(6,.d (dSs (ls L))),(7,.d (.int .i64 ((ls L).map dSe).length)),(8,.d (.int .i64 k))]) (λ_=>[(1,.var (.d (dAr x (ls L))))]) (λk=>k<=L.length/\∀i s,i<k->(Xb3 L)[i]?=some s->Vat G (Xb3 L) i s) (λk=>L.length-k) 0 [] rfl ⟨W0z _,λi s h=>absurd h (W3h _)⟩ λk ⟨hk,hI⟩=>?_
 refine By rfl (λh1=>?_) λh1=>?_<;>rw[Xbf] at h1
 . obtain⟨s,hs⟩:∃s,L[k]?=some s:=⟨_,W0c (by omega)⟩
   have hv:=Xdr hs
   have H:=hL s (W0f hs)
   refine Ix k rfl (Xd9 hs) ?_
   refine Dw rfl ?_
   refine Ce rfl (Xjm W H.c (by decide)) ?_
   refine By rfl (λg3=>?_) λg3=>?_
   . have g3:¬sgn K G s.a>0:=by simpa only [Xal,Xah] using g3
     rw[P11.dcF λh=>g3 (h k _ hv).1.1]
     exact R0
   have g3:sgn K G s.a>0:=W2g.1 (by simpa only [Xal,Xah] using g3)
   refine Ce rfl (Xx0 W H.v (by omega)) ?_
   refine By rfl (λg1=>?_) λg1=>?_
   . have g1:¬(s.p≠vz K/\lim s.s.f):=by simpa only [Xal,Xah] using g1
     rw[P11.dcF λh=>g1 ⟨(h k _ hv).1.2.1,(h k _ hv).1.2.2.1⟩]
     exact R0
   have g1:s.p≠vz K/\lim s.s.f:=W2g.1 (by simpa only [Xal,Xah] using g1)
   refine Ce rfl (P19.Zero_g W H.v (by omega)) ?_
   refine By rfl (λg2=>?_) λg2=>?_
   . rw[P11.dcF λh=>(h k _ hv).1.2.2.2 g2]
     exact R0
   have base:0<sgn K G s.a/\s.p≠vz K/\lim s.s.f/\¬tz G (s.a,s.p,s.s.f):=⟨g3,g1.1,g1.2,g2⟩
   refine By rfl (λh2=>?_) λh2=>?_
   . obtain⟨j,rfl⟩:∃j,k=j+1:=⟨k-1,by omega⟩
     obtain⟨r,hr⟩:∃r,L[j]?=some r:=⟨_,W0c (by omega)⟩
     have hrv:=Xdr hr
     refine Ar (j:Nat) rfl ?_
     refine Ix j rfl (Xd9 hr) ?_
     refine Ce rfl (Ybu W (hL r (W0f hr)).c H.c (by decide) (by decide)) ?_
     refine By rfl (λg4=>?_) λg4=>?_
     . have g4':¬sgn K G (Tow.add K r.a (Tow.neg K s.a))<0:=by simpa only [Xal,Xah] using g4
       have g4:¬clt G r.a s.a:=g4'
       rw[P11.dcF λh=>g4 ((h (j+1) _ hv).2 j _ rfl hrv)]
       exact R0
     . have g4':sgn K G (Tow.add K r.a (Tow.neg K s.a))<0:=W2g.1 (by simpa only [Xal,Xah] using g4)
       have g4:clt G r.a s.a:=g4'
       refine Ar (j+1+1:Nat) rfl ?_
       exact Bk (j+1+1) [] rfl ⟨by omega,Vat.next hI hv ⟨base,λj' r' e h=>by
        obtain rfl:j=j':=by omega
        rw[hrv] at h;cases h
        exact g4⟩⟩ (by show L.length-(j+1+1)<L.length-(j+1);omega)
   . refine Ar (k+1:Nat) rfl ?_
     exact Bk (k+1) [] rfl ⟨by omega,Vat.next hI hv ⟨base,λj' r' e h=>by omega⟩⟩ (by show L.length-(k+1)<L.length-k;omega)
 . rw[P11.dcT (VlP.of λi s hi h=>hI i s (by rw[W0i] at hi;omega) h)]
   exact R0
theorem Yc7(W:Wn G S N){s t:SV K}(hU:U+U'<=400)(hs:SQ G S N U s)(ht:SQ G S N U' t): C0 41 [.d (dSe s.s),.d (dSe t.s)] (·=.b (dc (s.a=t.a/\Xs9 G s.p t.p s.s.f t.s.f=0))):=by
 refine En Tryz.func41 λ_ _ _=>?_
 refine Ce rfl (P19.Cmp_g W hs.v ht.v hU) ?_
 refine Ce rfl (P9.Equal_g W hs.c ht.c (by decide) (by decide)) ?_
 refine By rfl (λh=>?_) λh=>?_
 . refine Yes rfl (by decide) ?_
   exact R1 rfl (.bp (Xah.trans ⟨λh2=>⟨h,h2⟩,λh2=>h2.2⟩))
 . exact R1 rfl (.bp ⟨nofun,λh2=>absurd h2.1 h⟩)
theorem Yml(W:Wn G S N)(hU:U+U'<=400)(hl:L.length<=100)(hl':M.length<=100)(hL:∀y∈L,SQ G S N U y)(hM:∀y∈M,SQ G S N U' y): C0 40 [.d (dSs (ls L)),.d (dSs (ls M)),.d (.raw (.func (.func 41) #[] #[]))] (·=.b (dc (EqP G (Xb3 L) (Xb3 M)))):=by
 have lL:(Xb3 L).length=L.length:=W0i ..
 have lM:(Xb3 M).length=M.length:=W0i ..
 refine En Tryz.func40 λ_ _ _=>?_
 refine By rfl (λh=>?_) λh=>?_<;>rw[Xbf,Xbf] at h
 . rw[P11.dcF λe=>h (by have:=e.1;omega)]
   exact R0
 have hll:L.length=M.length:=by omega
 refine Lo (λk:Nat=>[(0,.d (dSs (ls L))),(1,.d (dSs (ls M))),(2,.d (.raw (.func (.func 41) #[] #[]))),(15,.d (dSs (ls L))),(16,.d (.int .i64 ((ls L).map dSe).length)),(17,.d (.int .i64 k))]) (λ_=>[]) (λk=>k<=L.length/\∀(i:Nat) (s t:Tr K),i<k->(Xb3 L)[i]?=some s->(Xb3 M)[i]?=some t->s.1=t.1/\Xs9 G s.2.1 t.2.1 s.2.2 t.2.2=0) (λk=>L.length-k) 0 [] rfl ⟨W0z _,λ_ _ _ h=>absurd h (W3h _)⟩ λk ⟨hk,hI⟩=>?_
 refine By rfl (λh2=>?_) λh2=>?_<;>rw[Xbf] at h2
 . obtain⟨s,hs⟩:∃s,L[k]?=some s:=⟨_,W0c (by omega)⟩
   obtain⟨t,ht⟩:∃t,M[k]?=some t:=⟨_,W0c (by omega)⟩
   have hsv:=Xdr hs
   have htv:=Xdr ht
   refine Ix k rfl (Xd9 hs) ?_
   refine Ix k rfl (Xd9 ht) ?_
   refine Ce rfl (Yc7 W hU (hL s (W0f hs)) (hM t (W0f ht))) ?_
   refine By rfl (λh3=>?_) λh3=>?_
   . have h3:¬(s.a=t.a/\Xs9 G s.p t.p s.s.f t.s.f=0):=by simpa only [Xal,Xah] using h3
     rw[P11.dcF λh=>h3 (h.2 k _ _ hsv htv)]
     exact R0
   . have e:s.a=t.a/\Xs9 G s.p t.p s.s.f t.s.f=0:=W2g.1 (by simpa only [Xal,Xah] using h3)
     refine Ar (k+1:Nat) rfl ?_
     refine Bk (k+1) [] rfl ⟨by omega,λi s' t' hi k1 k2=>?_⟩ (by show L.length-(k+1)<L.length-k;omega)
     by_cases e':i=k
     . subst e'
       rw[hsv] at k1;rw[htv] at k2
       cases k1;cases k2
       exact e
     . exact hI i s' t' (by omega) k1 k2
 . rw[P11.dcT ⟨by rw[lL,lM];exact hll,λi s t k1 k2=>hI i s t (by have:=(W0n.1 k1).1;omega) k1 k2⟩]
   exact R0
theorem Equal_v(W:Wn G S N)(hU:U+U'<=400)(hx:Gd G S N n x a)(hy:Gd G S N m y b)(hn:n<=400)(hm:m<=400)(hl:L.length<=100)(hl':M.length<=100)(hL:∀y∈L,SQ G S N U y)(hM:∀y∈M,SQ G S N U' y): C0 12 [.d (dAr x (ls L)),.d (dAr y (ls M))] (·=.b (dc (a=b/\EqP G (Xb3 L) (Xb3 M)))):=by
 refine En Tryz.func12 λ_ _ _=>?_
 refine Ce rfl (P9.Equal_g W hx hy hn hm) ?_
 refine By rfl (λh=>?_) λh=>?_
 . refine Ce rfl (Yml W hU hl hl' hL hM) ?_
   exact R1 rfl (.bp (Xah.trans ⟨λh2=>⟨h,h2⟩,λh2=>h2.2⟩))
 . exact R1 rfl (.bp ⟨nofun,λh2=>absurd h2.1 h⟩)
theorem _root_.Go.Proofs.YtfjafaehfjjaiaaGreatDoor.R20.NF.vlp(h:NF G S N U L): VlP G (Xb3 L):=λi s hs=>by
 obtain⟨y,hy,rfl⟩:∃y,L[i]?=some y/\s=(y.a,y.p,y.s.f):=by
  rw[W1p] at hs
  cases e:L[i]? with
  | none=>rw[e] at hs;cases hs
  | some y=>rw[e] at hs;injection hs with hs;exact⟨y,rfl,hs.symm⟩
 have H:=h.m y (W0f hy)
 refine⟨⟨H.pos,H.ne,H.lim,H.nz⟩,λj r e hr=>?_⟩
 subst e
 have p1:=W0n.1 hr
 have p2:=W0n.1 hs
 have:=List.pairwise_iff_getElem.1 h.srt j (j+1) p1.1 p2.1 (W7h j)
 rwa[p1.2,p2.2] at this
theorem Yov{a:Nat}(h:a<256): arB .quo .u8 a (8:Int) (a/8:Nat):=show _/\_ from⟨by decide,wr (show Int.tdiv (a:Int) 8=((a/8:Nat):Int) from rfl) (by simp only[inK];omega)⟩
theorem Ygw{j:Nat}{y:SV K}(hL:∀y∈L,SQ G S N 16 y)(hy:SQ G S N 16 y): ∀z∈L.set j y,SQ G S N 16 z:=λz hz=>by
 rcases W4m hz with h | h
 . exact hL z h
 . rw[h];exact hy
theorem Xl5{j:Nat}{y:SV K}: ((ls L).map dSe).set j (dSe y.s)=(ls (L.set j y)).map dSe:=by
 rw[List.map_map,List.map_map,List.map_set];rfl
theorem Ynl(W:Wn G S N){i j:Int}(hi:-100<=i/\i<=100)(hj:-100<=j/\j<=100): Gv G S N 1 ⟨⟨0,(),(i:Rat)⟩,⟨0,(),(j:Rat)⟩⟩ (Tow.rat K (i:Rat),Tow.rat K (j:Rat)):=⟨Gd.rat W (Qs.int (by unfold Zs;omega) (by decide)),Gd.rat W (Qs.int (by unfold Zs;omega) (by decide))⟩
end
theorem AreaValid_ok{ops ops':List RO}{at' at2:List (Fin 256)}{ts ts':List Int}{ch:Nat}(hch:ch<256)(ht:ts.length<9223372036854775808)(hz:∀z∈ts,-9223372036854775808<=z/\z<9223372036854775808)(ht':ts'.length<9223372036854775808)(hz':∀z∈ts',-9223372036854775808<=z/\z<9223372036854775808): C0 4 [.d (dCb ops at' ts),.d (dCb ops' at2 ts'),.d (.int .u8 ch)] (·=.b true):=by
 obtain⟨l,m,K,G,S,N,W,⟨b1,b2,b3,b4⟩,c1,c2,c3,c4⟩:=Yf3 ops ops'
 have hG:=W.w.g
 refine En Tryz.func4 λ_ _ _=>?_
 refine Ce rfl Xz3 ?_
 refine No rfl nofun ?_
 refine Ca rfl (Xo8 W b1 b2 b3 b4 ht hz) λv hv=>?_
 rcases hv with ⟨_,_,_,_,c,rfl,hc⟩ | ⟨x,a,L,pts,c,rfl,hc,hx,hL4,hL,hB,hp1,hpts⟩
 . refine Ca rfl (Xo8 W c1 c2 c3 c4 ht' hz') λv hv=>?_
   obtain⟨_,_,_,_,d,rfl⟩:∃(a b:List D) (L:List Sn) (l:List Vn) (d:Bool),v=.tup (.pr (.d (dAa a b L)) (.pr (.d (dVs l)) (.b d))):=by
    rcases hv with ⟨a,b,L,l,d,e,_⟩ | ⟨x,a,L,l,d,e,_⟩
    . exact⟨a,b,L,l,d,e⟩
    . exact⟨_,_,_,l,d,e⟩
   refine Dw rfl ?_
   refine Yes rfl hc ?_
   refine Yes rfl hc ?_
   exact R0
 refine Ca rfl (Xo8 W c1 c2 c3 c4 ht' hz') λv hv=>?_
 rcases hv with ⟨_,_,_,_,d,rfl,hd⟩ | ⟨y,b,M,pts2,d,rfl,hd,hy,hM4,hM,hC,hq1,hqts⟩
 . refine Dw rfl ?_
   refine No rfl (λh=>h hc) ?_
   refine Yes rfl hd ?_
   refine No rfl (λh=>h hc) ?_
   refine Rt rfl (.one (.rf rfl) rfl rfl) ?_
   show AV.b (!d)=.b true
   cases d
   . rfl
   . exact absurd rfl hd
 have kL:(ls L).length<=100:=by rw[W0i];omega
 have kM:(ls M).length<=100:=by rw[W0i];omega
 refine Dw rfl ?_
 refine No rfl (λh=>h hc) ?_
 refine No rfl (λh=>h hd) ?_
 refine Ce rfl (Xka kL) ?_
 refine Ce rfl (Valid_v W (by decide) (by omega) hL.sq) ?_
 refine No rfl (λh=>h hL.vlp) ?_
 refine Ce rfl (Xka kL) ?_
 refine Ce rfl (Xka kM) ?_
 refine Ce rfl (Equal_v W (by decide) hx hy (by decide) (by decide) (by omega) (by omega) hL.sq hM.sq) ?_
 refine Ce rfl (R20.Equal_v W (by decide) hx hy (by decide) (by decide) (by omega) (by omega) hL.sq hM.sq) ?_
 refine No rfl (λh=>h (Xah.trans (Iff.trans ⟨λe=>⟨e.1,(EqR.iff hL.vl hM.vl).2 e.2⟩,λe=>⟨e.1,(EqR.iff hL.vl hM.vl).1 e.2⟩⟩ Xah.symm))) ?_
 refine Ce rfl (Xka kL) ?_
 refine Ce rfl (Xka kL) ?_
 refine Ce rfl (Equal_v W (by decide) hx hx (by decide) (by decide) (by omega) (by omega) hL.sq hL.sq) ?_
 refine No rfl (λh=>h ⟨rfl,EqP.rf hG⟩) ?_
 refine By rfl (λh=>?_) λh=>?_<;>rw[Xbf] at h
 . exact R0
 obtain⟨s0,L0,rfl⟩:∃s L',L=s::L':=by
  rcases L with _ | ⟨s,L⟩
  . exact absurd rfl h
  . exact⟨s,L,rfl⟩
 refine Co rfl (Ykc (s:=s0.s) (l:=ls L0) kL) λv ob hv=>?_
 obtain⟨rfl,rfl⟩:=hv
 show Pl.nx' _ _ (.st (.pr (.d (dN x)) (.own 71 7 0 ((ls (s0::L0)).map dSe).length))) [(71,.arr 7 ((ls (s0::L0)).map dSe))]
 have hLq:=hL.sq
 have hl0:(s0::L0).length<=4:=hL4
 have hlp:0<(s0::L0).length:=W4p _
 obtain⟨j,hj⟩:∃j,j=ch/8%(s0::L0).length:=⟨_,rfl⟩
 have hjl:j<(s0::L0).length:=by rw[hj];exact W1q _ hlp
 obtain⟨s,hs⟩:∃s,(s0::L0)[j]?=some s:=⟨_,W0c hjl⟩
 have H:=hLq s (W0f hs)
 refine Dw rfl ?_
 refine Ar (ch/8:Nat) rfl ?_ (Yov hch)
 refine Go.Vm.Cv (ch/8:Nat) rfl ?_ (wI (by omega))
 refine Ar j rfl ?_ (by rw[hj,Xbf];exact R9.remN hlp)
 refine Eo j rfl (by rw[Xbf];exact hjl) ?_
 refine Ar (ch%8:Nat) rfl ?_ (R9.remN (m:=8) (by decide))
 obtain⟨v0,hv0⟩:∃v,pts[0]?=some v:=⟨_,W0c (by omega)⟩
 obtain⟨p0,hp0⟩:=hpts v0 (W0f hv0)
 have fin:∀ {y:SV K},SQ G S N 16 y->((ls (s0::L0)).map dSe).length=((ls ((s0::L0).set j y)).map dSe).length/\((s0::L0).set j y).length<=10/\∀z∈(s0::L0).set j y,SQ G S N 16 z:=λ{y} hy=>⟨by rw[Xbf,Xbf,W3f],by rw[W3f];omega,Ygw hLq hy⟩
 refine Cu (some 1000000) (λ(n,L')=>[(13,.ptr 13 0)]) (λ((n,L'):Nat×List (SV K))=>[(13,.var (.st (.pr (.d (dN x)) (.own 71 7 0 n)))),(71,.arr 7 ((ls L').map dSe))]) (λ(n,L')=>n=((ls L').map dSe).length/\L'.length<=10/\∀y∈L',SQ G S N 16 y) rfl ?_ λ(n,L') ⟨hn,hl',hq⟩=>?_
 . refine By rfl (λh0=>?_) λh0=>?_
   . refine Nke rfl ?_
     refine Ld (dSe s.s) rfl (Xd9 hs) ?_
     refine Ca rfl (R9.Neg_g W H.c (by decide)) λv hv=>?_
     obtain⟨z,rfl,hz⟩:=hv
     refine Nke rfl ?_
     refine StF ((ls ((s0::L0).set j (⟨⟨z,s.s.v,s.s.f⟩,Tow.neg K s.a,s.p⟩:SV K))).map dSe) (dSe s.s) rfl (Xd9 hs) Xl5 ?_
     exact Jn (_,(s0::L0).set j (⟨⟨z,s.s.v,s.s.f⟩,Tow.neg K s.a,s.p⟩:SV K)) [] rfl (fin ⟨hz,H.v⟩)
   refine By rfl (λh1=>?_) λh1=>?_
   . refine Ce rfl (R13.Whole_ok (i:=3) (j:=0) (by decide) (by decide)) ?_
     refine Nke rfl ?_
     refine StF ((ls ((s0::L0).set j (⟨⟨s.s.c,⟨⟨0,(),((3:Int):Rat)⟩,⟨0,(),((0:Int):Rat)⟩⟩,0⟩,s.a,(Tow.rat K ((3:Int):Rat),Tow.rat K ((0:Int):Rat))⟩:SV K))).map dSe) (dSe s.s) rfl (Xd9 hs) Xl5 ?_
     exact Jn (_,(s0::L0).set j (⟨⟨s.s.c,⟨⟨0,(),((3:Int):Rat)⟩,⟨0,(),((0:Int):Rat)⟩⟩,0⟩,s.a,(Tow.rat K ((3:Int):Rat),Tow.rat K ((0:Int):Rat))⟩:SV K)) [] rfl (fin ⟨H.c,(Ynl W (i:=3) (j:=0) (by decide) (by decide)).mono (by decide)⟩)
   refine By rfl (λh2=>?_) λh2=>?_
   . refine Ce rfl (R13.Whole_ok (i:=0) (j:=0) (by decide) (by decide)) ?_
     refine Nke rfl ?_
     refine StF ((ls ((s0::L0).set j (⟨⟨s.s.c,⟨⟨0,(),((0:Int):Rat)⟩,⟨0,(),((0:Int):Rat)⟩⟩,s.s.f⟩,s.a,(Tow.rat K ((0:Int):Rat),Tow.rat K ((0:Int):Rat))⟩:SV K))).map dSe) (dSe s.s) rfl (Xd9 hs) Xl5 ?_
     exact Jn (_,(s0::L0).set j (⟨⟨s.s.c,⟨⟨0,(),((0:Int):Rat)⟩,⟨0,(),((0:Int):Rat)⟩⟩,s.s.f⟩,s.a,(Tow.rat K ((0:Int):Rat),Tow.rat K ((0:Int):Rat))⟩:SV K)) [] rfl (fin ⟨H.c,(Ynl W (i:=0) (j:=0) (by decide) (by decide)).mono (by decide)⟩)
   refine By rfl (λh3=>?_) λh3=>?_
   . refine Dw rfl ?_
     refine Eo 0 rfl (by rw[Xbf];exact hlp) ?_
     refine Ld (dSe s0.s) rfl rfl ?_
     refine Yag ((ls ((s0::L0)++[s0])).map dSe) rfl rfl rfl (by simp) (by rw[Xbf,W0d];show (s0::L0).length+1<=_;omega) ?_
     exact Jn (_,(s0::L0)++[s0]) [(71,700),(117,71)] rfl ⟨rfl,by rw[W0d];show (s0::L0).length+1<=10;omega,λz hz=>by
      rcases W1s.1 hz with hz | hz
      . exact hLq z hz
      . rw[W0h.1 hz];exact hLq s0 (W0l ..)⟩
   refine By rfl (λh4=>?_) λh4=>?_
   . refine Nke rfl ?_
     refine StF ((ls ((s0::L0).set j (⟨⟨s.s.c,s.s.v,1000001⟩,s.a,s.p⟩:SV K))).map dSe) (dSe s.s) rfl (Xd9 hs) Xl5 ?_
     exact Jn (_,(s0::L0).set j (⟨⟨s.s.c,s.s.v,1000001⟩,s.a,s.p⟩:SV K)) [] rfl (fin ⟨H.c,H.v⟩)
   refine By rfl (λh5=>?_) λh5=>?_
   . refine Ix 0 rfl (mp hv0) ?_
     refine Nke rfl ?_
     refine StF ((ls ((s0::L0).set j (⟨⟨v0.x,s.s.v,s.s.f⟩,p0.1,s.p⟩:SV K))).map dSe) (dSe s.s) rfl (Xd9 hs) Xl5 ?_
     exact Jn (_,(s0::L0).set j (⟨⟨v0.x,s.s.v,s.s.f⟩,p0.1,s.p⟩:SV K)) [] rfl (fin ⟨hp0.x.mono (by decide),H.v⟩)
   . exact Jn (_,s0::L0) [] rfl ⟨rfl,by omega,hLq⟩
 . have hn:n=((ls L').map dSe).length:=hn
   subst hn
   have hl':L'.length<=10:=hl'
   refine FzV 24 13 71 7 ((ls L').map dSe).length ((ls L').map dSe) rfl ?_ ⟨trivial,.inl rfl⟩
   refine Dw rfl ?_
   refine Ce rfl (Xka (x:=x) (l:=ls L') (by rw[W0i];omega)) ?_
   refine Ce rfl (Valid_v W (U:=16) (by decide) (by omega) hq) ?_
   refine Ce rfl (R20.Valid_v W (U:=16) (by decide) (by omega) hq) ?_
   refine Rt rfl (.one (.rf rfl) rfl rfl) ?_
   exact congrArg AV.b (Xah.2 W3x)
end Go.Proofs.YtfjafaehfjjaiaaGreatDoor.P20

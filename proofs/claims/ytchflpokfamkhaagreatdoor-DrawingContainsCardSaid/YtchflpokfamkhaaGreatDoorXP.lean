/- part 6 -/
import Derived.Test.YtchflpokfamkhaaGreatDoorXO
set_option linter.unusedVariables false
set_option linter.unusedSimpArgs false
set_option maxRecDepth 10000
namespace Go.Proofs.YtchflpokfamkhaaGreatDoor
open Go Go.Vm Go.Num Go.Tow
namespace P47
theorem Valid_arc{K:Nat}{G:Tw K}{S:List (Tow.El K)}{N:List Nm}{n m k:Nat}{p q r:V2 K}{c:Cv}(W:Wn G S N)(ha:c.arc=true)(hu:Gv G S N n c.C p)(hs:Gv G S N m c.A q)(ht:Gv G S N k c.B r)(hx:P19.Trm c.C.x)(hy:P19.Trm c.C.y)(h2:n+m+(n+m)+(n+m+(n+m))<=190)(h3:n+k+(n+k)+(n+k+(n+k))<=190)(hp:p≠q)(hr:p≠r): C0 49 [.d (dC c)] (·=.b (dc (Xao G (Xaj q p) (Xaj q p)=Xao G (Xaj r p) (Xaj r p)))):=by
 obtain⟨_,A,B,C,cw⟩:=c
 obtain rfl:_=true:=ha
 refine En Tryz.func49 λ_ _ _=>?_
 refine No rfl (λh=>h rfl) ?_
 refine Ca rfl (P15.Around_g W hu hs hx hy (by omega) hp) λv hv=>?_
 obtain⟨z,rfl,hz⟩:=hv
 refine Ca rfl (P15.Around_g W hu ht hx hy (by omega) hr) λv hv=>?_
 obtain⟨w,rfl,hw⟩:=hv
 refine Yes rfl (by decide) ?_
 refine Yes rfl (by decide) ?_
 refine Ce rfl (P9.Equal_g W hz hw h2 h3) ?_
 exact R0
theorem On_full{c:Cv}{z:Nm}{x:Vn}(ha:c.arc=true)(h1:C0 117 [.d (dC c)] (·=.tup (.pr (.d (P15.dK c.C z)) (.d (.int .i64 0)))))(h2:C0 118 [.d (P15.dK c.C z),.d (dV x)] (·=.tup (.pr (.d (.int .i64 0)) (.d (.int .i64 0)))))(h3:C0 119 [.d (dC c)] (·=.b true)): C0 53 [.d (dC c),.d (dV x)] (·=.b true):=by
 obtain⟨_,A,B,C,cw⟩:=c
 obtain rfl:_=true:=ha
 refine En Tryz.func53 λ_ _ _=>?_
 refine No rfl (λh=>h rfl) ?_
 refine Ce rfl h1 ?_
 refine No rfl (by decide) ?_
 refine Ce rfl h2 ?_
 refine No rfl (by decide) ?_
 refine No rfl (by decide) ?_
 refine Ce rfl h3 ?_
 refine Yes rfl rfl ?_
 exact R0
end P47
namespace P55
theorem Yl8{p q r:Rat×Rat}(hp:Qp 64 p)(hq:Qp 64 q)(h:Xed (K:=0) p q=r): C0 52 [.d (dV (v0 p)),.d (dV (v0 q))] (·=.tup (.pr (.d (dV (v0 r))) (.d (.int .i64 0)))):=(P13.Add_g W0 (gv0 hp) (gv0 hq) (by decide) (by decide)).mono λv ⟨z,e,hz⟩=>by rw[e,Xec hz,h]
theorem Yc7{p q r:Rat×Rat}(hp:Qp 64 p)(hq:Qp 64 q)(h:Xaj (K:=0) p q=r): C0 97 [.d (dV (v0 p)),.d (dV (v0 q))] (·=.tup (.pr (.d (dV (v0 r))) (.d (.int .i64 0)))):=(P13.Sub_g W0 (gv0 hp) (gv0 hq) (by decide) (by decide)).mono λv ⟨z,e,hz⟩=>by rw[e,Xec hz,h]
theorem Xxu{p q:Rat×Rat}{b:Bool}(hp:Qp 64 p)(hq:Qp 64 q)(h:dc (p=q)=b): C0 92 [.d (dV (v0 p)),.d (dV (v0 q))] (·=.b b):=(P13.Equal_g W0 (gv0 hp) (gv0 hq) (by decide) (by decide)).mono λv e=>e.trans (congrArg AV.b h)
theorem Yl6{q s:Rat}(hq:Qs 64 q)(h:-q=s): C0 19 [.d (dN (nr q))] (·=.d (dN (nr s))):=(P9.Neg_g W0 (g0 hq) (by decide)).mono λv ⟨z,e,hz⟩=>by rw[e,zw hz.o,<-h];rfl
theorem Xv3{q:Rat}{d:Nat}{z:Int}(hq:Qs 64 q)(hd:d<=60)(h1:0<=Xcr (q*((10^d:Int):Rat)+((0:Int):Rat)+-(z:Rat)))(h2:Xcr (q*((10^d:Int):Rat)+((0:Int):Rat)+-((z+1:Int):Rat))=-1): C0 20 [.d (dN (nr q)),.d (.int .i64 d)] (·=.tup (.pr (.d (dz z)) (.d (.int .i64 0)))) :=
 (P11.Floor_ok (P11.Pk_rat hq (by decide)) hd).mono λv ⟨w,e,hw,_⟩=>by
  obtain rfl:=Xbo.uniq (k:=0) (t:=()) trivial hw (show Xbo 0 () _ z from⟨h1,h2⟩)
  exact e
theorem Xr6{x:Nm}{d:Nat}{z:Int}{s:List UInt8}(H:P11.Pk x)(hd:d<=60)(hz:P11.RndOf x d z)(ht:txt z d=s)(hs:s.length<=400): C0 43 [.d (dN x),.d (.int .i64 d)] (·=.tup (.pr (.d (.str s)) (.d (.int .i64 0)))) :=
 (P11.dFmt_ok H hd).mono λv ⟨w,hw,_,hv⟩=>by
  obtain rfl:=Xbo.uniq H.re hw hz
  subst ht
  rw[hv,P11.fmtV,if_pos hs]
theorem dg: ∀l:List UInt8,l.all isD=true->∀b∈l,Xsv b:=λl h=>Yo5.1 h
abbrev i0: Rat:=((0:Int):Rat)
abbrev i1: Rat:=((1:Int):Rat)
abbrev i2: Rat:=((2:Int):Rat)
abbrev im: Rat:=((-1:Int):Rat)
theorem Pki{q:Rat}(h:Qs 64 q): P11.Pk ⟨0,(),q⟩:=P11.Pk_rat h (by decide)
theorem q0: Qs 64 i0:=by decide +kernel
theorem q1: Qs 64 i1:=by decide +kernel
theorem q2: Qs 64 i2:=by decide +kernel
theorem qm: Qs 64 im:=by decide +kernel
theorem f01: C0 43 [.d (dN (nr i0)),.d (.int .i64 1)] (·=.tup (.pr (.d (.str [48,46,48])) (.d (.int .i64 0)))):=Xr6 (d:=1) (z:=0) (s:=[48,46,48]) (Pki q0) (by decide) (P11.rnd_at (by decide +kernel) (by decide +kernel)) (P11.txt_at [48,48] rfl (dg _ rfl)) (by decide)
theorem f11: C0 43 [.d (dN (nr i1)),.d (.int .i64 1)] (·=.tup (.pr (.d (.str [49,46,48])) (.d (.int .i64 0)))):=Xr6 (d:=1) (z:=10) (s:=[49,46,48]) (Pki q1) (by decide) (P11.rnd_at (by decide +kernel) (by decide +kernel)) (P11.txt_at [49,48] rfl (dg _ rfl)) (by decide)
theorem f21: C0 43 [.d (dN (nr i2)),.d (.int .i64 1)] (·=.tup (.pr (.d (.str [50,46,48])) (.d (.int .i64 0)))):=Xr6 (d:=1) (z:=20) (s:=[50,46,48]) (Pki q2) (by decide) (P11.rnd_at (by decide +kernel) (by decide +kernel)) (P11.txt_at [50,48] rfl (dg _ rfl)) (by decide)
theorem f00: C0 43 [.d (dN (nr i0)),.d (.int .i64 0)] (·=.tup (.pr (.d (.str [48])) (.d (.int .i64 0)))):=Xr6 (d:=0) (z:=0) (s:=[48]) (Pki q0) (by decide) (P11.rnd_at (by decide +kernel) (by decide +kernel)) (P11.txt_at [48] rfl (dg _ rfl)) (by decide)
theorem f10: C0 43 [.d (dN (nr i1)),.d (.int .i64 0)] (·=.tup (.pr (.d (.str [49])) (.d (.int .i64 0)))):=Xr6 (d:=0) (z:=1) (s:=[49]) (Pki q1) (by decide) (P11.rnd_at (by decide +kernel) (by decide +kernel)) (P11.txt_at [49] rfl (dg _ rfl)) (by decide)
theorem fm0: C0 43 [.d (dN (nr im)),.d (.int .i64 0)] (·=.tup (.pr (.d (.str [45,49])) (.d (.int .i64 0)))):=Xr6 (d:=0) (z:=-1) (s:=[45,49]) (Pki qm) (by decide) (P11.rnd_at (by decide +kernel) (by decide +kernel)) (by unfold txt;rw[if_pos (by decide),show (-1:Int).natAbs=1 from rfl,Xdv (show 1<10 by decide)];rfl) (by decide)
abbrev sg: Cv:=⟨false,v0 (i0,i0),v0 (i1,i2),v0 (i0,i0),false⟩
abbrev wh: Cv:=⟨true,v0 (i1,i0),v0 (i1,i0),v0 (i0,i0),false⟩
theorem Ygu{α:Type}{x y:α}{i:Nat}(h:[x][i]?=some y): i=0/\x=y:=by
 cases i with
 | zero=>exact⟨rfl,by simpa using h⟩
 | succ i=>simp at h
theorem Ygl: C0 12 [.d (Xe8 [sg]),.d (.int .i64 1)] (·=.tup (.pr (.d (.str [77,32,48,46,48,32,48,46,48,32,76,32,49,46,48,32,50,46,48])) (.d (.int .i64 0)))):=by
 have hV:C0 49 [.d (dC sg)] (·=.b true):=(P47.Valid_seg (K:=0) (G:=()) (S:=[]) (N:=[]) (n:=1) (m:=1) (c:=sg) (p:=(i0,i0)) (q:=(i1,i2)) W0 rfl (gv0 ⟨q0,q0⟩) (gv0 ⟨q1,q2⟩) (by decide) (by decide)).mono λv e=>by rw[e];exact congrArg AV.b (Xaw.2 (by decide +kernel))
 have hp:=Xme (l:=[sg]) (by decide) (by decide) (λc hc=>by obtain rfl:=W0e.1 hc;exact hV) (λi c d _ h=>by simp at h)
 have hw:=Xc1 (c0:=sg) (d0:=sg) (l:=[sg]) (Z:=[Yh5 sg.B]) (cl:=false) rfl rfl (by decide) rfl (λi c w h1 h2=>by
  obtain⟨rfl,rfl⟩:=Ygu h1
  obtain⟨_,rfl⟩:=Ygu h2
  exact .seg rfl) (Xxu ⟨q0,q0⟩ ⟨q1,q2⟩ (P11.dcF (by decide +kernel)))
 exact Xxp (l:=[sg]) (d:=1) (T:=[[77],[48,46,48],[48,46,48],[76],[49,46,48],[50,46,48]]) (by decide) hp hw (by decide) rfl (λi w t h1 h2=>by
  match i,h1,h2 with
  | 0,h1,h2=>cases h1;cases h2;rfl
  | 1,h1,h2=>cases h1;cases h2;exact f01
  | 2,h1,h2=>cases h1;cases h2;exact f01
  | 3,h1,h2=>cases h1;cases h2;rfl
  | 4,h1,h2=>cases h1;cases h2;exact f11
  | 5,h1,h2=>cases h1;cases h2;exact f21
  | i+6,h1,h2=>cases h1) (by decide)
theorem Xrk: C0 49 [.d (dC wh)] (·=.b true):=(P47.Valid_arc (K:=0) (G:=()) (S:=[]) (N:=[]) (n:=1) (m:=1) (k:=1) (c:=wh) (p:=(i0,i0)) (q:=(i1,i0)) (r:=(i1,i0)) W0 rfl (gv0 ⟨q0,q0⟩) (gv0 ⟨q1,q0⟩) (gv0 ⟨q1,q0⟩) (Xbc q0) (Xbc q0) (by decide) (by decide) (by decide +kernel) (by decide +kernel)).mono λv e=>by rw[e];exact congrArg AV.b (Xaw.2 rfl)
theorem Yhw(y:Rat)(h1:y*y=i1)(h2:0<=Xcr y): y=i1:=by
 have e0:i1=1:=rfl
 have e1:(y-1)*(y+1)=0:=by rw[e0] at h1;grind
 rcases W6r.1 e1 with e | e
 . rw[e0];grind
 . exfalso
   have:y<0:=by grind
   rw[Xd2 this] at h2
   omega
theorem Xl2: C0 50 [.d (dC wh)] (·=.tup (.pr (.d (dN (nr i1))) (.d (.int .i64 0)))):=by
 have hd:d2 (i1,i0) (i0,i0)=i1:=by decide +kernel
 have h:=radius_r (c:=wh) (p:=(i0,i0)) (q:=(i1,i0)) rfl rfl ⟨q0,q0⟩ ⟨q1,q0⟩ (by decide +kernel) (by rw[hd];exact q1.mono (by decide)) (by rw[hd];decide +kernel)
 rw[hd] at h
 refine h.mono λv hv=>?_
 obtain⟨z,rfl,hz⟩:=hv
 rcases hz with ⟨y,rfl,h1,h2⟩ | ⟨_,_,h2⟩
 . have hy:y=i1:=Yhw y h1 h2
   rw[hy]
 . exact absurd ⟨(i1:Tow.El 0),by show i1*i1=i1;decide +kernel⟩ h2
theorem Xx7: C0 42 [.d (Xe8 [wh])] (·=.tup (.pr (.d (dWs (hdW wh++[Xgc (nr i1) false true (v0 (im,i0))++Xgc (nr i1) false true wh.B].flatten++[.mk [90]]))) (.d (.int .i64 0)))) :=
 Xc1 (c0:=wh) (d0:=wh) (l:=[wh]) (cl:=true) rfl rfl (by decide) rfl (λi c w h1 h2=>by
  obtain⟨rfl,rfl⟩:=Ygu h1
  obtain⟨_,rfl⟩:=Ygu h2
  exact .full (c:=wh) (w:=v0 (im,i0)) rfl Xl2 (Xxu ⟨q1,q0⟩ ⟨q1,q0⟩ (P11.dcT rfl)) (Yc7 (r:=(im,i0)) ⟨q0,q0⟩ ⟨q1,q0⟩ (W1h (show i0+-i1=im by decide +kernel) (show i0+-i0=i0 by decide +kernel))) (Yl8 (r:=(im,i0)) ⟨q0,q0⟩ ⟨qm,q0⟩ (W1h (show i0+im=im by decide +kernel) (show i0+i0=i0 by decide +kernel)))) (Xxu ⟨q1,q0⟩ ⟨q1,q0⟩ (P11.dcT rfl))
theorem Ygk: C0 12 [.d (Xe8 [wh]),.d (.int .i64 0)] (·=.tup (.pr (.d (.str [77,32,49,32,48,32,65,32,49,32,49,32,48,32,48,32,49,32,45,49,32,48,32,65,32,49,32,49,32,48,32,48,32,49,32,49,32,48,32,90])) (.d (.int .i64 0)))):=by
 have hp:=Xme (l:=[wh]) (by decide) (by decide) (λc hc=>by obtain rfl:=W0e.1 hc;exact Xrk) (λi c d _ h=>by simp at h)
 exact Xxp (l:=[wh]) (d:=0) (T:=[[77],[49],[48],[65],[49],[49],[48],[48],[49],[45,49],[48],[65],[49],[49],[48],[48],[49],[49],[48],[90]]) (by decide) hp Xx7 (by decide) rfl (λi w t h1 h2=>by
  match i,h1,h2 with
  | 0,h1,h2=>cases h1;cases h2;rfl
  | 1,h1,h2=>cases h1;cases h2;exact f10
  | 2,h1,h2=>cases h1;cases h2;exact f00
  | 3,h1,h2=>cases h1;cases h2;rfl
  | 4,h1,h2=>cases h1;cases h2;exact f10
  | 5,h1,h2=>cases h1;cases h2;exact f10
  | 6,h1,h2=>cases h1;cases h2;rfl
  | 7,h1,h2=>cases h1;cases h2;rfl
  | 8,h1,h2=>cases h1;cases h2;rfl
  | 9,h1,h2=>cases h1;cases h2;exact fm0
  | 10,h1,h2=>cases h1;cases h2;exact f00
  | 11,h1,h2=>cases h1;cases h2;rfl
  | 12,h1,h2=>cases h1;cases h2;exact f10
  | 13,h1,h2=>cases h1;cases h2;exact f10
  | 14,h1,h2=>cases h1;cases h2;rfl
  | 15,h1,h2=>cases h1;cases h2;rfl
  | 16,h1,h2=>cases h1;cases h2;rfl
  | 17,h1,h2=>cases h1;cases h2;exact f10
  | 18,h1,h2=>cases h1;cases h2;exact f00
  | 19,h1,h2=>cases h1;cases h2;rfl
  | i+20,h1,h2=>cases h1) (by decide)
theorem Ya5{p q r:Rat×Rat}(hp:Qp 64 p)(hq:Qp 64 q)(h1:p.1+q.1=r.1)(h2:p.2+q.2=r.2): C0 52 [.d (dV (v0 p)),.d (dV (v0 q))] (·=.tup (.pr (.d (dV (v0 r))) (.d (.int .i64 0)))):=Yl8 hp hq (W1h h1 h2)
theorem Yaz{p:Rat×Rat}(hp:Qp 64 p)(h:(p.1+-i0)*(p.1+-i0)+(p.2+-i0)*(p.2+-i0)=i1): C0 53 [.d (dC wh),.d (dV (v0 p))] (·=.b true):=by
 have hd:d2 (i1,i0) (i0,i0)=i1:=by decide +kernel
 have hz1:Gd (K:=0) () ([]:List (Tow.El 0)) [] 8 (nr i1) i1:=(g0 q1).mono (by decide)
 refine P47.On_full (z:=nr i1) rfl ?_ ?_ ?_
 . refine(P47.around_g (c:=wh) (K:=0) (G:=()) (S:=[]) (N:=[]) (n:=1) (m:=1) (p:=(i0,i0)) (q:=(i1,i0)) W0 (gv0 ⟨q0,q0⟩) (gv0 ⟨q1,q0⟩) (Xbc q0) (Xbc q0) (by decide) (by decide +kernel)).mono λv hv=>?_
   obtain⟨z,rfl,hz⟩:=hv
   have hz2:z=nr (d2 (i1,i0) (i0,i0)):=zw hz.o
   rw[hd] at hz2
   rw[hz2]
 . refine(P15.Side_g (K:=0) (G:=()) (S:=[]) (N:=[]) (n:=1) (m:=1) (k:=8) (p:=(i0,i0)) (q:=p) W0 (gv0 (p:=(i0,i0)) ⟨q0,q0⟩) hz1 (gv0 hp) (by decide) (by decide)).mono λv hv=>?_
   rw[hv]
   have e:Xcr (((p.1+-i0)*(p.1+-i0)+(p.2+-i0)*(p.2+-i0))+-i1)=0:=by rw[h];decide +kernel
   have e2:sgn 0 () (Tow.add 0 (Xao (K:=0) () (Xaj (K:=0) p (i0,i0)) (Xaj (K:=0) p (i0,i0))) (Tow.neg 0 (i1:Tow.El 0)))=0:=e
   rw[e2]
 . exact(P47.full_g (c:=wh) (K:=0) (G:=()) (S:=[]) (N:=[]) (n:=1) (m:=1) (p:=(i1,i0)) (q:=(i1,i0)) W0 rfl (gv0 ⟨q1,q0⟩) (gv0 ⟨q1,q0⟩) (by decide) (by decide)).mono λv e=>e.trans (congrArg AV.b (Xaw.2 rfl))
theorem Yj7: C0 18 [.d (dC wh)] (·=.tup (.pr (.d (dVs [v0 (i1,i0),v0 (i1,i0),v0 (i1,i0),v0 (i0,i1),v0 (im,i0),v0 (i0,im)])) (.d (.int .i64 0)))) :=
 extremes_arc (c:=wh) (r:=nr i1) (m:=nr im) (X:=[v0 (i1,i0),v0 (i0,i1),v0 (im,i0),v0 (i0,im)]) (B:=[true,true,true,true]) rfl Xl2 (Yl6 q1 (by decide +kernel)) rfl rfl (λi d x b h1 h2 h3=>by
  match i,h1,h2,h3 with
  | 0,h1,h2,h3=>cases h1;cases h2;cases h3;exact⟨Ya5 (p:=(i0,i0)) (q:=(i1,i0)) (r:=(i1,i0)) ⟨q0,q0⟩ ⟨q1,q0⟩ (by decide +kernel) (by decide +kernel),Yaz (p:=(i1,i0)) ⟨q1,q0⟩ (by decide +kernel)⟩
  | 1,h1,h2,h3=>cases h1;cases h2;cases h3;exact⟨Ya5 (p:=(i0,i0)) (q:=(i0,i1)) (r:=(i0,i1)) ⟨q0,q0⟩ ⟨q0,q1⟩ (by decide +kernel) (by decide +kernel),Yaz (p:=(i0,i1)) ⟨q0,q1⟩ (by decide +kernel)⟩
  | 2,h1,h2,h3=>cases h1;cases h2;cases h3;exact⟨Ya5 (p:=(i0,i0)) (q:=(im,i0)) (r:=(im,i0)) ⟨q0,q0⟩ ⟨qm,q0⟩ (by decide +kernel) (by decide +kernel),Yaz (p:=(im,i0)) ⟨qm,q0⟩ (by decide +kernel)⟩
  | 3,h1,h2,h3=>cases h1;cases h2;cases h3;exact⟨Ya5 (p:=(i0,i0)) (q:=(i0,im)) (r:=(i0,im)) ⟨q0,q0⟩ ⟨q0,qm⟩ (by decide +kernel) (by decide +kernel),Yaz (p:=(i0,im)) ⟨q0,qm⟩ (by decide +kernel)⟩
  | i+4,h1,_,_=>cases h1)
theorem l0: C0 20 [.d (dN (nr i0)),.d (.int .i64 (0:Nat))] (·=.tup (.pr (.d (dz 0)) (.d (.int .i64 0)))):=Xv3 q0 (by decide) (by decide +kernel) (by decide +kernel)
theorem l1: C0 20 [.d (dN (nr i1)),.d (.int .i64 (0:Nat))] (·=.tup (.pr (.d (dz 1)) (.d (.int .i64 0)))):=Xv3 q1 (by decide) (by decide +kernel) (by decide +kernel)
theorem lm: C0 20 [.d (dN (nr im)),.d (.int .i64 (0:Nat))] (·=.tup (.pr (.d (dz (-1))) (.d (.int .i64 0)))):=Xv3 qm (by decide) (by decide +kernel) (by decide +kernel)
theorem n0: C0 19 [.d (dN (nr i0))] (·=.d (dN (nr i0))):=Yl6 q0 (by decide +kernel)
theorem n1: C0 19 [.d (dN (nr i1))] (·=.d (dN (nr im))):=Yl6 q1 (by decide +kernel)
theorem nm: C0 19 [.d (dN (nr im))] (·=.d (dN (nr i1))):=Yl6 qm (by decide +kernel)
theorem zb(z:Int)(h:z.natAbs<4294967296): Zb z:=W0h (Xau (k:=1) (by rw[Nat.pow_one];exact h)) (by decide)
theorem zs4(a b c e:Int)(ha:a.natAbs<4294967296)(hb:b.natAbs<4294967296)(hc:c.natAbs<4294967296)(he:e.natAbs<4294967296): Zb a/\Zb b/\Zb c/\Zb e:=⟨zb a ha,zb b hb,zb c hc,zb e he⟩
theorem p10: PtF (0:Nat) (v0 (i1,i0)) ⟨1,0,-1,0⟩:=⟨⟨_,_,n1,n0,lm,l0⟩,l1,l0,zs4 _ _ _ _ (by decide) (by decide) (by decide) (by decide)⟩
theorem p01: PtF (0:Nat) (v0 (i0,i1)) ⟨0,1,0,-1⟩:=⟨⟨_,_,n0,n1,l0,lm⟩,l0,l1,zs4 _ _ _ _ (by decide) (by decide) (by decide) (by decide)⟩
theorem pm0: PtF (0:Nat) (v0 (im,i0)) ⟨-1,0,1,0⟩:=⟨⟨_,_,nm,n0,l1,l0⟩,lm,l0,zs4 _ _ _ _ (by decide) (by decide) (by decide) (by decide)⟩
theorem p0m: PtF (0:Nat) (v0 (i0,im)) ⟨0,-1,0,1⟩:=⟨⟨_,_,n0,nm,l0,l1⟩,l0,lm,zs4 _ _ _ _ (by decide) (by decide) (by decide) (by decide)⟩
abbrev fwh: List F4:=[⟨1,0,-1,0⟩,⟨1,0,-1,0⟩,⟨1,0,-1,0⟩,⟨0,1,0,-1⟩,⟨-1,0,1,0⟩,⟨0,-1,0,1⟩]
theorem Ynl: CuF (0:Nat) wh fwh:=⟨_,Yj7,rfl,by decide,λi p f h1 h2=>by
 match i,h1,h2 with
 | 0,h1,h2=>cases h1;cases h2;exact p10
 | 1,h1,h2=>cases h1;cases h2;exact p10
 | 2,h1,h2=>cases h1;cases h2;exact p10
 | 3,h1,h2=>cases h1;cases h2;exact p01
 | 4,h1,h2=>cases h1;cases h2;exact pm0
 | 5,h1,h2=>cases h1;cases h2;exact p0m
 | i+6,h1,h2=>cases h1⟩
theorem Xxw: C0 6 [.d (Xe8 [wh]),.d (.int .i64 (0:Nat))] (·=.tup (.pr (.d (Yf2 ⟨-1,-1,-1,-1⟩ 0)) (.d (.int .i64 0)))) :=
 Bounds_ok (l:=[wh]) (Fs:=[fwh]) (d:=0) (by decide) (by decide) (by decide) (λc hc=>by obtain rfl:=W0e.1 hc;exact Xrk) rfl (λi c fs h1 h2=>by
  obtain⟨rfl,rfl⟩:=Ygu h1
  obtain⟨_,rfl⟩:=Ygu h2
  exact Ynl) rfl
theorem Yli{x y:Rat}(hx:Qs 200 x): C0 46 [.d (dq x),.d (dq y)] (·=.b (dc (x=y))):=by
 have h1:=hx.n.len (by decide)
 have h2:=hx.d.len (by decide)
 refine En Tryz.func46 λ_ _ _=>?_
 refine Ce rfl (R2.SameInt_ok (z:=x.num) (w:=y.num) (by omega)) ?_
 refine By rfl (λh=>?_) λh=>?_
 . refine Ce rfl (R2.SameInt_ok (z:=(x.den:Int)) (w:=(y.den:Int)) (by omega)) ?_
   exact R1 rfl (.bp (Xaw.trans ⟨λh3=>Rat.ext h (by omega),λe=>by rw[e]⟩))
 . exact R1 rfl (.bp ⟨nofun,λe=>absurd (by rw[e]) h⟩)
abbrev dB4(a b c e:Rat): D:=.st (.pr (dq a) (.pr (dq b) (.pr (dq c) (dq e))))
theorem Xsl{a b c e:Rat}(ha:Qs 200 a)(hb:Qs 200 b)(hc:Qs 200 c)(he:Qs 200 e): C0 16 [.d (dB4 a b c e),.d (dB4 a b c e)] (·=.b true):=by
 have s:∀ {x:Rat},Qs 200 x->C0 46 [.d (dq x),.d (dq x)] (·=.b true):=λhx=>(Yli hx).mono λv e=>e.trans (congrArg AV.b (Xaw.2 rfl))
 refine En Tryz.func16 λ_ _ _=>?_
 refine Ce rfl (s ha) ?_
 refine Yes rfl rfl ?_
 refine Ce rfl (s hb) ?_
 refine Yes rfl rfl ?_
 refine Ce rfl (s hc) ?_
 refine Yes rfl rfl ?_
 refine Ce rfl (s he) ?_
 exact R0
theorem Xgq{i j:Int}(hi:-9223372036854775808<=i/\i<9223372036854775808)(hj:-9223372036854775808<=j/\j<9223372036854775808): C0 13 [.d (.int .i64 i),.d (.int .i64 j)] (·=.d (dV (v0 ((i:Rat),(j:Rat))))):=by
 refine En Tryz.func13 λ_ _ _=>?_
 refine Ce rfl (R13.Whole_ok hi hj) ?_
 exact R0
theorem Xrj{i:Int}(hi:-9223372036854775808<=i/\i<9223372036854775808): C0 14 [.d (.int .i64 i)] (·=.d (dq (i:Rat))):=by
 refine En Tryz.func14 λ_ _ _=>?_
 refine Ce rfl (R2.FromInt_ok hi) ?_
 exact R0
theorem box55_ok{a b c e:Rat}: C0 10 [.d (dB4 a b c e)] (·=.d (dB4 a b c e)):=by
 refine En Tryz.func10 λ_ _ _=>?_
 exact R0
theorem Yf1: Yf2 ⟨-1,-1,-1,-1⟩ 0=dB4 im im i1 i1:=by
 show dB4 (qb (-1) 0) (qb (-1) 0) (qb (- -1) 0) (qb (- -1) 0)=_
 rw[show qb (-1) 0=im by decide +kernel,show qb (- -1) 0=i1 by decide +kernel]
theorem aw55_ok: C0 5 [] (·=.b true):=by
 have hB:=Xxw
 rw[Yf1] at hB
 refine En Tryz.func5 λ_ _ _=>?_
 refine Ce rfl (Xgq (i:=0) (j:=0) (by decide) (by decide)) ?_
 refine Ce rfl (Xgq (i:=1) (j:=2) (by decide) (by decide)) ?_
 refine Ce rfl (Xgq (i:=0) (j:=0) (by decide) (by decide)) ?_
 refine Ce rfl Ygl ?_
 refine Ce rfl (Xgq (i:=1) (j:=0) (by decide) (by decide)) ?_
 refine Ce rfl (Xgq (i:=1) (j:=0) (by decide) (by decide)) ?_
 refine Ce rfl (Xgq (i:=0) (j:=0) (by decide) (by decide)) ?_
 refine Ce rfl Ygk ?_
 refine Ce rfl hB ?_
 refine Yes rfl (by decide) ?_
 refine Yes rfl (by decide) ?_
 refine Yes rfl (by decide) ?_
 refine Yes rfl rfl ?_
 refine Yes rfl rfl ?_
 refine Ce rfl box55_ok ?_
 refine Ce rfl (Xrj (i:=-1) (by decide)) ?_
 refine Ce rfl (Xrj (i:=-1) (by decide)) ?_
 refine Ce rfl (Xrj (i:=1) (by decide)) ?_
 refine Ce rfl (Xrj (i:=1) (by decide)) ?_
 refine Ce rfl (Xsl (a:=im) (b:=im) (c:=i1) (e:=i1) (qm.mono (by decide)) (qm.mono (by decide)) (q1.mono (by decide)) (q1.mono (by decide))) ?_
 exact R0
end P55
end Go.Proofs.YtchflpokfamkhaaGreatDoor
namespace Go.Proofs.YtchflpokfamkhaaGreatDoor.R2
open Go Go.Vm Go.Num Go.Proofs.YtchflpokfamkhaaGreatDoor
end Go.Proofs.YtchflpokfamkhaaGreatDoor.R2
namespace Go.Proofs.YtchflpokfamkhaaGreatDoor.P55
open Go Go.Vm Go.Num Go.Tow Go.Proofs.YtchflpokfamkhaaGreatDoor
end Go.Proofs.YtchflpokfamkhaaGreatDoor.P55
namespace Go.Vm
open Go Go.ChangeShapes Go.WideShapes Go.ChangeAt Go.RowKit
theorem Xje{P:Program}{t:TypeId}(ht:P.underlying t=some .bool): Reads P t λd=>∃b:Bool,d=.bool b:=λw _ _ _ _ _ _ _ h =>
 let ⟨b,h1,_⟩:=DataW.trod_bool ht h
 ⟨_,⟨b,rfl⟩,h1⟩
end Go.Vm
namespace Go.Proofs.YtchflpokfamkhaaGreatDoor
open Go Go.Vm Go.Num P55
open Go Go.Vm Go.Num Go.Tow
section
variable{K:Nat}{G:Tw K}{S:List (Tow.El K)}{N:List Nm}{n m k:Nat}{x y z:Nm}{a b v w:Tow.El K}{u s t:Vn}{p q r:V2 K}
def Ylp{K:Nat}(G:Tw K)(p:V2 K)(c:Tow.El K): V2 K:=(Tow.mul K G p.1 c,Tow.mul K G p.2 c)
theorem R13.first_ok: C0 141 [.d (.int .i64 0),.d (.int .i64 0)] (·=.d (.int .i64 0)):=by
 refine En Tryz.func141 λ_ _ _=>?_
 refine No rfl (by decide) ?_
 exact R0
theorem R13.vec_ok{x y:Nm}: C0 140 [.d (dN x),.d (dN y),.d (.int .i64 0)] (·=.tup (.pr (.d (dV ⟨x,y⟩)) (.d (.int .i64 0)))):=by
 refine En Tryz.func140 λ_ _ _=>?_
 refine No rfl (by decide) ?_
 exact RTt rfl (.cons (.rf rfl) Xbg)
theorem R13.Add_g(W:Wn G S N)(hu:Gv G S N n u p)(hs:Gv G S N m s q)(hn:n<=190)(hm:m<=190): C0 69 [.d (dV u),.d (dV s)] (VoG G S N (n+m) (Xed p q)):=by
 refine En Tryz.func69 λ_ _ _=>?_
 refine Ca rfl (R9.Add_g W hu.x hs.x hn hm) λv hv=>?_
 obtain⟨z,rfl,hz⟩:=hv
 refine Ca rfl (R9.Add_g W hu.y hs.y hn hm) λv hv=>?_
 obtain⟨w,rfl,hw⟩:=hv
 refine Dw rfl ?_
 refine Ce rfl R13.first_ok ?_
 refine Ce rfl R13.vec_ok ?_
 exact Rt rfl (.tup (.cons (.rf rfl) Xbg)) ⟨⟨z,w⟩,rfl,hz,hw⟩
theorem R13.Neg_g(W:Wn G S N)(hu:Gv G S N n u p)(hn:n<=190): C0 143 [.d (dV u)] (VeG G S N n (neg K p.1,neg K p.2)):=by
 refine En Tryz.func143 λ_ _ _=>?_
 refine Dw rfl ?_
 refine Ca rfl (R9.Neg_g W hu.x hn) λv hv=>?_
 obtain⟨z,rfl,hz⟩:=hv
 refine Ca rfl (R9.Neg_g W hu.y hn) λv hv=>?_
 obtain⟨w,rfl,hw⟩:=hv
 exact Rt rfl (.one (.rf rfl) rfl rfl) ⟨⟨z,w⟩,rfl,hz,hw⟩
theorem R13.Sub_g(W:Wn G S N)(hu:Gv G S N n u p)(hs:Gv G S N m s q)(hn:n<=190)(hm:m<=190): C0 70 [.d (dV u),.d (dV s)] (VoG G S N (n+m) (Xaj p q)):=by
 refine En Tryz.func70 λ_ _ _=>?_
 refine Dw rfl ?_
 refine Ca rfl (R13.Neg_g W hs hm) λv hv=>?_
 obtain⟨r,rfl,hr⟩:=hv
 refine Ca rfl (R13.Add_g W hu hr hn hm) λv hv=>?_
 obtain⟨z,rfl,hz⟩:=hv
 exact Rt rfl (.tup (.cons (.rf rfl) Xbg)) ⟨z,rfl,hz⟩
theorem R13.Scale_g(W:Wn G S N)(hu:Gv G S N n u p)(hx:Gd G S N m x v)(hn:n<=190)(hm:m<=190): C0 68 [.d (dV u),.d (dN x)] (VoG G S N (n+m) (Ylp G p v)):=by
 refine En Tryz.func68 λ_ _ _=>?_
 refine Ca rfl (R9.Mul_g W hu.x hx hn hm) λv hv=>?_
 obtain⟨z,rfl,hz⟩:=hv
 refine Ca rfl (R9.Mul_g W hu.y hx hn hm) λv hv=>?_
 obtain⟨w,rfl,hw⟩:=hv
 refine Dw rfl ?_
 refine Ce rfl R13.first_ok ?_
 refine Ce rfl R13.vec_ok ?_
 exact Rt rfl (.tup (.cons (.rf rfl) Xbg)) ⟨⟨z,w⟩,rfl,hz,hw⟩
theorem R13.Square_g(W:Wn G S N)(hu:Gv G S N n u p)(hn:n+n<=190): C0 158 [.d (dV u)] (OpG G S N (n+n+(n+n)) (Xao G p p)):=by
 refine En Tryz.func158 λ_ _ _=>?_
 refine Ca rfl (R13.Dot_g W hu hu (by omega) (by omega) hn) λv hv=>?_
 obtain⟨z,rfl,hz⟩:=hv
 exact Rt rfl (.tup (.cons (.rf rfl) Xbg)) ⟨z,rfl,hz⟩
theorem R13.Equal_g(W:Wn G S N)(hu:Gv G S N n u p)(hs:Gv G S N m s q)(hn:n<=190)(hm:m<=190): C0 74 [.d (dV u),.d (dV s)] (·=.b (dc (p=q))):=by
 refine En Tryz.func74 λ_ _ _=>?_
 refine Ce rfl (R9.Equal_g W hu.x hs.x hn hm) ?_
 refine By rfl (λh=>?_) λh=>?_
 . refine Ce rfl (R9.Equal_g W hu.y hs.y hn hm) ?_
   exact R1 rfl (.bp (Xaw.trans ⟨λh2=>W1h h h2,λe=>by rw[e]⟩))
 . exact R1 rfl (.bp ⟨nofun,λe=>absurd (by rw[e]) h⟩)
theorem R15.vec_ok{u:Vn}: CN0 67 [.ptr 1000001 0,.d (dV u),.d (.int .i64 0)] [(1000001,cal)] (·=.d (dV u)):=by
 refine EnW Tryz.func67 λ_ _ _ _=>?_
 refine Cn [] rfl R15.note_ok λv hv=>?_
 refine No rfl (by decide) ?_
 exact Rw [] [(1000001,cal)] rfl (.one (.rf rfl) rfl rfl) ⟨rfl,rfl⟩
theorem R15.Plus_g(W:Wn G S N)(hu:Gv G S N n u p)(hs:Gv G S N m s q)(hn:n<=190)(hm:m<=190): CN0 25 [.ptr 1000001 0,.d (dV u),.d (dV s)] [(1000001,cal)] (VeG G S N (n+m) (Xed p q)):=by
 refine EnW Tryz.func25 λ_ _ _ _=>?_
 refine Ca rfl (R13.Add_g W hu hs hn hm) λv hv=>?_
 obtain⟨z,rfl,hz⟩:=hv
 refine Cn [] rfl R15.vec_ok λv hv=>?_
 subst hv
 exact Rw [] [(1000001,cal)] rfl (.one (.rf rfl) rfl rfl) ⟨rfl,z,rfl,hz⟩
theorem R15.Minus_g(W:Wn G S N)(hu:Gv G S N n u p)(hs:Gv G S N m s q)(hn:n<=190)(hm:m<=190): CN0 27 [.ptr 1000001 0,.d (dV u),.d (dV s)] [(1000001,cal)] (VeG G S N (n+m) (Xaj p q)):=by
 refine EnW Tryz.func27 λ_ _ _ _=>?_
 refine Ca rfl (R13.Sub_g W hu hs hn hm) λv hv=>?_
 obtain⟨z,rfl,hz⟩:=hv
 refine Cn [] rfl R15.vec_ok λv hv=>?_
 subst hv
 exact Rw [] [(1000001,cal)] rfl (.one (.rf rfl) rfl rfl) ⟨rfl,z,rfl,hz⟩
theorem R15.Scale_g(W:Wn G S N)(hu:Gv G S N n u p)(hx:Gd G S N m x v)(hn:n<=190)(hm:m<=190): CN0 24 [.ptr 1000001 0,.d (dV u),.d (dN x)] [(1000001,cal)] (VeG G S N (n+m) (Ylp G p v)):=by
 refine EnW Tryz.func24 λ_ _ _ _=>?_
 refine Ca rfl (R13.Scale_g W hu hx hn hm) λv hv=>?_
 obtain⟨z,rfl,hz⟩:=hv
 refine Cn [] rfl R15.vec_ok λv hv=>?_
 subst hv
 exact Rw [] [(1000001,cal)] rfl (.one (.rf rfl) rfl rfl) ⟨rfl,z,rfl,hz⟩
theorem R15.Square_g(W:Wn G S N)(hu:Gv G S N n u p)(hn:n+n<=190): CN0 84 [.ptr 1000001 0,.d (dV u)] [(1000001,cal)] (OnG G S N (n+n+(n+n)) (Xao G p p)):=by
 refine EnW Tryz.func84 λ_ _ _ _=>?_
 refine Ca rfl (R13.Square_g W hu hn) λv hv=>?_
 obtain⟨z,rfl,hz⟩:=hv
 refine Cn [] rfl R15.num_ok λv hv=>?_
 subst hv
 exact Rw [] [(1000001,cal)] rfl (.one (.rf rfl) rfl rfl) ⟨rfl,z,rfl,hz⟩
theorem R15.Dot_g(W:Wn G S N)(hu:Gv G S N n u p)(hs:Gv G S N m s q)(hn:n<=190)(hm:m<=190)(h2:n+m<=190): CN0 82 [.ptr 1000001 0,.d (dV u),.d (dV s)] [(1000001,cal)] (OnG G S N (n+m+(n+m)) (Xao G p q)):=by
 refine EnW Tryz.func82 λ_ _ _ _=>?_
 refine Ca rfl (R13.Dot_g W hu hs hn hm h2) λv hv=>?_
 obtain⟨z,rfl,hz⟩:=hv
 refine Cn [] rfl R15.num_ok λv hv=>?_
 subst hv
 exact Rw [] [(1000001,cal)] rfl (.one (.rf rfl) rfl rfl) ⟨rfl,z,rfl,hz⟩
theorem R15.Far_g(W:Wn G S N)(hu:Gv G S N n u p)(hs:Gv G S N m s q)(h2:n+m+(n+m)<=190): CN0 86 [.ptr 1000001 0,.d (dV u),.d (dV s)] [(1000001,cal)] (OnG G S N (n+m+(n+m)+(n+m+(n+m))) (Xao G (Xaj p q) (Xaj p q))):=by
 refine EnW Tryz.func86 λ_ _ _ _=>?_
 refine Cn [] rfl (R15.Minus_g W hu hs (by omega) (by omega)) λv hv=>?_
 obtain⟨r,rfl,hr⟩:=hv
 refine Cn [] rfl (R15.Square_g W hr h2) λv hv=>?_
 obtain⟨z,rfl,hz⟩:=hv
 exact Rw [] [(1000001,cal)] rfl (.one (.rf rfl) rfl rfl) ⟨rfl,z,rfl,hz⟩
end
end Go.Proofs.YtchflpokfamkhaaGreatDoor
namespace Go.Tow
open Go
section
section
variable{K:Nat}{G:Tw K}{p q r u x y w z:V2 K}
def Xft(p:V2 K): V2 K:=(neg K p.1,neg K p.2)
theorem Xo6: Xai G p (Xap G p q)=mul K G (Xao G p p) q.2:=by
 obtain⟨a,b⟩:=p
 obtain⟨c,d⟩:=q
 have L:=Xax K G
 exact(Laws.req L [a,b,c,d] (.add (.mul (.neg (.v 1)) (.add (.mul (.v 0) (.v 2)) (.neg (.mul (.v 1) (.v 3))))) (.mul (.v 0) (.add (.mul (.v 0) (.v 3)) (.mul (.v 1) (.v 2))))) (.mul (.add (.mul (.v 0) (.v 0)) (.mul (.v 1) (.v 1))) (.v 3)) (by decide +kernel))
theorem Xni: Xai G (Xap G p r) (Xap G q r)=mul K G (Xao G r r) (Xai G p q):=by
 obtain⟨a,b⟩:=p
 obtain⟨c,d⟩:=q
 obtain⟨e,f⟩:=r
 have L:=Xax K G
 exact(Laws.req L [a,b,c,d,e,f] (.add (.mul (.neg (.add (.mul (.v 0) (.v 5)) (.mul (.v 1) (.v 4)))) (.add (.mul (.v 2) (.v 4)) (.neg (.mul (.v 3) (.v 5))))) (.mul (.add (.mul (.v 0) (.v 4)) (.neg (.mul (.v 1) (.v 5)))) (.add (.mul (.v 2) (.v 5)) (.mul (.v 3) (.v 4))))) (.mul (.add (.mul (.v 4) (.v 4)) (.mul (.v 5) (.v 5))) (.add (.mul (.neg (.v 1)) (.v 2)) (.mul (.v 0) (.v 3)))) (by decide +kernel))
theorem Xc2: Xai G q p=neg K (Xai G p q):=by
 obtain⟨a,b⟩:=p
 obtain⟨c,d⟩:=q
 have L:=Xax K G
 exact(Laws.req L [a,b,c,d] (.add (.mul (.neg (.v 3)) (.v 0)) (.mul (.v 2) (.v 1))) (.neg (.add (.mul (.neg (.v 1)) (.v 2)) (.mul (.v 0) (.v 3)))) (by decide +kernel))
theorem Yhb: mul K G q.2 (Xai G p r)=add K (mul K G r.2 (Xai G p q)) (mul K G p.2 (Xai G q r)):=by
 obtain⟨a,b⟩:=p
 obtain⟨c,d⟩:=q
 obtain⟨e,f⟩:=r
 have L:=Xax K G
 exact(Laws.req L [a,b,c,d,e,f] (.mul (.v 3) (.add (.mul (.neg (.v 1)) (.v 4)) (.mul (.v 0) (.v 5)))) (.add (.mul (.v 5) (.add (.mul (.neg (.v 1)) (.v 2)) (.mul (.v 0) (.v 3)))) (.mul (.v 1) (.add (.mul (.neg (.v 3)) (.v 4)) (.mul (.v 2) (.v 5))))) (by decide +kernel))
theorem Xbj: Xap G p q=Xap G q p:=by
 obtain⟨a,b⟩:=p
 obtain⟨c,d⟩:=q
 have L:=Xax K G
 exact W1h (Laws.req L [a,b,c,d] (.add (.mul (.v 0) (.v 2)) (.neg (.mul (.v 1) (.v 3)))) (.add (.mul (.v 2) (.v 0)) (.neg (.mul (.v 3) (.v 1)))) (by decide +kernel)) (Laws.req L [a,b,c,d] (.add (.mul (.v 0) (.v 3)) (.mul (.v 1) (.v 2))) (.add (.mul (.v 2) (.v 1)) (.mul (.v 3) (.v 0))) (by decide +kernel))
theorem Xgg: Xap G (Xap G p q) r=Xap G p (Xap G q r):=by
 obtain⟨a,b⟩:=p
 obtain⟨c,d⟩:=q
 obtain⟨e,f⟩:=r
 have L:=Xax K G
 exact W1h (Laws.req L [a,b,c,d,e,f] (.add (.mul (.add (.mul (.v 0) (.v 2)) (.neg (.mul (.v 1) (.v 3)))) (.v 4)) (.neg (.mul (.add (.mul (.v 0) (.v 3)) (.mul (.v 1) (.v 2))) (.v 5)))) (.add (.mul (.v 0) (.add (.mul (.v 2) (.v 4)) (.neg (.mul (.v 3) (.v 5))))) (.neg (.mul (.v 1) (.add (.mul (.v 2) (.v 5)) (.mul (.v 3) (.v 4)))))) (by decide +kernel)) (Laws.req L [a,b,c,d,e,f] (.add (.mul (.add (.mul (.v 0) (.v 2)) (.neg (.mul (.v 1) (.v 3)))) (.v 5)) (.mul (.add (.mul (.v 0) (.v 3)) (.mul (.v 1) (.v 2))) (.v 4))) (.add (.mul (.v 0) (.add (.mul (.v 2) (.v 5)) (.mul (.v 3) (.v 4)))) (.mul (.v 1) (.add (.mul (.v 2) (.v 4)) (.neg (.mul (.v 3) (.v 5)))))) (by decide +kernel))
theorem Xj0: Xap G (Xft p) q=Xft (Xap G p q):=by
 obtain⟨a,b⟩:=p
 obtain⟨c,d⟩:=q
 have L:=Xax K G
 exact W1h (Laws.req L [a,b,c,d] (.add (.mul (.neg (.v 0)) (.v 2)) (.neg (.mul (.neg (.v 1)) (.v 3)))) (.neg (.add (.mul (.v 0) (.v 2)) (.neg (.mul (.v 1) (.v 3))))) (by decide +kernel)) (Laws.req L [a,b,c,d] (.add (.mul (.neg (.v 0)) (.v 3)) (.mul (.neg (.v 1)) (.v 2))) (.neg (.add (.mul (.v 0) (.v 3)) (.mul (.v 1) (.v 2)))) (by decide +kernel))
theorem Xj1: Xai G (Xft p) q=neg K (Xai G p q):=by
 obtain⟨a,b⟩:=p
 obtain⟨c,d⟩:=q
 have L:=Xax K G
 exact(Laws.req L [a,b,c,d] (.add (.mul (.neg (.neg (.v 1))) (.v 2)) (.mul (.neg (.v 0)) (.v 3))) (.neg (.add (.mul (.neg (.v 1)) (.v 2)) (.mul (.v 0) (.v 3)))) (by decide +kernel))
theorem Xlk(G:Tw K){p:V2 K}: Xft (Xft p)=p:=W1h ((Xax K G).nn _) ((Xax K G).nn _)
theorem Xqm: Xap G p (Xft q)=Xft (Xap G p q):=by rw[Xbj,Xj0,Xbj]
theorem Xiq: Xai G p (Xft q)=neg K (Xai G p q):=by rw[Xc2,Xj1,<-Xc2]
theorem Xb1(hG:red K G)(hp:p≠vz K): sgn K G (Xao G p p)=1:=by
 have Sg:=Xak (Xae hG)
 have h1:=(Xdo (Sg.tri p.1)).1
 have h2:=(Xdo (Sg.tri p.2)).1
 have h3:=Sg.sa (mul K G p.1 p.1) (mul K G p.2 p.2) (by rw[Sg.sm];exact h1) (by rw[Sg.sm];exact h2)
 have h3:0<=sgn K G (Xao G p p):=h3
 rcases Sg.tri (Xao G p p) with h | h | h
 . exact h
 . exact absurd (vsq hG h) hp
 . omega
theorem Xgf(hG:red K G)(hp:p≠vz K): vup G (Xft p)↔¬vup G p:=by
 have Sg:=Xak (Xae hG)
 have h0:¬(sgn K G p.1=0/\sgn K G p.2=0):=λh=>hp ((Xe3 hG).2 h)
 have h1:=Sg.tri p.1
 have h2:=Sg.tri p.2
 unfold vup Xft
 simp only[Sg.sn]
 omega
theorem Xfs(h:vup G p): 0<=sgn K G p.2:=by unfold vup at h;omega
theorem Xhl(hG:red K G)(h:vup G p): p≠vz K:=λe=>by
 have:=(Xe3 hG).1 e
 unfold vup at h
 omega
theorem Yg7(hG:red K G)(hp:vup G p)(hq:vup G q)(hr:vup G r)(h1:0<=sgn K G (Xai G p q))(h2:0<=sgn K G (Xai G q r)): 0<=sgn K G (Xai G p r):=by
 have Sg:=Xak (Xae hG)
 have L:=Xax K G
 have yp:=Xfs hp
 have yr:=Xfs hr
 have h:=congrArg (sgn K G) (Yhb (G:=G) (p:=p) (q:=q) (r:=r))
 have h3:=Sg.sa (mul K G r.2 (Xai G p q)) (mul K G p.2 (Xai G q r)) (by rw[Sg.sm];exact W4t yr h1) (by rw[Sg.sm];exact W4t yp h2)
 rw[<-h,Sg.sm] at h3
 rcases hq with hq | ⟨hq,hx⟩
 . have:sgn K G q.2=1:=by have:=Sg.tri q.2;omega
   rw[this,W2y] at h3
   exact h3
 . have hx:sgn K G q.1=1:=by have:=Sg.tri q.1;omega
   have z2:=(Xbb hG).1 hq
   have e1:Xai G p q=neg K (mul K G p.2 q.1):=by
    show add K (mul K G (neg K p.2) q.1) (mul K G p.1 q.2)=_
    rw[z2,L.mz,L.az,L.nm]
   rw[e1,Sg.sn,Sg.sm,hx,W4a] at h1
   have y0:sgn K G p.2=0:=by omega
   have zp:=(Xbb hG).1 y0
   have e2:Xai G p r=mul K G p.1 r.2:=by
    show add K (mul K G (neg K p.2) r.1) (mul K G p.1 r.2)=_
    rw[zp,L.nz,L.zm,L.za]
   rw[e2,Sg.sm]
   exact W4t (by unfold vup at hp;omega) yr
theorem Xo3(hG:red K G)(hp:vup G p)(hq:vup G q)(h:sgn K G p.2=0): vup G (Xap G p q):=by
 have Sg:=Xak (Xae hG)
 have L:=Xax K G
 have hx:sgn K G p.1=1:=by have:=Sg.tri p.1;unfold vup at hp;omega
 have z2:=(Xbb hG).1 h
 have e1:(Xap G p q).1=mul K G p.1 q.1:=by
  show add K (mul K G p.1 q.1) (neg K (mul K G p.2 q.2))=_
  rw[z2,L.zm,L.nz,L.az]
 have e2:(Xap G p q).2=mul K G p.1 q.2:=by
  show add K (mul K G p.1 q.2) (mul K G p.2 q.1)=_
  rw[z2,L.zm,L.az]
 unfold vup
 rw[e1,e2,Sg.sm,Sg.sm,hx,W2y,W2y]
 exact hq
theorem Xya(hG:red K G)(hx:vup G x)(hy:vup G y)(hw:vup G w)(h:0<=sgn K G (Xai G x y))(hyw:vup G (Xap G y w)): vup G (Xap G x w):=W1c λhn=>by
 have Sg:=Xak (Xae hG)
 have L:=Xax K G
 have xw:=Xb8 hG (Xhl hG hx) (Xhl hG hw)
 have hB:=(Xgf hG xw).2 hn
 have w2:=Xb1 hG (Xhl hG hw)
 have key:∀s:V2 K,sgn K G (Xai G w (Xap G s w))=sgn K G s.2:=λs=>by rw[Xbj,Xo6,Sg.sm,w2,W2y]
 have c1:0<=sgn K G (Xai G (Xft (Xap G x w)) w):=by
  rw[Xc2,Xiq,Sg.sn,Sg.sn,key]
  have:=Xfs hx;omega
 have c2:0<=sgn K G (Xai G (Xap G y w) (Xft (Xap G x w))):=by
  rw[Xiq,Xc2,Sg.sn,Sg.sn,Xni,Sg.sm,w2,W2y]
  omega
 have c3:=Yg7 hG hyw hB hw c2 c1
 rw[Xc2,Sg.sn,key] at c3
 have y0:sgn K G y.2=0:=by have:=Xfs hy;omega
 have z2:=(Xbb hG).1 y0
 have e1:Xai G x y=neg K (mul K G x.2 y.1):=by
  show add K (mul K G (neg K x.2) y.1) (mul K G x.1 y.2)=_
  rw[z2,L.mz,L.az,L.nm]
 have yx:sgn K G y.1=1:=by have:=Sg.tri y.1;unfold vup at hy;omega
 rw[e1,Sg.sn,Sg.sm,yx,W4a] at h
 have x0:sgn K G x.2=0:=by have:=Xfs hx;omega
 exact hn (Xo3 hG hx hw x0)
def vh(G:Tw K)(p:V2 K): Int:=if vup G p then 0 else 1
def Xdx(G:Tw K)(p:V2 K): V2 K:=if vup G p then p else Xft p
def vhe(G:Tw K)(p q:V2 K): Int:=vh G (Xap G (Xdx G p) (Xdx G q))
theorem Xcq: vh G p=0/\vup G p\/vh G p=1/\¬vup G p:=by
 unfold vh
 by_cases h:vup G p
 . rw[if_pos h];exact .inl ⟨rfl,h⟩
 . rw[if_neg h];exact .inr ⟨rfl,h⟩
theorem Yba(hG:red K G)(hp:p≠vz K): vh G (Xft p)=1-vh G p:=by
 have h:=Xgf hG hp
 unfold vh
 by_cases hu:vup G p
 . rw[if_pos hu,if_neg λe=>h.1 e hu];rfl
 . rw[if_neg hu,if_pos (h.2 hu)];rfl
theorem Xfb(hG:red K G)(hp:p≠vz K): vup G (Xdx G p):=by
 unfold Xdx
 by_cases hu:vup G p
 . rw[if_pos hu];exact hu
 . rw[if_neg hu];exact(Xgf hG hp).2 hu
theorem Xdl: vh G p=0/\vup G p/\p=Xdx G p\/vh G p=1/\¬vup G p/\p=Xft (Xdx G p):=by
 unfold Xdx
 rcases Xcq (G:=G) (p:=p) with ⟨h1,h2⟩ | ⟨h1,h2⟩
 . rw[if_pos h2];exact .inl ⟨h1,h2,rfl⟩
 . rw[if_neg h2,Xlk G];exact .inr ⟨h1,h2,rfl⟩
section
variable(hG:red K G)(hp:p≠vz K)(hq:q≠vz K)
include hG hp hq
theorem Ypa: Xap G (Xdx G p) (Xdx G q)≠vz K:=Xb8 hG (Xhl hG (Xfb hG hp)) (Xhl hG (Xfb hG hq))
theorem Xs0: vh G (Xap G p q)=(vh G p+vh G q+vhe G p q)%2:=by
 have hn:=Ypa hG hp hq
 have ht:=Xcq (G:=G) (p:=Xap G (Xdx G p) (Xdx G q))
 unfold vhe
 rcases Xdl (G:=G) (p:=p) with ⟨a1,_,e1⟩ | ⟨a1,_,e1⟩<;>rcases Xdl (G:=G) (p:=q) with ⟨a2,_,e2⟩ | ⟨a2,_,e2⟩
 . rw[a1,a2,show Xap G p q=Xap G (Xdx G p) (Xdx G q) by rw[<-e1,<-e2]];omega
 . rw[a1,a2,show Xap G p q=Xft (Xap G (Xdx G p) (Xdx G q)) by rw[<-Xqm,<-e1,<-e2],Yba hG hn];omega
 . rw[a1,a2,show Xap G p q=Xft (Xap G (Xdx G p) (Xdx G q)) by rw[<-Xj0,<-e1,<-e2],Yba hG hn];omega
 . rw[a1,a2,show Xap G p q=Xft (Xft (Xap G (Xdx G p) (Xdx G q))) by rw[<-Xj0,<-Xqm,<-e1,<-e2],Xlk G];omega
omit hG hp hq in
theorem Xd8: Xb9 G p q=if vh G p=vh G q then-sgn K G (Xai G p q) else vh G p-vh G q:=by
 unfold Xb9
 rcases Xcq (G:=G) (p:=p) with ⟨a1,b1⟩ | ⟨a1,b1⟩<;>rcases Xcq (G:=G) (p:=q) with ⟨a2,b2⟩ | ⟨a2,b2⟩<;>rw[a1,a2]<;>simp[b1,b2]
theorem Xj6{f g:Int}: Xo9 G p q f g=f+g+(vh G p+vh G q+vhe G p q)/2:=by
 have Sg:=Xak (Xae hG)
 have hm:=Xs0 hG hp hq
 have hpq:=Xb8 hG hp hq
 have hc:=Xd8 (G:=G) (p:=Xap G p q) (q:=p)
 have ht:=Xcq (G:=G) (p:=Xap G (Xdx G p) (Xdx G q))
 have e1:sgn K G (Xai G (Xap G p q) p)=- sgn K G q.2:=by
  rw[Xc2,Sg.sn,Xo6,Sg.sm,Xb1 hG hp,W2y]
 rw[e1] at hc
 have ty:=Sg.tri q.2
 have he:vhe G p q=vh G (Xap G (Xdx G p) (Xdx G q)):=rfl
 rw[<-he] at ht
 have hf:sgn K G q.2=0->vhe G p q=0:=λh0=>by
  have hy:sgn K G (Xdx G q).2=0:=by
   rcases Xdl (G:=G) (p:=q) with ⟨_,_,e2⟩ | ⟨_,b2,_⟩
   . rw[<-e2];exact h0
   . rw[show Xdx G q=Xft q from if_neg b2];show sgn K G (neg K q.2)=0;rw[Sg.sn,h0];rfl
  have:=Xo3 hG (Xfb hG hq) (Xfb hG hp) hy
  rw[Xbj] at this
  rw[he];exact if_pos this
 have hq':(vh G q=0->0<=sgn K G q.2)/\(vh G q=1->sgn K G q.2<=0):=by
  rcases Xcq (G:=G) (p:=q) with ⟨a2,b2⟩ | ⟨a2,b2⟩
  . exact⟨λ_=>Xfs b2,λh=>by omega⟩
  . refine⟨λh=>by omega,λ_=>?_⟩
    unfold vup at b2;omega
 have hp':vh G p=0\/vh G p=1:=by rcases Xcq (G:=G) (p:=p) with ⟨a,_⟩ | ⟨a,_⟩<;>omega
 have hq2:vh G q=0\/vh G q=1:=by rcases Xcq (G:=G) (p:=q) with ⟨a,_⟩ | ⟨a,_⟩<;>omega
 unfold Xo9
 rw[hc]
 rcases hp' with a1 | a1<;>rcases hq2 with a2 | a2<;>rcases ht with ⟨a3,_⟩ | ⟨a3,_⟩<;>rw[a1,a2,a3] at hm<;>rw[a1,a2,a3,hm]<;>simp<;>omega
omit hG hp hq in
theorem Xyc: vhe G p q=vhe G q p:=by unfold vhe;rw[Xbj]
omit hG hp hq in
theorem Xo5: vhe G p q=0\/vhe G p q=1:=by
 unfold vhe
 rcases Xcq (G:=G) (p:=Xap G (Xdx G p) (Xdx G q)) with ⟨a,_⟩ | ⟨a,_⟩<;>omega
end
theorem Xs1(hG:red K G)(hp:p≠vz K)(hq:q≠vz K){f g:Int}: Xo9 G p q f g=Xo9 G q p g f:=by
 rw[Xj6 hG hp hq,Xj6 hG hq hp,Xyc (p:=p)]
 omega
theorem Xj2: Xap G p (Xa2 p)=(Xao G p p,zero K):=by
 obtain⟨a,b⟩:=p
 have L:=Xax K G
 exact W1h (Laws.req L [a,b] (.add (.mul (.v 0) (.v 0)) (.neg (.mul (.v 1) (.neg (.v 1))))) (.add (.mul (.v 0) (.v 0)) (.mul (.v 1) (.v 1))) (by decide +kernel)) (Laws.req L [a,b] (.add (.mul (.v 0) (.neg (.v 1))) (.mul (.v 1) (.v 0))) .z (by decide +kernel))
theorem Xfc(hG:red K G)(hp:p≠vz K): Xa2 p≠vz K:=λh=>hp (by
 have Sg:=Xak (Xae hG)
 rw[Xe3 hG] at h |-
 have h2:sgn K G (neg K p.2)=0:=h.2
 rw[Sg.sn] at h2
 exact⟨h.1,by omega⟩)
theorem Xo4(hG:red K G)(hx:x≠vz K)(hy:y≠vz K)(hu:u≠vz K)(h:0<=sgn K G (Xai G (Xdx G x) (Xdx G y))): vhe G x u<=vhe G y u:=by
 have b1:=Xo5 (G:=G) (p:=x) (q:=u)
 rcases Xo5 (G:=G) (p:=y) (q:=u) with b2 | b2
 . have u1:vup G (Xap G (Xdx G y) (Xdx G u)):=W1c λh=>by
    have:vhe G y u=1:=if_neg h
    omega
   have:=Xya hG (Xfb hG hx) (Xfb hG hy) (Xfb hG hu) h u1
   have:vhe G x u=0:=if_pos this
   omega
 . omega
theorem Xj4(hG:red K G)(hx:x≠vz K)(hy:y≠vz K)(hu:u≠vz K): (if Xo9 G x u 0 0<Xo9 G y u 0 0 then -1 else if Xo9 G x u 0 0>Xo9 G y u 0 0 then 1 else Xb9 G (Xap G x u) (Xap G y u))=Xb9 G x y:=by
 have Sg:=Xak (Xae hG)
 have hxu:=Xb8 hG hx hu
 have hyu:=Xb8 hG hy hu
 rw[Xj6 hG hx hu,Xj6 hG hy hu,Xd8 (p:=Xap G x u),Xd8 (p:=x),Xs0 hG hx hu,Xs0 hG hy hu,Xni,Sg.sm,Xb1 hG hu,W2y]
 have m1:=Xo4 hG hx hy hu
 have m2:=Xo4 hG hy hx hu
 rw[Xc2,Sg.sn] at m2
 have b1:=Xo5 (G:=G) (p:=x) (q:=u)
 have b2:=Xo5 (G:=G) (p:=y) (q:=u)
 have tu:vh G u=0\/vh G u=1:=by rcases Xcq (G:=G) (p:=u) with ⟨a,_⟩ | ⟨a,_⟩<;>omega
 have tc:=Sg.tri (Xai G x y)
 have hc:sgn K G (Xai G (Xdx G x) (Xdx G y))=if vh G x=vh G y then sgn K G (Xai G x y) else-sgn K G (Xai G x y):=by
  rcases Xdl (G:=G) (p:=x) with ⟨a1,_,e1⟩ | ⟨a1,_,e1⟩<;>rcases Xdl (G:=G) (p:=y) with ⟨a2,_,e2⟩ | ⟨a2,_,e2⟩
  . rw[<-e1,<-e2,if_pos (by omega)]
  . rw[if_neg (by omega),show Xai G x y=Xai G (Xdx G x) (Xft (Xdx G y)) by rw[<-e1,<-e2],Xiq,Sg.sn];omega
  . rw[if_neg (by omega),show Xai G x y=Xai G (Xft (Xdx G x)) (Xdx G y) by rw[<-e1,<-e2],Xj1,Sg.sn];omega
  . rw[if_pos (by omega),show Xai G x y=Xai G (Xft (Xdx G x)) (Xft (Xdx G y)) by rw[<-e1,<-e2],Xj1,Xiq,Sg.sn,Sg.sn];omega
 rw[hc] at m1 m2
 have t1:vh G x=0\/vh G x=1:=by rcases Xcq (G:=G) (p:=x) with ⟨a,_⟩ | ⟨a,_⟩<;>omega
 have t2:vh G y=0\/vh G y=1:=by rcases Xcq (G:=G) (p:=y) with ⟨a,_⟩ | ⟨a,_⟩<;>omega
 generalize sgn K G (Xai G x y)=c at *
 generalize vhe G x u=e1 at *
 generalize vhe G y u=e2 at *
 generalize vh G x=h1 at *
 generalize vh G y=h2 at *
 generalize vh G u=h3 at *
 clear hc
 rcases t1 with rfl | rfl<;>rcases t2 with rfl | rfl<;>rcases tu with rfl | rfl<;>rcases b1 with rfl | rfl<;>rcases b2 with rfl | rfl<;>rcases tc with rfl | rfl | rfl<;>simp at m1 m2 |-
end
end
section
section
variable{K:Nat}{G:Tw K}{p q r u x y w z:V2 K}{s:El K}
theorem Xdm(hG:red K G): Xb9 G q p=- Xb9 G p q:=by
 have Sg:=Xak (Xae hG)
 rw[Xd8,Xd8,Xc2 (p:=p),Sg.sn]
 by_cases h:vh G p=vh G q
 . rw[if_pos h,if_pos h.symm]
 . rw[if_neg h,if_neg λe=>h e.symm];omega
def vsc(G:Tw K)(s:El K)(p:V2 K): V2 K:=(mul K G s p.1,mul K G s p.2)
theorem Ymb(hG:red K G)(hs:sgn K G s=1): vh G (vsc G s p)=vh G p:=by
 have Sg:=Xak (Xae hG)
 have:vup G (vsc G s p)↔vup G p:=by unfold vup vsc;simp only[Sg.sm,hs,W2y]
 unfold vh
 by_cases h:vup G p
 . rw[if_pos h,if_pos (this.2 h)]
 . rw[if_neg h,if_neg λe=>h (this.1 e)]
theorem Yhc: Xai G p (vsc G s q)=mul K G s (Xai G p q):=by
 obtain⟨a,b⟩:=p
 obtain⟨c,d⟩:=q
 have L:=Xax K G
 exact(Laws.req L [a,b,c,d,s] (.add (.mul (.neg (.v 1)) (.mul (.v 4) (.v 2))) (.mul (.v 0) (.mul (.v 4) (.v 3)))) (.mul (.v 4) (.add (.mul (.neg (.v 1)) (.v 2)) (.mul (.v 0) (.v 3)))) (by decide +kernel))
theorem Xj3(hG:red K G)(hs:sgn K G s=1): Xb9 G p (vsc G s q)=Xb9 G p q:=by
 have Sg:=Xak (Xae hG)
 rw[Xd8,Xd8,Ymb hG hs,Yhc,Sg.sm,hs,W2y]
theorem Xrq: Xap G (Xap G (Xa2 p) x) (Xap G (Xa2 x) q)=vsc G (Xao G x x) (Xap G (Xa2 p) q):=by
 obtain⟨a,b⟩:=p
 obtain⟨c,d⟩:=q
 obtain⟨e,f⟩:=x
 have L:=Xax K G
 exact W1h (Laws.req L [a,b,c,d,e,f] (.add (.mul (.add (.mul (.v 0) (.v 4)) (.neg (.mul (.neg (.v 1)) (.v 5)))) (.add (.mul (.v 4) (.v 2)) (.neg (.mul (.neg (.v 5)) (.v 3))))) (.neg (.mul (.add (.mul (.v 0) (.v 5)) (.mul (.neg (.v 1)) (.v 4))) (.add (.mul (.v 4) (.v 3)) (.mul (.neg (.v 5)) (.v 2)))))) (.mul (.add (.mul (.v 4) (.v 4)) (.mul (.v 5) (.v 5))) (.add (.mul (.v 0) (.v 2)) (.neg (.mul (.neg (.v 1)) (.v 3))))) (by decide +kernel)) (Laws.req L [a,b,c,d,e,f] (.add (.mul (.add (.mul (.v 0) (.v 4)) (.neg (.mul (.neg (.v 1)) (.v 5)))) (.add (.mul (.v 4) (.v 3)) (.mul (.neg (.v 5)) (.v 2)))) (.mul (.add (.mul (.v 0) (.v 5)) (.mul (.neg (.v 1)) (.v 4))) (.add (.mul (.v 4) (.v 2)) (.neg (.mul (.neg (.v 5)) (.v 3)))))) (.mul (.add (.mul (.v 4) (.v 4)) (.mul (.v 5) (.v 5))) (.add (.mul (.v 0) (.v 3)) (.mul (.neg (.v 1)) (.v 2)))) (by decide +kernel))
theorem Xnh(hG:red K G)(hp:p≠vz K)(hq:q≠vz K)(hx:x≠vz K): Xb9 G (Xap G (Xa2 p) x) (Xap G (Xa2 p) q)<=0↔Xb9 G (Xap G (Xa2 x) q) (Xap G (Xa2 p) q)<=0:=by
 have h1:=Xb8 hG (Xfc hG hp) hx
 have h2:=Xb8 hG (Xfc hG hx) hq
 have hd:=Xb1 hG hx
 have hc:=Xs1 hG h1 h2 (f:=0) (g:=0)
 unfold Xo9 at hc
 rw[Xbj (p:=Xap G (Xa2 x) q),Xrq] at hc
 rw[Xdm hG (p:=Xap G (Xa2 p) x),Xdm hG (p:=Xap G (Xa2 x) q),Xj3 hG hd,Xj3 hG hd] at hc
 by_cases a:- Xb9 G (Xap G (Xa2 p) x) (Xap G (Xa2 p) q)<0
 . rw[if_pos a] at hc
   by_cases b:- Xb9 G (Xap G (Xa2 x) q) (Xap G (Xa2 p) q)<0
   . omega
   . rw[if_neg b] at hc;omega
 . rw[if_neg a] at hc
   by_cases b:- Xb9 G (Xap G (Xa2 x) q) (Xap G (Xa2 p) q)<0
   . rw[if_pos b] at hc;omega
   . omega
end
end
end Go.Tow
namespace Go.Proofs.YtchflpokfamkhaaGreatDoor
open Go Go.Vm Go.Num Go.Tow
section
variable{K:Nat}{G:Tw K}{S:List (Tow.El K)}{N:List Nm}{n m k:Nat}{x y z:Nm}{a b v w s:Tow.El K}{u t:Vn}{p q r pa pb pc px:V2 K}
def onV(G:Tw K)(cw:Bool)(ua ub ux:V2 K): Prop:=match cw with
 | true=>Xb9 G (Xap G (Xa2 ub) ux) (Xap G (Xa2 ub) ua)<=0
 | false=>Xb9 G (Xap G (Xa2 ua) ux) (Xap G (Xa2 ua) ub)<=0
namespace P47
def Yp7(c:Cv): Cv:=match c.cw with
 | true=>⟨c.arc,c.B,c.A,c.C,false⟩
 | false=>c
theorem Yc2{c:Cv}: C0 120 [.d (dC c)] (·=.d (dC (Yp7 c))):=by
 obtain⟨arc,A,B,C,cw⟩:=c
 cases cw with
 | true =>
  refine En Tryz.func120 λ_ _ _=>?_
  refine Yes rfl rfl ?_
  exact R1 rfl (.sd (.pd (.eq rfl) (.pd (.eq rfl) (.pd (.eq rfl) (.pd (.eq rfl) (.bd rfl))))))
 | false =>
  refine En Tryz.func120 λ_ _ _=>?_
  refine No rfl nofun ?_
  exact R0
theorem Xgb{c:Cv}{X Y U:Vn}(W:Wn G S N)(hU:C0 97 [.d (dV X),.d (dV c.C)] (·=.tup (.pr (.d (dV U)) (.d (.int .i64 0)))))(hu:Gv G S N n U p)(ht:P19.Trm U.x)(hV:C0 97 [.d (dV Y),.d (dV c.C)] (VoG G S N m q))(h2:n+m<=190)(hp:p≠vz K)(hq:q≠vz K):
 C0 121 [.d (dC c),.d (dV X),.d (dV Y)] (λr=>∃v,r=.tup (.pr (.d (dT v 0)) (.d (.int .i64 0)))/\Gv G S N (n+m+(n+m)) v (Xap G (Xa2 p) q)):=by
 refine En Tryz.func121 λ_ _ _=>?_
 refine Ce rfl hU ?_
 refine No rfl (by decide) ?_
 refine Ca rfl hV λv hv=>?_
 obtain⟨V,rfl,hv⟩:=hv
 refine No rfl (by decide) ?_
 refine Ca rfl (P19.Of_g W hu hv ht h2) λv hv=>?_
 rcases hv with ⟨_,t,rfl,ht⟩ | ⟨h,_⟩
 . exact Rt rfl (.tup (.cons (.rf rfl) Xbg)) ⟨t,rfl,ht⟩
 . exact absurd h (λh=>h.elim hp hq)
theorem On_part{c:Cv}{X U V:Vn}(W:Wn G S N)(ha:c.arc=true)(hz:C0 117 [.d (dC c)] (·=.tup (.pr (.d (P15.dK c.C z)) (.d (.int .i64 0)))))(hs:C0 118 [.d (P15.dK c.C z),.d (dV X)] (·=.tup (.pr (.d (.int .i64 0)) (.d (.int .i64 0)))))(hf:C0 119 [.d (dC c)] (·=.b false))
 (hU:C0 97 [.d (dV c.A),.d (dV c.C)] (·=.tup (.pr (.d (dV U)) (.d (.int .i64 0))))) (hu:Gv G S N n U p) (ht:P19.Trm U.x) (hV:C0 97 [.d (dV c.B),.d (dV c.C)] (·=.tup (.pr (.d (dV V)) (.d (.int .i64 0))))) (hv:Gv G S N n V q) (ht2:P19.Trm V.x)
 (hX:C0 97 [.d (dV X),.d (dV c.C)] (VoG G S N m r)) (h2:n<=10/\m<=10) (hp:p≠vz K) (hq:q≠vz K) (hr:r≠vz K):C0 53 [.d (dC c),.d (dV X)] (·=.b (dc (onV G c.cw p q r))):=by
 have hU':C0 97 [.d (dV c.A),.d (dV c.C)] (VoG G S N n p):=hU.mono λv e=>⟨U,e,hu⟩
 have hV':C0 97 [.d (dV c.B),.d (dV c.C)] (VoG G S N n q):=hV.mono λv e=>⟨V,e,hv⟩
 obtain⟨_,A,B,C,cw⟩:=c
 obtain rfl:_=true:=ha
 refine En Tryz.func53 λ_ _ _=>?_
 refine No rfl (λh=>h rfl) ?_
 refine Ce rfl hz ?_
 refine No rfl (by decide) ?_
 refine Ce rfl hs ?_
 refine No rfl (by decide) ?_
 refine No rfl (by decide) ?_
 refine Ce rfl hf ?_
 refine No rfl nofun ?_
 cases cw with
 | true =>
  refine Ce rfl (Yc2 (c:=⟨true,A,B,C,true⟩)) ?_
  refine Ca rfl (Xgb (c:=⟨true,B,A,C,false⟩) W hV hv ht2 hX (by omega) hq hr) λv hv=>?_
  obtain⟨t1,rfl,g1⟩:=hv
  refine Ca rfl (Xgb (c:=⟨true,B,A,C,false⟩) W hV hv ht2 hU' (by omega) hq hp) λv hv=>?_
  obtain⟨t2,rfl,g2⟩:=hv
  refine Ce rfl (P19.Cmp_g W g1 g2 (by omega)) ?_
  refine Yes rfl (by decide) ?_
  refine Yes rfl (by decide) ?_
  refine Yes rfl (by decide) ?_
  exact R0
 | false =>
  refine Ce rfl (Yc2 (c:=⟨true,A,B,C,false⟩)) ?_
  refine Ca rfl (Xgb (c:=⟨true,A,B,C,false⟩) W hU hu ht hX (by omega) hp hr) λv hv=>?_
  obtain⟨t1,rfl,g1⟩:=hv
  refine Ca rfl (Xgb (c:=⟨true,A,B,C,false⟩) W hU hu ht hV' (by omega) hp hq) λv hv=>?_
  obtain⟨t2,rfl,g2⟩:=hv
  refine Ce rfl (P19.Cmp_g W g1 g2 (by omega)) ?_
  refine Yes rfl (by decide) ?_
  refine Yes rfl (by decide) ?_
  refine Yes rfl (by decide) ?_
  exact R0
end P47
namespace R47
theorem Ybb(G:Tw K): Xa2 (Xa2 p)=p:=W1h rfl ((Xax K G).nn _)
theorem Yg9: Xap G (Xa2 p) q=(Xao G p q,Xai G p q):=W1h (by rw[<-Xsy,Ybb G]) (by rw[<-Ya9,Ybb G])
theorem Yo8{s:Vn}(W:Wn G S N)(hu:Gv G S N n u p)(hs:Gv G S N m s q)(h2:n+m<=190): C0 160 [.d (dV u),.d (dV s)] (P19.OfG G S N (n+m+(n+m)) p q):=by
 refine En Tryz.func160 λ_ _ _=>?_
 refine Ce rfl (R13.Zero_g W hu (by omega)) ?_
 refine By rfl (λh=>?_) λh=>?_
 . exact Rt rfl (.tup (.cons Xr8 Xbg)) (.inr ⟨.inl h,rfl⟩)
 . refine Ce rfl (R13.Zero_g W hs (by omega)) ?_
   refine By rfl (λh1=>?_) λh1=>?_
   . exact Rt rfl (.tup (.cons Xr8 Xbg)) (.inr ⟨.inr h1,rfl⟩)
   refine Dw rfl ?_
   refine Cn [(1000001,15)] rfl (R15.Dot_g W hu hs (by omega) (by omega) h2) λv hv=>?_
   obtain⟨d,rfl,hd⟩:=hv
   refine Cn [(1000001,15)] rfl (R15.Cross_g W hu hs (by omega) (by omega) h2) λv hv=>?_
   obtain⟨c,rfl,hc⟩:=hv
   refine Cn [(1000001,15)] rfl (R19.result_g (u:=⟨d,c⟩) (p:=(Xao G p q,Xai G p q)) (f:=0) ⟨hd,hc⟩) λv hv=>?_
   rcases hv with ⟨_,w,rfl,hw⟩ | ⟨h3,_⟩
   . exact Rt rfl (.tup (.cons (.rf rfl) Xbg)) (.inl ⟨λe=>e.elim h h1,w,rfl,by rw[Yg9];exact hw⟩)
   . exact absurd (by decide) h3
theorem Full_g{c:Cv}(W:Wn G S N)(ha:c.arc=true)(hu:Gv G S N n c.A p)(hs:Gv G S N m c.B q)(hn:n<=190)(hm:m<=190): C0 76 [.d (dC c)] (·=.b (dc (p=q))):=by
 obtain⟨_,A,B,C,cw⟩:=c
 obtain rfl:_=true:=ha
 refine En Tryz.func76 λ_ _ _=>?_
 refine Yes rfl rfl ?_
 refine Ce rfl (R13.Equal_g W hu hs hn hm) ?_
 exact R0
def plD(cw:Bool)(pa px:V2 K): V2 K×V2 K:=match cw with
 | true=>(px,pa)
 | false=>(pa,px)
theorem place_g{c:Cv}{X:Vn}(W:Wn G S N)(hC:Gv G S N 1 c.C pc)(hA:Gv G S N 1 c.A pa)(hX:Gv G S N n X px)(hn:n<=10)(hp:Xaj pa pc≠vz K)(hq:Xaj px pc≠vz K): CN0 88 [.ptr 1000001 0,.d (dC c),.d (dV X)] [(1000001,cal)] (λr=>∃v,r=.d (dT v 0)/\Gv G S N 40 v (Xap G (Xa2 (plD c.cw (Xaj pa pc) (Xaj px pc)).1) (plD c.cw (Xaj pa pc) (Xaj px pc)).2)):=by
 obtain⟨arc,A,B,C,cw⟩:=c
 refine EnW Tryz.func88 λ_ _ _ _=>?_
 refine Dz rfl ?_
 refine Cn [] rfl (R15.Minus_g W hA hC (by decide) (by decide)) λv hv=>?_
 obtain⟨u,rfl,hu⟩:=hv
 refine Cn [] rfl (R15.Minus_g W hX hC (by omega) (by decide)) λv hv=>?_
 obtain⟨t,rfl,ht⟩:=hv
 cases cw with
 | true =>
  refine Yes rfl rfl ?_
  refine Ca rfl (Yo8 W ht hu (by omega)) λv hv=>?_
  rcases hv with ⟨_,t,rfl,ht⟩ | ⟨h,_⟩
  . refine No rfl (by decide) ?_
    exact Rw [] [(1000001,cal)] rfl (.one (.rf rfl) rfl rfl) ⟨rfl,t,rfl,ht.mono (by omega)⟩
  . exact absurd h (λh=>h.elim hq hp)
 | false =>
  refine No rfl nofun ?_
  refine Ca rfl (Yo8 W hu ht (by omega)) λv hv=>?_
  rcases hv with ⟨_,t,rfl,ht⟩ | ⟨h,_⟩
  . refine No rfl (by decide) ?_
    exact Rw [] [(1000001,cal)] rfl (.one (.rf rfl) rfl rfl) ⟨rfl,t,rfl,ht.mono (by omega)⟩
  . exact absurd h (λh=>h.elim hp hq)
theorem before_g(W:Wn G S N)(hu:Gv G S N n u p)(hs:Gv G S N m t q)(h2:n+m<=190): CN0 87 [.ptr 1000001 0,.d (dT u 0),.d (dT t 0)] [(1000001,cal)] (·=.b (dc (Xb9 G p q<=0))):=by
 refine EnW Tryz.func87 λ_ _ _ _=>?_
 refine Ce rfl (R19.Cmp_g W hu hs h2) ?_
 refine No rfl (by decide) ?_
 exact Rw [] [(1000001,cal)] rfl (.one (.rf rfl) rfl rfl) ⟨rfl,rfl⟩
theorem On_g{c:Cv}{X:Vn}(W:Wn G S N)(ha:c.arc=true)(hC:Gv G S N 1 c.C pc)(hA:Gv G S N 1 c.A pa)(hB:Gv G S N 1 c.B pb)(hX:Gv G S N n X px)(hn:n<=10)(hp:Xaj pa pc≠vz K)(hq:Xaj pb pc≠vz K)(hr:Xaj px pc≠vz K)(he:Xao G (Xaj pa pc) (Xaj pa pc)=Xao G (Xaj px pc) (Xaj px pc)):
 C0 34 [.d (dC c),.d (dV X)] (·=.b (dc (pa=pb\/onV G c.cw (Xaj pa pc) (Xaj pb pc) (Xaj px pc)))):=by
 have hv:=Xnh W.w.g hq hp hr
 obtain⟨_,A,B,C,cw⟩:=c
 obtain rfl:_=true:=ha
 refine En Tryz.func34 λ_ _ _=>?_
 refine No rfl (λh=>h rfl) ?_
 refine Dw rfl ?_
 refine Cn [(1000001,10)] rfl (R15.Far_g W hA hC (by decide)) λv hv=>?_
 obtain⟨z1,rfl,h1⟩:=hv
 refine Cn [(1000001,10)] rfl (R15.Far_g W hX hC (by omega)) λv hv=>?_
 obtain⟨z2,rfl,h2⟩:=hv
 refine Ce rfl (R9.Equal_g W h1 h2 (by omega) (by omega)) ?_
 refine No rfl (λh=>h he) ?_
 refine Dw rfl ?_
 refine Ce rfl (Full_g (c:=⟨true,A,B,C,cw⟩) W rfl hA hB (by decide) (by decide)) ?_
 refine By rfl (λh=>?_) λh=>?_
 . exact R1 rfl (.bp ⟨λ_=>.inl h,λ_=>rfl⟩)
 refine Cn [(1000001,10)] rfl (place_g (c:=⟨true,A,B,C,cw⟩) W hC hA hX hn hp hr) λv hv=>?_
 obtain⟨t1,rfl,g1⟩:=hv
 refine Cn [(1000001,10)] rfl (place_g (c:=⟨true,A,B,C,cw⟩) W hC hA hB (by decide) hp hq) λv hv=>?_
 obtain⟨t2,rfl,g2⟩:=hv
 refine Cn [(1000001,10)] rfl (before_g W g1 g2 (by decide)) λv hv'=>?_
 subst hv'
 refine R1 rfl (.bp (Xaw.trans ?_))
 cases cw with
 | true=>exact⟨λh3=>.inr (hv.2 h3),λh3=>h3.elim (λe=>absurd e h) λh3=>hv.1 h3⟩
 | false=>exact⟨λh3=>.inr h3,λh3=>h3.elim (λe=>absurd e h) id⟩
end R47
end
end Go.Proofs.YtchflpokfamkhaaGreatDoor
namespace Go.Vm
open Go
variable{c:Cx}{s:St}{p:Pl}
noncomputable def Ymw(tb:Nat->Option TI)(n:Nat)(s:St): Option (Pl×Nat×Nat×List D×AV):=match nxA tb n s with
 | some (p,o,[a,b])=>match o.op with
  | .call ⟨.builtin .append,_,⟨[T,T']⟩⟩=>match Nat.beq T T',tb T,look p.H (o.dst.getD 0) with
   | true,some ti,none=>match Nat.ble ti.eb 1024,ti.z,b with
    | true,.sl sz _,.d (.sl s ys)=>match Nat.beq s sz with
     | true=>some (p,o.dst.getD 0,sz,ys,a)
     | false=>none
    | true,.sl sz _,.nil=>some (p,o.dst.getD 0,sz,[],a)
    | true,.sl sz _,.gr _ s ys=>match Nat.beq s sz with
     | true=>some (p,o.dst.getD 0,sz,ys,a)
     | false=>none
    | true,.sl sz _,.lit s ys=>match Nat.beq s sz with
     | true=>some (p,o.dst.getD 0,sz,ys,a)
     | false=>none
    | _,_,_=>none
   | _,_,_=>none
  | _=>none
 | _=>none
theorem Yei{d sz:Nat}{ys:List D}{a v:AV}{us:Hpl}(h:Ymw c.tb c.n s=some (p,d,sz,ys,a))(hF:∀ti:TI,ti.eb<=1024->Xx5 d (look p.H) ti sz ys a=some (v,us))(k:p.nx' c v us): StP c s:=by
 unfold Ymw at h
 split at h<;>try cases h
 rename_i p' o a' b hA
 split at h<;>try cases h
 rename_i asx T T' ho
 split at h<;>try cases h
 rename_i ti hT hti hd
 have hT:=W0f hT
 subst hT
 have fin:∀ {sz' ys' xs0},ti.eb<=1024->ti.z=.sl sz' xs0->Xrv (look p'.H) ti.z sz' b=some ys'->(p',o.dst.getD 0,sz',ys',a')=(p,d,sz,ys,a)->StP c s:=by
  intro sz' ys' xs0 he hz hs e
  injection e with e1 e2;injection e2 with e2 e3;injection e3 with e3 e4;injection e4 with e4 e5
  subst e1;subst e2;subst e3;subst e4;subst e5
  refine Xcf hA ?_ k
  rw[ho]
  simp only[F,if_true,hti,hd,hz]
  rw[hz] at hs
  rw[hs]
  exact hF ti he
 split at h
 . rename_i he hz
   split at h<;>cases h
   rename_i hs
   have hs:=W0f hs
   exact fin (W1p he) hz (by simp[Xrv,toD,hs]) rfl
 . rename_i he hz
   cases h
   exact fin (W1p he) hz (by simp[Xrv,hz,toD]) rfl
 . rename_i he hz
   split at h<;>cases h
   rename_i hs
   have hs:=W0f hs
   exact fin (W1p he) hz (by simp[Xrv,toD,hs]) rfl
 . rename_i he hz
   split at h<;>cases h
   rename_i hs
   have hs:=W0f hs
   exact fin (W1p he) hz (by simp[Xrv,toD,hs]) rfl
 . cases h
theorem Xua{n:Nat}{ti:TI}(h:n<=137438953472)(he:ti.eb<=1024): Xi2 n ti:=⟨by
 have:=W1x h he;omega,by omega⟩
theorem ApH{d sz o:Nat}{xs ys:List D}(zs:List D)(h:Ymw c.tb c.n s=some (p,d,sz,ys,.gr o sz xs))(hz:xs++ys=zs)(hr:zs.length<=137438953472)(k:p.nx' c (.gr d sz zs) [(d,.tok zs.length sz),(o,.dead)])(ht:look p.H o=some (.tok xs.length sz):=by exact rfl): StP c s:=by
 subst hz
 exact Yei h (λti he=>by simp[Xx5,ht,Xua (by simpa using hr) he]) k
end Go.Vm
namespace Go.Proofs.YtchflpokfamkhaaGreatDoor
open Go Go.Vm Go.Num Go.Tow
structure Dft where
 arc:Bool
 cw:Bool
 a1:Int
 a2:Int
 b1:Int
 b2:Int
 st:Nat
 un:Nat
abbrev dP8(x y:Int): D:=.st (.pr (.int .i8 x) (.int .i8 y))
abbrev dDf(d:Dft): D:=.st (.pr (.bool d.arc) (.pr (.bool d.cw) (.pr (dP8 d.a1 d.a2) (.pr (dP8 d.b1 d.b2) (.pr (.int .u8 d.st) (.int .u8 d.un))))))
abbrev Yfp(l:List Dft): D:=.sl 8 (l.map dDf)
abbrev I8(z:Int): Prop:=-128<=z/\z<128
structure Dft.ok (d:Dft):Prop where
 a1:I8 d.a1
 a2:I8 d.a2
 b1:I8 d.b1
 b2:I8 d.b2
 st:d.st<256
 un:d.un<256
namespace R47
open P55 (v0 W0 g0 gv0 zw Xec Qp)
abbrev atQ(x y:Int)(u:Nat): Rat×Rat:=(Rat.divInt x ((u%4+1:Nat):Int),Rat.divInt y ((u%4+1:Nat):Int))
theorem Yk4{x y:Int}{u:Nat}(hx:I8 x)(hy:I8 y)(hu:u<256): C0 37 [.d (dP8 x y),.d (.int .u8 u)] (·=.d (dV (v0 (atQ x y u)))):=by
 refine En Tryz.func37 λ_ _ _=>?_
 refine Ar (u%4:Nat) rfl ?_ (show _/\_ from⟨by decide,rfl⟩)
 refine Go.Vm.Cv (u%4:Nat) rfl ?_ (wI (by omega))
 refine Ar (u%4+1:Nat) rfl ?_
 refine Dw rfl ?_
 refine Ia 0 rfl (by decide) ?_
 refine Go.Vm.Cv x rfl ?_ (wr rfl (by simp only[inK];omega))
 refine Ce rfl (R2.Frac_ok (by omega) (by omega) (by omega)) ?_
 refine Ia 1 rfl (by decide) ?_
 refine Go.Vm.Cv y rfl ?_ (wr rfl (by simp only[inK];omega))
 refine Ce rfl (R2.Frac_ok (by omega) (by omega) (by omega)) ?_
 refine Ce rfl R13.Make_ok ?_
 exact R0
def Ypb: List (Int×Int×Int):=[(1,0,1),(3,4,5),(0,1,1),(-1,0,1),(0,-1,1),(4,3,5),(-3,4,5),(-4,3,5),(-4,-3,5),(-3,-4,5),(3,-4,5),(4,-3,5),(5,12,13),(12,5,13),(-5,12,13),(24,7,25)]
def uni(i:Nat): Rat×Rat:=match Ypb[i]? with
 | some (x,y,z)=>(Rat.divInt x z,Rat.divInt y z)
 | none=>(1,0)
theorem Ydg{n:Nat}(hn:n<256): C0 39 [.d (.int .u8 n)] (·=.d (dV (v0 (uni (n%16))))):=by
 refine En Tryz.func39 λ_ _ _=>?_
 refine Ar (n%16:Nat) rfl ?_ (show _/\_ from⟨by decide,rfl⟩)
 have h:n%16=0\/n%16=1\/n%16=2\/n%16=3\/n%16=4\/n%16=5\/n%16=6\/n%16=7\/n%16=8\/n%16=9\/n%16=10\/n%16=11\/n%16=12\/n%16=13\/n%16=14\/n%16=15:=by omega
 generalize n%16=i at h
 rcases h with rfl | rfl | rfl | rfl | rfl | rfl | rfl | rfl | rfl | rfl | rfl | rfl | rfl | rfl | rfl | rfl
 . refine Ia 0 rfl (by decide) ?_
   refine Dw rfl ?_
   refine Ia 0 rfl (by decide) ?_
   refine Ia 2 rfl (by decide) ?_
   refine Ce rfl (R2.Frac_ok (by decide) (by decide) (by decide)) ?_
   refine Ia 1 rfl (by decide) ?_
   refine Ia 2 rfl (by decide) ?_
   refine Ce rfl (R2.Frac_ok (by decide) (by decide) (by decide)) ?_
   refine Ce rfl R13.Make_ok ?_
   exact R0
 . refine Ia 1 rfl (by decide) ?_
   refine Dw rfl ?_
   refine Ia 0 rfl (by decide) ?_
   refine Ia 2 rfl (by decide) ?_
   refine Ce rfl (R2.Frac_ok (by decide) (by decide) (by decide)) ?_
   refine Ia 1 rfl (by decide) ?_
   refine Ia 2 rfl (by decide) ?_
   refine Ce rfl (R2.Frac_ok (by decide) (by decide) (by decide)) ?_
   refine Ce rfl R13.Make_ok ?_
   exact R0
 . refine Ia 2 rfl (by decide) ?_
   refine Dw rfl ?_
   refine Ia 0 rfl (by decide) ?_
   refine Ia 2 rfl (by decide) ?_
   refine Ce rfl (R2.Frac_ok (by decide) (by decide) (by decide)) ?_
   refine Ia 1 rfl (by decide) ?_
   refine Ia 2 rfl (by decide) ?_
   refine Ce rfl (R2.Frac_ok (by decide) (by decide) (by decide)) ?_
   refine Ce rfl R13.Make_ok ?_
   exact R0
 . refine Ia 3 rfl (by decide) ?_
   refine Dw rfl ?_
   refine Ia 0 rfl (by decide) ?_
   refine Ia 2 rfl (by decide) ?_
   refine Ce rfl (R2.Frac_ok (by decide) (by decide) (by decide)) ?_
   refine Ia 1 rfl (by decide) ?_
   refine Ia 2 rfl (by decide) ?_
   refine Ce rfl (R2.Frac_ok (by decide) (by decide) (by decide)) ?_
   refine Ce rfl R13.Make_ok ?_
   exact R0
 . refine Ia 4 rfl (by decide) ?_
   refine Dw rfl ?_
   refine Ia 0 rfl (by decide) ?_
   refine Ia 2 rfl (by decide) ?_
   refine Ce rfl (R2.Frac_ok (by decide) (by decide) (by decide)) ?_
   refine Ia 1 rfl (by decide) ?_
   refine Ia 2 rfl (by decide) ?_
   refine Ce rfl (R2.Frac_ok (by decide) (by decide) (by decide)) ?_
   refine Ce rfl R13.Make_ok ?_
   exact R0
 . refine Ia 5 rfl (by decide) ?_
   refine Dw rfl ?_
   refine Ia 0 rfl (by decide) ?_
   refine Ia 2 rfl (by decide) ?_
   refine Ce rfl (R2.Frac_ok (by decide) (by decide) (by decide)) ?_
   refine Ia 1 rfl (by decide) ?_
   refine Ia 2 rfl (by decide) ?_
   refine Ce rfl (R2.Frac_ok (by decide) (by decide) (by decide)) ?_
   refine Ce rfl R13.Make_ok ?_
   exact R0
 . refine Ia 6 rfl (by decide) ?_
   refine Dw rfl ?_
   refine Ia 0 rfl (by decide) ?_
   refine Ia 2 rfl (by decide) ?_
   refine Ce rfl (R2.Frac_ok (by decide) (by decide) (by decide)) ?_
   refine Ia 1 rfl (by decide) ?_
   refine Ia 2 rfl (by decide) ?_
   refine Ce rfl (R2.Frac_ok (by decide) (by decide) (by decide)) ?_
   refine Ce rfl R13.Make_ok ?_
   exact R0
 . refine Ia 7 rfl (by decide) ?_
   refine Dw rfl ?_
   refine Ia 0 rfl (by decide) ?_
   refine Ia 2 rfl (by decide) ?_
   refine Ce rfl (R2.Frac_ok (by decide) (by decide) (by decide)) ?_
   refine Ia 1 rfl (by decide) ?_
   refine Ia 2 rfl (by decide) ?_
   refine Ce rfl (R2.Frac_ok (by decide) (by decide) (by decide)) ?_
   refine Ce rfl R13.Make_ok ?_
   exact R0
 . refine Ia 8 rfl (by decide) ?_
   refine Dw rfl ?_
   refine Ia 0 rfl (by decide) ?_
   refine Ia 2 rfl (by decide) ?_
   refine Ce rfl (R2.Frac_ok (by decide) (by decide) (by decide)) ?_
   refine Ia 1 rfl (by decide) ?_
   refine Ia 2 rfl (by decide) ?_
   refine Ce rfl (R2.Frac_ok (by decide) (by decide) (by decide)) ?_
   refine Ce rfl R13.Make_ok ?_
   exact R0
 . refine Ia 9 rfl (by decide) ?_
   refine Dw rfl ?_
   refine Ia 0 rfl (by decide) ?_
   refine Ia 2 rfl (by decide) ?_
   refine Ce rfl (R2.Frac_ok (by decide) (by decide) (by decide)) ?_
   refine Ia 1 rfl (by decide) ?_
   refine Ia 2 rfl (by decide) ?_
   refine Ce rfl (R2.Frac_ok (by decide) (by decide) (by decide)) ?_
   refine Ce rfl R13.Make_ok ?_
   exact R0
 . refine Ia 10 rfl (by decide) ?_
   refine Dw rfl ?_
   refine Ia 0 rfl (by decide) ?_
   refine Ia 2 rfl (by decide) ?_
   refine Ce rfl (R2.Frac_ok (by decide) (by decide) (by decide)) ?_
   refine Ia 1 rfl (by decide) ?_
   refine Ia 2 rfl (by decide) ?_
   refine Ce rfl (R2.Frac_ok (by decide) (by decide) (by decide)) ?_
   refine Ce rfl R13.Make_ok ?_
   exact R0
 . refine Ia 11 rfl (by decide) ?_
   refine Dw rfl ?_
   refine Ia 0 rfl (by decide) ?_
   refine Ia 2 rfl (by decide) ?_
   refine Ce rfl (R2.Frac_ok (by decide) (by decide) (by decide)) ?_
   refine Ia 1 rfl (by decide) ?_
   refine Ia 2 rfl (by decide) ?_
   refine Ce rfl (R2.Frac_ok (by decide) (by decide) (by decide)) ?_
   refine Ce rfl R13.Make_ok ?_
   exact R0
 . refine Ia 12 rfl (by decide) ?_
   refine Dw rfl ?_
   refine Ia 0 rfl (by decide) ?_
   refine Ia 2 rfl (by decide) ?_
   refine Ce rfl (R2.Frac_ok (by decide) (by decide) (by decide)) ?_
   refine Ia 1 rfl (by decide) ?_
   refine Ia 2 rfl (by decide) ?_
   refine Ce rfl (R2.Frac_ok (by decide) (by decide) (by decide)) ?_
   refine Ce rfl R13.Make_ok ?_
   exact R0
 . refine Ia 13 rfl (by decide) ?_
   refine Dw rfl ?_
   refine Ia 0 rfl (by decide) ?_
   refine Ia 2 rfl (by decide) ?_
   refine Ce rfl (R2.Frac_ok (by decide) (by decide) (by decide)) ?_
   refine Ia 1 rfl (by decide) ?_
   refine Ia 2 rfl (by decide) ?_
   refine Ce rfl (R2.Frac_ok (by decide) (by decide) (by decide)) ?_
   refine Ce rfl R13.Make_ok ?_
   exact R0
 . refine Ia 14 rfl (by decide) ?_
   refine Dw rfl ?_
   refine Ia 0 rfl (by decide) ?_
   refine Ia 2 rfl (by decide) ?_
   refine Ce rfl (R2.Frac_ok (by decide) (by decide) (by decide)) ?_
   refine Ia 1 rfl (by decide) ?_
   refine Ia 2 rfl (by decide) ?_
   refine Ce rfl (R2.Frac_ok (by decide) (by decide) (by decide)) ?_
   refine Ce rfl R13.Make_ok ?_
   exact R0
 . refine Ia 15 rfl (by decide) ?_
   refine Dw rfl ?_
   refine Ia 0 rfl (by decide) ?_
   refine Ia 2 rfl (by decide) ?_
   refine Ce rfl (R2.Frac_ok (by decide) (by decide) (by decide)) ?_
   refine Ia 1 rfl (by decide) ?_
   refine Ia 2 rfl (by decide) ?_
   refine Ce rfl (R2.Frac_ok (by decide) (by decide) (by decide)) ?_
   refine Ce rfl R13.Make_ok ?_
   exact R0
theorem Yfm{x y n:Int}(h:n≠0): Rat.divInt x n-Rat.divInt y n=Rat.divInt (x-y) n:=by
 rw[W3c,W3c,W3c,W5o,W5o,W5o,Rat.intCast_sub]
 grind
theorem n4{u:Nat}: Zs 3 ((u%4+1:Nat):Int):=by show (_:Int).natAbs<2^3;omega
theorem atQ_qp{x y:Int}{u:Nat}(hx:I8 x)(hy:I8 y): Qp 8 (atQ x y u):=by
 have h8:∀ {x:Int},I8 x->Zs 8 x:=λ{x} h=>by have h:_/\_:=h;show x.natAbs<2^8;omega
 exact⟨Qs.divInt (h8 hx) (n4.mono (by decide)) (by omega),Qs.divInt (h8 hy) (n4.mono (by decide)) (by omega)⟩
theorem Yhr{x y z w:Int}{u:Nat}(hx:I8 x)(hy:I8 y)(hz:I8 z)(hw:I8 w): Qp 9 (Xaj (K:=0) (atQ x y u) (atQ z w u)):=by
 have key:∀ {x z:Int},I8 x->I8 z->Qs 9 (Rat.divInt x ((u%4+1:Nat):Int)+-Rat.divInt z ((u%4+1:Nat):Int)):=λ{x z} hx hz=>by
  have hx:_/\_:=hx
  have hz:_/\_:=hz
  rw[<-W6v,Yfm (by omega)]
  exact Qs.divInt (show (x-z).natAbs<2^9 by omega) (n4.mono (by decide)) (by omega)
 exact⟨key hx hz,key hy hw⟩
theorem Ybd: ∀i:Fin 16,Qp 5 (uni i.val)/\(uni i.val).1*(uni i.val).1+(uni i.val).2*(uni i.val).2=1:=by decide +kernel
def rotQ(w e:Rat×Rat): Rat×Rat:=Xed (K:=0) (Ylp (K:=0) () w e.1) (Ylp (K:=0) () (Tow.neg 0 w.2,w.1) e.2)
theorem Yd0{w e:Rat×Rat}(hw:Qp 9 w)(he:Qp 5 e): Qp 29 (rotQ w e) :=
 ⟨show Qs 29 (w.1*e.1+-w.2*e.2) from(hw.1.mul he.1).add (hw.2.neg.mul he.2),show Qs 29 (w.2*e.1+w.1*e.2) from(hw.2.mul he.1).add (hw.1.mul he.2)⟩
theorem rotQ_dot{w e:Rat×Rat}(he:e.1*e.1+e.2*e.2=1): Xao (K:=0) () (rotQ w e) (rotQ w e)=Xao (K:=0) () w w:=by
 show (w.1*e.1+-w.2*e.2)*(w.1*e.1+-w.2*e.2)+(w.2*e.1+w.1*e.2)*(w.2*e.1+w.1*e.2)=w.1*w.1+w.2*w.2
 have:(w.1*e.1+-w.2*e.2)*(w.1*e.1+-w.2*e.2)+(w.2*e.1+w.1*e.2)*(w.2*e.1+w.1*e.2)=(w.1*w.1+w.2*w.2)*(e.1*e.1+e.2*e.2):=by grind
 rw[this,he,W7c]
theorem Xpg{c w:Rat×Rat}: Xaj (K:=0) (Xed (K:=0) c w) c=w:=W1h (show c.1+w.1+-c.1=w.1 by grind) (show c.2+w.2+-c.2=w.2 by grind)
def cvD(d:Dft): Cv:=match d.arc with
 | false=>⟨false,v0 (atQ d.a1 d.a2 d.un),v0 (atQ d.b1 d.b2 d.un),v0 (((0:Int):Rat),((0:Int):Rat)),d.cw⟩
 | true=>⟨true,v0 (atQ d.b1 d.b2 d.un),v0 (Xed (K:=0) (atQ d.a1 d.a2 d.un) (rotQ (Xaj (K:=0) (atQ d.b1 d.b2 d.un) (atQ d.a1 d.a2 d.un)) (uni (d.st%16)))),v0 (atQ d.a1 d.a2 d.un),d.cw⟩
structure ArcOk (p q r:Rat×Rat):Prop where
 hp:Qp 64 p
 hq:Qp 64 q
 hr:Qp 64 r
 u:Qp 64 (Xaj (K:=0) q p)
 v:Qp 64 (Xaj (K:=0) r p)
 s:Qs 64 (Xao (K:=0) () (Xaj (K:=0) q p) (Xaj (K:=0) q p))
 e:Xao (K:=0) () (Xaj (K:=0) q p) (Xaj (K:=0) q p)=Xao (K:=0) () (Xaj (K:=0) r p) (Xaj (K:=0) r p)
theorem Qp.mono'{s t:Nat}{p:Rat×Rat}(h:Qp s p)(ht:s<=t): Qp t p:=⟨h.1.mono ht,h.2.mono ht⟩
theorem arcOk{d:Dft}(h:d.ok): ArcOk (atQ d.a1 d.a2 d.un) (atQ d.b1 d.b2 d.un) (Xed (K:=0) (atQ d.a1 d.a2 d.un) (rotQ (Xaj (K:=0) (atQ d.b1 d.b2 d.un) (atQ d.a1 d.a2 d.un)) (uni (d.st%16)))):=by
 have hp:=atQ_qp (u:=d.un) h.a1 h.a2
 have hq:=atQ_qp (u:=d.un) h.b1 h.b2
 have hw:=Yhr (u:=d.un) h.b1 h.b2 h.a1 h.a2
 obtain⟨he,h1⟩:=Ybd ⟨d.st%16,W1z _ (by decide)⟩
 have hr:=Yd0 hw he
 refine⟨Qp.mono' hp (by decide),Qp.mono' hq (by decide),?_,Qp.mono' hw (by decide),?_,?_,?_⟩
 . exact Qp.mono' (s:=38) ⟨hp.1.add hr.1,hp.2.add hr.2⟩ (by decide)
 . rw[Xpg];exact Qp.mono' hr (by decide)
 . exact((hw.1.mul hw.1).add (hw.2.mul hw.2)).mono (by decide)
 . rw[Xpg];exact(rotQ_dot h1).symm
theorem Ygf{c:Cv}{p q:Rat×Rat}(ha:c.arc=false)(hA:c.A=v0 p)(hB:c.B=v0 q)(hp:Qp 64 p)(hq:Qp 64 q): C0 40 [.d (dC c)] (·=.b (dc (p≠q))):=by
 obtain⟨_,A,B,C,cw⟩:=c
 obtain rfl:_=false:=ha
 obtain rfl:A=_:=hA
 obtain rfl:B=_:=hB
 refine En Tryz.func40 λ_ _ _=>?_
 refine Yes rfl nofun ?_
 refine Ce rfl (R13.Equal_g W0 (gv0 hp) (gv0 hq) (by decide) (by decide)) ?_
 exact R1 rfl (.bp (by rw[W1n,W4c];exact not_congr Xaw))
theorem Ygg{c:Cv}{p q r:Rat×Rat}(ha:c.arc=true)(hC:c.C=v0 p)(hA:c.A=v0 q)(hB:c.B=v0 r)(h:ArcOk p q r): C0 40 [.d (dC c)] (·=.b (dc (q≠p))):=by
 obtain⟨_,A,B,C,cw⟩:=c
 obtain rfl:_=true:=ha
 obtain rfl:A=_:=hA
 obtain rfl:B=_:=hB
 obtain rfl:C=_:=hC
 refine En Tryz.func40 λ_ _ _=>?_
 refine No rfl (λh=>h rfl) ?_
 refine Dw rfl ?_
 refine Cn [(1000001,16)] rfl (R15.Far_g W0 (gv0 h.hq) (gv0 h.hp) (by decide)) λv hv=>?_
 obtain⟨z1,rfl,h1⟩:=hv
 refine Cn [(1000001,16)] rfl (R15.Far_g W0 (gv0 h.hr) (gv0 h.hp) (by decide)) λv hv=>?_
 obtain⟨z2,rfl,h2⟩:=hv
 refine Yes rfl rfl ?_
 refine Ce rfl (R9.Sign_g W0 h1 (by decide)) ?_
 by_cases hw:Xaj (K:=0) q p=vz 0
 . have e:q=p:=by
    have h1:q.1+-p.1=0:=congrArg Prod.fst hw
    have h2:q.2+-p.2=0:=congrArg Prod.snd hw
    exact W1h (by grind) (by grind)
   have h0:sgn 0 () (Xao (K:=0) () (Xaj (K:=0) q p) (Xaj (K:=0) q p))=0:=by rw[hw];decide +kernel
   refine No rfl (by rw[h0];decide) ?_
   exact R1 rfl (.bp ⟨nofun,λh=>absurd e h⟩)
 . have h0:=Xb1 (K:=0) (G:=()) trivial hw
   refine Yes rfl (by rw[h0];decide) ?_
   refine Ce rfl (R9.Equal_g W0 h1 h2 (by decide) (by decide)) ?_
   exact R1 rfl (.bp ⟨λ_ e=>hw (by rw[e];exact W1h (show p.1+-p.1=0 by grind) (show p.2+-p.2=0 by grind)),λ_=>Xaw.2 h.e⟩)
abbrev vlD(d:Dft): Prop:=atQ d.a1 d.a2 d.un≠atQ d.b1 d.b2 d.un
theorem Ygh{d:Dft}(h:d.ok): C0 40 [.d (dC (cvD d))] (·=.b (dc (vlD d))):=by
 obtain⟨arc,cw,a1,a2,b1,b2,st,un⟩:=d
 cases arc with
 | false=>exact Ygf rfl rfl rfl (Qp.mono' (atQ_qp h.a1 h.a2) (by decide)) (Qp.mono' (atQ_qp h.b1 h.b2) (by decide))
 | true =>
  refine(Ygg rfl rfl rfl rfl (arcOk h)).mono λv e=>e.trans (congrArg AV.b ?_)
  exact W3n.2 (Xaw.trans (Iff.trans ⟨λh e=>h e.symm,λh e=>h e.symm⟩ Xaw.symm))
theorem Ya3{d:Dft}(h:d.ok): C0 11 [.d (dDf d)] (·=.tup (.pr (.d (dC (cvD d))) (.b (dc (vlD d))))):=by
 have hV:=Ygh h
 have hA:=arcOk h
 obtain⟨arc,cw,a1,a2,b1,b2,st,un⟩:=d
 obtain⟨g1,g2,g3,g4,g5,g6⟩:=h
 refine En Tryz.func11 λ_ _ _=>?_
 refine Dw rfl ?_
 refine Ce rfl (Yk4 g1 g2 g6) ?_
 refine Ce rfl (Yk4 g3 g4 g6) ?_
 refine Ce rfl (R13.Whole_ok (i:=0) (j:=0) (by decide) (by decide)) ?_
 cases arc with
 | false =>
  refine No rfl nofun ?_
  refine Dw rfl ?_
  refine Ce rfl hV ?_
  exact RTt rfl (.cons (.sd (.pd (.bd rfl) (.pd (.eq rfl) (.pd (.eq rfl) (.pd (.eq rfl) (.bd rfl)))))) Xv5)
 | true =>
  refine Yes rfl rfl ?_
  refine Dw rfl ?_
  refine Cn [(1000001,27)] rfl (R15.Minus_g W0 (gv0 hA.hq) (gv0 hA.hp) (by decide) (by decide)) λv hv=>?_
  obtain⟨w,rfl,hw⟩:=hv
  obtain rfl:=Xec hw
  refine Ce rfl (Ydg g5) ?_
  have he:=(Ybd ⟨st%16,W1z _ (by decide)⟩).1
  have he:Qp 64 (uni (st%16)):=Qp.mono' he (by decide)
  refine Dw rfl ?_
  refine Cn [(1000001,27)] rfl (R15.Scale_g W0 hw (g0 he.1) (by decide) (by decide)) λv hv=>?_
  obtain⟨z1,rfl,k1⟩:=hv
  refine Ca rfl (R13.Left_g W0 hw (by decide)) λv hv=>?_
  obtain⟨z2,rfl,k2⟩:=hv
  refine Cn [(1000001,27)] rfl (R15.Scale_g W0 k2 (g0 he.2) (by decide) (by decide)) λv hv=>?_
  obtain⟨z3,rfl,k3⟩:=hv
  refine Cn [(1000001,27)] rfl (R15.Plus_g W0 k1 k3 (by decide) (by decide)) λv hv=>?_
  obtain⟨z4,rfl,k4⟩:=hv
  refine Cn [(1000001,27)] rfl (R15.Plus_g W0 (gv0 hA.hp) k4 (by decide) (by decide)) λv hv=>?_
  obtain⟨z5,rfl,k5⟩:=hv
  obtain rfl:=Xec k5
  refine Dw rfl ?_
  refine Ce rfl hV ?_
  exact RTt rfl (.cons (.sd (.pd (.bd rfl) (.pd (.eq rfl) (.pd (.eq rfl) (.pd (.eq rfl) (.bd rfl)))))) Xv5)
theorem lD{l:List Dft}: (l.map dDf).length=l.length:=W0l ..
theorem Curves_ok{l:List Dft}{n:Nat}(hl:l.length<9223372036854775808)(hn:n<=1000)(hd:∀d∈l,d.ok): C0 4 [.d (Yfp l),.d (.int .i64 n)] λv=>(v=.tup (.pr (.d (Xe8 [])) (.b false))/\¬(l.length<=n/\∀d∈l,vlD d))\/(v=.tup (.pr (.d (Xe8 (l.map cvD))) (.b true))/\l.length<=n/\∀d∈l,vlD d):=by
 refine En Tryz.func4 λ_ _ _=>?_
 refine By rfl (λh=>?_) λh=>?_
 . have h:((l.map dDf).length:Int)>n:=h
   rw[lD] at h
   exact Rt rfl (.tup (.cons (.nil rfl) Xv5)) (.inl ⟨rfl,λh2=>by omega⟩)
 have h:¬((l.map dDf).length:Int)>n:=h
 rw[lD] at h
 refine Nl 6 6 14 rfl ?_
 refine Lo (λk:Nat=>[(0,.d (Yfp l)),(6,.gr 6 14 (((l.take k).map cvD).map dC)),(7,.d (.int .i64 k))]) (λk=>[(6,.tok (((l.take k).map cvD).map dC).length 14)]) (λk=>k<=l.length/\∀d∈l.take k,vlD d) (λk=>l.length-k) 0 [] rfl ⟨W1a _,λd hd=>nomatch hd⟩ λk hk=>?_
 obtain⟨hk,hv⟩:=hk
 refine By rfl (λh2=>?_) λh2=>?_<;>simp only[lD] at h2
 . obtain⟨d,hd1⟩:∃d,l[k]?=some d:=⟨_,W0c (by omega)⟩
   refine Ix k rfl (u:=dDf d) (by rw[W1d,hd1];rfl) ?_
   refine Ce rfl (Ya3 (hd d (W0o hd1))) ?_
   refine By rfl (λh3=>?_) λh3=>?_
   . have h3:¬vlD d:=h3
     exact Rt rfl (.tup (.cons (.nil rfl) Xv5)) (.inl ⟨rfl,λh4=>h3 (h4.2 d (W0o hd1))⟩)
   . have h3:vlD d:=W4d.1 h3
     refine ApH (((l.take (k+1)).map cvD).map dC) rfl (by rw[W1i,hd1];simp) (by simp;omega) ?_
     refine Ar (k+1:Nat) rfl ?_
     refine Bk (k+1) [(33,6)] rfl ⟨by omega,λx hx=>?_⟩ (by show l.length-(k+1)<l.length-k;omega)
     rw[W1i,hd1] at hx
     rcases W2k.1 hx with hx | hx
     . exact hv x hx
     . obtain rfl:=W0e.1 hx;exact h3
 . have e:l.take k=l:=W0a (by omega)
   rw[e] at hv |-
   exact Rt rfl (.tup (.cons (.gr rfl) Xv5)) (.inr ⟨rfl,by omega,hv⟩)
end R47
end Go.Proofs.YtchflpokfamkhaaGreatDoor
namespace Go.Proofs.YtchflpokfamkhaaGreatDoor.R55
open Go Go.Vm Go.Num Go.Tow Go.Proofs.YtchflpokfamkhaaGreatDoor
section
open Go.Proofs.YtchflpokfamkhaaGreatDoor.P55 (qb Ycx sel Xhc Xfg exA exW W0 zBA Yf2 lC cAt)
abbrev Zb:=Go.Proofs.YtchflpokfamkhaaGreatDoor.P55.Zb
abbrev F4:=Go.Proofs.YtchflpokfamkhaaGreatDoor.P55.F4
def dr(r m n:Nm): Nat->Vn
 | 0=>⟨r,n00⟩
 | 1=>⟨n00,r⟩
 | 2=>⟨m,n00⟩
 | 3=>⟨n00,m⟩
 | _=>⟨n,n00⟩
def exH(c:Cv)(d:Vn): Option (List Vn)->Hpl
 | none=>[(1000001,cal),(3,.var (.d (dC c))),(7,.var (.d (dV d)))]
 | some w=>[(1000001,cal),(3,.var (.d (dC c))),(7,.var (.d (dV d))),(600,.arr 4 (w.map dV))]
end
section
open Go.Proofs.YtchflpokfamkhaaGreatDoor.P55 (qb zBA Yf2 lC cAt lst f40 ofO nxF mn Xuz Xu0 Xqp Xh6 o40)
theorem Yj1{k:Nat}{t:Tw k}{a:Tow.El k}{s:Nat}{z:Int}(h:Xbx k t)(hT:TS s k t)(ha:Sz s (toL k a))(h1:1<=s)(hf:Xbo k t a z): Zs (bB s 0 k) z:=by
 have i:=Xi4 h a 0
 have q:=Yan (b:=0) h hT ha h1
 have g1:(z:Rat)<=(bx k t a 0).2:=(Xbk h).1 (le_tr h hf.1 i.2)
 have g2:¬((z+1:Int):Rat)<=(bx k t a 0).1:=λe=>(Xqo h).1 hf.2 (le_tr h ((Xbk h).2 e) i.1)
 have z1:=Zs.floor q.1
 have z2:=Zs.floor q.2
 have e1:z<=(bx k t a 0).2.floor:=W7i.2 g1
 have e2:¬z+1<=(bx k t a 0).1.floor:=λe=>g2 (W7i.1 e)
 unfold Zs at *
 omega
abbrev Zl(z:Int): Prop:=Zs 400000 z
theorem bB3: ∀ {k:Nat},k<=3->bB 4000 0 k<=400000
 | 0,_ | 1,_ | 2,_ | 3,_=>by decide
theorem Xrl{x:Nm}{d:Nat}{z:Int}(H:P11.Pk x)(hd:d<=60)(h:Xbo x.k x.t (scl x.k x.t x.a ((10^d:Int):Rat) ((0:Int):Rat)) z): Zl z :=
 (Yj1 H.re (H.t.mono (by decide)) (H.sc (P11.ten_qs hd) (Qs.int (z:=0) (show Int.natAbs 0<2^2 by decide) (by decide))).s2 (by decide) h).mono (bB3 H.k)
theorem Yg2{p m:Nat}{z:Int}(h:Zs p z)(hm:p<=32*m): (dig z.natAbs).length<=m:=Xau (by
 rw[show 4294967296=2^32 from rfl,<-W4w]
 exact W0q h (W0k (by decide) hm))
theorem Zl.zb{z:Int}(h:Zl z): Zb z:=W0h (Yg2 h (m:=12500) (by decide)) (by decide)
theorem Ypd{d:Nat}: (10^d:Int)≠0:=by have:=W5x (n:=10) (m:=d) (by decide);omega
theorem Xy2{z:Int}{d:Nat}(hz:Zl z)(hd:d<=20): Qs 400000 (qb z d):=by
 refine Qs.divInt hz ?_ Ypd
 have h1:(10:Nat)^d<=10^20:=W0k (by decide) hd
 have h2:Zs 200 (10^d:Int):=by
  show ((10:Int)^d).natAbs<2^200
  rw[W6x]
  exact W1t h1 (by decide)
 exact h2.mono (by decide)
theorem Ypn{x y:Int}{d:Nat}: qb x d<qb y d↔x<y:=by
 have h0:(0:Rat)<((10^d:Int):Rat)⁻¹:=Rat.inv_pos.2 (by have:(0:Int)<10^d:=W5x (by decide);exact_mod_cast this)
 unfold qb
 rw[W3c,W3c,W5o,W5o,Rat.mul_lt_mul_right h0]
 exact Rat.intCast_lt_intCast
theorem Yby{x:Int}{d:Nat}: qb (-x) d=-(qb x d):=Rat.neg_divInt .. |>.symm
abbrev Yao(f:F4)(d:Nat): D:=.st (.pr (dq (qb f.a d)) (.pr (dq (qb f.b d)) (.pr (dq (-(qb f.c d))) (dq (-(qb f.e d))))))
theorem Yf0(f:F4)(d:Nat): Yao f d=Yf2 f d:=by unfold Yf2;rw[Yby,Yby]
def BdL(f:F4): Prop:=Zl f.a/\Zl f.b/\Zl f.c/\Zl f.e
theorem Xzk{x y:Int}(hx:Zl x)(hy:Zl y): Zl (mn x y):=by unfold mn;split<;>assumption
theorem BdL.nx{o:Option F4}{f:F4}(ho:∀g,o=some g->BdL g)(hf:BdL f): BdL (nxF o f):=by
 cases o with
 | none=>exact hf
 | some g =>
  have hg:=ho g rfl
  exact⟨Xzk hg.1 hf.1,Xzk hg.2.1 hf.2.1,Xzk hg.2.2.1 hf.2.2.1,Xzk hg.2.2.2 hf.2.2.2⟩
end
end Go.Proofs.YtchflpokfamkhaaGreatDoor.R55
namespace Go.Tow
open Go Go.Num Go.Proofs.YtchflpokfamkhaaGreatDoor
variable{k:Rat}{ρ:Nat->El 1}{r p:Nat}{z:Nm}{v:El 1}
abbrev G1(k:Rat): Tw 1:=((),k)
abbrev r1: El 1:=((0:Rat),(1:Rat))
abbrev n1(k:Rat)(v:El 1): Nm:=⟨1,G1 k,v⟩
theorem Yim(hk:0<k)(hn:¬Xce 0 () k): red 1 (G1 k):=⟨trivial,Xcb hk,hn⟩
theorem Yd5: mul 1 (G1 k) r1 r1=rat 1 k:=by
 show (((0:Rat)*0+((1:Rat)*1)*k,(0:Rat)*1+(1:Rat)*0):Rat×Rat)=(k,0)
 exact W1h (by show (0:Rat)*0+((1:Rat)*1)*k=k;grind) (by show (0:Rat)*1+(1:Rat)*0=0;grind)
theorem Ybx(hk:0<k): sgn 1 (G1 k) r1=1:=Xtw (k:=0) (t:=G1 k) trivial
theorem ev1{a:El 1}(h:ρ 0=r1): ev (G1 k) ρ 1 a=a:=by
 show add 1 (rat 1 a.1) (mul 1 (G1 k) (rat 1 a.2) (ρ 0))=a
 rw[h]
 obtain⟨x,y⟩:=a
 have h1:∀x y:Rat,x+(y*0+((0:Rat)*1)*k)=x:=λx y=>by grind
 have h2:∀y:Rat,(0:Rat)+(y*1+(0:Rat)*0)=y:=λy=>by grind
 exact W1h (h1 x y) (h2 y)
theorem Ygt(hk:0<k)(hn:¬Xce 0 () k): TOk (G1 k) [r1] 1 (G1 k) (λ_=>r1) :=
 ⟨Yim hk hn,⟨trivial,Yd5,Ybx hk⟩,λi _=>W0e.2 rfl⟩
theorem Xye(hk:0<k)(hn:¬Xce 0 () k){m:Nat}{T:Tw m}(h:TOk (G1 k) [r1] m T ρ): m=0\/∃e:m=1,e ▸ T=G1 k/\ρ 0=r1:=by
 have hm:m<=1:=h.le (Xae (Yim hk hn))
 match m,T,h,hm with
 | 0,_,_,_=>exact .inl rfl
 | 1,((),t),h,_ =>
  have h0:ρ 0=r1:=W0e.1 (h.s 0 (by decide))
  have h2:mul 1 (G1 k) (ρ 0) (ρ 0)=rat 1 t:=h.h.2.1
  rw[h0,Yd5] at h2
  have h2:k=t:=congrArg Prod.fst h2
  exact .inr ⟨rfl,by rw[h2],h0⟩
theorem W1(hk:0<k)(hn:¬Xce 0 () k)(hq:Qs 64 k): Wn (G1 k) [r1] [n1 k r1]:=by
 refine⟨⟨Yim hk hn,by decide,λ{m T ρ} h=>?_⟩,λz hz=>?_⟩
 . rcases Xye hk hn h with rfl | ⟨rfl,e,_⟩
   . trivial
   . have e:T=G1 k:=e
     subst e
     exact⟨trivial,(Sz.rat 0 hq).mono (by rw[Xge];decide)⟩
 . obtain rfl:=W0e.1 hz
   exact⟨_,Ygt hk hn⟩
theorem Yip: Qs 1 (1:Rat):=⟨show (1:Int).natAbs<2^1 by decide,show ((1:Nat):Int).natAbs<2^1 by decide⟩
theorem Yiq: Qs 1 (0:Rat):=⟨show (0:Int).natAbs<2^1 by decide,show ((1:Nat):Int).natAbs<2^1 by decide⟩
theorem gr1(hk:0<k)(hn:¬Xce 0 () k)(hq:Qs 64 k): Gd (G1 k) [r1] [n1 k r1] 1 (n1 k r1) r1:=by
 refine .short (W1 hk hn hq) ⟨⟨_,Ygt hk hn,ev1 rfl⟩,⟨trivial,(Sz.rat 0 hq).mono (by decide)⟩,?_⟩ (W0e.2 rfl)
 have:Sz (1*2+1) (toL 1 r1):=Sz.all (p:=1) (l:=[(0:Rat),1]) λx hx=>by
  have hx:x∈[(0:Rat),1]:=hx
  rcases W1l.1 hx with rfl | hx
  . exact Yiq
  . obtain rfl:=W0e.1 hx;exact Yip
 exact this.mono (by decide)
theorem nm1(hk:0<k)(hn:¬Xce 0 () k)(h:NOk (G1 k) [r1] r p z v)(hv:v.2≠(0:Rat)): z=n1 k v:=by
 obtain⟨ρ,h1,h2⟩:=h.ex
 obtain⟨m,T,a⟩:=z
 rcases Xye hk hn h1 with e | ⟨e,e2,e3⟩
 . have e:m=0:=e
   subst e
   have h2:rat 1 a=v:=h2
   rw[<-h2] at hv
   exact absurd rfl hv
 . have e:m=1:=e
   subst e
   have e2:T=G1 k:=e2
   subst e2
   have h2:ev (G1 k) ρ 1 a=v:=h2
   rw[ev1 e3] at h2
   rw[h2]
end Go.Tow
namespace Go.Proofs.YtchflpokfamkhaaGreatDoor.R55
open Go Go.Vm Go.Num Go.Tow Go.Proofs.YtchflpokfamkhaaGreatDoor
section
open Go.Proofs.YtchflpokfamkhaaGreatDoor.P55 (v0 W0 g0 gv0 zw Xec Qp nr Xbc Ycx sel Xfg Yc7 d2)
theorem Yay{x:Nm}{d:Nat}(H:P11.Pk x)(hd:d<=60): ∃z,Xbo x.k x.t (scl x.k x.t x.a ((10^d:Int):Rat) ((0:Int):Rat)) z:=by
 have S:=H.sc (P11.ten_qs hd) (Qs.int (z:=0) (show Int.natAbs 0<2^2 by decide) (by decide))
 have h:=Xqz H.re (Xi4 H.re (scl x.k x.t x.a ((10^d:Int):Rat) ((0:Int):Rat)) 2048) S.w1
 exact Classical.byCases (λhs=>⟨_,h.1 hs⟩) λhs=>⟨_,h.2 hs⟩
theorem Ylv{x:Nm}{d:Nat}{z:Int}(H:P11.Pk x)(hd:d<=60)(h:Xbo x.k x.t (scl x.k x.t x.a ((10^d:Int):Rat) ((0:Int):Rat)) z): C0 20 [.d (dN x),.d (.int .i64 d)] (·=.tup (.pr (.d (dz z)) (.d (.int .i64 0)))) :=
 (P11.Floor_ok H hd).mono λv ⟨w,e,hw,_⟩=>by rw[e,Xbo.uniq H.re hw h]
abbrev ngN(x:Nm): Nm:=⟨x.k,x.t,Tow.neg x.k x.a⟩
abbrev sg{K:Nat}(rv:Tow.El K)(e:Bool): Tow.El K:=if e then rv else neg K rv
section
variable{K:Nat}{G:Tw K}{S:List (Tow.El K)}{N:List Nm}{s:Rat}{r:Nm}{rv:Tow.El K}{p q t:Rat×Rat}{cw:Bool}{δ:V2 K}{d x u v:Vn}{n:Nat}
abbrev emb(K:Nat)(p:Rat×Rat): V2 K:=(rat K p.1,rat K p.2)
theorem Xeo(W:Wn G S N)(h:Qp 64 p): Gv G S N 1 (v0 p) (emb K p):=⟨Gd.rat W h.1,Gd.rat W h.2⟩
theorem Xdh: Xaj (emb K q) (emb K p)=emb K (Xaj (K:=0) q p):=W1h (by show add K _ (neg K _)=rat K (q.1+-p.1);rw[Xbe,Xa4]) (by show add K _ (neg K _)=rat K (q.2+-p.2);rw[Xbe,Xa4])
theorem Ynh: Xao G (emb K p) (emb K p)=rat K (Xao (K:=0) () p p):=by
 show _=rat K (p.1*p.1+p.2*p.2)
 rw[Xbe,Xbd K G,Xbd K G];rfl
theorem Yff: emb K p=emb K q↔p=q:=⟨λh=>W1h (Xfi (congrArg Prod.fst h)) (Xfi (congrArg Prod.snd h)),λh=>by rw[h]⟩
theorem Xee(G:Tw K){c w:V2 K}: Xaj (Xed c w) c=w:=by
 obtain⟨a,b⟩:=c
 obtain⟨e,f⟩:=w
 have L:=Xax K G
 exact W1h (Laws.req L [a,e] (.add (.add (.v 0) (.v 1)) (.neg (.v 0))) (.v 1) (by decide +kernel)) (Laws.req L [b,f] (.add (.add (.v 0) (.v 1)) (.neg (.v 0))) (.v 1) (by decide +kernel))
theorem Xi7{w:Rat×Rat}(h:w≠(0,0)): emb K w≠vz K:=λe=>h (by
 have e:emb K w=emb K (0,0):=e.trans (W1h (Xa6 K).symm (Xa6 K).symm)
 exact Yff.1 e)
theorem Xef(h:q≠p): Xaj (K:=0) q p≠((0,0):Rat×Rat):=λe=>h (by
 have h1:q.1+-p.1=0:=congrArg Prod.fst e
 have h2:q.2+-p.2=0:=congrArg Prod.snd e
 exact W1h (by grind) (by grind))
theorem Xy6(W:Wn G S N)(A:R47.ArcOk p q t)(hs:s=Xao (K:=0) () (Xaj (K:=0) q p) (Xaj (K:=0) q p))(hne:q≠p)(hd1:Xao G δ δ=rat K s)(hx:Gv G S N 2 x (Xed (emb K p) δ)):
 C0 53 [.d (dC ⟨true,v0 q,v0 t,v0 p,cw⟩),.d (dV x)] (·=.b (dc (q=t\/onV G cw (emb K (Xaj (K:=0) q p)) (emb K (Xaj (K:=0) t p)) δ)))/\C0 34 [.d (dC ⟨true,v0 q,v0 t,v0 p,cw⟩),.d (dV x)] (·=.b (dc (q=t\/onV G cw (emb K (Xaj (K:=0) q p)) (emb K (Xaj (K:=0) t p)) δ))):=by
 subst hs
 have hu0:=Xef hne
 have hs0:Xao (K:=0) () (Xaj (K:=0) q p) (Xaj (K:=0) q p)≠(0:Rat):=λe=>hu0 (vsq (K:=0) (G:=()) trivial ((congrArg (sgn 0 ()) e).trans (by decide +kernel)))
 have hv0:Xaj (K:=0) t p≠((0,0):Rat×Rat):=λe=>hs0 (A.e.trans ((congrArg (λw:V2 0=>Xao (K:=0) () w w) e).trans (show (0:Rat)*0+0*0=0 by decide +kernel)))
 have hδ0:δ≠vz K:=λe=>hs0 (by
  have h1:Xao G δ δ=zero K:=by rw[e];have L:=Xax K G;exact(show add K (mul K G (zero K) (zero K)) (mul K G (zero K) (zero K))=zero K by rw[L.mz,L.az])
  rw[hd1,<-Xa6 K] at h1
  exact Xfi h1)
 have hu1:=Xi7 (K:=K) hu0
 have hv1:=Xi7 (K:=K) hv0
 have hpx:=Xeo W A.hp
 constructor
 . have hz:C0 117 [.d (dC ⟨true,v0 q,v0 t,v0 p,cw⟩)] (·=.tup (.pr (.d (P15.dK (v0 p) (nr (Xao (K:=0) () (Xaj (K:=0) q p) (Xaj (K:=0) q p))))) (.d (.int .i64 0)))) :=
    (P47.around_g (c:=⟨true,v0 q,v0 t,v0 p,cw⟩) W0 (gv0 A.hp) (gv0 A.hq) (Xbc A.hp.1) (Xbc A.hp.2) (by decide) hne.symm).mono λv ⟨z,e,hz⟩=>by rw[e,zw hz.o]
   have hsd:C0 118 [.d (P15.dK (v0 p) (nr (Xao (K:=0) () (Xaj (K:=0) q p) (Xaj (K:=0) q p)))),.d (dV x)] (·=.tup (.pr (.d (.int .i64 0)) (.d (.int .i64 0)))) :=
    (P15.Side_g W hpx (Gd.rat W A.s) hx (by decide) (by decide)).mono λv e=>by
     rw[e,Xee G,hd1,(Xax K G).an,(Xak (Xae W.w.g)).s0 (Xax K G)]
   have hfl:=P47.full_g (c:=⟨true,v0 q,v0 t,v0 p,cw⟩) W0 rfl (gv0 A.hq) (gv0 A.hr) (by decide) (by decide)
   by_cases hqt:q=t
   . refine(P47.On_full (c:=⟨true,v0 q,v0 t,v0 p,cw⟩) rfl hz hsd (hfl.mono λv e=>e.trans (congrArg AV.b (Xaw.2 hqt)))).mono λv e=>e.trans (congrArg AV.b (Xaw.2 (.inl hqt)).symm)
   . have hfl':C0 119 [.d (dC ⟨true,v0 q,v0 t,v0 p,cw⟩)] (·=.b false):=hfl.mono λv e=>e.trans (congrArg AV.b (W4c.2 λe=>hqt (Xaw.1 e)))
     have hX:C0 97 [.d (dV x),.d (dV (v0 p))] (VoG G S N 3 δ):=(P13.Sub_g W hx hpx (by decide) (by decide)).mono λv hv=>by rw[Xee G] at hv;exact hv
     refine(P47.On_part (c:=⟨true,v0 q,v0 t,v0 p,cw⟩) W rfl hz hsd hfl' (Yc7 A.hq A.hp rfl) (Xeo W A.u) (Xbc A.u.1) (Yc7 A.hr A.hp rfl) (Xeo W A.v) (Xbc A.v.1) hX (by decide) hu1 hv1 hδ0).mono λv e=>e.trans (congrArg AV.b ?_)
     exact W3n.2 (Xaw.trans (Iff.trans ⟨λh=>.inr h,λh=>h.elim (λe=>absurd e hqt) id⟩ Xaw.symm))
 . have h1:=Xdh (K:=K) (q:=q) (p:=p)
   have h2:=Xdh (K:=K) (q:=t) (p:=p)
   refine(R47.On_g (c:=⟨true,v0 q,v0 t,v0 p,cw⟩) W rfl hpx (Xeo W A.hq) (Xeo W A.hr) hx (by decide) (by rw[h1];exact hu1) (by rw[h2];exact hv1) (by rw[Xee G];exact hδ0) (by rw[h1,Xee G];exact Ynh.trans hd1.symm)).mono λv e=>e.trans (congrArg AV.b ?_)
   rw[h1,h2,Xee G]
   exact W3n.2 (Xaw.trans (Iff.trans (or_congr Yff W3k) Xaw.symm))
end
end
section
open Go.Proofs.YtchflpokfamkhaaGreatDoor.P55 (v0 W0 g0 gv0 zw Xec Qp nr Xbc Ycx sel Xfg)
section
variable{K:Nat}{G:Tw K}{S:List (Tow.El K)}{N:List Nm}{s:Rat}{r:Nm}{rv:Tow.El K}{p q t:Rat×Rat}{cw:Bool}{δ:V2 K}{d x u v:Vn}{n:Nat}
theorem Ya4{x y:Nm}(h1:C0 115 [.d (dN u.x),.d (dN v.x)] (·=.tup (.pr (.d (dN x)) (.d (.int .i64 0)))))(h2:C0 115 [.d (dN u.y),.d (dN v.y)] (·=.tup (.pr (.d (dN y)) (.d (.int .i64 0))))): C0 52 [.d (dV u),.d (dV v)] (·=.tup (.pr (.d (dV ⟨x,y⟩)) (.d (.int .i64 0)))):=by
 have hb:C0 114 [.d (dV u),.d (dV v),.d (fnD 115)] (·=.tup (.pr (.d (dV ⟨x,y⟩)) (.d (.int .i64 0)))):=by
  refine En Tryz.func114 λ_ _ _=>?_
  refine Ce rfl h1 ?_
  refine No rfl (by decide) ?_
  refine Ce rfl h2 ?_
  refine No rfl (by decide) ?_
  exact RTt rfl (.cons (.rf rfl) Xbg)
 refine En Tryz.func52 λ_ _ _=>?_
 refine Ce rfl hb ?_
 exact RTt rfl (.cons (.rf rfl) Xbg)
theorem Xdk{P:Program}[Gb P]{f:FuncId}{ar:List AV}{H0:Hpl}{Q Q':AV->Prop}(h:CN P f ar H0 Q)(k:∀v,Q v->Q' v): CN P f ar H0 Q':=⟨h.1,λW θ vs hg ho ha=>(h.2 W θ vs hg ho ha).mono λe w' ⟨W',θ',v,u,H',h1,h2,h3,h4,h5,h6,h7,h8,h9⟩=>⟨W',θ',v,u,H',h1,h2,h3,h4,h5,h6,h7,h8,h9.1,k v h9.2⟩⟩
theorem Yn2{q:Rat}: q+((0:Int):Rat)=q:=W6e q
theorem Yh3(e:Bool)(h:mul K G rv rv=rat K s): mul K G (sg rv e) (sg rv e)=rat K s:=by
 cases e with
 | true=>exact h
 | false =>
  have L:=Xax K G
  exact Eq.trans (Laws.req L [rv] (.mul (.neg (.v 0)) (.neg (.v 0))) (.mul (.v 0) (.v 0)) (by decide +kernel)) h
theorem Ycz(e:Bool)(h:mul K G rv rv=rat K s): Xao G ((sg rv e,zero K):V2 K) (sg rv e,zero K)=rat K s:=by
 have L:=Xax K G
 show add K (mul K G (sg rv e) (sg rv e)) (mul K G (zero K) (zero K))=_
 rw[L.mz,L.az,Yh3 e h]
theorem Ycy(e:Bool)(h:mul K G rv rv=rat K s): Xao G ((zero K,sg rv e):V2 K) (zero K,sg rv e)=rat K s:=by
 have L:=Xax K G
 show add K (mul K G (zero K) (zero K)) (mul K G (sg rv e) (sg rv e))=_
 rw[L.mz,L.za,Yh3 e h]
end
end
section
open Go.Proofs.YtchflpokfamkhaaGreatDoor.P55 (v0 W0 g0 gv0 zw Xec Qp nr Xbc lst f40 ofO nxF O4.nx Xh6 o40 lC cAt)
theorem Xxr{K:Nat}{G:Tw K}{S:List (Tow.El K)}{N:List Nm}(W:Wn G S N){q:Rat}(h:Qs 1100 q): Gd G S N 1 ⟨0,(),q⟩ (Tow.rat K q):=by
 have h0:NOk G S 0 1101 ⟨0,(),q⟩ (Tow.rat K q):=⟨⟨λ_=>zero _,⟨trivial,trivial,λi hi=>absurd hi (W5k _)⟩,rfl⟩,trivial,Sz.rat 0 h⟩
 have hg:Gs G S N (gB 1) (Tow.rat K q):=(Gs.rat h).mono (by decide)
 exact⟨h0.re W.w W.h hg,hg,W0b _⟩
theorem pk1{s a b:Rat}(hk:0<s)(hn:¬Xce 0 () s)(hq:Qs 64 s)(ha:Qs 64 a)(hb:Qs 64 b): P11.Pk (n1 s ((a,b):Rat×Rat)) :=
 ⟨show 1<=3 by decide,Xae (Yim hk hn),⟨trivial,(Sz.rat 0 hq).mono (by decide)⟩,⟨trivial,λx hx=>by obtain rfl:=W0e.1 hx;exact hq⟩,.inl λx hx=>by
  have hx:x∈[a,b]:=hx
  rcases W1l.1 hx with rfl | hx
  . exact ha
  . obtain rfl:=W0e.1 hx;exact hb⟩
theorem Ypp{s a b:Rat}(hk:0<s)(hn:¬Xce 0 () s)(hq:Qs 64 s)(ha:Qs 64 a)(hb:Qs 64 b): NOk (G1 s) [r1] 300 129 (n1 s ((a,b):Rat×Rat)) ((a,b):Rat×Rat):=by
 refine⟨⟨_,Ygt hk hn,ev1 rfl⟩,⟨trivial,(Sz.rat 0 hq).mono (by decide)⟩,?_⟩
 exact Sz.all (p:=64) (l:=[a,b]) λx hx=>by
  rcases W1l.1 hx with rfl | hx
  . exact ha
  . obtain rfl:=W0e.1 hx;exact hb
theorem Yek{y z:Rat}(h:y*y=z*z)(hy:0<=Xcr y)(hz:0<=Xcr z): y=z:=by
 have p:∀ {y:Rat},0<=Xcr y->0<=y:=λ{y} h=>by
  rcases Xay y with ⟨e,_⟩ | ⟨e,_⟩ | ⟨_,e⟩
  . grind
  . grind
  . omega
 have h1:=p hy
 have h2:=p hz
 have h3:(y-z)*(y+z)=0:=by grind
 rcases W6r.1 h3 with e | e
 . grind
 . grind
theorem Xyw{f:FuncId}{ar:List AV}{s y:Rat}(h:C0 f ar (R9.RtR (nr s)))(hy:y*y=s)(h0:0<=Xcr y): C0 f ar (·=.tup (.pr (.d (dN (nr y))) (.d (.int .i64 0)))):=h.mono λv ⟨z,e,hz⟩=>by
 rcases hz with ⟨w,rfl,h1,h2⟩ | ⟨_,_,hn⟩
 . have hw:(w:Rat)=y:=Yek (y:=(w:Rat)) (z:=y) (Eq.trans h1 hy.symm) h2 h0
   rw[e,show w=y from hw]
 . exact absurd ⟨y,hy⟩ hn
theorem Yid{f:FuncId}{ar:List AV}{s:Rat}(h:C0 f ar (R9.RtR (nr s)))(hn:¬Xce 0 () s): C0 f ar (·=.tup (.pr (.d (dN (n1 s r1))) (.d (.int .i64 0)))):=h.mono λv ⟨z,e,hz⟩=>by
 rcases hz with ⟨w,rfl,h1,h2⟩ | ⟨rfl,_,_⟩
 . exact absurd ⟨w,h1⟩ hn
 . exact e
theorem Ydf{d:Dft}(h:d.ok)(hv:R47.vlD d): C0 49 [.d (dC (R47.cvD d))] (·=.b true):=by
 have A:=R47.arcOk h
 obtain⟨arc,cw,a1,a2,b1,b2,st,un⟩:=d
 have hp:=R47.Qp.mono' (R47.atQ_qp (u:=un) h.a1 h.a2) (show 8<=64 by decide)
 have hq:=R47.Qp.mono' (R47.atQ_qp (u:=un) h.b1 h.b2) (show 8<=64 by decide)
 have hv:R47.atQ a1 a2 un≠R47.atQ b1 b2 un:=hv
 cases arc with
 | false=>exact(P47.Valid_seg W0 rfl (gv0 hp) (gv0 hq) (by decide) (by decide)).mono λv e=>e.trans (congrArg AV.b (Xaw.2 hv))
 | true =>
  have hne:R47.atQ a1 a2 un≠Xed (K:=0) (R47.atQ a1 a2 un) (R47.rotQ (Xaj (K:=0) (R47.atQ b1 b2 un) (R47.atQ a1 a2 un)) (R47.uni (st%16))):=λe=>by
   have h0:Xao (K:=0) () (Xaj (K:=0) (R47.atQ b1 b2 un) (R47.atQ a1 a2 un)) (Xaj (K:=0) (R47.atQ b1 b2 un) (R47.atQ a1 a2 un))=(0:Rat):=by
    refine A.e.trans ?_
    rw[<-e]
    show (_+-_)*(_+-_)+(_+-_)*(_+-_)=(0:Rat)
    grind
   have h1:=Xb1 (K:=0) (G:=()) trivial (Xef hv.symm)
   rw[show sgn 0 () (Xao (K:=0) () (Xaj (K:=0) (R47.atQ b1 b2 un) (R47.atQ a1 a2 un)) (Xaj (K:=0) (R47.atQ b1 b2 un) (R47.atQ a1 a2 un)))=0 from(congrArg (sgn 0 ()) h0).trans (by decide +kernel)] at h1
   cases h1
  exact(P47.Valid_arc W0 rfl (gv0 A.hp) (gv0 A.hq) (gv0 A.hr) (Xbc A.hp.1) (Xbc A.hp.2) (by decide) (by decide) hv hne).mono λv e=>e.trans (congrArg AV.b (Xaw.2 A.e))
theorem Yje{l:List F4}(h:l≠[])(hb:∀f∈l,BdL f): ∃o,lst l=f40 o/\BdL o:=by
 have key:∀(l:List F4) (o:Option F4),l.foldl P55.O4.nx (ofO o)=ofO (l.foldl (λo f=>some (nxF o f)) o):=λl=>by
  induction l with
  | nil=>exact λo=>rfl
  | cons f l ih=>exact λo=>by rw[W6m,W6m,Xh6];exact ih (some _)
 have some':∀(l:List F4) (o:F4),BdL o->(∀f∈l,BdL f)->∃g,l.foldl (λo f=>some (nxF o f)) (some o)=some g/\BdL g:=λl=>by
  induction l with
  | nil=>exact λo ho _=>⟨o,rfl,ho⟩
  | cons f l ih=>exact λo ho hl=>ih _ (BdL.nx (o:=some o) (λg e=>by injection e with e;exact e ▸ ho) (hl f (W0n ..))) λx hx=>hl x (W0w _ hx)
 cases l with
 | nil=>exact absurd rfl h
 | cons f l =>
  obtain⟨g,hg,hz⟩:=some' l (nxF none f) (hb f (W0n ..)) λx hx=>hb x (W0w _ hx)
  refine⟨g,(key (f::l) none).trans ?_,hz⟩
  rw[W6m,hg];rfl
end
end Go.Proofs.YtchflpokfamkhaaGreatDoor.R55
namespace Go.Vm
open Go Go.ChangeShapes Go.WideShapes Go.ChangeAt Go.RowKit
theorem Xl0{P:Program}{t e:TypeId}{r:D->Prop}(ht:P.underlying t=some (.array 2 e))(he:Reads P e r)(h1:P.cellsOf e=1)(h3:P.cellsOf t=2): Reads P t λd=>∃a b,d=.st (.pr a b)/\r a/\r b:=by
 intro w H enc spare held fuel cs x h
 obtain⟨xs,m,_,_,hl,hxl,hx⟩:=DataW.trod_array ht h
 rw[h3] at hl
 match cs,hl with
 | [u,v],_ =>
  have g0:=hx 0 (by decide)
  have g1:=hx 1 (by decide)
  rw[h1,W0c (by omega)] at g0 g1
  obtain⟨a,a1,a2⟩:=he w g0
  obtain⟨b,b1,b2⟩:=he w g1
  exact⟨_,⟨a,b,rfl,a1,b1⟩,[u],[v],rfl,a2,b2⟩
end Go.Vm
namespace Go.Proofs.YtchflpokfamkhaaGreatDoor
open Go Go.Vm Go.Num
theorem Xp7: Reads Tryz.prog 56 λd=>∃a b:Int,d=dP8 a b/\I8 a/\I8 b :=
 (Xl0 Tryz.underlying56 (Xy1 Tryz.underlying55) (by kernel_rfl) (by kernel_rfl)).mono λd ⟨a,b,e,⟨x,ex,hx⟩,⟨y,ey,hy⟩⟩=>⟨x,y,by rw[e,ex,ey],hx,hy⟩
theorem Xnv: Reads Tryz.prog 58 λd=>∃x:Dft,d=dDf x/\x.ok :=
 (Xly Tryz.underlying58 (.cons (n:=1) rfl (Xje Tryz.underlying4) (by kernel_rfl) (.cons (n:=1) rfl (Xje Tryz.underlying4) (by kernel_rfl) (.cons (n:=2) rfl Xp7 (by kernel_rfl) (.cons (n:=2) rfl Xp7 (by kernel_rfl) (.cons (n:=1) rfl (Xko Tryz.underlying5) (by kernel_rfl) (.one rfl (Xko Tryz.underlying5))))))) (λf hf=>by cases hf;kernel_rfl)).mono λd hd=>by
  obtain⟨_,rfl,_,_,rfl,⟨a,rfl⟩,_,_,rfl,⟨b,rfl⟩,_,_,rfl,⟨c,e,rfl,h1,h2⟩,_,_,rfl,⟨f,g,rfl,h3,h4⟩,_,_,rfl,⟨m,rfl,h5⟩,⟨n,rfl,h6⟩⟩:=hd
  exact⟨⟨a,b,c,e,f,g,m,n⟩,rfl,h1,h2,h3,h4,h5,h6⟩
theorem Xl1: Reads Tryz.prog 22 λd=>∃l:List Dft,d=Yfp l/\l.length<9223372036854775808/\∀x∈l,x.ok :=
 (Xnu Tryz.underlying22 Xnv (sz:=8) (by kernel_rfl) (by decide)).mono λd ⟨l,e,hl,h⟩=>by
  obtain⟨m,hm⟩:=Ypt (f:=λn:{ x:Dft // x.ok }=>dDf n.1) λy hy=>let ⟨n,e,hn⟩:=h y hy;⟨⟨n,hn⟩,e⟩
  refine⟨m.map (·.1),by rw[e,hm];show _=D.sl 8 ((m.map (·.1)).map dDf);rw[List.map_map];rfl,by rw[hm] at hl;simpa using hl,λx hx=>?_⟩
  obtain⟨y,_,rfl⟩:=W3o.1 hx
  exact y.2
theorem Xsi: Arg Tryz.prog 22 λd=>∃l:List Dft,d=Yfp l/\l.length<9223372036854775808/\∀x∈l,x.ok:=Xxe Tryz.underlying22 Xl1 λx ⟨_,e,_⟩=>by rw[e];rfl
end Go.Proofs.YtchflpokfamkhaaGreatDoor
namespace Go.Tow
open Go
section
variable{K:Nat}{G:Tw K}{a b x e u p q:V2 K}
def vps(p q:V2 K): V2 K:=(add K p.1 q.1,add K p.2 q.2)
theorem Yg8: mul K G (Xao G (vps a x) (vps a x)) (add K a.1 (neg K x.1))=add K (add K (mul K G (add K a.2 x.2) (Xai G a x)) (mul K G (add K a.2 x.2) (Xai G a x))) (mul K G (add K (Xao G a a) (neg K (Xao G x x))) (add K a.1 x.1)):=by
 obtain⟨a,b⟩:=a
 obtain⟨c,d⟩:=x
 have L:=Xax K G
 exact(Laws.req L [a,b,c,d] (.mul (.add (.mul (.add (.v 0) (.v 2)) (.add (.v 0) (.v 2))) (.mul (.add (.v 1) (.v 3)) (.add (.v 1) (.v 3)))) (.add (.v 0) (.neg (.v 2)))) (.add (.add (.mul (.add (.v 1) (.v 3)) (.add (.mul (.neg (.v 1)) (.v 2)) (.mul (.v 0) (.v 3)))) (.mul (.add (.v 1) (.v 3)) (.add (.mul (.neg (.v 1)) (.v 2)) (.mul (.v 0) (.v 3))))) (.mul (.add (.add (.mul (.v 0) (.v 0)) (.mul (.v 1) (.v 1))) (.neg (.add (.mul (.v 2) (.v 2)) (.mul (.v 3) (.v 3))))) (.add (.v 0) (.v 2)))) (by decide +kernel))
theorem Yg6(hG:red K G)(hn:Xao G a a=Xao G x x)(ha:vup G a)(hx:vup G x)(hc:0<=sgn K G (Xai G a x)): 0<=sgn K G (add K a.1 (neg K x.1)):=by
 have Sg:=Xak (Xae hG)
 have L:=Xax K G
 have n0:vps a x≠vz K:=λh=>by
  have h1:add K a.1 x.1=zero K:=congrArg Prod.fst h
  have h2:add K a.2 x.2=zero K:=congrArg Prod.snd h
  have e:x=Xft a:=W1h (eq_neg L h1) (eq_neg L h2)
  rw[e] at hx
  exact(Xgf hG (Xhl hG ha)).1 hx ha
 have id:=Yg8 (G:=G) (a:=a) (x:=x)
 rw[hn,L.an,Xhj L,L.az] at id
 have h1:=congrArg (sgn K G) id
 rw[Sg.sm,Xb1 hG n0,W2y] at h1
 rw[h1]
 have h2:0<=sgn K G (mul K G (add K a.2 x.2) (Xai G a x)):=by
  rw[Sg.sm]
  exact W4t (Sg.sa _ _ (Xfs ha) (Xfs hx)) hc
 exact Sg.sa _ _ h2 h2
where
 eq_neg {a c:El K} (L:Laws (add K) (mul K G) (neg K) (zero K) (rat K 1)) (h:add K a c=zero K):c=neg K a:=by
  have h1:add K (neg K a) (add K a c)=c:=(Laws.req L [a,c] (.add (.neg (.v 0)) (.add (.v 0) (.v 1))) (.v 1) (by decide +kernel))
  rw[<-h1,h,L.az]
 Xhj (L:Laws (add K) (mul K G) (neg K) (zero K) (rat K 1)) {c:El K}:mul K G (zero K) c=zero K:=L.zm c
theorem Xlm: Xao G (Xft p) (Xft p)=Xao G p p:=by
 obtain⟨a,b⟩:=p
 have L:=Xax K G
 exact(Laws.req L [a,b] (.add (.mul (.neg (.v 0)) (.neg (.v 0))) (.mul (.neg (.v 1)) (.neg (.v 1)))) (.add (.mul (.v 0) (.v 0)) (.mul (.v 1) (.v 1))) (by decide +kernel))
theorem Yga(hG:red K G)(hx0:x≠vz K)(hb0:b≠vz K)(hn:Xao G a a=Xao G x x)(hm:Xao G b b=Xao G x x)(h1:Xb9 G a x<=0)(h2:Xb9 G x b<=0): 0<=sgn K G (add K a.1 (neg K x.1))\/0<=sgn K G (add K b.1 (neg K x.1)):=by
 have Sg:=Xak (Xae hG)
 have L:=Xax K G
 rw[Xd8] at h1 h2
 rcases Xcq (G:=G) (p:=x) with ⟨vx,ux⟩ | ⟨vx,ux⟩
 . left
   rcases Xcq (G:=G) (p:=a) with ⟨va,ua⟩ | ⟨va,ua⟩
   . rw[if_pos (by omega)] at h1
     exact Yg6 hG hn ua ux (by omega)
   . rw[if_neg (by omega)] at h1
     omega
 . right
   rcases Xcq (G:=G) (p:=b) with ⟨vb,ub⟩ | ⟨vb,ub⟩
   . rw[if_neg (by omega)] at h2
     omega
   . rw[if_pos (by omega)] at h2
     have nx:vup G (Xft x):=(Xgf hG hx0).2 ux
     have nb:vup G (Xft b):=(Xgf hG hb0).2 ub
     have:=Yg6 hG (by rw[Xlm,Xlm];exact hm.symm) nx nb (by rw[Xj1,Xiq,L.nn];omega)
     have e:add K (neg K x.1) (neg K (neg K b.1))=add K b.1 (neg K x.1):=by
      obtain⟨c,d⟩:=x
      obtain⟨f,g⟩:=b
      exact(Laws.req L [c,f] (.add (.neg (.v 0)) (.neg (.neg (.v 1)))) (.add (.v 1) (.neg (.v 0))) (by decide +kernel))
     rw[<-e]
     exact this
theorem Xg7(hG:red K G){d:El K}(hd:sgn K G d=1): Xb9 G (Xap G p (d,zero K)) (Xap G q (d,zero K))=Xb9 G p q:=by
 have Sg:=Xak (Xae hG)
 have L:=Xax K G
 have hv:Xao G ((d,zero K):V2 K) (d,zero K)=mul K G d d:=(Laws.req L [d] (.add (.mul (.v 0) (.v 0)) (.mul .z .z)) (.mul (.v 0) (.v 0)) (by decide +kernel))
 have c:∀p:V2 K,Xap G p (d,zero K)=(mul K G p.1 d,mul K G p.2 d):=λp=>by
  obtain⟨a,b⟩:=p
  exact W1h (Laws.req L [a,b,d] (.add (.mul (.v 0) (.v 2)) (.neg (.mul (.v 1) .z))) (.mul (.v 0) (.v 2)) (by decide +kernel)) (Laws.req L [a,b,d] (.add (.mul (.v 0) .z) (.mul (.v 1) (.v 2))) (.mul (.v 1) (.v 2)) (by decide +kernel))
 have up:∀p:V2 K,vup G (Xap G p (d,zero K))↔vup G p:=λp=>by
  rw[c p]
  unfold vup
  simp only[Sg.sm,hd,W4a]
 unfold Xb9
 rw[Xni,hv,Sg.sm,Sg.sm,hd,W2y,W2y]
 simp only[up]
theorem Xo8(G:Tw K)(p q:V2 K): Xo9 G p q 0 0=0\/Xo9 G p q 0 0=1:=by
 unfold Xo9
 split
 . exact .inr rfl
 . exact .inl rfl
theorem Xll(hG:red K G)(hp:Yha G p): Xb9 G p q<=0:=by
 have Sg:=Xak (Xae hG)
 have L:=Xax K G
 have up:vup G p:=.inr hp
 rw[Xd8]
 have hv:vh G p=0:=if_pos up
 rcases Xcq (G:=G) (p:=q) with ⟨vq,uq⟩ | ⟨vq,uq⟩
 . rw[if_pos (by omega)]
   have h2:p.2=zero K:=(Xbb hG).1 hp.1
   obtain⟨a,b⟩:=p
   have h2:b=zero K:=h2
   subst h2
   have e:Xai G ((a,zero K):V2 K) q=mul K G a q.2:=by
    obtain⟨c,d⟩:=q
    exact(Laws.req L [a,c,d] (.add (.mul (.neg .z) (.v 1)) (.mul (.v 0) (.v 2))) (.mul (.v 0) (.v 2)) (by decide +kernel))
   rw[e,Sg.sm]
   have h3:=Xfs uq
   have h4:0<sgn K G a:=hp.2
   have:=W4t (Int.le_of_lt h4) h3
   omega
 . rw[if_neg (by omega)]
   omega
theorem Yk8(hG:red K G)(ha0:a≠vz K)(hx0:x≠vz K)(hb0:b≠vz K)(hn:Xao G a a=Xao G x x)(hm:Xao G b b=Xao G x x)(h1:Xb9 G (Xap G (Xa2 a) x) (Xap G (Xa2 a) b)<=0)
 (h2:0<Xb9 G (Xa2 a) (Xap G (Xa2 a) b)):0<=sgn K G (add K a.1 (neg K x.1))\/0<=sgn K G (add K b.1 (neg K x.1)):=by
 have Sg:=Xak (Xae hG)
 have L:=Xax K G
 have hd:=Xb1 hG ha0
 obtain⟨d,hde⟩:∃d,Xao G a a=d:=⟨_,rfl⟩
 rw[hde] at hd
 have hfl:Yha G ((d,zero K):V2 K):=⟨Sg.s0 L,by show 0<sgn K G d;omega⟩
 have hf0:((d,zero K):V2 K)≠vz K:=Xhl hG (.inr hfl)
 have hc:=Xfc hG ha0
 have e:∀v:V2 K,Xap G (Xap G (Xa2 a) v) a=Xap G v (d,zero K):=λv=>by
  rw[<-hde,<-Xj2,Xbj (p:=Xa2 a),Xgg,Xbj (p:=Xa2 a)]
 have ec:Xap G (Xa2 a) a=(d,zero K):=by rw[Xbj,Xj2,hde]
 have ef:Xap G ((d,zero K):V2 K) a=Xap G a (d,zero K):=Xbj
 have E1:=Xj4 hG (Xb8 hG hc hx0) (Xb8 hG hc hb0) ha0
 have E2:=Xj4 hG hc (Xb8 hG hc hb0) ha0
 have E3:=Xj4 hG hf0 (Xb8 hG hc hx0) ha0
 rw[e,e,Xg7 hG hd] at E1
 rw[ec] at E2
 rw[e,ef,Xg7 hG hd] at E3
 have m2:=Xll (q:=Xap G (Xap G (Xa2 a) b) a) hG hfl
 have m3:=Xll (q:=Xap G (Xa2 a) x) hG hfl
 have k2:Xo9 G (Xap G (Xa2 a) b) a 0 0=0:=by
  rcases Xo8 G (Xap G (Xa2 a) b) a with h | h
  . exact h
  . rw[h] at E2
    rcases Xo8 G (Xa2 a) a with h' | h'<;>rw[h'] at E2
    . rw[if_pos (by decide)] at E2;omega
    . rw[if_neg (by decide),if_neg (by decide)] at E2;omega
 have k1:Xo9 G (Xap G (Xa2 a) x) a 0 0=0:=by
  rcases Xo8 G (Xap G (Xa2 a) x) a with h | h
  . exact h
  . rw[h,k2,if_neg (by decide),if_pos (by decide)] at E1;omega
 rw[k1,k2,if_neg (by decide),if_neg (by decide)] at E1
 have k3:Xb9 G a x<=0:=by
  rcases Xo8 G ((d,zero K):V2 K) a with h | h<;>rw[h,k1] at E3
  . rw[if_neg (by decide),if_neg (by decide)] at E3;omega
  . rw[if_neg (by decide),if_pos (by decide)] at E3;omega
 exact Yga hG hx0 hb0 hn hm k3 (by omega)
theorem Xg6(G:Tw K): Xa2 (Xa2 p)=p:=W1h rfl ((Xax K G).nn _)
theorem Xcs: Xao G (Xa2 p) (Xa2 q)=Xao G p q:=by
 obtain⟨a,b⟩:=p
 obtain⟨c,d⟩:=q
 have L:=Xax K G
 exact(Laws.req L [a,b,c,d] (.add (.mul (.v 0) (.v 2)) (.mul (.neg (.v 1)) (.neg (.v 3)))) (.add (.mul (.v 0) (.v 2)) (.mul (.v 1) (.v 3))) (by decide +kernel))
theorem Xo7: Xa2 (Xap G p q)=Xap G (Xa2 p) (Xa2 q):=by
 obtain⟨a,b⟩:=p
 obtain⟨c,d⟩:=q
 have L:=Xax K G
 exact W1h (Laws.req L [a,b,c,d] (.add (.mul (.v 0) (.v 2)) (.neg (.mul (.v 1) (.v 3)))) (.add (.mul (.v 0) (.v 2)) (.neg (.mul (.neg (.v 1)) (.neg (.v 3))))) (by decide +kernel)) (Laws.req L [a,b,c,d] (.neg (.add (.mul (.v 0) (.v 3)) (.mul (.v 1) (.v 2)))) (.add (.mul (.v 0) (.neg (.v 3))) (.mul (.neg (.v 1)) (.v 2))) (by decide +kernel))
theorem Xyb: Xap G (rat K 1,zero K) p=p:=by
 obtain⟨a,b⟩:=p
 have L:=Xax K G
 exact W1h (Laws.req L [a,b] (.add (.mul .o (.v 0)) (.neg (.mul .z (.v 1)))) (.v 0) (by decide +kernel)) (Laws.req L [a,b] (.add (.mul .o (.v 1)) (.mul .z (.v 0))) (.v 1) (by decide +kernel))
theorem Yc4(hG:red K G)(he:Xao G e e=rat K 1)(ha0:a≠vz K)(hx0:x≠vz K)(hb0:b≠vz K)(hn:Xao G a a=Xao G x x)(hm:Xao G b b=Xao G x x)(h1:Xb9 G (Xap G (Xa2 a) x) (Xap G (Xa2 a) b)<=0)
 (h2:0<Xb9 G (Xap G (Xa2 a) e) (Xap G (Xa2 a) b)):0<=sgn K G (add K (Xao G e a) (neg K (Xao G e x)))\/0<=sgn K G (add K (Xao G e b) (neg K (Xao G e x))):=by
 have L:=Xax K G
 have e0:e≠vz K:=λh=>by
  subst h
  have h1:Xao G (vz K) (vz K)=zero K:=by
   show add K (mul K G (zero K) (zero K)) (mul K G (zero K) (zero K))=zero K
   rw[L.zm,L.az]
  have h2:=congrArg (sgn K G) (h1.symm.trans he)
  have hR:=Xae hG
  rw[Xbs hR,(Xak hR).s0 L] at h2
  exact absurd h2 (by decide +kernel)
 have c0:=Xfc hG e0
 have sq:∀v:V2 K,Xao G (Xap G (Xa2 e) v) (Xap G (Xa2 e) v)=Xao G v v:=λv=>by
  rw[Xsz,Xcs,he]
  exact L.om _
 have pr:∀u v:V2 K,Xap G (Xa2 (Xap G (Xa2 e) u)) (Xap G (Xa2 e) v)=Xap G (Xa2 u) v:=λu v=>by
  rw[Xo7,Xg6 G,Xbj (p:=e),Xgg,<-Xgg (p:=e),Xj2,he,Xyb]
 have fx:∀v:V2 K,(Xap G (Xa2 e) v).1=Xao G e v:=λv=>by rw[<-Xsy,Xg6 G]
 have A:=Yk8 (a:=Xap G (Xa2 e) a) (x:=Xap G (Xa2 e) x) (b:=Xap G (Xa2 e) b) hG (Xb8 hG c0 ha0) (Xb8 hG c0 hx0) (Xb8 hG c0 hb0) (by rw[sq,sq];exact hn) (by rw[sq,sq];exact hm) (by rw[pr,pr];exact h1)
  (by rw[pr,Xo7,Xg6 G,Xbj];exact h2)
 rw[fx,fx,fx] at A
 exact A
theorem Yk9(hG:red K G)(he:Xao G e e=rat K 1)(ha0:a≠vz K)(hx0:x≠vz K)(hb0:b≠vz K)(hn:Xao G a a=Xao G x x)(hm:Xao G b b=Xao G x x)(h1:Xb9 G (Xap G (Xa2 x) a) (Xap G (Xa2 b) a)<=0)
 (h2:0<Xb9 G (Xap G (Xa2 e) a) (Xap G (Xa2 b) a)):0<=sgn K G (add K (Xao G e a) (neg K (Xao G e x)))\/0<=sgn K G (add K (Xao G e b) (neg K (Xao G e x))):=by
 have sw:∀u v:V2 K,Xap G (Xa2 (Xa2 u)) (Xa2 v)=Xap G (Xa2 v) u:=λu v=>by rw[Xg6 G,Xbj]
 have A:=Yc4 (e:=Xa2 e) (a:=Xa2 a) (x:=Xa2 x) (b:=Xa2 b) hG (by rw[Xcs];exact he) (Xfc hG ha0) (Xfc hG hx0) (Xfc hG hb0) (by rw[Xcs,Xcs];exact hn) (by rw[Xcs,Xcs];exact hm) (by rw[sw,sw];exact h1) (by rw[sw,sw];exact h2)
 rw[Xcs,Xcs,Xcs] at A
 exact A
end
end Go.Tow
namespace Go.Proofs.YtchflpokfamkhaaGreatDoor.R55
open Go Go.Vm Go.Num Go.Tow Go.Proofs.YtchflpokfamkhaaGreatDoor
section
section
variable{K:Nat}{G:Tw K}{cw:Bool}{a b e p q t:Rat×Rat}{u v w x d:V2 K}{M s:Rat}
theorem Yfe(G:Tw K): Xap G (emb K p) (emb K q)=emb K (Xap (K:=0) () p q):=W1h
 (by show add K (mul K G (rat K p.1) (rat K q.1)) (neg K (mul K G (rat K p.2) (rat K q.2)))=rat K (p.1*q.1+-(p.2*q.2));rw[Xbe,Xa4,Xbd K G,Xbd K G])
 (by show add K (mul K G (rat K p.1) (rat K q.2)) (mul K G (rat K p.2) (rat K q.1))=rat K (p.1*q.2+p.2*q.1);rw[Xbe,Xbd K G,Xbd K G])
theorem Yfg: Xa2 (emb K p)=emb K (Xa2 (K:=0) p):=W1h rfl (by show neg K (rat K p.2)=rat K (-p.2);rw[Xa4])
def d0(p q:Rat×Rat): Rat:=p.1*q.1+p.2*q.2
def x0(p q:Rat×Rat): Rat:=-p.2*q.1+p.1*q.2
theorem Xc4(G:Tw K): Xao G (emb K p) (emb K q)=rat K (d0 p q):=by
 show add K (mul K G (rat K p.1) (rat K q.1)) (mul K G (rat K p.2) (rat K q.2))=rat K (p.1*q.1+p.2*q.2)
 rw[Xbe,Xbd K G,Xbd K G]
theorem Xwf(G:Tw K): Xai G (emb K p) (emb K q)=rat K (x0 p q):=by
 show add K (mul K G (neg K (rat K p.2)) (rat K q.1)) (mul K G (rat K p.1) (rat K q.2))=rat K (-p.2*q.1+p.1*q.2)
 rw[Xbe,Xbd K G,Xbd K G,Xa4]
theorem Ycr(hR:Xbx K G): vup G (emb K p)↔vup (K:=0) () p:=by
 show (0<sgn K G (rat K p.2)\/sgn K G (rat K p.2)=0/\0<sgn K G (rat K p.1))↔(0<Xcr p.2\/Xcr p.2=0/\0<Xcr p.1)
 rw[Xbs hR,Xbs hR]
theorem Ycq(hR:Xbx K G): vh G (emb K p)=vh (K:=0) () p:=by
 unfold vh
 by_cases h:vup (K:=0) () p
 . rw[if_pos h,if_pos ((Ycr hR).2 h)]
 . rw[if_neg h,if_neg λe=>h ((Ycr hR).1 e)]
theorem Xwg(hR:Xbx K G): Xb9 G (emb K p) (emb K q)=Xb9 (K:=0) () p q:=by
 have h0:Xb9 (K:=0) () p q=if vh (K:=0) () p=vh (K:=0) () q then-Xcr (x0 p q) else vh (K:=0) () p-vh (K:=0) () q:=Xd8 (K:=0) (G:=()) (p:=p) (q:=q)
 refine Eq.trans ?_ h0.symm
 have a:=Ycq (p:=p) hR
 have b:=Ycq (p:=q) hR
 have c:sgn K G (Xai G (emb K p) (emb K q))=Xcr (x0 p q):=by rw[Xwf G];exact Xbs hR
 rw[Xd8,a,b,c]
theorem Xq4(G:Tw K)(b e:Rat×Rat): Xap G (Xa2 (emb K b)) (emb K e)=emb K (Xap (K:=0) () (Xa2 (K:=0) b) e):=(congrArg (λw=>Xap G w (emb K e)) Yfg).trans (Yfe G)
theorem Ycs(hR:Xbx K G): onV G cw (emb K a) (emb K b) (emb K e)↔onV (K:=0) () cw a b e:=by
 cases cw with
 | true=>exact Iff.of_eq (congrArg (λz:Int=>z<=0) ((congr (congrArg (Xb9 G) (Xq4 G b e)) (Xq4 G b a)).trans (Xwg hR)))
 | false=>exact Iff.of_eq (congrArg (λz:Int=>z<=0) ((congr (congrArg (Xb9 G) (Xq4 G a e)) (Xq4 G a b)).trans (Xwg hR)))
theorem Ymn{y:Rat}: 0<=Xcr y↔0<=y:=by
 rcases Xay y with ⟨e,h⟩ | ⟨e,h⟩ | ⟨h,e⟩
 . exact⟨λ_=>by grind,λ_=>by omega⟩
 . exact⟨λ_=>by grind,λ_=>by omega⟩
 . exact⟨λ_=>by omega,λ_=>by grind⟩
theorem Xys(hG:red K G)(hu:u≠vz K)(hc:Xai G u v=zero K)(h0:0<=sgn K G (Xao G u v))(h1:0<=sgn K G (add K (Xao G u u) (neg K (Xao G u v)))): 0<=sgn K G (neg K (Xao G d v))\/0<=sgn K G (add K (Xao G d u) (neg K (Xao G d v))):=by
 have Sg:=Xak (Xae hG)
 have L:=Xax K G
 have id:mul K G (Xao G u u) (Xao G d v)=add K (mul K G (Xao G u v) (Xao G d u)) (mul K G (Xai G u v) (Xai G u d)):=by
  obtain⟨a,b⟩:=u
  obtain⟨c,e⟩:=v
  obtain⟨f,g⟩:=d
  exact(Laws.req L [a,b,c,e,f,g] (.mul (.add (.mul (.v 0) (.v 0)) (.mul (.v 1) (.v 1))) (.add (.mul (.v 4) (.v 2)) (.mul (.v 5) (.v 3)))) (.add (.mul (.add (.mul (.v 0) (.v 2)) (.mul (.v 1) (.v 3))) (.add (.mul (.v 4) (.v 0)) (.mul (.v 5) (.v 1)))) (.mul (.add (.mul (.neg (.v 1)) (.v 2)) (.mul (.v 0) (.v 3))) (.add (.mul (.neg (.v 1)) (.v 4)) (.mul (.v 0) (.v 5))))) (by decide +kernel))
 have hd:=Xb1 hG hu
 rw[hc,L.zm,L.az] at id
 by_cases hk:sgn K G (Xao G d u)=1
 . right
   have h4:∀P Q R T:El K,mul K G P R=mul K G T Q->mul K G P (add K Q (neg K R))=mul K G Q (add K P (neg K T)):=λP Q R T h=>by
    have h2:mul K G P (add K Q (neg K R))=add K (mul K G P Q) (neg K (mul K G P R)):=(Laws.req L [P,Q,R] (.mul (.v 0) (.add (.v 1) (.neg (.v 2)))) (.add (.mul (.v 0) (.v 1)) (.neg (.mul (.v 0) (.v 2)))) (by decide +kernel))
    rw[h2,h]
    exact(Laws.req L [P,Q,T] (.add (.mul (.v 0) (.v 1)) (.neg (.mul (.v 2) (.v 1)))) (.mul (.v 1) (.add (.v 0) (.neg (.v 2)))) (by decide +kernel))
   have h5:=congrArg (sgn K G) (h4 _ _ _ _ id)
   rw[Sg.sm,Sg.sm,hd,hk,W2y,W2y] at h5
   rw[h5];exact h1
 . left
   have h2:=congrArg (sgn K G) id
   rw[Sg.sm,Sg.sm,hd,W2y] at h2
   rw[Sg.sn]
   rcases Sg.tri (Xao G d u) with k | k | k<;>rcases Sg.tri (Xao G u v) with l | l | l<;>rw[k,l] at h2<;>omega
theorem Yiu(hG:red K G)(he:Xao G d d=rat K 1){m:El K}(hm:0<=sgn K G m)(h:0<=sgn K G (add K (mul K G m m) (neg K (Xao G x x)))): 0<=sgn K G (add K m (neg K (Xao G d x))):=by
 have Sg:=Xak (Xae hG)
 have L:=Xax K G
 have id:mul K G (Xao G d d) (Xao G x x)=add K (mul K G (Xao G d x) (Xao G d x)) (mul K G (Xai G d x) (Xai G d x)):=by
  obtain⟨a,b⟩:=d
  obtain⟨c,e⟩:=x
  exact(Laws.req L [a,b,c,e] (.mul (.add (.mul (.v 0) (.v 0)) (.mul (.v 1) (.v 1))) (.add (.mul (.v 2) (.v 2)) (.mul (.v 3) (.v 3)))) (.add (.mul (.add (.mul (.v 0) (.v 2)) (.mul (.v 1) (.v 3))) (.add (.mul (.v 0) (.v 2)) (.mul (.v 1) (.v 3)))) (.mul (.add (.mul (.neg (.v 1)) (.v 2)) (.mul (.v 0) (.v 3))) (.add (.mul (.neg (.v 1)) (.v 2)) (.mul (.v 0) (.v 3))))) (by decide +kernel))
 rw[he,L.om] at id
 have h2:mul K G (add K m (neg K (Xao G d x))) (add K m (Xao G d x))=add K (add K (mul K G m m) (neg K (Xao G x x))) (mul K G (Xai G d x) (Xai G d x)):=by
  have h3:∀s t c:El K,mul K G (add K s (neg K t)) (add K s t)=add K (add K (mul K G s s) (neg K (add K (mul K G t t) c))) c:=λs t c=>(Laws.req L [s,t,c] (.mul (.add (.v 0) (.neg (.v 1))) (.add (.v 0) (.v 1))) (.add (.add (.mul (.v 0) (.v 0)) (.neg (.add (.mul (.v 1) (.v 1)) (.v 2)))) (.v 2)) (by decide +kernel))
  rw[id];exact h3 _ _ _
 have h5:=congrArg (sgn K G) h2
 rw[Sg.sm] at h5
 have h6:0<=sgn K G (add K (add K (mul K G m m) (neg K (Xao G x x))) (mul K G (Xai G d x) (Xai G d x))):=Sg.sa _ _ h (by rw[Sg.sm];exact(Xdo (Sg.tri _)).1)
 have s:∀p q:El K,add K (add K p (neg K q)) (add K p q)=add K p p:=λp q=>(Laws.req L [p,q] (.add (.add (.v 0) (.neg (.v 1))) (.add (.v 0) (.v 1))) (.add (.v 0) (.v 0)) (by decide +kernel))
 have h8:=Sg.sa m m hm hm
 rw[<-s m (Xao G d x)] at h8
 obtain⟨P,hP⟩:∃P,add K m (neg K (Xao G d x))=P:=⟨_,rfl⟩
 obtain⟨Q,hQ⟩:∃Q,add K m (Xao G d x)=Q:=⟨_,rfl⟩
 rw[hP,hQ] at h5 h8
 rw[hP]
 have tr:=Sg.tri P
 by_cases hn:0<=sgn K G P
 . exact hn
 . have k:sgn K G P=-1:=by omega
   rw[<-h5,k] at h6
   have h7:sgn K G Q<=0:=by omega
   have h9:=Sg.sa (neg K P) (neg K Q) (by rw[Sg.sn];omega) (by rw[Sg.sn];omega)
   have h10:add K (neg K P) (neg K Q)=neg K (add K P Q):=(Laws.req L [P,Q] (.add (.neg (.v 0)) (.neg (.v 1))) (.neg (.add (.v 0) (.v 1))) (by decide +kernel))
   rw[h10,Sg.sn] at h9
   have h11:add K P Q=zero K:=(Xbb hG).1 (by omega)
   have h12:add K (neg K P) (add K P Q)=Q:=(Laws.req L [P,Q] (.add (.neg (.v 0)) (.add (.v 0) (.v 1))) (.v 1) (by decide +kernel))
   rw[h11,L.az] at h12
   rw[<-h12,Sg.sn] at h7
   omega
theorem Xh5(hR:Xbx K G)(h:d0 e q<=M): 0<=sgn K G (add K (rat K M) (neg K (Xao G (emb K e) (emb K q)))):=by
 rw[Xc4 G,<-Xa4,<-Xbe,Xbs hR]
 exact Ymn.2 (by grind)
theorem Xum(G:Tw K)(M:El K)(f q x:V2 K): add K (add K M (neg K (Xao G f q))) (neg K (Xao G f (Xaj x q)))=add K M (neg K (Xao G f x)):=by
 have L:=Xax K G
 obtain⟨f,g⟩:=f
 obtain⟨a,b⟩:=q
 obtain⟨c,d⟩:=x
 exact(Laws.req L [M,f,g,a,b,c,d] (.add (.add (.v 0) (.neg (.add (.mul (.v 1) (.v 3)) (.mul (.v 2) (.v 4))))) (.neg (.add (.mul (.v 1) (.add (.v 5) (.neg (.v 3)))) (.mul (.v 2) (.add (.v 6) (.neg (.v 4))))))) (.add (.v 0) (.neg (.add (.mul (.v 1) (.v 5)) (.mul (.v 2) (.v 6))))) (by decide +kernel))
theorem Xn0(G:Tw K)(M:El K)(f q t x:V2 K): add K (add K M (neg K (Xao G f t))) (add K (Xao G f (Xaj t q)) (neg K (Xao G f (Xaj x q))))=add K M (neg K (Xao G f x)):=by
 have L:=Xax K G
 obtain⟨f,g⟩:=f
 obtain⟨a,b⟩:=q
 obtain⟨c,d⟩:=x
 obtain⟨h,i⟩:=t
 exact(Laws.req L [M,f,g,a,b,c,d,h,i] (.add (.add (.v 0) (.neg (.add (.mul (.v 1) (.v 7)) (.mul (.v 2) (.v 8))))) (.add (.add (.mul (.v 1) (.add (.v 7) (.neg (.v 3)))) (.mul (.v 2) (.add (.v 8) (.neg (.v 4))))) (.neg (.add (.mul (.v 1) (.add (.v 5) (.neg (.v 3)))) (.mul (.v 2) (.add (.v 6) (.neg (.v 4)))))))) (.add (.v 0) (.neg (.add (.mul (.v 1) (.v 5)) (.mul (.v 2) (.v 6))))) (by decide +kernel))
theorem Xyp(hG:red K G)(hne:t≠q)(hq:d0 e q<=M)(ht:d0 e t<=M)(hc:Xai G (Xaj (emb K t) (emb K q)) (Xaj x (emb K q))=zero K)(h0:0<=sgn K G (Xao G (Xaj (emb K t) (emb K q)) (Xaj x (emb K q))))
 (h1:0<=sgn K G (add K (Xao G (Xaj (emb K t) (emb K q)) (Xaj (emb K t) (emb K q))) (neg K (Xao G (Xaj (emb K t) (emb K q)) (Xaj x (emb K q)))))):0<=sgn K G (add K (rat K M) (neg K (Xao G (emb K e) x))):=by
 have hR:=Xae hG
 have Sg:=Xak hR
 have hu:Xaj (emb K t) (emb K q)≠vz K:=by rw[Xdh];exact Xi7 (Xef hne)
 rcases Xys (d:=emb K e) hG hu hc h0 h1 with k | k
 . have h:=Sg.sa _ _ (Xh5 hR hq) k
   rw[Xum] at h;exact h
 . have h:=Sg.sa _ _ (Xh5 hR ht) k
   rw[Xn0] at h;exact h
theorem Xyq(hG:red K G)(he:d0 e e=1)(hs:d0 (Xaj (K:=0) q p) (Xaj (K:=0) q p)=s)(hs2:d0 (Xaj (K:=0) t p) (Xaj (K:=0) t p)=s)(hs0:(0:Rat)<s)(hq:d0 e q<=M)(ht:d0 e t<=M)
 (hx:(q=t\/onV (K:=0) () cw (Xaj (K:=0) q p) (Xaj (K:=0) t p) e)->d0 e p<=M/\s<=(M-d0 e p)*(M-d0 e p))
 (hd:Xao G (Xaj x (emb K p)) (Xaj x (emb K p))=rat K s) (ho:q=t\/onV G cw (emb K (Xaj (K:=0) q p)) (emb K (Xaj (K:=0) t p)) (Xaj x (emb K p))):0<=sgn K G (add K (rat K M) (neg K (Xao G (emb K e) x))):=by
 have hR:=Xae hG
 have Sg:=Xak hR
 have L:=Xax K G
 have he':Xao G (emb K e) (emb K e)=rat K 1:=(Xc4 G).trans (congrArg (rat K) he)
 by_cases hz:q=t\/onV (K:=0) () cw (Xaj (K:=0) q p) (Xaj (K:=0) t p) e
 . obtain⟨m0,m1⟩:=hx hz
   obtain⟨m,hm⟩:∃m:Rat,m=M-d0 e p:=⟨_,rfl⟩
   rw[<-hm] at m1
   have k:=Yiu (d:=emb K e) (x:=Xaj x (emb K p)) (m:=rat K m) hG he' (by rw[Xbs hR];exact Ymn.2 (by grind)) (by
    rw[hd,<-Xbd K G,<-Xa4,<-Xbe,Xbs hR];exact Ymn.2 (by grind))
   have e1:(rat K m:El K)=add K (rat K M) (neg K (Xao G (emb K e) (emb K p))):=by
    rw[Xc4 G,<-Xa4,<-Xbe,hm,W6v]
   rw[e1,Xum] at k
   exact k
 . have z1:q≠t:=λh=>hz (.inl h)
   have z2:¬onV G cw (emb K (Xaj (K:=0) q p)) (emb K (Xaj (K:=0) t p)) (emb K e):=λh=>hz (.inr ((Ycs hR).1 h))
   have ho:=ho.resolve_left z1
   have nz:∀ {y:V2 K},Xao G y y=rat K s->y≠vz K:=λ{y} h h1=>by
    rw[h1] at h
    have h2:Xao G (vz K) (vz K)=rat K 0:=by
     rw[Xa6]
     show add K (mul K G (zero K) (zero K)) (mul K G (zero K) (zero K))=zero K
     rw[L.zm,L.az]
    have:=Xfi (h2.symm.trans h)
    grind
   have dq:Xao G (emb K (Xaj (K:=0) q p)) (emb K (Xaj (K:=0) q p))=rat K s:=(Xc4 G).trans (congrArg (rat K) hs)
   have dt:Xao G (emb K (Xaj (K:=0) t p)) (emb K (Xaj (K:=0) t p))=rat K s:=(Xc4 G).trans (congrArg (rat K) hs2)
   have e0:emb K e≠vz K:=λh=>by
    rw[h] at he'
    have h2:Xao G (vz K) (vz K)=rat K 0:=by
     rw[Xa6]
     show add K (mul K G (zero K) (zero K)) (mul K G (zero K) (zero K))=zero K
     rw[L.zm,L.az]
    exact absurd (Xfi (h2.symm.trans he')) (by decide +kernel)
   have key:0<=sgn K G (add K (Xao G (emb K e) (emb K (Xaj (K:=0) q p))) (neg K (Xao G (emb K e) (Xaj x (emb K p)))))\/0<=sgn K G (add K (Xao G (emb K e) (emb K (Xaj (K:=0) t p))) (neg K (Xao G (emb K e) (Xaj x (emb K p))))):=by
    cases cw with
    | false=>exact Yc4 hG he' (nz dq) (nz hd) (nz dt) (dq.trans hd.symm) (dt.trans hd.symm) ho (by
     have z2:¬Xb9 G (Xap G (Xa2 (emb K (Xaj (K:=0) q p))) (emb K e)) (Xap G (Xa2 (emb K (Xaj (K:=0) q p))) (emb K (Xaj (K:=0) t p)))<=0:=z2
     omega)
    | true=>exact Yk9 hG he' (nz dq) (nz hd) (nz dt) (dq.trans hd.symm) (dt.trans hd.symm) ((Xnh hG (nz dt) (nz dq) (nz hd)).1 ho) (by
     have z2:¬Xb9 G (Xap G (Xa2 (emb K e)) (emb K (Xaj (K:=0) q p))) (Xap G (Xa2 (emb K (Xaj (K:=0) t p))) (emb K (Xaj (K:=0) q p)))<=0:=λh=>z2 ((Xnh hG (nz dt) (nz dq) e0).2 h)
     omega)
   rcases key with k | k
   . have h:=Sg.sa _ _ (Xh5 hR hq) k
     rw[<-Xdh,Xn0] at h;exact h
   . have h:=Sg.sa _ _ (Xh5 hR ht) k
     rw[<-Xdh,Xn0] at h;exact h
end
end
section
open Go.Proofs.YtchflpokfamkhaaGreatDoor.P55 (v0 W0 g0 gv0 zw Xec Qp nr Xbc lst f40 ofO nxF O4.nx Xh6 o40 lC cAt qb sel Xfg Ycx mn)
structure Kv where
 arc:Bool
 cw:Bool
 q:Rat×Rat
 t:Rat×Rat
 p:Rat×Rat
abbrev Kv.c(k:Kv): Cv:=⟨k.arc,v0 k.q,v0 k.t,v0 k.p,k.cw⟩
def kv(d:Dft): Kv:=match d.arc with
 | false=>⟨false,d.cw,R47.atQ d.a1 d.a2 d.un,R47.atQ d.b1 d.b2 d.un,(((0:Int):Rat),((0:Int):Rat))⟩
 | true=>⟨true,d.cw,R47.atQ d.b1 d.b2 d.un,Xed (K:=0) (R47.atQ d.a1 d.a2 d.un) (R47.rotQ (Xaj (K:=0) (R47.atQ d.b1 d.b2 d.un) (R47.atQ d.a1 d.a2 d.un)) (R47.uni (d.st%16))),R47.atQ d.a1 d.a2 d.un⟩
theorem Yo0{d:Dft}: (kv d).c=R47.cvD d:=by
 obtain⟨arc,cw,a1,a2,b1,b2,st,un⟩:=d
 cases arc<;>rfl
structure Kv.ok (k:Kv):Prop where
 hq:Qp 64 k.q
 ht:Qp 64 k.t
 hp:Qp 64 k.p
 seg:k.arc=false->k.t≠k.q
 ne:k.arc=true->k.q≠k.p
 arc:k.arc=true->R47.ArcOk k.p k.q k.t
theorem Xzp{d:Dft}(h:d.ok)(hv:R47.vlD d): (kv d).ok:=by
 have A:=R47.arcOk h
 obtain⟨arc,cw,a1,a2,b1,b2,st,un⟩:=d
 have hp:=R47.Qp.mono' (R47.atQ_qp (u:=un) h.a1 h.a2) (show 8<=64 by decide)
 have hq:=R47.Qp.mono' (R47.atQ_qp (u:=un) h.b1 h.b2) (show 8<=64 by decide)
 have h0:Qp 64 (((0:Int):Rat),((0:Int):Rat)):=by decide +kernel
 cases arc with
 | false=>exact⟨hp,hq,h0,λ_ e=>hv e.symm,nofun,nofun⟩
 | true=>exact⟨hq,A.hr,hp,nofun,λ_ e=>hv e.symm,λ_=>A⟩
def OnP{K:Nat}(G:Tw K)(k:Kv)(x:V2 K): Prop:=match k.arc with
 | false=>Xai G (Xaj (emb K k.t) (emb K k.q)) (Xaj x (emb K k.q))=zero K/\0<=sgn K G (Xao G (Xaj (emb K k.t) (emb K k.q)) (Xaj x (emb K k.q))) /\
  0<=sgn K G (add K (Xao G (Xaj (emb K k.t) (emb K k.q)) (Xaj (emb K k.t) (emb K k.q))) (neg K (Xao G (Xaj (emb K k.t) (emb K k.q)) (Xaj x (emb K k.q)))))
 | true=>Xao G (Xaj (emb K k.q) (emb K k.p)) (Xaj (emb K k.q) (emb K k.p))=Xao G (Xaj x (emb K k.p)) (Xaj x (emb K k.p))/\(k.q=k.t\/onV G k.cw (emb K (Xaj (K:=0) k.q k.p)) (emb K (Xaj (K:=0) k.t k.p)) (Xaj x (emb K k.p)))
def ax: Nat->Rat×Rat
 | 0=>(1,0)
 | 1=>(0,1)
 | 2=>(-1,0)
 | _=>(0,-1)
def mx(n:Nat)(f:F4): Nat->Rat
 | 0=>-(qb f.c n)
 | 1=>-(qb f.e n)
 | 2=>-(qb f.a n)
 | _=>-(qb f.b n)
theorem Ynw{i:Nat}: d0 (ax i) (ax i)=1:=by
 match i with
 | 0 | 1 | 2=>decide +kernel
 | i+3=>show (0:Rat)*0+(-1)*(-1)=1;decide +kernel
structure Bd (k:Kv) (e:Rat×Rat) (M:Rat):Prop where
 q:d0 e k.q<=M
 t:d0 e k.t<=M
 x:k.arc=true->(k.q=k.t\/onV (K:=0) () k.cw (Xaj (K:=0) k.q k.p) (Xaj (K:=0) k.t k.p) e)->d0 e k.p<=M/\d0 (Xaj (K:=0) k.q k.p) (Xaj (K:=0) k.q k.p)<=(M-d0 e k.p)*(M-d0 e k.p)
theorem Ykf{K:Nat}(G:Tw K)(q p:Rat×Rat): Xao G (Xaj (emb K q) (emb K p)) (Xaj (emb K q) (emb K p))=rat K (d0 (Xaj (K:=0) q p) (Xaj (K:=0) q p)):=(congr (congrArg (Xao G) Xdh) Xdh).trans (Xc4 G)
theorem Xwj{q p:Rat×Rat}(h:q≠p): (0:Rat)<d0 (Xaj (K:=0) q p) (Xaj (K:=0) q p):=by
 have h1:Xcr (d0 (Xaj (K:=0) q p) (Xaj (K:=0) q p))=1:=Xb1 (K:=0) (G:=()) trivial (Xef h)
 rcases Xay (d0 (Xaj (K:=0) q p) (Xaj (K:=0) q p)) with ⟨e,_⟩ | ⟨_,e⟩ | ⟨_,e⟩
 . exact e
 . omega
 . omega
theorem Bd.side{k:Kv}{e:Rat×Rat}{M:Rat}(hk:k.ok)(h:Bd k e M)(he:d0 e e=1){K:Nat}{G:Tw K}{x:V2 K}(hG:red K G)(ho:OnP G k x): 0<=sgn K G (add K (rat K M) (neg K (Xao G (emb K e) x))):=by
 obtain⟨arc,cw,q,t,p⟩:=k
 cases arc with
 | false =>
  obtain⟨h1,h2,h3⟩:=ho
  exact Xyp hG (hk.seg rfl) h.q h.t h1 h2 h3
 | true =>
  obtain⟨h1,h2⟩:=ho
  have A:=hk.arc rfl
  exact Xyq (s:=d0 (Xaj (K:=0) q p) (Xaj (K:=0) q p)) hG he rfl A.e.symm (Xwj (hk.ne rfl)) h.q h.t (h.x rfl) (h1.symm.trans (Ykf G q p)) h2
theorem Xyj{a m m':Rat}(h0:0<=m)(h:a<=m*m)(hm:m<=m'): a<=m'*m':=by
 have h1:=W2g hm h0
 have h2:=W2o hm (W3r h0 hm)
 exact W3r h (W3r h1 h2)
theorem Xoi{K:Nat}{G:Tw K}{S:List (Tow.El K)}{r p d:Nat}{x:Nm}{v:Tow.El K}{z:Int}(hR:Xbx K G)(hre:Xbx x.k x.t)(hx:NOk G S r p x v)(h:Xbo x.k x.t (scl x.k x.t x.a ((10^d:Int):Rat) ((0:Int):Rat)) z): 0<=sgn K G (add K v (neg K (rat K (qb z d)))):=by
 obtain⟨ρ,x1,x2⟩:=hx.ex
 have h1:=(Xr7 hre h).1
 have h2:=(Xzn hre (P11.ten_pos d) (c:=qb z d) (by
  unfold qb
  have h0:((10^d:Int):Rat)≠0:=by have:=P11.ten_pos d;grind
  rw[W3c,W5o,W7g,Rat.inv_mul_cancel _ h0,W7c]
  exact(show (z:Rat)=(z:Rat)-0 by grind))).2 h1
 unfold le at h2
 rw[<-Xe6 hR x1.h,Xd9,Xe7,Xim,x2] at h2
 exact h2
structure CdP (x:Nm):Prop where
 n:C0 19 [.d (dN x)] (·=.d (dN (ngN x)))
 H:P11.Pk x
 H':P11.Pk (ngN x)
def PdP(p:Vn): Prop:=CdP p.x/\CdP p.y
abbrev FlS(d:Nat)(x:Nm)(z:Int): Prop:=Xbo x.k x.t (scl x.k x.t x.a ((10^d:Int):Rat) ((0:Int):Rat)) z
structure PtV (d:Nat) (p:Vn) (f:F4):Prop where
 a:FlS d p.x f.a
 b:FlS d p.y f.b
 c:FlS d (ngN p.x) f.c
 e:FlS d (ngN p.y) f.e
theorem PdP.fs{d:Nat}(hd:d<=20): ∀ {P:List Vn},(∀p∈P,PdP p)->∃fs:List F4,fs.length=P.length/\(∀f∈fs,BdL f)/\∀(i:Nat) p f,P[i]?=some p->fs[i]?=some f->P55.PtF d p f/\PtV d p f
 | [],_=>⟨[],rfl,λf hf=>(by cases hf),λi p f h=>by simp at h⟩
 | p::P,h=>by
  obtain⟨fs,h1,h0,h2⟩:=PdP.fs hd (P:=P) λp hp=>h p (W0w _ hp)
  obtain⟨hx,hy⟩:=h p (W0n ..)
  obtain⟨a,ha⟩:=Yay hx.H (d:=d) (by omega)
  obtain⟨c,hc⟩:=Yay hx.H' (d:=d) (by omega)
  obtain⟨b,hb⟩:=Yay hy.H (d:=d) (by omega)
  obtain⟨e,he⟩:=Yay hy.H' (d:=d) (by omega)
  have za:=Xrl hx.H (by omega) ha
  have zc:=Xrl hx.H' (by omega) hc
  have zb:=Xrl hy.H (by omega) hb
  have ze:=Xrl hy.H' (by omega) he
  refine⟨⟨a,b,c,e⟩::fs,by simp[h1],λf hf=>(W1l.1 hf).elim (λe=>e ▸ ⟨za,zb,zc,ze⟩) (h0 f),λi q f h3 h4=>?_⟩
  cases i with
  | zero =>
   simp only[List.getElem?_cons_zero,Option.some.injEq] at h3 h4
   subst h3;subst h4
   exact⟨⟨⟨_,_,hx.n,hy.n,Ylv hx.H' (by omega) hc,Ylv hy.H' (by omega) he⟩,Ylv hx.H (by omega) ha,Ylv hy.H (by omega) hb,za.zb,zb.zb,zc.zb,ze.zb⟩,⟨ha,hb,hc,he⟩⟩
  | succ i =>
   simp only[List.getElem?_cons_succ] at h3 h4
   exact h2 i q f h3 h4
theorem CdP.rat{q:Rat}(h:Qs 64 q): CdP (nr q):=⟨P9.Neg_ok (g0 h).o (W1a _) (by decide) (by unfold gB;decide),P11.Pk_rat h (by decide),P11.Pk_rat (q:=-q) h.neg (by decide)⟩
theorem PdP.rat{p:Rat×Rat}(h:Qp 64 p): PdP (v0 p):=⟨CdP.rat h.1,CdP.rat h.2⟩
structure Wq {K:Nat} (G:Tw K) (S:List (Tow.El K)) (N:List Nm) (s:Rat) (r:Nm) (rv:Tow.El K):Prop where
 W:Wn G S N
 g:Gd G S N 1 r rv
 sq:mul K G rv rv=rat K s
 nn:sgn K G rv=1
 ex:∀(e:Bool) (q:Rat),Qs 64 q->∃z,(∀ {a b:Nat} {z':Nm},NOk G S a b z' (add K (rat K q) (sg rv e))->z'=z)/\CdP z/\Gd G S N 2 z (add K (rat K q) (sg rv e))
theorem wq0{s y:Rat}(hy:y*y=s)(h0:Xcr y=1)(h1:Qs 1000 y): Wq (K:=0) () [] [] s (nr y) y:=by
 refine⟨W0,Xxr W0 (h1.mono (by decide)),hy,h0,λe q hq=>?_⟩
 have h2:Qs 1100 (add 0 (rat 0 q) (sg (K:=0) y e):Rat):=by
  cases e with
  | true=>exact(show Qs (64+1000+1) (q+y) from hq.add h1).mono (by decide)
  | false=>exact(show Qs (64+1000+1) (q+-y) from hq.add h1.neg).mono (by decide)
 exact⟨_,λh=>zw h,⟨P9.Neg_ok (Xxr W0 h2).o (W1a _) (by decide) (by unfold gB;decide),P11.Pk_rat h2 (by decide),P11.Pk_rat (q:=-_) h2.neg (by decide)⟩,(Xxr W0 h2).mono (by decide)⟩
theorem wq1{s:Rat}(hk:0<s)(hn:¬Xce 0 () s)(hq:Qs 64 s): Wq (G1 s) [r1] [n1 s r1] s (n1 s r1) r1:=by
 refine⟨W1 hk hn hq,gr1 hk hn hq,Yd5,Ybx hk,λe q h=>?_⟩
 have key:∀ {b:Rat} {w:Tow.El 1},b≠0->Qs 64 b->add 1 (rat 1 q) w=((q,b):Rat×Rat)->Gd (G1 s) [r1] [n1 s r1] 1 (n1 s w) w->∃z,(∀ {a b:Nat} {z':Nm},NOk (G1 s) [r1] a b z' (add 1 (rat 1 q) w)->z'=z)/\CdP z/\Gd (G1 s) [r1] [n1 s r1] 2 z (add 1 (rat 1 q) w):=λ{b w} hb0 hb e hw=>by
  have n:=Ypp hk hn hq h hb
  refine⟨n1 s ((q,b):Rat×Rat),λh'=>(nm1 hk hn h' (by rw[e];exact hb0)).trans (by rw[e]),?_,Gd.add (W1 hk hn hq) (Gd.rat (W1 hk hn hq) h) hw (by rw[e];exact n)⟩
  exact⟨P9.Neg_ok n (show 1<=16 by decide) (by decide) (by decide),pk1 hk hn hq h hb,pk1 hk hn hq (a:=-q) (b:=-b) h.neg hb.neg⟩
 cases e with
 | true=>exact key (b:=1) (by decide +kernel) (by decide +kernel) (W1h (show q+0=q from W6e q) (show (0:Rat)+1=1 by decide +kernel)) (gr1 hk hn hq)
 | false=>exact key (b:=-1) (by decide +kernel) (by decide +kernel) (W1h (show q+-0=q by grind) (show (0:Rat)+-1=-1 by decide +kernel)) (gr1 hk hn hq).neg
section
variable{K:Nat}{G:Tw K}{S:List (Tow.El K)}{N:List Nm}{s:Rat}{r:Nm}{rv:Tow.El K}{p q t:Rat×Rat}{cw:Bool}{δ:V2 K}{d x u v:Vn}{n:Nat}
structure SmP (W:Wn G S N) (q:Rat) (y:Nm) (w:Tow.El K) (z:Nm):Prop where
 p:C0 115 [.d (dN (nr q)),.d (dN y)] (·=.tup (.pr (.d (dN z)) (.d (.int .i64 0))))
 g:Gd G S N 2 z (add K (rat K q) w)
 c:CdP z
theorem SmP.zero(W:Wn G S N){q:Rat}(h:Qs 64 q): SmP W q n00 (zero K) (nr q):=by
 have h0:Qs 64 ((0:Int):Rat):=by decide +kernel
 refine⟨(P9.Add_g W0 (g0 h) (g0 h0) (by decide) (by decide)).mono λv ⟨z,e,hz⟩=>?_,?_,CdP.rat h⟩
 . rw[e,zw hz.o];exact congrArg (λa:Rat=>AV.tup (.pr (.d (dN (nr a))) (.d (.int .i64 0)))) Yn2
 . have L:=Xax K G
   rw[L.az];exact(Gd.rat W h).mono (by decide)
theorem SmP.root(H:Wq G S N s r rv)(e:Bool){y:Nm}(hy:Gd G S N 1 y (sg rv e)){q:Rat}(h:Qs 64 q): ∃z,SmP H.W q y (sg rv e) z:=by
 obtain⟨z,h1,h2,h3⟩:=H.ex e q h
 have hq:=Gd.rat H.W h
 exact⟨z,(P9.Add_g H.W hq hy (by decide) (by decide)).mono λv ⟨w,e,hw⟩=>by rw[e,h1 hw.o],h3,h2⟩
def vax(rv:Tow.El K): Nat->V2 K
 | 0=>(rv,zero K)
 | 1=>(zero K,rv)
 | 2=>(neg K rv,zero K)
 | _=>(zero K,neg K rv)
theorem Yhd(G:Tw K){i:Nat}: vax rv i=vsc G rv (emb K (ax i)):=by
 have L:=Xax K G
 have h1:(rat K (-1):Tow.El K)=neg K (rat K 1):=by rw[<-Xa4]
 have h2:mul K G rv (neg K (rat K 1))=neg K rv:=by
  have:∀a b:Tow.El K,mul K G a b=a->mul K G a (neg K b)=neg K a:=λa b h=>by
   have e:mul K G a (neg K b)=neg K (mul K G a b):=(Laws.req L [a,b] (.mul (.v 0) (.neg (.v 1))) (.neg (.mul (.v 0) (.v 1))) (by decide +kernel))
   rw[e,h]
  exact this _ _ (L.mo _)
 match i with
 | 0=>exact W1h (L.mo _).symm (by show zero K=mul K G rv (rat K 0);rw[Xa6,L.mz])
 | 1=>exact W1h (by show zero K=mul K G rv (rat K 0);rw[Xa6,L.mz]) (L.mo _).symm
 | 2=>exact W1h (by show neg K rv=mul K G rv (rat K (-1));rw[h1,h2]) (by show zero K=mul K G rv (rat K 0);rw[Xa6,L.mz])
 | i+3=>exact W1h (by show zero K=mul K G rv (rat K 0);rw[Xa6,L.mz]) (by show neg K rv=mul K G rv (rat K (-1));rw[h1,h2])
theorem Xuv(G:Tw K){a b:V2 K}{c:Tow.El K}: Xap G a (vsc G c b)=vsc G c (Xap G a b):=by
 obtain⟨a,d⟩:=a
 obtain⟨e,f⟩:=b
 have L:=Xax K G
 exact W1h (Laws.req L [a,d,e,f,c] (.add (.mul (.v 0) (.mul (.v 4) (.v 2))) (.neg (.mul (.v 1) (.mul (.v 4) (.v 3))))) (.mul (.v 4) (.add (.mul (.v 0) (.v 2)) (.neg (.mul (.v 1) (.v 3))))) (by decide +kernel)) (Laws.req L [a,d,e,f,c] (.add (.mul (.v 0) (.mul (.v 4) (.v 3))) (.mul (.v 1) (.mul (.v 4) (.v 2)))) (.mul (.v 4) (.add (.mul (.v 0) (.v 3)) (.mul (.v 1) (.v 2)))) (by decide +kernel))
theorem Ymu(hG:red K G){c:Tow.El K}(hc:sgn K G c=1){a b y:V2 K}: onV G cw a b (vsc G c y)↔onV G cw a b y:=by
 cases cw with
 | true =>
  show Xb9 G _ _<=0↔Xb9 G _ _<=0
  rw[Xuv,Xdm hG,Xj3 hG hc,<-Xdm hG]
 | false =>
  show Xb9 G _ _<=0↔Xb9 G _ _<=0
  rw[Xuv,Xdm hG,Xj3 hG hc,<-Xdm hG]
theorem Xzg(H:Wq G S N s r rv){i:Nat}: onV G cw (emb K (Xaj (K:=0) q p)) (emb K (Xaj (K:=0) t p)) (vax rv i)↔onV (K:=0) () cw (Xaj (K:=0) q p) (Xaj (K:=0) t p) (ax i):=by
 rw[Yhd G]
 exact(Ymu H.W.w.g H.nn).trans (Ycs (Xae H.W.w.g))
theorem Yat(H:Wq G S N s r rv)(A:R47.ArcOk p q t)(hs:s=d0 (Xaj (K:=0) q p) (Xaj (K:=0) q p))(hne:q≠p)(hrad:C0 50 [.d (dC ⟨true,v0 q,v0 t,v0 p,cw⟩)] (·=.tup (.pr (.d (dN r)) (.d (.int .i64 0))))):
 ∃P,C0 18 [.d (dC ⟨true,v0 q,v0 t,v0 p,cw⟩)] (·=.tup (.pr (.d (dVs P)) (.d (.int .i64 0))))/\P.length<=100/\(∀x∈P,PdP x)/\v0 q∈P/\v0 t∈P/\∀i,i<4->(q=t\/onV (K:=0) () cw (Xaj (K:=0) q p) (Xaj (K:=0) t p) (ax i))->∃x∈P,Gv G S N 2 x (Xed (emb K p) (vax rv i)):=by
 have W:=H.W
 have hm:Gd G S N 1 (ngN r) (sg rv false):=H.g.neg
 have hrk:=H.g.le W
 have hnp:=P9.Neg_ok H.g.o (by omega) (by decide) (by unfold gB;omega)
 obtain⟨z1,k1⟩:=SmP.root H true H.g A.hp.1
 obtain⟨z2,k2⟩:=SmP.root H true H.g A.hp.2
 obtain⟨z3,k3⟩:=SmP.root H false hm A.hp.1
 obtain⟨z4,k4⟩:=SmP.root H false hm A.hp.2
 have o1:=SmP.zero W A.hp.1
 have o2:=SmP.zero W A.hp.2
 have p1:=(Xy6 (cw:=cw) (δ:=(sg rv true,zero K)) (x:=⟨z1,nr p.2⟩) W A hs hne (Ycz true H.sq) ⟨k1.g,o2.g⟩).1
 have p2:=(Xy6 (cw:=cw) (δ:=(zero K,sg rv true)) (x:=⟨nr p.1,z2⟩) W A hs hne (Ycy true H.sq) ⟨o1.g,k2.g⟩).1
 have p3:=(Xy6 (cw:=cw) (δ:=(sg rv false,zero K)) (x:=⟨z3,nr p.2⟩) W A hs hne (Ycz false H.sq) ⟨k3.g,o2.g⟩).1
 have p4:=(Xy6 (cw:=cw) (δ:=(zero K,sg rv false)) (x:=⟨nr p.1,z4⟩) W A hs hne (Ycy false H.sq) ⟨o1.g,k4.g⟩).1
 have q1:=Xzg (cw:=cw) (p:=p) (q:=q) (t:=t) H (i:=0)
 have q2:=Xzg (cw:=cw) (p:=p) (q:=q) (t:=t) H (i:=1)
 have q3:=Xzg (cw:=cw) (p:=p) (q:=q) (t:=t) H (i:=2)
 have q4:=Xzg (cw:=cw) (p:=p) (q:=q) (t:=t) H (i:=3)
 obtain⟨b1,hb1⟩:∃b,b=dc (q=t\/onV G cw (emb K (Xaj (K:=0) q p)) (emb K (Xaj (K:=0) t p)) (sg rv true,zero K)):=⟨_,rfl⟩
 obtain⟨b2,hb2⟩:∃b,b=dc (q=t\/onV G cw (emb K (Xaj (K:=0) q p)) (emb K (Xaj (K:=0) t p)) (zero K,sg rv true)):=⟨_,rfl⟩
 obtain⟨b3,hb3⟩:∃b,b=dc (q=t\/onV G cw (emb K (Xaj (K:=0) q p)) (emb K (Xaj (K:=0) t p)) (sg rv false,zero K)):=⟨_,rfl⟩
 obtain⟨b4,hb4⟩:∃b,b=dc (q=t\/onV G cw (emb K (Xaj (K:=0) q p)) (emb K (Xaj (K:=0) t p)) (zero K,sg rv false)):=⟨_,rfl⟩
 rw[<-hb1] at p1
 rw[<-hb2] at p2
 rw[<-hb3] at p3
 rw[<-hb4] at p4
 refine⟨_,P55.extremes_arc (c:=⟨true,v0 q,v0 t,v0 p,cw⟩) (X:=[⟨z1,nr p.2⟩,⟨nr p.1,z2⟩,⟨z3,nr p.2⟩,⟨nr p.1,z4⟩]) (B:=[b1,b2,b3,b4]) rfl hrad hnp rfl rfl (λi d x b h1 h2 h3=>?_),?_,?_,?_,?_,?_⟩
 . match i,h1,h2,h3 with
   | 0,h1,h2,h3=>cases h1;cases h2;cases h3;exact⟨Ya4 k1.p o2.p,p1⟩
   | 1,h1,h2,h3=>cases h1;cases h2;cases h3;exact⟨Ya4 o1.p k2.p,p2⟩
   | 2,h1,h2,h3=>cases h1;cases h2;cases h3;exact⟨Ya4 k3.p o2.p,p3⟩
   | 3,h1,h2,h3=>cases h1;cases h2;cases h3;exact⟨Ya4 o1.p k4.p,p4⟩
   | i+4,h1,_,_=>cases h1
 . rw[W0d]
   refine W0h (Nat.add_le_add_left Xfg _) ?_
   show 2+4<=100
   decide
 . have hsel:∀ {X:List Vn} {B:List Bool} {x:Vn},x∈sel X B->x∈X:=λ{X}=>by
    induction X with
    | nil=>intro B x h;cases B<;>cases h
    | cons y X ih =>
     intro B x h
     cases B with
     | nil=>cases h
     | cons b B =>
      simp only[sel] at h
      split at h
      . rcases W1l.1 h with rfl | h
        . exact W0n ..
        . exact W0w _ (ih h)
      . exact W0w _ (ih h)
   intro x hx
   rcases W2k.1 hx with hx | hx
   . simp only[W1l,W5t,or_false] at hx
     rcases hx with rfl | rfl
     . exact PdP.rat A.hq
     . exact PdP.rat A.hr
   . have hx:=hsel hx
     simp only[W1l,W5t,or_false] at hx
     rcases hx with rfl | rfl | rfl | rfl
     . exact⟨k1.c,o2.c⟩
     . exact⟨o1.c,k2.c⟩
     . exact⟨k3.c,o2.c⟩
     . exact⟨o1.c,k4.c⟩
 . exact W2a _ (W0n ..)
 . exact W2a _ (W0w _ (W0n ..))
 . intro i hi ho
   match i,hi with
   | 0,_ =>
    obtain rfl:b1=true:=hb1.trans (Xaw.2 (ho.imp id q1.2))
    exact⟨⟨z1,nr p.2⟩,W1g _ (by simp[sel]),k1.g,o2.g⟩
   | 1,_ =>
    obtain rfl:b2=true:=hb2.trans (Xaw.2 (ho.imp id q2.2))
    exact⟨⟨nr p.1,z2⟩,W1g _ (by cases b1<;>simp[sel]),o1.g,k2.g⟩
   | 2,_ =>
    obtain rfl:b3=true:=hb3.trans (Xaw.2 (ho.imp id q3.2))
    exact⟨⟨z3,nr p.2⟩,W1g _ (by cases b1<;>cases b2<;>simp[sel]),k3.g,o2.g⟩
   | 3,_ =>
    obtain rfl:b4=true:=hb4.trans (Xaw.2 (ho.imp id q4.2))
    exact⟨⟨nr p.1,z4⟩,W1g _ (by cases b1<;>cases b2<;>cases b3<;>simp[sel]),o1.g,k4.g⟩
theorem Yh6(hG:red K G)(sq:mul K G rv rv=rat K s)(nn:sgn K G rv=1){m:Rat}(h:0<=sgn K G (add K (rat K m) (neg K rv))): 0<=m/\s<=m*m:=by
 have hR:=Xae hG
 have Sg:=Xak hR
 have L:=Xax K G
 have e1:∀a b:Tow.El K,add K (add K a (neg K b)) b=a:=λa b=>(Laws.req L [a,b] (.add (.add (.v 0) (.neg (.v 1))) (.v 1)) (.v 0) (by decide +kernel))
 have e3:∀a b:Tow.El K,mul K G (add K a (neg K b)) (add K a b)=add K (mul K G a a) (neg K (mul K G b b)):=λa b=>(Laws.req L [a,b] (.mul (.add (.v 0) (.neg (.v 1))) (.add (.v 0) (.v 1))) (.add (.mul (.v 0) (.v 0)) (.neg (.mul (.v 1) (.v 1)))) (by decide +kernel))
 have h1:=Sg.sa _ _ h (show 0<=sgn K G rv by omega)
 rw[e1,Xbs hR] at h1
 have h2:=Sg.sa (rat K m) rv (by rw[Xbs hR];exact h1) (show 0<=sgn K G rv by omega)
 have h3:=congrArg (sgn K G) (e3 (rat K m) rv)
 rw[Sg.sm,sq,<-Xbd K G,<-Xa4,<-Xbe,Xbs hR] at h3
 have h4:=W4t h h2
 rw[h3] at h4
 have h5:=Ymn.1 h4
 exact⟨Ymn.1 h1,by grind⟩
end
end
section
open Go.Proofs.YtchflpokfamkhaaGreatDoor.P55 (v0 W0 g0 gv0 zw Xec Qp nr Xbc lst f40 ofO nxF O4.nx Xh6 o40 lC cAt qb nx mn)
theorem Yfq{d:Dft}(h:d.ok)(hv:R47.vlD d): ∃P,C0 18 [.d (dC (R47.cvD d))] (·=.tup (.pr (.d (dVs P)) (.d (.int .i64 0))))/\P.length<=100/\(∀x∈P,PdP x)/\v0 (kv d).q∈P/\v0 (kv d).t∈P /\
 ((kv d).arc=true->∃(K:Nat) (G:Tw K) (S:List (Tow.El K)) (N:List Nm) (r:Nm) (rv:Tow.El K),Wq G S N (d0 (Xaj (K:=0) (kv d).q (kv d).p) (Xaj (K:=0) (kv d).q (kv d).p)) r rv/\∀i,i<4->((kv d).q=(kv d).t\/onV (K:=0) () (kv d).cw (Xaj (K:=0) (kv d).q (kv d).p) (Xaj (K:=0) (kv d).t (kv d).p) (ax i))->∃x∈P,Gv G S N 2 x (Xed (emb K (kv d).p) (vax rv i))):=by
 have A:=R47.arcOk h
 obtain⟨arc,cw,a1,a2,b1,b2,st,un⟩:=d
 have hp:=R47.Qp.mono' (R47.atQ_qp (u:=un) h.a1 h.a2) (show 8<=64 by decide)
 have hq:=R47.Qp.mono' (R47.atQ_qp (u:=un) h.b1 h.b2) (show 8<=64 by decide)
 cases arc with
 | false =>
  refine⟨_,P55.extremes_seg rfl,show 2<=100 by decide,λx hx=>?_,W0n ..,W0w _ (W0n ..),nofun⟩
  have hx:x∈[v0 (R47.atQ a1 a2 un),v0 (R47.atQ b1 b2 un)]:=hx
  simp only[W1l,W5t,or_false] at hx
  rcases hx with rfl | rfl
  . exact PdP.rat hp
  . exact PdP.rat hq
 | true =>
  have hv:R47.atQ a1 a2 un≠R47.atQ b1 b2 un:=hv
  obtain⟨s,hs⟩:∃s:Rat,s=d0 (Xaj (K:=0) (R47.atQ b1 b2 un) (R47.atQ a1 a2 un)) (Xaj (K:=0) (R47.atQ b1 b2 un) (R47.atQ a1 a2 un)):=⟨_,rfl⟩
  have hsq:Qs 64 s:=by rw[hs];exact A.s
  have hs0:0<s:=by rw[hs];exact Xwj hv.symm
  have hR:∀c:Cv,c.C=v0 (R47.atQ a1 a2 un)->c.A=v0 (R47.atQ b1 b2 un)->C0 50 [.d (dC c)] (R9.RtR (nr s)):=λc h1 h2=>by
   have hd:P55.d2 (R47.atQ b1 b2 un) (R47.atQ a1 a2 un)=s:=hs.symm
   rw[<-hd]
   exact P55.radius_r h1 h2 hp hq hv (by rw[hd];exact hsq.mono (by decide)) (by rw[hd];exact W2i hs0)
  have fin:∀ {K:Nat} {G:Tw K} {S:List (Tow.El K)} {N:List Nm} {r:Nm} {rv:Tow.El K} {q t p:Rat×Rat},Wq G S N s r rv->R47.ArcOk p q t->s=d0 (Xaj (K:=0) q p) (Xaj (K:=0) q p)->q≠p->C0 50 [.d (dC ⟨true,v0 q,v0 t,v0 p,cw⟩)] (·=.tup (.pr (.d (dN r)) (.d (.int .i64 0))))->∃P,C0 18 [.d (dC ⟨true,v0 q,v0 t,v0 p,cw⟩)] (·=.tup (.pr (.d (dVs P)) (.d (.int .i64 0))))/\P.length<=100/\(∀x∈P,PdP x)/\v0 q∈P/\v0 t∈P /\
   (true=true->∃(K:Nat) (G:Tw K) (S:List (Tow.El K)) (N:List Nm) (r:Nm) (rv:Tow.El K),Wq G S N (d0 (Xaj (K:=0) q p) (Xaj (K:=0) q p)) r rv/\∀i,i<4->(q=t\/onV (K:=0) () cw (Xaj (K:=0) q p) (Xaj (K:=0) t p) (ax i))->∃x∈P,Gv G S N 2 x (Xed (emb K p) (vax rv i))):=λ{K G S N r rv q t p} H A hs hne hrad=>by
   obtain⟨P,h1,h2,h3,h4,h5,h6⟩:=Yat (cw:=cw) H A hs hne hrad
   exact⟨P,h1,h2,h3,h4,h5,λ_=>⟨K,G,S,N,r,rv,by rw[<-hs];exact H,h6⟩⟩
  by_cases hi:Xce 0 () s
  . obtain⟨w,hw⟩:∃w:Rat,w*w=s:=hi
    obtain⟨y,hy,hy0⟩:∃y:Rat,y*y=s/\0<=Xcr y:=by
     by_cases h0:0<=Xcr w
     . exact⟨w,hw,h0⟩
     . refine⟨-w,by rw[<-hw];grind,?_⟩
       rcases Xay w with ⟨_,e⟩ | ⟨_,e⟩ | ⟨e,_⟩
       . omega
       . omega
       . exact Ymn.2 (by grind)
    have hy1:Xcr y=1:=by
     rcases Xay y with ⟨_,e⟩ | ⟨e,_⟩ | ⟨_,e⟩
     . exact e
     . rw[e] at hy;grind
     . omega
    have hyq:Qs 1000 y:=by
     have h1:Sz 1000 (toL 0 (y:Tow.El 0)):=((Sz.rat 0 hsq).rootS (k:=0) (r:=1) (t:=()) (s:=(y:Tow.El 0)) trivial trivial hy).mono (by decide)
     exact h1.qs (W0e.2 rfl)
    exact fin (wq0 hy hy1 hyq) A hs hv.symm (Xyw (hR _ rfl rfl) hy hy0)
  . exact fin (wq1 hs0 hi hsq) A hs hv.symm (Yid (hR _ rfl rfl) hi)
structure Cvr (k:Kv) (n:Nat) (fs:List F4):Prop where
 q:∃f∈fs,∀i,i<4->d0 (ax i) k.q<=mx n f i
 t:∃f∈fs,∀i,i<4->d0 (ax i) k.t<=mx n f i
 x:k.arc=true->∀i,i<4->(k.q=k.t\/onV (K:=0) () k.cw (Xaj (K:=0) k.q k.p) (Xaj (K:=0) k.t k.p) (ax i))->∃f∈fs,d0 (ax i) k.p<=mx n f i/\d0 (Xaj (K:=0) k.q k.p) (Xaj (K:=0) k.q k.p)<=(mx n f i-d0 (ax i) k.p)*(mx n f i-d0 (ax i) k.p)
theorem fl0{n:Nat}{q:Rat}{z:Int}(hq:Qs 64 q)(h:FlS n (nr q) z): qb z n<=q:=by
 have h1:=Xoi (K:=0) (G:=()) (x:=nr q) trivial trivial (g0 hq).o h
 have h1:0<=Xcr (q+-(qb z n)):=h1
 have h2:=Ymn.1 h1
 grind
theorem Yb0{n:Nat}{q:Rat×Rat}{f:F4}(hq:Qp 64 q)(h:PtV n (v0 q) f): ∀i,i<4->d0 (ax i) q<=mx n f i:=by
 have ha:=fl0 hq.1 h.a
 have hb:=fl0 hq.2 h.b
 have hc:qb f.c n<=-q.1:=fl0 hq.1.neg h.c
 have he:qb f.e n<=-q.2:=fl0 hq.2.neg h.e
 intro i hi
 match i,hi with
 | 0,_=>show (1:Rat)*q.1+0*q.2<=-(qb f.c n);grind
 | 1,_=>show (0:Rat)*q.1+1*q.2<=-(qb f.e n);grind
 | 2,_=>show (-1:Rat)*q.1+0*q.2<=-(qb f.a n);grind
 | 3,_=>show (0:Rat)*q.1+-1*q.2<=-(qb f.b n);grind
theorem Yea{K:Nat}{G:Tw K}{S:List (Tow.El K)}{N:List Nm}{s:Rat}{r:Nm}{rv:Tow.El K}(H:Wq G S N s r rv){n i:Nat}(hi:i<4){x:Vn}{p:Rat×Rat}{f:F4}(hx:Gv G S N 2 x (Xed (emb K p) (vax rv i)))(hP:PdP x)(h:PtV n x f): d0 (ax i) p<=mx n f i/\s<=(mx n f i-d0 (ax i) p)*(mx n f i-d0 (ax i) p):=by
 have hG:=H.W.w.g
 have hR:=Xae hG
 have L:=Xax K G
 have low:∀ {y:Nm} {q:Rat} {z:Int},P11.Pk y->Gd G S N 2 y (add K (rat K q) (neg K rv))->FlS n y z->0<=q+-(qb z n)/\s<=(q+-(qb z n))*(q+-(qb z n)):=λ{y q z} hy g hf=>by
  have h1:=Xoi hR hy.re g.o hf
  have e:∀a b c:Tow.El K,add K (add K a (neg K b)) (neg K c)=add K (add K a (neg K c)) (neg K b):=λa b c=>(Laws.req L [a,b,c] (.add (.add (.v 0) (.neg (.v 1))) (.neg (.v 2))) (.add (.add (.v 0) (.neg (.v 2))) (.neg (.v 1))) (by decide +kernel))
  rw[e,<-Xa4,<-Xbe] at h1
  exact Yh6 hG H.sq H.nn h1
 have up:∀ {y:Nm} {q:Rat} {z:Int},P11.Pk (ngN y)->Gd G S N 2 y (add K (rat K q) rv)->FlS n (ngN y) z->0<=-q+-(qb z n)/\s<=(-q+-(qb z n))*(-q+-(qb z n)):=λ{y q z} hy g hf=>by
  have h1:=Xoi hR hy.re g.neg.o hf
  have e:∀a b c:Tow.El K,add K (neg K (add K a b)) (neg K c)=add K (add K (neg K a) (neg K c)) (neg K b):=λa b c=>(Laws.req L [a,b,c] (.add (.neg (.add (.v 0) (.v 1))) (.neg (.v 2))) (.add (.add (.neg (.v 0)) (.neg (.v 2))) (.neg (.v 1))) (by decide +kernel))
  rw[e,<-Xa4,<-Xa4,<-Xbe] at h1
  exact Yh6 hG H.sq H.nn h1
 rcases(show i=0\/i=1\/i=2\/i=3 by omega) with rfl | rfl | rfl | rfl
 . obtain⟨m0,m1⟩:=up hP.1.H' hx.x h.c
   have e:mx n f 0-d0 (ax 0) p=-p.1+-(qb f.c n):=by show -(qb f.c n)-((1:Rat)*p.1+0*p.2)=_;grind
   rw[e]
   exact⟨by grind,m1⟩
 . obtain⟨m0,m1⟩:=up hP.2.H' hx.y h.e
   have e:mx n f 1-d0 (ax 1) p=-p.2+-(qb f.e n):=by show -(qb f.e n)-((0:Rat)*p.1+1*p.2)=_;grind
   rw[e]
   exact⟨by grind,m1⟩
 . obtain⟨m0,m1⟩:=low hP.1.H hx.x h.a
   have e:mx n f 2-d0 (ax 2) p=p.1+-(qb f.a n):=by show -(qb f.a n)-((-1:Rat)*p.1+0*p.2)=_;grind
   rw[e]
   exact⟨by grind,m1⟩
 . obtain⟨m0,m1⟩:=low hP.2.H hx.y h.b
   have e:mx n f 3-d0 (ax 3) p=p.2+-(qb f.b n):=by show -(qb f.b n)-((0:Rat)*p.1+-1*p.2)=_;grind
   rw[e]
   exact⟨by grind,m1⟩
theorem Xky{α β:Type}{P:List α}{fs:List β}(h:fs.length=P.length){x:α}(hx:x∈P): ∃(i:Nat) (f:β),P[i]?=some x/\fs[i]?=some f/\f∈fs:=by
 obtain⟨i,hi⟩:=W3y hx
 have h1:=(W2l.1 hi).1
 exact⟨i,fs[i]'(by omega),hi,W0c (by omega),W5p _⟩
theorem Yko{n:Nat}(hn:n<=20){d:Dft}(h:d.ok)(hv:R47.vlD d): ∃fs:List F4,fs≠[]/\(∀f∈fs,BdL f)/\P55.CuF n (R47.cvD d) fs/\Cvr (kv d) n fs:=by
 have hk:=Xzp h hv
 obtain⟨P,p1,p2,p3,p4,p5,p6⟩:=Yfq h hv
 obtain⟨fs,q1,q0,q2⟩:=PdP.fs hn p3
 refine⟨fs,λe=>?_,q0,⟨P,p1,q1.symm,p2,λi p f a b=>(q2 i p f a b).1⟩,?_,?_,λha i hi ho=>?_⟩
 . obtain⟨_,f,_,_,hf⟩:=Xky q1 p4
   rw[e] at hf;cases hf
 . obtain⟨i,f,h1,h2,hf⟩:=Xky q1 p4
   exact⟨f,hf,Yb0 hk.hq (q2 i _ f h1 h2).2⟩
 . obtain⟨i,f,h1,h2,hf⟩:=Xky q1 p5
   exact⟨f,hf,Yb0 hk.ht (q2 i _ f h1 h2).2⟩
 . obtain⟨K,G,S,N,r,rv,H,hH⟩:=p6 ha
   obtain⟨x,hx,hg⟩:=hH i hi ho
   obtain⟨j,f,h1,h2,hf⟩:=Xky q1 hx
   exact⟨f,hf,Yea H hi hg (p3 x hx) (q2 j x f h1 h2).2⟩
theorem Yc0{n:Nat}(hn:n<=20): ∀ {l:List Dft},(∀d∈l,d.ok/\R47.vlD d)->∃Fs:List (List F4),Fs.length=l.length/\(l≠[]->Fs.flatten≠[])/\(∀f∈Fs.flatten,BdL f)/\(∀(i:Nat) c fs,(l.map R47.cvD)[i]?=some c->Fs[i]?=some fs->P55.CuF n c fs)/\∀d∈l,Cvr (kv d) n Fs.flatten
 | [],_=>⟨[],rfl,λh=>absurd rfl h,λf hf=>(by cases hf),λi c fs h=>by simp at h,λd h=>nomatch h⟩
 | d::l,h=>by
  obtain⟨Fs,h1,_,h4,h3,h5⟩:=Yc0 hn (l:=l) λx hx=>h x (W0w _ hx)
  obtain⟨hd,hv⟩:=h d (W0n ..)
  obtain⟨fs,q1,q0,q2,q3⟩:=Yko hn hd hv
  have up:∀ {k:Kv} {l m:List F4},Cvr k n l->(∀x∈l,x∈m)->Cvr k n m:=λc hm=>⟨let ⟨f,a,b⟩:=c.q;⟨f,hm f a,b⟩,let ⟨f,a,b⟩:=c.t;⟨f,hm f a,b⟩,λha i hi ho=>let ⟨f,a,b⟩:=c.x ha i hi ho;⟨f,hm f a,b⟩⟩
  refine⟨fs::Fs,by simp[h1],λ_ e=>?_,λf hf=>?_,λi c gs g1 g2=>?_,λx hx=>?_⟩
  . rw[W7a] at e
    exact q1 (W7e.1 e).1
  . rw[W7a] at hf
    exact(W2k.1 hf).elim (q0 f) (h4 f)
  . cases i with
    | zero =>
     simp only[W3l,List.getElem?_cons_zero,Option.some.injEq] at g1 g2
     subst g1;subst g2
     exact q2
    | succ i =>
     simp only[W3l,List.getElem?_cons_succ] at g1 g2
     exact h3 i c gs g1 g2
  . rw[W7a]
    rcases W1l.1 hx with rfl | hx
    . exact up q3 λy hy=>W2a _ hy
    . exact up (h5 x hx) λy hy=>W1g _ hy
theorem Xuo: ∀ {l:List Int} {o:Option Int} {m:Int},l.foldl nx o=some m->(∀v,o=some v->m<=v)/\∀x∈l,m<=x
 | [],o,m,h=>⟨λv e=>by rw[e] at h;injection h with h;omega,λx hx=>nomatch hx⟩
 | y::l,o,m,h=>by
  obtain⟨h1,h2⟩:=Xuo (l:=l) (o:=nx o y) h
  have k:∃w,nx o y=some w/\w<=y/\∀v,o=some v->w<=v:=by
   cases o with
   | none=>exact⟨y,rfl,W7d _,λv e=>nomatch e⟩
   | some g =>
    refine⟨mn g y,rfl,?_,λv e=>?_⟩
    . unfold mn;split<;>omega
    . injection e with e;subst e;unfold mn;split<;>omega
  obtain⟨w,k1,k2,k3⟩:=k
  have h3:=h1 w k1
  exact⟨λv e=>Int.le_trans h3 (k3 v e),λx hx=>(W1l.1 hx).elim (λe=>by rw[e];exact Int.le_trans h3 k2) (h2 x)⟩
theorem Yjd{l:List F4}{o:F4}(h:lst l=f40 o): ∀f∈l,o.a<=f.a/\o.b<=f.b/\o.c<=f.c/\o.e<=f.e:=by
 have ka:∀(l:List F4) (p:P55.O4),(l.foldl P55.O4.nx p).a=(l.map (·.a)).foldl nx p.a:=λl=>by
  induction l with
  | nil=>exact λp=>rfl
  | cons f l ih=>exact λp=>ih _
 have kb:∀(l:List F4) (p:P55.O4),(l.foldl P55.O4.nx p).b=(l.map (·.b)).foldl nx p.b:=λl=>by
  induction l with
  | nil=>exact λp=>rfl
  | cons f l ih=>exact λp=>ih _
 have kc:∀(l:List F4) (p:P55.O4),(l.foldl P55.O4.nx p).c=(l.map (·.c)).foldl nx p.c:=λl=>by
  induction l with
  | nil=>exact λp=>rfl
  | cons f l ih=>exact λp=>ih _
 have ke:∀(l:List F4) (p:P55.O4),(l.foldl P55.O4.nx p).e=(l.map (·.e)).foldl nx p.e:=λl=>by
  induction l with
  | nil=>exact λp=>rfl
  | cons f l ih=>exact λp=>ih _
 have ha:=(ka l o40).symm.trans (congrArg P55.O4.a h)
 have hb:=(kb l o40).symm.trans (congrArg P55.O4.b h)
 have hc:=(kc l o40).symm.trans (congrArg P55.O4.c h)
 have he:=(ke l o40).symm.trans (congrArg P55.O4.e h)
 exact λf hf=>⟨(Xuo ha).2 _ (W3o.2 ⟨f,hf,rfl⟩),(Xuo hb).2 _ (W3o.2 ⟨f,hf,rfl⟩),(Xuo hc).2 _ (W3o.2 ⟨f,hf,rfl⟩),(Xuo he).2 _ (W3o.2 ⟨f,hf,rfl⟩)⟩
theorem Xzj{n:Nat}{o f:F4}(h:o.a<=f.a/\o.b<=f.b/\o.c<=f.c/\o.e<=f.e){i:Nat}: mx n f i<=mx n o i:=by
 have k:∀ {x y:Int},x<=y->-(qb y n)<=-(qb x n):=λ{x y} h=>by
  have h1:¬qb y n<qb x n:=λe=>by have:=Ypn.1 e;omega
  have h2:=Rat.not_lt.1 h1
  grind
 match i with
 | 0=>exact k h.2.2.1
 | 1=>exact k h.2.2.2
 | 2=>exact k h.1
 | i+3=>exact k h.2.1
theorem Ykx{l:List Dft}{n:Nat}(hn:n<=20)(h0:0<l.length)(hl:l.length<=1000)(h:∀d∈l,d.ok/\R47.vlD d): ∃o:F4,BdL o/\C0 6 [.d (Xe8 (l.map R47.cvD)),.d (.int .i64 n)] (·=.tup (.pr (.d (Yao o n)) (.d (.int .i64 0))))/\∀d∈l,∀i,i<4->Bd (kv d) (ax i) (mx n o i):=by
 obtain⟨Fs,f1,f2,fb,f3,f4⟩:=Yc0 hn h
 obtain⟨o,ho,hz⟩:=Yje (f2 (λe=>by rw[e] at h0;cases h0)) fb
 have hm:(l.map R47.cvD).length=l.length:=W0l ..
 have hv1:∀c∈l.map R47.cvD,C0 49 [.d (dC c)] (·=.b true):=λc hc=>by
  obtain⟨x,hx,rfl⟩:=W3o.1 hc
  exact Ydf (h x hx).1 (h x hx).2
 refine⟨o,hz,?_,λd hd i hi=>?_⟩
 . rw[Yf0]
   exact P55.Bounds_ok hn (by omega) (by omega) hv1 (by omega) f3 ho
 . have le:=Yjd ho
   have C:=f4 d hd
   refine⟨?_,?_,λha hon=>?_⟩
   . obtain⟨f,hf,hi'⟩:=C.q
     exact W3r (hi' i hi) (Xzj (le f hf))
   . obtain⟨f,hf,hi'⟩:=C.t
     exact W3r (hi' i hi) (Xzj (le f hf))
   . obtain⟨f,hf,m0,m1⟩:=C.x ha i hi hon
     exact⟨W3r m0 (Xzj (le f hf)),Xyj (by grind) m1 (by have:=Xzj (n:=n) (le f hf) (i:=i);grind)⟩
end
section
open Go.Proofs.YtchflpokfamkhaaGreatDoor.P55 (v0 W0 g0 gv0 zw Xec Qp nr)
abbrev sb(p q:Rat×Rat): Rat×Rat:=(p.1+-q.1,p.2+-q.2)
abbrev ad(p q:Rat×Rat): Rat×Rat:=(p.1+q.1,p.2+q.2)
abbrev sc(p:Rat×Rat)(c:Rat): Rat×Rat:=(p.1*c,p.2*c)
abbrev lf(p:Rat×Rat): Rat×Rat:=(-p.2,p.1)
section
variable{p q:Rat×Rat}{x y:Rat}{s t:Nat}
theorem Xiz(hp:Qp s p)(hq:Qp t q): Qp (s+t+1) (sb p q):=⟨hp.1.add hq.1.neg,hp.2.add hq.2.neg⟩
theorem Yc5(hp:Qp s p)(hq:Qp t q): Qp (s+t+1) (ad p q):=⟨hp.1.add hq.1,hp.2.add hq.2⟩
theorem Xxy(hp:Qp s p)(hx:Qs t x): Qp (s+t) (sc p x):=⟨hp.1.mul hx,hp.2.mul hx⟩
theorem Yow(hp:Qp s p): Qp s (lf p):=⟨hp.2.neg,hp.1⟩
theorem Yad(hp:Qp s p)(hq:Qp t q): Qs (s+t+(s+t)+1) (d0 p q):=(hp.1.mul hq.1).add (hp.2.mul hq.2)
theorem Ylo(hp:Qp s p)(hq:Qp t q): Qs (s+t+(s+t)+1) (x0 p q):=(hp.2.neg.mul hq.1).add (hp.1.mul hq.2)
theorem Xmv(h:p≠(0,0)): 0<d0 p p:=by
 have h1:Xcr (d0 p p)=1:=Xb1 (K:=0) (G:=()) trivial h
 rcases Xay (d0 p p) with ⟨e,_⟩ | ⟨_,e⟩ | ⟨_,e⟩
 . exact e
 . omega
 . omega
theorem Xfa(hp:Qp s p)(hq:Qp t q)(hs:s<=10000:=by decide)(ht:t<=10000:=by decide): CN0 27 [.ptr 1000001 0,.d (dV (v0 p)),.d (dV (v0 q))] [(1000001,cal)] (·=.d (dV (v0 (sb p q)))):=Xdk (R15.Minus_g W0 (gv0 hp hs) (gv0 hq ht) (by decide) (by decide)) λv ⟨z,e,hz⟩=>by rw[e,Xec hz];rfl
theorem Xnb(hp:Qp s p)(hq:Qp t q)(hs:s<=10000:=by decide)(ht:t<=10000:=by decide): CN0 25 [.ptr 1000001 0,.d (dV (v0 p)),.d (dV (v0 q))] [(1000001,cal)] (·=.d (dV (v0 (ad p q)))):=Xdk (R15.Plus_g W0 (gv0 hp hs) (gv0 hq ht) (by decide) (by decide)) λv ⟨z,e,hz⟩=>by rw[e,Xec hz];rfl
theorem Xg2(hp:Qp s p)(hx:Qs t x)(hs:s<=10000:=by decide)(ht:t<=10000:=by decide): CN0 24 [.ptr 1000001 0,.d (dV (v0 p)),.d (dN (nr x))] [(1000001,cal)] (·=.d (dV (v0 (sc p x)))):=Xdk (R15.Scale_g W0 (gv0 hp hs) (g0 hx ht) (by decide) (by decide)) λv ⟨z,e,hz⟩=>by rw[e,Xec hz];rfl
theorem Ygq(hp:Qp s p)(hs:s<=10000:=by decide): C0 31 [.d (dV (v0 p))] (·=.d (dV (v0 (lf p)))):=(R13.Left_g W0 (gv0 hp hs) (by decide)).mono λv ⟨z,e,hz⟩=>by rw[e,Xec hz];rfl
theorem Yqd(hp:Qp s p)(hq:Qp t q)(hs:s<=10000:=by decide)(ht:t<=10000:=by decide): CN0 82 [.ptr 1000001 0,.d (dV (v0 p)),.d (dV (v0 q))] [(1000001,cal)] (·=.d (dN (nr (d0 p q)))):=Xdk (R15.Dot_g W0 (gv0 hp hs) (gv0 hq ht) (by decide) (by decide) (by decide)) λv ⟨z,e,hz⟩=>by rw[e,zw hz.o];rfl
theorem Xrp(hp:Qp s p)(hq:Qp t q)(hs:s<=10000:=by decide)(ht:t<=10000:=by decide): CN0 81 [.ptr 1000001 0,.d (dV (v0 p)),.d (dV (v0 q))] [(1000001,cal)] (·=.d (dN (nr (x0 p q)))):=Xdk (R15.Cross_g W0 (gv0 hp hs) (gv0 hq ht) (by decide) (by decide) (by decide)) λv ⟨z,e,hz⟩=>by rw[e,zw hz.o];rfl
theorem Xxl(hp:Qp s p)(hs:s<=10000:=by decide): CN0 84 [.ptr 1000001 0,.d (dV (v0 p))] [(1000001,cal)] (·=.d (dN (nr (d0 p p)))):=Xdk (R15.Square_g W0 (gv0 hp hs) (by decide)) λv ⟨z,e,hz⟩=>by rw[e,zw hz.o];rfl
theorem Yg1(hp:Qp s p)(hq:Qp t q)(hs:s<=10000:=by decide)(ht:t<=10000:=by decide): CN0 86 [.ptr 1000001 0,.d (dV (v0 p)),.d (dV (v0 q))] [(1000001,cal)] (·=.d (dN (nr (d0 (sb p q) (sb p q))))):=Xdk (R15.Far_g W0 (gv0 hp hs) (gv0 hq ht) (by decide)) λv ⟨z,e,hz⟩=>by rw[e,zw hz.o];rfl
theorem Yl8(hx:Qs s x)(hy:Qs t y)(hs:s<=10000:=by decide)(ht:t<=10000:=by decide): CN0 150 [.ptr 1000001 0,.d (dN (nr x)),.d (dN (nr y))] [(1000001,cal)] (·=.d (dN (nr (x+y)))):=Xdk (R15.Add_g W0 (g0 hx hs) (g0 hy ht) (by decide) (by decide)) λv ⟨z,e,hz⟩=>by rw[e,zw hz.o];rfl
theorem Yc7(hx:Qs s x)(hy:Qs t y)(hs:s<=10000:=by decide)(ht:t<=10000:=by decide): CN0 83 [.ptr 1000001 0,.d (dN (nr x)),.d (dN (nr y))] [(1000001,cal)] (·=.d (dN (nr (x+-y)))):=Xdk (R15.Sub_g W0 (g0 hx hs) (g0 hy ht) (by decide) (by decide)) λv ⟨z,e,hz⟩=>by rw[e,zw hz.o];rfl
theorem Yo9(hx:Qs s x)(hy:Qs t y)(hs:s<=10000:=by decide)(ht:t<=10000:=by decide): CN0 151 [.ptr 1000001 0,.d (dN (nr x)),.d (dN (nr y))] [(1000001,cal)] (·=.d (dN (nr (x*y)))):=Xdk (R15.Mul_g W0 (g0 hx hs) (g0 hy ht) (by decide) (by decide)) λv ⟨z,e,hz⟩=>by rw[e,zw hz.o];rfl
theorem Xxo(hx:Qs s x)(hs:s<=10000:=by decide): C0 80 [.d (dN (nr x))] (·=.d (.int .i64 (Xcr x))):=R9.Sign_g W0 (g0 hx hs) (by decide)
theorem Yln(hx:Qs s x)(hy:Qs t y)(h0:y≠0)(hs:s<=10000:=by decide)(ht:t<=10000:=by decide): CN0 149 [.ptr 1000001 0,.d (dN (nr x)),.d (dN (nr y))] [(1000001,cal)] (·=.d (dN (nr (x*y⁻¹)))):=by
 refine EnW Tryz.func149 λ_ _ _ _=>?_
 refine Ca rfl (R9.Div_g W0 (g0 hx hs) (g0 hy ht) (by decide) (by decide)) λv hv=>?_
 rcases hv with ⟨e,_⟩ | ⟨u,hu,z,rfl,hz⟩
 . exact absurd e h0
 . have key:∀w:Rat,w*y=1->w=y⁻¹:=λw hw=>by
    have h1:(w*y)*y⁻¹=(1:Rat)*y⁻¹:=by rw[hw]
    rw[W7g,Rat.mul_inv_cancel _ h0,W7c,Rat.one_mul] at h1
    exact h1
   obtain rfl:u=(y⁻¹:Rat):=key u hu
   obtain rfl:z=nr (x*y⁻¹):=zw hz.o
   refine Cn [] rfl R15.num_ok λv hv=>?_
   subst hv
   exact Rw [] [(1000001,cal)] rfl (.one (.rf rfl) rfl rfl) ⟨rfl,rfl⟩
end
section
variable{k a b:Rat}
theorem Xhx{K:Nat}{G:Tw K}{S:List (Tow.El K)}{N:List Nm}(W:Wn G S N){q:Rat}(h:Qs 400000 q): Gd G S N 1 ⟨0,(),q⟩ (Tow.rat K q):=by
 have h0:NOk G S 0 400001 ⟨0,(),q⟩ (Tow.rat K q):=⟨⟨λ_=>zero _,⟨trivial,trivial,λi hi=>absurd hi (W5k _)⟩,rfl⟩,trivial,Sz.rat 0 h⟩
 have hg:Gs G S N (gB 1) (Tow.rat K q):=(Gs.rat h).mono (by decide)
 exact⟨h0.re W.w W.h hg,hg,W0b _⟩
theorem Ybw{K:Nat}{G:Tw K}{S:List (Tow.El K)}{N:List Nm}(W:Wn G S N){p:Rat×Rat}(h:Qp 400000 p): Gv G S N 1 (v0 p) (emb K p):=⟨Xhx W h.1,Xhx W h.2⟩
theorem W1L(hk:0<k)(hn:¬Xce 0 () k)(hq:Qs 9000 k): Wn (G1 k) [r1] [n1 k r1]:=by
 refine⟨⟨Yim hk hn,by decide,λ{m T ρ} h=>?_⟩,λz hz=>?_⟩
 . rcases Xye hk hn h with rfl | ⟨rfl,e,_⟩
   . trivial
   . have e:T=G1 k:=e
     subst e
     exact⟨trivial,(Sz.rat 0 hq).mono (by rw[Xge];decide)⟩
 . obtain rfl:=W0e.1 hz
   exact⟨_,Ygt hk hn⟩
theorem Yms(hk:0<k)(hn:¬Xce 0 () k)(hq:Qs 9000 k): Gd (G1 k) [r1] [n1 k r1] 1 (n1 k r1) r1:=by
 have W:=W1L hk hn hq
 have hs:Sz (1*2+1) (toL 1 r1):=Sz.all (p:=1) (l:=[(0:Rat),1]) λx hx=>by
  have hx:x∈[(0:Rat),1]:=hx
  rcases W1l.1 hx with rfl | hx
  . exact Yiq
  . obtain rfl:=W0e.1 hx;exact Yip
 have h0:NOk (G1 k) [r1] 9001 3 (n1 k r1) r1:=⟨⟨_,Ygt hk hn,ev1 rfl⟩,⟨trivial,Sz.rat 0 hq⟩,hs⟩
 have hg:Gs (G1 k) [r1] [n1 k r1] (gB 1) r1:=λm T ρ hF=>by
  obtain⟨e0,h1⟩:=hF.2 _ (W0e.2 rfl) _ (Ygt hk hn) 0 (show 0<1 by decide)
  rcases Xye hk hn hF.1 with rfl | ⟨rfl,e,h2⟩
  . have h1:(rat 1 e0:Tow.El 1)=r1:=h1
    have h3:(0:Rat)=1:=congrArg Prod.snd h1
    exact absurd h3 (by decide +kernel)
  . exact⟨r1,by have e:T=G1 k:=e;rw[ev1 h2],hs.mono (by decide)⟩
 exact⟨h0.re W.w W.h hg,hg,W0b _⟩
theorem Yin(h:Qs 9000 k)(h0:0<=k): C0 297 [.d (dN (nr k))] (R9.RtR (nr k)):=R9.Sqrt_ok (x:=nr k) (r:=1) (p:=9001) trivial trivial (Sz.rat 0 h) (Ymn.2 h0) (show 0<8 by decide) (show qB 1 0 9001<=4398046511104 by decide +kernel) (show qB 1 0 1<=4398046511104 by decide +kernel) (show vB 1 0 (9001+gC 1 0)<=4398046511104 by decide +kernel) (show vB 1 0 1<=4398046511104 by decide +kernel)
theorem Yig(h:Qs 9000 k)(h0:0<=k){f:FuncId}{ar:List AV}(hr:C0 f ar (R9.RtR (nr k))): C0 f ar λv=>∃r:Nm,v=.tup (.pr (.d (dN r)) (.d (.int .i64 0)))/\∃(K:Nat) (G:Tw K) (S:List (Tow.El K)) (N:List Nm) (rv:Tow.El K),Wn G S N/\Gd G S N 1 r rv:=hr.mono λv ⟨z,e,hz⟩=>by
 refine⟨z,e,?_⟩
 rcases hz with ⟨y,rfl,h1,h2⟩ | ⟨rfl,h1,h2⟩
 . have hy:Qs 400000 (y:Rat):=by
    have h3:Sz 400000 (toL 0 (y:Tow.El 0)):=((Sz.rat 0 h).rootS (k:=0) (r:=1) (t:=()) (s:=(y:Tow.El 0)) trivial trivial h1).mono (by decide)
    exact h3.qs (W0e.2 rfl)
   exact⟨0,(),[],[],(y:Rat),W0,Xhx W0 hy⟩
 . have hk:0<k:=by
    rcases Rat.le_iff_lt_or_eq.1 h0 with h | h
    . exact h
    . exact absurd ⟨(0:Rat),by show (0:Rat)*0=k;rw[<-h];decide +kernel⟩ h2
   exact⟨1,G1 k,[r1],[n1 k r1],r1,W1L hk h2 h,Yms hk h2 h⟩
end
def InL(Q:∀ {K:Nat},Tw K->V2 K->Prop)(P:List Vn): Prop:=∃(K:Nat) (G:Tw K) (S:List (Tow.El K)) (N:List Nm),Wn G S N/\∀x∈P,∃px:V2 K,Gv G S N 4 x px/\Q G px
def Cds(n:Nat)(v:AV): Prop:=∃P:List Vn,v=.d (dVs P)/\P.length<=n/\InL (λ_ _=>True) P
theorem Cds.rat{P:List Vn}{n:Nat}(h:∀x∈P,∃p,x=v0 p/\Qp 10000 p)(hn:P.length<=n): Cds n (.d (dVs P)):=⟨P,rfl,hn,0,(),[],[],W0,λx hx=>by
 obtain⟨p,rfl,hp⟩:=h x hx
 exact⟨p,(gv0 hp).mono (by decide),trivial⟩⟩
theorem Ylg{y:Rat}(hy:Qs 9000 y)(h0:0<=y): CN0 222 [.ptr 1000001 0,.d (dN (nr y))] [(1000001,cal)] (λr=>∃z:Nm,r=.d (dN z)/\∃(K:Nat) (G:Tw K) (S:List (Tow.El K)) (N:List Nm) (rv:Tow.El K),Wn G S N/\Gd G S N 1 z rv):=by
 refine EnW Tryz.func222 λ_ _ _ _=>?_
 refine Ca rfl (Yig hy h0 (Yin hy h0)) λv hv=>?_
 obtain⟨z,rfl,hz⟩:=hv
 refine Cn [] rfl R15.num_ok λv hv=>?_
 subst hv
 exact Rw [] [(1000001,cal)] rfl (.one (.rf rfl) rfl rfl) ⟨rfl,z,rfl,hz⟩
theorem Xs8{m v:Rat×Rat}{y:Rat}(hm:Qp 4000 m)(hv:Qp 4000 v)(hy:Qs 9000 y): CN0 153 [.ptr 1000001 0,.d (dV (v0 m)),.d (dV (v0 v)),.d (dN (nr y))] [(1000001,cal)] (Cds 2):=by
 refine EnW Tryz.func153 λ_ _ _ _=>?_
 refine Ce rfl (Xxo hy) ?_
 refine By rfl (λh=>?_) λh=>?_
 . exact Rw [] [(1000001,cal)] rfl (.one (.nil rfl) rfl rfl) ⟨rfl,Cds.rat (P:=[]) (λx h=>nomatch h) (W1a _)⟩
 have h0:0<=y:=Ymn.1 (by omega)
 refine Dw rfl ?_
 refine Cn [] rfl (Ylg hy h0) λr hr=>?_
 obtain⟨z,rfl,K,G,S,N,rv,W,hz⟩:=hr
 have h1:=Ybw W (R47.Qp.mono' hm (show 4000<=400000 by decide))
 have h2:=Ybw W (R47.Qp.mono' hv (show 4000<=400000 by decide))
 refine Cn [] rfl (R15.Scale_g W h2 hz (by decide) (by decide)) λv hv=>?_
 obtain⟨w,rfl,hw⟩:=hv
 refine Dw rfl ?_
 refine Cn [] rfl (R15.Plus_g W h1 hw (by decide) (by decide)) λv hv=>?_
 obtain⟨a,rfl,ha⟩:=hv
 refine Cn [] rfl (R15.Minus_g W h1 hw (by decide) (by decide)) λv hv=>?_
 obtain⟨b,rfl,hb⟩:=hv
 exact Rw [] [(1000001,cal)] rfl (.one (.lit rfl) rfl rfl) ⟨rfl,[a,b],rfl,W0b _,K,G,S,N,W,λx hx=>by
  simp only[W1l,W5t,or_false] at hx
  rcases hx with rfl | rfl
  . exact⟨_,ha.mono (by decide),trivial⟩
  . exact⟨_,hb.mono (by decide),trivial⟩⟩
section
variable{c d:Kv}
theorem Xzm(hc:c.ok)(hd:d.ok): CN0 79 [.ptr 1000001 0,.d (dC c.c),.d (dC d.c)] [(1000001,cal)] (Cds 2):=by
 refine EnW Tryz.func79 λ_ _ _ _=>?_
 refine Dw rfl ?_
 refine Cn [] rfl (Xfa hc.ht hc.hq) λv hv=>?_
 subst hv
 refine Cn [] rfl (Xfa hd.ht hd.hq) λv hv=>?_
 subst hv
 have hu:=Xiz hc.ht hc.hq
 have hv:=Xiz hd.ht hd.hq
 have hx:=Ylo hu hv
 refine Cn [] rfl (Xrp hu hv) λv hv=>?_
 subst hv
 refine Ce rfl (Xxo hx) ?_
 refine By rfl (λh=>?_) λh=>?_
 . exact Rw [] [(1000001,cal)] rfl (.one (.nil rfl) rfl rfl) ⟨rfl,Cds.rat (P:=[]) (λx h=>nomatch h) (W1a _)⟩
 have h0:x0 (sb c.t c.q) (sb d.t d.q)≠0:=λe=>h (by rw[e];decide +kernel)
 have hw:=Xiz hd.hq hc.hq
 have hy:=Ylo hw hv
 have hz:=hy.mul (R2.Qs.inv hx h0)
 have hr:=Xxy hu hz
 refine Dw rfl ?_
 refine Cn [] rfl (Xfa hd.hq hc.hq) λv hv=>?_
 subst hv
 refine Cn [] rfl (Xrp hw hv) λv hv=>?_
 subst hv
 refine Cn [] rfl (Yln hy hx h0) λv hv=>?_
 subst hv
 refine Cn [] rfl (Xg2 hu hz) λv hv=>?_
 subst hv
 refine Cn [] rfl (Xnb hc.hq hr) λv hv=>?_
 subst hv
 exact Rw [] [(1000001,cal)] rfl (.one (.lit rfl) rfl rfl) ⟨rfl,Cds.rat (P:=[v0 (ad c.q (sc (sb c.t c.q) (x0 (sb d.q c.q) (sb d.t d.q)*(x0 (sb c.t c.q) (sb d.t d.q))⁻¹)))]) (λx hx=>⟨_,W0e.1 hx,R47.Qp.mono' (Yc5 hc.hq hr) (by decide)⟩) (show 1<=2 by decide)⟩
theorem Yc1(hc:c.ok)(hd:d.ok)(hn:c.t≠c.q): CN0 78 [.ptr 1000001 0,.d (dC c.c),.d (dC d.c)] [(1000001,cal)] (Cds 2):=by
 have hu:=Xiz hc.ht hc.hq
 have hs:=Yad hu hu
 have h0:d0 (sb c.t c.q) (sb c.t c.q)≠0:=by
  have h:0<d0 (sb c.t c.q) (sb c.t c.q):=Xmv (Xef hn)
  intro e
  rw[e] at h
  exact absurd h (by decide +kernel)
 have hw:=Xiz hd.hp hc.hq
 have h1:=Yad hu hw
 have h2:=h1.mul (R2.Qs.inv hs h0)
 have h3:=Xxy hu h2
 have h4:=Yc5 hc.hq h3
 have h5:=Yad (Xiz hd.hq hd.hp) (Xiz hd.hq hd.hp)
 have h6:=Yad (Xiz h4 hd.hp) (Xiz h4 hd.hp)
 have h7:=h5.add h6.neg
 have h8:=h7.mul (R2.Qs.inv hs h0)
 refine EnW Tryz.func78 λ_ _ _ _=>?_
 refine Cn [] rfl (Xfa hc.ht hc.hq) λv hv=>?_
 subst hv
 refine Cn [] rfl (Xxl hu) λv hv=>?_
 subst hv
 refine Dw rfl ?_
 refine Cn [] rfl (Xfa hd.hp hc.hq) λv hv=>?_
 subst hv
 refine Cn [] rfl (Yqd hu hw) λv hv=>?_
 subst hv
 refine Cn [] rfl (Yln h1 hs h0) λv hv=>?_
 subst hv
 refine Cn [] rfl (Xg2 hu h2) λv hv=>?_
 subst hv
 refine Cn [] rfl (Xnb hc.hq h3) λv hv=>?_
 subst hv
 refine Dw rfl ?_
 refine Cn [] rfl (Yg1 hd.hq hd.hp) λv hv=>?_
 subst hv
 refine Cn [] rfl (Yg1 h4 hd.hp) λv hv=>?_
 subst hv
 refine Cn [] rfl (Yc7 h5 h6) λv hv=>?_
 subst hv
 refine Cn [] rfl (Yln h7 hs h0) λv hv=>?_
 subst hv
 refine Cn [] rfl (Xs8 (R47.Qp.mono' h4 (by decide)) (R47.Qp.mono' hu (by decide)) (h8.mono (by decide))) λv hv=>?_
 obtain⟨P,rfl,hP⟩:=hv
 exact Rw [] [(1000001,cal)] rfl (.one (.rf rfl) rfl rfl) ⟨rfl,P,rfl,hP⟩
theorem Xsb(hc:c.ok)(hd:d.ok): CN0 77 [.ptr 1000001 0,.d (dC c.c),.d (dC d.c)] [(1000001,cal)] (Cds 2):=by
 have hv:=Xiz hd.hp hc.hp
 have hf:=Yad hv hv
 have hr:=Yad (Xiz hc.hq hc.hp) (Xiz hc.hq hc.hp)
 have hs:=Yad (Xiz hd.hq hd.hp) (Xiz hd.hq hd.hp)
 have h2:Qs 3 ((2:Int):Rat):=by decide +kernel
 have h1:=hf.add hr
 have h3:=h1.add hs.neg
 have h4:=hf.mul h2
 refine EnW Tryz.func77 λ_ _ _ _=>?_
 refine Cn [] rfl (Xfa hd.hp hc.hp) λv hv=>?_
 subst hv
 refine Cn [] rfl (Xxl hv) λv hv=>?_
 subst hv
 refine Ce rfl (Xxo hf) ?_
 refine By rfl (λh=>?_) λh=>?_
 . exact Rw [] [(1000001,cal)] rfl (.one (.nil rfl) rfl rfl) ⟨rfl,Cds.rat (P:=[]) (λx h=>nomatch h) (W1a _)⟩
 have h0:d0 (sb d.p c.p) (sb d.p c.p)≠0:=λe=>h (by rw[e];decide +kernel)
 have h0':d0 (sb d.p c.p) (sb d.p c.p)*((2:Int):Rat)≠0:=λe=>by
  rcases W6r.1 e with e | e
  . exact h0 e
  . exact absurd e (by decide +kernel)
 have h5:=h3.mul (R2.Qs.inv h4 h0')
 have h6:=Xxy hv h5
 have h7:=Yc5 hc.hp h6
 have h8:=(hr.mul (R2.Qs.inv hf h0)).add (h5.mul h5).neg
 refine Dw rfl ?_
 refine Cn [] rfl (Yg1 hc.hq hc.hp) λv hv=>?_
 subst hv
 refine Cn [] rfl (Yg1 hd.hq hd.hp) λv hv=>?_
 subst hv
 refine Dw rfl ?_
 refine Cn [] rfl (Yl8 hf hr) λv hv=>?_
 subst hv
 refine Cn [] rfl (Yc7 h1 hs) λv hv=>?_
 subst hv
 refine Ce rfl (R9.FromInt_ok (z:=2) (by decide)) ?_
 refine Cn [] rfl (Yo9 hf h2) λv hv=>?_
 subst hv
 refine Cn [] rfl (Yln h3 h4 h0') λv hv=>?_
 subst hv
 refine Dw rfl ?_
 refine Cn [] rfl (Xg2 hv h5) λv hv=>?_
 subst hv
 refine Cn [] rfl (Xnb hc.hp h6) λv hv=>?_
 subst hv
 refine Ce rfl (Ygq hv) ?_
 refine Cn [] rfl (Yln hr hf h0) λv hv=>?_
 subst hv
 refine Cn [] rfl (Yo9 h5 h5) λv hv=>?_
 subst hv
 refine Cn [] rfl (Yc7 (hr.mul (R2.Qs.inv hf h0)) (h5.mul h5)) λv hv=>?_
 subst hv
 refine Cn [] rfl (Xs8 (R47.Qp.mono' h7 (by decide)) (R47.Qp.mono' (Yow hv) (by decide)) (h8.mono (by decide))) λv hv=>?_
 obtain⟨P,rfl,hP⟩:=hv
 exact Rw [] [(1000001,cal)] rfl (.one (.rf rfl) rfl rfl) ⟨rfl,P,rfl,hP⟩
end
end
section
open Go.Proofs.YtchflpokfamkhaaGreatDoor.P55 (v0 W0 g0 gv0 zw Xec Qp nr)
section
variable{K:Nat}{G:Tw K}{S:List (Tow.El K)}{N:List Nm}{n:Nat}{x y:Vn}{px py:V2 K}{k c d:Kv}
theorem Ylj(W:Wn G S N)(hk:k.ok)(ha:k.arc=false)(hx:Gv G S N n x px)(hn:n<=10): C0 34 [.d (dC k.c),.d (dV x)] (·=.b (dc (OnP G k px))):=by
 obtain⟨arc,cw,q,t,p⟩:=k
 obtain rfl:arc=false:=ha
 have hG:=W.w.g
 have Sg:=Xak (Xae hG)
 have L:=Xax K G
 refine En Tryz.func34 λ_ _ _=>?_
 refine Yes rfl nofun ?_
 refine Dw rfl ?_
 refine Cn [(1000001,10)] rfl (R15.Minus_g W (Xeo W hk.ht) (Xeo W hk.hq) (by decide) (by decide)) λv hv=>?_
 obtain⟨u,rfl,hu⟩:=hv
 refine Cn [(1000001,10)] rfl (R15.Minus_g W hx (Xeo W hk.hq) (by omega) (by decide)) λv hv=>?_
 obtain⟨w,rfl,hw⟩:=hv
 refine Cn [(1000001,10)] rfl (R15.Cross_g W hu hw (by omega) (by omega) (by omega)) λv hv=>?_
 obtain⟨z,rfl,hz⟩:=hv
 refine Ce rfl (R9.Sign_g W hz (by omega)) ?_
 refine By rfl (λh=>?_) λh=>?_
 . exact R1 rfl (.bp ⟨nofun,λe=>absurd (by rw[show Xai G _ _=zero K from e.1,Sg.s0 L]) h⟩)
 have h1:Xai G (Xaj (emb K t) (emb K q)) (Xaj px (emb K q))=zero K:=(Xbb hG).1 (W4d.1 h)
 refine Cn [(1000001,10)] rfl (R15.Dot_g W hu hw (by omega) (by omega) (by omega)) λv hv=>?_
 obtain⟨z2,rfl,hz2⟩:=hv
 refine Dw rfl ?_
 refine Ce rfl (R9.Sign_g W hz2 (by omega)) ?_
 refine By rfl (λh2=>?_) λh2=>?_
 . refine Cn [(1000001,10)] rfl (R15.Square_g W hu (by decide)) λv hv=>?_
   obtain⟨z3,rfl,hz3⟩:=hv
   refine Cn [(1000001,10)] rfl (R15.Sub_g W hz3 hz2 (by decide) (by omega)) λv hv=>?_
   obtain⟨z4,rfl,hz4⟩:=hv
   refine Ce rfl (R9.Sign_g W hz4 (by omega)) ?_
   exact R1 rfl (.bp (Xaw.trans ⟨λh3=>⟨h1,h2,h3⟩,λe=>e.2.2⟩))
 . exact R1 rfl (.bp ⟨nofun,λe=>absurd e.2.1 h2⟩)
theorem Ylk(W:Wn G S N)(hk:k.ok)(ha:k.arc=true)(hx:Gv G S N n x px)(hn:n<=10): C0 34 [.d (dC k.c),.d (dV x)] (·=.b (dc (OnP G k px))):=by
 obtain⟨arc,cw,q,t,p⟩:=k
 obtain rfl:arc=true:=ha
 have hG:=W.w.g
 have A:=hk.arc rfl
 have hne:q≠p:=hk.ne rfl
 have hpx:=Xeo W hk.hp
 have hqx:=Xeo W hk.hq
 have h1:=Xdh (K:=K) (q:=q) (p:=p)
 have h2:=Xdh (K:=K) (q:=t) (p:=p)
 have hu0:=Xef hne
 have hs0:0<d0 (sb q p) (sb q p):=Xmv hu0
 have ev:d0 (sb q p) (sb q p)=d0 (sb t p) (sb t p):=A.e
 have hv0:sb t p≠(0,0):=λe=>by
  rw[ev,e] at hs0
  exact absurd hs0 (by decide +kernel)
 by_cases he:Xao G (Xaj (emb K q) (emb K p)) (Xaj (emb K q) (emb K p))=Xao G (Xaj px (emb K p)) (Xaj px (emb K p))
 . have hr:Xaj px (emb K p)≠vz K:=λe=>by
    have L:=Xax K G
    have h3:Xao G (Xaj px (emb K p)) (Xaj px (emb K p))=rat K 0:=by
     rw[e,Xa6]
     show add K (mul K G (zero K) (zero K)) (mul K G (zero K) (zero K))=zero K
     rw[L.zm,L.az]
    rw[h3,h1] at he
    have h4:d0 (sb q p) (sb q p)=0:=Xfi ((Xc4 G).symm.trans he)
    grind
   refine(R47.On_g (c:=⟨true,v0 q,v0 t,v0 p,cw⟩) W rfl hpx hqx (Xeo W hk.ht) hx hn (by rw[h1];exact Xi7 hu0) (by rw[h2];exact Xi7 hv0) hr he).mono λv e=>e.trans (congrArg AV.b ?_)
   rw[h1,h2]
   exact W3n.2 (Xaw.trans (Iff.trans ⟨λh=>⟨he,h.imp Yff.1 id⟩,λh=>h.2.imp Yff.2 id⟩ Xaw.symm))
 . refine En Tryz.func34 λ_ _ _=>?_
   refine No rfl (λh=>h rfl) ?_
   refine Dw rfl ?_
   refine Cn [(1000001,10)] rfl (R15.Far_g W hqx hpx (by decide)) λv hv=>?_
   obtain⟨z1,rfl,k1⟩:=hv
   refine Cn [(1000001,10)] rfl (R15.Far_g W hx hpx (by omega)) λv hv=>?_
   obtain⟨z2,rfl,k2⟩:=hv
   refine Ce rfl (R9.Equal_g W k1 k2 (by omega) (by omega)) ?_
   refine Yes rfl he ?_
   exact R1 rfl (.bp ⟨nofun,λe=>absurd e.1 he⟩)
theorem Yn6(W:Wn G S N)(hk:k.ok)(hx:Gv G S N n x px)(hn:n<=10): C0 34 [.d (dC k.c),.d (dV x)] (·=.b (dc (OnP G k px))):=by
 cases h:k.arc with
 | false=>exact Ylj W hk h hx hn
 | true=>exact Ylk W hk h hx hn
theorem Yc9(hk:k.ok): C0 76 [.d (dC k.c)] IsB:=by
 obtain⟨arc,cw,q,t,p⟩:=k
 cases arc with
 | false =>
  refine En Tryz.func76 λ_ _ _=>?_
  refine No rfl nofun ?_
  exact Rt rfl (.one (.rf rfl) rfl rfl) ⟨_,rfl⟩
 | true=>exact(R47.Full_g (c:=⟨true,v0 q,v0 t,v0 p,cw⟩) W0 rfl (gv0 hk.hq) (gv0 hk.ht) (by decide) (by decide)).mono λv e=>⟨_,e⟩
theorem Xw4(hc:c.ok)(hd:d.ok): CN0 148 [.ptr 1000001 0,.d (dC c.c),.d (dC d.c)] [(1000001,cal)] IsB:=by
 refine EnW Tryz.func148 λ_ _ _ _=>?_
 refine Dw rfl ?_
 refine Ce rfl (R13.Equal_g W0 (gv0 hc.hp) (gv0 hd.hp) (by decide) (by decide)) ?_
 refine By rfl (λh=>?_) λh=>?_
 . refine Cn [] rfl (Yg1 hc.hq hc.hp) λv hv=>?_
   subst hv
   refine Cn [] rfl (Yg1 hd.hq hd.hp) λv hv=>?_
   subst hv
   refine Ce rfl (R9.Equal_g W0 (g0 (Yad (Xiz hc.hq hc.hp) (Xiz hc.hq hc.hp))) (g0 (Yad (Xiz hd.hq hd.hp) (Xiz hd.hq hd.hp))) (by decide) (by decide)) ?_
   exact Rw [] [(1000001,cal)] rfl (.one (.rf rfl) rfl rfl) ⟨rfl,_,rfl⟩
 . exact Rw [] [(1000001,cal)] rfl (.one (.rf rfl) rfl rfl) ⟨rfl,_,rfl⟩
theorem Ygi(hc:c.ok)(hd:d.ok): C0 75 [.d (dC c.c),.d (dC d.c)] IsB:=by
 have hu:=Xiz hc.ht hc.hq
 have h1:=Xiz hd.hq hc.hq
 have h2:=Xiz hd.ht hc.hq
 have hci:=Xw4 hc hd
 obtain⟨arc,cw,q,t,p⟩:=c
 obtain⟨arc',cw',q',t',p'⟩:=d
 refine En Tryz.func75 λ_ _ _=>?_
 cases arc with
 | false =>
  cases arc' with
  | true =>
   refine Yes rfl (λe=>nomatch (show false=true from e.2 rfl)) ?_
   exact Rt rfl (.one (.rf rfl) rfl rfl) ⟨_,rfl⟩
  | false =>
   refine No rfl (λh=>h W3k) ?_
   refine No rfl nofun ?_
   refine Cn [(1000001,8)] rfl (Xfa hc.ht hc.hq) λv hv=>?_
   subst hv
   refine Dw rfl ?_
   refine Cn [(1000001,8)] rfl (Xfa hd.hq hc.hq) λv hv=>?_
   subst hv
   refine Cn [(1000001,8)] rfl (Xrp hu h1) λv hv=>?_
   subst hv
   refine Ce rfl (Xxo (Ylo hu h1)) ?_
   refine By rfl (λh=>?_) λh=>?_
   . refine Cn [(1000001,8)] rfl (Xfa hd.ht hc.hq) λv hv=>?_
     subst hv
     refine Cn [(1000001,8)] rfl (Xrp hu h2) λv hv=>?_
     subst hv
     refine Ce rfl (Xxo (Ylo hu h2)) ?_
     exact Rt rfl (.one (.rf rfl) rfl rfl) ⟨_,rfl⟩
   . exact Rt rfl (.one (.rf rfl) rfl rfl) ⟨_,rfl⟩
 | true =>
  cases arc' with
  | false =>
   refine Yes rfl (λe=>nomatch (show false=true from e.1 rfl)) ?_
   exact Rt rfl (.one (.rf rfl) rfl rfl) ⟨_,rfl⟩
  | true =>
   refine No rfl (λh=>h W3k) ?_
   refine Yes rfl rfl ?_
   refine Cn [(1000001,8)] rfl hci λv hv=>?_
   obtain⟨b,rfl⟩:=hv
   exact Rt rfl (.one (.rf rfl) rfl rfl) ⟨_,rfl⟩
theorem Xzf(W:Wn G S N)(hk:k.ok)(hx:Gv G S N 4 x px)(hy:Gv G S N 4 y py)(ox:OnP G k px)(oy:OnP G k py): CN0 89 [.ptr 1000001 0,.d (dC k.c),.d (dV x),.d (dV y)] [(1000001,cal)] (λr=>∃i:Int,r=.d (.int .i64 i)):=by
 have hG:=W.w.g
 obtain⟨arc,cw,q,t,p⟩:=k
 cases arc with
 | false =>
  refine EnW Tryz.func89 λ_ _ _ _=>?_
  refine Yes rfl nofun ?_
  refine Dw rfl ?_
  refine Cn [] rfl (R15.Minus_g W (Xeo W hk.ht) (Xeo W hk.hq) (by decide) (by decide)) λv hv=>?_
  obtain⟨u,rfl,hu⟩:=hv
  refine Cn [] rfl (R15.Minus_g W hx hy (by decide) (by decide)) λv hv=>?_
  obtain⟨w,rfl,hw⟩:=hv
  refine Cn [] rfl (R15.Dot_g W hu hw (by decide) (by decide) (by decide)) λv hv=>?_
  obtain⟨z,rfl,hz⟩:=hv
  refine Ce rfl (R9.Sign_g W hz (by decide)) ?_
  exact Rw [] [(1000001,cal)] rfl (.one (.rf rfl) rfl rfl) ⟨rfl,_,rfl⟩
 | true =>
  have h1:=Xdh (K:=K) (q:=q) (p:=p)
  have hs0:0<d0 (sb q p) (sb q p):=Xmv (Xef (hk.ne rfl))
  have hu:Xaj (emb K q) (emb K p)≠vz K:=by rw[h1];exact Xi7 (Xef (hk.ne rfl))
  have nz:∀ {w:V2 K},OnP G ⟨true,cw,q,t,p⟩ w->Xaj w (emb K p)≠vz K:=λ{w} o e=>by
   have L:=Xax K G
   have he:Xao G (Xaj (emb K q) (emb K p)) (Xaj (emb K q) (emb K p))=Xao G (Xaj w (emb K p)) (Xaj w (emb K p)):=o.1
   have h3:Xao G (Xaj w (emb K p)) (Xaj w (emb K p))=rat K 0:=by
    rw[e,Xa6]
    show add K (mul K G (zero K) (zero K)) (mul K G (zero K) (zero K))=zero K
    rw[L.zm,L.az]
   rw[h3,h1] at he
   have h4:d0 (sb q p) (sb q p)=0:=Xfi ((Xc4 G).symm.trans he)
   grind
  refine EnW Tryz.func89 λ_ _ _ _=>?_
  refine No rfl (λh=>h rfl) ?_
  refine Dw rfl ?_
  refine Cn [] rfl (R47.place_g (c:=⟨true,v0 q,v0 t,v0 p,cw⟩) W (Xeo W hk.hp) (Xeo W hk.hq) hx (by decide) hu (nz ox)) λv hv=>?_
  obtain⟨t1,rfl,g1⟩:=hv
  refine Cn [] rfl (R47.place_g (c:=⟨true,v0 q,v0 t,v0 p,cw⟩) W (Xeo W hk.hp) (Xeo W hk.hq) hy (by decide) hu (nz oy)) λv hv=>?_
  obtain⟨t2,rfl,g2⟩:=hv
  refine Cn [] rfl (R47.before_g W g1 g2 (by decide)) λv hv=>?_
  subst hv
  refine By rfl (λh=>?_) λh=>?_
  . exact Rw [] [(1000001,cal)] rfl (.one (.rf rfl) rfl rfl) ⟨rfl,_,rfl⟩
  refine Cn [] rfl (R47.before_g W g2 g1 (by decide)) λv hv=>?_
  subst hv
  refine By rfl (λh=>?_) λh=>?_
  . exact Rw [] [(1000001,cal)] rfl (.one (.rf rfl) rfl rfl) ⟨rfl,_,rfl⟩
  . exact Rw [] [(1000001,cal)] rfl (.one (.rf rfl) rfl rfl) ⟨rfl,_,rfl⟩
end
section
variable{q t p v e f u:Rat×Rat}{cw:Bool}
theorem Xpy: R47.rotQ v e=Xap (K:=0) () v e:=W1h (show v.1*e.1+-v.2*e.2=v.1*e.1+-(v.2*e.2) by grind) (show v.2*e.1+v.1*e.2=v.1*e.2+v.2*e.1 by grind)
theorem Xt8(hv:v≠(0,0))(h:R47.rotQ v e=R47.rotQ v f): e=f:=by
 have h0:=Xmv hv
 have h1:v.1*e.1+-v.2*e.2=v.1*f.1+-v.2*f.2:=congrArg Prod.fst h
 have h2:v.2*e.1+v.1*e.2=v.2*f.1+v.1*f.2:=congrArg Prod.snd h
 have h3:d0 v v≠0:=by grind
 have k1:d0 v v*(e.1-f.1)=0:=by show (v.1*v.1+v.2*v.2)*(e.1-f.1)=0;grind
 have k2:d0 v v*(e.2-f.2)=0:=by show (v.1*v.1+v.2*v.2)*(e.2-f.2)=0;grind
 have k1:=(W6r.1 k1).resolve_left h3
 have k2:=(W6r.1 k2).resolve_left h3
 exact W1h (by grind) (by grind)
theorem Xt7: R47.rotQ v (1,0)=v:=W1h (show v.1*1+-v.2*0=v.1 by grind) (show v.2*1+v.1*0=v.2 by grind)
def eaQ(cw:Bool)(e u:Rat×Rat): Prop:=match cw with
 | true=>Xb9 (K:=0) () (Xap (K:=0) () (Xa2 (K:=0) u) e) (Xa2 (K:=0) u)<=0
 | false=>Xb9 (K:=0) () e u<=0
theorem Yix(hv:v≠(0,0))(h:eaQ cw e u): onV (K:=0) () cw v (R47.rotQ v u) (R47.rotQ v e):=by
 have hd:sgn 0 () (d0 v v)=1:=Xb1 (K:=0) (G:=()) trivial hv
 have fl:∀a b:Rat×Rat,Xap (K:=0) () (Xa2 (K:=0) v) (Xap (K:=0) () v a)=Xap (K:=0) () a ((d0 v v,(0:Rat)):Rat×Rat):=λa b=>W1h
  (show v.1*(v.1*a.1+-(v.2*a.2))+-(-v.2*(v.1*a.2+v.2*a.1))=a.1*(v.1*v.1+v.2*v.2)+-(a.2*0) by grind)
  (show v.1*(v.1*a.2+v.2*a.1)+-v.2*(v.1*a.1+-(v.2*a.2))=a.1*0+a.2*(v.1*v.1+v.2*v.2) by grind)
 cases cw with
 | false =>
  have k:Xb9 (K:=0) () (Xap (K:=0) () (Xa2 (K:=0) v) (R47.rotQ v e)) (Xap (K:=0) () (Xa2 (K:=0) v) (R47.rotQ v u))=Xb9 (K:=0) () e u:=by
   have k1:=(congrArg (Xap (K:=0) () (Xa2 (K:=0) v)) (Xpy (v:=v) (e:=e))).trans (fl e e)
   have k2:=(congrArg (Xap (K:=0) () (Xa2 (K:=0) v)) (Xpy (v:=v) (e:=u))).trans (fl u u)
   exact(congr (congrArg (Xb9 (K:=0) ()) k1) k2).trans (Xg7 (K:=0) (G:=()) (p:=e) (q:=u) (d:=d0 v v) trivial hd)
  exact Eq.mpr (congrArg (λz:Int=>z<=0) k) h
 | true =>
  have g1:Xap (K:=0) () (Xa2 (K:=0) (R47.rotQ v u)) (R47.rotQ v e)=Xap (K:=0) () (Xap (K:=0) () (Xa2 (K:=0) u) e) ((d0 v v,(0:Rat)):Rat×Rat):=W1h
   (show (v.1*u.1+-v.2*u.2)*(v.1*e.1+-v.2*e.2)+-(-(v.2*u.1+v.1*u.2)*(v.2*e.1+v.1*e.2))=(u.1*e.1+-(-u.2*e.2))*(v.1*v.1+v.2*v.2)+-((u.1*e.2+-u.2*e.1)*0) by grind)
   (show (v.1*u.1+-v.2*u.2)*(v.2*e.1+v.1*e.2)+-(v.2*u.1+v.1*u.2)*(v.1*e.1+-v.2*e.2)=(u.1*e.1+-(-u.2*e.2))*0+(u.1*e.2+-u.2*e.1)*(v.1*v.1+v.2*v.2) by grind)
  have g2:Xap (K:=0) () (Xa2 (K:=0) (R47.rotQ v u)) v=Xap (K:=0) () (Xa2 (K:=0) u) ((d0 v v,(0:Rat)):Rat×Rat):=W1h
   (show (v.1*u.1+-v.2*u.2)*v.1+-(-(v.2*u.1+v.1*u.2)*v.2)=u.1*(v.1*v.1+v.2*v.2)+-(-u.2*0) by grind)
   (show (v.1*u.1+-v.2*u.2)*v.2+-(v.2*u.1+v.1*u.2)*v.1=u.1*0+-u.2*(v.1*v.1+v.2*v.2) by grind)
  have k:Xb9 (K:=0) () (Xap (K:=0) () (Xa2 (K:=0) (R47.rotQ v u)) (R47.rotQ v e)) (Xap (K:=0) () (Xa2 (K:=0) (R47.rotQ v u)) v)=Xb9 (K:=0) () (Xap (K:=0) () (Xa2 (K:=0) u) e) (Xa2 (K:=0) u):=(congr (congrArg (Xb9 (K:=0) ()) g1) g2).trans (Xg7 (K:=0) (G:=()) (p:=Xap (K:=0) () (Xa2 (K:=0) u) e) (q:=Xa2 (K:=0) u) (d:=d0 v v) trivial hd)
  exact Eq.mpr (congrArg (λz:Int=>z<=0) k) h
def pw2: Nat->Int
 | 0=>1
 | j+1=>2*pw2 j
def mdN(j:Nat): Rat:=Rat.divInt (pw2 j*pw2 j-1) (pw2 j*pw2 j+1)
def mdS(j:Nat): Rat:=Rat.divInt (2*pw2 j) (pw2 j*pw2 j+1)
def mdE(cw:Bool)(j:Nat): Rat×Rat:=(mdN j,if cw then -(mdS j) else mdS j)
def eaB(p q:Rat×Rat): Bool:=decide (0<p.2)&&(decide (q.2<0)||(decide (q.2=0)&&decide (q.1<0))||decide (0<=x0 p q))||decide (p.2<0)&&decide (q.2<0)&&decide (0<=x0 p q)
theorem Ycv{p q:Rat×Rat}(h:eaB p q=true): Xb9 (K:=0) () p q<=0:=by
 have up:∀ {p:Rat×Rat},vup (K:=0) () p↔(0<p.2\/p.2=0/\0<p.1):=λ{p}=>by
  show (0<Xcr p.2\/Xcr p.2=0/\0<Xcr p.1)↔_
  have t2:=Xay p.2
  have t1:=Xay p.1
  constructor
  . intro h
    rcases t2 with ⟨a,b⟩ | ⟨a,b⟩ | ⟨a,b⟩
    . exact .inl a
    . rcases t1 with ⟨c,d⟩ | ⟨c,d⟩ | ⟨c,d⟩
      . exact .inr ⟨a,c⟩
      . omega
      . omega
    . omega
  . intro h
    rcases t2 with ⟨a,b⟩ | ⟨a,b⟩ | ⟨a,b⟩
    . exact .inl (by omega)
    . rcases t1 with ⟨c,d⟩ | ⟨c,d⟩ | ⟨c,d⟩
      . exact .inr ⟨b,by omega⟩
      . grind
      . grind
    . grind
 have h0:Xb9 (K:=0) () p q=if vh (K:=0) () p=vh (K:=0) () q then-Xcr (x0 p q) else vh (K:=0) () p-vh (K:=0) () q:=Xd8 (K:=0) (G:=()) (p:=p) (q:=q)
 have hi:∀ {p:Rat×Rat},(0<p.2\/p.2=0/\0<p.1)->vh (K:=0) () p=0:=λ{p} k=>if_pos (up.2 k)
 have lo:∀ {p:Rat×Rat},¬(0<p.2\/p.2=0/\0<p.1)->vh (K:=0) () p=1:=λ{p} k=>if_neg λe=>k (up.1 e)
 have cr:0<=x0 p q->(if vh (K:=0) () p=vh (K:=0) () q then-Xcr (x0 p q) else vh (K:=0) () p-vh (K:=0) () q)<=0\/vh (K:=0) () p=1/\vh (K:=0) () q=0:=λk=>by
  have k:=Ymn.2 k
  have a:vh (K:=0) () p=0\/vh (K:=0) () p=1:=by by_cases e:0<p.2\/p.2=0/\0<p.1;exact .inl (hi e);exact .inr (lo e)
  have b:vh (K:=0) () q=0\/vh (K:=0) () q=1:=by by_cases e:0<q.2\/q.2=0/\0<q.1;exact .inl (hi e);exact .inr (lo e)
  rcases a with a | a<;>rcases b with b | b<;>rw[a,b]
  . left;rw[if_pos rfl];omega
  . left;rw[if_neg (show ¬(0:Int)=1 by decide)];decide
  . right;exact⟨rfl,rfl⟩
  . left;rw[if_pos rfl];omega
 refine Eq.mpr (congrArg (λz:Int=>z<=0) h0) ?_
 simp only[eaB,W3v,W0g,decide_eq_true_eq] at h
 rcases h with ⟨a,(b | ⟨b,c⟩) | b⟩ | ⟨⟨a,b⟩,c⟩
 . have e1:=hi (p:=p) (.inl a)
   have e2:=lo (p:=q) (by grind)
   show (if vh (K:=0) () p=vh (K:=0) () q then-Xcr (x0 p q) else vh (K:=0) () p-vh (K:=0) () q)<=0
   rw[e1,e2,if_neg (show ¬(0:Int)=1 by decide)];decide
 . have e1:=hi (p:=p) (.inl a)
   have e2:=lo (p:=q) (by grind)
   show (if vh (K:=0) () p=vh (K:=0) () q then-Xcr (x0 p q) else vh (K:=0) () p-vh (K:=0) () q)<=0
   rw[e1,e2,if_neg (show ¬(0:Int)=1 by decide)];decide
 . rcases cr b with k | ⟨k,_⟩
   . exact k
   . rw[hi (p:=p) (.inl a)] at k;cases k
 . rcases cr c with k | ⟨_,k⟩
   . exact k
   . rw[lo (p:=q) (by grind)] at k;cases k
def Yof(cw:Bool)(u:Rat×Rat): Bool:=(decide (u=(1,0))||(if cw then eaB (u.1*(mdE true 3).1+-(-u.2*(mdE true 3).2),u.1*(mdE true 3).2+-u.2*(mdE true 3).1) (u.1,-u.2) else eaB (mdE false 3) u)) && !decide (mdE cw 3=(1,0)) && !decide (mdE cw 3=u)
theorem tab: ∀i:Fin 16,∀cw:Bool,Yof cw (R47.uni i.val)=true:=by decide +kernel
theorem Yer: ∀j:Fin 4,∀cw:Bool,d0 (mdE cw j.val) (mdE cw j.val)=1/\Qp 8 (mdE cw j.val):=by decide +kernel
theorem Yhp{i:Nat}(hi:i<16): (R47.uni i≠(1,0)->eaQ cw (mdE cw 3) (R47.uni i))/\mdE cw 3≠(1,0)/\mdE cw 3≠R47.uni i:=by
 have h:=tab ⟨i,hi⟩ cw
 simp only[Yof,W0g,W3v,W1n,decide_eq_false_iff_not,decide_eq_true_eq] at h
 obtain⟨⟨h1,h2⟩,h3⟩:=h
 refine⟨λhu=>?_,h2,h3⟩
 have h:=h1.resolve_left hu
 cases cw with
 | true=>exact Ycv h
 | false=>exact Ycv h
end
end
section
open Go.Proofs.YtchflpokfamkhaaGreatDoor.P55 (v0 W0 g0 gv0 zw Xec Qp nr qb)
def Hit(k:Kv)(x:Vn): Prop:=∃(K:Nat) (G:Tw K) (S:List (Tow.El K)) (N:List Nm) (px:V2 K),Wn G S N/\Gv G S N 4 x px/\OnP G k px
theorem Xxi{k:Kv}{m:Rat×Rat}(hk:k.ok)(hm:Qp 10000 m): C0 32 [.d (dC k.c),.d (dV (v0 m))] (·=.b (dc (OnP (K:=0) () k m/\k.q≠m/\k.t≠m))):=by
 refine En Tryz.func32 λ_ _ _=>?_
 refine Ce rfl (Yn6 W0 hk (gv0 hm) (by decide)) ?_
 refine By rfl (λh=>?_) λh=>?_
 . refine Ce rfl (R13.Equal_g W0 (gv0 hk.hq) (gv0 hm) (by decide) (by decide)) ?_
   refine By rfl (λh1=>?_) λh1=>?_
   . refine Ce rfl (R13.Equal_g W0 (gv0 hk.ht) (gv0 hm) (by decide) (by decide)) ?_
     exact R1 rfl (.bp (by rw[W1n,W4c,ne_eq,Xaw];exact⟨λh2=>⟨h,h1,h2⟩,λh2=>h2.2.2⟩))
   . exact R1 rfl (.bp ⟨nofun,λe=>absurd e.2.1 h1⟩)
 . exact R1 rfl (.bp ⟨nofun,λe=>absurd e.1 h⟩)
section
variable{q t p u:Rat×Rat}{cw:Bool}{j:Nat}
theorem Yif(hk:Kv.ok ⟨true,cw,q,t,p⟩){e:Rat×Rat}(he:d0 e e=1)(ht:t=ad p (R47.rotQ (sb q p) u))(ho:u≠(1,0)->eaQ cw e u): OnP (K:=0) () ⟨true,cw,q,t,p⟩ (ad p (R47.rotQ (sb q p) e)):=by
 have hne:q≠p:=hk.ne rfl
 have hv:sb q p≠(0,0):=Xef hne
 have e1:∀w:Rat×Rat,sb (ad p w) p=w:=λw=>W1h (show p.1+w.1+-p.1=w.1 by grind) (show p.2+w.2+-p.2=w.2 by grind)
 refine⟨?_,?_⟩
 . show d0 (sb q p) (sb q p)=d0 (sb (ad p (R47.rotQ (sb q p) e)) p) (sb (ad p (R47.rotQ (sb q p) e)) p)
   rw[e1]
   exact(R47.rotQ_dot (w:=sb q p) he).symm
 . by_cases hu:u=(1,0)
   . left
     show q=t
     rw[ht,hu,Xt7]
     exact W1h (show q.1=p.1+(q.1+-p.1) by grind) (show q.2=p.2+(q.2+-p.2) by grind)
   . right
     have h:=Yix (v:=sb q p) hv (ho hu)
     have k1:sb t p=R47.rotQ (sb q p) u:=by rw[ht,e1]
     show onV (K:=0) () cw (sb q p) (sb t p) (sb (ad p (R47.rotQ (sb q p) e)) p)
     rw[e1,k1]
     exact h
theorem nj{j:Nat}(h:j<4): 1<=pw2 j/\pw2 j<=8/\1<=pw2 j*pw2 j/\pw2 j*pw2 j<=64:=by
 match j,h with
 | 0,_ | 1,_ | 2,_ | 3,_=>decide
theorem Yps(h:j<4): Qs 8 (mdN j)/\Qs 8 (mdS j):=by
 have h1:=Yer ⟨j,h⟩ false
 exact⟨h1.2.1,h1.2.2⟩
theorem Ygm{x:Rat}(hx:Qs 8 x): C0 29 [.d (dq x)] (·=.d (dq (-x))):=R2.Neg_ok hx (by decide)
abbrev zV: AV:=.st (.pr (.st (.pr .nil .nil)) (.st (.pr .nil .nil)))
theorem Yc6{a b:Rat×Rat}(h:ad p a=ad p b): a=b:=by
 have h1:p.1+a.1=p.1+b.1:=congrArg Prod.fst h
 have h2:p.2+a.2=p.2+b.2:=congrArg Prod.snd h
 exact W1h (by grind) (by grind)
theorem Xsn(hk:Kv.ok ⟨true,cw,q,t,p⟩){i:Nat}(hi:i<16)(ht:t=ad p (R47.rotQ (sb q p) (R47.uni i))): C0 7 [.d (dC (Kv.c ⟨true,cw,q,t,p⟩))] (λr=>∃m,r=.d (dV m)/\Hit ⟨true,cw,q,t,p⟩ m):=by
 have hv:=Xiz hk.hq hk.hp
 have hl:=Yow hv
 have hv0:sb q p≠(0,0):=Xef (hk.ne rfl)
 have T:=λcw=>Yhp (cw:=cw) hi
 have e3:∀j,j<4->¬(OnP (K:=0) () ⟨true,cw,q,t,p⟩ (ad p (R47.rotQ (sb q p) (mdE cw j)))/\q≠ad p (R47.rotQ (sb q p) (mdE cw j))/\t≠ad p (R47.rotQ (sb q p) (mdE cw j)))->j+1<4:=λj hj h=>by
  rcases(show j+1<4\/j=3 by omega) with h3 | rfl
  . exact h3
  obtain⟨t1,t2,t3⟩:=T cw
  refine absurd ⟨Yif hk (Yer ⟨3,by decide⟩ cw).1 ht t1,λe=>?_,λe=>?_⟩ h
  . have h1:ad p (R47.rotQ (sb q p) (1,0))=ad p (R47.rotQ (sb q p) (mdE cw 3)):=by
     rw[Xt7]
     exact(W1h (show p.1+(q.1+-p.1)=q.1 by grind) (show p.2+(q.2+-p.2)=q.2 by grind)).trans e
    exact t2 (Xt8 hv0 (Yc6 h1)).symm
  . rw[ht] at e
    exact t3 (Xt8 hv0 (Yc6 e)).symm
 refine En Tryz.func7 λ_ _ _=>?_
 refine No rfl (λh=>h rfl) ?_
 refine Cn [(1000001,10)] rfl (Xfa hk.hq hk.hp) λv hv'=>?_
 subst hv'
 refine Lo (λj:Nat=>[(1,.ptr 1 0),(2,.ptr 2 0),(3,.ptr 10 0),(4,.ptr 4 0),(5,.d (.int .i64 (pw2 j)))]) (λ_=>[(1,.var (.d (dC (Kv.c ⟨true,cw,q,t,p⟩)))),(2,.var zV),(4,.var (.d (dV (v0 (sb q p))))),(10,cal)]) (λj=>j<4) (λj=>4-j) 0 [] rfl (by decide) λj hj=>?_
 obtain⟨n1,n2,n3,n4⟩:=nj hj
 obtain⟨m1,m2⟩:=Yps hj
 have e3:=e3 j hj
 refine Ar (pw2 j*pw2 j) rfl ?_ (wr rfl (by simp only[inK];omega))
 refine Ar (pw2 j*pw2 j-1) rfl ?_ (wr rfl (by simp only[inK];omega))
 refine Ar (pw2 j*pw2 j) rfl ?_ (wr rfl (by simp only[inK];omega))
 refine Ar (pw2 j*pw2 j+1) rfl ?_ (wr rfl (by simp only[inK];omega))
 refine Ce rfl (R2.Frac_ok (a:=pw2 j*pw2 j-1) (b:=pw2 j*pw2 j+1) (by omega) (by omega) (by omega)) ?_
 refine Ar (2*pw2 j) rfl ?_ (wr rfl (by simp only[inK];omega))
 refine Ar (pw2 j*pw2 j) rfl ?_ (wr rfl (by simp only[inK];omega))
 refine Ar (pw2 j*pw2 j+1) rfl ?_ (wr rfl (by simp only[inK];omega))
 refine Ce rfl (R2.Frac_ok (a:=2*pw2 j) (b:=pw2 j*pw2 j+1) (by omega) (by omega) (by omega)) ?_
 have fin:∀m:Rat×Rat,m=ad p (R47.rotQ (sb q p) (mdE cw j))->Qp 10000 m:=λm e=>by
  rw[e]
  have h1:=(Yer ⟨j,hj⟩ cw).2
  exact R47.Qp.mono' (Yc5 hk.hp (Yc5 (Xxy hv h1.1) (Xxy hl h1.2))) (by decide)
 cases cw with
 | false =>
  refine No rfl nofun ?_
  have k1:=Xxy hv m1
  have k2:=Xxy hl m2
  have k3:=Yc5 k1 k2
  refine Dw rfl ?_
  refine Ce rfl R9.FromRat_ok ?_
  refine Cn [(1000001,10)] rfl (Xg2 hv m1) λv hv'=>?_
  subst hv'
  refine Ce rfl (Ygq hv) ?_
  refine Ce rfl R9.FromRat_ok ?_
  refine Cn [(1000001,10)] rfl (Xg2 hl m2) λv hv'=>?_
  subst hv'
  refine Cn [(1000001,10)] rfl (Xnb k1 k2) λv hv'=>?_
  subst hv'
  refine Cn [(1000001,10)] rfl (Xnb hk.hp k3) λv hv'=>?_
  subst hv'
  have hm:=fin (ad p (ad (sc (sb q p) (mdN j)) (sc (lf (sb q p)) (mdS j)))) rfl
  refine Ce rfl (Xxi hk hm) ?_
  refine By rfl (λh=>?_) λh=>?_
  . exact Rt rfl (.one (.rf rfl) rfl rfl) ⟨_,rfl,0,(),[],[],_,W0,(gv0 hm).mono (by decide),h.1⟩
  . refine No rfl (show ¬pw2 j>268435456 by omega) ?_
    refine Ar (2*pw2 j) rfl ?_ (wr rfl (by simp only[inK];omega))
    exact Bk (j+1) [] rfl (e3 h) (by show 4-(j+1)<4-j;omega)
 | true =>
  refine Yes rfl rfl ?_
  refine Ce rfl (Ygm m2) ?_
  have k1:=Xxy hv m1
  have k2:=Xxy hl m2.neg
  have k3:=Yc5 k1 k2
  refine Dw rfl ?_
  refine Ce rfl R9.FromRat_ok ?_
  refine Cn [(1000001,10)] rfl (Xg2 hv m1) λv hv'=>?_
  subst hv'
  refine Ce rfl (Ygq hv) ?_
  refine Ce rfl R9.FromRat_ok ?_
  refine Cn [(1000001,10)] rfl (Xg2 hl m2.neg) λv hv'=>?_
  subst hv'
  refine Cn [(1000001,10)] rfl (Xnb k1 k2) λv hv'=>?_
  subst hv'
  refine Cn [(1000001,10)] rfl (Xnb hk.hp k3) λv hv'=>?_
  subst hv'
  have hm:=fin (ad p (ad (sc (sb q p) (mdN j)) (sc (lf (sb q p)) (-(mdS j))))) rfl
  refine Ce rfl (Xxi hk hm) ?_
  refine By rfl (λh=>?_) λh=>?_
  . exact Rt rfl (.one (.rf rfl) rfl rfl) ⟨_,rfl,0,(),[],[],_,W0,(gv0 hm).mono (by decide),h.1⟩
  . refine No rfl (show ¬pw2 j>268435456 by omega) ?_
    refine Ar (2*pw2 j) rfl ?_ (wr rfl (by simp only[inK];omega))
    exact Bk (j+1) [] rfl (e3 h) (by show 4-(j+1)<4-j;omega)
theorem Ye5(hk:Kv.ok ⟨false,cw,q,t,p⟩): OnP (K:=0) () ⟨false,cw,q,t,p⟩ (sc (ad q t) (Rat.divInt 1 2)):=by
 obtain⟨h,hh⟩:∃h:Rat,h=Rat.divInt 1 2:=⟨_,rfl⟩
 have h2:h+h=1:=by rw[hh];decide +kernel
 have h0:0<=h:=by rw[hh];decide +kernel
 have hn:=W7u h0 (W2i (Xmv (p:=sb t q) (Xef (hk.seg rfl))))
 rw[<-hh]
 have e:sb (sc (ad q t) h) q=sc (sb t q) h:=W1h (show (q.1+t.1)*h+-q.1=(t.1+-q.1)*h by grind) (show (q.2+t.2)*h+-q.2=(t.2+-q.2)*h by grind)
 have e2:d0 (sb t q) (sc (sb t q) h)=h*d0 (sb t q) (sb t q):=by show (t.1+-q.1)*((t.1+-q.1)*h)+(t.2+-q.2)*((t.2+-q.2)*h)=h*((t.1+-q.1)*(t.1+-q.1)+(t.2+-q.2)*(t.2+-q.2));grind
 refine⟨?_,?_,?_⟩
 . show x0 (sb t q) (sb (sc (ad q t) h) q)=0
   rw[e]
   show -(t.2+-q.2)*((t.1+-q.1)*h)+(t.1+-q.1)*((t.2+-q.2)*h)=0
   grind
 . show 0<=Xcr (d0 (sb t q) (sb (sc (ad q t) h) q))
   rw[e,e2]
   exact Ymn.2 hn
 . show 0<=Xcr (d0 (sb t q) (sb t q)+-(d0 (sb t q) (sb (sc (ad q t) h) q)))
   rw[e,e2]
   have e3:d0 (sb t q) (sb t q)+-(h*d0 (sb t q) (sb t q))=h*d0 (sb t q) (sb t q):=by grind
   rw[e3]
   exact Ymn.2 hn
theorem Xsm(hk:Kv.ok ⟨false,cw,q,t,p⟩): C0 7 [.d (dC (Kv.c ⟨false,cw,q,t,p⟩))] (λr=>∃m,r=.d (dV m)/\Hit ⟨false,cw,q,t,p⟩ m):=by
 have h2:Qs 3 (Rat.divInt 1 2):=by decide +kernel
 have h3:=Yc5 hk.hq hk.ht
 refine En Tryz.func7 λ_ _ _=>?_
 refine Yes rfl nofun ?_
 refine Cn [(1000001,10)] rfl (Xnb hk.hq hk.ht) λv hv'=>?_
 subst hv'
 refine Ce rfl (R9.Frac_ok (a:=1) (b:=2) (by decide) (by decide) (by decide)) ?_
 refine Cn [(1000001,10)] rfl (Xg2 h3 h2) λv hv'=>?_
 subst hv'
 exact Rt rfl (.one (.rf rfl) rfl rfl) ⟨_,rfl,0,(),[],[],_,W0,(gv0 (Xxy h3 h2)).mono (by decide),Ye5 hk⟩
theorem Xxq{d:Dft}(h:d.ok)(hv:R47.vlD d): C0 7 [.d (dC (kv d).c)] (λr=>∃m,r=.d (dV m)/\Hit (kv d) m):=by
 have hk:=Xzp h hv
 obtain⟨arc,cw,a1,a2,b1,b2,st,un⟩:=d
 cases arc with
 | false=>exact Xsm hk
 | true=>exact Xsn hk (W1z st (by decide)) rfl
end
def Sid{K:Nat}(G:Tw K)(o:F4)(n:Nat)(x:V2 K): Prop:=∀i,i<4->0<=sgn K G (add K (rat K (mx n o i)) (neg K (Xao G (emb K (ax i)) x)))
def Ins(o:F4)(n:Nat)(x:Vn): Prop:=∃(K:Nat) (G:Tw K) (S:List (Tow.El K)) (N:List Nm) (px:V2 K),Wn G S N/\Gv G S N 4 x px/\Sid G o n px
theorem Hit.ins{k:Kv}{x:Vn}{o:F4}{n:Nat}(hk:k.ok)(hb:∀i,i<4->Bd k (ax i) (mx n o i))(h:Hit k x): Ins o n x:=by
 obtain⟨K,G,S,N,px,W,hx,ho⟩:=h
 exact⟨K,G,S,N,px,W,hx,λi hi=>(hb i hi).side hk Ynw W.w.g ho⟩
theorem Xwd{q:Rat×Rat}{o:F4}{n:Nat}(hq:Qp 64 q)(h:∀i,i<4->d0 (ax i) q<=mx n o i): Ins o n (v0 q):=⟨0,(),[],[],q,W0,(gv0 hq).mono (by decide),λi hi=>Xh5 (K:=0) (G:=()) trivial (h i hi)⟩
theorem Sid.le{K:Nat}{G:Tw K}{o:F4}{n:Nat}{x:V2 K}(hR:Xbx K G)(h:Sid G o n x): sgn K G (add K (rat K (qb o.a n)) (neg K x.1))<=0/\sgn K G (add K x.1 (neg K (rat K (-(qb o.c n)))))<=0/\sgn K G (add K (rat K (qb o.b n)) (neg K x.2))<=0/\sgn K G (add K x.2 (neg K (rat K (-(qb o.e n)))))<=0:=by
 have Sg:=Xak hR
 have L:=Xax K G
 obtain⟨x,y⟩:=x
 have m1:(rat K (-1):Tow.El K)=neg K (rat K 1):=by rw[<-Xa4]
 have lo:∀c z:Tow.El K,∀w:Tow.El K,0<=sgn K G w->w=neg K (add K c (neg K z))->sgn K G (add K c (neg K z))<=0:=λc z w h e=>by
  rw[e,Sg.sn] at h;omega
 have h0:=h 0 (by decide)
 have h1:=h 1 (by decide)
 have h2:=h 2 (by decide)
 have h3:=h 3 (by decide)
 have a2:add K (rat K (-(qb o.a n))) (neg K (add K (mul K G (rat K (-1)) x) (mul K G (rat K 0) y)))=neg K (add K (rat K (qb o.a n)) (neg K x)):=by
  rw[m1,Xa6,Xa4]
  generalize rat K (qb o.a n)=c
  exact(Laws.req L [c,x,y] (.add (.neg (.v 0)) (.neg (.add (.mul (.neg .o) (.v 1)) (.mul .z (.v 2))))) (.neg (.add (.v 0) (.neg (.v 1)))) (by decide +kernel))
 have a3:add K (rat K (-(qb o.b n))) (neg K (add K (mul K G (rat K 0) x) (mul K G (rat K (-1)) y)))=neg K (add K (rat K (qb o.b n)) (neg K y)):=by
  rw[m1,Xa6,Xa4]
  generalize rat K (qb o.b n)=c
  exact(Laws.req L [c,x,y] (.add (.neg (.v 0)) (.neg (.add (.mul .z (.v 1)) (.mul (.neg .o) (.v 2))))) (.neg (.add (.v 0) (.neg (.v 2)))) (by decide +kernel))
 have a0:add K (rat K (-(qb o.c n))) (neg K (add K (mul K G (rat K 1) x) (mul K G (rat K 0) y)))=neg K (add K x (neg K (rat K (-(qb o.c n))))):=by
  rw[Xa6]
  generalize rat K (-(qb o.c n))=c
  exact(Laws.req L [c,x,y] (.add (.v 0) (.neg (.add (.mul .o (.v 1)) (.mul .z (.v 2))))) (.neg (.add (.v 1) (.neg (.v 0)))) (by decide +kernel))
 have a1:add K (rat K (-(qb o.e n))) (neg K (add K (mul K G (rat K 0) x) (mul K G (rat K 1) y)))=neg K (add K y (neg K (rat K (-(qb o.e n))))):=by
  rw[Xa6]
  generalize rat K (-(qb o.e n))=c
  exact(Laws.req L [c,x,y] (.add (.v 0) (.neg (.add (.mul .z (.v 1)) (.mul .o (.v 2))))) (.neg (.add (.v 2) (.neg (.v 0)))) (by decide +kernel))
 exact⟨lo _ _ _ h2 a2,lo _ _ _ h0 a0,lo _ _ _ h3 a3,lo _ _ _ h1 a1⟩
theorem Xmg{o:F4}{n:Nat}{x:Vn}(ho:BdL o)(hn:n<=20)(h:Ins o n x): C0 9 [.d (Yao o n),.d (dV x)] (·=.b true):=by
 obtain⟨K,G,S,N,px,W,hx,hs⟩:=h
 obtain⟨s1,s2,s3,s4⟩:=hs.le (Xae W.w.g)
 have q1:=Xhx W (Xy2 ho.1 hn)
 have q2:=Xhx W (Xy2 ho.2.1 hn)
 have q3:=Xhx W (Xy2 ho.2.2.1 hn).neg
 have q4:=Xhx W (Xy2 ho.2.2.2 hn).neg
 refine En Tryz.func9 λ_ _ _=>?_
 refine Dw rfl ?_
 refine Ce rfl R9.FromRat_ok ?_
 refine Ce rfl (R9.Cmp_g W q1 hx.x (by decide) (by decide)) ?_
 refine Dw rfl ?_
 refine Ce rfl R9.FromRat_ok ?_
 refine Ce rfl (R9.Cmp_g W hx.x q3 (by decide) (by decide)) ?_
 refine Dw rfl ?_
 refine Ce rfl R9.FromRat_ok ?_
 refine Ce rfl (R9.Cmp_g W q2 hx.y (by decide) (by decide)) ?_
 refine Dw rfl ?_
 refine Ce rfl R9.FromRat_ok ?_
 refine Ce rfl (R9.Cmp_g W hx.y q4 (by decide) (by decide)) ?_
 refine Yes rfl s1 ?_
 refine Yes rfl s2 ?_
 refine Yes rfl s3 ?_
 exact Rt rfl (.one (.rf rfl) rfl rfl) (by rw[P11.dcT s4])
end
section
open Go.Proofs.YtchflpokfamkhaaGreatDoor.P55 (v0 W0 g0 gv0 zw Xec Qp nr qb)
theorem Yfx{c d:Kv}(hc:c.ok)(hd:d.ok): CN0 33 [.ptr 1000001 0,.d (dC c.c),.d (dC d.c)] [(1000001,cal)] (Cds 4):=by
 have four:∀ {P:List Vn},(∀x∈P,x=v0 c.q\/x=v0 c.t\/x=v0 d.q\/x=v0 d.t)->P.length<=4->Cds 4 (.d (dVs P)):=λ{P} h hn=>Cds.rat (λx hx=>by
  rcases h x hx with e | e | e | e
  . exact⟨_,e,R47.Qp.mono' hc.hq (by decide)⟩
  . exact⟨_,e,R47.Qp.mono' hc.ht (by decide)⟩
  . exact⟨_,e,R47.Qp.mono' hd.hq (by decide)⟩
  . exact⟨_,e,R47.Qp.mono' hd.ht (by decide)⟩) hn
 have up:∀ {v:AV},Cds 2 v->Cds 4 v:=λ{v} ⟨P,e,hn,h⟩=>⟨P,e,by omega,h⟩
 have hS:=Ygi hc hd
 have hF:=Yc9 hc
 have hG:=Yc9 hd
 have h1:=Xsb hc hd
 have h2:c.arc=true->d.arc=false->CN0 78 [.ptr 1000001 0,.d (dC d.c),.d (dC c.c)] [(1000001,cal)] (Cds 2):=λ_ e=>Yc1 hd hc (hd.seg e)
 have h3:c.arc=false->CN0 78 [.ptr 1000001 0,.d (dC c.c),.d (dC d.c)] [(1000001,cal)] (Cds 2):=λe=>Yc1 hc hd (hc.seg e)
 have h4:=Xzm hc hd
 obtain⟨arc,cw,q,t,p⟩:=c
 obtain⟨arc',cw',q',t',p'⟩:=d
 refine EnW Tryz.func33 λ_ _ _ _=>?_
 refine Ca rfl hS λv hv=>?_
 obtain⟨b,rfl⟩:=hv
 cases b with
 | true =>
  refine Yes rfl rfl ?_
  refine Ca rfl hF λv hv=>?_
  obtain⟨b1,rfl⟩:=hv
  cases b1 with
  | false =>
   refine Yes rfl nofun ?_
   refine ApN ([v0 q,v0 t].map dV) rfl rfl (show 2<=1099511627776 by decide) ?_
   refine Ca rfl hG λv hv=>?_
   obtain⟨b2,rfl⟩:=hv
   cases b2 with
   | false =>
    refine Yes rfl nofun ?_
    refine ApG ([v0 q,v0 t,v0 q',v0 t'].map dV) rfl rfl (show 4<=1099511627776 by decide) ?_
    refine No rfl (λh=>by cases h) ?_
    exact Rw [] [(1000001,cal)] rfl (.one (.gr rfl) rfl rfl) ⟨rfl,four (P:=[v0 q,v0 t,v0 q',v0 t']) (λx hx=>by simpa using hx) (show 4<=4 by decide)⟩
   | true =>
    refine No rfl (λh=>h rfl) ?_
    refine No rfl (λh=>by cases h) ?_
    exact Rw [] [(1000001,cal)] rfl (.one (.gr rfl) rfl rfl) ⟨rfl,four (P:=[v0 q,v0 t]) (λx hx=>by simp at hx;rcases hx with e | e;exact .inl e;exact .inr (.inl e)) (show 2<=4 by decide)⟩
  | true =>
   refine No rfl (λh=>h rfl) ?_
   refine Ca rfl hG λv hv=>?_
   obtain⟨b2,rfl⟩:=hv
   cases b2 with
   | false =>
    refine Yes rfl nofun ?_
    refine ApN ([v0 q',v0 t'].map dV) rfl rfl (show 2<=1099511627776 by decide) ?_
    refine No rfl (λh=>by cases h) ?_
    exact Rw [] [(1000001,cal)] rfl (.one (.gr rfl) rfl rfl) ⟨rfl,four (P:=[v0 q',v0 t']) (λx hx=>by simp at hx;rcases hx with e | e;exact .inr (.inr (.inl e));exact .inr (.inr (.inr e))) (show 2<=4 by decide)⟩
   | true =>
    refine No rfl (λh=>h rfl) ?_
    refine Yes rfl rfl ?_
    refine ApN ([v0 q].map dV) rfl rfl (show 1<=1099511627776 by decide) ?_
    exact Rw [] [(1000001,cal)] rfl (.one (.gr rfl) rfl rfl) ⟨rfl,four (P:=[v0 q]) (λx hx=>.inl (W0e.1 hx)) (show 1<=4 by decide)⟩
 | false =>
  refine No rfl nofun ?_
  cases arc with
  | true =>
   cases arc' with
   | true =>
    refine Yes rfl rfl ?_
    refine Yes rfl rfl ?_
    refine Cn [] rfl h1 λv hv=>?_
    obtain⟨P,rfl,hP⟩:=hv
    exact Rw [] [(1000001,cal)] rfl (.one (.rf rfl) rfl rfl) ⟨rfl,up ⟨P,rfl,hP⟩⟩
   | false =>
    refine Yes rfl rfl ?_
    refine No rfl nofun ?_
    refine Yes rfl rfl ?_
    refine Cn [] rfl (h2 rfl rfl) λv hv=>?_
    obtain⟨P,rfl,hP⟩:=hv
    exact Rw [] [(1000001,cal)] rfl (.one (.rf rfl) rfl rfl) ⟨rfl,up ⟨P,rfl,hP⟩⟩
  | false =>
   cases arc' with
   | true =>
    refine No rfl nofun ?_
    refine No rfl nofun ?_
    refine Yes rfl rfl ?_
    refine Cn [] rfl (h3 rfl) λv hv=>?_
    obtain⟨P,rfl,hP⟩:=hv
    exact Rw [] [(1000001,cal)] rfl (.one (.rf rfl) rfl rfl) ⟨rfl,up ⟨P,rfl,hP⟩⟩
   | false =>
    refine No rfl nofun ?_
    refine No rfl nofun ?_
    refine No rfl nofun ?_
    refine Cn [] rfl h4 λv hv=>?_
    obtain⟨P,rfl,hP⟩:=hv
    exact Rw [] [(1000001,cal)] rfl (.one (.rf rfl) rfl rfl) ⟨rfl,up ⟨P,rfl,hP⟩⟩
theorem lV{l:List Vn}: (l.map dV).length=l.length:=W0l ..
theorem Xxn{K:Nat}{G:Tw K}{S:List (Tow.El K)}{N:List Nm}{k:Kv}{l:List Vn}(W:Wn G S N)(hk:k.ok)(hl:l.length<=8)(H:∀x∈l,∃px,Gv G S N 4 x px/\OnP G k px): C0 35 [.d (dC k.c),.d (dVs l)] (λr=>∃P,r=.d (dVs P)/\P.length<=8/\∀x∈P,x∈l):=by
 refine En Tryz.func35 λ_ _ _=>?_
 refine Nd 6 4 rfl ?_
 refine Lo (λ((i,P):Nat×List Vn)=>[(1,.d (dVs l)),(2,.ptr 2 0),(5,.ptr 11 0),(6,.d (dVs P)),(7,.d (.int .i64 i))]) (λ_=>[(2,.var (.d (dC k.c))),(11,cal)]) (λ(i,P)=>i<=l.length/\P.length<=i/\∀x∈P,x∈l) (λ(i,_)=>l.length-i) (0,[]) [] rfl ⟨W1a _,W0b _,nofun⟩ λ(i,P) ⟨hi,hP,hm⟩=>?_
 have hP:P.length<=i:=hP
 have hi:i<=l.length:=hi
 refine By rfl (λh=>?_) λh=>?_<;>rw[lV] at h
 rotate_left
 . exact Rt rfl (.one (.rf rfl) rfl rfl) ⟨P,rfl,by omega,hm⟩
 obtain⟨x,hx⟩:∃x,l[i]?=some x:=⟨_,W0c (by omega)⟩
 have hxl:=W0o hx
 obtain⟨px,gx,ox⟩:=H x hxl
 refine Cu (some 1000002) (λj:Nat=>[(1,.d (dVs l)),(2,.ptr 2 0),(5,.ptr 11 0),(6,.d (dVs P)),(7,.d (.int .i64 i)),(8,.d (.int .i64 j))]) (λ_=>[(2,.var (.d (dC k.c))),(11,cal)]) (λj=>j<=P.length) rfl ?_ λj hj=>?_
 . refine Lo (λj:Nat=>[(1,.d (dVs l)),(2,.ptr 2 0),(5,.ptr 11 0),(6,.d (dVs P)),(7,.d (.int .i64 i)),(8,.d (.int .i64 j))]) (λ_=>[(2,.var (.d (dC k.c))),(11,cal)]) (λj=>j<=P.length) (λj=>P.length-j) 0 [] rfl (W1a _) λj hj=>?_
   refine Dw rfl ?_
   refine By rfl (λh2=>?_) λh2=>?_<;>rw[lV] at h2
   . obtain⟨y,hy⟩:∃y,P[j]?=some y:=⟨_,W0c (by omega)⟩
     obtain⟨py,gy,oy⟩:=H y (hm y (W0o hy))
     refine Ix j rfl (mp hy) ?_
     refine Ix i rfl (mp hx) ?_
     refine Cn [(1000001,11)] rfl (Xzf W hk gy gx oy ox) λv hv=>?_
     obtain⟨o,rfl⟩:=hv
     refine By rfl (λh3=>?_) λh3=>?_
     . refine Ar (j+1:Nat) rfl ?_
       exact Bk (j+1) [] rfl (by omega) (by show P.length-(j+1)<P.length-j;omega)
     . exact Jn j [] rfl hj
   . exact Jn j [] rfl hj
 have go:∀Q:List Vn,Q.length<=i+1->(∀x∈Q,x∈l)->(i+1<=l.length/\Q.length<=i+1/\∀x∈Q,x∈l):=λQ h1 h2=>⟨by omega,h1,h2⟩
 have ins:∀y∈P.take j++[x]++P.drop j,y∈l:=λy hy=>by
  rcases W2k.1 hy with hy | hy
  . rcases W2k.1 hy with hy | hy
    . exact hm y (W6g hy)
    . obtain rfl:=W0e.1 hy;exact hxl
  . exact hm y (List.mem_of_mem_drop hy)
 have insl:(P.take j++[x]++P.drop j).length=P.length+1:=by
  rw[W0d,W0d,W0i,W2d,W4g];omega
 have rest:∀b:Bool,True:=λ_=>trivial
 refine Cu (some 9) (λb:Bool=>[(1,.d (dVs l)),(2,.ptr 2 0),(5,.ptr 11 0),(6,.d (dVs P)),(7,.d (.int .i64 i)),(8,.d (.int .i64 j)),(52,.b b)]) (λ_=>[(2,.var (.d (dC k.c))),(11,cal)]) (λ_=>True) rfl ?_ λb _=>?_
 . refine Dw rfl ?_
   refine By rfl (λh2=>?_) λh2=>?_<;>rw[lV] at h2
   . obtain⟨y,hy⟩:∃y,P[j]?=some y:=⟨_,W0c (by omega)⟩
     obtain⟨py,gy,oy⟩:=H y (hm y (W0o hy))
     refine Ix j rfl (mp hy) ?_
     refine Ix i rfl (mp hx) ?_
     refine Ce rfl (R13.Equal_g W gy gx (by decide) (by decide)) ?_
     exact Jn _ [] rfl trivial
   . exact Jn false [] rfl trivial
 refine By rfl (λh3=>?_) λh3=>?_
 . refine Ar (i+1:Nat) rfl ?_
   exact Bk (i+1,P) [] rfl (go P (by omega) hm) (by show l.length-(i+1)<l.length-i;omega)
 refine Tk j ((P.take j).map dV) rfl rfl (by rw[lV];exact hj) (by rw[W2v]) ?_
 by_cases h0:j=0
 . subst h0
   refine ApE rfl rfl (by decide) ?_
   refine Ix i rfl (mp hx) ?_
   refine ApL ([x].map dV) rfl rfl (W5r _) (show 1<=1099511627776 by decide) ?_
   refine Dp 0 ((P.drop 0).map dV) rfl rfl (W1a _) (by rw[W6i]) ?_
   refine ApO (([x]++P.drop 0).map dV) rfl rfl rfl (by rw[W1u]) (by rw[lV];simp;omega) ?_
   refine Fz 5 6 (([x]++P.drop 0).map dV) rfl (by omega) (by rw[W0x];exact W0a (W0b _)) ?_
   refine Ar (i+1:Nat) rfl ?_
   exact Bk (i+1,[x]++P.drop 0) [] rfl (go _ (by simp;omega) ins) (by show l.length-(i+1)<l.length-i;omega)
 . refine ApL ((P.take j).map dV) rfl rfl (by rw[lV,W0i];omega) (by rw[lV,W0i];omega) ?_
   refine Ix i rfl (mp hx) ?_
   refine ApO ((P.take j++[x]).map dV) rfl rfl rfl (by rw[W1u];rfl) (by rw[lV,W0d,W0i];simp;omega) ?_
   refine Dp j ((P.drop j).map dV) rfl rfl (by rw[lV];exact hj) (by rw[W6i]) ?_
   refine ApO ((P.take j++[x]++P.drop j).map dV) rfl rfl rfl (by rw[W1u (l₁:=P.take j++[x])]) (by rw[lV,insl];omega) ?_
   refine Fz 5 6 ((P.take j++[x]++P.drop j).map dV) rfl (by omega) (by rw[W0x];exact W0a (W0b _)) ?_
   refine Ar (i+1:Nat) rfl ?_
   exact Bk (i+1,P.take j++[x]++P.drop j) [] rfl (go _ (by rw[insl];omega) ins) (by show l.length-(i+1)<l.length-i;omega)
theorem Ygp{c d:Kv}(hc:c.ok)(hd:d.ok): C0 8 [.d (dC c.c),.d (dC d.c)] (λr=>∃P,r=.tup (.pr (.d (dVs P)) (.d (.int .i64 0)))/\P.length<=8/\∀x∈P,Hit d x):=by
 refine En Tryz.func8 λ_ _ _=>?_
 refine Cn [(1000001,11)] rfl (Yfx hc hd) λv hv=>?_
 obtain⟨P,rfl,hP,K,G,S,N,W,hW⟩:=hv
 refine No rfl (by decide) ?_
 refine Nl 8 8 4 rfl ?_
 refine Lo (λ((i,Q):Nat×List Vn)=>[(2,.ptr 2 0),(3,.ptr 3 0),(7,.d (dVs P)),(8,.gr 8 4 (Q.map dV)),(9,.d (.int .i64 i))]) (λ(i,Q)=>[(2,.var (.d (dC c.c))),(3,.var (.d (dC d.c))),(8,.tok (Q.map dV).length 4)]) (λ(i,Q)=>i<=P.length/\Q.length<=i/\∀x∈Q,∃px:V2 K,Gv G S N 4 x px/\OnP G c px/\OnP G d px) (λ(i,_)=>P.length-i) (0,[]) [] rfl ⟨W1a _,W0b _,nofun⟩ λ(i,Q) ⟨hi,hQ,hm⟩=>?_
 have hQ:Q.length<=i:=hQ
 have hi:i<=P.length:=hi
 refine By rfl (λh=>?_) λh=>?_<;>rw[lV] at h
 . obtain⟨x,hx⟩:∃x,P[i]?=some x:=⟨_,W0c (by omega)⟩
   obtain⟨px,gx,_⟩:=hW x (W0o hx)
   have stay:i+1<=P.length/\Q.length<=i+1/\∀x∈Q,∃px:V2 K,Gv G S N 4 x px/\OnP G c px/\OnP G d px:=⟨by omega,by omega,hm⟩
   refine Dw rfl ?_
   refine Ix i rfl (mp hx) ?_
   refine Ce rfl (Yn6 W hc gx (by decide)) ?_
   refine By rfl (λh1=>?_) λh1=>?_
   . refine Ix i rfl (mp hx) ?_
     refine Ce rfl (Yn6 W hd gx (by decide)) ?_
     refine By rfl (λh2=>?_) λh2=>?_
     . refine Ix i rfl (mp hx) ?_
       refine ApG ((Q++[x]).map dV) rfl (by rw[W1u];rfl) (by rw[lV,W0d,W4g];omega) ?_
       refine Ar (i+1:Nat) rfl ?_
       exact Bk (i+1,Q++[x]) [(51,8)] rfl ⟨by omega,by rw[W0d,W4g];omega,λy hy=>by
        rcases W2k.1 hy with hy | hy
        . exact hm y hy
        . obtain rfl:=W0e.1 hy;exact⟨px,gx,h1,h2⟩⟩ (by show P.length-(i+1)<P.length-i;omega)
     . refine Ar (i+1:Nat) rfl ?_
       exact Bk (i+1,Q) [] rfl stay (by show P.length-(i+1)<P.length-i;omega)
   . refine Ar (i+1:Nat) rfl ?_
     exact Bk (i+1,Q) [] rfl stay (by show P.length-(i+1)<P.length-i;omega)
 . refine Ca rfl (Xxn W hc (l:=Q) (by omega) λx hx=>let ⟨px,a,b,_⟩:=hm x hx;⟨px,a,b⟩) λv hv=>?_
   obtain⟨R,rfl,hR,hRm⟩:=hv
   exact Rt rfl (.tup (.cons (.rf rfl) Xbg)) ⟨R,rfl,hR,λx hx=>let ⟨px,a,_,b⟩:=hm x (hRm x hx);⟨K,G,S,N,px,W,a,b⟩⟩
def Ypx(l P:List Vn): Bool->AV
 | false=>.lit 4 (l.map dV)
 | true=>.own 600 4 0 ((l++P).map dV).length
def Ypw(l P:List Vn): Bool->Hpl
 | false=>[]
 | true=>[(600,.arr 4 ((l++P).map dV))]
theorem DrawingContains_ok{l:List Dft}{n:Nat}(hl:l.length<9223372036854775808)(hd:∀x∈l,x.ok)(hn:n<256): C0 3 [.d (Yfp l),.d (.int .u8 n)] (·=.b true):=by
 refine En Tryz.func3 λ_ _ _=>?_
 refine Ca rfl (R47.Curves_ok (n:=3) hl (by decide) hd) λv hv=>?_
 rcases hv with ⟨rfl,_⟩ | ⟨rfl,h3,hv⟩
 . refine Ce rfl P55.aw55_ok ?_
   refine No rfl (λh=>h rfl) ?_
   refine Yes rfl nofun ?_
   refine Ce rfl P55.aw55_ok ?_
   exact R0
 have lm:((l.map R47.cvD).map dC).length=l.length:=by rw[W0l,W0l]
 refine Ce rfl P55.aw55_ok ?_
 refine No rfl (λh=>h rfl) ?_
 refine No rfl (λh=>h rfl) ?_
 refine By rfl (λh=>?_) λh=>?_<;>rw[lm] at h
 . refine Ce rfl P55.aw55_ok ?_
   exact R0
 refine By rfl (λh20=>?_) λh20=>?_
 . refine Ce rfl P55.aw55_ok ?_
   exact R0
 have h20:n<=20:=by omega
 obtain⟨o,ho,hB,hS⟩:=Ykx (l:=l) h20 (by omega) (by omega) λx hx=>⟨hd x hx,hv x hx⟩
 refine Go.Vm.Cv (n:Nat) rfl ?_ (wI (by omega))
 refine Ce rfl hB ?_
 refine No rfl (by decide) ?_
 refine Lo (λi:Nat=>[(5,.d (Xe8 (l.map R47.cvD))),(7,.ptr 7 0),(46,.d (Xe8 (l.map R47.cvD))),(47,.d (.int .i64 ((l.map R47.cvD).map dC).length)),(48,.d (.int .i64 i))]) (λ_=>[(7,.var (.d (Yao o n)))]) (λi=>i<=l.length) (λi=>l.length-i) 0 [] rfl (W1a _) λi hi=>?_
 refine By rfl (λh4=>?_) λh4=>?_<;>rw[lm] at h4
 rotate_left
 . exact R0
 obtain⟨d,hdi⟩:∃d,l[i]?=some d:=⟨_,W0c (by omega)⟩
 obtain⟨d0',hd0⟩:∃d,l[0]?=some d:=⟨_,W0c (by omega)⟩
 have hdm:=W0o hdi
 have hdm0:=W0o hd0
 have ci:((l.map R47.cvD).map dC)[i]?=some (dC (kv d).c):=by rw[W1d,W1d,hdi,Yo0];rfl
 have c0:((l.map R47.cvD).map dC)[0]?=some (dC (kv d0').c):=by rw[W1d,W1d,hd0,Yo0];rfl
 have hk:=Xzp (hd d hdm) (hv d hdm)
 have hk0:=Xzp (hd d0' hdm0) (hv d0' hdm0)
 have hs:=hS d hdm
 have ia:Ins o n (v0 (kv d).q):=Xwd hk.hq λi hi=>(hs i hi).q
 have ib:Ins o n (v0 (kv d).t):=Xwd hk.ht λi hi=>(hs i hi).t
 refine Ix i rfl ci ?_
 refine Dw rfl ?_
 refine Ca rfl (Xxq (hd d hdm) (hv d hdm)) λv hv'=>?_
 obtain⟨m,rfl,hm⟩:=hv'
 have im:=hm.ins hk hs
 refine Dw rfl ?_
 refine Ix 0 rfl c0 ?_
 refine Ca rfl (Ygp hk0 hk) λv hv'=>?_
 obtain⟨P,rfl,hP8,hP⟩:=hv'
 have c3:C0 10 [.d (Yao o n)] (·=.d (Yao o n)):=P55.box55_ok
 have hA:∀x∈[v0 (kv d).q,v0 (kv d).t,m]++P,Ins o n x:=λx hx=>by
  rcases W2k.1 hx with hx | hx
  . simp only[W1l,W5t,or_false] at hx
    rcases hx with rfl | rfl | rfl
    . exact ia
    . exact ib
    . exact im
  . exact(hP x hx).ins hk hs
 have hA3:∀x∈[v0 (kv d).q,v0 (kv d).t,m],Ins o n x:=λx hx=>hA x (W2a _ hx)
 have lit:True:=trivial
 refine Cu none (λu:Bool=>[(5,.d (Xe8 (l.map R47.cvD))),(7,.ptr 7 0),(46,.d (Xe8 (l.map R47.cvD))),(47,.d (.int .i64 ((l.map R47.cvD).map dC).length)),(48,.d (.int .i64 i)),(11,Ypx [v0 (kv d).q,v0 (kv d).t,m] P u)]) (λu=>(7,.var (.d (Yao o n)))::Ypw [v0 (kv d).q,v0 (kv d).t,m] P u) (λ_=>True) rfl ?_ λu _=>?_
 . refine By rfl (λh5=>?_) λh5=>?_
   . cases hPe:P with
     | nil =>
      refine ApE rfl rfl (show 3<=1099511627776 by decide) ?_
      exact Jn false [] rfl trivial
     | cons y P' =>
      subst hPe
      refine ApL (([v0 (kv d).q,v0 (kv d).t,m]++y::P').map dV) rfl rfl (W5r _) (by rw[lV,W0d];simp at hP8 |-;omega) ?_
      exact Jn true [(72,600)] rfl trivial
   . exact Jn false [] rfl trivial
 cases u with
 | false =>
  refine Lo (λj:Nat=>[(5,.d (Xe8 (l.map R47.cvD))),(7,.ptr 7 0),(46,.d (Xe8 (l.map R47.cvD))),(47,.d (.int .i64 ((l.map R47.cvD).map dC).length)),(48,.d (.int .i64 i)),(73,.lit 4 ([v0 (kv d).q,v0 (kv d).t,m].map dV)),(74,.d (.int .i64 3)),(75,.d (.int .i64 j))]) (λ_=>[(7,.var (.d (Yao o n)))]) (λj=>j<=3) (λj=>3-j) 0 [] rfl (W1a _) λj hj=>?_
  refine By rfl (λh5=>?_) λh5=>?_
  . have h5:(j:Int)<3:=h5
    obtain⟨x,hx⟩:∃x,[v0 (kv d).q,v0 (kv d).t,m][j]?=some x:=⟨_,W0c (show j<3 by omega)⟩
    refine Ix j rfl (mp hx) ?_
    refine Dw rfl ?_
    refine Ce rfl c3 ?_
    refine Ce rfl (Xmg ho h20 (hA3 x (W0o hx))) ?_
    refine No rfl nofun ?_
    refine Ar (j+1:Nat) rfl ?_
    exact Bk (j+1) [] rfl (by omega) (by show 3-(j+1)<3-j;omega)
  . refine Ar (i+1:Nat) rfl ?_
    exact Bk (i+1) [] rfl (by omega) (by show l.length-(i+1)<l.length-i;omega)
 | true =>
  generalize hQe:[v0 (kv d).q,v0 (kv d).t,m]++P=Q at hA
  have hQ:Q.length<=11:=by rw[<-hQe,W0d];simp;omega
  refine Fz 14 11 (Q.map dV) rfl (by rw[hQe];omega) (by rw[hQe,W0x,W2e]) ?_
  refine Lo (λj:Nat=>[(5,.d (Xe8 (l.map R47.cvD))),(7,.ptr 7 0),(46,.d (Xe8 (l.map R47.cvD))),(47,.d (.int .i64 ((l.map R47.cvD).map dC).length)),(48,.d (.int .i64 i)),(73,.d (dVs Q)),(74,.d (.int .i64 (Q.map dV).length)),(75,.d (.int .i64 j))]) (λ_=>[(7,.var (.d (Yao o n)))]) (λj=>j<=Q.length) (λj=>Q.length-j) 0 [] rfl (W1a _) λj hj=>?_
  refine By rfl (λh5=>?_) λh5=>?_<;>rw[lV] at h5
  . obtain⟨x,hx⟩:∃x,Q[j]?=some x:=⟨_,W0c (by omega)⟩
    refine Ix j rfl (mp hx) ?_
    refine Dw rfl ?_
    refine Ce rfl c3 ?_
    refine Ce rfl (Xmg ho h20 (hA x (W0o hx))) ?_
    refine No rfl nofun ?_
    refine Ar (j+1:Nat) rfl ?_
    exact Bk (j+1) [] rfl (by omega) (by show Q.length-(j+1)<Q.length-j;omega)
  . refine Ar (i+1:Nat) rfl ?_
    exact Bk (i+1) [] rfl (by omega) (by show l.length-(i+1)<l.length-i;omega)
end
end Go.Proofs.YtchflpokfamkhaaGreatDoor.R55

/- part 7 -/
import Derived.Test.YtcmjannkbdflmaaGreatDoorXF
set_option linter.unusedVariables false
set_option linter.unusedSimpArgs false
set_option maxRecDepth 10000
namespace Go.Proofs.YtcmjannkbdflmaaGreatDoor.P57
open Go Go.Vm Go.Num Go.Tow Go.Proofs.YtcmjannkbdflmaaGreatDoor
section
open Go.Proofs.YtcmjannkbdflmaaGreatDoor.P55 (v0 W0 g0 gv0 zw Xci Qp nr Xaw Wv Xcg Xoo hdW flB)
open Go.Proofs.YtcmjannkbdflmaaGreatDoor.R55 (Yfm)
variable{q:Cq}
def dRw: Wv->D
 | .mk s=>.st (.pr (.str s) R9.n0)
 | .nu x=>.st (.pr (.str []) (dN x))
abbrev Yo6(l:List Wv): D:=.sl 3 (l.map dRw)
theorem Xe8{s:List UInt8}: C0 70 [.d (.str s)] (·=.d (dRw (.mk s))):=by
 refine En Tryz.func70 λ_ _ _=>?_
 exact R1 rfl (.sd (.pd (.rf rfl) R9.fit0))
theorem Xbe{x:Nm}: C0 71 [.d (dN x)] (·=.d (dRw (.nu x))):=by
 refine En Tryz.func71 λ_ _ _=>?_
 exact R0
theorem Xcs{b:Bool}: C0 146 [.d (.bool b)] (·=.d (dRw (.mk (flB b)))):=by
 refine C.nb (show C0 _ [.b b] _ from ?_)
 cases b with
 | true =>
  refine En Tryz.func146 λ_ _ _=>?_
  exact Yes rfl rfl<|Ce rfl Xe8<|R0
 | false =>
  refine En Tryz.func146 λ_ _ _=>?_
  exact No rfl nofun<|Ce rfl Xe8<|R0
theorem Xyx{r:Nm}{a b:Bool}{x:Vn}: C0 77 [.d (dN r),.d (.bool a),.d (.bool b),.d (dV x)] (·=.d (Yo6 (Xcg r a b x))):=by
 refine En Tryz.func77 λ_ _ _=>?_
 exact Dw rfl<|Ce rfl Xe8<|Ce rfl Xbe<|Ce rfl Xbe<|Ce rfl Xe8<|Ce rfl Xcs<|Ce rfl Xcs<|Ce rfl Xbe<|Ce rfl Xbe<|R1 rfl (.lit rfl)
theorem Yg2{p:Rat×Rat}(h:Qp 300 p): C0 326 [.d (dV (v0 p))] (·=.b (dc (Xhq (K:=0) () p))):=by
 refine En Tryz.func326 λ_ _ _=>?_
 refine Ce rfl (R9.Sign_g W0 (g0 h.2) (by decide))<|By rfl (λj=>?_) λj=>?_
 . exact Ce rfl (R9.Sign_g W0 (g0 h.1) (by decide))<|R1 rfl (.bp (Xal.trans ⟨λi=>⟨j,i⟩,λi=>i.2⟩))
 . exact R1 rfl (.bp ⟨nofun,λi=>absurd i.1 j⟩)
theorem Xtn{p:Rat×Rat}{f:Int}(h:Qp 300 p)(hf:few f): C0 229 [.d (dT (v0 p) f)] (·=.d (dT (v0 (Xfl (K:=0) p)) (P19.vopp (K:=0) () p f))):=by
 unfold few at hf
 refine En Tryz.func229 λ_ _ _=>?_
 refine Ce rfl (Yg2 h)<|By rfl (λi=>?_) λi=>?_
 . refine Ne (-f) rfl ?_ (wr (W8b _) (by simp only[inK];omega))
   refine R1 rfl (.eq ?_)
   have e:Xfl (K:=0) p=p:=W3a rfl (show -p.2=p.2 by have B:p.2=0:=(Xbu (k:=0) (t:=()) trivial).1 i.1;grind)
   unfold P19.vopp
   rw[e,if_pos i]
 . refine Dw rfl<|Ca rfl (R9.Neg_g W0 (g0 h.2) (by decide)) λv j=>?_
   obtain⟨z,rfl,A⟩:=j
   obtain rfl:=zw A.o
   refine Ne (-f) rfl ?_ (wr (W8b _) (by simp only[inK];omega))
   refine Ar (-f-1) rfl ?_ (wr rfl (by simp only[inK];omega))
   refine R1 rfl (.eq ?_)
   unfold P19.vopp
   rw[if_neg i];rfl
theorem Ymx{p:Rat×Rat}{f:Int}(h:Qp 300 p)(hf:-1000<=f/\f<=1000): C0 148 [.d (dT (v0 p) f)] (·=.d (dT (v0 (Xfl (K:=0) p)) (P19.vopp (K:=0) () p f))):=by
 have i:-2000<=P19.vopp (K:=0) () p f:=by unfold P19.vopp;split<;>omega
 refine En Tryz.func148 λ_ _ _=>?_
 exact Ce rfl (Xtn h (by unfold few;omega))<|No rfl (by omega)<|R0
theorem Yip(p:V2 0): -1000<=P19.vopp (K:=0) () p 0/\P19.vopp (K:=0) () p 0<=1000/\P19.vopp (K:=0) () (Xfl p) (P19.vopp (K:=0) () p 0)=0:=by
 have h:=Xxm p
 unfold P19.vopp
 by_cases hp:Xhq (K:=0) () p
 . rw[if_pos hp,if_pos (h.2 hp)];decide
 . rw[if_neg hp,if_neg (λe=>hp (h.1 e))];decide
theorem Xvs(h:VQ 700 q)(ha:q.arc=true)(i:q.a≠q.b): C0 147 [.d (dC (cvQ q))] (·=.d (match q.cw with
 | true=>dT (v0 (Xfl (Xjl q))) (P19.vopp (K:=0) () (Xjl q) 0)
 | false=>dT (v0 (Xjl q)) 0)):=by
 obtain⟨j,o,_,_⟩:=h.w ha
 have hd:=Xl6 h ha
 have A:=Ymx (f:=0) hd (by decide)
 have B:=R47.Full_g (c:=cvQ q) W0 ha (gv0 h.a) (gv0 h.b) (by decide) (by decide)
 have I:=R47.place_g (c:=cvQ q) (X:=v0 q.b) W0 (gv0 h.c) (gv0 h.a) (gv0 h.b) (by decide) j o
 obtain⟨arc,a,b,c,cw⟩:=q
 obtain rfl:arc=true:=ha
 refine En Tryz.func147 λ_ _ _=>?_
 refine No rfl (λh=>h rfl)<|Cn [(1000001,11)] rfl I λv M=>?_
 obtain⟨z,rfl,O⟩:=M
 obtain rfl:=Xci O
 refine Ce rfl B<|No rfl i ?_
 cases cw with
 | true =>
  exact Yes rfl rfl<|Ce rfl A<|R0
 | false =>
  exact No rfl nofun<|R0
theorem Yao(h:VQ 700 q)(ha:q.arc=true)(o:q.a≠q.b): C0 78 [.d (dC (cvQ q))] (·=.b (lgQ q)):=by
 have I:=Xvs h ha o
 have hd:=Xl6 h ha
 have A:Qp 300 (Xfl (Xjl q)):=⟨hd.1,hd.2.neg⟩
 obtain⟨O,Q,T⟩:=Yip (Xjl q)
 have B:=Ymx (f:=P19.vopp (K:=0) () (Xjl q) 0) A ⟨O,Q⟩
 have B:C0 148 [.d (dT (v0 (Xfl (Xjl q))) (P19.vopp (K:=0) () (Xjl q) 0))] (·=.d (dT (v0 (Xjl q)) 0)):=B.mono λv e=>by rw[e,Yqq,T]
 have M:=R19.Cmp_g (f:=0) (g:=0) W0 (gv0 hd) half_g (by decide)
 obtain⟨arc,a,b,c,cw⟩:=q
 cases cw with
 | true =>
  refine En Tryz.func78 λ_ _ _=>?_
  exact Ce rfl I<|Yes rfl rfl<|Ce rfl B<|Dw rfl<|Ce rfl (R13.Whole_ok (i:=-1) (j:=0) (by decide) (by decide))<|Ce rfl M<|R0
 | false =>
  refine En Tryz.func78 λ_ _ _=>?_
  exact Ce rfl I<|No rfl nofun<|Dw rfl<|Ce rfl (R13.Whole_ok (i:=-1) (j:=0) (by decide) (by decide))<|Ce rfl M<|R0
theorem Xz9(h:VQ 700 q): C0 99 [.d (dC (cvQ q))] (·=.b true):=by
 obtain⟨arc,a,b,c,cw⟩:=q
 cases arc with
 | false =>
  have i:C0 99 [.d (dC (cvQ ⟨false,a,b,c,cw⟩))] (·=.b (dc (a≠b))):=by
   refine En Tryz.func99 λ_ _ _=>?_
   exact Yes rfl nofun<|Ce rfl (R13.Equal_g W0 (gv0 h.a) (gv0 h.b) (by decide) (by decide))<|R1 rfl (.bp (by rw[W1u,W2p];exact not_congr Xal))
  exact i.mono λv e=>e.trans (congrArg AV.b (Xal.2 (h.s rfl)))
 | true =>
  obtain⟨o,B,M,_⟩:=h.u rfl
  have hp:=(h.w rfl).2.2.2
  have i:C0 99 [.d (dC (cvQ ⟨true,a,b,c,cw⟩))] (·=.b (dc (a≠c))):=by
   refine En Tryz.func99 λ_ _ _=>?_
   refine No rfl (λh=>h rfl)<|Dw rfl<|Cn [(1000001,16)] rfl (R15.Far_g W0 (gv0 h.a) (gv0 h.c) (by decide)) λv j=>?_
   obtain⟨O,rfl,A⟩:=j
   refine Cn [(1000001,16)] rfl (R15.Far_g W0 (gv0 h.b) (gv0 h.c) (by decide)) λv j=>?_
   obtain⟨Q,rfl,I⟩:=j
   refine Yes rfl rfl<|Ce rfl (R9.Sign_g W0 A (by decide)) ?_
   have h0:sgn 0 () (Xe1 (K:=0) () (Xbb (K:=0) a c) (Xbb (K:=0) a c))=1:=Xbh hp
   exact Yes rfl (by rw[h0];decide)<|Ce rfl (R9.Equal_g W0 A I (by decide) (by decide))<|R1 rfl (.bp ⟨λ_=>o,λ_=>Xal.2 B.symm⟩)
  exact i.mono λv e=>e.trans (congrArg AV.b (Xal.2 o))
theorem Xvr{R:List Cq}(U:R.length<=1000)(h0:0<R.length)(M:∀c∈R,VQ 700 c): C0 26 [.d (Xd1 (R.map cvQ))] (·=.b (dc (Lnk R))):=by
 have B:=R55.valid_ok (l:=R.map cvQ) (by simpa using U) (λc o=>by
  obtain⟨x,V,rfl⟩:=W3l.1 o
  exact Xz9 (M x V))
 refine En Tryz.func26 λ_ _ _=>?_
 refine Lo (λk:Nat=>[(0,.d (Xd1 (R.map cvQ))),(3,.d (.int .i64 k))]) (λ_=>[]) (λk=>1<=k/\k<=R.length/\∀i c d,i+1<k->R[i]?=some c->R[i+1]?=some d->c.b=d.a) (λk=>R.length-k) 1 [] rfl ⟨W0c _,h0,λ_ _ _ h=>absurd h (by omega)⟩ λk ⟨Y,hk,T⟩=>?_
 refine By rfl (λh=>?_) λh=>?_<;>simp only[lQ] at h
 . obtain⟨c,o⟩:∃c,R[k]?=some c:=⟨_,W0a (by omega)⟩
   obtain⟨b,hb⟩:∃b,R[k-1]?=some b:=⟨_,W0a (by omega)⟩
   refine Dw rfl<|Ar (k-1:Nat) rfl ?_
   refine Ix (k-1) rfl (Xzf hb)<|Ix k rfl (Xzf o)<|Ce rfl (R13.Equal_g W0 (gv0 (M b (W0e hb)).b) (gv0 (M c (W0e o)).a) (by decide) (by decide))<|By rfl (λj=>?_) λj=>?_
   . have j:¬b.b=c.a:=j
     rw[P11.dcF (p:=Lnk R) λO=>j (O (k-1) b c hb (by rw[show k-1+1=k by omega];exact o))]
     exact R0
   . have j:b.b=c.a:=W3g.1 j
     refine Ar (k+1:Nat) rfl ?_
     refine Bk (k+1) [] rfl ⟨by omega,by omega,λi Z d' hi I A=>?_⟩ (by show R.length-(k+1)<R.length-k;omega)
     by_cases Q:i+1=k
     . rw[Q,o] at A
       rw[show i=k-1 by omega,hb] at I
       cases I;cases A;exact j
     . exact T i Z d' (by omega) I A
 . have O:Lnk R:=λi c d I A=>T i c d (by have:=(W1e.1 A).1;omega) I A
   rw[P11.dcT O]
   exact Yes rfl (by rw[lQ];omega)<|Ce rfl B<|R0
def rwD(h:List Wv): Option (List Wv)->AV
 | none=>.lit 3 (h.map dRw)
 | some w=>.own 600 3 0 (w.map dRw).length
def rwH: Option (List Wv)->Hpl
 | none=>[(11,cal)]
 | some w=>[(11,cal),(600,.arr 3 (w.map dRw))]
def rwW(h:List Wv): Option (List Wv)->List Wv
 | none=>h
 | some w=>w
theorem Yfe(h:VQ 700 q)(ha:q.arc=true): CN0 72 [.ptr 1000001 0,.d (dN (nr (P55.d2 q.a q.c)))] [(1000001,cal)] (·=.d (dN (rtN (P55.d2 q.a q.c)))):=by
 obtain⟨_,_,i,_⟩:=h.u ha
 exact R55.Sqrt_c (Yc7 (Yfm i (show 0<=Xe3 _ by rw[Xbh (h.w ha).2.2.2];decide)))
theorem Yfn{p t:Rat×Rat}(hp:Qp 700 p)(h:Qp 700 t): CN0 73 [.ptr 1000001 0,.d (dV (v0 p)),.d (dV (v0 t))] [(1000001,cal)] (·=.d (dN (nr (P55.d2 p t)))):=R55.CN_mono (R15.Far_g W0 (gv0 hp) (gv0 h) (by decide)) λv ⟨z,e,i⟩=>by rw[e,show z=_ from zw i.o];rfl
set_option maxHeartbeats 1000000 in
theorem Xz8{R:List Cq}{c0 d0:Cq}(hl:R.length<=100)(h0:R[0]?=some c0)(h9:R[R.length-1]?=some d0)(A:∀c∈R,VQ 700 c): C0 27 [.d (Xd1 (R.map cvQ))] (·=.tup (.pr (.d (Yo6 (wds R c0 d0))) (.d (.int .i64 0)))):=by
 have hl0:0<R.length:=(W1e.1 h0).1
 have Y:=A c0 (W0e h0)
 have Z:=A d0 (W0e h9)
 have hE:=R13.Equal_g W0 (gv0 Y.a) (gv0 Z.b) (by decide) (by decide)
 refine En Tryz.func27 λ_ _ _=>?_
 refine Dw rfl<|Ce rfl Xe8<|Ix 0 rfl (Xzf h0)<|Ce rfl Xbe<|Ix 0 rfl (Xzf h0)<|Ce rfl Xbe<|Lo (λ((k,o):Nat×Option (List Wv))=>[(0,.d (Xd1 (R.map cvQ))),(4,.ptr 11 0),(5,rwD (hdW (cvQ c0)) o),(6,.d (.int .i64 k))]) (λ(_,o)=>rwH o) (λ(k,o)=>k<=R.length/\rwW (hdW (cvQ c0)) o=hdW (cvQ c0)++((R.take k).map wdQ).flatten) (λ(k,_)=>R.length-k) (0,none) [] rfl ⟨W0s _,by simp[rwW]⟩ ?_
 rintro⟨k,o⟩ ⟨hk,V⟩
 have V:rwW (hdW (cvQ c0)) o=hdW (cvQ c0)++((R.take k).map wdQ).flatten:=V
 have hwl:(rwW (hdW (cvQ c0)) o).length<=2000:=by
  rw[V,W0d]
  have:=Xko (R:=R.take k)
  rw[W0k] at this
  have:(hdW (cvQ c0)).length=3:=rfl
  omega
 have Q:∀ {c u},R[k]?=some c->u=rwW (hdW (cvQ c0)) o++wdQ c->k+1<=R.length/\rwW (hdW (cvQ c0)) (some u)=hdW (cvQ c0)++((R.take (k+1)).map wdQ).flatten:=λ{c u} O hu=>⟨by have:=(W1e.1 O).1;omega,by
  rw[W1c,O]
  show u=_
  rw[hu,V];simp⟩
 have i:∀u:List Wv,u.length<=16->((rwW (hdW (cvQ c0)) o++u).map dRw).length<=1099511627776:=λu hu=>by rw[W0i,W0d];omega
 have T:∀u v:List Wv,u.length<=16->v.length<=16->((rwW (hdW (cvQ c0)) o++u++v).map dRw).length<=1099511627776:=λu v hu A=>by rw[W0i,W0d,W0d];omega
 have fin:k=R.length->rwW (hdW (cvQ c0)) o=hdW (cvQ c0)++(R.map wdQ).flatten:=λe=>by rw[V,e,W0b (W0c _)]
 rcases o with _ | w <;>
 . refine By rfl (λh=>?_) λh=>?_<;>simp only[lQ] at h
   . obtain⟨c,O⟩:∃c,R[k]?=some c:=⟨_,W0a (by omega)⟩
     have j:=A c (W0e O)
     refine Ix k rfl (Xzf O) ?_
     cases ha:c.arc with
     | false =>
      have U:wdQ c=Xoo (v0 c.b):=by unfold wdQ;rw[if_pos ha]
      have I:=Q (c:=c) O (show _++Xoo (v0 c.b)=_ by rw[U])
      obtain⟨arc,a,b,B,cw⟩:=c
      obtain rfl:arc=false:=ha
      refine Yes rfl nofun<|Dw rfl<|Ce rfl Xe8<|Ce rfl Xbe<|Ce rfl Xbe ?_
      first
      | refine ApL ((rwW (hdW (cvQ c0)) _++Xoo (v0 b)).map dRw) rfl (by rw[W1k];first | done | rfl) (W3u _) (i _ (show 3<=16 by decide)) ?_
      | refine ApO ((rwW (hdW (cvQ c0)) _++Xoo (v0 b)).map dRw) rfl rfl rfl (by rw[W1k];first | done | rfl) (i _ (show 3<=16 by decide)) ?_
      refine Ar (k+1:Nat) rfl ?_
      exact Bk (k+1,some (rwW (hdW (cvQ c0)) _++Xoo (v0 b))) [(600,900),(50,600)] rfl I (by show R.length-(k+1)<R.length-k;omega)
     | true =>
      have hr:=Yfe j ha
      have hF:=Yfn j.a j.c
      have hU:=R47.Full_g (c:=cvQ c) W0 ha (gv0 j.a) (gv0 j.b) (by decide) (by decide)
      by_cases M:c.a=c.b
      . have U:wdQ c=Xcg (rtN (P55.d2 c.a c.c)) false (!c.cw) (v0 (opQ c))++Xcg (rtN (P55.d2 c.a c.c)) false (!c.cw) (v0 c.b):=by unfold wdQ;rw[if_neg (by rw[ha];nofun),if_pos M]
        have I:=Q (c:=c) O (show _++Xcg (rtN (P55.d2 c.a c.c)) false (!c.cw) (v0 (opQ c))++Xcg (rtN (P55.d2 c.a c.c)) false (!c.cw) (v0 c.b)=_ by rw[U,W2j])
        have hop:∀ {z:Vn} {n:Nat},Gv (K:=0) () [] [] n z (Xbb (K:=0) (Yio (K:=0) () c.c ((2:Int):Rat)) c.a)->z=v0 (opQ c):=λ{z n} U=>by
         rw[Xci U]
         have h2:((2:Int):Rat)=2:=rfl
         exact congrArg v0 (W3a (show c.c.1*((2:Int):Rat)+-c.a.1=c.c.1+(c.c.1+-c.a.1) by grind) (show c.c.2*((2:Int):Rat)+-c.a.2=c.c.2+(c.c.2+-c.a.2) by grind))
        obtain⟨arc,a,b,B,cw⟩:=c
        obtain rfl:arc=true:=ha
        refine No rfl (λh=>h rfl)<|Cn [(1000001,11)] rfl hF λv A=>?_
        subst A
        refine Cn [(1000001,11)] rfl hr λv A=>?_
        subst A
        refine Ce rfl hU<|Yes rfl M<|Dw rfl<|Ce rfl (R9.FromInt_ok (z:=2) (by decide))<|Cn [(1000001,11)] rfl (R15.Scale_g W0 (gv0 j.c) (g0 (s:=64) (q:=((2:Int):Rat)) (by decide +kernel)) (by decide) (by decide)) λv A=>?_
        obtain⟨z1,rfl,k1⟩:=A
        refine Cn [(1000001,11)] rfl (R15.Minus_g W0 k1 (gv0 j.a) (by decide) (by decide)) λv A=>?_
        obtain⟨z2,rfl,k2⟩:=A
        obtain rfl:=hop k2
        refine Ce rfl Xyx ?_
        first
        | refine ApL ((rwW (hdW (cvQ c0)) _++Xcg (rtN (P55.d2 a B)) false (!cw) (v0 (opQ ⟨true,a,b,B,cw⟩))).map dRw) rfl (by rw[W1k];first | done | rfl) (W3u _) (i _ (show 8<=16 by decide)) ?_
        | refine ApO ((rwW (hdW (cvQ c0)) _++Xcg (rtN (P55.d2 a B)) false (!cw) (v0 (opQ ⟨true,a,b,B,cw⟩))).map dRw) rfl rfl rfl (by rw[W1k];first | done | rfl) (i _ (show 8<=16 by decide)) ?_
        refine Ce rfl Xyx<|ApO ((rwW (hdW (cvQ c0)) _++Xcg (rtN (P55.d2 a B)) false (!cw) (v0 (opQ ⟨true,a,b,B,cw⟩))++Xcg (rtN (P55.d2 a B)) false (!cw) (v0 b)).map dRw) rfl rfl rfl (by simp) (T _ _ (show 8<=16 by decide) (show 8<=16 by decide)) ?_
        refine Ar (k+1:Nat) rfl ?_
        exact Bk (k+1,some (rwW (hdW (cvQ c0)) _++Xcg (rtN (P55.d2 a B)) false (!cw) (v0 (opQ ⟨true,a,b,B,cw⟩))++Xcg (rtN (P55.d2 a B)) false (!cw) (v0 b))) [(600,900),(86,600)] rfl I (by show R.length-(k+1)<R.length-k;omega)
      . have U:wdQ c=Xcg (rtN (P55.d2 c.a c.c)) (lgQ c) (!c.cw) (v0 c.b):=by unfold wdQ;rw[if_neg (by rw[ha];nofun),if_neg M]
        have I:=Q (c:=c) O (show _++Xcg (rtN (P55.d2 c.a c.c)) (lgQ c) (!c.cw) (v0 c.b)=_ by rw[U])
        have hL:=Yao j ha M
        generalize lgQ c=lg at I hL
        obtain⟨arc,a,b,B,cw⟩:=c
        obtain rfl:arc=true:=ha
        refine No rfl (λh=>h rfl)<|Cn [(1000001,11)] rfl hF λv A=>?_
        subst A
        refine Cn [(1000001,11)] rfl hr λv A=>?_
        subst A
        refine Ce rfl hU<|No rfl M<|Dw rfl<|Ce rfl hL<|Ce rfl Xyx ?_
        first
        | refine ApL ((rwW (hdW (cvQ c0)) _++Xcg (rtN (P55.d2 a B)) lg (!cw) (v0 b)).map dRw) rfl (by rw[W1k];first | done | rfl) (W3u _) (i _ (show 8<=16 by decide)) ?_
        | refine ApO ((rwW (hdW (cvQ c0)) _++Xcg (rtN (P55.d2 a B)) lg (!cw) (v0 b)).map dRw) rfl rfl rfl (by rw[W1k];first | done | rfl) (i _ (show 8<=16 by decide)) ?_
        refine Ar (k+1:Nat) rfl ?_
        exact Bk (k+1,some (rwW (hdW (cvQ c0)) _++Xcg (rtN (P55.d2 a B)) lg (!cw) (v0 b))) [(600,900),(97,600)] rfl I (by show R.length-(k+1)<R.length-k;omega)
   . have hf:=fin (by omega)
     refine Dw rfl<|Ix 0 rfl (Xzf h0)<|Ar (R.length-1:Nat) rfl ?_ (wr (by rw[lQ];omega) (by simp only[inK];omega))
     refine Ix (R.length-1) rfl (Xzf h9)<|Ce rfl hE ?_
     unfold wds
     rw[<-hf]
     refine By rfl (λh1=>?_) λh1=>?_
     . rw[show (if dc (c0.a=d0.b) then [Wv.mk [90]] else [])=[Wv.mk [90]] from if_pos (P11.dcT h1)]
       refine Ce rfl Xe8 ?_
       first
       | refine ApL ((rwW (hdW (cvQ c0)) _++[Wv.mk [90]]).map dRw) rfl (by rw[W1k];first | done | rfl) (W3u _) (i _ (show 1<=16 by decide)) ?_
       | refine ApO ((rwW (hdW (cvQ c0)) _++[Wv.mk [90]]).map dRw) rfl rfl rfl (by rw[W1k];first | done | rfl) (i _ (show 1<=16 by decide)) ?_
       exact Dw rfl<|RTt rfl (.cons (.own rfl (by rw[W1j];exact W0c _) (by rw[W0y,W1x])) Xav)
     . rw[show (if dc (c0.a=d0.b) then [Wv.mk [90]] else [])=[] from if_neg (λe=>h1 (Xal.1 e)),W3f]
       refine Dw rfl ?_
       first
       | exact RTt rfl (.cons (.lit rfl) Xav)
       | exact RTt rfl (.cons (.own rfl (by rw[W1j];exact W0c _) (by rw[W0y,W1x];rfl)) Xav)
theorem Xwt{x:List UInt8}: ∀ {l:List (List UInt8)},l≠[]->Lib.join (l++[x]) [32]=Lib.join l [32]++[32]++x:=λ{l} h=>by
 obtain⟨y,r,rfl⟩:=W5c h
 rw[W3q,Lib.join_cons,Lib.join_cons]
 simp[Lib.joinTail]
theorem Ym3{R:List Cq}{c e:Cq}{d:Nat}(hd:d<=20)(hR:R.length<=5)(I:R[0]?=some c)(Z:R[R.length-1]?=some e)(M:∀c∈R,VQ 700 c)(hL:Lnk R): C0 7 [.d (Xd1 (R.map cvQ)),.d (.int .i64 d)] (·=.tup (.pr (.d (.str (ptx R c e d))) (.d (.int .i64 0)))):=by
 have hm:=W0e I
 have h0:0<R.length:=(W1e.1 I).1
 have hP:=Xvr (by omega) h0 M
 have U:=Xz8 (by omega) I Z M
 have i:=Xmm (e:=e) hm M
 have O:=Xkn (R:=R) (c:=c) (e:=e)
 unfold ptx
 generalize wds R c e=W at U i O
 have lm:(W.map dRw).length=W.length:=W0i ..
 have Q:∀k,(Lib.join ((W.take k).map (txW d)) [32]).length<=1000000:=λk=>by
  have:=Xwu (n:=400) (m:=84) (l:=(W.take k).map (txW d)) (λt j=>by
   obtain⟨w,A,rfl⟩:=W3l.1 j
   exact((i w (W5f A)).t hd).1) (by rw[W0i,W0k];omega)
  omega
 refine En Tryz.func7 λ_ _ _=>?_
 refine No rfl (by omega)<|No rfl (by omega)<|Ce rfl hP<|No rfl (λh=>h hL)<|Ce rfl U<|No rfl (by decide)<|Lo (λk:Nat=>[(1,.d (.int .i64 d)),(6,.d (Yo6 W)),(7,.d (.int .i64 0)),(8,.d (.str (Lib.join ((W.take k).map (txW d)) [32]))),(9,.d (.int .i64 k))]) (λ_=>[]) (λk=>k<=W.length) (λk=>W.length-k) 0 [] rfl (W0s _) λk hk=>?_
 refine By rfl (λh=>?_) λh=>?_<;>simp only[lm] at h
 . obtain⟨w,A⟩:∃w,W[k]?=some w:=⟨_,W0a (by omega)⟩
   have T:=i w (W0e A)
   have j:=T.t hd
   have V:(W.map dRw)[k]?=some (dRw w):=by rw[W0w,A];rfl
   have hk0:=Q k
   have Y:(W.take (k+1)).map (txW d)=(W.take k).map (txW d)++[txW d w]:=by rw[W1c,A];simp
   have fst:k=0->Lib.join ((W.take k).map (txW d)) [32]++txW d w=Lib.join ((W.take (k+1)).map (txW d)) [32]:=λe=>by
    rw[Y,e];simp[Lib.join_one,Lib.join_nil]
   have B:0<k->Lib.join ((W.take k).map (txW d)) [32]++[32]++txW d w=Lib.join ((W.take (k+1)).map (txW d)) [32]:=λe=>by
    rw[Y,Xwt]
    intro h
    have:=congrArg List.length h
    rw[W0i,W0k] at this
    simp only[W3e] at this
    omega
   refine Ix k rfl V ?_
   cases w with
   | mk s =>
    have hs:s≠[]:=λe=>by have o:s.length=1:=T.1;rw[e] at o;cases o
    refine No rfl hs<|By rfl (λo=>?_) λo=>?_
    . refine Sc (Lib.join ((W.take k).map (txW d)) [32]++[32]) rfl rfl (by show _+1<_;omega) ?_
      refine Sc (Lib.join ((W.take (k+1)).map (txW d)) [32]) rfl (B (by omega)) (by rw[W0d];have:=j.1;show _+1+(txW d (Wv.mk s)).length<_;omega) ?_
      refine Ar (k+1:Nat) rfl ?_
      exact Bk (k+1) [] rfl (by omega) (by show W.length-(k+1)<W.length-k;omega)
    . refine Sc (Lib.join ((W.take (k+1)).map (txW d)) [32]) rfl (fst (by omega)) (by have:=j.1;show _+(txW d (Wv.mk s)).length<_;omega) ?_
      refine Ar (k+1:Nat) rfl ?_
      exact Bk (k+1) [] rfl (by omega) (by show W.length-(k+1)<W.length-k;omega)
   | nu x =>
    refine Yes rfl rfl<|Ix k rfl V<|Ce rfl ((show Nb x from T).rF hd)<|No rfl (by decide)<|By rfl (λo=>?_) λo=>?_
    . refine Sc (Lib.join ((W.take k).map (txW d)) [32]++[32]) rfl rfl (by show _+1<_;omega) ?_
      refine Sc (Lib.join ((W.take (k+1)).map (txW d)) [32]) rfl (B (by omega)) (by rw[W0d];have:=j.1;show _+1+(txW d (Wv.nu x)).length<_;omega) ?_
      refine Ar (k+1:Nat) rfl ?_
      exact Bk (k+1) [] rfl (by omega) (by show W.length-(k+1)<W.length-k;omega)
    . refine Sc (Lib.join ((W.take (k+1)).map (txW d)) [32]) rfl (fst (by omega)) (by have:=j.1;show _+(txW d (Wv.nu x)).length<_;omega) ?_
      refine Ar (k+1:Nat) rfl ?_
      exact Bk (k+1) [] rfl (by omega) (by show W.length-(k+1)<W.length-k;omega)
 . rw[W0b (by omega)]
   exact R0t
theorem Yic{R:List Cq}{n:Int}(h0:0<R.length)(B:R.length<=100)(i:∀c∈R,VQ 700 c)(h:¬(0<=n/\n<=20/\Lnk R)): C0 7 [.d (Xd1 (R.map cvQ)),.d (.int .i64 n)] (·=.tup (.pr (.d (.str [])) (.d (.int .i64 1)))):=by
 refine En Tryz.func7 λ_ _ _=>?_
 refine By rfl (λj=>?_) λj=>?_
 . exact R0t
 refine By rfl (λo=>?_) λo=>?_
 . exact R0t
 exact Ce rfl (Xvr (by omega) h0 i)<|Yes rfl (λA=>h ⟨by omega,by omega,A⟩)<|R0t
theorem Yib{R:List Cq}{c e:Cq}{d:Nat}(hd:d<=20)(hR:R.length<=5)(Q:R[0]?=some c)(he:R[R.length-1]?=some e)(o:∀c∈R,VQ 700 c)(hL:Lnk R): C0 10 [.d (Xd1 (R.map cvQ)),.d (.str (ptx R c e d))] (·=.b true):=by
 have O:=W0e Q
 have h0:0<R.length:=(W1e.1 Q).1
 have hP:=Xls (by omega) h0 o
 have hW:=Xuf (by omega) Q he o
 have B:=Xmm (e:=e) O o
 have T:=Ydf (e:=e) hd O o
 have hs:=Xo5 (e:=e) hd hR O o
 have U:=Xvw (e:=e) hd O o
 have V:=Xkn (R:=R) (c:=c) (e:=e)
 have j:=P56.Points_ok (s:=ptx R c e d) (by omega)
 have i:=Xhl (s:=ptx R c e d) (by omega)
 obtain⟨ps,Y⟩:=W2g.1 T
 rw[Y] at j
 rw[U] at i
 generalize ptx R c e d=s at j i hs
 generalize wds R c e=W at hW B i V
 have lm:(W.map P55.dWv).length=W.length:=W0i ..
 have lt:(((W.map (txW d)).map D.str)).length=W.length:=by simp
 refine En Tryz.func10 λ_ _ _=>?_
 refine Ce rfl hP<|No rfl (λh=>h hL)<|Ce rfl j<|No rfl (by decide)<|Ce rfl hW<|Ce rfl i<|No rfl (by decide)<|No rfl (by rw[lm,lt];exact λh=>h rfl)<|Lo (λk:Nat=>[(9,.d (dXs (W.map (txW d)))),(38,.d (P55.dWs W)),(39,.d (.int .i64 (W.map P55.dWv).length)),(40,.d (.int .i64 k))]) (λ_=>[]) (λk=>k<=W.length) (λk=>W.length-k) 0 [] rfl (W0s _) λk hk=>?_
 refine By rfl (λh=>?_) λh=>?_<;>simp only[lm] at h
 . obtain⟨w,Z⟩:∃w,W[k]?=some w:=⟨_,W0a (by omega)⟩
   have A:=B w (W0e Z)
   have hx:(W.map P55.dWv)[k]?=some (P55.dWv w):=by rw[W0w,Z];rfl
   have ht:((W.map (txW d)).map D.str)[k]?=some (.str (txW d w)):=by simp[Z]
   refine Ix k rfl hx ?_
   cases w with
   | mk t =>
    refine Dw rfl<|No rfl nofun<|Yes rfl (by decide)<|Ix k rfl ht<|No rfl (λh=>h rfl)<|Ar (k+1:Nat) rfl ?_
    exact Bk (k+1) [] rfl (by omega) (by show W.length-(k+1)<W.length-k;omega)
   | nu x =>
    have A:Nb x:=A
    have hl:=A.tl hd
    obtain⟨a,b,h1,h2,h3,_⟩:=Xvy hl
    have hfr:frI (decide (zR x d<0)) a b=zR x d:=by
     unfold frI
     rw[h3]
     split
     . rename_i I
       have I:zR x d<0:=by simpa using I
       omega
     . rename_i I
       have I:¬zR x d<0:=by simpa using I
       omega
    have hin:=P11.in_near (x:=x) (ng:=decide (zR x d<0)) (a:=a) (b:=b) A.p.re (by rw[h2,hfr];exact Xzh A.p (by omega))
    have M:=P11.Within_yes A.p (show Tx (txt (zR x d) d) by show _<_;omega) h1
    rw[P11.dcT hin] at M
    refine Dw rfl<|Yes rfl rfl<|Ix k rfl ht<|Ce rfl M<|No rfl nofun<|No rfl nofun<|Ar (k+1:Nat) rfl ?_
    exact Bk (k+1) [] rfl (by omega) (by show W.length-(k+1)<W.length-k;omega)
 . exact R0
end
section
open Go.Proofs.YtcmjannkbdflmaaGreatDoor.P55 (v0 W0 g0 gv0 zw Xci Qp nr Xaw)
abbrev Xd0(l:List Cq): List D:=(l.map cvQ).map dC
theorem Xkc{l:List Cq}{k:Nat}{c:Cq}(h:l[k]?=some c): (Xd0 l)[k]?=some (dC (cvQ c)):=Xzf h
theorem Xdf{l:List Cq}: (Xd0 l).length=l.length:=lQ
theorem Xzx{α:Type}{l:List α}{k:Nat}{x:α}(h:l[k]?=some x): l.set k x=l:=by
 refine W5u λi=>?_
 by_cases e:k=i
 . subst e
   rw[W2n (W1e.1 h).1,h]
 . rw[W1v e]
def cuV: Option Nat->AV
 | none=>.lit 14 []
 | some n=>.own 600 14 0 n
def cuH(l:List Cq): Option Nat->Hpl
 | none=>[]
 | some _=>[(600,.arr 14 (Xd0 l))]
theorem Xt8{l:List Dft}{n:Nat}(T:l.length<9223372036854775808)(U:n<=1000)(hd:∀d∈l,d.ok): CW0 12 [.d (Ynm l),.d (.int .i64 n)] [] (λv H'=>(v=.tup (.pr (.d (Xd1 [])) (.b false))/\H'=[])\/(v=.tup (.pr (.d (Xd1 [])) (.b true))/\H'=[]) \/
 (0<l.length/\l.length<=n/\(∀d∈l,R47.vlD d)/\v=.tup (.pr (.own 1000000 14 0 (Xd0 (l.map dqD)).length) (.b true))/\H'=[(1000000,.arr 14 (Xd0 (l.map dqD)))])):=by
 have lD:(l.map dDf).length=l.length:=W0i ..
 refine EnW Tryz.func12 λ_ _ _ _=>?_
 refine By rfl (λh=>?_) λh=>?_
 . exact Rw [] [] rfl (.tup (.cons (.nil rfl) Xg7)) (.inl ⟨rfl,rfl⟩)
 have h:¬((l.map dDf).length:Int)>n:=h
 rw[lD] at h
 refine NL 6 14 rfl ?_
 refine Lo (λ((k,o):Nat×Option Nat)=>[(0,.d (Ynm l)),(6,cuV o),(7,.d (.int .i64 k))]) (λ(k,o)=>cuH ((l.take k).map dqD) o) (λ(k,o)=>k<=l.length/\(∀d∈l.take k,R47.vlD d)/\o=(if k=0 then none else some (Xd0 ((l.take k).map dqD)).length)) (λ(k,_)=>l.length-k) (0,none) [] rfl ⟨W0s _,nofun,rfl⟩ ?_
 rintro⟨k,o⟩ ⟨V,Q,O⟩
 have B:∀ {d},l[k]?=some d->R47.vlD d->k+1<=l.length/\(∀d∈l.take (k+1),R47.vlD d)/\some (Xd0 ((l.take (k+1)).map dqD)).length=(if k+1=0 then none else some (Xd0 ((l.take (k+1)).map dqD)).length):=λ{d} i j=>⟨by have:=(W1e.1 i).1;omega,λx A=>by
  rw[W1c,i] at A
  rcases W2c.1 A with A | A
  . exact Q x A
  . obtain rfl:=W0f.1 A;exact j,by rw[if_neg (by omega)]⟩
 have app:∀ {d},l[k]?=some d->Xd0 ((l.take k).map dqD)++[dC (R47.cvD d)]=Xd0 ((l.take (k+1)).map dqD):=λ{d} i=>by
  rw[W1c,i,Yo7];simp
 by_cases I:k=0
 . subst I
   obtain rfl:o=none:=O
   refine By rfl (λM=>?_) λM=>?_<;>simp only[lD] at M
   . obtain⟨d,i⟩:∃d,l[0]?=some d:=⟨_,W0a (by omega)⟩
     refine Ix 0 rfl (u:=dDf d) (by rw[W0w,i];rfl)<|Ce rfl (R47.Curve_ok (hd d (W0e i)))<|By rfl (λj=>?_) λj=>?_
     . exact Rw [] [] rfl (.tup (.cons (.nil rfl) Xg7)) (.inl ⟨rfl,rfl⟩)
     . have j:R47.vlD d:=W3g.1 j
       refine Yr1 (Xd0 ((l.take (0+1)).map dqD)) rfl (app i) (W3u _) (by rw[Xdf,W0i,W0k];omega) ?_
       refine Ar (0+1:Nat) rfl ?_
       exact Bk (0+1,some (Xd0 ((l.take (0+1)).map dqD)).length) [(33,600)] rfl (B i j) (by show l.length-(0+1)<l.length-0;omega)
   . exact Rw [] [] rfl (.tup (.cons (.lit rfl) Xg7)) (.inr (.inl ⟨rfl,rfl⟩))
 . rw[if_neg I] at O
   subst O
   refine By rfl (λM=>?_) λM=>?_<;>simp only[lD] at M
   . obtain⟨d,i⟩:∃d,l[k]?=some d:=⟨_,W0a (by omega)⟩
     refine Ix k rfl (u:=dDf d) (by rw[W0w,i];rfl)<|Ce rfl (R47.Curve_ok (hd d (W0e i)))<|By rfl (λj=>?_) λj=>?_
     . exact Rw [] [] rfl (.tup (.cons (.nil rfl) Xg7)) (.inl ⟨rfl,rfl⟩)
     . have j:R47.vlD d:=W3g.1 j
       refine Yqw (Xd0 ((l.take (k+1)).map dqD)) rfl rfl rfl (app i) (by rw[Xdf,W0i,W0k];omega) ?_
       refine Ar (k+1:Nat) rfl ?_
       exact Bk (k+1,some (Xd0 ((l.take (k+1)).map dqD)).length) [(600,900),(33,600)] rfl (B i j) (by show l.length-(k+1)<l.length-k;omega)
   . obtain rfl:k=l.length:=by omega
     have e:l.take l.length=l:=W1x
     exact Rw [(600,1000000)] [(1000000,.arr 14 (Xd0 ((l.take l.length).map dqD)))] rfl (.tup (.cons (.rf rfl) Xg7)) (.inr (.inr ⟨by omega,by omega,by rwa[e] at Q,by rw[e];rfl,by rw[e]⟩))
theorem Yam{c:Cq}{t:Rat×Rat}(h:VQ 700 c)(o:Qp 700 t): CN0 14 [.ptr 1000001 0,.d (dC (cvQ c)),.d (dV (v0 t))] [(1000001,cal)] (·=.d (dC (cvQ (mvQ c t)))):=by
 have hs:Qp 1401 (Xbb (K:=0) t c.a):=⟨o.1.add h.a.1.neg,o.2.add h.a.2.neg⟩
 obtain⟨arc,a,b,A,cw⟩:=c
 refine EnW Tryz.func14 λ_ _ _ _=>?_
 refine Cn [] rfl (R15.Minus_g W0 (gv0 o) (gv0 h.a) (by decide) (by decide)) λv i=>?_
 obtain⟨z,rfl,j⟩:=i
 obtain rfl:=Xci j
 refine Dw rfl<|Cn [] rfl (R15.Plus_g W0 (gv0 h.b) (gv0 hs) (by decide) (by decide)) λv i=>?_
 obtain⟨z,rfl,j⟩:=i
 obtain rfl:=Xci j
 refine Cn [] rfl (R15.Plus_g W0 (gv0 h.c) (gv0 hs) (by decide) (by decide)) λv i=>?_
 obtain⟨z,rfl,j⟩:=i
 obtain rfl:=Xci j
 exact Rw [] [(1000001,cal)] rfl (.one (.rf rfl) rfl rfl) ⟨rfl,rfl⟩
end
section
open Go.Proofs.YtcmjannkbdflmaaGreatDoor.P55 (v0 W0 g0 gv0 zw Xci Qp nr Xaw)
abbrev dCh(l:List Dft)(cl:Bool): D:=.st (.pr (Ynm l) (.bool cl))
def mid(L:List Cq)(k:Nat): List Cq:=(chQ L).take k++L.drop k
theorem Yga{L:List Cq}{k:Nat}: (mid L k).length=L.length:=by
 unfold mid
 rw[W0d,W0k,W1n,Xfh];omega
theorem Ykl{L:List Cq}{k:Nat}{c:Cq}(h:L[k]?=some c): (mid L k)[k]?=some c:=by
 unfold mid
 have i:=(W1e.1 h).1
 rw[W0o (by rw[W0k,Xfh];omega),W0k,Xfh,W2h,show k+(k-min k L.length)=k by omega,h]
theorem Ykk{L:List Cq}{k:Nat}{q:Cq}(h:(chQ L)[k]?=some q): (mid L (k+1))[k]?=some q:=by
 unfold mid
 have i:=(W1e.1 h).1
 rw[W1d (by rw[W0k];omega),W1l,if_pos (by omega),h]
theorem Yf9{L:List Cq}{k:Nat}{q:Cq}(o:k<L.length)(h:(chQ L)[k]?=some q): (mid L k).set k q=mid L (k+1):=by
 unfold mid
 have i:((chQ L).take k).length=k:=by rw[W0k,Xfh];omega
 rw[W6o _ _ (by omega),i,W2v,W1c,h]
 obtain⟨c,r,e⟩:∃c r,L.drop k=c::r:=W5c (by rw[ne_eq,W5j];omega)
 have j:L.drop (k+1)=r:=by rw[<-W4x,e];rfl
 rw[e,j];simp
theorem Ygb{L:List Cq}: mid L L.length=chQ L:=by
 unfold mid
 rw[W7s,W3f,W0b (by rw[Xfh];exact W0c _)]
def CvP(v:AV)(H':Hpl): Prop:=(v=.tup (.pr (.d (Xd1 [])) (.b false))/\H'=[]) \/
 ∃R:List Cq,0<R.length/\R.length<=5/\(∀c∈R,VQ 700 c)/\v=.tup (.pr (.own 1000000 14 0 (Xd0 R).length) (.b true))/\H'=[(1000000,.arr 14 (Xd0 R))]
set_option maxHeartbeats 1000000 in
theorem Xy6{l:List Dft}{cl:Bool}{m:Nat}(hm:m<=4)(hl:l.length<9223372036854775808)(hd:∀d∈l,d.ok): CW0 4 [.d (dCh l cl),.d (.int .i64 m)] [] CvP:=by
 refine EnW Tryz.func4 λ_ _ _ _=>?_
 refine Cw [] rfl (Xt8 (n:=m) hl (by omega) hd) λv H' _ Z=>?_
 rcases Z with ⟨rfl,rfl⟩ | ⟨rfl,rfl⟩ | ⟨h0,h4,hvl,rfl,rfl⟩
 . exact Yes rfl (by decide)<|Rw [] [] rfl (.tup (.cons (.nil rfl) Xg7)) (.inl ⟨rfl,rfl⟩)
 . exact No rfl nofun<|Yes rfl rfl<|Rw [] [] rfl (.tup (.cons (.nil rfl) Xg7)) (.inl ⟨rfl,rfl⟩)
 have hL:(l.map dqD).length=l.length:=W0i ..
 have hV:∀c∈l.map dqD,VQ 64 c:=λc o=>by
  obtain⟨d,B,rfl⟩:=W3l.1 o
  exact .of (hd d B) (hvl d B)
 have hZ:∀c∈l.map dqD,c.arc=false->c.c=zz2:=λc o ha=>by
  obtain⟨d,_,rfl⟩:=W3l.1 o
  exact Yo3 ha
 generalize l.map dqD=L at hL hV hZ
 have I:=Yl2 (by omega) hV
 have hKl:=Xfh L
 refine No rfl nofun<|No rfl (by rw[Xdf];omega)<|Lo (λk:Nat=>[(2,.ptr 2 0),(6,.own 15 14 0 L.length),(8,.ptr 26 0),(9,.d (.int .i64 k))]) (λk=>[(2,.var (.d (dCh l cl))),(26,cal),(15,.arr 14 (Xd0 (mid L k)))]) (λk=>k<=L.length) (λk=>L.length-k) 0 [] rfl (W0s _) (λk hk=>?_) (by exact⟨by rw[Xdf];rfl,rfl,rfl,rfl,rfl⟩)
 refine By rfl (λh=>?_) λh=>?_
 . have h:k<L.length:=by omega
   obtain⟨c,o⟩:∃c,L[k]?=some c:=⟨_,W0a h⟩
   obtain⟨q,hq⟩:∃q,(chQ L)[k]?=some q:=⟨_,W0a (by omega)⟩
   have hm:=Ykl o
   have Y:=Xkc hm
   have hcv:=(hV c (W0e o)).mono (show 64<=700 by decide)
   have hz:=hZ c (W0e o)
   have M:(Xd0 (mid L k)).set k (dC (cvQ q))=Xd0 (mid L (k+1)):=by
    rw[<-Yf9 h hq]
    show _=(((mid L k).set k q).map cvQ).map dC
    rw[W6q,W6q]
   refine Eo k rfl (by omega)<|Ld (dC (cvQ c)) rfl Y ?_
   refine Cu (some 10) (λ_:Unit=>[(2,.ptr 2 0),(6,.own 15 14 0 L.length),(8,.ptr 26 0),(9,.d (.int .i64 k))]) (λ_=>[(2,.var (.d (dCh l cl))),(26,cal),(15,.arr 14 (Xd0 (mid L k)))]) (λ_=>True) rfl ?_ λ_ _=>?_
   . obtain⟨arc,a,b,cc,cw⟩:=c
     cases arc with
     | true =>
      exact No rfl (λh=>h rfl)<|Jn () [] rfl trivial
     | false =>
      obtain rfl:cc=zz2:=hz rfl
      refine Yes rfl nofun<|Ce rfl (R13.Whole_ok (i:=0) (j:=0) (by decide) (by decide))<|Eo k rfl (by omega)<|StF (Xd0 (mid L k)) (dC (cvQ ⟨false,a,b,zz2,cw⟩)) rfl Y (Xzx Y) ?_
      exact Jn () [] rfl trivial
   . refine By rfl (λA=>?_) λA=>?_
     . obtain⟨j,rfl⟩:∃j,k=j+1:=⟨k-1,by omega⟩
       obtain⟨p,hp⟩:∃p,(chQ L)[j]?=some p:=⟨_,W0a (by omega)⟩
       have O:=Yl3 o hp
       rw[hq] at O
       cases O
       have hpv:=I p (W0e hp)
       have hpx:=Xkc (Ykk hp)
       refine Dw rfl<|Eo (j+1) rfl (by omega)<|Ld (dC (cvQ c)) rfl Y ?_
       refine Ar (j:Nat) rfl ?_
       refine Eo j rfl (by omega)<|Ld (dC (cvQ p)) rfl hpx ?_
       refine Cn [(1000001,26)] rfl (Yam hcv hpv.b) λv Z=>?_
       subst Z
       refine Eo (j+1) rfl (by omega)<|Sto rfl (by rw[Xdf,Yga];omega) M ?_
       refine Ar (j+1+1:Nat) rfl ?_
       exact Bk (j+1+1) [] rfl (by omega) (by show L.length-(j+1+1)<L.length-(j+1);omega)
     . obtain rfl:k=0:=by omega
       have e1:mid L 1=mid L 0:=by
        cases L with
        | nil=>cases o
        | cons x L=>rfl
       rw[<-e1]
       refine Ar (0+1:Nat) rfl ?_
       exact Bk (0+1) [] rfl (by omega) (by show L.length-(0+1)<L.length-0;omega)
 . obtain rfl:k=L.length:=by omega
   rw[Ygb]
   obtain⟨f,hf⟩:∃f,(chQ L)[0]?=some f:=⟨_,W0a (by omega)⟩
   obtain⟨e,he⟩:∃e,(chQ L)[L.length-1]?=some e:=⟨_,W0a (by omega)⟩
   have Q:=I f (W0e hf)
   have T:=I e (W0e he)
   have U:=Xkc hf
   have hex:=Xkc he
   have V:(Xd0 (chQ L)).length=L.length:=by rw[Xdf,Xfh]
   refine Ar (L.length-1:Nat) rfl ?_
   refine Eo (L.length-1) rfl (by omega)<|Ld (dC (cvQ e)) rfl hex ?_
   refine Dw rfl ?_
   have done:CvP (.tup (.pr (.own 1000000 14 0 (Xd0 (chQ L)).length) (.b true))) [(1000000,.arr 14 (Xd0 (chQ L)))]:=.inr ⟨chQ L,by omega,by omega,I,rfl,rfl⟩
   rw[V] at done
   cases cl with
   | false =>
    exact No rfl nofun<|Dw rfl<|Rw [(15,1000000)] [(1000000,.arr 14 (Xd0 (chQ L)))] rfl (.tup (.cons (.rf rfl) Xg7)) (by rw[P11.dcT rfl];exact done)
   | true =>
    refine Yes rfl rfl<|Eo 0 rfl (by omega)<|Ld (dC (cvQ f)) rfl U ?_
    refine Ce rfl (R13.Equal_g W0 (gv0 T.b) (gv0 Q.a) (by decide) (by decide))<|By rfl (λA=>?_) λA=>?_
    . have A:¬e.b=f.a:=A
      have hn:VQ 700 ⟨false,e.b,f.a,zz2,false⟩:=⟨T.b,Q.a,(show Qp 700 zz2 from⟨by decide +kernel,by decide +kernel⟩),λ_=>A,nofun⟩
      refine Dw rfl<|Eo 0 rfl (by omega)<|Ld (dC (cvQ f)) rfl U ?_
      refine Ce rfl (R13.Whole_ok (i:=0) (j:=0) (by decide) (by decide))<|Yqw (Xd0 (chQ L++[⟨false,e.b,f.a,zz2,false⟩])) rfl rfl V.symm (by simp) (by rw[Xdf,W0d];simp;omega) ?_
      refine Dw rfl<|Rw [(88,1000000)] [(1000000,.arr 14 (Xd0 (chQ L++[⟨false,e.b,f.a,zz2,false⟩])))] rfl (.tup (.cons (.rf rfl) Xg7)) ?_
      rw[P11.dcT rfl]
      refine .inr ⟨_,by rw[W0d];simp,by rw[W0d];simp;omega,λc o=>?_,rfl,rfl⟩
      rcases W2c.1 o with o | o
      . exact I c o
      . obtain rfl:=W0f.1 o;exact hn
    . exact Dw rfl<|Rw [(15,1000000)] [(1000000,.arr 14 (Xd0 (chQ L)))] rfl (.tup (.cons (.rf rfl) Xg7)) (by rw[P11.dcT rfl];exact done)
end
end Go.Proofs.YtcmjannkbdflmaaGreatDoor.P57
namespace Go.Proofs.YtcmjannkbdflmaaGreatDoor
open Go Go.Vm Go.Num
theorem Xo2: Reads Tryz.prog 24 λd=>∃(l:List Dft) (c:Bool),d=P57.dCh l c/\l.length<9223372036854775808/\∀x∈l,x.ok :=
 (Xgx Tryz.underlying24 (.cons (n:=1) rfl Xm6 (by kernel_rfl) (.one rfl (Xgj Tryz.underlying4))) (λf hf=>by cases hf;kernel_rfl)).mono λd hd=>by
  obtain⟨_,rfl,_,_,rfl,⟨l,rfl,h,i⟩,⟨c,rfl⟩⟩:=hd
  exact⟨l,c,rfl,h,i⟩
theorem Xyv: Arg Tryz.prog 24 λd=>∃(l:List Dft) (c:Bool),d=P57.dCh l c/\l.length<9223372036854775808/\∀x∈l,x.ok:=Xt3 Tryz.underlying24 Xo2 λx ⟨_,_,e,_⟩=>by rw[e];rfl
end Go.Proofs.YtcmjannkbdflmaaGreatDoor
namespace Go.Proofs.YtcmjannkbdflmaaGreatDoor.P57
open Go Go.Vm Go.Num Go.Tow Go.Proofs.YtcmjannkbdflmaaGreatDoor
theorem Ykm{R:List Cq}{i:Nat}{a b:Cq}(ha:R[0]?=some a)(hb:R[i]?=some b): ∀c∈(R.set 0 b).set i a,c∈R:=λc h=>by
 rcases W4d h with h | rfl
 . rcases W4d h with h | rfl
   . exact h
   . exact W0e hb
 . exact W0e ha
theorem DrawingPath_ok{l:List Dft}{cl:Bool}{n:Int}{s:Nat}(hl:l.length<9223372036854775808)(hd:∀d∈l,d.ok)(hs:s<256): C0 3 [.d (dCh l cl),.d (.int .i64 n),.d (.int .u8 s)] (·=.b true):=by
 refine En Tryz.func3 λ_ _ _=>?_
 refine Cw [] rfl (Xy6 (m:=4) (W0c _) hl hd) λv H' _ M=>?_
 rcases M with ⟨rfl,rfl⟩ | ⟨R,h0,h5,M,rfl,rfl⟩
 . exact Ce rfl P55.aw55_ok<|No rfl nofun<|Yes rfl (by decide)<|Ce rfl P55.aw55_ok<|R0
 refine Ce rfl P55.aw55_ok<|No rfl nofun<|No rfl nofun ?_
 have hm:(Xd0 R).length=R.length:=Xdf
 refine Go.Vm.Cv (s:Nat) rfl ?_ (wI (by omega))
 refine Ar (2*R.length:Nat) rfl ?_ (wr (by rw[hm];omega) (by simp only[inK];omega))
 refine Ar (s%(2*R.length):Nat) rfl ?_ (show _/\_ from⟨by omega,by rw[<-Int.ofNat_tmod]⟩)
 generalize s%(2*R.length)=i
 refine Cu (some 5) (λc:Bool=>[(1,.d (.int .i64 n)),(7,.own 20 14 0 (Xd0 R).length),(9,.d (.int .i64 i)),(43,.b c)]) (λ_=>[(20,.arr 14 (Xd0 R))]) (λc=>c=true->i<R.length) rfl ?_ λc o=>?_
 . refine By rfl (λO=>?_) λO=>?_
   . exact Jn (dc ((i:Int)<((Xd0 R).length:Nat))) [] rfl (λe=>by have:=Xal.1 e;omega)
   . exact Jn false [] rfl nofun
 refine Cu none (λQ:List Cq=>[(1,.d (.int .i64 n)),(7,.own 20 14 0 (Xd0 R).length)]) (λQ=>[(20,.arr 14 (Xd0 Q))]) (λQ=>Q.length=R.length/\∀c∈Q,VQ 700 c) rfl ?_ λQ ⟨q0,A⟩=>?_
 . refine By rfl (λO=>?_) λO=>?_
   . have h2:=o O
     obtain⟨a,ha⟩:∃a,R[0]?=some a:=⟨_,W0a (by omega)⟩
     obtain⟨b,hb⟩:∃b,R[i]?=some b:=⟨_,W0a (by omega)⟩
     refine Dw rfl<|Eo i rfl (by omega)<|Ld (dC (cvQ b)) rfl (Xkc hb) ?_
     refine Eo 0 rfl (by omega)<|Ld (dC (cvQ a)) rfl (Xkc ha) ?_
     refine Eo 0 rfl (by omega)<|Sto (zs:=Xd0 (R.set 0 b)) rfl (by omega) (by show _=((R.set 0 b).map cvQ).map dC;rw[W6q,W6q]) ?_
     refine Eo i rfl (by omega)<|Sto (zs:=Xd0 ((R.set 0 b).set i a)) rfl (by rw[Xdf,W3o];omega) (by show _=(((R.set 0 b).set i a).map cvQ).map dC;rw[W6q (i:=i),W6q (i:=i)]) ?_
     exact Jn ((R.set 0 b).set i a) [] rfl ⟨by simp,λc o=>M c (Ykm ha hb c o)⟩
   . exact Jn R [] rfl ⟨rfl,M⟩
 have hq:(Xd0 Q).length=Q.length:=Xdf
 refine Fz 7 7 (Xd0 Q) rfl (by omega) (by rw[W0y,W0b (by omega)]) ?_
 obtain⟨c,o⟩:∃c,Q[0]?=some c:=⟨_,W0a (by omega)⟩
 obtain⟨e,T⟩:∃e,Q[Q.length-1]?=some e:=⟨_,W0a (by omega)⟩
 by_cases h:0<=n/\n<=20/\Lnk Q
 . obtain⟨k1,k2,U⟩:=h
   obtain⟨d,rfl⟩:=Int.eq_ofNat_of_zero_le k1
   have j:d<=20:=by omega
   have I:=W0e o
   have Y:=Xo5 (e:=e) j (by omega) I A
   have V:=Ydf (e:=e) j I A
   have hE:=Yib j (by omega) o T A U
   have Z:=P56.Points_ok (s:=ptx Q c e d) (by omega)
   have hR:=R56.Points_ok (s:=ptx Q c e d) (by omega)
   obtain⟨ps,B⟩:=W2g.1 V
   rw[B] at Z hR
   exact Ce rfl (Ymw j (by omega) o T A U)<|Ce rfl (Ym3 j (by omega) o T A U)<|No rfl (by decide)<|No rfl (λh=>h rfl)<|No rfl (by decide)<|Ce rfl Z<|Ce rfl hR<|Ce rfl hE<|Yes rfl rfl<|Yes rfl rfl<|Ce rfl (P56.SamePoints_ok (by have:=Yfl B;have:=Xbr (ptx Q c e d);have:=W4w (a:=(32:UInt8)) (l:=ptx Q c e d);omega) (Yfk B))<|R0
 . exact Ce rfl (Yh6 (by omega) (by omega) A h)<|Ce rfl (Yic (by omega) (by omega) A h)<|No rfl (by decide)<|No rfl (λh=>h rfl)<|Yes rfl (by decide)<|R0
end Go.Proofs.YtcmjannkbdflmaaGreatDoor.P57

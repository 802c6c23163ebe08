/- part 5 -/
import Derived.Test.YtclgppjdhndgiaaGreatDoorXD
import Derived.Lib.Bytealg
import Derived.Shelf.Strings.AsciiSet
import Derived.Shelf.Strings.BuilderK
import Derived.Shelf.Strings.OnBuilder
import Derived.RangeFuncLeaves
import Derived.ControlIn
set_option linter.unusedVariables false
set_option linter.unusedSimpArgs false
set_option maxRecDepth 10000
namespace Go.Proofs.YtclgppjdhndgiaaGreatDoor
open Go Go.Vm Go.Num Go.Tow
section
variable{K:Nat}{G:Tw K}{S:List (Tow.El K)}{N:List Nm}{n m:Nat}{x y z:Nm}{a b:Tow.El K}{u s:Vn}{p q:V2 K}{f g:Int}
namespace P13
theorem Ya0(W:Wn G S N)(hu:Gv G S N n u p)(hs:Gv G S N m s q)(hn:n<=190)(hm:m<=190): C0 130 [.d (dV u),.d (dV s),.d (fnD 62)] (VoG G S N (n+m) (Tow.mul K G p.1 q.1,Tow.mul K G p.2 q.2)):=by
 refine En Tryz.func130 λ_ _ _=>?_
 refine Ca rfl (P9.Mul_g W hu.x hs.x hn hm) λv hv=>?_
 obtain⟨z,rfl,hz⟩:=hv
 refine No rfl (by simp) ?_
 refine Ca rfl (P9.Mul_g W hu.y hs.y hn hm) λv hv=>?_
 obtain⟨w,rfl,hw⟩:=hv
 refine No rfl (by simp) ?_
 exact Rt rfl (.tup (.cons (.rf rfl) Xax)) ⟨⟨z,w⟩,rfl,hz,hw⟩
theorem Yao(W:Wn G S N)(hx:Gd G S N n x a)(hn:n<=190): C0 415 [.d (dN x)] (OnG G S N n a):=by
 refine En Tryz.func415 λ_ _ _=>?_
 refine Ca rfl (P9.Neg_g W hx hn) λv hv=>?_
 obtain⟨z,rfl,hz⟩:=hv
 refine Ca rfl (P9.Neg_g W hz hn) λv hv=>?_
 obtain⟨w,rfl,hw⟩:=hv
 rw[(Xbc K G).nn] at hw
 exact Rt rfl (.one (.rf rfl) rfl rfl) ⟨w,rfl,hw⟩
theorem Left_g(W:Wn G S N)(hu:Gv G S N n u p)(hn:n<=190): C0 370 [.d (dV u)] (VeG G S N n (neg K p.2,p.1)):=by
 refine En Tryz.func370 λ_ _ _=>?_
 refine Dw rfl ?_
 refine Ca rfl (P9.Neg_g W hu.y hn) λv hv=>?_
 obtain⟨z,rfl,hz⟩:=hv
 refine Ca rfl (Yao W hu.x hn) λv hv=>?_
 obtain⟨w,rfl,hw⟩:=hv
 exact Rt rfl (.one (.rf rfl) rfl rfl) ⟨⟨z,w⟩,rfl,hz,hw⟩
theorem Dot_g(W:Wn G S N)(hu:Gv G S N n u p)(hs:Gv G S N m s q)(hn:n<=190)(hm:m<=190)(h2:n+m<=190): C0 355 [.d (dV u),.d (dV s)] (OpG G S N (n+m+(n+m)) (Xer G p q)):=by
 refine En Tryz.func355 λ_ _ _=>?_
 refine Ca rfl (Ya0 W hu hs hn hm) λv hv=>?_
 obtain⟨r,rfl,hr⟩:=hv
 refine No rfl (by simp) ?_
 refine Ca rfl (P9.Add_g W hr.x hr.y h2 h2) λv hv=>?_
 obtain⟨z,rfl,hz⟩:=hv
 exact Rt rfl (.tup (.cons (.rf rfl) Xax)) ⟨z,rfl,hz⟩
theorem Cross_g(W:Wn G S N)(hu:Gv G S N n u p)(hs:Gv G S N m s q)(hn:n<=190)(hm:m<=190)(h2:n+m<=190): C0 317 [.d (dV u),.d (dV s)] (OpG G S N (n+m+(n+m)) (Xes G p q)):=by
 refine En Tryz.func317 λ_ _ _=>?_
 refine Dw rfl ?_
 refine Ca rfl (Left_g W hu hn) λv hv=>?_
 obtain⟨r,rfl,hr⟩:=hv
 refine Ca rfl (Dot_g W hr hs hn hm h2) λv hv=>?_
 obtain⟨z,rfl,hz⟩:=hv
 exact Rt rfl (.tup (.cons (.rf rfl) Xax)) ⟨z,rfl,hz⟩
theorem Zero_g(W:Wn G S N)(hu:Gv G S N n u p)(hn:n<=800): C0 357 [.d (dV u)] (·=.b (dc (p=vz K))):=by
 refine En Tryz.func357 λ_ _ _=>?_
 refine Ce rfl (P9.Sign_g W hu.x hn) ?_
 refine By rfl (λh=>?_) λh=>?_
 . refine Ce rfl (P9.Sign_g W hu.y hn) ?_
   exact R1 rfl (.bp (Xal.trans ⟨λh2=>(Xhj W.w.g).2 ⟨h,h2⟩,λh2=>((Xhj W.w.g).1 h2).2⟩))
 . exact R1 rfl (.bp ⟨nofun,λh2=>absurd ((Xhj W.w.g).1 h2).1 h⟩)
end P13
namespace P19
theorem Xsf(W:Wn G S N)(hu:Gv G S N n u p)(hs:Gv G S N m s q)(h2:n+m<=190): C0 358 [.d (dV u),.d (dV s)] (VoG G S N (n+m+(n+m)) (Xyn G p q)):=by
 refine En Tryz.func358 λ_ _ _=>?_
 refine Dw rfl ?_
 refine Ca rfl (P9.Neg_g W hu.y (by omega)) λv hv=>?_
 obtain⟨z,rfl,hz⟩:=hv
 refine Ca rfl (P13.Dot_g (u:=⟨u.x,z⟩) (p:=Xfe p) W ⟨hu.x,hz⟩ hs (by omega) (by omega) h2) λv hv=>?_
 obtain⟨d,rfl,hd⟩:=hv
 rw[Ybp] at hd
 refine No rfl (by simp) ?_
 refine Dw rfl ?_
 refine Ca rfl (P9.Neg_g W hu.y (by omega)) λv hv=>?_
 obtain⟨z',rfl,hz'⟩:=hv
 refine Ca rfl (P13.Cross_g (u:=⟨u.x,z'⟩) (p:=Xfe p) W ⟨hu.x,hz'⟩ hs (by omega) (by omega) h2) λv hv=>?_
 obtain⟨c,rfl,hc⟩:=hv
 rw[Ybo] at hc
 refine No rfl (by simp) ?_
 exact Rt rfl (.tup (.cons (.rf rfl) Xax)) ⟨⟨d,c⟩,rfl,hd,hc⟩
theorem Xs7(W:Wn G S N)(hu:Gv G S N n u p)(hn:n<=800): C0 316 [.d (dV u)] (·=.b (dc (vup G p))):=by
 refine En Tryz.func316 λ_ _ _=>?_
 refine Ce rfl (P9.Sign_g W hu.y hn) ?_
 refine By rfl (λh=>?_) λh=>?_
 . exact R1 rfl (.bp ⟨λ_=>.inl h,λ_=>rfl⟩)
 . refine By rfl (λh2=>?_) λh2=>?_
   . refine Ce rfl (P9.Sign_g W hu.x hn) ?_
     exact R1 rfl (.bp (Xal.trans ⟨λh3=>.inr ⟨h2,h3⟩,λh3=>h3.elim (λe=>absurd e h) λe=>e.2⟩))
   . exact R1 rfl (.bp ⟨nofun,λh3=>h3.elim (λe=>absurd e h) λe=>absurd e.1 h2⟩)
theorem Yj3(W:Wn G S N)(hu:Gv G S N n u p)(hn:n<=800): C0 315 [.d (dV u)] (·=.b (dc (Xhk G p))):=by
 refine En Tryz.func315 λ_ _ _=>?_
 refine Ce rfl (P9.Sign_g W hu.y hn) ?_
 refine By rfl (λh=>?_) λh=>?_
 . refine Ce rfl (P9.Sign_g W hu.x hn) ?_
   exact R1 rfl (.bp (Xal.trans ⟨λh3=>⟨h,h3⟩,λh3=>h3.2⟩))
 . exact R1 rfl (.bp ⟨nofun,λh3=>absurd h3.1 h⟩)
theorem Xxc(W:Wn G S N)(hu:Gv G S N n u p)(hs:Gv G S N m s q)(h2:n+m<=190): C0 224 [.d (dV u),.d (dV s)] (·=.tup (.pr (.d (.int .i64 (Xyo G p q))) (.d (.int .i64 0)))):=by
 refine En Tryz.func224 λ_ _ _=>?_
 refine Dw rfl ?_
 refine Ce rfl (Xs7 W hu (by omega)) ?_
 refine Ce rfl (Xs7 W hs (by omega)) ?_
 unfold Xyo
 refine By rfl (λh=>?_) λh=>?_
 . refine By rfl (λh1=>?_) λh1=>?_
   . rw[if_neg (by simp[Xal,h1] at h |-;exact h),if_pos h1]
     exact RTt rfl (.cons (.rf rfl) Xax)
   . rw[if_neg (by simp[Xal,h1] at h |-;exact h),if_neg h1]
     exact RTt rfl (.cons (.rf rfl) Xax)
 . have d1:dc True=true:=Xal.2 trivial
   have d2:dc False=false:=W2m.2 λh=>Xal.1 h
   have h:vup G p↔vup G q:=by
    by_cases h1:vup G p<;>by_cases h2:vup G q<;>simp[h1,h2,d1,d2] at h |-
   rw[if_pos h]
   refine Ca rfl (P13.Cross_g W hu hs (by omega) (by omega) h2) λv hv=>?_
   obtain⟨z,rfl,hz⟩:=hv
   refine Ce rfl (P9.Sign_g W hz (by omega)) ?_
   have ht:=Xc4 G (Xes G p q)
   refine Ne (-sgn K G (Xes G p q)) rfl ?_ (wr (W7z _) (by simp only[inK];omega))
   exact RTt rfl (.cons (.rf rfl) Xax)
theorem Cmp_g(W:Wn G S N)(hu:Gv G S N n u p)(hs:Gv G S N m s q)(h2:n+m<=190): C0 135 [.d (dT u f),.d (dT s g)] (·=.tup (.pr (.d (.int .i64 (Ylt G p q f g))) (.d (.int .i64 0)))):=by
 refine En Tryz.func135 λ_ _ _=>?_
 unfold Ylt
 refine By rfl (λh=>?_) λh=>?_
 . rw[if_pos h];exact RTt rfl (.cons (.rf rfl) Xax)
 rw[if_neg h]
 refine By rfl (λh=>?_) λh=>?_
 . rw[if_pos h];exact RTt rfl (.cons (.rf rfl) Xax)
 rw[if_neg h]
 refine Ce rfl (Xxc W hu hs h2) ?_
 refine No rfl (by simp) ?_
 exact RTt rfl (.cons (.rf rfl) Xax)
def Trm(x:Nm): Prop:=C0 208 [.d (dN x)] (·=.d (dN x))
theorem Xix(W:Wn G S N)(hu:Gv G S N n u p)(ht:Trm u.x)(hn:n<=190): C0 314 [.d (dV u)] (VeG G S N n (Xfe p)):=by
 refine En Tryz.func314 λ_ _ _=>?_
 refine Dw rfl ?_
 refine Ce rfl ht ?_
 refine Ca rfl (P9.Neg_g W hu.y hn) λv hv=>?_
 obtain⟨z,rfl,hz⟩:=hv
 exact Rt rfl (.one (.rf rfl) rfl rfl) ⟨⟨u.x,z⟩,rfl,hu.x,hz⟩
def OfG(G:Tw K)(S:List (Tow.El K))(N:List Nm)(n:Nat)(p q:V2 K)(r:AV): Prop:=(¬(p=vz K\/q=vz K)/\∃v,r=.tup (.pr (.d (dT v 0)) (.d (.int .i64 0)))/\Gv G S N n v (Xyn G (Xfe p) q))\/((p=vz K\/q=vz K)/\r=.tup (.pr (.d dT0) (.d (.int .i64 6))))
theorem Of_g(W:Wn G S N)(hu:Gv G S N n u p)(hs:Gv G S N m s q)(ht:Trm u.x)(h2:n+m<=190): C0 282 [.d (dV u),.d (dV s)] (OfG G S N (n+m+(n+m)) p q):=by
 refine En Tryz.func282 λ_ _ _=>?_
 refine Ce rfl (P13.Zero_g W hu (by omega)) ?_
 refine By rfl (λh=>?_) λh=>?_
 . exact Rt rfl (.tup (.cons Xsj Xax)) (.inr ⟨.inl h,rfl⟩)
 . refine Ce rfl (P13.Zero_g W hs (by omega)) ?_
   refine By rfl (λh1=>?_) λh1=>?_
   . exact Rt rfl (.tup (.cons Xsj Xax)) (.inr ⟨.inr h1,rfl⟩)
   refine Dw rfl ?_
   refine Ca rfl (Xix W hu ht (by omega)) λv hv=>?_
   obtain⟨c,rfl,hc⟩:=hv
   refine Ca rfl (Xsf W hc hs h2) λv hv=>?_
   obtain⟨d,rfl,hd⟩:=hv
   refine No rfl (by simp) ?_
   exact Rt rfl (.tup (.cons (.rf rfl) Xax)) (.inl ⟨λe=>e.elim h h1,d,rfl,hd⟩)
def vopp(G:Tw K)(p:V2 K)(f:Int): Int:=if Xhk G p then -f else -f-1
theorem opposite_g(W:Wn G S N)(hu:Gv G S N n u p)(ht:Trm u.x)(hn:n<=190)(hf:few f): C0 223 [.d (dT u f)] (λr=>∃v,r=.d (dT v (vopp G p f))/\Gv G S N n v (Xfe p)):=by
 unfold few at hf
 refine En Tryz.func223 λ_ _ _=>?_
 refine Dw rfl ?_
 refine Ca rfl (Xix W hu ht hn) λv hv=>?_
 obtain⟨c,rfl,hc⟩:=hv
 refine Ne (-f) rfl ?_ (wr (W7z _) (by simp only[inK];omega))
 refine Ce rfl (Yj3 W hu (by omega)) ?_
 refine By rfl (λh=>?_) λh=>?_
 . have h:¬Xhk G p:=by simpa [Xa4,Xal] using h
   refine Ar (-f-1) rfl ?_ (wr rfl (by simp only[inK];omega))
   exact Rt rfl (.one (.rf rfl) rfl rfl) ⟨c,by rw[vopp,if_neg h],hc⟩
 . have h:Xhk G p:=by simpa [Xa4,Xal] using h
   exact Rt rfl (.one (.rf rfl) rfl rfl) ⟨c,by rw[vopp,if_pos h],hc⟩
end P19
end
end Go.Proofs.YtclgppjdhndgiaaGreatDoor
namespace Go.Vm
open Go
section
variable{c:Cx}{s:St}{p:Pl}
noncomputable def Yo7(tb:Nat->Option TI)(n:Nat)(s:St): Option (Pl×Nat×Nat×Int×Nat×Nat):=match nxA tb n s with
 | some (p,o,[.ptr q off,.d (.int _ j)])=>match o.op with
  | .indexAddr T _ _=>match tb T with
   | some ⟨.st _,e,_,ar⟩=>some (p,q,off,j,e.size,ar)
   | _=>none
  | _=>none
 | _=>none
theorem Ia(i:Nat){q off sz ar:Nat}{j:Int}(h:Yo7 c.tb c.n s=some (p,q,off,j,sz,ar))(hi:i<ar)(kk:p.nx c (.ptr q (off+i*sz)))(hj:j=(i:Int):=by first | exact rfl | omega): StP c s:=by
 subst hj
 unfold Yo7 at h
 split at h<;>try cases h
 rename_i p' o q1 off1 k1 j1 hA
 split at h<;>try cases h
 rename_i T x y ho
 split at h<;>try cases h
 rename_i z e eb ht
 refine Xb1 (v:=.ptr q (off+i*e.size)) (us:=[]) hA ?_ (Pl.nx_nil kk)
 rw[ho]
 simp[F,Fp,ht,hi]
end
end Go.Vm
namespace Go.Proofs.YtclgppjdhndgiaaGreatDoor
open Go Go.Vm Go.Num Go.Tow
theorem Xg0{c:Bool}{g:Hp}{K:Hpl}: FitT g K (.b c) (.b c):=.one (.rf rfl) (λ_ _ e=>by cases e) (λ_ _ e=>by cases e)
end Go.Proofs.YtclgppjdhndgiaaGreatDoor
namespace Go.Proofs.YtclgppjdhndgiaaGreatDoor.P9
open Go Go.Vm Go.Num Go.Tow Go.Proofs.YtclgppjdhndgiaaGreatDoor
end Go.Proofs.YtclgppjdhndgiaaGreatDoor.P9
namespace Go.Proofs.YtclgppjdhndgiaaGreatDoor
open Go Go.Vm Go.Num Go.Tow
section
variable{K:Nat}{G:Tw K}{S:List (Tow.El K)}{N:List Nm}{n m k:Nat}{x y z:Nm}{a b v w:Tow.El K}{u s t:Vn}{p q r:V2 K}
def Xa9{K:Nat}(p q:V2 K): V2 K:=(Tow.add K p.1 (Tow.neg K q.1),Tow.add K p.2 (Tow.neg K q.2))
def Xcw{K:Nat}(p q:V2 K): V2 K:=(Tow.add K p.1 q.1,Tow.add K p.2 q.2)
theorem P9.Sub_g(W:Wn G S N)(hx:Gd G S N n x v)(hy:Gd G S N m y w)(hn:n<=190)(hm:m<=190): C0 131 [.d (dN x),.d (dN y)] (OpG G S N (n+m) (Tow.add K v (Tow.neg K w))):=(P9.Sub_ok W.w (hx.op hn) (hy.op hm) (by decide)).mono λ_ ⟨z,e,h⟩=>⟨z,e,hx.add W hy.neg h⟩
theorem Yhv{K:Nat}{a b:Tow.El K}: toL K a=toL K b↔a=b:=⟨Xhp,λe=>by rw[e]⟩
theorem P9.Equal_g(W:Wn G S N)(hx:Gd G S N n x v)(hy:Gd G S N m y w)(hn:n<=190)(hm:m<=190): C0 126 [.d (dN x),.d (dN y)] (·=.b (dc (v=w))):=by
 have hG:=W.w.g
 have hR:=Xhi
 have hx':=hx.op hn
 have hy':=hy.op hm
 obtain⟨ρx,hx1,hx2⟩:=hx'.ex
 obtain⟨ρy,hy1,hy2⟩:=hy'.ex
 have hx3:=W.w.le hx1
 have hy3:=W.w.le hy1
 have hxr:=W.w.t hx1
 have hyr:=W.w.t hy1
 have hpx:=p16 (show x.k<=16 by omega)
 have hJ:jW 3799892570=8*3799892570+73803682:=rfl
 have hj:C0 213 [.d (dNs [x,y])] λv'=>∃m T a b,v'=.tup (.pr (.d (dNs [⟨m,T,a⟩,⟨m,T,b⟩])) (.d (.int .i64 0)))/\R9.JnR G S 3799892570 v w m T a b:=P9.Join_ok W.w hx' hy' (by decide)
 have fin:∀ {k:Nat} {T:Tw k} {a b:Tow.El k} {ρ:Nat->Tow.El K},TOk G S k T ρ->ev G ρ k a=v->ev G ρ k b=w->(dc (toL k a=toL k b)=true↔v=w):=λ{k T a b ρ} h1 h2 h3=>by
  rw[Xal,Yhv,<-h2,<-h3]
  exact⟨λe=>by rw[e],λe=>Xm0 (Xah hG) h1.h h1.r e⟩
 refine En Tryz.func126 λ_ _ _=>?_
 refine Ce rfl (P9.begins_ok (T:=toT x.k x.t) (U:=toT y.k y.t) (TS.pt hxr) (TS.pt hyr) (by omega) (by rw[Xaa];omega)) ?_
 refine By rfl (λh1=>?_) λh1=>?_
 . refine Ce rfl (P9.begins_ok (T:=toT y.k y.t) (U:=toT x.k x.t) (TS.pt hyr) (TS.pt hxr) (by omega) (by rw[Xaa];omega)) ?_
   refine By rfl (λh2=>?_) λh2=>?_
   . refine Ce rfl (P9.sameElement_ok hx'.p.ps hy'.p.ps (by omega) (by rw[Xab];omega)) ?_
     refine R1 rfl (.bp ?_)
     have e1:(toT x.k x.t).take (toT y.k y.t).length=toT y.k y.t:=h1
     have e2:(toT y.k y.t).take (toT x.k x.t).length=toT x.k x.t:=h2
     have l1:=congrArg List.length e1
     have l2:=congrArg List.length e2
     rw[W0j,Xaa,Xaa] at l1 l2
     obtain⟨kx,tx,ax⟩:=x
     obtain⟨ky,ty,ay⟩:=y
     have l1:min ky kx=ky:=l1
     have l2:min kx ky=kx:=l2
     obtain rfl:kx=ky:=by omega
     have e3:toT kx tx=toT kx ty:=by
      have e1:(toT kx tx).take (toT kx ty).length=toT kx ty:=e1
      rwa[Xaa,W0b (by rw[Xaa];omega)] at e1
     obtain rfl:=Xkf e3
     have hy2:ev G ρx kx ay=w:=by rw[<-hy2];exact Xbu λi hi=>Hom.uniq hG hx1.h hy1.h i hi
     exact fin hx1 hx2 hy2
   . refine Ca rfl hj λv' hv=>?_
     obtain⟨m',T,a,b,rfl,ρ,j1,j2,j3,j4,j5⟩:=hv
     have jm:=W.w.le j1
     have jp:=p16 (show m'<=16 by omega)
     refine Yes rfl (by decide) ?_
     refine Dw rfl ?_
     refine Ix 0 rfl (u:=dN ⟨m',T,a⟩) rfl ?_
     refine Ix 1 rfl (u:=dN ⟨m',T,b⟩) rfl ?_
     refine Ce rfl (P9.sameElement_ok (l:=toL m' a) (m:=toL m' b) j4.ps j5.ps (by omega) (by rw[Xab];omega)) ?_
     exact R1 rfl (.bp (fin j1 j2 j3))
 . refine Ca rfl hj λv' hv=>?_
   obtain⟨m',T,a,b,rfl,ρ,j1,j2,j3,j4,j5⟩:=hv
   have jm:=W.w.le j1
   have jp:=p16 (show m'<=16 by omega)
   refine Yes rfl (by decide) ?_
   refine Dw rfl ?_
   refine Ix 0 rfl (u:=dN ⟨m',T,a⟩) rfl ?_
   refine Ix 1 rfl (u:=dN ⟨m',T,b⟩) rfl ?_
   refine Ce rfl (P9.sameElement_ok (l:=toL m' a) (m:=toL m' b) j4.ps j5.ps (by omega) (by rw[Xab];omega)) ?_
   exact R1 rfl (.bp (fin j1 j2 j3))
theorem P13.both_add(W:Wn G S N)(hu:Gv G S N n u p)(hs:Gv G S N m s q)(hn:n<=190)(hm:m<=190): C0 130 [.d (dV u),.d (dV s),.d (fnD 132)] (VoG G S N (n+m) (Xcw p q)):=by
 refine En Tryz.func130 λ_ _ _=>?_
 refine Ca rfl (P9.Add_g W hu.x hs.x hn hm) λv hv=>?_
 obtain⟨z,rfl,hz⟩:=hv
 refine No rfl (by simp) ?_
 refine Ca rfl (P9.Add_g W hu.y hs.y hn hm) λv hv=>?_
 obtain⟨w,rfl,hw⟩:=hv
 refine No rfl (by simp) ?_
 exact Rt rfl (.tup (.cons (.rf rfl) Xax)) ⟨⟨z,w⟩,rfl,hz,hw⟩
theorem P13.both_sub(W:Wn G S N)(hu:Gv G S N n u p)(hs:Gv G S N m s q)(hn:n<=190)(hm:m<=190): C0 130 [.d (dV u),.d (dV s),.d (fnD 131)] (VoG G S N (n+m) (Xa9 p q)):=by
 refine En Tryz.func130 λ_ _ _=>?_
 refine Ca rfl (P9.Sub_g W hu.x hs.x hn hm) λv hv=>?_
 obtain⟨z,rfl,hz⟩:=hv
 refine No rfl (by simp) ?_
 refine Ca rfl (P9.Sub_g W hu.y hs.y hn hm) λv hv=>?_
 obtain⟨w,rfl,hw⟩:=hv
 refine No rfl (by simp) ?_
 exact Rt rfl (.tup (.cons (.rf rfl) Xax)) ⟨⟨z,w⟩,rfl,hz,hw⟩
theorem P13.Add_g(W:Wn G S N)(hu:Gv G S N n u p)(hs:Gv G S N m s q)(hn:n<=190)(hm:m<=190): C0 56 [.d (dV u),.d (dV s)] (VoG G S N (n+m) (Xcw p q)):=by
 refine En Tryz.func56 λ_ _ _=>?_
 refine Ca rfl (P13.both_add W hu hs hn hm) λv hv=>?_
 obtain⟨r,rfl,hr⟩:=hv
 exact Rt rfl (.tup (.cons (.rf rfl) Xax)) ⟨r,rfl,hr⟩
theorem P13.Sub_g(W:Wn G S N)(hu:Gv G S N n u p)(hs:Gv G S N m s q)(hn:n<=190)(hm:m<=190): C0 55 [.d (dV u),.d (dV s)] (VoG G S N (n+m) (Xa9 p q)):=by
 refine En Tryz.func55 λ_ _ _=>?_
 refine Ca rfl (P13.both_sub W hu hs hn hm) λv hv=>?_
 obtain⟨r,rfl,hr⟩:=hv
 exact Rt rfl (.tup (.cons (.rf rfl) Xax)) ⟨r,rfl,hr⟩
theorem P13.Equal_g(W:Wn G S N)(hu:Gv G S N n u p)(hs:Gv G S N m s q)(hn:n<=190)(hm:m<=190): C0 46 [.d (dV u),.d (dV s)] (·=.b (dc (p=q))):=by
 refine En Tryz.func46 λ_ _ _=>?_
 refine Ce rfl (P9.Equal_g W hu.x hs.x hn hm) ?_
 refine By rfl (λh=>?_) λh=>?_
 . refine Ce rfl (P9.Equal_g W hu.y hs.y hn hm) ?_
   exact R1 rfl (.bp (Xal.trans ⟨λh2=>W3a h h2,λe=>by rw[e]⟩))
 . exact R1 rfl (.bp ⟨nofun,λe=>absurd (by rw[e]) h⟩)
end
end Go.Proofs.YtclgppjdhndgiaaGreatDoor
namespace Go.Proofs.YtclgppjdhndgiaaGreatDoor.P15
open Go Go.Vm Go.Num Go.Tow Go.Proofs.YtclgppjdhndgiaaGreatDoor
section
variable{K:Nat}{G:Tw K}{S:List (Tow.El K)}{N:List Nm}{n m k:Nat}{x y z:Nm}{a b v w:Tow.El K}{u s t:Vn}{p q r:V2 K}
theorem note_ok: CN0 409 [.ptr 1000001 0,.d (.int .i64 0)] [(1000001,cal)] IsB:=by
 refine EnW Tryz.func409 λ_ _ _ _=>?_
 refine Yes rfl (by decide) ?_
 exact Rw [] [(1000001,cal)] rfl (.one (.rf rfl) rfl rfl) ⟨rfl,_,rfl⟩
theorem Ydu{f:FuncId}(hf:C0 f [.d (dN x),.d (dN y)] (OpG G S N n w)): CN0 368 [.ptr 1000001 0,.d (fnD f),.d (dN x),.d (dN y)] [(1000001,cal)] (OnG G S N n w):=by
 refine EnW Tryz.func368 λ_ _ _ _=>?_
 refine No rfl (by decide) ?_
 refine Ca rfl hf λv hv=>?_
 obtain⟨z,rfl,hz⟩:=hv
 refine Cn [] rfl note_ok λv hv=>?_
 obtain⟨_,rfl⟩:=hv
 exact Rw [] [(1000001,cal)] rfl (.one (.rf rfl) rfl rfl) ⟨rfl,z,rfl,hz⟩
theorem Yoc(W:Wn G S N)(hx:Gd G S N n x v)(hy:Gd G S N m y w)(hn:n<=190)(hm:m<=190): CN0 297 [.ptr 1000001 0,.d (dN x),.d (dN y)] [(1000001,cal)] (OnG G S N (n+m) (Tow.add K v w)):=by
 refine EnW Tryz.func297 λ_ _ _ _=>?_
 refine Cn [] rfl (Ydu (P9.Add_g W hx hy hn hm)) λv hv=>?_
 obtain⟨z,rfl,hz⟩:=hv
 exact Rw [] [(1000001,cal)] rfl (.one (.rf rfl) rfl rfl) ⟨rfl,z,rfl,hz⟩
theorem Ydz(W:Wn G S N)(hx:Gd G S N n x v)(hy:Gd G S N m y w)(hn:n<=190)(hm:m<=190): CN0 299 [.ptr 1000001 0,.d (dN x),.d (dN y)] [(1000001,cal)] (OnG G S N (n+m) (Tow.add K v (Tow.neg K w))):=by
 refine EnW Tryz.func299 λ_ _ _ _=>?_
 refine Cn [] rfl (Ydu (P9.Sub_g W hx hy hn hm)) λv hv=>?_
 obtain⟨z,rfl,hz⟩:=hv
 exact Rw [] [(1000001,cal)] rfl (.one (.rf rfl) rfl rfl) ⟨rfl,z,rfl,hz⟩
theorem Yi9(W:Wn G S N)(hx:Gd G S N n x v)(hy:Gd G S N m y w)(hn:n<=190)(hm:m<=190): CN0 298 [.ptr 1000001 0,.d (dN x),.d (dN y)] [(1000001,cal)] (OnG G S N (n+m) (Tow.mul K G v w)):=by
 refine EnW Tryz.func298 λ_ _ _ _=>?_
 refine Cn [] rfl (Ydu (P9.Mul_g W hx hy hn hm)) λv hv=>?_
 obtain⟨z,rfl,hz⟩:=hv
 exact Rw [] [(1000001,cal)] rfl (.one (.rf rfl) rfl rfl) ⟨rfl,z,rfl,hz⟩
theorem Xvc(W:Wn G S N)(hu:Gv G S N n u p)(hs:Gv G S N m s q)(hn:n<=190)(hm:m<=190): CN0 210 [.ptr 1000001 0,.d (dV u),.d (dV s)] [(1000001,cal)] (VeG G S N (n+m) (Xa9 p q)):=by
 refine EnW Tryz.func210 λ_ _ _ _=>?_
 refine Dw rfl ?_
 refine Cn [] rfl (Ydz W hu.x hs.x hn hm) λv hv=>?_
 obtain⟨z,rfl,hz⟩:=hv
 refine Cn [] rfl (Ydz W hu.y hs.y hn hm) λv hv=>?_
 obtain⟨w,rfl,hw⟩:=hv
 exact Rw [] [(1000001,cal)] rfl (.one (.rf rfl) rfl rfl) ⟨rfl,⟨z,w⟩,rfl,hz,hw⟩
theorem Xps(W:Wn G S N)(hu:Gv G S N n u p)(hn:n+n<=190): CN0 209 [.ptr 1000001 0,.d (dV u)] [(1000001,cal)] (OnG G S N (n+n+(n+n)) (Xer G p p)):=by
 refine EnW Tryz.func209 λ_ _ _ _=>?_
 refine Dw rfl ?_
 refine Cn [] rfl (Yi9 W hu.x hu.x (by omega) (by omega)) λv hv=>?_
 obtain⟨z,rfl,hz⟩:=hv
 refine Cn [] rfl (Yi9 W hu.y hu.y (by omega) (by omega)) λv hv=>?_
 obtain⟨w,rfl,hw⟩:=hv
 refine Cn [] rfl (Yoc W hz hw hn hn) λv hv=>?_
 obtain⟨z,rfl,hz⟩:=hv
 exact Rw [] [(1000001,cal)] rfl (.one (.rf rfl) rfl rfl) ⟨rfl,z,rfl,hz⟩
abbrev dK(u:Vn)(z:Nm): D:=.st (.pr (dV u) (dN z))
theorem Around_g(W:Wn G S N)(hu:Gv G S N n u p)(hs:Gv G S N m s q)(hx:P19.Trm u.x)(hy:P19.Trm u.y)(h2:n+m+(n+m)<=190)(hp:p≠q): C0 125 [.d (dV u),.d (dV s)] (λr=>∃z,r=.tup (.pr (.d (dK u z)) (.d (.int .i64 0)))/\Gd G S N (n+m+(n+m)+(n+m+(n+m))) z (Xer G (Xa9 q p) (Xa9 q p))):=by
 refine En Tryz.func125 λ_ _ _=>?_
 refine Ce rfl (P13.Equal_g W hu hs (by omega) (by omega)) ?_
 refine No rfl hp ?_
 refine Dw rfl ?_
 refine Ce rfl hx ?_
 refine Ce rfl hy ?_
 refine Cn [(1000001,13)] rfl (Xvc W hs hu (by omega) (by omega)) λv hv=>?_
 obtain⟨v,rfl,hv⟩:=hv
 refine Cn [(1000001,13)] rfl (Xps W hv (by omega)) λv hv=>?_
 obtain⟨z,rfl,hz⟩:=hv
 refine No rfl (by decide) ?_
 exact Rt rfl (.tup (.cons (.rf rfl) Xax)) ⟨z,rfl,hz.mono (by omega)⟩
end
end Go.Proofs.YtclgppjdhndgiaaGreatDoor.P15
namespace Go.Proofs.YtclgppjdhndgiaaGreatDoor
open Go Go.Vm Go.Num Go.Tow
structure Cv where
 arc:Bool
 A:Vn
 B:Vn
 C:Vn
 cw:Bool
abbrev dC(c:Cv): D:=.st (.pr (.bool c.arc) (.pr (dV c.A) (.pr (dV c.B) (.pr (dV c.C) (.bool c.cw)))))
abbrev Xd0(l:List Cv): D:=.sl 14 (l.map dC)
section
variable{K:Nat}{G:Tw K}{S:List (Tow.El K)}{N:List Nm}{n m k:Nat}{x y z:Nm}{a b v w:Tow.El K}{u s t:Vn}{p q r:V2 K}
namespace P15
theorem Yg0(W:Wn G S N)(hu:Gv G S N n u p)(hz:Gd G S N k z w)(hs:Gv G S N m s q)(h2:n+m+(n+m)+(n+m+(n+m))<=190)(hk:k<=190): C0 281 [.d (dK u z),.d (dV s)] (OpG G S N (m+n+(m+n)+(m+n+(m+n))+k) (Tow.add K (Xer G (Xa9 q p) (Xa9 q p)) (Tow.neg K w))):=by
 refine En Tryz.func281 λ_ _ _=>?_
 refine Dw rfl ?_
 refine Cn [(1000001,9)] rfl (Xvc W hs hu (by omega) (by omega)) λv hv=>?_
 obtain⟨v,rfl,hv⟩:=hv
 refine Cn [(1000001,9)] rfl (Xps W hv (by omega)) λv hv=>?_
 obtain⟨z,rfl,hz1⟩:=hv
 refine Cn [(1000001,9)] rfl (Ydz W hz1 hz (by omega) hk) λv hv=>?_
 obtain⟨z,rfl,hz2⟩:=hv
 refine No rfl (by decide) ?_
 exact Rt rfl (.tup (.cons (.rf rfl) Xax)) ⟨z,rfl,hz2⟩
theorem Side_g(W:Wn G S N)(hu:Gv G S N n u p)(hz:Gd G S N k z w)(hs:Gv G S N m s q)(h2:n+m+(n+m)+(n+m+(n+m))<=190)(hk:k<=190): C0 194 [.d (dK u z),.d (dV s)] (·=.tup (.pr (.d (.int .i64 (sgn K G (Tow.add K (Xer G (Xa9 q p) (Xa9 q p)) (Tow.neg K w))))) (.d (.int .i64 0)))):=by
 refine En Tryz.func194 λ_ _ _=>?_
 refine Ca rfl (Yg0 W hu hz hs h2 hk) λv hv=>?_
 obtain⟨z,rfl,hz⟩:=hv
 refine No rfl (by decide) ?_
 refine Ce rfl (P9.Sign_g W hz (by omega)) ?_
 exact RTt rfl (.cons (.rf rfl) Xax)
end P15
namespace P47
theorem Valid_seg{c:Cv}(W:Wn G S N)(ha:c.arc=false)(hu:Gv G S N n c.A p)(hs:Gv G S N m c.B q)(hn:n<=190)(hm:m<=190): C0 45 [.d (dC c)] (·=.b (dc (p≠q))):=by
 obtain⟨_,A,B,C,cw⟩:=c
 obtain rfl:_=false:=ha
 refine En Tryz.func45 λ_ _ _=>?_
 refine Yes rfl nofun ?_
 refine Ce rfl (P13.Equal_g W hu hs hn hm) ?_
 exact R1 rfl (.bp (by rw[Xa4,Xal]))
theorem around_g{c:Cv}(W:Wn G S N)(hu:Gv G S N n c.C p)(hs:Gv G S N m c.A q)(hx:P19.Trm c.C.x)(hy:P19.Trm c.C.y)(h2:n+m+(n+m)<=190)(hp:p≠q): C0 193 [.d (dC c)] (λr=>∃z,r=.tup (.pr (.d (P15.dK c.C z)) (.d (.int .i64 0)))/\Gd G S N (n+m+(n+m)+(n+m+(n+m))) z (Xer G (Xa9 q p) (Xa9 q p))):=by
 refine En Tryz.func193 λ_ _ _=>?_
 refine Ca rfl (P15.Around_g W hu hs hx hy h2 hp) λv hv=>?_
 obtain⟨z,rfl,hz⟩:=hv
 exact Rt rfl (.tup (.cons (.rf rfl) Xax)) ⟨z,rfl,hz⟩
theorem full_g{c:Cv}(W:Wn G S N)(ha:c.arc=true)(hu:Gv G S N n c.A p)(hs:Gv G S N m c.B q)(hn:n<=190)(hm:m<=190): C0 195 [.d (dC c)] (·=.b (dc (p=q))):=by
 obtain⟨_,A,B,C,cw⟩:=c
 obtain rfl:_=true:=ha
 refine En Tryz.func195 λ_ _ _=>?_
 refine Yes rfl rfl ?_
 refine Ce rfl (P13.Equal_g W hu hs hn hm) ?_
 exact R0
end P47
end
end Go.Proofs.YtclgppjdhndgiaaGreatDoor
namespace Go.Vm
open Go
section
section
variable{c:Cx}{s:St}{p:Pl}
noncomputable def Yov(tb:Nat->Option TI)(n:Nat)(s:St): Option (Pl×List UInt8×List UInt8):=match nxA tb n s with
 | some (p,o,[.d (.str a),.d (.str b)])=>match o.op with
  | .binOp op _ _ _ _=>match op with
   | .add=>some (p,a,b)
   | _=>none
  | _=>none
 | _=>none
theorem Sc{a b:List UInt8}(t:List UInt8)(h:Yov c.tb c.n s=some (p,a,b))(ht:a++b=t)(hl:a.length+b.length<9223372036854775808)(kk:p.nx c (.d (.str t))): StP c s:=by
 subst ht
 unfold Yov at h
 split at h<;>try cases h
 rename_i hA
 split at h<;>try cases h
 rename_i ho
 split at h<;>cases h
 refine Xb1 (us:=[]) hA ?_ (Pl.nx_nil kk)
 rw[ho]
 simp only[F,Fp,Ybf,if_pos hl]
noncomputable def Yi1(tb:Nat->Option TI)(n:Nat)(s:St): Option (Pl×List UInt8×Option Int×Option Int):=match nxA tb n s with
 | some (p,o,asx)=>match o.op with
  | .slice T _ lo hi mx=>match tb T with
   | some ti=>match ti.z,Xlx lo hi mx asx with
    | .str _,some (.d (.str s),l,h,none)=>some (p,s,l,h)
    | _,_=>none
   | none=>none
  | _=>none
 | none=>none
theorem Xoa{t:List UInt8}{r:AV}{l h':Option Int}(h:Yi1 c.tb c.n s=some (p,t,l,h'))(hr:slS t l h'=some r)(k:p.nx c r): StP c s:=by
 unfold Yi1 at h
 split at h<;>try cases h
 rename_i hA
 split at h<;>try cases h
 rename_i ho
 split at h<;>try cases h
 rename_i ti ht
 split at h<;>cases h
 rename_i hz hs
 refine Xb1 (us:=[]) hA ?_ (Pl.nx_nil k)
 rw[ho]
 simp only[F,Fp,ht,hz,hs,hr]
theorem Stk(j:Nat)(zs:List UInt8){i:Int}{xs:List UInt8}(h:Yi1 c.tb c.n s=some (p,xs,none,some i))(hl:j<=xs.length)(hz:xs.take j=zs)(k:p.nx c (.d (.str zs)))(hj:i=j:=by first | exact rfl | omega): StP c s:=by
 subst hj;subst hz
 refine Xoa h ?_ k
 rw[slS,if_pos ⟨by omega,by omega⟩];simp
theorem Sdp(j:Nat)(zs:List UInt8){i:Int}{xs:List UInt8}(h:Yi1 c.tb c.n s=some (p,xs,some i,none))(hl:j<=xs.length)(hz:xs.drop j=zs)(k:p.nx c (.d (.str zs)))(hj:i=j:=by first | exact rfl | omega): StP c s:=by
 subst hj;subst hz
 refine Xoa h ?_ k
 rw[slS,if_pos ⟨by omega,by omega⟩];simp
theorem Smd(i j:Nat)(zs:List UInt8){i' j':Int}{xs:List UInt8}(h:Yi1 c.tb c.n s=some (p,xs,some i',some j'))(hl:i<=j/\j<=xs.length)(hz:(xs.drop i).take (j-i)=zs)(k:p.nx c (.d (.str zs)))(hi:i'=i:=by first | exact rfl | omega)(hj:j'=j:=by first | exact rfl | omega): StP c s:=by
 subst hi;subst hj;subst hz
 refine Xoa h ?_ k
 rw[slS,if_pos ⟨by omega,by omega,by omega⟩];simp
noncomputable def Yo5(tb:Nat->Option TI)(n:Nat)(s:St): Option (Pl×AV):=match nxA tb n s with
 | some (p,o,[a])=>match o.op with
  | .convert S T _=>match tb S,tb T,Yhd a with
   | some ⟨.sl _ _,.int .u8 _,_,_⟩,some ⟨.str _,_,_,_⟩,true=>some (p,a)
   | _,_,_=>none
  | _=>none
 | _=>none
theorem Bs(zs:List UInt8){a:AV}(h:Yo5 c.tb c.n s=some (p,a))(hz:Ylu a=some zs)(kk:p.nx c (.d (.str zs))): StP c s:=by
 unfold Yo5 at h
 split at h<;>try cases h
 rename_i hA
 split at h<;>try cases h
 rename_i ho
 split at h<;>cases h
 rename_i h1 h2 h3
 refine Xb1 (us:=[]) hA ?_ (Pl.nx_nil kk)
 rw[ho]
 have:∀k z,a≠.d (.int k z):=λk z e=>by subst e;cases h3
 cases a with
 | d x=>cases x<;>first | exact absurd rfl (this _ _) | simp only[F,Fp,h2,h1,hz]
 | _=>simp only[F,Fp,h2,h1,hz]
end
end
section
theorem Xxb{W:GW}{z:D}: ∀ {cs:List Value},(∀x∈z.comps,x.size=1)->D.At W z cs->AtL W 1 z.comps cs/\cs.length=z.comps.length:=by
 have one:∀ {x:D} {cs:List Value},x.size=1->D.At W x cs->AtL W 1 [x] cs/\cs.length=1:=λ{x cs} h1 h =>
  ⟨λi y hi=>by
   cases i with
   | zero=>simp at hi;subst hi;exact⟨cs,h,h1,λj v hj=>by simpa using hj⟩
   | succ i=>simp at hi,by rw[D.at_len x h,h1]⟩
 induction z using D.ind with
 | leaf x h1 h2 =>
  intro cs hs h
  have e:x.comps=[x]:=by cases x<;>first | rfl | exact absurd rfl (h2 _ _)
  rw[e] at hs |-
  exact one (hs x (W0g.2 rfl)) h
 | st a _=>intro cs hs h;exact one (hs _ (W0g.2 rfl)) h
 | pr a c _ ih =>
  intro cs hs ⟨u,v,e,h1,h2⟩
  have hs:∀x∈a::c.comps,x.size=1:=hs
  obtain⟨k1,k2⟩:=one (hs a (W0w ..)) h1
  obtain⟨k3,k4⟩:=ih (λx hx=>hs x (W1e _ hx)) h2
  subst e
  have:=k1.app k3 (by rw[k2];rfl)
  exact⟨this,by rw[W0d,k2,k4];show _=(a::c.comps).length;simp;omega⟩
theorem Stp.vara{N:Nat->Prop}{W:GW}{θ:Loc}{g:Hp}(h:Obs W θ N g){o d b n sz:Nat}{a:AV}{xs:List D}(ho:g o=some (.var a))(hb:(θ o).1=some b)(hB:d<1000000)(hd:g d=none)(hx:(Ob.arr sz xs).R W (λi=>if i=d then (some b,n) else θ i) d):
 Stp N W W θ (λi=>if i=d then (some b,n) else θ i) g (upd (upd g o .dead) d (.arr sz xs)) where
 os:=_root_.rfl
 out:=_root_.rfl
 tape:=_root_.rfl
 size:=W0c _
 same:=λ_ _ _=>_root_.rfl
 A:=λ_ _ _ _=>W4a
 le:=LeF.refl W
 th:=λi y hy=>if_neg λe=>by rw[e,hd] at hy;cases hy
 hi:=λi h=>if_neg (by omega)
 obs:=by
  have hg:∀ {i:Nat} {y:Ob},upd (upd g o .dead) d (.arr sz xs) i=some y->(i=d/\y=.arr sz xs)\/(i≠d/\i=o/\y=.dead)\/(i≠d/\i≠o/\g i=some y):=λ{i y} hy=>by
   rcases Xae hy with ⟨e1,e2⟩ | ⟨e1,e2⟩
   . exact .inl ⟨e1,e2⟩
   . rcases Xae e2 with ⟨f1,f2⟩ | ⟨f1,f2⟩
     . exact .inr (.inl ⟨e1,f1,f2⟩)
     . exact .inr (.inr ⟨e1,f1,f2⟩)
  have hnd:∀ {i:Nat},(∃z,g i=some z)->i≠d:=λ⟨z,hz⟩ e=>by rw[e,hd] at hz;cases hz
  refine⟨λi y hy=>?_,λi y b' hy hl hb'=>?_,λi j y y' b' hy hy' hl hl' b1 b2=>?_,λi y j hy hj=>?_⟩
  . rcases hg hy with ⟨rfl,rfl⟩ | ⟨_,_,rfl⟩ | ⟨e1,e2,e3⟩
    . exact hx
    . trivial
    . exact(h.r i y e3).keep (LeF.refl W) (if_neg e1) (λj hj=>if_neg (hnd (h.ids i y j e3 hj))) λ_ _ _=>⟨_root_.rfl,λ_ h=>h⟩
  . rcases hg hy with ⟨rfl,rfl⟩ | ⟨_,_,rfl⟩ | ⟨e1,e2,e3⟩
    . rw[if_pos _root_.rfl] at hb'
      exact h.new o _ b' ho _root_.rfl (hb.trans hb')
    . cases hl
    . rw[if_neg e1] at hb';exact h.new i y b' e3 hl hb'
  . rcases hg hy with ⟨rfl,rfl⟩ | ⟨_,_,rfl⟩ | ⟨e1,e2,e3⟩
    . rcases hg hy' with ⟨rfl,rfl⟩ | ⟨_,_,rfl⟩ | ⟨f1,f2,f3⟩
      . exact _root_.rfl
      . cases hl'
      . rw[if_pos _root_.rfl] at b1;rw[if_neg f1] at b2
        exact absurd (h.dis j o y' _ b' f3 ho hl' _root_.rfl b2 (hb.trans b1)) f2
    . cases hl
    . rcases hg hy' with ⟨rfl,rfl⟩ | ⟨_,_,rfl⟩ | ⟨f1,f2,f3⟩
      . rw[if_pos _root_.rfl] at b2;rw[if_neg e1] at b1
        exact absurd (h.dis i o y _ b' e3 ho hl _root_.rfl b1 (hb.trans b2)) e2
      . cases hl'
      . rw[if_neg e1] at b1;rw[if_neg f1] at b2;exact h.dis i j y y' b' e3 f3 hl hl' b1 b2
  . rcases hg hy with ⟨rfl,rfl⟩ | ⟨_,_,rfl⟩ | ⟨e1,e2,e3⟩
    . exact hj.elim
    . exact hj.elim
    . have hz:=h.ids i y j e3 hj
      rw[Xam (hnd hz)]
      by_cases e:j=o
      . subst e;exact⟨_,Xai _ _ _⟩
      . rw[Xam e];exact hz
 dom:=λi y hy=>by
  rw[Xam (λe=>by rw[e,hd] at hy;cases hy)]
  by_cases e:i=o
  . subst e;exact⟨_,Xai _ _ _⟩
  . exact⟨y,by rw[Xam e];exact hy⟩
section
variable{c:Cx}{s:St}{p:Pl}
noncomputable def Yos(tb:Nat->Option TI)(n id t:Nat)(s:St): Option (List Kt×Env×Hpl×Nat×D):=match runT tb n id 1000 s with
 | .j _ K E H=>match look E t with
  | some (.ptr o 0)=>match look H o with
   | some (.var (.d (.st z)))=>some (K,E,H,o,z)
   | _=>none
  | _=>none
 | _=>none
theorem Va(id t d m:Nat)(xs:List D){K:List Kt}{E:Env}{H:Hpl}{o:Nat}{z:D}(h:Yos c.tb c.n id t s=some (K,E,H,o,z))(hz:z.comps=xs)(hs:∀x∈xs,x.size=1)(hm:xs.length=m)(k:StP c (.j [] K ((t,.ap d m)::E) ((d,.arr 1 xs)::(o,.dead)::H)))
 (hd:(Nat.blt d 1000000 && !Xb5 H d&&Nat.blt m 1000000)=true:=by exact rfl):StP c s:=by
 subst hz
 simp only[W0f,W1t] at hd
 obtain⟨⟨hd1,hd2⟩,hm1⟩:=hd
 have hd1:=Xqy hd1
 have hm1:=Xqy hm1
 have hdn:look H d=none:=Xbl hd2
 unfold Yos at h
 split at h<;>try cases h
 rename_i hr
 split at h<;>try cases h
 rename_i he
 split at h<;>cases h
 rename_i ho
 refine Xgc (id:=id) 1000 ?_
 rw[hr]
 rintro a w ⟨s0,W,θ,hw,hs0,hθ,rfl⟩
 obtain⟨b,cs,T',r1,r2,r3,r4⟩:=hs0.obs.r _ _ ho
 have r3:D.At W z cs:=r3
 obtain⟨k1,k2⟩:=Xxb hs r3
 have st:=Stp.vara (n:=m) (sz:=1) (xs:=z.comps) hs0.obs ho r1 hd1 hdn ⟨b,cs,T',by simp,r2,by rw[k2,hm];simp,by simp only[if_true];omega,by simp only[if_true];omega,k1,r4⟩
 have h1:=hs0.step0 st
 refine k a w ⟨_,W,_,hw,?_,λi hi=>(st.hi i hi).trans (hθ i hi),rfl⟩
 rw[show sem ((t,AV.ap d m)::E) ((d,Ob.arr 1 z.comps)::(o,Ob.dead)::H)=(upd (look E) t (.ap d m),upd (upd (look H) o .dead) d (.arr 1 z.comps)) by rw[Xa6,Xa6,Xa6]]
 refine⟨h1.fm,⟨h1.rel.defers,h1.rel.size,λq v hq=>?_⟩,h1.obs,λq v i hq hi=>?_⟩
 . rcases Xae hq with ⟨e1,e2⟩ | ⟨e1,e2⟩
   . subst e1;subst e2
     obtain⟨b',f1,f2⟩:=Xjd (hs0.rel.has q _ he)
     rw[r1] at f1;injection f1 with f1;subst f1
     exact⟨_,⟨b,by simp,by simp,rfl⟩,f2⟩
   . exact h1.rel.has q v e2
 . rcases Xae hq with ⟨e1,e2⟩ | ⟨e1,e2⟩
   . subst e2
     have hi:i=d:=hi
     subst hi
     exact⟨_,Xai _ _ _⟩
   . exact h1.ids q v i e2 hi
noncomputable def Yot(tb:Nat->Option TI)(n:Nat)(s:St): Option (Pl×Oper×TypeId×Operand×Operand×Nat×Nat×Nat×Nat×D×Int):=match nxO tb n s with
 | some (p,o)=>match o.op,p.dr with
  | .slice T x none (some y) none,false=>match Xcl (look p.E) x,Xcl (look p.E) y,tb T with
   | some (.ap q m),some (.d (.int _ j)),some ⟨.st z,e,eb,ar⟩=>match Nat.beq m ar,look p.H q with
    | true,some _=>some (p,o,T,x,y,q,m,e.size,eb,z,j)
    | _,_=>none
   | _,_,_=>none
  | _,_=>none
 | none=>none
theorem Sp(j:Nat){o:Oper}{T:TypeId}{x y:Operand}{q m sz eb:Nat}{z:D}{i:Int}(h:Yot c.tb c.n s=some (p,o,T,x,y,q,m,sz,eb,z,i))(hj:j<=m)(h0:0<m)(k:p.nx c (.own q sz 0 j))(hm:m<1000000)(hi:i=(j:Int):=by first | exact rfl | omega): StP c s:=by
 subst hi
 unfold Yot at h
 split at h<;>try cases h
 rename_i p' o' ho
 split at h<;>try cases h
 rename_i T' x' y' hop hdr
 split at h<;>try cases h
 rename_i k2 e eb' ar hx hy hti
 split at h<;>cases h
 rename_i hH hma
 have hma:=W0e hma
 subst hma
 refine Xmg (us:=[]) ho (by unfold Xao;rw[hop];rfl) hdr (λN W θ ρ _ hO hN hB hv=>?_) (Pl.nx_nil k)
 obtain⟨hk,_⟩:=c.hT _ _ hti
 obtain⟨t,u1,_,u3⟩:=hk.u
 simp only[show ¬m=0 by omega,if_false] at u3
 obtain⟨E,e1,i,v0,i1,i2,_⟩:=u3
 subst e1
 obtain⟨cs,⟨b,f1,f2,f3⟩,f4⟩:=hv _ _ hx
 subst f3
 have f4:ρ x=.pointer (some ⟨b,0,none⟩):=f4
 obtain⟨ey,_⟩:=Xcv (hv _ _ hy)
 have hg:(sem p.E p.H).2 q=some _:=hH
 refine .val (u:=.slice (some ⟨b,0,none⟩) j m) hO ?_ ?_ (λi hi=>by subst hi;exact⟨_,hg⟩)
 . have hm0:¬m=0:=by omega
   simp[execOp,hop,f4,ey,Instr.sliceAt,Instr.sureAddr,Instr.sliceBounds,Instr.sliceBound,asIntOf,sizeOf,typeInfo,underlying,program,bind,Sem.bind,Sem.run,pure,u1,i1,i2,hm0,hj,add0]
 . exact⟨[.slice (some ⟨b,0,none⟩) j m],⟨b,some ⟨b,0,none⟩,f1,by omega,by omega,by rw[f2,W7a],λ_=>by rw[W4x]⟩,rfl⟩
noncomputable def Yo6(tb:Nat->Option TI)(n:Nat)(s:St): Option (Pl×Oper×TypeId×TypeId×Operand×Nat×Nat×Nat×List D):=match nxO tb n s with
 | some (p,o)=>match o.op,p.dr with
  | .convert S T x,false=>match Xcl (look p.E) x,tb S,tb T with
   | some (.own q 1 l m),some ⟨.sl _ _,.int .u8 _,_,_⟩,some ⟨.str _,_,_,_⟩=>match look p.H q with
    | some (.arr 1 xs)=>some (p,o,S,T,x,q,l,m,xs)
    | _=>none
   | _,_,_=>none
  | _,_=>none
 | none=>none
theorem Bo(zs:List UInt8){o:Oper}{S T:TypeId}{x:Operand}{q l m:Nat}{xs:List D}(h:Yo6 c.tb c.n s=some (p,o,S,T,x,q,l,m,xs))(hl:l+m<=xs.length)(hz:Yay ((xs.drop l).take m)=some zs)(k:p.nx c (.d (.str zs))): StP c s:=by
 unfold Yo6 at h
 split at h<;>try cases h
 rename_i p' o' ho
 split at h<;>try cases h
 rename_i S' T' x' hop hdr
 split at h<;>try cases h
 rename_i hx hS hT
 split at h<;>cases h
 rename_i hH
 refine Xmg (us:=[]) ho (by unfold Xao;rw[hop];rfl) hdr (λN W θ ρ _ hO hN hB hv=>?_) (Pl.nx_nil k)
 obtain⟨hk,_⟩:=c.hT _ _ hS
 obtain⟨t,u1,_,E,u3,_⟩:=hk.u
 subst u3
 obtain⟨t',u1',_,u3⟩:=(c.hT _ _ hT).1.u
 have u3:t'=.string:=u3
 subst u3
 have ue:=hk.k E _ _ u1 rfl
 obtain⟨b,pp,f1,f2,f3,e,f5⟩:=Xlm (hv _ _ hx)
 obtain⟨b',bs,T1,r1,r2,r3,r4,r5,r6,r7⟩:=hO.r _ _ hH
 rw[f1] at r1;injection r1 with r1;subst r1
 obtain⟨ns,hn1,rfl⟩:=Xlk hz
 have hlen:ns.length=m:=by
  have:=congrArg List.length hn1
  simp at this;omega
 refine .val (u:=.string ⟨(ns.map λz=>UInt8.ofNat z.toNat).toArray⟩) hO ?_ (Xlt (by simp;omega)) (λ_ h=>h.elim)
 have hc:(convert S T (ρ x)).run c.P W.w=.ok (.string ⟨(ns.map λz=>UInt8.ofNat z.toNat).toArray⟩) W.w:=by
  rw[e,run_convert_bytes_string W.w S T E pp _ _ u1 ue u1']
  by_cases hm0:m=0
  . subst hm0
    have:ns=[]:=W2s.1 hlen
    subst this
    cases pp with
    | none=>rfl
    | some a=>exact run_bytesToString W.w a _ _ [] rfl
  . rw[f5 (by omega)]
    rw[run_bytesToString W.w _ _ _ ns (by
     have h:=run_loadCells (P:=c.P) (b:=b) (off:=l*1) (w:=W.w) (ns.map (Value.int .u8)) 0 #[] (λj v hj=>by
      rw[W0t] at hj
      cases hz:ns[j]? with
      | none=>rw[hz] at hj;cases hj
      | some z =>
       rw[hz] at hj;injection hj with hj;subst hj
       have hj':((xs.drop l).take m)[j]?=some (.int .u8 z):=by rw[hn1,W0t,hz];rfl
       have hj2:xs[l+j]?=some (.int .u8 z):=by
        rw[W1j] at hj'
        split at hj'
        . rwa[W2f] at hj'
        . cases hj'
       obtain⟨e1,g1,_,g2⟩:=r6 _ _ hj2
       have g1:=g1.1
       subst g1
       have:=g2 0 _ rfl
       rw[show l*1+(0+j)=(l+j)*1+0 by omega,Xbf r2]
       exact this)
     simp only[W0i] at h
     rw[<-hlen]
     simpa [loadCells] using h)]
    have:=Xe4 ns []
    rw[show (ByteArray.empty:ByteArray)=⟨([]:List UInt8).toArray⟩ from rfl,this]
    simp
 unfold execOp
 rw[hop]
 simp only
 rw[Sem.run_bind,hc];rfl
noncomputable def Yo3(tb:Nat->Option TI)(n:Nat)(s:St): Option (Pl×Oper×TypeId×Nat×Operand×Nat×Int):=match nxO tb n s with
 | some (p,o)=>match o.op,p.dr with
  | .indexAddr T (.global g) y,false=>match Xcl (look p.E) y,tb T with
   | some (.d (.int _ j)),some ⟨.st _,.int _ _,_,ar⟩=>match Nat.beq ar 0 with
    | false=>some (p,o,T,g,y,ar,j)
    | true=>none
   | _,_=>none
  | _,_=>none
 | none=>none
theorem Gx(j:Nat)(k:IntKind)(z:Int){o:Oper}{T:TypeId}{y:Operand}{g ar:Nat}{i:Int}(h:Yo3 c.tb c.n s=some (p,o,T,g,y,ar,i))(hj:j<ar)(hg:∀W,c.gb.g W->Fr W g j (.int k z))(hr:inR k z)(kk:p.nx c (.at (.int k z)))(hi:i=(j:Int):=by first | exact rfl | omega): StP c s:=by
 subst hi
 unfold Yo3 at h
 split at h<;>try cases h
 rename_i p' o' ho
 split at h<;>try cases h
 rename_i T' g' y' hop hdr
 split at h<;>try cases h
 rename_i k1 j1 z1 k2 z2 eb ar1 hy hti
 split at h<;>cases h
 rename_i hz
 have hz:¬ar=0:=λe=>by subst e;cases hz
 refine Xmg (us:=[]) ho (by unfold Xao;rw[hop];rfl) hdr (λN W θ ρ hgb hO hN hB hv=>?_) (Pl.nx_nil kk)
 obtain⟨hk,_⟩:=c.hT _ _ hti
 obtain⟨t,u1,_,u3⟩:=hk.u
 simp only[hz,if_false] at u3
 obtain⟨E,e1,i,v0,i1,i2,_⟩:=u3
 subst e1
 obtain⟨ey,_⟩:=Xcv (hv _ _ hy)
 have eg:=hgb.2 g
 have i2:i.size=1:=i2
 refine .val (u:=.pointer (some ⟨g,j,none⟩)) hO ?_ (Yn8 (e:=[.int k z]) ⟨rfl,hr⟩ λq v hq=>?_) (λ_ h=>h.elim)
 . have hjl:(j:Int)<(ar:Int):=by omega
   simp[execOp,hop,eg,ey,Instr.indexAt,Instr.sureAddr,asIntOf,sizeOf,typeInfo,underlying,program,bind,Sem.bind,Sem.run,pure,u1,i1,i2,hjl,hj,add0]
 . cases q with
   | zero=>simp at hq;subst hq;exact hg W hgb.1
   | succ q=>simp at hq
end
end
section
section
variable{c:Cx}{s:St}{p:Pl}
noncomputable def Yow(tb:Nat->Option TI)(n:Nat)(s:St): Option (Pl×Oper×Operand×Operand×TypeId×TI×Nat×List D):=match nxO tb n s with
 | some (p,o)=>match o.op,p.dr with
  | .call ⟨.builtin .append,⟨[x,y]⟩,⟨[T,T']⟩⟩,false=>match Nat.beq T T',Xcl (look p.E) x,Xcl (look p.E) y,tb T with
   | true,some .nil,some (.lit sz ys),some ti=>match ti.z,look p.H (o.dst.getD 0),Nat.ble ti.eb 128 with
    | .sl sz' _,none,true=>match Nat.beq sz sz' with
     | true=>some (p,o,x,y,T,ti,sz,ys)
     | false=>none
    | _,_,_=>none
   | _,_,_,_=>none
  | _,_=>none
 | none=>none
theorem ApW{o:Oper}{x y:Operand}{T:TypeId}{ti:TI}{sz:Nat}{ys:List D}(h:Yow c.tb c.n s=some (p,o,x,y,T,ti,sz,ys))(h0:0<ys.length)(hl:ys.length<=1099511627776)(k:p.nx' c (.own (o.dst.getD 0) sz 0 ys.length) [(o.dst.getD 0,.arr sz ys)]): StP c s:=by
 unfold Yow at h
 split at h<;>try cases h
 rename_i p' o' ho
 split at h<;>try cases h
 rename_i x' y' T1 T2 hop hdr
 split at h<;>try cases h
 rename_i sz1 ys1 ti1 hT hx hy hti
 have hT:=W0e hT
 subst hT
 split at h<;>try cases h
 rename_i sz2 zz hz hd hb
 split at h<;>cases h
 rename_i hsz
 have hsz:=W0e hsz
 subst hsz
 refine Xmg ho (by unfold Xao;rw[hop];rfl) hdr (λN W θ ρ _ hO hN hB hv=>?_) k
 obtain⟨hk,_⟩:=c.hT _ _ hti
 obtain⟨t,u1,_,u3⟩:=hk.u
 rw[hz] at u3
 obtain⟨E,e,hszz,hez,ii,v0,i1,i2,i3,i4,i5⟩:=u3
 subst e
 obtain⟨q,ex⟩:=Xje (hv _ _ hx)
 obtain⟨q2,c2,news,ey,hk2,hnl,hnr,hn1,hna⟩:=Ybz (z:=.sl sz []) (sz:=sz) hO (c:=.lit sz ys) (ys:=ys) (by simp[Xpr,toD]) (hv _ _ hy)
 rw[hszz] at hnl
 have hr:Xh0 (0+ys.length) ti:=by rw[W1k];exact Xej hl (W1q hb)
 have hrun:=Xfc (P:=c.P) (W:=W) (ty:=o.type) (ti:=ti) u1 i1 i2 i3 i4 i5 (p:=q) (m:=0) (c:=0) (k:=ys.length) (c2:=c2) (q:=q2) (olds:=[]) (news:=news) (W0c _) (.inl rfl) (by simp) (λb _ j u hj=>by simp at hj) hnl hnr hn1 hr hk2
 rcases hrun with ⟨h1,_⟩ | ⟨_,h1,_⟩ | ⟨_,c',zs,h1,h2,h3,hrun⟩
 . omega
 . omega
 . simp only[W1k,W4g] at hrun h1 h3
   obtain⟨W',θ',e1,e2,e3⟩:=Xh8 (W:=W.tick) (θ:=θ) (g:=(sem p.E p.H).2) (dd:=o.dst.getD 0) (E:=E) (sz:=sz) (xs:=ys) (cs:=news) (c:=c') (zs:=zs) (Stp.tick hO).obs hN hB hd (hna.mono (Xd1 W)) (by rw[hnl,hszz]) h1 h2 (by rw[hszz];exact h3)
   refine⟨W',θ',.value _,?_,(Stp.tick hO).trans e2,.inr ⟨_,rfl,e3⟩,λi hi=>⟨_,by subst hi;exact Xai _ _ _⟩⟩
   have h4:execOp ρ o=(Builtin.append_ #[T,T] o.type #[ρ x,ρ y] >>= λv=>pure (.value v)):=by
    simp[execOp,hop,resolve,invoke,builtin]
   rw[h4,Sem.run_bind,ex,ey,hrun,e1]
   rfl
noncomputable def Yoy(tb:Nat->Option TI)(n:Nat)(s:St): Option (Pl×Oper×Operand×Nat×Nat):=match nxO tb n s with
 | some (p,o)=>match o.op,p.dr with
  | .nilCheck x,false=>match Xcl (look p.E) x with
   | some (.ap q m)=>match look p.H q with
    | some _=>some (p,o,x,q,m)
    | none=>none
   | _=>none
  | _,_=>none
 | none=>none
theorem Nk{o:Oper}{x:Operand}{q m:Nat}(h:Yoy c.tb c.n s=some (p,o,x,q,m))(k:p.nx c (.ap q m)): StP c s:=by
 unfold Yoy at h
 split at h<;>try cases h
 rename_i p' o' ho
 split at h<;>try cases h
 rename_i x' hop hdr
 split at h<;>try cases h
 rename_i q' m' hx
 split at h<;>cases h
 rename_i hH
 refine Xmg (us:=[]) ho (by unfold Xao;rw[hop];rfl) hdr (λN W θ ρ _ hO hN hB hv=>?_) (Pl.nx_nil k)
 obtain⟨cs,⟨b,f1,f2,f3⟩,f4⟩:=hv _ _ hx
 subst f3
 have f4:ρ x=.pointer (some ⟨b,0,none⟩):=f4
 refine .val (u:=.pointer (some ⟨b,0,none⟩)) hO ?_ ⟨_,⟨b,f1,f2,rfl⟩,rfl⟩ (λi hi=>by subst hi;exact⟨_,hH⟩)
 simp only[execOp,hop,f4];rfl
noncomputable def Yo4(tb:Nat->Option TI)(n:Nat)(s:St): Option (Pl×Oper×TypeId×Operand×Operand×Nat×Nat×Int):=match nxO tb n s with
 | some (p,o)=>match o.op,p.dr with
  | .indexAddr T x y,false=>match Xcl (look p.E) x,Xcl (look p.E) y,tb T with
   | some (.ap q m),some (.d (.int _ j)),some ⟨.st _,e,_,ar⟩=>match Nat.beq m ar,Nat.beq e.size 1,look p.H q with
    | true,true,some _=>some (p,o,T,x,y,q,m,j)
    | _,_,_=>none
   | _,_,_=>none
  | _,_=>none
 | none=>none
theorem Ea(j:Nat){o:Oper}{T:TypeId}{x y:Operand}{q m:Nat}{i:Int}(h:Yo4 c.tb c.n s=some (p,o,T,x,y,q,m,i))(hj:j<m)(k:p.nx c (.el q 1 j 0))(hi:i=(j:Int):=by first | exact rfl | omega): StP c s:=by
 subst hi
 unfold Yo4 at h
 split at h<;>try cases h
 rename_i p' o' ho
 split at h<;>try cases h
 rename_i T' x' y' hop hdr
 split at h<;>try cases h
 rename_i k2 zz e eb ar hx hy hti
 split at h<;>cases h
 rename_i hes hH hma
 have hma:=W0e hma
 subst hma
 have hes:=W0e hes
 refine Xmg (us:=[]) ho (by unfold Xao;rw[hop];rfl) hdr (λN W θ ρ _ hO hN hB hv=>?_) (Pl.nx_nil k)
 obtain⟨hk,_⟩:=c.hT _ _ hti
 obtain⟨t,u1,_,u3⟩:=hk.u
 simp only[show ¬m=0 by omega,if_false] at u3
 obtain⟨E,e1,i,v0,i1,i2,_⟩:=u3
 subst e1
 have i2:i.size=1:=i2.trans hes
 obtain⟨cs,⟨b,f1,f2,f3⟩,f4⟩:=hv _ _ hx
 subst f3
 have f4:ρ x=.pointer (some ⟨b,0,none⟩):=f4
 obtain⟨ey,_⟩:=Xcv (hv _ _ hy)
 refine .val (u:=.pointer (some ⟨b,j,none⟩)) hO ?_ (by have:=Yl6 (sz:=1) (j:=j) (off:=0) (W:=W) f1;simpa using this) (λi hi=>by subst hi;exact⟨_,hH⟩)
 have hjl:(j:Int)<(m:Int):=by omega
 simp[execOp,hop,f4,ey,Instr.indexAt,Instr.sureAddr,asIntOf,sizeOf,typeInfo,underlying,program,bind,Sem.bind,Sem.run,pure,u1,i1,i2,hjl,hj,add0]
end
end
end Go.Vm
namespace Go.Proofs.YtclgppjdhndgiaaGreatDoor
open Go Go.Vm Go.Num
abbrev Tx(s:List UInt8): Prop:=s.length<4611686018427387904
theorem Xgx{s t:List UInt8}(hs:Tx s)(ht:Tx t): C0 267 [.d (.str s),.d (.str t)] (·=.b (dc (s.take t.length=t))):=by
 refine En Tryz.func267 λ_ _ _=>?_
 refine By rfl (λh=>?_) λh=>?_
 . refine Stk t.length _ rfl (by omega) rfl ?_
   exact R1 rfl (.bp Xal)
 . refine R1 rfl (.bp ⟨λe=>(by cases e),λe=>?_⟩)
   have:=congrArg List.length e
   rw[W0j] at this
   omega
theorem Xed{s t:List UInt8}(hs:Tx s)(ht:Tx t): C0 99 [.d (.str s),.d (.str t)] (·=.tup (.pr (.d (.str (if s.take t.length=t then s.drop t.length else s))) (.b (dc (s.take t.length=t))))):=by
 have h1:C0 182 [.d (.str s),.d (.str t)] (·=.tup (.pr (.d (.str (if s.take t.length=t then s.drop t.length else s))) (.b (dc (s.take t.length=t))))):=by
  refine En Tryz.func182 λ_ _ _=>?_
  refine Ce rfl (Xgx hs ht) ?_
  refine By rfl (λh=>?_) λh=>?_
  . refine RTt rfl (.cons (.eq (by rw[if_neg h])) (.one (by exact .bp (c:=false) ⟨λe=>(by cases e),λe=>absurd e h⟩) (λ_ _ e=>by cases e) (λ_ _ e=>by cases e)))
  . have h:=W2h.1 h
    have hl:t.length<=s.length:=by have:=congrArg List.length h;rw[W0j] at this;omega
    refine Sdp t.length _ rfl hl rfl ?_
    refine RTt rfl (.cons (.eq (by rw[if_pos h])) (.one (by exact .bp (c:=true) ⟨λ_=>h,λ_=>rfl⟩) (λ_ _ e=>by cases e) (λ_ _ e=>by cases e)))
 refine En Tryz.func99 λ_ _ _=>?_
 refine Ce rfl h1 ?_
 exact R0t
def trL(c:UInt8)(s:List UInt8): List UInt8:=s.dropWhile (·==c)
theorem Xfh{a b:UInt8}(h:(a.toNat:Int)=b.toNat): a=b:=W8a.1 (by omega)
theorem Xhn{s:List UInt8}{b:UInt8}(hs:Tx s): C0 230 [.d (.str s),.d (.int .u8 b.toNat)] (·=.d (.str (trL b s))):=by
 refine En Tryz.func230 λ_ _ _=>?_
 refine Lo (λ(t:List UInt8)=>[(0,.d (.str t)),(1,.d (.int .u8 b.toNat))]) (λ_=>[]) (λt=>Tx t/\trL b t=trL b s) (λt=>t.length) s [] rfl ⟨hs,rfl⟩ ?_ (by exact⟨rfl,rfl,rfl,rfl,rfl⟩)
 rintro t ⟨ht,he⟩
 refine By rfl (λh=>?_) λh=>?_
 . cases t with
   | nil=>simp at h
   | cons x u =>
   have hl:(x::u).length=u.length+1:=rfl
   refine Yx 0 x rfl rfl ?_
   refine By rfl (λh1=>?_) λh1=>?_
   . refine Sdp 1 u rfl (by omega) rfl ?_
     refine Bk u [] rfl ⟨by show u.length<_;have:(x::u).length<_:=ht;omega,?_⟩ (by simp) (by exact⟨rfl,rfl,rfl,rfl,rfl⟩)
     rw[<-he];simp[trL,Xfh h1]
   . refine R1 rfl (.eq ?_)
     rw[<-he];simp[trL,W4o]
     exact λe=>absurd (by rw[e]) h1
 . have:t=[]:=W2s.1 (by omega)
   subst this
   exact R1 rfl (.eq (by rw[<-he];rfl))
theorem Xnj{s:List UInt8}{b:UInt8}(hs:Tx s)(hb:b.toNat<128): C0 141 [.d (.str s),.d (.str [b])] (·=.d (.str (trL b s))):=by
 refine En Tryz.func141 λ_ _ _=>?_
 refine By rfl (λh=>?_) λh=>?_
 . subst h;exact R1 rfl (.eq rfl)
 . refine No rfl (by simp) ?_
   refine Yes rfl (by simp) ?_
   refine Yx 0 b rfl rfl ?_
   refine Yes rfl (by omega) ?_
   refine Yx 0 b rfl rfl ?_
   refine Ce rfl (Xhn hs) ?_
   exact R0
end Go.Proofs.YtclgppjdhndgiaaGreatDoor
namespace Go.Num
def dec(n:Nat): List UInt8:=if h:n<10 then [UInt8.ofNat (48+n)] else dec (n/10)++[UInt8.ofNat (48+n%10)]
termination_by n
decreasing_by omega
theorem Xdk{n:Nat}(h:n<10): dec n=[UInt8.ofNat (48+n)]:=by rw[dec,dif_pos h]
theorem Xf0{n:Nat}(h:10<=n): dec n=dec (n/10)++[UInt8.ofNat (48+n%10)]:=by rw[dec,dif_neg (by omega)]
theorem Xw7(n:Nat): dec n≠[]:=by
 rw[dec];split<;>simp
theorem Xw5(n:Nat): 0<(dec n).length:=W4n.2 (Xw7 n)
theorem Xe8: ∀(k n:Nat),n<10^(k+1)->(dec n).length<=k+1
 | 0,n,h=>by rw[Xdk (by simpa using h)];simp
 | k+1,n,h=>by
  by_cases h1:n<10
  . rw[Xdk h1];simp
  . rw[Xf0 (by omega),W0d]
    have:=Xe8 k (n/10) (W4j (by rw[W0q] at h;omega))
    simp;omega
theorem Xeo: ∀(k n:Nat),10^k<=n->k+1<=(dec n).length
 | 0,n,h=>Xw5 n
 | k+1,n,h=>by
  rw[W0q] at h
  have:0<10^k:=W6s (by decide)
  rw[Xf0 (by omega),W0d]
  have:=Xeo k (n/10) (by omega)
  simp;omega
theorem Ykj(n:Nat): n<10^(dec n).length:=by
 induction n using Nat.strongRecOn with
 | ind n ih =>
  by_cases h:n<10
  . rw[Xdk h];simpa using h
  . rw[Xf0 (by omega),W0d]
    have:=ih (n/10) (by omega)
    simp only[W4f]
    rw[W0q];omega
def tx(z:Int): List UInt8:=(if z<0 then [45] else [])++dec z.natAbs
theorem Xzi(l:Nat): 4294967296^l<=10^(10*l):=by
 rw[W4y];exact W6c (by decide) l
theorem Xov(n:Nat): (dec n).length<=10*(dig n).length+1:=by
 refine Xe8 _ n (W0s (W0s (by have:=Xbw (Xad n);rwa[Xaf] at this) (Xzi _)) (W0m (by decide) (by omega)))
theorem dg{d:Nat}(h:d<10): (UInt8.ofNat (48+d)).toNat=48+d:=by
 rw[UInt8.toNat_ofNat'];exact W3y (by omega)
def Xja(b:UInt8): Prop:=48<=b.toNat/\b.toNat<=57
theorem Ykk(n:Nat): ∀b∈dec n,Xja b:=by
 induction n using Nat.strongRecOn with
 | ind n ih =>
  intro b hb
  by_cases h:n<10
  . rw[Xdk h,W0g] at hb;subst hb;exact⟨by rw[dg h];omega,by rw[dg h];omega⟩
  . rw[Xf0 (by omega),W2j,W0g] at hb
    rcases hb with hb | hb
    . exact ih _ (by omega) b hb
    . subst hb;have:=W2d n (show 0<10 by decide);exact⟨by rw[dg this];omega,by rw[dg this];omega⟩
def pad(k:Nat)(d:List UInt8): List UInt8:=List.replicate (k+1-d.length) 48++d
theorem Yep(k:Nat)(d:List UInt8): (pad k d).length=max (k+1) d.length:=by simp[pad];omega
def pt(k:Nat)(p:List UInt8): List UInt8:=if k=0 then p else p.take (p.length-k)++46::p.drop (p.length-k)
def txt(z:Int)(k:Nat): List UInt8:=(if z<0 then [45] else [])++pt k (pad k (dec z.natAbs))
def Xb9(l:List UInt8): Nat:=l.foldl (λa b=>10*a+(b.toNat-48)) 0
theorem Xcf(l:List UInt8)(b:UInt8): Xb9 (l++[b])=10*Xb9 l+(b.toNat-48):=by simp[Xb9]
theorem Xfk{p:List UInt8->Prop}(h0:p [])(hs:∀l b,p l->p (l++[b]))(l:List UInt8): p l:=by
 rw[<-List.reverse_reverse l]
 induction l.reverse with
 | nil=>exact h0
 | cons b l ih=>rw[List.reverse_cons];exact hs _ _ ih
theorem Xhd(u t:List UInt8): Xb9 (u++t)=Xb9 u*10^t.length+Xb9 t:=by
 induction t using Xfk with
 | h0=>simp[Xb9]
 | hs l b ih =>
  rw[<-W2i,Xcf,Xcf,ih,W0d,W4f,W0q]
  have:Xb9 u*(10^l.length*10)=10*(Xb9 u*10^l.length):=by rw[W1f (10^l.length) 10,W4c]
  omega
theorem Xis{l:List UInt8}(h:∀b∈l,Xja b): Xb9 l<10^l.length:=by
 induction l using Xfk with
 | h0=>decide
 | hs l b ih =>
  have h1:=ih λx hx=>h x (W2q _ hx)
  have h2:=h b (W1r _ (W0g.2 rfl))
  unfold Xja at h2
  rw[Xcf,W0d,W4f,W0q]
  omega
theorem Xrk(b:UInt8): Xb9 [b]=b.toNat-48:=by simp[Xb9]
theorem Yai{b:UInt8}{l:List UInt8}(hb:48<b.toNat): 0<Xb9 (b::l):=by
 rw[show b::l=[b]++l from rfl,Xhd,Xrk]
 have:0<(b.toNat-48)*10^l.length:=W1o (by omega) (W6s (by decide))
 omega
end Go.Num
namespace Go.Proofs.YtclgppjdhndgiaaGreatDoor
open Go Go.Vm Go.Num Go.Proofs Go.Shelf Go.RowKit
section
def d2(n:Nat): List UInt8:=[UInt8.ofNat (48+n/10),UInt8.ofNat (48+n%10)]
theorem Ykl{n:Nat}(h:10<=n)(h1:n<100): dec n=d2 n:=by rw[Xf0 h,Xdk (by omega)];rfl
def tb2: List UInt8:=(List.range 100).flatMap d2
theorem Xyy{n:Nat}(hn:n<100): C0 351 [.d (.int .i64 n)] (·=.d (.str (dec n))):=by
 refine En Tryz.func351 λ_ _ _=>?_
 refine By rfl (λh=>?_) λh=>?_
 . refine Ar (n+1:Nat) rfl ?_
   refine Smd n (n+1) (dec n) rfl ⟨by omega,by simp;omega⟩ ?_ ?_
   . rw[Xdk (by omega)]
     have h1:n<10:=by omega
     clear hn h
     revert h1;generalize n=j;revert j;decide +kernel
   . exact R0
 . refine Ar (n*2:Nat) rfl ?_
   refine Ar (n*2:Nat) rfl ?_
   refine Ar (n*2+2:Nat) rfl ?_
   refine Smd (n*2) (n*2+2) (dec n) rfl ⟨by omega,by simp;omega⟩ ?_ ?_
   . rw[Ykl (by omega) hn]
     clear h
     revert hn;generalize n=j;revert j;decide +kernel
   . exact R0
theorem Xmk{n:Nat}(hn:n<=64): C0 397 [.d (.int .i64 n)] (·=.d (.int .i64 (n*78913/262144:Nat))):=by
 refine En Tryz.func397 λ_ _ _=>?_
 refine Ar (n*78913:Nat) rfl ?_
 refine Ar (n*78913/2^18:Nat) rfl ?_ (Xhv (n:=18) (by decide))
 exact R1 rfl (.eq rfl)
theorem Ya1{p:Prop}: C0 399 [.b (dc p)] (λv=>∃n:Nat,v=.d (.int .i64 n)/\(n=1/\p\/n=0/\¬p)):=by
 refine En Tryz.func399 λ_ _ _=>?_
 refine By rfl (λh=>?_) λh=>?_
 . exact Rt rfl (.one (.rf rfl) rfl rfl) ⟨1,rfl,.inl ⟨rfl,h⟩⟩
 . exact Rt rfl (.one (.rf rfl) rfl rfl) ⟨0,rfl,.inr ⟨rfl,h⟩⟩
theorem Ybe{x:Nat}(hx:x<18446744073709551616): C0 398 [.d (.int .u64 x)] (·=.d (.int .i64 (bl x))):=by
 refine En Tryz.func398 λ_ _ _=>?_
 refine Cu none (λ((x1,n1):Nat×Nat)=>[(0,.d (.int .u64 x1)),(2,.d (.int .i64 n1))]) (λ_=>[]) (λ(x1,n1)=>x1<4294967296/\bl x=bl x1+n1/\n1<=32) rfl ?_ λ⟨x0,n0⟩ ⟨hx0,hb0,hn0⟩=>?_
 . refine By rfl (λh=>?_) λh=>?_
   . refine Ar (x/2^32:Nat) rfl ?_ (Xhv (n:=32) (by decide))
     exact Jn (x/2^32,32) [] rfl ⟨by omega,Xeq (by omega),W0c _⟩
   . exact Jn (x,0) [] rfl ⟨by omega,rfl,by omega⟩
 refine Cu none (λ((x1,n1):Nat×Nat)=>[(0,.d (.int .u64 x1)),(2,.d (.int .i64 n1))]) (λ_=>[]) (λ(x1,n1)=>x1<65536/\bl x=bl x1+n1/\n1<=48) rfl ?_ λ⟨x1,n1⟩ ⟨hx1,hb1,hn1⟩=>?_
 . refine By rfl (λh=>?_) λh=>?_
   . refine Ar (x0/2^16:Nat) rfl ?_ (Xhv (n:=16) (by decide))
     refine Ar (n0+16:Nat) rfl ?_
     exact Jn (x0/2^16,n0+16) [] rfl ⟨by omega,by rw[hb0,Xeq (n:=x0) (k:=16) (by omega)];omega,by omega⟩
   . exact Jn (x0,n0) [] rfl ⟨by omega,hb0,by omega⟩
 refine Cu none (λ((x1,n1):Nat×Nat)=>[(0,.d (.int .u64 x1)),(2,.d (.int .i64 n1))]) (λ_=>[]) (λ(x1,n1)=>x1<256/\bl x=bl x1+n1/\n1<=56) rfl ?_ λ⟨x2,n2⟩ ⟨hx2,hb2,hn2⟩=>?_
 . refine By rfl (λh=>?_) λh=>?_
   . refine Ar (x1/2^8:Nat) rfl ?_ (Xhv (n:=8) (by decide))
     refine Ar (n1+8:Nat) rfl ?_
     exact Jn (x1/2^8,n1+8) [] rfl ⟨by omega,by rw[hb1,Xeq (n:=x1) (k:=8) (by omega)];omega,by omega⟩
   . exact Jn (x1,n1) [] rfl ⟨by omega,hb1,by omega⟩
 have hbl:bl x2<256:=W0s (Yc8 (p:=λj=>bl j<10) (by decide +kernel) x2 hx2) (by decide)
 refine Go.Vm.Cv x2 rfl ?_
 refine Yx x2 (UInt8.ofNat (bl x2)) rfl (by revert hx2;generalize x2=j;revert j;decide +kernel) ?_
 refine Go.Vm.Cv (bl x2:Nat) rfl ?_ ((wI ⟨by omega,by rw[Xyp hbl];omega⟩).trans (Xyp hbl))
 refine Ar (bl x:Nat) rfl ?_
 exact R0
theorem Xmi{x:Nat}(h1:100<=x)(hx:x<1000000000): C0 352 [.d (.int .u64 x)] (·=.d (.int .i64 (dec x).length)):=by
 obtain⟨b1,b2,b3⟩:=Xcg (n:=x) (by omega)
 have hb7:7<=bl x:=by
  have:2^6<2^bl x:=W1y (by omega) b2
  have:=(W2w (by decide:1<2)).1 this
  omega
 have hb30:bl x<=30:=by
  have:2^(bl x-1)<2^30:=W1y b1 (by omega)
  have:=(W2w (by decide:1<2)).1 this
  omega
 obtain⟨t,ht⟩:∃t,t=bl x*78913/262144:=⟨_,rfl⟩
 have ht9:t<=9:=by omega
 have key:10^(t-1)<=x/\x<10^(t+1)/\1<=t:=by
  have hc:∀b,b<=30->7<=b->10^(b*78913/262144-1)<=2^(b-1)/\2^b<=10^(b*78913/262144+1)/\1<=b*78913/262144:=by decide +kernel
  obtain⟨c1,c2,c3⟩:=hc (bl x) hb30 hb7
  rw[<-ht] at c1 c2 c3
  exact⟨W0l c1 b1,W0s b2 c2,c3⟩
 refine En Tryz.func352 λ_ _ _=>?_
 refine Ce rfl (Ybe (by omega)) ?_
 refine Ce rfl (show C0 _ _ (·=.d (.int .i64 (t:Nat))) by rw[ht];exact Xmk (by omega)) ?_
 refine Gx t .u64 ((10^t:Nat):Int) rfl (by omega) (λW h=>h t (by omega)) ?_ ?_
 . have:10^t<=10^9:=W0m (by decide) ht9
   exact wr rfl (by simp only[inK];omega)
 refine Ca rfl (C.nb Ya1) λv hv=>?_
 obtain⟨n,rfl,hn⟩:=hv
 refine Ar ((dec x).length:Nat) rfl ?_ ?_
 . exact R0
 . refine wr ?_ ?_
   . rcases hn with ⟨rfl,hp⟩ | ⟨rfl,hp⟩
     . have:=Xe8 t x key.2.1
       have:=Xeo t x (by omega)
       omega
     . have h3:=Xe8 (t-1) x (by rw[show t-1+1=t by omega];omega)
       have h4:=Xeo (t-1) x key.1
       omega
   . have:=Xe8 9 x (by omega)
     simp only[inK];omega
end
section
def dgs: Nat->Nat->List UInt8
 | 0,_=>[]
 | w+1,n=>dgs w (n/10)++[UInt8.ofNat (48+n%10)]
theorem Yf7(w n:Nat): dgs (w+2) n=dgs w (n/100)++d2 (n%100):=by
 rw[dgs,dgs,W6h,d2,show n/10%10=n%100/10 by omega,show n%10=n%100%10 by omega]
 simp
theorem Xw4(n:Nat): dgs (dec n).length n=dec n:=by
 induction n using Nat.strongRecOn with
 | ind n ih =>
  by_cases h:n<10
  . rw[Xdk h];show dgs 1 n=_;rw[dgs,dgs,W3y h];rfl
  . rw[Xf0 (by omega),W0d];show dgs (_+1) n=_
    rw[dgs,ih _ (by omega)]
def b8(b:UInt8): D:=.int .u8 b.toNat
theorem Xxo: ∀l:List UInt8,Yay (l.map b8)=some l
 | []=>rfl
 | b::l=>by
  show (match Yay (l.map b8) with | some s=>some (UInt8.ofNat ((b.toNat:Int)).toNat::s) | none=>none)=_
  rw[Xxo l];simp
theorem st1{z acc:List UInt8}{i j:Nat}{a:UInt8}(h1:j+1=i)(h2:i<=z.length): ((z.take i++acc).map b8).set j (b8 a)=(z.take j++a::acc).map b8:=by
 subst h1
 rw[<-List.map_set]
 congr 1
 apply W5s
 intro k
 by_cases hk:k<j
 . rw[W1u (by omega),W1b (by simp;omega),W1b (by simp;omega),W1j,W1j,if_pos (by omega),if_pos (by omega)]
 . by_cases hk2:k=j
   . subst hk2
     rw[W2l (by simp;omega),W0o (by simp;omega)]
     have:k-(List.take k z).length=0:=by simp;omega
     rw[this];rfl
   . obtain⟨q,rfl⟩:∃q,k=j+1+q:=⟨k-(j+1),by omega⟩
     rw[W1u (by omega),W0o (by simp;omega),W0o (by simp;omega)]
     have e1:j+1+q-(List.take (j+1) z).length=q:=by simp;omega
     have e2:j+1+q-(List.take j z).length=q+1:=by simp;omega
     rw[e1,e2];simp
def Yon(l:List UInt8): Prop:=∀v,v<100->l[v*2+1]?=some (UInt8.ofNat (48+v%10))/\l[v*2]?=some (UInt8.ofNat (48+v/10))
instance (l:List UInt8):Decidable (Yon l):=inferInstanceAs (Decidable (∀v,v<100->_))
theorem quN{k:IntKind}{a b r:Nat}(hb:b≠0)(h:a/b=r)(hk:inK k (r:Int)): arB .quo k (a:Int) (b:Int) (r:Int):=show _/\_ from⟨by omega,wr (by subst h;rfl) hk⟩
theorem reN{k:IntKind}{a b r:Nat}(hb:b≠0)(h:a%b=r): arB .rem k (a:Int) (b:Int) (r:Int):=show _/\_ from⟨by omega,by subst h;rfl⟩
theorem tbl: Yon (List.flatten ((List.range 100).map d2)):=by decide +kernel
theorem Stb{c:Cx}{s:St}{p:Pl}{q j:Nat}{xs:List D}{z:Int}(a:UInt8){zs:List D}(h:Ym8 c.tb c.n s=some (p,q,1,xs,j,.int .u8 z))(hj:j<xs.length)(hz:xs.set j (b8 a)=zs)(k:p.nx' c (.ub True) [(q,.arr 1 zs)])(hza:z=(a.toNat:Int):=by exact rfl): StP c s:=by
 subst hza
 exact Sto h hj hz k
theorem Xim{nd x:Nat}{z0:List UInt8}(h1:nd<=9)(hx:x<1000000000)(hxn:x<10^nd)(hz0:nd<=z0.length)(hz24:z0.length<1000):
 CW0 353 [.own 1000001 1 0 nd,.d (.int .u64 x)] [(1000001,.arr 1 (z0.map b8))] λv H'=>H'=[(1000001,.arr 1 ((dgs nd x++z0.drop nd).map b8))]:=by
 refine EnW Tryz.func353 λ_ _ _ _=>?_
 refine Lo (λ((i,u,acc):Nat×Nat×List UInt8)=>[(0,.own 1000001 1 0 nd),(1,.d (.int .u64 u)),(4,.d (.int .i64 i))]) (λ(i,_,acc)=>[(1000001,.arr 1 ((z0.take i++acc).map b8))])
  (λ(i,u,acc)=>i<=nd/\u<10^i/\u<1000000000/\dgs i u++acc=dgs nd x++z0.drop nd) (λ(i,_,_)=>i) (nd,x,z0.drop nd) [] rfl ⟨W0c _,hxn,hx,rfl⟩ ?_ (by exact⟨rfl,by simp only[W4d];rfl,rfl,rfl,rfl⟩)
 rintro⟨i,u,acc⟩ ⟨hi,hu,hu9,hI⟩
 refine By rfl (λh=>?_) λh=>?_
 . obtain⟨v,hv⟩:∃v,v=u%100000000:=⟨_,rfl⟩
   obtain⟨t6,ht6⟩:∃t,t=v/10000:=⟨_,rfl⟩
   obtain⟨t7,ht7⟩:∃t,t=v%10000:=⟨_,rfl⟩
   obtain⟨v0,hv0⟩:∃w,w=t7%100:=⟨_,rfl⟩
   obtain⟨v1,hv1⟩:∃w,w=t7/100:=⟨_,rfl⟩
   obtain⟨v2,hv2⟩:∃w,w=t6%100:=⟨_,rfl⟩
   obtain⟨v3,hv3⟩:∃w,w=t6/100:=⟨_,rfl⟩
   have Bv0:v0<100:=by omega
   have Bv1:v1<100:=by omega
   have Bv2:v2<100:=by omega
   have Bv3:v3<100:=by omega
   refine Ar (v:Nat) rfl ?_ (reN (b:=100000000) (by decide) hv.symm)
   refine Go.Vm.Cv v rfl ?_
   refine Ar (u/100000000:Nat) rfl ?_ (quN (b:=100000000) (by decide) rfl (by simp only[inK];omega))
   refine Ar t6 rfl ?_ (quN (b:=10000) (by decide) ht6.symm (by simp only[inK];omega))
   refine Ar t7 rfl ?_ (reN (b:=10000) (by decide) ht7.symm)
   refine Ar v1 rfl ?_ (quN (b:=100) (by decide) hv1.symm (by simp only[inK];omega))
   refine Ar (v1*2:Nat) rfl ?_
   refine Ar v0 rfl ?_ (reN (b:=100) (by decide) hv0.symm)
   refine Ar (v0*2:Nat) rfl ?_
   refine Ar v3 rfl ?_ (quN (b:=100) (by decide) hv3.symm (by simp only[inK];omega))
   refine Ar (v3*2:Nat) rfl ?_
   refine Ar v2 rfl ?_ (reN (b:=100) (by decide) hv2.symm)
   refine Ar (v2*2:Nat) rfl ?_
   refine Dw rfl ?_
   refine Ar ((i-1:Nat):Int) rfl ?_
   refine Ar ((i-2:Nat):Int) rfl ?_
   refine Ar ((v0*2+1:Nat):Int) rfl ?_
   refine Yx (v0*2+1) (UInt8.ofNat (48+v0%10)) rfl (tbl v0 Bv0).1 ?_
   refine Yx (v0*2) (UInt8.ofNat (48+v0/10)) rfl (tbl v0 Bv0).2 ?_
   refine Eo (i-1) rfl (by omega) ?_
   refine Stb (UInt8.ofNat (48+v0%10)) rfl (by simp only[W0i,W0d,W0j,W0k];omega) (st1 (by omega) (by omega)) ?_
   refine Eo (i-2) rfl (by omega) ?_
   refine Stb (UInt8.ofNat (48+v0/10)) rfl (by simp only[W0i,W0d,W0j,W0k];omega) (st1 (by omega) (by omega)) ?_
   refine Dw rfl ?_
   refine Ar ((i-3:Nat):Int) rfl ?_
   refine Ar ((i-4:Nat):Int) rfl ?_
   refine Ar ((v1*2+1:Nat):Int) rfl ?_
   refine Yx (v1*2+1) (UInt8.ofNat (48+v1%10)) rfl (tbl v1 Bv1).1 ?_
   refine Yx (v1*2) (UInt8.ofNat (48+v1/10)) rfl (tbl v1 Bv1).2 ?_
   refine Eo (i-3) rfl (by omega) ?_
   refine Stb (UInt8.ofNat (48+v1%10)) rfl (by simp only[W0i,W0d,W0j,W0k];omega) (st1 (by omega) (by omega)) ?_
   refine Eo (i-4) rfl (by omega) ?_
   refine Stb (UInt8.ofNat (48+v1/10)) rfl (by simp only[W0i,W0d,W0j,W0k];omega) (st1 (by omega) (by omega)) ?_
   refine Dw rfl ?_
   refine Ar ((i-5:Nat):Int) rfl ?_
   refine Ar ((i-6:Nat):Int) rfl ?_
   refine Ar ((v2*2+1:Nat):Int) rfl ?_
   refine Yx (v2*2+1) (UInt8.ofNat (48+v2%10)) rfl (tbl v2 Bv2).1 ?_
   refine Yx (v2*2) (UInt8.ofNat (48+v2/10)) rfl (tbl v2 Bv2).2 ?_
   refine Eo (i-5) rfl (by omega) ?_
   refine Stb (UInt8.ofNat (48+v2%10)) rfl (by simp only[W0i,W0d,W0j,W0k];omega) (st1 (by omega) (by omega)) ?_
   refine Eo (i-6) rfl (by omega) ?_
   refine Stb (UInt8.ofNat (48+v2/10)) rfl (by simp only[W0i,W0d,W0j,W0k];omega) (st1 (by omega) (by omega)) ?_
   refine Dw rfl ?_
   refine Ar ((i-7:Nat):Int) rfl ?_
   refine Ar ((i-8:Nat):Int) rfl ?_
   refine Ar ((v3*2+1:Nat):Int) rfl ?_
   refine Yx (v3*2+1) (UInt8.ofNat (48+v3%10)) rfl (tbl v3 Bv3).1 ?_
   refine Yx (v3*2) (UInt8.ofNat (48+v3/10)) rfl (tbl v3 Bv3).2 ?_
   refine Eo (i-7) rfl (by omega) ?_
   refine Stb (UInt8.ofNat (48+v3%10)) rfl (by simp only[W0i,W0d,W0j,W0k];omega) (st1 (by omega) (by omega)) ?_
   refine Eo (i-8) rfl (by omega) ?_
   refine Stb (UInt8.ofNat (48+v3/10)) rfl (by simp only[W0i,W0d,W0j,W0k];omega) (st1 (by omega) (by omega)) ?_
   refine Ar ((i-8:Nat):Int) rfl ?_
   refine Bk (i-8,u/100000000,d2 v3++(d2 v2++(d2 v1++(d2 v0++acc)))) [] rfl ⟨by omega,?_,by omega,?_⟩ (by show i-8<i;omega) (by exact⟨rfl,rfl,rfl,rfl,rfl⟩)
   . obtain⟨q,rfl⟩:∃q,i=q+8:=⟨i-8,by omega⟩
     rw[W0z] at hu
     rw[W3j]
     exact W4j (by rw[W1f];exact hu)
   . obtain⟨q,rfl⟩:∃q,i=q+8:=⟨i-8,by omega⟩
     rw[W3j,<-hI,show q+8=q+6+2 from rfl,Yf7,show q+6=q+4+2 from rfl,Yf7,show q+4=q+2+2 from rfl,Yf7,Yf7]
     rw[show u/100/100/100/100=u/100000000 by omega,show u%100=v0 by omega,show u/100%100=v1 by omega,show u/100/100%100=v2 by omega,show u/100/100/100%100=v3 by omega]
     simp only[W2i]
 have hi8:i<8:=by omega
 have hu8:u<10^8:=W0s hu (W0m (by decide) (by omega))
 refine Go.Vm.Cv u rfl ?_
 refine Cu none (λ((i,u,acc):Nat×Nat×List UInt8)=>[(0,.own 1000001 1 0 nd),(12,.d (.int .u32 u)),(4,.d (.int .i64 i))]) (λ(i,_,acc)=>[(1000001,.arr 1 ((z0.take i++acc).map b8))])
  (λ(i,u,acc)=>i<=nd/\i<4/\u<10^i/\dgs i u++acc=dgs nd x++z0.drop nd) rfl ?_ ?_
 . refine By rfl (λh4=>?_) λh4=>?_
   . obtain⟨v,hv⟩:∃v,v=u%10000:=⟨_,rfl⟩
     obtain⟨v0,hv0⟩:∃w,w=v%100:=⟨_,rfl⟩
     obtain⟨v1,hv1⟩:∃w,w=v/100:=⟨_,rfl⟩
     have Bv0:v0<100:=by omega
     have Bv1:v1<100:=by omega
     refine Ar (v:Nat) rfl ?_ (reN (b:=10000) (by decide) hv.symm)
     refine Ar (u/10000:Nat) rfl ?_ (quN (b:=10000) (by decide) rfl (by simp only[inK];omega))
     refine Ar v1 rfl ?_ (quN (b:=100) (by decide) hv1.symm (by simp only[inK];omega))
     refine Ar (v1*2:Nat) rfl ?_
     refine Ar v0 rfl ?_ (reN (b:=100) (by decide) hv0.symm)
     refine Ar (v0*2:Nat) rfl ?_
     refine Dw rfl ?_
     refine Ar ((i-1:Nat):Int) rfl ?_
     refine Ar ((i-2:Nat):Int) rfl ?_
     refine Ar ((v0*2+1:Nat):Int) rfl ?_
     refine Yx (v0*2+1) (UInt8.ofNat (48+v0%10)) rfl (tbl v0 Bv0).1 ?_
     refine Yx (v0*2) (UInt8.ofNat (48+v0/10)) rfl (tbl v0 Bv0).2 ?_
     refine Eo (i-1) rfl (by omega) ?_
     refine Stb (UInt8.ofNat (48+v0%10)) rfl (by simp only[W0i,W0d,W0j,W0k];omega) (st1 (by omega) (by omega)) ?_
     refine Eo (i-2) rfl (by omega) ?_
     refine Stb (UInt8.ofNat (48+v0/10)) rfl (by simp only[W0i,W0d,W0j,W0k];omega) (st1 (by omega) (by omega)) ?_
     refine Dw rfl ?_
     refine Ar ((i-3:Nat):Int) rfl ?_
     refine Ar ((i-4:Nat):Int) rfl ?_
     refine Ar ((v1*2+1:Nat):Int) rfl ?_
     refine Yx (v1*2+1) (UInt8.ofNat (48+v1%10)) rfl (tbl v1 Bv1).1 ?_
     refine Yx (v1*2) (UInt8.ofNat (48+v1/10)) rfl (tbl v1 Bv1).2 ?_
     refine Eo (i-3) rfl (by omega) ?_
     refine Stb (UInt8.ofNat (48+v1%10)) rfl (by simp only[W0i,W0d,W0j,W0k];omega) (st1 (by omega) (by omega)) ?_
     refine Eo (i-4) rfl (by omega) ?_
     refine Stb (UInt8.ofNat (48+v1/10)) rfl (by simp only[W0i,W0d,W0j,W0k];omega) (st1 (by omega) (by omega)) ?_
     refine Ar ((i-4:Nat):Int) rfl ?_
     refine Jn (i-4,u/10000,d2 v1++(d2 v0++acc)) [] rfl ⟨by omega,by omega,?_,?_⟩
     . obtain⟨q,rfl⟩:∃q,i=q+4:=⟨i-4,by omega⟩
       rw[W0z] at hu
       rw[W3j]
       exact W4j (by rw[W1f];exact hu)
     . obtain⟨q,rfl⟩:∃q,i=q+4:=⟨i-4,by omega⟩
       rw[W3j,<-hI,show q+4=q+2+2 from rfl,Yf7,Yf7]
       rw[show u/100/100=u/10000 by omega,show u%100=v0 by omega,show u/100%100=v1 by omega]
       simp only[W2i]
   . exact Jn (i,u,acc) [] rfl ⟨hi,by omega,hu,hI⟩
 clear hu8 hi8 h hI hu9 hu hi acc u i
 rintro⟨i,u,acc⟩ ⟨hi,hi4,hu,hI⟩
 have hu4:u<10^4:=W0s hu (W0m (by decide) (by omega))
 refine Cu none (λ((i,u,acc):Nat×Nat×List UInt8)=>[(0,.own 1000001 1 0 nd),(12,.d (.int .u32 u)),(4,.d (.int .i64 i))]) (λ(i,_,acc)=>[(1000001,.arr 1 ((z0.take i++acc).map b8))])
  (λ(i,u,acc)=>i<=nd/\i<2/\u<10^i/\dgs i u++acc=dgs nd x++z0.drop nd) rfl ?_ ?_
 . refine By rfl (λh4=>?_) λh4=>?_
   . obtain⟨v0,hv0⟩:∃w,w=u%100:=⟨_,rfl⟩
     have Bv0:v0<100:=by omega
     refine Ar v0 rfl ?_ (reN (b:=100) (by decide) hv0.symm)
     refine Ar (v0*2:Nat) rfl ?_
     refine Ar (u/100:Nat) rfl ?_ (quN (b:=100) (by decide) rfl (by simp only[inK];omega))
     refine Dw rfl ?_
     refine Ar ((i-1:Nat):Int) rfl ?_
     refine Ar ((i-2:Nat):Int) rfl ?_
     refine Ar ((v0*2+1:Nat):Int) rfl ?_
     refine Yx (v0*2+1) (UInt8.ofNat (48+v0%10)) rfl (tbl v0 Bv0).1 ?_
     refine Yx (v0*2) (UInt8.ofNat (48+v0/10)) rfl (tbl v0 Bv0).2 ?_
     refine Eo (i-1) rfl (by omega) ?_
     refine Stb (UInt8.ofNat (48+v0%10)) rfl (by simp only[W0i,W0d,W0j,W0k];omega) (st1 (by omega) (by omega)) ?_
     refine Eo (i-2) rfl (by omega) ?_
     refine Stb (UInt8.ofNat (48+v0/10)) rfl (by simp only[W0i,W0d,W0j,W0k];omega) (st1 (by omega) (by omega)) ?_
     refine Ar ((i-2:Nat):Int) rfl ?_
     refine Jn (i-2,u/100,d2 v0++acc) [] rfl ⟨by omega,by omega,?_,?_⟩
     . obtain⟨q,rfl⟩:∃q,i=q+2:=⟨i-2,by omega⟩
       rw[W0z] at hu
       rw[W3j]
       exact W4j (by rw[W1f];exact hu)
     . obtain⟨q,rfl⟩:∃q,i=q+2:=⟨i-2,by omega⟩
       rw[W3j,<-hI,Yf7,<-hv0]
       simp only[W2i]
   . exact Jn (i,u,acc) [] rfl ⟨hi,by omega,hu,hI⟩
 clear hu4 hi4 hI hu hi acc u i
 rintro⟨i,u,acc⟩ ⟨hi,hi2,hu,hI⟩
 refine By rfl (λh4=>?_) λh4=>?_
 . have:i=1:=by omega
   subst this
   have hu1:u<10:=by simpa using hu
   refine Ar (48+u:Nat) rfl ?_
   refine Go.Vm.Cv (48+u:Nat) rfl ?_
   refine Eo 0 rfl (by omega) ?_
   refine Stb (UInt8.ofNat (48+u)) rfl (by simp only[W0i,W0d,W0j];omega) (st1 (i:=1) rfl (by omega)) ?_ (by rw[dg hu1])
   refine Rw [] [(1000001,.arr 1 ((z0.take 0++UInt8.ofNat (48+u)::acc).map b8))] rfl (.tup (.one (.rf rfl) (λ_ _ e=>by cases e) (λ_ _ e=>by cases e))) ?_
   rw[<-hI,dgs,dgs,W3y hu1];rfl
 . have:i=0:=by omega
   subst this
   refine Rw [] [(1000001,.arr 1 ((z0.take 0++acc).map b8))] rfl (.tup (.one (.rf rfl) (λ_ _ e=>by cases e) (λ_ _ e=>by cases e))) ?_
   rw[<-hI,dgs];rfl
end
section
theorem Xlp{x:Nat}(hx:x<1000000000): C0 185 [.d (.int .u64 x),.d (.int .i64 10)] (·=.d (.str (dec x))):=by
 have h1:C0 269 [.d (.int .u64 x),.d (.int .i64 10)] (·=.d (.str (dec x))):=by
  refine En Tryz.func269 λ_ _ _=>?_
  refine Yes rfl rfl ?_
  refine By rfl (λh=>?_) λh=>?_
  . refine Go.Vm.Cv x rfl ?_
    refine Ce rfl (Xyy (by omega)) ?_
    exact R0
  . have hl:=Xe8 8 x hx
    have hg:=Xeo 2 x (by omega)
    refine Va 5 5 900 24 ((List.replicate 24 (0:UInt8)).map b8) rfl rfl (by decide) rfl ?_
    refine Ce rfl (Xmi (by omega) hx) ?_
    refine Sp (dec x).length rfl (by omega) (by decide) ?_ (by decide)
    refine Cw (args:=[.own 1000001 1 0 (dec x).length,.d (.int .u64 x)]) [(1000001,900)] rfl (Xim (z0:=List.replicate 24 (0:UInt8)) hl hx (Ykj x) (by simp;omega) (by simp)) (λv H' _ hv=>?_) rfl
    subst hv
    refine Sp (dec x).length rfl (by omega) (by decide) ?_ (by decide)
    refine Bo (dec x) rfl ?_ ?_ ?_
    . simp[Xw4]
    . rw[Xw4]
      simp only[W1a]
      rw[<-W3e,W6y rfl,Xxo]
    . exact R0
 refine En Tryz.func185 λ_ _ _=>?_
 refine Ce rfl h1 ?_
 exact R0
end
section
theorem Xdw{s t:List UInt8}(hs:Tx s)(ht:Tx t): C0 187 [.d (.str s),.d (.str t)] (·=.b (dc (s.take t.length=t))):=by
 refine En Tryz.func187 λ_ _ _=>?_
 refine Ce rfl (Xgx hs ht) ?_
 exact R0
theorem Yg3{n:Nat}(hn:n<65): C0 186 [.d (.int .u64 1),.d (.int .u64 n)] (·=.tup (.pr (.d (.int .u64 0)) (.d (.int .u64 n)))):=by
 have h1:C0 271 [.d (.int .u64 1),.d (.int .u64 n)] (·=.tup (.pr (.d (.int .u64 0)) (.d (.int .u64 n)))):=by
  refine En Tryz.func271 λ_ _ _=>?_
  refine Ar 1 rfl ?_ (by simp only[arB];decide +kernel)
  refine Ar 0 rfl ?_ (by simp only[arB];decide +kernel)
  refine Ar n rfl ?_ (by simp only[arB];revert hn;generalize n=j;revert j;decide +kernel)
  refine Ar 0 rfl ?_ (by simp only[arB];revert hn;generalize n=j;revert j;decide +kernel)
  refine Ar n rfl ?_
  refine Ar 0 rfl ?_
  refine Ar 0 rfl ?_ (by simp only[arB];revert hn;generalize n=j;revert j;decide +kernel)
  refine Ar 0 rfl ?_
  refine Ar 0 rfl ?_ (by simp only[arB];decide +kernel)
  refine Ar 0 rfl ?_ (by simp only[arB];decide +kernel)
  refine Ar 0 rfl ?_
  refine Ar 0 rfl ?_
  refine Ar 0 rfl ?_
  refine Ar 0 rfl ?_
  refine Ar 0 rfl ?_ (by simp only[arB];decide +kernel)
  refine Ar 0 rfl ?_
  refine Ar n rfl ?_
  exact R0t
 refine En Tryz.func186 λ_ _ _=>?_
 refine Ce rfl h1 ?_
 exact R0t
theorem Xj6{n:Nat}(hn:n<65): C0 101 [.d (.str [48]),.d (.int .i64 n)] (·=.d (.str (List.replicate n 48))):=by
 refine En Tryz.func101 λ_ _ _=>?_
 refine By rfl (λh=>?_) λh=>?_
 . have:n=0:=by omega
   subst this;exact R1 rfl (.eq rfl)
 refine By rfl (λh1=>?_) λh1=>?_
 . have:n=1:=by omega
   subst this;exact R1 rfl (.eq rfl)
 refine No rfl (by omega) ?_
 refine Go.Vm.Cv 1 rfl ?_ (by decide)
 refine Go.Vm.Cv n rfl ?_
 refine Ce rfl (Yg3 hn) ?_
 refine No rfl (by decide) ?_
 refine No rfl (by omega) ?_
 refine Go.Vm.Cv n rfl ?_
 refine No rfl (by decide) ?_
 refine Yx 0 48 rfl rfl ?_
 refine No rfl (by decide) ?_
 refine No rfl (by decide) ?_
 refine Yes rfl (by decide) ?_
 refine Yes rfl (by omega) ?_
 refine Ce rfl (Xdw (by decide) (by decide)) ?_
 refine No rfl (by decide) ?_
 refine Yes rfl (by omega) ?_
 refine Ce rfl (Xdw (by decide) (by decide)) ?_
 refine No rfl (by decide) ?_
 refine Yes rfl (by omega) ?_
 refine Ce rfl (Xdw (by decide) (by decide)) ?_
 refine Yes rfl (by decide) ?_
 refine Stk n (List.replicate n 48) rfl (by simp;omega) ?_ ?_
 . clear h h1
   revert hn;generalize n=j;revert j;decide +kernel
 . exact R0
end
section
theorem Xlo(s:ByteArray)(c:Int)(w:World): Calls Tryz.prog 319 #[.string s,.int .u8 c] w λe w'=>e=.returned (.int .i64 (Lib.indexByte s.data.toList c.toNat.toUInt8))/\w'=w:=by
 go_enter Tryz.func319,Tryz.ntmps319
 go_wp2
 rw[run_callFunc_extern Tryz.func371 (by kernel_rfl) (by kernel_rfl) (by kernel_rfl) (e:=Extern.BytealgIndexByte.indexByte) (by kernel_rfl),Lib.run_indexByteString]
 simp only[Result.andThen]
 rw[Oper.upon_value]
 go_wp2
 go_ret
 exact⟨rfl,rfl⟩
theorem Yfg{b:UInt8}: ∀ {s:List UInt8},b ∉ s->Lib.indexByte s b=-1
 | [],_=>rfl
 | x::s,h=>by
  rw[W1i,not_or] at h
  have:=Yfg h.2
  rw[Lib.indexByte,this]
  rw[if_neg (by simpa using λe=>h.1 e.symm)];rfl
theorem Xzu{b:UInt8}{t:List UInt8}: ∀ {u:List UInt8},b ∉ u->Lib.indexByte (u++b::t) b=u.length
 | [],_=>by simp[Lib.indexByte]
 | x::u,h=>by
  rw[W1i,not_or] at h
  have:=Xzu (t:=t) h.2
  rw[W3r,Lib.indexByte,this]
  rw[if_neg (by simpa using λe=>h.1 e.symm),if_neg (by rw[beq_iff_eq];omega)]
  simp
theorem Xvs(b:UInt8): ∀s:List UInt8,b ∉ s\/∃u t,s=u++b::t/\b ∉ u
 | []=>.inl (by simp)
 | x::s=>by
  by_cases h:x=b
  . subst h;exact .inr ⟨[],s,rfl,by simp⟩
  . rcases Xvs b s with h1 | ⟨u,t,h1,h2⟩
    . exact .inl (by rw[W1i,not_or];exact⟨λe=>h e.symm,h1⟩)
    . exact .inr ⟨x::u,t,by rw[h1];rfl,by rw[W1i,not_or];exact⟨λe=>h e.symm,h2⟩⟩
theorem Xnl{s:List UInt8}{b:UInt8}(hs:Tx s): C0 319 [.d (.str s),.d (.int .u8 b.toNat)] (·=.d (.int .i64 (Lib.indexByte s b))):=by
 refine⟨⟨_,Tryz.func319,rfl,rfl⟩,λW vs _ ha=>?_⟩
 match vs,ha with
 | [v,u],ha =>
  obtain⟨rfl,_⟩:=Xjc ha.1
  obtain⟨rfl,_⟩:=Xcv ha.2.1
  refine(Xlo _ _ W.w).mono ?_
  rintro e w' ⟨rfl,rfl⟩
  have e1:((b.toNat:Int).toNat).toUInt8=b:=by simp
  rw[e1]
  have h1:=Lib.indexByte_ge s b
  have h2:Lib.indexByte s b<9223372036854775808:=by
   have hs:s.length<_:=hs
   rcases Xvs b s with h | ⟨u,t,h,h2⟩
   . rw[Yfg h];decide
   . rw[h,Xzu h2];rw[h] at hs;simp at hs;omega
  refine⟨W,.d (.int .i64 (Lib.indexByte s b)),_,rfl,rfl,Fm.refl _ _,?_,λ_ h=>h,rfl⟩
  exact Vm.int_V (by show IntKind.i64.wrap _=_;exact wI ⟨by omega,h2⟩)
theorem Xi3{s:List UInt8}{b:UInt8}{r:Int}(hs:Tx s)(hr:Lib.indexByte s b=r): C0 228 [.d (.str s),.d (.str [b])] (·=.d (.int .i64 r)):=by
 subst hr
 refine En Tryz.func228 λ_ _ _=>?_
 refine No rfl (by simp) ?_
 refine Cu (some 0) (λ(_:Unit)=>[]) (λ_=>[]) (λ_=>False) rfl ?_ λ_ h=>h.elim
 refine By rfl (λh=>?_) λh=>?_
 . subst h
   refine R1 rfl (.eq ?_)
   rw[Lib.indexByte];simp
 . refine Yes rfl (by simp) ?_
   refine Yx 0 b rfl rfl ?_
   refine Ce rfl (Xnl hs) ?_
   exact R0
theorem Ylr{s:List UInt8}{b:UInt8}(hs:Tx s)(h:b ∉ s): C0 139 [.d (.str s),.d (.str [b])] (·=.tup (.pr (.d (.str s)) (.pr (.d (.str [])) (.b false)))):=by
 have h1:C0 229 [.d (.str s),.d (.str [b])] (·=.tup (.pr (.d (.str s)) (.pr (.d (.str [])) (.b false)))):=by
  refine En Tryz.func229 λ_ _ _=>?_
  refine Ce rfl (Xi3 hs (Yfg h)) ?_
  refine No rfl (by decide) ?_
  exact R0t
 refine En Tryz.func139 λ_ _ _=>?_
 refine Ce rfl h1 ?_
 exact R0t
theorem Yls{u t:List UInt8}{b:UInt8}(hs:Tx (u++b::t))(h:b ∉ u): C0 139 [.d (.str (u++b::t)),.d (.str [b])] (·=.tup (.pr (.d (.str u)) (.pr (.d (.str t)) (.b true)))):=by
 have hl:(u++b::t).length=u.length+(t.length+1):=by simp
 have hs':(u++b::t).length<_:=hs
 have h1:C0 229 [.d (.str (u++b::t)),.d (.str [b])] (·=.tup (.pr (.d (.str u)) (.pr (.d (.str t)) (.b true)))):=by
  refine En Tryz.func229 λ_ _ _=>?_
  refine Ce rfl (Xi3 hs (Xzu h)) ?_
  refine Yes rfl (by omega) ?_
  refine Dw rfl ?_
  refine Stk u.length u rfl (by omega) (by simp) ?_
  refine Ar (u.length+1:Nat) rfl ?_ (wr (by simp) (by simp only[inK];omega))
  refine Sdp (u.length+1) t rfl (by omega) (by simp) ?_
  exact R0t
 refine En Tryz.func139 λ_ _ _=>?_
 refine Ce rfl h1 ?_
 exact R0t
end
section
theorem Xiw{xs:List Bool}{b:UInt8}{v:Bool}(hx:xs.length=256)(hv:xs[b.toNat]?=some v): CN0 323 [.ap 1000001 256,.d (.int .u8 b.toNat)] [(1000001,.arr 1 (xs.map D.bool))] (·=.b v):=by
 refine EnW Tryz.func323 λ_ _ _ _=>?_
 refine Nk rfl ?_
 refine Ea b.toNat rfl (UInt8.toNat_lt b) ?_
 refine Ld (.bool v) rfl (by rw[W0t,hv];rfl) ?_
 exact Rw [] [(1000001,.arr 1 (xs.map D.bool))] rfl (.one (.rf rfl) rfl rfl) ⟨rfl,rfl⟩
def Xpg(f:UInt8->Bool)(s:List UInt8): List UInt8:=(s.reverse.dropWhile f).reverse
theorem Xho{f:UInt8->Bool}(s:List UInt8)(x:UInt8): Xpg f (s++[x])=if f x=true then Xpg f s else s++[x]:=by
 unfold Xpg
 rw[List.reverse_append,List.reverse_singleton,List.singleton_append,W4o]
 by_cases h:f x=true<;>simp[h]
theorem Xf5{xs:List Bool}{f:UInt8->Bool}{s:List UInt8}(hx:xs.length=256)(hf:∀b:UInt8,xs[b.toNat]?=some (f b))(hs:Tx s): CN0 234 [.d (.str s),.ap 1000001 256] [(1000001,.arr 1 (xs.map D.bool))] (·=.d (.str (Xpg f s))):=by
 refine EnW Tryz.func234 λ_ _ _ _=>?_
 refine Lo (λ(t:List UInt8)=>[(0,.d (.str t)),(1,.ap 1000001 256)]) (λ_=>[(1000001,.arr 1 (xs.map D.bool))]) (λt=>Tx t/\Xpg f t=Xpg f s) (λt=>t.length) s [] rfl ⟨hs,rfl⟩ ?_ (by exact⟨rfl,rfl,rfl,rfl,rfl⟩)
 rintro t ⟨ht,he⟩
 refine By rfl (λh=>?_) λh=>?_
 . rcases List.eq_nil_or_concat t with rfl | ⟨u,x,rfl⟩
   . simp at h
   rw[List.concat_eq_append] at *
   have hl:(u++[x]).length=u.length+1:=by simp
   refine Ar (u.length:Nat) rfl ?_ (wr (by omega) (by simp only[inK];omega))
   refine Yx u.length x rfl (by simp) ?_
   refine Cn [] rfl (Xiw hx (hf x)) λv hv=>?_
   subst hv
   refine By rfl (λh1=>?_) λh1=>?_
   . refine Rw [] [(1000001,.arr 1 (xs.map D.bool))] rfl (.one (.eq ?_) rfl rfl) ⟨rfl,rfl⟩
     rw[<-he,Xho,if_neg h1]
   . refine Ar (u.length:Nat) rfl ?_ (wr (by omega) (by simp only[inK];omega))
     refine Stk u.length u rfl (by omega) (by simp) ?_
     refine Bk u [] rfl ⟨by show u.length<_;omega,?_⟩ (by simp) (by exact⟨rfl,rfl,rfl,rfl,rfl⟩)
     rw[<-he,Xho,if_pos (W2h.1 h1)]
 . have:t=[]:=W2s.1 (by omega)
   subst this
   exact Rw [] [(1000001,.arr 1 (xs.map D.bool))] rfl (.one (.eq (by rw[<-he];rfl)) rfl rfl) ⟨rfl,rfl⟩
theorem Xgy{xs:List Bool}{f:UInt8->Bool}{s:List UInt8}(hx:xs.length=256)(hf:∀b:UInt8,xs[b.toNat]?=some (f b))(hs:Tx s): CN0 233 [.d (.str s),.ap 1000001 256] [(1000001,.arr 1 (xs.map D.bool))] (·=.d (.str (s.dropWhile f))):=by
 refine EnW Tryz.func233 λ_ _ _ _=>?_
 refine Lo (λ(t:List UInt8)=>[(0,.d (.str t)),(1,.ap 1000001 256)]) (λ_=>[(1000001,.arr 1 (xs.map D.bool))]) (λt=>Tx t/\t.dropWhile f=s.dropWhile f) (λt=>t.length) s [] rfl ⟨hs,rfl⟩ ?_ (by exact⟨rfl,rfl,rfl,rfl,rfl⟩)
 rintro t ⟨ht,he⟩
 refine By rfl (λh=>?_) λh=>?_
 . cases t with
   | nil=>simp at h
   | cons x u =>
   have hl:(x::u).length=u.length+1:=rfl
   refine Yx 0 x rfl rfl ?_
   refine Cn [] rfl (Xiw hx (hf x)) λv hv=>?_
   subst hv
   refine By rfl (λh1=>?_) λh1=>?_
   . refine Rw [] [(1000001,.arr 1 (xs.map D.bool))] rfl (.one (.eq ?_) rfl rfl) ⟨rfl,rfl⟩
     rw[<-he,W4o,if_neg h1]
   . refine Sdp 1 u rfl (by omega) rfl ?_
     refine Bk u [] rfl ⟨by show u.length<_;have:(x::u).length<_:=ht;omega,?_⟩ (by simp) (by exact⟨rfl,rfl,rfl,rfl,rfl⟩)
     rw[<-he,W4o,if_pos (W2h.1 h1)]
 . have:t=[]:=W2s.1 (by omega)
   subst this
   exact Rw [] [(1000001,.arr 1 (xs.map D.bool))] rfl (.one (.eq (by rw[<-he];rfl)) rfl rfl) ⟨rfl,rfl⟩
end
section
def rnS: Ren:=⟨λ_=>232,λn=>match n with
 | 3=>3
 | 4=>4
 | 5=>5
 | 9=>9
 | 116=>264
 | _=>0,λn=>n⟩
theorem Yjl: Lays.n227 Tryz.prog rnS where
 mixed:=by kernel_rfl
 f227:=by kernel_rfl
 t0:=by kernel_rfl
 a0:=λ_=>by kernel_rfl
 z0:=λ_=>by kernel_rfl
 v0:=λ_=>by kernel_rfl
 t3:=by kernel_rfl
 a3:=λ_=>by kernel_rfl
 z3:=λ_=>by kernel_rfl
 v3:=λ_=>by kernel_rfl
 t4:=by kernel_rfl
 a4:=λ_=>by kernel_rfl
 z4:=λ_=>by kernel_rfl
 v4:=λ_=>by kernel_rfl
 t5:=by kernel_rfl
 a5:=λ_=>by kernel_rfl
 z5:=λ_=>by kernel_rfl
 v5:=λ_=>by kernel_rfl
 t9:=by kernel_rfl
 a9:=λ_=>by kernel_rfl
 z9:=λ_=>by kernel_rfl
 v9:=λ_=>by kernel_rfl
 t116:=by kernel_rfl
 a116:=λ_=>by kernel_rfl
 z116:=λ_=>by kernel_rfl
def chB: List Bool->D
 | []=>.bool false
 | [b]=>.bool b
 | b::l=>.pr (.bool b) (chB l)
theorem Ydh{W:GW}: ∀ {l:List Bool},l≠[]->D.At W (chB l) (l.map Value.bool)
 | [b],_=>rfl
 | b::c::l,_=>⟨[.bool b],(c::l).map Value.bool,rfl,rfl,Ydh (by simp)⟩
theorem Xnc: ∀ {l:List Bool},l≠[]->(chB l).comps=l.map D.bool
 | [b],_=>rfl
 | b::c::l,_=>by
  show D.bool b::(chB (c::l)).comps=_
  rw[Xnc (by simp)];rfl
def Yhe: List UInt8:=[48,49,50,51,52,53,54,55,56,57]
def Yf6: List Bool:=(List.range 256).map λj=>Yhe.contains (UInt8.ofNat j)
theorem Xie: C0 232 [.d (.str Yhe)] (·=.tup (.pr (.d (.st (chB Yf6))) (.b true))):=by
 refine⟨⟨_,Tryz.func232,rfl,rfl⟩,λW vs _ ha=>?_⟩
 match vs,ha with
 | [v],ha =>
  obtain⟨rfl,_⟩:=Xjc ha.1
  refine(Any.strings_makeASCIISet Yjl (λ_=>by kernel_rfl) (by kernel_rfl) ⟨Yhe.toArray⟩ W.w (by decide) (by
   intro j b hj
   have hm:b∈Yhe:=W0h (by simpa using hj)
   have hall:∀x∈Yhe,x.toNat<128:=by decide
   exact hall b hm)).mono ?_
  rintro e w' ⟨rfl,hw⟩
  obtain⟨W',hW,hE⟩:=Xhc (W:=W) (w':=w') (by rw[hw];exact(Below.refl _ _).alloc (W0c _) _)
  refine⟨W',.tup (.pr (.d (.st (chB Yf6))) (.b true)),_,rfl,hW,hE,?_,λ_ h=>h.elim id id,rfl⟩
  have hc:Lib.setCells Yhe=(Yf6.map Value.bool).toArray:=by
   rw[Lib.setCells_eq]
   apply Array.ext'
   simp[Yf6]
  refine⟨[.agg (Lib.setCells Yhe),.bool true],rfl,⟨_,Ydh (l:=Yf6) (by decide),?_⟩,⟨[.bool true],rfl,rfl⟩⟩
  rw[hc];rfl
end
section
def rnB: Ren:=⟨λn=>match n with
 | 166=>103
 | 167=>183
 | 169=>104
 | 240=>189
 | 276=>272
 | _=>0,λn=>match n with
 | 3=>3
 | 4=>4
 | 5=>5
 | 9=>9
 | 20=>20
 | 37=>159
 | 70=>158
 | 72=>161
 | 75=>164
 | 80=>109
 | 127=>233
 | 164=>287
 | _=>0,λn=>n⟩
theorem Yjn: Lays.n166 Tryz.prog rnB where
 mixed:=by kernel_rfl
 f166:=by kernel_rfl
 f240:=by kernel_rfl
 f276:=by kernel_rfl
 t0:=by kernel_rfl
 a0:=λ_=>by kernel_rfl
 z0:=λ_=>by kernel_rfl
 v0:=λ_=>by kernel_rfl
 t3:=by kernel_rfl
 a3:=λ_=>by kernel_rfl
 z3:=λ_=>by kernel_rfl
 v3:=λ_=>by kernel_rfl
 t4:=by kernel_rfl
 a4:=λ_=>by kernel_rfl
 z4:=λ_=>by kernel_rfl
 v4:=λ_=>by kernel_rfl
 t9:=by kernel_rfl
 a9:=λ_=>by kernel_rfl
 z9:=λ_=>by kernel_rfl
 v9:=λ_=>by kernel_rfl
 t20:=by kernel_rfl
 a20:=λ_=>by kernel_rfl
 z20:=λ_=>by kernel_rfl
 v20:=λ_=>by kernel_rfl
 t37:=by kernel_rfl
 a37:=λ_=>by kernel_rfl
 z37:=λ_=>by kernel_rfl
 v37:=λ_=>by kernel_rfl
 t70:=by kernel_rfl
 a70:=λ_=>by kernel_rfl
 z70:=λ_=>by kernel_rfl
 v70:=λ_=>by kernel_rfl
 t72:=by kernel_rfl
 a72:=λ_=>by kernel_rfl
 z72:=λ_=>by kernel_rfl
 v72:=λ_=>by kernel_rfl
 t75:=by kernel_rfl
 a75:=λ_=>by kernel_rfl
 z75:=λ_=>by kernel_rfl
 v75:=λ_=>by kernel_rfl
 t164:=by kernel_rfl
 a164:=λ_=>by kernel_rfl
 z164:=λ_=>by kernel_rfl
 v164:=λ_=>by kernel_rfl
theorem Yjm: Lays.n167 Tryz.prog rnB where
 mixed:=by kernel_rfl
 f167:=by kernel_rfl
 f240:=by kernel_rfl
 f276:=by kernel_rfl
 t0:=by kernel_rfl
 a0:=λ_=>by kernel_rfl
 z0:=λ_=>by kernel_rfl
 v0:=λ_=>by kernel_rfl
 t4:=by kernel_rfl
 a4:=λ_=>by kernel_rfl
 z4:=λ_=>by kernel_rfl
 v4:=λ_=>by kernel_rfl
 t5:=by kernel_rfl
 a5:=λ_=>by kernel_rfl
 z5:=λ_=>by kernel_rfl
 v5:=λ_=>by kernel_rfl
 t9:=by kernel_rfl
 a9:=λ_=>by kernel_rfl
 z9:=λ_=>by kernel_rfl
 v9:=λ_=>by kernel_rfl
 t20:=by kernel_rfl
 a20:=λ_=>by kernel_rfl
 z20:=λ_=>by kernel_rfl
 v20:=λ_=>by kernel_rfl
 t37:=by kernel_rfl
 a37:=λ_=>by kernel_rfl
 z37:=λ_=>by kernel_rfl
 v37:=λ_=>by kernel_rfl
 t70:=by kernel_rfl
 a70:=λ_=>by kernel_rfl
 z70:=λ_=>by kernel_rfl
 v70:=λ_=>by kernel_rfl
 t72:=by kernel_rfl
 a72:=λ_=>by kernel_rfl
 z72:=λ_=>by kernel_rfl
 v72:=λ_=>by kernel_rfl
 t75:=by kernel_rfl
 a75:=λ_=>by kernel_rfl
 z75:=λ_=>by kernel_rfl
 v75:=λ_=>by kernel_rfl
 t164:=by kernel_rfl
 a164:=λ_=>by kernel_rfl
 z164:=λ_=>by kernel_rfl
 v164:=λ_=>by kernel_rfl
theorem Ycz: Lays.n169 Tryz.prog rnB where
 mixed:=by kernel_rfl
 f169:=by kernel_rfl
 t0:=by kernel_rfl
 a0:=λ_=>by kernel_rfl
 z0:=λ_=>by kernel_rfl
 v0:=λ_=>by kernel_rfl
 t3:=by kernel_rfl
 a3:=λ_=>by kernel_rfl
 z3:=λ_=>by kernel_rfl
 v3:=λ_=>by kernel_rfl
 t9:=by kernel_rfl
 a9:=λ_=>by kernel_rfl
 z9:=λ_=>by kernel_rfl
 v9:=λ_=>by kernel_rfl
 t37:=by kernel_rfl
 a37:=λ_=>by kernel_rfl
 z37:=λ_=>by kernel_rfl
 v37:=λ_=>by kernel_rfl
 t70:=by kernel_rfl
 a70:=λ_=>by kernel_rfl
 z70:=λ_=>by kernel_rfl
 v70:=λ_=>by kernel_rfl
 t72:=by kernel_rfl
 a72:=λ_=>by kernel_rfl
 z72:=λ_=>by kernel_rfl
 v72:=λ_=>by kernel_rfl
 t127:=by kernel_rfl
 a127:=λ_=>by kernel_rfl
 z127:=λ_=>by kernel_rfl
 v127:=λ_=>by kernel_rfl
theorem Yl5: Builder.Extra Tryz.prog rnB where
 sizeBuilder:=by kernel_rfl
 liesBuilder:=by kernel_rfl
 t5:=by kernel_rfl
 a5:=λ_=>by kernel_rfl
 z5:=λ_=>by kernel_rfl
 v5:=λ_=>by kernel_rfl
 infoByte:=by kernel_rfl
 cellsByte:=by kernel_rfl
 sizeByte:=by kernel_rfl
 neB5:=by decide
end
section
def rnJ: Ren:=⟨λn=>match n with
 | 156=>35
 | 165=>102
 | 166=>103
 | 169=>104
 | 240=>189
 | 241=>190
 | 276=>272
 | 277=>273
 | _=>0,λn=>match n with
 | 3=>3
 | 4=>4
 | 5=>5
 | 9=>9
 | 20=>20
 | 31=>69
 | 37=>159
 | 70=>158
 | 72=>161
 | 75=>164
 | 76=>165
 | 80=>109
 | 127=>233
 | 164=>287
 | _=>0,λn=>n⟩
theorem Xvp: Lays.n156 Tryz.prog rnJ where
 mixed:=by kernel_rfl
 f156:=by kernel_rfl
 f165:=by kernel_rfl
 f166:=by kernel_rfl
 f169:=by kernel_rfl
 f240:=by kernel_rfl
 f241:=by kernel_rfl
 f276:=by kernel_rfl
 f277:=by kernel_rfl
 t0:=by kernel_rfl
 a0:=λ_=>by kernel_rfl
 z0:=λ_=>by kernel_rfl
 v0:=λ_=>by kernel_rfl
 t3:=by kernel_rfl
 a3:=λ_=>by kernel_rfl
 z3:=λ_=>by kernel_rfl
 v3:=λ_=>by kernel_rfl
 t4:=by kernel_rfl
 a4:=λ_=>by kernel_rfl
 z4:=λ_=>by kernel_rfl
 v4:=λ_=>by kernel_rfl
 t9:=by kernel_rfl
 a9:=λ_=>by kernel_rfl
 z9:=λ_=>by kernel_rfl
 v9:=λ_=>by kernel_rfl
 t20:=by kernel_rfl
 a20:=λ_=>by kernel_rfl
 z20:=λ_=>by kernel_rfl
 v20:=λ_=>by kernel_rfl
 t31:=by kernel_rfl
 a31:=λ_=>by kernel_rfl
 z31:=λ_=>by kernel_rfl
 v31:=λ_=>by kernel_rfl
 t37:=by kernel_rfl
 a37:=λ_=>by kernel_rfl
 z37:=λ_=>by kernel_rfl
 v37:=λ_=>by kernel_rfl
 t70:=by kernel_rfl
 a70:=λ_=>by kernel_rfl
 z70:=λ_=>by kernel_rfl
 v70:=λ_=>by kernel_rfl
 t72:=by kernel_rfl
 a72:=λ_=>by kernel_rfl
 z72:=λ_=>by kernel_rfl
 v72:=λ_=>by kernel_rfl
 t75:=by kernel_rfl
 a75:=λ_=>by kernel_rfl
 z75:=λ_=>by kernel_rfl
 v75:=λ_=>by kernel_rfl
 t76:=by kernel_rfl
 a76:=λ_=>by kernel_rfl
 z76:=λ_=>by kernel_rfl
 v76:=λ_=>by kernel_rfl
 t127:=by kernel_rfl
 a127:=λ_=>by kernel_rfl
 z127:=λ_=>by kernel_rfl
 v127:=λ_=>by kernel_rfl
 t164:=by kernel_rfl
 a164:=λ_=>by kernel_rfl
 z164:=λ_=>by kernel_rfl
 v164:=λ_=>by kernel_rfl
theorem Ynp: Builder.Extra Tryz.prog rnJ where
 sizeBuilder:=by kernel_rfl
 liesBuilder:=by kernel_rfl
 t5:=by kernel_rfl
 a5:=λ_=>by kernel_rfl
 z5:=λ_=>by kernel_rfl
 v5:=λ_=>by kernel_rfl
 infoByte:=by kernel_rfl
 cellsByte:=by kernel_rfl
 sizeByte:=by kernel_rfl
 neB5:=by decide
abbrev tB(s:List UInt8): ByteArray:=⟨s.toArray⟩
abbrev dXs(l:List (List UInt8)): D:=.sl 1 (l.map .str)
theorem Join_ok{l:List (List UInt8)}{sep:List UInt8}(hn:l.length<=1000000)(hl:(Lib.join l sep).length<=140737488355328): C0 35 [.d (dXs l),.d (.str sep)] (·=.d (.str (Lib.join l sep))):=by
 refine⟨⟨_,Tryz.func35,rfl,rfl⟩,λW vs _ ha=>?_⟩
 match vs,ha with
 | [v,u],ha =>
  obtain⟨p,c,rfl,h1,h2,h3⟩:=V_sl ha.1
  obtain⟨rfl,_⟩:=Xjc ha.2.1
  have hmm:(l.map tB).map (·.data.toList)=l:=by rw[List.map_map];exact(List.map_congr_left λx _=>by simp[tB]).trans (List.map_id l)
  have hsp:(tB sep).data.toList=sep:=by simp[tB]
  have key:Calls Tryz.prog 35 #[.slice p (l.map D.str).length c,.string (tB sep)] W.w λe w'=>e=.returned (.string (tB (Lib.join l sep)))/\Below W.w.heap.size W.w w':=by
   rcases h3 with h3 | ⟨b,off,rfl,hrow⟩
   . obtain rfl:l=[]:=List.map_eq_nil_iff.1 h3
     exact(Any.strings_Join_none Xvp Ynp p c (tB sep) W.w).mono λe w' ⟨he,hw⟩=>⟨he,hw ▸ Below.refl _ _⟩
   . cases hl0:l with
     | nil =>
      exact(Any.strings_Join_none Xvp Ynp _ c (tB sep) W.w).mono λe w' ⟨he,hw⟩=>⟨he,hw ▸ Below.refl _ _⟩
     | cons x0 r =>
      rw[<-hl0]
      have hc:∀(j:Nat) x,(l.map tB)[j]?=some x->W.w.cell? ⟨b,off+j,none⟩=some (.string x):=λj x hj=>by
       rw[W0t,Option.map_eq_some_iff] at hj
       obtain⟨s,hs,rfl⟩:=hj
       obtain⟨e,g1,_,g3⟩:=D.row_get hrow (i:=j) (x:=.str s) (by rw[W0t,hs];rfl)
       have:=(g3 0 (.string (tB s)) (by rw[g1.1];rfl)).1
       rwa[W3z,W2o] at this
      have hb:b<W.w.heap.size:=World.block_lt_of_cell? _ _ (hc 0 (tB x0) (by rw[hl0];rfl))
      have:=Any.strings_Join Xvp Ynp b off c (l.map tB) (tB sep) W.w hc hb (by rw[W0i];omega) (by rw[W0i] at h1 |-;exact h1) (by rw[hmm,hsp];exact hl)
      rw[hmm,hsp] at this
      rw[W0i] at this |-
      exact this
  refine key.mono ?_
  rintro e w' ⟨rfl,hw⟩
  obtain⟨W',hW,hE⟩:=Xhc hw
  exact⟨W',.d (.str (Lib.join l sep)),_,rfl,hW,hE,Xlt (by omega),λ_ h=>h.elim,rfl⟩
end
end Go.Proofs.YtclgppjdhndgiaaGreatDoor
namespace Go.Proofs.YtclgppjdhndgiaaGreatDoor.P55
open Go Go.Vm Go.Num Go.Tow Go.Proofs.YtclgppjdhndgiaaGreatDoor
section
inductive Wv where
 | mk (s:List UInt8)
 | nu (x:Nm)
abbrev dMk(s:List UInt8): D:=.st (.pr (.str s) (.pr (.bool false) R9.n0))
abbrev dNu(x:Nm): D:=.st (.pr (.str []) (.pr (.bool true) (dN x)))
def dWv: Wv->D
 | .mk s=>dMk s
 | .nu x=>dNu x
abbrev dWs(l:List Wv): D:=.sl 4 (l.map dWv)
theorem Xc8{s:List UInt8}: C0 50 [.d (.str s)] (·=.d (dMk s)):=by
 refine En Tryz.func50 λ_ _ _=>?_
 exact R1 rfl (.sd (.pd (.rf rfl) (.pd (.bd rfl) R9.fit0)))
theorem num_ok{x:Nm}: C0 51 [.d (dN x)] (·=.d (dNu x)):=by
 refine En Tryz.func51 λ_ _ _=>?_
 exact R1 rfl (.sd (.pd (.rf rfl) (.pd (.bd rfl) (.rf rfl))))
def flB(b:Bool): List UInt8:=if b then [49] else [48]
theorem Xcs{b:Bool}: C0 54 [.d (.bool b)] (·=.d (dMk (flB b))):=by
 refine C.nb (show C0 _ [.b b] _ from ?_)
 cases b with
 | true =>
  refine En Tryz.func54 λ_ _ _=>?_
  refine Yes rfl rfl ?_
  refine Ce rfl Xc8 ?_
  exact R0
 | false =>
  refine En Tryz.func54 λ_ _ _=>?_
  refine No rfl nofun ?_
  refine Ce rfl Xc8 ?_
  exact R0
def Xca(r:Nm)(lg cc:Bool)(x:Vn): List Wv:=[.mk [65],.nu r,.nu r,.mk [48],.mk (flB lg),.mk (flB cc),.nu x.x,.nu x.y]
theorem Ybv{w:List Wv}{r:Nm}{c:Cv}{lg:Bool}{x:Vn}(hw:w.length<=100000): CW0 53 [.d (.bool lg),.d (dV x),.ptr 1000001 0,.ptr 1000002 0,.ptr 1000003 0] [(1000001,.var (.lit 4 (w.map dWv))),(1000002,.var (.d (dN r))),(1000003,.var (.d (dC c)))]
 (λv H'=>v=.tup .un/\H'=[(1000001,.var (.own 1000000 4 0 ((w++Xca r lg (!c.cw) x).map dWv).length)),(1000002,.var (.d (dN r))),(1000003,.var (.d (dC c))),(1000000,.arr 4 ((w++Xca r lg (!c.cw) x).map dWv))]):=by
 obtain⟨arc,A,B,C,cw⟩:=c
 refine EnW Tryz.func53 λ_ _ _ _=>?_
 refine Dw rfl ?_
 refine Ce rfl Xc8 ?_
 refine Ce rfl num_ok ?_
 refine Ce rfl num_ok ?_
 refine Ce rfl Xc8 ?_
 refine Ce rfl Xcs ?_
 refine Ce rfl Xcs ?_
 refine Ce rfl num_ok ?_
 refine Ce rfl num_ok ?_
 refine ApL ((w++Xca r lg (!cw) x).map dWv) rfl (by rw[W1p];rfl) (W3x _) (by simp[Xca];omega) ?_
 exact Rw [(27,1000000)] [(1000001,.var (.own 1000000 4 0 ((w++Xca r lg (!cw) x).map dWv).length)),(1000002,.var (.d (dN r))),(1000003,.var (.d (dC ⟨arc,A,B,C,cw⟩))),(1000000,.arr 4 ((w++Xca r lg (!cw) x).map dWv))] rfl (.tup (.one (.rf rfl) (λ_ _ e=>by cases e) (λ_ _ e=>by cases e))) ⟨rfl,rfl⟩
theorem Xpi{w:List Wv}{r:Nm}{c:Cv}{lg:Bool}{x:Vn}(hw:w.length<=100000): CW0 53 [.d (.bool lg),.d (dV x),.ptr 1000001 0,.ptr 1000002 0,.ptr 1000003 0] [(1000001,.var (.own 1000004 4 0 (w.map dWv).length)),(1000002,.var (.d (dN r))),(1000003,.var (.d (dC c))),(1000004,.arr 4 (w.map dWv))]
 (λv H'=>v=.tup .un/\H'=[(1000001,.var (.own 1000000 4 0 ((w++Xca r lg (!c.cw) x).map dWv).length)),(1000002,.var (.d (dN r))),(1000003,.var (.d (dC c))),(1000004,.dead),(1000000,.arr 4 ((w++Xca r lg (!c.cw) x).map dWv))]):=by
 obtain⟨arc,A,B,C,cw⟩:=c
 refine EnW Tryz.func53 λ_ _ _ _=>?_
 refine Dw rfl ?_
 refine Ce rfl Xc8 ?_
 refine Ce rfl num_ok ?_
 refine Ce rfl num_ok ?_
 refine Ce rfl Xc8 ?_
 refine Ce rfl Xcs ?_
 refine Ce rfl Xcs ?_
 refine Ce rfl num_ok ?_
 refine Ce rfl num_ok ?_
 refine ApO ((w++Xca r lg (!cw) x).map dWv) rfl rfl rfl (by rw[W1p];rfl) (by simp[Xca];omega) ?_
 exact Rw [(27,1000000)] [(1000001,.var (.own 1000000 4 0 ((w++Xca r lg (!cw) x).map dWv).length)),(1000002,.var (.d (dN r))),(1000003,.var (.d (dC ⟨arc,A,B,C,cw⟩))),(1000004,.dead),(1000000,.arr 4 ((w++Xca r lg (!cw) x).map dWv))] rfl (.tup (.one (.rf rfl) (λ_ _ e=>by cases e) (λ_ _ e=>by cases e))) ⟨rfl,rfl⟩
abbrev Xnn(B:Vn): List Wv:=[.mk [76],.nu B.x,.nu B.y]
inductive WdC (c:Cv):List Wv->Prop where
 | seg (h:c.arc=false):WdC c [.mk [76],.nu c.B.x,.nu c.B.y]
 | full {r:Nm} {w x:Vn} (h:c.arc=true) (h1:C0 52 [.d (dC c)] (·=.tup (.pr (.d (dN r)) (.d (.int .i64 0))))) (h2:C0 46 [.d (dV c.A),.d (dV c.B)] (·=.b true)) (h3:C0 55 [.d (dV c.C),.d (dV c.A)] (·=.tup (.pr (.d (dV w)) (.d (.int .i64 0)))))
  (h4:C0 56 [.d (dV c.C),.d (dV w)] (·=.tup (.pr (.d (dV x)) (.d (.int .i64 0))))):WdC c (Xca r false (!c.cw) x++Xca r false (!c.cw) c.B)
 | part {r:Nm} {lg:Bool} (h:c.arc=true) (h1:C0 52 [.d (dC c)] (·=.tup (.pr (.d (dN r)) (.d (.int .i64 0))))) (h2:C0 46 [.d (dV c.A),.d (dV c.B)] (·=.b false)) (h3:C0 57 [.d (dC c)] (·=.tup (.pr (.b lg) (.d (.int .i64 0))))):WdC c (Xca r lg (!c.cw) c.B)
theorem WdC.len{c:Cv}{w:List Wv}(h:WdC c w): w.length<=16:=by cases h<;>simp[Xca]
def ouH(w0:List Wv): Option (List Wv)->Hpl
 | none=>[(4,.var (.lit 4 (w0.map dWv)))]
 | some w=>[(4,.var (.own 600 4 0 (w.map dWv).length)),(600,.arr 4 (w.map dWv))]
def ouW(w0:List Wv): Option (List Wv)->List Wv
 | none=>w0
 | some w=>w
def hdW(c0:Cv): List Wv:=[.mk [77],.nu c0.A.x,.nu c0.A.y]
theorem words_ok{c0 d0:Cv}{l:List Cv}{Z:List (List Wv)}{cl:Bool}(h0:l[0]?=some c0)(h9:l[l.length-1]?=some d0)(hl:l.length<=1000)(hZ:Z.length=l.length)(hC:∀(i:Nat) c w,l[i]?=some c->Z[i]?=some w->WdC c w)(he:C0 46 [.d (dV c0.A),.d (dV d0.B)] (·=.b cl)):
 C0 21 [.d (Xd0 l)] (·=.tup (.pr (.d (dWs (hdW c0++Z.flatten++(if cl then [.mk [90]] else [])))) (.d (.int .i64 0)))):=by
 have hl0:0<l.length:=(W1d.1 h0).1
 have hfl:∀k,k<=l.length->(Z.take k).flatten.length<=16*k:=λk=>by
  induction k with
  | zero=>intro _;simp
  | succ k ih =>
   intro hk
   obtain⟨w,hw⟩:∃w,Z[k]?=some w:=⟨_,W0a (by omega)⟩
   obtain⟨c,hc⟩:∃c,l[k]?=some c:=⟨_,W0a (by omega)⟩
   have:=(hC k c w hc hw).len
   have:=ih (by omega)
   rw[W1c,hw]
   simp only[List.flatten_append,W0d,Option.toList_some,List.flatten_cons,List.flatten_nil,W3g]
   omega
 have hw0l:(hdW c0).length=3:=rfl
 have hlm:(l.map dC).length=l.length:=W0i ..
 refine En Tryz.func21 λ_ _ _=>?_
 refine Dw rfl ?_
 refine Ce rfl Xc8 ?_
 refine Ix 0 rfl (u:=dC c0) (by rw[W0t,h0];rfl) ?_
 refine Ce rfl num_ok ?_
 refine Ix 0 rfl (u:=dC c0) (by rw[W0t,h0];rfl) ?_
 refine Ce rfl num_ok ?_
 refine Lo (λ((k,o):Nat×Option (List Wv))=>[(0,.d (Xd0 l)),(4,.ptr 4 0),(28,.d (Xd0 l)),(29,.d (.int .i64 (l.map dC).length)),(30,.d (.int .i64 k))]) (λ(_,o)=>ouH (hdW c0) o) (λ(k,o)=>k<=l.length/\ouW (hdW c0) o=(hdW c0)++(Z.take k).flatten/\(o=none↔k=0)) (λ(k,_)=>l.length-k) (0,none) [] rfl ⟨W0x _,by simp[ouW],by simp⟩ ?_
 rintro⟨k,o⟩ ⟨hk,hw,ho⟩
 cases o with
 | none =>
  obtain rfl:k=0:=ho.1 rfl
  have hw:(hdW c0)=(hdW c0)++(Z.take 0).flatten:=hw
  refine By rfl (λh=>?_) λh=>?_
  . have h:((0:Nat):Int)<((l.map dC).length:Nat):=h
    rw[W0i] at h
    have hkl:0<l.length:=hl0
    obtain⟨c,hc⟩:∃c,l[0]?=some c:=⟨_,W0a hkl⟩
    obtain⟨z,hz⟩:∃z,Z[0]?=some z:=⟨_,W0a (by omega)⟩
    have hnx:∀u,u=(hdW c0)++z->0+1<=l.length/\ouW (hdW c0) (some u)=(hdW c0)++(Z.take (0+1)).flatten/\(some u=none↔0+1=0):=λu hu=>⟨hkl,by rw[W1c,hz];show u=_;rw[hu];simp[<-W2i,<-hw],by simp⟩
    have hcl:((hdW c0)).length<=20000:=by rw[hw,W0d];have:=hfl 0 (W0x _);omega
    refine Ix 0 rfl (u:=dC c) (by rw[W0t,hc];rfl) ?_
    have hWc:=hC 0 c z hc hz
    obtain⟨arc,A,B,C,cw⟩:=c
    cases hWc with
    | seg h =>
     obtain rfl:arc=false:=h
     refine Yes rfl nofun ?_
     refine Dw rfl ?_
     refine Ce rfl Xc8 ?_
     refine Ce rfl num_ok ?_
     refine Ce rfl num_ok ?_
     refine ApL (((hdW c0)++Xnn B).map dWv) rfl (by rw[W1p];rfl) (W3x _) (by rw[W0i,W0d];show _+3<=_;omega) ?_
     refine Ar (0+1:Nat) rfl ?_
     exact Bk (0+1,some ((hdW c0)++Xnn B)) [(48,600)] rfl (hnx _ rfl) (by show l.length-(0+1)<l.length-0;omega)
    | @full r w x h h1 h2 h3 h4 =>
     obtain rfl:arc=true:=h
     refine No rfl (λh=>h rfl) ?_
     refine Ce rfl h1 ?_
     refine No rfl (by decide) ?_
     refine Ce rfl h2 ?_
     refine Yes rfl rfl ?_
     refine Ce rfl h3 ?_
     refine No rfl (by decide) ?_
     refine Ce rfl h4 ?_
     refine No rfl (by decide) ?_
     refine Cw [(1000001,4),(1000002,7),(1000003,6)] rfl (Ybv (w:=hdW c0) (r:=r) (c:=⟨true,A,B,C,cw⟩) (lg:=false) (x:=x) (by omega)) λv H' _ hv=>?_
     obtain⟨rfl,rfl⟩:=hv
     refine Cw [(1000001,4),(1000002,7),(1000003,6),(1000004,86)] rfl (Xpi (w:=(hdW c0)++Xca r false (!cw) x) (r:=r) (c:=⟨true,A,B,C,cw⟩) (lg:=false) (x:=B) (by simp[Xca];omega)) λv H' _ hv=>?_
     obtain⟨rfl,rfl⟩:=hv
     refine Ar (0+1:Nat) rfl ?_
     exact Bk (0+1,some ((hdW c0)++Xca r false (!cw) x++Xca r false (!cw) B)) [(90,600)] rfl (hnx _ (by simp)) (by show l.length-(0+1)<l.length-0;omega)
    | @part r lg h h1 h2 h3 =>
     obtain rfl:arc=true:=h
     refine No rfl (λh=>h rfl) ?_
     refine Ce rfl h1 ?_
     refine No rfl (by decide) ?_
     refine Ce rfl h2 ?_
     refine No rfl nofun ?_
     refine Ce rfl h3 ?_
     refine No rfl (by decide) ?_
     refine Cw [(1000001,4),(1000002,7),(1000003,6)] rfl (Ybv (w:=hdW c0) (r:=r) (c:=⟨true,A,B,C,cw⟩) (lg:=lg) (x:=B) (by omega)) λv H' _ hv=>?_
     obtain⟨rfl,rfl⟩:=hv
     refine Ar (0+1:Nat) rfl ?_
     exact Bk (0+1,some ((hdW c0)++Xca r lg (!cw) B)) [(103,600)] rfl (hnx _ rfl) (by show l.length-(0+1)<l.length-0;omega)
  . have h:¬((0:Nat):Int)<((l.map dC).length:Nat):=h
    rw[W0i] at h
    omega
 | some w' =>
  have hw:w'=(hdW c0)++(Z.take k).flatten:=hw
  refine By rfl (λh=>?_) λh=>?_
  . have h:(k:Int)<((l.map dC).length:Nat):=h
    rw[W0i] at h
    have hkl:k<l.length:=by omega
    obtain⟨c,hc⟩:∃c,l[k]?=some c:=⟨_,W0a hkl⟩
    obtain⟨z,hz⟩:∃z,Z[k]?=some z:=⟨_,W0a (by omega)⟩
    have hnx:∀u,u=w'++z->k+1<=l.length/\ouW (hdW c0) (some u)=(hdW c0)++(Z.take (k+1)).flatten/\(some u=none↔k+1=0):=λu hu=>⟨hkl,by rw[W1c,hz];show u=_;rw[hu];simp[<-W2i,<-hw],by simp⟩
    have hcl:(w').length<=20000:=by rw[hw,W0d];have:=hfl k hk;omega
    refine Ix k rfl (u:=dC c) (by rw[W0t,hc];rfl) ?_
    have hWc:=hC k c z hc hz
    obtain⟨arc,A,B,C,cw⟩:=c
    cases hWc with
    | seg h =>
     obtain rfl:arc=false:=h
     refine Yes rfl nofun ?_
     refine Dw rfl ?_
     refine Ce rfl Xc8 ?_
     refine Ce rfl num_ok ?_
     refine Ce rfl num_ok ?_
     refine ApO ((w'++Xnn B).map dWv) rfl rfl rfl (by rw[W1p];rfl) (by rw[W0i,W0d];show _+3<=_;omega) ?_
     refine Ar (k+1:Nat) rfl ?_
     exact Bk (k+1,some (w'++Xnn B)) [(600,900),(48,600)] rfl (hnx _ rfl) (by show l.length-(k+1)<l.length-k;omega)
    | @full r w x h h1 h2 h3 h4 =>
     obtain rfl:arc=true:=h
     refine No rfl (λh=>h rfl) ?_
     refine Ce rfl h1 ?_
     refine No rfl (by decide) ?_
     refine Ce rfl h2 ?_
     refine Yes rfl rfl ?_
     refine Ce rfl h3 ?_
     refine No rfl (by decide) ?_
     refine Ce rfl h4 ?_
     refine No rfl (by decide) ?_
     refine Cw [(1000001,4),(1000002,7),(1000003,6),(1000004,600)] rfl (Xpi (w:=w') (r:=r) (c:=⟨true,A,B,C,cw⟩) (lg:=false) (x:=x) (by omega)) λv H' _ hv=>?_
     obtain⟨rfl,rfl⟩:=hv
     refine Cw [(1000001,4),(1000002,7),(1000003,6),(1000004,86)] rfl (Xpi (w:=w'++Xca r false (!cw) x) (r:=r) (c:=⟨true,A,B,C,cw⟩) (lg:=false) (x:=B) (by simp[Xca];omega)) λv H' _ hv=>?_
     obtain⟨rfl,rfl⟩:=hv
     refine Ar (k+1:Nat) rfl ?_
     exact Bk (k+1,some (w'++Xca r false (!cw) x++Xca r false (!cw) B)) [(600,900),(90,600)] rfl (hnx _ (by simp)) (by show l.length-(k+1)<l.length-k;omega)
    | @part r lg h h1 h2 h3 =>
     obtain rfl:arc=true:=h
     refine No rfl (λh=>h rfl) ?_
     refine Ce rfl h1 ?_
     refine No rfl (by decide) ?_
     refine Ce rfl h2 ?_
     refine No rfl nofun ?_
     refine Ce rfl h3 ?_
     refine No rfl (by decide) ?_
     refine Cw [(1000001,4),(1000002,7),(1000003,6),(1000004,600)] rfl (Xpi (w:=w') (r:=r) (c:=⟨true,A,B,C,cw⟩) (lg:=lg) (x:=B) (by omega)) λv H' _ hv=>?_
     obtain⟨rfl,rfl⟩:=hv
     refine Ar (k+1:Nat) rfl ?_
     exact Bk (k+1,some (w'++Xca r lg (!cw) B)) [(600,900),(103,600)] rfl (hnx _ rfl) (by show l.length-(k+1)<l.length-k;omega)
  . have h:¬(k:Int)<((l.map dC).length:Nat):=h
    rw[W0i] at h
    obtain rfl:k=l.length:=by omega
    have hwl:w'.length<=20000:=by rw[hw,W0d];have:=hfl l.length hk;omega
    have hwz:w'=(hdW c0)++Z.flatten:=by rw[hw,W0b (by omega)]
    refine Dw rfl ?_
    refine Ix 0 rfl (u:=dC c0) (by rw[W0t,h0];rfl) ?_
    refine Ar (l.length-1:Nat) rfl ?_
    refine Ix (l.length-1) rfl (u:=dC d0) (by rw[W0t,h9];rfl) ?_
    refine Ce rfl he ?_
    cases cl with
    | true =>
     refine Yes rfl rfl ?_
     refine Dw rfl ?_
     refine Ce rfl Xc8 ?_
     refine ApO ((w'++([.mk [90]]:List Wv)).map dWv) rfl rfl rfl (by rw[W1p];rfl) (by rw[W0i,W0d];show _+1<=_;omega) ?_
     exact RTt rfl (.cons (.own rfl (by rw[W1k];exact W0c _) (by rw[W1a,W1x,hwz];rfl)) Xax)
    | false =>
     refine No rfl nofun ?_
     exact RTt rfl (.cons (.own rfl (by rw[W1k];exact W0c _) (by rw[W1a,W1x,hwz];exact congrArg (List.map dWv) (W3g _).symm)) Xax)
end
section
theorem lC(l:List Cv): (l.map dC).length=l.length:=W0i ..
theorem cAt{l:List Cv}{k:Nat}{c:Cv}(h:l[k]?=some c): (l.map dC)[k]?=some (dC c):=by rw[W0t,h];rfl
theorem Xmn{l:List Cv}(hl:l.length<=1000)(h0:0<l.length)(hv:∀c∈l,C0 45 [.d (dC c)] (·=.b true))(he:∀(i:Nat) c d,l[i]?=some c->l[i+1]?=some d->C0 46 [.d (dV c.B),.d (dV d.A)] (·=.b true)):
 C0 19 [.d (Xd0 l)] (·=.b true):=by
 refine En Tryz.func19 λ_ _ _=>?_
 refine Lo (λk:Nat=>[(0,.d (Xd0 l)),(5,.d (Xd0 l)),(6,.d (.int .i64 (l.map dC).length)),(7,.d (.int .i64 k))]) (λ_=>[]) (λk=>k<=l.length) (λk=>l.length-k) 0 [] rfl (W0x _) λk hk=>?_
 refine By rfl (λh=>?_) λh=>?_<;>simp only[lC] at h
 . obtain⟨c,hc⟩:∃c,l[k]?=some c:=⟨_,W0a (by omega)⟩
   refine Ix k rfl (cAt hc) ?_
   refine Dw rfl ?_
   refine Ce rfl (hv c (W0h hc)) ?_
   refine No rfl (λh=>h rfl) ?_
   refine By rfl (λh1=>?_) λh1=>?_
   . obtain⟨b,hb⟩:∃b,l[k-1]?=some b:=⟨_,W0a (by omega)⟩
     refine Ar (k-1:Nat) rfl ?_
     refine Ix (k-1) rfl (cAt hb) ?_
     refine Ce rfl (he (k-1) b c hb (by rw[show k-1+1=k by omega];exact hc)) ?_
     refine No rfl (λh=>h rfl) ?_
     refine Ar (k+1:Nat) rfl ?_
     exact Bk (k+1) [] rfl (by omega) (by show l.length-(k+1)<l.length-k;omega)
   . refine Ar (k+1:Nat) rfl ?_
     exact Bk (k+1) [] rfl (by omega) (by show l.length-(k+1)<l.length-k;omega)
 . exact R1 rfl (by exact(show dc (((l.map dC).length:Int)>0)=true by rw[Xal,lC];omega) ▸ .rf rfl)
def FmW(d:Int): Wv->List UInt8->Prop
 | .mk s,t=>t=s
 | .nu x,t=>C0 34 [.d (dN x),.d (.int .i64 d)] (·=.tup (.pr (.d (.str t)) (.d (.int .i64 0))))
theorem lWv(l:List Wv): (l.map dWv).length=l.length:=W0i ..
theorem Xx3{l:List Cv}{d:Int}{W:List Wv}{T:List (List UInt8)}(hd:0<=d/\d<=20)(hp:C0 19 [.d (Xd0 l)] (·=.b true))(hw:C0 21 [.d (Xd0 l)] (·=.tup (.pr (.d (dWs W)) (.d (.int .i64 0)))))
 (hW:W.length<=100000) (hT:T.length=W.length) (hF:∀(i:Nat) w t,W[i]?=some w->T[i]?=some t->FmW d w t) (hj:(Lib.join T [32]).length<=140737488355328):C0 12 [.d (Xd0 l),.d (.int .i64 d)] (·=.tup (.pr (.d (.str (Lib.join T [32]))) (.d (.int .i64 0)))):=by
 refine En Tryz.func12 λ_ _ _=>?_
 refine No rfl (by omega) ?_
 refine No rfl (by omega) ?_
 refine Ce rfl hp ?_
 refine No rfl (λh=>h rfl) ?_
 refine Ce rfl hw ?_
 refine No rfl (by decide) ?_
 refine Nl 8 8 1 rfl ?_
 refine Lo (λk:Nat=>[(1,.d (.int .i64 d)),(8,.gr 8 1 ((T.take k).map .str)),(31,.d (dWs W)),(32,.d (.int .i64 (W.map dWv).length)),(33,.d (.int .i64 k))]) (λk=>[(8,.tok ((T.take k).map D.str).length 1)]) (λk=>k<=W.length) (λk=>W.length-k) 0 [] rfl (W0x _) λk hk=>?_
 refine By rfl (λh=>?_) λh=>?_<;>simp only[lWv] at h
 . obtain⟨w,hw1⟩:∃w,W[k]?=some w:=⟨_,W0a (by omega)⟩
   obtain⟨t,ht⟩:∃t,T[k]?=some t:=⟨_,W0a (by omega)⟩
   have hf:=hF k w t hw1 ht
   have hz:(T.take k).map D.str++[D.str t]=(T.take (k+1)).map .str:=by rw[W1c,ht];simp
   refine Ix k rfl (u:=dWv w) (by rw[W0t,hw1];rfl) ?_
   cases w with
   | mk s =>
    obtain rfl:t=s:=hf
    refine No rfl nofun ?_
    refine ApG ((T.take (k+1)).map .str) rfl hz (by simp;omega) ?_
    refine Ar (k+1:Nat) rfl ?_
    exact Bk (k+1) [(8,90),(54,8)] rfl (by omega) (by show W.length-(k+1)<W.length-k;omega)
   | nu x =>
    have hf:C0 34 [.d (dN x),.d (.int .i64 d)] (·=.tup (.pr (.d (.str t)) (.d (.int .i64 0)))):=hf
    refine Yes rfl rfl ?_
    refine Ce rfl hf ?_
    refine No rfl (by decide) ?_
    refine ApG ((T.take (k+1)).map .str) rfl hz (by simp;omega) ?_
    refine Ar (k+1:Nat) rfl ?_
    exact Bk (k+1) [(8,90),(54,8)] rfl (by omega) (by show W.length-(k+1)<W.length-k;omega)
 . have e:T.take k=T:=W0b (by omega)
   have hjn:=Join_ok (l:=T) (sep:=[32]) (by omega) hj
   rw[e]
   refine Ce rfl hjn ?_
   exact R0t
end
section
def Qp(s:Nat)(p:Rat×Rat): Prop:=Qs s p.1/\Qs s p.2
abbrev v0(p:Rat×Rat): Vn:=⟨⟨0,(),p.1⟩,⟨0,(),p.2⟩⟩
theorem W0: Wn (K:=0) () ([]:List (Tow.El 0)) []:=⟨⟨trivial,W0x _,λ{m T ρ} h=>by
 have:=h.le (show Xbv 0 () from trivial)
 have e:m=0:=by have h0:([]:List (Tow.El 0)).length=0:=rfl;omega
 subst e
 trivial⟩,λz hz=>nomatch hz⟩
theorem g0{q:Rat}{s:Nat}(h:Qs s q)(hs:s<=10000:=by decide): Gd (K:=0) () [] [] 1 ⟨0,(),q⟩ q:=by
 have h0:NOk (K:=0) () ([]:List (Tow.El 0)) 0 (s+1) ⟨0,(),q⟩ (Tow.rat 0 q):=⟨⟨λ_=>zero _,⟨trivial,trivial,λi hi=>absurd hi (W7y _)⟩,rfl⟩,trivial,Sz.rat 0 h⟩
 have hg:Gs (K:=0) () ([]:List (Tow.El 0)) [] (gB 1) (Tow.rat 0 q):=(Gs.rat h).mono (by unfold gB;omega)
 exact⟨h0.re W0.w W0.h hg,hg,W0c _⟩
theorem gv0{p:Rat×Rat}{s:Nat}(h:Qp s p)(hs:s<=10000:=by decide): Gv (K:=0) () [] [] 1 (v0 p) p:=⟨g0 h.1 hs,g0 h.2 hs⟩
theorem zw{r p:Nat}{x:Nm}{v:Rat}(h:NOk (K:=0) () ([]:List (Tow.El 0)) r p x v): x=⟨0,(),v⟩:=by
 obtain⟨ρ,h1,h2⟩:=h.ex
 obtain⟨k,t,a⟩:=x
 have hk:k<=([]:List (Tow.El 0)).length:=h1.le (show Xbv 0 () from trivial)
 obtain rfl:k=0:=Nat.le_zero.1 hk
 have h2:(a:Rat)=v:=h2
 rw[<-h2]
 cases t
 rfl
theorem Xcd{n:Nat}{v:Vn}{p:Rat×Rat}(h:Gv (K:=0) () ([]:List (Tow.El 0)) [] n v p): v=v0 p:=by
 obtain⟨x,y⟩:=v
 rw[show x=_ from zw h.x.o,show y=_ from zw h.y.o]
instance {p:Nat} {z:Int}:Decidable (Zs p z):=inferInstanceAs (Decidable (z.natAbs<2^p))
instance {p:Nat} {x:Rat}:Decidable (Qs p x):=decidable_of_iff (Zs p x.num/\Zs p x.den) ⟨λh=>⟨h.1,h.2⟩,λh=>⟨h.1,h.2⟩⟩
theorem Xau{q:Rat}{s:Nat}(h:Qs s q)(hs:s<=10000:=by decide): P19.Trm ⟨0,(),q⟩:=by
 unfold P19.Trm
 refine En Tryz.func208 λ_ _ _=>?_
 refine Ce rfl (P9.detach_ok (x:=⟨0,(),q⟩) (r:=1) (p:=s+1) trivial (Sz.rat 0 h) (show (0:Nat)<=16 by decide) (by decide) (by omega)) ?_
 refine Ar (-1:Int) rfl ?_ (wr (show ((0:Nat):Int)-1=-1 by decide) (by simp only[inK];omega))
 refine Lo (λ_:Unit=>[(1,.ptr 1 0),(2,.ptr 2 0),(3,.ptr 3 0)]) (λ_=>[(1,.var (.d (dN ⟨0,(),q⟩))),(2,.var (.st (.pr .nil .nil))),(3,.var (.d (.int .i64 (-1))))]) (λ_=>True) (λ_=>0) () [] rfl trivial (λ_ _=>?_)
 refine No rfl (by decide) ?_
 exact R0
instance {p:Nat} {x:Rat×Rat}:Decidable (Qp p x):=by unfold Qp;infer_instance
end
section
def d2(p q:Rat×Rat): Rat:=Xer (K:=0) () (Xa9 (K:=0) p q) (Xa9 (K:=0) p q)
abbrev nr(q:Rat): Nm:=⟨0,(),q⟩
theorem Yiy: Sz 1000 (toL 1 (Xf3 1 0)):=by
 have:Sz (1*2+1) (toL 1 (Xf3 1 0)):=Sz.all (p:=1) (l:=[(0:Rat),1]) λx hx=>by
  have hx:x∈[(0:Rat),1]:=hx
  rcases W1i.1 hx with rfl | hx
  . exact⟨show (0:Int).natAbs<2^1 by decide,show ((1:Nat):Int).natAbs<2^1 by decide⟩
  . obtain rfl:=W0g.1 hx;exact⟨show (1:Int).natAbs<2^1 by decide,show ((1:Nat):Int).natAbs<2^1 by decide⟩
 exact this.mono (by decide)
theorem Ylk{s:Rat}(h:Qs 200 s)(hs:0<=s): C0 129 [.d (dN (nr s))] (R9.RtR (nr s)):=by
 have hS:Sz 201 (toL 0 (s:Tow.El 0)):=Sz.rat 0 h
 refine En Tryz.func129 λ_ _ _=>?_
 refine Ca rfl (P8.Adjoin_ok (k:=0) (t:=()) (a:=(s:Tow.El 0)) (r:=1) (p:=201) trivial hS trivial (by decide) (by decide +kernel) (by decide +kernel) (by decide +kernel) (by decide +kernel)) λv hv=>?_
 rcases hv with ⟨h1,rfl⟩ | ⟨y,h1,h2,rfl⟩ | ⟨h1,h2,h3,rfl⟩
 . have h1:Xet s<0:=h1
   rcases Xa0 s with ⟨_,e⟩ | ⟨_,e⟩ | ⟨e,_⟩
   . omega
   . omega
   . grind
 . refine No rfl (by simp) ?_
   have hy:Sz 1000 (toL 0 (y:Tow.El 0)):=(hS.rootS (k:=0) (r:=1) (t:=()) (s:=(y:Tow.El 0)) trivial trivial h1).mono (by decide)
   refine Ce rfl (P9.detach_ok (x:=⟨0,(),y⟩) (r:=1) (p:=1000) trivial hy (show 0<=16 by decide) (by decide) (by decide)) ?_
   exact Rt rfl (.tup (.cons (.rf rfl) Xax)) ⟨⟨0,(),y⟩,rfl,.inl ⟨y,rfl,h1,h2⟩⟩
 . refine No rfl (by simp) ?_
   refine Ce rfl (P9.detach_ok (x:=⟨1,tsn () s,Xf3 1 0⟩) (r:=201) (p:=1000) ⟨trivial,hS⟩ Yiy (show 1<=16 by decide) (by decide) (by decide)) ?_
   exact Rt rfl (.tup (.cons (.rf rfl) Xax)) ⟨⟨1,tsn () s,Xf3 1 0⟩,rfl,.inr ⟨rfl,h1,h2⟩⟩
theorem radius_r{c:Cv}{p q:Rat×Rat}{s:Nat}(hC:c.C=v0 p)(hA:c.A=v0 q)(hp:Qp s p)(hq:Qp s q)(hne:p≠q)(hs:Qs 200 (d2 q p))(h0:0<=d2 q p)(h1:s<=10000:=by decide): C0 52 [.d (dC c)] (R9.RtR (nr (d2 q p))):=by
 obtain⟨arc,A,B,C,cw⟩:=c
 obtain rfl:C=v0 p:=hC
 obtain rfl:A=v0 q:=hA
 refine En Tryz.func52 λ_ _ _=>?_
 refine Ca rfl (P15.Around_g W0 (gv0 hp h1) (gv0 hq h1) (Xau hp.1 h1) (Xau hp.2 h1) (by decide) hne) λv hv=>?_
 obtain⟨z,rfl,hz⟩:=hv
 obtain rfl:=zw hz.o
 refine No rfl (by decide) ?_
 refine Ca rfl (Ylk hs h0) λv hv=>?_
 obtain⟨z,rfl,hz⟩:=hv
 exact Rt rfl (.tup (.cons (.rf rfl) Xax)) ⟨z,rfl,hz⟩
def Yf5(r m:Nm): List Vn:=[⟨r,n00⟩,⟨n00,r⟩,⟨m,n00⟩,⟨n00,m⟩]
def sel: List Vn->List Bool->List Vn
 | x::X,b::B=>if b then x::sel X B else sel X B
 | _,_=>[]
theorem Xg5{x:Vn}{b:Bool}: ∀ {X:List Vn} {B:List Bool},X.length=B.length->sel (X++[x]) (B++[b])=sel X B++(if b then [x] else [])
 | [],[],_=>by cases b<;>rfl
 | y::X,c::B,h=>by
  have:=Xg5 (x:=x) (b:=b) (X:=X) (B:=B) (by simpa using h)
  simp only[W3r,sel,this]
  cases c<;>simp
theorem Xhy: ∀ {X:List Vn} {B:List Bool},(sel X B).length<=X.length
 | [],_=>by simp[sel]
 | _::_,[]=>by simp[sel]
 | x::X,b::B=>by
  have:=Xhy (X:=X) (B:=B)
  simp only[sel];split<;>simp<;>omega
def exA(e0:List Vn): Option (List Vn)->AV
 | none=>.lit 4 (e0.map dV)
 | some w=>.own 600 4 0 (w.map dV).length
def exH(c:Cv): Option (List Vn)->Hpl
 | none=>[(1,.var (.d (dC c)))]
 | some w=>[(1,.var (.d (dC c))),(600,.arr 4 (w.map dV))]
def exW(e0:List Vn): Option (List Vn)->List Vn
 | none=>e0
 | some w=>w
theorem Xo8: C0 107 [.d (.int .i64 0)] (·=.d (dN n00)):=P9.FromInt_ok (z:=0) (by decide)
theorem Xmz{c:Cv}{r m:Nm}{X:List Vn}{B:List Bool}(h:c.arc=true)(hr:C0 52 [.d (dC c)] (·=.tup (.pr (.d (dN r)) (.d (.int .i64 0)))))(hm:C0 38 [.d (dN r)] (·=.d (dN m)))(hX:X.length=4)(hB:B.length=4)
 (hx:∀(i:Nat) d x b,(Yf5 r m)[i]?=some d->X[i]?=some x->B[i]?=some b->C0 56 [.d (dV c.C),.d (dV d)] (·=.tup (.pr (.d (dV x)) (.d (.int .i64 0))))/\C0 108 [.d (dC c),.d (dV x)] (·=.b b)) :
 C0 37 [.d (dC c)] (·=.tup (.pr (.d (dVs ([c.A,c.B]++sel X B))) (.d (.int .i64 0)))):=by
 obtain⟨arc,A,B',C,cw⟩:=c
 obtain rfl:arc=true:=h
 refine En Tryz.func37 λ_ _ _=>?_
 refine No rfl (λh=>h rfl) ?_
 refine Ce rfl hr ?_
 refine No rfl (by decide) ?_
 refine Ce rfl Xo8 ?_
 refine Dw rfl ?_
 refine Ce rfl hm ?_
 refine Ce rfl hm ?_
 refine Lo (λ((k,o):Nat×Option (List Vn))=>[(1,.ptr 1 0),(4,exA [A,B'] o),(44,.lit 4 ((Yf5 r m).map dV)),(45,.d (.int .i64 4)),(46,.d (.int .i64 k))]) (λ(_,o)=>exH ⟨true,A,B',C,cw⟩ o) (λ(k,o)=>k<=4/\exW [A,B'] o=[A,B']++sel (X.take k) (B.take k)) (λ(k,_)=>4-k) (0,none) [] rfl ⟨W0x _,by simp[exW,sel]⟩ ?_
 rintro⟨k,o⟩ ⟨hk,hw⟩
 have hwl:(exW [A,B'] o).length<=6:=by
  have hw:exW [A,B'] o=_:=hw
  rw[hw,W0d]
  have:=Xhy (X:=X.take k) (B:=B.take k)
  rw[W0j] at this
  simp only[W0k,W3l]
  omega
 cases o with
 | none =>
  have hw:[A,B']=[A,B']++sel (X.take k) (B.take k):=hw
  refine By rfl (λh=>?_) λh=>?_
  . have h:(k:Int)<4:=h
    obtain⟨d,hd⟩:∃d,(Yf5 r m)[k]?=some d:=⟨_,W0a (show k<4 by omega)⟩
    obtain⟨x,hxk⟩:∃x,X[k]?=some x:=⟨_,W0a (by omega)⟩
    obtain⟨b,hbk⟩:∃b,B[k]?=some b:=⟨_,W0a (by omega)⟩
    obtain⟨g1,g2⟩:=hx k d x b hd hxk hbk
    have hs:sel (X.take (k+1)) (B.take (k+1))=sel (X.take k) (B.take k)++(if b then [x] else []):=by
     rw[W1c,W1c,hxk,hbk];exact Xg5 (by rw[W0j,W0j,hX,hB])
    refine Ix k rfl (u:=dV d) (by rw[W0t,hd];rfl) ?_
    refine Ce rfl g1 ?_
    refine No rfl (by decide) ?_
    refine Ce rfl g2 ?_
    cases b with
    | false =>
     refine No rfl nofun ?_
     refine Ar (k+1:Nat) rfl ?_
     exact Bk (k+1,none) [] rfl ⟨by omega,by rw[hs];simpa [exW] using hw⟩ (by show 4-(k+1)<4-k;omega)
    | true =>
     refine Yes rfl rfl ?_
     refine ApL (([A,B']++[x]).map dV) rfl rfl (W3x _) (show 3<=1099511627776 by decide) ?_
     refine Ar (k+1:Nat) rfl ?_
     exact Bk (k+1,some ([A,B']++[x])) [(66,600)] rfl ⟨by omega,by rw[hs,<-W2i,<-hw];rfl⟩ (by show 4-(k+1)<4-k;omega)
  . have h:¬(k:Int)<4:=h
    rw[W0b (by omega),W0b (by omega)] at hw
    exact RTt rfl (.cons (.lit (by rw[<-hw])) Xax)
 | some w =>
  have hw:w=[A,B']++sel (X.take k) (B.take k):=hw
  have hwl:w.length<=6:=hwl
  refine By rfl (λh=>?_) λh=>?_
  . have h:(k:Int)<4:=h
    obtain⟨d,hd⟩:∃d,(Yf5 r m)[k]?=some d:=⟨_,W0a (show k<4 by omega)⟩
    obtain⟨x,hxk⟩:∃x,X[k]?=some x:=⟨_,W0a (by omega)⟩
    obtain⟨b,hbk⟩:∃b,B[k]?=some b:=⟨_,W0a (by omega)⟩
    obtain⟨g1,g2⟩:=hx k d x b hd hxk hbk
    have hs:sel (X.take (k+1)) (B.take (k+1))=sel (X.take k) (B.take k)++(if b then [x] else []):=by
     rw[W1c,W1c,hxk,hbk];exact Xg5 (by rw[W0j,W0j,hX,hB])
    refine Ix k rfl (u:=dV d) (by rw[W0t,hd];rfl) ?_
    refine Ce rfl g1 ?_
    refine No rfl (by decide) ?_
    refine Ce rfl g2 ?_
    cases b with
    | false =>
     refine No rfl nofun ?_
     refine Ar (k+1:Nat) rfl ?_
     exact Bk (k+1,some w) [] rfl ⟨by omega,by rw[hs];simpa [exW] using hw⟩ (by show 4-(k+1)<4-k;omega)
    | true =>
     refine Yes rfl rfl ?_
     refine ApO ((w++[x]).map dV) rfl rfl rfl (by rw[W1p];rfl) (by simp;omega) ?_
     refine Ar (k+1:Nat) rfl ?_
     exact Bk (k+1,some (w++[x])) [(600,900),(66,600)] rfl ⟨by omega,by rw[hs,<-W2i,<-hw];rfl⟩ (by show 4-(k+1)<4-k;omega)
  . have h:¬(k:Int)<4:=h
    rw[W0b (by omega),W0b (by omega)] at hw
    exact RTt rfl (.cons (.own rfl (by rw[W1k];exact W0c _) (by rw[W1a,W1x,hw])) Xax)
end
end Go.Proofs.YtclgppjdhndgiaaGreatDoor.P55
namespace Go.Proofs.YtclgppjdhndgiaaGreatDoor
open Go Go.Num Go.Tow Go.Vm
section
def lo2(x y:Rat): Rat:=if y<x then y else x
def hi2(x y:Rat): Rat:=if x<y then y else x
def Xye(x:Rat)(r:List Rat): Rat:=r.foldl lo2 x
def Xyf(x:Rat)(r:List Rat): Rat:=r.foldl hi2 x
theorem Yjh{s:Nat}{x y:Rat}(hx:Qs s x)(hy:Qs s y): Qs s (lo2 x y):=by unfold lo2;split<;>assumption
theorem Yjv{s:Nat}{x y:Rat}(hx:Qs s x)(hy:Qs s y): Qs s (hi2 x y):=by unfold hi2;split<;>assumption
theorem Xvd(x:Rat)(r:List Rat)(y:Rat): Xye x (r++[y])=lo2 (Xye x r) y:=by simp[Xye]
theorem Xvi(x:Rat)(r:List Rat)(y:Rat): Xyf x (r++[y])=hi2 (Xyf x r) y:=by simp[Xyf]
theorem Xve{s:Nat}{x:Rat}{r:List Rat}(h:∀y∈x::r,Qs s y): Qs s (Xye x r):=by
 induction r generalizing x with
 | nil=>exact h x (W0w ..)
 | cons y r ih=>exact ih (x:=lo2 x y) (λz hz=>by
  rcases W1i.1 hz with rfl | hz
  . exact Yjh (h x (W0w ..)) (h y (by simp))
  . exact h z (by simp[hz]))
theorem Xvj{s:Nat}{x:Rat}{r:List Rat}(h:∀y∈x::r,Qs s y): Qs s (Xyf x r):=by
 induction r generalizing x with
 | nil=>exact h x (W0w ..)
 | cons y r ih=>exact ih (x:=hi2 x y) (λz hz=>by
  rcases W1i.1 hz with rfl | hz
  . exact Yjv (h x (W0w ..)) (h y (by simp))
  . exact h z (by simp[hz]))
theorem Ygc{x y:Rat}: Xnp x y<0↔x<y:=by
 unfold Xnp
 split
 . rename_i h;simp[h]
 . rename_i h
   split<;>simp[h]
theorem Yge{x y:Rat}: Xnp x y>0↔y<x:=by
 rw[Xm5,<-Ygc];omega
theorem Xun{s:Nat}{x:Rat}{r:List Rat}(h:∀y∈x::r,Qs s y)(k:Nat): ∀y∈x::r.take k,Qs s y:=λy hy=>h y (by
 rcases W1i.1 hy with rfl | hy
 . exact W0w ..
 . exact W1e _ (W5t hy))
theorem Xw0(n:Int): Rat.divInt n 1=(n:Rat):=by
 rw[W3b]
 have:((1:Int):Rat)=1:=rfl
 grind
def pw(b:Nat): Rat:=((2^b:Int):Rat)
theorem Zs.two{b p:Nat}(h:b+1<=p): Zs p (2^b:Int):=by
 refine Zs.mono (p:=b+1) ?_ h
 unfold Zs
 rw[W7g]
 exact W3u (by decide) (Nat.lt_succ_self b)
theorem Xhm(b:Nat): (2^b:Int)≠0:=by have:=W6g (n:=2) (m:=b) (by decide);omega
theorem Xze(b:Nat): Qs (b+1) (pw b):=⟨Zs.two (W0c _),Zs.one (by omega)⟩
theorem Zs.floor{s:Nat}{x:Rat}(h:Qs s x): Zs s x.floor:=by
 have hn:=h.n
 unfold Zs at *
 rw[Rat.floor_def]
 exact W1y (Int.natAbs_ediv_le_natAbs _ _) hn
def dnQ(x:Rat)(b:Nat): Rat:=Rat.divInt (x*pw b).floor (2^b)
def upQ(x:Rat)(b:Nat): Rat:=-dnQ (-x) b
theorem Xwx{s:Nat}{x:Rat}(h:Qs s x)(b:Nat): Qs (s+b+1) (dnQ x b) :=
 Qs.divInt (p:=s+b+1) ((Zs.floor (h.mul (Xze b))).mono (by omega)) (Zs.two (by omega)) (Xhm b)
theorem Yhs{s:Nat}{x:Rat}(h:Qs s x)(b:Nat): Qs (s+b+1) (upQ x b):=(Xwx h.neg b).neg
theorem Ygd{x y:Rat}: Xnp x y<=0↔¬y<x:=by rw[<-Yge];omega
theorem Yfb{a p:Nat}(h:a<2^p): (dig a).length<=p/32+1:=by
 refine Xaq (W0s h ?_)
 rw[show (4294967296:Nat)=2^32 from rfl,<-W4y]
 exact W0m (by decide) (by omega)
def rtF(x:Rat): Nat:=rt x.floor.toNat
theorem Ym0(n:Nat): rt n<=n:=by
 have h:=(Xc5 n).1
 by_cases h0:rt n=0
 . omega
 . have:=W0p (rt n) (show 1<=rt n by omega)
   omega
theorem Xd9{x:Rat}(h:0<=x): x.floor=(x.floor.toNat:Int):=by
 have:(0:Int)<=x.floor:=Rat.le_floor_iff.2 h
 omega
theorem Yca{s:Nat}{x:Rat}(h:Qs s x)(h0:0<=x): Zs s (rtF x:Int):=by
 have h1:=Zs.floor h
 rw[Xd9 h0] at h1
 have h2:=Ym0 x.floor.toNat
 unfold Zs at *
 have h1:x.floor.toNat<2^s:=h1
 show rt x.floor.toNat<2^s
 omega
theorem Xay(b:Nat): 0<pw b:=Rat.intCast_pos.2 (W6g (by decide))
def sq2(x:Rat)(b:Nat): Rat:=x*(pw b*pw b)
def Xdl(x:Rat)(b:Nat): Rat:=Rat.divInt (rtF (sq2 x b):Int) (2^b)
open Classical in
noncomputable def Xtv(x:Rat): Nat:=if ((rtF x*rtF x:Int):Rat)<x then rtF x+1 else rtF x
noncomputable def Xty(x:Rat)(b:Nat): Rat:=Rat.divInt (Xtv (sq2 x b):Int) (2^b)
theorem Yb0{s b:Nat}{x:Rat}(h:Qs s x): Qs (s+(2*b+2)) (sq2 x b):=(h.mul ((Xze b).mul (Xze b))).mono (by omega)
theorem Xgp{x:Rat}{b:Nat}(h:0<=x): 0<=sq2 x b:=Rat.mul_nonneg h (Rat.mul_nonneg (W2k (Xay b)) (W2k (Xay b)))
theorem Xld(x:Rat)(n:Nat): (x.num*2^n).fdiv x.den=(x*pw n).floor:=by
 have hd:(0:Int)<x.den:=Int.natCast_pos.2 (W2n x.den_nz)
 rw[W1w _ (by omega)]
 have key:∀z:Int,z<=(x.num*2^n)/x.den↔z<=(x*pw n).floor:=by
  intro z
  rw[Int.le_ediv_iff_mul_le hd,Rat.le_floor_iff]
  have e:x*pw n*(x.den:Rat)=((x.num*2^n:Int):Rat):=by
   have:=Xk1 x
   have h2:pw n=((2^n:Int):Rat):=rfl
   rw[W3v,<-h2,<-this]
   grind
  have hdr:(0:Rat)<(x.den:Rat):=by
   have:=Rat.intCast_pos.2 hd
   exact this
  rw[<-W3n,W3v,<-e]
  constructor
  . intro h
    exact W2a h hdr
  . intro h
    exact W2r h (W2k hdr)
 have h1:=(key _).1 (W8i _)
 have h2:=(key _).2 (W8i _)
 omega
theorem Ych(b:Nat): pw (2*b)=pw b*pw b:=by
 show ((2^(2*b):Int):Rat)=((2^b:Int):Rat)*((2^b:Int):Rat)
 rw[<-W3v,<-W7m]
 congr 2;omega
theorem Xyw{x:Rat}(b:Nat)(h0:0<=x): (x.num*2^(2*b)).fdiv x.den=((sq2 x b).floor.toNat:Int):=by
 rw[Xld,Ych]
 exact Xd9 (Xgp h0)
theorem Xkm{s:Nat}{x:Rat}(h:Qs s x)(h0:0<=x)(b:Nat): Qs (s+(2*b+2)) (Xdl x b) :=
 Qs.divInt (Yca (Yb0 h) (Xgp h0)) (Zs.two (by omega)) (Xhm b)
def mx0(x:Rat): Rat:=if x<0 then 0 else x
theorem Xgv(x:Rat): 0<=mx0 x:=by unfold mx0;split<;>grind
theorem Ycv{s:Nat}{x:Rat}(h:Qs s x)(hs:1<=s): Qs s (mx0 x):=by
 unfold mx0
 split
 . exact qs0.mono hs
 . exact h
theorem Yko{x:Rat}: Xa5 x.num 0<0↔x<0:=by
 rw[Xko]
 rcases Xa0 x with ⟨h,e⟩ | ⟨h,e⟩ | ⟨h,e⟩<;>rw[e]
 . exact⟨λh=>absurd h (by decide),λh'=>absurd h' (by grind)⟩
 . exact⟨λh=>absurd h (by decide),λh'=>absurd h' (by grind)⟩
 . exact⟨λ_=>h,λ_=>by decide⟩
def rnd(p:Rat×Rat)(b:Nat): Rat×Rat:=(dnQ p.1 b,upQ p.2 b)
def rts(p:Rat×Rat)(b:Nat): Rat×Rat:=(Xdl (mx0 p.1) b,Xdl p.2 b+Rat.divInt 1 (2^b))
def Xb7(p q:Rat×Rat): Rat×Rat:=(Xye (p.1*q.1) [p.1*q.2,p.2*q.1,p.2*q.2],Xyf (p.1*q.1) [p.1*q.2,p.2*q.1,p.2*q.2])
def Xnq(p q:Rat×Rat): Rat×Rat:=(p.1+q.1,p.2+q.2)
def enc: (k:Nat)->Tw k->El k->Nat->Rat×Rat
 | 0=>λ_ (x:Rat) _=>(x,x)
 | k+1=>λt a b=>if (∀x∈toL k a.2,x=0) then enc k t.1 a.1 b else rnd (Xnq (enc k t.1 a.1 b) (Xb7 (enc k t.1 a.2 b) (rts (enc k t.1 t.2 b) b))) b
theorem Ydf(x:Rat)(b:Nat): dnQ x b*pw b=((x*pw b).floor:Rat):=by
 unfold dnQ
 rw[W3b]
 have h:=Xay b
 show ((x*pw b).floor:Rat)/pw b*pw b=_
 rw[W5m (by grind)]
theorem Xrm(x:Rat)(b:Nat): dnQ x b<=x:=by
 refine W2a ?_ (Xay b)
 rw[Ydf]
 exact Rat.floor_le _
theorem Xwy(x:Rat)(b:Nat): x*pw b<dnQ x b*pw b+1:=by
 rw[Ydf]
 have:=@Rat.lt_floor (x*pw b)
 grind
theorem Xs9(x:Rat)(b:Nat): x<=upQ x b:=by
 have:=Xrm (-x) b
 unfold upQ;grind
theorem Ybr(x:Rat)(b:Nat): upQ x b*pw b<x*pw b+1:=by
 have:=Xwy (-x) b
 unfold upQ;grind
theorem Xvm{x y:Rat}: lo2 x y<=x/\lo2 x y<=y:=by unfold lo2;split<;>grind
theorem Xwb{x y:Rat}: x<=hi2 x y/\y<=hi2 x y:=by unfold hi2;split<;>grind
theorem Xvl{x y:Rat}: lo2 x y=x\/lo2 x y=y:=by unfold lo2;split<;>simp
theorem Xwa{x y:Rat}: hi2 x y=x\/hi2 x y=y:=by unfold hi2;split<;>simp
theorem Xic(p q:Rat×Rat): (Xb7 p q).1<=p.1*q.1/\(Xb7 p q).1<=p.1*q.2/\(Xb7 p q).1<=p.2*q.1/\(Xb7 p q).1<=p.2*q.2:=by
 show lo2 (lo2 (lo2 (p.1*q.1) (p.1*q.2)) (p.2*q.1)) (p.2*q.2)<=_/\lo2 (lo2 (lo2 (p.1*q.1) (p.1*q.2)) (p.2*q.1)) (p.2*q.2)<=_/\lo2 (lo2 (lo2 (p.1*q.1) (p.1*q.2)) (p.2*q.1)) (p.2*q.2)<=_/\lo2 (lo2 (lo2 (p.1*q.1) (p.1*q.2)) (p.2*q.1)) (p.2*q.2)<=_
 have h1:=@Xvm (p.1*q.1) (p.1*q.2)
 have h2:=@Xvm (lo2 (p.1*q.1) (p.1*q.2)) (p.2*q.1)
 have h3:=@Xvm (lo2 (lo2 (p.1*q.1) (p.1*q.2)) (p.2*q.1)) (p.2*q.2)
 refine⟨?_,?_,?_,h3.2⟩<;>grind
theorem Xid(p q:Rat×Rat): p.1*q.1<=(Xb7 p q).2/\p.1*q.2<=(Xb7 p q).2/\p.2*q.1<=(Xb7 p q).2/\p.2*q.2<=(Xb7 p q).2:=by
 show _<=hi2 (hi2 (hi2 (p.1*q.1) (p.1*q.2)) (p.2*q.1)) (p.2*q.2)/\_<=hi2 (hi2 (hi2 (p.1*q.1) (p.1*q.2)) (p.2*q.1)) (p.2*q.2)/\_<=hi2 (hi2 (hi2 (p.1*q.1) (p.1*q.2)) (p.2*q.1)) (p.2*q.2)/\_<=hi2 (hi2 (hi2 (p.1*q.1) (p.1*q.2)) (p.2*q.1)) (p.2*q.2)
 have h1:=@Xwb (p.1*q.1) (p.1*q.2)
 have h2:=@Xwb (hi2 (p.1*q.1) (p.1*q.2)) (p.2*q.1)
 have h3:=@Xwb (hi2 (hi2 (p.1*q.1) (p.1*q.2)) (p.2*q.1)) (p.2*q.2)
 refine⟨?_,?_,?_,h3.2⟩<;>grind
theorem Xez(x:Rat)(b:Nat): Xdl x b*pw b=((rtF (sq2 x b):Int):Rat):=by
 unfold Xdl
 rw[W3b]
 have h:=Xay b
 show ((rtF (sq2 x b):Int):Rat)/pw b*pw b=_
 rw[W5m (by grind)]
theorem Xdm(b:Nat): Rat.divInt 1 (2^b)*pw b=1:=by
 rw[W3b]
 have h:=Xay b
 show ((1:Int):Rat)/pw b*pw b=_
 rw[W5m (by grind)];rfl
theorem Xc3(x:Rat)(b:Nat): 0<=Xdl x b:=by
 refine W2a ?_ (Xay b)
 rw[Xez,W5l]
 exact Rat.intCast_nonneg.2 (by omega)
theorem Ycb{x:Rat}(h:0<=x): (((rtF x:Int)):Rat)*((rtF x:Int):Rat)<=x:=by
 have h1:=(Xc5 x.floor.toNat).1
 have h2:=Xd9 h
 have h3:=@Rat.floor_le x
 have h4:((rtF x*rtF x:Int):Rat)<=(x.floor:Rat):=by
  rw[W3n,h2]
  unfold rtF
  exact_mod_cast h1
 rw[W3v] at h4
 exact W5n h4 h3
theorem Xud{x:Rat}(h:0<=x): x<(((rtF x:Int))+1:Rat)*(((rtF x:Int))+1:Rat):=by
 have h1:=(Xc5 x.floor.toNat).2
 have h2:=Xd9 h
 have h3:=@Rat.lt_floor x
 have h4:((x.floor+1:Int):Rat)<=(((rtF x+1:Int)*(rtF x+1:Int):Int):Rat):=by
  rw[W3n,h2]
  unfold rtF
  have h1:x.floor.toNat+1<=(rt x.floor.toNat+1)*(rt x.floor.toNat+1):=h1
  exact_mod_cast h1
 rw[W3v,W5p,W5p] at h4
 have h5:((1:Int):Rat)=1:=rfl
 rw[h5] at h4
 grind
theorem Xhs{x:Rat}{b:Nat}(h:0<=x): Xdl x b*Xdl x b<=x:=by
 have hp:=Xay b
 have hpp:=W4q hp hp
 refine W2a ?_ hpp
 have h1:=Ycb (Xgp (b:=b) h)
 rw[<-Xez] at h1
 unfold sq2 at h1
 grind
theorem Xtx{x:Rat}{b:Nat}(h:0<=x): x<=(Xdl x b+Rat.divInt 1 (2^b))*(Xdl x b+Rat.divInt 1 (2^b)):=by
 have hp:=Xay b
 have hpp:=W4q hp hp
 refine W2a ?_ hpp
 have h1:=Xud (Xgp (b:=b) h)
 have h2:=Xdm b
 rw[<-Xez] at h1
 have h3:sq2 x b=x*(pw b*pw b):=rfl
 have h4:(Xdl x b+Rat.divInt 1 (2^b))*(Xdl x b+Rat.divInt 1 (2^b))*(pw b*pw b)=(Xdl x b*pw b+1)*(Xdl x b*pw b+1):=by
  rw[<-h2];grind
 rw[h4,<-h3]
 exact W2k h1
theorem Xfz: ∀ {k:Nat} {t:Tw k} (h:Xbv k t) (a:El k) (b:Nat),inI k t a (enc k t a b).1 (enc k t a b).2
 | 0,t,h,a,b=>⟨(Xav h).le_rf (Xbc 0 t) a,(Xav h).le_rf (Xbc 0 t) a⟩
 | k+1,t,h,a,b=>by
  have iu:=Xmq (t:=t) h.1 (Xfz h.1 a.1 b)
  have hs:=Xrj (t:=t) a
  by_cases hz:∀x∈toL k a.2,x=0
  . have he:enc (k+1) t a b=enc k t.1 a.1 b:=if_pos hz
    rw[he]
    have ha:a=up k a.1:=W3a rfl ((Xar k a.2).2 hz)
    rw[ha]
    exact iu
  . have he:enc (k+1) t a b=rnd (Xnq (enc k t.1 a.1 b) (Xb7 (enc k t.1 a.2 b) (rts (enc k t.1 t.2 b) b))) b:=if_neg hz
    have iv:=Xmq (t:=t) h.1 (Xfz h.1 a.2 b)
    have ir:=Xfz h.1 t.2 b
    have hr2:0<=(enc k t.1 t.2 b).2:=by
     have h0:le k t.1 (rat k 0) t.2:=(Xia h.1).2 (by rw[h.2];decide)
     exact(Xbe h.1).1 (le_tr h.1 h0 ir.2)
    have hu:0<=Rat.divInt 1 (2^b):=W2a (by rw[Xdm,W5l];decide) (Xay b)
    have is:=Xvz h ir (c:=Xdl (mx0 (enc k t.1 t.2 b).1) b) (d:=Xdl (enc k t.1 t.2 b).2 b+Rat.divInt 1 (2^b)) (Xc3 _ _) (by have:=Xc3 (enc k t.1 t.2 b).2 b;grind)
     (by
      have h1:=Xhs (b:=b) (Xgv (enc k t.1 t.2 b).1)
      by_cases h0:(enc k t.1 t.2 b).1<0
      . right
        have e:mx0 (enc k t.1 t.2 b).1=0:=if_pos h0
        rw[e] at h1 |-
        have h2:=Xc3 0 b
        by_cases h3:Xdl 0 b=0
        . exact h3
        . have:=W4q (show 0<Xdl 0 b by grind) (show 0<Xdl 0 b by grind)
          grind
      . left
        have e:mx0 (enc k t.1 t.2 b).1=(enc k t.1 t.2 b).1:=if_neg h0
        rw[e] at h1 |-
        exact h1) (Xtx hr2)
    have im:=Xv0 h iv is (Xc3 _ _) (Xic (enc k t.1 a.2 b) (rts (enc k t.1 t.2 b) b)).1 (Xic (enc k t.1 a.2 b) (rts (enc k t.1 t.2 b) b)).2.1 (Xid (enc k t.1 a.2 b) (rts (enc k t.1 t.2 b) b)).2.2.1 (Xid (enc k t.1 a.2 b) (rts (enc k t.1 t.2 b) b)).2.2.2
    have ia:=Xv1 h iu im
    rw[<-hs] at ia
    rw[he]
    exact Xk6 h ia (Xrm _ _) (Xs9 _ _)
def eB(s b:Nat): Nat->Nat
 | 0=>s
 | k+1=>3*eB s b k+4*b+6
theorem Xwr(s b:Nat): ∀k,s<=eB s b k
 | 0=>W0c _
 | k+1=>by have:=Xwr s b k;show s<=3*eB s b k+4*b+6;omega
theorem Ydc{k:Nat}{t:Tw (k+1)}(h:Xbv (k+1) t)(b:Nat): 0<=(enc k t.1 t.2 b).2:=by
 have h0:le k t.1 (rat k 0) t.2:=(Xia h.1).2 (by rw[h.2];decide)
 exact(Xbe h.1).1 (le_tr h.1 h0 (Xfz h.1 t.2 b).2)
def Q2(s:Nat)(p:Rat×Rat): Prop:=Qs s p.1/\Qs s p.2
theorem Xkc(b:Nat): Qs (b+1) (Rat.divInt 1 (2^b)):=Qs.divInt (Zs.one (by omega)) (Zs.two (W0c _)) (Xhm b)
theorem Yb7{s b:Nat}{p:Rat×Rat}(h:Q2 s p)(h0:0<=p.2)(hs:1<=s): Q2 (s+3*b+4) (rts p b) :=
 ⟨(Xkm (Ycv h.1 hs) (Xgv _) b).mono (by omega),((Xkm h.2 h0 b).add (Xkc b)).mono (by omega)⟩
theorem Xu6{s s':Nat}{p q:Rat×Rat}(h:Q2 s p)(h':Q2 s' q): Q2 (s+s') (Xb7 p q):=by
 have key:∀y∈p.1*q.1::[p.1*q.2,p.2*q.1,p.2*q.2],Qs (s+s') y:=by
  intro y hy
  simp at hy
  rcases hy with rfl | rfl | rfl | rfl
  . exact h.1.mul h'.1
  . exact h.1.mul h'.2
  . exact h.2.mul h'.1
  . exact h.2.mul h'.2
 exact⟨Xve key,Xvj key⟩
theorem Xxz{s s':Nat}{p q:Rat×Rat}(h:Q2 s p)(h':Q2 s' q): Q2 (s+s'+1) (Xnq p q):=⟨h.1.add h'.1,h.2.add h'.2⟩
theorem Yim{s:Nat}{p:Rat×Rat}(h:Q2 s p)(b:Nat): Q2 (s+b+1) (rnd p b):=⟨Xwx h.1 b,Yhs h.2 b⟩
theorem Q2.mono{s s':Nat}{p:Rat×Rat}(h:Q2 s p)(hs:s<=s'): Q2 s' p:=⟨h.1.mono hs,h.2.mono hs⟩
theorem Xiq: ∀ {k:Nat} {t:Tw k} {a:El k} {s b:Nat},Xbv k t->TS s k t->Sz s (toL k a)->1<=s->Q2 (eB s b k) (enc k t a b)
 | 0,t,a,s,b,h,hT,ha,hs=>⟨ha.qs (W0g.2 rfl),ha.qs (W0g.2 rfl)⟩
 | k+1,t,a,s,b,h,hT,ha,hs=>by
  have hu:=Xiq (b:=b) h.1 hT.1 (Sz.left (l:=toL k a.1) (m:=toL k a.2) ha) hs
  have hv:=Xiq (b:=b) h.1 hT.1 (Sz.right (l:=toL k a.1) (m:=toL k a.2) ha) hs
  have hr:=Xiq (b:=b) h.1 hT.1 hT.2 hs
  have hge:=Xwr s b k
  show Q2 (3*eB s b k+4*b+6) (if (∀x∈toL k a.2,x=0) then enc k t.1 a.1 b else rnd (Xnq (enc k t.1 a.1 b) (Xb7 (enc k t.1 a.2 b) (rts (enc k t.1 t.2 b) b))) b)
  split
  . exact hu.mono (by omega)
  . exact(Yim (Xxz hu (Xu6 hv (Yb7 hr (Ydc h b) (by omega)))) b).mono (by omega)
theorem Xmb(a b:Nat): pw (a+b)=pw a*pw b:=by
 show ((2^(a+b):Int):Rat)=((2^a:Int):Rat)*((2^b:Int):Rat)
 rw[<-W3v,<-W7m]
theorem Xco(n:Nat): pw (n+1)=2*pw n:=by rw[Xmb,show pw 1=2 from rfl];grind
theorem Xgs(n:Nat): 1<=pw n:=by
 induction n with
 | zero=>exact W6t
 | succ n ih=>rw[Xco];grind
theorem Xh4{a b:Nat}(h:a<=b): pw a<=pw b:=by
 obtain⟨c,rfl⟩:=Nat.le.dest h
 rw[Xmb]
 have h1:=W3d (Xgs c) (W2k (Xay a))
 grind
theorem Xjo{x y:Rat}(h:0<=x)(k:0<=y): 0<=x*y:=Rat.mul_nonneg h k
theorem Ycw{a b c d:Rat}(h:a<=b)(k:c<=d)(hc:0<=c)(hb:0<=b): a*c<=b*d:=by
 have h1:=W2r h hc
 have h2:=W3d k hb
 grind
theorem Xk2{x y X Y:Rat}(h1:-X<=x)(h2:x<=X)(h3:-Y<=y)(h4:y<=Y): x*y<=X*Y:=by
 have a:=Xjo (show 0<=X-x by grind) (show 0<=Y+y by grind)
 have b:=Xjo (show 0<=X+x by grind) (show 0<=Y-y by grind)
 grind
theorem Xq4{x y:Rat}(hy:0<=y)(h:x*x<=y*y): x<=y:=by
 by_cases hxy:x<=y
 . exact hxy
 . have h1:y<x:=by grind
   have a:=W4q (show 0<x-y by grind) (show 0<x by grind)
   have b:=Xjo hy (show 0<=x-y by grind)
   grind
def Wid(p:Rat×Rat)(e:Nat): Prop:=p.1<=p.2/\(p.2-p.1)*pw e<=1
def Mg(p:Rat×Rat)(m:Nat): Prop:=-pw m<=p.1/\p.2<=pw m
theorem Wid.mono{p:Rat×Rat}{e f:Nat}(h:Wid p e)(hf:f<=e): Wid p f:=by
 refine⟨h.1,?_⟩
 have:=W3d (Xh4 hf) (show 0<=p.2-p.1 by have:=h.1;grind)
 have:=h.2
 grind
theorem Mg.mono{p:Rat×Rat}{m n:Nat}(h:Mg p m)(hn:m<=n): Mg p n:=by
 have:=Xh4 hn
 have h1:=h.1
 have h2:=h.2
 exact⟨by grind,by grind⟩
structure RtOf (r:Rat×Rat) (b:Nat) (s:Rat×Rat):Prop where
 lo:s.1=Xdl (mx0 r.1) b
 l:Xdl r.2 b<=s.2
 h:s.2<=Xdl r.2 b+Rat.divInt 1 (2^b)
theorem Xef(b:Nat): 0<Rat.divInt 1 (2^b):=by
 by_cases h:0<Rat.divInt 1 (2^b)
 . exact h
 . have h1:=W2r (show Rat.divInt 1 (2^b)<=0 by grind) (W2k (Xay b))
   rw[Xdm] at h1
   exact absurd h1 (by grind)
theorem Xta{b f:Nat}(h:f+1<=b): 2*(Rat.divInt 1 (2^b)*pw f)<=1:=by
 have h1:=W3d (Xh4 h) (W2k (Xef b))
 rw[Xdm,Xco] at h1
 grind
theorem Xkd(b:Nat): Rat.divInt 1 (2^b)<=1:=by
 have h1:=W3d (Xgs b) (W2k (Xef b))
 rw[Xdm] at h1
 grind
theorem Yi8(x:Rat): x<=mx0 x:=by unfold mx0;split<;>grind
theorem Xht{x y:Rat}{b:Nat}(hx:0<=x)(h:x<=y): Xdl x b<=Xdl y b:=by
 have hp:=Xay b
 refine W2a ?_ hp
 rw[Xez,Xez,W3n]
 have h1:sq2 x b<=sq2 y b:=W2r h (W2k (W4q hp hp))
 have h2:=Ycb (Xgp (b:=b) hx)
 have h3:=Xud (x:=sq2 y b) (W5n (Xgp (b:=b) hx) h1)
 by_cases h4:(rtF (sq2 x b):Int)<=rtF (sq2 y b)
 . exact h4
 . have h5:(rtF (sq2 y b):Int)+1<=rtF (sq2 x b):=by omega
   have h6:=W3n.2 h5
   rw[W5p,show ((1:Int):Rat)=1 from rfl] at h6
   have h7:(0:Rat)<=((rtF (sq2 y b):Int):Rat):=Rat.intCast_nonneg.2 (by omega)
   have h8:=Ycw h6 h6 (by grind) (by grind)
   grind
theorem RtOf.wd{r s:Rat×Rat}{b e f:Nat}(R:RtOf r b s)(hr:Wid r e)(h0:0<=r.2)(hf:2*f<=e)(hb:f+1<=b): s.1<=s.2/\(s.2-s.1)*pw f<=2:=by
 obtain⟨r1,r2⟩:=r
 obtain⟨c,d⟩:=s
 obtain⟨h1,h2,h3⟩:=R
 dsimp only at *
 have hA:=Xhs (b:=b) h0
 have hB:=Xtx (b:=b) (Xgv r1)
 have hB0:=Xc3 (mx0 r1) b
 have hm:=Yi8 r1
 have hu:=Xef b
 have hul:=Xta hb
 rw[<-h1] at hB hB0
 have hw:=(hr.mono hf).2
 have hpf:=Xay f
 rw[show 2*f=f+f by omega,Xmb] at hw
 dsimp only at hw
 generalize Rat.divInt 1 (2^b)=ε at *
 generalize hAe:Xdl r2 b=A at *
 have key:(A-(c+ε))*pw f<=1:=by
  by_cases hk:(A-(c+ε))*pw f<=1
  . exact hk
  . have hk:1<(A-(c+ε))*pw f:=by grind
    have hD:0<A-(c+ε):=by
     by_cases hD:0<A-(c+ε)
     . exact hD
     . have:=W2r (show A-(c+ε)<=0 by grind) (W2k hpf)
       grind
    have e1:=Xjo (W2k hD) (show 0<=2*(c+ε) by grind)
    have e2:(A-(c+ε))*(A-(c+ε))<=r2-r1:=by grind
    have e3:=W2r e2 (W2k (W4q hpf hpf))
    have e4:=Ycw (W2k hk) (W2k hk) (by decide) (by grind)
    have e5:=W4q (show 0<(A-(c+ε))*pw f-1 by grind) (show 0<(A-(c+ε))*pw f by grind)
    grind
 refine⟨?_,?_⟩
 . have hmono:mx0 r1<=r2:=by
    have:=hr.1
    unfold mx0
    dsimp only at this
    split
    . exact h0
    . exact this
   have:=Xht (b:=b) (Xgv r1) hmono
   rw[hAe,<-h1] at this
   grind
 . have:=W2r (show d-c<=(A-(c+ε))+2*ε by grind) (W2k hpf)
   grind
theorem RtOf.mg{r s:Rat×Rat}{b m:Nat}(R:RtOf r b s)(hr:Mg r m)(h0:0<=r.2): 0<=s.1/\s.2<=pw (m+1):=by
 have h1:=Xhs (b:=b) h0
 have h2:=Xc3 (mx0 r.1) b
 rw[<-R.lo] at h2
 refine⟨h2,?_⟩
 have h3:Xdl r.2 b<=pw m:=by
  refine Xq4 (W2k (Xay m)) (W5n h1 (W5n hr.2 ?_))
  have:=W3d (Xgs m) (W2k (Xay m))
  grind
 have h4:=R.h
 have h5:=Xkd b
 have h6:=Xgs m
 rw[Xco]
 grind
theorem Xu7(p q:Rat×Rat): (∃v s,(v=p.1\/v=p.2)/\(s=q.1\/s=q.2)/\(Xb7 p q).1=v*s)/\∃v s,(v=p.1\/v=p.2)/\(s=q.1\/s=q.2)/\(Xb7 p q).2=v*s:=by
 constructor
 . show ∃v s,(v=p.1\/v=p.2)/\(s=q.1\/s=q.2)/\lo2 (lo2 (lo2 (p.1*q.1) (p.1*q.2)) (p.2*q.1)) (p.2*q.2)=v*s
   rcases @Xvl (lo2 (lo2 (p.1*q.1) (p.1*q.2)) (p.2*q.1)) (p.2*q.2) with h | h<;>rw[h]
   . rcases @Xvl (lo2 (p.1*q.1) (p.1*q.2)) (p.2*q.1) with h | h<;>rw[h]
     . rcases @Xvl (p.1*q.1) (p.1*q.2) with h | h<;>rw[h]
       . exact⟨_,_,.inl rfl,.inl rfl,rfl⟩
       . exact⟨_,_,.inl rfl,.inr rfl,rfl⟩
     . exact⟨_,_,.inr rfl,.inl rfl,rfl⟩
   . exact⟨_,_,.inr rfl,.inr rfl,rfl⟩
 . show ∃v s,(v=p.1\/v=p.2)/\(s=q.1\/s=q.2)/\hi2 (hi2 (hi2 (p.1*q.1) (p.1*q.2)) (p.2*q.1)) (p.2*q.2)=v*s
   rcases @Xwa (hi2 (hi2 (p.1*q.1) (p.1*q.2)) (p.2*q.1)) (p.2*q.2) with h | h<;>rw[h]
   . rcases @Xwa (hi2 (p.1*q.1) (p.1*q.2)) (p.2*q.1) with h | h<;>rw[h]
     . rcases @Xwa (p.1*q.1) (p.1*q.2) with h | h<;>rw[h]
       . exact⟨_,_,.inl rfl,.inl rfl,rfl⟩
       . exact⟨_,_,.inl rfl,.inr rfl,rfl⟩
     . exact⟨_,_,.inr rfl,.inl rfl,rfl⟩
   . exact⟨_,_,.inr rfl,.inr rfl,rfl⟩
theorem Xpo{u v r s:Rat×Rat}{b b' e f m:Nat}(hu:Wid u f)(hv:Wid v f)(hr:Wid r e)(hf:2*f<=e)(mv:Mg v m)(ms:0<=s.1/\s.2<=pw (m+1))(h0:0<=r.2)(R:RtOf r b s)(hb:f+1<=b)(hb':b<=b')(he:m+3<=f):
 Wid (rnd (Xnq u (Xb7 v s)) b') (f-(m+3)):=by
 have hs:=R.wd hr h0 (f:=f) hf hb
 have wu:=hu.2
 have wv:=hv.2
 have hu1:=hu.1
 have hv1:=hv.1
 have hs1:=hs.1
 have hs2:=hs.2
 have hpf:=Xay f
 have hpm:=Xay m
 obtain⟨⟨v1,s1,hv1',hs1',e1⟩,v2,s2,hv2',hs2',e2⟩:=Xu7 v s
 have hle:=(Xic v s).1
 have hge:=(Xid v s).1
 have hP:(Xb7 v s).2-(Xb7 v s).1<=pw m*(s.2-s.1)+pw (m+1)*(v.2-v.1):=by
  rw[e1,e2]
  have a1:-pw m<=v2/\v2<=pw m:=by
   have:=mv.1;have:=mv.2
   rcases hv2' with rfl | rfl<;>exact⟨by grind,by grind⟩
  have a2:-(s.2-s.1)<=s2-s1/\s2-s1<=s.2-s.1:=by
   rcases hs1' with rfl | rfl<;>rcases hs2' with rfl | rfl<;>exact⟨by grind,by grind⟩
  have a3:-pw (m+1)<=s1/\s1<=pw (m+1):=by
   have:=ms.1;have:=ms.2;have:=Xay (m+1)
   rcases hs1' with rfl | rfl<;>exact⟨by grind,by grind⟩
  have a4:-(v.2-v.1)<=v2-v1/\v2-v1<=v.2-v.1:=by
   rcases hv1' with rfl | rfl<;>rcases hv2' with rfl | rfl<;>exact⟨by grind,by grind⟩
  have b1:=Xk2 a1.1 a1.2 a2.1 a2.2
  have b2:=Xk2 a3.1 a3.2 a4.1 a4.2
  grind
 have hPf:((Xb7 v s).2-(Xb7 v s).1)*pw f<=pw (m+2):=by
  have c1:=W2r hP (W2k hpf)
  have c2:=W3d hs2 (W2k hpm)
  have c3:=W3d wv (W2k (Xay (m+1)))
  rw[Xco,Xco] at *
  grind
 have d1:=Xwy (u.1+(Xb7 v s).1) b'
 have d2:=Ybr (u.2+(Xb7 v s).2) b'
 have d3:=Xrm (u.1+(Xb7 v s).1) b'
 have d4:=Xs9 (u.2+(Xb7 v s).2) b'
 have hε:=Xta (b:=b') (f:=f) (by omega)
 have hεp:=Xef b'
 have hεe:=Xdm b'
 have d5:u.1+(Xb7 v s).1-Rat.divInt 1 (2^b')<=dnQ (u.1+(Xb7 v s).1) b':=by
  refine W2a ?_ (Xay b')
  grind
 have d6:upQ (u.2+(Xb7 v s).2) b'<=u.2+(Xb7 v s).2+Rat.divInt 1 (2^b'):=by
  refine W2a ?_ (Xay b')
  grind
 refine⟨?_,?_⟩
 . show dnQ (u.1+(Xb7 v s).1) b'<=upQ (u.2+(Xb7 v s).2) b'
   grind
 . show (upQ (u.2+(Xb7 v s).2) b'-dnQ (u.1+(Xb7 v s).1) b')*pw (f-(m+3))<=1
   refine W2a ?_ (Xay (m+3))
   rw[Rat.mul_assoc,<-Xmb,show f-(m+3)+(m+3)=f by omega,Rat.one_mul]
   have g1:=W2r (show upQ (u.2+(Xb7 v s).2) b'-dnQ (u.1+(Xb7 v s).1) b'<=(u.2-u.1)+((Xb7 v s).2-(Xb7 v s).1)+2*Rat.divInt 1 (2^b') by grind) (W2k hpf)
   have g2:=Xgs (m+1)
   rw[Xco (m+1)] at hPf
   rw[Xco (m+2),Xco (m+1)]
   grind
theorem Yd1{u v r s:Rat×Rat}{b b' e m:Nat}(hu:Wid u e)(hv:Wid v e)(hr:Wid r e)(mv:Mg v m)(mr:Mg r m)(h0:0<=r.2)(R:RtOf r b s)(hb:e/2+1<=b)(hb':b<=b')(he:m+3<=e/2):
 Wid (rnd (Xnq u (Xb7 v s)) b') (e/2-(m+3)):=Xpo (hu.mono (by omega)) (hv.mono (by omega)) hr (by omega) mv (R.mg mr h0) h0 R hb hb' he
theorem Xpp{u v s:Rat×Rat}{b' m j:Nat}(mu:Mg u m)(mv:Mg v m)(ms:0<=s.1/\s.2<=pw (j+1))(hs1:s.1<=s.2)(hv1:v.1<=v.2): Mg (rnd (Xnq u (Xb7 v s)) b') (m+j+2):=by
 obtain⟨⟨v1,s1,hv1',hs1',e1⟩,v2,s2,hv2',hs2',e2⟩:=Xu7 v s
 have key:∀x y,(x=v.1\/x=v.2)->(y=s.1\/y=s.2)->-(pw m*pw (j+1))<=x*y/\x*y<=pw m*pw (j+1):=by
  intro x y hx hy
  have a1:-pw m<=x/\x<=pw m:=by
   have:=mv.1;have:=mv.2
   rcases hx with rfl | rfl<;>exact⟨by grind,by grind⟩
  have a3:-pw (j+1)<=y/\y<=pw (j+1):=by
   have:=ms.1;have:=ms.2;have:=Xay (j+1)
   rcases hy with rfl | rfl<;>exact⟨by grind,by grind⟩
  have b1:=Xk2 a1.1 a1.2 a3.1 a3.2
  have b2:=Xk2 (x:=-x) (show -pw m<=-x by grind) (show -x<=pw m by grind) a3.1 a3.2
  exact⟨by grind,b1⟩
 have k1:=(key _ _ hv1' hs1').1
 have k2:=(key _ _ hv2' hs2').2
 rw[<-e1] at k1
 rw[<-e2] at k2
 have hεe:=Xdm b'
 have hε1:=Xkd b'
 have d1:=Xwy (u.1+(Xb7 v s).1) b'
 have d2:=Ybr (u.2+(Xb7 v s).2) b'
 have d5:u.1+(Xb7 v s).1-Rat.divInt 1 (2^b')<=dnQ (u.1+(Xb7 v s).1) b':=by
  refine W2a ?_ (Xay b')
  grind
 have d6:upQ (u.2+(Xb7 v s).2) b'<=u.2+(Xb7 v s).2+Rat.divInt 1 (2^b'):=by
  refine W2a ?_ (Xay b')
  grind
 have e3:pw (m+j+2)=2*(pw m*pw (j+1)):=by rw[<-Xmb,<-Xco];congr 1
 have e4:pw m+1<=pw m*pw (j+1):=by
  have h1:=Xgs m
  have h3:=Xgs j
  have h2:=W3d (show 2<=pw (j+1) by rw[Xco];grind) (W2k (Xay m))
  grind
 have m1:=mu.1
 have m2:=mu.2
 refine⟨?_,?_⟩
 . show -pw (m+j+2)<=dnQ (u.1+(Xb7 v s).1) b'
   rw[e3];grind
 . show upQ (u.2+(Xb7 v s).2) b'<=pw (m+j+2)
   rw[e3];grind
theorem Yd3{u v r s:Rat×Rat}{b b' m:Nat}(mu:Mg u m)(mv:Mg v m)(mr:Mg r m)(h0:0<=r.2)(hs1:s.1<=s.2)(hv1:v.1<=v.2)(R:RtOf r b s): Mg (rnd (Xnq u (Xb7 v s)) b') (2*m+2):=by
 rw[show 2*m+2=m+m+2 by omega];exact Xpp mu mv (R.mg mr h0) hs1 hv1
def mW(m:Nat): Nat->Nat
 | 0=>m
 | k+1=>2*mW m k+2
def eW(m b:Nat): Nat->Nat
 | 0=>2*b-2
 | k+1=>eW m b k/2-(mW m k+3)
theorem Ykg(m b:Nat): ∀k,eW m b k<=2*b-2
 | 0=>W0c _
 | k+1=>by have:=Ykg m b k;show eW m b k/2-(mW m k+3)<=_;omega
theorem Ye9{m:Nat}{x:Rat}(h:Qs m x): Mg (x,x) m:=by
 have h1:=h.n
 unfold Zs at h1
 have e:=Xk1 x
 have hd:(1:Rat)<=(x.den:Rat):=by
  have:((1:Int):Rat)<=((x.den:Int):Rat):=W3n.2 (by have:=x.den_pos;omega)
  exact this
 have h2:((x.num:Int):Rat) <= pw m := W3n.2 (by have:(x.num.natAbs:Int) < ((2^m:Nat):Int) := by exact_mod_cast h1
                                                have e2:((2^m:Nat):Int)=2^m:=by simp
                                                omega)
 have h3:-pw m<=((x.num:Int):Rat):=by
  have h4:((-(2^m):Int):Rat) <= ((x.num:Int):Rat) := W3n.2 (by have:(x.num.natAbs:Int) < ((2^m:Nat):Int) := by exact_mod_cast h1
                                                               have e2:((2^m:Nat):Int)=2^m:=by simp
                                                               omega)
  rwa[Rat.intCast_neg] at h4
 have hp:=Xay m
 refine⟨?_,?_⟩
 . show -pw m<=x
   by_cases h0:0<=x
   . grind
   . have:=Xjo (show 0<=-x by grind) (show 0<=(x.den:Rat)-1 by grind)
     grind
 . show x<=pw m
   by_cases h0:0<=x
   . have:=Xjo h0 (show 0<=(x.den:Rat)-1 by grind)
     grind
   . grind
def MgL(m:Nat)(l:List Rat): Prop:=∀x∈l,Qs m x
def MgT(m:Nat): (k:Nat)->Tw k->Prop
 | 0,_=>True
 | k+1,t=>MgT m k t.1/\MgL m (toL k t.2)
theorem Yb8(r:Rat×Rat)(b:Nat): RtOf r b (rts r b):=⟨rfl,by have:=Xef b;show _<=Xdl r.2 b+_;grind,W6t⟩
theorem Xwq{k:Nat}{t:Tw k}(h:Xbv k t)(a:El k)(b:Nat): (enc k t a b).1<=(enc k t a b).2:=Yc1 h (Xfz h a b)
theorem Xjx: ∀ {k:Nat} {t:Tw k} {a:El k} {m:Nat} (b:Nat),Xbv k t->MgT m k t->MgL m (toL k a)->Mg (enc k t a b) (mW m k)
 | 0,t,a,m,b,h,hT,ha=>Ye9 (ha _ (W0g.2 rfl))
 | k+1,t,a,m,b,h,hT,ha=>by
  have hu:=Xjx (a:=a.1) b h.1 hT.1 λx hx=>ha x (W2q _ hx)
  have hv:=Xjx (a:=a.2) b h.1 hT.1 λx hx=>ha x (W1r _ hx)
  have hr:=Xjx b h.1 hT.1 hT.2
  have h0:0<=(enc k t.1 t.2 b).2:=by
   have h0:le k t.1 (rat k 0) t.2:=(Xia h.1).2 (by rw[h.2];decide)
   exact(Xbe h.1).1 (le_tr h.1 h0 (Xfz h.1 t.2 b).2)
  show Mg (if (∀x∈toL k a.2,x=0) then enc k t.1 a.1 b else rnd (Xnq (enc k t.1 a.1 b) (Xb7 (enc k t.1 a.2 b) (rts (enc k t.1 t.2 b) b))) b) (2*mW m k+2)
  split
  . exact hu.mono (by omega)
  . refine Yd3 hu hv hr h0 ?_ (Xwq h.1 _ _) (Yb8 _ b)
    have hle:=Xwq h.1 t.2 b
    have hm:mx0 (enc k t.1 t.2 b).1<=(enc k t.1 t.2 b).2:=by unfold mx0;split<;>assumption
    have:=Xht (b:=b) (Xgv _) hm
    have:=Xef b
    show Xdl (mx0 (enc k t.1 t.2 b).1) b<=Xdl (enc k t.1 t.2 b).2 b+Rat.divInt 1 (2^b)
    grind
theorem Xrh: ∀ {k:Nat} {t:Tw k} {a:El k} {m b:Nat},Xbv k t->MgT m k t->MgL m (toL k a)->0<eW m b k->Wid (enc k t a b) (eW m b k)
 | 0,t,a,m,b,h,hT,ha,he=>⟨W6t,(λ(x:Rat)=>(by grind:(x-x)*pw (eW m b 0)<=1)) a⟩
 | k+1,t,a,m,b,h,hT,ha,he=>by
  have he':0<eW m b k/2-(mW m k+3):=he
  have hle:=Ykg m b k
  have hu:=Xrh (a:=a.1) (m:=m) (b:=b) h.1 hT.1 (λx hx=>ha x (W2q _ hx)) (by omega)
  have hv:=Xrh (a:=a.2) (m:=m) (b:=b) h.1 hT.1 (λx hx=>ha x (W1r _ hx)) (by omega)
  have hr:=Xrh (m:=m) (b:=b) h.1 hT.1 hT.2 (by omega)
  have mv:=Xjx (a:=a.2) b h.1 hT.1 λx hx=>ha x (W1r _ hx)
  have mr:=Xjx b h.1 hT.1 hT.2
  have h0:0<=(enc k t.1 t.2 b).2:=by
   have h0:le k t.1 (rat k 0) t.2:=(Xia h.1).2 (by rw[h.2];decide)
   exact(Xbe h.1).1 (le_tr h.1 h0 (Xfz h.1 t.2 b).2)
  show Wid (if (∀x∈toL k a.2,x=0) then enc k t.1 a.1 b else rnd (Xnq (enc k t.1 a.1 b) (Xb7 (enc k t.1 a.2 b) (rts (enc k t.1 t.2 b) b))) b) (eW m b k/2-(mW m k+3))
  split
  . exact hu.mono (by omega)
  . exact Yd1 hu hv hr mv mr h0 (Yb8 _ b) (by omega) (W0c _) (by omega)
end
section
theorem Xot{s b b':Nat}(h:b<=b'): ∀k,eB s b k<=eB s b' k
 | 0=>W0c _
 | k+1=>by have:=Xot (s:=s) h k;show 3*eB s b k+4*b+6<=3*eB s b' k+4*b'+6;omega
theorem Ymj{x y:Rat}{b:Nat}: Xnp (y-x) (Rat.divInt 1 (2^b))<=0↔(y-x)*pw b<=1:=by
 rw[Ygd]
 have h:=Xdm b
 constructor
 . intro h1
   have:=W2r (show y-x<=Rat.divInt 1 (2^b) by grind) (W2k (Xay b))
   rwa[h] at this
 . intro h1 h2
   have:=W4q (show 0<y-x-Rat.divInt 1 (2^b) by grind) (Xay b)
   grind
def Xcj(k:Nat)(t:Tw k)(a:El k)(z:Int): Prop:=le k t (rat k (z:Rat)) a/\sgn k t (add k a (neg k (rat k ((z+1:Int):Rat))))=-1
theorem Ycx{k:Nat}{t:Tw k}(h:Xbv k t){a b:El k}: sgn k t (add k a (neg k b))=-1↔¬le k t b a:=by
 unfold le
 have:=(Xav h).tri (add k a (neg k b))
 omega
theorem Xcj.uniq{k:Nat}{t:Tw k}{a:El k}{z z':Int}(h:Xbv k t)(i:Xcj k t a z)(j:Xcj k t a z'): z=z':=by
 have key:∀z z',Xcj k t a z->Xcj k t a z'->z<=z':=by
  intro z z' i j
  by_cases hz:z<=z'
  . exact hz
  . exact absurd (le_tr h ((Xbe h).2 (W3n.2 (show z'+1<=z by omega))) i.1) ((Ycx h).1 j.2)
 have:=key _ _ i j
 have:=key _ _ j i
 omega
theorem Xz7{k:Nat}{t:Tw k}{a:El k}{x y:Rat}(h:Xbv k t)(i:inI k t a x y)(hw:Wid (x,y) 1): (sgn k t (add k a (neg k (rat k (y.floor:Rat))))<0->Xcj k t a (y.floor-1))/\(¬sgn k t (add k a (neg k (rat k (y.floor:Rat))))<0->Xcj k t a y.floor):=by
 have h1:=@Rat.floor_le y
 have h2:=@Rat.lt_floor y
 have h3:(y-x)*2<=1:=hw.2
 have e1:((1:Int):Rat)=1:=rfl
 have hup:sgn k t (add k a (neg k (rat k ((y.floor+1:Int):Rat))))=-1:=by
  rw[Ycx h]
  intro hl
  have:=(Xbe h).1 (le_tr h hl i.2)
  rw[W5p,e1] at this
  grind
 refine⟨λhn=>⟨le_tr h ((Xbe h).2 ?_) i.1,?_⟩,λhn=>⟨?_,hup⟩⟩
 . rw[Rat.intCast_sub,e1]
   grind
 . rw[show y.floor-1+1=y.floor by omega]
   have:=(Xav h).tri (add k a (neg k (rat k (y.floor:Rat))))
   omega
 . show 0<=_
   omega
noncomputable def rtb(p:Rat×Rat)(b:Nat): Rat×Rat:=(Xdl (mx0 p.1) b,Xty p.2 b)
noncomputable def bx: (k:Nat)->Tw k->El k->Nat->Rat×Rat
 | 0=>λ_ (x:Rat) _=>(x,x)
 | k+1=>λt a b=>rnd (Xnq (bx k t.1 a.1 b) (Xb7 (bx k t.1 a.2 b) (rtb (bx k t.1 t.2 b) b))) (b+20)
theorem Xnv(x:Rat)(b:Nat): Xty x b*pw b=((Xtv (sq2 x b):Int):Rat):=by
 unfold Xty
 rw[W3b]
 have h:=Xay b
 show ((Xtv (sq2 x b):Int):Rat)/pw b*pw b=_
 rw[W5m (by grind)]
theorem Yd5(x:Rat): (Xtv x=rtF x/\x<=((rtF x:Int):Rat)*((rtF x:Int):Rat))\/Xtv x=rtF x+1:=by
 unfold Xtv
 split
 . exact .inr rfl
 . rename_i h
   rw[W3v] at h
   exact .inl ⟨rfl,by grind⟩
theorem Xlv(x:Rat): ((rtF x:Int):Rat)<=((Xtv x:Int):Rat)/\((Xtv x:Int):Rat)<=((rtF x:Int):Rat)+1/\(0<=x->x<=((Xtv x:Int):Rat)*((Xtv x:Int):Rat)):=by
 have e1:((1:Int):Rat)=1:=rfl
 rcases Yd5 x with ⟨h,h2⟩ | h
 . rw[h];exact⟨W6t,by grind,λ_=>h2⟩
 . have e:((Xtv x:Int):Rat)=((rtF x:Int):Rat)+1:=by
    rw[h,<-e1,<-W5p];congr 1
   rw[e]
   exact⟨by grind,W6t,λh0=>W2k (Xud h0)⟩
theorem Xp8(r:Rat×Rat)(b:Nat): RtOf r b (rtb r b):=by
 have h:=Xlv (sq2 r.2 b)
 have hp:=Xay b
 refine⟨rfl,?_,?_⟩
 . refine W2a ?_ hp
   rw[Xez]
   show _<=Xty r.2 b*pw b
   rw[Xnv];exact h.1
 . refine W2a ?_ hp
   show Xty r.2 b*pw b<=_
   have e:=Xez r.2 b
   have e2:=Xdm b
   have e3:=Xnv r.2 b
   have h2:=h.2.1
   grind
theorem Xyx{x:Rat}{b:Nat}(h:0<=x): x<=Xty x b*Xty x b:=by
 have hp:=Xay b
 have hpp:=W4q hp hp
 refine W2a ?_ hpp
 have h1:=(Xlv (sq2 x b)).2.2 (Xgp h)
 rw[<-Xnv] at h1
 have h3:sq2 x b=x*(pw b*pw b):=rfl
 rw[<-h3]
 have h4:Xty x b*Xty x b*(pw b*pw b)=Xty x b*pw b*(Xty x b*pw b):=by grind
 rw[h4];exact h1
theorem Ynd{x:Rat}{b:Nat}: Xdl (mx0 x) b*Xdl (mx0 x) b<=x\/Xdl (mx0 x) b=0:=by
 have h1:=Xhs (b:=b) (Xgv x)
 by_cases h0:x<0
 . right
   have e:mx0 x=0:=if_pos h0
   rw[e] at h1 |-
   have h2:=Xc3 0 b
   by_cases h3:Xdl 0 b=0
   . exact h3
   . have:=W4q (show 0<Xdl 0 b by grind) (show 0<Xdl 0 b by grind)
     grind
 . left
   have e:mx0 x=x:=if_neg h0
   rw[e] at h1 |-
   exact h1
theorem Xl1{k:Nat}{t:Tw (k+1)}(h:Xbv (k+1) t){x y:Rat}(i:inI k t.1 t.2 x y): 0<=y:=by
 have h0:le k t.1 (rat k 0) t.2:=(Xia h.1).2 (by rw[h.2];decide)
 exact(Xbe h.1).1 (le_tr h.1 h0 i.2)
theorem Yd4{k:Nat}{t:Tw (k+1)}(h:Xbv (k+1) t){a:El (k+1)}{u v r s:Rat×Rat}{b b':Nat}(iu:inI k t.1 a.1 u.1 u.2)(iv:inI k t.1 a.2 v.1 v.2)(ir:inI k t.1 t.2 r.1 r.2)(R:RtOf r b s)(hs:r.2<=s.2*s.2):
 inI (k+1) t a (rnd (Xnq u (Xb7 v s)) b').1 (rnd (Xnq u (Xb7 v s)) b').2:=by
 have iu:=Xmq (t:=t) h.1 iu
 have iv:=Xmq (t:=t) h.1 iv
 have hr2:=Xl1 h ir
 have h0:0<=s.1:=by rw[R.lo];exact Xc3 _ _
 have h2:0<=s.2:=W5n (Xc3 _ _) R.l
 have is:=Xvz h ir (c:=s.1) (d:=s.2) h0 h2 (by rw[R.lo];exact Ynd) hs
 have im:=Xv0 h iv is h0 (Xic v s).1 (Xic v s).2.1 (Xid v s).2.2.1 (Xid v s).2.2.2
 have ia:=Xv1 h iu im
 rw[<-Xrj a] at ia
 exact Xk6 h ia (Xrm _ _) (Xs9 _ _)
theorem Xoy{k:Nat}{t:Tw (k+1)}{a:El (k+1)}{b:Nat}: bx (k+1) t a b=rnd (Xnq (bx k t.1 a.1 b) (Xb7 (bx k t.1 a.2 b) (rtb (bx k t.1 t.2 b) b))) (b+20):=rfl
theorem Xoz: ∀ {k:Nat} {t:Tw k} (h:Xbv k t) (a:El k) (b:Nat),inI k t a (bx k t a b).1 (bx k t a b).2
 | 0,t,h,a,b=>⟨(Xav h).le_rf (Xbc 0 t) a,(Xav h).le_rf (Xbc 0 t) a⟩
 | k+1,t,h,a,b=>by
  have hu:=Xoz h.1 a.1 b
  have hv:=Xoz h.1 a.2 b
  have hr:=Xoz h.1 t.2 b
  have hs:(bx k t.1 t.2 b).2<=(rtb (bx k t.1 t.2 b) b).2*(rtb (bx k t.1 t.2 b) b).2:=Xyx (Xl1 h hr)
  have R:=Xp8 (bx k t.1 t.2 b) b
  rw[Xoy]
  generalize rtb (bx k t.1 t.2 b) b=s at *
  exact Yd4 h hu hv hr R hs
theorem Yk0{k:Nat}{t:Tw k}(h:Xbv k t)(a:El k)(b:Nat): (bx k t a b).1<=(bx k t a b).2:=Yc1 h (Xoz h a b)
theorem Yig{r:Rat×Rat}{b:Nat}(h0:0<=r.2)(h:r.1<=r.2): (rtb r b).1<=(rtb r b).2:=by
 have hm:mx0 r.1<=r.2:=by unfold mx0;split<;>assumption
 exact W5n (Xht (b:=b) (Xgv _) hm) (Xp8 r b).l
def bB(s b:Nat): Nat->Nat
 | 0=>s
 | k+1=>3*bB s b k+3*b+30
end
section
abbrev dI(p:Rat×Rat): D:=.st (.pr (dq p.1) (dq p.2))
theorem Yj5{a b a' b':D}{g:Hp}{K:Hpl}(h1:a=a')(h2:b=b'): Fit g K (.d (.st (.pr a b))) (.d (.st (.pr a' b'))):=.eq (by rw[h1,h2])
abbrev zq: AV:=.st (.pr (.st (.pr (.b false) .nil)) (.st (.pr (.b false) .nil)))
abbrev zI: AV:=.st (.pr zq zq)
theorem Xv9{x:Rat}{r:List Rat}{s:Nat}(hx:∀y∈x::r,Qs s y)(hs:s+3<=4398046511104)(hn:r.length<=1000): C0 427 [.d (dqs (x::r))] (·=.d (dI (Xye x r,Xyf x r))):=by
 refine En Tryz.func427 λ_ _ _=>?_
 refine Dz rfl ?_
 refine Ix 0 rfl (u:=dq x) rfl ?_
 refine Ix 0 rfl (u:=dq x) rfl ?_
 refine Dp 1 (r.map dq) rfl rfl (by simp) rfl ?_
 refine Lo (λ(q:Nat×Rat×Rat)=>[(2,.ptr 2 0),(3,.ptr 3 0),(4,.ptr 4 0),(15,.d (dqs r)),(16,.d (.int .i64 (r.map dq).length)),(17,.d (.int .i64 q.1))]) (λq=>[(2,.var zI),(3,.var (.d (dq q.2.1))),(4,.var (.d (dq q.2.2)))]) (λq=>q.1<=r.length/\q.2.1=Xye x (r.take q.1)/\q.2.2=Xyf x (r.take q.1)) (λq=>r.length-q.1) (0,x,x) [] rfl ⟨W0x _,rfl,rfl⟩ (λ(k,lo,hi) ⟨hk,hlo,hhi⟩=>?_)
 simp only at hk hlo hhi
 have qlo:Qs s lo:=hlo ▸ Xve (Xun hx k)
 have qhi:Qs s hi:=hhi ▸ Xvj (Xun hx k)
 refine By rfl (λh=>?_) λh=>?_
 . have h:(k:Int)<((r.map dq).length:Nat):=h
   rw[lq] at h
   obtain⟨y,hy⟩:=qat (l:=r) (k:=k) (by omega)
   have qy:Qs s y:=hx y (W1e _ (W0h hy))
   have e:r.take (k+1)=r.take k++[y]:=by rw[W1c,hy];rfl
   have e1:Xye x (r.take (k+1))=lo2 lo y:=by rw[e,Xvd,hlo]
   have e2:Xyf x (r.take (k+1))=hi2 hi y:=by rw[e,Xvi,hhi]
   have fin:∀lo' hi',lo'=lo2 lo y->hi'=hi2 hi y->k+1<=r.length/\lo'=Xye x (r.take (k+1))/\hi'=Xyf x (r.take (k+1)):=λlo' hi' a b=>⟨by omega,by rw[a,e1],by rw[b,e2]⟩
   refine Ix k rfl (mp hy) ?_
   refine Ce rfl (Xh3 qy qlo (by omega)) ?_
   refine By rfl (λh1=>?_) λh1=>?_
   . refine Ce rfl (Xh3 qy qhi (by omega)) ?_
     refine By rfl (λh2=>?_) λh2=>?_
     . refine Ar (k+1:Nat) rfl ?_ (wr (show (k:Int)+1=((k+1:Nat):Int) by omega) (by simp only[inK];omega))
       exact Bk (k+1,y,y) [] rfl (fin y y (if_pos (Ygc.1 h1)).symm (if_pos (Yge.1 h2)).symm) (by show r.length-(k+1)<r.length-k;omega)
     . refine Ar (k+1:Nat) rfl ?_ (wr (show (k:Int)+1=((k+1:Nat):Int) by omega) (by simp only[inK];omega))
       exact Bk (k+1,y,hi) [] rfl (fin y hi (if_pos (Ygc.1 h1)).symm (if_neg λh=>h2 (Yge.2 h)).symm) (by show r.length-(k+1)<r.length-k;omega)
   . refine Ce rfl (Xh3 qy qhi (by omega)) ?_
     refine By rfl (λh2=>?_) λh2=>?_
     . refine Ar (k+1:Nat) rfl ?_ (wr (show (k:Int)+1=((k+1:Nat):Int) by omega) (by simp only[inK];omega))
       exact Bk (k+1,lo,y) [] rfl (fin lo y (if_neg λh=>h1 (Ygc.2 h)).symm (if_pos (Yge.1 h2)).symm) (by show r.length-(k+1)<r.length-k;omega)
     . refine Ar (k+1:Nat) rfl ?_ (wr (show (k:Int)+1=((k+1:Nat):Int) by omega) (by simp only[inK];omega))
       exact Bk (k+1,lo,hi) [] rfl (fin lo hi (if_neg λh=>h1 (Ygc.2 h)).symm (if_neg λh=>h2 (Yge.2 h)).symm) (by show r.length-(k+1)<r.length-k;omega)
 . have h:¬(k:Int)<((r.map dq).length:Nat):=h
   rw[lq] at h
   rw[W0b (by omega)] at hlo hhi
   refine Ce rfl (Xa3 (z:=0) (by decide)) ?_
   refine Dw rfl ?_
   refine Ce rfl (Xdq (y:=0) qlo qs0 (by omega)) ?_
   refine Ce rfl (Xdq (y:=0) qhi qs0 (by omega)) ?_
   exact R1 rfl (Yj5 (by rw[W7w,hlo]) (by rw[W7w,hhi]))
section
variable{p q:Rat×Rat}{s t:Nat}
theorem Xv7{x:Rat}(hx:Qs s x)(hs:s+3<=4398046511104): C0 404 [.d (dq x)] (·=.d (dI (x,x))):=by
 have e1:Xye x [x]=x:=by show lo2 x x=x;unfold lo2;split<;>rfl
 have e2:Xyf x [x]=x:=by show hi2 x x=x;unfold hi2;split<;>rfl
 have:=Xv9 (x:=x) (r:=[x]) (s:=s) (λy hy=>by simp at hy;rw[hy];exact hx) hs (by simp)
 rw[e1,e2] at this
 refine En Tryz.func404 λ_ _ _=>?_
 refine Ce rfl this ?_
 exact R1 rfl (.rf rfl)
theorem Xv4(hp:Q2 s p)(hs:2*s+1<=4398046511104): C0 365 [.d (dI p)] (·=.d (dq (p.2-p.1))):=by
 refine En Tryz.func365 λ_ _ _=>?_
 refine Ce rfl (Xuo hp.2 hp.1 (by omega)) ?_
 exact R1 rfl (.rf rfl)
theorem Yfm(hp:Q2 s p)(hq:Q2 t q)(hs:s+t+1<=4398046511104): C0 406 [.d (dI p),.d (dI q)] (·=.d (dI (Xnq p q))):=by
 refine En Tryz.func406 λ_ _ _=>?_
 refine Dw rfl ?_
 refine Ce rfl (Xdq hp.1 hq.1 (by omega)) ?_
 refine Ce rfl (Xdq hp.2 hq.2 (by omega)) ?_
 exact R1 rfl (Yj5 rfl rfl)
theorem Yfl(hp:Q2 s p)(hq:Q2 t q)(hs:s+t+3<=4398046511104): C0 407 [.d (dI p),.d (dI q)] (·=.d (dI (Xb7 p q))):=by
 have hh:=Xv9 (x:=p.1*q.1) (r:=[p.1*q.2,p.2*q.1,p.2*q.2]) (s:=s+t) (λy hy=>by
  simp only[W1i,W7p,or_false] at hy
  rcases hy with rfl | rfl | rfl | rfl
  . exact hp.1.mul hq.1
  . exact hp.1.mul hq.2
  . exact hp.2.mul hq.1
  . exact hp.2.mul hq.2) hs (by simp)
 refine En Tryz.func407 λ_ _ _=>?_
 refine Dw rfl ?_
 refine Ce rfl (Xh2 hp.1 hq.1 (by omega)) ?_
 refine Ce rfl (Xh2 hp.1 hq.2 (by omega)) ?_
 refine Ce rfl (Xh2 hp.2 hq.1 (by omega)) ?_
 refine Ce rfl (Xh2 hp.2 hq.2 (by omega)) ?_
 refine Ce rfl hh ?_
 exact R1 rfl (.rf rfl)
end
theorem Ynt{n m r:Nat}(hr:n/m=r)(hm:0<m)(hn:n<9223372036854775808): arB .quo .i64 n m r:=show _/\_ from⟨by omega,by
 rw[show Int.tdiv (n:Int) (m:Int)=((n/m:Nat):Int) from rfl,hr]
 have:=W4h n m
 exact wI (by omega)⟩
theorem Xdf{n:Nat}(hn:n<=8796093022200): C0 363 [.d (.int .i64 n)] (·=.d (dz (2^n:Int))):=by
 have e:(2^n:Int)=((2^n:Nat):Int):=by simp
 refine En Tryz.func363 λ_ _ _=>?_
 refine Ar (n/32:Nat) rfl ?_ (Ynt (m:=32) rfl (by decide) (by omega))
 refine Ar (n/32+1:Nat) rfl ?_
 refine Mk (n/32+1) rfl (by omega) ?_
 refine Ar (n/32:Nat) rfl ?_ (Ynt (m:=32) rfl (by decide) (by omega))
 refine Ar (n%32:Nat) rfl ?_ (show _/\_ from⟨by decide,Xte n 32⟩)
 refine Ar (2^(n%32):Nat) rfl ?_ (Xg3 (W2d _ (by decide)))
 refine Eo (n/32) rfl (by omega) ?_
 refine Sto rfl (by simp) rfl ?_
 refine R1 rfl (.sd (.pd (.bd (by rw[e];exact(decide_eq_false (by have:=W6g (n:=2) (m:=n) (by decide);omega)).symm)) (.own rfl (by simp) ?_)))
 rw[e,W1l,Xou,W1a,W0b (by simp),<-ms,W2g]
 rfl
theorem Xb2(x:Rat): (x.den:Int)≠0:=by have:=x.den_nz;omega
section
variable{x:Rat}{s b:Nat}
theorem Xwv(hx:Qs s x)(hb:b<=1099511627776)(hs:s<=1099511627776): C0 428 [.d (dq x),.d (.int .i64 b)] (·=.d (dq (dnQ x b))):=by
 have hp:=hx.mul (Xze b)
 have h2:Zs (b+1) (2^b:Int):=Zs.two (W0c _)
 have hn2:=(hx.n.mul h2).len (by omega)
 have l1:=hx.n.len (by omega)
 have l2:=h2.len (by omega)
 have l3:=hx.d.len (by omega)
 have hm:=Make_ok (p:=s+b+1) (a:=(x*pw b).floor) (b:=2^b) ((Zs.floor hp).mono (by omega)) (h2.mono (by omega)) (by omega) (Xhm b)
 have hd:=DivMod_ok (a:=x.num*2^b) (b:=x.den) (by omega) (by omega) (Xb2 x)
 rw[Xld] at hd
 refine En Tryz.func428 λ_ _ _=>?_
 refine Ce rfl (Xdf (n:=b) (by omega)) ?_
 refine Dz rfl ?_
 refine Ce rfl (Mul_ok (by omega) (by omega)) ?_
 refine Ce rfl hd ?_
 refine Ce rfl hm ?_
 exact R1 rfl (.rf rfl)
theorem Ymn(hx:Qs s x)(hb:b<=1099511627776)(hs:s<=1099511627776): C0 429 [.d (dq x),.d (.int .i64 b)] (·=.d (dq (upQ x b))):=by
 refine En Tryz.func429 λ_ _ _=>?_
 refine Ce rfl (Xks hx (by omega)) ?_
 refine Ce rfl (Xwv hx.neg hb hs) ?_
 refine Ce rfl (Xks (Xwx hx.neg b) (by omega)) ?_
 exact R1 rfl (.rf rfl)
theorem Xy4{p:Rat×Rat}(hp:Q2 s p)(hb:b<=1099511627776)(hs:s<=1099511627776): C0 405 [.d (dI p),.d (.int .i64 b)] (·=.d (dI (rnd p b))):=by
 refine En Tryz.func405 λ_ _ _=>?_
 refine Dw rfl ?_
 refine Ce rfl (Xwv hp.1 hb hs) ?_
 refine Ce rfl (Ymn hp.2 hb hs) ?_
 exact R1 rfl (Yj5 rfl rfl)
theorem Xcz(hx:Qs s x)(hx0:0<=x)(hb:b<=1099511627776)(hs:s<=1099511627776): C0 430 [.d (dq x),.d (.int .i64 b)] (·=.d (dq (Xdl x b))):=by
 have h2:Zs (2*b+1) (2^(2*b):Int):=Zs.two (W0c _)
 have hn2:=(hx.n.mul h2).len (by omega)
 have qx:=Yb0 (b:=b) hx
 have nx:=Xgp (b:=b) hx0
 have zx:=Yca qx nx
 have fx:=Zs.floor qx
 rw[Xd9 nx] at fx
 have lx:=Yfb (show (sq2 x b).floor.toNat<_ from fx)
 have l1:=hx.n.len (by omega)
 have l2:=h2.len (by omega)
 have l3:=hx.d.len (by omega)
 have hd:=DivMod_ok (a:=x.num*2^(2*b)) (b:=x.den) (by omega) (by omega) (Xb2 x)
 rw[Xyw b hx0] at hd
 refine En Tryz.func430 λ_ _ _=>?_
 refine Dz rfl ?_
 refine Ar (2*b:Nat) rfl ?_
 refine Ce rfl (Xdf (n:=2*b) (by omega)) ?_
 refine Ce rfl (Mul_ok (by omega) (by omega)) ?_
 refine Ce rfl hd ?_
 refine Ce rfl (Sqrt_ok (a:=(sq2 x b).floor.toNat) (by omega)) ?_
 refine Dz rfl ?_
 refine Ce rfl (Xdf (n:=b) (by omega)) ?_
 refine Ce rfl (Make_ok (p:=s+(2*b+2)) (a:=(rtF (sq2 x b):Int)) (b:=2^b) zx (Zs.two (by omega)) (by omega) (Xhm b)) ?_
 exact R1 rfl (.rf rfl)
theorem Xy6{p:Rat×Rat}(hp:Q2 s p)(hp0:0<=p.2)(hb:b<=1099511627776)(hs1:1<=s)(hs:s<=1099511627776): C0 408 [.d (dI p),.d (.int .i64 b)] (·=.d (dI (rts p b))):=by
 have hm:=Ycv hp.1 hs1
 have hmk:=Make_ok (p:=b+1) (a:=1) (b:=2^b) (Zs.one (by omega)) (Zs.two (W0c _)) (by omega) (Xhm b)
 refine En Tryz.func408 λ_ _ _=>?_
 refine Ce rfl (Xfn hp.1 (by omega)) ?_
 refine By rfl (λh=>?_) λh=>?_
 . have e:mx0 p.1=0:=if_pos (Yko.1 h)
   rw[e] at hm
   refine Ce rfl (Xa3 (z:=0) (by decide)) ?_
   refine Ce rfl (FromInt_ok (z:=1) (by decide)) ?_
   refine Ce rfl (Xdf (n:=b) (by omega)) ?_
   refine Ce rfl hmk ?_
   refine Dw rfl ?_
   refine Ce rfl (Xcz (x:=0) hm W6t hb hs) ?_
   refine Ce rfl (Xcz hp.2 hp0 hb hs) ?_
   refine Ce rfl (Xdq (Xkm hp.2 hp0 b) (Xkc b) (by omega)) ?_
   exact R1 rfl (Yj5 (by show dq _=dq (Xdl (mx0 p.1) b);rw[e]) rfl)
 . have e:mx0 p.1=p.1:=if_neg (λe=>h (Yko.2 e))
   refine Ce rfl (FromInt_ok (z:=1) (by decide)) ?_
   refine Ce rfl (Xdf (n:=b) (by omega)) ?_
   refine Ce rfl hmk ?_
   refine Dw rfl ?_
   refine Ce rfl (Xcz hp.1 (by rw[<-e];exact Xgv _) hb hs) ?_
   refine Ce rfl (Xcz hp.2 hp0 hb hs) ?_
   refine Ce rfl (Xdq (Xkm hp.2 hp0 b) (Xkc b) (by omega)) ?_
   exact R1 rfl (Yj5 (by show dq _=dq (Xdl (mx0 p.1) b);rw[e]) rfl)
end
theorem Xsk{k:Nat}: ∀ {s b:Nat} {t:Tw k} {a:Tow.El k},Xbv k t->TS s k t->Sz s (toL k a)->1<=s->k<=16->eB s b k<=274877906944->b<=274877906944->C0 364 [.d (dt t),.d (de a),.d (.int .i64 b)] (·=.d (dI (enc k t a b))):=by
 induction k with
 | zero =>
  intro s b t a hR hT ha hs1 hk hs hb
  have hs:s<=274877906944:=hs
  have key:∀y:Rat,Qs s y->C0 364 [.d (dts []),.d (dqs [y]),.d (.int .i64 b)] (·=.d (dI (y,y))):=λy hy=>by
   refine En Tryz.func364 λ_ _ _=>?_
   refine Yes rfl rfl ?_
   refine Ix 0 rfl (u:=dq y) rfl ?_
   refine Ce rfl (Xv7 hy (by omega)) ?_
   exact R1 rfl (.rf rfl)
  exact key a (ha.qs (W0g.2 rfl))
 | succ k ih =>
  intro s b t a hR hT ha hs1 hk hs hb
  have hx:Sz s (toL k a.1):=Sz.left ha
  have hy:Sz s (toL k a.2):=Sz.right ha
  have hge:=Xwr s b k
  have hs':3*eB s b k+4*b+6<=274877906944:=hs
  have qu:=Xiq (b:=b) hR.1 hT.1 hx hs1
  have qv:=Xiq (b:=b) hR.1 hT.1 hy hs1
  have qr:=Xiq (b:=b) hR.1 hT.1 hT.2 hs1
  have hhi:=Ydc hR b
  have qs:=Yb7 (b:=b) qr hhi (by omega)
  have qm:=Xu6 qv qs
  have qa:=Xxz qu qm
  have hlen:=Xab k
  have hp:=p16 hk
  refine En Tryz.func364 λ_ _ _=>?_
  refine No rfl (by show ¬((((toT k t.1++[toL k t.2]).map dqs).length:Nat):Int)=0;rw[twL];omega) ?_
  refine Ar k rfl ?_ (tw1 t (by omega))
  refine Ar (2^k:Nat) rfl ?_ (hvq a (by omega))
  refine Tk k ((toT k t.1).map dqs) rfl rfl (Xke t) (twT t) ?_
  refine Tk (2^k) ((toL k a.1).map dq) rfl rfl (Xci a) (hvT a) ?_
  refine Ce rfl (ih hR.1 hT.1 hx hs1 (by omega) (by omega) hb) ?_
  refine Dp (2^k) ((toL k a.2).map dq) rfl rfl (Xci a) (hvD a) ?_
  refine Ce rfl (Xeg (l:=toL k a.2) hy.ps (by omega) (by rw[hlen];have:=p16 (show k<=16 by omega);omega)) ?_
  refine By rfl (λh=>?_) λh=>?_
  . have he:enc (k+1) t a b=enc k t.1 a.1 b:=if_pos h
    exact R1 rfl (by rw[he];exact .rf rfl)
  . have he:enc (k+1) t a b=rnd (Xnq (enc k t.1 a.1 b) (Xb7 (enc k t.1 a.2 b) (rts (enc k t.1 t.2 b) b))) b:=if_neg h
    refine Dz rfl ?_
    refine Dp (2^k) ((toL k a.2).map dq) rfl rfl (Xci a) (hvD a) ?_
    refine Ce rfl (ih hR.1 hT.1 hy hs1 (by omega) (by omega) hb) ?_
    refine Ix k rfl (twU t) ?_
    refine Ce rfl (ih hR.1 hT.1 hT.2 hs1 (by omega) (by omega) hb) ?_
    refine Dw rfl ?_
    refine Ce rfl (Xy6 qr hhi (by omega) (by omega) (by omega)) ?_
    refine Ce rfl (Yfl qv qs (by omega)) ?_
    refine Ce rfl (Yfm qu qm (by omega)) ?_
    refine Ce rfl (Xy4 qa (by omega) (by omega)) ?_
    rw[he]
    exact R1 rfl (.rf rfl)
theorem Xsx{k:Nat}{t:Tw k}{a:Tow.El k}{bits P s:Nat}(hR:Xbv k t)(hw:∀b,P<=b->Wid (enc k t a b) bits)(hT:TS s k t)(ha:Sz s (toL k a))(hs1:1<=s)(hk:k<=16)(hv:vB s k s<=4398046511104)(hb:bits<=1024)(hP:P<=1000000000)(he:eB s (2*(P+bits+16)) k<=274877906944):
 C0 287 [.d (dt t),.d (de a),.d (.int .i64 bits)] λv=>∃p:Rat×Rat,v=.d (dI p)/\inI k t a p.1 p.2/\Wid p bits/\Q2 (eB s (2*(P+bits+16)) k) p:=by
 have hsb:s<=4398046511104:=W0l (Xdd k s) hv
 obtain⟨B,hB⟩:∃B,B=eB s (2*(P+bits+16)) k:=⟨_,rfl⟩
 rw[<-hB] at he |-
 have hq:∀b,b<=2*(P+bits+16)->Q2 B (enc k t a b):=λb hb=>(Xiq hR hT ha hs1).mono (by rw[hB];exact Xot hb k)
 refine En Tryz.func287 λ_ _ _=>?_
 refine No rfl (by omega) ?_
 refine No rfl (by omega) ?_
 refine Ce rfl (Xon (l:=[toL k a]) (s:=s) hT hR hk hv hsb (λx hx=>⟨a,W0g.1 hx,ha⟩) (by simp) hsb) ?_
 refine No rfl (by simp) ?_
 refine Ce rfl (FromInt_ok (z:=1) (by decide)) ?_
 refine Ce rfl (Xdf (n:=bits) (by omega)) ?_
 refine Ce rfl (Make_ok (p:=bits+1) (a:=1) (b:=2^bits) (Zs.one (by omega)) (Zs.two (W0c _)) (by omega) (Xhm bits)) ?_
 refine Ar (bits+16:Nat) rfl ?_
 refine Lo (λ(g:Nat)=>[(0,.d (dt t)),(1,.d (de a)),(6,.ptr 6 0),(7,.ptr 7 0),(9,.d (.int .i64 g))]) (λ_=>[(6,.var (.st (.pr (.st (.pr (.st (.pr (.b false) .nil)) (.st (.pr (.b false) .nil)))) (.st (.pr (.st (.pr (.b false) .nil)) (.st (.pr (.b false) .nil))))))),(7,.var (.d (dq (Rat.divInt 1 (2^bits)))))]) (λg=>1<=g/\g<=2*(P+bits+16)) (λg=>2*(P+bits+16)-g) (bits+16) [] rfl ⟨by omega,by omega⟩ (λg ⟨hg1,hg⟩=>?_)
 have hge:=hq g hg
 have heB:eB s g k<=274877906944:=W0l (Xot hg k) (by omega)
 refine Ce rfl (Xsk hR hT ha hs1 hk heB (by omega)) ?_
 refine Dw rfl ?_
 refine Ce rfl (Xv4 hge (by omega)) ?_
 refine Ce rfl (Xh3 (by rw[W5k];exact hge.2.add hge.1.neg) (Xkc bits) (by omega)) ?_
 refine By rfl (λh=>?_) λh=>?_
 . exact Rt rfl (.one (.rf rfl) rfl rfl) ⟨_,rfl,Xfz hR a g,⟨Xwq hR a g,Ymj.1 h⟩,hge⟩
 . have hgP:g<P:=by
    by_cases hgP:g<P
    . exact hgP
    . exact absurd (Ymj.2 (hw g (by omega)).2) h
   refine Ar (2*g:Nat) rfl ?_
   exact Bk (2*g) [] rfl ⟨by omega,by omega⟩ (by show 2*(P+bits+16)-2*g<2*(P+bits+16)-g;omega)
end
section
theorem RtOf.mg2{r s:Rat×Rat}{b j:Nat}(R:RtOf r b s)(hr:r.2<=pw (2*j))(h0:0<=r.2): 0<=s.1/\s.2<=pw (j+1):=by
 have h1:=Xhs (b:=b) h0
 have h2:=Xc3 (mx0 r.1) b
 rw[<-R.lo] at h2
 refine⟨h2,?_⟩
 have h3:Xdl r.2 b<=pw j:=Xq4 (W2k (Xay j)) (W5n h1 (by rw[<-Ych];exact hr))
 have h4:=R.h
 have h5:=Xkd b
 have h6:=Xgs j
 rw[Xco]
 grind
def mE(m:Nat): Nat->Nat->Nat
 | 0,M=>M
 | k+1,M=>mE m k M+(mE m k m+1)/2+2
def eE(m b:Nat): Nat->Nat->Nat
 | 0,_=>2*b-2
 | k+1,M=>min (eE m b k M) (eE m b k m/2)-(max (mE m k M) ((mE m k m+1)/2)+3)
theorem Ykh(m b:Nat): ∀k M,eE m b k M<=2*b-2
 | 0,_=>W0c _
 | k+1,M=>by have:=Ykh m b k M;show min (eE m b k M) (eE m b k m/2)-(max (mE m k M) ((mE m k m+1)/2)+3)<=_;omega
theorem Ykz{k:Nat}{t:Tw (k+1)}{m b:Nat}(h:Xbv (k+1) t)(hr:Mg (bx k t.1 t.2 b) (mE m k m)): 0<=(rtb (bx k t.1 t.2 b) b).1/\(rtb (bx k t.1 t.2 b) b).2<=pw ((mE m k m+1)/2+1) :=
 (Xp8 _ b).mg2 (W5n hr.2 (Xh4 (by omega))) (Xl1 h (Xoz h.1 t.2 b))
theorem Xnd: ∀ {k:Nat} {t:Tw k} {a:El k} {m M:Nat} (b:Nat),Xbv k t->MgT m k t->MgL M (toL k a)->Mg (bx k t a b) (mE m k M)
 | 0,t,a,m,M,b,h,hT,ha=>Ye9 (ha _ (W0g.2 rfl))
 | k+1,t,a,m,M,b,h,hT,ha=>by
  have hu:=Xnd (a:=a.1) (M:=M) b h.1 hT.1 λx hx=>ha x (W2q _ hx)
  have hv:=Xnd (a:=a.2) (M:=M) b h.1 hT.1 λx hx=>ha x (W1r _ hx)
  have hr:=Xnd (M:=m) b h.1 hT.1 hT.2
  have h0:=Xl1 h (Xoz h.1 t.2 b)
  rw[Xoy]
  exact Xpp hu hv (Ykz h hr) (Yig h0 (Yk0 h.1 _ _)) (Yk0 h.1 _ _)
theorem Xgw: ∀ {k:Nat} {t:Tw k} {a:El k} {m M b:Nat},Xbv k t->MgT m k t->MgL M (toL k a)->0<eE m b k M->Wid (bx k t a b) (eE m b k M)
 | 0,t,a,m,M,b,h,hT,ha,he=>⟨W6t,(λ(x:Rat)=>(by grind:(x-x)*pw (eE m b 0 M)<=1)) a⟩
 | k+1,t,a,m,M,b,h,hT,ha,he=>by
  have he':0<min (eE m b k M) (eE m b k m/2)-(max (mE m k M) ((mE m k m+1)/2)+3):=he
  have hle:=Ykh m b k m
  have hu:=Xgw (a:=a.1) (m:=m) (M:=M) (b:=b) h.1 hT.1 (λx hx=>ha x (W2q _ hx)) (by omega)
  have hv:=Xgw (a:=a.2) (m:=m) (M:=M) (b:=b) h.1 hT.1 (λx hx=>ha x (W1r _ hx)) (by omega)
  have hr:=Xgw (m:=m) (M:=m) (b:=b) h.1 hT.1 hT.2 (by omega)
  have mv:=Xnd (a:=a.2) (M:=M) b h.1 hT.1 λx hx=>ha x (W1r _ hx)
  have mr:=Xnd (M:=m) b h.1 hT.1 hT.2
  have ms:=Ykz h mr
  have h0:=Xl1 h (Xoz h.1 t.2 b)
  rw[Xoy]
  exact Xpo (m:=max (mE m k M) ((mE m k m+1)/2)) (hu.mono (by omega)) (hv.mono (by omega)) hr (by omega) (mv.mono (by omega)) ⟨ms.1,W5n ms.2 (Xh4 (by omega))⟩ h0 (Xp8 _ b) (by omega) (by omega) (by omega)
theorem Ygh{k:Nat}{t:Tw k}{a:El k}(h:Xbv k t)(hT:MgT 64 k t)(ha:MgL 300 (toL k a))(hk:k<=3): Wid (bx k t a 2048) 1:=by
 have hk:k=0\/k=1\/k=2\/k=3:=by omega
 rcases hk with rfl | rfl | rfl | rfl
 . exact(Xgw h hT ha (show 0<eE 64 2048 0 300 by decide)).mono (by decide)
 . exact(Xgw h hT ha (show 0<eE 64 2048 1 300 by decide)).mono (by decide)
 . exact(Xgw h hT ha (show 0<eE 64 2048 2 300 by decide)).mono (by decide)
 . exact(Xgw h hT ha (show 0<eE 64 2048 3 300 by decide)).mono (by decide)
theorem Xir{k:Nat}{t:Tw k}{a:El k}{m:Nat}(h:Xbv k t)(hT:MgT m k t)(ha:MgL m (toL k a))(hk:k<=3)(hm:m<=10000): ∀b,1000000<=b->Wid (enc k t a b) 1:=λb hb=>by
 have key:∀e,(0<e->Wid (enc k t a b) e)->1<=e->Wid (enc k t a b) 1:=λe h1 h2=>(h1 (by omega)).mono h2
 refine key _ (λhe=>Xrh h hT ha he) ?_
 have hk:k=0\/k=1\/k=2\/k=3:=by omega
 rcases hk with rfl | rfl | rfl | rfl<;>simp only[eW,mW]<;>omega
end
section
theorem Zs.pow{q:Nat}{z:Int}(h:Zs q z)(n:Nat): Zs (q*n+1) (z^n):=by
 unfold Zs at *
 rw[W7g]
 have h1:z.natAbs^n<=(2^q)^n:=W6c (W2c h) n
 rw[<-W4y] at h1
 rw[W0q]
 have:=W0u (q*n)
 omega
theorem Zs.len2{q:Nat}{z:Int}(h:Zs q z)(hq:q<=8000000000000): (dig z.natAbs).length<=274877906944:=by
 have h1:z.natAbs<4294967296^(q/32+1):=by
  rw[show 4294967296=2^32 from rfl,<-W4y]
  exact W0s h (W0m (by decide) (by omega))
 have:=Xaq h1
 omega
theorem Xzz{a:Int}(ha:(dig a.natAbs).length<=549755813888): C0 290 [.d (dz a),.d (dz 1)] (·=.d (dz (a-1))):=by
 have h1:(dig (Int.natAbs (-1))).length<=549755813888:=W0l (Xaq (n:=1) (k:=1) (by decide)) (by decide)
 have h:=Add_ok (a:=a) (b:=-1) ha h1
 have hc:C0 148 [.d (dz a),.d (.st (.pr (.bool (!decide ((1:Int)<0))) (ws (dig (Int.natAbs 1)))))] (·=.d (dz (a-1))):=h
 refine En Tryz.func290 λ_ _ _=>?_
 refine Ce rfl hc ?_
 exact R1 rfl (.rf rfl)
theorem Xup{x:Rat}{p:Nat}(hx:Qs p x)(hp:p<=4398046511104): C0 286 [.d (dq x)] (·=.d (dz x.floor)):=by
 have h:=DivMod_ok (a:=x.num) (b:=x.den) (W0l (hx.n.len (by omega)) (by decide)) (W0l (hx.d.len (by omega)) (by decide)) (Xb2 x)
 have e:x.num.fdiv x.den=x.floor:=by
  have:=Xld x 0
  rw[show pw 0=1 from rfl,Rat.mul_one,W7d,W4w] at this
  exact this
 rw[e] at h
 refine En Tryz.func286 λ_ _ _=>?_
 refine Ce rfl h ?_
 exact R1 rfl (.rf rfl)
theorem Xv6{n:Nat}{z:Int}{q:Nat}(hz:Zs q z)(hn:n<=4096)(hq:q<=100000): C0 117 [.d (dz z),.d (.int .i64 n)] (·=.tup (.pr (.d (dz (z^n))) (.d (.int .i64 0)))):=by
 refine En Tryz.func117 λ_ _ _=>?_
 refine No rfl (by omega) ?_
 refine No rfl (by omega) ?_
 refine Dw rfl ?_
 refine Ce rfl (FromInt_ok (z:=1) (by decide)) ?_
 refine Ce rfl (Norm_ok (W0l (hz.len (by omega)) (by decide))) ?_
 refine Lo (λ((m,o,e):Nat×Nat×Nat)=>[(1,.d (.int .i64 m)),(4,.ptr 4 0),(5,.d (.int .i64 0)),(6,.ptr 6 0),(7,.ptr 7 0)]) (λ(m,o,e)=>[(4,.var (.st (.pr (.b false) .nil))),(6,.var (.d (dz (z^o)))),(7,.var (.d (dz (z^e))))]) (λ(m,o,e)=>o+e*m=n/\e<=max n 1/\m<=n) (λ(m,_,_)=>m) (n,0,1) [] rfl ⟨by omega,by omega,W0c n⟩ ?_ (by exact⟨rfl,by show Xsz _ [(4,Ob.var (AV.st (.pr (.b false) .nil))),(6,Ob.var (AV.d (dz (z^0)))),(7,Ob.var (AV.d (dz (z^1))))];rw[W7d,show z^1=z by rw[Int.pow_succ,W7d,W5w]];rfl,rfl,rfl,rfl⟩)
 rintro⟨m,o,e⟩ ⟨hm,he,hmn⟩
 have hsz:∀j,j<=4096->(dig (z^j).natAbs).length<=549755813888:=λj hj=>by
  have:=Zs.pow hz j
  have hqj:q*j<=100000*4096:=W1z hq hj
  exact W0l (this.len (by omega)) (by decide)
 have ho:o<=4096:=by have:=W0x (e*m);omega
 have he4:e<=4096:=by omega
 refine By rfl (λh=>?_) λh=>?_
 . have h:(m:Int)>0:=h
   have hdm:=W2p m 2
   have hem:e*m=2*(e*(m/2))+e*(m%2):=by
    conv=>lhs;rw[<-hdm,W0y]
    rw[W4c]
   have hq2:arB .quo .i64 (m:Int) 2 ((m/2:Nat):Int):=Ynt (m:=2) rfl (by decide) (by omega)
   have sqr:∀e:Nat,z^e*z^e=z^(e+e):=λe=>(W7m ..).symm
   refine Ar (m%2:Nat) rfl ?_ (show _/\_ from⟨by decide,Xte m 2⟩)
   refine By rfl (λh1=>?_) λh1=>?_
   . have h1:m%2=1:=by omega
     rw[h1,W3z] at hem
     refine Ce rfl (Mul_ok (hsz o ho) (hsz e he4)) ?_
     rw[<-W7m]
     refine Ar (m/2:Nat) rfl ?_ hq2
     refine By rfl (λh2=>?_) λh2=>?_
     . have he2:e*1<=e*(m/2):=W0p e (by omega)
       refine Ce rfl (Mul_ok (hsz e he4) (hsz e he4)) ?_
       rw[sqr]
       exact Bk (m/2,o+e,e+e) [] rfl ⟨by rw[W1h];omega,by omega,by omega⟩ (by show m/2<m;omega)
     . have h20:m/2=0:=by omega
       rw[h20] at hem
       exact Bk (m/2,o+e,e) [] rfl ⟨by rw[h20];omega,he,by omega⟩ (by show m/2<m;omega)
   . have h1:m%2=0:=by omega
     rw[h1,W3h] at hem
     refine Ar (m/2:Nat) rfl ?_ hq2
     have he2:e*1<=e*(m/2):=W0p e (by omega)
     refine Yes rfl (by omega) ?_
     refine Ce rfl (Mul_ok (hsz e he4) (hsz e he4)) ?_
     rw[sqr]
     exact Bk (m/2,o,e+e) [] rfl ⟨by rw[W1h];omega,by omega,by omega⟩ (by show m/2<m;omega)
 . have h:¬(m:Int)>0:=h
   have hm0:m=0:=by omega
   rw[hm0,W3h,W2o] at hm
   rw[hm]
   exact RTt rfl (.cons (.rf rfl) Xax)
theorem Xt7{k:Nat}{t:Tw k}{a:Tow.El k}{P s:Nat}(hR:Xbv k t)(hw:∀b,P<=b->Wid (enc k t a b) 1)(hT:TS s k t)(ha:Sz s (toL k a))(hs1:1<=s)(hk:k<=16)(hP:P<=1000000000)(he:eB s (2*(P+1+16)) k<=274877906944)(hv:vB s k (s+eB s (2*(P+1+16)) k+4)<=4398046511104):
 C0 201 [.d (dt t),.d (de a)] λv=>∃z,v=.d (dz z)/\Xcj k t a z/\(dig z.natAbs).length<=274877906944:=by
 have hsB:=W0l (Xdd (r:=s) k _) hv
 obtain⟨B,hB⟩:∃B,B=eB s (2*(P+1+16)) k:=⟨_,rfl⟩
 have hvs:vB s k s<=4398046511104:=W0l (Xcm (by omega)) hv
 have hE:=Xsx (bits:=1) hR hw hT ha hs1 hk hvs (by decide) hP he
 rw[<-hB] at he hv hsB hE
 have hB1:1<=B:=by rw[hB];exact W0l hs1 (Xwr ..)
 refine En Tryz.func201 λ_ _ _=>?_
 refine Ce rfl (Xon (l:=[toL k a]) (s:=s) hT hR hk hvs (by omega) (λx hx=>⟨a,W0g.1 hx,ha⟩) (by simp) (by omega)) ?_
 refine No rfl (by simp) ?_
 refine Ca rfl hE λv hv'=>?_
 obtain⟨p,rfl,hin,hwd,hq⟩:=hv'
 have hz:=Zs.floor hq.2
 have hfl:=Xz7 hR hin hwd
 have hl0:=Zs.len2 (z:=p.2.floor) hz (by omega)
 have hl1:=Zs.len2 (z:=p.2.floor-1) (q:=B+1) (by unfold Zs at *;rw[W0q];omega) (by omega)
 have hmk:=Make_ok (p:=B) (a:=p.2.floor) (b:=1) hz (Zs.one (by omega)) (by omega) (by decide)
 rw[Xw0] at hmk
 have qz:Qs B ((p.2.floor:Int):Rat):=Qs.int hz (by omega)
 have hzr:=Sz.rat k qz
 refine Ce rfl (Xup hq.2 (by omega)) ?_
 refine Dw rfl ?_
 refine Ce rfl (FromInt_ok (z:=1) (by decide)) ?_
 refine Ce rfl hmk ?_
 refine Ce rfl (Xcn hT hk (by omega) qz (by omega)) ?_
 refine Ce rfl (Xga hT ha hzr hk (by omega) (by omega)) ?_
 refine Ce rfl (Xka (s:=s+B+4) hT (by rw[Xas,Xbo];exact(ha.add hzr.neg).mono (by omega)) hk hv (by omega)) ?_
 refine By rfl (λh=>?_) λh=>?_
 . refine Dw rfl ?_
   refine Ce rfl (FromInt_ok (z:=1) (by decide)) ?_
   refine Ce rfl (Xzz (W0l (hz.len (by omega)) (by decide))) ?_
   exact Rt rfl (.one (.rf rfl) rfl rfl) ⟨_,rfl,hfl.1 h,hl1⟩
 . exact Rt rfl (.one (.rf rfl) rfl rfl) ⟨_,rfl,hfl.2 h,hl0⟩
end
end Go.Proofs.YtclgppjdhndgiaaGreatDoor
namespace Go.Proofs.YtclgppjdhndgiaaGreatDoor.P55
open Go Go.Vm Go.Num Go.Tow Go.Proofs.YtclgppjdhndgiaaGreatDoor
theorem Yfk{f:FuncId}{l:List Cv}(hl:l.length<=1000)(hf:∀c∈l,C0 f [.d (dC c)] (·=.b false)): C0 191 [.d (Xd0 l),.d (fnD f)] (·=.d (.int .i64 (-1))):=by
 refine En Tryz.func191 λ_ _ _=>?_
 refine Lo (λk:Nat=>[(0,.d (Xd0 l)),(1,.d (fnD f)),(7,.d (.int .i64 (l.map dC).length)),(8,.d (.int .i64 k))]) (λ_=>[]) (λk=>k<=l.length) (λk=>l.length-k) 0 [] rfl (W0x _) λk hk=>?_
 refine By rfl (λh=>?_) λh=>?_<;>simp only[lC] at h
 . obtain⟨c,hc⟩:∃c,l[k]?=some c:=⟨_,W0a (by omega)⟩
   refine Ix k rfl (cAt hc) ?_
   refine Ce rfl (hf c (W0h hc)) ?_
   refine No rfl nofun ?_
   refine Ar (k+1:Nat) rfl ?_
   exact Bk (k+1) [] rfl (by omega) (by show l.length-(k+1)<l.length-k;omega)
 . exact R0
theorem Yga{f:FuncId}{l:List Cv}(hl:l.length<=1000)(hf:∀c∈l,C0 f [.d (dC c)] (·=.b false)): C0 105 [.d (Xd0 l),.d (fnD f)] (·=.b false):=by
 refine En Tryz.func105 λ_ _ _=>?_
 refine Ce rfl (Yfk hl hf) ?_
 exact R1 rfl (by exact(show dc ((-1:Int)>=0)=false from W2m.2 λe=>absurd (Xal.1 e) (by decide)) ▸ .rf rfl)
theorem Xg7{l:List Cv}{d:Int}(hd:0<=d/\d<=20)(h0:0<l.length)(hl:l.length<=1000)(hv:∀c∈l,C0 45 [.d (dC c)] (·=.b true)): C0 36 [.d (Xd0 l),.d (.int .i64 d)] (·=.b true):=by
 have hr:∀c∈l,C0 106 [.d (dC c)] (·=.b false):=λc hc=>by
  refine En Tryz.func106 λ_ _ _=>?_
  refine Ce rfl (hv c hc) ?_
  exact R1 rfl (by exact(show (!true)=false from rfl) ▸ .rf rfl)
 refine En Tryz.func36 λ_ _ _=>?_
 refine Yes rfl (by omega) ?_
 refine Yes rfl (by omega) ?_
 refine Yes rfl (by rw[lC];omega) ?_
 refine Ce rfl (Yga hl hr) ?_
 exact R0
def qb(z:Int)(d:Nat): Rat:=Rat.divInt z (10^d)
abbrev Zb(z:Int): Prop:=(dig z.natAbs).length<=274877906944
theorem Zb.zs{z:Int}(h:Zb z): Zs (max (32*(dig z.natAbs).length) 200) z:=by
 have h1:Zs (32*(dig z.natAbs).length) z:=by
  show z.natAbs<2^_
  rw[W4y];exact Xc0 _
 exact h1.mono (Nat.le_max_left ..)
theorem Zb.neg{z:Int}(h:Zb z): Zb (-z):=by unfold Zb;rw[W4t];exact h
theorem Yny{a b:Int}: Xa5 a b<0↔a<b:=by rcases Xat a b with ⟨g1,g2⟩ | ⟨g1,g2⟩ | ⟨g1,g2⟩<;>omega
theorem Xfm{z:Int}{d:Nat}(hz:Zb z)(hd:d<=20): C0 41 [.d (dz z),.d (.int .i64 d)] (·=.d (dq (qb z d))):=by
 refine En Tryz.func41 λ_ _ _=>?_
 refine Ce rfl (FromInt_ok (z:=10) (by decide)) ?_
 refine Ce rfl (Xv6 (z:=10) (q:=4) (show (10:Int).natAbs<2^4 by decide) (by omega) (by decide)) ?_
 have h10:Zs (max (32*(dig z.natAbs).length) 200) (10^d:Int):=by
  have h1:(10:Nat)^d<=10^20:=W0m (by decide) hd
  have h2:Zs 200 (10^d:Int):=by
   show ((10:Int)^d).natAbs<2^200
   rw[W7g]
   exact W1y h1 (by decide)
  exact h2.mono (Nat.le_max_right ..)
 have h0:(10^d:Int)≠0:=by have:=W6g (n:=10) (m:=d) (by decide);omega
 refine Ce rfl (Make_ok hz.zs h10 (by have hz:_<=_:=hz;omega) h0) ?_
 exact R1 rfl (.rf rfl)
structure F4 where
 a:Int
 b:Int
 c:Int
 e:Int
def mn(x y:Int): Int:=if y<x then y else x
structure O4 where
 a:Option Int
 b:Option Int
 c:Option Int
 e:Option Int
def nx(o:Option Int)(f:Int): Option Int:=match o with
 | none=>some f
 | some g=>some (mn g f)
def O4.nx(o:O4)(f:F4): O4:=⟨P55.nx o.a f.a,P55.nx o.b f.b,P55.nx o.c f.c,P55.nx o.e f.e⟩
def o40: O4:=⟨none,none,none,none⟩
def lst(l:List F4): O4:=l.foldl O4.nx o40
def f40(f:F4): O4:=⟨some f.a,some f.b,some f.c,some f.e⟩
theorem Xq1(l:List F4)(f:F4): lst (l++[f])=(lst l).nx f:=by simp[lst]
abbrev zIA: AV:=.st (.pr (.b false) .nil)
def ent: Option Int->AV
 | none=>zIA
 | some z=>.d (dz z)
def arA: O4->AV
 | ⟨some a,some b,some c,some e⟩=>.d (.st (.pr (dz a) (.pr (dz b) (.pr (dz c) (dz e)))))
 | o=>.st (.pr (ent o.a) (.pr (ent o.b) (.pr (ent o.c) (ent o.e))))
abbrev zRA: AV:=.st (.pr zIA zIA)
abbrev zBA: AV:=.st (.pr zRA (.pr zRA (.pr zRA zRA)))
structure PtF (d:Int) (p:Vn) (f:F4):Prop where
 n:∃x y,C0 38 [.d (dN p.x)] (·=.d (dN x))/\C0 38 [.d (dN p.y)] (·=.d (dN y))/\C0 39 [.d (dN x),.d (.int .i64 d)] (·=.tup (.pr (.d (dz f.c)) (.d (.int .i64 0))))/\C0 39 [.d (dN y),.d (.int .i64 d)] (·=.tup (.pr (.d (dz f.e)) (.d (.int .i64 0))))
 x:C0 39 [.d (dN p.x),.d (.int .i64 d)] (·=.tup (.pr (.d (dz f.a)) (.d (.int .i64 0))))
 y:C0 39 [.d (dN p.y),.d (.int .i64 d)] (·=.tup (.pr (.d (dz f.b)) (.d (.int .i64 0))))
 z:Zb f.a/\Zb f.b/\Zb f.c/\Zb f.e
def CuF(d:Int)(c:Cv)(fs:List F4): Prop:=∃P:List Vn,C0 37 [.d (dC c)] (·=.tup (.pr (.d (dVs P)) (.d (.int .i64 0))))/\P.length=fs.length/\P.length<=100/\∀(i:Nat) p f,P[i]?=some p->fs[i]?=some f->PtF d p f
theorem Xq6{a b:Int}(ha:Zb a)(hb:Zb b): C0 40 [.d (dz a),.d (dz b)] (·=.d (.int .i64 (Xa5 a b))):=Cmp_ok (W0l ha (by decide)) (W0l hb (by decide))
def Yk1(o:F4)(d:Nat): D:=.st (.pr (dq (qb o.a d)) (.pr (dq (qb o.b d)) (.pr (dq (qb (-o.c) d)) (dq (qb (-o.e) d)))))
def ofO: Option F4->O4
 | none=>o40
 | some g=>f40 g
def nxF(o:Option F4)(f:F4): F4:=match o with
 | none=>f
 | some g=>⟨mn g.a f.a,mn g.b f.b,mn g.c f.c,mn g.e f.e⟩
theorem Xqp{o:Option F4}{f:F4}: (ofO o).nx f=f40 (nxF o f):=by cases o<;>rfl
def BdZ(f:F4): Prop:=Zb f.a/\Zb f.b/\Zb f.c/\Zb f.e
theorem Xzp{x y:Int}(hx:Zb x)(hy:Zb y): Zb (mn x y):=by unfold mn;split<;>assumption
theorem BdZ.nx{o:Option F4}{f:F4}(ho:∀g,o=some g->BdZ g)(hf:BdZ f): BdZ (nxF o f):=by
 cases o with
 | none=>exact hf
 | some g =>
  have hg:=ho g rfl
  exact⟨Xzp hg.1 hf.1,Xzp hg.2.1 hf.2.1,Xzp hg.2.2.1 hf.2.2.1,Xzp hg.2.2.2 hf.2.2.2⟩
def part(o:O4)(f:F4): Nat->O4
 | 0=>o
 | 1=>⟨nx o.a f.a,o.b,o.c,o.e⟩
 | 2=>⟨nx o.a f.a,nx o.b f.b,o.c,o.e⟩
 | 3=>⟨nx o.a f.a,nx o.b f.b,nx o.c f.c,o.e⟩
 | _=>o.nx f
theorem Xu9{x y:Int}(h:y<x): mn x y=y:=if_pos h
theorem Xva{x y:Int}(h:¬y<x): mn x y=x:=if_neg h
theorem Xyc{l:List Cv}{Fs:List (List F4)}{d:Nat}{o:F4}(hd:d<=20)(h0:0<l.length)(hl:l.length<=1000)(hv:∀c∈l,C0 45 [.d (dC c)] (·=.b true))(hF:Fs.length=l.length)(hC:∀(i:Nat) c fs,l[i]?=some c->Fs[i]?=some fs->CuF d c fs)(ho:lst Fs.flatten=f40 o):
 C0 14 [.d (Xd0 l),.d (.int .i64 d)] (·=.tup (.pr (.d (Yk1 o d)) (.d (.int .i64 0)))):=by
 refine En Tryz.func14 λ_ _ _=>?_
 refine Ce rfl (Xg7 (by omega) h0 hl hv) ?_
 refine No rfl (λh=>h rfl) ?_
 refine Lo (λ((k,o):Nat×Option F4)=>[(1,.d (.int .i64 d)),(4,.ptr 4 0),(6,.ptr 6 0),(7,.b o.isNone),(23,.d (Xd0 l)),(24,.d (.int .i64 (l.map dC).length)),(25,.d (.int .i64 k))]) (λ(_,o)=>[(4,.var zBA),(6,.var (arA (ofO o)))]) (λ(k,o)=>k<=l.length/\lst (Fs.take k).flatten=ofO o/\∀g,o=some g->BdZ g) (λ(k,_)=>l.length-k) (0,none) [] rfl ⟨W0x _,rfl,nofun⟩ ?_
 rintro⟨k,o1⟩ ⟨hk,ho1,hz1⟩
 have ho1:lst (Fs.take k).flatten=ofO o1:=ho1
 refine By rfl (λh=>?_) λh=>?_
 . have h:(k:Int)<((l.map dC).length:Nat):=h
   rw[lC] at h
   obtain⟨c,hc⟩:∃c,l[k]?=some c:=⟨_,W0a (by omega)⟩
   obtain⟨fs,hfs⟩:∃fs,Fs[k]?=some fs:=⟨_,W0a (by omega)⟩
   obtain⟨P,hP,hPl,hP1,hPf⟩:=hC k c fs hc hfs
   have hnext:(Fs.take (k+1)).flatten=(Fs.take k).flatten++fs:=by rw[W1c,hfs];simp
   refine Ix k rfl (cAt hc) ?_
   refine Ce rfl hP ?_
   refine No rfl (by decide) ?_
   refine Lo (λ((j,o):Nat×Option F4)=>[(1,.d (.int .i64 d)),(4,.ptr 4 0),(6,.ptr 6 0),(7,.b o.isNone),(23,.d (Xd0 l)),(24,.d (.int .i64 (l.map dC).length)),(25,.d (.int .i64 k)),(38,.d (dVs P)),(39,.d (.int .i64 (P.map dV).length)),(40,.d (.int .i64 j))]) (λ(_,o)=>[(4,.var zBA),(6,.var (arA (ofO o)))]) (λ(j,o)=>j<=fs.length/\lst ((Fs.take k).flatten++fs.take j)=ofO o/\∀g,o=some g->BdZ g) (λ(j,_)=>fs.length-j) (0,o1) [] rfl ⟨W0x _,by simpa using ho1,hz1⟩ ?_ (by exact⟨rfl,rfl,by cases o1<;>rfl,rfl,rfl⟩)
   rintro⟨j,o2⟩ ⟨hj,ho2,hz2⟩
   have ho2:lst ((Fs.take k).flatten++fs.take j)=ofO o2:=ho2
   refine By rfl (λh=>?_) λh=>?_
   . have h:(j:Int)<((P.map dV).length:Nat):=h
     rw[W0i] at h
     obtain⟨p,hp⟩:∃p,P[j]?=some p:=⟨_,W0a (by omega)⟩
     obtain⟨f,hf⟩:∃f,fs[j]?=some f:=⟨_,W0a (by omega)⟩
     obtain⟨⟨x',y',n1,n2,n3,n4⟩,m1,m2,m3⟩:=hPf j p f hp hf
     have hst:lst ((Fs.take k).flatten++fs.take (j+1))=ofO (some (nxF o2 f)):=by
      rw[W1c,hf,<-W2i,Option.toList_some,Xq1,ho2];exact Xqp
     refine Ix j rfl (u:=dV p) (by rw[W0t,hp];rfl) ?_
     refine Dw rfl ?_
     refine Ce rfl n1 ?_
     refine Ce rfl n2 ?_
     refine Lo (λ((i,_):Nat×O4)=>[(1,.d (.int .i64 d)),(4,.ptr 4 0),(6,.ptr 6 0),(7,.b o2.isNone),(23,.d (Xd0 l)),(24,.d (.int .i64 (l.map dC).length)),(25,.d (.int .i64 k)),(38,.d (dVs P)),(39,.d (.int .i64 (P.map dV).length)),(40,.d (.int .i64 j)),(54,.lit 2 [dN p.x,dN p.y,dN x',dN y']),(55,.d (.int .i64 4)),(56,.d (.int .i64 i))]) (λ(_,c)=>[(4,.var zBA),(6,.var (arA c))]) (λ(i,c)=>i<=4/\c=part (ofO o2) f i) (λ(i,_)=>4-i) (0,ofO o2) [] rfl ⟨by decide,rfl⟩ ?_ (by exact⟨rfl,rfl,by cases o2<;>rfl,rfl,rfl⟩)
     rintro⟨i,c4⟩ ⟨hi,hc4⟩
     have hc4:c4=part (ofO o2) f i:=hc4
     have hi:i=0\/i=1\/i=2\/i=3\/i=4:=by have hi:i<=4:=hi;omega
     rcases hi with rfl | rfl | rfl | rfl | rfl
     . obtain rfl:c4=part (ofO o2) f 0:=hc4
       refine Yes rfl (by decide) ?_
       refine Ix 0 rfl (u:=dN p.x) rfl ?_
       refine Ce rfl m1 ?_
       refine No rfl (by decide) ?_
       cases o2 with
       | none =>
        refine Dw rfl ?_
        refine Yes rfl rfl ?_
        refine Ia 0 rfl (by decide) ?_
        refine Ar (0+1:Nat) rfl ?_
        exact Bk (0+1,part (ofO none) f (0+1)) [] rfl ⟨by decide,rfl⟩ (by show 4-(0+1)<4-0;decide)
       | some g =>
        refine Dw rfl ?_
        refine No rfl nofun ?_
        refine Ia 0 rfl (by decide) ?_
        refine Ce rfl (Xq6 (a:=f.a) (b:=g.a) m3.1 (hz2 g rfl).1) ?_
        refine By rfl (λh1=>?_) λh1=>?_
        . have h1:f.a<g.a:=Yny.1 h1
          refine Ia 0 rfl (by decide) ?_
          refine Ar (0+1:Nat) rfl ?_
          exact Bk (0+1,⟨some f.a,(ofO (some g)).b,(ofO (some g)).c,(ofO (some g)).e⟩) [] rfl ⟨by decide,by show _=part (f40 g) f 1;simp[part,ofO,f40,nx,O4.nx,Xu9 h1]⟩ (by show 4-(0+1)<4-0;decide)
        . have h1:¬f.a<g.a:=λe=>h1 (Yny.2 e)
          refine Ar (0+1:Nat) rfl ?_
          exact Bk (0+1,part (ofO (some g)) f 0) [] rfl ⟨by decide,by show _=part (f40 g) f 1;simp[part,ofO,f40,nx,O4.nx,Xva h1]⟩ (by show 4-(0+1)<4-0;decide)
     . obtain rfl:c4=part (ofO o2) f 1:=hc4
       refine Yes rfl (by decide) ?_
       refine Ix 1 rfl (u:=dN p.y) rfl ?_
       refine Ce rfl m2 ?_
       refine No rfl (by decide) ?_
       cases o2 with
       | none =>
        refine Dw rfl ?_
        refine Yes rfl rfl ?_
        refine Ia 1 rfl (by decide) ?_
        refine Ar (1+1:Nat) rfl ?_
        exact Bk (1+1,part (ofO none) f (1+1)) [] rfl ⟨by decide,rfl⟩ (by show 4-(1+1)<4-1;decide)
       | some g =>
        refine Dw rfl ?_
        refine No rfl nofun ?_
        refine Ia 1 rfl (by decide) ?_
        refine Ce rfl (Xq6 (a:=f.b) (b:=g.b) m3.2.1 (hz2 g rfl).2.1) ?_
        refine By rfl (λh1=>?_) λh1=>?_
        . have h1:f.b<g.b:=Yny.1 h1
          refine Ia 1 rfl (by decide) ?_
          refine Ar (1+1:Nat) rfl ?_
          exact Bk (1+1,⟨nx (ofO (some g)).a f.a,some f.b,(ofO (some g)).c,(ofO (some g)).e⟩) [] rfl ⟨by decide,by show _=part (f40 g) f 2;simp[part,ofO,f40,nx,O4.nx,Xu9 h1]⟩ (by show 4-(1+1)<4-1;decide)
        . have h1:¬f.b<g.b:=λe=>h1 (Yny.2 e)
          refine Ar (1+1:Nat) rfl ?_
          exact Bk (1+1,part (ofO (some g)) f 1) [] rfl ⟨by decide,by show _=part (f40 g) f 2;simp[part,ofO,f40,nx,O4.nx,Xva h1]⟩ (by show 4-(1+1)<4-1;decide)
     . obtain rfl:c4=part (ofO o2) f 2:=hc4
       refine Yes rfl (by decide) ?_
       refine Ix 2 rfl (u:=dN x') rfl ?_
       refine Ce rfl n3 ?_
       refine No rfl (by decide) ?_
       cases o2 with
       | none =>
        refine Dw rfl ?_
        refine Yes rfl rfl ?_
        refine Ia 2 rfl (by decide) ?_
        refine Ar (2+1:Nat) rfl ?_
        exact Bk (2+1,part (ofO none) f (2+1)) [] rfl ⟨by decide,rfl⟩ (by show 4-(2+1)<4-2;decide)
       | some g =>
        refine Dw rfl ?_
        refine No rfl nofun ?_
        refine Ia 2 rfl (by decide) ?_
        refine Ce rfl (Xq6 (a:=f.c) (b:=g.c) m3.2.2.1 (hz2 g rfl).2.2.1) ?_
        refine By rfl (λh1=>?_) λh1=>?_
        . have h1:f.c<g.c:=Yny.1 h1
          refine Ia 2 rfl (by decide) ?_
          refine Ar (2+1:Nat) rfl ?_
          exact Bk (2+1,⟨nx (ofO (some g)).a f.a,nx (ofO (some g)).b f.b,some f.c,(ofO (some g)).e⟩) [] rfl ⟨by decide,by show _=part (f40 g) f 3;simp[part,ofO,f40,nx,O4.nx,Xu9 h1]⟩ (by show 4-(2+1)<4-2;decide)
        . have h1:¬f.c<g.c:=λe=>h1 (Yny.2 e)
          refine Ar (2+1:Nat) rfl ?_
          exact Bk (2+1,part (ofO (some g)) f 2) [] rfl ⟨by decide,by show _=part (f40 g) f 3;simp[part,ofO,f40,nx,O4.nx,Xva h1]⟩ (by show 4-(2+1)<4-2;decide)
     . obtain rfl:c4=part (ofO o2) f 3:=hc4
       refine Yes rfl (by decide) ?_
       refine Ix 3 rfl (u:=dN y') rfl ?_
       refine Ce rfl n4 ?_
       refine No rfl (by decide) ?_
       cases o2 with
       | none =>
        refine Dw rfl ?_
        refine Yes rfl rfl ?_
        refine Ia 3 rfl (by decide) ?_
        refine Ar (3+1:Nat) rfl ?_
        exact Bk (3+1,part (ofO none) f (3+1)) [] rfl ⟨by decide,rfl⟩ (by show 4-(3+1)<4-3;decide)
       | some g =>
        refine Dw rfl ?_
        refine No rfl nofun ?_
        refine Ia 3 rfl (by decide) ?_
        refine Ce rfl (Xq6 (a:=f.e) (b:=g.e) m3.2.2.2 (hz2 g rfl).2.2.2) ?_
        refine By rfl (λh1=>?_) λh1=>?_
        . have h1:f.e<g.e:=Yny.1 h1
          refine Ia 3 rfl (by decide) ?_
          refine Ar (3+1:Nat) rfl ?_
          exact Bk (3+1,⟨nx (ofO (some g)).a f.a,nx (ofO (some g)).b f.b,nx (ofO (some g)).c f.c,some f.e⟩) [] rfl ⟨by decide,by show _=part (f40 g) f 4;simp[part,ofO,f40,nx,O4.nx,Xu9 h1]⟩ (by show 4-(3+1)<4-3;decide)
        . have h1:¬f.e<g.e:=λe=>h1 (Yny.2 e)
          refine Ar (3+1:Nat) rfl ?_
          exact Bk (3+1,part (ofO (some g)) f 3) [] rfl ⟨by decide,by show _=part (f40 g) f 4;simp[part,ofO,f40,nx,O4.nx,Xva h1]⟩ (by show 4-(3+1)<4-3;decide)
     . obtain rfl:c4=(ofO o2).nx f:=hc4
       refine No rfl (by decide) ?_
       refine Ar (j+1:Nat) rfl ?_
       exact Bk (j+1,some (nxF o2 f)) [] rfl ⟨by omega,hst,λg hg=>by cases hg;exact BdZ.nx hz2 m3⟩ (by show fs.length-(j+1)<fs.length-j;omega) (by exact⟨rfl,by rw[Xqp];rfl,rfl,rfl,rfl⟩)
   . have h:¬(j:Int)<((P.map dV).length:Nat):=h
     rw[W0i] at h
     have hjf:fs.take j=fs:=W0b (by omega)
     refine Ar (k+1:Nat) rfl ?_
     exact Bk (k+1,o2) [] rfl ⟨by omega,by rw[hnext,<-hjf];exact ho2,hz2⟩ (by show l.length-(k+1)<l.length-k;omega) (by exact⟨rfl,rfl,by cases o2<;>rfl,rfl,rfl⟩)
 . have h:¬(k:Int)<((l.map dC).length:Nat):=h
   rw[lC] at h
   rw[W0b (by omega),ho] at ho1
   cases o1 with
   | none=>cases ho1
   | some g =>
    have hg:f40 o=f40 g:=ho1
    obtain rfl:o=g:=by cases o;cases g;simp only[f40,O4.mk.injEq,Option.some.injEq] at hg;obtain⟨rfl,rfl,rfl,rfl⟩:=hg;rfl
    obtain⟨z1,z2,z3,z4⟩:=hz1 o rfl
    refine Dw rfl ?_
    refine Ia 0 rfl (by decide) ?_
    refine Ce rfl (Xfm z1 hd) ?_
    refine Ia 1 rfl (by decide) ?_
    refine Ce rfl (Xfm z2 hd) ?_
    refine Ia 2 rfl (by decide) ?_
    refine Ce rfl (Neg_ok (z:=o.c) (W0l z3 (by decide))) ?_
    refine Ce rfl (Xfm z3.neg hd) ?_
    refine Ia 3 rfl (by decide) ?_
    refine Ce rfl (Neg_ok (z:=o.e) (W0l z4 (by decide))) ?_
    refine Ce rfl (Xfm z4.neg hd) ?_
    exact R0t
end Go.Proofs.YtclgppjdhndgiaaGreatDoor.P55
namespace Go.Proofs.YtclgppjdhndgiaaGreatDoor.P9
open Go Go.Vm Go.Num Go.Tow Go.Proofs.YtclgppjdhndgiaaGreatDoor
abbrev nq(q:Rat): Nm:=⟨0,(),q⟩
theorem Ycy{k:Nat}{q:Rat}: Lf (k:=0) (m:=k) q (rat k q):=by
 show toL k (rat k q)=[q]++_
 rw[Xex];rfl
section
variable{r p s:Nat}{x:Nm}{q:Rat}
theorem Yaq(hr:TS r x.k x.t)(hk:x.k<=8)(hr2:r<=4000000000): C0 304 [.d (dNs [x,nq q])] (·=.tup (.pr (.d (dt x.t)) (.d (.int .i64 0)))):=by
 refine En Tryz.func304 λ_ _ _=>?_
 refine Nd 4 1 rfl ?_
 refine Lo (λ(s:Nat×(Σ m,Tw m))=>[(2,.nil),(3,.d (.int .i64 0)),(4,.d (dt s.2.2)),(9,.d (dNs [x,nq q])),(10,.d (.int .i64 2)),(11,.d (.int .i64 s.1))]) (λ_=>[]) (λs=>(s.1=0/\s.2=⟨0,()⟩)\/(s.1=1/\s.2=⟨x.k,x.t⟩)\/(s.1=2/\s.2=⟨x.k,x.t⟩)) (λs=>2-s.1) (0,⟨0,()⟩) [] rfl (.inl ⟨rfl,rfl⟩) (λ(i,⟨m,T⟩) hI=>?_)
 simp only at hI
 rcases hI with ⟨rfl,e⟩ | ⟨rfl,e⟩ | ⟨rfl,e⟩
 . cases e
   refine Yes rfl (show ((0:Nat):Int)<2 by decide) ?_
   refine Ix 0 rfl (u:=dN x) rfl ?_
   refine Ce rfl (begins_ok (T:=[]) (U:=toT x.k x.t) (p:=1) (λi r h=>by simp at h) (TS.pt hr) (by omega) (by decide)) ?_
   refine By rfl (λh=>?_) λh=>?_
   . obtain⟨kx,tx,ax⟩:=x
     have h:[]=toT kx tx:=by simpa using h
     obtain rfl:kx=0:=by have:=congrArg List.length h;rw[Xaa] at this;exact this.symm
     refine Ar (0+1:Nat) rfl ?_
     exact Bk (1,⟨0,tx⟩) [] rfl (.inr (.inl ⟨rfl,rfl⟩)) (show 1<2 by decide)
   . refine Ce rfl (begins_ok (U:=[]) (q:=1) (TS.pt hr) (λi r h=>by simp at h) (by omega) (by rw[Xaa];omega)) ?_
     refine Yes rfl (by simp) ?_
     refine Ar (0+1:Nat) rfl ?_
     exact Bk (1,⟨x.k,x.t⟩) [] rfl (.inr (.inl ⟨rfl,rfl⟩)) (show 1<2 by decide)
 . cases e
   refine Yes rfl (show ((1:Nat):Int)<2 by decide) ?_
   refine Ix 1 rfl (u:=dN (nq q)) rfl ?_
   refine Ce rfl (begins_ok (T:=toT x.k x.t) (U:=[]) (q:=1) (TS.pt hr) (λi r h=>by simp at h) (by omega) (by rw[Xaa];omega)) ?_
   refine Yes rfl (by simp) ?_
   refine Ar (1+1:Nat) rfl ?_
   exact Bk (2,⟨x.k,x.t⟩) [] rfl (.inr (.inr ⟨rfl,rfl⟩)) (show 0<1 by decide)
 . cases e
   refine No rfl (show ¬((2:Nat):Int)<2 by decide) ?_
   exact R0t
theorem Ylo(hr:TS r x.k x.t)(hp:Sz p (toL x.k x.a))(hq:Qs s q)(hk:x.k<=8)(hr2:r<=4000000000)(hp2:p<=4000000000)(hs2:s<4000000000): C0 213 [.d (dNs [x,nq q])] (·=.tup (.pr (.d (dNs [x,⟨x.k,x.t,rat x.k q⟩])) (.d (.int .i64 0)))):=by
 have hc:=Yaq (q:=q) hr hk hr2
 refine En Tryz.func213 λ_ _ _=>?_
 refine Ce rfl hc ?_
 refine No rfl (by decide) ?_
 refine Nl 6 6 2 rfl ?_
 refine Lo (λ(j:Nat)=>[(2,.nil),(3,.d (.int .i64 0)),(4,.d (dt x.t)),(6,.gr 6 2 (([x,⟨x.k,x.t,rat x.k q⟩].take j).map dN)),(20,.d (dNs [x,nq q])),(21,.d (.int .i64 2)),(22,.d (.int .i64 j))]) (λj=>[(6,.tok (([x,⟨x.k,x.t,rat x.k q⟩].take j).map dN).length 2)])
  (λj=>j<=2) (λj=>2-j) 0 [] rfl (W0x _) (λj hj=>?_)
 have hj:j=0\/j=1\/j=2:=by omega
 rcases hj with rfl | rfl | rfl
 . refine Yes rfl (show ((0:Nat):Int)<2 by decide) ?_
   refine Ix 0 rfl (u:=dN x) rfl ?_
   refine Ce rfl (begins_ok (T:=toT x.k x.t) (U:=toT x.k x.t) (TS.pt hr) (TS.pt hr) (by omega) (by rw[Xaa];omega)) ?_
   refine Yes rfl (W1x ..) ?_
   refine Ce rfl (Xjn (T:=x.t) (Lf.rfl' x.a) (W0c _) (by omega)) ?_
   refine Ce rfl (detach_ok (x:=x) hr hp (by omega) (by omega) (by omega)) ?_
   refine ApG ([x].map dN) rfl (by simp) (by simp) ?_
   refine Ar (0+1:Nat) rfl ?_
   exact Bk 1 [(6,90),(56,6)] rfl (show 1<=2 by decide) (show 2-1<2-0 by decide)
 . refine Yes rfl (show ((1:Nat):Int)<2 by decide) ?_
   refine Ix 1 rfl (u:=dN (nq q)) rfl ?_
   refine Ce rfl (begins_ok (T:=toT x.k x.t) (U:=[]) (q:=1) (TS.pt hr) (λi r h=>by simp at h) (by omega) (by rw[Xaa];omega)) ?_
   refine Yes rfl (by simp) ?_
   refine Ce rfl (Xjn (k:=0) (T:=x.t) (Ycy (q:=q)) (W0x _) (by omega)) ?_
   refine Ce rfl (detach_ok (x:=⟨x.k,x.t,rat x.k q⟩) hr (Sz.rat x.k hq) (show _<=16 by show x.k<=16;omega) (by omega) (by omega)) ?_
   refine ApG ([x,⟨x.k,x.t,rat x.k q⟩].map dN) rfl (by simp) (by simp) ?_
   refine Ar (1+1:Nat) rfl ?_
   exact Bk 2 [(6,90),(56,6)] rfl (show 2<=2 by decide) (show 2-2<2-1 by decide)
 . refine No rfl (show ¬((2:Nat):Int)<2 by decide) ?_
   exact RTt rfl (.cons (.gr rfl) Xax)
theorem Xiy{f:FuncId}{z:Tow.El x.k}(hf:C0 f [.d (dt x.t),.d (de x.a),.d (de (rat x.k q))] (·=.d (de z)))(hr:TS r x.k x.t)(hp:Sz p (toL x.k x.a))(hq:Qs s q)(hk:x.k<=8)(hr2:r<=4000000000)(hp2:p<=4000000000)(hs2:s<4000000000): C0 143 [.d (dN x),.d (dN (nq q)),.d (fnD f)] (·=.tup (.pr (.d (dN ⟨x.k,x.t,z⟩)) (.d (.int .i64 0)))):=by
 refine En Tryz.func143 λ_ _ _=>?_
 refine Ce rfl (Ylo hr hp hq hk hr2 hp2 hs2) ?_
 refine No rfl (by simp) ?_
 refine Ix 0 rfl (u:=dN x) rfl ?_
 refine Dw rfl ?_
 refine Ix 0 rfl (u:=dN x) rfl ?_
 refine Ix 1 rfl (u:=dN ⟨x.k,x.t,rat x.k q⟩) rfl ?_
 refine Ce rfl hf ?_
 exact RTt rfl (.cons (.rf rfl) Xax)
theorem Yok(hr:TS r x.k x.t)(hp:Sz p (toL x.k x.a))(hq:Qs s q)(hk:x.k<=8)(hr2:r<=4000000000)(hp2:p<=2000000000)(hs2:s<2000000000): C0 132 [.d (dN x),.d (dN (nq q))] (·=.tup (.pr (.d (dN ⟨x.k,x.t,Tow.add x.k x.a (rat x.k q)⟩)) (.d (.int .i64 0)))):=by
 refine En Tryz.func132 λ_ _ _=>?_
 refine Ce rfl (Xiy (Xhr hr hp (Sz.rat x.k hq) (by omega) (by omega) (by omega)) hr hp hq hk hr2 (by omega) (by omega)) ?_
 exact R0t
theorem Yln(hr:TS r x.k x.t)(hp:Sz p (toL x.k x.a))(hq:Qs s q)(hk:x.k<=8)(hr2:r<=4000000000)(hp2:p<=2000000000)(hs2:s<2000000000)(hc:cB r x.k<=1000000000): C0 62 [.d (dN x),.d (dN (nq q))] (·=.tup (.pr (.d (dN ⟨x.k,x.t,Tow.mul x.k x.t x.a (rat x.k q)⟩)) (.d (.int .i64 0)))):=by
 refine En Tryz.func62 λ_ _ _=>?_
 refine Ce rfl (Xiy (Xdn hr hp (Sz.rat x.k hq) (by omega) (by omega) (by omega)) hr hp hq hk hr2 (by omega) (by omega)) ?_
 exact R0t
theorem Yar(hr:TS r x.k x.t)(hk:x.k<=8)(hr2:r<=4000000000): C0 304 [.d (dNs [nq q,x])] (·=.tup (.pr (.d (dt x.t)) (.d (.int .i64 0)))):=by
 refine En Tryz.func304 λ_ _ _=>?_
 refine Nd 4 1 rfl ?_
 refine Lo (λ(s:Nat×(Σ m,Tw m))=>[(2,.nil),(3,.d (.int .i64 0)),(4,.d (dt s.2.2)),(9,.d (dNs [nq q,x])),(10,.d (.int .i64 2)),(11,.d (.int .i64 s.1))]) (λ_=>[]) (λs=>(s.1=0/\s.2=⟨0,()⟩)\/(s.1=1/\s.2=⟨0,()⟩)\/(s.1=2/\s.2=⟨x.k,x.t⟩)) (λs=>2-s.1) (0,⟨0,()⟩) [] rfl (.inl ⟨rfl,rfl⟩) (λ(i,⟨m,T⟩) hI=>?_)
 simp only at hI
 rcases hI with ⟨rfl,e⟩ | ⟨rfl,e⟩ | ⟨rfl,e⟩
 . cases e
   refine Yes rfl (show ((0:Nat):Int)<2 by decide) ?_
   refine Ix 0 rfl (u:=dN (nq q)) rfl ?_
   refine Ce rfl (begins_ok (T:=[]) (U:=[]) (p:=1) (q:=1) (λi r h=>by simp at h) (λi r h=>by simp at h) (by omega) (by decide)) ?_
   refine Yes rfl (by simp) ?_
   refine Ar (0+1:Nat) rfl ?_
   exact Bk (1,⟨0,()⟩) [] rfl (.inr (.inl ⟨rfl,rfl⟩)) (show 1<2 by decide)
 . cases e
   refine Yes rfl (show ((1:Nat):Int)<2 by decide) ?_
   refine Ix 1 rfl (u:=dN x) rfl ?_
   refine Ce rfl (begins_ok (T:=[]) (U:=toT x.k x.t) (p:=1) (λi r h=>by simp at h) (TS.pt hr) (by omega) (by decide)) ?_
   refine By rfl (λh=>?_) λh=>?_
   . obtain⟨kx,tx,ax⟩:=x
     have h:[]=toT kx tx:=by simpa using h
     obtain rfl:kx=0:=by have:=congrArg List.length h;rw[Xaa] at this;exact this.symm
     refine Ar (1+1:Nat) rfl ?_
     exact Bk (2,⟨0,tx⟩) [] rfl (.inr (.inr ⟨rfl,rfl⟩)) (show 0<1 by decide)
   . refine Ce rfl (begins_ok (U:=[]) (q:=1) (TS.pt hr) (λi r h=>by simp at h) (by omega) (by rw[Xaa];omega)) ?_
     refine Yes rfl (by simp) ?_
     refine Ar (1+1:Nat) rfl ?_
     exact Bk (2,⟨x.k,x.t⟩) [] rfl (.inr (.inr ⟨rfl,rfl⟩)) (show 0<1 by decide)
 . cases e
   refine No rfl (show ¬((2:Nat):Int)<2 by decide) ?_
   exact R0t
theorem Ylp(hr:TS r x.k x.t)(hp:Sz p (toL x.k x.a))(hq:Qs s q)(hk:x.k<=8)(hr2:r<=4000000000)(hp2:p<=4000000000)(hs2:s<4000000000): C0 213 [.d (dNs [nq q,x])] (·=.tup (.pr (.d (dNs [⟨x.k,x.t,rat x.k q⟩,x])) (.d (.int .i64 0)))):=by
 have hc:=Yar (q:=q) hr hk hr2
 refine En Tryz.func213 λ_ _ _=>?_
 refine Ce rfl hc ?_
 refine No rfl (by decide) ?_
 refine Nl 6 6 2 rfl ?_
 refine Lo (λ(j:Nat)=>[(2,.nil),(3,.d (.int .i64 0)),(4,.d (dt x.t)),(6,.gr 6 2 (([⟨x.k,x.t,rat x.k q⟩,x].take j).map dN)),(20,.d (dNs [nq q,x])),(21,.d (.int .i64 2)),(22,.d (.int .i64 j))]) (λj=>[(6,.tok (([⟨x.k,x.t,rat x.k q⟩,x].take j).map dN).length 2)])
  (λj=>j<=2) (λj=>2-j) 0 [] rfl (W0x _) (λj hj=>?_)
 have hj:j=0\/j=1\/j=2:=by omega
 rcases hj with rfl | rfl | rfl
 . refine Yes rfl (show ((0:Nat):Int)<2 by decide) ?_
   refine Ix 0 rfl (u:=dN (nq q)) rfl ?_
   refine Ce rfl (begins_ok (T:=toT x.k x.t) (U:=[]) (q:=1) (TS.pt hr) (λi r h=>by simp at h) (by omega) (by rw[Xaa];omega)) ?_
   refine Yes rfl (by simp) ?_
   refine Ce rfl (Xjn (k:=0) (T:=x.t) (Ycy (q:=q)) (W0x _) (by omega)) ?_
   refine Ce rfl (detach_ok (x:=⟨x.k,x.t,rat x.k q⟩) hr (Sz.rat x.k hq) (show _<=16 by show x.k<=16;omega) (by omega) (by omega)) ?_
   refine ApG ([⟨x.k,x.t,rat x.k q⟩].map dN) rfl (by simp) (by simp) ?_
   refine Ar (0+1:Nat) rfl ?_
   exact Bk 1 [(6,90),(56,6)] rfl (show 1<=2 by decide) (show 2-1<2-0 by decide)
 . refine Yes rfl (show ((1:Nat):Int)<2 by decide) ?_
   refine Ix 1 rfl (u:=dN x) rfl ?_
   refine Ce rfl (begins_ok (T:=toT x.k x.t) (U:=toT x.k x.t) (TS.pt hr) (TS.pt hr) (by omega) (by rw[Xaa];omega)) ?_
   refine Yes rfl (W1x ..) ?_
   refine Ce rfl (Xjn (T:=x.t) (Lf.rfl' x.a) (W0c _) (by omega)) ?_
   refine Ce rfl (detach_ok (x:=x) hr hp (by omega) (by omega) (by omega)) ?_
   refine ApG ([⟨x.k,x.t,rat x.k q⟩,x].map dN) rfl (by simp) (by simp) ?_
   refine Ar (1+1:Nat) rfl ?_
   exact Bk 2 [(6,90),(56,6)] rfl (show 2<=2 by decide) (show 2-2<2-1 by decide)
 . refine No rfl (show ¬((2:Nat):Int)<2 by decide) ?_
   exact RTt rfl (.cons (.gr rfl) Xax)
theorem Xxe{f:FuncId}{z:Tow.El x.k}(hf:C0 f [.d (dt x.t),.d (de (rat x.k q)),.d (de x.a)] (·=.d (de z)))(hr:TS r x.k x.t)(hp:Sz p (toL x.k x.a))(hq:Qs s q)(hk:x.k<=8)(hr2:r<=4000000000)(hp2:p<=4000000000)(hs2:s<4000000000): C0 143 [.d (dN (nq q)),.d (dN x),.d (fnD f)] (·=.tup (.pr (.d (dN ⟨x.k,x.t,z⟩)) (.d (.int .i64 0)))):=by
 refine En Tryz.func143 λ_ _ _=>?_
 refine Ce rfl (Ylp hr hp hq hk hr2 hp2 hs2) ?_
 refine No rfl (by simp) ?_
 refine Ix 0 rfl (u:=dN ⟨x.k,x.t,rat x.k q⟩) rfl ?_
 refine Dw rfl ?_
 refine Ix 0 rfl (u:=dN ⟨x.k,x.t,rat x.k q⟩) rfl ?_
 refine Ix 1 rfl (u:=dN x) rfl ?_
 refine Ce rfl hf ?_
 exact RTt rfl (.cons (.rf rfl) Xax)
theorem Yoh(hR:Xbv x.k x.t)(hr:TS r x.k x.t)(hp:Sz p (toL x.k x.a))(hq:Qs s q)(hk:x.k<=8)(hr2:r<=4000000000)(hp2:p<=2000000000)(hs2:s<2000000000)(hv:vB r x.k (p+s+4)<=4398046511104)(hv2:vB r x.k r<=4398046511104):
 C0 67 [.d (dN x),.d (dN (nq q))] (·=.tup (.pr (.d (.int .i64 (sgn x.k x.t (Tow.add x.k x.a (Tow.neg x.k (rat x.k q)))))) (.d (.int .i64 0)))):=by
 have hS:C0 131 [.d (dN x),.d (dN (nq q))] (·=.tup (.pr (.d (dN ⟨x.k,x.t,Tow.add x.k x.a (Tow.neg x.k (rat x.k q))⟩)) (.d (.int .i64 0)))):=by
  refine En Tryz.func131 λ_ _ _=>?_
  refine Ce rfl (Xiy (Xga hr hp (Sz.rat x.k hq) (by omega) (by omega) (by omega)) hr hp hq hk hr2 (by omega) (by omega)) ?_
  exact R0t
 have hz:Sz (p+s+4) (toL x.k (Tow.add x.k x.a (Tow.neg x.k (rat x.k q)))):=by rw[Xas,Xbo];exact(hp.add (Sz.rat x.k hq).neg).mono (by omega)
 have hG:C0 152 [.d (dN ⟨x.k,x.t,Tow.add x.k x.a (Tow.neg x.k (rat x.k q))⟩)] (·=.d (.int .i64 (sgn x.k x.t (Tow.add x.k x.a (Tow.neg x.k (rat x.k q)))))):=by
  refine En Tryz.func152 λ_ _ _=>?_
  refine Ce rfl (Xgl hr hz hR (show x.k<=16 by omega) hv hv2 (by omega)) ?_
  exact R0
 refine En Tryz.func67 λ_ _ _=>?_
 refine Ce rfl hS ?_
 refine No rfl (by simp) ?_
 refine Ce rfl hG ?_
 exact RTt rfl (.cons (.rf rfl) Xax)
theorem Yoi(hR:Xbv x.k x.t)(hr:TS r x.k x.t)(hp:Sz p (toL x.k x.a))(hq:Qs s q)(hk:x.k<=8)(hr2:r<=4000000000)(hp2:p<=2000000000)(hs2:s<2000000000)(hv:vB r x.k (p+s+4)<=4398046511104)(hv2:vB r x.k r<=4398046511104):
 C0 67 [.d (dN (nq q)),.d (dN x)] (·=.tup (.pr (.d (.int .i64 (sgn x.k x.t (Tow.add x.k (rat x.k q) (Tow.neg x.k x.a))))) (.d (.int .i64 0)))):=by
 have hS:C0 131 [.d (dN (nq q)),.d (dN x)] (·=.tup (.pr (.d (dN ⟨x.k,x.t,Tow.add x.k (rat x.k q) (Tow.neg x.k x.a)⟩)) (.d (.int .i64 0)))):=by
  refine En Tryz.func131 λ_ _ _=>?_
  refine Ce rfl (Xxe (Xga hr (Sz.rat x.k hq) hp (by omega) (by omega) (by omega)) hr hp hq hk hr2 (by omega) (by omega)) ?_
  exact R0t
 have hz:Sz (p+s+4) (toL x.k (Tow.add x.k (rat x.k q) (Tow.neg x.k x.a))):=by rw[Xas,Xbo];exact((Sz.rat x.k hq).add hp.neg).mono (by omega)
 have hG:C0 152 [.d (dN ⟨x.k,x.t,Tow.add x.k (rat x.k q) (Tow.neg x.k x.a)⟩)] (·=.d (.int .i64 (sgn x.k x.t (Tow.add x.k (rat x.k q) (Tow.neg x.k x.a))))):=by
  refine En Tryz.func152 λ_ _ _=>?_
  refine Ce rfl (Xgl hr hz hR (show x.k<=16 by omega) hv hv2 (by omega)) ?_
  exact R0
 refine En Tryz.func67 λ_ _ _=>?_
 refine Ce rfl hS ?_
 refine No rfl (by simp) ?_
 refine Ce rfl hG ?_
 exact RTt rfl (.cons (.rf rfl) Xax)
end
end Go.Proofs.YtclgppjdhndgiaaGreatDoor.P9
namespace Go.Num
def isD(b:UInt8): Bool:=decide (48<=b.toNat)&&decide (b.toNat<=57)
theorem Yni{b:UInt8}: isD b=true↔Xja b:=by simp[isD,Xja]
def z0(l:List UInt8): Bool:=l.all (·==48)
theorem Xhh(l:List UInt8)(x:UInt8): z0 (l++[x])=(z0 l&&x==48):=by simp[z0]
def prT(ng:Bool)(a:List UInt8): List UInt8->Option (Bool×List UInt8×List UInt8)
 | []=>if ng&&z0 a then none else some (ng,a,[])
 | x::b=>if x=46/\b≠[]/\b.all isD=true/\(ng&&z0 (a++b))=false then some (ng,a,b) else none
def prQ(ng:Bool)(q:List UInt8): Option (Bool×List UInt8×List UInt8) :=
 if q.takeWhile isD=[]\/(1<(q.takeWhile isD).length/\(q.takeWhile isD).head?=some 48) then none else prT ng (q.takeWhile isD) (q.dropWhile isD)
def prs(s:List UInt8): Option (Bool×List UInt8×List UInt8) :=
 if 400<s.length then none else match s with
  | []=>none
  | x::t=>if x=45 then prQ true t else prQ false (x::t)
def plc(s:List UInt8): Int:=match prs s with
 | none=>-1
 | some (_,_,b)=>b.length
def Ymg(r:List UInt8): Prop:=∀x t,r=x::t->isD x=false
theorem Ymq{a r:List UInt8}(ha:a.all isD=true)(hr:Ymg r): (a++r).takeWhile isD=a/\(a++r).dropWhile isD=r:=by
 induction a with
 | nil =>
  cases r with
  | nil=>exact⟨rfl,rfl⟩
  | cons x t=>simp[W8d,W4o,hr x t rfl]
 | cons x a ih =>
  simp only[W6r,W0f] at ha
  obtain⟨h1,h2⟩:=ih ha.2
  simp[W8d,W4o,ha.1,h1,h2]
def sgB(ng:Bool): List UInt8:=if ng then [45] else []
theorem Xmd{s a r:List UInt8}{ng:Bool}(hl:s.length<=400)(hs:s=sgB ng++(a++r))(hn:ng=false->s.head?≠some 45)(ha:a.all isD=true)(hr:Ymg r):
 prs s=if a=[]\/(1<a.length/\a.head?=some 48) then none else prT ng a r:=by
 obtain⟨h1,h2⟩:=Ymq ha hr
 have hq:prQ ng (a++r)=if a=[]\/(1<a.length/\a.head?=some 48) then none else prT ng a r:=by
  unfold prQ;rw[h1,h2]
 rw[<-hq]
 unfold prs
 rw[if_neg (by omega)]
 cases ng with
 | true=>subst hs;simp[sgB]
 | false =>
  have hn:=hn rfl
  have hs:s=a++r:=hs
  rw[<-hs]
  cases s with
  | nil=>simp[prQ]
  | cons x t =>
   have:¬x=45:=λe=>hn (by rw[e];rfl)
   simp[this]
def ptB(b:List UInt8): List UInt8:=if b=[] then [] else 46::b
theorem Xzf{ng n':Bool}{a a' b r:List UInt8}(h:prT ng a r=some (n',a',b)): n'=ng/\a'=a/\r=ptB b/\b.all isD=true:=by
 cases r with
 | nil =>
  simp only[prT] at h
  split at h
  . cases h
  . injection h with h;cases h;exact⟨rfl,rfl,rfl,rfl⟩
 | cons x t =>
  simp only[prT] at h
  split at h
  . rename_i hc
    injection h with h;cases h
    exact⟨rfl,rfl,by rw[ptB,if_neg hc.2.1,hc.1],hc.2.2.1⟩
  . cases h
theorem Xtd(l:List UInt8): (l.takeWhile isD).all isD=true:=by
 induction l with
 | nil=>rfl
 | cons x l ih =>
  rw[W8d]
  split
  . rename_i h;simp[h,ih]
  . rfl
theorem Xql{ng n':Bool}{q a b:List UInt8}(h:prQ ng q=some (n',a,b)): n'=ng/\q=a++ptB b/\a≠[]/\a.all isD=true/\b.all isD=true:=by
 unfold prQ at h
 split at h
 . cases h
 . rename_i hc
   obtain⟨h1,h2,h3,h4⟩:=Xzf h
   subst h2
   refine⟨h1,?_,λe=>hc (.inl e),?_,h4⟩
   . rw[<-h3,W6d]
   . exact Xtd q
theorem Xqk{s a b:List UInt8}{ng:Bool}(h:prs s=some (ng,a,b)): s.length<=400/\s=sgB ng++(a++ptB b)/\a≠[]/\a.all isD=true/\b.all isD=true:=by
 unfold prs at h
 split at h
 . cases h
 . split at h
   . cases h
   . split at h
     . rename_i hx
       obtain⟨h1,h2,h3⟩:=Xql h
       refine⟨by omega,?_,h3⟩
       rw[h1,hx,h2];rfl
     . obtain⟨h1,h2,h3⟩:=Xql h
       refine⟨by omega,?_,h3⟩
       rw[h1,h2];rfl
def stp(q:Nat×Nat×Bool)(x:UInt8): Nat×Nat×Bool :=
 if x=46 then (q.1,q.2.1,true) else if isD x then (10*q.1+(x.toNat-48),if q.2.2 then q.2.1+1 else q.2.1,q.2.2) else q
theorem Xtr{x:UInt8}(h:isD x=true)(q:Nat×Nat×Bool): stp q x=(10*q.1+(x.toNat-48),if q.2.2 then q.2.1+1 else q.2.1,q.2.2):=by
 have:¬x=46:=λe=>by rw[e] at h;revert h;decide
 rw[stp,if_neg this,if_pos h]
theorem Xra{l:List UInt8}(h:l.all isD=true)(n p:Nat)(pt:Bool): l.foldl stp (n,p,pt)=(n*10^l.length+Xb9 l,if pt then p+l.length else p,pt):=by
 induction l using Xfk with
 | h0=>cases pt<;>simp[Xb9]
 | hs l x ih =>
  rw[W5e,W0f] at h
  rw[W7k,ih h.1,W7s,List.foldl_nil,Xtr (by simpa using h.2),Xcf,W0d,W4f,W0q]
  have:n*(10^l.length*10)=10*(n*10^l.length):=by rw[W1f (10^l.length) 10,W4c]
  cases pt<;>simp<;>omega
theorem Xz6{s a b:List UInt8}{ng:Bool}(hs:s=sgB ng++(a++ptB b))(ha:a.all isD=true)(hb:b.all isD=true): ∃pt,s.foldl stp (0,0,false)=(Xb9 (a++b),b.length,pt):=by
 have h1:(sgB ng).foldl stp (0,0,false)=(0,0,false):=by cases ng<;>decide
 rw[hs,W7k,h1,W7k,Xra ha]
 by_cases hb0:b=[]
 . subst hb0;exact⟨false,by simp[ptB]⟩
 . refine⟨true,?_⟩
   rw[ptB,if_neg hb0,W7s,show stp (0*10^a.length+Xb9 a,if false=true then 0+a.length else 0,false) 46=(Xb9 a,0,true) by simp[stp],Xra hb,Xhd]
   simp
def fr(ng:Bool)(a b:List UInt8): Rat:=if ng then -(((Xb9 (a++b):Int):Rat)/((10^b.length:Int):Rat)) else ((Xb9 (a++b):Int):Rat)/((10^b.length:Int):Rat)
end Go.Num
namespace Go.Proofs.YtclgppjdhndgiaaGreatDoor
open Go Go.Vm Go.Num
theorem Xw3(b:UInt8): Yf6[b.toNat]?=some (Yhe.contains b):=by
 have hb:=UInt8.toNat_lt b
 unfold Yf6
 rw[W0t,List.getElem?_range hb]
 simp
theorem Xlh: Yf6.length=256:=by unfold Yf6;rw[W0i,List.length_range]
theorem Ygz{s:List UInt8}(hs:Tx s): C0 140 [.d (.str s),.d (.str Yhe)] (·=.d (.str ((Xpg Yhe.contains s).dropWhile Yhe.contains))):=by
 refine En Tryz.func140 λ_ _ _=>?_
 refine By rfl (λh=>?_) λh=>?_
 . subst h;exact R1 rfl (.eq rfl)
 refine No rfl (by decide) ?_
 refine No rfl (by decide) ?_
 refine Ce rfl Xie ?_
 refine Yes rfl rfl ?_
 refine Va 7 5 900 256 (Yf6.map D.bool) rfl (Xnc (by decide)) (by intro x hx;obtain⟨b,_,rfl⟩:=W4e.1 hx;rfl) (by rw[W0i,Xlh]) ?_
 refine Cn (args:=[.d (.str s),.ap 1000001 256]) [(1000001,900)] rfl (Xf5 Xlh Xw3 hs) λv hv=>?_
 subst hv
 have ht:Tx (Xpg Yhe.contains s):=by
  have h1:(Xpg Yhe.contains s).length<=s.length:=by
   unfold Xpg;rw[List.length_reverse]
   exact W0l (List.Sublist.length_le (List.dropWhile_sublist _)) (by simp)
  exact W1y h1 hs
 refine Cn (args:=[.d (.str (Xpg Yhe.contains s)),.ap 1000001 256]) [(1000001,900)] rfl (Xgy Xlh Xw3 ht) λv hv=>?_
 subst hv
 exact R1 rfl (.eq rfl)
end Go.Proofs.YtclgppjdhndgiaaGreatDoor
namespace Go.Num
open Go.Proofs.YtclgppjdhndgiaaGreatDoor
section
theorem Xws{f:UInt8->Bool}: ∀ {l:List UInt8},l.dropWhile f=[]↔l.all f=true
 | []=>by simp
 | x::l=>by
  rw[W4o,W6r]
  cases h:f x with
  | true=>simpa using Xws (l:=l)
  | false=>simp
theorem Xyq{f:UInt8->Bool}(s:List UInt8): (Xpg f s).dropWhile f=[]↔s.all f=true:=by
 induction s using Xfk with
 | h0=>simp[Xpg]
 | hs s x ih =>
  rw[Xho,W5e]
  cases h:f x with
  | true=>rw[if_pos rfl,ih];simp[h]
  | false=>rw[if_neg (by simp),Xws,W5e]
theorem Yak(b:UInt8): Yhe.contains b=isD b:=by
 have key:∀n:Fin 256,Yhe.contains (UInt8.ofNat n.val)=isD (UInt8.ofNat n.val):=by decide +kernel
 have:=key ⟨b.toNat,UInt8.toNat_lt b⟩
 simpa using this
theorem Yal(s:List UInt8): s.all Yhe.contains=s.all isD:=by
 congr 1
 funext b;exact Yak b
theorem Ymh(s:List UInt8): trL 48 s=[]↔z0 s=true:=by
 unfold trL z0;rw[Xws]
theorem Yiv{s q:List UInt8}{ng:Bool}(hl:s.length<=400)(hs:s=sgB ng++q)(hn:ng=false->s.head?≠some 45)(h:(46:UInt8) ∉ q):
 prs s=if q=[]\/(1<q.length/\q.head?=some 48)\/q.all isD=false then none else if ng&&z0 q then none else some (ng,q,[]):=by
 by_cases hd:q.all isD=true
 . rw[Xmd (a:=q) (r:=[]) hl (by rw[W3g];exact hs) hn hd (λx t e=>nomatch e)]
   simp only[hd,Bool.true_eq_false,or_false]
   rfl
 . rw[if_pos (.inr (.inr (by simpa using hd)))]
   have hq:q=q.takeWhile isD++q.dropWhile isD:=(W6d ..).symm
   obtain⟨x,r,hr⟩:∃x r,q.dropWhile isD=x::r:=by
    cases h:q.dropWhile isD with
    | nil=>exact absurd (Xws.1 h) hd
    | cons x r=>exact⟨x,r,rfl⟩
   have hx:isD x=false:=by
    have:=W7e isD q
    rw[hr] at this
    simpa using this
   have hx46:x≠46:=λe=>h (by rw[hq,hr,e];simp)
   rw[hr] at hq
   rw[Xmd (a:=q.takeWhile isD) (r:=x::r) hl (by rw[<-hq];exact hs) hn (Xtd q) (λy t e=>by cases e;exact hx)]
   split
   . rfl
   . show (if x=46/\_ then _ else none)=none
     rw[if_neg λh=>hx46 h.1]
theorem Yiu{s u t:List UInt8}{ng:Bool}(hl:s.length<=400)(hs:s=sgB ng++(u++46::t))(hn:ng=false->s.head?≠some 45)(h:(46:UInt8) ∉ u):
 prs s=if u=[]\/t=[]\/(1<u.length/\u.head?=some 48)\/(u++t).all isD=false then none else if ng&&z0 (u++t) then none else some (ng,u,t):=by
 by_cases hd:u.all isD=true
 . rw[Xmd (a:=u) (r:=46::t) hl hs hn hd (λx r e=>by cases e;decide)]
   by_cases hu:u=[]\/(1<u.length/\u.head?=some 48)
   . rw[if_pos hu,if_pos (hu.elim .inl λh=>.inr (.inr (.inl h)))]
   . rw[if_neg hu]
     show (if (46:UInt8)=46/\t≠[]/\t.all isD=true/\(ng&&z0 (u++t))=false then some (ng,u,t) else none)=_
     rw[not_or] at hu
     by_cases ht:t=[]
     . rw[if_neg (λh=>h.2.1 ht),if_pos (.inr (.inl ht))]
     . by_cases hta:t.all isD=true
       . rw[if_neg (c:=u=[]\/_) (by
          rintro(h | h | h | h)
          . exact hu.1 h
          . exact ht h
          . exact hu.2 h
          . rw[W5e,hd,hta] at h;cases h)]
         cases hz:(ng&&z0 (u++t)) with
         | true=>simp
         | false=>simp[ht,hta]
       . rw[if_neg (λh=>hta h.2.2.1),if_pos (.inr (.inr (.inr (by rw[W5e,hd];simpa using hta))))]
 . have hf:(u++t).all isD=false:=by
    rw[W5e]
    have:u.all isD=false:=by simpa using hd
    rw[this];rfl
   rw[if_pos (.inr (.inr (.inr hf)))]
   have hq:u=u.takeWhile isD++u.dropWhile isD:=(W6d ..).symm
   obtain⟨x,r,hr⟩:∃x r,u.dropWhile isD=x::r:=by
    cases h:u.dropWhile isD with
    | nil=>exact absurd (Xws.1 h) hd
    | cons x r=>exact⟨x,r,rfl⟩
   have hx:isD x=false:=by
    have:=W7e isD u
    rw[hr] at this
    simpa using this
   have hx46:x≠46:=λe=>h (by rw[hq,hr,e];simp)
   rw[hr] at hq
   rw[Xmd (a:=u.takeWhile isD) (r:=x::(r++46::t)) hl (by rw[hs];congr 1;rw[<-W3r,<-W2i,<-hq]) hn (Xtd u) (λy t e=>by cases e;exact hx)]
   split
   . rfl
   . show (if x=46/\_ then _ else none)=none
     rw[if_neg λh=>hx46 h.1]
end
section
theorem Xqn{k m d:Nat}(hd:d<10)(hm:m<10^(k+1)): pad k (dec m)++[UInt8.ofNat (48+d)]=pad (k+1) (dec (10*m+d)):=by
 by_cases h0:m=0
 . subst h0
   rw[show 10*0+d=d by omega,Xdk hd,Xdk (show 0<10 by decide)]
   show List.replicate (k+1-1) 48++[UInt8.ofNat (48+0)]++[UInt8.ofNat (48+d)]=List.replicate (k+1+1-1) 48++[UInt8.ofNat (48+d)]
   rw[show k+1+1-1=k+1-1+1 by omega,W6p]
   rfl
 . have e:dec (10*m+d)=dec m++[UInt8.ofNat (48+d)]:=by
    rw[Xf0 (show 10<=10*m+d by omega),show (10*m+d)/10=m by omega,show (10*m+d)%10=d by omega]
   rw[e]
   unfold pad
   rw[W0d,W4f,show k+1+1-((dec m).length+1)=k+1-(dec m).length by omega,W2i]
theorem Xw6: ∀(k n:Nat),10^(k+1)<=n->dec n=dec (n/10^(k+1))++pad k (dec (n%10^(k+1)))
 | 0,n,h=>by
  have h:10<=n:=h
  rw[Xf0 h]
  show _=dec (n/10)++pad 0 (dec (n%10))
  rw[Xdk (n:=n%10) (W2d _ (by decide))]
  rfl
 | k+1,n,h=>by
  have e1:10^(k+1+1)=10*10^(k+1):=by rw[W0q];omega
  have hp:0<10^(k+1):=W6s (by decide)
  have h10:10<=n:=by omega
  have ih:=Xw6 k (n/10) (by rw[W7r (by decide)];omega)
  have hm:n/10%10^(k+1)<10^(k+1):=W2d _ hp
  rw[Xf0 h10,ih,W2i,Xqn (W2d _ (by decide)) hm,W6h,<-e1]
  congr 3
  have:=Nat.mod_mul (a:=10) (b:=10^(k+1)) (x:=n)
  rw[e1,this];omega
def cks(n:Nat): List Nat:=if h:n=0 then [] else n%1000000000::cks (n/1000000000)
termination_by n
decreasing_by omega
theorem Xep: cks 0=[]:=by rw[cks,dif_pos rfl]
theorem Xe9{n:Nat}(h:n≠0): cks n=n%1000000000::cks (n/1000000000):=by rw[cks,dif_neg h]
theorem Ykt: ∀(n c:Nat),c∈cks n->c<1000000000:=λn=>by
 induction n using Nat.strongRecOn with
 | _ n ih =>
  intro c hc
  by_cases h:n=0
  . subst h;rw[Xep] at hc;cases hc
  . rw[Xe9 h,W1i] at hc
    rcases hc with rfl | hc
    . omega
    . exact ih _ (by omega) c hc
theorem Xxj: ∀ {k n:Nat},n<4294967296^k->(cks n).length<=2*k
 | 0,n,h=>by
  have:n=0:=by simpa using h
  subst this;rw[Xep];exact W0c _
 | k+1,n,h=>by
  by_cases h0:n=0
  . subst h0;rw[Xep];exact W0x _
  . rw[Xe9 h0]
    by_cases h1:n/1000000000=0
    . rw[h1,Xep];simp;omega
    . rw[Xe9 h1]
      have:=Xxj (k:=k) (n:=n/1000000000/1000000000) (by
       rw[W0q] at h
       rw[W6h,W2t (by decide)]
       refine W0s h (W0p _ (by decide)))
      simp only[W0k];omega
def Xzm: List Nat->List UInt8
 | []=>[]
 | [c]=>dec c
 | c::e::l=>Xzm (e::l)++pad 8 (dec c)
theorem Xzl: ∀n,n≠0->Xzm (cks n)=dec n:=λn=>by
 induction n using Nat.strongRecOn with
 | _ n ih =>
  intro h
  rw[Xe9 h]
  by_cases h2:n/1000000000=0
  . rw[h2,Xep]
    show dec (n%1000000000)=_
    congr 1;omega
  . have:=ih (n/1000000000) (by omega) h2
    rw[Xe9 h2] at this |-
    show Xzm (n/1000000000%1000000000::cks (n/1000000000/1000000000))++pad 8 (dec (n%1000000000))=_
    rw[this]
    exact(Xw6 8 n (by show 1000000000<=n;omega)).symm
theorem Xuu{c:Nat}{l:List Nat}(h:l≠[]): Xzm (c::l)=Xzm l++pad 8 (dec c):=by
 cases l with
 | nil=>exact absurd rfl h
 | cons e l=>rfl
end
section
theorem Yph{l:List UInt8}: l.all isD=true↔∀b∈l,Xja b:=by
 rw[W1s]
 exact⟨λh b hb=>Yni.1 (h b hb),λh b hb=>Yni.2 (h b hb)⟩
theorem Xwt{l:List UInt8}(h:z0 l=true): Xb9 l=0:=by
 induction l using Xfk with
 | h0=>rfl
 | hs l x ih =>
  rw[Xhh,W0f,beq_iff_eq] at h
  rw[Xcf,ih h.1,h.2];rfl
theorem Yf8: ∀(k:Nat) (l:List UInt8),l.length=k+1->(∀b∈l,Xja b)->pad k (dec (Xb9 l))=l:=λk=>by
 induction k with
 | zero =>
  intro l hl hd
  match l,hl with
  | [x],_ =>
   have hx:=hd x (by simp)
   unfold Xja at hx
   rw[Xrk,Xdk (by omega)]
   show [UInt8.ofNat (48+(x.toNat-48))]=[x]
   rw[show 48+(x.toNat-48)=x.toNat by omega];simp
 | succ k ih =>
  intro l hl hd
  obtain⟨m,x,rfl⟩:∃m x,l=m++[x]:=⟨l.dropLast,l.getLast (by intro e;rw[e] at hl;simp at hl),(List.dropLast_concat_getLast _).symm⟩
  have hm:m.length=k+1:=by simpa using hl
  have hdm:∀b∈m,Xja b:=λb hb=>hd b (by simp[hb])
  have hx:=hd x (by simp)
  unfold Xja at hx
  have h1:=Xis hdm
  rw[hm] at h1
  rw[Xcf,<-Xqn (by omega) h1,ih m hm hdm,show 48+(x.toNat-48)=x.toNat by omega]
  simp
def frI(ng:Bool)(a b:List UInt8): Int:=if ng then -(Xb9 (a++b):Int) else (Xb9 (a++b):Int)
theorem Xjg(n:Nat): ((10^n:Int):Rat)≠0:=λh=>by
 have:(10^n:Int)=0:=Rat.intCast_inj.1 (by rw[h];rfl)
 have:=W6g (n:=10) (m:=n) (by decide)
 omega
theorem Xq8(ng:Bool)(a b:List UInt8): fr ng a b=((frI ng a b:Int):Rat)/((10^b.length:Int):Rat):=by
 unfold fr frI
 split
 . rw[Rat.intCast_neg,W5x,W5x,Rat.neg_mul]
 . rfl
end
end Go.Num
namespace Go.Proofs.YtclgppjdhndgiaaGreatDoor
open Go Go.Num Go.Tow
abbrev scl(k:Nat)(t:Tw k)(a:El k)(u h:Rat): El k:=add k (mul k t a (rat k u)) (rat k h)
section
variable{k:Nat}{t:Tw k}{a:El k}
theorem Xl0(hR:Xbv k t){q:Rat}(hq:0<q): sgn k t (mul k t a (rat k q))=sgn k t a:=by
 rw[(Xav hR).sm,Xe1 hR,Xbh hq,W4w]
theorem Xzq(hR:Xbv k t){u c d:Rat}(hu:0<u)(hc:c*u=d): le k t (rat k c) a↔le k t (rat k d) (mul k t a (rat k u)):=by
 have L:=Xbc k t
 have e:add k (mul k t a (rat k u)) (neg k (rat k d))=mul k t (add k a (neg k (rat k c))) (rat k u):=by
  rw[L.dm,<-Xh1,<-Xh1,<-Xc6,<-hc,Rat.neg_mul]
 unfold le
 rw[e,Xl0 hR hu]
theorem Xz4(hR:Xbv k t){u c d:Rat}(hu:0<u)(hc:c*u=d): le k t a (rat k c)↔le k t (mul k t a (rat k u)) (rat k d):=by
 have L:=Xbc k t
 have hn:∀x:El k,neg k (mul k t x (rat k u))=mul k t (neg k x) (rat k u):=λx=>(L.nm x _).symm
 have e:add k (rat k d) (neg k (mul k t a (rat k u)))=mul k t (add k (rat k c) (neg k a)) (rat k u):=by
  rw[L.dm,hn,<-Xc6,<-hc]
 unfold le
 rw[e,Xl0 hR hu]
theorem Xtg{u:Rat}: toL k (mul k t a (rat k u))=(toL k a).map (u*·):=by rw[(Xbc k t).mc,Xkh]
theorem Xfq{m n:Nat}{u:Rat}(ha:MgL m (toL k a))(hu:Qs n u): MgL (n+m) (toL k (mul k t a (rat k u))):=λx hx=>by
 rw[Xtg] at hx
 obtain⟨y,hy,rfl⟩:=W4e.1 hx
 exact hu.mul (ha y hy)
theorem Xvg{n:Nat}{h:Rat}(hh:Qs n h)(h1:1<=n): MgL n (toL k (rat k h)):=λx hx=>by
 rw[Xex] at hx
 rcases W1i.1 hx with rfl | hx
 . exact hh
 . obtain rfl:=(W6f.1 hx).2
   exact Qs.int (z:=0) (by unfold Zs;exact W6s (by decide)) h1
theorem Xvh{m n:Nat}{b:El k}(ha:MgL m (toL k a))(hb:MgL n (toL k b)): MgL (m+n+1) (toL k (add k a b)):=λx hx=>by
 rw[Xas] at hx
 obtain⟨i,hi⟩:=W4r hx
 rw[W6m] at hi
 split at hi
 . rename_i y z hy hz
   cases hi
   exact(ha y (W0h hy)).add (hb z (W0h hz))
 . cases hi
end
end Go.Proofs.YtclgppjdhndgiaaGreatDoor
namespace Go.Proofs.YtclgppjdhndgiaaGreatDoor.R1
open Go Go.Vm Go.Num Go.Proofs.YtclgppjdhndgiaaGreatDoor
end Go.Proofs.YtclgppjdhndgiaaGreatDoor.R1
namespace Go.Proofs.YtclgppjdhndgiaaGreatDoor.R11
open Go Go.Vm Go.Num Go.Proofs.YtclgppjdhndgiaaGreatDoor
section
theorem Xtc{z:Int}(h:z<0): tx z=45::dec z.natAbs:=by rw[tx,if_pos h];rfl
theorem Xtb{z:Int}(h:¬z<0): tx z=dec z.natAbs:=by rw[tx,if_neg h];rfl
end
section
theorem Places_ok{s:List UInt8}(hs:Tx s): C0 85 [.d (.str s)] (·=.d (.int .i64 (plc s))):=by
 refine En Tryz.func85 λ_ _ _=>?_
 refine By rfl (λh=>?_) λh=>?_
 . refine R1 rfl (.eq ?_)
   unfold plc prs;rw[if_pos (by omega)]
 have h400:s.length<=400:=by omega
 refine Cu (some 4) (λ(ng:Bool)=>[(0,.d (.str s)),(3,.d (.int .i64 0)),(19,.b ng)]) (λ_=>[]) (λng=>(∃r,s=sgB ng++r)/\(ng=false->s.head?≠some 45)) rfl ?_ ?_
 . refine By rfl (λh0=>?_) λh0=>?_
   . obtain⟨x,t,hx⟩:∃x t,s=x::t:=by
      cases s with
      | nil=>simp at h0
      | cons x t=>exact⟨x,t,rfl⟩
     refine Yx 0 x rfl (by rw[hx];rfl) ?_
     by_cases h1:x=45
     . refine Jn true [] rfl ⟨⟨t,by rw[hx,h1];rfl⟩,nofun⟩ (by exact⟨by rw[show dc ((x.toNat:Int)=45)=true from Xal.2 (by rw[h1];rfl)];rfl,rfl,rfl,rfl,rfl⟩)
     . refine Jn false [] rfl ⟨⟨s,rfl⟩,λ_ e=>by rw[hx] at e;injection e with e;exact h1 e⟩ (by exact⟨by rw[show dc ((x.toNat:Int)=45)=false from W2m.2 λe=>h1 (Xfh (Xal.1 e))];rfl,rfl,rfl,rfl,rfl⟩)
   . refine Jn false [] rfl ⟨⟨s,rfl⟩,λ_ e=>?_⟩
     cases s with
     | nil=>cases e
     | cons x t=>simp at h0
 rintro ng ⟨hq,hng⟩
 refine Cu none (λ(_:Unit)=>[(0,.d (.str s)),(3,.d (.int .i64 (sgB ng).length))]) (λ_=>[]) (λ_=>True) rfl ?_ ?_
 . cases ng with
   | true =>
    refine Yes rfl rfl ?_
    refine Ar 1 rfl ?_
    exact Jn () [] rfl trivial
   | false =>
    refine No rfl nofun ?_
    exact Jn () [] rfl trivial
 intro _ _
 obtain⟨q,hq⟩:=hq
 have hsl:(sgB ng).length<=1:=by unfold sgB;split<;>simp
 refine Cu (some 1000000) (λ((a,r,zb):List UInt8×List UInt8×Bool)=>[(0,.d (.str s)),(3,.d (.int .i64 ((sgB ng).length+a.length:Nat))),(4,.d (.int .i64 (sgB ng).length)),(5,.b zb)]) (λ_=>[]) (λ(a,r,zb)=>s=sgB ng++(a++r)/\a.all isD=true/\zb=z0 a/\Ymg r) rfl ?_ ?_
 . refine Lo (λ((a,r,zb):List UInt8×List UInt8×Bool)=>[(0,.d (.str s)),(3,.d (.int .i64 ((sgB ng).length+a.length:Nat))),(4,.d (.int .i64 (sgB ng).length)),(5,.b zb)]) (λ_=>[]) (λ(a,r,zb)=>s=sgB ng++(a++r)/\a.all isD=true/\zb=z0 a) (λ(_,r,_)=>r.length) ([],q,true) [] rfl ⟨hq,rfl,rfl⟩ ?_ (by exact⟨rfl,rfl,rfl,rfl,rfl⟩)
   rintro⟨a,r,zb⟩ ⟨hsr,had,hzb⟩
   have hlen:s.length=(sgB ng).length+(a.length+r.length):=by rw[hsr];simp
   cases r with
   | nil =>
    simp only[W3l] at hlen
    refine No rfl (by omega) ?_
    exact Jn (a,[],zb) [] rfl ⟨hsr,had,hzb,λx t e=>by cases e⟩
   | cons x t =>
    simp only[W0k] at hlen
    have hx:s[(sgB ng).length+a.length]?=some x:=by
     rw[hsr,W0o (by omega),W3m,W0o (W0c _),W2v];rfl
    refine Yes rfl (by omega) ?_
    refine Yx ((sgB ng).length+a.length) x rfl hx ?_
    refine By rfl (λh1=>?_) λh1=>?_
    . refine Yx ((sgB ng).length+a.length) x rfl hx ?_
      refine By rfl (λh2=>?_) λh2=>?_
      . have hxd:isD x=true:=Yni.2 ⟨by omega,by omega⟩
        have had':(a++[x]).all isD=true:=by simp[had,hxd]
        have hsr':s=sgB ng++((a++[x])++t):=by rw[hsr];simp
        have hl':(a++[x]).length=a.length+1:=by simp
        refine By rfl (λh3=>?_) λh3=>?_
        . refine Yx ((sgB ng).length+a.length) x rfl hx ?_
          refine Ar ((sgB ng).length+(a++[x]).length:Nat) rfl ?_
          refine Bk (a++[x],t,dc ((x.toNat:Int)=48)) [] rfl ⟨hsr',had',?_⟩ (by show t.length<t.length+1;omega) (by exact⟨rfl,rfl,rfl,rfl,rfl⟩)
          rw[Xhh,<-hzb,h3,W6q]
          exact W3p.2 (Xal.trans ⟨λe=>beq_iff_eq.2 (Xfh e),λe=>by rw[beq_iff_eq.1 e];rfl⟩)
        . refine Ar ((sgB ng).length+(a++[x]).length:Nat) rfl ?_
          refine Bk (a++[x],t,false) [] rfl ⟨hsr',had',?_⟩ (by show t.length<t.length+1;omega) (by exact⟨rfl,rfl,rfl,rfl,rfl⟩)
          rw[Xhh,<-hzb,W2m.2 h3,W7f]
      . exact Jn (a,x::t,zb) [] rfl ⟨hsr,had,hzb,λy u e=>by cases e;exact W2m.2 λe=>h2 (by have:=(Yni.1 e).2;omega)⟩
    . exact Jn (a,x::t,zb) [] rfl ⟨hsr,had,hzb,λy u e=>by cases e;exact W2m.2 λe=>h1 (by have:=(Yni.1 e).1;omega)⟩
 rintro⟨a,r,zb⟩ ⟨hsr,had,hzb,hend⟩
 have hlen:s.length=(sgB ng).length+(a.length+r.length):=by rw[hsr];simp
 have hpr:=Xmd h400 hsr hng had hend
 refine Cu (some 11) (λ(bad:Bool)=>[(0,.d (.str s)),(3,.d (.int .i64 ((sgB ng).length+a.length:Nat))),(4,.d (.int .i64 (sgB ng).length)),(5,.b zb),(62,.b bad)]) (λ_=>[]) (λbad=>bad=true↔(a=[]\/(1<a.length/\a.head?=some 48))) rfl ?_ ?_
 . refine By rfl (λh1=>?_) λh1=>?_
   . exact Jn true [] rfl ⟨λ_=>.inl (W2s.1 (by omega)),λ_=>rfl⟩
   . have ha0:a≠[]:=λe=>h1 (by rw[e];simp)
     refine Ar ((sgB ng).length+1:Nat) rfl ?_
     refine By rfl (λh2=>?_) λh2=>?_
     . obtain⟨x,t,hx⟩:∃x t,a=x::t:=by
        cases a with
        | nil=>exact absurd rfl ha0
        | cons x t=>exact⟨x,t,rfl⟩
       refine Yx (sgB ng).length x rfl (by rw[hsr,W0o (W0c _),W2v,hx];rfl) ?_
       refine Jn (dc ((x.toNat:Int)=48)) [] rfl (Xal.trans ⟨λe=>.inr ⟨by omega,by rw[hx,show x=48 from Xfh e];rfl⟩,λe=>?_⟩)
       rcases e with e | ⟨_,e⟩
       . exact absurd e ha0
       . rw[hx] at e;injection e with e;rw[e];rfl
     . exact Jn false [] rfl ⟨nofun,λe=>e.elim (λe=>absurd e ha0) λe=>absurd e.1 (by omega)⟩
 intro bad hbad
 refine By rfl (λh1=>?_) λh1=>?_
 . refine R1 rfl (.eq ?_)
   unfold plc
   rw[hpr,if_pos (hbad.1 h1)]
 rw[if_neg λe=>h1 (hbad.2 e)] at hpr
 have ha0:a≠[]:=λe=>h1 (hbad.2 (.inl e))
 obtain⟨x0,hx0,hx45⟩:∃x0,s[0]?=some x0/\(x0=45↔ng=true):=by
  cases ng with
  | true=>exact⟨45,by rw[hsr];rfl,by simp⟩
  | false =>
   cases hs0:s with
   | nil=>rw[hs0] at hsr;cases a with
    | nil=>exact absurd rfl ha0
    | cons y a=>cases hsr
   | cons y t =>
    refine⟨y,rfl,λe=>?_,nofun⟩
    have:=hng rfl
    rw[hs0,e] at this
    exact absurd rfl this
 have hfin:∀(zz:Bool),(zz=true/\(x0.toNat:Int)=45)↔(ng&&zz)=true:=λzz=>by
  rw[W0f]
  exact⟨λ⟨h1,h2⟩=>⟨hx45.1 (Xfh h2),h1⟩,λ⟨h1,h2⟩=>⟨h2,by rw[hx45.2 h1];rfl⟩⟩
 cases r with
 | nil =>
  simp only[W3l] at hlen
  refine No rfl (by omega) ?_
  refine No rfl (by omega) ?_
  refine By rfl (λh2=>?_) λh2=>?_
  . refine Yx 0 x0 rfl hx0 ?_
    refine By rfl (λh3=>?_) λh3=>?_
    . refine R1 rfl (.eq ?_)
      unfold plc
      rw[hpr,prT,<-hzb,if_pos ((hfin zb).1 ⟨h2,h3⟩)]
    . refine R1 rfl (.eq ?_)
      unfold plc
      rw[hpr,prT,<-hzb,if_neg λe=>h3 ((hfin zb).2 e).2];rfl
  . refine R1 rfl (.eq ?_)
    unfold plc
    rw[hpr,prT,<-hzb,if_neg λe=>h2 ((hfin zb).2 e).1];rfl
 | cons x t =>
  simp only[W0k] at hlen
  have hx:s[(sgB ng).length+a.length]?=some x:=by
   rw[hsr,W0o (by omega),W3m,W0o (W0c _),W2v];rfl
  refine Yes rfl (by omega) ?_
  refine Yx ((sgB ng).length+a.length) x rfl hx ?_
  refine By rfl (λh2=>?_) λh2=>?_
  . have hx46:x=46:=Xfh h2
    refine Ar ((sgB ng).length+a.length+1:Nat) rfl ?_
    subst hx46
    refine Cu (some 1000002) (λ((b,r,z):List UInt8×List UInt8×Bool)=>[(0,.d (.str s)),(3,.d (.int .i64 ((sgB ng).length+a.length+1+b.length:Nat))),(5,.b z),(6,.d (.int .i64 b.length))]) (λ_=>[]) (λ(b,r,z)=>t=b++r/\b.all isD=true/\z=z0 (a++b)/\Ymg r) rfl ?_ ?_
    . refine Lo (λ((b,r,z):List UInt8×List UInt8×Bool)=>[(0,.d (.str s)),(3,.d (.int .i64 ((sgB ng).length+a.length+1+b.length:Nat))),(5,.b z),(6,.d (.int .i64 b.length))]) (λ_=>[]) (λ(b,r,z)=>t=b++r/\b.all isD=true/\z=z0 (a++b)) (λ(_,r,_)=>r.length) ([],t,zb) [] rfl ⟨rfl,rfl,by rw[W3g];exact hzb⟩ ?_ (by exact⟨rfl,rfl,rfl,rfl,rfl⟩)
      rintro⟨b,r,z⟩ ⟨hbr,hbd,hz⟩
      have hlt:t.length=b.length+r.length:=by rw[hbr];simp
      cases r with
      | nil =>
       simp only[W3l] at hlt
       refine No rfl (by omega) ?_
       exact Jn (b,[],z) [] rfl ⟨hbr,hbd,hz,λx t e=>by cases e⟩
      | cons x r =>
       simp only[W0k] at hlt
       have hx:s[(sgB ng).length+a.length+1+b.length]?=some x:=by
        rw[hsr,W0o (by omega),W0o (by omega),show (sgB ng).length+a.length+1+b.length-(sgB ng).length-a.length=b.length+1 by omega,List.getElem?_cons_succ,hbr,W0o (W0c _),W2v];rfl
       refine Yes rfl (by omega) ?_
       refine Yx ((sgB ng).length+a.length+1+b.length) x rfl hx ?_
       refine By rfl (λh1=>?_) λh1=>?_
       . refine Yx ((sgB ng).length+a.length+1+b.length) x rfl hx ?_
         refine By rfl (λh2=>?_) λh2=>?_
         . have hxd:isD x=true:=Yni.2 ⟨by omega,by omega⟩
           have hbd':(b++[x]).all isD=true:=by simp[hbd,hxd]
           have hbr':t=(b++[x])++r:=by rw[hbr];simp
           have hl':(b++[x]).length=b.length+1:=by simp
           refine By rfl (λh3=>?_) λh3=>?_
           . refine Yx ((sgB ng).length+a.length+1+b.length) x rfl hx ?_
             refine Ar ((sgB ng).length+a.length+1+(b++[x]).length:Nat) rfl ?_
             refine Ar ((b++[x]).length:Nat) rfl ?_
             refine Bk (b++[x],r,dc ((x.toNat:Int)=48)) [] rfl ⟨hbr',hbd',?_⟩ (by show r.length<r.length+1;omega) (by exact⟨rfl,rfl,rfl,rfl,rfl⟩)
             rw[<-W2i,Xhh,<-hz,h3,W6q]
             exact W3p.2 (Xal.trans ⟨λe=>beq_iff_eq.2 (Xfh e),λe=>by rw[beq_iff_eq.1 e];rfl⟩)
           . refine Ar ((sgB ng).length+a.length+1+(b++[x]).length:Nat) rfl ?_
             refine Ar ((b++[x]).length:Nat) rfl ?_
             refine Bk (b++[x],r,false) [] rfl ⟨hbr',hbd',?_⟩ (by show r.length<r.length+1;omega) (by exact⟨rfl,rfl,rfl,rfl,rfl⟩)
             rw[<-W2i,Xhh,<-hz,W2m.2 h3,W7f]
         . exact Jn (b,x::r,z) [] rfl ⟨hbr,hbd,hz,λy u e=>by cases e;exact W2m.2 λe=>h2 (by have:=(Yni.1 e).2;omega)⟩
       . exact Jn (b,x::r,z) [] rfl ⟨hbr,hbd,hz,λy u e=>by cases e;exact W2m.2 λe=>h1 (by have:=(Yni.1 e).1;omega)⟩
    rintro⟨b,r,z⟩ ⟨hbr,hbd,hz,hend2⟩
    have hlt:t.length=b.length+r.length:=by rw[hbr];simp
    have hall:r≠[]->¬(t≠[]/\t.all isD=true):=λhr ⟨_,h⟩=>by
     cases r with
     | nil=>exact hr rfl
     | cons y r =>
      rw[hbr,W5e,W0f,W6r,W0f,hend2 y r rfl] at h
      cases h.2.1
    refine By rfl (λh3=>?_) λh3=>?_
    . refine R1 rfl (.eq ?_)
      have hb:b=[]:=W2s.1 (by omega)
      unfold plc
      rw[hpr,prT,if_neg λe=>?_]
      cases hr:r with
      | nil=>rw[hb,hr] at hbr;exact e.2.1 hbr
      | cons y u=>exact hall (by rw[hr];nofun) ⟨e.2.1,e.2.2.1⟩
    . cases hr:r with
      | cons y u =>
       rw[hr] at hlt
       simp only[W0k] at hlt
       refine Yes rfl (by omega) ?_
       refine R1 rfl (.eq ?_)
       unfold plc
       rw[hpr,prT,if_neg λe=>hall (by rw[hr];nofun) ⟨e.2.1,e.2.2.1⟩]
      | nil =>
       rw[hr] at hlt
       simp only[W3l] at hlt
       have htb:t=b:=by rw[hbr,hr,W3g]
       refine No rfl (by omega) ?_
       have hall2:(t≠[]/\t.all isD=true):=⟨λe=>by rw[<-htb,e] at h3;exact h3 rfl,by rw[htb];exact hbd⟩
       have hfin2:=hfin z
       rw[hz,<-htb] at hfin2
       refine By rfl (λh4=>?_) λh4=>?_
       . refine Yx 0 x0 rfl hx0 ?_
         refine By rfl (λh5=>?_) λh5=>?_
         . refine R1 rfl (.eq ?_)
           unfold plc
           rw[hpr,prT,if_neg λe=>by
            have:=hfin2.1 ⟨by rw[htb,<-hz];exact h4,h5⟩
            rw[e.2.2.2] at this;cases this]
         . refine R1 rfl (.eq ?_)
           unfold plc
           rw[hpr,prT,if_pos ⟨rfl,hall2.1,hall2.2,W2m.2 λe=>h5 (hfin2.2 e).2⟩,htb]
       . refine R1 rfl (.eq ?_)
         unfold plc
         rw[hpr,prT,if_pos ⟨rfl,hall2.1,hall2.2,W2m.2 λe=>h4 (by have:=(hfin2.2 e).1;rw[hz,<-htb];exact this)⟩,htb]
  . refine Yes rfl (by omega) ?_
    refine R1 rfl (.eq ?_)
    unfold plc
    rw[hpr,prT,if_neg λe=>h2 (by rw[e.1];rfl)]
end
section
theorem p10(n:Nat): Zs (4*n+1) (10^n:Int):=by
 have:(10^n:Int)=((10^n:Nat):Int):=by simp
 rw[this]
 show 10^n<2^(4*n+1)
 have h1:10^n<=16^n:=W6c (by decide) n
 have h2:2^(4*n+1)=16^n*2:=by rw[W0q,W4y]
 have h3:0<16^n:=W6s (by decide)
 omega
theorem di1(n:Int): Rat.divInt n 1=(n:Rat):=by
 rw[W3b]
 have:((1:Int):Rat)=1:=rfl
 grind
def pw(b:Nat): Rat:=((2^b:Int):Rat)
theorem Xcy{n:Nat}(hn:n<=400): C0 84 [.d (.int .i64 n)] (·=.d (dq ((10^n:Int):Rat))):=by
 refine En Tryz.func84 λ_ _ _=>?_
 refine Ce rfl (R1.FromInt_ok (z:=10) (by decide)) ?_
 refine Ce rfl (R1.Pow_ok (z:=10) (q:=4) (by unfold Zs;decide) (by omega) (by decide)) ?_
 refine Dw rfl ?_
 refine Ce rfl (R1.FromInt_ok (z:=1) (by decide)) ?_
 refine Ce rfl (R2.Make_ok (p:=4*n+1) (p10 n) (Zs.one (by omega)) (by omega) (by decide)) ?_
 exact R1 rfl (.eq (by rw[di1]))
def dq0: D:=.st (.pr (dS false []) (dS false []))
theorem Parse_no{s:List UInt8}(hs:Tx s)(h:prs s=none): C0 81 [.d (.str s)] (·=.tup (.pr (.d dq0) (.d (.int .i64 2)))):=by
 have hp:plc s=-1:=by unfold plc;rw[h]
 refine En Tryz.func81 λ_ _ _=>?_
 refine Ce rfl (show C0 _ _ (·=.d (.int .i64 (-1))) by rw[<-hp];exact Places_ok hs) ?_
 refine Yes rfl (by decide) ?_
 refine RTt rfl (.cons (.sd (.pd (.sd (.pd (.bd rfl) (.nil rfl))) (.sd (.pd (.bd rfl) (.nil rfl))))) (.one (.rf rfl) (λ_ _ e=>by cases e) (λ_ _ e=>by cases e)))
theorem Yqd{s a r:List UInt8}{ng:Bool}(hsr:s=sgB ng++(a++r))(ha0:a≠[])(had:a.all isD=true): ∃x0,s[0]?=some x0/\(x0=45↔ng=true):=by
 cases ng with
 | true=>exact⟨45,by rw[hsr];rfl,by simp⟩
 | false =>
  cases a with
  | nil=>exact absurd rfl ha0
  | cons y a =>
   refine⟨y,by rw[hsr];rfl,λe=>?_,nofun⟩
   rw[e,W6r,W0f] at had
   exact absurd had.1 (by decide)
theorem Qn{n i:Nat}(hn:n<10^i)(hi:i<=400): Qs 1601 ((n:Int):Rat):=by
 have:=p10 i
 have e:(10^i:Int)=((10^i:Nat):Int):=by simp
 rw[e] at this
 have h1:Zs (4*i+1) (n:Int):=Nat.lt_trans hn this
 exact Qs.int (h1.mono (by omega)) (by decide)
theorem Parse_yes{s a b:List UInt8}{ng:Bool}(hs:Tx s)(h:prs s=some (ng,a,b)): C0 81 [.d (.str s)] (·=.tup (.pr (.d (dq (fr ng a b))) (.d (.int .i64 0)))):=by
 obtain⟨h400,hsr,ha0,had,hbd⟩:=Xqk h
 have hp:plc s=(b.length:Int):=by unfold plc;rw[h]
 have hbl:b.length<=s.length:=by rw[hsr];unfold ptB;split<;>simp_all<;>omega
 obtain⟨pt,hfold⟩:=Xz6 hsr had hbd
 refine En Tryz.func81 λ_ _ _=>?_
 refine Ce rfl (show C0 _ _ (·=.d (.int .i64 (b.length:Int))) by rw[<-hp];exact Places_ok hs) ?_
 refine No rfl (by omega) ?_
 refine Ce rfl (R2.FromInt_ok (z:=0) (by decide)) ?_
 refine Lo (λ((i,n,p,pt):Nat×Nat×Nat×Bool)=>[(0,.d (.str s)),(2,.ptr 2 0),(4,.ptr 4 0),(5,.d (.int .i64 p)),(6,.b pt),(7,.d (.int .i64 i))]) (λ(i,n,p,pt)=>[(4,.var (.d (dq ((n:Int):Rat)))),(2,.var (.st (.pr (.st (.pr (.b false) .nil)) (.st (.pr (.b false) .nil)))))])
  (λ(i,n,p,pt)=>i<=s.length/\p<=i/\n<10^i/\(s.take i).foldl stp (0,0,false)=(n,p,pt)) (λ(i,_)=>s.length-i) (0,0,0,false) [] rfl ⟨W0x _,W0c _,by decide,rfl⟩ ?_ (by exact⟨rfl,rfl,rfl,rfl,rfl⟩)
 rintro⟨i,n,p,pt⟩ ⟨hi,hpi,hn,hst⟩
 refine By rfl (λhlt=>?_) λhlt=>?_
 . obtain⟨x,hx⟩:∃x,s[i]?=some x:=⟨_,W0a (by omega)⟩
   have htk:(s.take (i+1)).foldl stp (0,0,false)=stp (n,p,pt) x:=by
    rw[W1c,hx,W7k,hst];rfl
   have hgo:n<10^(i+1):=W0s hn (W0m (by decide) (by omega))
   refine Yx i x rfl hx ?_
   refine By rfl (λh1=>?_) λh1=>?_
   . have hx46:x=46:=Xfh h1
     have e:stp (n,p,pt) x=(n,p,true):=by rw[stp,if_pos hx46]
     refine Yx i x rfl hx ?_
     refine No rfl (by omega) ?_
     refine Ar (i+1:Nat) rfl ?_
     exact Bk (i+1,n,p,true) [] rfl ⟨by omega,by omega,hgo,by rw[htk,e]⟩ (by show s.length-(i+1)<s.length-i;omega) (by exact⟨rfl,rfl,rfl,rfl,rfl⟩)
   . have hx46:¬x=46:=λe=>h1 (by rw[e];rfl)
     have e0:¬isD x=true->stp (n,p,pt) x=(n,p,pt):=λhd=>by rw[stp,if_neg hx46,if_neg hd]
     refine Yx i x rfl hx ?_
     refine By rfl (λh2=>?_) λh2=>?_
     . refine Yx i x rfl hx ?_
       refine By rfl (λh3=>?_) λh3=>?_
       . have hxd:isD x=true:=Yni.2 ⟨by omega,by omega⟩
         have e:stp (n,p,pt) x=(10*n+(x.toNat-48),if pt then p+1 else p,pt):=Xtr hxd _
         have hn1:10*n+(x.toNat-48)<10^(i+1):=by rw[W0q];omega
         have q1:=Qn hn (by omega)
         have q2:Qs 4 ((10:Int):Rat):=Qs.int (by unfold Zs;decide) (by decide)
         have q3:Qs 8 (((x.toNat-48:Nat):Int):Rat):=Qs.int (by show x.toNat-48<2^8;omega) (by decide)
         have q4:Qs 1606 (((n:Int):Rat)*((10:Int):Rat)):=by
          have e5:((n:Int):Rat)*((10:Int):Rat)=(((10*n:Nat):Int):Rat):=by rw[<-W3v];congr 1;omega
          rw[e5]
          exact(Qn (n:=10*n) (i:=i+1) (by rw[W0q];omega) (by omega)).mono (by decide)
         have hadd:C0 88 [.d (dq (((n:Int):Rat)*((10:Int):Rat))),.d (dq (((x.toNat-48:Nat):Int):Rat))] (·=.d (dq (((10*n+(x.toNat-48):Nat):Int):Rat))):=by
          have e5:((n:Int):Rat)*((10:Int):Rat)+(((x.toNat-48:Nat):Int):Rat)=(((10*n+(x.toNat-48):Nat):Int):Rat):=by rw[<-W3v,<-W5p];congr 1;omega
          rw[<-e5]
          exact R2.Add_ok q4 q3 (by decide)
         refine Dw rfl ?_
         refine Ce rfl (R2.FromInt_ok (z:=10) (by decide)) ?_
         refine Ce rfl (R2.Mul_ok q1 q2 (by decide)) ?_
         refine Yx i x rfl hx ?_
         refine Ar ((x.toNat-48:Nat):Int) rfl ?_
         refine Go.Vm.Cv ((x.toNat-48:Nat):Int) rfl ?_
         refine Ce rfl (R2.FromInt_ok (z:=((x.toNat-48:Nat):Int)) (by omega)) ?_
         refine Ce rfl hadd ?_
         refine By rfl (λh4=>?_) λh4=>?_
         . refine Ar (p+1:Nat) rfl ?_
           refine Ar (i+1:Nat) rfl ?_
           exact Bk (i+1,10*n+(x.toNat-48),p+1,pt) [] rfl ⟨by omega,by omega,hn1,by rw[htk,e,if_pos h4]⟩ (by show s.length-(i+1)<s.length-i;omega) (by exact⟨rfl,rfl,rfl,rfl,rfl⟩)
         . refine Ar (i+1:Nat) rfl ?_
           exact Bk (i+1,10*n+(x.toNat-48),p,pt) [] rfl ⟨by omega,by omega,hn1,by rw[htk,e,if_neg h4]⟩ (by show s.length-(i+1)<s.length-i;omega) (by exact⟨rfl,rfl,rfl,rfl,rfl⟩)
       . refine Ar (i+1:Nat) rfl ?_
         exact Bk (i+1,n,p,pt) [] rfl ⟨by omega,by omega,hgo,by rw[htk,e0 λh=>h3 (by have:=(Yni.1 h).2;omega)]⟩ (by show s.length-(i+1)<s.length-i;omega) (by exact⟨rfl,rfl,rfl,rfl,rfl⟩)
     . refine Ar (i+1:Nat) rfl ?_
       exact Bk (i+1,n,p,pt) [] rfl ⟨by omega,by omega,hgo,by rw[htk,e0 λh=>h2 (by have:=(Yni.1 h).1;omega)]⟩ (by show s.length-(i+1)<s.length-i;omega) (by exact⟨rfl,rfl,rfl,rfl,rfl⟩)
 . have hil:i=s.length:=by omega
   rw[hil,W1x,hfold] at hst
   injection hst with e1 e2
   injection e2 with e2 e3
   obtain⟨x0,hx0,hx45⟩:=Yqd hsr ha0 had
   have q1:Qs 1601 ((n:Int):Rat):=Qn hn (by omega)
   have q2:Qs 1601 ((10^p:Int):Rat):=Qs.int ((p10 p).mono (by omega)) (by decide)
   have h10:((10^p:Int):Rat)≠0:=λe=>by
    have h3:(10^p:Int)=0:=by exact_mod_cast e
    have h4:0<(10^p:Int):=W6g (by decide)
    omega
   have hdv:=R2.Div_ok q1 q2 (by decide) h10
   have q3:Qs 1601 (((n:Int):Rat)/((10^p:Int):Rat)):=by
    rw[<-W3b]
    exact Qs.divInt q1.n ((p10 p).mono (by omega)) (λe=>h10 (by rw[e];rfl))
   refine Dw rfl ?_
   refine Ce rfl (Xcy (n:=p) (by omega)) ?_
   refine Ce rfl hdv ?_
   refine Yx 0 x0 rfl hx0 ?_
   refine By rfl (λh1=>?_) λh1=>?_
   . refine Ce rfl (R2.Neg_ok q3 (by decide)) ?_
     refine RTt rfl (.cons (.eq ?_) (.one (.rf rfl) (λ_ _ e=>by cases e) (λ_ _ e=>by cases e)))
     rw[fr,if_pos (hx45.1 (Xfh h1)),e1,e2];rfl
   . refine RTt rfl (.cons (.eq ?_) (.one (.rf rfl) (λ_ _ e=>by cases e) (λ_ _ e=>by cases e)))
     rw[fr,if_neg λe=>h1 (by rw[hx45.2 e];rfl),e1,e2];rfl
end
end Go.Proofs.YtclgppjdhndgiaaGreatDoor.R11
namespace Go.Proofs.YtclgppjdhndgiaaGreatDoor.P11
open Go Go.Vm Go.Num Go.Tow Go.Proofs.YtclgppjdhndgiaaGreatDoor Go.Proofs.YtclgppjdhndgiaaGreatDoor.P9 Go.Proofs.YtclgppjdhndgiaaGreatDoor.R11
structure Pk (x:Nm):Prop where
 k:x.k<=3
 re:Xbv x.k x.t
 t:TS 300 x.k x.t
 mt:MgT 64 x.k x.t
 ml:MgL 64 (toL x.k x.a)\/(x.k=0/\MgL 1700 (toL x.k x.a))
theorem MgL.mono'{m n:Nat}{l:List Rat}(h:MgL m l)(hn:m<=n): MgL n l:=λx hx=>(h x hx).mono hn
theorem MgT.mono': ∀ {k m n:Nat} {t:Tw k},MgT m k t->m<=n->MgT n k t
 | 0,_,_,_,_,_=>trivial
 | _+1,_,_,_,h,hn=>⟨MgT.mono' h.1 hn,MgL.mono' h.2 hn⟩
theorem Xr6{k n:Nat}{a:El k}(h:MgL n (toL k a))(hk:k<=3/\n<=400\/k=0/\n<=3999): Sz 4000 (toL k a):=by
 refine(Sz.all h).mono ?_
 rw[Xab]
 rcases hk with ⟨h3,hn⟩ | ⟨rfl,hn⟩
 . have hp:2^k<=2^3:=W0m (by decide) h3
   have:=W1z hn hp
   omega
 . rw[Nat.pow_zero];omega
structure Scd (x:Nm) (u h:Rat):Prop where
 s1:Sz 4000 (toL x.k (mul x.k x.t x.a (rat x.k u)))
 s2:Sz 4000 (toL x.k (scl x.k x.t x.a u h))
 w1:Wid (bx x.k x.t (scl x.k x.t x.a u h) 2048) 1
 w2:∀b,1000000<=b->Wid (enc x.k x.t (scl x.k x.t x.a u h) b) 1
theorem Pk.sz{x:Nm}(H:Pk x): Sz 4000 (toL x.k x.a):=by
 rcases H.ml with h | ⟨h0,h⟩
 . exact Xr6 h (.inl ⟨H.k,by decide⟩)
 . exact Xr6 h (.inr ⟨h0,by decide⟩)
theorem Pk.sc{x:Nm}(H:Pk x){u h:Rat}(hu:Qs 200 u)(hh:Qs 2 h): Scd x u h:=by
 rcases H.ml with hl | ⟨h0,hl⟩
 . have m1:=Xfq (t:=x.t) hl hu
   have m2:=Xvh m1 (Xvg (k:=x.k) hh (by decide))
   exact⟨Xr6 m1 (.inl ⟨H.k,by decide⟩),Xr6 m2 (.inl ⟨H.k,by decide⟩),Ygh H.re H.mt (MgL.mono' m2 (by decide)) H.k,Xir H.re (MgT.mono' H.mt (by decide)) (MgL.mono' m2 (by decide)) H.k (show 10000<=10000 by decide)⟩
 . have m1:=Xfq (t:=x.t) hl hu
   have m2:=Xvh m1 (Xvg (k:=x.k) hh (by decide))
   refine⟨Xr6 m1 (.inr ⟨h0,by decide⟩),Xr6 m2 (.inr ⟨h0,by decide⟩),?_,Xir H.re (MgT.mono' H.mt (by decide)) (MgL.mono' m2 (by decide)) H.k (show 10000<=10000 by decide)⟩
   obtain⟨k,t,a⟩:=x
   obtain rfl:k=0:=h0
   exact(Xgw (m:=64) (b:=2048) H.re H.mt m2 (show 0<eE 64 2048 0 _ by exact(by decide:0<2*2048-2))).mono (show 1<=2*2048-2 by decide)
theorem Yhy{n:Nat}(hn:n<=60): Qs 200 ((10^n:Int):Rat):=by
 have h1:(10:Nat)^n<=10^60:=W0m (by decide) hn
 refine Qs.int ?_ (by decide)
 show ((10:Int)^n).natAbs<2^200
 rw[W7g]
 exact W1y h1 (by decide)
theorem bnds{k:Nat}(hk:k<=3): eB 4000 (2*(1000000+1+16)) k<=274877906944/\vB 4000 k (4000+eB 4000 (2*(1000000+1+16)) k+4)<=4398046511104/\vB 4000 k (4000+bB 4000 2048 k+4)<=4398046511104/\bB 4000 2048 k<=274877906944/\cB 300 k<=1000000000:=by
 have h:k=0\/k=1\/k=2\/k=3:=by omega
 rcases h with rfl | rfl | rfl | rfl<;>decide +kernel
theorem Xcy{n:Nat}(hn:n<=400): C0 60 [.d (.int .i64 n)] (·=.d (dz (10^n))):=by
 refine En Tryz.func60 λ_ _ _=>?_
 refine Ce rfl (FromInt_ok (z:=10) (by decide)) ?_
 refine Ce rfl (Xv6 (z:=10) (q:=4) (show (10:Int).natAbs<2^4 by decide) (by omega) (by decide)) ?_
 exact R1 rfl (.rf rfl)
theorem Xj8{z:Int}{p:Nat}(hz:Zs p z)(hp:1<=p)(hp2:p<=8796093022208): C0 61 [.d (dz z)] (·=.d (dq (z:Rat))):=by
 have h:=Make_ok hz (Zs.one hp) hp2 (by decide)
 rw[Xw0] at h
 refine En Tryz.func61 λ_ _ _=>?_
 refine Dw rfl ?_
 refine Ce rfl (FromInt_ok (z:=1) (by decide)) ?_
 refine Ce rfl h ?_
 exact R1 rfl (.rf rfl)
theorem Xrb{x:Nm}{d:Nat}{h:Rat}(H:Pk x)(hd:d<=60)(hh:Qs 2 h): C0 111 [.d (dN x),.d (.int .i64 d),.d (dq h)] λv=>∃z,v=.tup (.pr (.d (dz z)) (.d (.int .i64 0)))/\Xcj x.k x.t (scl x.k x.t x.a ((10^d:Int):Rat) h) z/\(dig z.natAbs).length<=274877906944:=by
 have hu:=Yhy hd
 have S:=H.sc hu hh
 obtain⟨b1,b2,b3,b4,b5⟩:=bnds H.k
 have hz:Zs 200 (10^d:Int):=hu.n
 refine En Tryz.func111 λ_ _ _=>?_
 refine No rfl (by omega) ?_
 refine No rfl (by omega) ?_
 refine Dw rfl ?_
 refine Ce rfl (Xcy (by omega)) ?_
 refine Ce rfl (Xj8 hz (by decide) (by decide)) ?_
 refine Ce rfl (P9.FromRat_ok hu (by decide)) ?_
 refine Ce rfl (Yln H.t H.sz hu (by have:=H.k;omega) (by decide) (by decide) (by decide) b5) ?_
 refine No rfl (by decide) ?_
 refine Dw rfl ?_
 refine Ce rfl (P9.FromRat_ok hh (by decide)) ?_
 refine Ce rfl (Yok (x:=⟨x.k,x.t,mul x.k x.t x.a (rat x.k ((10^d:Int):Rat))⟩) H.t S.s1 hh (by have:=H.k;show x.k<=8;omega) (by decide) (by decide) (by decide)) ?_
 refine No rfl (by decide) ?_
 refine Ca rfl (Xt7 (P:=1000000) H.re S.w2 (H.t.mono (by decide)) S.s2 (by decide) (show x.k<=16 by have:=H.k;omega) (by decide) b1 b2) λv hv=>?_
 obtain⟨z,rfl,hz⟩:=hv
 exact Rt rfl (.tup (.cons (.rf rfl) Xax)) ⟨z,rfl,hz⟩
theorem dz0: dz 0=dS false []:=by show D.st (.pr (.bool _) (ws (dig 0)))=_;rw[Xak];rfl
theorem Floor_ok{x:Nm}{d:Nat}(H:Pk x)(hd:d<=60): C0 39 [.d (dN x),.d (.int .i64 d)] λv=>∃z,v=.tup (.pr (.d (dz z)) (.d (.int .i64 0)))/\Xcj x.k x.t (scl x.k x.t x.a ((10^d:Int):Rat) ((0:Int):Rat)) z/\(dig z.natAbs).length<=274877906944:=by
 refine En Tryz.func39 λ_ _ _=>?_
 refine Dw rfl ?_
 refine Ce rfl (Xa3 (z:=0) (by decide)) ?_
 refine Ca rfl (Xrb H hd (Qs.int (z:=0) (show Int.natAbs 0<2^2 by decide) (by decide))) λv hv=>?_
 obtain⟨z,rfl,hz⟩:=hv
 exact Rt rfl (.tup (.cons (.rf rfl) Xax)) ⟨z,rfl,hz⟩
abbrev hf: Rat:=Rat.divInt 1 2
theorem Xwc: Qs 2 hf:=⟨show hf.num.natAbs<2^2 by decide,show ((hf.den:Int)).natAbs<2^2 by decide⟩
theorem Yba{x:Nm}{d:Nat}(H:Pk x)(hd:d<=60): C0 98 [.d (dN x),.d (.int .i64 d)] λv=>∃z,v=.tup (.pr (.d (dz z)) (.d (.int .i64 0)))/\Xcj x.k x.t (scl x.k x.t x.a ((10^d:Int):Rat) hf) z/\(dig z.natAbs).length<=274877906944:=by
 refine En Tryz.func98 λ_ _ _=>?_
 refine Dw rfl ?_
 refine Ce rfl (Xkt (a:=1) (b:=2) (by decide) (by decide)) ?_
 refine Ca rfl (Xrb H hd Xwc) λv hv=>?_
 obtain⟨z,rfl,hz⟩:=hv
 exact Rt rfl (.tup (.cons (.rf rfl) Xax)) ⟨z,rfl,hz⟩
end Go.Proofs.YtclgppjdhndgiaaGreatDoor.P11
namespace Go.Vm
open Go
abbrev cxM(P:Program)(gb:Gb P)(t:Tab P)(m:Mx P)(hpr:∀T ti,t.tb T=some ti->∀a c,ti.z≠.pr a c)(n:Nat)(hn:n<=1000000)(fn:Func)(W:GW)(Q:AV->Prop)(hg:gb.g W): Cx:=⟨P,gb,t.tb,λT ti h=>⟨t.ok T ti h,hpr T ti h⟩,m,n,hn,W,λ_=>False,θe,bodyPostM Fence.wide 8 P fn (Ret W Q),hg⟩
theorem EnM {P : Program} [gb : Gb P] [t : Tab P] [hp : Npr P] [m : Mx P] {f n : Nat} {fn : Func} {x : Code} {args : List AV} {Q : AV → Prop} (hf : P.funcs[f]? = some fn) (h : ∀ W hg hn, StP (cxM P gb t m hp.h n hn fn W Q hg) (.j [] [.c x] (Yhg 0 args) [])) (hname : (fn.name == "runtime.NumGoroutine") = false := by exact rfl) (hb : fn.body = some x := by exact rfl)
 (hN:fn.ntmps=n:=by exact rfl) (hl:(Nat.ble args.length n&&Nat.ble n 1000000&&args.all Xkx)=true:=by exact rfl):C P f args Q:=by
 refine⟨⟨fn,hf,hname,by rw[hb];rfl⟩,λW vs hg ha=>(callsIn_wide (n:=8)).1 (callsIn_of_wp_marks hf hb trivial (wpIn_wide.2 ?_) rfl)⟩
 have h:=h W hg (by simp only[W0f] at hl;exact W1q hl.1.2)
 simp only[StP,sem,<-Xll] at h
 simp only[W0f] at hl
 obtain⟨⟨hl1,hl2⟩,hl3⟩:=hl
 have hl1:=W1q hl1
 have hlen:=ha.len
 refine wp_mono (h _ W.w ⟨_,W,θe,rfl,⟨Fm.refl W _,⟨rfl,by simp[hN];omega,λt v ht=>?_⟩,⟨λo x h=>(by cases h),λo x b h=>(by cases h),λo o' x x' b h=>(by cases h),λo x i h=>(by cases h)⟩,λt v i ht hi=>?_⟩,λ_ _=>rfl,rfl⟩) λe a w h=>by cases e<;>exact h
 . obtain⟨_,u,h2,h3,_⟩:=Xnh ha ht
   rw[W7a] at h2
   have hlt:=Xbn h2
   rw[W0a hlt] at h2
   injection h2 with h2
   simp only[Array.getD]
   rw[dif_pos (by simp;omega)]
   simp[W6w,hlt,h2]
   exact h3
 . obtain⟨_,u,_,_,h4⟩:=Xnh ha ht
   exact absurd hi (Xkw (W1s.1 hl3 v h4) i)
theorem StP.rest2{c:Cx}{G:List (Nat×Bool)}{x y:Code}{E:Env}{H:Hpl}(h:∀a w,c.Nx (λs'=>s'=sem E H) a w->x.wp c.P (Exit.then (y.wp c.P c.fin) c.fin) a w): StP c (.j G [.c x,.c y] E H) :=
 λa w hw=>wp_mono (h a w hw) λe a w h=>by
  cases e with
  | normal=>exact wp_mono h λe a w h=>by cases e<;>exact h
  | _=>exact h
theorem Tl{c:Cx}{s:St}(id:Nat){G:List (Nat×Bool)}{x y:Code}{E:Env}{H:Hpl}(h:nxT c.tb c.n (some id) s=some (G,x,[.c y],E,H))(k:∀a w,c.Nx (λs'=>s'=sem E H) a w->x.wpIn Fence.wide 8 c.P (Exit.then (y.wpIn Fence.wide 8 c.P c.fin) c.fin) a w): StP c s:=by
 have key:StP c (.j G [.c x,.c y] E H):=StP.rest2 λa w hw=>wp_mono (wpIn_wide.1 (k a w hw)) λe a w h=>by
  cases e with
  | normal=>exact wpIn_wide.1 h
  | _=>exact h
 unfold nxT at h
 simp only at h
 split at h<;>cases h
 rename_i hr
 exact Xgc 1000 (by rw[hr];exact key)
theorem Xag{α:Type}{n:Nat}: ∀ {l:List α},l.length=n+1->∃t l',l=t::l'/\l'.length=n
 | t::l',h=>⟨t,l',rfl,by simpa using h⟩
end Go.Vm

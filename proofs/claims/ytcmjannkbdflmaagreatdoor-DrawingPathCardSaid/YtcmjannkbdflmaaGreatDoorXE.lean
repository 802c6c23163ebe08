/- part 5 -/
import Derived.Test.YtcmjannkbdflmaaGreatDoorXD
import Derived.Lib.Bytealg
import Derived.Shelf.Strings.AsciiSet
import Derived.Shelf.Strings.BuilderK
import Derived.Shelf.Strings.OnBuilder
import Derived.RangeFuncLeaves
import Derived.ControlIn
set_option linter.unusedVariables false
set_option linter.unusedSimpArgs false
set_option maxRecDepth 10000
namespace Go.Proofs.YtcmjannkbdflmaaGreatDoor
open Go Go.Vm Go.Num Go.Tow
section
variable{K:Nat}{G:Tw K}{S:List (Tow.El K)}{N:List Nm}{n m:Nat}{x y z:Nm}{a b:Tow.El K}{u s:Vn}{p q:V2 K}{f g:Int}
namespace P13
theorem Yb1(W:Wn G S N)(i:Gv G S N n u p)(hs:Gv G S N m s q)(j:n<=190)(o:m<=190): C0 127 [.d (dV u),.d (dV s),.d (fnD 89)] (VoG G S N (n+m) (Tow.mul K G p.1 q.1,Tow.mul K G p.2 q.2)):=by
 refine En Tryz.func127 λ_ _ _=>?_
 refine Ca rfl (P9.Mul_g W i.x hs.x j o) λv h=>?_
 obtain⟨z,rfl,A⟩:=h
 refine No rfl (by simp)<|Ca rfl (P9.Mul_g W i.y hs.y j o) λv h=>?_
 obtain⟨w,rfl,B⟩:=h
 exact No rfl (by simp)<|Rt rfl (.tup (.cons (.rf rfl) Xav)) ⟨⟨z,w⟩,rfl,A,B⟩
theorem Ybp(W:Wn G S N)(o:Gd G S N n x a)(i:n<=190): C0 438 [.d (dN x)] (OnG G S N n a):=by
 refine En Tryz.func438 λ_ _ _=>?_
 refine Ca rfl (P9.Neg_g W o i) λv h=>?_
 obtain⟨z,rfl,A⟩:=h
 refine Ca rfl (P9.Neg_g W A i) λv h=>?_
 obtain⟨w,rfl,j⟩:=h
 rw[(Xba K G).nn] at j
 exact Rt rfl (.one (.rf rfl) rfl rfl) ⟨w,rfl,j⟩
theorem Left_g(W:Wn G S N)(i:Gv G S N n u p)(j:n<=190): C0 380 [.d (dV u)] (VeG G S N n (neg K p.2,p.1)):=by
 refine En Tryz.func380 λ_ _ _=>?_
 refine Dw rfl<|Ca rfl (P9.Neg_g W i.y j) λv h=>?_
 obtain⟨z,rfl,o⟩:=h
 refine Ca rfl (Ybp W i.x j) λv h=>?_
 obtain⟨w,rfl,A⟩:=h
 exact Rt rfl (.one (.rf rfl) rfl rfl) ⟨⟨z,w⟩,rfl,o,A⟩
theorem Dot_g(W:Wn G S N)(o:Gv G S N n u p)(hs:Gv G S N m s q)(A:n<=190)(B:m<=190)(i:n+m<=190): C0 365 [.d (dV u),.d (dV s)] (OpG G S N (n+m+(n+m)) (Xe1 G p q)):=by
 refine En Tryz.func365 λ_ _ _=>?_
 refine Ca rfl (Yb1 W o hs A B) λv h=>?_
 obtain⟨r,rfl,j⟩:=h
 refine No rfl (by simp)<|Ca rfl (P9.Add_g W j.x j.y i i) λv h=>?_
 obtain⟨z,rfl,I⟩:=h
 exact Rt rfl (.tup (.cons (.rf rfl) Xav)) ⟨z,rfl,I⟩
theorem Cross_g(W:Wn G S N)(j:Gv G S N n u p)(hs:Gv G S N m s q)(i:n<=190)(o:m<=190)(A:n+m<=190): C0 315 [.d (dV u),.d (dV s)] (OpG G S N (n+m+(n+m)) (Xe2 G p q)):=by
 refine En Tryz.func315 λ_ _ _=>?_
 refine Dw rfl<|Ca rfl (Left_g W j i) λv h=>?_
 obtain⟨r,rfl,B⟩:=h
 refine Ca rfl (Dot_g W B hs i o A) λv h=>?_
 obtain⟨z,rfl,I⟩:=h
 exact Rt rfl (.tup (.cons (.rf rfl) Xav)) ⟨z,rfl,I⟩
theorem Zero_g(W:Wn G S N)(j:Gv G S N n u p)(o:n<=800): C0 367 [.d (dV u)] (·=.b (dc (p=vz K))):=by
 refine En Tryz.func367 λ_ _ _=>?_
 refine Ce rfl (P9.Sign_g W j.x o)<|By rfl (λh=>?_) λh=>?_
 . exact Ce rfl (P9.Sign_g W j.y o)<|R1 rfl (.bp (Xal.trans ⟨λi=>(Xhp W.w.g).2 ⟨h,i⟩,λi=>((Xhp W.w.g).1 i).2⟩))
 . exact R1 rfl (.bp ⟨nofun,λi=>absurd ((Xhp W.w.g).1 i).1 h⟩)
end P13
namespace P19
theorem Xtp(W:Wn G S N)(i:Gv G S N n u p)(hs:Gv G S N m s q)(o:n+m<=190): C0 368 [.d (dV u),.d (dV s)] (VoG G S N (n+m+(n+m)) (Xzl G p q)):=by
 refine En Tryz.func368 λ_ _ _=>?_
 refine Dw rfl<|Ca rfl (P9.Neg_g W i.y (by omega)) λv h=>?_
 obtain⟨z,rfl,B⟩:=h
 refine Ca rfl (P13.Dot_g (u:=⟨u.x,z⟩) (p:=Xfl p) W ⟨i.x,B⟩ hs (by omega) (by omega) o) λv h=>?_
 obtain⟨d,rfl,hd⟩:=h
 rw[Ycn] at hd
 refine No rfl (by simp)<|Dw rfl<|Ca rfl (P9.Neg_g W i.y (by omega)) λv h=>?_
 obtain⟨I,rfl,j⟩:=h
 refine Ca rfl (P13.Cross_g (u:=⟨u.x,I⟩) (p:=Xfl p) W ⟨i.x,j⟩ hs (by omega) (by omega) o) λv h=>?_
 obtain⟨c,rfl,A⟩:=h
 rw[Ycm] at A
 exact No rfl (by simp)<|Rt rfl (.tup (.cons (.rf rfl) Xav)) ⟨⟨d,c⟩,rfl,hd,A⟩
theorem Xuh(W:Wn G S N)(o:Gv G S N n u p)(A:n<=800): C0 314 [.d (dV u)] (·=.b (dc (vup G p))):=by
 refine En Tryz.func314 λ_ _ _=>?_
 refine Ce rfl (P9.Sign_g W o.y A)<|By rfl (λh=>?_) λh=>?_
 . exact R1 rfl (.bp ⟨λ_=>.inl h,λ_=>rfl⟩)
 . refine By rfl (λj=>?_) λj=>?_
   . exact Ce rfl (P9.Sign_g W o.x A)<|R1 rfl (.bp (Xal.trans ⟨λi=>.inr ⟨j,i⟩,λi=>i.elim (λe=>absurd e h) λe=>e.2⟩))
   . exact R1 rfl (.bp ⟨nofun,λi=>i.elim (λe=>absurd e h) λe=>absurd e.1 j⟩)
theorem Ylb(W:Wn G S N)(j:Gv G S N n u p)(o:n<=800): C0 313 [.d (dV u)] (·=.b (dc (Xhq G p))):=by
 refine En Tryz.func313 λ_ _ _=>?_
 refine Ce rfl (P9.Sign_g W j.y o)<|By rfl (λh=>?_) λh=>?_
 . exact Ce rfl (P9.Sign_g W j.x o)<|R1 rfl (.bp (Xal.trans ⟨λi=>⟨h,i⟩,λi=>i.2⟩))
 . exact R1 rfl (.bp ⟨nofun,λi=>absurd i.1 h⟩)
theorem Xx8(W:Wn G S N)(o:Gv G S N n u p)(hs:Gv G S N m s q)(j:n+m<=190): C0 217 [.d (dV u),.d (dV s)] (·=.tup (.pr (.d (.int .i64 (Xzm G p q))) (.d (.int .i64 0)))):=by
 refine En Tryz.func217 λ_ _ _=>?_
 refine Dw rfl<|Ce rfl (Xuh W o (by omega))<|Ce rfl (Xuh W hs (by omega)) ?_
 unfold Xzm
 refine By rfl (λh=>?_) λh=>?_
 . refine By rfl (λi=>?_) λi=>?_
   . rw[if_neg (by simp[Xal,i] at h |-;exact h),if_pos i]
     exact RTt rfl (.cons (.rf rfl) Xav)
   . rw[if_neg (by simp[Xal,i] at h |-;exact h),if_neg i]
     exact RTt rfl (.cons (.rf rfl) Xav)
 . have A:dc True=true:=Xal.2 trivial
   have d2:dc False=false:=W2p.2 λh=>Xal.1 h
   have h:vup G p↔vup G q:=by
    by_cases i:vup G p<;>by_cases j:vup G q<;>simp[i,j,A,d2] at h |-
   rw[if_pos h]
   refine Ca rfl (P13.Cross_g W o hs (by omega) (by omega) j) λv B=>?_
   obtain⟨z,rfl,I⟩:=B
   refine Ce rfl (P9.Sign_g W I (by omega)) ?_
   have M:=Xc6 G (Xe2 G p q)
   refine Ne (-sgn K G (Xe2 G p q)) rfl ?_ (wr (W8b _) (by simp only[inK];omega))
   exact RTt rfl (.cons (.rf rfl) Xav)
theorem Cmp_g(W:Wn G S N)(i:Gv G S N n u p)(hs:Gv G S N m s q)(j:n+m<=190): C0 132 [.d (dT u f),.d (dT s g)] (·=.tup (.pr (.d (.int .i64 (Ym6 G p q f g))) (.d (.int .i64 0)))):=by
 refine En Tryz.func132 λ_ _ _=>?_
 unfold Ym6
 refine By rfl (λh=>?_) λh=>?_
 . rw[if_pos h];exact RTt rfl (.cons (.rf rfl) Xav)
 rw[if_neg h]
 refine By rfl (λh=>?_) λh=>?_
 . rw[if_pos h];exact RTt rfl (.cons (.rf rfl) Xav)
 rw[if_neg h]
 exact Ce rfl (Xx8 W i hs j)<|No rfl (by simp)<|RTt rfl (.cons (.rf rfl) Xav)
def Trm(x:Nm): Prop:=C0 203 [.d (dN x)] (·=.d (dN x))
theorem Xi6(W:Wn G S N)(h:Gv G S N n u p)(i:Trm u.x)(j:n<=190): C0 312 [.d (dV u)] (VeG G S N n (Xfl p)):=by
 refine En Tryz.func312 λ_ _ _=>?_
 refine Dw rfl<|Ce rfl i<|Ca rfl (P9.Neg_g W h.y j) λv o=>?_
 obtain⟨z,rfl,A⟩:=o
 exact Rt rfl (.one (.rf rfl) rfl rfl) ⟨⟨u.x,z⟩,rfl,h.x,A⟩
def OfG(G:Tw K)(S:List (Tow.El K))(N:List Nm)(n:Nat)(p q:V2 K)(r:AV): Prop:=(¬(p=vz K\/q=vz K)/\∃v,r=.tup (.pr (.d (dT v 0)) (.d (.int .i64 0)))/\Gv G S N n v (Xzl G (Xfl p) q))\/((p=vz K\/q=vz K)/\r=.tup (.pr (.d dT0) (.d (.int .i64 6))))
theorem Of_g(W:Wn G S N)(o:Gv G S N n u p)(hs:Gv G S N m s q)(A:Trm u.x)(B:n+m<=190): C0 281 [.d (dV u),.d (dV s)] (OfG G S N (n+m+(n+m)) p q):=by
 refine En Tryz.func281 λ_ _ _=>?_
 refine Ce rfl (P13.Zero_g W o (by omega))<|By rfl (λh=>?_) λh=>?_
 . exact Rt rfl (.tup (.cons Xtt Xav)) (.inr ⟨.inl h,rfl⟩)
 . refine Ce rfl (P13.Zero_g W hs (by omega))<|By rfl (λi=>?_) λi=>?_
   . exact Rt rfl (.tup (.cons Xtt Xav)) (.inr ⟨.inr i,rfl⟩)
   refine Dw rfl<|Ca rfl (Xi6 W o A (by omega)) λv j=>?_
   obtain⟨c,rfl,I⟩:=j
   refine Ca rfl (Xtp W I hs B) λv j=>?_
   obtain⟨d,rfl,hd⟩:=j
   exact No rfl (by simp)<|Rt rfl (.tup (.cons (.rf rfl) Xav)) (.inl ⟨λe=>e.elim h i,d,rfl,hd⟩)
def vopp(G:Tw K)(p:V2 K)(f:Int): Int:=if Xhq G p then -f else -f-1
theorem opposite_g(W:Wn G S N)(i:Gv G S N n u p)(o:Trm u.x)(A:n<=190)(hf:few f): C0 216 [.d (dT u f)] (λr=>∃v,r=.d (dT v (vopp G p f))/\Gv G S N n v (Xfl p)):=by
 unfold few at hf
 refine En Tryz.func216 λ_ _ _=>?_
 refine Dw rfl<|Ca rfl (Xi6 W i o A) λv B=>?_
 obtain⟨c,rfl,j⟩:=B
 refine Ne (-f) rfl ?_ (wr (W8b _) (by simp only[inK];omega))
 refine Ce rfl (Ylb W i (by omega))<|By rfl (λh=>?_) λh=>?_
 . have h:¬Xhq G p:=by simpa [Xa9,Xal] using h
   refine Ar (-f-1) rfl ?_ (wr rfl (by simp only[inK];omega))
   exact Rt rfl (.one (.rf rfl) rfl rfl) ⟨c,by rw[vopp,if_neg h],j⟩
 . have h:Xhq G p:=by simpa [Xa9,Xal] using h
   exact Rt rfl (.one (.rf rfl) rfl rfl) ⟨c,by rw[vopp,if_pos h],j⟩
end P19
end
end Go.Proofs.YtcmjannkbdflmaaGreatDoor
namespace Go.Vm
open Go
section
variable{c:Cx}{s:St}{p:Pl}
noncomputable def Yqh(tb:Nat->Option TI)(n:Nat)(s:St): Option (Pl×Nat×Nat×Int×Nat×Nat):=match nxA tb n s with
 | some (p,o,[.ptr q off,.d (.int _ j)])=>match o.op with
  | .indexAddr T _ _=>match tb T with
   | some ⟨.st _,e,_,h⟩=>some (p,q,off,j,e.size,h)
   | _=>none
  | _=>none
 | _=>none
theorem Ia(i:Nat){q off sz A:Nat}{j:Int}(h:Yqh c.tb c.n s=some (p,q,off,j,sz,A))(hi:i<A)(I:p.nx c (.ptr q (off+i*sz)))(M:j=(i:Int):=by first | exact rfl | omega): StP c s:=by
 subst M
 unfold Yqh at h
 split at h<;>try cases h
 rename_i V o q1 B Y Z O
 split at h<;>try cases h
 rename_i T x y Q
 split at h<;>try cases h
 rename_i z e eb U
 refine Xb3 (v:=.ptr q (off+i*e.size)) (us:=[]) O ?_ (Pl.nx_nil I)
 rw[Q]
 simp[F,Fp,U,hi]
end
end Go.Vm
namespace Go.Proofs.YtcmjannkbdflmaaGreatDoor
open Go Go.Vm Go.Num Go.Tow
theorem Xg7{c:Bool}{g:Hp}{K:Hpl}: FitT g K (.b c) (.b c):=.one (.rf rfl) (λ_ _ e=>by cases e) (λ_ _ e=>by cases e)
end Go.Proofs.YtcmjannkbdflmaaGreatDoor
namespace Go.Proofs.YtcmjannkbdflmaaGreatDoor.P9
open Go Go.Vm Go.Num Go.Tow Go.Proofs.YtcmjannkbdflmaaGreatDoor
end Go.Proofs.YtcmjannkbdflmaaGreatDoor.P9
namespace Go.Proofs.YtcmjannkbdflmaaGreatDoor
open Go Go.Vm Go.Num Go.Tow
section
variable{K:Nat}{G:Tw K}{S:List (Tow.El K)}{N:List Nm}{n m k:Nat}{x y z:Nm}{a b v w:Tow.El K}{u s t:Vn}{p q r:V2 K}
def Xbb{K:Nat}(p q:V2 K): V2 K:=(Tow.add K p.1 (Tow.neg K q.1),Tow.add K p.2 (Tow.neg K q.2))
def Xcx{K:Nat}(p q:V2 K): V2 K:=(Tow.add K p.1 q.1,Tow.add K p.2 q.2)
theorem P9.Sub_g(W:Wn G S N)(i:Gd G S N n x v)(j:Gd G S N m y w)(o:n<=190)(A:m<=190): C0 128 [.d (dN x),.d (dN y)] (OpG G S N (n+m) (Tow.add K v (Tow.neg K w))):=(P9.Sub_ok W.w (i.op o) (j.op A) (by decide)).mono λ_ ⟨z,e,h⟩=>⟨z,e,i.add W j.neg h⟩
theorem Yiz{K:Nat}{a b:Tow.El K}: toL K a=toL K b↔a=b:=⟨Xhv,λe=>by rw[e]⟩
theorem P9.Equal_g(W:Wn G S N)(hx:Gd G S N n x v)(hy:Gd G S N m y w)(hn:n<=190)(hm:m<=190): C0 125 [.d (dN x),.d (dN y)] (·=.b (dc (v=w))):=by
 have hG:=W.w.g
 have hR:=Xho
 have B:=hx.op hn
 have I:=hy.op hm
 obtain⟨ρx,A,hx2⟩:=B.ex
 obtain⟨ρy,M,O⟩:=I.ex
 have hx3:=W.w.le A
 have hy3:=W.w.le M
 have V:=W.w.t A
 have Y:=W.w.t M
 have hpx:=p16 (show x.k<=16 by omega)
 have hJ:jW 3799892570=8*3799892570+73803682:=rfl
 have hj:C0 208 [.d (dNs [x,y])] λv'=>∃m T a b,v'=.tup (.pr (.d (dNs [⟨m,T,a⟩,⟨m,T,b⟩])) (.d (.int .i64 0)))/\R9.JnR G S 3799892570 v w m T a b:=P9.Join_ok W.w B I (by decide)
 have Q:∀ {k:Nat} {T:Tw k} {a b:Tow.El k} {ρ:Nat->Tow.El K},TOk G S k T ρ->ev G ρ k a=v->ev G ρ k b=w->(dc (toL k a=toL k b)=true↔v=w):=λ{k T a b ρ} Z h2 h3=>by
  rw[Xal,Yiz,<-h2,<-h3]
  exact⟨λe=>by rw[e],λe=>Xnx (Xah hG) Z.h Z.r e⟩
 refine En Tryz.func125 λ_ _ _=>?_
 refine Ce rfl (P9.begins_ok (T:=toT x.k x.t) (U:=toT y.k y.t) (TS.pt V) (TS.pt Y) (by omega) (by rw[Xaa];omega))<|By rfl (λZ=>?_) λZ=>?_
 . refine Ce rfl (P9.begins_ok (T:=toT y.k y.t) (U:=toT x.k x.t) (TS.pt Y) (TS.pt V) (by omega) (by rw[Xaa];omega))<|By rfl (λh2=>?_) λh2=>?_
   . refine Ce rfl (P9.sameElement_ok B.p.ps I.p.ps (by omega) (by rw[Xab];omega))<|R1 rfl (.bp ?_)
     have e1:(toT x.k x.t).take (toT y.k y.t).length=toT y.k y.t:=Z
     have e2:(toT y.k y.t).take (toT x.k x.t).length=toT x.k x.t:=h2
     have l1:=congrArg List.length e1
     have l2:=congrArg List.length e2
     rw[W0k,Xaa,Xaa] at l1 l2
     obtain⟨o,tx,ax⟩:=x
     obtain⟨ky,ty,ay⟩:=y
     have l1:min ky o=ky:=l1
     have l2:min o ky=o:=l2
     obtain rfl:o=ky:=by omega
     have e3:toT o tx=toT o ty:=by
      have e1:(toT o tx).take (toT o ty).length=toT o ty:=e1
      rwa[Xaa,W0b (by rw[Xaa];omega)] at e1
     obtain rfl:=Xkt e3
     have O:ev G ρx o ay=w:=by rw[<-O];exact Xbv λi hi=>Hom.uniq hG A.h M.h i hi
     exact Q A hx2 O
   . refine Ca rfl hj λv' hv=>?_
     obtain⟨j,T,a,b,rfl,ρ,j1,j2,j3,j4,j5⟩:=hv
     have jm:=W.w.le j1
     have jp:=p16 (show j<=16 by omega)
     exact Yes rfl (by decide)<|Dw rfl<|Ix 0 rfl (u:=dN ⟨j,T,a⟩) rfl<|Ix 1 rfl (u:=dN ⟨j,T,b⟩) rfl<|Ce rfl (P9.sameElement_ok (l:=toL j a) (m:=toL j b) j4.ps j5.ps (by omega) (by rw[Xab];omega))<|R1 rfl (.bp (Q j1 j2 j3))
 . refine Ca rfl hj λv' hv=>?_
   obtain⟨j,T,a,b,rfl,ρ,j1,j2,j3,j4,j5⟩:=hv
   have jm:=W.w.le j1
   have jp:=p16 (show j<=16 by omega)
   exact Yes rfl (by decide)<|Dw rfl<|Ix 0 rfl (u:=dN ⟨j,T,a⟩) rfl<|Ix 1 rfl (u:=dN ⟨j,T,b⟩) rfl<|Ce rfl (P9.sameElement_ok (l:=toL j a) (m:=toL j b) j4.ps j5.ps (by omega) (by rw[Xab];omega))<|R1 rfl (.bp (Q j1 j2 j3))
theorem P13.both_add(W:Wn G S N)(i:Gv G S N n u p)(hs:Gv G S N m s q)(j:n<=190)(o:m<=190): C0 127 [.d (dV u),.d (dV s),.d (fnD 129)] (VoG G S N (n+m) (Xcx p q)):=by
 refine En Tryz.func127 λ_ _ _=>?_
 refine Ca rfl (P9.Add_g W i.x hs.x j o) λv h=>?_
 obtain⟨z,rfl,A⟩:=h
 refine No rfl (by simp)<|Ca rfl (P9.Add_g W i.y hs.y j o) λv h=>?_
 obtain⟨w,rfl,B⟩:=h
 exact No rfl (by simp)<|Rt rfl (.tup (.cons (.rf rfl) Xav)) ⟨⟨z,w⟩,rfl,A,B⟩
theorem P13.both_sub(W:Wn G S N)(i:Gv G S N n u p)(hs:Gv G S N m s q)(j:n<=190)(o:m<=190): C0 127 [.d (dV u),.d (dV s),.d (fnD 128)] (VoG G S N (n+m) (Xbb p q)):=by
 refine En Tryz.func127 λ_ _ _=>?_
 refine Ca rfl (P9.Sub_g W i.x hs.x j o) λv h=>?_
 obtain⟨z,rfl,A⟩:=h
 refine No rfl (by simp)<|Ca rfl (P9.Sub_g W i.y hs.y j o) λv h=>?_
 obtain⟨w,rfl,B⟩:=h
 exact No rfl (by simp)<|Rt rfl (.tup (.cons (.rf rfl) Xav)) ⟨⟨z,w⟩,rfl,A,B⟩
theorem P13.Add_g(W:Wn G S N)(h:Gv G S N n u p)(hs:Gv G S N m s q)(i:n<=190)(j:m<=190): C0 60 [.d (dV u),.d (dV s)] (VoG G S N (n+m) (Xcx p q)):=by
 refine En Tryz.func60 λ_ _ _=>?_
 refine Ca rfl (P13.both_add W h hs i j) λv o=>?_
 obtain⟨r,rfl,A⟩:=o
 exact Rt rfl (.tup (.cons (.rf rfl) Xav)) ⟨r,rfl,A⟩
theorem P13.Sub_g(W:Wn G S N)(h:Gv G S N n u p)(hs:Gv G S N m s q)(i:n<=190)(j:m<=190): C0 59 [.d (dV u),.d (dV s)] (VoG G S N (n+m) (Xbb p q)):=by
 refine En Tryz.func59 λ_ _ _=>?_
 refine Ca rfl (P13.both_sub W h hs i j) λv o=>?_
 obtain⟨r,rfl,A⟩:=o
 exact Rt rfl (.tup (.cons (.rf rfl) Xav)) ⟨r,rfl,A⟩
theorem P13.Equal_g(W:Wn G S N)(i:Gv G S N n u p)(hs:Gv G S N m s q)(j:n<=190)(o:m<=190): C0 53 [.d (dV u),.d (dV s)] (·=.b (dc (p=q))):=by
 refine En Tryz.func53 λ_ _ _=>?_
 refine Ce rfl (P9.Equal_g W i.x hs.x j o)<|By rfl (λh=>?_) λh=>?_
 . exact Ce rfl (P9.Equal_g W i.y hs.y j o)<|R1 rfl (.bp (Xal.trans ⟨λA=>W3a h A,λe=>by rw[e]⟩))
 . exact R1 rfl (.bp ⟨nofun,λe=>absurd (by rw[e]) h⟩)
end
end Go.Proofs.YtcmjannkbdflmaaGreatDoor
namespace Go.Proofs.YtcmjannkbdflmaaGreatDoor.P15
open Go Go.Vm Go.Num Go.Tow Go.Proofs.YtcmjannkbdflmaaGreatDoor
section
variable{K:Nat}{G:Tw K}{S:List (Tow.El K)}{N:List Nm}{n m k:Nat}{x y z:Nm}{a b v w:Tow.El K}{u s t:Vn}{p q r:V2 K}
theorem note_ok: CN0 432 [.ptr 1000001 0,.d (.int .i64 0)] [(1000001,cal)] IsB:=by
 refine EnW Tryz.func432 λ_ _ _ _=>?_
 exact Yes rfl (by decide)<|Rw [] [(1000001,cal)] rfl (.one (.rf rfl) rfl rfl) ⟨rfl,_,rfl⟩
theorem Yet{f:FuncId}(hf:C0 f [.d (dN x),.d (dN y)] (OpG G S N n w)): CN0 378 [.ptr 1000001 0,.d (fnD f),.d (dN x),.d (dN y)] [(1000001,cal)] (OnG G S N n w):=by
 refine EnW Tryz.func378 λ_ _ _ _=>?_
 refine No rfl (by decide)<|Ca rfl hf λv h=>?_
 obtain⟨z,rfl,i⟩:=h
 refine Cn [] rfl note_ok λv h=>?_
 obtain⟨_,rfl⟩:=h
 exact Rw [] [(1000001,cal)] rfl (.one (.rf rfl) rfl rfl) ⟨rfl,z,rfl,i⟩
theorem Ypm(W:Wn G S N)(h:Gd G S N n x v)(i:Gd G S N m y w)(j:n<=190)(o:m<=190): CN0 296 [.ptr 1000001 0,.d (dN x),.d (dN y)] [(1000001,cal)] (OnG G S N (n+m) (Tow.add K v w)):=by
 refine EnW Tryz.func296 λ_ _ _ _=>?_
 refine Cn [] rfl (Yet (P9.Add_g W h i j o)) λv A=>?_
 obtain⟨z,rfl,B⟩:=A
 exact Rw [] [(1000001,cal)] rfl (.one (.rf rfl) rfl rfl) ⟨rfl,z,rfl,B⟩
theorem Ye0(W:Wn G S N)(h:Gd G S N n x v)(i:Gd G S N m y w)(j:n<=190)(o:m<=190): CN0 298 [.ptr 1000001 0,.d (dN x),.d (dN y)] [(1000001,cal)] (OnG G S N (n+m) (Tow.add K v (Tow.neg K w))):=by
 refine EnW Tryz.func298 λ_ _ _ _=>?_
 refine Cn [] rfl (Yet (P9.Sub_g W h i j o)) λv A=>?_
 obtain⟨z,rfl,B⟩:=A
 exact Rw [] [(1000001,cal)] rfl (.one (.rf rfl) rfl rfl) ⟨rfl,z,rfl,B⟩
theorem Ykf(W:Wn G S N)(h:Gd G S N n x v)(i:Gd G S N m y w)(j:n<=190)(o:m<=190): CN0 297 [.ptr 1000001 0,.d (dN x),.d (dN y)] [(1000001,cal)] (OnG G S N (n+m) (Tow.mul K G v w)):=by
 refine EnW Tryz.func297 λ_ _ _ _=>?_
 refine Cn [] rfl (Yet (P9.Mul_g W h i j o)) λv A=>?_
 obtain⟨z,rfl,B⟩:=A
 exact Rw [] [(1000001,cal)] rfl (.one (.rf rfl) rfl rfl) ⟨rfl,z,rfl,B⟩
theorem Xwi(W:Wn G S N)(i:Gv G S N n u p)(hs:Gv G S N m s q)(j:n<=190)(o:m<=190): CN0 205 [.ptr 1000001 0,.d (dV u),.d (dV s)] [(1000001,cal)] (VeG G S N (n+m) (Xbb p q)):=by
 refine EnW Tryz.func205 λ_ _ _ _=>?_
 refine Dw rfl<|Cn [] rfl (Ye0 W i.x hs.x j o) λv h=>?_
 obtain⟨z,rfl,A⟩:=h
 refine Cn [] rfl (Ye0 W i.y hs.y j o) λv h=>?_
 obtain⟨w,rfl,B⟩:=h
 exact Rw [] [(1000001,cal)] rfl (.one (.rf rfl) rfl rfl) ⟨rfl,⟨z,w⟩,rfl,A,B⟩
theorem Xqx(W:Wn G S N)(i:Gv G S N n u p)(o:n+n<=190): CN0 204 [.ptr 1000001 0,.d (dV u)] [(1000001,cal)] (OnG G S N (n+n+(n+n)) (Xe1 G p p)):=by
 refine EnW Tryz.func204 λ_ _ _ _=>?_
 refine Dw rfl<|Cn [] rfl (Ykf W i.x i.x (by omega) (by omega)) λv h=>?_
 obtain⟨z,rfl,j⟩:=h
 refine Cn [] rfl (Ykf W i.y i.y (by omega) (by omega)) λv h=>?_
 obtain⟨w,rfl,A⟩:=h
 refine Cn [] rfl (Ypm W j A o o) λv h=>?_
 obtain⟨z,rfl,j⟩:=h
 exact Rw [] [(1000001,cal)] rfl (.one (.rf rfl) rfl rfl) ⟨rfl,z,rfl,j⟩
abbrev dK(u:Vn)(z:Nm): D:=.st (.pr (dV u) (dN z))
theorem Around_g(W:Wn G S N)(i:Gv G S N n u p)(hs:Gv G S N m s q)(j:P19.Trm u.x)(o:P19.Trm u.y)(B:n+m+(n+m)<=190)(hp:p≠q): C0 124 [.d (dV u),.d (dV s)] (λr=>∃z,r=.tup (.pr (.d (dK u z)) (.d (.int .i64 0)))/\Gd G S N (n+m+(n+m)+(n+m+(n+m))) z (Xe1 G (Xbb q p) (Xbb q p))):=by
 refine En Tryz.func124 λ_ _ _=>?_
 refine Ce rfl (P13.Equal_g W i hs (by omega) (by omega))<|No rfl hp<|Dw rfl<|Ce rfl j<|Ce rfl o<|Cn [(1000001,13)] rfl (Xwi W hs i (by omega) (by omega)) λv h=>?_
 obtain⟨v,rfl,h⟩:=h
 refine Cn [(1000001,13)] rfl (Xqx W h (by omega)) λv h=>?_
 obtain⟨z,rfl,A⟩:=h
 exact No rfl (by decide)<|Rt rfl (.tup (.cons (.rf rfl) Xav)) ⟨z,rfl,A.mono (by omega)⟩
end
end Go.Proofs.YtcmjannkbdflmaaGreatDoor.P15
namespace Go.Proofs.YtcmjannkbdflmaaGreatDoor
open Go Go.Vm Go.Num Go.Tow
structure Cv where
 arc:Bool
 A:Vn
 B:Vn
 C:Vn
 cw:Bool
abbrev dC(c:Cv): D:=.st (.pr (.bool c.arc) (.pr (dV c.A) (.pr (dV c.B) (.pr (dV c.C) (.bool c.cw)))))
abbrev Xd1(l:List Cv): D:=.sl 14 (l.map dC)
section
variable{K:Nat}{G:Tw K}{S:List (Tow.El K)}{N:List Nm}{n m k:Nat}{x y z:Nm}{a b v w:Tow.El K}{u s t:Vn}{p q r:V2 K}
namespace P15
theorem Yh3(W:Wn G S N)(o:Gv G S N n u p)(A:Gd G S N k z w)(hs:Gv G S N m s q)(I:n+m+(n+m)+(n+m+(n+m))<=190)(B:k<=190): C0 280 [.d (dK u z),.d (dV s)] (OpG G S N (m+n+(m+n)+(m+n+(m+n))+k) (Tow.add K (Xe1 G (Xbb q p) (Xbb q p)) (Tow.neg K w))):=by
 refine En Tryz.func280 λ_ _ _=>?_
 refine Dw rfl<|Cn [(1000001,9)] rfl (Xwi W hs o (by omega) (by omega)) λv h=>?_
 obtain⟨v,rfl,h⟩:=h
 refine Cn [(1000001,9)] rfl (Xqx W h (by omega)) λv h=>?_
 obtain⟨z,rfl,i⟩:=h
 refine Cn [(1000001,9)] rfl (Ye0 W i A (by omega) B) λv h=>?_
 obtain⟨z,rfl,j⟩:=h
 exact No rfl (by decide)<|Rt rfl (.tup (.cons (.rf rfl) Xav)) ⟨z,rfl,j⟩
theorem Side_g(W:Wn G S N)(i:Gv G S N n u p)(h:Gd G S N k z w)(hs:Gv G S N m s q)(j:n+m+(n+m)+(n+m+(n+m))<=190)(o:k<=190): C0 189 [.d (dK u z),.d (dV s)] (·=.tup (.pr (.d (.int .i64 (sgn K G (Tow.add K (Xe1 G (Xbb q p) (Xbb q p)) (Tow.neg K w))))) (.d (.int .i64 0)))):=by
 refine En Tryz.func189 λ_ _ _=>?_
 refine Ca rfl (Yh3 W i h hs j o) λv A=>?_
 obtain⟨z,rfl,h⟩:=A
 exact No rfl (by decide)<|Ce rfl (P9.Sign_g W h (by omega))<|RTt rfl (.cons (.rf rfl) Xav)
end P15
namespace P47
theorem Valid_seg{c:Cv}(W:Wn G S N)(ha:c.arc=false)(h:Gv G S N n c.A p)(hs:Gv G S N m c.B q)(i:n<=190)(j:m<=190): C0 52 [.d (dC c)] (·=.b (dc (p≠q))):=by
 obtain⟨_,A,B,C,cw⟩:=c
 obtain rfl:_=false:=ha
 refine En Tryz.func52 λ_ _ _=>?_
 exact Yes rfl nofun<|Ce rfl (P13.Equal_g W h hs i j)<|R1 rfl (.bp (by rw[Xa9,Xal]))
theorem around_g{c:Cv}(W:Wn G S N)(h:Gv G S N n c.C p)(hs:Gv G S N m c.A q)(i:P19.Trm c.C.x)(j:P19.Trm c.C.y)(o:n+m+(n+m)<=190)(hp:p≠q): C0 188 [.d (dC c)] (λr=>∃z,r=.tup (.pr (.d (P15.dK c.C z)) (.d (.int .i64 0)))/\Gd G S N (n+m+(n+m)+(n+m+(n+m))) z (Xe1 G (Xbb q p) (Xbb q p))):=by
 refine En Tryz.func188 λ_ _ _=>?_
 refine Ca rfl (P15.Around_g W h hs i j o hp) λv B=>?_
 obtain⟨z,rfl,I⟩:=B
 exact Rt rfl (.tup (.cons (.rf rfl) Xav)) ⟨z,rfl,I⟩
theorem full_g{c:Cv}(W:Wn G S N)(ha:c.arc=true)(h:Gv G S N n c.A p)(hs:Gv G S N m c.B q)(i:n<=190)(j:m<=190): C0 190 [.d (dC c)] (·=.b (dc (p=q))):=by
 obtain⟨_,A,B,C,cw⟩:=c
 obtain rfl:_=true:=ha
 refine En Tryz.func190 λ_ _ _=>?_
 exact Yes rfl rfl<|Ce rfl (P13.Equal_g W h hs i j)<|R0
end P47
end
end Go.Proofs.YtcmjannkbdflmaaGreatDoor
namespace Go.Vm
open Go
section
section
variable{c:Cx}{s:St}{p:Pl}
noncomputable def Yp5(tb:Nat->Option TI)(n:Nat)(s:St): Option (Pl×List UInt8×List UInt8):=match nxA tb n s with
 | some (p,o,[.d (.str a),.d (.str b)])=>match o.op with
  | .binOp op _ _ _ _=>match op with
   | .add=>some (p,a,b)
   | _=>none
  | _=>none
 | _=>none
theorem Sc{a b:List UInt8}(t:List UInt8)(h:Yp5 c.tb c.n s=some (p,a,b))(i:a++b=t)(j:a.length+b.length<9223372036854775808)(o:p.nx c (.d (.str t))): StP c s:=by
 subst i
 unfold Yp5 at h
 split at h<;>try cases h
 rename_i A
 split at h<;>try cases h
 rename_i B
 split at h<;>cases h
 refine Xb3 (us:=[]) A ?_ (Pl.nx_nil o)
 rw[B]
 simp only[F,Fp,Yce,if_pos j]
noncomputable def Yj7(tb:Nat->Option TI)(n:Nat)(s:St): Option (Pl×List UInt8×Option Int×Option Int):=match nxA tb n s with
 | some (p,o,asx)=>match o.op with
  | .slice T _ lo hi i=>match tb T with
   | some j=>match j.z,Xmw lo hi i asx with
    | .str _,some (.d (.str s),l,h,none)=>some (p,s,l,h)
    | _,_=>none
   | none=>none
  | _=>none
 | none=>none
theorem Xpc{t:List UInt8}{r:AV}{l i:Option Int}(h:Yj7 c.tb c.n s=some (p,t,l,i))(hr:slS t l i=some r)(k:p.nx c r): StP c s:=by
 unfold Yj7 at h
 split at h<;>try cases h
 rename_i j
 split at h<;>try cases h
 rename_i o
 split at h<;>try cases h
 rename_i I A
 split at h<;>cases h
 rename_i B hs
 refine Xb3 (us:=[]) j ?_ (Pl.nx_nil k)
 rw[o]
 simp only[F,Fp,A,B,hs,hr]
theorem Stk(j:Nat)(zs:List UInt8){i:Int}{xs:List UInt8}(h:Yj7 c.tb c.n s=some (p,xs,none,some i))(B:j<=xs.length)(o:xs.take j=zs)(k:p.nx c (.d (.str zs)))(A:i=j:=by first | exact rfl | omega): StP c s:=by
 subst A;subst o
 refine Xpc h ?_ k
 rw[slS,if_pos ⟨by omega,by omega⟩];simp
theorem Sdp(j:Nat)(zs:List UInt8){i:Int}{xs:List UInt8}(h:Yj7 c.tb c.n s=some (p,xs,some i,none))(B:j<=xs.length)(o:xs.drop j=zs)(k:p.nx c (.d (.str zs)))(A:i=j:=by first | exact rfl | omega): StP c s:=by
 subst A;subst o
 refine Xpc h ?_ k
 rw[slS,if_pos ⟨by omega,by omega⟩];simp
theorem Smd(i j:Nat)(zs:List UInt8){o A:Int}{xs:List UInt8}(h:Yj7 c.tb c.n s=some (p,xs,some o,some A))(M:i<=j/\j<=xs.length)(B:(xs.drop i).take (j-i)=zs)(k:p.nx c (.d (.str zs)))(hi:o=i:=by first | exact rfl | omega)(I:A=j:=by first | exact rfl | omega): StP c s:=by
 subst hi;subst I;subst B
 refine Xpc h ?_ k
 rw[slS,if_pos ⟨by omega,by omega,by omega⟩];simp
noncomputable def Yqf(tb:Nat->Option TI)(n:Nat)(s:St): Option (Pl×AV):=match nxA tb n s with
 | some (p,o,[a])=>match o.op with
  | .convert S T _=>match tb S,tb T,Yih a with
   | some ⟨.sl _ _,.int .u8 _,_,_⟩,some ⟨.str _,_,_,_⟩,true=>some (p,a)
   | _,_,_=>none
  | _=>none
 | _=>none
theorem Bs(zs:List UInt8){a:AV}(h:Yqf c.tb c.n s=some (p,a))(i:Ym7 a=some zs)(A:p.nx c (.d (.str zs))): StP c s:=by
 unfold Yqf at h
 split at h<;>try cases h
 rename_i B
 split at h<;>try cases h
 rename_i I
 split at h<;>cases h
 rename_i j o M
 refine Xb3 (us:=[]) B ?_ (Pl.nx_nil A)
 rw[I]
 have:∀k z,a≠.d (.int k z):=λk z e=>by subst e;cases M
 cases a with
 | d x=>cases x<;>first | exact absurd rfl (this _ _) | simp only[F,Fp,o,j,i]
 | _=>simp only[F,Fp,o,j,i]
end
end
section
theorem Xx7{W:GW}{z:D}: ∀ {cs:List Value},(∀x∈z.comps,x.size=1)->D.At W z cs->AtL W 1 z.comps cs/\cs.length=z.comps.length:=by
 have one:∀ {x:D} {cs:List Value},x.size=1->D.At W x cs->AtL W 1 [x] cs/\cs.length=1:=λ{x cs} o h =>
  ⟨λi y hi=>by
   cases i with
   | zero=>simp at hi;subst hi;exact⟨cs,h,o,λj v I=>by simpa using I⟩
   | succ i=>simp at hi,by rw[D.at_len x h,o]⟩
 induction z using D.ind with
 | leaf x o A =>
  intro cs hs h
  have e:x.comps=[x]:=by cases x<;>first | rfl | exact absurd rfl (A _ _)
  rw[e] at hs |-
  exact one (hs x (W0f.2 rfl)) h
 | st a _=>intro cs hs h;exact one (hs _ (W0f.2 rfl)) h
 | pr a c _ M =>
  intro cs hs ⟨u,v,e,o,A⟩
  have hs:∀x∈a::c.comps,x.size=1:=hs
  obtain⟨O,B⟩:=one (hs a (W0v ..)) o
  obtain⟨Q,T⟩:=M (λx U=>hs x (W1b _ U)) A
  subst e
  have:=O.app Q (by rw[B];rfl)
  exact⟨this,by rw[W0d,B,T];show _=(a::c.comps).length;simp;omega⟩
theorem Stp.vara{N:Nat->Prop}{W:GW}{θ:Loc}{g:Hp}(h:Obs W θ N g){o d b n sz:Nat}{a:AV}{xs:List D}(ho:g o=some (.var a))(hb:(θ o).1=some b)(hB:d<1000000)(hd:g d=none)(hx:(Ob.arr sz xs).R W (λi=>if i=d then (some b,n) else θ i) d):
 Stp N W W θ (λi=>if i=d then (some b,n) else θ i) g (upd (upd g o .dead) d (.arr sz xs)) where
 os:=_root_.rfl
 out:=_root_.rfl
 tape:=_root_.rfl
 size:=W0c _
 same:=λ_ _ _=>_root_.rfl
 A:=λ_ _ _ _=>W4f
 le:=LeF.refl W
 th:=λi y B=>if_neg λe=>by rw[e,hd] at B;cases B
 hi:=λi h=>if_neg (by omega)
 obs:=by
  have V:∀ {i:Nat} {y:Ob},upd (upd g o .dead) d (.arr sz xs) i=some y->(i=d/\y=.arr sz xs)\/(i≠d/\i=o/\y=.dead)\/(i≠d/\i≠o/\g i=some y):=λ{i y} B=>by
   rcases Xae B with ⟨I,T⟩ | ⟨I,T⟩
   . exact .inl ⟨I,T⟩
   . rcases Xae T with ⟨U,Y⟩ | ⟨U,Y⟩
     . exact .inr (.inl ⟨I,U,Y⟩)
     . exact .inr (.inr ⟨I,U,Y⟩)
  have hnd:∀ {i:Nat},(∃z,g i=some z)->i≠d:=λ⟨z,hz⟩ e=>by rw[e,hd] at hz;cases hz
  refine⟨λi y B=>?_,λi y Z B hl M=>?_,λi j y y' Z B hy' hl O b1 b2=>?_,λi y j B hj=>?_⟩
  . rcases V B with ⟨rfl,rfl⟩ | ⟨_,_,rfl⟩ | ⟨I,T,Q⟩
    . exact hx
    . trivial
    . exact(h.r i y Q).keep (LeF.refl W) (if_neg I) (λj hj=>if_neg (hnd (h.ids i y j Q hj))) λ_ _ _=>⟨_root_.rfl,λ_ h=>h⟩
  . rcases V B with ⟨rfl,rfl⟩ | ⟨_,_,rfl⟩ | ⟨I,T,Q⟩
    . rw[if_pos _root_.rfl] at M
      exact h.new o _ Z ho _root_.rfl (hb.trans M)
    . cases hl
    . rw[if_neg I] at M;exact h.new i y Z Q hl M
  . rcases V B with ⟨rfl,rfl⟩ | ⟨_,_,rfl⟩ | ⟨I,T,Q⟩
    . rcases V hy' with ⟨rfl,rfl⟩ | ⟨_,_,rfl⟩ | ⟨U,Y,f3⟩
      . exact _root_.rfl
      . cases O
      . rw[if_pos _root_.rfl] at b1;rw[if_neg U] at b2
        exact absurd (h.dis j o y' _ Z f3 ho O _root_.rfl b2 (hb.trans b1)) Y
    . cases hl
    . rcases V hy' with ⟨rfl,rfl⟩ | ⟨_,_,rfl⟩ | ⟨U,Y,f3⟩
      . rw[if_pos _root_.rfl] at b2;rw[if_neg I] at b1
        exact absurd (h.dis i o y _ Z Q ho hl _root_.rfl b1 (hb.trans b2)) T
      . cases O
      . rw[if_neg I] at b1;rw[if_neg U] at b2;exact h.dis i j y y' Z Q f3 hl O b1 b2
  . rcases V B with ⟨rfl,rfl⟩ | ⟨_,_,rfl⟩ | ⟨I,T,Q⟩
    . exact hj.elim
    . exact hj.elim
    . have hz:=h.ids i y j Q hj
      rw[Xam (hnd hz)]
      by_cases e:j=o
      . subst e;exact⟨_,Xai _ _ _⟩
      . rw[Xam e];exact hz
 dom:=λi y B=>by
  rw[Xam (λe=>by rw[e,hd] at B;cases B)]
  by_cases e:i=o
  . subst e;exact⟨_,Xai _ _ _⟩
  . exact⟨y,by rw[Xam e];exact B⟩
section
variable{c:Cx}{s:St}{p:Pl}
noncomputable def Yp2(tb:Nat->Option TI)(n id t:Nat)(s:St): Option (List Kt×Env×Hpl×Nat×D):=match runT tb n id 1000 s with
 | .j _ K E H=>match look E t with
  | some (.ptr o 0)=>match look H o with
   | some (.var (.d (.st z)))=>some (K,E,H,o,z)
   | _=>none
  | _=>none
 | _=>none
theorem Va(id t d m:Nat)(xs:List D){K:List Kt}{E:Env}{H:Hpl}{o:Nat}{z:D}(h:Yp2 c.tb c.n id t s=some (K,E,H,o,z))(hz:z.comps=xs)(hs:∀x∈xs,x.size=1)(hm:xs.length=m)(k:StP c (.j [] K ((t,.ap d m)::E) ((d,.arr 1 xs)::(o,.dead)::H)))
 (hd:(Nat.blt d 1000000 && !Xcd H d&&Nat.blt m 1000000)=true:=by exact rfl):StP c s:=by
 subst hz
 simp only[W0h,W1u] at hd
 obtain⟨⟨B,U⟩,O⟩:=hd
 have B:=Xr4 B
 have O:=Xr4 O
 have V:look H d=none:=Xbk U
 unfold Yp2 at h
 split at h<;>try cases h
 rename_i hr
 split at h<;>try cases h
 rename_i he
 split at h<;>cases h
 rename_i ho
 refine Xgi (id:=id) 1000 ?_
 rw[hr]
 rintro a w ⟨s0,W,θ,hw,A,Y,rfl⟩
 obtain⟨b,cs,T',r1,r2,Z,r4⟩:=A.obs.r _ _ ho
 have Z:D.At W z cs:=Z
 obtain⟨k1,k2⟩:=Xx7 hs Z
 have st:=Stp.vara (n:=m) (sz:=1) (xs:=z.comps) A.obs ho r1 B V ⟨b,cs,T',by simp,r2,by rw[k2,hm];simp,by simp only[if_true];omega,by simp only[if_true];omega,k1,r4⟩
 have M:=A.step0 st
 refine k a w ⟨_,W,_,hw,?_,λi hi=>(st.hi i hi).trans (Y i hi),rfl⟩
 rw[show sem ((t,AV.ap d m)::E) ((d,Ob.arr 1 z.comps)::(o,Ob.dead)::H)=(upd (look E) t (.ap d m),upd (upd (look H) o .dead) d (.arr 1 z.comps)) by rw[Xa6,Xa6,Xa6]]
 refine⟨M.fm,⟨M.rel.defers,M.rel.size,λq v hq=>?_⟩,M.obs,λq v i hq hi=>?_⟩
 . rcases Xae hq with ⟨Q,I⟩ | ⟨Q,I⟩
   . subst Q;subst I
     obtain⟨b',T,f2⟩:=Xjn (A.rel.has q _ he)
     rw[r1] at T;injection T with T;subst T
     exact⟨_,⟨b,by simp,by simp,rfl⟩,f2⟩
   . exact M.rel.has q v I
 . rcases Xae hq with ⟨Q,I⟩ | ⟨Q,I⟩
   . subst I
     have hi:i=d:=hi
     subst hi
     exact⟨_,Xai _ _ _⟩
   . exact M.ids q v i I hi
noncomputable def Yp3(tb:Nat->Option TI)(n:Nat)(s:St): Option (Pl×Oper×TypeId×Operand×Operand×Nat×Nat×Nat×Nat×D×Int):=match nxO tb n s with
 | some (p,o)=>match o.op,p.dr with
  | .slice T x none (some y) none,false=>match Xcw (look p.E) x,Xcw (look p.E) y,tb T with
   | some (.ap q m),some (.d (.int _ j)),some ⟨.st z,e,h,i⟩=>match Nat.beq m i,look p.H q with
    | true,some _=>some (p,o,T,x,y,q,m,e.size,h,z,j)
    | _,_=>none
   | _,_,_=>none
  | _,_=>none
 | none=>none
theorem Sp(j:Nat){o:Oper}{T:TypeId}{x y:Operand}{q m sz Y:Nat}{z:D}{i:Int}(h:Yp3 c.tb c.n s=some (p,o,T,x,y,q,m,sz,Y,z,i))(Z:j<=m)(h0:0<m)(k:p.nx c (.own q sz 0 j))(hm:m<1000000)(hi:i=(j:Int):=by first | exact rfl | omega): StP c s:=by
 subst hi
 unfold Yp3 at h
 split at h<;>try cases h
 rename_i p' o' ho
 split at h<;>try cases h
 rename_i T' x' y' B I
 split at h<;>try cases h
 rename_i k2 e eb' ar hx hy M
 split at h<;>cases h
 rename_i hH A
 have A:=W0g A
 subst A
 refine Xnd (us:=[]) ho (by unfold Xap;rw[B];rfl) I (λN W θ ρ _ hO hN hB U=>?_) (Pl.nx_nil k)
 obtain⟨hk,_⟩:=c.hT _ _ M
 obtain⟨t,u1,_,V⟩:=hk.u
 simp only[show ¬m=0 by omega,if_false] at V
 obtain⟨E,e1,i,v0,i1,i2,_⟩:=V
 subst e1
 obtain⟨cs,⟨b,f1,f2,f3⟩,O⟩:=U _ _ hx
 subst f3
 have O:ρ x=.pointer (some ⟨b,0,none⟩):=O
 obtain⟨ey,_⟩:=Xcv (U _ _ hy)
 have hg:(sem p.E p.H).2 q=some _:=hH
 refine .val (u:=.slice (some ⟨b,0,none⟩) j m) hO ?_ ?_ (λi hi=>by subst hi;exact⟨_,hg⟩)
 . have Q:¬m=0:=by omega
   simp[execOp,B,O,ey,Instr.sliceAt,Instr.sureAddr,Instr.sliceBounds,Instr.sliceBound,asIntOf,sizeOf,typeInfo,underlying,program,bind,Sem.bind,Sem.run,pure,u1,i1,i2,Q,Z,add0]
 . exact⟨[.slice (some ⟨b,0,none⟩) j m],⟨b,some ⟨b,0,none⟩,f1,by omega,by omega,by rw[f2,W7c],λ_=>by rw[W4q]⟩,rfl⟩
noncomputable def Yqg(tb:Nat->Option TI)(n:Nat)(s:St): Option (Pl×Oper×TypeId×TypeId×Operand×Nat×Nat×Nat×List D):=match nxO tb n s with
 | some (p,o)=>match o.op,p.dr with
  | .convert S T x,false=>match Xcw (look p.E) x,tb S,tb T with
   | some (.own q 1 l m),some ⟨.sl _ _,.int .u8 _,_,_⟩,some ⟨.str _,_,_,_⟩=>match look p.H q with
    | some (.arr 1 xs)=>some (p,o,S,T,x,q,l,m,xs)
    | _=>none
   | _,_,_=>none
  | _,_=>none
 | none=>none
theorem Bo(zs:List UInt8){o:Oper}{S T:TypeId}{x:Operand}{q l m:Nat}{xs:List D}(h:Yqg c.tb c.n s=some (p,o,S,T,x,q,l,m,xs))(hl:l+m<=xs.length)(M:Ybz ((xs.drop l).take m)=some zs)(k:p.nx c (.d (.str zs))): StP c s:=by
 unfold Yqg at h
 split at h<;>try cases h
 rename_i p' o' ho
 split at h<;>try cases h
 rename_i S' T' x' O V
 split at h<;>try cases h
 rename_i hx hS hT
 split at h<;>cases h
 rename_i hH
 refine Xnd (us:=[]) ho (by unfold Xap;rw[O];rfl) V (λN W θ ρ _ hO hN hB hv=>?_) (Pl.nx_nil k)
 obtain⟨hk,_⟩:=c.hT _ _ hS
 obtain⟨t,u1,_,E,Q,_⟩:=hk.u
 subst Q
 obtain⟨t',Y,_,Q⟩:=(c.hT _ _ hT).1.u
 have Q:t'=.string:=Q
 subst Q
 have ue:=hk.k E _ _ u1 rfl
 obtain⟨b,pp,f1,f2,f3,e,f5⟩:=Xmg (hv _ _ hx)
 obtain⟨b',bs,T1,r1,r2,r3,r4,r5,r6,r7⟩:=hO.r _ _ hH
 rw[f1] at r1;injection r1 with r1;subst r1
 obtain⟨A,U,rfl⟩:=Xmc M
 have B:A.length=m:=by
  have:=congrArg List.length U
  simp at this;omega
 refine .val (u:=.string ⟨(A.map λz=>UInt8.ofNat z.toNat).toArray⟩) hO ?_ (Xmr (by simp;omega)) (λ_ h=>h.elim)
 have hc:(convert S T (ρ x)).run c.P W.w=.ok (.string ⟨(A.map λz=>UInt8.ofNat z.toNat).toArray⟩) W.w:=by
  rw[e,run_convert_bytes_string W.w S T E pp _ _ u1 ue Y]
  by_cases Z:m=0
  . subst Z
    have:A=[]:=W2k.1 B
    subst this
    cases pp with
    | none=>rfl
    | some a=>exact run_bytesToString W.w a _ _ [] rfl
  . rw[f5 (by omega)]
    rw[run_bytesToString W.w _ _ _ A (by
     have h:=run_loadCells (P:=c.P) (b:=b) (off:=l*1) (w:=W.w) (A.map (Value.int .u8)) 0 #[] (λj v I=>by
      rw[W0w] at I
      cases M:A[j]? with
      | none=>rw[M] at I;cases I
      | some z =>
       rw[M] at I;injection I with I;subst I
       have i:((xs.drop l).take m)[j]?=some (.int .u8 z):=by rw[U,W0w,M];rfl
       have hj2:xs[l+j]?=some (.int .u8 z):=by
        rw[W1l] at i
        split at i
        . rwa[W2h] at i
        . cases i
       obtain⟨e1,g1,_,g2⟩:=r6 _ _ hj2
       have g1:=g1.1
       subst g1
       have:=g2 0 _ rfl
       rw[show l*1+(0+j)=(l+j)*1+0 by omega,Xbf r2]
       exact this)
     simp only[W0i] at h
     rw[<-B]
     simpa [loadCells] using h)]
    have:=Xfd A []
    rw[show (ByteArray.empty:ByteArray)=⟨([]:List UInt8).toArray⟩ from rfl,this]
    simp
 unfold execOp
 rw[O]
 simp only
 rw[Sem.run_bind,hc];rfl
noncomputable def Yqd(tb:Nat->Option TI)(n:Nat)(s:St): Option (Pl×Oper×TypeId×Nat×Operand×Nat×Int):=match nxO tb n s with
 | some (p,o)=>match o.op,p.dr with
  | .indexAddr T (.global g) y,false=>match Xcw (look p.E) y,tb T with
   | some (.d (.int _ j)),some ⟨.st _,.int _ _,_,h⟩=>match Nat.beq h 0 with
    | false=>some (p,o,T,g,y,h,j)
    | true=>none
   | _,_=>none
  | _,_=>none
 | none=>none
theorem Gx(j:Nat)(k:IntKind)(z:Int){o:Oper}{T:TypeId}{y:Operand}{g I:Nat}{i:Int}(h:Yqd c.tb c.n s=some (p,o,T,g,y,I,i))(Y:j<I)(Z:∀W,c.gb.g W->Fr W g j (.int k z))(hr:inR k z)(kk:p.nx c (.at (.int k z)))(hi:i=(j:Int):=by first | exact rfl | omega): StP c s:=by
 subst hi
 unfold Yqd at h
 split at h<;>try cases h
 rename_i p' o' ho
 split at h<;>try cases h
 rename_i T' g' y' A M
 split at h<;>try cases h
 rename_i k1 j1 z1 k2 z2 eb ar1 hy O
 split at h<;>cases h
 rename_i Q
 have Q:¬I=0:=λe=>by subst e;cases Q
 refine Xnd (us:=[]) ho (by unfold Xap;rw[A];rfl) M (λN W θ ρ B hO hN hB hv=>?_) (Pl.nx_nil kk)
 obtain⟨hk,_⟩:=c.hT _ _ O
 obtain⟨t,u1,_,V⟩:=hk.u
 simp only[Q,if_false] at V
 obtain⟨E,e1,i,v0,i1,i2,_⟩:=V
 subst e1
 obtain⟨ey,_⟩:=Xcv (hv _ _ hy)
 have eg:=B.2 g
 have i2:i.size=1:=i2
 refine .val (u:=.pointer (some ⟨g,j,none⟩)) hO ?_ (Ypi (e:=[.int k z]) ⟨rfl,hr⟩ λq v hq=>?_) (λ_ h=>h.elim)
 . have U:(j:Int)<(I:Int):=by omega
   simp[execOp,A,eg,ey,Instr.indexAt,Instr.sureAddr,asIntOf,sizeOf,typeInfo,underlying,program,bind,Sem.bind,Sem.run,pure,u1,i1,i2,U,Y,add0]
 . cases q with
   | zero=>simp at hq;subst hq;exact Z W B.1
   | succ q=>simp at hq
end
end
section
section
variable{c:Cx}{s:St}{p:Pl}
noncomputable def Yp6(tb:Nat->Option TI)(n:Nat)(s:St): Option (Pl×Oper×Operand×Operand×TypeId×TI×Nat×List D):=match nxO tb n s with
 | some (p,o)=>match o.op,p.dr with
  | .call ⟨.builtin .append,⟨[x,y]⟩,⟨[T,T']⟩⟩,false=>match Nat.beq T T',Xcw (look p.E) x,Xcw (look p.E) y,tb T with
   | true,some .nil,some (.lit sz j),some h=>match h.z,look p.H (o.dst.getD 0),Nat.ble h.eb 128 with
    | .sl i _,none,true=>match Nat.beq sz i with
     | true=>some (p,o,x,y,T,h,sz,j)
     | false=>none
    | _,_,_=>none
   | _,_,_,_=>none
  | _,_=>none
 | none=>none
theorem ApW{o:Oper}{x y:Operand}{T:TypeId}{ti:TI}{sz:Nat}{ys:List D}(h:Yp6 c.tb c.n s=some (p,o,x,y,T,ti,sz,ys))(h0:0<ys.length)(hl:ys.length<=1099511627776)(k:p.nx' c (.own (o.dst.getD 0) sz 0 ys.length) [(o.dst.getD 0,.arr sz ys)]): StP c s:=by
 unfold Yp6 at h
 split at h<;>try cases h
 rename_i p' o' ho
 split at h<;>try cases h
 rename_i x' y' T1 T2 O U
 split at h<;>try cases h
 rename_i sz1 ys1 ti1 V hx hy Y
 have V:=W0g V
 subst V
 split at h<;>try cases h
 rename_i sz2 zz hz hd hb
 split at h<;>cases h
 rename_i I
 have I:=W0g I
 subst I
 refine Xnd ho (by unfold Xap;rw[O];rfl) U (λN W θ ρ _ Z hN hB hv=>?_) k
 obtain⟨hk,_⟩:=c.hT _ _ Y
 obtain⟨t,u1,_,u3⟩:=hk.u
 rw[hz] at u3
 obtain⟨E,e,B,hez,ii,v0,i1,i2,i3,i4,i5⟩:=u3
 subst e
 obtain⟨q,ex⟩:=Xjo (hv _ _ hx)
 obtain⟨q2,c2,news,ey,hk2,M,hnr,hn1,hna⟩:=Ycx (z:=.sl sz []) (sz:=sz) Z (c:=.lit sz ys) (ys:=ys) (by simp[Xqw,toD]) (hv _ _ hy)
 rw[B] at M
 have hr:Xh8 (0+ys.length) ti:=by rw[W1j];exact Xes hl (W1t hb)
 have A:=Xfj (P:=c.P) (W:=W) (ty:=o.type) (ti:=ti) u1 i1 i2 i3 i4 i5 (p:=q) (m:=0) (c:=0) (k:=ys.length) (c2:=c2) (q:=q2) (olds:=[]) (news:=news) (W0c _) (.inl rfl) (by simp) (λb _ j u hj=>by simp at hj) M hnr hn1 hr hk2
 rcases A with ⟨Q,_⟩ | ⟨_,Q,_⟩ | ⟨_,c',zs,Q,h2,h3,A⟩
 . omega
 . omega
 . simp only[W1j,W4i] at A Q h3
   obtain⟨W',θ',e1,e2,e3⟩:=Xig (W:=W.tick) (θ:=θ) (g:=(sem p.E p.H).2) (dd:=o.dst.getD 0) (E:=E) (sz:=sz) (xs:=ys) (cs:=news) (c:=c') (zs:=zs) (Stp.tick Z).obs hN hB hd (hna.mono (Xd8 W)) (by rw[M,B]) Q h2 (by rw[B];exact h3)
   refine⟨W',θ',.value _,?_,(Stp.tick Z).trans e2,.inr ⟨_,rfl,e3⟩,λi hi=>⟨_,by subst hi;exact Xai _ _ _⟩⟩
   have h4:execOp ρ o=(Builtin.append_ #[T,T] o.type #[ρ x,ρ y] >>= λv=>pure (.value v)):=by
    simp[execOp,O,resolve,invoke,builtin]
   rw[h4,Sem.run_bind,ex,ey,A,e1]
   rfl
noncomputable def Yp8(tb:Nat->Option TI)(n:Nat)(s:St): Option (Pl×Oper×Operand×Nat×Nat):=match nxO tb n s with
 | some (p,o)=>match o.op,p.dr with
  | .nilCheck x,false=>match Xcw (look p.E) x with
   | some (.ap q m)=>match look p.H q with
    | some _=>some (p,o,x,q,m)
    | none=>none
   | _=>none
  | _,_=>none
 | none=>none
theorem Nk{o:Oper}{x:Operand}{q m:Nat}(h:Yp8 c.tb c.n s=some (p,o,x,q,m))(k:p.nx c (.ap q m)): StP c s:=by
 unfold Yp8 at h
 split at h<;>try cases h
 rename_i Z o' I
 split at h<;>try cases h
 rename_i x' j A
 split at h<;>try cases h
 rename_i q' m' M
 split at h<;>cases h
 rename_i O
 refine Xnd (us:=[]) I (by unfold Xap;rw[j];rfl) A (λN W θ ρ _ Q hN hB T=>?_) (Pl.nx_nil k)
 obtain⟨cs,⟨b,U,V,Y⟩,B⟩:=T _ _ M
 subst Y
 have B:ρ x=.pointer (some ⟨b,0,none⟩):=B
 refine .val (u:=.pointer (some ⟨b,0,none⟩)) Q ?_ ⟨_,⟨b,U,V,rfl⟩,rfl⟩ (λi hi=>by subst hi;exact⟨_,O⟩)
 simp only[execOp,j,B];rfl
noncomputable def Yqe(tb:Nat->Option TI)(n:Nat)(s:St): Option (Pl×Oper×TypeId×Operand×Operand×Nat×Nat×Int):=match nxO tb n s with
 | some (p,o)=>match o.op,p.dr with
  | .indexAddr T x y,false=>match Xcw (look p.E) x,Xcw (look p.E) y,tb T with
   | some (.ap q m),some (.d (.int _ j)),some ⟨.st _,e,_,h⟩=>match Nat.beq m h,Nat.beq e.size 1,look p.H q with
    | true,true,some _=>some (p,o,T,x,y,q,m,j)
    | _,_,_=>none
   | _,_,_=>none
  | _,_=>none
 | none=>none
theorem Ea(j:Nat){o:Oper}{T:TypeId}{x y:Operand}{q m:Nat}{i:Int}(h:Yqe c.tb c.n s=some (p,o,T,x,y,q,m,i))(Z:j<m)(k:p.nx c (.el q 1 j 0))(hi:i=(j:Int):=by first | exact rfl | omega): StP c s:=by
 subst hi
 unfold Yqe at h
 split at h<;>try cases h
 rename_i p' o' ho
 split at h<;>try cases h
 rename_i T' x' y' I M
 split at h<;>try cases h
 rename_i k2 zz e eb ar hx hy O
 split at h<;>cases h
 rename_i A hH B
 have B:=W0g B
 subst B
 have A:=W0g A
 refine Xnd (us:=[]) ho (by unfold Xap;rw[I];rfl) M (λN W θ ρ _ hO hN hB V=>?_) (Pl.nx_nil k)
 obtain⟨hk,_⟩:=c.hT _ _ O
 obtain⟨t,u1,_,Y⟩:=hk.u
 simp only[show ¬m=0 by omega,if_false] at Y
 obtain⟨E,e1,i,v0,i1,i2,_⟩:=Y
 subst e1
 have i2:i.size=1:=i2.trans A
 obtain⟨cs,⟨b,f1,f2,f3⟩,Q⟩:=V _ _ hx
 subst f3
 have Q:ρ x=.pointer (some ⟨b,0,none⟩):=Q
 obtain⟨ey,_⟩:=Xcv (V _ _ hy)
 refine .val (u:=.pointer (some ⟨b,j,none⟩)) hO ?_ (by have:=Ynj (sz:=1) (j:=j) (off:=0) (W:=W) f1;simpa using this) (λi hi=>by subst hi;exact⟨_,hH⟩)
 have U:(j:Int)<(m:Int):=by omega
 simp[execOp,I,Q,ey,Instr.indexAt,Instr.sureAddr,asIntOf,sizeOf,typeInfo,underlying,program,bind,Sem.bind,Sem.run,pure,u1,i1,i2,U,Z,add0]
end
end
end Go.Vm
namespace Go.Proofs.YtcmjannkbdflmaaGreatDoor
open Go Go.Vm Go.Num
abbrev Tx(s:List UInt8): Prop:=s.length<4611686018427387904
theorem Xg2{s t:List UInt8}(hs:Tx s)(i:Tx t): C0 218 [.d (.str s),.d (.str t)] (·=.b (dc (s.take t.length=t))):=by
 refine En Tryz.func218 λ_ _ _=>?_
 refine By rfl (λh=>?_) λh=>?_
 . refine Stk t.length _ rfl (by omega) rfl ?_
   exact R1 rfl (.bp Xal)
 . refine R1 rfl (.bp ⟨λe=>(by cases e),λe=>?_⟩)
   have:=congrArg List.length e
   rw[W0k] at this
   omega
theorem Xem{s t:List UInt8}(hs:Tx s)(i:Tx t): C0 63 [.d (.str s),.d (.str t)] (·=.tup (.pr (.d (.str (if s.take t.length=t then s.drop t.length else s))) (.b (dc (s.take t.length=t))))):=by
 have j:C0 133 [.d (.str s),.d (.str t)] (·=.tup (.pr (.d (.str (if s.take t.length=t then s.drop t.length else s))) (.b (dc (s.take t.length=t))))):=by
  refine En Tryz.func133 λ_ _ _=>?_
  refine Ce rfl (Xg2 hs i)<|By rfl (λh=>?_) λh=>?_
  . refine RTt rfl (.cons (.eq (by rw[if_neg h])) (.one (by exact .bp (c:=false) ⟨λe=>(by cases e),λe=>absurd e h⟩) (λ_ _ e=>by cases e) (λ_ _ e=>by cases e)))
  . have h:=W3g.1 h
    have o:t.length<=s.length:=by have:=congrArg List.length h;rw[W0k] at this;omega
    refine Sdp t.length _ rfl o rfl ?_
    refine RTt rfl (.cons (.eq (by rw[if_pos h])) (.one (by exact .bp (c:=true) ⟨λ_=>h,λ_=>rfl⟩) (λ_ _ e=>by cases e) (λ_ _ e=>by cases e)))
 refine En Tryz.func63 λ_ _ _=>?_
 exact Ce rfl j<|R0t
def trL(c:UInt8)(s:List UInt8): List UInt8:=s.dropWhile (·==c)
theorem Xfo{a b:UInt8}(h:(a.toNat:Int)=b.toNat): a=b:=W8c.1 (by omega)
theorem Xht{s:List UInt8}{b:UInt8}(hs:Tx s): C0 254 [.d (.str s),.d (.int .u8 b.toNat)] (·=.d (.str (trL b s))):=by
 refine En Tryz.func254 λ_ _ _=>?_
 refine Lo (λ(t:List UInt8)=>[(0,.d (.str t)),(1,.d (.int .u8 b.toNat))]) (λ_=>[]) (λt=>Tx t/\trL b t=trL b s) (λt=>t.length) s [] rfl ⟨hs,rfl⟩ ?_ (by exact⟨rfl,rfl,rfl,rfl,rfl⟩)
 rintro t ⟨o,i⟩
 refine By rfl (λh=>?_) λh=>?_
 . cases t with
   | nil=>simp at h
   | cons x u =>
   have A:(x::u).length=u.length+1:=rfl
   refine Yx 0 x rfl rfl ?_
   refine By rfl (λj=>?_) λj=>?_
   . refine Sdp 1 u rfl (by omega) rfl ?_
     refine Bk u [] rfl ⟨by show u.length<_;have:(x::u).length<_:=o;omega,?_⟩ (by simp) (by exact⟨rfl,rfl,rfl,rfl,rfl⟩)
     rw[<-i];simp[trL,Xfo j]
   . refine R1 rfl (.eq ?_)
     rw[<-i];simp[trL,W4p]
     exact λe=>absurd (by rw[e]) j
 . have:t=[]:=W2k.1 (by omega)
   subst this
   exact R1 rfl (.eq (by rw[<-i];rfl))
theorem Xoj{s:List UInt8}{b:UInt8}(hs:Tx s)(hb:b.toNat<128): C0 166 [.d (.str s),.d (.str [b])] (·=.d (.str (trL b s))):=by
 refine En Tryz.func166 λ_ _ _=>?_
 refine By rfl (λh=>?_) λh=>?_
 . subst h;exact R1 rfl (.eq rfl)
 . refine No rfl (by simp)<|Yes rfl (by simp)<|Yx 0 b rfl rfl ?_
   refine Yes rfl (by omega)<|Yx 0 b rfl rfl ?_
   exact Ce rfl (Xht hs)<|R0
end Go.Proofs.YtcmjannkbdflmaaGreatDoor
namespace Go.Num
def dec(n:Nat): List UInt8:=if h:n<10 then [UInt8.ofNat (48+n)] else dec (n/10)++[UInt8.ofNat (48+n%10)]
termination_by n
decreasing_by omega
theorem Xb9{n:Nat}(h:n<10): dec n=[UInt8.ofNat (48+n)]:=by rw[dec,dif_pos h]
theorem Xd4{n:Nat}(h:10<=n): dec n=dec (n/10)++[UInt8.ofNat (48+n%10)]:=by rw[dec,dif_neg (by omega)]
theorem Xn1(n:Nat): dec n≠[]:=by
 rw[dec];split<;>simp
theorem Xl9(n:Nat): 0<(dec n).length:=W4o.2 (Xn1 n)
theorem Xel: ∀(k n:Nat),n<10^(k+1)->(dec n).length<=k+1
 | 0,n,h=>by rw[Xb9 (by simpa using h)];simp
 | k+1,n,h=>by
  by_cases i:n<10
  . rw[Xb9 i];simp
  . rw[Xd4 (by omega),W0d]
    have:=Xel k (n/10) (W4l (by rw[W0q] at h;omega))
    simp;omega
theorem Xex: ∀(k n:Nat),10^k<=n->k+1<=(dec n).length
 | 0,n,h=>Xl9 n
 | k+1,n,h=>by
  rw[W0q] at h
  have:0<10^k:=W6u (by decide)
  rw[Xd4 (by omega),W0d]
  have:=Xex k (n/10) (by omega)
  simp;omega
theorem Ylq(n:Nat): n<10^(dec n).length:=by
 induction n using Nat.strongRecOn with
 | ind n i =>
  by_cases h:n<10
  . rw[Xb9 h];simpa using h
  . rw[Xd4 (by omega),W0d]
    have:=i (n/10) (by omega)
    simp only[W4g]
    rw[W0q];omega
def tx(z:Int): List UInt8:=(if z<0 then [45] else [])++dec z.natAbs
theorem Yaf(l:Nat): 4294967296^l<=10^(10*l):=by
 rw[W5a];exact W6f (by decide) l
theorem Xi3(n:Nat): (dec n).length<=10*(dig n).length+1:=by
 refine Xel _ n (W0u (W0u (by have:=Xbx (Xad n);rwa[Xaf] at this) (Yaf _)) (W0m (by decide) (by omega)))
theorem dg{d:Nat}(h:d<10): (UInt8.ofNat (48+d)).toNat=48+d:=by
 rw[UInt8.toNat_ofNat'];exact W3v (by omega)
def Xhh(b:UInt8): Prop:=48<=b.toNat/\b.toNat<=57
theorem Xx3(n:Nat): ∀b∈dec n,Xhh b:=by
 induction n using Nat.strongRecOn with
 | ind n i =>
  intro b hb
  by_cases h:n<10
  . rw[Xb9 h,W0f] at hb;subst hb;exact⟨by rw[dg h];omega,by rw[dg h];omega⟩
  . rw[Xd4 (by omega),W2c,W0f] at hb
    rcases hb with hb | hb
    . exact i _ (by omega) b hb
    . subst hb;have:=W2b n (show 0<10 by decide);exact⟨by rw[dg this];omega,by rw[dg this];omega⟩
def pad(k:Nat)(d:List UInt8): List UInt8:=List.replicate (k+1-d.length) 48++d
theorem Xle(k:Nat)(d:List UInt8): (pad k d).length=max (k+1) d.length:=by simp[pad];omega
def pt(k:Nat)(p:List UInt8): List UInt8:=if k=0 then p else p.take (p.length-k)++46::p.drop (p.length-k)
def txt(z:Int)(k:Nat): List UInt8:=(if z<0 then [45] else [])++pt k (pad k (dec z.natAbs))
theorem Yer(z:Int)(k:Nat): (txt z k).length<=k+3+(dec z.natAbs).length:=by
 have h:=Xle k (dec z.natAbs)
 have i:(pt k (pad k (dec z.natAbs))).length<=(pad k (dec z.natAbs)).length+1:=by
  unfold pt;split
  . omega
  . simp;omega
 unfold txt
 split<;>simp only[W0d,W0j,W3e]<;>omega
def Xb7(l:List UInt8): Nat:=l.foldl (λa b=>10*a+(b.toNat-48)) 0
theorem Xb5(l:List UInt8)(b:UInt8): Xb7 (l++[b])=10*Xb7 l+(b.toNat-48):=by simp[Xb7]
theorem Xfr{p:List UInt8->Prop}(h0:p [])(hs:∀l b,p l->p (l++[b]))(l:List UInt8): p l:=by
 rw[<-List.reverse_reverse l]
 induction l.reverse with
 | nil=>exact h0
 | cons b l h=>rw[List.reverse_cons];exact hs _ _ h
theorem Xf6(u t:List UInt8): Xb7 (u++t)=Xb7 u*10^t.length+Xb7 t:=by
 induction t using Xfr with
 | h0=>simp[Xb7]
 | hs l b h =>
  rw[<-W2j,Xb5,Xb5,h,W0d,W4g,W0q]
  have:Xb7 u*(10^l.length*10)=10*(Xb7 u*10^l.length):=by rw[W1f (10^l.length) 10,W4e]
  omega
theorem Xiy{l:List UInt8}(h:∀b∈l,Xhh b): Xb7 l<10^l.length:=by
 induction l using Xfr with
 | h0=>decide
 | hs l b i =>
  have A:=i λx j=>h x (W2l _ j)
  have o:=h b (W1r _ (W0f.2 rfl))
  unfold Xhh at o
  rw[Xb5,W0d,W4g,W0q]
  omega
theorem Xl3(b:UInt8): Xb7 [b]=b.toNat-48:=by simp[Xb7]
theorem Ybh{b:UInt8}{l:List UInt8}(hb:48<b.toNat): 0<Xb7 (b::l):=by
 rw[show b::l=[b]++l from rfl,Xf6,Xl3]
 have:0<(b.toNat-48)*10^l.length:=W1p (by omega) (W6u (by decide))
 omega
theorem Ybj(n:Nat): Xb7 (dec n)=n:=by
 induction n using Nat.strongRecOn with
 | ind n i =>
  by_cases h:n<10
  . rw[Xb9 h,Xl3,dg h];omega
  . rw[Xd4 (by omega),Xb5,i _ (by omega),dg (W2b _ (by decide))];omega
end Go.Num
namespace Go.Proofs.YtcmjannkbdflmaaGreatDoor
open Go Go.Vm Go.Num Go.Proofs Go.Shelf Go.RowKit
section
def d2(n:Nat): List UInt8:=[UInt8.ofNat (48+n/10),UInt8.ofNat (48+n%10)]
theorem Yls{n:Nat}(h:10<=n)(i:n<100): dec n=d2 n:=by rw[Xd4 h,Xb9 (by omega)];rfl
def tb2: List UInt8:=(List.range 100).flatMap d2
theorem Xzw{n:Nat}(i:n<100): C0 316 [.d (.int .i64 n)] (·=.d (.str (dec n))):=by
 refine En Tryz.func316 λ_ _ _=>?_
 refine By rfl (λh=>?_) λh=>?_
 . refine Ar (n+1:Nat) rfl ?_
   refine Smd n (n+1) (dec n) rfl ⟨by omega,by simp;omega⟩ ?_ ?_
   . rw[Xb9 (by omega)]
     have o:n<10:=by omega
     clear i h
     revert o;generalize n=j;revert j;decide +kernel
   . exact R0
 . refine Ar (n*2:Nat) rfl ?_
   refine Ar (n*2:Nat) rfl ?_
   refine Ar (n*2+2:Nat) rfl ?_
   refine Smd (n*2) (n*2+2) (dec n) rfl ⟨by omega,by simp;omega⟩ ?_ ?_
   . rw[Yls (by omega) i]
     clear h
     revert i;generalize n=j;revert j;decide +kernel
   . exact R0
theorem Xni{n:Nat}(h:n<=64): C0 381 [.d (.int .i64 n)] (·=.d (.int .i64 (n*78913/262144:Nat))):=by
 refine En Tryz.func381 λ_ _ _=>?_
 refine Ar (n*78913:Nat) rfl ?_
 refine Ar (n*78913/2^18:Nat) rfl ?_ (Xh2 (n:=18) (by decide))
 exact R1 rfl (.eq rfl)
theorem Yb2{p:Prop}: C0 383 [.b (dc p)] (λv=>∃n:Nat,v=.d (.int .i64 n)/\(n=1/\p\/n=0/\¬p)):=by
 refine En Tryz.func383 λ_ _ _=>?_
 refine By rfl (λh=>?_) λh=>?_
 . exact Rt rfl (.one (.rf rfl) rfl rfl) ⟨1,rfl,.inl ⟨rfl,h⟩⟩
 . exact Rt rfl (.one (.rf rfl) rfl rfl) ⟨0,rfl,.inr ⟨rfl,h⟩⟩
theorem Ycd{x:Nat}(hx:x<18446744073709551616): C0 382 [.d (.int .u64 x)] (·=.d (.int .i64 (bl x))):=by
 refine En Tryz.func382 λ_ _ _=>?_
 refine Cu none (λ((i,n1):Nat×Nat)=>[(0,.d (.int .u64 i)),(2,.d (.int .i64 n1))]) (λ_=>[]) (λ(i,n1)=>i<4294967296/\bl x=bl i+n1/\n1<=32) rfl ?_ λ⟨O,n0⟩ ⟨Q,A,T⟩=>?_
 . refine By rfl (λh=>?_) λh=>?_
   . refine Ar (x/2^32:Nat) rfl ?_ (Xh2 (n:=32) (by decide))
     exact Jn (x/2^32,32) [] rfl ⟨by omega,Xe0 (by omega),W0c _⟩
   . exact Jn (x,0) [] rfl ⟨by omega,rfl,by omega⟩
 refine Cu none (λ((i,n1):Nat×Nat)=>[(0,.d (.int .u64 i)),(2,.d (.int .i64 n1))]) (λ_=>[]) (λ(i,n1)=>i<65536/\bl x=bl i+n1/\n1<=48) rfl ?_ λ⟨i,n1⟩ ⟨U,B,V⟩=>?_
 . refine By rfl (λh=>?_) λh=>?_
   . refine Ar (O/2^16:Nat) rfl ?_ (Xh2 (n:=16) (by decide))
     refine Ar (n0+16:Nat) rfl ?_
     exact Jn (O/2^16,n0+16) [] rfl ⟨by omega,by rw[A,Xe0 (n:=O) (k:=16) (by omega)];omega,by omega⟩
   . exact Jn (O,n0) [] rfl ⟨by omega,A,by omega⟩
 refine Cu none (λ((i,n1):Nat×Nat)=>[(0,.d (.int .u64 i)),(2,.d (.int .i64 n1))]) (λ_=>[]) (λ(i,n1)=>i<256/\bl x=bl i+n1/\n1<=56) rfl ?_ λ⟨o,n2⟩ ⟨I,Y,Z⟩=>?_
 . refine By rfl (λh=>?_) λh=>?_
   . refine Ar (i/2^8:Nat) rfl ?_ (Xh2 (n:=8) (by decide))
     refine Ar (n1+8:Nat) rfl ?_
     exact Jn (i/2^8,n1+8) [] rfl ⟨by omega,by rw[B,Xe0 (n:=i) (k:=8) (by omega)];omega,by omega⟩
   . exact Jn (i,n1) [] rfl ⟨by omega,B,by omega⟩
 have M:bl o<256:=W0u (Yd4 (p:=λj=>bl j<10) (by decide +kernel) o I) (by decide)
 refine Go.Vm.Cv o rfl ?_
 refine Yx o (UInt8.ofNat (bl o)) rfl (by revert I;generalize o=j;revert j;decide +kernel) ?_
 refine Go.Vm.Cv (bl o:Nat) rfl ?_ ((wI ⟨by omega,by rw[Xzn M];omega⟩).trans (Xzn M))
 refine Ar (bl x:Nat) rfl ?_
 exact R0
theorem Xnf{x:Nat}(Z:100<=x)(hx:x<1000000000): C0 317 [.d (.int .u64 x)] (·=.d (.int .i64 (dec x).length)):=by
 obtain⟨B,I,b3⟩:=Xck (n:=x) (by omega)
 have o:7<=bl x:=by
  have:2^6<2^bl x:=W1y (by omega) I
  have:=(W2w (by decide:1<2)).1 this
  omega
 have i:bl x<=30:=by
  have:2^(bl x-1)<2^30:=W1y B (by omega)
  have:=(W2w (by decide:1<2)).1 this
  omega
 obtain⟨t,M⟩:∃t,t=bl x*78913/262144:=⟨_,rfl⟩
 have A:t<=9:=by omega
 have j:10^(t-1)<=x/\x<10^(t+1)/\1<=t:=by
  have U:∀b,b<=30->7<=b->10^(b*78913/262144-1)<=2^(b-1)/\2^b<=10^(b*78913/262144+1)/\1<=b*78913/262144:=by decide +kernel
  obtain⟨O,Q,T⟩:=U (bl x) i o
  rw[<-M] at O Q T
  exact⟨W0l O B,W0u I Q,T⟩
 refine En Tryz.func317 λ_ _ _=>?_
 refine Ce rfl (Ycd (by omega))<|Ce rfl (show C0 _ _ (·=.d (.int .i64 (t:Nat))) by rw[M];exact Xni (by omega))<|Gx t .u64 ((10^t:Nat):Int) rfl (by omega) (λW h=>h t (by omega)) ?_ ?_
 . have:10^t<=10^9:=W0m (by decide) A
   exact wr rfl (by simp only[inK];omega)
 refine Ca rfl (C.nb Yb2) λv V=>?_
 obtain⟨n,rfl,Y⟩:=V
 refine Ar ((dec x).length:Nat) rfl ?_ ?_
 . exact R0
 . refine wr ?_ ?_
   . rcases Y with ⟨rfl,hp⟩ | ⟨rfl,hp⟩
     . have:=Xel t x j.2.1
       have:=Xex t x (by omega)
       omega
     . have h3:=Xel (t-1) x (by rw[show t-1+1=t by omega];omega)
       have h4:=Xex (t-1) x j.1
       omega
   . have:=Xel 9 x (by omega)
     simp only[inK];omega
end
section
def dgs: Nat->Nat->List UInt8
 | 0,_=>[]
 | w+1,n=>dgs w (n/10)++[UInt8.ofNat (48+n%10)]
theorem Yg8(w n:Nat): dgs (w+2) n=dgs w (n/100)++d2 (n%100):=by
 rw[dgs,dgs,W6k,d2,show n/10%10=n%100/10 by omega,show n%10=n%100%10 by omega]
 simp
theorem Xx1(n:Nat): dgs (dec n).length n=dec n:=by
 induction n using Nat.strongRecOn with
 | ind n i =>
  by_cases h:n<10
  . rw[Xb9 h];show dgs 1 n=_;rw[dgs,dgs,W3v h];rfl
  . rw[Xd4 (by omega),W0d];show dgs (_+1) n=_
    rw[dgs,i _ (by omega)]
def b8(b:UInt8): D:=.int .u8 b.toNat
theorem Xyl: ∀l:List UInt8,Ybz (l.map b8)=some l
 | []=>rfl
 | b::l=>by
  show (match Ybz (l.map b8) with | some s=>some (UInt8.ofNat ((b.toNat:Int)).toNat::s) | none=>none)=_
  rw[Xyl l];simp
theorem st1{z acc:List UInt8}{i j:Nat}{a:UInt8}(o:j+1=i)(I:i<=z.length): ((z.take i++acc).map b8).set j (b8 a)=(z.take j++a::acc).map b8:=by
 subst o
 rw[<-W6q]
 congr 1
 apply W5u
 intro k
 by_cases M:k<j
 . rw[W1v (by omega),W1d (by simp;omega),W1d (by simp;omega),W1l,W1l,if_pos (by omega),if_pos (by omega)]
 . by_cases h:k=j
   . subst h
     rw[W2n (by simp;omega),W0o (by simp;omega)]
     have:k-(List.take k z).length=0:=by simp;omega
     rw[this];rfl
   . obtain⟨q,rfl⟩:∃q,k=j+1+q:=⟨k-(j+1),by omega⟩
     rw[W1v (by omega),W0o (by simp;omega),W0o (by simp;omega)]
     have A:j+1+q-(List.take (j+1) z).length=q:=by simp;omega
     have B:j+1+q-(List.take j z).length=q+1:=by simp;omega
     rw[A,B];simp
def Ypx(l:List UInt8): Prop:=∀v,v<100->l[v*2+1]?=some (UInt8.ofNat (48+v%10))/\l[v*2]?=some (UInt8.ofNat (48+v/10))
instance (l:List UInt8):Decidable (Ypx l):=inferInstanceAs (Decidable (∀v,v<100->_))
theorem quN{k:IntKind}{a b r:Nat}(hb:b≠0)(h:a/b=r)(i:inK k (r:Int)): arB .quo k (a:Int) (b:Int) (r:Int):=show _/\_ from⟨by omega,wr (by subst h;rfl) i⟩
theorem reN{k:IntKind}{a b r:Nat}(hb:b≠0)(h:a%b=r): arB .rem k (a:Int) (b:Int) (r:Int):=show _/\_ from⟨by omega,by subst h;rfl⟩
theorem tbl: Ypx (List.flatten ((List.range 100).map d2)):=by decide +kernel
theorem Stb{c:Cx}{s:St}{p:Pl}{q j:Nat}{xs:List D}{z:Int}(a:UInt8){zs:List D}(h:Yoj c.tb c.n s=some (p,q,1,xs,j,.int .u8 z))(o:j<xs.length)(A:xs.set j (b8 a)=zs)(k:p.nx' c (.ub True) [(q,.arr 1 zs)])(i:z=(a.toNat:Int):=by exact rfl): StP c s:=by
 subst i
 exact Sto h o A k
theorem Xis{nd x:Nat}{z0:List UInt8}(h1:nd<=9)(hx:x<1000000000)(U:x<10^nd)(hz0:nd<=z0.length)(hz24:z0.length<1000):
 CW0 318 [.own 1000001 1 0 nd,.d (.int .u64 x)] [(1000001,.arr 1 (z0.map b8))] λv H'=>H'=[(1000001,.arr 1 ((dgs nd x++z0.drop nd).map b8))]:=by
 refine EnW Tryz.func318 λ_ _ _ _=>?_
 refine Lo (λ((i,u,acc):Nat×Nat×List UInt8)=>[(0,.own 1000001 1 0 nd),(1,.d (.int .u64 u)),(4,.d (.int .i64 i))]) (λ(i,_,acc)=>[(1000001,.arr 1 ((z0.take i++acc).map b8))])
  (λ(i,u,acc)=>i<=nd/\u<10^i/\u<1000000000/\dgs i u++acc=dgs nd x++z0.drop nd) (λ(i,_,_)=>i) (nd,x,z0.drop nd) [] rfl ⟨W0c _,U,hx,rfl⟩ ?_ (by exact⟨rfl,by simp only[W3w];rfl,rfl,rfl,rfl⟩)
 rintro⟨i,u,acc⟩ ⟨hi,o,V,M⟩
 refine By rfl (λh=>?_) λh=>?_
 . obtain⟨v,Y⟩:∃v,v=u%100000000:=⟨_,rfl⟩
   obtain⟨Z,ht6⟩:∃t,t=v/10000:=⟨_,rfl⟩
   obtain⟨t7,ht7⟩:∃t,t=v%10000:=⟨_,rfl⟩
   obtain⟨v0,I⟩:∃w,w=t7%100:=⟨_,rfl⟩
   obtain⟨j,O⟩:∃w,w=t7/100:=⟨_,rfl⟩
   obtain⟨A,hv2⟩:∃w,w=Z%100:=⟨_,rfl⟩
   obtain⟨B,hv3⟩:∃w,w=Z/100:=⟨_,rfl⟩
   have Bv0:v0<100:=by omega
   have Bv1:j<100:=by omega
   have Bv2:A<100:=by omega
   have Bv3:B<100:=by omega
   refine Ar (v:Nat) rfl ?_ (reN (b:=100000000) (by decide) Y.symm)
   refine Go.Vm.Cv v rfl ?_
   refine Ar (u/100000000:Nat) rfl ?_ (quN (b:=100000000) (by decide) rfl (by simp only[inK];omega))
   refine Ar Z rfl ?_ (quN (b:=10000) (by decide) ht6.symm (by simp only[inK];omega))
   refine Ar t7 rfl ?_ (reN (b:=10000) (by decide) ht7.symm)
   refine Ar j rfl ?_ (quN (b:=100) (by decide) O.symm (by simp only[inK];omega))
   refine Ar (j*2:Nat) rfl ?_
   refine Ar v0 rfl ?_ (reN (b:=100) (by decide) I.symm)
   refine Ar (v0*2:Nat) rfl ?_
   refine Ar B rfl ?_ (quN (b:=100) (by decide) hv3.symm (by simp only[inK];omega))
   refine Ar (B*2:Nat) rfl ?_
   refine Ar A rfl ?_ (reN (b:=100) (by decide) hv2.symm)
   refine Ar (A*2:Nat) rfl ?_
   refine Dw rfl<|Ar ((i-1:Nat):Int) rfl ?_
   refine Ar ((i-2:Nat):Int) rfl ?_
   refine Ar ((v0*2+1:Nat):Int) rfl ?_
   refine Yx (v0*2+1) (UInt8.ofNat (48+v0%10)) rfl (tbl v0 Bv0).1 ?_
   refine Yx (v0*2) (UInt8.ofNat (48+v0/10)) rfl (tbl v0 Bv0).2 ?_
   refine Eo (i-1) rfl (by omega)<|Stb (UInt8.ofNat (48+v0%10)) rfl (by simp only[W0i,W0d,W0k,W0j];omega) (st1 (by omega) (by omega)) ?_
   refine Eo (i-2) rfl (by omega)<|Stb (UInt8.ofNat (48+v0/10)) rfl (by simp only[W0i,W0d,W0k,W0j];omega) (st1 (by omega) (by omega)) ?_
   refine Dw rfl<|Ar ((i-3:Nat):Int) rfl ?_
   refine Ar ((i-4:Nat):Int) rfl ?_
   refine Ar ((j*2+1:Nat):Int) rfl ?_
   refine Yx (j*2+1) (UInt8.ofNat (48+j%10)) rfl (tbl j Bv1).1 ?_
   refine Yx (j*2) (UInt8.ofNat (48+j/10)) rfl (tbl j Bv1).2 ?_
   refine Eo (i-3) rfl (by omega)<|Stb (UInt8.ofNat (48+j%10)) rfl (by simp only[W0i,W0d,W0k,W0j];omega) (st1 (by omega) (by omega)) ?_
   refine Eo (i-4) rfl (by omega)<|Stb (UInt8.ofNat (48+j/10)) rfl (by simp only[W0i,W0d,W0k,W0j];omega) (st1 (by omega) (by omega)) ?_
   refine Dw rfl<|Ar ((i-5:Nat):Int) rfl ?_
   refine Ar ((i-6:Nat):Int) rfl ?_
   refine Ar ((A*2+1:Nat):Int) rfl ?_
   refine Yx (A*2+1) (UInt8.ofNat (48+A%10)) rfl (tbl A Bv2).1 ?_
   refine Yx (A*2) (UInt8.ofNat (48+A/10)) rfl (tbl A Bv2).2 ?_
   refine Eo (i-5) rfl (by omega)<|Stb (UInt8.ofNat (48+A%10)) rfl (by simp only[W0i,W0d,W0k,W0j];omega) (st1 (by omega) (by omega)) ?_
   refine Eo (i-6) rfl (by omega)<|Stb (UInt8.ofNat (48+A/10)) rfl (by simp only[W0i,W0d,W0k,W0j];omega) (st1 (by omega) (by omega)) ?_
   refine Dw rfl<|Ar ((i-7:Nat):Int) rfl ?_
   refine Ar ((i-8:Nat):Int) rfl ?_
   refine Ar ((B*2+1:Nat):Int) rfl ?_
   refine Yx (B*2+1) (UInt8.ofNat (48+B%10)) rfl (tbl B Bv3).1 ?_
   refine Yx (B*2) (UInt8.ofNat (48+B/10)) rfl (tbl B Bv3).2 ?_
   refine Eo (i-7) rfl (by omega)<|Stb (UInt8.ofNat (48+B%10)) rfl (by simp only[W0i,W0d,W0k,W0j];omega) (st1 (by omega) (by omega)) ?_
   refine Eo (i-8) rfl (by omega)<|Stb (UInt8.ofNat (48+B/10)) rfl (by simp only[W0i,W0d,W0k,W0j];omega) (st1 (by omega) (by omega)) ?_
   refine Ar ((i-8:Nat):Int) rfl ?_
   refine Bk (i-8,u/100000000,d2 B++(d2 A++(d2 j++(d2 v0++acc)))) [] rfl ⟨by omega,?_,by omega,?_⟩ (by show i-8<i;omega) (by exact⟨rfl,rfl,rfl,rfl,rfl⟩)
   . obtain⟨q,rfl⟩:∃q,i=q+8:=⟨i-8,by omega⟩
     rw[W1a] at o
     rw[W3m]
     exact W4l (by rw[W1f];exact o)
   . obtain⟨q,rfl⟩:∃q,i=q+8:=⟨i-8,by omega⟩
     rw[W3m,<-M,show q+8=q+6+2 from rfl,Yg8,show q+6=q+4+2 from rfl,Yg8,show q+4=q+2+2 from rfl,Yg8,Yg8]
     rw[show u/100/100/100/100=u/100000000 by omega,show u%100=v0 by omega,show u/100%100=j by omega,show u/100/100%100=A by omega,show u/100/100/100%100=B by omega]
     simp only[W2j]
 have hi8:i<8:=by omega
 have hu8:u<10^8:=W0u o (W0m (by decide) (by omega))
 refine Go.Vm.Cv u rfl ?_
 refine Cu none (λ((i,u,acc):Nat×Nat×List UInt8)=>[(0,.own 1000001 1 0 nd),(12,.d (.int .u32 u)),(4,.d (.int .i64 i))]) (λ(i,_,acc)=>[(1000001,.arr 1 ((z0.take i++acc).map b8))])
  (λ(i,u,acc)=>i<=nd/\i<4/\u<10^i/\dgs i u++acc=dgs nd x++z0.drop nd) rfl ?_ ?_
 . refine By rfl (λQ=>?_) λQ=>?_
   . obtain⟨v,Y⟩:∃v,v=u%10000:=⟨_,rfl⟩
     obtain⟨v0,I⟩:∃w,w=v%100:=⟨_,rfl⟩
     obtain⟨j,O⟩:∃w,w=v/100:=⟨_,rfl⟩
     have Bv0:v0<100:=by omega
     have Bv1:j<100:=by omega
     refine Ar (v:Nat) rfl ?_ (reN (b:=10000) (by decide) Y.symm)
     refine Ar (u/10000:Nat) rfl ?_ (quN (b:=10000) (by decide) rfl (by simp only[inK];omega))
     refine Ar j rfl ?_ (quN (b:=100) (by decide) O.symm (by simp only[inK];omega))
     refine Ar (j*2:Nat) rfl ?_
     refine Ar v0 rfl ?_ (reN (b:=100) (by decide) I.symm)
     refine Ar (v0*2:Nat) rfl ?_
     refine Dw rfl<|Ar ((i-1:Nat):Int) rfl ?_
     refine Ar ((i-2:Nat):Int) rfl ?_
     refine Ar ((v0*2+1:Nat):Int) rfl ?_
     refine Yx (v0*2+1) (UInt8.ofNat (48+v0%10)) rfl (tbl v0 Bv0).1 ?_
     refine Yx (v0*2) (UInt8.ofNat (48+v0/10)) rfl (tbl v0 Bv0).2 ?_
     refine Eo (i-1) rfl (by omega)<|Stb (UInt8.ofNat (48+v0%10)) rfl (by simp only[W0i,W0d,W0k,W0j];omega) (st1 (by omega) (by omega)) ?_
     refine Eo (i-2) rfl (by omega)<|Stb (UInt8.ofNat (48+v0/10)) rfl (by simp only[W0i,W0d,W0k,W0j];omega) (st1 (by omega) (by omega)) ?_
     refine Dw rfl<|Ar ((i-3:Nat):Int) rfl ?_
     refine Ar ((i-4:Nat):Int) rfl ?_
     refine Ar ((j*2+1:Nat):Int) rfl ?_
     refine Yx (j*2+1) (UInt8.ofNat (48+j%10)) rfl (tbl j Bv1).1 ?_
     refine Yx (j*2) (UInt8.ofNat (48+j/10)) rfl (tbl j Bv1).2 ?_
     refine Eo (i-3) rfl (by omega)<|Stb (UInt8.ofNat (48+j%10)) rfl (by simp only[W0i,W0d,W0k,W0j];omega) (st1 (by omega) (by omega)) ?_
     refine Eo (i-4) rfl (by omega)<|Stb (UInt8.ofNat (48+j/10)) rfl (by simp only[W0i,W0d,W0k,W0j];omega) (st1 (by omega) (by omega)) ?_
     refine Ar ((i-4:Nat):Int) rfl ?_
     refine Jn (i-4,u/10000,d2 j++(d2 v0++acc)) [] rfl ⟨by omega,by omega,?_,?_⟩
     . obtain⟨q,rfl⟩:∃q,i=q+4:=⟨i-4,by omega⟩
       rw[W1a] at o
       rw[W3m]
       exact W4l (by rw[W1f];exact o)
     . obtain⟨q,rfl⟩:∃q,i=q+4:=⟨i-4,by omega⟩
       rw[W3m,<-M,show q+4=q+2+2 from rfl,Yg8,Yg8]
       rw[show u/100/100=u/10000 by omega,show u%100=v0 by omega,show u/100%100=j by omega]
       simp only[W2j]
   . exact Jn (i,u,acc) [] rfl ⟨hi,by omega,o,M⟩
 clear hu8 hi8 h M V o hi acc u i
 rintro⟨i,u,acc⟩ ⟨hi,hi4,o,M⟩
 have hu4:u<10^4:=W0u o (W0m (by decide) (by omega))
 refine Cu none (λ((i,u,acc):Nat×Nat×List UInt8)=>[(0,.own 1000001 1 0 nd),(12,.d (.int .u32 u)),(4,.d (.int .i64 i))]) (λ(i,_,acc)=>[(1000001,.arr 1 ((z0.take i++acc).map b8))])
  (λ(i,u,acc)=>i<=nd/\i<2/\u<10^i/\dgs i u++acc=dgs nd x++z0.drop nd) rfl ?_ ?_
 . refine By rfl (λQ=>?_) λQ=>?_
   . obtain⟨v0,I⟩:∃w,w=u%100:=⟨_,rfl⟩
     have Bv0:v0<100:=by omega
     refine Ar v0 rfl ?_ (reN (b:=100) (by decide) I.symm)
     refine Ar (v0*2:Nat) rfl ?_
     refine Ar (u/100:Nat) rfl ?_ (quN (b:=100) (by decide) rfl (by simp only[inK];omega))
     refine Dw rfl<|Ar ((i-1:Nat):Int) rfl ?_
     refine Ar ((i-2:Nat):Int) rfl ?_
     refine Ar ((v0*2+1:Nat):Int) rfl ?_
     refine Yx (v0*2+1) (UInt8.ofNat (48+v0%10)) rfl (tbl v0 Bv0).1 ?_
     refine Yx (v0*2) (UInt8.ofNat (48+v0/10)) rfl (tbl v0 Bv0).2 ?_
     refine Eo (i-1) rfl (by omega)<|Stb (UInt8.ofNat (48+v0%10)) rfl (by simp only[W0i,W0d,W0k,W0j];omega) (st1 (by omega) (by omega)) ?_
     refine Eo (i-2) rfl (by omega)<|Stb (UInt8.ofNat (48+v0/10)) rfl (by simp only[W0i,W0d,W0k,W0j];omega) (st1 (by omega) (by omega)) ?_
     refine Ar ((i-2:Nat):Int) rfl ?_
     refine Jn (i-2,u/100,d2 v0++acc) [] rfl ⟨by omega,by omega,?_,?_⟩
     . obtain⟨q,rfl⟩:∃q,i=q+2:=⟨i-2,by omega⟩
       rw[W1a] at o
       rw[W3m]
       exact W4l (by rw[W1f];exact o)
     . obtain⟨q,rfl⟩:∃q,i=q+2:=⟨i-2,by omega⟩
       rw[W3m,<-M,Yg8,<-I]
       simp only[W2j]
   . exact Jn (i,u,acc) [] rfl ⟨hi,by omega,o,M⟩
 clear hu4 hi4 M o hi acc u i
 rintro⟨i,u,acc⟩ ⟨hi,hi2,o,M⟩
 refine By rfl (λQ=>?_) λQ=>?_
 . have:i=1:=by omega
   subst this
   have T:u<10:=by simpa using o
   refine Ar (48+u:Nat) rfl ?_
   refine Go.Vm.Cv (48+u:Nat) rfl ?_
   refine Eo 0 rfl (by omega)<|Stb (UInt8.ofNat (48+u)) rfl (by simp only[W0i,W0d,W0k];omega) (st1 (i:=1) rfl (by omega)) ?_ (by rw[dg T])
   refine Rw [] [(1000001,.arr 1 ((z0.take 0++UInt8.ofNat (48+u)::acc).map b8))] rfl (.tup (.one (.rf rfl) (λ_ _ e=>by cases e) (λ_ _ e=>by cases e))) ?_
   rw[<-M,dgs,dgs,W3v T];rfl
 . have:i=0:=by omega
   subst this
   refine Rw [] [(1000001,.arr 1 ((z0.take 0++acc).map b8))] rfl (.tup (.one (.rf rfl) (λ_ _ e=>by cases e) (λ_ _ e=>by cases e))) ?_
   rw[<-M,dgs];rfl
end
section
theorem Xmj{x:Nat}(i:x<1000000000): C0 136 [.d (.int .u64 x),.d (.int .i64 10)] (·=.d (.str (dec x))):=by
 have j:C0 220 [.d (.int .u64 x),.d (.int .i64 10)] (·=.d (.str (dec x))):=by
  refine En Tryz.func220 λ_ _ _=>?_
  refine Yes rfl rfl<|By rfl (λh=>?_) λh=>?_
  . refine Go.Vm.Cv x rfl ?_
    exact Ce rfl (Xzw (by omega))<|R0
  . have o:=Xel 8 x i
    have B:=Xex 2 x (by omega)
    refine Va 5 5 900 24 ((List.replicate 24 (0:UInt8)).map b8) rfl rfl (by decide) rfl ?_
    refine Ce rfl (Xnf (by omega) i)<|Sp (dec x).length rfl (by omega) (by decide) ?_ (by decide)
    refine Cw (args:=[.own 1000001 1 0 (dec x).length,.d (.int .u64 x)]) [(1000001,900)] rfl (Xis (z0:=List.replicate 24 (0:UInt8)) o i (Ylq x) (by simp;omega) (by simp)) (λv H' _ A=>?_) rfl
    subst A
    refine Sp (dec x).length rfl (by omega) (by decide) ?_ (by decide)
    refine Bo (dec x) rfl ?_ ?_ ?_
    . simp[Xx1]
    . rw[Xx1]
      simp only[W0y]
      rw[<-W3d,W7a rfl,Xyl]
    . exact R0
 refine En Tryz.func136 λ_ _ _=>?_
 exact Ce rfl j<|R0
end
section
theorem Xd2{s t:List UInt8}(hs:Tx s)(h:Tx t): C0 138 [.d (.str s),.d (.str t)] (·=.b (dc (s.take t.length=t))):=by
 refine En Tryz.func138 λ_ _ _=>?_
 exact Ce rfl (Xg2 hs h)<|R0
theorem Yh7{n:Nat}(h:n<65): C0 137 [.d (.int .u64 1),.d (.int .u64 n)] (·=.tup (.pr (.d (.int .u64 0)) (.d (.int .u64 n)))):=by
 have i:C0 222 [.d (.int .u64 1),.d (.int .u64 n)] (·=.tup (.pr (.d (.int .u64 0)) (.d (.int .u64 n)))):=by
  refine En Tryz.func222 λ_ _ _=>?_
  refine Ar 1 rfl ?_ (by simp only[arB];decide +kernel)
  refine Ar 0 rfl ?_ (by simp only[arB];decide +kernel)
  refine Ar n rfl ?_ (by simp only[arB];revert h;generalize n=j;revert j;decide +kernel)
  refine Ar 0 rfl ?_ (by simp only[arB];revert h;generalize n=j;revert j;decide +kernel)
  refine Ar n rfl ?_
  refine Ar 0 rfl ?_
  refine Ar 0 rfl ?_ (by simp only[arB];revert h;generalize n=j;revert j;decide +kernel)
  refine Ar 0 rfl ?_
  refine Ar 0 rfl ?_ (by simp only[arB];decide +kernel)
  refine Ar 0 rfl ?_ (by simp only[arB];decide +kernel)
  refine Ar 0 rfl ?_
  refine Ar 0 rfl ?_
  refine Ar 0 rfl ?_
  refine Ar 0 rfl ?_
  refine Ar 0 rfl ?_ (by simp only[arB];decide +kernel)
  refine Ar 0 rfl ?_
  refine Ar n rfl ?_
  exact R0t
 refine En Tryz.func137 λ_ _ _=>?_
 exact Ce rfl i<|R0t
theorem Xkk{n:Nat}(i:n<65): C0 65 [.d (.str [48]),.d (.int .i64 n)] (·=.d (.str (List.replicate n 48))):=by
 refine En Tryz.func65 λ_ _ _=>?_
 refine By rfl (λh=>?_) λh=>?_
 . have:n=0:=by omega
   subst this;exact R1 rfl (.eq rfl)
 refine By rfl (λo=>?_) λo=>?_
 . have:n=1:=by omega
   subst this;exact R1 rfl (.eq rfl)
 refine No rfl (by omega)<|Go.Vm.Cv 1 rfl ?_ (by decide)
 refine Go.Vm.Cv n rfl ?_
 refine Ce rfl (Yh7 i)<|No rfl (by decide)<|No rfl (by omega)<|Go.Vm.Cv n rfl ?_
 refine No rfl (by decide)<|Yx 0 48 rfl rfl ?_
 refine No rfl (by decide)<|No rfl (by decide)<|Yes rfl (by decide)<|Yes rfl (by omega)<|Ce rfl (Xd2 (by decide) (by decide))<|No rfl (by decide)<|Yes rfl (by omega)<|Ce rfl (Xd2 (by decide) (by decide))<|No rfl (by decide)<|Yes rfl (by omega)<|Ce rfl (Xd2 (by decide) (by decide))<|Yes rfl (by decide)<|Stk n (List.replicate n 48) rfl (by simp;omega) ?_ ?_
 . clear h o
   revert i;generalize n=j;revert j;decide +kernel
 . exact R0
end
section
theorem Xmi(s:ByteArray)(c:Int)(w:World): Calls Tryz.prog 345 #[.string s,.int .u8 c] w λe w'=>e=.returned (.int .i64 (Lib.indexByte s.data.toList c.toNat.toUInt8))/\w'=w:=by
 go_enter Tryz.func345,Tryz.ntmps345
 go_wp2
 rw[run_callFunc_extern Tryz.func404 (by kernel_rfl) (by kernel_rfl) (by kernel_rfl) (e:=Extern.BytealgIndexByte.indexByte) (by kernel_rfl),Lib.run_indexByteString]
 simp only[Result.andThen]
 rw[Oper.upon_value]
 go_wp2
 go_ret
 exact⟨rfl,rfl⟩
theorem Ygi{b:UInt8}: ∀ {s:List UInt8},b ∉ s->Lib.indexByte s b=-1
 | [],_=>rfl
 | x::s,h=>by
  rw[W1h,not_or] at h
  have:=Ygi h.2
  rw[Lib.indexByte,this]
  rw[if_neg (by simpa using λe=>h.1 e.symm)];rfl
theorem Yar{b:UInt8}{t:List UInt8}: ∀ {u:List UInt8},b ∉ u->Lib.indexByte (u++b::t) b=u.length
 | [],_=>by simp[Lib.indexByte]
 | x::u,h=>by
  rw[W1h,not_or] at h
  have:=Yar (t:=t) h.2
  rw[W3q,Lib.indexByte,this]
  rw[if_neg (by simpa using λe=>h.1 e.symm),if_neg (by rw[beq_iff_eq];omega)]
  simp
theorem Xww(b:UInt8): ∀s:List UInt8,b ∉ s\/∃u t,s=u++b::t/\b ∉ u
 | []=>.inl (by simp)
 | x::s=>by
  by_cases h:x=b
  . subst h;exact .inr ⟨[],s,rfl,by simp⟩
  . rcases Xww b s with i | ⟨u,t,i,j⟩
    . exact .inl (by rw[W1h,not_or];exact⟨λe=>h e.symm,i⟩)
    . exact .inr ⟨x::u,t,by rw[i];rfl,by rw[W1h,not_or];exact⟨λe=>h e.symm,j⟩⟩
theorem Xol{s:List UInt8}{b:UInt8}(hs:Tx s): C0 345 [.d (.str s),.d (.int .u8 b.toNat)] (·=.d (.int .i64 (Lib.indexByte s b))):=by
 refine⟨⟨_,Tryz.func345,rfl,rfl⟩,λW j _ ha=>?_⟩
 match j,ha with
 | [v,u],ha =>
  obtain⟨rfl,_⟩:=Xjm ha.1
  obtain⟨rfl,_⟩:=Xcv ha.2.1
  refine(Xmi _ _ W.w).mono ?_
  rintro e A ⟨rfl,rfl⟩
  have o:((b.toNat:Int).toNat).toUInt8=b:=by simp
  rw[o]
  have B:=Lib.indexByte_ge s b
  have i:Lib.indexByte s b<9223372036854775808:=by
   have hs:s.length<_:=hs
   rcases Xww b s with h | ⟨u,t,h,i⟩
   . rw[Ygi h];decide
   . rw[h,Yar i];rw[h] at hs;simp at hs;omega
  refine⟨W,.d (.int .i64 (Lib.indexByte s b)),_,rfl,rfl,Fm.refl _ _,?_,λ_ h=>h,rfl⟩
  exact Vm.int_V (by show IntKind.i64.wrap _=_;exact wI ⟨by omega,i⟩)
theorem Xje{s:List UInt8}{b:UInt8}{r:Int}(hs:Tx s)(hr:Lib.indexByte s b=r): C0 244 [.d (.str s),.d (.str [b])] (·=.d (.int .i64 r)):=by
 subst hr
 refine En Tryz.func244 λ_ _ _=>?_
 refine No rfl (by simp)<|Cu (some 0) (λ(_:Unit)=>[]) (λ_=>[]) (λ_=>False) rfl ?_ λ_ h=>h.elim
 refine By rfl (λh=>?_) λh=>?_
 . subst h
   refine R1 rfl (.eq ?_)
   rw[Lib.indexByte];simp
 . refine Yes rfl (by simp)<|Yx 0 b rfl rfl ?_
   exact Ce rfl (Xol hs)<|R0
theorem Ym4{s:List UInt8}{b:UInt8}(hs:Tx s)(h:b ∉ s): C0 164 [.d (.str s),.d (.str [b])] (·=.tup (.pr (.d (.str s)) (.pr (.d (.str [])) (.b false)))):=by
 have i:C0 253 [.d (.str s),.d (.str [b])] (·=.tup (.pr (.d (.str s)) (.pr (.d (.str [])) (.b false)))):=by
  refine En Tryz.func253 λ_ _ _=>?_
  exact Ce rfl (Xje hs (Ygi h))<|No rfl (by decide)<|R0t
 refine En Tryz.func164 λ_ _ _=>?_
 exact Ce rfl i<|R0t
theorem Ym5{u t:List UInt8}{b:UInt8}(hs:Tx (u++b::t))(h:b ∉ u): C0 164 [.d (.str (u++b::t)),.d (.str [b])] (·=.tup (.pr (.d (.str u)) (.pr (.d (.str t)) (.b true)))):=by
 have o:(u++b::t).length=u.length+(t.length+1):=by simp
 have i:(u++b::t).length<_:=hs
 have j:C0 253 [.d (.str (u++b::t)),.d (.str [b])] (·=.tup (.pr (.d (.str u)) (.pr (.d (.str t)) (.b true)))):=by
  refine En Tryz.func253 λ_ _ _=>?_
  refine Ce rfl (Xje hs (Yar h))<|Yes rfl (by omega)<|Dw rfl<|Stk u.length u rfl (by omega) (by simp) ?_
  refine Ar (u.length+1:Nat) rfl ?_ (wr (by simp) (by simp only[inK];omega))
  refine Sdp (u.length+1) t rfl (by omega) (by simp) ?_
  exact R0t
 refine En Tryz.func164 λ_ _ _=>?_
 exact Ce rfl j<|R0t
end
section
theorem Xi5{xs:List Bool}{b:UInt8}{v:Bool}(i:xs.length=256)(h:xs[b.toNat]?=some v): CN0 353 [.ap 1000001 256,.d (.int .u8 b.toNat)] [(1000001,.arr 1 (xs.map D.bool))] (·=.b v):=by
 refine EnW Tryz.func353 λ_ _ _ _=>?_
 refine Nk rfl ?_
 refine Ea b.toNat rfl (UInt8.toNat_lt b) ?_
 refine Ld (.bool v) rfl (by rw[W0w,h];rfl) ?_
 exact Rw [] [(1000001,.arr 1 (xs.map D.bool))] rfl (.one (.rf rfl) rfl rfl) ⟨rfl,rfl⟩
def Xqk(f:UInt8->Bool)(s:List UInt8): List UInt8:=(s.reverse.dropWhile f).reverse
theorem Xhu{f:UInt8->Bool}(s:List UInt8)(x:UInt8): Xqk f (s++[x])=if f x=true then Xqk f s else s++[x]:=by
 unfold Xqk
 rw[List.reverse_append,List.reverse_singleton,List.singleton_append,W4p]
 by_cases h:f x=true<;>simp[h]
theorem Xgb{xs:List Bool}{f:UInt8->Bool}{s:List UInt8}(o:xs.length=256)(hf:∀b:UInt8,xs[b.toNat]?=some (f b))(hs:Tx s): CN0 258 [.d (.str s),.ap 1000001 256] [(1000001,.arr 1 (xs.map D.bool))] (·=.d (.str (Xqk f s))):=by
 refine EnW Tryz.func258 λ_ _ _ _=>?_
 refine Lo (λ(t:List UInt8)=>[(0,.d (.str t)),(1,.ap 1000001 256)]) (λ_=>[(1000001,.arr 1 (xs.map D.bool))]) (λt=>Tx t/\Xqk f t=Xqk f s) (λt=>t.length) s [] rfl ⟨hs,rfl⟩ ?_ (by exact⟨rfl,rfl,rfl,rfl,rfl⟩)
 rintro t ⟨B,i⟩
 refine By rfl (λh=>?_) λh=>?_
 . rcases List.eq_nil_or_concat t with rfl | ⟨u,x,rfl⟩
   . simp at h
   rw[List.concat_eq_append] at *
   have I:(u++[x]).length=u.length+1:=by simp
   refine Ar (u.length:Nat) rfl ?_ (wr (by omega) (by simp only[inK];omega))
   refine Yx u.length x rfl (by simp) ?_
   refine Cn [] rfl (Xi5 o (hf x)) λv A=>?_
   subst A
   refine By rfl (λj=>?_) λj=>?_
   . refine Rw [] [(1000001,.arr 1 (xs.map D.bool))] rfl (.one (.eq ?_) rfl rfl) ⟨rfl,rfl⟩
     rw[<-i,Xhu,if_neg j]
   . refine Ar (u.length:Nat) rfl ?_ (wr (by omega) (by simp only[inK];omega))
     refine Stk u.length u rfl (by omega) (by simp) ?_
     refine Bk u [] rfl ⟨by show u.length<_;omega,?_⟩ (by simp) (by exact⟨rfl,rfl,rfl,rfl,rfl⟩)
     rw[<-i,Xhu,if_pos (W3g.1 j)]
 . have:t=[]:=W2k.1 (by omega)
   subst this
   exact Rw [] [(1000001,.arr 1 (xs.map D.bool))] rfl (.one (.eq (by rw[<-i];rfl)) rfl rfl) ⟨rfl,rfl⟩
theorem Xg4{xs:List Bool}{f:UInt8->Bool}{s:List UInt8}(o:xs.length=256)(hf:∀b:UInt8,xs[b.toNat]?=some (f b))(hs:Tx s): CN0 257 [.d (.str s),.ap 1000001 256] [(1000001,.arr 1 (xs.map D.bool))] (·=.d (.str (s.dropWhile f))):=by
 refine EnW Tryz.func257 λ_ _ _ _=>?_
 refine Lo (λ(t:List UInt8)=>[(0,.d (.str t)),(1,.ap 1000001 256)]) (λ_=>[(1000001,.arr 1 (xs.map D.bool))]) (λt=>Tx t/\t.dropWhile f=s.dropWhile f) (λt=>t.length) s [] rfl ⟨hs,rfl⟩ ?_ (by exact⟨rfl,rfl,rfl,rfl,rfl⟩)
 rintro t ⟨A,i⟩
 refine By rfl (λh=>?_) λh=>?_
 . cases t with
   | nil=>simp at h
   | cons x u =>
   have I:(x::u).length=u.length+1:=rfl
   refine Yx 0 x rfl rfl ?_
   refine Cn [] rfl (Xi5 o (hf x)) λv B=>?_
   subst B
   refine By rfl (λj=>?_) λj=>?_
   . refine Rw [] [(1000001,.arr 1 (xs.map D.bool))] rfl (.one (.eq ?_) rfl rfl) ⟨rfl,rfl⟩
     rw[<-i,W4p,if_neg j]
   . refine Sdp 1 u rfl (by omega) rfl ?_
     refine Bk u [] rfl ⟨by show u.length<_;have:(x::u).length<_:=A;omega,?_⟩ (by simp) (by exact⟨rfl,rfl,rfl,rfl,rfl⟩)
     rw[<-i,W4p,if_pos (W3g.1 j)]
 . have:t=[]:=W2k.1 (by omega)
   subst this
   exact Rw [] [(1000001,.arr 1 (xs.map D.bool))] rfl (.one (.eq (by rw[<-i];rfl)) rfl rfl) ⟨rfl,rfl⟩
end
section
def rnS: Ren:=⟨λ_=>256,λn=>match n with
 | 3=>3
 | 4=>4
 | 5=>5
 | 9=>9
 | 116=>283
 | _=>0,λn=>n⟩
theorem Yks: Lays.n227 Tryz.prog rnS where
 mixed:=by kernel_rfl
 f227:=by kernel_rfl
 t0:=by kernel_rfl
 a0:=λ_=>by kernel_rfl
 z0:=λ_=>by kernel_rfl
 v0:=λ_=>by kernel_rfl
 t3:=by kernel_rfl
 a3:=λ_=>by kernel_rfl
 z3:=λ_=>by kernel_rfl
 v3:=λ_=>by kernel_rfl
 t4:=by kernel_rfl
 a4:=λ_=>by kernel_rfl
 z4:=λ_=>by kernel_rfl
 v4:=λ_=>by kernel_rfl
 t5:=by kernel_rfl
 a5:=λ_=>by kernel_rfl
 z5:=λ_=>by kernel_rfl
 v5:=λ_=>by kernel_rfl
 t9:=by kernel_rfl
 a9:=λ_=>by kernel_rfl
 z9:=λ_=>by kernel_rfl
 v9:=λ_=>by kernel_rfl
 t116:=by kernel_rfl
 a116:=λ_=>by kernel_rfl
 z116:=λ_=>by kernel_rfl
def chB: List Bool->D
 | []=>.bool false
 | [b]=>.bool b
 | b::l=>.pr (.bool b) (chB l)
theorem Yed{W:GW}: ∀ {l:List Bool},l≠[]->D.At W (chB l) (l.map Value.bool)
 | [b],_=>rfl
 | b::c::l,_=>⟨[.bool b],(c::l).map Value.bool,rfl,rfl,Yed (by simp)⟩
theorem Xob: ∀ {l:List Bool},l≠[]->(chB l).comps=l.map D.bool
 | [b],_=>rfl
 | b::c::l,_=>by
  show D.bool b::(chB (c::l)).comps=_
  rw[Xob (by simp)];rfl
def Yii: List UInt8:=[48,49,50,51,52,53,54,55,56,57]
def Yg7: List Bool:=(List.range 256).map λj=>Yii.contains (UInt8.ofNat j)
theorem Xik: C0 256 [.d (.str Yii)] (·=.tup (.pr (.d (.st (chB Yg7))) (.b true))):=by
 refine⟨⟨_,Tryz.func256,rfl,rfl⟩,λW o _ ha=>?_⟩
 match o,ha with
 | [v],ha =>
  obtain⟨rfl,_⟩:=Xjm ha.1
  refine(Any.strings_makeASCIISet Yks (λ_=>by kernel_rfl) (by kernel_rfl) ⟨Yii.toArray⟩ W.w (by decide) (by
   intro j b A
   have B:b∈Yii:=W0e (by simpa using A)
   have i:∀x∈Yii,x.toNat<128:=by decide
   exact i b B)).mono ?_
  rintro e w' ⟨rfl,I⟩
  obtain⟨W',M,O⟩:=Xhj (W:=W) (w':=w') (by rw[I];exact(Below.refl _ _).alloc (W0c _) _)
  refine⟨W',.tup (.pr (.d (.st (chB Yg7))) (.b true)),_,rfl,M,O,?_,λ_ h=>h.elim id id,rfl⟩
  have Q:Lib.setCells Yii=(Yg7.map Value.bool).toArray:=by
   rw[Lib.setCells_eq]
   apply Array.ext'
   simp[Yg7]
  refine⟨[.agg (Lib.setCells Yii),.bool true],rfl,⟨_,Yed (l:=Yg7) (by decide),?_⟩,⟨[.bool true],rfl,rfl⟩⟩
  rw[Q];rfl
end
section
def rnB: Ren:=⟨λn=>match n with
 | 166=>67
 | 167=>134
 | 169=>68
 | 240=>140
 | 276=>223
 | _=>0,λn=>match n with
 | 3=>3
 | 4=>4
 | 5=>5
 | 9=>9
 | 20=>20
 | 37=>131
 | 70=>130
 | 72=>133
 | 75=>136
 | 80=>84
 | 127=>204
 | 164=>262
 | _=>0,λn=>n⟩
theorem Yku: Lays.n166 Tryz.prog rnB where
 mixed:=by kernel_rfl
 f166:=by kernel_rfl
 f240:=by kernel_rfl
 f276:=by kernel_rfl
 t0:=by kernel_rfl
 a0:=λ_=>by kernel_rfl
 z0:=λ_=>by kernel_rfl
 v0:=λ_=>by kernel_rfl
 t3:=by kernel_rfl
 a3:=λ_=>by kernel_rfl
 z3:=λ_=>by kernel_rfl
 v3:=λ_=>by kernel_rfl
 t4:=by kernel_rfl
 a4:=λ_=>by kernel_rfl
 z4:=λ_=>by kernel_rfl
 v4:=λ_=>by kernel_rfl
 t9:=by kernel_rfl
 a9:=λ_=>by kernel_rfl
 z9:=λ_=>by kernel_rfl
 v9:=λ_=>by kernel_rfl
 t20:=by kernel_rfl
 a20:=λ_=>by kernel_rfl
 z20:=λ_=>by kernel_rfl
 v20:=λ_=>by kernel_rfl
 t37:=by kernel_rfl
 a37:=λ_=>by kernel_rfl
 z37:=λ_=>by kernel_rfl
 v37:=λ_=>by kernel_rfl
 t70:=by kernel_rfl
 a70:=λ_=>by kernel_rfl
 z70:=λ_=>by kernel_rfl
 v70:=λ_=>by kernel_rfl
 t72:=by kernel_rfl
 a72:=λ_=>by kernel_rfl
 z72:=λ_=>by kernel_rfl
 v72:=λ_=>by kernel_rfl
 t75:=by kernel_rfl
 a75:=λ_=>by kernel_rfl
 z75:=λ_=>by kernel_rfl
 v75:=λ_=>by kernel_rfl
 t164:=by kernel_rfl
 a164:=λ_=>by kernel_rfl
 z164:=λ_=>by kernel_rfl
 v164:=λ_=>by kernel_rfl
theorem Ykt: Lays.n167 Tryz.prog rnB where
 mixed:=by kernel_rfl
 f167:=by kernel_rfl
 f240:=by kernel_rfl
 f276:=by kernel_rfl
 t0:=by kernel_rfl
 a0:=λ_=>by kernel_rfl
 z0:=λ_=>by kernel_rfl
 v0:=λ_=>by kernel_rfl
 t4:=by kernel_rfl
 a4:=λ_=>by kernel_rfl
 z4:=λ_=>by kernel_rfl
 v4:=λ_=>by kernel_rfl
 t5:=by kernel_rfl
 a5:=λ_=>by kernel_rfl
 z5:=λ_=>by kernel_rfl
 v5:=λ_=>by kernel_rfl
 t9:=by kernel_rfl
 a9:=λ_=>by kernel_rfl
 z9:=λ_=>by kernel_rfl
 v9:=λ_=>by kernel_rfl
 t20:=by kernel_rfl
 a20:=λ_=>by kernel_rfl
 z20:=λ_=>by kernel_rfl
 v20:=λ_=>by kernel_rfl
 t37:=by kernel_rfl
 a37:=λ_=>by kernel_rfl
 z37:=λ_=>by kernel_rfl
 v37:=λ_=>by kernel_rfl
 t70:=by kernel_rfl
 a70:=λ_=>by kernel_rfl
 z70:=λ_=>by kernel_rfl
 v70:=λ_=>by kernel_rfl
 t72:=by kernel_rfl
 a72:=λ_=>by kernel_rfl
 z72:=λ_=>by kernel_rfl
 v72:=λ_=>by kernel_rfl
 t75:=by kernel_rfl
 a75:=λ_=>by kernel_rfl
 z75:=λ_=>by kernel_rfl
 v75:=λ_=>by kernel_rfl
 t164:=by kernel_rfl
 a164:=λ_=>by kernel_rfl
 z164:=λ_=>by kernel_rfl
 v164:=λ_=>by kernel_rfl
theorem Ydw: Lays.n169 Tryz.prog rnB where
 mixed:=by kernel_rfl
 f169:=by kernel_rfl
 t0:=by kernel_rfl
 a0:=λ_=>by kernel_rfl
 z0:=λ_=>by kernel_rfl
 v0:=λ_=>by kernel_rfl
 t3:=by kernel_rfl
 a3:=λ_=>by kernel_rfl
 z3:=λ_=>by kernel_rfl
 v3:=λ_=>by kernel_rfl
 t9:=by kernel_rfl
 a9:=λ_=>by kernel_rfl
 z9:=λ_=>by kernel_rfl
 v9:=λ_=>by kernel_rfl
 t37:=by kernel_rfl
 a37:=λ_=>by kernel_rfl
 z37:=λ_=>by kernel_rfl
 v37:=λ_=>by kernel_rfl
 t70:=by kernel_rfl
 a70:=λ_=>by kernel_rfl
 z70:=λ_=>by kernel_rfl
 v70:=λ_=>by kernel_rfl
 t72:=by kernel_rfl
 a72:=λ_=>by kernel_rfl
 z72:=λ_=>by kernel_rfl
 v72:=λ_=>by kernel_rfl
 t127:=by kernel_rfl
 a127:=λ_=>by kernel_rfl
 z127:=λ_=>by kernel_rfl
 v127:=λ_=>by kernel_rfl
theorem Yni: Builder.Extra Tryz.prog rnB where
 sizeBuilder:=by kernel_rfl
 liesBuilder:=by kernel_rfl
 t5:=by kernel_rfl
 a5:=λ_=>by kernel_rfl
 z5:=λ_=>by kernel_rfl
 v5:=λ_=>by kernel_rfl
 infoByte:=by kernel_rfl
 cellsByte:=by kernel_rfl
 sizeByte:=by kernel_rfl
 neB5:=by decide
end
section
def rnJ: Ren:=⟨λn=>match n with
 | 156=>25
 | 165=>66
 | 166=>67
 | 169=>68
 | 240=>140
 | 241=>141
 | 276=>223
 | 277=>224
 | _=>0,λn=>match n with
 | 3=>3
 | 4=>4
 | 5=>5
 | 9=>9
 | 20=>20
 | 31=>70
 | 37=>131
 | 70=>130
 | 72=>133
 | 75=>136
 | 76=>137
 | 80=>84
 | 127=>204
 | 164=>262
 | _=>0,λn=>n⟩
theorem Xwr: Lays.n156 Tryz.prog rnJ where
 mixed:=by kernel_rfl
 f156:=by kernel_rfl
 f165:=by kernel_rfl
 f166:=by kernel_rfl
 f169:=by kernel_rfl
 f240:=by kernel_rfl
 f241:=by kernel_rfl
 f276:=by kernel_rfl
 f277:=by kernel_rfl
 t0:=by kernel_rfl
 a0:=λ_=>by kernel_rfl
 z0:=λ_=>by kernel_rfl
 v0:=λ_=>by kernel_rfl
 t3:=by kernel_rfl
 a3:=λ_=>by kernel_rfl
 z3:=λ_=>by kernel_rfl
 v3:=λ_=>by kernel_rfl
 t4:=by kernel_rfl
 a4:=λ_=>by kernel_rfl
 z4:=λ_=>by kernel_rfl
 v4:=λ_=>by kernel_rfl
 t9:=by kernel_rfl
 a9:=λ_=>by kernel_rfl
 z9:=λ_=>by kernel_rfl
 v9:=λ_=>by kernel_rfl
 t20:=by kernel_rfl
 a20:=λ_=>by kernel_rfl
 z20:=λ_=>by kernel_rfl
 v20:=λ_=>by kernel_rfl
 t31:=by kernel_rfl
 a31:=λ_=>by kernel_rfl
 z31:=λ_=>by kernel_rfl
 v31:=λ_=>by kernel_rfl
 t37:=by kernel_rfl
 a37:=λ_=>by kernel_rfl
 z37:=λ_=>by kernel_rfl
 v37:=λ_=>by kernel_rfl
 t70:=by kernel_rfl
 a70:=λ_=>by kernel_rfl
 z70:=λ_=>by kernel_rfl
 v70:=λ_=>by kernel_rfl
 t72:=by kernel_rfl
 a72:=λ_=>by kernel_rfl
 z72:=λ_=>by kernel_rfl
 v72:=λ_=>by kernel_rfl
 t75:=by kernel_rfl
 a75:=λ_=>by kernel_rfl
 z75:=λ_=>by kernel_rfl
 v75:=λ_=>by kernel_rfl
 t76:=by kernel_rfl
 a76:=λ_=>by kernel_rfl
 z76:=λ_=>by kernel_rfl
 v76:=λ_=>by kernel_rfl
 t127:=by kernel_rfl
 a127:=λ_=>by kernel_rfl
 z127:=λ_=>by kernel_rfl
 v127:=λ_=>by kernel_rfl
 t164:=by kernel_rfl
 a164:=λ_=>by kernel_rfl
 z164:=λ_=>by kernel_rfl
 v164:=λ_=>by kernel_rfl
theorem Yo0: Builder.Extra Tryz.prog rnJ where
 sizeBuilder:=by kernel_rfl
 liesBuilder:=by kernel_rfl
 t5:=by kernel_rfl
 a5:=λ_=>by kernel_rfl
 z5:=λ_=>by kernel_rfl
 v5:=λ_=>by kernel_rfl
 infoByte:=by kernel_rfl
 cellsByte:=by kernel_rfl
 sizeByte:=by kernel_rfl
 neB5:=by decide
abbrev tB(s:List UInt8): ByteArray:=⟨s.toArray⟩
abbrev dXs(l:List (List UInt8)): D:=.sl 1 (l.map .str)
theorem Join_ok{l:List (List UInt8)}{sep:List UInt8}(hn:l.length<=1000000)(hl:(Lib.join l sep).length<=140737488355328): C0 25 [.d (dXs l),.d (.str sep)] (·=.d (.str (Lib.join l sep))):=by
 refine⟨⟨_,Tryz.func25,rfl,rfl⟩,λW vs _ ha=>?_⟩
 match vs,ha with
 | [v,u],ha =>
  obtain⟨p,c,rfl,V,h2,Q⟩:=V_sl ha.1
  obtain⟨rfl,_⟩:=Xjm ha.2.1
  have o:(l.map tB).map (·.data.toList)=l:=by rw[List.map_map];exact(List.map_congr_left λx _=>by simp[tB]).trans (List.map_id l)
  have A:(tB sep).data.toList=sep:=by simp[tB]
  have T:Calls Tryz.prog 25 #[.slice p (l.map D.str).length c,.string (tB sep)] W.w λe O=>e=.returned (.string (tB (Lib.join l sep)))/\Below W.w.heap.size W.w O:=by
   rcases Q with Q | ⟨b,off,rfl,B⟩
   . obtain rfl:l=[]:=List.map_eq_nil_iff.1 Q
     exact(Any.strings_Join_none Xwr Yo0 p c (tB sep) W.w).mono λe O ⟨U,I⟩=>⟨U,I ▸ Below.refl _ _⟩
   . cases M:l with
     | nil =>
      exact(Any.strings_Join_none Xwr Yo0 _ c (tB sep) W.w).mono λe O ⟨U,I⟩=>⟨U,I ▸ Below.refl _ _⟩
     | cons x0 r =>
      rw[<-M]
      have Y:∀(j:Nat) x,(l.map tB)[j]?=some x->W.w.cell? ⟨b,off+j,none⟩=some (.string x):=λj x Z=>by
       rw[W0w,Option.map_eq_some_iff] at Z
       obtain⟨s,hs,rfl⟩:=Z
       obtain⟨e,g1,_,g3⟩:=D.row_get B (i:=j) (x:=.str s) (by rw[W0w,hs];rfl)
       have:=(g3 0 (.string (tB s)) (by rw[g1.1];rfl)).1
       rwa[W4c,W2r] at this
      have hb:b<W.w.heap.size:=World.block_lt_of_cell? _ _ (Y 0 (tB x0) (by rw[M];rfl))
      have:=Any.strings_Join Xwr Yo0 b off c (l.map tB) (tB sep) W.w Y hb (by rw[W0i];omega) (by rw[W0i] at V |-;exact V) (by rw[o,A];exact hl)
      rw[o,A] at this
      rw[W0i] at this |-
      exact this
  refine T.mono ?_
  rintro e O ⟨rfl,I⟩
  obtain⟨W',hW,hE⟩:=Xhj I
  exact⟨W',.d (.str (Lib.join l sep)),_,rfl,hW,hE,Xmr (by omega),λ_ h=>h.elim,rfl⟩
end
end Go.Proofs.YtcmjannkbdflmaaGreatDoor
namespace Go.Proofs.YtcmjannkbdflmaaGreatDoor.P55
open Go Go.Vm Go.Num Go.Tow Go.Proofs.YtcmjannkbdflmaaGreatDoor
section
inductive Wv where
 | mk (s:List UInt8)
 | nu (x:Nm)
abbrev dMk(s:List UInt8): D:=.st (.pr (.str s) (.pr (.bool false) R9.n0))
abbrev dNu(x:Nm): D:=.st (.pr (.str []) (.pr (.bool true) (dN x)))
def dWv: Wv->D
 | .mk s=>dMk s
 | .nu x=>dNu x
abbrev dWs(l:List Wv): D:=.sl 4 (l.map dWv)
theorem Xda{s:List UInt8}: C0 54 [.d (.str s)] (·=.d (dMk s)):=by
 refine En Tryz.func54 λ_ _ _=>?_
 exact R1 rfl (.sd (.pd (.rf rfl) (.pd (.bd rfl) R9.fit0)))
theorem num_ok{x:Nm}: C0 55 [.d (dN x)] (·=.d (dNu x)):=by
 refine En Tryz.func55 λ_ _ _=>?_
 exact R1 rfl (.sd (.pd (.rf rfl) (.pd (.bd rfl) (.rf rfl))))
def flB(b:Bool): List UInt8:=if b then [49] else [48]
theorem Xcs{b:Bool}: C0 58 [.d (.bool b)] (·=.d (dMk (flB b))):=by
 refine C.nb (show C0 _ [.b b] _ from ?_)
 cases b with
 | true =>
  refine En Tryz.func58 λ_ _ _=>?_
  exact Yes rfl rfl<|Ce rfl Xda<|R0
 | false =>
  refine En Tryz.func58 λ_ _ _=>?_
  exact No rfl nofun<|Ce rfl Xda<|R0
def Xcg(r:Nm)(lg h:Bool)(x:Vn): List Wv:=[.mk [65],.nu r,.nu r,.mk [48],.mk (flB lg),.mk (flB h),.nu x.x,.nu x.y]
theorem Yct{w:List Wv}{r:Nm}{c:Cv}{lg:Bool}{x:Vn}(h:w.length<=100000): CW0 57 [.d (.bool lg),.d (dV x),.ptr 1000001 0,.ptr 1000002 0,.ptr 1000003 0] [(1000001,.var (.lit 4 (w.map dWv))),(1000002,.var (.d (dN r))),(1000003,.var (.d (dC c)))]
 (λv H'=>v=.tup .un/\H'=[(1000001,.var (.own 1000000 4 0 ((w++Xcg r lg (!c.cw) x).map dWv).length)),(1000002,.var (.d (dN r))),(1000003,.var (.d (dC c))),(1000000,.arr 4 ((w++Xcg r lg (!c.cw) x).map dWv))]):=by
 obtain⟨arc,A,B,C,cw⟩:=c
 refine EnW Tryz.func57 λ_ _ _ _=>?_
 refine Dw rfl<|Ce rfl Xda<|Ce rfl num_ok<|Ce rfl num_ok<|Ce rfl Xda<|Ce rfl Xcs<|Ce rfl Xcs<|Ce rfl num_ok<|Ce rfl num_ok<|ApL ((w++Xcg r lg (!cw) x).map dWv) rfl (by rw[W1k];rfl) (W3u _) (by simp[Xcg];omega) ?_
 exact Rw [(27,1000000)] [(1000001,.var (.own 1000000 4 0 ((w++Xcg r lg (!cw) x).map dWv).length)),(1000002,.var (.d (dN r))),(1000003,.var (.d (dC ⟨arc,A,B,C,cw⟩))),(1000000,.arr 4 ((w++Xcg r lg (!cw) x).map dWv))] rfl (.tup (.one (.rf rfl) (λ_ _ e=>by cases e) (λ_ _ e=>by cases e))) ⟨rfl,rfl⟩
theorem Xqm{w:List Wv}{r:Nm}{c:Cv}{lg:Bool}{x:Vn}(h:w.length<=100000): CW0 57 [.d (.bool lg),.d (dV x),.ptr 1000001 0,.ptr 1000002 0,.ptr 1000003 0] [(1000001,.var (.own 1000004 4 0 (w.map dWv).length)),(1000002,.var (.d (dN r))),(1000003,.var (.d (dC c))),(1000004,.arr 4 (w.map dWv))]
 (λv H'=>v=.tup .un/\H'=[(1000001,.var (.own 1000000 4 0 ((w++Xcg r lg (!c.cw) x).map dWv).length)),(1000002,.var (.d (dN r))),(1000003,.var (.d (dC c))),(1000004,.dead),(1000000,.arr 4 ((w++Xcg r lg (!c.cw) x).map dWv))]):=by
 obtain⟨arc,A,B,C,cw⟩:=c
 refine EnW Tryz.func57 λ_ _ _ _=>?_
 refine Dw rfl<|Ce rfl Xda<|Ce rfl num_ok<|Ce rfl num_ok<|Ce rfl Xda<|Ce rfl Xcs<|Ce rfl Xcs<|Ce rfl num_ok<|Ce rfl num_ok<|ApO ((w++Xcg r lg (!cw) x).map dWv) rfl rfl rfl (by rw[W1k];rfl) (by simp[Xcg];omega) ?_
 exact Rw [(27,1000000)] [(1000001,.var (.own 1000000 4 0 ((w++Xcg r lg (!cw) x).map dWv).length)),(1000002,.var (.d (dN r))),(1000003,.var (.d (dC ⟨arc,A,B,C,cw⟩))),(1000004,.dead),(1000000,.arr 4 ((w++Xcg r lg (!cw) x).map dWv))] rfl (.tup (.one (.rf rfl) (λ_ _ e=>by cases e) (λ_ _ e=>by cases e))) ⟨rfl,rfl⟩
abbrev Xoo(B:Vn): List Wv:=[.mk [76],.nu B.x,.nu B.y]
inductive WdC (c:Cv):List Wv->Prop where
 | seg (h:c.arc=false):WdC c [.mk [76],.nu c.B.x,.nu c.B.y]
 | full {r:Nm} {w x:Vn} (h:c.arc=true) (h1:C0 56 [.d (dC c)] (·=.tup (.pr (.d (dN r)) (.d (.int .i64 0))))) (h2:C0 53 [.d (dV c.A),.d (dV c.B)] (·=.b true)) (h3:C0 59 [.d (dV c.C),.d (dV c.A)] (·=.tup (.pr (.d (dV w)) (.d (.int .i64 0)))))
  (h4:C0 60 [.d (dV c.C),.d (dV w)] (·=.tup (.pr (.d (dV x)) (.d (.int .i64 0))))):WdC c (Xcg r false (!c.cw) x++Xcg r false (!c.cw) c.B)
 | part {r:Nm} {lg:Bool} (h:c.arc=true) (h1:C0 56 [.d (dC c)] (·=.tup (.pr (.d (dN r)) (.d (.int .i64 0))))) (h2:C0 53 [.d (dV c.A),.d (dV c.B)] (·=.b false)) (h3:C0 61 [.d (dC c)] (·=.tup (.pr (.b lg) (.d (.int .i64 0))))):WdC c (Xcg r lg (!c.cw) c.B)
theorem WdC.len{c:Cv}{w:List Wv}(h:WdC c w): w.length<=16:=by cases h<;>simp[Xcg]
def ouH(h:List Wv): Option (List Wv)->Hpl
 | none=>[(4,.var (.lit 4 (h.map dWv)))]
 | some w=>[(4,.var (.own 600 4 0 (w.map dWv).length)),(600,.arr 4 (w.map dWv))]
def ouW(h:List Wv): Option (List Wv)->List Wv
 | none=>h
 | some w=>w
def hdW(c0:Cv): List Wv:=[.mk [77],.nu c0.A.x,.nu c0.A.y]
theorem words_ok{c0 d0:Cv}{l:List Cv}{Z:List (List Wv)}{cl:Bool}(h0:l[0]?=some c0)(h9:l[l.length-1]?=some d0)(hl:l.length<=1000)(hZ:Z.length=l.length)(hC:∀(i:Nat) c w,l[i]?=some c->Z[i]?=some w->WdC c w)(he:C0 53 [.d (dV c0.A),.d (dV d0.B)] (·=.b cl)):
 C0 23 [.d (Xd1 l)] (·=.tup (.pr (.d (dWs (hdW c0++Z.flatten++(if cl then [.mk [90]] else [])))) (.d (.int .i64 0)))):=by
 have hl0:0<l.length:=(W1e.1 h0).1
 have T:∀k,k<=l.length->(Z.take k).flatten.length<=16*k:=λk=>by
  induction k with
  | zero=>intro _;simp
  | succ k ih =>
   intro hk
   obtain⟨w,I⟩:∃w,Z[k]?=some w:=⟨_,W0a (by omega)⟩
   obtain⟨c,U⟩:∃c,l[k]?=some c:=⟨_,W0a (by omega)⟩
   have:=(hC k c w U I).len
   have:=ih (by omega)
   rw[W1c,I]
   simp only[List.flatten_append,W0d,Option.toList_some,List.flatten_cons,List.flatten_nil,W3f]
   omega
 have hw0l:(hdW c0).length=3:=rfl
 have hlm:(l.map dC).length=l.length:=W0i ..
 refine En Tryz.func23 λ_ _ _=>?_
 refine Dw rfl<|Ce rfl Xda<|Ix 0 rfl (u:=dC c0) (by rw[W0w,h0];rfl)<|Ce rfl num_ok<|Ix 0 rfl (u:=dC c0) (by rw[W0w,h0];rfl)<|Ce rfl num_ok<|Lo (λ((k,o):Nat×Option (List Wv))=>[(0,.d (Xd1 l)),(4,.ptr 4 0),(28,.d (Xd1 l)),(29,.d (.int .i64 (l.map dC).length)),(30,.d (.int .i64 k))]) (λ(_,o)=>ouH (hdW c0) o) (λ(k,o)=>k<=l.length/\ouW (hdW c0) o=(hdW c0)++(Z.take k).flatten/\(o=none↔k=0)) (λ(k,_)=>l.length-k) (0,none) [] rfl ⟨W0s _,by simp[ouW],by simp⟩ ?_
 rintro⟨k,o⟩ ⟨hk,I,ho⟩
 cases o with
 | none =>
  obtain rfl:k=0:=ho.1 rfl
  have I:(hdW c0)=(hdW c0)++(Z.take 0).flatten:=I
  refine By rfl (λh=>?_) λh=>?_
  . have h:((0:Nat):Int)<((l.map dC).length:Nat):=h
    rw[W0i] at h
    have O:0<l.length:=hl0
    obtain⟨c,U⟩:∃c,l[0]?=some c:=⟨_,W0a O⟩
    obtain⟨z,hz⟩:∃z,Z[0]?=some z:=⟨_,W0a (by omega)⟩
    have j:∀u,u=(hdW c0)++z->0+1<=l.length/\ouW (hdW c0) (some u)=(hdW c0)++(Z.take (0+1)).flatten/\(some u=none↔0+1=0):=λu hu=>⟨O,by rw[W1c,hz];show u=_;rw[hu];simp[<-W2j,<-I],by simp⟩
    have hcl:((hdW c0)).length<=20000:=by rw[I,W0d];have:=T 0 (W0s _);omega
    refine Ix 0 rfl (u:=dC c) (by rw[W0w,U];rfl) ?_
    have V:=hC 0 c z U hz
    obtain⟨arc,A,B,C,cw⟩:=c
    cases V with
    | seg h =>
     obtain rfl:arc=false:=h
     refine Yes rfl nofun<|Dw rfl<|Ce rfl Xda<|Ce rfl num_ok<|Ce rfl num_ok<|ApL (((hdW c0)++Xoo B).map dWv) rfl (by rw[W1k];rfl) (W3u _) (by rw[W0i,W0d];show _+3<=_;omega) ?_
     refine Ar (0+1:Nat) rfl ?_
     exact Bk (0+1,some ((hdW c0)++Xoo B)) [(48,600)] rfl (j _ rfl) (by show l.length-(0+1)<l.length-0;omega)
    | @full r w x h Y h2 h3 h4 =>
     obtain rfl:arc=true:=h
     refine No rfl (λh=>h rfl)<|Ce rfl Y<|No rfl (by decide)<|Ce rfl h2<|Yes rfl rfl<|Ce rfl h3<|No rfl (by decide)<|Ce rfl h4<|No rfl (by decide)<|Cw [(1000001,4),(1000002,7),(1000003,6)] rfl (Yct (w:=hdW c0) (r:=r) (c:=⟨true,A,B,C,cw⟩) (lg:=false) (x:=x) (by omega)) λv H' _ Q=>?_
     obtain⟨rfl,rfl⟩:=Q
     refine Cw [(1000001,4),(1000002,7),(1000003,6),(1000004,86)] rfl (Xqm (w:=(hdW c0)++Xcg r false (!cw) x) (r:=r) (c:=⟨true,A,B,C,cw⟩) (lg:=false) (x:=B) (by simp[Xcg];omega)) λv H' _ Q=>?_
     obtain⟨rfl,rfl⟩:=Q
     refine Ar (0+1:Nat) rfl ?_
     exact Bk (0+1,some ((hdW c0)++Xcg r false (!cw) x++Xcg r false (!cw) B)) [(90,600)] rfl (j _ (by simp)) (by show l.length-(0+1)<l.length-0;omega)
    | @part r lg h Y h2 h3 =>
     obtain rfl:arc=true:=h
     refine No rfl (λh=>h rfl)<|Ce rfl Y<|No rfl (by decide)<|Ce rfl h2<|No rfl nofun<|Ce rfl h3<|No rfl (by decide)<|Cw [(1000001,4),(1000002,7),(1000003,6)] rfl (Yct (w:=hdW c0) (r:=r) (c:=⟨true,A,B,C,cw⟩) (lg:=lg) (x:=B) (by omega)) λv H' _ Q=>?_
     obtain⟨rfl,rfl⟩:=Q
     refine Ar (0+1:Nat) rfl ?_
     exact Bk (0+1,some ((hdW c0)++Xcg r lg (!cw) B)) [(103,600)] rfl (j _ rfl) (by show l.length-(0+1)<l.length-0;omega)
  . have h:¬((0:Nat):Int)<((l.map dC).length:Nat):=h
    rw[W0i] at h
    omega
 | some M =>
  have I:M=(hdW c0)++(Z.take k).flatten:=I
  refine By rfl (λh=>?_) λh=>?_
  . have h:(k:Int)<((l.map dC).length:Nat):=h
    rw[W0i] at h
    have O:k<l.length:=by omega
    obtain⟨c,U⟩:∃c,l[k]?=some c:=⟨_,W0a O⟩
    obtain⟨z,hz⟩:∃z,Z[k]?=some z:=⟨_,W0a (by omega)⟩
    have j:∀u,u=M++z->k+1<=l.length/\ouW (hdW c0) (some u)=(hdW c0)++(Z.take (k+1)).flatten/\(some u=none↔k+1=0):=λu hu=>⟨O,by rw[W1c,hz];show u=_;rw[hu];simp[<-W2j,<-I],by simp⟩
    have hcl:(M).length<=20000:=by rw[I,W0d];have:=T k hk;omega
    refine Ix k rfl (u:=dC c) (by rw[W0w,U];rfl) ?_
    have V:=hC k c z U hz
    obtain⟨arc,A,B,C,cw⟩:=c
    cases V with
    | seg h =>
     obtain rfl:arc=false:=h
     refine Yes rfl nofun<|Dw rfl<|Ce rfl Xda<|Ce rfl num_ok<|Ce rfl num_ok<|ApO ((M++Xoo B).map dWv) rfl rfl rfl (by rw[W1k];rfl) (by rw[W0i,W0d];show _+3<=_;omega) ?_
     refine Ar (k+1:Nat) rfl ?_
     exact Bk (k+1,some (M++Xoo B)) [(600,900),(48,600)] rfl (j _ rfl) (by show l.length-(k+1)<l.length-k;omega)
    | @full r w x h Y h2 h3 h4 =>
     obtain rfl:arc=true:=h
     refine No rfl (λh=>h rfl)<|Ce rfl Y<|No rfl (by decide)<|Ce rfl h2<|Yes rfl rfl<|Ce rfl h3<|No rfl (by decide)<|Ce rfl h4<|No rfl (by decide)<|Cw [(1000001,4),(1000002,7),(1000003,6),(1000004,600)] rfl (Xqm (w:=M) (r:=r) (c:=⟨true,A,B,C,cw⟩) (lg:=false) (x:=x) (by omega)) λv H' _ Q=>?_
     obtain⟨rfl,rfl⟩:=Q
     refine Cw [(1000001,4),(1000002,7),(1000003,6),(1000004,86)] rfl (Xqm (w:=M++Xcg r false (!cw) x) (r:=r) (c:=⟨true,A,B,C,cw⟩) (lg:=false) (x:=B) (by simp[Xcg];omega)) λv H' _ Q=>?_
     obtain⟨rfl,rfl⟩:=Q
     refine Ar (k+1:Nat) rfl ?_
     exact Bk (k+1,some (M++Xcg r false (!cw) x++Xcg r false (!cw) B)) [(600,900),(90,600)] rfl (j _ (by simp)) (by show l.length-(k+1)<l.length-k;omega)
    | @part r lg h Y h2 h3 =>
     obtain rfl:arc=true:=h
     refine No rfl (λh=>h rfl)<|Ce rfl Y<|No rfl (by decide)<|Ce rfl h2<|No rfl nofun<|Ce rfl h3<|No rfl (by decide)<|Cw [(1000001,4),(1000002,7),(1000003,6),(1000004,600)] rfl (Xqm (w:=M) (r:=r) (c:=⟨true,A,B,C,cw⟩) (lg:=lg) (x:=B) (by omega)) λv H' _ Q=>?_
     obtain⟨rfl,rfl⟩:=Q
     refine Ar (k+1:Nat) rfl ?_
     exact Bk (k+1,some (M++Xcg r lg (!cw) B)) [(600,900),(103,600)] rfl (j _ rfl) (by show l.length-(k+1)<l.length-k;omega)
  . have h:¬(k:Int)<((l.map dC).length:Nat):=h
    rw[W0i] at h
    obtain rfl:k=l.length:=by omega
    have hwl:M.length<=20000:=by rw[I,W0d];have:=T l.length hk;omega
    have hwz:M=(hdW c0)++Z.flatten:=by rw[I,W0b (by omega)]
    refine Dw rfl<|Ix 0 rfl (u:=dC c0) (by rw[W0w,h0];rfl)<|Ar (l.length-1:Nat) rfl ?_
    refine Ix (l.length-1) rfl (u:=dC d0) (by rw[W0w,h9];rfl)<|Ce rfl he ?_
    cases cl with
    | true =>
     refine Yes rfl rfl<|Dw rfl<|Ce rfl Xda<|ApO ((M++([.mk [90]]:List Wv)).map dWv) rfl rfl rfl (by rw[W1k];rfl) (by rw[W0i,W0d];show _+1<=_;omega) ?_
     exact RTt rfl (.cons (.own rfl (by rw[W1j];exact W0c _) (by rw[W0y,W1x,hwz];rfl)) Xav)
    | false =>
     exact No rfl nofun<|RTt rfl (.cons (.own rfl (by rw[W1j];exact W0c _) (by rw[W0y,W1x,hwz];exact congrArg (List.map dWv) (W3f _).symm)) Xav)
end
section
theorem lC(l:List Cv): (l.map dC).length=l.length:=W0i ..
theorem cAt{l:List Cv}{k:Nat}{c:Cv}(h:l[k]?=some c): (l.map dC)[k]?=some (dC c):=by rw[W0w,h];rfl
theorem Xnl{l:List Cv}(O:l.length<=1000)(h0:0<l.length)(o:∀c∈l,C0 52 [.d (dC c)] (·=.b true))(I:∀(i:Nat) c d,l[i]?=some c->l[i+1]?=some d->C0 53 [.d (dV c.B),.d (dV d.A)] (·=.b true)):
 C0 22 [.d (Xd1 l)] (·=.b true):=by
 refine En Tryz.func22 λ_ _ _=>?_
 refine Lo (λk:Nat=>[(0,.d (Xd1 l)),(5,.d (Xd1 l)),(6,.d (.int .i64 (l.map dC).length)),(7,.d (.int .i64 k))]) (λ_=>[]) (λk=>k<=l.length) (λk=>l.length-k) 0 [] rfl (W0s _) λk Q=>?_
 refine By rfl (λh=>?_) λh=>?_<;>simp only[lC] at h
 . obtain⟨c,j⟩:∃c,l[k]?=some c:=⟨_,W0a (by omega)⟩
   refine Ix k rfl (cAt j)<|Dw rfl<|Ce rfl (o c (W0e j))<|No rfl (λh=>h rfl)<|By rfl (λM=>?_) λM=>?_
   . obtain⟨b,hb⟩:∃b,l[k-1]?=some b:=⟨_,W0a (by omega)⟩
     refine Ar (k-1:Nat) rfl ?_
     refine Ix (k-1) rfl (cAt hb)<|Ce rfl (I (k-1) b c hb (by rw[show k-1+1=k by omega];exact j))<|No rfl (λh=>h rfl)<|Ar (k+1:Nat) rfl ?_
     exact Bk (k+1) [] rfl (by omega) (by show l.length-(k+1)<l.length-k;omega)
   . refine Ar (k+1:Nat) rfl ?_
     exact Bk (k+1) [] rfl (by omega) (by show l.length-(k+1)<l.length-k;omega)
 . exact R1 rfl (by exact(show dc (((l.map dC).length:Int)>0)=true by rw[Xal,lC];omega) ▸ .rf rfl)
def FmW(d:Int): Wv->List UInt8->Prop
 | .mk s,t=>t=s
 | .nu x,t=>C0 24 [.d (dN x),.d (.int .i64 d)] (·=.tup (.pr (.d (.str t)) (.d (.int .i64 0))))
theorem lWv(l:List Wv): (l.map dWv).length=l.length:=W0i ..
theorem Path_ok{l:List Cv}{d:Int}{W:List Wv}{T:List (List UInt8)}(hd:0<=d/\d<=20)(hp:C0 22 [.d (Xd1 l)] (·=.b true))(I:C0 23 [.d (Xd1 l)] (·=.tup (.pr (.d (dWs W)) (.d (.int .i64 0)))))
 (Q:W.length<=100000) (U:T.length=W.length) (M:∀(i:Nat) w t,W[i]?=some w->T[i]?=some t->FmW d w t) (O:(Lib.join T [32]).length<=140737488355328):C0 6 [.d (Xd1 l),.d (.int .i64 d)] (·=.tup (.pr (.d (.str (Lib.join T [32]))) (.d (.int .i64 0)))):=by
 refine En Tryz.func6 λ_ _ _=>?_
 refine No rfl (by omega)<|No rfl (by omega)<|Ce rfl hp<|No rfl (λh=>h rfl)<|Ce rfl I<|No rfl (by decide)<|Nl 8 8 1 rfl ?_
 refine Lo (λk:Nat=>[(1,.d (.int .i64 d)),(8,.gr 8 1 ((T.take k).map .str)),(31,.d (dWs W)),(32,.d (.int .i64 (W.map dWv).length)),(33,.d (.int .i64 k))]) (λk=>[(8,.tok ((T.take k).map D.str).length 1)]) (λk=>k<=W.length) (λk=>W.length-k) 0 [] rfl (W0s _) λk V=>?_
 refine By rfl (λh=>?_) λh=>?_<;>simp only[lWv] at h
 . obtain⟨w,j⟩:∃w,W[k]?=some w:=⟨_,W0a (by omega)⟩
   obtain⟨t,A⟩:∃t,T[k]?=some t:=⟨_,W0a (by omega)⟩
   have hf:=M k w t j A
   have B:(T.take k).map D.str++[D.str t]=(T.take (k+1)).map .str:=by rw[W1c,A];simp
   refine Ix k rfl (u:=dWv w) (by rw[W0w,j];rfl) ?_
   cases w with
   | mk s =>
    obtain rfl:t=s:=hf
    refine No rfl nofun<|ApG ((T.take (k+1)).map .str) rfl B (by simp;omega) ?_
    refine Ar (k+1:Nat) rfl ?_
    exact Bk (k+1) [(8,90),(54,8)] rfl (by omega) (by show W.length-(k+1)<W.length-k;omega)
   | nu x =>
    have hf:C0 24 [.d (dN x),.d (.int .i64 d)] (·=.tup (.pr (.d (.str t)) (.d (.int .i64 0)))):=hf
    refine Yes rfl rfl<|Ce rfl hf<|No rfl (by decide)<|ApG ((T.take (k+1)).map .str) rfl B (by simp;omega) ?_
    refine Ar (k+1:Nat) rfl ?_
    exact Bk (k+1) [(8,90),(54,8)] rfl (by omega) (by show W.length-(k+1)<W.length-k;omega)
 . have e:T.take k=T:=W0b (by omega)
   have o:=Join_ok (l:=T) (sep:=[32]) (by omega) O
   rw[e]
   exact Ce rfl o<|R0t
end
section
def Qp(s:Nat)(p:Rat×Rat): Prop:=Qs s p.1/\Qs s p.2
abbrev v0(p:Rat×Rat): Vn:=⟨⟨0,(),p.1⟩,⟨0,(),p.2⟩⟩
theorem W0: Wn (K:=0) () ([]:List (Tow.El 0)) []:=⟨⟨trivial,W0s _,λ{m T ρ} h=>by
 have:=h.le (show Xbm 0 () from trivial)
 have e:m=0:=by have h0:([]:List (Tow.El 0)).length=0:=rfl;omega
 subst e
 trivial⟩,λz i=>nomatch i⟩
theorem g0{q:Rat}{s:Nat}(h:Qs s q)(hs:s<=10000:=by decide): Gd (K:=0) () [] [] 1 ⟨0,(),q⟩ q:=by
 have h0:NOk (K:=0) () ([]:List (Tow.El 0)) 0 (s+1) ⟨0,(),q⟩ (Tow.rat 0 q):=⟨⟨λ_=>zero _,⟨trivial,trivial,λi hi=>absurd hi (W8a _)⟩,rfl⟩,trivial,Sz.rat 0 h⟩
 have j:Gs (K:=0) () ([]:List (Tow.El 0)) [] (gB 1) (Tow.rat 0 q):=(Gs.rat h).mono (by unfold gB;omega)
 exact⟨h0.re W0.w W0.h j,j,W0c _⟩
theorem gv0{p:Rat×Rat}{s:Nat}(h:Qp s p)(hs:s<=10000:=by decide): Gv (K:=0) () [] [] 1 (v0 p) p:=⟨g0 h.1 hs,g0 h.2 hs⟩
theorem zw{r p:Nat}{x:Nm}{v:Rat}(h:NOk (K:=0) () ([]:List (Tow.El 0)) r p x v): x=⟨0,(),v⟩:=by
 obtain⟨ρ,j,i⟩:=h.ex
 obtain⟨k,t,a⟩:=x
 have o:k<=([]:List (Tow.El 0)).length:=j.le (show Xbm 0 () from trivial)
 obtain rfl:k=0:=Nat.le_zero.1 o
 have i:(a:Rat)=v:=i
 rw[<-i]
 cases t
 rfl
theorem Xci{n:Nat}{v:Vn}{p:Rat×Rat}(h:Gv (K:=0) () ([]:List (Tow.El 0)) [] n v p): v=v0 p:=by
 obtain⟨x,y⟩:=v
 rw[show x=_ from zw h.x.o,show y=_ from zw h.y.o]
instance {p:Nat} {z:Int}:Decidable (Zs p z):=inferInstanceAs (Decidable (z.natAbs<2^p))
instance {p:Nat} {x:Rat}:Decidable (Qs p x):=decidable_of_iff (Zs p x.num/\Zs p x.den) ⟨λh=>⟨h.1,h.2⟩,λh=>⟨h.1,h.2⟩⟩
theorem Xaw{q:Rat}{s:Nat}(h:Qs s q)(hs:s<=10000:=by decide): P19.Trm ⟨0,(),q⟩:=by
 unfold P19.Trm
 refine En Tryz.func203 λ_ _ _=>?_
 refine Ce rfl (P9.detach_ok (x:=⟨0,(),q⟩) (r:=1) (p:=s+1) trivial (Sz.rat 0 h) (show (0:Nat)<=16 by decide) (by decide) (by omega))<|Ar (-1:Int) rfl ?_ (wr (show ((0:Nat):Int)-1=-1 by decide) (by simp only[inK];omega))
 refine Lo (λ_:Unit=>[(1,.ptr 1 0),(2,.ptr 2 0),(3,.ptr 3 0)]) (λ_=>[(1,.var (.d (dN ⟨0,(),q⟩))),(2,.var (.st (.pr .nil .nil))),(3,.var (.d (.int .i64 (-1))))]) (λ_=>True) (λ_=>0) () [] rfl trivial (λ_ _=>?_)
 exact No rfl (by decide)<|R0
instance {p:Nat} {x:Rat×Rat}:Decidable (Qp p x):=by unfold Qp;infer_instance
end
section
def d2(p q:Rat×Rat): Rat:=Xe1 (K:=0) () (Xbb (K:=0) p q) (Xbb (K:=0) p q)
abbrev nr(q:Rat): Nm:=⟨0,(),q⟩
theorem Yj4: Sz 1000 (toL 1 (Xf9 1 0)):=by
 have:Sz (1*2+1) (toL 1 (Xf9 1 0)):=Sz.all (p:=1) (l:=[(0:Rat),1]) λx h=>by
  have h:x∈[(0:Rat),1]:=h
  rcases W1h.1 h with rfl | h
  . exact⟨show (0:Int).natAbs<2^1 by decide,show ((1:Nat):Int).natAbs<2^1 by decide⟩
  . obtain rfl:=W0f.1 h;exact⟨show (1:Int).natAbs<2^1 by decide,show ((1:Nat):Int).natAbs<2^1 by decide⟩
 exact this.mono (by decide)
theorem Ymu{s:Rat}(h:Qs 200 s)(hs:0<=s): C0 126 [.d (dN (nr s))] (R9.RtR (nr s)):=by
 have j:Sz 201 (toL 0 (s:Tow.El 0)):=Sz.rat 0 h
 refine En Tryz.func126 λ_ _ _=>?_
 refine Ca rfl (P8.Adjoin_ok (k:=0) (t:=()) (a:=(s:Tow.El 0)) (r:=1) (p:=201) trivial j trivial (by decide) (by decide +kernel) (by decide +kernel) (by decide +kernel) (by decide +kernel)) λv A=>?_
 rcases A with ⟨i,rfl⟩ | ⟨y,i,o,rfl⟩ | ⟨i,o,I,rfl⟩
 . have i:Xe3 s<0:=i
   rcases Xa0 s with ⟨_,e⟩ | ⟨_,e⟩ | ⟨e,_⟩
   . omega
   . omega
   . grind
 . refine No rfl (by simp) ?_
   have B:Sz 1000 (toL 0 (y:Tow.El 0)):=(j.rootS (k:=0) (r:=1) (t:=()) (s:=(y:Tow.El 0)) trivial trivial i).mono (by decide)
   exact Ce rfl (P9.detach_ok (x:=⟨0,(),y⟩) (r:=1) (p:=1000) trivial B (show 0<=16 by decide) (by decide) (by decide))<|Rt rfl (.tup (.cons (.rf rfl) Xav)) ⟨⟨0,(),y⟩,rfl,.inl ⟨y,rfl,i,o⟩⟩
 . exact No rfl (by simp)<|Ce rfl (P9.detach_ok (x:=⟨1,tsn () s,Xf9 1 0⟩) (r:=201) (p:=1000) ⟨trivial,j⟩ Yj4 (show 1<=16 by decide) (by decide) (by decide))<|Rt rfl (.tup (.cons (.rf rfl) Xav)) ⟨⟨1,tsn () s,Xf9 1 0⟩,rfl,.inr ⟨rfl,i,o⟩⟩
theorem radius_r{c:Cv}{p q:Rat×Rat}{s:Nat}(M:c.C=v0 p)(hA:c.A=v0 q)(hp:Qp s p)(hq:Qp s q)(i:p≠q)(hs:Qs 200 (d2 q p))(h0:0<=d2 q p)(h:s<=10000:=by decide): C0 56 [.d (dC c)] (R9.RtR (nr (d2 q p))):=by
 obtain⟨arc,A,B,C,cw⟩:=c
 obtain rfl:C=v0 p:=M
 obtain rfl:A=v0 q:=hA
 refine En Tryz.func56 λ_ _ _=>?_
 refine Ca rfl (P15.Around_g W0 (gv0 hp h) (gv0 hq h) (Xaw hp.1 h) (Xaw hp.2 h) (by decide) i) λv j=>?_
 obtain⟨z,rfl,I⟩:=j
 obtain rfl:=zw I.o
 refine No rfl (by decide)<|Ca rfl (Ymu hs h0) λv j=>?_
 obtain⟨z,rfl,I⟩:=j
 exact Rt rfl (.tup (.cons (.rf rfl) Xav)) ⟨z,rfl,I⟩
def Yg6(r m:Nm): List Vn:=[⟨r,n00⟩,⟨n00,r⟩,⟨m,n00⟩,⟨n00,m⟩]
def sel: List Vn->List Bool->List Vn
 | x::X,b::B=>if b then x::sel X B else sel X B
 | _,_=>[]
theorem Xhc{x:Vn}{b:Bool}: ∀ {X:List Vn} {B:List Bool},X.length=B.length->sel (X++[x]) (B++[b])=sel X B++(if b then [x] else [])
 | [],[],_=>by cases b<;>rfl
 | y::X,c::B,h=>by
  have:=Xhc (x:=x) (b:=b) (X:=X) (B:=B) (by simpa using h)
  simp only[W3q,sel,this]
  cases c<;>simp
theorem Xh6: ∀ {X:List Vn} {B:List Bool},(sel X B).length<=X.length
 | [],_=>by simp[sel]
 | _::_,[]=>by simp[sel]
 | x::X,b::B=>by
  have:=Xh6 (X:=X) (B:=B)
  simp only[sel];split<;>simp<;>omega
def exA(h:List Vn): Option (List Vn)->AV
 | none=>.lit 4 (h.map dV)
 | some w=>.own 600 4 0 (w.map dV).length
def exH(c:Cv): Option (List Vn)->Hpl
 | none=>[(1,.var (.d (dC c)))]
 | some w=>[(1,.var (.d (dC c))),(600,.arr 4 (w.map dV))]
def exW(h:List Vn): Option (List Vn)->List Vn
 | none=>h
 | some w=>w
theorem Xqa: C0 107 [.d (.int .i64 0)] (·=.d (dN n00)):=P9.FromInt_ok (z:=0) (by decide)
theorem Xnw{c:Cv}{r m:Nm}{X:List Vn}{B:List Bool}(h:c.arc=true)(hr:C0 56 [.d (dC c)] (·=.tup (.pr (.d (dN r)) (.d (.int .i64 0)))))(U:C0 46 [.d (dN r)] (·=.d (dN m)))(V:X.length=4)(Y:B.length=4)
 (Z:∀(i:Nat) d x b,(Yg6 r m)[i]?=some d->X[i]?=some x->B[i]?=some b->C0 60 [.d (dV c.C),.d (dV d)] (·=.tup (.pr (.d (dV x)) (.d (.int .i64 0))))/\C0 108 [.d (dC c),.d (dV x)] (·=.b b)) :
 C0 45 [.d (dC c)] (·=.tup (.pr (.d (dVs ([c.A,c.B]++sel X B))) (.d (.int .i64 0)))):=by
 obtain⟨arc,A,B',C,cw⟩:=c
 obtain rfl:arc=true:=h
 refine En Tryz.func45 λ_ _ _=>?_
 refine No rfl (λh=>h rfl)<|Ce rfl hr<|No rfl (by decide)<|Ce rfl Xqa<|Dw rfl<|Ce rfl U<|Ce rfl U<|Lo (λ((k,o):Nat×Option (List Vn))=>[(1,.ptr 1 0),(4,exA [A,B'] o),(44,.lit 4 ((Yg6 r m).map dV)),(45,.d (.int .i64 4)),(46,.d (.int .i64 k))]) (λ(_,o)=>exH ⟨true,A,B',C,cw⟩ o) (λ(k,o)=>k<=4/\exW [A,B'] o=[A,B']++sel (X.take k) (B.take k)) (λ(k,_)=>4-k) (0,none) [] rfl ⟨W0s _,by simp[exW,sel]⟩ ?_
 rintro⟨k,o⟩ ⟨hk,j⟩
 have O:(exW [A,B'] o).length<=6:=by
  have j:exW [A,B'] o=_:=j
  rw[j,W0d]
  have:=Xh6 (X:=X.take k) (B:=B.take k)
  rw[W0k] at this
  simp only[W0j,W3e]
  omega
 cases o with
 | none =>
  have j:[A,B']=[A,B']++sel (X.take k) (B.take k):=j
  refine By rfl (λh=>?_) λh=>?_
  . have h:(k:Int)<4:=h
    obtain⟨d,hd⟩:∃d,(Yg6 r m)[k]?=some d:=⟨_,W0a (show k<4 by omega)⟩
    obtain⟨x,I⟩:∃x,X[k]?=some x:=⟨_,W0a (by omega)⟩
    obtain⟨b,M⟩:∃b,B[k]?=some b:=⟨_,W0a (by omega)⟩
    obtain⟨Q,T⟩:=Z k d x b hd I M
    have hs:sel (X.take (k+1)) (B.take (k+1))=sel (X.take k) (B.take k)++(if b then [x] else []):=by
     rw[W1c,W1c,I,M];exact Xhc (by rw[W0k,W0k,V,Y])
    refine Ix k rfl (u:=dV d) (by rw[W0w,hd];rfl)<|Ce rfl Q<|No rfl (by decide)<|Ce rfl T ?_
    cases b with
    | false =>
     refine No rfl nofun<|Ar (k+1:Nat) rfl ?_
     exact Bk (k+1,none) [] rfl ⟨by omega,by rw[hs];simpa [exW] using j⟩ (by show 4-(k+1)<4-k;omega)
    | true =>
     refine Yes rfl rfl<|ApL (([A,B']++[x]).map dV) rfl rfl (W3u _) (show 3<=1099511627776 by decide) ?_
     refine Ar (k+1:Nat) rfl ?_
     exact Bk (k+1,some ([A,B']++[x])) [(66,600)] rfl ⟨by omega,by rw[hs,<-W2j,<-j];rfl⟩ (by show 4-(k+1)<4-k;omega)
  . have h:¬(k:Int)<4:=h
    rw[W0b (by omega),W0b (by omega)] at j
    exact RTt rfl (.cons (.lit (by rw[<-j])) Xav)
 | some w =>
  have j:w=[A,B']++sel (X.take k) (B.take k):=j
  have O:w.length<=6:=O
  refine By rfl (λh=>?_) λh=>?_
  . have h:(k:Int)<4:=h
    obtain⟨d,hd⟩:∃d,(Yg6 r m)[k]?=some d:=⟨_,W0a (show k<4 by omega)⟩
    obtain⟨x,I⟩:∃x,X[k]?=some x:=⟨_,W0a (by omega)⟩
    obtain⟨b,M⟩:∃b,B[k]?=some b:=⟨_,W0a (by omega)⟩
    obtain⟨Q,T⟩:=Z k d x b hd I M
    have hs:sel (X.take (k+1)) (B.take (k+1))=sel (X.take k) (B.take k)++(if b then [x] else []):=by
     rw[W1c,W1c,I,M];exact Xhc (by rw[W0k,W0k,V,Y])
    refine Ix k rfl (u:=dV d) (by rw[W0w,hd];rfl)<|Ce rfl Q<|No rfl (by decide)<|Ce rfl T ?_
    cases b with
    | false =>
     refine No rfl nofun<|Ar (k+1:Nat) rfl ?_
     exact Bk (k+1,some w) [] rfl ⟨by omega,by rw[hs];simpa [exW] using j⟩ (by show 4-(k+1)<4-k;omega)
    | true =>
     refine Yes rfl rfl<|ApO ((w++[x]).map dV) rfl rfl rfl (by rw[W1k];rfl) (by simp;omega) ?_
     refine Ar (k+1:Nat) rfl ?_
     exact Bk (k+1,some (w++[x])) [(600,900),(66,600)] rfl ⟨by omega,by rw[hs,<-W2j,<-j];rfl⟩ (by show 4-(k+1)<4-k;omega)
  . have h:¬(k:Int)<4:=h
    rw[W0b (by omega),W0b (by omega)] at j
    exact RTt rfl (.cons (.own rfl (by rw[W1j];exact W0c _) (by rw[W0y,W1x,j])) Xav)
end
end Go.Proofs.YtcmjannkbdflmaaGreatDoor.P55
namespace Go.Proofs.YtcmjannkbdflmaaGreatDoor
open Go Go.Num Go.Tow Go.Vm
section
def lo2(x y:Rat): Rat:=if y<x then y else x
def hi2(x y:Rat): Rat:=if x<y then y else x
def Xop(x:Rat)(r:List Rat): Rat:=r.foldl lo2 x
def Xoq(x:Rat)(r:List Rat): Rat:=r.foldl hi2 x
theorem Yko{s:Nat}{x y:Rat}(h:Qs s x)(i:Qs s y): Qs s (lo2 x y):=by unfold lo2;split<;>assumption
theorem Yk3{s:Nat}{x y:Rat}(h:Qs s x)(i:Qs s y): Qs s (hi2 x y):=by unfold hi2;split<;>assumption
theorem Xng(x:Rat)(r:List Rat)(y:Rat): Xop x (r++[y])=lo2 (Xop x r) y:=by simp[Xop]
theorem Xnh(x:Rat)(r:List Rat)(y:Rat): Xoq x (r++[y])=hi2 (Xoq x r) y:=by simp[Xoq]
theorem Xpg{s:Nat}{x:Rat}{r:List Rat}(h:∀y∈x::r,Qs s y): Qs s (Xop x r):=by
 induction r generalizing x with
 | nil=>exact h x (W0v ..)
 | cons y r j=>exact j (x:=lo2 x y) (λz i=>by
  rcases W1h.1 i with rfl | i
  . exact Yko (h x (W0v ..)) (h y (by simp))
  . exact h z (by simp[i]))
theorem Xph{s:Nat}{x:Rat}{r:List Rat}(h:∀y∈x::r,Qs s y): Qs s (Xoq x r):=by
 induction r generalizing x with
 | nil=>exact h x (W0v ..)
 | cons y r j=>exact j (x:=hi2 x y) (λz i=>by
  rcases W1h.1 i with rfl | i
  . exact Yk3 (h x (W0v ..)) (h y (by simp))
  . exact h z (by simp[i]))
theorem Xyb{x y:Rat}: Xn5 x y<0↔x<y:=by
 unfold Xn5
 split
 . rename_i h;simp[h]
 . rename_i h
   split<;>simp[h]
theorem Yhd{x y:Rat}: Xn5 x y>0↔y<x:=by
 rw[Xn3,<-Xyb];omega
theorem Xk7{s:Nat}{x:Rat}{r:List Rat}(h:∀y∈x::r,Qs s y)(k:Nat): ∀y∈x::r.take k,Qs s y:=λy i=>h y (by
 rcases W1h.1 i with rfl | i
 . exact W0v ..
 . exact W1b _ (W5f i))
theorem Xi2(n:Int): Rat.divInt n 1=(n:Rat):=by
 rw[W3j]
 have:((1:Int):Rat)=1:=rfl
 grind
def pw(b:Nat): Rat:=((2^b:Int):Rat)
theorem Zs.two{b p:Nat}(h:b+1<=p): Zs p (2^b:Int):=by
 refine Zs.mono (p:=b+1) ?_ h
 unfold Zs
 rw[W7j]
 exact W3y (by decide) (Nat.lt_succ_self b)
theorem Xdj(b:Nat): (2^b:Int)≠0:=by have:=W5x (n:=2) (m:=b) (by decide);omega
theorem Xg5(b:Nat): Qs (b+1) (pw b):=⟨Zs.two (W0c _),Zs.one (by omega)⟩
theorem Zs.floor{s:Nat}{x:Rat}(h:Qs s x): Zs s x.floor:=by
 have i:=h.n
 unfold Zs at *
 rw[Rat.floor_def]
 exact W1y (Int.natAbs_ediv_le_natAbs _ _) i
def dnQ(x:Rat)(b:Nat): Rat:=Rat.divInt (x*pw b).floor (2^b)
def upQ(x:Rat)(b:Nat): Rat:=-dnQ (-x) b
theorem Xsv{s:Nat}{x:Rat}(h:Qs s x)(b:Nat): Qs (s+b+1) (dnQ x b) :=
 Qs.divInt (p:=s+b+1) ((Zs.floor (h.mul (Xg5 b))).mono (by omega)) (Zs.two (by omega)) (Xdj b)
theorem Yiw{s:Nat}{x:Rat}(h:Qs s x)(b:Nat): Qs (s+b+1) (upQ x b):=(Xsv h.neg b).neg
theorem Xpy{x y:Rat}: Xn5 x y<=0↔¬y<x:=by rw[<-Yhd];omega
theorem Xlo{a p:Nat}(h:a<2^p): (dig a).length<=p/32+1:=by
 refine Xaq (W0u h ?_)
 rw[show (4294967296:Nat)=2^32 from rfl,<-W5a]
 exact W0m (by decide) (by omega)
def rtF(x:Rat): Nat:=rt x.floor.toNat
theorem Yob(n:Nat): rt n<=n:=by
 have h:=(Xc7 n).1
 by_cases h0:rt n=0
 . omega
 . have:=W0p (rt n) (show 1<=rt n by omega)
   omega
theorem Xb4{x:Rat}(h:0<=x): x.floor=(x.floor.toNat:Int):=by
 have:(0:Int)<=x.floor:=Rat.le_floor_iff.2 h
 omega
theorem Xm2{s:Nat}{x:Rat}(h:Qs s x)(h0:0<=x): Zs s (rtF x:Int):=by
 have i:=Zs.floor h
 rw[Xb4 h0] at i
 have j:=Yob x.floor.toNat
 unfold Zs at *
 have i:x.floor.toNat<2^s:=i
 show rt x.floor.toNat<2^s
 omega
theorem Xay(b:Nat): 0<pw b:=Rat.intCast_pos.2 (W5x (by decide))
def sq2(x:Rat)(b:Nat): Rat:=x*(pw b*pw b)
def Xdq(x:Rat)(b:Nat): Rat:=Rat.divInt (rtF (sq2 x b):Int) (2^b)
open Classical in
noncomputable def Xth(x:Rat): Nat:=if ((rtF x*rtF x:Int):Rat)<x then rtF x+1 else rtF x
noncomputable def Xon(x:Rat)(b:Nat): Rat:=Rat.divInt (Xth (sq2 x b):Int) (2^b)
theorem Xmu{s b:Nat}{x:Rat}(h:Qs s x): Qs (s+(2*b+2)) (sq2 x b):=(h.mul ((Xg5 b).mul (Xg5 b))).mono (by omega)
theorem Xea{x:Rat}{b:Nat}(h:0<=x): 0<=sq2 x b:=Rat.mul_nonneg h (Rat.mul_nonneg (W2m (Xay b)) (W2m (Xay b)))
theorem Ye7{x:Rat}(h:0<=x): ¬Xa5 x.num 0<0:=by
 have:=Rat.num_nonneg.2 h
 rcases Xat x.num 0 with ⟨i,j⟩ | ⟨i,j⟩ | ⟨i,j⟩<;>omega
theorem Xl4(x:Rat)(n:Nat): (x.num*2^n).fdiv x.den=(x*pw n).floor:=by
 have hd:(0:Int)<x.den:=Int.natCast_pos.2 (W2q x.den_nz)
 rw[W1s _ (by omega)]
 have i:∀z:Int,z<=(x.num*2^n)/x.den↔z<=(x*pw n).floor:=by
  intro z
  rw[Int.le_ediv_iff_mul_le hd,Rat.le_floor_iff]
  have e:x*pw n*(x.den:Rat)=((x.num*2^n:Int):Rat):=by
   have:=Xll x
   have o:pw n=((2^n:Int):Rat):=rfl
   rw[W3z,<-o,<-this]
   grind
  have j:(0:Rat)<(x.den:Rat):=by
   have:=Rat.intCast_pos.2 hd
   exact this
  rw[<-W3h,W3z,<-e]
  constructor
  . intro h
    exact W2a h j
  . intro h
    exact W2t h (W2m j)
 have A:=(i _).1 (W8m _)
 have o:=(i _).2 (W8m _)
 omega
theorem Yde(b:Nat): pw (2*b)=pw b*pw b:=by
 show ((2^(2*b):Int):Rat)=((2^b:Int):Rat)*((2^b:Int):Rat)
 rw[<-W3z,<-W7p]
 congr 2;omega
theorem Xzu{x:Rat}(b:Nat)(h0:0<=x): (x.num*2^(2*b)).fdiv x.den=((sq2 x b).floor.toNat:Int):=by
 rw[Xl4,Yde]
 exact Xb4 (Xea h0)
theorem Xhz{s:Nat}{x:Rat}(h:Qs s x)(h0:0<=x)(b:Nat): Qs (s+(2*b+2)) (Xdq x b) :=
 Qs.divInt (Xm2 (Xmu h) (Xea h0)) (Zs.two (by omega)) (Xdj b)
def mx0(x:Rat): Rat:=if x<0 then 0 else x
theorem Xe6(x:Rat): 0<=mx0 x:=by unfold mx0;split<;>grind
theorem Xr7{s:Nat}{x:Rat}(h:Qs s x)(hs:1<=s): Qs s (mx0 x):=by
 unfold mx0
 split
 . exact qs0.mono hs
 . exact h
theorem Ylv{x:Rat}: Xa5 x.num 0<0↔x<0:=by
 rw[Xk2]
 rcases Xa0 x with ⟨h,e⟩ | ⟨h,e⟩ | ⟨h,e⟩<;>rw[e]
 . exact⟨λh=>absurd h (by decide),λi=>absurd i (by grind)⟩
 . exact⟨λh=>absurd h (by decide),λi=>absurd i (by grind)⟩
 . exact⟨λ_=>h,λ_=>by decide⟩
def rnd(p:Rat×Rat)(b:Nat): Rat×Rat:=(dnQ p.1 b,upQ p.2 b)
def rts(p:Rat×Rat)(b:Nat): Rat×Rat:=(Xdq (mx0 p.1) b,Xdq p.2 b+Rat.divInt 1 (2^b))
def Xb6(p q:Rat×Rat): Rat×Rat:=(Xop (p.1*q.1) [p.1*q.2,p.2*q.1,p.2*q.2],Xoq (p.1*q.1) [p.1*q.2,p.2*q.1,p.2*q.2])
def Xml(p q:Rat×Rat): Rat×Rat:=(p.1+q.1,p.2+q.2)
def enc: (k:Nat)->Tw k->El k->Nat->Rat×Rat
 | 0=>λ_ (x:Rat) _=>(x,x)
 | k+1=>λt a b=>if (∀x∈toL k a.2,x=0) then enc k t.1 a.1 b else rnd (Xml (enc k t.1 a.1 b) (Xb6 (enc k t.1 a.2 b) (rts (enc k t.1 t.2 b) b))) b
theorem Yeb(x:Rat)(b:Nat): dnQ x b*pw b=((x*pw b).floor:Rat):=by
 unfold dnQ
 rw[W3j]
 have h:=Xay b
 show ((x*pw b).floor:Rat)/pw b*pw b=_
 rw[W5r (by grind)]
theorem Xsw(x:Rat)(b:Nat): dnQ x b<=x:=by
 refine W2a ?_ (Xay b)
 rw[Yeb]
 exact W8d _
theorem Xxw(x:Rat)(b:Nat): x*pw b<dnQ x b*pw b+1:=by
 rw[Yeb]
 have:=@Rat.lt_floor (x*pw b)
 grind
theorem Xuj(x:Rat)(b:Nat): x<=upQ x b:=by
 have:=Xsw (-x) b
 unfold upQ;grind
theorem Ycp(x:Rat)(b:Nat): upQ x b*pw b<x*pw b+1:=by
 have:=Xxw (-x) b
 unfold upQ;grind
theorem Xwn{x y:Rat}: lo2 x y<=x/\lo2 x y<=y:=by unfold lo2;split<;>grind
theorem Xxf{x y:Rat}: x<=hi2 x y/\y<=hi2 x y:=by unfold hi2;split<;>grind
theorem Xwm{x y:Rat}: lo2 x y=x\/lo2 x y=y:=by unfold lo2;split<;>simp
theorem Xxe{x y:Rat}: hi2 x y=x\/hi2 x y=y:=by unfold hi2;split<;>simp
theorem Xgl(p q:Rat×Rat): (Xb6 p q).1<=p.1*q.1/\(Xb6 p q).1<=p.1*q.2/\(Xb6 p q).1<=p.2*q.1/\(Xb6 p q).1<=p.2*q.2:=by
 show lo2 (lo2 (lo2 (p.1*q.1) (p.1*q.2)) (p.2*q.1)) (p.2*q.2)<=_/\lo2 (lo2 (lo2 (p.1*q.1) (p.1*q.2)) (p.2*q.1)) (p.2*q.2)<=_/\lo2 (lo2 (lo2 (p.1*q.1) (p.1*q.2)) (p.2*q.1)) (p.2*q.2)<=_/\lo2 (lo2 (lo2 (p.1*q.1) (p.1*q.2)) (p.2*q.1)) (p.2*q.2)<=_
 have i:=@Xwn (p.1*q.1) (p.1*q.2)
 have j:=@Xwn (lo2 (p.1*q.1) (p.1*q.2)) (p.2*q.1)
 have h:=@Xwn (lo2 (lo2 (p.1*q.1) (p.1*q.2)) (p.2*q.1)) (p.2*q.2)
 refine⟨?_,?_,?_,h.2⟩<;>grind
theorem Xgm(p q:Rat×Rat): p.1*q.1<=(Xb6 p q).2/\p.1*q.2<=(Xb6 p q).2/\p.2*q.1<=(Xb6 p q).2/\p.2*q.2<=(Xb6 p q).2:=by
 show _<=hi2 (hi2 (hi2 (p.1*q.1) (p.1*q.2)) (p.2*q.1)) (p.2*q.2)/\_<=hi2 (hi2 (hi2 (p.1*q.1) (p.1*q.2)) (p.2*q.1)) (p.2*q.2)/\_<=hi2 (hi2 (hi2 (p.1*q.1) (p.1*q.2)) (p.2*q.1)) (p.2*q.2)/\_<=hi2 (hi2 (hi2 (p.1*q.1) (p.1*q.2)) (p.2*q.1)) (p.2*q.2)
 have i:=@Xxf (p.1*q.1) (p.1*q.2)
 have j:=@Xxf (hi2 (p.1*q.1) (p.1*q.2)) (p.2*q.1)
 have h:=@Xxf (hi2 (hi2 (p.1*q.1) (p.1*q.2)) (p.2*q.1)) (p.2*q.2)
 refine⟨?_,?_,?_,h.2⟩<;>grind
theorem Xe9(x:Rat)(b:Nat): Xdq x b*pw b=((rtF (sq2 x b):Int):Rat):=by
 unfold Xdq
 rw[W3j]
 have h:=Xay b
 show ((rtF (sq2 x b):Int):Rat)/pw b*pw b=_
 rw[W5r (by grind)]
theorem Xdr(b:Nat): Rat.divInt 1 (2^b)*pw b=1:=by
 rw[W3j]
 have h:=Xay b
 show ((1:Int):Rat)/pw b*pw b=_
 rw[W5r (by grind)];rfl
theorem Xc5(x:Rat)(b:Nat): 0<=Xdq x b:=by
 refine W2a ?_ (Xay b)
 rw[Xe9,W5q]
 exact Rat.intCast_nonneg.2 (by omega)
theorem Yc8{x:Rat}(h:0<=x): (((rtF x:Int)):Rat)*((rtF x:Int):Rat)<=x:=by
 have j:=(Xc7 x.floor.toNat).1
 have o:=Xb4 h
 have A:=@W8d x
 have i:((rtF x*rtF x:Int):Rat)<=(x.floor:Rat):=by
  rw[W3h,o]
  unfold rtF
  exact_mod_cast j
 rw[W3z] at i
 exact W5h i A
theorem Xvj{x:Rat}(h:0<=x): x<(((rtF x:Int))+1:Rat)*(((rtF x:Int))+1:Rat):=by
 have i:=(Xc7 x.floor.toNat).2
 have o:=Xb4 h
 have B:=@Rat.lt_floor x
 have j:((x.floor+1:Int):Rat)<=(((rtF x+1:Int)*(rtF x+1:Int):Int):Rat):=by
  rw[W3h,o]
  unfold rtF
  have i:x.floor.toNat+1<=(rt x.floor.toNat+1)*(rt x.floor.toNat+1):=i
  exact_mod_cast i
 rw[W3z,W4a,W4a] at j
 have A:((1:Int):Rat)=1:=rfl
 rw[A] at j
 grind
theorem Xhy{x:Rat}{b:Nat}(h:0<=x): Xdq x b*Xdq x b<=x:=by
 have hp:=Xay b
 have i:=W4s hp hp
 refine W2a ?_ i
 have j:=Yc8 (Xea (b:=b) h)
 rw[<-Xe9] at j
 unfold sq2 at j
 grind
theorem Xu4{x:Rat}{b:Nat}(h:0<=x): x<=(Xdq x b+Rat.divInt 1 (2^b))*(Xdq x b+Rat.divInt 1 (2^b)):=by
 have hp:=Xay b
 have i:=W4s hp hp
 refine W2a ?_ i
 have j:=Xvj (Xea (b:=b) h)
 have o:=Xdr b
 rw[<-Xe9] at j
 have A:sq2 x b=x*(pw b*pw b):=rfl
 have B:(Xdq x b+Rat.divInt 1 (2^b))*(Xdq x b+Rat.divInt 1 (2^b))*(pw b*pw b)=(Xdq x b*pw b+1)*(Xdq x b*pw b+1):=by
  rw[<-o];grind
 rw[B,<-A]
 exact W2m j
theorem Xf5: ∀ {k:Nat} {t:Tw k} (h:Xbm k t) (a:El k) (b:Nat),inI k t a (enc k t a b).1 (enc k t a b).2
 | 0,t,h,a,b=>⟨(Xau h).le_rf (Xba 0 t) a,(Xau h).le_rf (Xba 0 t) a⟩
 | k+1,t,h,a,b=>by
  have B:=Xno (t:=t) h.1 (Xf5 h.1 a.1 b)
  have hs:=Xsu (t:=t) a
  by_cases i:∀x∈toL k a.2,x=0
  . have j:enc (k+1) t a b=enc k t.1 a.1 b:=if_pos i
    rw[j]
    have ha:a=up k a.1:=W3a rfl ((Xar k a.2).2 i)
    rw[ha]
    exact B
  . have j:enc (k+1) t a b=rnd (Xml (enc k t.1 a.1 b) (Xb6 (enc k t.1 a.2 b) (rts (enc k t.1 t.2 b) b))) b:=if_neg i
    have O:=Xno (t:=t) h.1 (Xf5 h.1 a.2 b)
    have I:=Xf5 h.1 t.2 b
    have o:0<=(enc k t.1 t.2 b).2:=by
     have h0:le k t.1 (rat k 0) t.2:=(Xii h.1).2 (by rw[h.2];decide)
     exact(Xa1 h.1).1 (le_tr h.1 h0 I.2)
    have U:0<=Rat.divInt 1 (2^b):=W2a (by rw[Xdr,W5q];decide) (Xay b)
    have Q:=Xw3 h I (c:=Xdq (mx0 (enc k t.1 t.2 b).1) b) (d:=Xdq (enc k t.1 t.2 b).2 b+Rat.divInt 1 (2^b)) (Xc5 _ _) (by have:=Xc5 (enc k t.1 t.2 b).2 b;grind)
     (by
      have A:=Xhy (b:=b) (Xe6 (enc k t.1 t.2 b).1)
      by_cases h0:(enc k t.1 t.2 b).1<0
      . right
        have e:mx0 (enc k t.1 t.2 b).1=0:=if_pos h0
        rw[e] at A |-
        have V:=Xc5 0 b
        by_cases T:Xdq 0 b=0
        . exact T
        . have:=W4s (show 0<Xdq 0 b by grind) (show 0<Xdq 0 b by grind)
          grind
      . left
        have e:mx0 (enc k t.1 t.2 b).1=(enc k t.1 t.2 b).1:=if_neg h0
        rw[e] at A |-
        exact A) (Xu4 o)
    have im:=Xw4 h O Q (Xc5 _ _) (Xgl (enc k t.1 a.2 b) (rts (enc k t.1 t.2 b) b)).1 (Xgl (enc k t.1 a.2 b) (rts (enc k t.1 t.2 b) b)).2.1 (Xgm (enc k t.1 a.2 b) (rts (enc k t.1 t.2 b) b)).2.2.1 (Xgm (enc k t.1 a.2 b) (rts (enc k t.1 t.2 b) b)).2.2.2
    have M:=Xw5 h B im
    rw[<-hs] at M
    rw[j]
    exact Xlu h M (Xsw _ _) (Xuj _ _)
def eB(s b:Nat): Nat->Nat
 | 0=>s
 | k+1=>3*eB s b k+4*b+6
theorem Ybg(s b:Nat): ∀k,s<=eB s b k
 | 0=>W0c _
 | k+1=>by have:=Ybg s b k;show s<=3*eB s b k+4*b+6;omega
theorem Yd8{k:Nat}{t:Tw (k+1)}(h:Xbm (k+1) t)(b:Nat): 0<=(enc k t.1 t.2 b).2:=by
 have h0:le k t.1 (rat k 0) t.2:=(Xii h.1).2 (by rw[h.2];decide)
 exact(Xa1 h.1).1 (le_tr h.1 h0 (Xf5 h.1 t.2 b).2)
def Q2(s:Nat)(p:Rat×Rat): Prop:=Qs s p.1/\Qs s p.2
theorem Xkr(b:Nat): Qs (b+1) (Rat.divInt 1 (2^b)):=Qs.divInt (Zs.one (by omega)) (Zs.two (W0c _)) (Xdj b)
theorem Yc4{s b:Nat}{p:Rat×Rat}(h:Q2 s p)(h0:0<=p.2)(hs:1<=s): Q2 (s+3*b+4) (rts p b) :=
 ⟨(Xhz (Xr7 h.1 hs) (Xe6 _) b).mono (by omega),((Xhz h.2 h0 b).add (Xkr b)).mono (by omega)⟩
theorem Xln{s s':Nat}{p q:Rat×Rat}(h:Q2 s p)(j:Q2 s' q): Q2 (s+s') (Xb6 p q):=by
 have i:∀y∈p.1*q.1::[p.1*q.2,p.2*q.1,p.2*q.2],Qs (s+s') y:=by
  intro y o
  simp at o
  rcases o with rfl | rfl | rfl | rfl
  . exact h.1.mul j.1
  . exact h.1.mul j.2
  . exact h.2.mul j.1
  . exact h.2.mul j.2
 exact⟨Xpg i,Xph i⟩
theorem Xmf{s s':Nat}{p q:Rat×Rat}(h:Q2 s p)(i:Q2 s' q): Q2 (s+s'+1) (Xml p q):=⟨h.1.add i.1,h.2.add i.2⟩
theorem Yda{s:Nat}{p:Rat×Rat}(h:Q2 s p)(b:Nat): Q2 (s+b+1) (rnd p b):=⟨Xsv h.1 b,Yiw h.2 b⟩
theorem Q2.mono{s s':Nat}{p:Rat×Rat}(h:Q2 s p)(hs:s<=s'): Q2 s' p:=⟨h.1.mono hs,h.2.mono hs⟩
theorem Xiw: ∀ {k:Nat} {t:Tw k} {a:El k} {s b:Nat},Xbm k t->TS s k t->Sz s (toL k a)->1<=s->Q2 (eB s b k) (enc k t a b)
 | 0,t,a,s,b,h,i,ha,hs=>⟨ha.qs (W0f.2 rfl),ha.qs (W0f.2 rfl)⟩
 | k+1,t,a,s,b,h,i,ha,hs=>by
  have j:=Xiw (b:=b) h.1 i.1 (Sz.left (l:=toL k a.1) (m:=toL k a.2) ha) hs
  have o:=Xiw (b:=b) h.1 i.1 (Sz.right (l:=toL k a.1) (m:=toL k a.2) ha) hs
  have A:=Xiw (b:=b) h.1 i.1 i.2 hs
  have B:=Ybg s b k
  show Q2 (3*eB s b k+4*b+6) (if (∀x∈toL k a.2,x=0) then enc k t.1 a.1 b else rnd (Xml (enc k t.1 a.1 b) (Xb6 (enc k t.1 a.2 b) (rts (enc k t.1 t.2 b) b))) b)
  split
  . exact j.mono (by omega)
  . exact(Yda (Xmf j (Xln o (Yc4 A (Yd8 h b) (by omega)))) b).mono (by omega)
theorem Xm9(a b:Nat): pw (a+b)=pw a*pw b:=by
 show ((2^(a+b):Int):Rat)=((2^a:Int):Rat)*((2^b:Int):Rat)
 rw[<-W3z,<-W7p]
theorem Xco(n:Nat): pw (n+1)=2*pw n:=by rw[Xm9,show pw 1=2 from rfl];grind
theorem Xgy(n:Nat): 1<=pw n:=by
 induction n with
 | zero=>exact W6v
 | succ n h=>rw[Xco];grind
theorem Xic{a b:Nat}(h:a<=b): pw a<=pw b:=by
 obtain⟨c,rfl⟩:=Nat.le.dest h
 rw[Xm9]
 have i:=W3c (Xgy c) (W2m (Xay a))
 grind
theorem Xjz{x y:Rat}(h:0<=x)(k:0<=y): 0<=x*y:=Rat.mul_nonneg h k
theorem Ydu{a b c d:Rat}(h:a<=b)(k:c<=d)(i:0<=c)(hb:0<=b): a*c<=b*d:=by
 have j:=W2t h i
 have o:=W3c k hb
 grind
theorem Xlm{x y X Y:Rat}(h:-X<=x)(i:x<=X)(j:-Y<=y)(o:y<=Y): x*y<=X*Y:=by
 have a:=Xjz (show 0<=X-x by grind) (show 0<=Y+y by grind)
 have b:=Xjz (show 0<=X+x by grind) (show 0<=Y-y by grind)
 grind
theorem Xse{x y:Rat}(j:0<=y)(h:x*x<=y*y): x<=y:=by
 by_cases i:x<=y
 . exact i
 . have o:y<x:=by grind
   have a:=W4s (show 0<x-y by grind) (show 0<x by grind)
   have b:=Xjz j (show 0<=x-y by grind)
   grind
def Wid(p:Rat×Rat)(e:Nat): Prop:=p.1<=p.2/\(p.2-p.1)*pw e<=1
def Mg(p:Rat×Rat)(m:Nat): Prop:=-pw m<=p.1/\p.2<=pw m
theorem Wid.mono{p:Rat×Rat}{e f:Nat}(h:Wid p e)(hf:f<=e): Wid p f:=by
 refine⟨h.1,?_⟩
 have:=W3c (Xic hf) (show 0<=p.2-p.1 by have:=h.1;grind)
 have:=h.2
 grind
theorem Mg.mono{p:Rat×Rat}{m n:Nat}(h:Mg p m)(i:m<=n): Mg p n:=by
 have:=Xic i
 have j:=h.1
 have o:=h.2
 exact⟨by grind,by grind⟩
structure RtOf (r:Rat×Rat) (b:Nat) (s:Rat×Rat):Prop where
 lo:s.1=Xdq (mx0 r.1) b
 l:Xdq r.2 b<=s.2
 h:s.2<=Xdq r.2 b+Rat.divInt 1 (2^b)
theorem Xeo(b:Nat): 0<Rat.divInt 1 (2^b):=by
 by_cases h:0<Rat.divInt 1 (2^b)
 . exact h
 . have i:=W2t (show Rat.divInt 1 (2^b)<=0 by grind) (W2m (Xay b))
   rw[Xdr] at i
   exact absurd i (by grind)
theorem Xuk{b f:Nat}(h:f+1<=b): 2*(Rat.divInt 1 (2^b)*pw f)<=1:=by
 have i:=W3c (Xic h) (W2m (Xeo b))
 rw[Xdr,Xco] at i
 grind
theorem Xks(b:Nat): Rat.divInt 1 (2^b)<=1:=by
 have h:=W3c (Xgy b) (W2m (Xeo b))
 rw[Xdr] at h
 grind
theorem Yke(x:Rat): x<=mx0 x:=by unfold mx0;split<;>grind
theorem Xh0{x y:Rat}{b:Nat}(j:0<=x)(h:x<=y): Xdq x b<=Xdq y b:=by
 have hp:=Xay b
 refine W2a ?_ hp
 rw[Xe9,Xe9,W3h]
 have o:sq2 x b<=sq2 y b:=W2t h (W2m (W4s hp hp))
 have I:=Yc8 (Xea (b:=b) j)
 have M:=Xvj (x:=sq2 y b) (W5h (Xea (b:=b) j) o)
 by_cases A:(rtF (sq2 x b):Int)<=rtF (sq2 y b)
 . exact A
 . have B:(rtF (sq2 y b):Int)+1<=rtF (sq2 x b):=by omega
   have i:=W3h.2 B
   rw[W4a,show ((1:Int):Rat)=1 from rfl] at i
   have O:(0:Rat)<=((rtF (sq2 y b):Int):Rat):=Rat.intCast_nonneg.2 (by omega)
   have Q:=Ydu i i (by grind) (by grind)
   grind
theorem RtOf.wd{r s:Rat×Rat}{b e f:Nat}(R:RtOf r b s)(hr:Wid r e)(h0:0<=r.2)(hf:2*f<=e)(hb:f+1<=b): s.1<=s.2/\(s.2-s.1)*pw f<=2:=by
 obtain⟨r1,B⟩:=r
 obtain⟨c,d⟩:=s
 obtain⟨Q,h2,h3⟩:=R
 dsimp only at *
 have hA:=Xhy (b:=b) h0
 have U:=Xu4 (b:=b) (Xe6 r1)
 have I:=Xc5 (mx0 r1) b
 have hm:=Yke r1
 have hu:=Xeo b
 have V:=Xuk hb
 rw[<-Q] at U I
 have T:=(hr.mono hf).2
 have i:=Xay f
 rw[show 2*f=f+f by omega,Xm9] at T
 dsimp only at T
 generalize Rat.divInt 1 (2^b)=h at *
 generalize M:Xdq B b=A at *
 have Y:(A-(c+h))*pw f<=1:=by
  by_cases o:(A-(c+h))*pw f<=1
  . exact o
  . have o:1<(A-(c+h))*pw f:=by grind
    have O:0<A-(c+h):=by
     by_cases O:0<A-(c+h)
     . exact O
     . have:=W2t (show A-(c+h)<=0 by grind) (W2m i)
       grind
    have e1:=Xjz (W2m O) (show 0<=2*(c+h) by grind)
    have Z:(A-(c+h))*(A-(c+h))<=B-r1:=by grind
    have e3:=W2t Z (W2m (W4s i i))
    have e4:=Ydu (W2m o) (W2m o) (by decide) (by grind)
    have e5:=W4s (show 0<(A-(c+h))*pw f-1 by grind) (show 0<(A-(c+h))*pw f by grind)
    grind
 refine⟨?_,?_⟩
 . have j:mx0 r1<=B:=by
    have:=hr.1
    unfold mx0
    dsimp only at this
    split
    . exact h0
    . exact this
   have:=Xh0 (b:=b) (Xe6 r1) j
   rw[M,<-Q] at this
   grind
 . have:=W2t (show d-c<=(A-(c+h))+2*h by grind) (W2m i)
   grind
theorem RtOf.mg{r s:Rat×Rat}{b m:Nat}(R:RtOf r b s)(hr:Mg r m)(h0:0<=r.2): 0<=s.1/\s.2<=pw (m+1):=by
 have j:=Xhy (b:=b) h0
 have i:=Xc5 (mx0 r.1) b
 rw[<-R.lo] at i
 refine⟨i,?_⟩
 have o:Xdq r.2 b<=pw m:=by
  refine Xse (W2m (Xay m)) (W5h j (W5h hr.2 ?_))
  have:=W3c (Xgy m) (W2m (Xay m))
  grind
 have A:=R.h
 have B:=Xks b
 have I:=Xgy m
 rw[Xco]
 grind
theorem Xwd(p q:Rat×Rat): (∃v s,(v=p.1\/v=p.2)/\(s=q.1\/s=q.2)/\(Xb6 p q).1=v*s)/\∃v s,(v=p.1\/v=p.2)/\(s=q.1\/s=q.2)/\(Xb6 p q).2=v*s:=by
 constructor
 . show ∃v s,(v=p.1\/v=p.2)/\(s=q.1\/s=q.2)/\lo2 (lo2 (lo2 (p.1*q.1) (p.1*q.2)) (p.2*q.1)) (p.2*q.2)=v*s
   rcases @Xwm (lo2 (lo2 (p.1*q.1) (p.1*q.2)) (p.2*q.1)) (p.2*q.2) with h | h<;>rw[h]
   . rcases @Xwm (lo2 (p.1*q.1) (p.1*q.2)) (p.2*q.1) with h | h<;>rw[h]
     . rcases @Xwm (p.1*q.1) (p.1*q.2) with h | h<;>rw[h]
       . exact⟨_,_,.inl rfl,.inl rfl,rfl⟩
       . exact⟨_,_,.inl rfl,.inr rfl,rfl⟩
     . exact⟨_,_,.inr rfl,.inl rfl,rfl⟩
   . exact⟨_,_,.inr rfl,.inr rfl,rfl⟩
 . show ∃v s,(v=p.1\/v=p.2)/\(s=q.1\/s=q.2)/\hi2 (hi2 (hi2 (p.1*q.1) (p.1*q.2)) (p.2*q.1)) (p.2*q.2)=v*s
   rcases @Xxe (hi2 (hi2 (p.1*q.1) (p.1*q.2)) (p.2*q.1)) (p.2*q.2) with h | h<;>rw[h]
   . rcases @Xxe (hi2 (p.1*q.1) (p.1*q.2)) (p.2*q.1) with h | h<;>rw[h]
     . rcases @Xxe (p.1*q.1) (p.1*q.2) with h | h<;>rw[h]
       . exact⟨_,_,.inl rfl,.inl rfl,rfl⟩
       . exact⟨_,_,.inl rfl,.inr rfl,rfl⟩
     . exact⟨_,_,.inr rfl,.inl rfl,rfl⟩
   . exact⟨_,_,.inr rfl,.inr rfl,rfl⟩
theorem Xqt{u v r s:Rat×Rat}{b h e f m:Nat}(T:Wid u f)(U:Wid v f)(hr:Wid r e)(hf:2*f<=e)(mv:Mg v m)(ms:0<=s.1/\s.2<=pw (m+1))(h0:0<=r.2)(R:RtOf r b s)(hb:f+1<=b)(hb':b<=h)(he:m+3<=f):
 Wid (rnd (Xml u (Xb6 v s)) h) (f-(m+3)):=by
 have hs:=R.wd hr h0 (f:=f) hf hb
 have wu:=T.2
 have wv:=U.2
 have hu1:=T.1
 have hv1:=U.1
 have hs1:=hs.1
 have M:=hs.2
 have o:=Xay f
 have O:=Xay m
 obtain⟨⟨V,s1,A,i,e1⟩,I,s2,j,B,e2⟩:=Xwd v s
 have hle:=(Xgl v s).1
 have hge:=(Xgm v s).1
 have hP:(Xb6 v s).2-(Xb6 v s).1<=pw m*(s.2-s.1)+pw (m+1)*(v.2-v.1):=by
  rw[e1,e2]
  have a1:-pw m<=I/\I<=pw m:=by
   have:=mv.1;have:=mv.2
   rcases j with rfl | rfl<;>exact⟨by grind,by grind⟩
  have Y:-(s.2-s.1)<=s2-s1/\s2-s1<=s.2-s.1:=by
   rcases i with rfl | rfl<;>rcases B with rfl | rfl<;>exact⟨by grind,by grind⟩
  have Z:-pw (m+1)<=s1/\s1<=pw (m+1):=by
   have:=ms.1;have:=ms.2;have:=Xay (m+1)
   rcases i with rfl | rfl<;>exact⟨by grind,by grind⟩
  have a4:-(v.2-v.1)<=I-V/\I-V<=v.2-v.1:=by
   rcases A with rfl | rfl<;>rcases j with rfl | rfl<;>exact⟨by grind,by grind⟩
  have b1:=Xlm a1.1 a1.2 Y.1 Y.2
  have b2:=Xlm Z.1 Z.2 a4.1 a4.2
  grind
 have Q:((Xb6 v s).2-(Xb6 v s).1)*pw f<=pw (m+2):=by
  have c1:=W2t hP (W2m o)
  have c2:=W3c M (W2m O)
  have c3:=W3c wv (W2m (Xay (m+1)))
  rw[Xco,Xco] at *
  grind
 have d1:=Xxw (u.1+(Xb6 v s).1) h
 have d2:=Ycp (u.2+(Xb6 v s).2) h
 have d3:=Xsw (u.1+(Xb6 v s).1) h
 have d4:=Xuj (u.2+(Xb6 v s).2) h
 have hε:=Xuk (b:=h) (f:=f) (by omega)
 have hεp:=Xeo h
 have hεe:=Xdr h
 have d5:u.1+(Xb6 v s).1-Rat.divInt 1 (2^h)<=dnQ (u.1+(Xb6 v s).1) h:=by
  refine W2a ?_ (Xay h)
  grind
 have d6:upQ (u.2+(Xb6 v s).2) h<=u.2+(Xb6 v s).2+Rat.divInt 1 (2^h):=by
  refine W2a ?_ (Xay h)
  grind
 refine⟨?_,?_⟩
 . show dnQ (u.1+(Xb6 v s).1) h<=upQ (u.2+(Xb6 v s).2) h
   grind
 . show (upQ (u.2+(Xb6 v s).2) h-dnQ (u.1+(Xb6 v s).1) h)*pw (f-(m+3))<=1
   refine W2a ?_ (Xay (m+3))
   rw[Rat.mul_assoc,<-Xm9,show f-(m+3)+(m+3)=f by omega,Rat.one_mul]
   have g1:=W2t (show upQ (u.2+(Xb6 v s).2) h-dnQ (u.1+(Xb6 v s).1) h<=(u.2-u.1)+((Xb6 v s).2-(Xb6 v s).1)+2*Rat.divInt 1 (2^h) by grind) (W2m o)
   have g2:=Xgy (m+1)
   rw[Xco (m+1)] at Q
   rw[Xco (m+2),Xco (m+1)]
   grind
theorem Ye2{u v r s:Rat×Rat}{b i e m:Nat}(j:Wid u e)(o:Wid v e)(hr:Wid r e)(mv:Mg v m)(A:Mg r m)(h0:0<=r.2)(R:RtOf r b s)(hb:e/2+1<=b)(h:b<=i)(B:m+3<=e/2):
 Wid (rnd (Xml u (Xb6 v s)) i) (e/2-(m+3)):=Xqt (j.mono (by omega)) (o.mono (by omega)) hr (by omega) mv (R.mg A h0) h0 R hb h B
theorem Xqu{u v s:Rat×Rat}{h m j:Nat}(O:Mg u m)(mv:Mg v m)(ms:0<=s.1/\s.2<=pw (j+1))(V:s.1<=s.2)(Y:v.1<=v.2): Mg (rnd (Xml u (Xb6 v s)) h) (m+j+2):=by
 obtain⟨⟨v1,s1,i,o,Z⟩,v2,s2,A,B,e2⟩:=Xwd v s
 have I:∀x y,(x=v.1\/x=v.2)->(y=s.1\/y=s.2)->-(pw m*pw (j+1))<=x*y/\x*y<=pw m*pw (j+1):=by
  intro x y hx hy
  have a1:-pw m<=x/\x<=pw m:=by
   have:=mv.1;have:=mv.2
   rcases hx with rfl | rfl<;>exact⟨by grind,by grind⟩
  have M:-pw (j+1)<=y/\y<=pw (j+1):=by
   have:=ms.1;have:=ms.2;have:=Xay (j+1)
   rcases hy with rfl | rfl<;>exact⟨by grind,by grind⟩
  have b1:=Xlm a1.1 a1.2 M.1 M.2
  have b2:=Xlm (x:=-x) (show -pw m<=-x by grind) (show -x<=pw m by grind) M.1 M.2
  exact⟨by grind,b1⟩
 have k1:=(I _ _ i o).1
 have k2:=(I _ _ A B).2
 rw[<-Z] at k1
 rw[<-e2] at k2
 have Q:=Xdr h
 have T:=Xks h
 have d1:=Xxw (u.1+(Xb6 v s).1) h
 have d2:=Ycp (u.2+(Xb6 v s).2) h
 have d5:u.1+(Xb6 v s).1-Rat.divInt 1 (2^h)<=dnQ (u.1+(Xb6 v s).1) h:=by
  refine W2a ?_ (Xay h)
  grind
 have d6:upQ (u.2+(Xb6 v s).2) h<=u.2+(Xb6 v s).2+Rat.divInt 1 (2^h):=by
  refine W2a ?_ (Xay h)
  grind
 have U:pw (m+j+2)=2*(pw m*pw (j+1)):=by rw[<-Xm9,<-Xco];congr 1
 have e4:pw m+1<=pw m*pw (j+1):=by
  have h1:=Xgy m
  have h3:=Xgy j
  have h2:=W3c (show 2<=pw (j+1) by rw[Xco];grind) (W2m (Xay m))
  grind
 have m1:=O.1
 have m2:=O.2
 refine⟨?_,?_⟩
 . show -pw (m+j+2)<=dnQ (u.1+(Xb6 v s).1) h
   rw[U];grind
 . show upQ (u.2+(Xb6 v s).2) h<=pw (m+j+2)
   rw[U];grind
theorem Ye4{u v r s:Rat×Rat}{b j m:Nat}(o:Mg u m)(mv:Mg v m)(A:Mg r m)(h0:0<=r.2)(h:s.1<=s.2)(i:v.1<=v.2)(R:RtOf r b s): Mg (rnd (Xml u (Xb6 v s)) j) (2*m+2):=by
 rw[show 2*m+2=m+m+2 by omega];exact Xqu o mv (R.mg A h0) h i
def mW(m:Nat): Nat->Nat
 | 0=>m
 | k+1=>2*mW m k+2
def eW(m b:Nat): Nat->Nat
 | 0=>2*b-2
 | k+1=>eW m b k/2-(mW m k+3)
theorem Yln(m b:Nat): ∀k,eW m b k<=2*b-2
 | 0=>W0c _
 | k+1=>by have:=Yln m b k;show eW m b k/2-(mW m k+3)<=_;omega
theorem Ygc{m:Nat}{x:Rat}(h:Qs m x): Mg (x,x) m:=by
 have i:=h.n
 unfold Zs at i
 have e:=Xll x
 have hd:(1:Rat)<=(x.den:Rat):=by
  have:((1:Int):Rat)<=((x.den:Int):Rat):=W3h.2 (by have:=x.den_pos;omega)
  exact this
 have A:((x.num:Int):Rat) <= pw m := W3h.2 (by have:(x.num.natAbs:Int) < ((2^m:Nat):Int) := by exact_mod_cast i
                                               have j:((2^m:Nat):Int)=2^m:=by simp
                                               omega)
 have B:-pw m<=((x.num:Int):Rat):=by
  have o:((-(2^m):Int):Rat) <= ((x.num:Int):Rat) := W3h.2 (by have:(x.num.natAbs:Int) < ((2^m:Nat):Int) := by exact_mod_cast i
                                                              have j:((2^m:Nat):Int)=2^m:=by simp
                                                              omega)
  rwa[W7z] at o
 have hp:=Xay m
 refine⟨?_,?_⟩
 . show -pw m<=x
   by_cases h0:0<=x
   . grind
   . have:=Xjz (show 0<=-x by grind) (show 0<=(x.den:Rat)-1 by grind)
     grind
 . show x<=pw m
   by_cases h0:0<=x
   . have:=Xjz h0 (show 0<=(x.den:Rat)-1 by grind)
     grind
   . grind
def MgL(m:Nat)(l:List Rat): Prop:=∀x∈l,Qs m x
def MgT(m:Nat): (k:Nat)->Tw k->Prop
 | 0,_=>True
 | k+1,t=>MgT m k t.1/\MgL m (toL k t.2)
theorem Yc5(r:Rat×Rat)(b:Nat): RtOf r b (rts r b):=⟨rfl,by have:=Xeo b;show _<=Xdq r.2 b+_;grind,W6v⟩
theorem Xxs{k:Nat}{t:Tw k}(h:Xbm k t)(a:El k)(b:Nat): (enc k t a b).1<=(enc k t a b).2:=Ydy h (Xf5 h a b)
theorem Xka: ∀ {k:Nat} {t:Tw k} {a:El k} {m:Nat} (b:Nat),Xbm k t->MgT m k t->MgL m (toL k a)->Mg (enc k t a b) (mW m k)
 | 0,t,a,m,b,h,i,ha=>Ygc (ha _ (W0f.2 rfl))
 | k+1,t,a,m,b,h,i,ha=>by
  have o:=Xka (a:=a.1) b h.1 i.1 λx j=>ha x (W2l _ j)
  have A:=Xka (a:=a.2) b h.1 i.1 λx j=>ha x (W1r _ j)
  have B:=Xka b h.1 i.1 i.2
  have h0:0<=(enc k t.1 t.2 b).2:=by
   have h0:le k t.1 (rat k 0) t.2:=(Xii h.1).2 (by rw[h.2];decide)
   exact(Xa1 h.1).1 (le_tr h.1 h0 (Xf5 h.1 t.2 b).2)
  show Mg (if (∀x∈toL k a.2,x=0) then enc k t.1 a.1 b else rnd (Xml (enc k t.1 a.1 b) (Xb6 (enc k t.1 a.2 b) (rts (enc k t.1 t.2 b) b))) b) (2*mW m k+2)
  split
  . exact o.mono (by omega)
  . refine Ye4 o A B h0 ?_ (Xxs h.1 _ _) (Yc5 _ b)
    have I:=Xxs h.1 t.2 b
    have M:mx0 (enc k t.1 t.2 b).1<=(enc k t.1 t.2 b).2:=by unfold mx0;split<;>assumption
    have:=Xh0 (b:=b) (Xe6 _) M
    have:=Xeo b
    show Xdq (mx0 (enc k t.1 t.2 b).1) b<=Xdq (enc k t.1 t.2 b).2 b+Rat.divInt 1 (2^b)
    grind
theorem Xss: ∀ {k:Nat} {t:Tw k} {a:El k} {m b:Nat},Xbm k t->MgT m k t->MgL m (toL k a)->0<eW m b k->Wid (enc k t a b) (eW m b k)
 | 0,t,a,m,b,h,i,ha,o=>⟨W6v,(λ(x:Rat)=>(by grind:(x-x)*pw (eW m b 0)<=1)) a⟩
 | k+1,t,a,m,b,h,i,ha,o=>by
  have B:0<eW m b k/2-(mW m k+3):=o
  have I:=Yln m b k
  have A:=Xss (a:=a.1) (m:=m) (b:=b) h.1 i.1 (λx j=>ha x (W2l _ j)) (by omega)
  have M:=Xss (a:=a.2) (m:=m) (b:=b) h.1 i.1 (λx j=>ha x (W1r _ j)) (by omega)
  have O:=Xss (m:=m) (b:=b) h.1 i.1 i.2 (by omega)
  have mv:=Xka (a:=a.2) b h.1 i.1 λx j=>ha x (W1r _ j)
  have Q:=Xka b h.1 i.1 i.2
  have h0:0<=(enc k t.1 t.2 b).2:=by
   have h0:le k t.1 (rat k 0) t.2:=(Xii h.1).2 (by rw[h.2];decide)
   exact(Xa1 h.1).1 (le_tr h.1 h0 (Xf5 h.1 t.2 b).2)
  show Wid (if (∀x∈toL k a.2,x=0) then enc k t.1 a.1 b else rnd (Xml (enc k t.1 a.1 b) (Xb6 (enc k t.1 a.2 b) (rts (enc k t.1 t.2 b) b))) b) (eW m b k/2-(mW m k+3))
  split
  . exact A.mono (by omega)
  . exact Ye2 A M O mv Q h0 (Yc5 _ b) (by omega) (W0c _) (by omega)
end
section
theorem Xpv{s b i:Nat}(h:b<=i): ∀k,eB s b k<=eB s i k
 | 0=>W0c _
 | k+1=>by have:=Xpv (s:=s) h k;show 3*eB s b k+4*b+6<=3*eB s i k+4*i+6;omega
theorem Ynv{x y:Rat}{b:Nat}: Xn5 (y-x) (Rat.divInt 1 (2^b))<=0↔(y-x)*pw b<=1:=by
 rw[Xpy]
 have h:=Xdr b
 constructor
 . intro i
   have:=W2t (show y-x<=Rat.divInt 1 (2^b) by grind) (W2m (Xay b))
   rwa[h] at this
 . intro i j
   have:=W4s (show 0<y-x-Rat.divInt 1 (2^b) by grind) (Xay b)
   grind
def Xbp(k:Nat)(t:Tw k)(a:El k)(z:Int): Prop:=le k t (rat k (z:Rat)) a/\sgn k t (add k a (neg k (rat k ((z+1:Int):Rat))))=-1
theorem Xsa{k:Nat}{t:Tw k}(h:Xbm k t){a b:El k}: sgn k t (add k a (neg k b))=-1↔¬le k t b a:=by
 unfold le
 have:=(Xau h).tri (add k a (neg k b))
 omega
theorem Xbp.uniq{k:Nat}{t:Tw k}{a:El k}{z o:Int}(h:Xbm k t)(i:Xbp k t a z)(j:Xbp k t a o): z=o:=by
 have A:∀z o,Xbp k t a z->Xbp k t a o->z<=o:=by
  intro z o i j
  by_cases B:z<=o
  . exact B
  . exact absurd (le_tr h ((Xa1 h).2 (W3h.2 (show o+1<=z by omega))) i.1) ((Xsa h).1 j.2)
 have:=A _ _ i j
 have:=A _ _ j i
 omega
theorem Xsl{k:Nat}{t:Tw k}{a:El k}{x y:Rat}(h:Xbm k t)(i:inI k t a x y)(A:Wid (x,y) 1): (sgn k t (add k a (neg k (rat k (y.floor:Rat))))<0->Xbp k t a (y.floor-1))/\(¬sgn k t (add k a (neg k (rat k (y.floor:Rat))))<0->Xbp k t a y.floor):=by
 have M:=@W8d y
 have O:=@Rat.lt_floor y
 have Q:(y-x)*2<=1:=A.2
 have o:((1:Int):Rat)=1:=rfl
 have j:sgn k t (add k a (neg k (rat k ((y.floor+1:Int):Rat))))=-1:=by
  rw[Xsa h]
  intro B
  have:=(Xa1 h).1 (le_tr h B i.2)
  rw[W4a,o] at this
  grind
 refine⟨λI=>⟨le_tr h ((Xa1 h).2 ?_) i.1,?_⟩,λI=>⟨?_,j⟩⟩
 . rw[Rat.intCast_sub,o]
   grind
 . rw[show y.floor-1+1=y.floor by omega]
   have:=(Xau h).tri (add k a (neg k (rat k (y.floor:Rat))))
   omega
 . show 0<=_
   omega
noncomputable def rtb(p:Rat×Rat)(b:Nat): Rat×Rat:=(Xdq (mx0 p.1) b,Xon p.2 b)
noncomputable def bx: (k:Nat)->Tw k->El k->Nat->Rat×Rat
 | 0=>λ_ (x:Rat) _=>(x,x)
 | k+1=>λt a b=>rnd (Xml (bx k t.1 a.1 b) (Xb6 (bx k t.1 a.2 b) (rtb (bx k t.1 t.2 b) b))) (b+20)
theorem Xov(x:Rat)(b:Nat): Xon x b*pw b=((Xth (sq2 x b):Int):Rat):=by
 unfold Xon
 rw[W3j]
 have h:=Xay b
 show ((Xth (sq2 x b):Int):Rat)/pw b*pw b=_
 rw[W5r (by grind)]
theorem Xu2(x:Rat): (Xth x=rtF x/\x<=((rtF x:Int):Rat)*((rtF x:Int):Rat))\/Xth x=rtF x+1:=by
 unfold Xth
 split
 . exact .inr rfl
 . rename_i h
   rw[W3z] at h
   exact .inl ⟨rfl,by grind⟩
theorem Xmt(x:Rat): ((rtF x:Int):Rat)<=((Xth x:Int):Rat)/\((Xth x:Int):Rat)<=((rtF x:Int):Rat)+1/\(0<=x->x<=((Xth x:Int):Rat)*((Xth x:Int):Rat)):=by
 have i:((1:Int):Rat)=1:=rfl
 rcases Xu2 x with ⟨h,j⟩ | h
 . rw[h];exact⟨W6v,by grind,λ_=>j⟩
 . have e:((Xth x:Int):Rat)=((rtF x:Int):Rat)+1:=by
    rw[h,<-i,<-W4a];congr 1
   rw[e]
   exact⟨by grind,W6v,λh0=>W2m (Xvj h0)⟩
theorem Xrd(r:Rat×Rat)(b:Nat): RtOf r b (rtb r b):=by
 have h:=Xmt (sq2 r.2 b)
 have hp:=Xay b
 refine⟨rfl,?_,?_⟩
 . refine W2a ?_ hp
   rw[Xe9]
   show _<=Xon r.2 b*pw b
   rw[Xov];exact h.1
 . refine W2a ?_ hp
   show Xon r.2 b*pw b<=_
   have e:=Xe9 r.2 b
   have i:=Xdr b
   have j:=Xov r.2 b
   have o:=h.2.1
   grind
theorem Xzv{x:Rat}{b:Nat}(h:0<=x): x<=Xon x b*Xon x b:=by
 have hp:=Xay b
 have i:=W4s hp hp
 refine W2a ?_ i
 have j:=(Xmt (sq2 x b)).2.2 (Xea h)
 rw[<-Xov] at j
 have o:sq2 x b=x*(pw b*pw b):=rfl
 rw[<-o]
 have A:Xon x b*Xon x b*(pw b*pw b)=Xon x b*pw b*(Xon x b*pw b):=by grind
 rw[A];exact j
theorem Ye6{s:Nat}{x:Rat}(h:Qs s x)(h0:0<=x)(b:Nat): Qs (s+(2*b+3)) (Xon x b):=by
 refine Qs.divInt ?_ (Zs.two (by omega)) (Xdj b)
 have i:=Xm2 (Xmu (b:=b) h) (Xea h0)
 rcases Xu2 (sq2 x b) with ⟨e,_⟩ | e<;>rw[e]
 . exact i.mono (by omega)
 . exact(i.add (Zs.one (p:=1) (by decide))).mono (by omega)
theorem Yoo{x:Rat}{b:Nat}: Xdq (mx0 x) b*Xdq (mx0 x) b<=x\/Xdq (mx0 x) b=0:=by
 have h:=Xhy (b:=b) (Xe6 x)
 by_cases h0:x<0
 . right
   have e:mx0 x=0:=if_pos h0
   rw[e] at h |-
   have j:=Xc5 0 b
   by_cases i:Xdq 0 b=0
   . exact i
   . have:=W4s (show 0<Xdq 0 b by grind) (show 0<Xdq 0 b by grind)
     grind
 . left
   have e:mx0 x=x:=if_neg h0
   rw[e] at h |-
   exact h
theorem Xh4{k:Nat}{t:Tw (k+1)}(h:Xbm (k+1) t){x y:Rat}(i:inI k t.1 t.2 x y): 0<=y:=by
 have h0:le k t.1 (rat k 0) t.2:=(Xii h.1).2 (by rw[h.2];decide)
 exact(Xa1 h.1).1 (le_tr h.1 h0 i.2)
theorem Ye5{k:Nat}{t:Tw (k+1)}(h:Xbm (k+1) t){a:El (k+1)}{u v r s:Rat×Rat}{b o:Nat}(i:inI k t.1 a.1 u.1 u.2)(j:inI k t.1 a.2 v.1 v.2)(A:inI k t.1 t.2 r.1 r.2)(R:RtOf r b s)(hs:r.2<=s.2*s.2):
 inI (k+1) t a (rnd (Xml u (Xb6 v s)) o).1 (rnd (Xml u (Xb6 v s)) o).2:=by
 have i:=Xno (t:=t) h.1 i
 have j:=Xno (t:=t) h.1 j
 have I:=Xh4 h A
 have h0:0<=s.1:=by rw[R.lo];exact Xc5 _ _
 have M:0<=s.2:=W5h (Xc5 _ _) R.l
 have O:=Xw3 h A (c:=s.1) (d:=s.2) h0 M (by rw[R.lo];exact Yoo) hs
 have im:=Xw4 h j O h0 (Xgl v s).1 (Xgl v s).2.1 (Xgm v s).2.2.1 (Xgm v s).2.2.2
 have B:=Xw5 h i im
 rw[<-Xsu a] at B
 exact Xlu h B (Xsw _ _) (Xuj _ _)
theorem Xjc{k:Nat}{t:Tw (k+1)}{a:El (k+1)}{b:Nat}: bx (k+1) t a b=rnd (Xml (bx k t.1 a.1 b) (Xb6 (bx k t.1 a.2 b) (rtb (bx k t.1 t.2 b) b))) (b+20):=rfl
theorem Xjd: ∀ {k:Nat} {t:Tw k} (h:Xbm k t) (a:El k) (b:Nat),inI k t a (bx k t a b).1 (bx k t a b).2
 | 0,t,h,a,b=>⟨(Xau h).le_rf (Xba 0 t) a,(Xau h).le_rf (Xba 0 t) a⟩
 | k+1,t,h,a,b=>by
  have j:=Xjd h.1 a.1 b
  have o:=Xjd h.1 a.2 b
  have i:=Xjd h.1 t.2 b
  have hs:(bx k t.1 t.2 b).2<=(rtb (bx k t.1 t.2 b) b).2*(rtb (bx k t.1 t.2 b) b).2:=Xzv (Xh4 h i)
  have R:=Xrd (bx k t.1 t.2 b) b
  rw[Xjc]
  generalize rtb (bx k t.1 t.2 b) b=s at *
  exact Ye5 h j o i R hs
theorem Yhi{k:Nat}{t:Tw k}(h:Xbm k t)(a:El k)(b:Nat): (bx k t a b).1<=(bx k t a b).2:=Ydy h (Xjd h a b)
theorem Yjj{r:Rat×Rat}{b:Nat}(h0:0<=r.2)(h:r.1<=r.2): (rtb r b).1<=(rtb r b).2:=by
 have i:mx0 r.1<=r.2:=by unfold mx0;split<;>assumption
 exact W5h (Xh0 (b:=b) (Xe6 _) i) (Xrd r b).l
def bB(s b:Nat): Nat->Nat
 | 0=>s
 | k+1=>3*bB s b k+3*b+30
theorem Yb4(s b:Nat): ∀k,s<=bB s b k
 | 0=>W0c _
 | k+1=>by have:=Yb4 s b k;show s<=3*bB s b k+3*b+30;omega
theorem Yc6{s b:Nat}{p:Rat×Rat}(h:Q2 s p)(h0:0<=p.2)(hs:1<=s): Q2 (s+2*b+3) (rtb p b) :=
 ⟨(Xhz (Xr7 h.1 hs) (Xe6 _) b).mono (by omega),(Ye6 h.2 h0 b).mono (by omega)⟩
theorem Xp0: ∀ {k:Nat} {t:Tw k} {a:El k} {s b:Nat},Xbm k t->TS s k t->Sz s (toL k a)->1<=s->Q2 (bB s b k) (bx k t a b)
 | 0,t,a,s,b,h,i,ha,hs=>⟨ha.qs (W0f.2 rfl),ha.qs (W0f.2 rfl)⟩
 | k+1,t,a,s,b,h,i,ha,hs=>by
  have j:=Xp0 (b:=b) h.1 i.1 (Sz.left (l:=toL k a.1) (m:=toL k a.2) ha) hs
  have o:=Xp0 (b:=b) h.1 i.1 (Sz.right (l:=toL k a.1) (m:=toL k a.2) ha) hs
  have A:=Xp0 (b:=b) h.1 i.1 i.2 hs
  have B:=Yb4 s b k
  rw[Xjc]
  exact(Yda (Xmf j (Xln o (Yc6 A (Xh4 h (Xjd h.1 t.2 b)) (by omega)))) (b+20)).mono (by show _<=3*bB s b k+3*b+30;omega)
theorem Xr8(p q:Rat×Rat): (Xb6 p q).1<=(Xb6 p q).2:=W5h (Xgl p q).1 (Xgm p q).1
theorem Xp3{s b i:Nat}(h:b<=i): ∀k,bB s b k<=bB s i k
 | 0=>W0c _
 | k+1=>by have:=Xp3 (s:=s) h k;show 3*bB s b k+3*b+30<=3*bB s i k+3*i+30;omega
theorem Ya3{k:Nat}{t:Tw k}{a:El k}{x y:Rat}(h:Xbm k t)(i:inI k t a x y)(o:Wid (x,y) 1): (0<=sgn k t (add k a (neg k (rat k ((x.floor+1:Int):Rat))))->Xbp k t a (x.floor+1))/\(¬0<=sgn k t (add k a (neg k (rat k ((x.floor+1:Int):Rat))))->Xbp k t a x.floor):=by
 have I:=@W8d x
 have M:=@Rat.lt_floor x
 have O:(y-x)*2<=1:=o.2
 have A:((1:Int):Rat)=1:=rfl
 refine⟨λj=>⟨j,?_⟩,λj=>⟨le_tr h ((Xa1 h).2 (W8d x)) i.1,?_⟩⟩
 . rw[Xsa h]
   intro B
   have:=(Xa1 h).1 (le_tr h B i.2)
   rw[W4a,W4a,A] at this
   grind
 . have:=(Xau h).tri (add k a (neg k (rat k ((x.floor+1:Int):Rat))))
   omega
end
section
abbrev dI(p:Rat×Rat): D:=.st (.pr (dq p.1) (dq p.2))
theorem Xzd{a b h i:D}{g:Hp}{K:Hpl}(j:a=h)(o:b=i): Fit g K (.d (.st (.pr a b))) (.d (.st (.pr h i))):=.eq (by rw[j,o])
abbrev zq: AV:=.st (.pr (.st (.pr (.b false) .nil)) (.st (.pr (.b false) .nil)))
abbrev zI: AV:=.st (.pr zq zq)
theorem Xxd{x:Rat}{r:List Rat}{s:Nat}(T:∀y∈x::r,Qs s y)(hs:s+3<=4398046511104)(hn:r.length<=1000): C0 451 [.d (dqs (x::r))] (·=.d (dI (Xop x r,Xoq x r))):=by
 refine En Tryz.func451 λ_ _ _=>?_
 refine Dz rfl ?_
 refine Ix 0 rfl (u:=dq x) rfl<|Ix 0 rfl (u:=dq x) rfl<|Dp 1 (r.map dq) rfl rfl (by simp) rfl ?_
 refine Lo (λ(q:Nat×Rat×Rat)=>[(2,.ptr 2 0),(3,.ptr 3 0),(4,.ptr 4 0),(15,.d (dqs r)),(16,.d (.int .i64 (r.map dq).length)),(17,.d (.int .i64 q.1))]) (λq=>[(2,.var zI),(3,.var (.d (dq q.2.1))),(4,.var (.d (dq q.2.2)))]) (λq=>q.1<=r.length/\q.2.1=Xop x (r.take q.1)/\q.2.2=Xoq x (r.take q.1)) (λq=>r.length-q.1) (0,x,x) [] rfl ⟨W0s _,rfl,rfl⟩ (λ(k,lo,hi) ⟨Y,i,j⟩=>?_)
 simp only at Y i j
 have O:Qs s lo:=i ▸ Xpg (Xk7 T k)
 have A:Qs s hi:=j ▸ Xph (Xk7 T k)
 refine By rfl (λh=>?_) λh=>?_
 . have h:(k:Int)<((r.map dq).length:Nat):=h
   rw[lq] at h
   obtain⟨y,U⟩:=qat (l:=r) (k:=k) (by omega)
   have V:Qs s y:=T y (W1b _ (W0e U))
   have e:r.take (k+1)=r.take k++[y]:=by rw[W1c,U];rfl
   have Z:Xop x (r.take (k+1))=lo2 lo y:=by rw[e,Xng,i]
   have e2:Xoq x (r.take (k+1))=hi2 hi y:=by rw[e,Xnh,j]
   have o:∀B I,B=lo2 lo y->I=hi2 hi y->k+1<=r.length/\B=Xop x (r.take (k+1))/\I=Xoq x (r.take (k+1)):=λB I a b=>⟨by omega,by rw[a,Z],by rw[b,e2]⟩
   refine Ix k rfl (mp U)<|Ce rfl (Xib V O (by omega))<|By rfl (λQ=>?_) λQ=>?_
   . refine Ce rfl (Xib V A (by omega))<|By rfl (λM=>?_) λM=>?_
     . refine Ar (k+1:Nat) rfl ?_ (wr (show (k:Int)+1=((k+1:Nat):Int) by omega) (by simp only[inK];omega))
       exact Bk (k+1,y,y) [] rfl (o y y (if_pos (Xyb.1 Q)).symm (if_pos (Yhd.1 M)).symm) (by show r.length-(k+1)<r.length-k;omega)
     . refine Ar (k+1:Nat) rfl ?_ (wr (show (k:Int)+1=((k+1:Nat):Int) by omega) (by simp only[inK];omega))
       exact Bk (k+1,y,hi) [] rfl (o y hi (if_pos (Xyb.1 Q)).symm (if_neg λh=>M (Yhd.2 h)).symm) (by show r.length-(k+1)<r.length-k;omega)
   . refine Ce rfl (Xib V A (by omega))<|By rfl (λM=>?_) λM=>?_
     . refine Ar (k+1:Nat) rfl ?_ (wr (show (k:Int)+1=((k+1:Nat):Int) by omega) (by simp only[inK];omega))
       exact Bk (k+1,lo,y) [] rfl (o lo y (if_neg λh=>Q (Xyb.2 h)).symm (if_pos (Yhd.1 M)).symm) (by show r.length-(k+1)<r.length-k;omega)
     . refine Ar (k+1:Nat) rfl ?_ (wr (show (k:Int)+1=((k+1:Nat):Int) by omega) (by simp only[inK];omega))
       exact Bk (k+1,lo,hi) [] rfl (o lo hi (if_neg λh=>Q (Xyb.2 h)).symm (if_neg λh=>M (Yhd.2 h)).symm) (by show r.length-(k+1)<r.length-k;omega)
 . have h:¬(k:Int)<((r.map dq).length:Nat):=h
   rw[lq] at h
   rw[W0b (by omega)] at i j
   exact Ce rfl (Xa4 (z:=0) (by decide))<|Dw rfl<|Ce rfl (Xdw (y:=0) O qs0 (by omega))<|Ce rfl (Xdw (y:=0) A qs0 (by omega))<|R1 rfl (Xzd (by rw[W7g,i]) (by rw[W7g,j]))
section
variable{p q:Rat×Rat}{s t:Nat}
theorem Xxb{x:Rat}(i:Qs s x)(hs:s+3<=4398046511104): C0 427 [.d (dq x)] (·=.d (dI (x,x))):=by
 have j:Xop x [x]=x:=by show lo2 x x=x;unfold lo2;split<;>rfl
 have o:Xoq x [x]=x:=by show hi2 x x=x;unfold hi2;split<;>rfl
 have:=Xxd (x:=x) (r:=[x]) (s:=s) (λy h=>by simp at h;rw[h];exact i) hs (by simp)
 rw[j,o] at this
 refine En Tryz.func427 λ_ _ _=>?_
 exact Ce rfl this<|R1 rfl (.rf rfl)
theorem Xw8(hp:Q2 s p)(hs:2*s+1<=4398046511104): C0 375 [.d (dI p)] (·=.d (dq (p.2-p.1))):=by
 refine En Tryz.func375 λ_ _ _=>?_
 exact Ce rfl (Xvt hp.2 hp.1 (by omega))<|R1 rfl (.rf rfl)
theorem Ygo(hp:Q2 s p)(hq:Q2 t q)(hs:s+t+1<=4398046511104): C0 429 [.d (dI p),.d (dI q)] (·=.d (dI (Xml p q))):=by
 refine En Tryz.func429 λ_ _ _=>?_
 exact Dw rfl<|Ce rfl (Xdw hp.1 hq.1 (by omega))<|Ce rfl (Xdw hp.2 hq.2 (by omega))<|R1 rfl (Xzd rfl rfl)
theorem Ygn(hp:Q2 s p)(hq:Q2 t q)(hs:s+t+3<=4398046511104): C0 430 [.d (dI p),.d (dI q)] (·=.d (dI (Xb6 p q))):=by
 have i:=Xxd (x:=p.1*q.1) (r:=[p.1*q.2,p.2*q.1,p.2*q.2]) (s:=s+t) (λy h=>by
  simp only[W1h,W6d,or_false] at h
  rcases h with rfl | rfl | rfl | rfl
  . exact hp.1.mul hq.1
  . exact hp.1.mul hq.2
  . exact hp.2.mul hq.1
  . exact hp.2.mul hq.2) hs (by simp)
 refine En Tryz.func430 λ_ _ _=>?_
 exact Dw rfl<|Ce rfl (Xia hp.1 hq.1 (by omega))<|Ce rfl (Xia hp.1 hq.2 (by omega))<|Ce rfl (Xia hp.2 hq.1 (by omega))<|Ce rfl (Xia hp.2 hq.2 (by omega))<|Ce rfl i<|R1 rfl (.rf rfl)
end
theorem Yo4{n m r:Nat}(hr:n/m=r)(h:0<m)(i:n<9223372036854775808): arB .quo .i64 n m r:=show _/\_ from⟨by omega,by
 rw[show Int.tdiv (n:Int) (m:Int)=((n/m:Nat):Int) from rfl,hr]
 have:=W4j n m
 exact wI (by omega)⟩
theorem Xdl{n:Nat}(h:n<=8796093022200): C0 373 [.d (.int .i64 n)] (·=.d (dz (2^n:Int))):=by
 have e:(2^n:Int)=((2^n:Nat):Int):=by simp
 refine En Tryz.func373 λ_ _ _=>?_
 refine Ar (n/32:Nat) rfl ?_ (Yo4 (m:=32) rfl (by decide) (by omega))
 refine Ar (n/32+1:Nat) rfl ?_
 refine Mk (n/32+1) rfl (by omega) ?_
 refine Ar (n/32:Nat) rfl ?_ (Yo4 (m:=32) rfl (by decide) (by omega))
 refine Ar (n%32:Nat) rfl ?_ (show _/\_ from⟨by decide,Xuo n 32⟩)
 refine Ar (2^(n%32):Nat) rfl ?_ (Xha (W2b _ (by decide)))
 refine Eo (n/32) rfl (by omega)<|Sto rfl (by simp) rfl ?_
 refine R1 rfl (.sd (.pd (.bd (by rw[e];exact(decide_eq_false (by have:=W5x (n:=2) (m:=n) (by decide);omega)).symm)) (.own rfl (by simp) ?_)))
 rw[e,W1m,Xpw,W0y,W0b (by simp),<-ms,W2i]
 rfl
theorem Xbz(x:Rat): (x.den:Int)≠0:=by have:=x.den_nz;omega
section
variable{x:Rat}{s b:Nat}
theorem Xi1(h:Qs s x)(hb:b<=1099511627776)(hs:s<=1099511627776): C0 452 [.d (dq x),.d (.int .i64 b)] (·=.d (dq (dnQ x b))):=by
 have hp:=h.mul (Xg5 b)
 have i:Zs (b+1) (2^b:Int):=Zs.two (W0c _)
 have j:=(h.n.mul i).len (by omega)
 have l1:=h.n.len (by omega)
 have A:=i.len (by omega)
 have B:=h.d.len (by omega)
 have o:=Make_ok (p:=s+b+1) (a:=(x*pw b).floor) (b:=2^b) ((Zs.floor hp).mono (by omega)) (i.mono (by omega)) (by omega) (Xdj b)
 have hd:=DivMod_ok (a:=x.num*2^b) (b:=x.den) (by omega) (by omega) (Xbz x)
 rw[Xl4] at hd
 refine En Tryz.func452 λ_ _ _=>?_
 refine Ce rfl (Xdl (n:=b) (by omega))<|Dz rfl ?_
 exact Ce rfl (Mul_ok (by omega) (by omega))<|Ce rfl hd<|Ce rfl o<|R1 rfl (.rf rfl)
theorem Yep(h:Qs s x)(hb:b<=1099511627776)(hs:s<=1099511627776): C0 453 [.d (dq x),.d (.int .i64 b)] (·=.d (dq (upQ x b))):=by
 refine En Tryz.func453 λ_ _ _=>?_
 exact Ce rfl (Xk8 h (by omega))<|Ce rfl (Xi1 h.neg hb hs)<|Ce rfl (Xk8 (Xsv h.neg b) (by omega))<|R1 rfl (.rf rfl)
theorem Xz2{p:Rat×Rat}(hp:Q2 s p)(hb:b<=1099511627776)(hs:s<=1099511627776): C0 428 [.d (dI p),.d (.int .i64 b)] (·=.d (dI (rnd p b))):=by
 refine En Tryz.func428 λ_ _ _=>?_
 exact Dw rfl<|Ce rfl (Xi1 hp.1 hb hs)<|Ce rfl (Yep hp.2 hb hs)<|R1 rfl (Xzd rfl rfl)
theorem Xc0(i:Qs s x)(h:0<=x)(hb:b<=1099511627776)(hs:s<=1099511627776): C0 454 [.d (dq x),.d (.int .i64 b)] (·=.d (dq (Xdq x b))):=by
 have j:Zs (2*b+1) (2^(2*b):Int):=Zs.two (W0c _)
 have B:=(i.n.mul j).len (by omega)
 have o:=Xmu (b:=b) i
 have nx:=Xea (b:=b) h
 have I:=Xm2 o nx
 have A:=Zs.floor o
 rw[Xb4 nx] at A
 have M:=Xlo (show (sq2 x b).floor.toNat<_ from A)
 have l1:=i.n.len (by omega)
 have O:=j.len (by omega)
 have Q:=i.d.len (by omega)
 have hd:=DivMod_ok (a:=x.num*2^(2*b)) (b:=x.den) (by omega) (by omega) (Xbz x)
 rw[Xzu b h] at hd
 refine En Tryz.func454 λ_ _ _=>?_
 refine Dz rfl ?_
 refine Ar (2*b:Nat) rfl ?_
 refine Ce rfl (Xdl (n:=2*b) (by omega))<|Ce rfl (Mul_ok (by omega) (by omega))<|Ce rfl hd<|Ce rfl (Sqrt_ok (a:=(sq2 x b).floor.toNat) (by omega))<|Dz rfl ?_
 exact Ce rfl (Xdl (n:=b) (by omega))<|Ce rfl (Make_ok (p:=s+(2*b+2)) (a:=(rtF (sq2 x b):Int)) (b:=2^b) I (Zs.two (by omega)) (by omega) (Xdj b))<|R1 rfl (.rf rfl)
theorem Xz4{p:Rat×Rat}(hp:Q2 s p)(i:0<=p.2)(hb:b<=1099511627776)(o:1<=s)(hs:s<=1099511627776): C0 431 [.d (dI p),.d (.int .i64 b)] (·=.d (dI (rts p b))):=by
 have A:=Xr7 hp.1 o
 have j:=Make_ok (p:=b+1) (a:=1) (b:=2^b) (Zs.one (by omega)) (Zs.two (W0c _)) (by omega) (Xdj b)
 refine En Tryz.func431 λ_ _ _=>?_
 refine Ce rfl (Xft hp.1 (by omega))<|By rfl (λh=>?_) λh=>?_
 . have e:mx0 p.1=0:=if_pos (Ylv.1 h)
   rw[e] at A
   exact Ce rfl (Xa4 (z:=0) (by decide))<|Ce rfl (FromInt_ok (z:=1) (by decide))<|Ce rfl (Xdl (n:=b) (by omega))<|Ce rfl j<|Dw rfl<|Ce rfl (Xc0 (x:=0) A W6v hb hs)<|Ce rfl (Xc0 hp.2 i hb hs)<|Ce rfl (Xdw (Xhz hp.2 i b) (Xkr b) (by omega))<|R1 rfl (Xzd (by show dq _=dq (Xdq (mx0 p.1) b);rw[e]) rfl)
 . have e:mx0 p.1=p.1:=if_neg (λe=>h (Ylv.2 e))
   exact Ce rfl (FromInt_ok (z:=1) (by decide))<|Ce rfl (Xdl (n:=b) (by omega))<|Ce rfl j<|Dw rfl<|Ce rfl (Xc0 hp.1 (by rw[<-e];exact Xe6 _) hb hs)<|Ce rfl (Xc0 hp.2 i hb hs)<|Ce rfl (Xdw (Xhz hp.2 i b) (Xkr b) (by omega))<|R1 rfl (Xzd (by show dq _=dq (Xdq (mx0 p.1) b);rw[e]) rfl)
end
theorem Xtu{k:Nat}: ∀ {s b:Nat} {t:Tw k} {a:Tow.El k},Xbm k t->TS s k t->Sz s (toL k a)->1<=s->k<=16->eB s b k<=274877906944->b<=274877906944->C0 374 [.d (dt t),.d (de a),.d (.int .i64 b)] (·=.d (dI (enc k t a b))):=by
 induction k with
 | zero =>
  intro s b t a o j ha i T hs hb
  have hs:s<=274877906944:=hs
  have M:∀y:Rat,Qs s y->C0 374 [.d (dts []),.d (dqs [y]),.d (.int .i64 b)] (·=.d (dI (y,y))):=λy A=>by
   refine En Tryz.func374 λ_ _ _=>?_
   exact Yes rfl rfl<|Ix 0 rfl (u:=dq y) rfl<|Ce rfl (Xxb A (by omega))<|R1 rfl (.rf rfl)
  exact M a (ha.qs (W0f.2 rfl))
 | succ k O =>
  intro s b t a o j ha i T hs hb
  have U:Sz s (toL k a.1):=Sz.left ha
  have A:Sz s (toL k a.2):=Sz.right ha
  have hge:=Ybg s b k
  have hs':3*eB s b k+4*b+6<=274877906944:=hs
  have V:=Xiw (b:=b) o.1 j.1 U i
  have Y:=Xiw (b:=b) o.1 j.1 A i
  have Z:=Xiw (b:=b) o.1 j.1 j.2 i
  have B:=Yd8 o b
  have qs:=Yc4 (b:=b) Z B (by omega)
  have qm:=Xln Y qs
  have qa:=Xmf V qm
  have I:=Xab k
  have hp:=p16 T
  refine En Tryz.func374 λ_ _ _=>?_
  refine No rfl (by show ¬((((toT k t.1++[toL k t.2]).map dqs).length:Nat):Int)=0;rw[twL];omega)<|Ar k rfl ?_ (tw1 t (by omega))
  refine Ar (2^k:Nat) rfl ?_ (hvq a (by omega))
  refine Tk k ((toT k t.1).map dqs) rfl rfl (Xg3 t) (twT t) ?_
  refine Tk (2^k) ((toL k a.1).map dq) rfl rfl (Xcc a) (hvT a) ?_
  refine Ce rfl (O o.1 j.1 U i (by omega) (by omega) hb)<|Dp (2^k) ((toL k a.2).map dq) rfl rfl (Xcc a) (hvD a) ?_
  refine Ce rfl (Xep (l:=toL k a.2) A.ps (by omega) (by rw[I];have:=p16 (show k<=16 by omega);omega))<|By rfl (λh=>?_) λh=>?_
  . have Q:enc (k+1) t a b=enc k t.1 a.1 b:=if_pos h
    exact R1 rfl (by rw[Q];exact .rf rfl)
  . have Q:enc (k+1) t a b=rnd (Xml (enc k t.1 a.1 b) (Xb6 (enc k t.1 a.2 b) (rts (enc k t.1 t.2 b) b))) b:=if_neg h
    refine Dz rfl ?_
    refine Dp (2^k) ((toL k a.2).map dq) rfl rfl (Xcc a) (hvD a) ?_
    refine Ce rfl (O o.1 j.1 A i (by omega) (by omega) hb)<|Ix k rfl (twU t)<|Ce rfl (O o.1 j.1 j.2 i (by omega) (by omega) hb)<|Dw rfl<|Ce rfl (Xz4 Z B (by omega) (by omega) (by omega))<|Ce rfl (Ygn Y qs (by omega))<|Ce rfl (Ygo V qm (by omega))<|Ce rfl (Xz2 qa (by omega) (by omega)) ?_
    rw[Q]
    exact R1 rfl (.rf rfl)
theorem Xt7{k:Nat}{t:Tw k}{a:Tow.El k}{bits P s:Nat}(j:Xbm k t)(Y:∀b,P<=b->Wid (enc k t a b) bits)(M:TS s k t)(ha:Sz s (toL k a))(o:1<=s)(Q:k<=16)(T:vB s k s<=4398046511104)(hb:bits<=1024)(hP:P<=1000000000)(Z:eB s (2*(P+bits+16)) k<=274877906944):
 C0 286 [.d (dt t),.d (de a),.d (.int .i64 bits)] λv=>∃p:Rat×Rat,v=.d (dI p)/\inI k t a p.1 p.2/\Wid p bits/\Q2 (eB s (2*(P+bits+16)) k) p:=by
 have A:s<=4398046511104:=W0l (Xdh k s) T
 obtain⟨B,U⟩:∃B,B=eB s (2*(P+bits+16)) k:=⟨_,rfl⟩
 rw[<-U] at Z |-
 have hq:∀b,b<=2*(P+bits+16)->Q2 B (enc k t a b):=λb hb=>(Xiw j M ha o).mono (by rw[U];exact Xpv hb k)
 refine En Tryz.func286 λ_ _ _=>?_
 refine No rfl (by omega)<|No rfl (by omega)<|Ce rfl (Xpp (l:=[toL k a]) (s:=s) M j Q T A (λx hx=>⟨a,W0f.1 hx,ha⟩) (by simp) A)<|No rfl (by simp)<|Ce rfl (FromInt_ok (z:=1) (by decide))<|Ce rfl (Xdl (n:=bits) (by omega))<|Ce rfl (Make_ok (p:=bits+1) (a:=1) (b:=2^bits) (Zs.one (by omega)) (Zs.two (W0c _)) (by omega) (Xdj bits))<|Ar (bits+16:Nat) rfl ?_
 refine Lo (λ(g:Nat)=>[(0,.d (dt t)),(1,.d (de a)),(6,.ptr 6 0),(7,.ptr 7 0),(9,.d (.int .i64 g))]) (λ_=>[(6,.var (.st (.pr (.st (.pr (.st (.pr (.b false) .nil)) (.st (.pr (.b false) .nil)))) (.st (.pr (.st (.pr (.b false) .nil)) (.st (.pr (.b false) .nil))))))),(7,.var (.d (dq (Rat.divInt 1 (2^bits)))))]) (λg=>1<=g/\g<=2*(P+bits+16)) (λg=>2*(P+bits+16)-g) (bits+16) [] rfl ⟨by omega,by omega⟩ (λg ⟨hg1,V⟩=>?_)
 have i:=hq g V
 have O:eB s g k<=274877906944:=W0l (Xpv V k) (by omega)
 refine Ce rfl (Xtu j M ha o Q O (by omega))<|Dw rfl<|Ce rfl (Xw8 i (by omega))<|Ce rfl (Xib (by rw[W5p];exact i.2.add i.1.neg) (Xkr bits) (by omega))<|By rfl (λh=>?_) λh=>?_
 . exact Rt rfl (.one (.rf rfl) rfl rfl) ⟨_,rfl,Xf5 j a g,⟨Xxs j a g,Ynv.1 h⟩,i⟩
 . have I:g<P:=by
    by_cases I:g<P
    . exact I
    . exact absurd (Ynv.2 (Y g (by omega)).2) h
   refine Ar (2*g:Nat) rfl ?_
   exact Bk (2*g) [] rfl ⟨by omega,by omega⟩ (by show 2*(P+bits+16)-2*g<2*(P+bits+16)-g;omega)
end
section
theorem RtOf.mg2{r s:Rat×Rat}{b j:Nat}(R:RtOf r b s)(hr:r.2<=pw (2*j))(h0:0<=r.2): 0<=s.1/\s.2<=pw (j+1):=by
 have o:=Xhy (b:=b) h0
 have i:=Xc5 (mx0 r.1) b
 rw[<-R.lo] at i
 refine⟨i,?_⟩
 have A:Xdq r.2 b<=pw j:=Xse (W2m (Xay j)) (W5h o (by rw[<-Yde];exact hr))
 have B:=R.h
 have I:=Xks b
 have M:=Xgy j
 rw[Xco]
 grind
def mE(m:Nat): Nat->Nat->Nat
 | 0,M=>M
 | k+1,M=>mE m k M+(mE m k m+1)/2+2
def eE(m b:Nat): Nat->Nat->Nat
 | 0,_=>2*b-2
 | k+1,M=>min (eE m b k M) (eE m b k m/2)-(max (mE m k M) ((mE m k m+1)/2)+3)
theorem Ylo(m b:Nat): ∀k M,eE m b k M<=2*b-2
 | 0,_=>W0c _
 | k+1,M=>by have:=Ylo m b k M;show min (eE m b k M) (eE m b k m/2)-(max (mE m k M) ((mE m k m+1)/2)+3)<=_;omega
theorem Yl7{k:Nat}{t:Tw (k+1)}{m b:Nat}(h:Xbm (k+1) t)(hr:Mg (bx k t.1 t.2 b) (mE m k m)): 0<=(rtb (bx k t.1 t.2 b) b).1/\(rtb (bx k t.1 t.2 b) b).2<=pw ((mE m k m+1)/2+1) :=
 (Xrd _ b).mg2 (W5h hr.2 (Xic (by omega))) (Xh4 h (Xjd h.1 t.2 b))
theorem Xoc: ∀ {k:Nat} {t:Tw k} {a:El k} {m M:Nat} (b:Nat),Xbm k t->MgT m k t->MgL M (toL k a)->Mg (bx k t a b) (mE m k M)
 | 0,t,a,m,M,b,h,i,ha=>Ygc (ha _ (W0f.2 rfl))
 | k+1,t,a,m,M,b,h,i,ha=>by
  have o:=Xoc (a:=a.1) (M:=M) b h.1 i.1 λx j=>ha x (W2l _ j)
  have A:=Xoc (a:=a.2) (M:=M) b h.1 i.1 λx j=>ha x (W1r _ j)
  have B:=Xoc (M:=m) b h.1 i.1 i.2
  have h0:=Xh4 h (Xjd h.1 t.2 b)
  rw[Xjc]
  exact Xqu o A (Yl7 h B) (Yjj h0 (Yhi h.1 _ _)) (Yhi h.1 _ _)
theorem Xg1: ∀ {k:Nat} {t:Tw k} {a:El k} {m M b:Nat},Xbm k t->MgT m k t->MgL M (toL k a)->0<eE m b k M->Wid (bx k t a b) (eE m b k M)
 | 0,t,a,m,M,b,h,i,ha,o=>⟨W6v,(λ(x:Rat)=>(by grind:(x-x)*pw (eE m b 0 M)<=1)) a⟩
 | k+1,t,a,m,M,b,h,i,ha,o=>by
  have A:0<min (eE m b k M) (eE m b k m/2)-(max (mE m k M) ((mE m k m+1)/2)+3):=o
  have B:=Ylo m b k m
  have I:=Xg1 (a:=a.1) (m:=m) (M:=M) (b:=b) h.1 i.1 (λx j=>ha x (W2l _ j)) (by omega)
  have O:=Xg1 (a:=a.2) (m:=m) (M:=M) (b:=b) h.1 i.1 (λx j=>ha x (W1r _ j)) (by omega)
  have Q:=Xg1 (m:=m) (M:=m) (b:=b) h.1 i.1 i.2 (by omega)
  have mv:=Xoc (a:=a.2) (M:=M) b h.1 i.1 λx j=>ha x (W1r _ j)
  have T:=Xoc (M:=m) b h.1 i.1 i.2
  have ms:=Yl7 h T
  have h0:=Xh4 h (Xjd h.1 t.2 b)
  rw[Xjc]
  exact Xqt (m:=max (mE m k M) ((mE m k m+1)/2)) (I.mono (by omega)) (O.mono (by omega)) Q (by omega) (mv.mono (by omega)) ⟨ms.1,W5h ms.2 (Xic (by omega))⟩ h0 (Xrd _ b) (by omega) (by omega) (by omega)
theorem Yhj{k:Nat}{t:Tw k}{a:El k}(h:Xbm k t)(i:MgT 64 k t)(ha:MgL 300 (toL k a))(j:k<=3): Wid (bx k t a 2048) 1:=by
 have j:k=0\/k=1\/k=2\/k=3:=by omega
 rcases j with rfl | rfl | rfl | rfl
 . exact(Xg1 h i ha (show 0<eE 64 2048 0 300 by decide)).mono (by decide)
 . exact(Xg1 h i ha (show 0<eE 64 2048 1 300 by decide)).mono (by decide)
 . exact(Xg1 h i ha (show 0<eE 64 2048 2 300 by decide)).mono (by decide)
 . exact(Xg1 h i ha (show 0<eE 64 2048 3 300 by decide)).mono (by decide)
theorem Xix{k:Nat}{t:Tw k}{a:El k}{m:Nat}(h:Xbm k t)(o:MgT m k t)(ha:MgL m (toL k a))(j:k<=3)(M:m<=10000): ∀b,1000000<=b->Wid (enc k t a b) 1:=λb hb=>by
 have i:∀e,(0<e->Wid (enc k t a b) e)->1<=e->Wid (enc k t a b) 1:=λe A B=>(A (by omega)).mono B
 refine i _ (λI=>Xss h o ha I) ?_
 have j:k=0\/k=1\/k=2\/k=3:=by omega
 rcases j with rfl | rfl | rfl | rfl<;>simp only[eW,mW]<;>omega
end
section
theorem Zs.pow{q:Nat}{z:Int}(h:Zs q z)(n:Nat): Zs (q*n+1) (z^n):=by
 unfold Zs at *
 rw[W7j]
 have i:z.natAbs^n<=(2^q)^n:=W6f (W2e h) n
 rw[<-W5a] at i
 rw[W0q]
 have:=W0r (q*n)
 omega
theorem Zs.len2{q:Nat}{z:Int}(h:Zs q z)(hq:q<=8000000000000): (dig z.natAbs).length<=274877906944:=by
 have i:z.natAbs<4294967296^(q/32+1):=by
  rw[show 4294967296=2^32 from rfl,<-W5a]
  exact W0u h (W0m (by decide) (by omega))
 have:=Xaq i
 omega
theorem Yav{a:Int}(ha:(dig a.natAbs).length<=549755813888): C0 289 [.d (dz a),.d (dz 1)] (·=.d (dz (a-1))):=by
 have i:(dig (Int.natAbs (-1))).length<=549755813888:=W0l (Xaq (n:=1) (k:=1) (by decide)) (by decide)
 have h:=Add_ok (a:=a) (b:=-1) ha i
 have j:C0 173 [.d (dz a),.d (.st (.pr (.bool (!decide ((1:Int)<0))) (ws (dig (Int.natAbs 1)))))] (·=.d (dz (a-1))):=h
 refine En Tryz.func289 λ_ _ _=>?_
 exact Ce rfl j<|R1 rfl (.rf rfl)
theorem Xvu{x:Rat}{p:Nat}(i:Qs p x)(hp:p<=4398046511104): C0 285 [.d (dq x)] (·=.d (dz x.floor)):=by
 have h:=DivMod_ok (a:=x.num) (b:=x.den) (W0l (i.n.len (by omega)) (by decide)) (W0l (i.d.len (by omega)) (by decide)) (Xbz x)
 have e:x.num.fdiv x.den=x.floor:=by
  have:=Xl4 x 0
  rw[show pw 0=1 from rfl,Rat.mul_one,W7f,W4z] at this
  exact this
 rw[e] at h
 refine En Tryz.func285 λ_ _ _=>?_
 exact Ce rfl h<|R1 rfl (.rf rfl)
theorem Xxa{n:Nat}{z:Int}{q:Nat}(Y:Zs q z)(hn:n<=4096)(hq:q<=100000): C0 117 [.d (dz z),.d (.int .i64 n)] (·=.tup (.pr (.d (dz (z^n))) (.d (.int .i64 0)))):=by
 refine En Tryz.func117 λ_ _ _=>?_
 refine No rfl (by omega)<|No rfl (by omega)<|Dw rfl<|Ce rfl (FromInt_ok (z:=1) (by decide))<|Ce rfl (Norm_ok (W0l (Y.len (by omega)) (by decide)))<|Lo (λ((m,o,e):Nat×Nat×Nat)=>[(1,.d (.int .i64 m)),(4,.ptr 4 0),(5,.d (.int .i64 0)),(6,.ptr 6 0),(7,.ptr 7 0)]) (λ(m,o,e)=>[(4,.var (.st (.pr (.b false) .nil))),(6,.var (.d (dz (z^o)))),(7,.var (.d (dz (z^e))))]) (λ(m,o,e)=>o+e*m=n/\e<=max n 1/\m<=n) (λ(m,_,_)=>m) (n,0,1) [] rfl ⟨by omega,by omega,W0c n⟩ ?_ (by exact⟨rfl,by show Xt9 _ [(4,Ob.var (AV.st (.pr (.b false) .nil))),(6,Ob.var (AV.d (dz (z^0)))),(7,Ob.var (AV.d (dz (z^1))))];rw[W7f,show z^1=z by rw[Int.pow_succ,W7f,W5y]];rfl,rfl,rfl,rfl⟩)
 rintro⟨m,o,e⟩ ⟨Z,he,hmn⟩
 have i:∀j,j<=4096->(dig (z^j).natAbs).length<=549755813888:=λj hj=>by
  have:=Zs.pow Y j
  have hqj:q*j<=100000*4096:=W1z hq hj
  exact W0l (this.len (by omega)) (by decide)
 have ho:o<=4096:=by have:=W0s (e*m);omega
 have A:e<=4096:=by omega
 refine By rfl (λh=>?_) λh=>?_
 . have h:(m:Int)>0:=h
   have T:=W2s m 2
   have B:e*m=2*(e*(m/2))+e*(m%2):=by
    conv=>lhs;rw[<-T,W0z]
    rw[W4e]
   have I:arB .quo .i64 (m:Int) 2 ((m/2:Nat):Int):=Yo4 (m:=2) rfl (by decide) (by omega)
   have M:∀e:Nat,z^e*z^e=z^(e+e):=λe=>(W7p ..).symm
   refine Ar (m%2:Nat) rfl ?_ (show _/\_ from⟨by decide,Xuo m 2⟩)
   refine By rfl (λO=>?_) λO=>?_
   . have O:m%2=1:=by omega
     rw[O,W4c] at B
     refine Ce rfl (Mul_ok (i o ho) (i e A)) ?_
     rw[<-W7p]
     refine Ar (m/2:Nat) rfl ?_ I
     refine By rfl (λh2=>?_) λh2=>?_
     . have U:e*1<=e*(m/2):=W0p e (by omega)
       refine Ce rfl (Mul_ok (i e A) (i e A)) ?_
       rw[M]
       exact Bk (m/2,o+e,e+e) [] rfl ⟨by rw[W1i];omega,by omega,by omega⟩ (by show m/2<m;omega)
     . have Q:m/2=0:=by omega
       rw[Q] at B
       exact Bk (m/2,o+e,e) [] rfl ⟨by rw[Q];omega,he,by omega⟩ (by show m/2<m;omega)
   . have O:m%2=0:=by omega
     rw[O,W3i] at B
     refine Ar (m/2:Nat) rfl ?_ I
     have U:e*1<=e*(m/2):=W0p e (by omega)
     refine Yes rfl (by omega)<|Ce rfl (Mul_ok (i e A) (i e A)) ?_
     rw[M]
     exact Bk (m/2,o,e+e) [] rfl ⟨by rw[W1i];omega,by omega,by omega⟩ (by show m/2<m;omega)
 . have h:¬(m:Int)>0:=h
   have V:m=0:=by omega
   rw[V,W3i,W2r] at Z
   rw[Z]
   exact RTt rfl (.cons (.rf rfl) Xav)
theorem Xvd{k:Nat}{t:Tw k}{a:Tow.El k}{P s:Nat}(U:Xbm k t)(hw:∀b,P<=b->Wid (enc k t a b) 1)(i:TS s k t)(ha:Sz s (toL k a))(j:1<=s)(o:k<=16)(hP:P<=1000000000)(he:eB s (2*(P+1+16)) k<=274877906944)(Q:vB s k (s+eB s (2*(P+1+16)) k+4)<=4398046511104):
 C0 196 [.d (dt t),.d (de a)] λv=>∃z,v=.d (dz z)/\Xbp k t a z/\(dig z.natAbs).length<=274877906944:=by
 have V:=W0l (Xdh (r:=s) k _) Q
 obtain⟨B,hB⟩:∃B,B=eB s (2*(P+1+16)) k:=⟨_,rfl⟩
 have A:vB s k s<=4398046511104:=W0l (Xc4 (by omega)) Q
 have hE:=Xt7 (bits:=1) U hw i ha j o A (by decide) hP he
 rw[<-hB] at he Q V hE
 have hB1:1<=B:=by rw[hB];exact W0l j (Ybg ..)
 refine En Tryz.func196 λ_ _ _=>?_
 refine Ce rfl (Xpp (l:=[toL k a]) (s:=s) i U o A (by omega) (λx hx=>⟨a,W0f.1 hx,ha⟩) (by simp) (by omega))<|No rfl (by simp)<|Ca rfl hE λv Y=>?_
 obtain⟨p,rfl,Z,hwd,hq⟩:=Y
 have T:=Zs.floor hq.2
 have I:=Xsl U Z hwd
 have hl0:=Zs.len2 (z:=p.2.floor) T (by omega)
 have hl1:=Zs.len2 (z:=p.2.floor-1) (q:=B+1) (by unfold Zs at *;rw[W0q];omega) (by omega)
 have M:=Make_ok (p:=B) (a:=p.2.floor) (b:=1) T (Zs.one (by omega)) (by omega) (by decide)
 rw[Xi2] at M
 have qz:Qs B ((p.2.floor:Int):Rat):=Qs.int T (by omega)
 have O:=Sz.rat k qz
 refine Ce rfl (Xvu hq.2 (by omega))<|Dw rfl<|Ce rfl (FromInt_ok (z:=1) (by decide))<|Ce rfl M<|Ce rfl (Xcn i o (by omega) qz (by omega))<|Ce rfl (Xgg i ha O o (by omega) (by omega))<|Ce rfl (Xkp (s:=s+B+4) i (by rw[Xas,Xbw];exact(ha.add O.neg).mono (by omega)) o Q (by omega))<|By rfl (λh=>?_) λh=>?_
 . exact Dw rfl<|Ce rfl (FromInt_ok (z:=1) (by decide))<|Ce rfl (Yav (W0l (T.len (by omega)) (by decide)))<|Rt rfl (.one (.rf rfl) rfl rfl) ⟨_,rfl,I.1 h,hl1⟩
 . exact Rt rfl (.one (.rf rfl) rfl rfl) ⟨_,rfl,I.2 h,hl0⟩
end
end Go.Proofs.YtcmjannkbdflmaaGreatDoor
namespace Go.Proofs.YtcmjannkbdflmaaGreatDoor.P55
open Go Go.Vm Go.Num Go.Tow Go.Proofs.YtcmjannkbdflmaaGreatDoor
theorem Ygm{f:FuncId}{l:List Cv}(j:l.length<=1000)(hf:∀c∈l,C0 f [.d (dC c)] (·=.b false)): C0 186 [.d (Xd1 l),.d (fnD f)] (·=.d (.int .i64 (-1))):=by
 refine En Tryz.func186 λ_ _ _=>?_
 refine Lo (λk:Nat=>[(0,.d (Xd1 l)),(1,.d (fnD f)),(7,.d (.int .i64 (l.map dC).length)),(8,.d (.int .i64 k))]) (λ_=>[]) (λk=>k<=l.length) (λk=>l.length-k) 0 [] rfl (W0s _) λk o=>?_
 refine By rfl (λh=>?_) λh=>?_<;>simp only[lC] at h
 . obtain⟨c,i⟩:∃c,l[k]?=some c:=⟨_,W0a (by omega)⟩
   refine Ix k rfl (cAt i)<|Ce rfl (hf c (W0e i))<|No rfl nofun<|Ar (k+1:Nat) rfl ?_
   exact Bk (k+1) [] rfl (by omega) (by show l.length-(k+1)<l.length-k;omega)
 . exact R0
theorem Yhb{f:FuncId}{l:List Cv}(h:l.length<=1000)(hf:∀c∈l,C0 f [.d (dC c)] (·=.b false)): C0 105 [.d (Xd1 l),.d (fnD f)] (·=.b false):=by
 refine En Tryz.func105 λ_ _ _=>?_
 exact Ce rfl (Ygm h hf)<|R1 rfl (by exact(show dc ((-1:Int)>=0)=false from W2p.2 λe=>absurd (Xal.1 e) (by decide)) ▸ .rf rfl)
theorem Xhe{l:List Cv}{d:Int}(hd:0<=d/\d<=20)(h0:0<l.length)(h:l.length<=1000)(i:∀c∈l,C0 52 [.d (dC c)] (·=.b true)): C0 44 [.d (Xd1 l),.d (.int .i64 d)] (·=.b true):=by
 have j:∀c∈l,C0 106 [.d (dC c)] (·=.b false):=λc o=>by
  refine En Tryz.func106 λ_ _ _=>?_
  exact Ce rfl (i c o)<|R1 rfl (by exact(show (!true)=false from rfl) ▸ .rf rfl)
 refine En Tryz.func44 λ_ _ _=>?_
 exact Yes rfl (by omega)<|Yes rfl (by omega)<|Yes rfl (by rw[lC];omega)<|Ce rfl (Yhb h j)<|R0
def qb(z:Int)(d:Nat): Rat:=Rat.divInt z (10^d)
abbrev Zb(z:Int): Prop:=(dig z.natAbs).length<=274877906944
theorem Zb.zs{z:Int}(h:Zb z): Zs (max (32*(dig z.natAbs).length) 200) z:=by
 have i:Zs (32*(dig z.natAbs).length) z:=by
  show z.natAbs<2^_
  rw[W5a];exact Xc1 _
 exact i.mono (Nat.le_max_left ..)
theorem Zb.neg{z:Int}(h:Zb z): Zb (-z):=by unfold Zb;rw[W4v];exact h
theorem Yo9{a b:Int}: Xa5 a b<0↔a<b:=by rcases Xat a b with ⟨h,i⟩ | ⟨h,i⟩ | ⟨h,i⟩<;>omega
theorem Xdk{z:Int}{d:Nat}(h:Zb z)(hd:d<=20): C0 49 [.d (dz z),.d (.int .i64 d)] (·=.d (dq (qb z d))):=by
 refine En Tryz.func49 λ_ _ _=>?_
 refine Ce rfl (FromInt_ok (z:=10) (by decide))<|Ce rfl (Xxa (z:=10) (q:=4) (show (10:Int).natAbs<2^4 by decide) (by omega) (by decide)) ?_
 have i:Zs (max (32*(dig z.natAbs).length) 200) (10^d:Int):=by
  have j:(10:Nat)^d<=10^20:=W0m (by decide) hd
  have o:Zs 200 (10^d:Int):=by
   show ((10:Int)^d).natAbs<2^200
   rw[W7j]
   exact W1y j (by decide)
  exact o.mono (Nat.le_max_right ..)
 have h0:(10^d:Int)≠0:=by have:=W5x (n:=10) (m:=d) (by decide);omega
 exact Ce rfl (Make_ok h.zs i (by have h:_<=_:=h;omega) h0)<|R1 rfl (.rf rfl)
structure F4 where
 a:Int
 b:Int
 c:Int
 e:Int
def mn(x y:Int): Int:=if y<x then y else x
structure O4 where
 a:Option Int
 b:Option Int
 c:Option Int
 e:Option Int
def nx(o:Option Int)(f:Int): Option Int:=match o with
 | none=>some f
 | some g=>some (mn g f)
def O4.nx(o:O4)(f:F4): O4:=⟨P55.nx o.a f.a,P55.nx o.b f.b,P55.nx o.c f.c,P55.nx o.e f.e⟩
def o40: O4:=⟨none,none,none,none⟩
def lst(l:List F4): O4:=l.foldl O4.nx o40
def f40(f:F4): O4:=⟨some f.a,some f.b,some f.c,some f.e⟩
theorem Xsb(l:List F4)(f:F4): lst (l++[f])=(lst l).nx f:=by simp[lst]
abbrev zIA: AV:=.st (.pr (.b false) .nil)
def ent: Option Int->AV
 | none=>zIA
 | some z=>.d (dz z)
def arA: O4->AV
 | ⟨some a,some b,some c,some e⟩=>.d (.st (.pr (dz a) (.pr (dz b) (.pr (dz c) (dz e)))))
 | o=>.st (.pr (ent o.a) (.pr (ent o.b) (.pr (ent o.c) (ent o.e))))
abbrev zRA: AV:=.st (.pr zIA zIA)
abbrev zBA: AV:=.st (.pr zRA (.pr zRA (.pr zRA zRA)))
structure PtF (d:Int) (p:Vn) (f:F4):Prop where
 n:∃x y,C0 46 [.d (dN p.x)] (·=.d (dN x))/\C0 46 [.d (dN p.y)] (·=.d (dN y))/\C0 47 [.d (dN x),.d (.int .i64 d)] (·=.tup (.pr (.d (dz f.c)) (.d (.int .i64 0))))/\C0 47 [.d (dN y),.d (.int .i64 d)] (·=.tup (.pr (.d (dz f.e)) (.d (.int .i64 0))))
 x:C0 47 [.d (dN p.x),.d (.int .i64 d)] (·=.tup (.pr (.d (dz f.a)) (.d (.int .i64 0))))
 y:C0 47 [.d (dN p.y),.d (.int .i64 d)] (·=.tup (.pr (.d (dz f.b)) (.d (.int .i64 0))))
 z:Zb f.a/\Zb f.b/\Zb f.c/\Zb f.e
def CuF(d:Int)(c:Cv)(fs:List F4): Prop:=∃P:List Vn,C0 45 [.d (dC c)] (·=.tup (.pr (.d (dVs P)) (.d (.int .i64 0))))/\P.length=fs.length/\P.length<=100/\∀(i:Nat) p f,P[i]?=some p->fs[i]?=some f->PtF d p f
theorem Xsg{a b:Int}(ha:Zb a)(hb:Zb b): C0 48 [.d (dz a),.d (dz b)] (·=.d (.int .i64 (Xa5 a b))):=Cmp_ok (W0l ha (by decide)) (W0l hb (by decide))
def Yl8(o:F4)(d:Nat): D:=.st (.pr (dq (qb o.a d)) (.pr (dq (qb o.b d)) (.pr (dq (qb (-o.c) d)) (dq (qb (-o.e) d)))))
def ofO: Option F4->O4
 | none=>o40
 | some g=>f40 g
def nxF(o:Option F4)(f:F4): F4:=match o with
 | none=>f
 | some g=>⟨mn g.a f.a,mn g.b f.b,mn g.c f.c,mn g.e f.e⟩
theorem Xrv{o:Option F4}{f:F4}: (ofO o).nx f=f40 (nxF o f):=by cases o<;>rfl
def BdZ(f:F4): Prop:=Zb f.a/\Zb f.b/\Zb f.c/\Zb f.e
theorem Yan{x y:Int}(h:Zb x)(i:Zb y): Zb (mn x y):=by unfold mn;split<;>assumption
theorem BdZ.nx{o:Option F4}{f:F4}(i:∀g,o=some g->BdZ g)(hf:BdZ f): BdZ (nxF o f):=by
 cases o with
 | none=>exact hf
 | some g =>
  have h:=i g rfl
  exact⟨Yan h.1 hf.1,Yan h.2.1 hf.2.1,Yan h.2.2.1 hf.2.2.1,Yan h.2.2.2 hf.2.2.2⟩
def part(o:O4)(f:F4): Nat->O4
 | 0=>o
 | 1=>⟨nx o.a f.a,o.b,o.c,o.e⟩
 | 2=>⟨nx o.a f.a,nx o.b f.b,o.c,o.e⟩
 | 3=>⟨nx o.a f.a,nx o.b f.b,nx o.c f.c,o.e⟩
 | _=>o.nx f
theorem Xwf{x y:Int}(h:y<x): mn x y=y:=if_pos h
theorem Xwg{x y:Int}(h:¬y<x): mn x y=x:=if_neg h
theorem Xza{l:List Cv}{Fs:List (List F4)}{d:Nat}{o:F4}(hd:d<=20)(h0:0<l.length)(hl:l.length<=1000)(hv:∀c∈l,C0 52 [.d (dC c)] (·=.b true))(hF:Fs.length=l.length)(hC:∀(i:Nat) c fs,l[i]?=some c->Fs[i]?=some fs->CuF d c fs)(ho:lst Fs.flatten=f40 o):
 C0 17 [.d (Xd1 l),.d (.int .i64 d)] (·=.tup (.pr (.d (Yl8 o d)) (.d (.int .i64 0)))):=by
 refine En Tryz.func17 λ_ _ _=>?_
 refine Ce rfl (Xhe (by omega) h0 hl hv)<|No rfl (λh=>h rfl)<|Lo (λ((k,o):Nat×Option F4)=>[(1,.d (.int .i64 d)),(4,.ptr 4 0),(6,.ptr 6 0),(7,.b o.isNone),(23,.d (Xd1 l)),(24,.d (.int .i64 (l.map dC).length)),(25,.d (.int .i64 k))]) (λ(_,o)=>[(4,.var zBA),(6,.var (arA (ofO o)))]) (λ(k,o)=>k<=l.length/\lst (Fs.take k).flatten=ofO o/\∀g,o=some g->BdZ g) (λ(k,_)=>l.length-k) (0,none) [] rfl ⟨W0s _,rfl,nofun⟩ ?_
 rintro⟨k,o1⟩ ⟨hk,M,V⟩
 have M:lst (Fs.take k).flatten=ofO o1:=M
 refine By rfl (λh=>?_) λh=>?_
 . have h:(k:Int)<((l.map dC).length:Nat):=h
   rw[lC] at h
   obtain⟨c,hc⟩:∃c,l[k]?=some c:=⟨_,W0a (by omega)⟩
   obtain⟨fs,Y⟩:∃fs,Fs[k]?=some fs:=⟨_,W0a (by omega)⟩
   obtain⟨P,hP,hPl,hP1,hPf⟩:=hC k c fs hc Y
   have T:(Fs.take (k+1)).flatten=(Fs.take k).flatten++fs:=by rw[W1c,Y];simp
   refine Ix k rfl (cAt hc)<|Ce rfl hP<|No rfl (by decide)<|Lo (λ((j,o):Nat×Option F4)=>[(1,.d (.int .i64 d)),(4,.ptr 4 0),(6,.ptr 6 0),(7,.b o.isNone),(23,.d (Xd1 l)),(24,.d (.int .i64 (l.map dC).length)),(25,.d (.int .i64 k)),(38,.d (dVs P)),(39,.d (.int .i64 (P.map dV).length)),(40,.d (.int .i64 j))]) (λ(_,o)=>[(4,.var zBA),(6,.var (arA (ofO o)))]) (λ(j,o)=>j<=fs.length/\lst ((Fs.take k).flatten++fs.take j)=ofO o/\∀g,o=some g->BdZ g) (λ(j,_)=>fs.length-j) (0,o1) [] rfl ⟨W0s _,by simpa using M,V⟩ ?_ (by exact⟨rfl,rfl,by cases o1<;>rfl,rfl,rfl⟩)
   rintro⟨j,B⟩ ⟨hj,Q,O⟩
   have Q:lst ((Fs.take k).flatten++fs.take j)=ofO B:=Q
   refine By rfl (λh=>?_) λh=>?_
   . have h:(j:Int)<((P.map dV).length:Nat):=h
     rw[W0i] at h
     obtain⟨p,hp⟩:∃p,P[j]?=some p:=⟨_,W0a (by omega)⟩
     obtain⟨f,hf⟩:∃f,fs[j]?=some f:=⟨_,W0a (by omega)⟩
     obtain⟨⟨x',y',n1,n2,n3,n4⟩,m1,m2,Z⟩:=hPf j p f hp hf
     have hst:lst ((Fs.take k).flatten++fs.take (j+1))=ofO (some (nxF B f)):=by
      rw[W1c,hf,<-W2j,Option.toList_some,Xsb,Q];exact Xrv
     refine Ix j rfl (u:=dV p) (by rw[W0w,hp];rfl)<|Dw rfl<|Ce rfl n1<|Ce rfl n2<|Lo (λ((i,_):Nat×O4)=>[(1,.d (.int .i64 d)),(4,.ptr 4 0),(6,.ptr 6 0),(7,.b B.isNone),(23,.d (Xd1 l)),(24,.d (.int .i64 (l.map dC).length)),(25,.d (.int .i64 k)),(38,.d (dVs P)),(39,.d (.int .i64 (P.map dV).length)),(40,.d (.int .i64 j)),(54,.lit 2 [dN p.x,dN p.y,dN x',dN y']),(55,.d (.int .i64 4)),(56,.d (.int .i64 i))]) (λ(_,c)=>[(4,.var zBA),(6,.var (arA c))]) (λ(i,c)=>i<=4/\c=part (ofO B) f i) (λ(i,_)=>4-i) (0,ofO B) [] rfl ⟨by decide,rfl⟩ ?_ (by exact⟨rfl,rfl,by cases B<;>rfl,rfl,rfl⟩)
     rintro⟨i,U⟩ ⟨hi,I⟩
     have I:U=part (ofO B) f i:=I
     have hi:i=0\/i=1\/i=2\/i=3\/i=4:=by have hi:i<=4:=hi;omega
     rcases hi with rfl | rfl | rfl | rfl | rfl
     . obtain rfl:U=part (ofO B) f 0:=I
       refine Yes rfl (by decide)<|Ix 0 rfl (u:=dN p.x) rfl<|Ce rfl m1<|No rfl (by decide) ?_
       cases B with
       | none =>
        refine Dw rfl<|Yes rfl rfl<|Ia 0 rfl (by decide) ?_
        refine Ar (0+1:Nat) rfl ?_
        exact Bk (0+1,part (ofO none) f (0+1)) [] rfl ⟨by decide,rfl⟩ (by show 4-(0+1)<4-0;decide)
       | some g =>
        refine Dw rfl<|No rfl nofun<|Ia 0 rfl (by decide) ?_
        refine Ce rfl (Xsg (a:=f.a) (b:=g.a) Z.1 (O g rfl).1)<|By rfl (λA=>?_) λA=>?_
        . have A:f.a<g.a:=Yo9.1 A
          refine Ia 0 rfl (by decide) ?_
          refine Ar (0+1:Nat) rfl ?_
          exact Bk (0+1,⟨some f.a,(ofO (some g)).b,(ofO (some g)).c,(ofO (some g)).e⟩) [] rfl ⟨by decide,by show _=part (f40 g) f 1;simp[part,ofO,f40,nx,O4.nx,Xwf A]⟩ (by show 4-(0+1)<4-0;decide)
        . have A:¬f.a<g.a:=λe=>A (Yo9.2 e)
          refine Ar (0+1:Nat) rfl ?_
          exact Bk (0+1,part (ofO (some g)) f 0) [] rfl ⟨by decide,by show _=part (f40 g) f 1;simp[part,ofO,f40,nx,O4.nx,Xwg A]⟩ (by show 4-(0+1)<4-0;decide)
     . obtain rfl:U=part (ofO B) f 1:=I
       refine Yes rfl (by decide)<|Ix 1 rfl (u:=dN p.y) rfl<|Ce rfl m2<|No rfl (by decide) ?_
       cases B with
       | none =>
        refine Dw rfl<|Yes rfl rfl<|Ia 1 rfl (by decide) ?_
        refine Ar (1+1:Nat) rfl ?_
        exact Bk (1+1,part (ofO none) f (1+1)) [] rfl ⟨by decide,rfl⟩ (by show 4-(1+1)<4-1;decide)
       | some g =>
        refine Dw rfl<|No rfl nofun<|Ia 1 rfl (by decide) ?_
        refine Ce rfl (Xsg (a:=f.b) (b:=g.b) Z.2.1 (O g rfl).2.1)<|By rfl (λA=>?_) λA=>?_
        . have A:f.b<g.b:=Yo9.1 A
          refine Ia 1 rfl (by decide) ?_
          refine Ar (1+1:Nat) rfl ?_
          exact Bk (1+1,⟨nx (ofO (some g)).a f.a,some f.b,(ofO (some g)).c,(ofO (some g)).e⟩) [] rfl ⟨by decide,by show _=part (f40 g) f 2;simp[part,ofO,f40,nx,O4.nx,Xwf A]⟩ (by show 4-(1+1)<4-1;decide)
        . have A:¬f.b<g.b:=λe=>A (Yo9.2 e)
          refine Ar (1+1:Nat) rfl ?_
          exact Bk (1+1,part (ofO (some g)) f 1) [] rfl ⟨by decide,by show _=part (f40 g) f 2;simp[part,ofO,f40,nx,O4.nx,Xwg A]⟩ (by show 4-(1+1)<4-1;decide)
     . obtain rfl:U=part (ofO B) f 2:=I
       refine Yes rfl (by decide)<|Ix 2 rfl (u:=dN x') rfl<|Ce rfl n3<|No rfl (by decide) ?_
       cases B with
       | none =>
        refine Dw rfl<|Yes rfl rfl<|Ia 2 rfl (by decide) ?_
        refine Ar (2+1:Nat) rfl ?_
        exact Bk (2+1,part (ofO none) f (2+1)) [] rfl ⟨by decide,rfl⟩ (by show 4-(2+1)<4-2;decide)
       | some g =>
        refine Dw rfl<|No rfl nofun<|Ia 2 rfl (by decide) ?_
        refine Ce rfl (Xsg (a:=f.c) (b:=g.c) Z.2.2.1 (O g rfl).2.2.1)<|By rfl (λA=>?_) λA=>?_
        . have A:f.c<g.c:=Yo9.1 A
          refine Ia 2 rfl (by decide) ?_
          refine Ar (2+1:Nat) rfl ?_
          exact Bk (2+1,⟨nx (ofO (some g)).a f.a,nx (ofO (some g)).b f.b,some f.c,(ofO (some g)).e⟩) [] rfl ⟨by decide,by show _=part (f40 g) f 3;simp[part,ofO,f40,nx,O4.nx,Xwf A]⟩ (by show 4-(2+1)<4-2;decide)
        . have A:¬f.c<g.c:=λe=>A (Yo9.2 e)
          refine Ar (2+1:Nat) rfl ?_
          exact Bk (2+1,part (ofO (some g)) f 2) [] rfl ⟨by decide,by show _=part (f40 g) f 3;simp[part,ofO,f40,nx,O4.nx,Xwg A]⟩ (by show 4-(2+1)<4-2;decide)
     . obtain rfl:U=part (ofO B) f 3:=I
       refine Yes rfl (by decide)<|Ix 3 rfl (u:=dN y') rfl<|Ce rfl n4<|No rfl (by decide) ?_
       cases B with
       | none =>
        refine Dw rfl<|Yes rfl rfl<|Ia 3 rfl (by decide) ?_
        refine Ar (3+1:Nat) rfl ?_
        exact Bk (3+1,part (ofO none) f (3+1)) [] rfl ⟨by decide,rfl⟩ (by show 4-(3+1)<4-3;decide)
       | some g =>
        refine Dw rfl<|No rfl nofun<|Ia 3 rfl (by decide) ?_
        refine Ce rfl (Xsg (a:=f.e) (b:=g.e) Z.2.2.2 (O g rfl).2.2.2)<|By rfl (λA=>?_) λA=>?_
        . have A:f.e<g.e:=Yo9.1 A
          refine Ia 3 rfl (by decide) ?_
          refine Ar (3+1:Nat) rfl ?_
          exact Bk (3+1,⟨nx (ofO (some g)).a f.a,nx (ofO (some g)).b f.b,nx (ofO (some g)).c f.c,some f.e⟩) [] rfl ⟨by decide,by show _=part (f40 g) f 4;simp[part,ofO,f40,nx,O4.nx,Xwf A]⟩ (by show 4-(3+1)<4-3;decide)
        . have A:¬f.e<g.e:=λe=>A (Yo9.2 e)
          refine Ar (3+1:Nat) rfl ?_
          exact Bk (3+1,part (ofO (some g)) f 3) [] rfl ⟨by decide,by show _=part (f40 g) f 4;simp[part,ofO,f40,nx,O4.nx,Xwg A]⟩ (by show 4-(3+1)<4-3;decide)
     . obtain rfl:U=(ofO B).nx f:=I
       refine No rfl (by decide)<|Ar (j+1:Nat) rfl ?_
       exact Bk (j+1,some (nxF B f)) [] rfl ⟨by omega,hst,λg hg=>by cases hg;exact BdZ.nx O Z⟩ (by show fs.length-(j+1)<fs.length-j;omega) (by exact⟨rfl,by rw[Xrv];rfl,rfl,rfl,rfl⟩)
   . have h:¬(j:Int)<((P.map dV).length:Nat):=h
     rw[W0i] at h
     have hjf:fs.take j=fs:=W0b (by omega)
     refine Ar (k+1:Nat) rfl ?_
     exact Bk (k+1,B) [] rfl ⟨by omega,by rw[T,<-hjf];exact Q,O⟩ (by show l.length-(k+1)<l.length-k;omega) (by exact⟨rfl,rfl,by cases B<;>rfl,rfl,rfl⟩)
 . have h:¬(k:Int)<((l.map dC).length:Nat):=h
   rw[lC] at h
   rw[W0b (by omega),ho] at M
   cases o1 with
   | none=>cases M
   | some g =>
    have hg:f40 o=f40 g:=M
    obtain rfl:o=g:=by cases o;cases g;simp only[f40,O4.mk.injEq,Option.some.injEq] at hg;obtain⟨rfl,rfl,rfl,rfl⟩:=hg;rfl
    obtain⟨z1,z2,z3,z4⟩:=V o rfl
    refine Dw rfl<|Ia 0 rfl (by decide) ?_
    refine Ce rfl (Xdk z1 hd)<|Ia 1 rfl (by decide) ?_
    refine Ce rfl (Xdk z2 hd)<|Ia 2 rfl (by decide) ?_
    refine Ce rfl (Neg_ok (z:=o.c) (W0l z3 (by decide)))<|Ce rfl (Xdk z3.neg hd)<|Ia 3 rfl (by decide) ?_
    exact Ce rfl (Neg_ok (z:=o.e) (W0l z4 (by decide)))<|Ce rfl (Xdk z4.neg hd)<|R0t
end Go.Proofs.YtcmjannkbdflmaaGreatDoor.P55
namespace Go.Proofs.YtcmjannkbdflmaaGreatDoor.P9
open Go Go.Vm Go.Num Go.Tow Go.Proofs.YtcmjannkbdflmaaGreatDoor
abbrev nq(q:Rat): Nm:=⟨0,(),q⟩
theorem Ydv{k:Nat}{q:Rat}: Lf (k:=0) (m:=k) q (rat k q):=by
 show toL k (rat k q)=[q]++_
 rw[Xd7];rfl
section
variable{r p s:Nat}{x:Nm}{q:Rat}
theorem Ybr(hr:TS r x.k x.t)(B:x.k<=8)(A:r<=4000000000): C0 303 [.d (dNs [x,nq q])] (·=.tup (.pr (.d (dt x.t)) (.d (.int .i64 0)))):=by
 refine En Tryz.func303 λ_ _ _=>?_
 refine Nd 4 1 rfl ?_
 refine Lo (λ(s:Nat×(Σ m,Tw m))=>[(2,.nil),(3,.d (.int .i64 0)),(4,.d (dt s.2.2)),(9,.d (dNs [x,nq q])),(10,.d (.int .i64 2)),(11,.d (.int .i64 s.1))]) (λ_=>[]) (λs=>(s.1=0/\s.2=⟨0,()⟩)\/(s.1=1/\s.2=⟨x.k,x.t⟩)\/(s.1=2/\s.2=⟨x.k,x.t⟩)) (λs=>2-s.1) (0,⟨0,()⟩) [] rfl (.inl ⟨rfl,rfl⟩) (λ(i,⟨m,T⟩) j=>?_)
 simp only at j
 rcases j with ⟨rfl,e⟩ | ⟨rfl,e⟩ | ⟨rfl,e⟩
 . cases e
   refine Yes rfl (show ((0:Nat):Int)<2 by decide)<|Ix 0 rfl (u:=dN x) rfl<|Ce rfl (begins_ok (T:=[]) (U:=toT x.k x.t) (p:=1) (λi r h=>by simp at h) (TS.pt hr) (by omega) (by decide))<|By rfl (λh=>?_) λh=>?_
   . obtain⟨o,tx,M⟩:=x
     have h:[]=toT o tx:=by simpa using h
     obtain rfl:o=0:=by have:=congrArg List.length h;rw[Xaa] at this;exact this.symm
     refine Ar (0+1:Nat) rfl ?_
     exact Bk (1,⟨0,tx⟩) [] rfl (.inr (.inl ⟨rfl,rfl⟩)) (show 1<2 by decide)
   . refine Ce rfl (begins_ok (U:=[]) (q:=1) (TS.pt hr) (λi r h=>by simp at h) (by omega) (by rw[Xaa];omega))<|Yes rfl (by simp)<|Ar (0+1:Nat) rfl ?_
     exact Bk (1,⟨x.k,x.t⟩) [] rfl (.inr (.inl ⟨rfl,rfl⟩)) (show 1<2 by decide)
 . cases e
   refine Yes rfl (show ((1:Nat):Int)<2 by decide)<|Ix 1 rfl (u:=dN (nq q)) rfl<|Ce rfl (begins_ok (T:=toT x.k x.t) (U:=[]) (q:=1) (TS.pt hr) (λi r h=>by simp at h) (by omega) (by rw[Xaa];omega))<|Yes rfl (by simp)<|Ar (1+1:Nat) rfl ?_
   exact Bk (2,⟨x.k,x.t⟩) [] rfl (.inr (.inr ⟨rfl,rfl⟩)) (show 0<1 by decide)
 . cases e
   exact No rfl (show ¬((2:Nat):Int)<2 by decide)<|R0t
theorem Ymz(hr:TS r x.k x.t)(hp:Sz p (toL x.k x.a))(hq:Qs s q)(B:x.k<=8)(o:r<=4000000000)(I:p<=4000000000)(M:s<4000000000): C0 208 [.d (dNs [x,nq q])] (·=.tup (.pr (.d (dNs [x,⟨x.k,x.t,rat x.k q⟩])) (.d (.int .i64 0)))):=by
 have O:=Ybr (q:=q) hr B o
 refine En Tryz.func208 λ_ _ _=>?_
 refine Ce rfl O<|No rfl (by decide)<|Nl 6 6 2 rfl ?_
 refine Lo (λ(j:Nat)=>[(2,.nil),(3,.d (.int .i64 0)),(4,.d (dt x.t)),(6,.gr 6 2 (([x,⟨x.k,x.t,rat x.k q⟩].take j).map dN)),(20,.d (dNs [x,nq q])),(21,.d (.int .i64 2)),(22,.d (.int .i64 j))]) (λj=>[(6,.tok (([x,⟨x.k,x.t,rat x.k q⟩].take j).map dN).length 2)])
  (λj=>j<=2) (λj=>2-j) 0 [] rfl (W0s _) (λj A=>?_)
 have A:j=0\/j=1\/j=2:=by omega
 rcases A with rfl | rfl | rfl
 . refine Yes rfl (show ((0:Nat):Int)<2 by decide)<|Ix 0 rfl (u:=dN x) rfl<|Ce rfl (begins_ok (T:=toT x.k x.t) (U:=toT x.k x.t) (TS.pt hr) (TS.pt hr) (by omega) (by rw[Xaa];omega))<|Yes rfl (W1x ..)<|Ce rfl (Xjy (T:=x.t) (Lf.rfl' x.a) (W0c _) (by omega))<|Ce rfl (detach_ok (x:=x) hr hp (by omega) (by omega) (by omega))<|ApG ([x].map dN) rfl (by simp) (by simp) ?_
   refine Ar (0+1:Nat) rfl ?_
   exact Bk 1 [(6,90),(56,6)] rfl (show 1<=2 by decide) (show 2-1<2-0 by decide)
 . refine Yes rfl (show ((1:Nat):Int)<2 by decide)<|Ix 1 rfl (u:=dN (nq q)) rfl<|Ce rfl (begins_ok (T:=toT x.k x.t) (U:=[]) (q:=1) (TS.pt hr) (λi r h=>by simp at h) (by omega) (by rw[Xaa];omega))<|Yes rfl (by simp)<|Ce rfl (Xjy (k:=0) (T:=x.t) (Ydv (q:=q)) (W0s _) (by omega))<|Ce rfl (detach_ok (x:=⟨x.k,x.t,rat x.k q⟩) hr (Sz.rat x.k hq) (show _<=16 by show x.k<=16;omega) (by omega) (by omega))<|ApG ([x,⟨x.k,x.t,rat x.k q⟩].map dN) rfl (by simp) (by simp) ?_
   refine Ar (1+1:Nat) rfl ?_
   exact Bk 2 [(6,90),(56,6)] rfl (show 2<=2 by decide) (show 2-2<2-1 by decide)
 . exact No rfl (show ¬((2:Nat):Int)<2 by decide)<|RTt rfl (.cons (.gr rfl) Xav)
theorem Xi7{f:FuncId}{z:Tow.El x.k}(hf:C0 f [.d (dt x.t),.d (de x.a),.d (de (rat x.k q))] (·=.d (de z)))(hr:TS r x.k x.t)(hp:Sz p (toL x.k x.a))(hq:Qs s q)(o:x.k<=8)(h:r<=4000000000)(i:p<=4000000000)(j:s<4000000000): C0 168 [.d (dN x),.d (dN (nq q)),.d (fnD f)] (·=.tup (.pr (.d (dN ⟨x.k,x.t,z⟩)) (.d (.int .i64 0)))):=by
 refine En Tryz.func168 λ_ _ _=>?_
 exact Ce rfl (Ymz hr hp hq o h i j)<|No rfl (by simp)<|Ix 0 rfl (u:=dN x) rfl<|Dw rfl<|Ix 0 rfl (u:=dN x) rfl<|Ix 1 rfl (u:=dN ⟨x.k,x.t,rat x.k q⟩) rfl<|Ce rfl hf<|RTt rfl (.cons (.rf rfl) Xav)
theorem Ypu(hr:TS r x.k x.t)(hp:Sz p (toL x.k x.a))(hq:Qs s q)(i:x.k<=8)(h:r<=4000000000)(j:p<=2000000000)(o:s<2000000000): C0 129 [.d (dN x),.d (dN (nq q))] (·=.tup (.pr (.d (dN ⟨x.k,x.t,Tow.add x.k x.a (rat x.k q)⟩)) (.d (.int .i64 0)))):=by
 refine En Tryz.func129 λ_ _ _=>?_
 exact Ce rfl (Xi7 (Xhx hr hp (Sz.rat x.k hq) (by omega) (by omega) (by omega)) hr hp hq i h (by omega) (by omega))<|R0t
theorem Ymy(hr:TS r x.k x.t)(hp:Sz p (toL x.k x.a))(hq:Qs s q)(i:x.k<=8)(h:r<=4000000000)(j:p<=2000000000)(o:s<2000000000)(A:cB r x.k<=1000000000): C0 89 [.d (dN x),.d (dN (nq q))] (·=.tup (.pr (.d (dN ⟨x.k,x.t,Tow.mul x.k x.t x.a (rat x.k q)⟩)) (.d (.int .i64 0)))):=by
 refine En Tryz.func89 λ_ _ _=>?_
 exact Ce rfl (Xi7 (Xds hr hp (Sz.rat x.k hq) (by omega) (by omega) (by omega)) hr hp hq i h (by omega) (by omega))<|R0t
theorem Ybs(hr:TS r x.k x.t)(B:x.k<=8)(A:r<=4000000000): C0 303 [.d (dNs [nq q,x])] (·=.tup (.pr (.d (dt x.t)) (.d (.int .i64 0)))):=by
 refine En Tryz.func303 λ_ _ _=>?_
 refine Nd 4 1 rfl ?_
 refine Lo (λ(s:Nat×(Σ m,Tw m))=>[(2,.nil),(3,.d (.int .i64 0)),(4,.d (dt s.2.2)),(9,.d (dNs [nq q,x])),(10,.d (.int .i64 2)),(11,.d (.int .i64 s.1))]) (λ_=>[]) (λs=>(s.1=0/\s.2=⟨0,()⟩)\/(s.1=1/\s.2=⟨0,()⟩)\/(s.1=2/\s.2=⟨x.k,x.t⟩)) (λs=>2-s.1) (0,⟨0,()⟩) [] rfl (.inl ⟨rfl,rfl⟩) (λ(i,⟨m,T⟩) j=>?_)
 simp only at j
 rcases j with ⟨rfl,e⟩ | ⟨rfl,e⟩ | ⟨rfl,e⟩
 . cases e
   refine Yes rfl (show ((0:Nat):Int)<2 by decide)<|Ix 0 rfl (u:=dN (nq q)) rfl<|Ce rfl (begins_ok (T:=[]) (U:=[]) (p:=1) (q:=1) (λi r h=>by simp at h) (λi r h=>by simp at h) (by omega) (by decide))<|Yes rfl (by simp)<|Ar (0+1:Nat) rfl ?_
   exact Bk (1,⟨0,()⟩) [] rfl (.inr (.inl ⟨rfl,rfl⟩)) (show 1<2 by decide)
 . cases e
   refine Yes rfl (show ((1:Nat):Int)<2 by decide)<|Ix 1 rfl (u:=dN x) rfl<|Ce rfl (begins_ok (T:=[]) (U:=toT x.k x.t) (p:=1) (λi r h=>by simp at h) (TS.pt hr) (by omega) (by decide))<|By rfl (λh=>?_) λh=>?_
   . obtain⟨o,tx,M⟩:=x
     have h:[]=toT o tx:=by simpa using h
     obtain rfl:o=0:=by have:=congrArg List.length h;rw[Xaa] at this;exact this.symm
     refine Ar (1+1:Nat) rfl ?_
     exact Bk (2,⟨0,tx⟩) [] rfl (.inr (.inr ⟨rfl,rfl⟩)) (show 0<1 by decide)
   . refine Ce rfl (begins_ok (U:=[]) (q:=1) (TS.pt hr) (λi r h=>by simp at h) (by omega) (by rw[Xaa];omega))<|Yes rfl (by simp)<|Ar (1+1:Nat) rfl ?_
     exact Bk (2,⟨x.k,x.t⟩) [] rfl (.inr (.inr ⟨rfl,rfl⟩)) (show 0<1 by decide)
 . cases e
   exact No rfl (show ¬((2:Nat):Int)<2 by decide)<|R0t
theorem Ym0(hr:TS r x.k x.t)(hp:Sz p (toL x.k x.a))(hq:Qs s q)(B:x.k<=8)(o:r<=4000000000)(I:p<=4000000000)(M:s<4000000000): C0 208 [.d (dNs [nq q,x])] (·=.tup (.pr (.d (dNs [⟨x.k,x.t,rat x.k q⟩,x])) (.d (.int .i64 0)))):=by
 have O:=Ybs (q:=q) hr B o
 refine En Tryz.func208 λ_ _ _=>?_
 refine Ce rfl O<|No rfl (by decide)<|Nl 6 6 2 rfl ?_
 refine Lo (λ(j:Nat)=>[(2,.nil),(3,.d (.int .i64 0)),(4,.d (dt x.t)),(6,.gr 6 2 (([⟨x.k,x.t,rat x.k q⟩,x].take j).map dN)),(20,.d (dNs [nq q,x])),(21,.d (.int .i64 2)),(22,.d (.int .i64 j))]) (λj=>[(6,.tok (([⟨x.k,x.t,rat x.k q⟩,x].take j).map dN).length 2)])
  (λj=>j<=2) (λj=>2-j) 0 [] rfl (W0s _) (λj A=>?_)
 have A:j=0\/j=1\/j=2:=by omega
 rcases A with rfl | rfl | rfl
 . refine Yes rfl (show ((0:Nat):Int)<2 by decide)<|Ix 0 rfl (u:=dN (nq q)) rfl<|Ce rfl (begins_ok (T:=toT x.k x.t) (U:=[]) (q:=1) (TS.pt hr) (λi r h=>by simp at h) (by omega) (by rw[Xaa];omega))<|Yes rfl (by simp)<|Ce rfl (Xjy (k:=0) (T:=x.t) (Ydv (q:=q)) (W0s _) (by omega))<|Ce rfl (detach_ok (x:=⟨x.k,x.t,rat x.k q⟩) hr (Sz.rat x.k hq) (show _<=16 by show x.k<=16;omega) (by omega) (by omega))<|ApG ([⟨x.k,x.t,rat x.k q⟩].map dN) rfl (by simp) (by simp) ?_
   refine Ar (0+1:Nat) rfl ?_
   exact Bk 1 [(6,90),(56,6)] rfl (show 1<=2 by decide) (show 2-1<2-0 by decide)
 . refine Yes rfl (show ((1:Nat):Int)<2 by decide)<|Ix 1 rfl (u:=dN x) rfl<|Ce rfl (begins_ok (T:=toT x.k x.t) (U:=toT x.k x.t) (TS.pt hr) (TS.pt hr) (by omega) (by rw[Xaa];omega))<|Yes rfl (W1x ..)<|Ce rfl (Xjy (T:=x.t) (Lf.rfl' x.a) (W0c _) (by omega))<|Ce rfl (detach_ok (x:=x) hr hp (by omega) (by omega) (by omega))<|ApG ([⟨x.k,x.t,rat x.k q⟩,x].map dN) rfl (by simp) (by simp) ?_
   refine Ar (1+1:Nat) rfl ?_
   exact Bk 2 [(6,90),(56,6)] rfl (show 2<=2 by decide) (show 2-2<2-1 by decide)
 . exact No rfl (show ¬((2:Nat):Int)<2 by decide)<|RTt rfl (.cons (.gr rfl) Xav)
theorem Xya{f:FuncId}{z:Tow.El x.k}(hf:C0 f [.d (dt x.t),.d (de (rat x.k q)),.d (de x.a)] (·=.d (de z)))(hr:TS r x.k x.t)(hp:Sz p (toL x.k x.a))(hq:Qs s q)(o:x.k<=8)(h:r<=4000000000)(i:p<=4000000000)(j:s<4000000000): C0 168 [.d (dN (nq q)),.d (dN x),.d (fnD f)] (·=.tup (.pr (.d (dN ⟨x.k,x.t,z⟩)) (.d (.int .i64 0)))):=by
 refine En Tryz.func168 λ_ _ _=>?_
 exact Ce rfl (Ym0 hr hp hq o h i j)<|No rfl (by simp)<|Ix 0 rfl (u:=dN ⟨x.k,x.t,rat x.k q⟩) rfl<|Dw rfl<|Ix 0 rfl (u:=dN ⟨x.k,x.t,rat x.k q⟩) rfl<|Ix 1 rfl (u:=dN x) rfl<|Ce rfl hf<|RTt rfl (.cons (.rf rfl) Xav)
theorem Ypr(j:Xbm x.k x.t)(hr:TS r x.k x.t)(hp:Sz p (toL x.k x.a))(hq:Qs s q)(o:x.k<=8)(h:r<=4000000000)(A:p<=2000000000)(B:s<2000000000)(I:vB r x.k (p+s+4)<=4398046511104)(i:vB r x.k r<=4398046511104):
 C0 94 [.d (dN x),.d (dN (nq q))] (·=.tup (.pr (.d (.int .i64 (sgn x.k x.t (Tow.add x.k x.a (Tow.neg x.k (rat x.k q)))))) (.d (.int .i64 0)))):=by
 have M:C0 128 [.d (dN x),.d (dN (nq q))] (·=.tup (.pr (.d (dN ⟨x.k,x.t,Tow.add x.k x.a (Tow.neg x.k (rat x.k q))⟩)) (.d (.int .i64 0)))):=by
  refine En Tryz.func128 λ_ _ _=>?_
  exact Ce rfl (Xi7 (Xgg hr hp (Sz.rat x.k hq) (by omega) (by omega) (by omega)) hr hp hq o h (by omega) (by omega))<|R0t
 have O:Sz (p+s+4) (toL x.k (Tow.add x.k x.a (Tow.neg x.k (rat x.k q)))):=by rw[Xas,Xbw];exact(hp.add (Sz.rat x.k hq).neg).mono (by omega)
 have hG:C0 177 [.d (dN ⟨x.k,x.t,Tow.add x.k x.a (Tow.neg x.k (rat x.k q))⟩)] (·=.d (.int .i64 (sgn x.k x.t (Tow.add x.k x.a (Tow.neg x.k (rat x.k q)))))):=by
  refine En Tryz.func177 λ_ _ _=>?_
  exact Ce rfl (Xgs hr O j (show x.k<=16 by omega) I i (by omega))<|R0
 refine En Tryz.func94 λ_ _ _=>?_
 exact Ce rfl M<|No rfl (by simp)<|Ce rfl hG<|RTt rfl (.cons (.rf rfl) Xav)
theorem Yps(j:Xbm x.k x.t)(hr:TS r x.k x.t)(hp:Sz p (toL x.k x.a))(hq:Qs s q)(o:x.k<=8)(h:r<=4000000000)(A:p<=2000000000)(B:s<2000000000)(I:vB r x.k (p+s+4)<=4398046511104)(i:vB r x.k r<=4398046511104):
 C0 94 [.d (dN (nq q)),.d (dN x)] (·=.tup (.pr (.d (.int .i64 (sgn x.k x.t (Tow.add x.k (rat x.k q) (Tow.neg x.k x.a))))) (.d (.int .i64 0)))):=by
 have M:C0 128 [.d (dN (nq q)),.d (dN x)] (·=.tup (.pr (.d (dN ⟨x.k,x.t,Tow.add x.k (rat x.k q) (Tow.neg x.k x.a)⟩)) (.d (.int .i64 0)))):=by
  refine En Tryz.func128 λ_ _ _=>?_
  exact Ce rfl (Xya (Xgg hr (Sz.rat x.k hq) hp (by omega) (by omega) (by omega)) hr hp hq o h (by omega) (by omega))<|R0t
 have O:Sz (p+s+4) (toL x.k (Tow.add x.k (rat x.k q) (Tow.neg x.k x.a))):=by rw[Xas,Xbw];exact((Sz.rat x.k hq).add hp.neg).mono (by omega)
 have hG:C0 177 [.d (dN ⟨x.k,x.t,Tow.add x.k (rat x.k q) (Tow.neg x.k x.a)⟩)] (·=.d (.int .i64 (sgn x.k x.t (Tow.add x.k (rat x.k q) (Tow.neg x.k x.a))))):=by
  refine En Tryz.func177 λ_ _ _=>?_
  exact Ce rfl (Xgs hr O j (show x.k<=16 by omega) I i (by omega))<|R0
 refine En Tryz.func94 λ_ _ _=>?_
 exact Ce rfl M<|No rfl (by simp)<|Ce rfl hG<|RTt rfl (.cons (.rf rfl) Xav)
end
end Go.Proofs.YtcmjannkbdflmaaGreatDoor.P9
namespace Go.Num
def isD(b:UInt8): Bool:=decide (48<=b.toNat)&&decide (b.toNat<=57)
theorem Yos{b:UInt8}: isD b=true↔Xhh b:=by simp[isD,Xhh]
def z0(l:List UInt8): Bool:=l.all (·==48)
theorem Xhn(l:List UInt8)(x:UInt8): z0 (l++[x])=(z0 l&&x==48):=by simp[z0]
def prT(ng:Bool)(a:List UInt8): List UInt8->Option (Bool×List UInt8×List UInt8)
 | []=>if ng&&z0 a then none else some (ng,a,[])
 | x::b=>if x=46/\b≠[]/\b.all isD=true/\(ng&&z0 (a++b))=false then some (ng,a,b) else none
def prQ(ng:Bool)(q:List UInt8): Option (Bool×List UInt8×List UInt8) :=
 if q.takeWhile isD=[]\/(1<(q.takeWhile isD).length/\(q.takeWhile isD).head?=some 48) then none else prT ng (q.takeWhile isD) (q.dropWhile isD)
def prs(s:List UInt8): Option (Bool×List UInt8×List UInt8) :=
 if 400<s.length then none else match s with
  | []=>none
  | x::t=>if x=45 then prQ true t else prQ false (x::t)
def plc(s:List UInt8): Int:=match prs s with
 | none=>-1
 | some (_,_,b)=>b.length
def Ym2(r:List UInt8): Prop:=∀x t,r=x::t->isD x=false
theorem Yn1{a r:List UInt8}(ha:a.all isD=true)(hr:Ym2 r): (a++r).takeWhile isD=a/\(a++r).dropWhile isD=r:=by
 induction a with
 | nil =>
  cases r with
  | nil=>exact⟨rfl,rfl⟩
  | cons x t=>simp[W8g,W4p,hr x t rfl]
 | cons x a h =>
  simp only[W6i,W0h] at ha
  obtain⟨i,j⟩:=h ha.2
  simp[W8g,W4p,ha.1,i,j]
def sgB(ng:Bool): List UInt8:=if ng then [45] else []
theorem Xjw{s a r:List UInt8}{ng:Bool}(o:s.length<=400)(hs:s=sgB ng++(a++r))(h:ng=false->s.head?≠some 45)(ha:a.all isD=true)(hr:Ym2 r):
 prs s=if a=[]\/(1<a.length/\a.head?=some 48) then none else prT ng a r:=by
 obtain⟨i,j⟩:=Yn1 ha hr
 have hq:prQ ng (a++r)=if a=[]\/(1<a.length/\a.head?=some 48) then none else prT ng a r:=by
  unfold prQ;rw[i,j]
 rw[<-hq]
 unfold prs
 rw[if_neg (by omega)]
 cases ng with
 | true=>subst hs;simp[sgB]
 | false =>
  have h:=h rfl
  have hs:s=a++r:=hs
  rw[<-hs]
  cases s with
  | nil=>simp[prQ]
  | cons x t =>
   have:¬x=45:=λe=>h (by rw[e];rfl)
   simp[this]
def ptB(b:List UInt8): List UInt8:=if b=[] then [] else 46::b
theorem Yac{ng j:Bool}{a o b r:List UInt8}(h:prT ng a r=some (j,o,b)): j=ng/\o=a/\r=ptB b/\b.all isD=true:=by
 cases r with
 | nil =>
  simp only[prT] at h
  split at h
  . cases h
  . injection h with h;cases h;exact⟨rfl,rfl,rfl,rfl⟩
 | cons x t =>
  simp only[prT] at h
  split at h
  . rename_i i
    injection h with h;cases h
    exact⟨rfl,rfl,by rw[ptB,if_neg i.2.1,i.1],i.2.2.1⟩
  . cases h
theorem Xun(l:List UInt8): (l.takeWhile isD).all isD=true:=by
 induction l with
 | nil=>rfl
 | cons x l i =>
  rw[W8g]
  split
  . rename_i h;simp[h,i]
  . rfl
theorem Xrq{ng i:Bool}{q a b:List UInt8}(h:prQ ng q=some (i,a,b)): i=ng/\q=a++ptB b/\a≠[]/\a.all isD=true/\b.all isD=true:=by
 unfold prQ at h
 split at h
 . cases h
 . rename_i j
   obtain⟨o,A,B,I⟩:=Yac h
   subst A
   refine⟨o,?_,λe=>j (.inl e),?_,I⟩
   . rw[<-B,W6g]
   . exact Xun q
theorem Xrp{s a b:List UInt8}{ng:Bool}(h:prs s=some (ng,a,b)): s.length<=400/\s=sgB ng++(a++ptB b)/\a≠[]/\a.all isD=true/\b.all isD=true:=by
 unfold prs at h
 split at h
 . cases h
 . split at h
   . cases h
   . split at h
     . rename_i A
       obtain⟨i,j,o⟩:=Xrq h
       refine⟨by omega,?_,o⟩
       rw[i,A,j];rfl
     . obtain⟨i,j,o⟩:=Xrq h
       refine⟨by omega,?_,o⟩
       rw[i,j];rfl
def stp(q:Nat×Nat×Bool)(x:UInt8): Nat×Nat×Bool :=
 if x=46 then (q.1,q.2.1,true) else if isD x then (10*q.1+(x.toNat-48),if q.2.2 then q.2.1+1 else q.2.1,q.2.2) else q
theorem Xuy{x:UInt8}(h:isD x=true)(q:Nat×Nat×Bool): stp q x=(10*q.1+(x.toNat-48),if q.2.2 then q.2.1+1 else q.2.1,q.2.2):=by
 have:¬x=46:=λe=>by rw[e] at h;revert h;decide
 rw[stp,if_neg this,if_pos h]
theorem Xsj{l:List UInt8}(h:l.all isD=true)(n p:Nat)(pt:Bool): l.foldl stp (n,p,pt)=(n*10^l.length+Xb7 l,if pt then p+l.length else p,pt):=by
 induction l using Xfr with
 | h0=>cases pt<;>simp[Xb7]
 | hs l x i =>
  rw[W5i,W0h] at h
  rw[W7n,i h.1,W7u,List.foldl_nil,Xuy (by simpa using h.2),Xb5,W0d,W4g,W0q]
  have:n*(10^l.length*10)=10*(n*10^l.length):=by rw[W1f (10^l.length) 10,W4e]
  cases pt<;>simp<;>omega
theorem Ya2{s a b:List UInt8}{ng:Bool}(hs:s=sgB ng++(a++ptB b))(ha:a.all isD=true)(hb:b.all isD=true): ∃pt,s.foldl stp (0,0,false)=(Xb7 (a++b),b.length,pt):=by
 have i:(sgB ng).foldl stp (0,0,false)=(0,0,false):=by cases ng<;>decide
 rw[hs,W7n,i,W7n,Xsj ha]
 by_cases h:b=[]
 . subst h;exact⟨false,by simp[ptB]⟩
 . refine⟨true,?_⟩
   rw[ptB,if_neg h,W7u,show stp (0*10^a.length+Xb7 a,if false=true then 0+a.length else 0,false) 46=(Xb7 a,0,true) by simp[stp],Xsj hb,Xf6]
   simp
def fr(ng:Bool)(a b:List UInt8): Rat:=if ng then -(((Xb7 (a++b):Int):Rat)/((10^b.length:Int):Rat)) else ((Xb7 (a++b):Int):Rat)/((10^b.length:Int):Rat)
end Go.Num
namespace Go.Proofs.YtcmjannkbdflmaaGreatDoor
open Go Go.Vm Go.Num
theorem Xx0(b:UInt8): Yg7[b.toNat]?=some (Yii.contains b):=by
 have hb:=UInt8.toNat_lt b
 unfold Yg7
 rw[W0w,List.getElem?_range hb]
 simp
theorem Xl8: Yg7.length=256:=by unfold Yg7;rw[W0i,List.length_range]
theorem Yh1{s:List UInt8}(hs:Tx s): C0 165 [.d (.str s),.d (.str Yii)] (·=.d (.str ((Xqk Yii.contains s).dropWhile Yii.contains))):=by
 refine En Tryz.func165 λ_ _ _=>?_
 refine By rfl (λh=>?_) λh=>?_
 . subst h;exact R1 rfl (.eq rfl)
 refine No rfl (by decide)<|No rfl (by decide)<|Ce rfl Xik<|Yes rfl rfl<|Va 7 5 900 256 (Yg7.map D.bool) rfl (Xob (by decide)) (by intro x j;obtain⟨b,_,rfl⟩:=W3l.1 j;rfl) (by rw[W0i,Xl8]) ?_
 refine Cn (args:=[.d (.str s),.ap 1000001 256]) [(1000001,900)] rfl (Xgb Xl8 Xx0 hs) λv i=>?_
 subst i
 have o:Tx (Xqk Yii.contains s):=by
  have A:(Xqk Yii.contains s).length<=s.length:=by
   unfold Xqk;rw[List.length_reverse]
   exact W0l (List.Sublist.length_le (List.dropWhile_sublist _)) (by simp)
  exact W1y A hs
 refine Cn (args:=[.d (.str (Xqk Yii.contains s)),.ap 1000001 256]) [(1000001,900)] rfl (Xg4 Xl8 Xx0 o) λv i=>?_
 subst i
 exact R1 rfl (.eq rfl)
end Go.Proofs.YtcmjannkbdflmaaGreatDoor
namespace Go.Num
open Go.Proofs.YtcmjannkbdflmaaGreatDoor
section
theorem Xxt{f:UInt8->Bool}: ∀ {l:List UInt8},l.dropWhile f=[]↔l.all f=true
 | []=>by simp
 | x::l=>by
  rw[W4p,W6i]
  cases h:f x with
  | true=>simpa using Xxt (l:=l)
  | false=>simp
theorem Xzo{f:UInt8->Bool}(s:List UInt8): (Xqk f s).dropWhile f=[]↔s.all f=true:=by
 induction s using Xfr with
 | h0=>simp[Xqk]
 | hs s x i =>
  rw[Xhu,W5i]
  cases h:f x with
  | true=>rw[if_pos rfl,i];simp[h]
  | false=>rw[if_neg (by simp),Xxt,W5i]
theorem Ybl(b:UInt8): Yii.contains b=isD b:=by
 have h:∀n:Fin 256,Yii.contains (UInt8.ofNat n.val)=isD (UInt8.ofNat n.val):=by decide +kernel
 have:=h ⟨b.toNat,UInt8.toNat_lt b⟩
 simpa using this
theorem Ybm(s:List UInt8): s.all Yii.contains=s.all isD:=by
 congr 1
 funext b;exact Ybl b
theorem Ynt(s:List UInt8): trL 48 s=[]↔z0 s=true:=by
 unfold trL z0;rw[Xxt]
theorem Yjz{s q:List UInt8}{ng:Bool}(o:s.length<=400)(hs:s=sgB ng++q)(A:ng=false->s.head?≠some 45)(h:(46:UInt8) ∉ q):
 prs s=if q=[]\/(1<q.length/\q.head?=some 48)\/q.all isD=false then none else if ng&&z0 q then none else some (ng,q,[]):=by
 by_cases hd:q.all isD=true
 . rw[Xjw (a:=q) (r:=[]) o (by rw[W3f];exact hs) A hd (λx t e=>nomatch e)]
   simp only[hd,Bool.true_eq_false,or_false]
   rfl
 . rw[if_pos (.inr (.inr (by simpa using hd)))]
   have hq:q=q.takeWhile isD++q.dropWhile isD:=(W6g ..).symm
   obtain⟨x,r,j⟩:∃x r,q.dropWhile isD=x::r:=by
    cases h:q.dropWhile isD with
    | nil=>exact absurd (Xxt.1 h) hd
    | cons x r=>exact⟨x,r,rfl⟩
   have B:isD x=false:=by
    have:=W7i isD q
    rw[j] at this
    simpa using this
   have i:x≠46:=λe=>h (by rw[hq,j,e];simp)
   rw[j] at hq
   rw[Xjw (a:=q.takeWhile isD) (r:=x::r) o (by rw[<-hq];exact hs) A (Xun q) (λy t e=>by cases e;exact B)]
   split
   . rfl
   . show (if x=46/\_ then _ else none)=none
     rw[if_neg λh=>i h.1]
theorem Yjy{s u t:List UInt8}{ng:Bool}(I:s.length<=400)(hs:s=sgB ng++(u++46::t))(M:ng=false->s.head?≠some 45)(h:(46:UInt8) ∉ u):
 prs s=if u=[]\/t=[]\/(1<u.length/\u.head?=some 48)\/(u++t).all isD=false then none else if ng&&z0 (u++t) then none else some (ng,u,t):=by
 by_cases hd:u.all isD=true
 . rw[Xjw (a:=u) (r:=46::t) I hs M hd (λx r e=>by cases e;decide)]
   by_cases j:u=[]\/(1<u.length/\u.head?=some 48)
   . rw[if_pos j,if_pos (j.elim .inl λh=>.inr (.inr (.inl h)))]
   . rw[if_neg j]
     show (if (46:UInt8)=46/\t≠[]/\t.all isD=true/\(ng&&z0 (u++t))=false then some (ng,u,t) else none)=_
     rw[not_or] at j
     by_cases A:t=[]
     . rw[if_neg (λh=>h.2.1 A),if_pos (.inr (.inl A))]
     . by_cases i:t.all isD=true
       . rw[if_neg (c:=u=[]\/_) (by
          rintro(h | h | h | h)
          . exact j.1 h
          . exact A h
          . exact j.2 h
          . rw[W5i,hd,i] at h;cases h)]
         cases Q:(ng&&z0 (u++t)) with
         | true=>simp
         | false=>simp[A,i]
       . rw[if_neg (λh=>i h.2.2.1),if_pos (.inr (.inr (.inr (by rw[W5i,hd];simpa using i))))]
 . have hf:(u++t).all isD=false:=by
    rw[W5i]
    have:u.all isD=false:=by simpa using hd
    rw[this];rfl
   rw[if_pos (.inr (.inr (.inr hf)))]
   have hq:u=u.takeWhile isD++u.dropWhile isD:=(W6g ..).symm
   obtain⟨x,r,B⟩:∃x r,u.dropWhile isD=x::r:=by
    cases h:u.dropWhile isD with
    | nil=>exact absurd (Xxt.1 h) hd
    | cons x r=>exact⟨x,r,rfl⟩
   have O:isD x=false:=by
    have:=W7i isD u
    rw[B] at this
    simpa using this
   have o:x≠46:=λe=>h (by rw[hq,B,e];simp)
   rw[B] at hq
   rw[Xjw (a:=u.takeWhile isD) (r:=x::(r++46::t)) I (by rw[hs];congr 1;rw[<-W3q,<-W2j,<-hq]) M (Xun u) (λy t e=>by cases e;exact O)]
   split
   . rfl
   . show (if x=46/\_ then _ else none)=none
     rw[if_neg λh=>o h.1]
end
section
theorem Xrs{k m d:Nat}(hd:d<10)(h:m<10^(k+1)): pad k (dec m)++[UInt8.ofNat (48+d)]=pad (k+1) (dec (10*m+d)):=by
 by_cases h0:m=0
 . subst h0
   rw[show 10*0+d=d by omega,Xb9 hd,Xb9 (show 0<10 by decide)]
   show List.replicate (k+1-1) 48++[UInt8.ofNat (48+0)]++[UInt8.ofNat (48+d)]=List.replicate (k+1+1-1) 48++[UInt8.ofNat (48+d)]
   rw[show k+1+1-1=k+1-1+1 by omega,W6t]
   rfl
 . have e:dec (10*m+d)=dec m++[UInt8.ofNat (48+d)]:=by
    rw[Xd4 (show 10<=10*m+d by omega),show (10*m+d)/10=m by omega,show (10*m+d)%10=d by omega]
   rw[e]
   unfold pad
   rw[W0d,W4g,show k+1+1-((dec m).length+1)=k+1-(dec m).length by omega,W2j]
theorem Xx2: ∀(k n:Nat),10^(k+1)<=n->dec n=dec (n/10^(k+1))++pad k (dec (n%10^(k+1)))
 | 0,n,h=>by
  have h:10<=n:=h
  rw[Xd4 h]
  show _=dec (n/10)++pad 0 (dec (n%10))
  rw[Xb9 (n:=n%10) (W2b _ (by decide))]
  rfl
 | k+1,n,h=>by
  have j:10^(k+1+1)=10*10^(k+1):=by rw[W0q];omega
  have hp:0<10^(k+1):=W6u (by decide)
  have i:10<=n:=by omega
  have o:=Xx2 k (n/10) (by rw[W7t (by decide)];omega)
  have A:n/10%10^(k+1)<10^(k+1):=W2b _ hp
  rw[Xd4 i,o,W2j,Xrs (W2b _ (by decide)) A,W6k,<-j]
  congr 3
  have:=Nat.mod_mul (a:=10) (b:=10^(k+1)) (x:=n)
  rw[j,this];omega
def cks(n:Nat): List Nat:=if h:n=0 then [] else n%1000000000::cks (n/1000000000)
termination_by n
decreasing_by omega
theorem Xey: cks 0=[]:=by rw[cks,dif_pos rfl]
theorem Xfg{n:Nat}(h:n≠0): cks n=n%1000000000::cks (n/1000000000):=by rw[cks,dif_neg h]
theorem Yl0: ∀(n c:Nat),c∈cks n->c<1000000000:=λn=>by
 induction n using Nat.strongRecOn with
 | _ n j =>
  intro c i
  by_cases h:n=0
  . subst h;rw[Xey] at i;cases i
  . rw[Xfg h,W1h] at i
    rcases i with rfl | i
    . omega
    . exact j _ (by omega) c i
theorem Xyg: ∀ {k n:Nat},n<4294967296^k->(cks n).length<=2*k
 | 0,n,h=>by
  have:n=0:=by simpa using h
  subst this;rw[Xey];exact W0c _
 | k+1,n,h=>by
  by_cases h0:n=0
  . subst h0;rw[Xey];exact W0s _
  . rw[Xfg h0]
    by_cases i:n/1000000000=0
    . rw[i,Xey];simp;omega
    . rw[Xfg i]
      have:=Xyg (k:=k) (n:=n/1000000000/1000000000) (by
       rw[W0q] at h
       rw[W6k,W2u (by decide)]
       refine W0u h (W0p _ (by decide)))
      simp only[W0j];omega
def Yak: List Nat->List UInt8
 | []=>[]
 | [c]=>dec c
 | c::e::l=>Yak (e::l)++pad 8 (dec c)
theorem Yaj: ∀n,n≠0->Yak (cks n)=dec n:=λn=>by
 induction n using Nat.strongRecOn with
 | _ n j =>
  intro h
  rw[Xfg h]
  by_cases i:n/1000000000=0
  . rw[i,Xey]
    show dec (n%1000000000)=_
    congr 1;omega
  . have:=j (n/1000000000) (by omega) i
    rw[Xfg i] at this |-
    show Yak (n/1000000000%1000000000::cks (n/1000000000/1000000000))++pad 8 (dec (n%1000000000))=_
    rw[this]
    exact(Xx2 8 n (by show 1000000000<=n;omega)).symm
theorem Xvz{c:Nat}{l:List Nat}(h:l≠[]): Yak (c::l)=Yak l++pad 8 (dec c):=by
 cases l with
 | nil=>exact absurd rfl h
 | cons e l=>rfl
end
section
theorem Ykw: isD 46=false:=by decide
theorem Yqr{l:List UInt8}: l.all isD=true↔∀b∈l,Xhh b:=by
 rw[W1q]
 exact⟨λh b hb=>Yos.1 (h b hb),λh b hb=>Yos.2 (h b hb)⟩
theorem Yfr{b:List UInt8}: Ym2 (ptB b):=λx t h=>by
 unfold ptB at h
 split at h
 . cases h
 . cases h;exact Ykw
theorem Yow{s a r:List UInt8}(hs:s=a++r)(i:a≠[])(ha:a.all isD=true): s.head?≠some 45:=by
 cases a with
 | nil=>exact absurd rfl i
 | cons x a =>
  rw[hs]
  intro h
  have h:x=45:=by simpa using h
  rw[h,W6i,W0h] at ha
  exact absurd ha.1 (by decide)
theorem Yj0{s a b:List UInt8}{ng:Bool}(A:s.length<=400)(hs:s=sgB ng++(a++ptB b))(j:a≠[])(h0:¬(1<a.length/\a.head?=some 48))(ha:a.all isD=true)(hb:b.all isD=true)(o:(ng&&z0 (a++b))=false): prs s=some (ng,a,b):=by
 rw[Xjw A hs (λB=>Yow (r:=ptB b) (by rw[hs,B];rfl) j ha) ha Yfr,if_neg (by rintro(h | h);exact j h;exact h0 h)]
 by_cases i:b=[]
 . subst i
   show (if (ng&&z0 a)=true then none else some (ng,a,[]))=_
   rw[W3f] at o
   rw[o];rfl
 . rw[ptB,if_neg i]
   show (if (46:UInt8)=46/\b≠[]/\b.all isD=true/\(ng&&z0 (a++b))=false then some (ng,a,b) else none)=_
   rw[if_pos ⟨rfl,i,hb,o⟩]
theorem Xl2{l:List UInt8}(h:z0 l=true): Xb7 l=0:=by
 induction l using Xfr with
 | h0=>rfl
 | hs l x i =>
  rw[Xhn,W0h,beq_iff_eq] at h
  rw[Xb5,i h.1,h.2];rfl
theorem Yg9: ∀(k:Nat) (l:List UInt8),l.length=k+1->(∀b∈l,Xhh b)->pad k (dec (Xb7 l))=l:=λk=>by
 induction k with
 | zero =>
  intro l h hd
  match l,h with
  | [x],_ =>
   have j:=hd x (by simp)
   unfold Xhh at j
   rw[Xl3,Xb9 (by omega)]
   show [UInt8.ofNat (48+(x.toNat-48))]=[x]
   rw[show 48+(x.toNat-48)=x.toNat by omega];simp
 | succ k B =>
  intro l h hd
  obtain⟨m,x,rfl⟩:∃m x,l=m++[x]:=⟨l.dropLast,l.getLast (by intro e;rw[e] at h;simp at h),(List.dropLast_concat_getLast _).symm⟩
  have o:m.length=k+1:=by simpa using h
  have i:∀b∈m,Xhh b:=λb hb=>hd b (by simp[hb])
  have j:=hd x (by simp)
  unfold Xhh at j
  have A:=Xiy i
  rw[o] at A
  rw[Xb5,<-Xrs (by omega) A,B m o i,show 48+(x.toNat-48)=x.toNat by omega]
  simp
def frI(ng:Bool)(a b:List UInt8): Int:=if ng then -(Xb7 (a++b):Int) else (Xb7 (a++b):Int)
theorem Yjx{a b:List UInt8}: pt b.length (a++b)=a++ptB b:=by
 unfold pt ptB
 by_cases h:b=[]
 . subst h;simp
 . rw[if_neg (by intro e;exact h (W2k.1 e)),if_neg h]
   rw[show (a++b).length-b.length=a.length by simp]
   simp
theorem Ybi(k n:Nat): Xb7 (pad k (dec n))=n:=by
 unfold pad
 rw[Xf6,Xl2 (l:=List.replicate _ 48) (by simp[z0]),W4q,W1j,Ybj]
theorem Yj3(k n:Nat): ∀b∈pad k (dec n),Xhh b:=λb hb=>by
 unfold pad at hb
 rcases W2c.1 hb with h | h
 . obtain rfl:=(W5o.1 h).2;unfold Xhh;decide
 . exact Xx3 n b h
theorem Ylr{n:Nat}(h:0<n): (dec n).head?≠some 48:=by
 induction n using Nat.strongRecOn with
 | _ n j =>
  by_cases i:n<10
  . rw[Xb9 i]
    intro e
    have e:UInt8.ofNat (48+n)=48:=by simpa using e
    have:=congrArg UInt8.toNat e
    rw[dg i] at this
    have:48+n=48:=this
    omega
  . rw[Xd4 (by omega)]
    have:=j (n/10) (by omega) (by omega)
    cases hd:dec (n/10) with
    | nil=>exact absurd hd (Xn1 _)
    | cons x l=>rw[hd] at this;simpa using this
theorem Xvy{z:Int}{k:Nat}(Z:(txt z k).length<=400): ∃a b,prs (txt z k)=some (decide (z<0),a,b)/\b.length=k/\Xb7 (a++b)=z.natAbs/\txt z k=sgB (decide (z<0))++(a++ptB b)/\a≠[]/\a.all isD=true/\b.all isD=true:=by
 obtain⟨P,o⟩:∃P,P=pad k (dec z.natAbs):=⟨_,rfl⟩
 have hPl:P.length=max (k+1) (dec z.natAbs).length:=by rw[o];exact Xle ..
 have A:∀b∈P,Xhh b:=by rw[o];exact Yj3 _ _
 have T:Xb7 P=z.natAbs:=by rw[o];exact Ybi ..
 have i:P.take (P.length-k)++P.drop (P.length-k)=P:=W3w ..
 obtain⟨a,ha⟩:∃a,a=P.take (P.length-k):=⟨_,rfl⟩
 obtain⟨b,hb⟩:∃b,b=P.drop (P.length-k):=⟨_,rfl⟩
 rw[<-ha,<-hb] at i
 have B:b.length=k:=by rw[hb,W1n];omega
 have I:a.length=P.length-k:=by rw[ha,W0k];omega
 have j:a≠[]:=λe=>by rw[e] at I;simp at I;omega
 have M:a.all isD=true:=Yqr.2 λx U=>A x (by rw[<-i];exact W2l _ U)
 have O:b.all isD=true:=Yqr.2 λx U=>A x (by rw[<-i];exact W1r _ U)
 have hs:txt z k=sgB (decide (z<0))++(a++ptB b):=by
  unfold txt
  rw[<-o,<-Yjx,B,i]
  congr 1
  by_cases h:z<0<;>simp[h,sgB]
 refine⟨a,b,Yj0 Z hs j ?_ M O ?_,B,by rw[i,T],hs,j,M,O⟩
 . rintro⟨h1,h2⟩
   have Q:k+1<(dec z.natAbs).length:=by omega
   have e:P=dec z.natAbs:=by
    rw[o];unfold pad;rw[show k+1-(dec z.natAbs).length=0 by omega];rfl
   have Y:P.head?=some 48:=by
    rw[<-i]
    cases a with
    | nil=>exact absurd rfl j
    | cons x a=>simpa using h2
   have V:0<z.natAbs:=by
    rcases W2o z.natAbs with h | h
    . rw[h,Xb9 (by decide)] at Q;simp at Q
    . exact h
   rw[e] at Y
   exact Ylr V Y
 . by_cases h:z<0
   . rw[decide_eq_true h,W6h,i]
     cases hz:z0 P with
     | false=>rfl
     | true=>have:=Xl2 hz;omega
   . rw[decide_eq_false h];rfl
theorem Xqq(n:Nat): ((10^n:Int):Rat)≠0:=λh=>by
 have:(10^n:Int)=0:=Rat.intCast_inj.1 (by rw[h];rfl)
 have:=W5x (n:=10) (m:=n) (by decide)
 omega
theorem Xj5(ng:Bool)(a b:List UInt8): fr ng a b=((frI ng a b:Int):Rat)/((10^b.length:Int):Rat):=by
 unfold fr frI
 split
 . rw[W7z,W5z,W5z,Rat.neg_mul]
 . rfl
end
end Go.Num
namespace Go.Proofs.YtcmjannkbdflmaaGreatDoor
open Go Go.Num Go.Tow
abbrev scl(k:Nat)(t:Tw k)(a:El k)(u h:Rat): El k:=add k (mul k t a (rat k u)) (rat k h)
section
variable{k:Nat}{t:Tw k}{a:El k}
theorem Xmz(h:Xbm k t){q:Rat}(hq:0<q): sgn k t (mul k t a (rat k q))=sgn k t a:=by
 rw[(Xau h).sm,Xfa h,Xbh hq,W4z]
theorem Xlq(h:Xbm k t){u c d:Rat}(i:0<u)(j:c*u=d): le k t (rat k c) a↔le k t (rat k d) (mul k t a (rat k u)):=by
 have L:=Xba k t
 have e:add k (mul k t a (rat k u)) (neg k (rat k d))=mul k t (add k a (neg k (rat k c))) (rat k u):=by
  rw[L.dm,<-Xdv,<-Xdv,<-Xc8,<-j,Rat.neg_mul]
 unfold le
 rw[e,Xmz h i]
theorem Xlw(h:Xbm k t){u c d:Rat}(i:0<u)(j:c*u=d): le k t a (rat k c)↔le k t (mul k t a (rat k u)) (rat k d):=by
 have L:=Xba k t
 have o:∀x:El k,neg k (mul k t x (rat k u))=mul k t (neg k x) (rat k u):=λx=>(L.nm x _).symm
 have e:add k (rat k d) (neg k (mul k t a (rat k u)))=mul k t (add k (rat k c) (neg k a)) (rat k u):=by
  rw[L.dm,o,<-Xc8,<-j]
 unfold le
 rw[e,Xmz h i]
theorem Xmp{u:Rat}: toL k (mul k t a (rat k u))=(toL k a).map (u*·):=by rw[(Xba k t).mc,Xkv]
theorem Xfw{m n:Nat}{u:Rat}(ha:MgL m (toL k a))(i:Qs n u): MgL (n+m) (toL k (mul k t a (rat k u))):=λx h=>by
 rw[Xmp] at h
 obtain⟨y,j,rfl⟩:=W3l.1 h
 exact i.mul (ha y j)
theorem Xwk{n:Nat}{h:Rat}(j:Qs n h)(o:1<=n): MgL n (toL k (rat k h)):=λx i=>by
 rw[Xd7] at i
 rcases W1h.1 i with rfl | i
 . exact j
 . obtain rfl:=(W5o.1 i).2
   exact Qs.int (z:=0) (by unfold Zs;exact W6u (by decide)) o
theorem Xwl{m n:Nat}{b:El k}(ha:MgL m (toL k a))(hb:MgL n (toL k b)): MgL (m+n+1) (toL k (add k a b)):=λx h=>by
 rw[Xas] at h
 obtain⟨i,hi⟩:=W4t h
 rw[W6p] at hi
 split at hi
 . rename_i y z j o
   cases hi
   exact(ha y (W0e j)).add (hb z (W0e o))
 . cases hi
end
theorem Xj6{k:Nat}{t:Tw k}{a:El k}{z:Int}(i:Xbm k t){h:Rat}(hf:Xbp k t (add k a (rat k h)) z): le k t (rat k ((z:Rat)-h)) a/\le k t a (rat k ((z:Rat)+1-h)):=by
 have L:=Xba k t
 obtain⟨o,j⟩:=hf
 have A:add k (add k a (rat k h)) (neg k (rat k (z:Rat)))=add k a (neg k (rat k ((z:Rat)-h))):=by
  rw[L.aa,<-Xdv,<-Xdv,<-Xec];congr 2;grind
 have B:((1:Int):Rat)=1:=rfl
 have I:add k (add k a (rat k h)) (neg k (rat k ((z+1:Int):Rat)))=add k a (neg k (rat k ((z:Rat)+1-h))):=by
  rw[L.aa,<-Xdv,<-Xdv,<-Xec,W4a,B];congr 2;grind
 refine⟨by unfold le at *;rwa[A] at o,?_⟩
 rw[I] at j
 have O:=(Xsa i).1 j
 unfold le at *
 have M:add k (rat k ((z:Rat)+1-h)) (neg k a)=neg k (add k a (neg k (rat k ((z:Rat)+1-h)))):=by
  rw[L.nd,L.nn,L.ac]
 rw[M,(Xau i).sn]
 omega
end Go.Proofs.YtcmjannkbdflmaaGreatDoor
namespace Go.Proofs.YtcmjannkbdflmaaGreatDoor.R1
open Go Go.Vm Go.Num Go.Proofs.YtcmjannkbdflmaaGreatDoor
theorem Format_ok{z:Int}(Q:(dig z.natAbs).length<=549755813888): C0 153 [.d (dz z)] (·=.d (.str (tx z))):=by
 have O:=Xi3 z.natAbs
 refine En Tryz.func153 λ_ _ _=>?_
 refine Ce rfl (Norm_ok (by omega))<|Lo (λ((q,s):Nat×List UInt8)=>[(1,.ptr 1 0),(3,.d (.str s)),(4,.d (ws (dig q)))]) (λ_=>[(1,.var (.d (dz z)))]) (λ(q,s)=>q<=z.natAbs/\(q≠0->dec z.natAbs=dec q++s)/\(q=0->s=if z=0 then [] else dec z.natAbs)) (λ(q,_)=>q) (z.natAbs,[]) [] rfl ⟨W0c _,λ_=>by simp,λh=>by rw[if_pos (by omega)]⟩ ?_ (by exact⟨rfl,rfl,rfl,rfl,rfl⟩)
 rintro⟨q,s⟩ ⟨hq,A,j⟩
 have I:(dig q).length<=549755813888:=W0l (Xan hq) Q
 refine By rfl (λh=>?_) λh=>?_<;>simp only[lw] at h
 . have o:q≠0:=λe=>by rw[e,Xaj] at h;simp at h
   have A:=A o
   refine Ce rfl (Yl6 (y:=10) I (by decide) (by decide)) ?_
   have U:q%10<10:=W2b _ (by decide)
   refine Ar ((48+q%10:Nat):Int) rfl ?_ (wr (by omega) (by simp only[inK];omega))
   refine Go.Vm.Cv (48+q%10:Nat) rfl ?_ (wr (by omega) (by simp only[inK];omega))
   refine Bs [UInt8.ofNat (48+q%10)] rfl rfl ?_
   have T:s.length<(dec z.natAbs).length:=by rw[A,W0d];have:=Xl9 q;omega
   refine Sc (UInt8.ofNat (48+q%10)::s) rfl rfl (by simp;omega) ?_
   refine Bk (q/10,UInt8.ofNat (48+q%10)::s) [] rfl ⟨by omega,λB=>?_,λB=>?_⟩ (by show q/10<q;omega) (by exact⟨rfl,rfl,rfl,rfl,rfl⟩)
   . rw[A,Xd4 (n:=q) (by omega)];simp
   . rw[A,if_neg (by omega),Xb9 (n:=q) (by omega),W3v (by omega)];rfl
 . have o:q=0:=Xtv.1 (W0n (by omega))
   subst o
   have j:=j rfl
   refine By rfl (λB=>?_) λB=>?_
   . refine R1 rfl (.eq ?_)
     have i:z=0:=W1g λi=>by
      rw[if_neg i] at j;exact Xn1 _ (j.symm.trans B)
     subst i
     rw[tx,if_neg (by decide),Xb9 (by decide)];rfl
   . have i:z≠0:=λe=>B (by rw[j,if_pos e])
     rw[if_neg i] at j
     subst j
     refine By rfl (λM=>?_) λM=>?_
     . refine Sc (45::dec z.natAbs) rfl rfl (by simp;omega) ?_
       refine R1 rfl (.eq ?_)
       rw[tx,if_pos (by simpa using M)];rfl
     . refine R1 rfl (.eq ?_)
       rw[tx,if_neg (by simpa using M)];rfl
end Go.Proofs.YtcmjannkbdflmaaGreatDoor.R1
namespace Go.Proofs.YtcmjannkbdflmaaGreatDoor.R11
open Go Go.Vm Go.Num Go.Proofs.YtcmjannkbdflmaaGreatDoor
section
theorem Xum{z:Int}(h:z<0): tx z=45::dec z.natAbs:=by rw[tx,if_pos h];rfl
theorem Xul{z:Int}(h:¬z<0): tx z=dec z.natAbs:=by rw[tx,if_neg h];rfl
theorem Yh2{z:Int}{k:Nat}(Z:(dig z.natAbs).length<=549755813888)(hk:k<=1000): C0 80 [.d (dz z),.d (.int .i64 k)] (·=.d (.str (txt z k))):=by
 have A:=Xi3 z.natAbs
 have B:=Xle k (dec z.natAbs)
 have Q:=Xl9 z.natAbs
 obtain⟨d,hd⟩:∃d,d=dec z.natAbs:=⟨_,rfl⟩
 rw[<-hd] at A B Q
 obtain⟨s,hs⟩:∃s,s=tx z:=⟨_,rfl⟩
 obtain⟨sg,i⟩:∃sg:List UInt8,sg=if z<0 then [45] else []:=⟨_,rfl⟩
 have hsl:sg.length<=1:=by rw[i];split<;>simp
 have o:s=sg++d:=by rw[hs,i,hd];rfl
 obtain⟨x,I⟩:∃x,s[0]?=some x:=⟨_,W0a (by rw[o];simp;omega)⟩
 refine En Tryz.func80 λ_ _ _=>?_
 refine Ce rfl (show C0 _ _ (·=.d (.str s)) by rw[hs];exact R1.Format_ok Z)<|Yx 0 x rfl I ?_
 refine Cu none (λ(_:Unit)=>[(1,.d (.int .i64 k)),(5,.d (.str d)),(6,.d (.str sg))]) (λ_=>[]) (λ_=>True) rfl ?_ λ_ _=>?_
 . refine By rfl (λh=>?_) λh=>?_
   . have M:z<0:=W1g λT=>by
      rw[if_neg T] at i
      rw[o,i,hd] at I
      have:=(Xx3 z.natAbs x (W0e I)).1
      omega
     rw[if_pos M] at i
     subst i
     refine Dw rfl<|Sdp 1 d rfl (by rw[o];simp) (by rw[o];rfl) ?_
     exact Jn () [] rfl trivial
   . have O:¬z<0:=λT=>h (by
      rw[if_pos T] at i
      rw[o,i] at I
      have:x=45:=by simpa using I.symm
      rw[this];rfl)
     rw[if_neg O] at i
     subst i
     clear hs
     subst o
     exact Jn () [] rfl trivial
 have Y:=A
 refine Lo (λ(j:Nat)=>[(1,.d (.int .i64 k)),(5,.d (.str (List.replicate j 48++d))),(6,.d (.str sg))]) (λ_=>[]) (λj=>j<=k+1-d.length) (λj=>k+1-d.length-j) 0 [] rfl (W0s _) ?_ (by exact⟨rfl,rfl,rfl,rfl,rfl⟩)
 intro j hj
 have U:(List.replicate j (48:UInt8)++d).length=j+d.length:=by simp
 refine By rfl (λh=>?_) λh=>?_<;>rw[U] at h
 . refine Sc (List.replicate (j+1) 48++d) rfl (by simp[W3p]) (by rw[U];simp;omega) ?_
   exact Bk (j+1) [] rfl (by omega) (by omega) (by exact⟨rfl,rfl,rfl,rfl,rfl⟩)
 . have V:j=k+1-d.length:=by omega
   subst V
   have hp:List.replicate (k+1-d.length) 48++d=pad k d:=rfl
   obtain⟨q,hq⟩:∃q,q=pad k d:=⟨_,rfl⟩
   rw[hp,<-hq] at U |-
   rw[<-hq] at B
   refine By rfl (λh0=>?_) λh0=>?_
   . refine Sc (sg++q) rfl rfl (by omega) ?_
     refine R1 rfl (.eq ?_)
     have:k=0:=by omega
     subst this
     rw[txt,<-i,<-hd,<-hq,pt,if_pos rfl]
   . refine Ar ((q.length-k:Nat):Int) rfl ?_
     refine Dw rfl<|Stk (q.length-k) _ rfl (by omega) rfl ?_
     refine Sc (sg++q.take (q.length-k)) rfl rfl (by simp;omega) ?_
     refine Sc (sg++q.take (q.length-k)++[46]) rfl rfl (by simp;omega) ?_
     refine Sdp (q.length-k) _ rfl (by omega) rfl ?_
     refine Sc (sg++q.take (q.length-k)++[46]++q.drop (q.length-k)) rfl rfl (by simp;omega) ?_
     refine R1 rfl (.eq ?_)
     rw[txt,<-i,<-hd,<-hq,pt,if_neg (by omega)]
     simp
end
section
theorem Places_ok{s:List UInt8}(hs:Tx s): C0 84 [.d (.str s)] (·=.d (.int .i64 (plc s))):=by
 refine En Tryz.func84 λ_ _ _=>?_
 refine By rfl (λh=>?_) λh=>?_
 . refine R1 rfl (.eq ?_)
   unfold plc prs;rw[if_pos (by omega)]
 have h400:s.length<=400:=by omega
 refine Cu (some 4) (λ(i:Bool)=>[(0,.d (.str s)),(3,.d (.int .i64 0)),(19,.b i)]) (λ_=>[]) (λi=>(∃r,s=sgB i++r)/\(i=false->s.head?≠some 45)) rfl ?_ ?_
 . refine By rfl (λh0=>?_) λh0=>?_
   . obtain⟨x,t,T⟩:∃x t,s=x::t:=by
      cases s with
      | nil=>simp at h0
      | cons x t=>exact⟨x,t,rfl⟩
     refine Yx 0 x rfl (by rw[T];rfl) ?_
     by_cases B:x=45
     . refine Jn true [] rfl ⟨⟨t,by rw[T,B];rfl⟩,nofun⟩ (by exact⟨by rw[show dc ((x.toNat:Int)=45)=true from Xal.2 (by rw[B];rfl)];rfl,rfl,rfl,rfl,rfl⟩)
     . refine Jn false [] rfl ⟨⟨s,rfl⟩,λ_ e=>by rw[T] at e;injection e with e;exact B e⟩ (by exact⟨by rw[show dc ((x.toNat:Int)=45)=false from W2p.2 λe=>B (Xfo (Xal.1 e))];rfl,rfl,rfl,rfl,rfl⟩)
   . refine Jn false [] rfl ⟨⟨s,rfl⟩,λ_ e=>?_⟩
     cases s with
     | nil=>cases e
     | cons x t=>simp at h0
 rintro i ⟨hq,hng⟩
 refine Cu none (λ(_:Unit)=>[(0,.d (.str s)),(3,.d (.int .i64 (sgB i).length))]) (λ_=>[]) (λ_=>True) rfl ?_ ?_
 . cases i with
   | true =>
    refine Yes rfl rfl<|Ar 1 rfl ?_
    exact Jn () [] rfl trivial
   | false =>
    exact No rfl nofun<|Jn () [] rfl trivial
 intro _ _
 obtain⟨q,hq⟩:=hq
 have hsl:(sgB i).length<=1:=by unfold sgB;split<;>simp
 refine Cu (some 1000000) (λ((a,r,zb):List UInt8×List UInt8×Bool)=>[(0,.d (.str s)),(3,.d (.int .i64 ((sgB i).length+a.length:Nat))),(4,.d (.int .i64 (sgB i).length)),(5,.b zb)]) (λ_=>[]) (λ(a,r,zb)=>s=sgB i++(a++r)/\a.all isD=true/\zb=z0 a/\Ym2 r) rfl ?_ ?_
 . refine Lo (λ((a,r,zb):List UInt8×List UInt8×Bool)=>[(0,.d (.str s)),(3,.d (.int .i64 ((sgB i).length+a.length:Nat))),(4,.d (.int .i64 (sgB i).length)),(5,.b zb)]) (λ_=>[]) (λ(a,r,zb)=>s=sgB i++(a++r)/\a.all isD=true/\zb=z0 a) (λ(_,r,_)=>r.length) ([],q,true) [] rfl ⟨hq,rfl,rfl⟩ ?_ (by exact⟨rfl,rfl,rfl,rfl,rfl⟩)
   rintro⟨a,r,zb⟩ ⟨j,had,I⟩
   have U:s.length=(sgB i).length+(a.length+r.length):=by rw[j];simp
   cases r with
   | nil =>
    simp only[W3e] at U
    exact No rfl (by omega)<|Jn (a,[],zb) [] rfl ⟨j,had,I,λx t e=>by cases e⟩
   | cons x t =>
    simp only[W0j] at U
    have T:s[(sgB i).length+a.length]?=some x:=by
     rw[j,W0o (by omega),W3r,W0o (W0c _),W2v];rfl
    refine Yes rfl (by omega)<|Yx ((sgB i).length+a.length) x rfl T ?_
    refine By rfl (λB=>?_) λB=>?_
    . refine Yx ((sgB i).length+a.length) x rfl T ?_
      refine By rfl (λM=>?_) λM=>?_
      . have hxd:isD x=true:=Yos.2 ⟨by omega,by omega⟩
        have had':(a++[x]).all isD=true:=by simp[had,hxd]
        have hsr':s=sgB i++((a++[x])++t):=by rw[j];simp
        have hl':(a++[x]).length=a.length+1:=by simp
        refine By rfl (λV=>?_) λV=>?_
        . refine Yx ((sgB i).length+a.length) x rfl T ?_
          refine Ar ((sgB i).length+(a++[x]).length:Nat) rfl ?_
          refine Bk (a++[x],t,dc ((x.toNat:Int)=48)) [] rfl ⟨hsr',had',?_⟩ (by show t.length<t.length+1;omega) (by exact⟨rfl,rfl,rfl,rfl,rfl⟩)
          rw[Xhn,<-I,V,W6h]
          exact W4h.2 (Xal.trans ⟨λe=>beq_iff_eq.2 (Xfo e),λe=>by rw[beq_iff_eq.1 e];rfl⟩)
        . refine Ar ((sgB i).length+(a++[x]).length:Nat) rfl ?_
          refine Bk (a++[x],t,false) [] rfl ⟨hsr',had',?_⟩ (by show t.length<t.length+1;omega) (by exact⟨rfl,rfl,rfl,rfl,rfl⟩)
          rw[Xhn,<-I,W2p.2 V,W8h]
      . exact Jn (a,x::t,zb) [] rfl ⟨j,had,I,λy u e=>by cases e;exact W2p.2 λe=>M (by have:=(Yos.1 e).2;omega)⟩
    . exact Jn (a,x::t,zb) [] rfl ⟨j,had,I,λy u e=>by cases e;exact W2p.2 λe=>B (by have:=(Yos.1 e).1;omega)⟩
 rintro⟨a,r,zb⟩ ⟨j,had,I,hend⟩
 have U:s.length=(sgB i).length+(a.length+r.length):=by rw[j];simp
 have A:=Xjw h400 j hng had hend
 refine Cu (some 11) (λ(bad:Bool)=>[(0,.d (.str s)),(3,.d (.int .i64 ((sgB i).length+a.length:Nat))),(4,.d (.int .i64 (sgB i).length)),(5,.b zb),(62,.b bad)]) (λ_=>[]) (λbad=>bad=true↔(a=[]\/(1<a.length/\a.head?=some 48))) rfl ?_ ?_
 . refine By rfl (λB=>?_) λB=>?_
   . exact Jn true [] rfl ⟨λ_=>.inl (W2k.1 (by omega)),λ_=>rfl⟩
   . have ha0:a≠[]:=λe=>B (by rw[e];simp)
     refine Ar ((sgB i).length+1:Nat) rfl ?_
     refine By rfl (λM=>?_) λM=>?_
     . obtain⟨x,t,T⟩:∃x t,a=x::t:=by
        cases a with
        | nil=>exact absurd rfl ha0
        | cons x t=>exact⟨x,t,rfl⟩
       refine Yx (sgB i).length x rfl (by rw[j,W0o (W0c _),W2v,T];rfl) ?_
       refine Jn (dc ((x.toNat:Int)=48)) [] rfl (Xal.trans ⟨λe=>.inr ⟨by omega,by rw[T,show x=48 from Xfo e];rfl⟩,λe=>?_⟩)
       rcases e with e | ⟨_,e⟩
       . exact absurd e ha0
       . rw[T] at e;injection e with e;rw[e];rfl
     . exact Jn false [] rfl ⟨nofun,λe=>e.elim (λe=>absurd e ha0) λe=>absurd e.1 (by omega)⟩
 intro bad hbad
 refine By rfl (λB=>?_) λB=>?_
 . refine R1 rfl (.eq ?_)
   unfold plc
   rw[A,if_pos (hbad.1 B)]
 rw[if_neg λe=>B (hbad.2 e)] at A
 have ha0:a≠[]:=λe=>B (hbad.2 (.inl e))
 obtain⟨x0,hx0,hx45⟩:∃x0,s[0]?=some x0/\(x0=45↔i=true):=by
  cases i with
  | true=>exact⟨45,by rw[j];rfl,by simp⟩
  | false =>
   cases hs0:s with
   | nil=>rw[hs0] at j;cases a with
    | nil=>exact absurd rfl ha0
    | cons y a=>cases j
   | cons y t =>
    refine⟨y,rfl,λe=>?_,nofun⟩
    have:=hng rfl
    rw[hs0,e] at this
    exact absurd rfl this
 have hfin:∀(zz:Bool),(zz=true/\(x0.toNat:Int)=45)↔(i&&zz)=true:=λzz=>by
  rw[W0h]
  exact⟨λ⟨B,M⟩=>⟨hx45.1 (Xfo M),B⟩,λ⟨B,M⟩=>⟨M,by rw[hx45.2 B];rfl⟩⟩
 cases r with
 | nil =>
  simp only[W3e] at U
  refine No rfl (by omega)<|No rfl (by omega)<|By rfl (λM=>?_) λM=>?_
  . refine Yx 0 x0 rfl hx0 ?_
    refine By rfl (λV=>?_) λV=>?_
    . refine R1 rfl (.eq ?_)
      unfold plc
      rw[A,prT,<-I,if_pos ((hfin zb).1 ⟨M,V⟩)]
    . refine R1 rfl (.eq ?_)
      unfold plc
      rw[A,prT,<-I,if_neg λe=>V ((hfin zb).2 e).2];rfl
  . refine R1 rfl (.eq ?_)
    unfold plc
    rw[A,prT,<-I,if_neg λe=>M ((hfin zb).2 e).1];rfl
 | cons x t =>
  simp only[W0j] at U
  have T:s[(sgB i).length+a.length]?=some x:=by
   rw[j,W0o (by omega),W3r,W0o (W0c _),W2v];rfl
  refine Yes rfl (by omega)<|Yx ((sgB i).length+a.length) x rfl T ?_
  refine By rfl (λM=>?_) λM=>?_
  . have hx46:x=46:=Xfo M
    refine Ar ((sgB i).length+a.length+1:Nat) rfl ?_
    subst hx46
    refine Cu (some 1000002) (λ((b,r,z):List UInt8×List UInt8×Bool)=>[(0,.d (.str s)),(3,.d (.int .i64 ((sgB i).length+a.length+1+b.length:Nat))),(5,.b z),(6,.d (.int .i64 b.length))]) (λ_=>[]) (λ(b,r,z)=>t=b++r/\b.all isD=true/\z=z0 (a++b)/\Ym2 r) rfl ?_ ?_
    . refine Lo (λ((b,r,z):List UInt8×List UInt8×Bool)=>[(0,.d (.str s)),(3,.d (.int .i64 ((sgB i).length+a.length+1+b.length:Nat))),(5,.b z),(6,.d (.int .i64 b.length))]) (λ_=>[]) (λ(b,r,z)=>t=b++r/\b.all isD=true/\z=z0 (a++b)) (λ(_,r,_)=>r.length) ([],t,zb) [] rfl ⟨rfl,rfl,by rw[W3f];exact I⟩ ?_ (by exact⟨rfl,rfl,rfl,rfl,rfl⟩)
      rintro⟨b,r,z⟩ ⟨o,hbd,hz⟩
      have Y:t.length=b.length+r.length:=by rw[o];simp
      cases r with
      | nil =>
       simp only[W3e] at Y
       exact No rfl (by omega)<|Jn (b,[],z) [] rfl ⟨o,hbd,hz,λx t e=>by cases e⟩
      | cons x r =>
       simp only[W0j] at Y
       have T:s[(sgB i).length+a.length+1+b.length]?=some x:=by
        rw[j,W0o (by omega),W0o (by omega),show (sgB i).length+a.length+1+b.length-(sgB i).length-a.length=b.length+1 by omega,List.getElem?_cons_succ,o,W0o (W0c _),W2v];rfl
       refine Yes rfl (by omega)<|Yx ((sgB i).length+a.length+1+b.length) x rfl T ?_
       refine By rfl (λB=>?_) λB=>?_
       . refine Yx ((sgB i).length+a.length+1+b.length) x rfl T ?_
         refine By rfl (λM=>?_) λM=>?_
         . have hxd:isD x=true:=Yos.2 ⟨by omega,by omega⟩
           have hbd':(b++[x]).all isD=true:=by simp[hbd,hxd]
           have hbr':t=(b++[x])++r:=by rw[o];simp
           have hl':(b++[x]).length=b.length+1:=by simp
           refine By rfl (λV=>?_) λV=>?_
           . refine Yx ((sgB i).length+a.length+1+b.length) x rfl T ?_
             refine Ar ((sgB i).length+a.length+1+(b++[x]).length:Nat) rfl ?_
             refine Ar ((b++[x]).length:Nat) rfl ?_
             refine Bk (b++[x],r,dc ((x.toNat:Int)=48)) [] rfl ⟨hbr',hbd',?_⟩ (by show r.length<r.length+1;omega) (by exact⟨rfl,rfl,rfl,rfl,rfl⟩)
             rw[<-W2j,Xhn,<-hz,V,W6h]
             exact W4h.2 (Xal.trans ⟨λe=>beq_iff_eq.2 (Xfo e),λe=>by rw[beq_iff_eq.1 e];rfl⟩)
           . refine Ar ((sgB i).length+a.length+1+(b++[x]).length:Nat) rfl ?_
             refine Ar ((b++[x]).length:Nat) rfl ?_
             refine Bk (b++[x],r,false) [] rfl ⟨hbr',hbd',?_⟩ (by show r.length<r.length+1;omega) (by exact⟨rfl,rfl,rfl,rfl,rfl⟩)
             rw[<-W2j,Xhn,<-hz,W2p.2 V,W8h]
         . exact Jn (b,x::r,z) [] rfl ⟨o,hbd,hz,λy u e=>by cases e;exact W2p.2 λe=>M (by have:=(Yos.1 e).2;omega)⟩
       . exact Jn (b,x::r,z) [] rfl ⟨o,hbd,hz,λy u e=>by cases e;exact W2p.2 λe=>B (by have:=(Yos.1 e).1;omega)⟩
    rintro⟨b,r,z⟩ ⟨o,hbd,hz,hend2⟩
    have Y:t.length=b.length+r.length:=by rw[o];simp
    have hall:r≠[]->¬(t≠[]/\t.all isD=true):=λhr ⟨_,h⟩=>by
     cases r with
     | nil=>exact hr rfl
     | cons y r =>
      rw[o,W5i,W0h,W6i,W0h,hend2 y r rfl] at h
      cases h.2.1
    refine By rfl (λV=>?_) λV=>?_
    . refine R1 rfl (.eq ?_)
      have hb:b=[]:=W2k.1 (by omega)
      unfold plc
      rw[A,prT,if_neg λe=>?_]
      cases hr:r with
      | nil=>rw[hb,hr] at o;exact e.2.1 o
      | cons y u=>exact hall (by rw[hr];nofun) ⟨e.2.1,e.2.2.1⟩
    . cases hr:r with
      | cons y u =>
       rw[hr] at Y
       simp only[W0j] at Y
       refine Yes rfl (by omega)<|R1 rfl (.eq ?_)
       unfold plc
       rw[A,prT,if_neg λe=>hall (by rw[hr];nofun) ⟨e.2.1,e.2.2.1⟩]
      | nil =>
       rw[hr] at Y
       simp only[W3e] at Y
       have Z:t=b:=by rw[o,hr,W3f]
       refine No rfl (by omega) ?_
       have O:(t≠[]/\t.all isD=true):=⟨λe=>by rw[<-Z,e] at V;exact V rfl,by rw[Z];exact hbd⟩
       have Q:=hfin z
       rw[hz,<-Z] at Q
       refine By rfl (λh4=>?_) λh4=>?_
       . refine Yx 0 x0 rfl hx0 ?_
         refine By rfl (λh5=>?_) λh5=>?_
         . refine R1 rfl (.eq ?_)
           unfold plc
           rw[A,prT,if_neg λe=>by
            have:=Q.1 ⟨by rw[Z,<-hz];exact h4,h5⟩
            rw[e.2.2.2] at this;cases this]
         . refine R1 rfl (.eq ?_)
           unfold plc
           rw[A,prT,if_pos ⟨rfl,O.1,O.2,W2p.2 λe=>h5 (Q.2 e).2⟩,Z]
       . refine R1 rfl (.eq ?_)
         unfold plc
         rw[A,prT,if_pos ⟨rfl,O.1,O.2,W2p.2 λe=>h4 (by have:=(Q.2 e).1;rw[hz,<-Z];exact this)⟩,Z]
  . refine Yes rfl (by omega)<|R1 rfl (.eq ?_)
    unfold plc
    rw[A,prT,if_neg λe=>M (by rw[e.1];rfl)]
end
section
theorem p10(n:Nat): Zs (4*n+1) (10^n:Int):=by
 have:(10^n:Int)=((10^n:Nat):Int):=by simp
 rw[this]
 show 10^n<2^(4*n+1)
 have h:10^n<=16^n:=W6f (by decide) n
 have i:2^(4*n+1)=16^n*2:=by rw[W0q,W5a]
 have j:0<16^n:=W6u (by decide)
 omega
theorem di1(n:Int): Rat.divInt n 1=(n:Rat):=by
 rw[W3j]
 have:((1:Int):Rat)=1:=rfl
 grind
def pw(b:Nat): Rat:=((2^b:Int):Rat)
theorem Xcz{n:Nat}(h:n<=400): C0 162 [.d (.int .i64 n)] (·=.d (dq ((10^n:Int):Rat))):=by
 refine En Tryz.func162 λ_ _ _=>?_
 exact Ce rfl (R1.FromInt_ok (z:=10) (by decide))<|Ce rfl (R1.Pow_ok (z:=10) (q:=4) (by unfold Zs;decide) (by omega) (by decide))<|Dw rfl<|Ce rfl (R1.FromInt_ok (z:=1) (by decide))<|Ce rfl (R2.Make_ok (p:=4*n+1) (p10 n) (Zs.one (by omega)) (by omega) (by decide))<|R1 rfl (.eq (by rw[di1]))
def dq0: D:=.st (.pr (dS false []) (dS false []))
theorem Yrn{s a r:List UInt8}{ng:Bool}(h:s=sgB ng++(a++r))(j:a≠[])(i:a.all isD=true): ∃o,s[0]?=some o/\(o=45↔ng=true):=by
 cases ng with
 | true=>exact⟨45,by rw[h];rfl,by simp⟩
 | false =>
  cases a with
  | nil=>exact absurd rfl j
  | cons y a =>
   refine⟨y,by rw[h];rfl,λe=>?_,nofun⟩
   rw[e,W6i,W0h] at i
   exact absurd i.1 (by decide)
theorem Qn{n i:Nat}(h:n<10^i)(hi:i<=400): Qs 1601 ((n:Int):Rat):=by
 have:=p10 i
 have e:(10^i:Int)=((10^i:Nat):Int):=by simp
 rw[e] at this
 have j:Zs (4*i+1) (n:Int):=Nat.lt_trans h this
 exact Qs.int (j.mono (by omega)) (by decide)
theorem Parse_yes{s a b:List UInt8}{ng:Bool}(hs:Tx s)(h:prs s=some (ng,a,b)): C0 85 [.d (.str s)] (·=.tup (.pr (.d (dq (fr ng a b))) (.d (.int .i64 0)))):=by
 obtain⟨h400,B,ha0,U,hbd⟩:=Xrp h
 have hp:plc s=(b.length:Int):=by unfold plc;rw[h]
 have hbl:b.length<=s.length:=by rw[B];unfold ptB;split<;>simp_all<;>omega
 obtain⟨pt,I⟩:=Ya2 B U hbd
 refine En Tryz.func85 λ_ _ _=>?_
 refine Ce rfl (show C0 _ _ (·=.d (.int .i64 (b.length:Int))) by rw[<-hp];exact Places_ok hs)<|No rfl (by omega)<|Ce rfl (R2.FromInt_ok (z:=0) (by decide))<|Lo (λ((i,n,p,pt):Nat×Nat×Nat×Bool)=>[(0,.d (.str s)),(2,.ptr 2 0),(4,.ptr 4 0),(5,.d (.int .i64 p)),(6,.b pt),(7,.d (.int .i64 i))]) (λ(i,n,p,pt)=>[(4,.var (.d (dq ((n:Int):Rat)))),(2,.var (.st (.pr (.st (.pr (.b false) .nil)) (.st (.pr (.b false) .nil)))))])
  (λ(i,n,p,pt)=>i<=s.length/\p<=i/\n<10^i/\(s.take i).foldl stp (0,0,false)=(n,p,pt)) (λ(i,_)=>s.length-i) (0,0,0,false) [] rfl ⟨W0s _,W0c _,by decide,rfl⟩ ?_ (by exact⟨rfl,rfl,rfl,rfl,rfl⟩)
 rintro⟨i,n,p,pt⟩ ⟨hi,hpi,hn,M⟩
 refine By rfl (λhlt=>?_) λhlt=>?_
 . obtain⟨x,T⟩:∃x,s[i]?=some x:=⟨_,W0a (by omega)⟩
   have j:(s.take (i+1)).foldl stp (0,0,false)=stp (n,p,pt) x:=by
    rw[W1c,T,W7n,M];rfl
   have O:n<10^(i+1):=W0u hn (W0m (by decide) (by omega))
   refine Yx i x rfl T ?_
   refine By rfl (λQ=>?_) λQ=>?_
   . have o:x=46:=Xfo Q
     have e:stp (n,p,pt) x=(n,p,true):=by rw[stp,if_pos o]
     refine Yx i x rfl T ?_
     refine No rfl (by omega)<|Ar (i+1:Nat) rfl ?_
     exact Bk (i+1,n,p,true) [] rfl ⟨by omega,by omega,O,by rw[j,e]⟩ (by show s.length-(i+1)<s.length-i;omega) (by exact⟨rfl,rfl,rfl,rfl,rfl⟩)
   . have o:¬x=46:=λe=>Q (by rw[e];rfl)
     have e0:¬isD x=true->stp (n,p,pt) x=(n,p,pt):=λhd=>by rw[stp,if_neg o,if_neg hd]
     refine Yx i x rfl T ?_
     refine By rfl (λh2=>?_) λh2=>?_
     . refine Yx i x rfl T ?_
       refine By rfl (λh3=>?_) λh3=>?_
       . have hxd:isD x=true:=Yos.2 ⟨by omega,by omega⟩
         have e:stp (n,p,pt) x=(10*n+(x.toNat-48),if pt then p+1 else p,pt):=Xuy hxd _
         have V:10*n+(x.toNat-48)<10^(i+1):=by rw[W0q];omega
         have q1:=Qn hn (by omega)
         have q2:Qs 4 ((10:Int):Rat):=Qs.int (by unfold Zs;decide) (by decide)
         have q3:Qs 8 (((x.toNat-48:Nat):Int):Rat):=Qs.int (by show x.toNat-48<2^8;omega) (by decide)
         have q4:Qs 1606 (((n:Int):Rat)*((10:Int):Rat)):=by
          have e5:((n:Int):Rat)*((10:Int):Rat)=(((10*n:Nat):Int):Rat):=by rw[<-W3z];congr 1;omega
          rw[e5]
          exact(Qn (n:=10*n) (i:=i+1) (by rw[W0q];omega) (by omega)).mono (by decide)
         have Y:C0 159 [.d (dq (((n:Int):Rat)*((10:Int):Rat))),.d (dq (((x.toNat-48:Nat):Int):Rat))] (·=.d (dq (((10*n+(x.toNat-48):Nat):Int):Rat))):=by
          have e5:((n:Int):Rat)*((10:Int):Rat)+(((x.toNat-48:Nat):Int):Rat)=(((10*n+(x.toNat-48):Nat):Int):Rat):=by rw[<-W3z,<-W4a];congr 1;omega
          rw[<-e5]
          exact R2.Add_ok q4 q3 (by decide)
         refine Dw rfl<|Ce rfl (R2.FromInt_ok (z:=10) (by decide))<|Ce rfl (R2.Mul_ok q1 q2 (by decide))<|Yx i x rfl T ?_
         refine Ar ((x.toNat-48:Nat):Int) rfl ?_
         refine Go.Vm.Cv ((x.toNat-48:Nat):Int) rfl ?_
         refine Ce rfl (R2.FromInt_ok (z:=((x.toNat-48:Nat):Int)) (by omega))<|Ce rfl Y<|By rfl (λh4=>?_) λh4=>?_
         . refine Ar (p+1:Nat) rfl ?_
           refine Ar (i+1:Nat) rfl ?_
           exact Bk (i+1,10*n+(x.toNat-48),p+1,pt) [] rfl ⟨by omega,by omega,V,by rw[j,e,if_pos h4]⟩ (by show s.length-(i+1)<s.length-i;omega) (by exact⟨rfl,rfl,rfl,rfl,rfl⟩)
         . refine Ar (i+1:Nat) rfl ?_
           exact Bk (i+1,10*n+(x.toNat-48),p,pt) [] rfl ⟨by omega,by omega,V,by rw[j,e,if_neg h4]⟩ (by show s.length-(i+1)<s.length-i;omega) (by exact⟨rfl,rfl,rfl,rfl,rfl⟩)
       . refine Ar (i+1:Nat) rfl ?_
         exact Bk (i+1,n,p,pt) [] rfl ⟨by omega,by omega,O,by rw[j,e0 λh=>h3 (by have:=(Yos.1 h).2;omega)]⟩ (by show s.length-(i+1)<s.length-i;omega) (by exact⟨rfl,rfl,rfl,rfl,rfl⟩)
     . refine Ar (i+1:Nat) rfl ?_
       exact Bk (i+1,n,p,pt) [] rfl ⟨by omega,by omega,O,by rw[j,e0 λh=>h2 (by have:=(Yos.1 h).1;omega)]⟩ (by show s.length-(i+1)<s.length-i;omega) (by exact⟨rfl,rfl,rfl,rfl,rfl⟩)
 . have hil:i=s.length:=by omega
   rw[hil,W1x,I] at M
   injection M with e1 e2
   injection e2 with e2 e3
   obtain⟨x0,hx0,A⟩:=Yrn B ha0 U
   have q1:Qs 1601 ((n:Int):Rat):=Qn hn (by omega)
   have q2:Qs 1601 ((10^p:Int):Rat):=Qs.int ((p10 p).mono (by omega)) (by decide)
   have Z:((10^p:Int):Rat)≠0:=λe=>by
    have h3:(10^p:Int)=0:=by exact_mod_cast e
    have h4:0<(10^p:Int):=W5x (by decide)
    omega
   have hdv:=R2.Div_ok q1 q2 (by decide) Z
   have q3:Qs 1601 (((n:Int):Rat)/((10^p:Int):Rat)):=by
    rw[<-W3j]
    exact Qs.divInt q1.n ((p10 p).mono (by omega)) (λe=>Z (by rw[e];rfl))
   refine Dw rfl<|Ce rfl (Xcz (n:=p) (by omega))<|Ce rfl hdv<|Yx 0 x0 rfl hx0 ?_
   refine By rfl (λQ=>?_) λQ=>?_
   . refine Ce rfl (R2.Neg_ok q3 (by decide))<|RTt rfl (.cons (.eq ?_) (.one (.rf rfl) (λ_ _ e=>by cases e) (λ_ _ e=>by cases e)))
     rw[fr,if_pos (A.1 (Xfo Q)),e1,e2];rfl
   . refine RTt rfl (.cons (.eq ?_) (.one (.rf rfl) (λ_ _ e=>by cases e) (λ_ _ e=>by cases e)))
     rw[fr,if_neg λe=>Q (by rw[A.2 e];rfl),e1,e2];rfl
end
end Go.Proofs.YtcmjannkbdflmaaGreatDoor.R11
namespace Go.Proofs.YtcmjannkbdflmaaGreatDoor.P11
open Go Go.Vm Go.Num Go.Tow Go.Proofs.YtcmjannkbdflmaaGreatDoor Go.Proofs.YtcmjannkbdflmaaGreatDoor.P9 Go.Proofs.YtcmjannkbdflmaaGreatDoor.R11
structure Pk (x:Nm):Prop where
 k:x.k<=3
 re:Xbm x.k x.t
 t:TS 300 x.k x.t
 mt:MgT 64 x.k x.t
 ml:MgL 64 (toL x.k x.a)\/(x.k=0/\MgL 1700 (toL x.k x.a))
theorem MgL.mono'{m n:Nat}{l:List Rat}(h:MgL m l)(i:m<=n): MgL n l:=λx j=>(h x j).mono i
theorem MgT.mono': ∀ {k m n:Nat} {t:Tw k},MgT m k t->m<=n->MgT n k t
 | 0,_,_,_,_,_=>trivial
 | _+1,_,_,_,h,i=>⟨MgT.mono' h.1 i,MgL.mono' h.2 i⟩
theorem Xtf{k n:Nat}{a:El k}(h:MgL n (toL k a))(j:k<=3/\n<=400\/k=0/\n<=3999): Sz 4000 (toL k a):=by
 refine(Sz.all h).mono ?_
 rw[Xab]
 rcases j with ⟨o,i⟩ | ⟨rfl,i⟩
 . have hp:2^k<=2^3:=W0m (by decide) o
   have:=W1z i hp
   omega
 . rw[Nat.pow_zero];omega
structure Scd (x:Nm) (u h:Rat):Prop where
 s1:Sz 4000 (toL x.k (mul x.k x.t x.a (rat x.k u)))
 s2:Sz 4000 (toL x.k (scl x.k x.t x.a u h))
 w1:Wid (bx x.k x.t (scl x.k x.t x.a u h) 2048) 1
 w2:∀b,1000000<=b->Wid (enc x.k x.t (scl x.k x.t x.a u h) b) 1
theorem Pk.sz{x:Nm}(H:Pk x): Sz 4000 (toL x.k x.a):=by
 rcases H.ml with h | ⟨h0,h⟩
 . exact Xtf h (.inl ⟨H.k,by decide⟩)
 . exact Xtf h (.inr ⟨h0,by decide⟩)
theorem Pk.sc{x:Nm}(H:Pk x){u h:Rat}(A:Qs 200 u)(B:Qs 2 h): Scd x u h:=by
 rcases H.ml with o | ⟨h0,o⟩
 . have j:=Xfw (t:=x.t) o A
   have i:=Xwl j (Xwk (k:=x.k) B (by decide))
   exact⟨Xtf j (.inl ⟨H.k,by decide⟩),Xtf i (.inl ⟨H.k,by decide⟩),Yhj H.re H.mt (MgL.mono' i (by decide)) H.k,Xix H.re (MgT.mono' H.mt (by decide)) (MgL.mono' i (by decide)) H.k (show 10000<=10000 by decide)⟩
 . have j:=Xfw (t:=x.t) o A
   have i:=Xwl j (Xwk (k:=x.k) B (by decide))
   refine⟨Xtf j (.inr ⟨h0,by decide⟩),Xtf i (.inr ⟨h0,by decide⟩),?_,Xix H.re (MgT.mono' H.mt (by decide)) (MgL.mono' i (by decide)) H.k (show 10000<=10000 by decide)⟩
   obtain⟨k,t,a⟩:=x
   obtain rfl:k=0:=h0
   exact(Xg1 (m:=64) (b:=2048) H.re H.mt i (show 0<eE 64 2048 0 _ by exact(by decide:0<2*2048-2))).mono (show 1<=2*2048-2 by decide)
theorem ten_qs{n:Nat}(h:n<=60): Qs 200 ((10^n:Int):Rat):=by
 have i:(10:Nat)^n<=10^60:=W0m (by decide) h
 refine Qs.int ?_ (by decide)
 show ((10:Int)^n).natAbs<2^200
 rw[W7j]
 exact W1y i (by decide)
theorem bnds{k:Nat}(i:k<=3): eB 4000 (2*(1000000+1+16)) k<=274877906944/\vB 4000 k (4000+eB 4000 (2*(1000000+1+16)) k+4)<=4398046511104/\vB 4000 k (4000+bB 4000 2048 k+4)<=4398046511104/\bB 4000 2048 k<=274877906944/\cB 300 k<=1000000000:=by
 have h:k=0\/k=1\/k=2\/k=3:=by omega
 rcases h with rfl | rfl | rfl | rfl<;>decide +kernel
theorem Xcz{n:Nat}(h:n<=400): C0 87 [.d (.int .i64 n)] (·=.d (dz (10^n))):=by
 refine En Tryz.func87 λ_ _ _=>?_
 exact Ce rfl (FromInt_ok (z:=10) (by decide))<|Ce rfl (Xxa (z:=10) (q:=4) (show (10:Int).natAbs<2^4 by decide) (by omega) (by decide))<|R1 rfl (.rf rfl)
theorem Xkm{z:Int}{p:Nat}(j:Zs p z)(hp:1<=p)(i:p<=8796093022208): C0 88 [.d (dz z)] (·=.d (dq (z:Rat))):=by
 have h:=Make_ok j (Zs.one hp) i (by decide)
 rw[Xi2] at h
 refine En Tryz.func88 λ_ _ _=>?_
 exact Dw rfl<|Ce rfl (FromInt_ok (z:=1) (by decide))<|Ce rfl h<|R1 rfl (.rf rfl)
theorem Xsk{x:Nm}{d:Nat}{h:Rat}(H:Pk x)(hd:d<=60)(j:Qs 2 h): C0 111 [.d (dN x),.d (.int .i64 d),.d (dq h)] λv=>∃z,v=.tup (.pr (.d (dz z)) (.d (.int .i64 0)))/\Xbp x.k x.t (scl x.k x.t x.a ((10^d:Int):Rat) h) z/\(dig z.natAbs).length<=274877906944:=by
 have i:=ten_qs hd
 have S:=H.sc i j
 obtain⟨A,B,O,Q,I⟩:=bnds H.k
 have o:Zs 200 (10^d:Int):=i.n
 refine En Tryz.func111 λ_ _ _=>?_
 refine No rfl (by omega)<|No rfl (by omega)<|Dw rfl<|Ce rfl (Xcz (by omega))<|Ce rfl (Xkm o (by decide) (by decide))<|Ce rfl (P9.FromRat_ok i (by decide))<|Ce rfl (Ymy H.t H.sz i (by have:=H.k;omega) (by decide) (by decide) (by decide) I)<|No rfl (by decide)<|Dw rfl<|Ce rfl (P9.FromRat_ok j (by decide))<|Ce rfl (Ypu (x:=⟨x.k,x.t,mul x.k x.t x.a (rat x.k ((10^d:Int):Rat))⟩) H.t S.s1 j (by have:=H.k;show x.k<=8;omega) (by decide) (by decide) (by decide))<|No rfl (by decide)<|Ca rfl (Xvd (P:=1000000) H.re S.w2 (H.t.mono (by decide)) S.s2 (by decide) (show x.k<=16 by have:=H.k;omega) (by decide) A B) λv M=>?_
 obtain⟨z,rfl,o⟩:=M
 exact Rt rfl (.tup (.cons (.rf rfl) Xav)) ⟨z,rfl,o⟩
theorem dz0: dz 0=dS false []:=by show D.st (.pr (.bool _) (ws (dig 0)))=_;rw[Xaj];rfl
theorem Floor_ok{x:Nm}{d:Nat}(H:Pk x)(hd:d<=60): C0 47 [.d (dN x),.d (.int .i64 d)] λv=>∃z,v=.tup (.pr (.d (dz z)) (.d (.int .i64 0)))/\Xbp x.k x.t (scl x.k x.t x.a ((10^d:Int):Rat) ((0:Int):Rat)) z/\(dig z.natAbs).length<=274877906944:=by
 refine En Tryz.func47 λ_ _ _=>?_
 refine Dw rfl<|Ce rfl (Xa4 (z:=0) (by decide))<|Ca rfl (Xsk H hd (Qs.int (z:=0) (show Int.natAbs 0<2^2 by decide) (by decide))) λv h=>?_
 obtain⟨z,rfl,i⟩:=h
 exact Rt rfl (.tup (.cons (.rf rfl) Xav)) ⟨z,rfl,i⟩
abbrev hf: Rat:=Rat.divInt 1 2
theorem hf_qs: Qs 2 hf:=⟨show hf.num.natAbs<2^2 by decide,show ((hf.den:Int)).natAbs<2^2 by decide⟩
theorem Round_ok{x:Nm}{d:Nat}(H:Pk x)(hd:d<=60): C0 62 [.d (dN x),.d (.int .i64 d)] λv=>∃z,v=.tup (.pr (.d (dz z)) (.d (.int .i64 0)))/\Xbp x.k x.t (scl x.k x.t x.a ((10^d:Int):Rat) hf) z/\(dig z.natAbs).length<=274877906944:=by
 refine En Tryz.func62 λ_ _ _=>?_
 refine Dw rfl<|Ce rfl (Xk9 (a:=1) (b:=2) (by decide) (by decide))<|Ca rfl (Xsk H hd hf_qs) λv h=>?_
 obtain⟨z,rfl,i⟩:=h
 exact Rt rfl (.tup (.cons (.rf rfl) Xav)) ⟨z,rfl,i⟩
end Go.Proofs.YtcmjannkbdflmaaGreatDoor.P11
namespace Go.Vm
open Go
abbrev cxM(P:Program)(gb:Gb P)(t:Tab P)(m:Mx P)(i:∀T ti,t.tb T=some ti->∀a c,ti.z≠.pr a c)(n:Nat)(j:n<=1000000)(fn:Func)(W:GW)(Q:AV->Prop)(o:gb.g W): Cx:=⟨P,gb,t.tb,λT ti h=>⟨t.ok T ti h,i T ti h⟩,m,n,j,W,λ_=>False,θe,bodyPostM Fence.wide 8 P fn (Ret W Q),o⟩
theorem EnM {P : Program} [gb : Gb P] [t : Tab P] [hp : Npr P] [m : Mx P] {f n : Nat} {fn : Func} {x : Code} {args : List AV} {Q : AV → Prop} (hf : P.funcs[f]? = some fn) (h : ∀ W hg hn, StP (cxM P gb t m hp.h n hn fn W Q hg) (.j [] [.c x] (Yik 0 args) [])) (hname : (fn.name == "runtime.NumGoroutine") = false := by exact rfl) (hb : fn.body = some x := by exact rfl)
 (hN:fn.ntmps=n:=by exact rfl) (hl:(Nat.ble args.length n&&Nat.ble n 1000000&&args.all Xlg)=true:=by exact rfl):C P f args Q:=by
 refine⟨⟨fn,hf,hname,by rw[hb];rfl⟩,λW vs hg ha=>(callsIn_wide (n:=8)).1 (callsIn_of_wp_marks hf hb trivial (wpIn_wide.2 ?_) rfl)⟩
 have h:=h W hg (by simp only[W0h] at hl;exact W1t hl.1.2)
 simp only[StP,sem,<-Xmd] at h
 simp only[W0h] at hl
 obtain⟨⟨hl1,hl2⟩,hl3⟩:=hl
 have hl1:=W1t hl1
 have hlen:=ha.len
 refine wp_mono (h _ W.w ⟨_,W,θe,rfl,⟨Fm.refl W _,⟨rfl,by simp[hN];omega,λt v ht=>?_⟩,⟨λo x h=>(by cases h),λo x b h=>(by cases h),λo o' x x' b h=>(by cases h),λo x i h=>(by cases h)⟩,λt v i ht hi=>?_⟩,λ_ _=>rfl,rfl⟩) λe a w h=>by cases e<;>exact h
 . obtain⟨_,u,h2,h3,_⟩:=Xoh ha ht
   rw[W7c] at h2
   have hlt:=Xbn h2
   rw[W0a hlt] at h2
   injection h2 with h2
   simp only[Array.getD]
   rw[dif_pos (by simp;omega)]
   simp[W6y,hlt,h2]
   exact h3
 . obtain⟨_,u,_,_,h4⟩:=Xoh ha ht
   exact absurd hi (Xlf (W1q.1 hl3 v h4) i)
theorem StP.rest2{c:Cx}{G:List (Nat×Bool)}{x y:Code}{E:Env}{H:Hpl}(h:∀a w,c.Nx (λs'=>s'=sem E H) a w->x.wp c.P (Exit.then (y.wp c.P c.fin) c.fin) a w): StP c (.j G [.c x,.c y] E H) :=
 λa w i=>wp_mono (h a w i) λe a w h=>by
  cases e with
  | normal=>exact wp_mono h λe a w h=>by cases e<;>exact h
  | _=>exact h
theorem Tl{c:Cx}{s:St}(id:Nat){G:List (Nat×Bool)}{x y:Code}{E:Env}{H:Hpl}(h:nxT c.tb c.n (some id) s=some (G,x,[.c y],E,H))(k:∀a w,c.Nx (λs'=>s'=sem E H) a w->x.wpIn Fence.wide 8 c.P (Exit.then (y.wpIn Fence.wide 8 c.P c.fin) c.fin) a w): StP c s:=by
 have i:StP c (.j G [.c x,.c y] E H):=StP.rest2 λa w o=>wp_mono (wpIn_wide.1 (k a w o)) λe a w h=>by
  cases e with
  | normal=>exact wpIn_wide.1 h
  | _=>exact h
 unfold nxT at h
 simp only at h
 split at h<;>cases h
 rename_i A
 exact Xgi 1000 (by rw[A];exact i)
theorem Xag{α:Type}{n:Nat}: ∀ {l:List α},l.length=n+1->∃t i,l=t::i/\i.length=n
 | t::i,h=>⟨t,i,rfl,by simpa using h⟩
end Go.Vm

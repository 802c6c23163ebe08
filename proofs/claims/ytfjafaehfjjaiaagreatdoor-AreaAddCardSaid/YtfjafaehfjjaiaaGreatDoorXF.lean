/- part 6 -/
import Derived.Test.YtfjafaehfjjaiaaGreatDoorXE
import Derived.Lib.Bytealg
import Derived.Shelf.Strings.AsciiSet
import Derived.RangeFuncLeaves
import Derived.ControlIn
import Derived.Shelf.Strings.BuilderK
import Derived.RangeFuncCalls
set_option linter.unusedVariables false
set_option linter.unusedSimpArgs false
set_option maxRecDepth 100000
set_option maxHeartbeats 4000000
namespace Go.Proofs.YtfjafaehfjjaiaaGreatDoor.P20
open Go Go.Vm Go.Num Go.Tow Go.Proofs.YtfjafaehfjjaiaaGreatDoor
open Go.Proofs.YtfjafaehfjjaiaaGreatDoor.P55 (v0 W0 g0 gv0 zw Xlp Qp)
structure Sn where
 c:Nm
 v:Vn
 f:Int
abbrev dSe(s:Sn): D:=.st (.pr (dN s.c) (dT s.v s.f))
abbrev dSs(l:List Sn): D:=.sl 7 (l.map dSe)
abbrev dAr(x:Nm)(l:List Sn): D:=.st (.pr (dN x) (dSs l))
abbrev dA0: D:=.st (.pr R9.n0 (dSs []))
abbrev zA: AV:=.st (.pr (.st (.pr .nil .nil)) .nil)
theorem Yj6{g:Hp}{K:Hpl}: Fit g K (.st (.pr (.st (.pr .nil .nil)) .nil)) (.d dA0):=.sd (.pd R9.fit0 (.nil rfl))
abbrev hf2: Rat:=Rat.divInt 1 2
theorem Xq9: Qs 64 hf2:=by decide +kernel
section
variable{K:Nat}{G:Tw K}{S:List (Tow.El K)}{N:List Nm}{n m:Nat}{x y z:Nm}{a b:Tow.El K}
variable{K':Nat}{G':Tw K'}{S':List (Tow.El K')}{N':List Nm}{u s:Vn}{p q:V2 K'}{f g:Int}
theorem Xsf(W:Wn G S N)(h:Gd G S N n x a)(i:n<=800): C0 35 [.d (dN x)] (·=.b (dc (sgn K G a>0))):=by
 refine En Tryz.func35 λ_ _ _=>?_
 refine Ce rfl (P9.Sign_g W h i) ?_
 exact R0
theorem Ycp(W:Wn G S N)(h:Gd G S N n x a)(i:Gd G S N m y b)(j:n<=400)(o:m<=400): C0 38 [.d (dN x),.d (dN y)] (·=.b (dc (sgn K G (Tow.add K a (Tow.neg K b))<0))):=by
 refine En Tryz.func38 λ_ _ _=>?_
 refine Ce rfl (P9.Cmp_g W h i j o) ?_
 refine Yes rfl (by decide) ?_
 exact R0
theorem Xgl: C0 53 [.d (dN x)] (·=.d (dAr x [])):=by
 refine En Tryz.func53 λ_ _ _=>?_
 exact R1 rfl (.sd (.pd (.rf rfl) (.nil rfl)))
theorem half_g(W:Wn G S N)(h:Gd G S N n x a)(o:n<=400): C0 55 [.d (dN x)] (OpG G S N (n+1) (Tow.mul K G a (Tow.rat K hf2))):=by
 refine En Tryz.func55 λ_ _ _=>?_
 refine Dw rfl ?_
 refine Ce rfl (Xcl (a:=1) (b:=2) (by decide) (by decide)) ?_
 refine Ce rfl (P9.FromRat_ok (q:=hf2) Xq9 (by decide)) ?_
 refine Ca rfl (P9.Mul_g W h (Gd.rat W Xq9) (by omega) (by decide)) λv i=>?_
 obtain⟨z,rfl,j⟩:=i
 exact Rt rfl (.tup (.cons (.rf rfl) Xa1)) ⟨z,rfl,j⟩
def ScG(G:Tw K)(S:List (Tow.El K))(N:List Nm)(n:Nat)(a:Tow.El K)(G':Tw K')(p:V2 K')(u:Vn)(f:Int)(r:AV): Prop :=
 (¬sgn K G a>0/\r=.tup (.pr (.d dA0) (.d (.int .i64 1))))\/(sgn K G a>0/\(f=0/\Xcz G' p)/\r=.tup (.pr (.d (dAr n00 [])) (.d (.int .i64 0)))) \/
 (sgn K G a>0/\¬(f=0/\Xcz G' p)/\∃z,r=.tup (.pr (.d (dAr n00 [⟨z,u,f⟩])) (.d (.int .i64 0)))/\Gd G S N n z (Tow.mul K G a (Tow.rat K hf2)))
theorem Xl6(W:Wn G S N)(W':Wn G' S' N')(j:Gd G S N n x a)(o:Gv G' S' N' m u p)(I:n<=400)(O:m<=800): C0 18 [.d (dN x),.d (dT u f)] (ScG G S N (n+1) a G' p u f):=by
 refine En Tryz.func18 λ_ _ _=>?_
 refine Ce rfl (Xsf W j (by omega)) ?_
 refine By rfl (λh=>?_) λh=>?_
 . have h:¬sgn K G a>0:=by simpa only [Xap,Xaj] using h
   exact Rt rfl (.tup (.cons Yj6 Xa1)) (.inl ⟨h,rfl⟩)
 have h:sgn K G a>0:=W2u.1 (by simpa only [Xap,Xaj] using h)
 refine Ce rfl (P9.FromInt_ok (z:=0) (by decide)) ?_
 refine Ce rfl Xgl ?_
 refine Ce rfl (P19.Zero_g W' o O) ?_
 refine By rfl (λi=>?_) λi=>?_
 . exact Rt rfl (.tup (.cons (.rf rfl) Xa1)) (.inr (.inl ⟨h,i,rfl⟩))
 . refine Ca rfl (half_g W j I) λv Q=>?_
   obtain⟨z,rfl,T⟩:=Q
   refine No rfl (by decide) ?_
   exact Rt rfl (.tup (.cons (.sd (.pd (.rf rfl) (.lit rfl))) Xa1)) (.inr (.inr ⟨h,i,z,rfl,T⟩))
def Yeh(G:Tw K)(g:Nat->V2 K)(n:Nat)(k:Nat): Tow.El K:=Tow.add K (Tow.rat K ((0:Int):Rat)) (Ymo (λi=>Xb9 G (g i) (g ((i+1)%n))) k)
theorem Yb6(g:Nat->V2 K)(n:Nat): Yeh G g n 0=Tow.rat K ((0:Int):Rat):=(Xay K G).az _
theorem Yb4(g:Nat->V2 K)(n k:Nat): Yeh G g n (k+1)=Tow.add K (Yeh G g n k) (Xb9 G (g k) (g ((k+1)%n))):=((Xay K G).aa ..).symm
theorem Yb5(g:Nat->V2 K)(n:Nat): Yeh G g n n=pgn G g n:=by
 have:Tow.rat K ((0:Int):Rat)=zero K:=Xd3 K
 unfold Yeh
 rw[this,(Xay K G).za]
 rfl
theorem remN(a:Nat){m:Nat}(h:0<m): arB .rem .i64 a m (a%m:Nat):=R9.remN h
theorem Xjd(W:Wn G S N){l:List Vn}{g:Nat->V2 K}(Q:∀(i:Nat) v,l[i]?=some v->Gv G S N n v (g i))(h0:0<l.length)(Z:l.length<=8)(hn:1<=n/\n<=4): C0 20 [.d (dVs l)] (λr=>∃z,r=.tup (.pr (.d (dAr z [])) (.d (.int .i64 0)))/\Gd G S N 130 z (Tow.mul K G (pgn G g l.length) (Tow.rat K hf2))):=by
 have lm:(l.map dV).length=l.length:=W0i ..
 refine En Tryz.func20 λ_ _ _=>?_
 refine Ce rfl (P9.FromInt_ok (z:=0) (by decide)) ?_
 refine Lo (λ((k,z):Nat×Nm)=>[(0,.d (dVs l)),(2,.ptr 2 0),(4,.ptr 4 0),(12,.d (dVs l)),(13,.d (.int .i64 (l.map dV).length)),(14,.d (.int .i64 k))]) (λ(k,z)=>[(2,.var zA),(4,.var (.d (dN z)))]) (λ(k,z)=>k<=l.length/\Gd G S N (1+16*k) z (Yeh G g l.length k)) (λ(k,_)=>l.length-k) (0,n00) [] rfl ⟨W0w _,by rw[Yb6];exact Gd.rat W (by decide +kernel)⟩ ?_
 rintro⟨k,z⟩ ⟨hk,I⟩
 refine By rfl (λh=>?_) λh=>?_<;>simp only[lm] at h
 . obtain⟨v,o⟩:∃v,l[k]?=some v:=⟨_,W0e (by omega)⟩
   obtain⟨w,T⟩:∃w,l[(k+1)%l.length]?=some w:=⟨_,W0e (W1s _ h0)⟩
   refine Ix k rfl (mp o) ?_
   first | refine Dw rfl ?_ | refine Dz rfl ?_
   refine Ar (k+1:Nat) rfl ?_
   refine Ar ((k+1)%l.length:Nat) rfl ?_ (by rw[lm];exact remN _ h0)
   refine Ix ((k+1)%l.length) rfl (mp T) ?_
   refine Ca rfl (P13.Cross_g W (Q k v o) (Q _ w T) (by omega) (by omega) (by omega)) λv o=>?_
   obtain⟨c,rfl,V⟩:=o
   refine Yes rfl (by decide) ?_
   refine Ca rfl (P9.Add_g W I V (by omega) (by omega)) λv o=>?_
   obtain⟨O,rfl,j⟩:=o
   rw[<-Yb4] at j
   refine No rfl (by decide) ?_
   refine Ar (k+1:Nat) rfl ?_
   exact Bk (k+1,O) [] rfl ⟨by omega,j.mono (by omega)⟩ (by show l.length-(k+1)<l.length-k;omega)
 . obtain rfl:k=l.length:=by omega
   rw[Yb5] at I
   refine Ca rfl (half_g W I (by omega)) λv o=>?_
   obtain⟨O,rfl,j⟩:=o
   refine No rfl (by decide) ?_
   refine Ce rfl Xgl ?_
   exact Rt rfl (.tup (.cons (.rf rfl) Xa1)) ⟨O,rfl,j.mono (by omega)⟩
end
end Go.Proofs.YtfjafaehfjjaiaaGreatDoor.P20
namespace Go.Proofs.YtfjafaehfjjaiaaGreatDoor
open Go Go.Vm Go.Num Go.Tow
section
section
variable{K:Nat}{G:Tw K}{S:List (Tow.El K)}{N:List Nm}{n m k:Nat}{x y z:Nm}{a b v w:Tow.El K}{u s t:Vn}{p q r:V2 K}
theorem R13.first_ok: C0 158 [.d (.int .i64 0),.d (.int .i64 0)] (·=.d (.int .i64 0)):=by
 refine En Tryz.func158 λ_ _ _=>?_
 refine No rfl (by decide) ?_
 exact R0
theorem R13.vec_ok{x y:Nm}: C0 267 [.d (dN x),.d (dN y),.d (.int .i64 0)] (·=.tup (.pr (.d (dV ⟨x,y⟩)) (.d (.int .i64 0)))):=by
 refine En Tryz.func267 λ_ _ _=>?_
 refine No rfl (by decide) ?_
 exact RTt rfl (.cons (.rf rfl) Xa1)
theorem R13.Add_g(W:Wn G S N)(i:Gv G S N n u p)(hs:Gv G S N m s q)(j:n<=400)(o:m<=400): C0 205 [.d (dV u),.d (dV s)] (VoG G S N (n+m) (Yg8 p q)):=by
 refine En Tryz.func205 λ_ _ _=>?_
 refine Ca rfl (R9.Add_g W i.x hs.x j o) λv h=>?_
 obtain⟨z,rfl,I⟩:=h
 refine Ca rfl (R9.Add_g W i.y hs.y j o) λv h=>?_
 obtain⟨w,rfl,O⟩:=h
 refine Dw rfl ?_
 refine Ce rfl R13.first_ok ?_
 refine Ce rfl R13.vec_ok ?_
 exact Rt rfl (.tup (.cons (.rf rfl) Xa1)) ⟨⟨z,w⟩,rfl,I,O⟩
theorem R13.Neg_g(W:Wn G S N)(i:Gv G S N n u p)(j:n<=400): C0 206 [.d (dV u)] (VeG G S N n (neg K p.1,neg K p.2)):=by
 refine En Tryz.func206 λ_ _ _=>?_
 refine Dw rfl ?_
 refine Ca rfl (R9.Neg_g W i.x j) λv h=>?_
 obtain⟨z,rfl,o⟩:=h
 refine Ca rfl (R9.Neg_g W i.y j) λv h=>?_
 obtain⟨w,rfl,I⟩:=h
 exact Rt rfl (.one (.rf rfl) rfl rfl) ⟨⟨z,w⟩,rfl,o,I⟩
theorem R13.Sub_g(W:Wn G S N)(j:Gv G S N n u p)(hs:Gv G S N m s q)(o:n<=400)(i:m<=400): C0 127 [.d (dV u),.d (dV s)] (VoG G S N (n+m) (Xx8 p q)):=by
 refine En Tryz.func127 λ_ _ _=>?_
 refine Dw rfl ?_
 refine Ca rfl (R13.Neg_g W hs i) λv h=>?_
 obtain⟨r,rfl,I⟩:=h
 refine Ca rfl (R13.Add_g W j I o i) λv h=>?_
 obtain⟨z,rfl,O⟩:=h
 exact Rt rfl (.tup (.cons (.rf rfl) Xa1)) ⟨z,rfl,O⟩
theorem R13.Square_g(W:Wn G S N)(h:Gv G S N n u p)(i:n+n<=400): C0 125 [.d (dV u)] (OpG G S N (n+n+(n+n)) (Xgo G p p)):=by
 refine En Tryz.func125 λ_ _ _=>?_
 refine Ca rfl (R13.Dot_g W h h (by omega) (by omega) i) λv j=>?_
 obtain⟨z,rfl,o⟩:=j
 exact Rt rfl (.tup (.cons (.rf rfl) Xa1)) ⟨z,rfl,o⟩
theorem R15.vec_ok{u:Vn}: CN0 126 [.ptr 1000001 0,.d (dV u),.d (.int .i64 0)] [(1000001,cal)] (·=.d (dV u)):=by
 refine EnW Tryz.func126 λ_ _ _ _=>?_
 refine Cn [] rfl R15.note_ok λv h=>?_
 refine No rfl (by decide) ?_
 exact Rw [] [(1000001,cal)] rfl (.one (.rf rfl) rfl rfl) ⟨rfl,rfl⟩
theorem R15.Minus_g(W:Wn G S N)(i:Gv G S N n u p)(hs:Gv G S N m s q)(j:n<=400)(o:m<=400): CN0 71 [.ptr 1000001 0,.d (dV u),.d (dV s)] [(1000001,cal)] (VeG G S N (n+m) (Xx8 p q)):=by
 refine EnW Tryz.func71 λ_ _ _ _=>?_
 refine Ca rfl (R13.Sub_g W i hs j o) λv h=>?_
 obtain⟨z,rfl,I⟩:=h
 refine Cn [] rfl R15.vec_ok λv h=>?_
 subst h
 exact Rw [] [(1000001,cal)] rfl (.one (.rf rfl) rfl rfl) ⟨rfl,z,rfl,I⟩
theorem R15.Square_g(W:Wn G S N)(i:Gv G S N n u p)(j:n+n<=400): CN0 70 [.ptr 1000001 0,.d (dV u)] [(1000001,cal)] (OnG G S N (n+n+(n+n)) (Xgo G p p)):=by
 refine EnW Tryz.func70 λ_ _ _ _=>?_
 refine Ca rfl (R13.Square_g W i j) λv h=>?_
 obtain⟨z,rfl,o⟩:=h
 refine Cn [] rfl R15.num_ok λv h=>?_
 subst h
 exact Rw [] [(1000001,cal)] rfl (.one (.rf rfl) rfl rfl) ⟨rfl,z,rfl,o⟩
theorem R15.Dot_g(W:Wn G S N)(i:Gv G S N n u p)(hs:Gv G S N m s q)(j:n<=400)(o:m<=400)(I:n+m<=400): CN0 51 [.ptr 1000001 0,.d (dV u),.d (dV s)] [(1000001,cal)] (OnG G S N (n+m+(n+m)) (Xgo G p q)):=by
 refine EnW Tryz.func51 λ_ _ _ _=>?_
 refine Ca rfl (R13.Dot_g W i hs j o I) λv h=>?_
 obtain⟨z,rfl,O⟩:=h
 refine Cn [] rfl R15.num_ok λv h=>?_
 subst h
 exact Rw [] [(1000001,cal)] rfl (.one (.rf rfl) rfl rfl) ⟨rfl,z,rfl,O⟩
theorem R15.Far_g(W:Wn G S N)(i:Gv G S N n u p)(hs:Gv G S N m s q)(j:n+m+(n+m)<=400): CN0 26 [.ptr 1000001 0,.d (dV u),.d (dV s)] [(1000001,cal)] (OnG G S N (n+m+(n+m)+(n+m+(n+m))) (Xgo G (Xx8 p q) (Xx8 p q))):=by
 refine EnW Tryz.func26 λ_ _ _ _=>?_
 refine Cn [] rfl (R15.Minus_g W i hs (by omega) (by omega)) λv h=>?_
 obtain⟨r,rfl,o⟩:=h
 refine Cn [] rfl (R15.Square_g W o j) λv h=>?_
 obtain⟨z,rfl,I⟩:=h
 exact Rw [] [(1000001,cal)] rfl (.one (.rf rfl) rfl rfl) ⟨rfl,z,rfl,I⟩
end
end
section
theorem RtOf.mg2{r s:Rat×Rat}{b j:Nat}(R:RtOf r b s)(hr:r.2<=pw (2*j))(h0:0<=r.2): 0<=s.1/\s.2<=pw (j+1):=by
 have o:=Xie (b:=b) h0
 have i:=Xde (mx0 r.1) b
 rw[<-R.lo] at i
 refine⟨i,?_⟩
 have I:Xdu r.2 b<=pw j:=Xq5 (W2r (Xa3 j)) (W5s o (by rw[<-Yb3];exact hr))
 have O:=R.h
 have Q:=Xkv b
 have T:=Xhe j
 rw[Xc2]
 grind
def mE(m:Nat): Nat->Nat->Nat
 | 0,M=>M
 | k+1,M=>mE m k M+(mE m k m+1)/2+2
def eE(m b:Nat): Nat->Nat->Nat
 | 0,_=>2*b-2
 | k+1,M=>min (eE m b k M) (eE m b k m/2)-(max (mE m k M) ((mE m k m+1)/2)+3)
theorem Yki(m b:Nat): ∀k M,eE m b k M<=2*b-2
 | 0,_=>W0a _
 | k+1,M=>by have:=Yki m b k M;show min (eE m b k M) (eE m b k m/2)-(max (mE m k M) ((mE m k m+1)/2)+3)<=_;omega
theorem Ykz{k:Nat}{t:Tw (k+1)}{m b:Nat}(h:Xb8 (k+1) t)(hr:Mg (bx k t.1 t.2 b) (mE m k m)): 0<=(rtb (bx k t.1 t.2 b) b).1/\(rtb (bx k t.1 t.2 b) b).2<=pw ((mE m k m+1)/2+1) :=
 (Xqf _ b).mg2 (W5s hr.2 (Xik (by omega))) (Xmk h (Xpe h.1 t.2 b))
theorem Xnn: ∀ {k:Nat} {t:Tw k} {a:El k} {m M:Nat} (b:Nat),Xb8 k t->MgT m k t->MgL M (toL k a)->Mg (bx k t a b) (mE m k M)
 | 0,t,a,m,M,b,h,i,ha=>Yi7 (ha _ (W0j.2 rfl))
 | k+1,t,a,m,M,b,h,i,ha=>by
  have o:=Xnn (a:=a.1) (M:=M) b h.1 i.1 λx j=>ha x (W2m _ j)
  have I:=Xnn (a:=a.2) (M:=M) b h.1 i.1 λx j=>ha x (W1p _ j)
  have O:=Xnn (M:=m) b h.1 i.1 i.2
  have h0:=Xmk h (Xpe h.1 t.2 b)
  rw[Xpd]
  exact Xp1 o I (Ykz h O) (Yh5 h0 (Yk0 h.1 _ _)) (Yk0 h.1 _ _)
theorem Xhj: ∀ {k:Nat} {t:Tw k} {a:El k} {m M b:Nat},Xb8 k t->MgT m k t->MgL M (toL k a)->0<eE m b k M->Wid (bx k t a b) (eE m b k M)
 | 0,t,a,m,M,b,h,i,ha,o=>⟨W6v,(λ(x:Rat)=>(by grind:(x-x)*pw (eE m b 0 M)<=1)) a⟩
 | k+1,t,a,m,M,b,h,i,ha,o=>by
  have I:0<min (eE m b k M) (eE m b k m/2)-(max (mE m k M) ((mE m k m+1)/2)+3):=o
  have O:=Yki m b k m
  have Q:=Xhj (a:=a.1) (m:=m) (M:=M) (b:=b) h.1 i.1 (λx j=>ha x (W2m _ j)) (by omega)
  have T:=Xhj (a:=a.2) (m:=m) (M:=M) (b:=b) h.1 i.1 (λx j=>ha x (W1p _ j)) (by omega)
  have V:=Xhj (m:=m) (M:=m) (b:=b) h.1 i.1 i.2 (by omega)
  have Z:=Xnn (a:=a.2) (M:=M) b h.1 i.1 λx j=>ha x (W1p _ j)
  have mr:=Xnn (M:=m) b h.1 i.1 i.2
  have ms:=Ykz h mr
  have h0:=Xmk h (Xpe h.1 t.2 b)
  rw[Xpd]
  exact Xp0 (m:=max (mE m k M) ((mE m k m+1)/2)) (Q.mono (by omega)) (T.mono (by omega)) V (by omega) (Z.mono (by omega)) ⟨ms.1,W5s ms.2 (Xik (by omega))⟩ h0 (Xqf _ b) (by omega) (by omega) (by omega)
theorem Yf8{k:Nat}{t:Tw k}{a:El k}(h:Xb8 k t)(i:MgT 64 k t)(ha:MgL 300 (toL k a))(j:k<=3): Wid (bx k t a 2048) 1:=by
 have j:k=0\/k=1\/k=2\/k=3:=by omega
 rcases j with rfl | rfl | rfl | rfl
 . exact(Xhj h i ha (show 0<eE 64 2048 0 300 by decide)).mono (by decide)
 . exact(Xhj h i ha (show 0<eE 64 2048 1 300 by decide)).mono (by decide)
 . exact(Xhj h i ha (show 0<eE 64 2048 2 300 by decide)).mono (by decide)
 . exact(Xhj h i ha (show 0<eE 64 2048 3 300 by decide)).mono (by decide)
theorem Xi8{k:Nat}{t:Tw k}{a:El k}{m:Nat}(h:Xb8 k t)(o:MgT m k t)(ha:MgL m (toL k a))(j:k<=3)(T:m<=10000): ∀b,1000000<=b->Wid (enc k t a b) 1:=λb hb=>by
 have i:∀e,(0<e->Wid (enc k t a b) e)->1<=e->Wid (enc k t a b) 1:=λe I O=>(I (by omega)).mono O
 refine i _ (λQ=>Xrg h o ha Q) ?_
 have j:k=0\/k=1\/k=2\/k=3:=by omega
 rcases j with rfl | rfl | rfl | rfl<;>simp only[eW,mW]<;>omega
end
section
theorem Zs.pow{q:Nat}{z:Int}(h:Zs q z)(n:Nat): Zs (q*n+1) (z^n):=by
 unfold Zs at *
 rw[Int.natAbs_pow]
 have i:z.natAbs^n<=(2^q)^n:=Nat.pow_le_pow_left (W2f h) n
 rw[<-W5z] at i
 rw[W1a]
 have:=W0u (q*n)
 omega
theorem Zs.len2{q:Nat}{z:Int}(h:Zs q z)(hq:q<=8000000000000): (dig z.natAbs).length<=274877906944:=by
 have i:z.natAbs<4294967296^(q/32+1):=by
  rw[show 4294967296=2^32 from rfl,<-W5z]
  exact W0x h (W0p (by decide) (by omega))
 have:=Xat i
 omega
theorem Xzu{a:Int}(ha:(dig a.natAbs).length<=549755813888): C0 298 [.d (dz a),.d (dz 1)] (·=.d (dz (a-1))):=by
 have i:(dig (Int.natAbs (-1))).length<=549755813888:=W0m (Xat (n:=1) (k:=1) (by decide)) (by decide)
 have h:=Add_ok (a:=a) (b:=-1) ha i
 have j:C0 114 [.d (dz a),.d (.st (.pr (.bool (!decide ((1:Int)<0))) (ws (dig (Int.natAbs 1)))))] (·=.d (dz (a-1))):=h
 refine En Tryz.func298 λ_ _ _=>?_
 refine Ce rfl j ?_
 exact R1 rfl (.rf rfl)
theorem Xus{x:Rat}{p:Nat}(i:Qs p x)(hp:p<=4398046511104): C0 297 [.d (dq x)] (·=.d (dz x.floor)):=by
 have h:=DivMod_ok (a:=x.num) (b:=x.den) (W0m (i.n.len (by omega)) (by decide)) (W0m (i.d.len (by omega)) (by decide)) (Xb5 x)
 have e:x.num.fdiv x.den=x.floor:=by
  have:=Xh1 x 0
  rw[show pw 0=1 from rfl,Rat.mul_one,Int.pow_zero,W5p] at this
  exact this
 rw[e] at h
 refine En Tryz.func297 λ_ _ _=>?_
 refine Ce rfl h ?_
 exact R1 rfl (.rf rfl)
theorem Yfe{n:Nat}{z:Int}{q:Nat}(hz:Zs q z)(hn:n<=4096)(hq:q<=100000): C0 296 [.d (dz z),.d (.int .i64 n)] (·=.tup (.pr (.d (dz (z^n))) (.d (.int .i64 0)))):=by
 refine En Tryz.func296 λ_ _ _=>?_
 refine No rfl (by omega) ?_
 refine No rfl (by omega) ?_
 refine Dw rfl ?_
 refine Ce rfl (FromInt_ok (z:=1) (by decide)) ?_
 refine Ce rfl (Norm_ok (W0m (hz.len (by omega)) (by decide))) ?_
 refine Lo (λ((m,o,e):Nat×Nat×Nat)=>[(1,.d (.int .i64 m)),(4,.ptr 4 0),(5,.d (.int .i64 0)),(6,.ptr 6 0),(7,.ptr 7 0)]) (λ(m,o,e)=>[(4,.var (.st (.pr (.b false) .nil))),(6,.var (.d (dz (z^o)))),(7,.var (.d (dz (z^e))))]) (λ(m,o,e)=>o+e*m=n/\e<=max n 1/\m<=n) (λ(m,_,_)=>m) (n,0,1) [] rfl ⟨by omega,by omega,W0a n⟩ ?_ (by exact⟨rfl,by show Xs1 _ [(4,Ob.var (AV.st (.pr (.b false) .nil))),(6,Ob.var (AV.d (dz (z^0)))),(7,Ob.var (AV.d (dz (z^1))))];rw[Int.pow_zero,show z^1=z by rw[Int.pow_succ,Int.pow_zero,W4v]];rfl,rfl,rfl,rfl⟩)
 rintro⟨m,o,e⟩ ⟨hm,he,hmn⟩
 have i:∀j,j<=4096->(dig (z^j).natAbs).length<=549755813888:=λj hj=>by
  have:=Zs.pow hz j
  have hqj:q*j<=100000*4096:=W1z hq hj
  exact W0m (this.len (by omega)) (by decide)
 have ho:o<=4096:=by have:=W0w (e*m);omega
 have I:e<=4096:=by omega
 refine By rfl (λh=>?_) λh=>?_
 . have h:(m:Int)>0:=h
   have hdm:=W2q m 2
   have O:e*m=2*(e*(m/2))+e*(m%2):=by
    conv=>lhs;rw[<-hdm,W1f]
    rw[W4z]
   have Q:arB .quo .i64 (m:Int) 2 ((m/2:Nat):Int):=Ykk (m:=2) rfl (by decide) (by omega)
   have T:∀e:Nat,z^e*z^e=z^(e+e):=λe=>(Int.pow_add ..).symm
   refine Ar (m%2:Nat) rfl ?_ (show _/\_ from⟨by decide,Xr2 m 2⟩)
   refine By rfl (λV=>?_) λV=>?_
   . have V:m%2=1:=by omega
     rw[V,W4f] at O
     refine Ce rfl (Mul_ok (i o ho) (i e I)) ?_
     rw[<-Int.pow_add]
     refine Ar (m/2:Nat) rfl ?_ Q
     refine By rfl (λh2=>?_) λh2=>?_
     . have he2:e*1<=e*(m/2):=W0v e (by omega)
       refine Ce rfl (Mul_ok (i e I) (i e I)) ?_
       rw[T]
       exact Bk (m/2,o+e,e+e) [] rfl ⟨by rw[W1c];omega,by omega,by omega⟩ (by show m/2<m;omega)
     . have Z:m/2=0:=by omega
       rw[Z] at O
       exact Bk (m/2,o+e,e) [] rfl ⟨by rw[Z];omega,he,by omega⟩ (by show m/2<m;omega)
   . have V:m%2=0:=by omega
     rw[V,W3f] at O
     refine Ar (m/2:Nat) rfl ?_ Q
     have he2:e*1<=e*(m/2):=W0v e (by omega)
     refine Yes rfl (by omega) ?_
     refine Ce rfl (Mul_ok (i e I) (i e I)) ?_
     rw[T]
     exact Bk (m/2,o,e+e) [] rfl ⟨by rw[W1c];omega,by omega,by omega⟩ (by show m/2<m;omega)
 . have h:¬(m:Int)>0:=h
   have hm0:m=0:=by omega
   rw[hm0,W3f,W2i] at hm
   rw[hm]
   exact RTt rfl (.cons (.rf rfl) Xa1)
theorem Xt8{k:Nat}{t:Tw k}{a:Tow.El k}{P s:Nat}(hR:Xb8 k t)(hw:∀b,P<=b->Wid (enc k t a b) 1)(i:TS s k t)(ha:Sz s (toL k a))(j:1<=s)(o:k<=16)(hP:P<=1000000000)(he:eB s (2*(P+1+16)) k<=274877906944)(V:vB s k (s+eB s (2*(P+1+16)) k+4)<=4398046511104):
 C0 238 [.d (dt t),.d (de a)] λv=>∃z,v=.d (dz z)/\Xdj k t a z/\(dig z.natAbs).length<=274877906944:=by
 have hsB:=W0m (Xdv (r:=s) k _) V
 obtain⟨B,hB⟩:∃B,B=eB s (2*(P+1+16)) k:=⟨_,rfl⟩
 have I:vB s k s<=4398046511104:=W0m (Xc0 (by omega)) V
 have hE:=Xha (bits:=1) hR hw i ha j o I (by decide) hP he
 rw[<-hB] at he V hsB hE
 have hB1:1<=B:=by rw[hB];exact W0m j (Yab ..)
 refine En Tryz.func238 λ_ _ _=>?_
 refine Ce rfl (Xg5 (l:=[toL k a]) (s:=s) i hR o I (by omega) (λx hx=>⟨a,W0j.1 hx,ha⟩) (by simp) (by omega)) ?_
 refine No rfl (by simp) ?_
 refine Ca rfl hE λv hv'=>?_
 obtain⟨p,rfl,hin,hwd,hq⟩:=hv'
 have Z:=Zs.floor hq.2
 have O:=Xz0 hR hin hwd
 have hl0:=Zs.len2 (z:=p.2.floor) Z (by omega)
 have hl1:=Zs.len2 (z:=p.2.floor-1) (q:=B+1) (by unfold Zs at *;rw[W1a];omega) (by omega)
 have Q:=Make_ok (p:=B) (a:=p.2.floor) (b:=1) Z (Zs.one (by omega)) (by omega) (by decide)
 rw[Xw5] at Q
 have qz:Qs B ((p.2.floor:Int):Rat):=Qs.int Z (by omega)
 have T:=Sz.rat k qz
 refine Ce rfl (Xus hq.2 (by omega)) ?_
 refine Dw rfl ?_
 refine Ce rfl (FromInt_ok (z:=1) (by decide)) ?_
 refine Ce rfl Q ?_
 refine Ce rfl (Xc1 i o (by omega) qz (by omega)) ?_
 refine Ce rfl (Xk0 i ha T o (by omega) (by omega)) ?_
 refine Ce rfl (Xku (s:=s+B+4) i (by rw[Xav,Xcb];exact(ha.add T.neg).mono (by omega)) o V (by omega)) ?_
 refine By rfl (λh=>?_) λh=>?_
 . refine Dw rfl ?_
   refine Ce rfl (FromInt_ok (z:=1) (by decide)) ?_
   refine Ce rfl (Xzu (W0m (Z.len (by omega)) (by decide))) ?_
   exact Rt rfl (.one (.rf rfl) rfl rfl) ⟨_,rfl,O.1 h,hl1⟩
 . exact Rt rfl (.one (.rf rfl) rfl rfl) ⟨_,rfl,O.2 h,hl0⟩
end
end Go.Proofs.YtfjafaehfjjaiaaGreatDoor
namespace Go.Proofs.YtfjafaehfjjaiaaGreatDoor.P9
open Go Go.Vm Go.Num Go.Tow Go.Proofs.YtfjafaehfjjaiaaGreatDoor
abbrev nq(q:Rat): Nm:=⟨0,(),q⟩
theorem Yje{k:Nat}{q:Rat}: Lf (k:=0) (m:=k) q (rat k q):=by
 show toL k (rat k q)=[q]++_
 rw[Xcr];rfl
section
variable{r p s:Nat}{x:Nm}{q:Rat}
theorem Yah(hr:TS r x.k x.t)(O:x.k<=8)(I:r<=4000000000): C0 145 [.d (dNs [x,nq q])] (·=.tup (.pr (.d (dt x.t)) (.d (.int .i64 0)))):=by
 refine En Tryz.func145 λ_ _ _=>?_
 refine Nd 4 1 rfl ?_
 refine Lo (λ(s:Nat×(Σ m,Tw m))=>[(2,.nil),(3,.d (.int .i64 0)),(4,.d (dt s.2.2)),(9,.d (dNs [x,nq q])),(10,.d (.int .i64 2)),(11,.d (.int .i64 s.1))]) (λ_=>[]) (λs=>(s.1=0/\s.2=⟨0,()⟩)\/(s.1=1/\s.2=⟨x.k,x.t⟩)\/(s.1=2/\s.2=⟨x.k,x.t⟩)) (λs=>2-s.1) (0,⟨0,()⟩) [] rfl (.inl ⟨rfl,rfl⟩) (λ(i,⟨m,T⟩) j=>?_)
 simp only at j
 rcases j with ⟨rfl,e⟩ | ⟨rfl,e⟩ | ⟨rfl,e⟩
 . cases e
   refine Yes rfl (show ((0:Nat):Int)<2 by decide) ?_
   refine Ix 0 rfl (u:=dN x) rfl ?_
   refine Ce rfl (begins_ok (T:=[]) (U:=toT x.k x.t) (p:=1) (λi r h=>by simp at h) (TS.pt hr) (by omega) (by decide)) ?_
   refine By rfl (λh=>?_) λh=>?_
   . obtain⟨o,tx,Q⟩:=x
     have h:[]=toT o tx:=by simpa using h
     obtain rfl:o=0:=by have:=congrArg List.length h;rw[Xaa] at this;exact this.symm
     refine Ar (0+1:Nat) rfl ?_
     exact Bk (1,⟨0,tx⟩) [] rfl (.inr (.inl ⟨rfl,rfl⟩)) (show 1<2 by decide)
   . refine Ce rfl (begins_ok (U:=[]) (q:=1) (TS.pt hr) (λi r h=>by simp at h) (by omega) (by rw[Xaa];omega)) ?_
     refine Yes rfl (by simp) ?_
     refine Ar (0+1:Nat) rfl ?_
     exact Bk (1,⟨x.k,x.t⟩) [] rfl (.inr (.inl ⟨rfl,rfl⟩)) (show 1<2 by decide)
 . cases e
   refine Yes rfl (show ((1:Nat):Int)<2 by decide) ?_
   refine Ix 1 rfl (u:=dN (nq q)) rfl ?_
   refine Ce rfl (begins_ok (T:=toT x.k x.t) (U:=[]) (q:=1) (TS.pt hr) (λi r h=>by simp at h) (by omega) (by rw[Xaa];omega)) ?_
   refine Yes rfl (by simp) ?_
   refine Ar (1+1:Nat) rfl ?_
   exact Bk (2,⟨x.k,x.t⟩) [] rfl (.inr (.inr ⟨rfl,rfl⟩)) (show 0<1 by decide)
 . cases e
   refine No rfl (show ¬((2:Nat):Int)<2 by decide) ?_
   exact R0t
theorem Ylj(hr:TS r x.k x.t)(hp:Sz p (toL x.k x.a))(hq:Qs s q)(O:x.k<=8)(o:r<=4000000000)(Q:p<=4000000000)(V:s<4000000000): C0 88 [.d (dNs [x,nq q])] (·=.tup (.pr (.d (dNs [x,⟨x.k,x.t,rat x.k q⟩])) (.d (.int .i64 0)))):=by
 have Z:=Yah (q:=q) hr O o
 refine En Tryz.func88 λ_ _ _=>?_
 refine Ce rfl Z ?_
 refine No rfl (by decide) ?_
 refine Nl 6 6 2 rfl ?_
 refine Lo (λ(j:Nat)=>[(2,.nil),(3,.d (.int .i64 0)),(4,.d (dt x.t)),(6,.gr 6 2 (([x,⟨x.k,x.t,rat x.k q⟩].take j).map dN)),(20,.d (dNs [x,nq q])),(21,.d (.int .i64 2)),(22,.d (.int .i64 j))]) (λj=>[(6,.tok (([x,⟨x.k,x.t,rat x.k q⟩].take j).map dN).length 2)])
  (λj=>j<=2) (λj=>2-j) 0 [] rfl (W0w _) (λj I=>?_)
 have I:j=0\/j=1\/j=2:=by omega
 rcases I with rfl | rfl | rfl
 . refine Yes rfl (show ((0:Nat):Int)<2 by decide) ?_
   refine Ix 0 rfl (u:=dN x) rfl ?_
   refine Ce rfl (begins_ok (T:=toT x.k x.t) (U:=toT x.k x.t) (TS.pt hr) (TS.pt hr) (by omega) (by rw[Xaa];omega)) ?_
   refine Yes rfl (W2h ..) ?_
   refine Ce rfl (Xqp (T:=x.t) (Lf.rfl' x.a) (W0a _) (by omega)) ?_
   refine Ce rfl (Xew (x:=x) hr hp (by omega) (by omega) (by omega)) ?_
   refine ApG ([x].map dN) rfl (by simp) (by simp) ?_
   refine Ar (0+1:Nat) rfl ?_
   exact Bk 1 [(6,90),(56,6)] rfl (show 1<=2 by decide) (show 2-1<2-0 by decide)
 . refine Yes rfl (show ((1:Nat):Int)<2 by decide) ?_
   refine Ix 1 rfl (u:=dN (nq q)) rfl ?_
   refine Ce rfl (begins_ok (T:=toT x.k x.t) (U:=[]) (q:=1) (TS.pt hr) (λi r h=>by simp at h) (by omega) (by rw[Xaa];omega)) ?_
   refine Yes rfl (by simp) ?_
   refine Ce rfl (Xqp (k:=0) (T:=x.t) (Yje (q:=q)) (W0w _) (by omega)) ?_
   refine Ce rfl (Xew (x:=⟨x.k,x.t,rat x.k q⟩) hr (Sz.rat x.k hq) (show _<=16 by show x.k<=16;omega) (by omega) (by omega)) ?_
   refine ApG ([x,⟨x.k,x.t,rat x.k q⟩].map dN) rfl (by simp) (by simp) ?_
   refine Ar (1+1:Nat) rfl ?_
   exact Bk 2 [(6,90),(56,6)] rfl (show 2<=2 by decide) (show 2-2<2-1 by decide)
 . refine No rfl (show ¬((2:Nat):Int)<2 by decide) ?_
   exact RTt rfl (.cons (.gr rfl) Xa1)
theorem Xnf{f:FuncId}{z:Tow.El x.k}(hf:C0 f [.d (dt x.t),.d (de x.a),.d (de (rat x.k q))] (·=.d (de z)))(hr:TS r x.k x.t)(hp:Sz p (toL x.k x.a))(hq:Qs s q)(o:x.k<=8)(h:r<=4000000000)(i:p<=4000000000)(j:s<4000000000): C0 73 [.d (dN x),.d (dN (nq q)),.d (fnD f)] (·=.tup (.pr (.d (dN ⟨x.k,x.t,z⟩)) (.d (.int .i64 0)))):=by
 refine En Tryz.func73 λ_ _ _=>?_
 refine Ce rfl (Ylj hr hp hq o h i j) ?_
 refine No rfl (by simp) ?_
 refine Ix 0 rfl (u:=dN x) rfl ?_
 refine Dw rfl ?_
 refine Ix 0 rfl (u:=dN x) rfl ?_
 refine Ix 1 rfl (u:=dN ⟨x.k,x.t,rat x.k q⟩) rfl ?_
 refine Ce rfl hf ?_
 exact RTt rfl (.cons (.rf rfl) Xa1)
theorem Yoo(hr:TS r x.k x.t)(hp:Sz p (toL x.k x.a))(hq:Qs s q)(i:x.k<=8)(h:r<=4000000000)(j:p<=2000000000)(o:s<2000000000): C0 29 [.d (dN x),.d (dN (nq q))] (·=.tup (.pr (.d (dN ⟨x.k,x.t,Tow.add x.k x.a (rat x.k q)⟩)) (.d (.int .i64 0)))):=by
 refine En Tryz.func29 λ_ _ _=>?_
 refine Ce rfl (Xnf (Xid hr hp (Sz.rat x.k hq) (by omega) (by omega) (by omega)) hr hp hq i h (by omega) (by omega)) ?_
 exact R0t
theorem Yok(hr:TS r x.k x.t)(hp:Sz p (toL x.k x.a))(hq:Qs s q)(i:x.k<=8)(h:r<=4000000000)(j:p<=2000000000)(o:s<2000000000)(I:cB r x.k<=1000000000): C0 100 [.d (dN x),.d (dN (nq q))] (·=.tup (.pr (.d (dN ⟨x.k,x.t,Tow.mul x.k x.t x.a (rat x.k q)⟩)) (.d (.int .i64 0)))):=by
 refine En Tryz.func100 λ_ _ _=>?_
 refine Ce rfl (Xnf (Xdz hr hp (Sz.rat x.k hq) (by omega) (by omega) (by omega)) hr hp hq i h (by omega) (by omega)) ?_
 exact R0t
end
end Go.Proofs.YtfjafaehfjjaiaaGreatDoor.P9
namespace Go.Num
section
def dec(n:Nat): List UInt8:=if h:n<10 then [UInt8.ofNat (48+n)] else dec (n/10)++[UInt8.ofNat (48+n%10)]
termination_by n
decreasing_by omega
theorem Xee{n:Nat}(h:n<10): dec n=[UInt8.ofNat (48+n)]:=by rw[dec,dif_pos h]
theorem Xgi{n:Nat}(h:10<=n): dec n=dec (n/10)++[UInt8.ofNat (48+n%10)]:=by rw[dec,dif_neg (by omega)]
theorem Xxb(n:Nat): dec n≠[]:=by
 rw[dec];split<;>simp
theorem Xw9(n:Nat): 0<(dec n).length:=W6x.2 (Xxb n)
theorem Xfr: ∀(k n:Nat),n<10^(k+1)->(dec n).length<=k+1
 | 0,n,h=>by rw[Xee (by simpa using h)];simp
 | k+1,n,h=>by
  by_cases i:n<10
  . rw[Xee i];simp
  . rw[Xgi (by omega),W0c]
    have:=Xfr k (n/10) (W4x (by rw[W1a] at h;omega))
    simp;omega
theorem Xe8: ∀(k n:Nat),10^k<=n->k+1<=(dec n).length
 | 0,n,h=>Xw9 n
 | k+1,n,h=>by
  rw[W1a] at h
  have:0<10^k:=Nat.pow_pos (by decide)
  rw[Xgi (by omega),W0c]
  have:=Xe8 k (n/10) (by omega)
  simp;omega
theorem Ykm(n:Nat): n<10^(dec n).length:=by
 induction n using Nat.strongRecOn with
 | ind n i =>
  by_cases h:n<10
  . rw[Xee h];simpa using h
  . rw[Xgi (by omega),W0c]
    have:=i (n/10) (by omega)
    simp only[W6q]
    rw[W1a];omega
def tx(z:Int): List UInt8:=(if z<0 then [45] else [])++dec z.natAbs
theorem Xzf(l:Nat): 4294967296^l<=10^(10*l):=by
 rw[W5z];exact Nat.pow_le_pow_left (by decide) l
theorem Xpa(n:Nat): (dec n).length<=10*(dig n).length+1:=by
 refine Xfr _ n (W0x (W0x (by have:=Xby (Xae n);rwa[Xag] at this) (Xzf _)) (W0p (by decide) (by omega)))
theorem dg{d:Nat}(h:d<10): (UInt8.ofNat (48+d)).toNat=48+d:=by
 rw[UInt8.toNat_ofNat'];exact W4b (by omega)
def Xvz(b:UInt8): Prop:=48<=b.toNat/\b.toNat<=57
theorem Ykn(n:Nat): ∀b∈dec n,Xvz b:=by
 induction n using Nat.strongRecOn with
 | ind n i =>
  intro b hb
  by_cases h:n<10
  . rw[Xee h,W0j] at hb;subst hb;exact⟨by rw[dg h];omega,by rw[dg h];omega⟩
  . rw[Xgi (by omega),W1r,W0j] at hb
    rcases hb with hb | hb
    . exact i _ (by omega) b hb
    . subst hb;have:=W1s n (show 0<10 by decide);exact⟨by rw[dg this];omega,by rw[dg this];omega⟩
def pad(k:Nat)(d:List UInt8): List UInt8:=List.replicate (k+1-d.length) 48++d
theorem Yek(k:Nat)(d:List UInt8): (pad k d).length=max (k+1) d.length:=by simp[pad];omega
def pt(k:Nat)(p:List UInt8): List UInt8:=if k=0 then p else p.take (p.length-k)++46::p.drop (p.length-k)
def txt(z:Int)(k:Nat): List UInt8:=(if z<0 then [45] else [])++pt k (pad k (dec z.natAbs))
def Xyb(l:List UInt8): Nat:=l.foldl (λa b=>10*a+(b.toNat-48)) 0
theorem Xnc(l:List UInt8)(b:UInt8): Xyb (l++[b])=10*Xyb l+(b.toNat-48):=by simp[Xyb]
theorem Xyy{p:List UInt8->Prop}(h0:p [])(hs:∀l b,p l->p (l++[b]))(l:List UInt8): p l:=by
 rw[<-List.reverse_reverse l]
 induction l.reverse with
 | nil=>exact h0
 | cons b l h=>rw[List.reverse_cons];exact hs _ _ h
theorem Yfv{l:List UInt8}(h:∀b∈l,Xvz b): Xyb l<10^l.length:=by
 induction l using Xyy with
 | h0=>decide
 | hs l b i =>
  have I:=i λx j=>h x (W2m _ j)
  have o:=h b (W1p _ (W0j.2 rfl))
  unfold Xvz at o
  rw[Xnc,W0c,W6q,W1a]
  omega
theorem Yac(b:UInt8): Xyb [b]=b.toNat-48:=by simp[Xyb]
end
section
def isD(b:UInt8): Bool:=decide (48<=b.toNat)&&decide (b.toNat<=57)
theorem Ynj{b:UInt8}: isD b=true↔Xvz b:=by simp[isD,Xvz]
def z0(l:List UInt8): Bool:=l.all (·==48)
def fr(h:Bool)(a b:List UInt8): Rat:=if h then -(((Xyb (a++b):Int):Rat)/((10^b.length:Int):Rat)) else ((Xyb (a++b):Int):Rat)/((10^b.length:Int):Rat)
end
end Go.Num
namespace Go.Vm
open Go
section
section
variable{c:Cx}{s:St}{p:Pl}
noncomputable def Yo6(tb:Nat->Option TI)(n:Nat)(s:St): Option (Pl×List UInt8×List UInt8):=match nxA tb n s with
 | some (p,o,[.d (.str a),.d (.str b)])=>match o.op with
  | .binOp op _ _ _ _=>match op with
   | .add=>some (p,a,b)
   | _=>none
  | _=>none
 | _=>none
theorem Sc{a b:List UInt8}(t:List UInt8)(h:Yo6 c.tb c.n s=some (p,a,b))(i:a++b=t)(j:a.length+b.length<9223372036854775808)(o:p.nx c (.d (.str t))): StP c s:=by
 subst i
 unfold Yo6 at h
 split at h<;>try cases h
 rename_i I
 split at h<;>try cases h
 rename_i O
 split at h<;>cases h
 refine Xbj (us:=[]) I ?_ (Pl.nx_nil o)
 rw[O]
 simp only[F,Fp,Ya4,if_pos j]
noncomputable def Yir(tb:Nat->Option TI)(n:Nat)(s:St): Option (Pl×List UInt8×Option Int×Option Int):=match nxA tb n s with
 | some (p,o,asx)=>match o.op with
  | .slice T _ lo hi i=>match tb T with
   | some j=>match j.z,Xjt lo hi i asx with
    | .str _,some (.d (.str s),l,h,none)=>some (p,s,l,h)
    | _,_=>none
   | none=>none
  | _=>none
 | none=>none
theorem Xoo{t:List UInt8}{r:AV}{l i:Option Int}(h:Yir c.tb c.n s=some (p,t,l,i))(hr:slS t l i=some r)(k:p.nx c r): StP c s:=by
 unfold Yir at h
 split at h<;>try cases h
 rename_i j
 split at h<;>try cases h
 rename_i o
 split at h<;>try cases h
 rename_i Q I
 split at h<;>cases h
 rename_i O hs
 refine Xbj (us:=[]) j ?_ (Pl.nx_nil k)
 rw[o]
 simp only[F,Fp,I,O,hs,hr]
theorem Stk(j:Nat)(zs:List UInt8){i:Int}{xs:List UInt8}(h:Yir c.tb c.n s=some (p,xs,none,some i))(O:j<=xs.length)(o:xs.take j=zs)(k:p.nx c (.d (.str zs)))(I:i=j:=by first | exact rfl | omega): StP c s:=by
 subst I;subst o
 refine Xoo h ?_ k
 rw[slS,if_pos ⟨by omega,by omega⟩];simp
theorem Sdp(j:Nat)(zs:List UInt8){i:Int}{xs:List UInt8}(h:Yir c.tb c.n s=some (p,xs,some i,none))(O:j<=xs.length)(o:xs.drop j=zs)(k:p.nx c (.d (.str zs)))(I:i=j:=by first | exact rfl | omega): StP c s:=by
 subst I;subst o
 refine Xoo h ?_ k
 rw[slS,if_pos ⟨by omega,by omega⟩];simp
theorem Smd(i j:Nat)(zs:List UInt8){o I:Int}{xs:List UInt8}(h:Yir c.tb c.n s=some (p,xs,some o,some I))(T:i<=j/\j<=xs.length)(O:(xs.drop i).take (j-i)=zs)(k:p.nx c (.d (.str zs)))(hi:o=i:=by first | exact rfl | omega)(Q:I=j:=by first | exact rfl | omega): StP c s:=by
 subst hi;subst Q;subst O
 refine Xoo h ?_ k
 rw[slS,if_pos ⟨by omega,by omega,by omega⟩];simp
noncomputable def Ypi(tb:Nat->Option TI)(n:Nat)(s:St): Option (Pl×AV):=match nxA tb n s with
 | some (p,o,[a])=>match o.op with
  | .convert S T _=>match tb S,tb T,Ye7 a with
   | some ⟨.sl _ _,.int .u8 _,_,_⟩,some ⟨.str _,_,_,_⟩,true=>some (p,a)
   | _,_,_=>none
  | _=>none
 | _=>none
theorem Bs(zs:List UInt8){a:AV}(h:Ypi c.tb c.n s=some (p,a))(i:Ylq a=some zs)(I:p.nx c (.d (.str zs))): StP c s:=by
 unfold Ypi at h
 split at h<;>try cases h
 rename_i O
 split at h<;>try cases h
 rename_i Q
 split at h<;>cases h
 rename_i j o T
 refine Xbj (us:=[]) O ?_ (Pl.nx_nil I)
 rw[Q]
 have:∀k z,a≠.d (.int k z):=λk z e=>by subst e;cases T
 cases a with
 | d x=>cases x<;>first | exact absurd rfl (this _ _) | simp only[F,Fp,o,j,i]
 | _=>simp only[F,Fp,o,j,i]
end
end
section
theorem Xxg{W:GW}{z:D}: ∀ {cs:List Value},(∀x∈z.comps,x.size=1)->D.At W z cs->AtL W 1 z.comps cs/\cs.length=z.comps.length:=by
 have one:∀ {x:D} {cs:List Value},x.size=1->D.At W x cs->AtL W 1 [x] cs/\cs.length=1:=λ{x cs} o h =>
  ⟨λi y hi=>by
   cases i with
   | zero=>simp at hi;subst hi;exact⟨cs,h,o,λj v Q=>by simpa using Q⟩
   | succ i=>simp at hi,by rw[D.at_len x h,o]⟩
 induction z using D.ind with
 | leaf x o I =>
  intro cs hs h
  have e:x.comps=[x]:=by cases x<;>first | rfl | exact absurd rfl (I _ _)
  rw[e] at hs |-
  exact one (hs x (W0j.2 rfl)) h
 | st a _=>intro cs hs h;exact one (hs _ (W0j.2 rfl)) h
 | pr a c _ T =>
  intro cs hs ⟨u,v,e,o,I⟩
  have hs:∀x∈a::c.comps,x.size=1:=hs
  obtain⟨V,O⟩:=one (hs a (W0l ..)) o
  obtain⟨Z,k4⟩:=T (λx hx=>hs x (W0o _ hx)) I
  subst e
  have:=V.app Z (by rw[O];rfl)
  exact⟨this,by rw[W0c,O,k4];show _=(a::c.comps).length;simp;omega⟩
theorem Stp.vara{N:Nat->Prop}{W:GW}{θ:Loc}{g:Hp}(h:Obs W θ N g){o d b n sz:Nat}{a:AV}{xs:List D}(ho:g o=some (.var a))(hb:(θ o).1=some b)(hB:d<1000000)(hd:g d=none)(hx:(Ob.arr sz xs).R W (λi=>if i=d then (some b,n) else θ i) d):
 Stp N W W θ (λi=>if i=d then (some b,n) else θ i) g (upd (upd g o .dead) d (.arr sz xs)) where
 os:=_root_.rfl
 out:=_root_.rfl
 tape:=_root_.rfl
 size:=W0a _
 same:=λ_ _ _=>_root_.rfl
 A:=λ_ _ _ _=>W4d
 le:=LeF.refl W
 th:=λi y I=>if_neg λe=>by rw[e,hd] at I;cases I
 hi:=λi h=>if_neg (by omega)
 obs:=by
  have hg:∀ {i:Nat} {y:Ob},upd (upd g o .dead) d (.arr sz xs) i=some y->(i=d/\y=.arr sz xs)\/(i≠d/\i=o/\y=.dead)\/(i≠d/\i≠o/\g i=some y):=λ{i y} I=>by
   rcases Xaf I with ⟨O,Z⟩ | ⟨O,Z⟩
   . exact .inl ⟨O,Z⟩
   . rcases Xaf Z with ⟨f1,f2⟩ | ⟨f1,f2⟩
     . exact .inr (.inl ⟨O,f1,f2⟩)
     . exact .inr (.inr ⟨O,f1,f2⟩)
  have hnd:∀ {i:Nat},(∃z,g i=some z)->i≠d:=λ⟨z,hz⟩ e=>by rw[e,hd] at hz;cases hz
  refine⟨λi y I=>?_,λi y b' I hl Q=>?_,λi j y y' b' I hy' hl T b1 b2=>?_,λi y j I hj=>?_⟩
  . rcases hg I with ⟨rfl,rfl⟩ | ⟨_,_,rfl⟩ | ⟨O,Z,V⟩
    . exact hx
    . trivial
    . exact(h.r i y V).keep (LeF.refl W) (if_neg O) (λj hj=>if_neg (hnd (h.ids i y j V hj))) λ_ _ _=>⟨_root_.rfl,λ_ h=>h⟩
  . rcases hg I with ⟨rfl,rfl⟩ | ⟨_,_,rfl⟩ | ⟨O,Z,V⟩
    . rw[if_pos _root_.rfl] at Q
      exact h.new o _ b' ho _root_.rfl (hb.trans Q)
    . cases hl
    . rw[if_neg O] at Q;exact h.new i y b' V hl Q
  . rcases hg I with ⟨rfl,rfl⟩ | ⟨_,_,rfl⟩ | ⟨O,Z,V⟩
    . rcases hg hy' with ⟨rfl,rfl⟩ | ⟨_,_,rfl⟩ | ⟨f1,f2,f3⟩
      . exact _root_.rfl
      . cases T
      . rw[if_pos _root_.rfl] at b1;rw[if_neg f1] at b2
        exact absurd (h.dis j o y' _ b' f3 ho T _root_.rfl b2 (hb.trans b1)) f2
    . cases hl
    . rcases hg hy' with ⟨rfl,rfl⟩ | ⟨_,_,rfl⟩ | ⟨f1,f2,f3⟩
      . rw[if_pos _root_.rfl] at b2;rw[if_neg O] at b1
        exact absurd (h.dis i o y _ b' V ho hl _root_.rfl b1 (hb.trans b2)) Z
      . cases T
      . rw[if_neg O] at b1;rw[if_neg f1] at b2;exact h.dis i j y y' b' V f3 hl T b1 b2
  . rcases hg I with ⟨rfl,rfl⟩ | ⟨_,_,rfl⟩ | ⟨O,Z,V⟩
    . exact hj.elim
    . exact hj.elim
    . have hz:=h.ids i y j V hj
      rw[Xak (hnd hz)]
      by_cases e:j=o
      . subst e;exact⟨_,Xah _ _ _⟩
      . rw[Xak e];exact hz
 dom:=λi y I=>by
  rw[Xak (λe=>by rw[e,hd] at I;cases I)]
  by_cases e:i=o
  . subst e;exact⟨_,Xah _ _ _⟩
  . exact⟨y,by rw[Xak e];exact I⟩
section
variable{c:Cx}{s:St}{p:Pl}
noncomputable def Yo0(tb:Nat->Option TI)(n id t:Nat)(s:St): Option (List Kt×Env×Hpl×Nat×D):=match runT tb n id 1000 s with
 | .j _ K E H=>match look E t with
  | some (.ptr o 0)=>match look H o with
   | some (.var (.d (.st z)))=>some (K,E,H,o,z)
   | _=>none
  | _=>none
 | _=>none
theorem Va(id t d m:Nat)(xs:List D){K:List Kt}{E:Env}{H:Hpl}{o:Nat}{z:D}(h:Yo0 c.tb c.n id t s=some (K,E,H,o,z))(hz:z.comps=xs)(hs:∀x∈xs,x.size=1)(hm:xs.length=m)(k:StP c (.j [] K ((t,.ap d m)::E) ((d,.arr 1 xs)::(o,.dead)::H)))
 (hd:(Nat.blt d 1000000 && !Xcj H d&&Nat.blt m 1000000)=true:=by exact rfl):StP c s:=by
 subst hz
 simp only[W0g,W1x] at hd
 obtain⟨⟨O,hd2⟩,V⟩:=hd
 have O:=Xqz O
 have V:=Xqz V
 have hdn:look H d=none:=Xbk hd2
 unfold Yo0 at h
 split at h<;>try cases h
 rename_i hr
 split at h<;>try cases h
 rename_i he
 split at h<;>cases h
 rename_i ho
 refine Xgy (id:=id) 1000 ?_
 rw[hr]
 rintro a w ⟨s0,W,θ,hw,I,hθ,rfl⟩
 obtain⟨b,cs,T',r1,r2,r3,r4⟩:=I.obs.r _ _ ho
 have r3:D.At W z cs:=r3
 obtain⟨k1,k2⟩:=Xxg hs r3
 have st:=Stp.vara (n:=m) (sz:=1) (xs:=z.comps) I.obs ho r1 O hdn ⟨b,cs,T',by simp,r2,by rw[k2,hm];simp,by simp only[if_true];omega,by simp only[if_true];omega,k1,r4⟩
 have T:=I.step0 st
 refine k a w ⟨_,W,_,hw,?_,λi hi=>(st.hi i hi).trans (hθ i hi),rfl⟩
 rw[show sem ((t,AV.ap d m)::E) ((d,Ob.arr 1 z.comps)::(o,Ob.dead)::H)=(upd (look E) t (.ap d m),upd (upd (look H) o .dead) d (.arr 1 z.comps)) by rw[Xa7,Xa7,Xa7]]
 refine⟨T.fm,⟨T.rel.defers,T.rel.size,λq v hq=>?_⟩,T.obs,λq v i hq hi=>?_⟩
 . rcases Xaf hq with ⟨Z,Q⟩ | ⟨Z,Q⟩
   . subst Z;subst Q
     obtain⟨b',f1,f2⟩:=Xjn (I.rel.has q _ he)
     rw[r1] at f1;injection f1 with f1;subst f1
     exact⟨_,⟨b,by simp,by simp,rfl⟩,f2⟩
   . exact T.rel.has q v Q
 . rcases Xaf hq with ⟨Z,Q⟩ | ⟨Z,Q⟩
   . subst Q
     have hi:i=d:=hi
     subst hi
     exact⟨_,Xah _ _ _⟩
   . exact T.ids q v i Q hi
noncomputable def Yo4(tb:Nat->Option TI)(n:Nat)(s:St): Option (Pl×Oper×TypeId×Operand×Operand×Nat×Nat×Nat×Nat×D×Int):=match nxO tb n s with
 | some (p,o)=>match o.op,p.dr with
  | .slice T x none (some y) none,false=>match Xbt (look p.E) x,Xbt (look p.E) y,tb T with
   | some (.ap q m),some (.d (.int _ j)),some ⟨.st z,e,h,i⟩=>match Nat.beq m i,look p.H q with
    | true,some _=>some (p,o,T,x,y,q,m,e.size,h,z,j)
    | _,_=>none
   | _,_,_=>none
  | _,_=>none
 | none=>none
theorem Sp(j:Nat){o:Oper}{T:TypeId}{x y:Operand}{q m sz eb:Nat}{z:D}{i:Int}(h:Yo4 c.tb c.n s=some (p,o,T,x,y,q,m,sz,eb,z,i))(hj:j<=m)(h0:0<m)(k:p.nx c (.own q sz 0 j))(hm:m<1000000)(hi:i=(j:Int):=by first | exact rfl | omega): StP c s:=by
 subst hi
 unfold Yo4 at h
 split at h<;>try cases h
 rename_i p' o' ho
 split at h<;>try cases h
 rename_i T' x' y' O Q
 split at h<;>try cases h
 rename_i k2 e eb' ar hx hy V
 split at h<;>cases h
 rename_i hH I
 have I:=W0d I
 subst I
 refine Xhq (us:=[]) ho (by unfold Xal;rw[O];rfl) Q (λN W θ ρ _ hO hN hB hv=>?_) (Pl.nx_nil k)
 obtain⟨hk,_⟩:=c.hT _ _ V
 obtain⟨t,u1,_,u3⟩:=hk.u
 simp only[show ¬m=0 by omega,if_false] at u3
 obtain⟨E,e1,i,v0,i1,i2,_⟩:=u3
 subst e1
 obtain⟨cs,⟨b,f1,f2,f3⟩,Z⟩:=hv _ _ hx
 subst f3
 have Z:ρ x=.pointer (some ⟨b,0,none⟩):=Z
 obtain⟨ey,_⟩:=Xcf (hv _ _ hy)
 have hg:(sem p.E p.H).2 q=some _:=hH
 refine .val (u:=.slice (some ⟨b,0,none⟩) j m) hO ?_ ?_ (λi hi=>by subst hi;exact⟨_,hg⟩)
 . have hm0:¬m=0:=by omega
   simp[execOp,O,Z,ey,Instr.sliceAt,Instr.sureAddr,Instr.sliceBounds,Instr.sliceBound,asIntOf,sizeOf,typeInfo,underlying,program,bind,Sem.bind,Sem.run,pure,u1,i1,i2,hm0,hj,add0]
 . exact⟨[.slice (some ⟨b,0,none⟩) j m],⟨b,some ⟨b,0,none⟩,f1,by omega,by omega,by rw[f2,W6b],λ_=>by rw[W4n]⟩,rfl⟩
noncomputable def Ypj(tb:Nat->Option TI)(n:Nat)(s:St): Option (Pl×Oper×TypeId×TypeId×Operand×Nat×Nat×Nat×List D):=match nxO tb n s with
 | some (p,o)=>match o.op,p.dr with
  | .convert S T x,false=>match Xbt (look p.E) x,tb S,tb T with
   | some (.own q 1 l m),some ⟨.sl _ _,.int .u8 _,_,_⟩,some ⟨.str _,_,_,_⟩=>match look p.H q with
    | some (.arr 1 xs)=>some (p,o,S,T,x,q,l,m,xs)
    | _=>none
   | _,_,_=>none
  | _,_=>none
 | none=>none
theorem Bo(zs:List UInt8){o:Oper}{S T:TypeId}{x:Operand}{q l m:Nat}{xs:List D}(h:Ypj c.tb c.n s=some (p,o,S,T,x,q,l,m,xs))(hl:l+m<=xs.length)(V:Yan ((xs.drop l).take m)=some zs)(k:p.nx c (.d (.str zs))): StP c s:=by
 unfold Ypj at h
 split at h<;>try cases h
 rename_i p' o' ho
 split at h<;>try cases h
 rename_i S' T' x' Z hdr
 split at h<;>try cases h
 rename_i hx hS hT
 split at h<;>cases h
 rename_i hH
 refine Xhq (us:=[]) ho (by unfold Xal;rw[Z];rfl) hdr (λN W θ ρ _ hO hN hB hv=>?_) (Pl.nx_nil k)
 obtain⟨hk,_⟩:=c.hT _ _ hS
 obtain⟨t,u1,_,E,u3,_⟩:=hk.u
 subst u3
 obtain⟨t',u1',_,u3⟩:=(c.hT _ _ hT).1.u
 have u3:t'=.string:=u3
 subst u3
 have ue:=hk.k E _ _ u1 rfl
 obtain⟨b,pp,f1,f2,f3,e,f5⟩:=Xea (hv _ _ hx)
 obtain⟨b',bs,T1,r1,r2,r3,r4,r5,r6,r7⟩:=hO.r _ _ hH
 rw[f1] at r1;injection r1 with r1;subst r1
 obtain⟨I,hn1,rfl⟩:=Xl1 V
 have O:I.length=m:=by
  have:=congrArg List.length hn1
  simp at this;omega
 refine .val (u:=.string ⟨(I.map λz=>UInt8.ofNat z.toNat).toArray⟩) hO ?_ (Xn6 (by simp;omega)) (λ_ h=>h.elim)
 have hc:(convert S T (ρ x)).run c.P W.w=.ok (.string ⟨(I.map λz=>UInt8.ofNat z.toNat).toArray⟩) W.w:=by
  rw[e,run_convert_bytes_string W.w S T E pp _ _ u1 ue u1']
  by_cases hm0:m=0
  . subst hm0
    have:I=[]:=W4g.1 O
    subst this
    cases pp with
    | none=>rfl
    | some a=>exact run_bytesToString W.w a _ _ [] rfl
  . rw[f5 (by omega)]
    rw[run_bytesToString W.w _ _ _ I (by
     have h:=run_loadCells (P:=c.P) (b:=b) (off:=l*1) (w:=W.w) (I.map (Value.int .u8)) 0 #[] (λj v Q=>by
      rw[W1q] at Q
      cases V:I[j]? with
      | none=>rw[V] at Q;cases Q
      | some z =>
       rw[V] at Q;injection Q with Q;subst Q
       have i:((xs.drop l).take m)[j]?=some (.int .u8 z):=by rw[hn1,W1q,V];rfl
       have hj2:xs[l+j]?=some (.int .u8 z):=by
        rw[W1d] at i
        split at i
        . rwa[W1v] at i
        . cases i
       obtain⟨e1,g1,_,g2⟩:=r6 _ _ hj2
       have g1:=g1.1
       subst g1
       have:=g2 0 _ rfl
       rw[show l*1+(0+j)=(l+j)*1+0 by omega,Xa9 r2]
       exact this)
     simp only[W0i] at h
     rw[<-O]
     simpa [loadCells] using h)]
    have:=Xfn I []
    rw[show (ByteArray.empty:ByteArray)=⟨([]:List UInt8).toArray⟩ from rfl,this]
    simp
 unfold execOp
 rw[Z]
 simp only
 rw[Sem.run_bind,hc];rfl
noncomputable def Ype(tb:Nat->Option TI)(n:Nat)(s:St): Option (Pl×Oper×TypeId×Nat×Operand×Nat×Int):=match nxO tb n s with
 | some (p,o)=>match o.op,p.dr with
  | .indexAddr T (.global g) y,false=>match Xbt (look p.E) y,tb T with
   | some (.d (.int _ j)),some ⟨.st _,.int _ _,_,h⟩=>match Nat.beq h 0 with
    | false=>some (p,o,T,g,y,h,j)
    | true=>none
   | _,_=>none
  | _,_=>none
 | none=>none
theorem Gx(j:Nat)(k:IntKind)(z:Int){o:Oper}{T:TypeId}{y:Operand}{g Q:Nat}{i:Int}(h:Ype c.tb c.n s=some (p,o,T,g,y,Q,i))(hj:j<Q)(hg:∀W,c.gb.g W->Fr W g j (.int k z))(hr:inR k z)(kk:p.nx c (.at (.int k z)))(hi:i=(j:Int):=by first | exact rfl | omega): StP c s:=by
 subst hi
 unfold Ype at h
 split at h<;>try cases h
 rename_i p' o' ho
 split at h<;>try cases h
 rename_i T' g' y' I V
 split at h<;>try cases h
 rename_i k1 j1 z1 k2 z2 eb ar1 hy Z
 split at h<;>cases h
 rename_i hz
 have hz:¬Q=0:=λe=>by subst e;cases hz
 refine Xhq (us:=[]) ho (by unfold Xal;rw[I];rfl) V (λN W θ ρ O hO hN hB hv=>?_) (Pl.nx_nil kk)
 obtain⟨hk,_⟩:=c.hT _ _ Z
 obtain⟨t,u1,_,u3⟩:=hk.u
 simp only[hz,if_false] at u3
 obtain⟨E,e1,i,v0,i1,i2,_⟩:=u3
 subst e1
 obtain⟨ey,_⟩:=Xcf (hv _ _ hy)
 have eg:=O.2 g
 have i2:i.size=1:=i2
 refine .val (u:=.pointer (some ⟨g,j,none⟩)) hO ?_ (Yoa (e:=[.int k z]) ⟨rfl,hr⟩ λq v hq=>?_) (λ_ h=>h.elim)
 . have hjl:(j:Int)<(Q:Int):=by omega
   simp[execOp,I,eg,ey,Instr.indexAt,Instr.sureAddr,asIntOf,sizeOf,typeInfo,underlying,program,bind,Sem.bind,Sem.run,pure,u1,i1,i2,hjl,hj,add0]
 . cases q with
   | zero=>simp at hq;subst hq;exact hg W O.1
   | succ q=>simp at hq
end
end
section
section
variable{c:Cx}{s:St}{p:Pl}
end
end
end Go.Vm
namespace Go.Proofs.YtfjafaehfjjaiaaGreatDoor
open Go Go.Vm Go.Num Go.Proofs Go.Shelf Go.RowKit
section
abbrev Tx(s:List UInt8): Prop:=s.length<4611686018427387904
theorem Xhk{s t:List UInt8}(hs:Tx s)(i:Tx t): C0 239 [.d (.str s),.d (.str t)] (·=.b (dc (s.take t.length=t))):=by
 refine En Tryz.func239 λ_ _ _=>?_
 refine By rfl (λh=>?_) λh=>?_
 . refine Stk t.length _ rfl (by omega) rfl ?_
   exact R1 rfl (.bp Xaj)
 . refine R1 rfl (.bp ⟨λe=>(by cases e),λe=>?_⟩)
   have:=congrArg List.length e
   rw[W0f] at this
   omega
theorem Xnv{s t:List UInt8}(hs:Tx s)(i:Tx t): C0 104 [.d (.str s),.d (.str t)] (·=.tup (.pr (.d (.str (if s.take t.length=t then s.drop t.length else s))) (.b (dc (s.take t.length=t))))):=by
 have j:C0 165 [.d (.str s),.d (.str t)] (·=.tup (.pr (.d (.str (if s.take t.length=t then s.drop t.length else s))) (.b (dc (s.take t.length=t))))):=by
  refine En Tryz.func165 λ_ _ _=>?_
  refine Ce rfl (Xhk hs i) ?_
  refine By rfl (λh=>?_) λh=>?_
  . refine RTt rfl (.cons (.eq (by rw[if_neg h])) (.one (by exact .bp (c:=false) ⟨λe=>(by cases e),λe=>absurd e h⟩) (λ_ _ e=>by cases e) (λ_ _ e=>by cases e)))
  . have h:=W2u.1 h
    have o:t.length<=s.length:=by have:=congrArg List.length h;rw[W0f] at this;omega
    refine Sdp t.length _ rfl o rfl ?_
    refine RTt rfl (.cons (.eq (by rw[if_pos h])) (.one (by exact .bp (c:=true) ⟨λ_=>h,λ_=>rfl⟩) (λ_ _ e=>by cases e) (λ_ _ e=>by cases e)))
 refine En Tryz.func104 λ_ _ _=>?_
 refine Ce rfl j ?_
 exact R0t
end
section
def d2(n:Nat): List UInt8:=[UInt8.ofNat (48+n/10),UInt8.ofNat (48+n%10)]
theorem Yko{n:Nat}(h:10<=n)(i:n<100): dec n=d2 n:=by rw[Xgi h,Xee (by omega)];rfl
def tb2: List UInt8:=(List.range 100).flatMap d2
theorem Xyz{n:Nat}(i:n<100): C0 300 [.d (.int .i64 n)] (·=.d (.str (dec n))):=by
 refine En Tryz.func300 λ_ _ _=>?_
 refine By rfl (λh=>?_) λh=>?_
 . refine Ar (n+1:Nat) rfl ?_
   refine Smd n (n+1) (dec n) rfl ⟨by omega,by simp;omega⟩ ?_ ?_
   . rw[Xee (by omega)]
     have o:n<10:=by omega
     clear i h
     revert o;generalize n=j;revert j;decide +kernel
   . exact R0
 . refine Ar (n*2:Nat) rfl ?_
   refine Ar (n*2:Nat) rfl ?_
   refine Ar (n*2+2:Nat) rfl ?_
   refine Smd (n*2) (n*2+2) (dec n) rfl ⟨by omega,by simp;omega⟩ ?_ ?_
   . rw[Yko (by omega) i]
     clear h
     revert i;generalize n=j;revert j;decide +kernel
   . exact R0
theorem Xmv{n:Nat}(h:n<=64): C0 337 [.d (.int .i64 n)] (·=.d (.int .i64 (n*78913/262144:Nat))):=by
 refine En Tryz.func337 λ_ _ _=>?_
 refine Ar (n*78913:Nat) rfl ?_
 refine Ar (n*78913/2^18:Nat) rfl ?_ (Xjh (n:=18) (by decide))
 exact R1 rfl (.eq rfl)
theorem Yap{p:Prop}: C0 339 [.b (dc p)] (λv=>∃n:Nat,v=.d (.int .i64 n)/\(n=1/\p\/n=0/\¬p)):=by
 refine En Tryz.func339 λ_ _ _=>?_
 refine By rfl (λh=>?_) λh=>?_
 . exact Rt rfl (.one (.rf rfl) rfl rfl) ⟨1,rfl,.inl ⟨rfl,h⟩⟩
 . exact Rt rfl (.one (.rf rfl) rfl rfl) ⟨0,rfl,.inr ⟨rfl,h⟩⟩
theorem Ya2{x:Nat}(hx:x<18446744073709551616): C0 338 [.d (.int .u64 x)] (·=.d (.int .i64 (bl x))):=by
 refine En Tryz.func338 λ_ _ _=>?_
 refine Cu none (λ((i,n1):Nat×Nat)=>[(0,.d (.int .u64 i)),(2,.d (.int .i64 n1))]) (λ_=>[]) (λ(i,n1)=>i<4294967296/\bl x=bl i+n1/\n1<=32) rfl ?_ λ⟨V,n0⟩ ⟨Z,I,hn0⟩=>?_
 . refine By rfl (λh=>?_) λh=>?_
   . refine Ar (x/2^32:Nat) rfl ?_ (Xjh (n:=32) (by decide))
     exact Jn (x/2^32,32) [] rfl ⟨by omega,Xfa (by omega),W0a _⟩
   . exact Jn (x,0) [] rfl ⟨by omega,rfl,by omega⟩
 refine Cu none (λ((i,n1):Nat×Nat)=>[(0,.d (.int .u64 i)),(2,.d (.int .i64 n1))]) (λ_=>[]) (λ(i,n1)=>i<65536/\bl x=bl i+n1/\n1<=48) rfl ?_ λ⟨i,n1⟩ ⟨hx1,O,hn1⟩=>?_
 . refine By rfl (λh=>?_) λh=>?_
   . refine Ar (V/2^16:Nat) rfl ?_ (Xjh (n:=16) (by decide))
     refine Ar (n0+16:Nat) rfl ?_
     exact Jn (V/2^16,n0+16) [] rfl ⟨by omega,by rw[I,Xfa (n:=V) (k:=16) (by omega)];omega,by omega⟩
   . exact Jn (V,n0) [] rfl ⟨by omega,I,by omega⟩
 refine Cu none (λ((i,n1):Nat×Nat)=>[(0,.d (.int .u64 i)),(2,.d (.int .i64 n1))]) (λ_=>[]) (λ(i,n1)=>i<256/\bl x=bl i+n1/\n1<=56) rfl ?_ λ⟨o,n2⟩ ⟨Q,hb2,hn2⟩=>?_
 . refine By rfl (λh=>?_) λh=>?_
   . refine Ar (i/2^8:Nat) rfl ?_ (Xjh (n:=8) (by decide))
     refine Ar (n1+8:Nat) rfl ?_
     exact Jn (i/2^8,n1+8) [] rfl ⟨by omega,by rw[O,Xfa (n:=i) (k:=8) (by omega)];omega,by omega⟩
   . exact Jn (i,n1) [] rfl ⟨by omega,O,by omega⟩
 have T:bl o<256:=W0x (Yc0 (p:=λj=>bl j<10) (by decide +kernel) o Q) (by decide)
 refine Go.Vm.Cv o rfl ?_
 refine Yx o (UInt8.ofNat (bl o)) rfl (by revert Q;generalize o=j;revert j;decide +kernel) ?_
 refine Go.Vm.Cv (bl o:Nat) rfl ?_ ((wI ⟨by omega,by rw[Xyp T];omega⟩).trans (Xyp T))
 refine Ar (bl x:Nat) rfl ?_
 exact R0
theorem Xms{x:Nat}(h1:100<=x)(hx:x<1000000000): C0 301 [.d (.int .u64 x)] (·=.d (.int .i64 (dec x).length)):=by
 obtain⟨O,Q,b3⟩:=Xcq (n:=x) (by omega)
 have o:7<=bl x:=by
  have:2^6<2^bl x:=W1w (by omega) Q
  have:=(W2w (by decide:1<2)).1 this
  omega
 have i:bl x<=30:=by
  have:2^(bl x-1)<2^30:=W1w O (by omega)
  have:=(W2w (by decide:1<2)).1 this
  omega
 obtain⟨t,T⟩:∃t,t=bl x*78913/262144:=⟨_,rfl⟩
 have I:t<=9:=by omega
 have j:10^(t-1)<=x/\x<10^(t+1)/\1<=t:=by
  have hc:∀b,b<=30->7<=b->10^(b*78913/262144-1)<=2^(b-1)/\2^b<=10^(b*78913/262144+1)/\1<=b*78913/262144:=by decide +kernel
  obtain⟨V,Z,c3⟩:=hc (bl x) i o
  rw[<-T] at V Z c3
  exact⟨W0m V O,W0x Q Z,c3⟩
 refine En Tryz.func301 λ_ _ _=>?_
 refine Ce rfl (Ya2 (by omega)) ?_
 refine Ce rfl (show C0 _ _ (·=.d (.int .i64 (t:Nat))) by rw[T];exact Xmv (by omega)) ?_
 refine Gx t .u64 ((10^t:Nat):Int) rfl (by omega) (λW h=>h t (by omega)) ?_ ?_
 . have:10^t<=10^9:=W0p (by decide) I
   exact wr rfl (by simp only[inK];omega)
 refine Ca rfl (C.nb Yap) λv hv=>?_
 obtain⟨n,rfl,hn⟩:=hv
 refine Ar ((dec x).length:Nat) rfl ?_ ?_
 . exact R0
 . refine wr ?_ ?_
   . rcases hn with ⟨rfl,hp⟩ | ⟨rfl,hp⟩
     . have:=Xfr t x j.2.1
       have:=Xe8 t x (by omega)
       omega
     . have h3:=Xfr (t-1) x (by rw[show t-1+1=t by omega];omega)
       have h4:=Xe8 (t-1) x j.1
       omega
   . have:=Xfr 9 x (by omega)
     simp only[inK];omega
end
section
def dgs: Nat->Nat->List UInt8
 | 0,_=>[]
 | w+1,n=>dgs w (n/10)++[UInt8.ofNat (48+n%10)]
theorem Yfx(w n:Nat): dgs (w+2) n=dgs w (n/100)++d2 (n%100):=by
 rw[dgs,dgs,W6l,d2,show n/10%10=n%100/10 by omega,show n%10=n%100%10 by omega]
 simp
theorem Xw8(n:Nat): dgs (dec n).length n=dec n:=by
 induction n using Nat.strongRecOn with
 | ind n i =>
  by_cases h:n<10
  . rw[Xee h];show dgs 1 n=_;rw[dgs,dgs,W4b h];rfl
  . rw[Xgi (by omega),W0c];show dgs (_+1) n=_
    rw[dgs,i _ (by omega)]
def b8(b:UInt8): D:=.int .u8 b.toNat
theorem Xxq: ∀l:List UInt8,Yan (l.map b8)=some l
 | []=>rfl
 | b::l=>by
  show (match Yan (l.map b8) with | some s=>some (UInt8.ofNat ((b.toNat:Int)).toNat::s) | none=>none)=_
  rw[Xxq l];simp
theorem st1{z acc:List UInt8}{i j:Nat}{a:UInt8}(o:j+1=i)(Q:i<=z.length): ((z.take i++acc).map b8).set j (b8 a)=(z.take j++a::acc).map b8:=by
 subst o
 rw[<-List.map_set]
 congr 1
 apply W4c
 intro k
 by_cases T:k<j
 . rw[W2a (by omega),W0r (by simp;omega),W0r (by simp;omega),W1d,W1d,if_pos (by omega),if_pos (by omega)]
 . by_cases h:k=j
   . subst h
     rw[W2x (by simp;omega),W0s (by simp;omega)]
     have:k-(List.take k z).length=0:=by simp;omega
     rw[this];rfl
   . obtain⟨q,rfl⟩:∃q,k=j+1+q:=⟨k-(j+1),by omega⟩
     rw[W2a (by omega),W0s (by simp;omega),W0s (by simp;omega)]
     have I:j+1+q-(List.take (j+1) z).length=q:=by simp;omega
     have O:j+1+q-(List.take j z).length=q+1:=by simp;omega
     rw[I,O];simp
def Yor(l:List UInt8): Prop:=∀v,v<100->l[v*2+1]?=some (UInt8.ofNat (48+v%10))/\l[v*2]?=some (UInt8.ofNat (48+v/10))
instance (l:List UInt8):Decidable (Yor l):=inferInstanceAs (Decidable (∀v,v<100->_))
theorem quN{k:IntKind}{a b r:Nat}(hb:b≠0)(h:a/b=r)(i:inK k (r:Int)): arB .quo k (a:Int) (b:Int) (r:Int):=show _/\_ from⟨by omega,wr (by subst h;rfl) i⟩
theorem reN{k:IntKind}{a b r:Nat}(hb:b≠0)(h:a%b=r): arB .rem k (a:Int) (b:Int) (r:Int):=show _/\_ from⟨by omega,by subst h;rfl⟩
theorem tbl: Yor (List.flatten ((List.range 100).map d2)):=by decide +kernel
theorem Stb{c:Cx}{s:St}{p:Pl}{q j:Nat}{xs:List D}{z:Int}(a:UInt8){zs:List D}(h:Ym9 c.tb c.n s=some (p,q,1,xs,j,.int .u8 z))(o:j<xs.length)(I:xs.set j (b8 a)=zs)(k:p.nx' c (.ub True) [(q,.arr 1 zs)])(i:z=(a.toNat:Int):=by exact rfl): StP c s:=by
 subst i
 exact Sto h o I k
theorem Xi4{nd x:Nat}{z0:List UInt8}(h1:nd<=9)(hx:x<1000000000)(hxn:x<10^nd)(hz0:nd<=z0.length)(hz24:z0.length<1000):
 CW0 302 [.own 1000001 1 0 nd,.d (.int .u64 x)] [(1000001,.arr 1 (z0.map b8))] λv H'=>H'=[(1000001,.arr 1 ((dgs nd x++z0.drop nd).map b8))]:=by
 refine EnW Tryz.func302 λ_ _ _ _=>?_
 refine Lo (λ((i,u,acc):Nat×Nat×List UInt8)=>[(0,.own 1000001 1 0 nd),(1,.d (.int .u64 u)),(4,.d (.int .i64 i))]) (λ(i,_,acc)=>[(1000001,.arr 1 ((z0.take i++acc).map b8))])
  (λ(i,u,acc)=>i<=nd/\u<10^i/\u<1000000000/\dgs i u++acc=dgs nd x++z0.drop nd) (λ(i,_,_)=>i) (nd,x,z0.drop nd) [] rfl ⟨W0a _,hxn,hx,rfl⟩ ?_ (by exact⟨rfl,by simp only[W3q];rfl,rfl,rfl,rfl⟩)
 rintro⟨i,u,acc⟩ ⟨hi,o,hu9,Q⟩
 refine By rfl (λh=>?_) λh=>?_
 . obtain⟨v,hv⟩:∃v,v=u%100000000:=⟨_,rfl⟩
   obtain⟨t6,ht6⟩:∃t,t=v/10000:=⟨_,rfl⟩
   obtain⟨t7,ht7⟩:∃t,t=v%10000:=⟨_,rfl⟩
   obtain⟨v0,O⟩:∃w,w=t7%100:=⟨_,rfl⟩
   obtain⟨j,T⟩:∃w,w=t7/100:=⟨_,rfl⟩
   obtain⟨I,hv2⟩:∃w,w=t6%100:=⟨_,rfl⟩
   obtain⟨v3,hv3⟩:∃w,w=t6/100:=⟨_,rfl⟩
   have Bv0:v0<100:=by omega
   have Bv1:j<100:=by omega
   have Bv2:I<100:=by omega
   have Bv3:v3<100:=by omega
   refine Ar (v:Nat) rfl ?_ (reN (b:=100000000) (by decide) hv.symm)
   refine Go.Vm.Cv v rfl ?_
   refine Ar (u/100000000:Nat) rfl ?_ (quN (b:=100000000) (by decide) rfl (by simp only[inK];omega))
   refine Ar t6 rfl ?_ (quN (b:=10000) (by decide) ht6.symm (by simp only[inK];omega))
   refine Ar t7 rfl ?_ (reN (b:=10000) (by decide) ht7.symm)
   refine Ar j rfl ?_ (quN (b:=100) (by decide) T.symm (by simp only[inK];omega))
   refine Ar (j*2:Nat) rfl ?_
   refine Ar v0 rfl ?_ (reN (b:=100) (by decide) O.symm)
   refine Ar (v0*2:Nat) rfl ?_
   refine Ar v3 rfl ?_ (quN (b:=100) (by decide) hv3.symm (by simp only[inK];omega))
   refine Ar (v3*2:Nat) rfl ?_
   refine Ar I rfl ?_ (reN (b:=100) (by decide) hv2.symm)
   refine Ar (I*2:Nat) rfl ?_
   refine Dw rfl ?_
   refine Ar ((i-1:Nat):Int) rfl ?_
   refine Ar ((i-2:Nat):Int) rfl ?_
   refine Ar ((v0*2+1:Nat):Int) rfl ?_
   refine Yx (v0*2+1) (UInt8.ofNat (48+v0%10)) rfl (tbl v0 Bv0).1 ?_
   refine Yx (v0*2) (UInt8.ofNat (48+v0/10)) rfl (tbl v0 Bv0).2 ?_
   refine Eo (i-1) rfl (by omega) ?_
   refine Stb (UInt8.ofNat (48+v0%10)) rfl (by simp only[W0i,W0c,W0f,W0t];omega) (st1 (by omega) (by omega)) ?_
   refine Eo (i-2) rfl (by omega) ?_
   refine Stb (UInt8.ofNat (48+v0/10)) rfl (by simp only[W0i,W0c,W0f,W0t];omega) (st1 (by omega) (by omega)) ?_
   refine Dw rfl ?_
   refine Ar ((i-3:Nat):Int) rfl ?_
   refine Ar ((i-4:Nat):Int) rfl ?_
   refine Ar ((j*2+1:Nat):Int) rfl ?_
   refine Yx (j*2+1) (UInt8.ofNat (48+j%10)) rfl (tbl j Bv1).1 ?_
   refine Yx (j*2) (UInt8.ofNat (48+j/10)) rfl (tbl j Bv1).2 ?_
   refine Eo (i-3) rfl (by omega) ?_
   refine Stb (UInt8.ofNat (48+j%10)) rfl (by simp only[W0i,W0c,W0f,W0t];omega) (st1 (by omega) (by omega)) ?_
   refine Eo (i-4) rfl (by omega) ?_
   refine Stb (UInt8.ofNat (48+j/10)) rfl (by simp only[W0i,W0c,W0f,W0t];omega) (st1 (by omega) (by omega)) ?_
   refine Dw rfl ?_
   refine Ar ((i-5:Nat):Int) rfl ?_
   refine Ar ((i-6:Nat):Int) rfl ?_
   refine Ar ((I*2+1:Nat):Int) rfl ?_
   refine Yx (I*2+1) (UInt8.ofNat (48+I%10)) rfl (tbl I Bv2).1 ?_
   refine Yx (I*2) (UInt8.ofNat (48+I/10)) rfl (tbl I Bv2).2 ?_
   refine Eo (i-5) rfl (by omega) ?_
   refine Stb (UInt8.ofNat (48+I%10)) rfl (by simp only[W0i,W0c,W0f,W0t];omega) (st1 (by omega) (by omega)) ?_
   refine Eo (i-6) rfl (by omega) ?_
   refine Stb (UInt8.ofNat (48+I/10)) rfl (by simp only[W0i,W0c,W0f,W0t];omega) (st1 (by omega) (by omega)) ?_
   refine Dw rfl ?_
   refine Ar ((i-7:Nat):Int) rfl ?_
   refine Ar ((i-8:Nat):Int) rfl ?_
   refine Ar ((v3*2+1:Nat):Int) rfl ?_
   refine Yx (v3*2+1) (UInt8.ofNat (48+v3%10)) rfl (tbl v3 Bv3).1 ?_
   refine Yx (v3*2) (UInt8.ofNat (48+v3/10)) rfl (tbl v3 Bv3).2 ?_
   refine Eo (i-7) rfl (by omega) ?_
   refine Stb (UInt8.ofNat (48+v3%10)) rfl (by simp only[W0i,W0c,W0f,W0t];omega) (st1 (by omega) (by omega)) ?_
   refine Eo (i-8) rfl (by omega) ?_
   refine Stb (UInt8.ofNat (48+v3/10)) rfl (by simp only[W0i,W0c,W0f,W0t];omega) (st1 (by omega) (by omega)) ?_
   refine Ar ((i-8:Nat):Int) rfl ?_
   refine Bk (i-8,u/100000000,d2 v3++(d2 I++(d2 j++(d2 v0++acc)))) [] rfl ⟨by omega,?_,by omega,?_⟩ (by show i-8<i;omega) (by exact⟨rfl,rfl,rfl,rfl,rfl⟩)
   . obtain⟨q,rfl⟩:∃q,i=q+8:=⟨i-8,by omega⟩
     rw[W0z] at o
     rw[W3w]
     exact W4x (by rw[W1h];exact o)
   . obtain⟨q,rfl⟩:∃q,i=q+8:=⟨i-8,by omega⟩
     rw[W3w,<-Q,show q+8=q+6+2 from rfl,Yfx,show q+6=q+4+2 from rfl,Yfx,show q+4=q+2+2 from rfl,Yfx,Yfx]
     rw[show u/100/100/100/100=u/100000000 by omega,show u%100=v0 by omega,show u/100%100=j by omega,show u/100/100%100=I by omega,show u/100/100/100%100=v3 by omega]
     simp only[W3r]
 have hi8:i<8:=by omega
 have hu8:u<10^8:=W0x o (W0p (by decide) (by omega))
 refine Go.Vm.Cv u rfl ?_
 refine Cu none (λ((i,u,acc):Nat×Nat×List UInt8)=>[(0,.own 1000001 1 0 nd),(12,.d (.int .u32 u)),(4,.d (.int .i64 i))]) (λ(i,_,acc)=>[(1000001,.arr 1 ((z0.take i++acc).map b8))])
  (λ(i,u,acc)=>i<=nd/\i<4/\u<10^i/\dgs i u++acc=dgs nd x++z0.drop nd) rfl ?_ ?_
 . refine By rfl (λV=>?_) λV=>?_
   . obtain⟨v,hv⟩:∃v,v=u%10000:=⟨_,rfl⟩
     obtain⟨v0,O⟩:∃w,w=v%100:=⟨_,rfl⟩
     obtain⟨j,T⟩:∃w,w=v/100:=⟨_,rfl⟩
     have Bv0:v0<100:=by omega
     have Bv1:j<100:=by omega
     refine Ar (v:Nat) rfl ?_ (reN (b:=10000) (by decide) hv.symm)
     refine Ar (u/10000:Nat) rfl ?_ (quN (b:=10000) (by decide) rfl (by simp only[inK];omega))
     refine Ar j rfl ?_ (quN (b:=100) (by decide) T.symm (by simp only[inK];omega))
     refine Ar (j*2:Nat) rfl ?_
     refine Ar v0 rfl ?_ (reN (b:=100) (by decide) O.symm)
     refine Ar (v0*2:Nat) rfl ?_
     refine Dw rfl ?_
     refine Ar ((i-1:Nat):Int) rfl ?_
     refine Ar ((i-2:Nat):Int) rfl ?_
     refine Ar ((v0*2+1:Nat):Int) rfl ?_
     refine Yx (v0*2+1) (UInt8.ofNat (48+v0%10)) rfl (tbl v0 Bv0).1 ?_
     refine Yx (v0*2) (UInt8.ofNat (48+v0/10)) rfl (tbl v0 Bv0).2 ?_
     refine Eo (i-1) rfl (by omega) ?_
     refine Stb (UInt8.ofNat (48+v0%10)) rfl (by simp only[W0i,W0c,W0f,W0t];omega) (st1 (by omega) (by omega)) ?_
     refine Eo (i-2) rfl (by omega) ?_
     refine Stb (UInt8.ofNat (48+v0/10)) rfl (by simp only[W0i,W0c,W0f,W0t];omega) (st1 (by omega) (by omega)) ?_
     refine Dw rfl ?_
     refine Ar ((i-3:Nat):Int) rfl ?_
     refine Ar ((i-4:Nat):Int) rfl ?_
     refine Ar ((j*2+1:Nat):Int) rfl ?_
     refine Yx (j*2+1) (UInt8.ofNat (48+j%10)) rfl (tbl j Bv1).1 ?_
     refine Yx (j*2) (UInt8.ofNat (48+j/10)) rfl (tbl j Bv1).2 ?_
     refine Eo (i-3) rfl (by omega) ?_
     refine Stb (UInt8.ofNat (48+j%10)) rfl (by simp only[W0i,W0c,W0f,W0t];omega) (st1 (by omega) (by omega)) ?_
     refine Eo (i-4) rfl (by omega) ?_
     refine Stb (UInt8.ofNat (48+j/10)) rfl (by simp only[W0i,W0c,W0f,W0t];omega) (st1 (by omega) (by omega)) ?_
     refine Ar ((i-4:Nat):Int) rfl ?_
     refine Jn (i-4,u/10000,d2 j++(d2 v0++acc)) [] rfl ⟨by omega,by omega,?_,?_⟩
     . obtain⟨q,rfl⟩:∃q,i=q+4:=⟨i-4,by omega⟩
       rw[W0z] at o
       rw[W3w]
       exact W4x (by rw[W1h];exact o)
     . obtain⟨q,rfl⟩:∃q,i=q+4:=⟨i-4,by omega⟩
       rw[W3w,<-Q,show q+4=q+2+2 from rfl,Yfx,Yfx]
       rw[show u/100/100=u/10000 by omega,show u%100=v0 by omega,show u/100%100=j by omega]
       simp only[W3r]
   . exact Jn (i,u,acc) [] rfl ⟨hi,by omega,o,Q⟩
 clear hu8 hi8 h Q hu9 o hi acc u i
 rintro⟨i,u,acc⟩ ⟨hi,hi4,o,Q⟩
 have hu4:u<10^4:=W0x o (W0p (by decide) (by omega))
 refine Cu none (λ((i,u,acc):Nat×Nat×List UInt8)=>[(0,.own 1000001 1 0 nd),(12,.d (.int .u32 u)),(4,.d (.int .i64 i))]) (λ(i,_,acc)=>[(1000001,.arr 1 ((z0.take i++acc).map b8))])
  (λ(i,u,acc)=>i<=nd/\i<2/\u<10^i/\dgs i u++acc=dgs nd x++z0.drop nd) rfl ?_ ?_
 . refine By rfl (λV=>?_) λV=>?_
   . obtain⟨v0,O⟩:∃w,w=u%100:=⟨_,rfl⟩
     have Bv0:v0<100:=by omega
     refine Ar v0 rfl ?_ (reN (b:=100) (by decide) O.symm)
     refine Ar (v0*2:Nat) rfl ?_
     refine Ar (u/100:Nat) rfl ?_ (quN (b:=100) (by decide) rfl (by simp only[inK];omega))
     refine Dw rfl ?_
     refine Ar ((i-1:Nat):Int) rfl ?_
     refine Ar ((i-2:Nat):Int) rfl ?_
     refine Ar ((v0*2+1:Nat):Int) rfl ?_
     refine Yx (v0*2+1) (UInt8.ofNat (48+v0%10)) rfl (tbl v0 Bv0).1 ?_
     refine Yx (v0*2) (UInt8.ofNat (48+v0/10)) rfl (tbl v0 Bv0).2 ?_
     refine Eo (i-1) rfl (by omega) ?_
     refine Stb (UInt8.ofNat (48+v0%10)) rfl (by simp only[W0i,W0c,W0f,W0t];omega) (st1 (by omega) (by omega)) ?_
     refine Eo (i-2) rfl (by omega) ?_
     refine Stb (UInt8.ofNat (48+v0/10)) rfl (by simp only[W0i,W0c,W0f,W0t];omega) (st1 (by omega) (by omega)) ?_
     refine Ar ((i-2:Nat):Int) rfl ?_
     refine Jn (i-2,u/100,d2 v0++acc) [] rfl ⟨by omega,by omega,?_,?_⟩
     . obtain⟨q,rfl⟩:∃q,i=q+2:=⟨i-2,by omega⟩
       rw[W0z] at o
       rw[W3w]
       exact W4x (by rw[W1h];exact o)
     . obtain⟨q,rfl⟩:∃q,i=q+2:=⟨i-2,by omega⟩
       rw[W3w,<-Q,Yfx,<-O]
       simp only[W3r]
   . exact Jn (i,u,acc) [] rfl ⟨hi,by omega,o,Q⟩
 clear hu4 hi4 Q o hi acc u i
 rintro⟨i,u,acc⟩ ⟨hi,hi2,o,Q⟩
 refine By rfl (λV=>?_) λV=>?_
 . have:i=1:=by omega
   subst this
   have Z:u<10:=by simpa using o
   refine Ar (48+u:Nat) rfl ?_
   refine Go.Vm.Cv (48+u:Nat) rfl ?_
   refine Eo 0 rfl (by omega) ?_
   refine Stb (UInt8.ofNat (48+u)) rfl (by simp only[W0i,W0c,W0f];omega) (st1 (i:=1) rfl (by omega)) ?_ (by rw[dg Z])
   refine Rw [] [(1000001,.arr 1 ((z0.take 0++UInt8.ofNat (48+u)::acc).map b8))] rfl (.tup (.one (.rf rfl) (λ_ _ e=>by cases e) (λ_ _ e=>by cases e))) ?_
   rw[<-Q,dgs,dgs,W4b Z];rfl
 . have:i=0:=by omega
   subst this
   refine Rw [] [(1000001,.arr 1 ((z0.take 0++acc).map b8))] rfl (.tup (.one (.rf rfl) (λ_ _ e=>by cases e) (λ_ _ e=>by cases e))) ?_
   rw[<-Q,dgs];rfl
end
section
theorem Xl7{x:Nat}(i:x<1000000000): C0 170 [.d (.int .u64 x),.d (.int .i64 10)] (·=.d (.str (dec x))):=by
 have j:C0 242 [.d (.int .u64 x),.d (.int .i64 10)] (·=.d (.str (dec x))):=by
  refine En Tryz.func242 λ_ _ _=>?_
  refine Yes rfl rfl ?_
  refine By rfl (λh=>?_) λh=>?_
  . refine Go.Vm.Cv x rfl ?_
    refine Ce rfl (Xyz (by omega)) ?_
    exact R0
  . have o:=Xfr 8 x i
    have O:=Xe8 2 x (by omega)
    refine Va 5 5 900 24 ((List.replicate 24 (0:UInt8)).map b8) rfl rfl (by decide) rfl ?_
    refine Ce rfl (Xms (by omega) i) ?_
    refine Sp (dec x).length rfl (by omega) (by decide) ?_ (by decide)
    refine Cw (args:=[.own 1000001 1 0 (dec x).length,.d (.int .u64 x)]) [(1000001,900)] rfl (Xi4 (z0:=List.replicate 24 (0:UInt8)) o i (Ykm x) (by simp;omega) (by simp)) (λv H' _ I=>?_) rfl
    subst I
    refine Sp (dec x).length rfl (by omega) (by decide) ?_ (by decide)
    refine Bo (dec x) rfl ?_ ?_ ?_
    . simp[Xw8]
    . rw[Xw8]
      simp only[W1e]
      rw[<-W2g,W6i rfl,Xxq]
    . exact R0
 refine En Tryz.func170 λ_ _ _=>?_
 refine Ce rfl j ?_
 exact R0
end
section
theorem Xeb{s t:List UInt8}(hs:Tx s)(h:Tx t): C0 174 [.d (.str s),.d (.str t)] (·=.b (dc (s.take t.length=t))):=by
 refine En Tryz.func174 λ_ _ _=>?_
 refine Ce rfl (Xhk hs h) ?_
 exact R0
theorem Ygn{n:Nat}(h:n<65): C0 173 [.d (.int .u64 1),.d (.int .u64 n)] (·=.tup (.pr (.d (.int .u64 0)) (.d (.int .u64 n)))):=by
 have i:C0 244 [.d (.int .u64 1),.d (.int .u64 n)] (·=.tup (.pr (.d (.int .u64 0)) (.d (.int .u64 n)))):=by
  refine En Tryz.func244 λ_ _ _=>?_
  refine Ar 1 rfl ?_ (by simp only[arB];decide +kernel)
  refine Ar 0 rfl ?_ (by simp only[arB];decide +kernel)
  refine Ar n rfl ?_ (by simp only[arB];revert h;generalize n=j;revert j;decide +kernel)
  refine Ar 0 rfl ?_ (by simp only[arB];revert h;generalize n=j;revert j;decide +kernel)
  refine Ar n rfl ?_
  refine Ar 0 rfl ?_
  refine Ar 0 rfl ?_ (by simp only[arB];revert h;generalize n=j;revert j;decide +kernel)
  refine Ar 0 rfl ?_
  refine Ar 0 rfl ?_ (by simp only[arB];decide +kernel)
  refine Ar 0 rfl ?_ (by simp only[arB];decide +kernel)
  refine Ar 0 rfl ?_
  refine Ar 0 rfl ?_
  refine Ar 0 rfl ?_
  refine Ar 0 rfl ?_
  refine Ar 0 rfl ?_ (by simp only[arB];decide +kernel)
  refine Ar 0 rfl ?_
  refine Ar n rfl ?_
  exact R0t
 refine En Tryz.func173 λ_ _ _=>?_
 refine Ce rfl i ?_
 exact R0t
theorem Xkp{n:Nat}(i:n<65): C0 106 [.d (.str [48]),.d (.int .i64 n)] (·=.d (.str (List.replicate n 48))):=by
 refine En Tryz.func106 λ_ _ _=>?_
 refine By rfl (λh=>?_) λh=>?_
 . have:n=0:=by omega
   subst this;exact R1 rfl (.eq rfl)
 refine By rfl (λo=>?_) λo=>?_
 . have:n=1:=by omega
   subst this;exact R1 rfl (.eq rfl)
 refine No rfl (by omega) ?_
 refine Go.Vm.Cv 1 rfl ?_ (by decide)
 refine Go.Vm.Cv n rfl ?_
 refine Ce rfl (Ygn i) ?_
 refine No rfl (by decide) ?_
 refine No rfl (by omega) ?_
 refine Go.Vm.Cv n rfl ?_
 refine No rfl (by decide) ?_
 refine Yx 0 48 rfl rfl ?_
 refine No rfl (by decide) ?_
 refine No rfl (by decide) ?_
 refine Yes rfl (by decide) ?_
 refine Yes rfl (by omega) ?_
 refine Ce rfl (Xeb (by decide) (by decide)) ?_
 refine No rfl (by decide) ?_
 refine Yes rfl (by omega) ?_
 refine Ce rfl (Xeb (by decide) (by decide)) ?_
 refine No rfl (by decide) ?_
 refine Yes rfl (by omega) ?_
 refine Ce rfl (Xeb (by decide) (by decide)) ?_
 refine Yes rfl (by decide) ?_
 refine Stk n (List.replicate n 48) rfl (by simp;omega) ?_ ?_
 . clear h o
   revert i;generalize n=j;revert j;decide +kernel
 . exact R0
end
section
end
section
end
section
end
section
end
end Go.Proofs.YtfjafaehfjjaiaaGreatDoor
namespace Go.Num
open Go.Proofs.YtfjafaehfjjaiaaGreatDoor
section
end
section
theorem Xqo{k m d:Nat}(hd:d<10)(h:m<10^(k+1)): pad k (dec m)++[UInt8.ofNat (48+d)]=pad (k+1) (dec (10*m+d)):=by
 by_cases h0:m=0
 . subst h0
   rw[show 10*0+d=d by omega,Xee hd,Xee (show 0<10 by decide)]
   show List.replicate (k+1-1) 48++[UInt8.ofNat (48+0)]++[UInt8.ofNat (48+d)]=List.replicate (k+1+1-1) 48++[UInt8.ofNat (48+d)]
   rw[show k+1+1-1=k+1-1+1 by omega,W6t]
   rfl
 . have e:dec (10*m+d)=dec m++[UInt8.ofNat (48+d)]:=by
    rw[Xgi (show 10<=10*m+d by omega),show (10*m+d)/10=m by omega,show (10*m+d)%10=d by omega]
   rw[e]
   unfold pad
   rw[W0c,W6q,show k+1+1-((dec m).length+1)=k+1-(dec m).length by omega,W3r]
theorem Xxa: ∀(k n:Nat),10^(k+1)<=n->dec n=dec (n/10^(k+1))++pad k (dec (n%10^(k+1)))
 | 0,n,h=>by
  have h:10<=n:=h
  rw[Xgi h]
  show _=dec (n/10)++pad 0 (dec (n%10))
  rw[Xee (n:=n%10) (W1s _ (by decide))]
  rfl
 | k+1,n,h=>by
  have j:10^(k+1+1)=10*10^(k+1):=by rw[W1a];omega
  have hp:0<10^(k+1):=Nat.pow_pos (by decide)
  have i:10<=n:=by omega
  have o:=Xxa k (n/10) (by rw[W7n (by decide)];omega)
  have I:n/10%10^(k+1)<10^(k+1):=W1s _ hp
  rw[Xgi i,o,W3r,Xqo (W1s _ (by decide)) I,W6l,<-j]
  congr 3
  have:=Nat.mod_mul (a:=10) (b:=10^(k+1)) (x:=n)
  rw[j,this];omega
def cks(n:Nat): List Nat:=if h:n=0 then [] else n%1000000000::cks (n/1000000000)
termination_by n
decreasing_by omega
theorem Xe9: cks 0=[]:=by rw[cks,dif_pos rfl]
theorem Xfs{n:Nat}(h:n≠0): cks n=n%1000000000::cks (n/1000000000):=by rw[cks,dif_neg h]
theorem Ykw: ∀(n c:Nat),c∈cks n->c<1000000000:=λn=>by
 induction n using Nat.strongRecOn with
 | _ n j =>
  intro c i
  by_cases h:n=0
  . subst h;rw[Xe9] at i;cases i
  . rw[Xfs h,W1i] at i
    rcases i with rfl | i
    . omega
    . exact j _ (by omega) c i
theorem Xxm: ∀ {k n:Nat},n<4294967296^k->(cks n).length<=2*k
 | 0,n,h=>by
  have:n=0:=by simpa using h
  subst this;rw[Xe9];exact W0a _
 | k+1,n,h=>by
  by_cases h0:n=0
  . subst h0;rw[Xe9];exact W0w _
  . rw[Xfs h0]
    by_cases i:n/1000000000=0
    . rw[i,Xe9];simp;omega
    . rw[Xfs i]
      have:=Xxm (k:=k) (n:=n/1000000000/1000000000) (by
       rw[W1a] at h
       rw[W6l,W2t (by decide)]
       refine W0x h (W0v _ (by decide)))
      simp only[W0t];omega
def Xzj: List Nat->List UInt8
 | []=>[]
 | [c]=>dec c
 | c::e::l=>Xzj (e::l)++pad 8 (dec c)
theorem Xzi: ∀n,n≠0->Xzj (cks n)=dec n:=λn=>by
 induction n using Nat.strongRecOn with
 | _ n j =>
  intro h
  rw[Xfs h]
  by_cases i:n/1000000000=0
  . rw[i,Xe9]
    show dec (n%1000000000)=_
    congr 1;omega
  . have:=j (n/1000000000) (by omega) i
    rw[Xfs i] at this |-
    show Xzj (n/1000000000%1000000000::cks (n/1000000000/1000000000))++pad 8 (dec (n%1000000000))=_
    rw[this]
    exact(Xxa 8 n (by show 1000000000<=n;omega)).symm
theorem Xux{c:Nat}{l:List Nat}(h:l≠[]): Xzj (c::l)=Xzj l++pad 8 (dec c):=by
 cases l with
 | nil=>exact absurd rfl h
 | cons e l=>rfl
end
section
theorem Ypu{l:List UInt8}: l.all isD=true↔∀b∈l,Xvz b:=by
 rw[W1o]
 exact⟨λh b hb=>Ynj.1 (h b hb),λh b hb=>Ynj.2 (h b hb)⟩
theorem Yfy: ∀(k:Nat) (l:List UInt8),l.length=k+1->(∀b∈l,Xvz b)->pad k (dec (Xyb l))=l:=λk=>by
 induction k with
 | zero =>
  intro l h hd
  match l,h with
  | [x],_ =>
   have j:=hd x (by simp)
   unfold Xvz at j
   rw[Yac,Xee (by omega)]
   show [UInt8.ofNat (48+(x.toNat-48))]=[x]
   rw[show 48+(x.toNat-48)=x.toNat by omega];simp
 | succ k O =>
  intro l h hd
  obtain⟨m,x,rfl⟩:∃m x,l=m++[x]:=⟨l.dropLast,l.getLast (by intro e;rw[e] at h;simp at h),(List.dropLast_concat_getLast _).symm⟩
  have o:m.length=k+1:=by simpa using h
  have i:∀b∈m,Xvz b:=λb hb=>hd b (by simp[hb])
  have j:=hd x (by simp)
  unfold Xvz at j
  have I:=Yfv i
  rw[o] at I
  rw[Xnc,<-Xqo (by omega) I,O m o i,show 48+(x.toNat-48)=x.toNat by omega]
  simp
end
end Go.Num
namespace Go.Proofs.YtfjafaehfjjaiaaGreatDoor
open Go Go.Num Go.Tow
abbrev scl(k:Nat)(t:Tw k)(a:El k)(u h:Rat): El k:=add k (mul k t a (rat k u)) (rat k h)
section
variable{k:Nat}{t:Tw k}{a:El k}
theorem Xtn{u:Rat}: toL k (mul k t a (rat k u))=(toL k a).map (u*·):=by rw[(Xay k t).mc,Xhv]
theorem Xmu{m n:Nat}{u:Rat}(ha:MgL m (toL k a))(i:Qs n u): MgL (n+m) (toL k (mul k t a (rat k u))):=λx h=>by
 rw[Xtn] at h
 obtain⟨y,j,rfl⟩:=W2l.1 h
 exact i.mul (ha y j)
theorem Xvi{n:Nat}{h:Rat}(hh:Qs n h)(j:1<=n): MgL n (toL k (rat k h)):=λx i=>by
 rw[Xcr] at i
 rcases W1i.1 i with rfl | i
 . exact hh
 . obtain rfl:=(W5r.1 i).2
   exact Qs.int (z:=0) (by unfold Zs;exact Nat.pow_pos (by decide)) j
theorem Xvj{m n:Nat}{b:El k}(ha:MgL m (toL k a))(hb:MgL n (toL k b)): MgL (m+n+1) (toL k (add k a b)):=λx h=>by
 rw[Xav] at h
 obtain⟨i,hi⟩:=W3a h
 rw[W5t] at hi
 split at hi
 . rename_i y z j o
   cases hi
   exact(ha y (W0h j)).add (hb z (W0h o))
 . cases hi
end
end Go.Proofs.YtfjafaehfjjaiaaGreatDoor
namespace Go.Proofs.YtfjafaehfjjaiaaGreatDoor.R1
open Go Go.Vm Go.Num Go.Proofs.YtfjafaehfjjaiaaGreatDoor
end Go.Proofs.YtfjafaehfjjaiaaGreatDoor.R1
namespace Go.Proofs.YtfjafaehfjjaiaaGreatDoor.R11
open Go Go.Vm Go.Num Go.Proofs.YtfjafaehfjjaiaaGreatDoor
section
theorem Xti{z:Int}(h:z<0): tx z=45::dec z.natAbs:=by rw[tx,if_pos h];rfl
theorem Xth{z:Int}(h:¬z<0): tx z=dec z.natAbs:=by rw[tx,if_neg h];rfl
end
section
end
section
end
end Go.Proofs.YtfjafaehfjjaiaaGreatDoor.R11
namespace Go.Proofs.YtfjafaehfjjaiaaGreatDoor.P11
open Go Go.Vm Go.Num Go.Tow Go.Proofs.YtfjafaehfjjaiaaGreatDoor Go.Proofs.YtfjafaehfjjaiaaGreatDoor.P9 Go.Proofs.YtfjafaehfjjaiaaGreatDoor.R11
structure Pk (x:Nm):Prop where
 k:x.k<=3
 re:Xb8 x.k x.t
 t:TS 300 x.k x.t
 mt:MgT 64 x.k x.t
 ml:MgL 64 (toL x.k x.a)\/(x.k=0/\MgL 1700 (toL x.k x.a))
theorem MgL.mono'{m n:Nat}{l:List Rat}(h:MgL m l)(i:m<=n): MgL n l:=λx j=>(h x j).mono i
theorem MgT.mono': ∀ {k m n:Nat} {t:Tw k},MgT m k t->m<=n->MgT n k t
 | 0,_,_,_,_,_=>trivial
 | _+1,_,_,_,h,i=>⟨MgT.mono' h.1 i,MgL.mono' h.2 i⟩
theorem Xr4{k n:Nat}{a:El k}(h:MgL n (toL k a))(j:k<=3/\n<=400\/k=0/\n<=3999): Sz 4000 (toL k a):=by
 refine(Sz.all h).mono ?_
 rw[Xab]
 rcases j with ⟨o,i⟩ | ⟨rfl,i⟩
 . have hp:2^k<=2^3:=W0p (by decide) o
   have:=W1z i hp
   omega
 . rw[Nat.pow_zero];omega
structure Scd (x:Nm) (u h:Rat):Prop where
 s1:Sz 4000 (toL x.k (mul x.k x.t x.a (rat x.k u)))
 s2:Sz 4000 (toL x.k (scl x.k x.t x.a u h))
 w1:Wid (bx x.k x.t (scl x.k x.t x.a u h) 2048) 1
 w2:∀b,1000000<=b->Wid (enc x.k x.t (scl x.k x.t x.a u h) b) 1
theorem Pk.sz{x:Nm}(H:Pk x): Sz 4000 (toL x.k x.a):=by
 rcases H.ml with h | ⟨h0,h⟩
 . exact Xr4 h (.inl ⟨H.k,by decide⟩)
 . exact Xr4 h (.inr ⟨h0,by decide⟩)
theorem Pk.sc{x:Nm}(H:Pk x){u h:Rat}(I:Qs 200 u)(hh:Qs 2 h): Scd x u h:=by
 rcases H.ml with o | ⟨h0,o⟩
 . have j:=Xmu (t:=x.t) o I
   have i:=Xvj j (Xvi (k:=x.k) hh (by decide))
   exact⟨Xr4 j (.inl ⟨H.k,by decide⟩),Xr4 i (.inl ⟨H.k,by decide⟩),Yf8 H.re H.mt (MgL.mono' i (by decide)) H.k,Xi8 H.re (MgT.mono' H.mt (by decide)) (MgL.mono' i (by decide)) H.k (show 10000<=10000 by decide)⟩
 . have j:=Xmu (t:=x.t) o I
   have i:=Xvj j (Xvi (k:=x.k) hh (by decide))
   refine⟨Xr4 j (.inr ⟨h0,by decide⟩),Xr4 i (.inr ⟨h0,by decide⟩),?_,Xi8 H.re (MgT.mono' H.mt (by decide)) (MgL.mono' i (by decide)) H.k (show 10000<=10000 by decide)⟩
   obtain⟨k,t,a⟩:=x
   obtain rfl:k=0:=h0
   exact(Xhj (m:=64) (b:=2048) H.re H.mt i (show 0<eE 64 2048 0 _ by exact(by decide:0<2*2048-2))).mono (show 1<=2*2048-2 by decide)
theorem Yhn{n:Nat}(h:n<=60): Qs 200 ((10^n:Int):Rat):=by
 have i:(10:Nat)^n<=10^60:=W0p (by decide) h
 refine Qs.int ?_ (by decide)
 show ((10:Int)^n).natAbs<2^200
 rw[Int.natAbs_pow]
 exact W1w i (by decide)
theorem Yg0{k:Nat}(i:k<=3): eB 4000 (2*(1000000+1+16)) k<=274877906944/\vB 4000 k (4000+eB 4000 (2*(1000000+1+16)) k+4)<=4398046511104/\vB 4000 k (4000+bB 4000 2048 k+4)<=4398046511104/\bB 4000 2048 k<=274877906944/\cB 300 k<=1000000000:=by
 have h:k=0\/k=1\/k=2\/k=3:=by omega
 rcases h with rfl | rfl | rfl | rfl<;>decide +kernel
theorem Xze{n:Nat}(h:n<=400): C0 237 [.d (.int .i64 n)] (·=.d (dz (10^n))):=by
 refine En Tryz.func237 λ_ _ _=>?_
 refine Ce rfl (FromInt_ok (z:=10) (by decide)) ?_
 refine Ce rfl (Yfe (z:=10) (q:=4) (show (10:Int).natAbs<2^4 by decide) (by omega) (by decide)) ?_
 exact R1 rfl (.rf rfl)
theorem Xyh{z:Int}{p:Nat}(j:Zs p z)(hp:1<=p)(i:p<=8796093022208): C0 236 [.d (dz z)] (·=.d (dq (z:Rat))):=by
 have h:=Make_ok j (Zs.one hp) i (by decide)
 rw[Xw5] at h
 refine En Tryz.func236 λ_ _ _=>?_
 refine Dw rfl ?_
 refine Ce rfl (FromInt_ok (z:=1) (by decide)) ?_
 refine Ce rfl h ?_
 exact R1 rfl (.rf rfl)
theorem Xh0{x:Nm}{d:Nat}{h:Rat}(H:Pk x)(hd:d<=60)(hh:Qs 2 h): C0 164 [.d (dN x),.d (.int .i64 d),.d (dq h)] λv=>∃z,v=.tup (.pr (.d (dz z)) (.d (.int .i64 0)))/\Xdj x.k x.t (scl x.k x.t x.a ((10^d:Int):Rat) h) z/\(dig z.natAbs).length<=274877906944:=by
 have i:=Yhn hd
 have S:=H.sc i hh
 obtain⟨o,I,T,V,O⟩:=Yg0 H.k
 have j:Zs 200 (10^d:Int):=i.n
 refine En Tryz.func164 λ_ _ _=>?_
 refine No rfl (by omega) ?_
 refine No rfl (by omega) ?_
 refine Dw rfl ?_
 refine Ce rfl (Xze (by omega)) ?_
 refine Ce rfl (Xyh j (by decide) (by decide)) ?_
 refine Ce rfl (P9.FromRat_ok i (by decide)) ?_
 refine Ce rfl (Yok H.t H.sz i (by have:=H.k;omega) (by decide) (by decide) (by decide) O) ?_
 refine No rfl (by decide) ?_
 refine Dw rfl ?_
 refine Ce rfl (P9.FromRat_ok hh (by decide)) ?_
 refine Ce rfl (Yoo (x:=⟨x.k,x.t,mul x.k x.t x.a (rat x.k ((10^d:Int):Rat))⟩) H.t S.s1 hh (by have:=H.k;show x.k<=8;omega) (by decide) (by decide) (by decide)) ?_
 refine No rfl (by decide) ?_
 refine Ca rfl (Xt8 (P:=1000000) H.re S.w2 (H.t.mono (by decide)) S.s2 (by decide) (show x.k<=16 by have:=H.k;omega) (by decide) o I) λv Q=>?_
 obtain⟨z,rfl,j⟩:=Q
 exact Rt rfl (.tup (.cons (.rf rfl) Xa1)) ⟨z,rfl,j⟩
abbrev hf: Rat:=Rat.divInt 1 2
theorem Ynn: Qs 2 hf:=⟨show hf.num.natAbs<2^2 by decide,show ((hf.den:Int)).natAbs<2^2 by decide⟩
theorem Yay{x:Nm}{d:Nat}(H:Pk x)(hd:d<=60): C0 103 [.d (dN x),.d (.int .i64 d)] λv=>∃z,v=.tup (.pr (.d (dz z)) (.d (.int .i64 0)))/\Xdj x.k x.t (scl x.k x.t x.a ((10^d:Int):Rat) hf) z/\(dig z.natAbs).length<=274877906944:=by
 refine En Tryz.func103 λ_ _ _=>?_
 refine Dw rfl ?_
 refine Ce rfl (Xcl (a:=1) (b:=2) (by decide) (by decide)) ?_
 refine Ca rfl (Xh0 H hd Ynn) λv h=>?_
 obtain⟨z,rfl,i⟩:=h
 exact Rt rfl (.tup (.cons (.rf rfl) Xa1)) ⟨z,rfl,i⟩
end Go.Proofs.YtfjafaehfjjaiaaGreatDoor.P11
namespace Go.Vm
open Go
abbrev cxM(P:Program)(gb:Gb P)(t:Tab P)(m:Mx P)(i:∀T ti,t.tb T=some ti->∀a c,ti.z≠.pr a c)(n:Nat)(j:n<=1000000)(fn:Func)(W:GW)(Q:AV->Prop)(o:gb.g W): Cx:=⟨P,gb,t.tb,λT ti h=>⟨t.ok T ti h,i T ti h⟩,m,n,j,W,λ_=>False,θe,bodyPostM Fence.wide 8 P fn (Ret W Q),o⟩
theorem EnM {P : Program} [gb : Gb P] [t : Tab P] [hp : Npr P] [m : Mx P] {f n : Nat} {fn : Func} {x : Code} {args : List AV} {Q : AV → Prop} (hf : P.funcs[f]? = some fn) (h : ∀ W hg hn, StP (cxM P gb t m hp.h n hn fn W Q hg) (.j [] [.c x] (Yg1 0 args) [])) (hname : (fn.name == "runtime.NumGoroutine") = false := by exact rfl) (hb : fn.body = some x := by exact rfl)
 (hN:fn.ntmps=n:=by exact rfl) (hl:(Nat.ble args.length n&&Nat.ble n 1000000&&args.all Xlh)=true:=by exact rfl):C P f args Q:=by
 refine⟨⟨fn,hf,hname,by rw[hb];rfl⟩,λW vs hg ha=>(callsIn_wide (n:=8)).1 (callsIn_of_wp_marks hf hb trivial (wpIn_wide.2 ?_) rfl)⟩
 have h:=h W hg (by simp only[W0g] at hl;exact W1g hl.1.2)
 simp only[StP,sem,<-Xl2] at h
 simp only[W0g] at hl
 obtain⟨⟨hl1,hl2⟩,hl3⟩:=hl
 have hl1:=W1g hl1
 have hlen:=ha.len
 refine wp_mono (h _ W.w ⟨_,W,θe,rfl,⟨Fm.refl W _,⟨rfl,by simp[hN];omega,λt v ht=>?_⟩,⟨λo x h=>(by cases h),λo x b h=>(by cases h),λo o' x x' b h=>(by cases h),λo x i h=>(by cases h)⟩,λt v i ht hi=>?_⟩,λ_ _=>rfl,rfl⟩) λe a w h=>by cases e<;>exact h
 . obtain⟨_,u,h2,h3,_⟩:=Xns ha ht
   rw[W6b] at h2
   have hlt:=Xba h2
   rw[W0e hlt] at h2
   injection h2 with h2
   simp only[Array.getD]
   rw[dif_pos (by simp;omega)]
   simp[W7a,hlt,h2]
   exact h3
 . obtain⟨_,u,_,_,h4⟩:=Xns ha ht
   exact absurd hi (Xlg (W1o.1 hl3 v h4) i)
theorem StP.rest2{c:Cx}{G:List (Nat×Bool)}{x y:Code}{E:Env}{H:Hpl}(h:∀a w,c.Nx (λs'=>s'=sem E H) a w->x.wp c.P (Exit.then (y.wp c.P c.fin) c.fin) a w): StP c (.j G [.c x,.c y] E H) :=
 λa w i=>wp_mono (h a w i) λe a w h=>by
  cases e with
  | normal=>exact wp_mono h λe a w h=>by cases e<;>exact h
  | _=>exact h
theorem Tl{c:Cx}{s:St}(id:Nat){G:List (Nat×Bool)}{x y:Code}{E:Env}{H:Hpl}(h:nxT c.tb c.n (some id) s=some (G,x,[.c y],E,H))(k:∀a w,c.Nx (λs'=>s'=sem E H) a w->x.wpIn Fence.wide 8 c.P (Exit.then (y.wpIn Fence.wide 8 c.P c.fin) c.fin) a w): StP c s:=by
 have i:StP c (.j G [.c x,.c y] E H):=StP.rest2 λa w o=>wp_mono (wpIn_wide.1 (k a w o)) λe a w h=>by
  cases e with
  | normal=>exact wpIn_wide.1 h
  | _=>exact h
 unfold nxT at h
 simp only at h
 split at h<;>cases h
 rename_i I
 exact Xgy 1000 (by rw[I];exact i)
theorem Xai{α:Type}{n:Nat}: ∀ {l:List α},l.length=n+1->∃t i,l=t::i/\i.length=n
 | t::i,h=>⟨t,i,rfl,by simpa using h⟩
end Go.Vm
namespace Go.Proofs.YtfjafaehfjjaiaaGreatDoor
open Go Go.Vm Go.Num Go.Proofs Go.Shelf Go.RowKit
section
end
section
theorem Xvy{q n:Nat}{l:List Nat}(O:Xar l)(hq:q+n<=l.length)(Q:n<=1099511627776): CN0 167 [.own 1000001 1 q n] [(1000001,.arr 1 (l.map wd))] λv=>∃k,k<=n/\v=.own 1000001 1 q k/\(l.drop q).take k=dig (val ((l.drop q).take n)):=by
 have dtk:∀ {m k:Nat},k<m->((l.drop q).take m)[k]?=l[q+k]?:=λh=>by rw[W1d,if_pos h,W1v]
 have Xyc:∀ {m:Nat},q+m<=l.length->((l.drop q).take m).length=m:=λh=>by rw[W0f,W1k];omega
 refine EnW Tryz.func167 λ_ _ _ _=>?_
 refine Lo (λk=>[(0,.own 1000001 1 q k)]) (λ_=>[(1000001,.arr 1 (l.map wd))]) (λk=>k<=n/\val ((l.drop q).take k)=val ((l.drop q).take n)) id n [] rfl ⟨W0a _,rfl⟩ λk ⟨I,i⟩=>?_
 have j:=(O.drop q).take k
 refine By rfl (λh=>?_) λh=>?_
 . obtain⟨u,o⟩:=xat (l:=l) (k:=q+(k-1)) (by omega)
   have hs:=Xac (l:=l.drop q) (k:=k-1) (x:=u) (by rw[W1v];exact o)
   rw[show k-1+1=k by omega,i] at hs
   refine Ar (k-1:Nat) rfl ?_
   refine El (k-1) rfl (by omega) ?_
   refine Ld (wd u) rfl (mp o) ?_
   refine By rfl (λh0=>?_) λh0=>?_
   . refine Ar (k-1:Nat) rfl ?_
     refine Sw 0 (k-1) rfl (by omega) (by omega) ?_
     exact Bk (k-1) [] rfl ⟨by omega,by rw[hs,show u=0 by omega,W3f,W2i]⟩ (show k-1<k by omega)
   . exact Rw [] [(1000001,.arr 1 (l.map wd))] rfl (.one (.rf rfl) rfl rfl) ⟨rfl,k,I,rfl,by rw[<-i,Xfo j (.inr ⟨u,by rw[Xyc (by omega),dtk (by omega)];exact o,λe=>h0 (by rw[e];rfl)⟩)]⟩
 . refine Rw [] [(1000001,.arr 1 (l.map wd))] rfl (.one (.rf rfl) rfl rfl) ⟨rfl,k,I,rfl,?_⟩
   rw[show k=0 by omega] at i |-
   rw[<-i,W5e,val,Xan]
theorem Xl0{l:List Nat}(h0:0<l.length)(i:l.length<=1099511627776): CA0 166 [.d (ws l)] 1 (l.map wd):=by
 refine EnW Tryz.func166 λ_ _ _ _=>?_
 refine Ub rfl (λh=>?_) ?_
 . exact absurd h (by intro e; have:l.length = 0 := by simpa using congrArg List.length e
                      omega)
 refine ApL (l.map wd) rfl rfl (by simpa using h0) (by simpa using i) ?_
 exact Rw [(7,1000000)] [(1000000,.arr 1 (l.map wd))] rfl (.one (.rf rfl) rfl rfl) ⟨_,rfl,rfl,rfl⟩
theorem Xpn: C0 105 [.d (dz 0)] (·=.d (.str [48])):=by
 refine En Tryz.func105 λ_ _ _=>?_
 refine Ce rfl (Xco (n:=0) (by rw[Xan];decide)) ?_
 refine Ce rfl (Xbs (l:=dig 0) (by rw[Xan];decide)) ?_
 refine Yes rfl (by rw[Xan];rfl) ?_
 exact R0
def Fm9(z x n:Nat)(lo cs:List Nat): Prop:=n<=lo.length/\lo.length<=549755813888/\Xar lo/\lo.take n=dig x/\cks z=cs++cks x
theorem Ygr{z x n:Nat}{lo cs:List Nat}(h:Fm9 z x n lo cs): n=(dig x).length:=by
 have:=congrArg List.length h.2.2.2.1
 rw[W0f,W2e h.1] at this
 exact this
end
section
def rnB: Ren:=⟨λn=>match n with
 | 166=>171
 | 167=>168
 | 169=>172
 | 240=>240
 | 276=>299
 | _=>0,λn=>match n with
 | 3=>3
 | 4=>4
 | 5=>5
 | 9=>9
 | 20=>20
 | 37=>24
 | 70=>186
 | 72=>188
 | 75=>190
 | 80=>198
 | 127=>232
 | 164=>266
 | _=>0,λn=>n⟩
theorem Yjl: Lays.n166 Tryz.prog rnB where
 mixed:=by kernel_rfl
 f166:=by kernel_rfl
 f240:=by kernel_rfl
 f276:=by kernel_rfl
 t0:=by kernel_rfl
 a0:=λ_=>by kernel_rfl
 z0:=λ_=>by kernel_rfl
 v0:=λ_=>by kernel_rfl
 t3:=by kernel_rfl
 a3:=λ_=>by kernel_rfl
 z3:=λ_=>by kernel_rfl
 v3:=λ_=>by kernel_rfl
 t4:=by kernel_rfl
 a4:=λ_=>by kernel_rfl
 z4:=λ_=>by kernel_rfl
 v4:=λ_=>by kernel_rfl
 t9:=by kernel_rfl
 a9:=λ_=>by kernel_rfl
 z9:=λ_=>by kernel_rfl
 v9:=λ_=>by kernel_rfl
 t20:=by kernel_rfl
 a20:=λ_=>by kernel_rfl
 z20:=λ_=>by kernel_rfl
 v20:=λ_=>by kernel_rfl
 t37:=by kernel_rfl
 a37:=λ_=>by kernel_rfl
 z37:=λ_=>by kernel_rfl
 v37:=λ_=>by kernel_rfl
 t70:=by kernel_rfl
 a70:=λ_=>by kernel_rfl
 z70:=λ_=>by kernel_rfl
 v70:=λ_=>by kernel_rfl
 t72:=by kernel_rfl
 a72:=λ_=>by kernel_rfl
 z72:=λ_=>by kernel_rfl
 v72:=λ_=>by kernel_rfl
 t75:=by kernel_rfl
 a75:=λ_=>by kernel_rfl
 z75:=λ_=>by kernel_rfl
 v75:=λ_=>by kernel_rfl
 t164:=by kernel_rfl
 a164:=λ_=>by kernel_rfl
 z164:=λ_=>by kernel_rfl
 v164:=λ_=>by kernel_rfl
theorem Yjk: Lays.n167 Tryz.prog rnB where
 mixed:=by kernel_rfl
 f167:=by kernel_rfl
 f240:=by kernel_rfl
 f276:=by kernel_rfl
 t0:=by kernel_rfl
 a0:=λ_=>by kernel_rfl
 z0:=λ_=>by kernel_rfl
 v0:=λ_=>by kernel_rfl
 t4:=by kernel_rfl
 a4:=λ_=>by kernel_rfl
 z4:=λ_=>by kernel_rfl
 v4:=λ_=>by kernel_rfl
 t5:=by kernel_rfl
 a5:=λ_=>by kernel_rfl
 z5:=λ_=>by kernel_rfl
 v5:=λ_=>by kernel_rfl
 t9:=by kernel_rfl
 a9:=λ_=>by kernel_rfl
 z9:=λ_=>by kernel_rfl
 v9:=λ_=>by kernel_rfl
 t20:=by kernel_rfl
 a20:=λ_=>by kernel_rfl
 z20:=λ_=>by kernel_rfl
 v20:=λ_=>by kernel_rfl
 t37:=by kernel_rfl
 a37:=λ_=>by kernel_rfl
 z37:=λ_=>by kernel_rfl
 v37:=λ_=>by kernel_rfl
 t70:=by kernel_rfl
 a70:=λ_=>by kernel_rfl
 z70:=λ_=>by kernel_rfl
 v70:=λ_=>by kernel_rfl
 t72:=by kernel_rfl
 a72:=λ_=>by kernel_rfl
 z72:=λ_=>by kernel_rfl
 v72:=λ_=>by kernel_rfl
 t75:=by kernel_rfl
 a75:=λ_=>by kernel_rfl
 z75:=λ_=>by kernel_rfl
 v75:=λ_=>by kernel_rfl
 t164:=by kernel_rfl
 a164:=λ_=>by kernel_rfl
 z164:=λ_=>by kernel_rfl
 v164:=λ_=>by kernel_rfl
theorem Ycq: Lays.n169 Tryz.prog rnB where
 mixed:=by kernel_rfl
 f169:=by kernel_rfl
 t0:=by kernel_rfl
 a0:=λ_=>by kernel_rfl
 z0:=λ_=>by kernel_rfl
 v0:=λ_=>by kernel_rfl
 t3:=by kernel_rfl
 a3:=λ_=>by kernel_rfl
 z3:=λ_=>by kernel_rfl
 v3:=λ_=>by kernel_rfl
 t9:=by kernel_rfl
 a9:=λ_=>by kernel_rfl
 z9:=λ_=>by kernel_rfl
 v9:=λ_=>by kernel_rfl
 t37:=by kernel_rfl
 a37:=λ_=>by kernel_rfl
 z37:=λ_=>by kernel_rfl
 v37:=λ_=>by kernel_rfl
 t70:=by kernel_rfl
 a70:=λ_=>by kernel_rfl
 z70:=λ_=>by kernel_rfl
 v70:=λ_=>by kernel_rfl
 t72:=by kernel_rfl
 a72:=λ_=>by kernel_rfl
 z72:=λ_=>by kernel_rfl
 v72:=λ_=>by kernel_rfl
 t127:=by kernel_rfl
 a127:=λ_=>by kernel_rfl
 z127:=λ_=>by kernel_rfl
 v127:=λ_=>by kernel_rfl
theorem Yl3: Builder.Extra Tryz.prog rnB where
 sizeBuilder:=by kernel_rfl
 liesBuilder:=by kernel_rfl
 t5:=by kernel_rfl
 a5:=λ_=>by kernel_rfl
 z5:=λ_=>by kernel_rfl
 v5:=λ_=>by kernel_rfl
 infoByte:=by kernel_rfl
 cellsByte:=by kernel_rfl
 sizeByte:=by kernel_rfl
 neB5:=by decide
end
section
attribute [local go_sem] Oper.semAt_some
abbrev C9:={ x:Nat // x<1000000000 }
def b9(zs:List C9)(k:Nat): List (Nat×C9):=(List.range k).map λj=>(zs.length-1-j,zs[zs.length-1-j]?.getD ⟨0,by decide⟩)
theorem Xxu(zs:List C9)(k:Nat): b9 zs (k+1)=b9 zs k++[(zs.length-1-k,zs[zs.length-1-k]?.getD ⟨0,by decide⟩)]:=by simp[b9,W7b]
theorem Xxv(zs:List C9)(k:Nat): (b9 zs k).length=k:=by simp[b9]
set_option maxRecDepth 100000 in
set_option maxHeartbeats 2000000 in
theorem Yk4(F:Fence)(n:Nat)(h8:F.fn 241)(hro:F.round=none)(hn:1<=n)(l Bs n₀ b off cap:Nat)(zs:List C9)(hreach:zs.length*4<=140737488351232)(hb:b<n₀)(J Jx:List (Nat×C9)->World->Prop)
 (hY:∀pre x W,J pre W->pre.length<zs.length->YieldAt F (n-1) Tryz.prog l #[.int .i64 (x.1:Int),.int .u32 (x.2.1:Int)] W λe W' =>
  (e=.returned (.bool true)/\J (pre++[x]) W'/\Kq n₀ Bs W W')\/(e=.returned (.bool false)/\Jx (pre++[x]) W'))
 (W:World) (hBs:W.cell? ⟨Bs,0,none⟩=some (.slice (some ⟨b,off,none⟩) zs.length cap)) (hc:∀j,j<zs.length->W.cell? ⟨b,off+j,none⟩=some (.int .u32 ((zs[j]?.getD ⟨0,by decide⟩).1:Int))) (h0:J [] W) :
 CallsIn F n Tryz.prog 241 #[.func (.yield l) #[] #[],.pointer (some ⟨Bs,0,none⟩)] W λe W'=>(∃v,e=.returned v) /\
  ((∃ys,ys=b9 zs zs.length/\J ys W')\/(∃pre,True/\Jx pre W')):=by
 refine callsIn_of_wp Tryz.func241 rfl h8 ?_ hro
 simp only[Tryz.ntmps241,W6o,W0t,W4p,Nat.reduceAdd,Nat.reduceSub,W5x,W5y,W6p,W6d,W3u,W5c]
 gi_wp2
 gi_loopw [3] (λi wr=>∃k:Nat,k<=zs.length/\i=.int .i64 ((zs.length:Int)-1-k)/\J (b9 zs k) wr/\Kq n₀ Bs W wr)
  (λi _=>(intOf i+1).toNat)
 case atStart=>exact⟨0,W0w _,by simp,h0,Kq.refl _ _ _⟩
 case round =>
  obtain⟨k,hk,rfl,hJs,hnx⟩:=hrel
  have hBs':=(World.cell?_of_block hnx.b).trans hBs
  by_cases hlt:k<zs.length
  . obtain⟨q,hq⟩:∃q,q+(k+1)=zs.length:=⟨zs.length-1-k,by omega⟩
    have hqi:((zs.length:Int)-1-k)=(q:Int):=by omega
    have hcx:=(hnx.a.cell (p:=⟨b,off+q,none⟩) hb).trans (hc q (by omega))
    obtain⟨fn,tmps,assign,body,hy,hR⟩:=hY _ (q,zs[q]?.getD ⟨0,by decide⟩) wr hJs (by rw[Xxv];exact hlt)
    dsimp only at hy
    rw[hqi]
    gi_wp2
    refine hR.mono ?_
    rintro e W3 (⟨rfl,hJ3,hk3⟩ | ⟨rfl,hJx3⟩)
    . gi_wp2
      go_roundw
      case rel=>exact⟨k+1,by omega,by congr 1;omega,by rw[Xxu,show zs.length-1-k=q by omega];exact hJ3,hnx.trans hk3⟩
      case measure=>simp[intOf]
    . gi_wp2
      refine bodyPost_ret (results_none rfl _ _ _) rfl ?_
      exact⟨⟨_,rfl⟩,.inr ⟨_,trivial,hJx3⟩⟩
  . obtain rfl:k=zs.length:=by omega
    rw[show ((zs.length:Int)-1-(zs.length:Int))=-1 by omega]
    gi_wp2
    go_end0
    exact⟨⟨_,rfl⟩,.inl ⟨_,rfl,hJs⟩⟩
theorem Xnp(F:Fence)(n:Nat)(Z:F.fn 241)(I:F.round=none)(hn:1<=n)(Bs h b off cap:Nat)(zs:List C9)(i:zs.length*4<=140737488351232)(w:World)(O:Bs<w.heap.size)(o:h<=w.heap.size)
 (hc:w.cell? ⟨Bs,0,none⟩=some (.slice (some ⟨b,off,none⟩) zs.length cap)) (hb:b<h) (Q:∀j,j<zs.length->w.cell? ⟨b,off+j,none⟩=some (.int .u32 ((zs[j]?.getD ⟨0,by decide⟩).1:Int))) :
 SeqStopsK F n Tryz.prog 241 #[.pointer (some ⟨Bs,0,none⟩)] (λx:Nat×C9=>#[Value.int .i64 (x.1:Int),Value.int .u32 (x.2.1:Int)]) (Kq h Bs) (λys=>ys=b9 zs zs.length)
  (λ_=>True) zs.length w:=λl J Jx W V _ _ hY h0=>by
 have T:=(V.cell (p:=⟨Bs,0,none⟩) O).trans hc
 exact Yk4 F n Z I hn l Bs h b off cap zs i hb J Jx hY W T (λj hj=>(V.cell (p:=⟨b,off+j,none⟩) (W0x hb o)).trans (Q j hj)) h0
def o9(N:Nat)(sg:List UInt8): List (Nat×C9)->List UInt8:=List.foldl (λt x=>t++(if x.1+1<N then List.replicate (9-(dec x.2.1).length) 48 else [])++dec x.2.1) sg
theorem Xon(N:Nat)(sg:List UInt8)(pre:List (Nat×C9))(x:Nat×C9): o9 N sg (pre++[x])=o9 N sg pre++(if x.1+1<N then List.replicate (9-(dec x.2.1).length) 48 else [])++dec x.2.1:=by simp[o9]
theorem Yn0(x:C9): (dec x.1).length<=9:=Xfr 8 x.1 x.2
theorem Xu2(N:Nat): ∀(pre:List (Nat×C9)) (sg:List UInt8),(o9 N sg pre).length<=sg.length+18*pre.length
 | [],_=>W5o _ _
 | x::l,sg=>by
  have i:=Xu2 N l (sg++(if x.1+1<N then List.replicate (9-(dec x.2.1).length) 48 else [])++dec x.2.1)
  have:=Yn0 x.2
  have h:(if x.1+1<N then List.replicate (9-(dec x.2.1).length) (48:UInt8) else []).length<=9:=by split<;>simp
  simp only[W0c,W0t] at h i |-
  refine W0m (show (o9 N sg (x::l)).length<=_ from i) ?_
  omega
theorem Yeo(sg:List UInt8)(zs:List C9): ∀k,k<=zs.length->o9 zs.length sg (b9 zs k)=sg++Xzj ((zs.map (·.1)).drop (zs.length-k))
 | 0,_=>by
  rw[W1y (by simp)]
  simp[b9,o9,Xzj]
 | k+1,h=>by
  obtain⟨x,I⟩:∃x,zs[zs.length-1-k]?=some x:=⟨_,W0e (by omega)⟩
  have i:(zs.map (·.1))[zs.length-(k+1)]?=some x.1:=by rw[W1q,show zs.length-(k+1)=zs.length-1-k by omega,I];rfl
  have hd:(zs.map (·.1)).drop (zs.length-(k+1))=x.1::(zs.map (·.1)).drop (zs.length-k):=by
   obtain⟨j,O⟩:=W0n.1 i
   rw[W3h j,O,show zs.length-(k+1)+1=zs.length-k by omega]
  rw[Xxu,Xon,Yeo sg zs k (by omega),I,hd]
  simp only[W4a]
  by_cases Q:k=0
  . subst Q
    rw[if_neg (by omega),show (zs.map (·.1)).drop (zs.length-0)=[] from W1y (by simp)]
    simp[Xzj]
  . have o:(zs.map (·.1)).drop (zs.length-k)≠[]:=λe=>by
     have:=congrArg List.length e
     simp at this;omega
    rw[if_pos (by omega),Xux o]
    unfold pad
    simp
theorem c9s{l:List Nat}(h:∀x∈l,x<1000000000): ∃zs:List C9,zs.map (·.1)=l:=by
 induction l with
 | nil=>exact⟨[],rfl⟩
 | cons a l i =>
  obtain⟨zs,j⟩:=i λx o=>h x (W0o _ o)
  exact⟨⟨a,h a (W0l ..)⟩::zs,by rw[W4m,j]⟩
def gw1(w:World): GW:=⟨w,λ_ _=>False,λ_ _ h=>h.elim⟩
theorem cell_lt{w:World}{b i:Nat}{v:Value}(h:w.cell? ⟨b,i,none⟩=some v): b<w.heap.size:=by
 apply W1b
 intro j
 simp only[World.cell?] at h
 rw[W3z (by omega)] at h
 cases h
theorem Yjg{W:GW}{n:Nat}{j:World}(h:Below n W.w j)(I:W.w.heap.size<=n): LeF W (gw1 j):=λb i v o =>
 ⟨(World.cell?_of_block (h.block b (W0x (cell_lt o.1) I))).trans o.1,id⟩
theorem Xru{f:FuncId}{args:List AV}{vs:List Value}{s:List UInt8}{w:World}(j:C0 f args (·=.d (.str s)))(o:Gb.g Tryz.prog (gw1 w))(ha:Xjg (gw1 w) θe args vs):
 Calls Tryz.prog f vs.toArray w λe i=>e=.returned (.string ⟨s.toArray⟩)/\Below w.heap.size w i :=
 (j.2 (gw1 w) vs o ha).mono λe i ⟨W',v,u,I,O,h,Q,_,T⟩=>by
  subst T;subst O
  obtain⟨rfl,_⟩:=Xx0 Q
  exact⟨I,h.os,h.tape,h.out,h.size,λk V=>h.same k V id⟩
theorem Ypp{w:World}(h:Gb.g Tryz.prog (gw1 w))(x:C9): Calls Tryz.prog 170 #[.int .u64 (x.1:Int),.int .i64 10] w λe i=>e=.returned (.string ⟨(dec x.1).toArray⟩)/\Below w.heap.size w i :=
 Xru (vs:=[.int .u64 (x.1:Int),.int .i64 10]) (Xl7 x.2) h ⟨int_V (by have:=x.2;show IntKind.u64.wrap _=_;exact wU (by omega)),int_V (wI (by omega)),trivial⟩
theorem Yov{w:World}(h:Gb.g Tryz.prog (gw1 w)){n:Nat}{k:Int}(i:k=n)(j:n<65): Calls Tryz.prog 106 #[.string ⟨#[48]⟩,.int .i64 k] w λe o=>e=.returned (.string ⟨(List.replicate n 48).toArray⟩)/\Below w.heap.size w o:=by
 subst i
 exact Xru (vs:=[.string ⟨#[48]⟩,.int .i64 (n:Int)]) (Xkp j) h ⟨Xn6 (s:=[48]) (by decide),int_V (by show IntKind.i64.wrap _=_;exact wI (by omega)),trivial⟩
theorem Xv1{β:Type}(T e:TypeId)(B b:Nat)(f:β->List Value): Own (λs W=>Lib.IsBuilderF T e B b (f s) W):=by
 intro s X Y row h V j
 have I:∀p,Lib.BuilderAtF T e B b p (f s) X->Lib.BuilderAtF T e B b p (f s) Y:=λp ⟨hB,v,hb,i,O⟩=>by
  have cells:∀k cs t fz,X.heap[k]?=some (.cells cs t fz)->some k≠row:=λk cs t fz hk e'=>by
   obtain⟨o,Z,Q⟩:=j k e'.symm
   rw[hk] at Z;cases Z;cases Q
  refine⟨hB,v,(V.block b (W3l.1 hb).1 (cells b _ _ _ hb)).trans hb,i.kept V ?_,O⟩
  cases hv:v.ownBlock with
  | none=>exact .inl rfl
  | some g =>
   obtain⟨c,fz,Q⟩:=Lib.ownsRowF_kind i g hv
   exact .inr (cells g _ _ _ Q)
 exact h.elim (λh=>.inl (I _ h)) λh=>.inr (I _ h)
theorem Xi2{W W':World}{row:Option Nat}{b:Nat}{cs:Array Value}{t:TypeId}{fz:Nat×Nat}(h:W.heap[b]?=some (.cells cs t fz))(j:W.grownBy W' row)(hr:∀r,row=some r->∃o:Obj,W.heap[r]?=some o/\o.isCells=false): W'.heap[b]?=some (.cells cs t fz) :=
 (j.block b (W3l.1 h).1 (λI=>by
  obtain⟨o,i,O⟩:=hr b I.symm
  rw[h] at i;cases i;cases O)).trans h
theorem Xv2{T e:TypeId}{B b:Nat}{I:List Value}{w O:World}(h:Lib.IsBuilderF T e B b I w)(i:Below w.heap.size w O): Lib.IsBuilderF T e B b I O:=by
 have j:∀p,Lib.BuilderAtF T e B b p I w->Lib.BuilderAtF T e B b p I O:=λp ⟨V,v,hb,o,Q⟩ =>
  ⟨V,v,(i.block b (W3l.1 hb).1).trans hb,o.kept (row:=none) ⟨i.os,i.tape,i.output,i.size,λk Z _=>i.block k Z⟩ (by cases hv:v.ownBlock<;>simp),Q⟩
 exact h.elim (λh=>.inl (j _ h)) λh=>.inr (j _ h)
theorem Xow{w i:World}(h:Below w.heap.size w i): KeepsOthers w i:=⟨h.size,λk o j _=>(h.block k (W3l.1 j).1).trans j⟩
theorem Xlm{T e:TypeId}{B b n:Nat}{Q:List Value}{w i:World}(h:Lib.IsBuilderF T e B b Q w)(V:Below n w i)(Z:Lib.OthersKept e (some b) w i): KeepsOthers w i:=⟨V.size,λk o I O=>by
 refine Z k o I (λj=>?_) (λc fz j=>by subst j;cases O)
 cases j
 rcases h with ⟨_,v,hb,_⟩ | ⟨_,v,hb,_⟩<;>rw[I] at hb<;>cases hb<;>cases O⟩
structure W9 (n BS B:Nat) (sl:Value) (w W:World) (t:List UInt8) (W':World):Prop where
 b:Lib.IsBuilderF (rnB.t 72) (rnB.t 5) n n (Lib.byteCells t) W'
 s:W'.heap[BS]?=some (.cells #[sl] 88 (0,0))
 l:Below n w W'
 k:KeepsFrom B W W'
 q:Kq n BS W W'
theorem W9.below{n BS B:Nat}{sl:Value}{w W W' W'':World}{t:List UInt8}(h:W9 n BS B sl w W t W')(i:n<=W'.heap.size)(hb:Below W'.heap.size W' W''): W9 n BS B sl w W t W'' :=
 ⟨Xv2 h.b hb,(hb.block BS (W3l.1 h.s).1).trans h.s,h.l.trans (hb.mono i),h.k.trans ((Xow hb).from _),h.q.trans ⟨hb.mono i,hb.block BS (W3l.1 h.s).1⟩⟩
theorem W9.wr{n BS B:Nat}{sl:Value}{w W W':World}{t:List UInt8}(h:W9 n BS B sl w W t W')(u:List UInt8)(I:n<=W'.heap.size)(O:BS≠n)(Q:t.length+u.length<=140737488355328):
 Calls Tryz.prog 171 #[.pointer (some ⟨n,0,none⟩),.string ⟨u.toArray⟩] W' λe W''=>e=.returned (.tuple #[.int .i64 u.length,.nilIface])/\W9 n BS B sl w W (t++u) W'':=by
 have j:(⟨u.toArray⟩:ByteArray).size=u.length:=by simp[ByteArray.size]
 refine(Any.Builder_WriteString_k Yjl Yl3 n n _ ⟨u.toArray⟩ W' h.b (by rw[Lib.byteCells_length,j];exact Q) I).mono ?_
 rintro e W'' ⟨rfl,hb,i,o⟩
 have hs:W''.heap[BS]?=some (.cells #[sl] 88 (0,0)):=o BS _ h.s (by intro e;cases e;exact O rfl) (by intro c fz e;cases e)
 refine⟨by rw[j],.inr (by rw[Lib.byteCells_append];exact hb),hs,h.l.trans i,h.k.trans ((Xlm h.b i o).from _),h.q.trans ⟨i,hs.trans h.s.symm⟩⟩
end
section
attribute [local go_sem] Oper.semAt_some
theorem Xs0{z:Int}(hz:z≠0)(hl:(dig z.natAbs).length<=274877906944): C0 105 [.d (dz z)] (·=.d (.str (tx z))):=by
 have hcl:=Xxm (n:=z.natAbs) (k:=(dig z.natAbs).length) (by have:=Xby (Xae z.natAbs);rwa[Xag] at this)
 have hp:=W6x.2 (λe:dig z.natAbs=[]=>hz (by have:=Xsp.1 e;omega))
 refine EnM Tryz.func105 λW0 hg0 _=>?_
 refine Ce rfl (Xco (n:=z.natAbs) (by omega)) ?_
 refine Cr rfl (Xl0 (l:=dig z.natAbs) hp (by omega)) ?_
 refine No rfl (by simp only[W0i];omega) ?_
 refine Nv 4 7 1 rfl ?_
 refine Lo (λ((x,n,lo,cs):Nat×Nat×List Nat×List Nat)=>[(1,.ptr 1 0),(2,.d (.str [])),(3,.own 14 1 0 n),(4,.ptr 4 0)]) (λ(x,n,lo,cs)=>[(1,.var (.d (dz z))),(14,.arr 1 (lo.map wd)),(4,.var (.gr 7 1 (cs.map wd))),(7,.tok (cs.map wd).length 1)])
  (λ(x,n,lo,cs)=>Fm9 z.natAbs x n lo cs) (λ(x,_)=>x) (z.natAbs,(dig z.natAbs).length,dig z.natAbs,[]) [] rfl ⟨W0a _,by omega,Xae _,W2h ..,rfl⟩ ?_ (by exact⟨by simp only[W0i];rfl,rfl,rfl,rfl,rfl⟩)
 rintro⟨x,n,lo,cs⟩ hI
 have hn:=Ygr hI
 obtain⟨hnl,hll,hwo,hdx,hck⟩:=hI
 have hsz:∀j,j<n->lo[j]?=(dig x)[j]?:=λj hj=>by rw[<-hdx,W1d,if_pos hj]
 refine By rfl (λh=>?_) λh=>?_
 . have h:(n:Int)>0:=h
   have hx0:x≠0:=λe=>by rw[e,Xan] at hn;simp at hn;omega
   refine Ar ((n:Int)-1) rfl ?_ (wr rfl (by simp only[inK];omega))
   refine Lo (λ((k,l,r):Nat×List Nat×Nat)=>[(1,.ptr 1 0),(2,.d (.str [])),(3,.own 14 1 0 n),(4,.ptr 4 0),(5,.d (.int .u64 r)),(6,.d (.int .i64 ((k:Int)-1)))]) (λ(_,l,_)=>[(1,.var (.d (dz z))),(14,.arr 1 (l.map wd)),(4,.var (.gr 7 1 (cs.map wd))),(7,.tok (cs.map wd).length 1)])
    (λ(k,l,r)=>k<=n/\l.length=lo.length/\Xar l/\r<1000000000/\val ((l.take n).drop k)*1000000000+r=val ((dig x).drop k)/\∀j,j<k->l[j]?=(dig x)[j]?) (λ(k,_,_)=>k) (n,lo,0) [] rfl
    ⟨W0a _,rfl,hwo,by decide,by rw[W1y (by rw[W0f];omega),W1y (by omega)];simp[val],hsz⟩ ?_
   rintro⟨k,l,r⟩ ⟨hk,hl2,hwl,hr,hval,hlj⟩
   refine By rfl (λh2=>?_) λh2=>?_
   . have h2:(k:Int)-1>=0:=h2
     obtain⟨u,hu⟩:=xat (l:=dig x) (k:=k-1) (by omega)
     have hub:=ww hu (Xae x)
     have hul:l[k-1]?=some u:=by rw[hlj _ (by omega),hu]
     obtain⟨s,hs⟩:∃s,s=r*2^32+u:=⟨_,rfl⟩
     have hs64:s<18446744073709551616:=by omega
     have hsy:s/1000000000<4294967296:=by omega
     have hek:((k:Int)-1)=((k-1:Nat):Int):=by omega
     refine Ar (r*2^32:Nat) rfl ?_ (Xig (n:=32) rfl (by omega) (by decide))
     refine Eo (k-1) (by rw[hek];rfl) (by omega) ?_
     refine Ld (wd u) rfl (mp hul) ?_
     refine Go.Vm.Cv u rfl ?_
     refine Ar s rfl ?_ (Yb8 (by omega) (by omega) (by rw[Xdn u r 32 (by omega),<-hs]) hs64)
     refine Ar (s/1000000000:Nat) rfl ?_ (show _/\_ from⟨by decide,Ydp s 1000000000 hs64⟩)
     refine Go.Vm.Cv (s/1000000000:Nat) rfl ?_ (wW ⟨W5d _,W7e.2 hsy⟩)
     refine Eo (k-1) (by rw[hek];rfl) (by omega) ?_
     refine Sto rfl (by simp only[W0i];omega) ms ?_
     refine Ar (s%1000000000:Nat) rfl ?_ (show _/\_ from⟨by decide,Xr2 s 1000000000⟩)
     refine Ar ((k-1:Nat)-1:Int) rfl ?_ (wr (by omega) (by simp only[inK];omega))
     have hs0:val ((dig x).drop (k-1))=u+4294967296*val ((dig x).drop k):=by
      have:=Xb0 hu
      rwa[show k-1+1=k by omega] at this
     refine Bk (k-1,l.set (k-1) (s/1000000000),s%1000000000) [] rfl ⟨by omega,by simp[hl2],Xhl hwl hsy,W1s _ (by decide),?_,λj hj=>?_⟩ (by show k-1<k;omega)
     . rw[hs0,<-hval,List.take_set,drop_set (by rw[W0f];omega),val,show k-1+1=k by omega]
       have e:=W2q s 1000000000
       have hs2:s=r*4294967296+u:=hs
       generalize val (((l.take n)).drop k)=V
       generalize s/1000000000=q at e |-
       generalize s%1000000000=m at e |-
       clear hck hcl hdx hsz hlj hs hval hs0 hsy hs64
       omega
     . rw[W2a (by omega)];exact hlj j (by omega)
   . have hk0:k=0:=by
      have h2:¬(k:Int)-1>=0:=h2
      omega
     subst hk0
     rw[W1e,W1e,Xag] at hval
     have hq:x/1000000000=val (l.take n):=by omega
     have hm:x%1000000000=r:=by omega
     refine Cn [(1000001,14)] rfl (Xvy (l:=l) (q:=0) (n:=n) hwl (by omega) (by omega)) λv hv=>?_
     obtain⟨m,hmn,rfl,hml⟩:=hv
     rw[W1e,<-hq] at hml
     refine Go.Vm.Cv r rfl ?_
     refine ApG ((cs++[r]).map wd) rfl (by simp;rfl) (by simp;have:=congrArg List.length hck;rw[W0c] at this;omega) ?_
     refine Bk (x/1000000000,m,l,cs++[r]) [(50,7)] rfl ⟨by omega,by omega,hwl,hml,?_⟩ (by show x/1000000000<x;omega)
     rw[hck,Xfs hx0,hm];simp
 . have h:¬(n:Int)>0:=h
   have hx0:x=0:=by
    have:dig x=[]:=W0q (by omega)
    exact Xsp.1 this
   subst hx0
   rw[Xe9,W4e] at hck
   obtain⟨zs,hzs⟩:=c9s (l:=cs) λx hx=>Ykw z.natAbs x (by rw[hck];exact hx)
   have hzl:zs.length=cs.length:=by rw[<-hzs,W0i]
   have hz0:z.natAbs≠0:=by omega
   have hz1:0<zs.length:=by
    rw[hzl,<-hck,Xfs hz0];simp
   have hzn:zs.length<=549755813888:=by rw[hzl,<-hck];omega
   have htx:∀sg,sg++Xzj (zs.map (·.1))=sg++dec z.natAbs:=λsg=>by rw[hzs,<-hck,Xzi _ hz0]
   refine Tl 15 rfl λa w hw=>?_
   obtain⟨s',W,θ,rfl,hS,hθ,rfl⟩:=hw
   have hgW:Gb.g Tryz.prog W:=Gb.mono _ _ hS.fm.le hg0
   obtain⟨b1,p1,e1⟩:=Xjn (hS.rel.has 1 (.ptr 1 0) rfl)
   obtain⟨b4,p4,e4⟩:=Xjn (hS.rel.has 4 (.ptr 4 0) rfl)
   obtain⟨bx,cx1,T1,q1,q2,q3,_⟩:=hS.obs.r 1 (.var (.d (dz z))) rfl
   obtain⟨by4,cx4,T4,q5,q6,q7,_⟩:=hS.obs.r 4 (.var (.gr 7 1 (cs.map wd))) rfl
   obtain rfl:bx=b1:=Option.some.inj (q1.symm.trans p1)
   obtain rfl:by4=b4:=Option.some.inj (q5.symm.trans p4)
   have c1:W.w.cell? ⟨bx,0,none⟩=some (.bool (decide (z<0))):=by
    obtain⟨u,v,h1,h2,_⟩:=q3
    have h2:u=[.bool (decide (z<0))]:=h2
    rw[Xa9 q2,h1,h2];rfl
   obtain⟨b7,cp,c4,hcell⟩:∃b7 cp,W.w.cell? ⟨by4,0,none⟩=some (.slice (some ⟨b7,0,none⟩) zs.length cp)/\∀j,j<zs.length->W.w.cell? ⟨b7,0+j,none⟩=some (.int .u32 ((zs[j]?.getD ⟨0,by decide⟩).1:Int)):=by
    obtain⟨p,h1,h0,h2,_,h5⟩:=q7
    simp only[W0i] at h1 h2
    rcases h5 with h5 | ⟨b7,h5,hrow⟩
    . have:=congrArg List.length h5
      rw[W0i] at this
      have:cs.length=0:=this
      omega
    . have hp:p=some ⟨b7,0,none⟩:=by
       rcases h0 with h0 | h0
       . omega
       . rw[h0,h5];rfl
      refine⟨b7,_,by rw[Xa9 q6,h1,hp,<-hzl];rfl,λj hj=>?_⟩
      obtain⟨x,hx⟩:∃x,zs[j]?=some x:=⟨_,W0e hj⟩
      obtain⟨e,g1,_,g3⟩:=D.row_get hrow (i:=j) (x:=wd x.1) (by rw[<-hzs];simp[hx])
      have g1:e=[.int .u32 x.1]:=g1.1
      have:=(g3 0 (.int .u32 x.1) (by rw[g1];rfl)).1
      rw[hx]
      simpa using this
   have hb1:=Go.Proofs.YtfjafaehfjjaiaaGreatDoor.cell_lt c1
   have hb4:=Go.Proofs.YtfjafaehfjjaiaaGreatDoor.cell_lt c4
   have hb7:=Go.Proofs.YtfjafaehfjjaiaaGreatDoor.cell_lt (hcell 0 hz1)
   have hfm:=hS.fm
   obtain⟨tm,df⟩:=a
   obtain rfl:df=[]:=hS.rel.defers
   obtain⟨L⟩:=tm
   have hL:L.length=74:=hS.rel.size
   clear hS
   obtain⟨t0,L0,rfl,hL0⟩:=Xai hL
   clear hL
   obtain⟨t1,L1,rfl,hL1⟩:=Xai hL0
   clear hL0
   obtain⟨t2,L2,rfl,hL2⟩:=Xai hL1
   clear hL1
   obtain⟨t3,L3,rfl,hL3⟩:=Xai hL2
   clear hL2
   obtain⟨t4,L4,rfl,hL4⟩:=Xai hL3
   clear hL3
   obtain⟨t5,L5,rfl,hL5⟩:=Xai hL4
   clear hL4
   obtain⟨t6,L6,rfl,hL6⟩:=Xai hL5
   clear hL5
   obtain⟨t7,L7,rfl,hL7⟩:=Xai hL6
   clear hL6
   obtain⟨t8,L8,rfl,hL8⟩:=Xai hL7
   clear hL7
   obtain⟨t9,L9,rfl,hL9⟩:=Xai hL8
   clear hL8
   obtain⟨t10,L10,rfl,hL10⟩:=Xai hL9
   clear hL9
   obtain⟨t11,L11,rfl,hL11⟩:=Xai hL10
   clear hL10
   obtain⟨t12,L12,rfl,hL12⟩:=Xai hL11
   clear hL11
   obtain⟨t13,L13,rfl,hL13⟩:=Xai hL12
   clear hL12
   obtain⟨t14,L14,rfl,hL14⟩:=Xai hL13
   clear hL13
   obtain⟨t15,L15,rfl,hL15⟩:=Xai hL14
   clear hL14
   obtain⟨t16,L16,rfl,hL16⟩:=Xai hL15
   clear hL15
   obtain⟨t17,L17,rfl,hL17⟩:=Xai hL16
   clear hL16
   obtain⟨t18,L18,rfl,hL18⟩:=Xai hL17
   clear hL17
   obtain⟨t19,L19,rfl,hL19⟩:=Xai hL18
   clear hL18
   obtain⟨t20,L20,rfl,hL20⟩:=Xai hL19
   clear hL19
   obtain⟨t21,L21,rfl,hL21⟩:=Xai hL20
   clear hL20
   obtain⟨t22,L22,rfl,hL22⟩:=Xai hL21
   clear hL21
   obtain⟨t23,L23,rfl,hL23⟩:=Xai hL22
   clear hL22
   obtain⟨t24,L24,rfl,hL24⟩:=Xai hL23
   clear hL23
   obtain⟨t25,L25,rfl,hL25⟩:=Xai hL24
   clear hL24
   obtain⟨t26,L26,rfl,hL26⟩:=Xai hL25
   clear hL25
   obtain⟨t27,L27,rfl,hL27⟩:=Xai hL26
   clear hL26
   obtain⟨t28,L28,rfl,hL28⟩:=Xai hL27
   clear hL27
   obtain⟨t29,L29,rfl,hL29⟩:=Xai hL28
   clear hL28
   obtain⟨t30,L30,rfl,hL30⟩:=Xai hL29
   clear hL29
   obtain⟨t31,L31,rfl,hL31⟩:=Xai hL30
   clear hL30
   obtain⟨t32,L32,rfl,hL32⟩:=Xai hL31
   clear hL31
   obtain⟨t33,L33,rfl,hL33⟩:=Xai hL32
   clear hL32
   obtain⟨t34,L34,rfl,hL34⟩:=Xai hL33
   clear hL33
   obtain⟨t35,L35,rfl,hL35⟩:=Xai hL34
   clear hL34
   obtain⟨t36,L36,rfl,hL36⟩:=Xai hL35
   clear hL35
   obtain⟨t37,L37,rfl,hL37⟩:=Xai hL36
   clear hL36
   obtain⟨t38,L38,rfl,hL38⟩:=Xai hL37
   clear hL37
   obtain⟨t39,L39,rfl,hL39⟩:=Xai hL38
   clear hL38
   obtain⟨t40,L40,rfl,hL40⟩:=Xai hL39
   clear hL39
   obtain⟨t41,L41,rfl,hL41⟩:=Xai hL40
   clear hL40
   obtain⟨t42,L42,rfl,hL42⟩:=Xai hL41
   clear hL41
   obtain⟨t43,L43,rfl,hL43⟩:=Xai hL42
   clear hL42
   obtain⟨t44,L44,rfl,hL44⟩:=Xai hL43
   clear hL43
   obtain⟨t45,L45,rfl,hL45⟩:=Xai hL44
   clear hL44
   obtain⟨t46,L46,rfl,hL46⟩:=Xai hL45
   clear hL45
   obtain⟨t47,L47,rfl,hL47⟩:=Xai hL46
   clear hL46
   obtain⟨t48,L48,rfl,hL48⟩:=Xai hL47
   clear hL47
   obtain⟨t49,L49,rfl,hL49⟩:=Xai hL48
   clear hL48
   obtain⟨t50,L50,rfl,hL50⟩:=Xai hL49
   clear hL49
   obtain⟨t51,L51,rfl,hL51⟩:=Xai hL50
   clear hL50
   obtain⟨t52,L52,rfl,hL52⟩:=Xai hL51
   clear hL51
   obtain⟨t53,L53,rfl,hL53⟩:=Xai hL52
   clear hL52
   obtain⟨t54,L54,rfl,hL54⟩:=Xai hL53
   clear hL53
   obtain⟨t55,L55,rfl,hL55⟩:=Xai hL54
   clear hL54
   obtain⟨t56,L56,rfl,hL56⟩:=Xai hL55
   clear hL55
   obtain⟨t57,L57,rfl,hL57⟩:=Xai hL56
   clear hL56
   obtain⟨t58,L58,rfl,hL58⟩:=Xai hL57
   clear hL57
   obtain⟨t59,L59,rfl,hL59⟩:=Xai hL58
   clear hL58
   obtain⟨t60,L60,rfl,hL60⟩:=Xai hL59
   clear hL59
   obtain⟨t61,L61,rfl,hL61⟩:=Xai hL60
   clear hL60
   obtain⟨t62,L62,rfl,hL62⟩:=Xai hL61
   clear hL61
   obtain⟨t63,L63,rfl,hL63⟩:=Xai hL62
   clear hL62
   obtain⟨t64,L64,rfl,hL64⟩:=Xai hL63
   clear hL63
   obtain⟨t65,L65,rfl,hL65⟩:=Xai hL64
   clear hL64
   obtain⟨t66,L66,rfl,hL66⟩:=Xai hL65
   clear hL65
   obtain⟨t67,L67,rfl,hL67⟩:=Xai hL66
   clear hL66
   obtain⟨t68,L68,rfl,hL68⟩:=Xai hL67
   clear hL67
   obtain⟨t69,L69,rfl,hL69⟩:=Xai hL68
   clear hL68
   obtain⟨t70,L70,rfl,hL70⟩:=Xai hL69
   clear hL69
   obtain⟨t71,L71,rfl,hL71⟩:=Xai hL70
   clear hL70
   obtain⟨t72,L72,rfl,hL72⟩:=Xai hL71
   clear hL71
   obtain⟨t73,L73,rfl,hL73⟩:=Xai hL72
   clear hL72
   obtain rfl:=W0q hL73
   obtain rfl:t1=.pointer (some ⟨bx,0,none⟩):=e1
   obtain rfl:t4=.pointer (some ⟨by4,0,none⟩):=e4
   have hfin:∀ {w':World} {s:List UInt8},Below W.w.heap.size W.w w'->s=tx z->Ret W0 (λx=>x=.d (.str (tx z))) (.returned (.string ⟨s.toArray⟩)) w':=λ{w' s} h e=>by
    obtain⟨W',h1,h2⟩:=Xrc h
    subst e
    refine⟨W',_,_,rfl,h1,⟨h2.os.trans hfm.os,h2.out.trans hfm.out,h2.tape.trans hfm.tape,W0m hfm.size h2.size,λb hb hx=>(h2.same b (W0x hb hfm.size) id).trans (hfm.same b hb hx),λb hb hx i=>(h2.A b (W0x hb hfm.size) id i).trans (hfm.A b hb hx i),hfm.le.trans h2.le⟩,Xn6 ?_,λ_ h=>h,rfl⟩
    have:=Xpa z.natAbs
    unfold tx
    split<;>simp only[W0c,W0t,W4p]<;>omega
   clear q2 q3 q6 q7 hθ hck
   obtain⟨w,hww⟩:∃w,w=W.w:=⟨_,rfl⟩
   have hgw:∀ {w':World},Below w.heap.size w w'->Gb.g Tryz.prog (gw1 w'):=λh=>Gb.mono _ _ (Yjg (n:=w.heap.size) (by rw[<-hww];exact h) (by rw[<-hww];exact W0a _)) hgW
   rw[<-hww] at c1 c4 hcell hb1 hb4 hb7 hfin |-
   clear hww hgW hzl hzs hcl hnl hll hwo hn hdx hsz h hp hl q1 q5 p1 p4 hfm
   have hz9:zs.length*4<=140737488351232:=by omega
   have cA:∀o,(w.alloc o).cell? ⟨bx,0,none⟩=some (.bool (decide (z<0))):=λo=>(World.cell?_of_block (a:=⟨bx,0,none⟩) (Below.heap_alloc w o bx hb1)).trans c1
   have c4A:∀o,(w.alloc o).cell? ⟨by4,0,none⟩=some (.slice (some ⟨b7,0,none⟩) zs.length cp):=λo=>(World.cell?_of_block (a:=⟨by4,0,none⟩) (Below.heap_alloc w o by4 hb4)).trans c4
   by_cases hneg:z<0
   . simp only[decide_eq_true hneg] at cA
     gi_wp2
     refine⟨trivial,(callsIn_wide.2 (Any.Builder_WriteByte_k Yjk Yl3 w.heap.size w.heap.size [] 45 _ (.of (Lib.fresh_isBuilder _ _ w)) (by decide) (by simp))).mono ?_⟩
     rintro e wb ⟨rfl,hB,hbw,hok⟩
     have hB:Lib.IsBuilderF (rnB.t 72) (rnB.t 5) w.heap.size w.heap.size (Lib.byteCells [45]) wb:=.inr hB
     have hbw:Below w.heap.size w wb:=((Below.refl _ w).alloc (W0a _) _).trans hbw
     have hlt:w.heap.size<wb.heap.size:=by rcases hB with h | h<;>exact h.lt
     have c4b:wb.cell? ⟨by4,0,none⟩=some (.slice (some ⟨b7,0,none⟩) zs.length cp):=(hbw.cell (p:=⟨by4,0,none⟩) hb4).trans c4
     gi_wp2
     refine⟨trivial,(Xpf Fence.wide 7 trivial rfl _ _ _ _).mono ?_⟩
     rintro e w2 ⟨rfl,hw2⟩
     have hBS:w2.heap[wb.heap.size]?=some (.cells #[.slice (some ⟨b7,0,none⟩) zs.length cp] 88 (0,0)):=by rw[hw2];exact World.alloc_heap_new wb _
     have hb2:Below w.heap.size w w2:=by rw[hw2];exact hbw.alloc (by have:=hbw.size;omega) _
     have hB2:Lib.IsBuilderF (rnB.t 72) (rnB.t 5) w.heap.size w.heap.size (Lib.byteCells [45]) w2:=by rw[hw2];exact hB.alloc _
     have hs2:w2.heap.size=wb.heap.size+1:=by rw[hw2];simp
     have hcell2:∀j,j<zs.length->w2.cell? ⟨b7,0+j,none⟩=some (.int .u32 ((zs[j]?.getD ⟨0,by decide⟩).1:Int)):=λj hj=>(hb2.cell (p:=⟨b7,0+j,none⟩) hb7).trans (hcell j hj)
     have cBS:w2.cell? ⟨wb.heap.size,0,none⟩=some (.slice (some ⟨b7,0,none⟩) zs.length cp):=by simp[World.cell?,hBS]
     obtain⟨BS,hBSe⟩:∃BS,BS=wb.heap.size:=⟨_,rfl⟩
     rw[<-hBSe] at hBS hs2 cBS hlt |-
     clear hw2 hBSe hB hbw c4b hok
     gi_wp2
     refine wpIn_rangeFunc_ownG rfl (by decide) (gf:=241) (lb:=#[.pointer (some ⟨BS,0,none⟩)]) rfl trivial (enters_of Tryz.func241 (by kernel_rfl) rfl)
      (Xnp Fence.wide (8-1) trivial rfl (by decide) BS w.heap.size b7 0 cp zs hz9 w2 (by omega) (by omega) cBS hb7 hcell2) Kq.trans (λW l o o' hl h _ _=>Xvu W l o hl (by omega) (by omega) h o') (Below.refl _ _) (λ_=>rfl)
      (λpre W=>(Lib.IsBuilderF (rnB.t 72) (rnB.t 5) w.heap.size w.heap.size (Lib.byteCells (o9 zs.length [45] pre)) W/\W.heap[BS]?=some (.cells #[.slice (some ⟨b7,0,none⟩) zs.length cp] 88 (0,0)))/\Below w.heap.size w W)
      (λ_ _ _=>False)
      (OwnFrom.and (Own.from (λs A B row hs hg hr=>⟨Xv1 _ _ _ _ (λp=>Lib.byteCells (o9 zs.length [45] p)) s A B row hs.1 hg hr,Xi2 hs.2 hg hr⟩) _) (ownFrom_below (W0a _) (by omega)))
      (λ_ _ _ _ _ hs _ _=>hs)
      ⟨⟨hB2,hBS⟩,hb2⟩
      (λx=>{ tmps:=#[t0,.pointer (some ⟨bx,0,none⟩),t2,t3,.pointer (some ⟨by4,0,none⟩),t5,t6,.pointer (some ⟨w.heap.size,0,none⟩),.int .i64 (x.1:Int),.int .u32 (x.2.1:Int),t10,t11,t12,t13,t14,t15,t16,t17,t18,t19,t20,t21,t22,t23,t24,t25,t26,t27,t28,t29,t30,t31,t32,t33,t34,t35,t36,t37,t38,t39,t40,t41,t42,t43,t44,t45,t46,t47,t48,t49,t50,.pointer (some ⟨bx,0,none⟩),.bool true,.nilIface,.slice (some ⟨b7,0,none⟩) zs.length cp,.func (.func 241) #[] #[.pointer (some ⟨BS,0,none⟩)],.int .i64 (x.1:Int),.int .u32 (x.2.1:Int),t58,t59,t60,t61,t62,t63,t64,t65,t66,t67,t68,t69,t70,t71,t72,t73],defers:=[] }) ?assign ?body ?done ?stop
     case assign =>
      intro l x W K hK
      gi_wp2
      exact hK
     case stop =>
      rintro D c pre W _ _ h _
      exact h.elim
     case body =>
      rintro l pre x W ⟨⟨hBd,hBS⟩,hBl⟩ hlen
      gi_wp2
      rw[wU (by have:=x.2.2;omega)]
      refine⟨trivial,(CallsIn.inRound l (callsIn_wide.2 (Ypp (hgw hBl) x.2))).mono ?_⟩
      rintro e W1 ⟨rfl,hW1⟩
      have h9:W9 w.heap.size BS w2.heap.size (.slice (some ⟨b7,0,none⟩) zs.length cp) w W (o9 zs.length [45] pre) W1:=W9.below ⟨hBd,hBS,hBl,KeepsFrom.refl _ _,Kq.refl _ _ _⟩ hBl.size hW1
      have c41:W1.cell? ⟨by4,0,none⟩=some (.slice (some ⟨b7,0,none⟩) zs.length cp):=(h9.l.cell (p:=⟨by4,0,none⟩) hb4).trans c4
      have hxl:=Yn0 x.2
      have hol:=Xu2 zs.length pre [45]
      have hos:=Xon zs.length [45] pre x
      have hsgl:([45]:List UInt8).length<=1:=by decide
      have hpl:pre.length<549755813888:=by omega
      obtain⟨ds,hds⟩:∃ds,ds=dec x.2.1:=⟨_,rfl⟩
      rw[<-hds] at hxl hos |-
      have hBn:BS≠w.heap.size:=by omega
      clear hds hBd hBS hW1
      gi_wp2
      . rename_i hx
        refine⟨trivial,(CallsIn.inRound l (callsIn_wide.2 (Yov (hgw h9.l) (n:=9-ds.length) (by omega) (by omega)))).mono ?_⟩
        rintro e W2 ⟨rfl,hW2⟩
        have h9b:=h9.below h9.l.size hW2
        obtain⟨zr,hzr⟩:∃zr,zr=List.replicate (9-ds.length) (48:UInt8):=⟨_,rfl⟩
        have hzrl:zr.length<=9:=by rw[hzr,W1n];omega
        rw[<-hzr]
        rw[if_pos (by omega),<-hzr] at hos
        clear hzr
        gi_wp2
        refine⟨trivial,(CallsIn.inRound l (callsIn_wide.2 (h9b.wr zr h9b.l.size hBn (by omega)))).mono ?_⟩
        rintro e W3 ⟨rfl,h9c⟩
        gi_wp2
        refine⟨trivial,(CallsIn.inRound l (callsIn_wide.2 (h9c.wr ds h9c.l.size hBn (by simp only[W0c];omega)))).mono ?_⟩
        rintro e W4 ⟨rfl,h9d⟩
        gi_wp2
        exact⟨h9d.k,h9d.q,⟨by rw[hos];exact h9d.b,h9d.s⟩,h9d.l⟩
      . rename_i hx
        rw[if_neg (by omega),W4e] at hos
        refine⟨trivial,(CallsIn.inRound l (callsIn_wide.2 (h9.wr ds h9.l.size hBn (by omega)))).mono ?_⟩
        rintro e W4 ⟨rfl,h9d⟩
        gi_wp2
        exact⟨h9d.k,h9d.q,⟨by rw[hos];exact h9d.b,h9d.s⟩,h9d.l⟩
     case done =>
      rintro D ys W hD rfl ⟨⟨hBd,hBS⟩,hBl⟩ hK
      gi_wp2
      have hne:o9 zs.length [45] (b9 zs zs.length)=tx z:=by
       rw[Yeo _ _ _ (W0a _),W3c,W1e,htx]
       unfold tx
       rw[if_pos hneg]
      rw[hne] at hBd
      have hn0:tx z≠[]:=by
       unfold tx
       intro h
       exact Xxb _ (List.append_eq_nil_iff.1 h).2
      refine⟨trivial,(callsIn_wide.2 (Any.Builder_String_k Ycq Yl3 w.heap.size w.heap.size (tx z) W hBd hn0)).mono ?_⟩
      rintro e W3 ⟨rfl,_,hb3,hok3⟩
      have hK3:=hok3 D _ hK (by intro h;cases h;have:=hBl.size;omega) (by intro c fz h;cases h)
      gi_wp2
      refine⟨by simp,.inl ⟨_,_,rfl,run_takeDeferred hK3,?_⟩⟩
      refine⟨_,results_tmp rfl _ _ _,?_⟩
      refine hfin (s:=tx z) ?_ rfl
      exact(hBl.trans hb3).trans (belowK_b (w:=w) (W0a _) W3 D _ _ (by omega) hK3 rfl rfl)
   . simp only[decide_eq_false hneg] at cA
     gi_wp2
     obtain⟨wb,hwb⟩:∃wb,wb=w.alloc (.cells #[.pointer none,.slice none 0 0] 188):=⟨_,rfl⟩
     have hB:Lib.IsBuilderF (rnB.t 72) (rnB.t 5) w.heap.size w.heap.size (Lib.byteCells []) wb:=by rw[hwb];exact .of (Lib.fresh_isBuilder _ _ w)
     have hbw:Below w.heap.size w wb:=by rw[hwb];exact(Below.refl _ w).alloc (W0a _) _
     have hlt:w.heap.size<wb.heap.size:=by rcases hB with h | h<;>exact h.lt
     rw[<-hwb]
     clear hwb
     refine⟨trivial,(Xpf Fence.wide 7 trivial rfl _ _ _ _).mono ?_⟩
     rintro e w2 ⟨rfl,hw2⟩
     have hBS:w2.heap[wb.heap.size]?=some (.cells #[.slice (some ⟨b7,0,none⟩) zs.length cp] 88 (0,0)):=by rw[hw2];exact World.alloc_heap_new wb _
     have hb2:Below w.heap.size w w2:=by rw[hw2];exact hbw.alloc (by have:=hbw.size;omega) _
     have hB2:Lib.IsBuilderF (rnB.t 72) (rnB.t 5) w.heap.size w.heap.size (Lib.byteCells []) w2:=by rw[hw2];exact hB.alloc _
     have hs2:w2.heap.size=wb.heap.size+1:=by rw[hw2];simp
     have hcell2:∀j,j<zs.length->w2.cell? ⟨b7,0+j,none⟩=some (.int .u32 ((zs[j]?.getD ⟨0,by decide⟩).1:Int)):=λj hj=>(hb2.cell (p:=⟨b7,0+j,none⟩) hb7).trans (hcell j hj)
     have cBS:w2.cell? ⟨wb.heap.size,0,none⟩=some (.slice (some ⟨b7,0,none⟩) zs.length cp):=by simp[World.cell?,hBS]
     obtain⟨BS,hBSe⟩:∃BS,BS=wb.heap.size:=⟨_,rfl⟩
     rw[<-hBSe] at hBS hs2 cBS hlt |-
     clear hw2 hBSe hB hbw
     gi_wp2
     refine wpIn_rangeFunc_ownG rfl (by decide) (gf:=241) (lb:=#[.pointer (some ⟨BS,0,none⟩)]) rfl trivial (enters_of Tryz.func241 (by kernel_rfl) rfl)
      (Xnp Fence.wide (8-1) trivial rfl (by decide) BS w.heap.size b7 0 cp zs hz9 w2 (by omega) (by omega) cBS hb7 hcell2) Kq.trans (λW l o o' hl h _ _=>Xvu W l o hl (by omega) (by omega) h o') (Below.refl _ _) (λ_=>rfl)
      (λpre W=>(Lib.IsBuilderF (rnB.t 72) (rnB.t 5) w.heap.size w.heap.size (Lib.byteCells (o9 zs.length [] pre)) W/\W.heap[BS]?=some (.cells #[.slice (some ⟨b7,0,none⟩) zs.length cp] 88 (0,0)))/\Below w.heap.size w W)
      (λ_ _ _=>False)
      (OwnFrom.and (Own.from (λs A B row hs hg hr=>⟨Xv1 _ _ _ _ (λp=>Lib.byteCells (o9 zs.length [] p)) s A B row hs.1 hg hr,Xi2 hs.2 hg hr⟩) _) (ownFrom_below (W0a _) (by omega)))
      (λ_ _ _ _ _ hs _ _=>hs)
      ⟨⟨hB2,hBS⟩,hb2⟩
      (λx=>{ tmps:=#[t0,.pointer (some ⟨bx,0,none⟩),t2,t3,.pointer (some ⟨by4,0,none⟩),t5,t6,.pointer (some ⟨w.heap.size,0,none⟩),.int .i64 (x.1:Int),.int .u32 (x.2.1:Int),t10,t11,t12,t13,t14,t15,t16,t17,t18,t19,t20,t21,t22,t23,t24,t25,t26,t27,t28,t29,t30,t31,t32,t33,t34,t35,t36,t37,t38,t39,t40,t41,t42,t43,t44,t45,t46,t47,t48,t49,t50,.pointer (some ⟨bx,0,none⟩),.bool false,t53,.slice (some ⟨b7,0,none⟩) zs.length cp,.func (.func 241) #[] #[.pointer (some ⟨BS,0,none⟩)],.int .i64 (x.1:Int),.int .u32 (x.2.1:Int),t58,t59,t60,t61,t62,t63,t64,t65,t66,t67,t68,t69,t70,t71,t72,t73],defers:=[] }) ?assign ?body ?done ?stop
     case assign =>
      intro l x W K hK
      gi_wp2
      exact hK
     case stop =>
      rintro D c pre W _ _ h _
      exact h.elim
     case body =>
      rintro l pre x W ⟨⟨hBd,hBS⟩,hBl⟩ hlen
      gi_wp2
      rw[wU (by have:=x.2.2;omega)]
      refine⟨trivial,(CallsIn.inRound l (callsIn_wide.2 (Ypp (hgw hBl) x.2))).mono ?_⟩
      rintro e W1 ⟨rfl,hW1⟩
      have h9:W9 w.heap.size BS w2.heap.size (.slice (some ⟨b7,0,none⟩) zs.length cp) w W (o9 zs.length [] pre) W1:=W9.below ⟨hBd,hBS,hBl,KeepsFrom.refl _ _,Kq.refl _ _ _⟩ hBl.size hW1
      have c41:W1.cell? ⟨by4,0,none⟩=some (.slice (some ⟨b7,0,none⟩) zs.length cp):=(h9.l.cell (p:=⟨by4,0,none⟩) hb4).trans c4
      have hxl:=Yn0 x.2
      have hol:=Xu2 zs.length pre []
      have hos:=Xon zs.length [] pre x
      have hsgl:([]:List UInt8).length<=1:=by decide
      have hpl:pre.length<549755813888:=by omega
      obtain⟨ds,hds⟩:∃ds,ds=dec x.2.1:=⟨_,rfl⟩
      rw[<-hds] at hxl hos |-
      have hBn:BS≠w.heap.size:=by omega
      clear hds hBd hBS hW1
      gi_wp2
      . rename_i hx
        refine⟨trivial,(CallsIn.inRound l (callsIn_wide.2 (Yov (hgw h9.l) (n:=9-ds.length) (by omega) (by omega)))).mono ?_⟩
        rintro e W2 ⟨rfl,hW2⟩
        have h9b:=h9.below h9.l.size hW2
        obtain⟨zr,hzr⟩:∃zr,zr=List.replicate (9-ds.length) (48:UInt8):=⟨_,rfl⟩
        have hzrl:zr.length<=9:=by rw[hzr,W1n];omega
        rw[<-hzr]
        rw[if_pos (by omega),<-hzr] at hos
        clear hzr
        gi_wp2
        refine⟨trivial,(CallsIn.inRound l (callsIn_wide.2 (h9b.wr zr h9b.l.size hBn (by omega)))).mono ?_⟩
        rintro e W3 ⟨rfl,h9c⟩
        gi_wp2
        refine⟨trivial,(CallsIn.inRound l (callsIn_wide.2 (h9c.wr ds h9c.l.size hBn (by simp only[W0c];omega)))).mono ?_⟩
        rintro e W4 ⟨rfl,h9d⟩
        gi_wp2
        exact⟨h9d.k,h9d.q,⟨by rw[hos];exact h9d.b,h9d.s⟩,h9d.l⟩
      . rename_i hx
        rw[if_neg (by omega),W4e] at hos
        refine⟨trivial,(CallsIn.inRound l (callsIn_wide.2 (h9.wr ds h9.l.size hBn (by omega)))).mono ?_⟩
        rintro e W4 ⟨rfl,h9d⟩
        gi_wp2
        exact⟨h9d.k,h9d.q,⟨by rw[hos];exact h9d.b,h9d.s⟩,h9d.l⟩
     case done =>
      rintro D ys W hD rfl ⟨⟨hBd,hBS⟩,hBl⟩ hK
      gi_wp2
      have hne:o9 zs.length [] (b9 zs zs.length)=tx z:=by
       rw[Yeo _ _ _ (W0a _),W3c,W1e,htx]
       unfold tx
       rw[if_neg (by omega)]
      rw[hne] at hBd
      have hn0:tx z≠[]:=by
       unfold tx
       intro h
       exact Xxb _ (List.append_eq_nil_iff.1 h).2
      refine⟨trivial,(callsIn_wide.2 (Any.Builder_String_k Ycq Yl3 w.heap.size w.heap.size (tx z) W hBd hn0)).mono ?_⟩
      rintro e W3 ⟨rfl,_,hb3,hok3⟩
      have hK3:=hok3 D _ hK (by intro h;cases h;have:=hBl.size;omega) (by intro c fz h;cases h)
      gi_wp2
      refine⟨by simp,.inl ⟨_,_,rfl,run_takeDeferred hK3,?_⟩⟩
      refine⟨_,results_tmp rfl _ _ _,?_⟩
      refine hfin (s:=tx z) ?_ rfl
      exact(hBl.trans hb3).trans (belowK_b (w:=w) (W0a _) W3 D _ _ (by omega) hK3 rfl rfl)
theorem Xsl{z:Int}(i:(dig z.natAbs).length<=274877906944): C0 105 [.d (dz z)] (·=.d (.str (tx z))):=by
 by_cases h:z=0
 . subst h
   have:tx 0=[48]:=by unfold tx;rw[if_neg (by decide),show Int.natAbs 0=0 from rfl,Xee (by decide)];rfl
   rw[this];exact Xpn
 . exact Xs0 h i
end
end Go.Proofs.YtfjafaehfjjaiaaGreatDoor
namespace Go.Proofs.YtfjafaehfjjaiaaGreatDoor.P11
open Go Go.Vm Go.Num Go.Tow Go.Proofs.YtfjafaehfjjaiaaGreatDoor Go.Proofs.YtfjafaehfjjaiaaGreatDoor.P9 Go.Proofs.YtfjafaehfjjaiaaGreatDoor.R11
def fmtV(z:Int)(d:Nat): AV:=if (txt z d).length<=400 then .tup (.pr (.d (.str (txt z d))) (.d (.int .i64 0))) else .tup (.pr (.d (.str [])) (.d (.int .i64 3)))
abbrev RndOf(x:Nm)(d:Nat)(z:Int): Prop:=Xdj x.k x.t (scl x.k x.t x.a ((10^d:Int):Rat) hf) z
theorem dcT{p:Prop}(h:p): dc p=true:=Xaj.2 h
theorem dcF{p:Prop}(h:¬p): dc p=false:=W6n.2 λe=>h (Xaj.1 e)
theorem Ykr{z:Int}(Q:(dig z.natAbs).length<=274877906944): C0 104 [.d (.str (tx z)),.d (.str [45])] (·=.tup (.pr (.d (.str (dec z.natAbs))) (.b (dc (z<0))))):=by
 have o:=Xpa z.natAbs
 have I:Tx (tx z):=by
  by_cases h:z<0
  . rw[Xti h];show (45::dec z.natAbs).length<_;rw[W0t];omega
  . rw[Xth h];show (dec z.natAbs).length<_;omega
 have h:=Xnv (s:=tx z) (t:=[45]) I (by decide)
 by_cases i:z<0
 . have e:(tx z).take [(45:UInt8)].length=[45]:=by rw[Xti i];rfl
   rw[if_pos e,show (tx z).drop [(45:UInt8)].length=dec z.natAbs by rw[Xti i];rfl] at h
   exact h.mono λv j=>by rw[j,dcT e,dcT i]
 . have e:¬(tx z).take [(45:UInt8)].length=[45]:=λe=>by
    rw[Xth i] at e
    have O:(45:UInt8)∈dec z.natAbs:=W3v (by rw[e];exact W0j.2 rfl)
    have:=(Ykn z.natAbs 45 O).1
    exact absurd this (by decide)
   exact h.mono λv j=>by rw[j,if_neg e,dcF e,dcF i,Xth i]
theorem Xjf{x:Nm}{d:Nat}(H:Pk x)(hd:d<=60): C0 58 [.d (dN x),.d (.int .i64 d)] λv=>∃z,RndOf x d z/\(dig z.natAbs).length<=274877906944/\v=fmtV z d:=by
 refine En Tryz.func58 λ_ _ _=>?_
 refine Ca rfl (Yay H hd) λv Z=>?_
 obtain⟨z,rfl,V,O⟩:=Z
 have i:=Xpa z.natAbs
 have j:=Yek d (dec z.natAbs)
 have T:=Xw9 z.natAbs
 obtain⟨s,hs⟩:∃s,s=dec z.natAbs:=⟨_,rfl⟩
 rw[<-hs] at i j T
 have o:=Ykr O
 rw[<-hs] at o
 refine No rfl (by decide) ?_
 refine Ce rfl (Xsl O) ?_
 refine Ce rfl o ?_
 obtain⟨q,hq⟩:∃q,q=pad d s:=⟨_,rfl⟩
 have hql:q.length=max (d+1) s.length:=by rw[hq,j]
 obtain⟨r,Q⟩:∃r,r=pt d q:=⟨_,rfl⟩
 have hrl:r.length<=q.length+1:=by
  rw[Q,pt];split
  . omega
  . rw[W0c,W0t,W0f,W1k];omega
 have I:txt z d=(if z<0 then [45] else [])++r:=by rw[txt,Q,hq,hs]
 refine Cu none (λ(_:Unit)=>[(1,.d (.int .i64 d)),(8,.d (.str q)),(9,.b (dc (z<0)))]) (λ_=>[]) (λ_=>True) rfl ?_ λ_ _=>?_
 . refine By rfl (λh=>?_) λh=>?_
   . have h:((s.length:Nat):Int)<=d:=h
     refine Ar (d+1:Nat) rfl ?_
     refine Ar (d+1-s.length:Nat) rfl ?_
     refine Ce rfl (Xkp (by omega)) ?_
     refine Sc q rfl (by rw[hq];rfl) (by rw[W1n];omega) ?_
     exact Jn () [] rfl trivial
   . have h:¬((s.length:Nat):Int)<=d:=h
     have e:q=s:=by rw[hq,pad,show d+1-s.length=0 by omega];rfl
     rw[e]
     exact Jn () [] rfl trivial
 refine Cu none (λ(_:Unit)=>[(1,.d (.int .i64 d)),(8,.d (.str r)),(9,.b (dc (z<0)))]) (λ_=>[]) (λ_=>True) rfl ?_ λ_ _=>?_
 . refine By rfl (λh=>?_) λh=>?_
   . refine Dw rfl ?_
     refine Ar ((q.length-d:Nat):Int) rfl ?_
     refine Stk (q.length-d) _ rfl (by omega) rfl ?_
     refine Sc (q.take (q.length-d)++[46]) rfl rfl (by simp;omega) ?_
     refine Ar ((q.length-d:Nat):Int) rfl ?_
     refine Sdp (q.length-d) _ rfl (by omega) rfl ?_
     refine Sc r rfl (by rw[Q,pt,if_neg (by omega)];simp) (by simp;omega) ?_
     exact Jn () [] rfl trivial
   . have e:r=q:=by rw[Q,pt,if_pos (by omega)]
     rw[e]
     exact Jn () [] rfl trivial
 refine Cu none (λ(_:Unit)=>[(8,.d (.str (txt z d)))]) (λ_=>[]) (λ_=>True) rfl ?_ λ_ _=>?_
 . refine By rfl (λh=>?_) λh=>?_
   . refine Sc (txt z d) rfl (by rw[I,if_pos h]) (by show 1+r.length<_;omega) ?_
     exact Jn () [] rfl trivial
   . rw[I,if_neg h]
     exact Jn () [] rfl trivial
 refine By rfl (λh=>?_) λh=>?_
 . exact Rt rfl (.tup (.cons (.rf rfl) Xa1)) ⟨z,V,O,by rw[fmtV,if_neg (by omega)]⟩
 . exact Rt rfl (.tup (.cons (.rf rfl) Xa1)) ⟨z,V,O,by rw[fmtV,if_pos (by omega)]⟩
theorem dFmt_ok{x:Nm}{d:Nat}(H:Pk x)(hd:d<=60): C0 58 [.d (dN x),.d (.int .i64 d)] λv=>∃z,RndOf x d z/\(dig z.natAbs).length<=274877906944/\v=fmtV z d:=Xjf H hd
end Go.Proofs.YtfjafaehfjjaiaaGreatDoor.P11
namespace Go.Vm
open Go
theorem Stp.freezeV{N:Nat->Prop}{W:GW}{θ:Loc}{g:Hp}(h:Obs W θ N g){o b:Nat}{x:D}(ho:g o=some (.var (.d x)))(hb:(θ o).1=some b): Stp N W (W.fz b) θ θ g (upd g o .dead) where
 os:=_root_.rfl
 out:=_root_.rfl
 tape:=_root_.rfl
 size:=W0a _
 same:=λ_ _ _=>_root_.rfl
 A:=λZ _ hn i=>⟨λk=>k.2,λk=>⟨λe=>by subst e;exact hn (h.new o _ _ ho _root_.rfl hb),k⟩⟩
 le:=Xsm W b
 th:=λ_ _ _=>_root_.rfl
 hi:=λ_ _=>_root_.rfl
 obs:={
  r:=λO z Q=>by
   rcases Xaf Q with ⟨I,j⟩ | ⟨I,j⟩
   . subst j;trivial
   . exact(h.r O z j).keep (Xsm W b) _root_.rfl (λ_ _=>_root_.rfl) λV Z hb'=>⟨_root_.rfl,λi hA=>show Z≠b/\W.A Z i from⟨λe=>by
      subst e
      exact I (h.dis O o z _ _ j ho V _root_.rfl hb' hb),hA⟩⟩
  new:=λO z b Q V hb=>by
   rcases Xaf Q with ⟨I,j⟩ | ⟨I,j⟩
   . subst j;cases V
   . exact h.new O z b j V hb
  dis:=λo1 o2 y1 y2 b h1 h2 l1 l2 b1 b2=>by
   rcases Xaf h1 with ⟨I,f1⟩ | ⟨I,f1⟩
   . subst f1;cases l1
   . rcases Xaf h2 with ⟨j,f2⟩ | ⟨j,f2⟩
     . subst f2;cases l2
     . exact h.dis o1 o2 y1 y2 b f1 f2 l1 l2 b1 b2
  ids:=λO z i Q T=>by
   have:∃w,g i=some w:=by
    rcases Xaf Q with ⟨I,j⟩ | ⟨I,j⟩
    . subst j;exact T.elim
    . exact h.ids O z i j T
   obtain⟨w,hw⟩:=this
   by_cases e:i=o
   . subst e;exact⟨_,Xah _ _ _⟩
   . exact⟨w,by rw[Xak e];exact hw⟩ }
 dom:=λi y hy=>by
  by_cases e:i=o
  . subst e;exact⟨_,Xah _ _ _⟩
  . exact⟨y,by rw[Xak e];exact hy⟩
theorem Xwm{N:Nat->Prop}{W:GW}{θ:Loc}{g:Hp}(h:Obs W θ N g){o b:Nat}{x:D}{v:Value}(I:g o=some (.var (.d x)))(hb:(θ o).1=some b)(O:AV.V W θ (.ptr o 0) v): AV.V (W.fz b) θ (.at x) v:=by
 obtain⟨cs,⟨b1,i,Q⟩,T⟩:=O
 refine⟨cs,?_,T⟩
 obtain⟨b',Z,T',r1,r2,r3,r4⟩:=h.r _ _ I
 rw[hb] at r1 i;injection r1 with r1;injection i with i;subst r1;subst i
 exact⟨b,0,Z,Q,D.mono (Xsm W b) x r3,λj v hj=>⟨show W.w.cell? _=_ by rw[W1l,Xa9 r2];exact hj,λhA=>hA.1 rfl⟩⟩
section
variable{c:Cx}{s:St}{p:Pl}
noncomputable def Ypf(tb:Nat->Option TI)(n id t:Nat)(s:St): Option (List Kt×Env×Hpl×Nat×D):=match runT tb n id 1000 s with
 | .j _ K E H=>match look E t with
  | some (.ptr o 0)=>match look H o with
   | some (.var (.d x))=>some (K,E,H,o,x)
   | _=>none
  | _=>none
 | _=>none
theorem Fv(id t:Nat){K:List Kt}{E:Env}{H:Hpl}{o:Nat}{x:D}(h:Ypf c.tb c.n id t s=some (K,E,H,o,x))(k:StP c (.j [] K ((t,.at x)::E) ((o,.dead)::H))): StP c s:=by
 unfold Ypf at h
 split at h<;>try cases h
 rename_i Z
 split at h<;>try cases h
 rename_i he
 split at h<;>cases h
 rename_i T
 refine Xgy (id:=id) 1000 ?_
 rw[Z]
 rintro a w ⟨s0,W,θ,hw,hs,V,rfl⟩
 obtain⟨b,bs,T',r1,_⟩:=hs.obs.r _ _ T
 have st:=Stp.freezeV hs.obs T r1
 have O:=hs.step0 st
 refine k a w ⟨_,W.fz b,θ,hw,?_,V,rfl⟩
 rw[show sem ((t,AV.at x)::E) ((o,Ob.dead)::H)=(upd (look E) t (.at x),upd (look H) o .dead) by rw[Xa7,Xa7]]
 refine⟨O.fm,⟨O.rel.defers,O.rel.size,λq v hq=>?_⟩,O.obs,λq v i hq hi=>?_⟩
 . rcases Xaf hq with ⟨Q,I⟩ | ⟨Q,I⟩
   . subst Q;subst I
     exact Xwm hs.obs T r1 (hs.rel.has q _ he)
   . exact O.rel.has q v I
 . rcases Xaf hq with ⟨Q,I⟩ | ⟨Q,I⟩
   . subst Q;subst I;exact hi.elim
   . exact O.ids q v i I hi
end
end Go.Vm
namespace Go.Proofs.YtfjafaehfjjaiaaGreatDoor.R20
open Go Go.Vm Go.Num Go.Tow Go.Proofs.YtfjafaehfjjaiaaGreatDoor Go.Proofs.YtfjafaehfjjaiaaGreatDoor.P20
open Go.Proofs.YtfjafaehfjjaiaaGreatDoor.P55 (v0 W0 g0 gv0 zw Xlp Qp)
section
variable{K:Nat}{G:Tw K}{S:List (Tow.El K)}{N:List Nm}{n m:Nat}{x y z:Nm}{a b:Tow.El K}
variable{K':Nat}{G':Tw K'}{S':List (Tow.El K')}{N':List Nm}{u s:Vn}{p q:V2 K'}{f g:Int}
theorem compare_g(W:Wn G S N)(h:Gd G S N n x a)(i:Gd G S N m y b)(j:n<=400)(o:m<=400): C0 48 [.d (dN x),.d (dN y)] (·=.d (.int .i64 (sgn K G (Tow.add K a (Tow.neg K b))))):=by
 refine En Tryz.func48 λ_ _ _=>?_
 refine Ce rfl (R9.Cmp_g W h i j o) ?_
 exact R0
theorem Zero_g(W':Wn G' S' N')(o:Gv G' S' N' m u p)(I:m<=800): C0 47 [.d (dT u f)] (·=.b (dc (f=0/\Xcz G' p))):=by
 refine En Tryz.func47 λ_ _ _=>?_
 refine By rfl (λh=>?_) λh=>?_
 . refine Ce rfl (R9.Sign_g W' o.y I) ?_
   refine By rfl (λj=>?_) λj=>?_
   . refine Ce rfl (R9.Sign_g W' o.x I) ?_
     exact R1 rfl (.bp (Xaj.trans ⟨λi=>⟨h,j,i⟩,λi=>i.2.2⟩))
   . exact R1 rfl (.bp ⟨nofun,λi=>absurd i.2.1 j⟩)
 . exact R1 rfl (.bp ⟨nofun,λi=>absurd i.1 h⟩)
theorem half_g(W:Wn G S N)(h:Gd G S N n x a)(o:n<=400): C0 69 [.d (dN x)] (OnG G S N (n+1) (Tow.mul K G a (Tow.rat K hf2))):=by
 refine En Tryz.func69 λ_ _ _=>?_
 refine Dw rfl ?_
 refine Ce rfl (R2.Frac_ok (a:=1) (b:=2) (by decide) (by decide) (by decide)) ?_
 refine Ce rfl (R9.FromRat_ok (q:=hf2)) ?_
 refine Ca rfl (R9.Mul_g W h (Gd.rat W Xq9) (by omega) (by decide)) λv i=>?_
 obtain⟨z,rfl,j⟩:=i
 exact Rt rfl (.one (.rf rfl) rfl rfl) ⟨z,rfl,j⟩
theorem Xl6(W:Wn G S N)(W':Wn G' S' N')(i:Gd G S N n x a)(j:Gv G' S' N' m u p)(o:n<=400)(I:m<=800): C0 28 [.d (dN x),.d (dT u f)] (λr=>((f=0/\Xcz G' p)/\r=.d (dAr n00 []))\/(¬(f=0/\Xcz G' p)/\∃z,r=.d (dAr n00 [⟨z,u,f⟩])/\Gd G S N (n+1) z (Tow.mul K G a (Tow.rat K hf2)))):=by
 refine En Tryz.func28 λ_ _ _=>?_
 refine Ce rfl (R9.FromInt_ok (z:=0) (by decide)) ?_
 refine Ce rfl (Zero_g W' j I) ?_
 refine By rfl (λh=>?_) λh=>?_
 . have h:¬(f=0/\Xcz G' p):=by simpa only [Xap,Xaj] using h
   refine Dw rfl ?_
   refine Ca rfl (half_g W i o) λv O=>?_
   obtain⟨z,rfl,Q⟩:=O
   exact Rt rfl (.one (.sd (.pd (.rf rfl) (.lit rfl))) rfl rfl) (.inr ⟨h,z,rfl,Q⟩)
 . have h:f=0/\Xcz G' p:=W2u.1 (by simpa only [Xap,Xaj] using h)
   exact Rt rfl (.one (.sd (.pd (.rf rfl) (.nil rfl))) rfl rfl) (.inl ⟨h,rfl⟩)
end
structure SOk (s:Sn):Prop where
 vc:C0 81 [.d (dN s.c)] (·=.b true)
 vd:C0 65 [.d (dV s.v)] (·=.b true)
 tv:C0 46 [.d (dT s.v s.f)] (·=.b true)
 tz:C0 47 [.d (dT s.v s.f)] (·=.b false)
 sc:C0 27 [.d (dN s.c)] (·=.d (.int .i64 1))
theorem lse(l:List Sn): (l.map dSe).length=l.length:=W0i ..
theorem ase{l:List Sn}{k:Nat}{s:Sn}(h:l[k]?=some s): (l.map dSe)[k]?=some (dSe s):=by rw[W1q,h];rfl
theorem Ygk{x:Nm}{l:List Sn}(T:l.length<=100)(h:∀s∈l,SOk s)(O:∀(i:Nat) s t,l[i]?=some s->l[i+1]?=some t->C0 48 [.d (dN s.c),.d (dN t.c)] (·=.d (.int .i64 (-1)))): C0 16 [.d (dAr x l)] (·=.b true):=by
 refine En Tryz.func16 λ_ _ _=>?_
 refine Lo (λk:Nat=>[(1,.ptr 1 0),(3,.d (.int .i64 k))]) (λ_=>[(1,.var (.d (dAr x l)))]) (λk=>k<=l.length) (λk=>l.length-k) 0 [] rfl (W0w _) λk V=>?_
 refine By rfl (λo=>?_) λo=>?_<;>simp only[lse] at o
 . obtain⟨s,hs⟩:∃s,l[k]?=some s:=⟨_,W0e (by omega)⟩
   have H:=h s (W0h hs)
   refine Ix k rfl (ase hs) ?_
   refine Ce rfl H.tv ?_
   refine No rfl (λh=>h rfl) ?_
   refine Ce rfl H.tz ?_
   refine No rfl nofun ?_
   refine Ce rfl H.sc ?_
   refine No rfl (by decide) ?_
   refine Dw rfl ?_
   refine By rfl (λQ=>?_) λQ=>?_
   . obtain⟨j,rfl⟩:∃j,k=j+1:=⟨k-1,by omega⟩
     obtain⟨r,I⟩:∃r,l[j]?=some r:=⟨_,W0e (by omega)⟩
     refine Ar (j:Nat) rfl ?_
     refine Ix j rfl (ase I) ?_
     refine Ce rfl (O j r s I hs) ?_
     refine No rfl (by decide) ?_
     refine Ar (j+1+1:Nat) rfl ?_
     exact Bk (j+1+1) [] rfl (by omega) (by show l.length-(j+1+1)<l.length-(j+1);omega)
   . refine Ar (k+1:Nat) rfl ?_
     exact Bk (k+1) [] rfl (by omega) (by show l.length-(k+1)<l.length-k;omega)
 . exact R0
theorem Good_l{x:Nm}{l:List Sn}(o:l.length<=100)(I:C0 81 [.d (dN x)] (·=.b true))(h:∀s∈l,SOk s)(O:∀(i:Nat) s t,l[i]?=some s->l[i+1]?=some t->C0 48 [.d (dN s.c),.d (dN t.c)] (·=.d (.int .i64 (-1)))): C0 34 [.d (dAr x l)] (·=.b true):=by
 refine En Tryz.func34 λ_ _ _=>?_
 refine Ce rfl I ?_
 refine No rfl (λh=>h rfl) ?_
 refine Lo (λk:Nat=>[(1,.ptr 1 0),(3,.d (.int .i64 k))]) (λ_=>[(1,.var (.d (dAr x l)))]) (λk=>k<=l.length) (λk=>l.length-k) 0 [] rfl (W0w _) λk Q=>?_
 refine By rfl (λj=>?_) λj=>?_<;>simp only[lse] at j
 . obtain⟨s,hs⟩:∃s,l[k]?=some s:=⟨_,W0e (by omega)⟩
   have H:=h s (W0h hs)
   refine Ix k rfl (ase hs) ?_
   refine Ce rfl H.vc ?_
   refine No rfl (λh=>h rfl) ?_
   refine Ix k rfl (ase hs) ?_
   refine Ce rfl H.vd ?_
   refine No rfl (λh=>h rfl) ?_
   refine Ar (k+1:Nat) rfl ?_
   exact Bk (k+1) [] rfl (by omega) (by show l.length-(k+1)<l.length-k;omega)
 . refine Ce rfl (Ygk o h O) ?_
   exact R0
theorem Equal_l{x y:Nm}{l j:List Sn}{p:Prop}{P Q:Sn->Sn->Prop}(hl:l.length<=100)(hl':j.length<=100)(hx:C0 22 [.d (dN x),.d (dN y)] (·=.b (dc p)))(h:∀(i:Nat) s t,l[i]?=some s->j[i]?=some t->C0 22 [.d (dN s.c),.d (dN t.c)] (·=.b (dc (P s t)))/\C0 23 [.d (dT s.v s.f),.d (dT t.v t.f)] (·=.b (dc (Q s t)))):
 C0 13 [.d (dAr x l),.d (dAr y j)] (·=.b (dc (p/\l.length=j.length/\∀(i:Nat) s t,l[i]?=some s->j[i]?=some t->P s t/\Q s t))):=by
 refine En Tryz.func13 λ_ _ _=>?_
 refine Fv 1 2 rfl ?_
 refine Fv 1 3 rfl ?_
 refine Ce rfl hx ?_
 refine By rfl (λI=>?_) λI=>?_
 . have I:¬p:=by simpa only [Xap,Xaj] using I
   rw[P11.dcF λh=>I h.1]
   exact R0
 have hp:p:=W2u.1 (by simpa only [Xap,Xaj] using I)
 refine By rfl (λh2=>?_) λh2=>?_<;>simp only[lse] at h2
 . rw[P11.dcF λh=>h2 (by rw[h.2.1])]
   exact R0
 have hll:l.length=j.length:=by omega
 refine Lo (λk:Nat=>[(2,.at (dAr x l)),(3,.at (dAr y j)),(5,.d (.int .i64 k))]) (λ_=>[]) (λk=>k<=l.length/\∀(i:Nat) s t,i<k->l[i]?=some s->j[i]?=some t->P s t/\Q s t) (λk=>l.length-k) 0 [] rfl ⟨W0w _,λ_ _ _ h=>absurd h (by omega)⟩ λk ⟨hk,hI⟩=>?_
 refine By rfl (λh3=>?_) λh3=>?_<;>simp only[lse] at h3
 . obtain⟨s,hs⟩:∃s,l[k]?=some s:=⟨_,W0e (by omega)⟩
   obtain⟨t,O⟩:∃t,j[k]?=some t:=⟨_,W0e (by omega)⟩
   obtain⟨g1,g2⟩:=h k s t hs O
   refine Dz rfl ?_
   refine Ix k rfl (ase hs) ?_
   refine Ix k rfl (ase O) ?_
   refine Ce rfl g1 ?_
   refine By rfl (λT=>?_) λT=>?_
   . have T:¬P s t:=by simpa only [Xap,Xaj] using T
     rw[P11.dcF λh=>T (h.2.2 k s t hs O).1]
     exact R0
   have hP:P s t:=W2u.1 (by simpa only [Xap,Xaj] using T)
   refine Ce rfl g2 ?_
   refine By rfl (λV=>?_) λV=>?_
   . have V:¬Q s t:=by simpa only [Xap,Xaj] using V
     rw[P11.dcF λh=>V (h.2.2 k s t hs O).2]
     exact R0
   have hQ:Q s t:=W2u.1 (by simpa only [Xap,Xaj] using V)
   refine Ar (k+1:Nat) rfl ?_
   refine Bk (k+1) [] rfl ⟨by omega,λi s' t' hi o Z=>?_⟩ (by show l.length-(k+1)<l.length-k;omega)
   by_cases e:i=k
   . subst e
     rw[hs] at o;rw[O] at Z
     cases o;cases Z
     exact⟨hP,hQ⟩
   . exact hI i s' t' (by omega) o Z
 . rw[P11.dcT ⟨hp,hll,λi s t o Z=>hI i s t (by have:=(W0n.1 o).1;omega) o Z⟩]
   exact R0
section
variable{K:Nat}{G:Tw K}{S:List (Tow.El K)}{N:List Nm}{n m:Nat}{x y z:Nm}{a b:Tow.El K}
theorem Xjd(W:Wn G S N){l:List Vn}{g:Nat->V2 K}(Q:∀(i:Nat) v,l[i]?=some v->Gv G S N n v (g i))(h0:0<l.length)(Z:l.length<=8)(hn:1<=n/\n<=4): C0 25 [.d (dVs l)] (λr=>∃z,r=.tup (.pr (.d (dAr z [])) (.d (.int .i64 0)))/\Gd G S N 130 z (Tow.mul K G (pgn G g l.length) (Tow.rat K hf2))):=by
 have lm:(l.map dV).length=l.length:=W0i ..
 refine En Tryz.func25 λ_ _ _=>?_
 refine Ce rfl (R9.FromInt_ok (z:=0) (by decide)) ?_
 refine Lo (λ((k,z):Nat×Nm)=>[(0,.d (dVs l)),(2,.ptr 2 0),(4,.ptr 8 0),(5,.ptr 5 0),(6,.d (.int .i64 k))]) (λ(k,z)=>[(2,.var zA),(8,cal),(5,.var (.d (dN z)))]) (λ(k,z)=>k<=l.length/\Gd G S N (1+16*k) z (Yeh G g l.length k)) (λ(k,_)=>l.length-k) (0,n00) [] rfl ⟨W0w _,by rw[Yb6];exact Gd.rat W (by decide +kernel)⟩ ?_
 rintro⟨k,z⟩ ⟨hk,I⟩
 refine By rfl (λh=>?_) λh=>?_<;>simp only[lm] at h
 . obtain⟨v,o⟩:∃v,l[k]?=some v:=⟨_,W0e (by omega)⟩
   obtain⟨w,T⟩:∃w,l[(k+1)%l.length]?=some w:=⟨_,W0e (W1s _ h0)⟩
   refine Dw rfl ?_
   refine Ix k rfl (mp o) ?_
   refine Ar (k+1:Nat) rfl ?_
   refine Ar ((k+1)%l.length:Nat) rfl ?_ (by rw[lm];exact remN _ h0)
   refine Ix ((k+1)%l.length) rfl (mp T) ?_
   refine Cn [(1000001,8)] rfl (R15.Cross_g W (Q k v o) (Q _ w T) (by omega) (by omega) (by omega)) λv o=>?_
   obtain⟨c,rfl,V⟩:=o
   refine Cn [(1000001,8)] rfl (R15.Add_g W I V (by omega) (by omega)) λv o=>?_
   obtain⟨O,rfl,j⟩:=o
   rw[<-Yb4] at j
   refine Ar (k+1:Nat) rfl ?_
   exact Bk (k+1,O) [] rfl ⟨by omega,j.mono (by omega)⟩ (by show l.length-(k+1)<l.length-k;omega)
 . obtain rfl:k=l.length:=by omega
   rw[Yb5] at I
   first | refine Dw rfl ?_ | refine Dz rfl ?_
   refine Ca rfl (half_g W I (by omega)) λv o=>?_
   obtain⟨O,rfl,j⟩:=o
   exact Rt rfl (.tup (.cons (.sd (.pd (.rf rfl) (.nil rfl))) Xa1)) ⟨O,rfl,j.mono (by omega)⟩
end
end Go.Proofs.YtfjafaehfjjaiaaGreatDoor.R20
namespace Go.Vm
open Go
section
variable{c:Cx}{s:St}{p:Pl}
noncomputable def Ygu(tb:Nat->Option TI)(n:Nat)(s:St): Option (Pl×Nat×Nat×List D×AV):=match nxA tb n s with
 | some (p,o,[a,b])=>match o.op with
  | .call ⟨.builtin .append,_,⟨[T,T']⟩⟩=>match Nat.beq T T',tb T,look p.H (o.dst.getD 0) with
   | true,some i,none=>match Nat.ble i.eb 1024,i.z,b with
    | true,.sl sz _,.d (.sl s h)=>match Nat.beq s sz with
     | true=>some (p,o.dst.getD 0,sz,h,a)
     | false=>none
    | true,.sl sz _,.nil=>some (p,o.dst.getD 0,sz,[],a)
    | true,.sl sz _,.gr _ s h=>match Nat.beq s sz with
     | true=>some (p,o.dst.getD 0,sz,h,a)
     | false=>none
    | true,.sl sz _,.lit s h=>match Nat.beq s sz with
     | true=>some (p,o.dst.getD 0,sz,h,a)
     | false=>none
    | _,_,_=>none
   | _,_,_=>none
  | _=>none
 | _=>none
theorem Xle{d sz:Nat}{ys:List D}{a v:AV}{us:Hpl}(h:Ygu c.tb c.n s=some (p,d,sz,ys,a))(hF:∀ti:TI,ti.eb<=1024->Xkm d (look p.H) ti sz ys a=some (v,us))(k:p.nx' c v us): StP c s:=by
 unfold Ygu at h
 split at h<;>try cases h
 rename_i p' o a' b hA
 split at h<;>try cases h
 rename_i asx T T' ho
 split at h<;>try cases h
 rename_i ti Z hti hd
 have Z:=W0d Z
 subst Z
 have j:∀ {I Q V},ti.eb<=1024->ti.z=.sl I V->Xhn (look p'.H) ti.z I b=some Q->(p',o.dst.getD 0,I,Q,a')=(p,d,sz,ys,a)->StP c s:=by
  intro I Q V O i hs e
  injection e with e1 e2;injection e2 with e2 e3;injection e3 with e3 e4;injection e4 with e4 e5
  subst e1;subst e2;subst e3;subst e4;subst e5
  refine Xbj hA ?_ k
  rw[ho]
  simp only[F,if_true,hti,hd,i]
  rw[i] at hs
  rw[hs]
  exact hF ti O
 split at h
 . rename_i O i
   split at h<;>cases h
   rename_i hs
   have hs:=W0d hs
   exact j (W1g O) i (by simp[Xhn,toD,hs]) rfl
 . rename_i O i
   cases h
   exact j (W1g O) i (by simp[Xhn,i,toD]) rfl
 . rename_i O i
   split at h<;>cases h
   rename_i hs
   have hs:=W0d hs
   exact j (W1g O) i (by simp[Xhn,toD,hs]) rfl
 . rename_i O i
   split at h<;>cases h
   rename_i hs
   have hs:=W0d hs
   exact j (W1g O) i (by simp[Xhn,toD,hs]) rfl
 . cases h
theorem Xdm{n:Nat}{ti:TI}(h:n<=137438953472)(i:ti.eb<=1024): Xho n ti:=⟨by
 have:=W1z h i;omega,by omega⟩
end
section
variable{c:Cx}{s:St}{p:Pl}
noncomputable def Yo5(tb:Nat->Option TI)(n:Nat)(s:St): Option (Pl×Oper×TypeId×Operand×Operand×TI×Nat×Nat×List D×Nat×Nat×AV):=match nxO tb n s with
 | some (p,o)=>match o.op,p.dr,o.dst with
  | .store T x y,false,none=>match Xbt (look p.E) x,Xbt (look p.E) y,tb T with
   | some (.el q sz j off),some v,some i=>match look p.H q with
    | some (.arr h xs)=>match Nat.beq sz h with
     | true=>some (p,o,T,x,y,i,q,sz,xs,j,off,v)
     | false=>none
    | _=>none
   | _,_,_=>none
  | _,_,_=>none
 | none=>none
theorem StF{o:Oper}{T:TypeId}{x y:Operand}{ti:TI}{q sz j off:Nat}{xs:List D}{v a':AV}{x1:D}(zs:List D)(u:D)(h:Yo5 c.tb c.n s=some (p,o,T,x,y,ti,q,sz,xs,j,off,v))(hu:xs[j]?=some u)(hz:xs.set j x1=zs)(k:p.nx' c (.ub True) [(q,.arr sz zs)])
 (ha:Xr1 v (.d u) off=some a':=by exact rfl) (hd:toD u a'=some x1:=by exact rfl) (hs:(plain v&&Nat.beq v.size ti.z.size&&Nat.beq u.size sz&&Nat.beq x1.size sz)=true:=by exact rfl):StP c s:=by
 subst hz
 unfold Yo5 at h
 split at h<;>try cases h
 rename_i p' o' ho
 split at h<;>try cases h
 rename_i T1 x' y' hop hdr hdst
 split at h<;>try cases h
 rename_i q' sz1 j' off' v' ti' O hy hti
 split at h<;>try cases h
 rename_i sz2 xs' hg
 split at h<;>cases h
 rename_i hb
 have hb:=W0d hb
 subst hb
 simp only[W0g] at hs
 obtain⟨⟨⟨hpl,Q⟩,hs2⟩,V⟩:=hs
 have Q:=W0d Q
 have hs2:=W0d hs2
 have V:=W0d V
 refine Xhq ho (by unfold Xal;rw[hop];rfl) hdr (λN W θ ρ _ hO hN hB hv=>?_) k
 obtain⟨hk,hp⟩:=c.hT _ _ hti
 have hg:(sem p.E p.H).2 q=some (.arr sz xs):=hg
 obtain⟨b,h1,e⟩:=Yl9 (hv _ _ O)
 obtain⟨b',cs,T',r1,r2,r3,r4,r5,r6,r7⟩:=hO.r _ _ hg
 rw[h1] at r1;injection r1 with r1;subst r1
 obtain⟨Z,_⟩:=Xg0 hpl (hv _ _ hy) (Xf9 hpl)
 have I:=AV.c_len v Z
 obtain⟨e1,d1,d2,d3⟩:=r6 j u hu
 have d1':AV.C W θ (.d u) e1:=d1
 obtain⟨u0,m,w,f1,f2,f3,f4,f5⟩:=Ybj Z ha d1'
 have hel:=D.at_len u d1
 have hj:j<xs.length:=(W0n.1 hu).1
 have hlen:off+v.size<=sz:=by
  have:=congrArg List.length f1
  simp only[W0c] at this
  omega
 have hjc:j*sz+sz<=cs.length:=by
  rw[r3,<-W2k];exact W0k _ (by omega)
 have hrun:=Xt9 (P:=c.P) (ty:=o.type) (pos:=o.pos) (aft:=o.after) (gd:=o.guard) hk e r2 (by rw[I,Q]) (by omega) (AV.c_one v Z)
 have hle:=Xfc W b cs (spl cs (j*sz+off) (ρ y).cells.toList) T' (λ_=>True) r2 (λi v hA=>absurd (r7 i) hA)
 have hsp:∀t,(spl cs (j*sz+off) (ρ y).cells.toList)[t]?=if j*sz+off<=t/\t<j*sz+off+v.size then (ρ y).cells.toList[t-(j*sz+off)]? else cs[t]?:=λt=>by
  rw[Xd0 _ _ _ _ (by rw[I];omega),I]
 have hspe:spl e1 off (ρ y).cells.toList=u0++((ρ y).cells.toList++w):=by rw[f1,<-f2];exact Xp7 _ _ _ _ (by rw[I,f3])
 have hse:∀t,(u0++((ρ y).cells.toList++w))[t]?=if off<=t/\t<off+v.size then (ρ y).cells.toList[t-off]? else e1[t]?:=λt=>by
  rw[<-hspe,Xd0 _ _ _ _ (by rw[I,hel];omega),I]
 have ho':o=⟨none,.store T x y,o.type,o.pos,o.after,o.guard⟩:=by
  obtain⟨d,op,ty,ps,af,gu⟩:=o
  cases hop;cases hdst;rfl
 rw[ho']
 refine⟨_,θ,_,hrun,Stp.put hO (t:=q) (x:=.arr sz (xs.set j x1)) hg rfl h1 r2 (λi v hA=>absurd (r7 i) hA) (λ_ _ _=>rfl) (λ_ _=>rfl) h1 (λi z hz=>?_) (λi z hz=>?_)
  ⟨b,_,T',h1,Xaw _ _ _ (Xax r2),by rw[Xcg];exact r3,r4,by simpa using r5,λi x O=>?_,λi=>⟨r7 i,λ_=>trivial⟩⟩ (λi hi=>hi.elim),.inl ⟨rfl,rfl⟩,λi hi=>hi.elim⟩
 . rcases Xaf hz with ⟨f1,f2⟩ | ⟨f1,f2⟩
   . exact .inl ⟨f1,f2⟩
   . exact .inr (.inr ⟨f2,f1⟩)
 . by_cases hio:i=q
   . subst hio;exact⟨_,Xah _ _ _⟩
   . exact⟨z,by rw[show Xbg (sem p.E p.H).2 [(q,Ob.arr sz (xs.set j x1))]=upd (sem p.E p.H).2 q (.arr sz (xs.set j x1)) from rfl,Xak hio];exact hz⟩
 . by_cases hij:i=j
   . subst hij
     rw[W2x hj] at O
     injection O with O;subst O
     refine⟨_,D.mono hle _ (Xme hd f4),V,λt c hq=>?_⟩
     rw[hse] at hq
     rw[hsp]
     split at hq
     . rename_i hc
       rw[if_pos (by omega),show i*sz+t-(i*sz+off)=t-off by omega]
       exact hq
     . rename_i hc
       rw[if_neg (by omega)]
       exact d3 t c hq
   . rw[W2a (λh=>hij h.symm)] at O
     obtain⟨g1,g2,g3,g4⟩:=r6 i x O
     refine⟨g1,D.mono hle _ g2,g3,λt c hq=>?_⟩
     have hql:t<sz:=by
      rw[<-g3,<-D.at_len x g2]
      by_cases h:t<g1.length
      . exact h
      . rw[W2b (by omega)] at hq;cases hq
     rw[hsp,if_neg ?_]
     . exact g4 t c hq
     . rcases W7d hij with h | h
       . have:i*sz+sz<=j*sz:=by rw[<-W2k];exact W0k _ (by omega)
         omega
       . have:j*sz+sz<=i*sz:=by rw[<-W2k];exact W0k _ (by omega)
         omega
theorem Ya7{d sz:Nat}{xs ys:List D}(zs:List D)(h:Ygu c.tb c.n s=some (p,d,sz,ys,.lit sz xs))(i:xs++ys=zs)(h0:0<ys.length)(hr:zs.length<=137438953472)(k:p.nx' c (.own d sz 0 zs.length) [(d,.arr sz zs)]): StP c s:=by
 subst i
 exact Xle h (λo j=>by simp[Xkm,h0,Xdm (by simpa using hr) j]) k
theorem Ya6{d sz o n:Nat}{xs ys:List D}(zs:List D)(h:Ygu c.tb c.n s=some (p,d,sz,ys,.own o sz 0 n))(i:look p.H o=some (.arr sz xs))(j:n=xs.length)(I:xs++ys=zs)(hr:zs.length<=137438953472)(k:p.nx' c (.own d sz 0 zs.length) [(d,.arr sz zs),(o,.dead)]): StP c s:=by
 subst I
 exact Xle h (λQ O=>by subst j;simp[Xkm,i,Xdm (by simpa using hr) O])  k
end
end Go.Vm
namespace Go.Proofs.YtfjafaehfjjaiaaGreatDoor.P11
open Go Go.Vm Go.Num Go.Tow Go.Proofs.YtfjafaehfjjaiaaGreatDoor Go.Proofs.YtfjafaehfjjaiaaGreatDoor.P9 Go.Proofs.YtfjafaehfjjaiaaGreatDoor.R11
section
end
section
end
end Go.Proofs.YtfjafaehfjjaiaaGreatDoor.P11
namespace Go.Proofs.YtfjafaehfjjaiaaGreatDoor.R3
open Go Go.Vm Go.Num Go.Tow Go.Proofs.YtfjafaehfjjaiaaGreatDoor
section
variable{x:Rat}{s b:Nat}
end
section
variable{p q:Rat×Rat}{s t b:Nat}
end
end Go.Proofs.YtfjafaehfjjaiaaGreatDoor.R3
namespace Go.Proofs.YtfjafaehfjjaiaaGreatDoor.R7
open Go Go.Vm Go.Num Go.Tow Go.Proofs.YtfjafaehfjjaiaaGreatDoor
end Go.Proofs.YtfjafaehfjjaiaaGreatDoor.R7
namespace Go.Vm
open Go
section
variable{c:Cx}{s:St}
end
end Go.Vm
namespace Go.Proofs.YtfjafaehfjjaiaaGreatDoor.R11
open Go Go.Vm Go.Num Go.Tow Go.Proofs.YtfjafaehfjjaiaaGreatDoor Go.Proofs.YtfjafaehfjjaiaaGreatDoor.P11
end Go.Proofs.YtfjafaehfjjaiaaGreatDoor.R11
namespace Go.Proofs.YtfjafaehfjjaiaaGreatDoor.P11
open Go Go.Vm Go.Num Go.Tow Go.Proofs.YtfjafaehfjjaiaaGreatDoor Go.Proofs.YtfjafaehfjjaiaaGreatDoor.P9 Go.Proofs.YtfjafaehfjjaiaaGreatDoor.R11 Go.Proofs.YtfjafaehfjjaiaaGreatDoor.R9
section
theorem Pk_rat{q:Rat}{n:Nat}(hq:Qs n q)(h:n<=1700): Pk ⟨0,(),q⟩ :=
 ⟨W0w _,trivial,trivial,trivial,.inr ⟨rfl,λx i=>by obtain rfl:=W0j.1 i;exact hq.mono h⟩⟩
abbrev two: Nm:=⟨0,(),(2:Rat)⟩
end
section
section
variable{k:Nat}{t:Tw k}{a:El k}
end
theorem txt_at{d:Nat}(l:List UInt8)(h:l.length=d+1)(hd:∀b∈l,Xvz b): txt (Xyb l:Nat) d=pt d l:=by
 unfold txt
 rw[if_neg (by omega),W1j,Yfy d l h hd];rfl
theorem rnd_at{q:Rat}{d:Nat}{z:Int}(h:0<=Xji (q*((10^d:Int):Rat)+hf+-(z:Rat)))(i:Xji (q*((10^d:Int):Rat)+hf+-((z+1:Int):Rat))=-1): RndOf ⟨0,(),q⟩ d z:=⟨h,i⟩
end
end Go.Proofs.YtfjafaehfjjaiaaGreatDoor.P11
namespace Go.Vm
variable{c:Cx}{s:St}{p:Pl}
theorem Yg3{d sz:Nat}{xs ys:List D}(h:Ygu c.tb c.n s=some (p,d,sz,ys,.lit sz xs))(h0:ys.length=0)(hr:xs.length<=137438953472)(k:p.nx' c (.lit sz xs) []): StP c s :=
 Xle h (λj i=>by simp[Xkm,h0,Xdm (by simpa using hr) i]) k
theorem liS{K:List Kt}{E:Env}{H:Hpl}(t sz:Nat)(I:look E t=some (.lit sz []))(k:J c K (sem ((t,.nil)::E) H)): J c K (sem E H):=by
 rintro a w ⟨s0,W,θ,O,hs,o,rfl⟩
 refine k a w ⟨_,W,θ,O,?_,o,rfl⟩
 rw[show sem ((t,AV.nil)::E) H=(upd (look E) t .nil,look H) by rw[Xa7]]
 refine⟨hs.fm,⟨hs.rel.defers,hs.rel.size,λq v hq=>?_⟩,hs.obs,λq v i hq hi=>?_⟩
 . rcases Xaf hq with ⟨j,h⟩ | ⟨j,h⟩
   . subst j;subst h
     obtain⟨p,e,_⟩:=Xsy (hs.rel.has q _ I)
     rw[e]
     exact⟨_,⟨_,rfl⟩,rfl⟩
   . exact hs.rel.has q v h
 . rcases Xaf hq with ⟨j,h⟩ | ⟨j,h⟩
   . subst h;exact hi.elim
   . exact hs.ids q v i h hi
theorem Li{K:List Kt}{E:Env}{H:Hpl}(t sz:Nat)(h:nxJ c.tb c.n s=some (K,E,H))(k:StP c (.j [] K ((t,.nil)::E) H))(i:look E t=some (.lit sz []):=by exact rfl): StP c s:=by
 unfold nxJ at h
 split at h<;>cases h
 rename_i o
 exact go 1000 o (liS t sz i k)
end Go.Vm
namespace Go.Proofs.YtfjafaehfjjaiaaGreatDoor.P20
open Go Go.Vm Go.Num Go.Tow Go.Proofs.YtfjafaehfjjaiaaGreatDoor
open Go.Proofs.YtfjafaehfjjaiaaGreatDoor.P55 (v0 W0 g0 gv0 zw Xlp Qp)
section
variable{K:Nat}{G:Tw K}{S:List (Tow.El K)}{N:List Nm}{n m k:Nat}{x y z c c':Nm}{a b e:Tow.El K}{u v s:Vn}{p q:V2 K}{f g:Int}
theorem Xmb(G:Tw K): Xn0 (Xn0 p)=p:=W3i rfl ((Xay K G).nn _)
theorem Xs9: Xb7 G (Xn0 p) q=(Xgo G p q,Xb9 G p q):=W3i (by rw[<-Ybg,Xmb G]) (by rw[<-Ybf,Xmb G])
theorem Ypw(W:Wn G S N)(j:Gv G S N n u p)(hs:Gv G S N m s q)(T:n+m<=190): C0 17 [.d (dV u),.d (dV s)] (P19.OfG G S N (n+m+(n+m)) p q):=by
 refine En Tryz.func17 λ_ _ _=>?_
 refine Ce rfl (R13.Zero_g W j (by omega)) ?_
 refine By rfl (λh=>?_) λh=>?_
 . exact Rt rfl (.tup (.cons Xsn Xa1)) (.inr ⟨.inl h,rfl⟩)
 . refine Ce rfl (R13.Zero_g W hs (by omega)) ?_
   refine By rfl (λo=>?_) λo=>?_
   . exact Rt rfl (.tup (.cons Xsn Xa1)) (.inr ⟨.inr o,rfl⟩)
   refine Dw rfl ?_
   refine Cn [(1000001,15)] rfl (R15.Dot_g W j hs (by omega) (by omega) (by omega)) λv i=>?_
   obtain⟨d,rfl,hd⟩:=i
   refine Cn [(1000001,15)] rfl (R15.Cross_g W j hs (by omega) (by omega) (by omega)) λv i=>?_
   obtain⟨c,rfl,I⟩:=i
   refine Cn [(1000001,15)] rfl (R19.result_g (u:=⟨d,c⟩) (p:=(Xgo G p q,Xb9 G p q)) (f:=0) ⟨hd,I⟩) λv i=>?_
   rcases i with ⟨_,w,rfl,O⟩ | ⟨Q,_⟩
   . exact Rt rfl (.tup (.cons (.rf rfl) Xa1)) (.inl ⟨λe=>e.elim h o,w,rfl,by rw[Xs9];exact O⟩)
   . exact absurd (by decide) Q
theorem Yf2{h:Sn}: CA0 30 [.d (dSs [h])] 7 [dSe h]:=by
 refine EnW Tryz.func30 λ_ _ _ _=>?_
 refine Ub rfl (λh=>?_) ?_
 . exact absurd (show [dSe _]=[] from h) nofun
 refine Ya7 [dSe h] rfl rfl (W4s _) (W1g rfl) ?_
 exact Rw [(7,1000000)] [(1000000,.arr 7 [dSe h])] rfl (.one (.rf rfl) rfl rfl) ⟨_,rfl,rfl,rfl⟩
theorem Yf3: C0 30 [.d (dSs [])] (·=.nil):=by
 refine En Tryz.func30 λ_ _ _=>?_
 refine Ub rfl (λh=>?_) ?_
 . exact R0
 . refine Yg3 rfl rfl (by decide) ?_
   refine Li 2 7 rfl ?_
   exact R0
theorem Ym5(W:Wn G S N)(o:Gd G S N n c a)(i:Gd G S N n c' a)(hn:n<=95)(O:Gv G S N m u p)(Q:Gv G S N m v q)(h2:m+m+(m+m)+m<=190)(hf:few f)(T:few g)(V:lim (Xec G p q f g))(h0:¬(Xec G p q f g=0/\Xcz G (Xb7 G p q))):
 CW0 31 [.own 1000001 7 0 1,.d (dSe ⟨c',v,g⟩)] [(1000001,.arr 7 [dSe ⟨c,u,f⟩])] (λr H'=>∃w,r=.tup (.pr (.own 1000001 7 0 1) (.d (.int .i64 0)))/\H'=[(1000001,.arr 7 [dSe ⟨c,w,Xec G p q f g⟩])]/\Gv G S N (m+m+(m+m)) w (Xb7 G p q)):=by
 have j:sgn K G (Tow.add K a (Tow.neg K a))=0:=by rw[(Xay K G).an];exact(Xbe W.w.g).2 rfl
 refine EnW Tryz.func31 λ_ _ _ _=>?_
 refine Lo (λ_:Unit=>[(0,.own 1000001 7 0 1),(3,.ptr 3 0),(6,.d (.int .i64 0))]) (λ_=>[(1000001,.arr 7 [dSe ⟨c,u,f⟩]),(3,.var (.d (dSe ⟨c',v,g⟩)))]) (λ_=>True) (λ_=>0) () [] rfl trivial (λ_ _=>?_)
 refine Dw rfl ?_
 refine Yes rfl (by decide) ?_
 refine Eo 0 rfl (by decide) ?_
 refine Ld (dSe ⟨c,u,f⟩) rfl rfl ?_
 refine Ce rfl (Ycp W o i (by omega) (by omega)) ?_
 refine No rfl (by rw[j];decide) ?_
 refine Dw rfl ?_
 refine No rfl (by decide) ?_
 refine Eo 0 rfl (by decide) ?_
 refine Ld (dSe ⟨c,u,f⟩) rfl rfl ?_
 refine Ce rfl (P9.Equal_g W o i (by omega) (by omega)) ?_
 refine No rfl (λh=>h rfl) ?_
 refine Dw rfl ?_
 refine Eo 0 rfl (by decide) ?_
 refine Ld (dSe ⟨c,u,f⟩) rfl rfl ?_
 refine Ca rfl (P19.Add_g W O Q (by omega) hf T) λr Z=>?_
 rcases Z with ⟨_,w,rfl,I⟩ | ⟨h,_⟩
 . refine No rfl (by decide) ?_
   refine Ce rfl (P19.Zero_g W I (by omega)) ?_
   refine No rfl h0 ?_
   refine Eo 0 rfl (by decide) ?_
   refine StF [dSe ⟨c,w,Xec G p q f g⟩] (dSe ⟨c,u,f⟩) rfl rfl rfl ?_
   exact Rw [] [(1000001,.arr 7 [dSe ⟨c,w,Xec G p q f g⟩])] rfl (.tup (.cons (.rf rfl) Xa1)) ⟨w,rfl,rfl,I⟩
 . exact absurd V h
theorem Ylo{i:Nat}(W:Wn G S N)(T:Gd G S N n x a)(V:Gd G S N m y b)(hn:n<=190)(hm:m<=190)(Z:Gd G S N k c e)(j:Gd G S N k c' e)(hu:Gv G S N i u p)(o:Gv G S N i v q)(hk:k<=95)(h2:i+i+(i+i)+i<=190)(hf:few f)(hg:few g)(hl:lim (Xec G p q f g))(h0:¬(Xec G p q f g=0/\Xcz G (Xb7 G p q))):
 C0 7 [.d (dAr x [⟨c,u,f⟩]),.d (dAr y [⟨c',v,g⟩])] (λt=>∃z w,t=.tup (.pr (.d (dAr z [⟨c,w,Xec G p q f g⟩])) (.d (.int .i64 0)))/\Gd G S N (n+m) z (Tow.add K a b)/\Gv G S N (i+i+(i+i)) w (Xb7 G p q)):=by
 refine En Tryz.func7 λ_ _ _=>?_
 refine Ca rfl (P9.Add_g W T V (by omega) (by omega)) λv o=>?_
 obtain⟨z,rfl,hz⟩:=o
 refine No rfl (by decide) ?_
 refine Dw rfl ?_
 refine Cr rfl Yf2 ?_
 refine Lo (λk:Nat×Vn=>[(4,.ptr 4 0),(8,.ptr 8 0),(29,.d (dSs [⟨c',v,g⟩])),(30,.d (.int .i64 1)),(31,.d (.int .i64 k.1))]) (λk=>[(26,.arr 7 [dSe (if k.1=0 then ⟨c,u,f⟩ else ⟨c,k.2,Xec G p q f g⟩)]),(4,.var zA),(8,.var (.st (.pr (.d (dN z)) (.own 26 7 0 1))))]) (λk=>k.1<=1/\(k.1=1->Gv G S N (i+i+(i+i)) k.2 (Xb7 G p q))) (λk=>1-k.1) (0,u) [] rfl ⟨W0w _,λh=>by cases h⟩ λ⟨k,w⟩ ⟨I,hw⟩=>?_
 rcases(show k=0\/k=1 by have:k<=1:=I;omega) with rfl | rfl
 . refine Yes rfl (show ((0:Nat):Int)<1 by decide) ?_
   refine Ix 0 rfl (u:=dSe ⟨c',v,g⟩) rfl ?_
   refine Cw [(1000001,26)] rfl (Ym5 W Z j hk hu o h2 hf hg hl h0) (λr H' _ hr=>?_)
   obtain⟨Q,rfl,rfl,O⟩:=hr
   show Pl.nx' _ _ (.tup (.pr (.own 26 7 0 1) (.d (.int .i64 0)))) [(26,.arr 7 [dSe ⟨c,Q,Xec G p q f g⟩])]
   refine No rfl (by decide) ?_
   refine Ar (0+1:Nat) rfl ?_
   exact Bk (0+1,Q) [] rfl ⟨W0a 1,λ_=>O⟩ (show 1-(0+1)<1-0 from W7o)
 . refine No rfl (show ¬((1:Nat):Int)<1 by decide) ?_
   exact Rt rfl (.tup (.cons (.sd (.pd (.rf rfl) (.own rfl (W0a 1) rfl))) Xa1)) ⟨z,w,rfl,hz,hw rfl⟩
end
open Go Go.Vm Go.Num Go.Tow Go.Proofs.YtfjafaehfjjaiaaGreatDoor
section
open Go.Proofs.YtfjafaehfjjaiaaGreatDoor.P55 (v0 W0 g0 gv0 zw Xlp Qp)
abbrev s0: Sn:=⟨nr 2,v0 (0,1),0⟩
def eV: Rat×Rat:=Xhr (pt 0) (Xbw (pt 2) rV)
theorem Ykh: Q2 1000 eV:=by
 have h:=Xny fct.2.2.2.2.1
 exact(Xl3 (s:=64) (s':=314) (p:=pt 0) (by decide +kernel) (Xch (s:=64) (p:=pt 2) (by decide +kernel) h)).mono (by decide)
theorem Xxw: C0 107 [.d (dAr n00 [s0]),.d (.int .i64 138)] (·=.tup (.pr (.d (dI eV)) (.d (.int .i64 0)))):=by
 have i:=Xny fct.2.2.2.2.1
 refine En Tryz.func107 λ_ _ _=>?_
 refine Ce rfl (Xfu (x:=((0:Int):Rat)) (bits:=138) (by decide +kernel) (by decide)) ?_
 refine Lo (λk:Nat=>[(1,.d (.int .i64 138)),(4,.ptr 4 0),(6,.ptr 6 0),(20,.d (dSs [s0])),(21,.d (.int .i64 1)),(22,.d (.int .i64 k))]) (λk=>[(4,.var zI),(6,.var (.d (dI (if k=0 then pt ((0:Int):Rat) else eV))))]) (λk=>k<=1) (λk=>1-k) 0 [] rfl (W0w _) λk j=>?_
 refine By rfl (λh=>?_) λh=>?_
 . have h:(k:Int)<1:=h
   obtain rfl:k=0:=by omega
   refine Ix 0 rfl (u:=dSe s0) rfl ?_
   refine Ce rfl Xsz ?_
   refine No rfl (by decide) ?_
   refine Dw rfl ?_
   refine Ce rfl (Xfu (x:=2) (bits:=138) (by decide +kernel) (by decide)) ?_
   refine Ce rfl (Xfl (s:=64) (p:=pt 2) (q:=rV) (by decide +kernel) i (by decide)) ?_
   refine Ce rfl (Xfm (s:=64) (p:=pt ((0:Int):Rat)) (by decide +kernel) (Xch (s:=64) (p:=pt 2) (by decide +kernel) i) (by decide)) ?_
   refine Ar (0+1:Nat) rfl ?_
   exact Bk (0+1) [] rfl (by decide) (by decide)
 . have h:¬(k:Int)<1:=h
   obtain rfl:k=1:=by omega
   exact R0t
theorem Yjx: ∀i,i<=130->Qs 200 (hp i):=λi hi=>Yjw i (by omega)
theorem Ynz: eV.2-eV.1<=hp 130:=by decide +kernel
theorem Xha: C0 59 [.d (dAr n00 [s0]),.d (.int .i64 130)] (·=.tup (.pr (.d (dI eV)) (.d (.int .i64 0)))):=by
 have hq:=Ykh
 refine En Tryz.func59 λ_ _ _=>?_
 refine No rfl (by decide) ?_
 refine No rfl (by decide) ?_
 refine Ce rfl (Xau (z:=1) (by decide)) ?_
 refine Lo (λi:Nat=>[(1,.d (.int .i64 130)),(2,.ptr 2 0),(4,.ptr 4 0),(6,.ptr 6 0),(18,.d (.int .i64 130)),(19,.d (.int .i64 i))]) (λi=>[(2,.var (.d (dAr n00 [s0]))),(4,.var zI),(6,.var (.d (dq (hp i))))]) (λi=>i<=130) (λi=>130-i) 0 [] rfl (W0w _) (λi hi=>?_)
 refine By rfl (λh=>?_) λh=>?_
 . refine Dw rfl ?_
   refine Ce rfl (Xcl (a:=1) (b:=2) (by decide) (by decide)) ?_
   refine Ce rfl (Xen (Yjx i hi) (Qs.divInt (p:=64) (by decide) (by decide) (by decide)) (by decide)) ?_
   refine Ar (i+1:Nat) rfl ?_
   exact Bk (i+1) [] rfl (show i+1<=130 by omega) (by show 130-(i+1)<130-i;omega)
 . obtain rfl:i=130:=by omega
   refine Ar (138:Nat) rfl ?_ (wr rfl (by simp only[inK];omega))
   refine Mm (138:Nat) rfl ?_ rfl
   refine Lo (λ_:Unit=>[(2,.ptr 2 0),(4,.ptr 4 0),(6,.ptr 6 0),(7,.d (.int .i64 138))]) (λ_=>[(2,.var (.d (dAr n00 [s0]))),(4,.var zI),(6,.var (.d (dq (hp 130))))]) (λ_=>True) (λ_=>0) () [] rfl trivial (λ_ _=>?_)
   refine Ce rfl Xxw ?_
   refine No rfl (by decide) ?_
   refine Dw rfl ?_
   refine Ce rfl (Xgf (p:=eV) hq (by decide)) ?_
   have j:Qs 2001 (eV.2-eV.1):=by rw[W6e];exact hq.2.add hq.1.neg
   refine Ce rfl (Xbv j (Yjx 130 (by decide)) (by decide)) ?_
   refine Yes rfl (by rw[Xlw];exact Rat.not_lt.2 Ynz) ?_
   exact R0t
def mV: Rat:=(eV.1+eV.2)*hf2
theorem Yja: Qs 1700 mV:=by decide +kernel
theorem Yi9: P11.RndOf (nr mV) 5 314159:=P11.rnd_at (by decide +kernel) (by decide +kernel)
theorem Yij: txt 314159 5=[51,46,49,52,49,53,57]:=P11.txt_at [51,49,52,49,53,57] rfl (Ypu.1 rfl)
theorem Xjf: C0 21 [.d (dAr n00 [s0]),.d (.int .i64 5)] (·=.tup (.pr (.d (.str [51,46,49,52,49,53,57])) (.d (.int .i64 0)))):=by
 have hq:=Ykh
 have h:=P11.Pk_rat Yja (by decide)
 have hf:C0 58 [.d (dN (nr mV)),.d (.int .i64 5)] (·=.tup (.pr (.d (.str [51,46,49,52,49,53,57])) (.d (.int .i64 0)))):=(P11.dFmt_ok h (by decide)).mono λv ⟨w,i,_,j⟩=>by
  obtain rfl:=Xdj.uniq h.re i Yi9
  rw[j,P11.fmtV,Yij,if_pos (by decide)]
 refine En Tryz.func21 λ_ _ _=>?_
 refine No rfl (by decide) ?_
 refine No rfl (by decide) ?_
 refine No rfl (by decide) ?_
 refine Ce rfl Xha ?_
 refine No rfl (by decide) ?_
 refine Ce rfl (Xd4 hq.1 hq.2 (by decide)) ?_
 refine Ce rfl (Xcl (a:=1) (b:=2) (by decide) (by decide)) ?_
 refine Ce rfl (Xen (p:=2001) (q:=64) (hq.1.add hq.2) Xq9 (by decide)) ?_
 refine Ce rfl (P9.FromRat_ok (q:=mV) Yja (by decide)) ?_
 refine Ce rfl hf ?_
 exact R0t
theorem Xjc{i j:Int}(hi:-9223372036854775808<=i/\i<9223372036854775808)(h:-9223372036854775808<=j/\j<9223372036854775808): C0 15 [.d (.int .i64 i),.d (.int .i64 j)] (·=.d (dV (v0 ((i:Rat),(j:Rat))))):=R13.Whole_ok hi h
theorem Of0: C0 17 [.d (dV (v0 (((1:Int):Rat),((0:Int):Rat)))),.d (dV (v0 (((0:Int):Rat),((1:Int):Rat))))] (·=.tup (.pr (.d (dT (v0 (0,1)) 0)) (.d (.int .i64 0)))):=(Ypw W0 (gv0 (s:=64) (by decide +kernel)) (gv0 (s:=64) (by decide +kernel)) (by decide)).mono λr i=>by
 rcases i with ⟨_,v,rfl,j⟩ | ⟨h,_⟩
 . exact(congrArg (λw=>AV.tup (.pr (.d (dT w 0)) (.d (.int .i64 0)))) (Xlp j)).trans (congrArg (λq:Rat×Rat=>AV.tup (.pr (.d (dT (v0 q) 0)) (.d (.int .i64 0)))) (W3i (by decide +kernel) (by decide +kernel)))
 . rcases h with h | h
   . exact absurd (congrArg Prod.fst h) (show ¬((1:Int):Rat)=0 by decide +kernel)
   . exact absurd (congrArg Prod.snd h) (show ¬((1:Int):Rat)=0 by decide +kernel)
theorem fl0: ¬((0:Int)=0/\Xcz (K:=0) () (((0:Rat),(1:Rat)):V2 0)):=λh=>absurd h.2.1 (show ¬Xji 1=0 by decide +kernel)
theorem Ygm: C0 18 [.d (dN (nr ((4:Int):Rat))),.d (dT (v0 (0,1)) 0)] (·=.tup (.pr (.d (dAr n00 [s0])) (.d (.int .i64 0)))):=(Xl6 W0 W0 (g0 (s:=64) (by decide +kernel)) (gv0 (s:=64) (by decide +kernel)) (by decide) (by decide)).mono λr i=>by
 rcases i with ⟨h,_⟩ | ⟨_,h,_⟩ | ⟨_,_,z,rfl,j⟩
 . exact absurd (show Xji ((4:Int):Rat)>0 by decide +kernel) h
 . exact absurd h fl0
 . rw[zw j.o,show Tow.mul 0 () ((4:Int):Rat) (Tow.rat 0 hf2)=(2:Rat) from(show ((4:Int):Rat)*hf2=2 by decide +kernel)]
def q0: List (Rat×Rat):=[(((0:Int):Rat),((0:Int):Rat)),(((3:Int):Rat),((0:Int):Rat)),(((3:Int):Rat),((2:Int):Rat)),(((0:Int):Rat),((2:Int):Rat))]
theorem Ym1: ∀p∈q0,Qp 64 p:=by decide +kernel
theorem Yaz: C0 20 [.d (dVs (q0.map v0))] (·=.tup (.pr (.d (dAr (nr 6) [])) (.d (.int .i64 0)))):=(Xjd (n:=1) (g:=λi=>q0.getD i (0,0)) W0 (λi v h=>by
 obtain⟨p,hp,rfl⟩:=W1q .. ▸ h |> Option.map_eq_some_iff.1
 rw[W2o,hp]
 exact gv0 (Ym1 p (W0h hp))) (by decide) (by decide) (by decide)).mono λr ⟨z,e,j⟩=>by
 rw[e,zw j.o]
 exact congrArg (λx=>AV.tup (.pr (.d (dAr (nr x) [])) (.d (.int .i64 0)))) (show (show Rat from Tow.mul 0 () (pgn (K:=0) () (λi=>q0.getD i (0,0)) 4) (Tow.rat 0 hf2))=6 by decide +kernel)
abbrev s1: Sn:=⟨nr 2,v0 (-1,0),0⟩
theorem vm1: Xb7 (K:=0) () (((0:Rat),(1:Rat)):V2 0) ((0:Rat),(1:Rat))=(((-1:Rat),(0:Rat)):V2 0):=W3i (by decide +kernel) (by decide +kernel)
theorem va1: Xec (K:=0) () (((0:Rat),(1:Rat)):V2 0) ((0:Rat),(1:Rat)) 0 0=0:=by decide +kernel
theorem Yqy: C0 7 [.d (dAr n00 [s0]),.d (dAr n00 [s0])] (·=.tup (.pr (.d (dAr n00 [s1])) (.d (.int .i64 0)))):=by
 have h0:Gd (K:=0) () ([]:List (Tow.El 0)) [] 1 n00 ((0:Int):Rat):=g0 (s:=64) (by decide +kernel)
 have i:Gd (K:=0) () ([]:List (Tow.El 0)) [] 1 (nr 2) (2:Rat):=g0 (s:=64) (by decide +kernel)
 have I:=gv0 (s:=64) (p:=(0,1)) (by decide +kernel)
 refine(Ylo W0 h0 h0 (by decide) (by decide) i i I I (by decide) (by decide) (f:=0) (g:=0) (lim.few (by decide)) (lim.few (by decide)) (Eq.mpr (congrArg lim va1) (by decide)) (λh=>absurd (show Xji (-1)>0 from(Eq.mp (congrArg (λp:V2 0=>Xcz (K:=0) () p) vm1) h.2).2) (by decide +kernel))).mono λr ⟨z,w,e,T,V⟩=>?_
 have j:=Eq.mp (congrArg (λp:V2 0=>Gv (K:=0) () ([]:List (Tow.El 0)) [] _ w p) vm1) V
 obtain rfl:=Xlp j
 obtain rfl:=zw T.o
 have F:∀ {q O:Rat} {f Q:Int},q=O->f=Q->AV.tup (.pr (.d (dAr (nr q) [⟨nr 2,v0 (-1,0),f⟩])) (.d (.int .i64 0)))=AV.tup (.pr (.d (dAr (nr O) [⟨nr 2,v0 (-1,0),Q⟩])) (.d (.int .i64 0))):=λZ i=>by rw[Z,i]
 exact e.trans (F (show ((0:Int):Rat)+((0:Int):Rat)=((0:Int):Rat) by decide +kernel) va1)
theorem Yoh: C0 23 [.d (dT (v0 (-1,0)) 0),.d (dT (v0 (((-1:Int):Rat),((0:Int):Rat))) 0)] (·=.b true):=by
 have j:=gv0 (s:=64) (p:=(-1,0)) (by decide +kernel)
 have o:=gv0 (s:=64) (p:=(((-1:Int):Rat),((0:Int):Rat))) (by decide +kernel)
 refine(R19.Same_g W0 j o (by decide)).mono λr I=>I.trans (congrArg AV.b (Xaj.2 ?_))
 have i:∀ {p:V2 0},p.1=(-1:Rat)->p≠vz 0:=λe h=>absurd (e.symm.trans (congrArg Prod.fst h)) (show ¬(-1:Rat)=0 by decide +kernel)
 exact⟨⟨i rfl,by decide⟩,⟨i (show ((-1:Int):Rat)=(-1:Rat) by decide +kernel),by decide⟩,by decide +kernel⟩
theorem Yar: C0 5 [] (·=.b true):=by
 refine En Tryz.func5 λ_ _ _=>?_
 refine Ce rfl (Xjc (i:=1) (j:=0) (by decide) (by decide)) ?_
 refine Ce rfl (Xjc (i:=0) (j:=1) (by decide) (by decide)) ?_
 refine Ce rfl Of0 ?_
 refine Dw rfl ?_
 refine Ce rfl (R9.FromInt_ok (z:=4) (by decide)) ?_
 refine Ce rfl Ygm ?_
 refine Ce rfl Yqy ?_
 refine Ce rfl (Xjc (i:=0) (j:=0) (by decide) (by decide)) ?_
 refine Ce rfl (Xjc (i:=3) (j:=0) (by decide) (by decide)) ?_
 refine Ce rfl (Xjc (i:=3) (j:=2) (by decide) (by decide)) ?_
 refine Ce rfl (Xjc (i:=0) (j:=2) (by decide) (by decide)) ?_
 refine Ce rfl Yaz ?_
 refine Ce rfl Xjf ?_
 refine No rfl (by decide) ?_
 refine No rfl (by decide) ?_
 refine No rfl (by decide) ?_
 refine No rfl (by decide) ?_
 refine No rfl (by decide) ?_
 refine No rfl (by decide) ?_
 refine Dw rfl ?_
 refine Ce rfl (R9.FromInt_ok (z:=6) (by decide)) ?_
 refine Ce rfl ((R9.Equal_g W0 (g0 (s:=64) (q:=6) (by decide +kernel)) (g0 (s:=64) (q:=((6:Int):Rat)) (by decide +kernel)) (by decide) (by decide)).mono λr h=>h.trans (congrArg AV.b (Xaj.2 (show (6:Rat)=((6:Int):Rat) by decide +kernel)))) ?_
 refine Yes rfl rfl ?_
 refine Yes rfl (by decide) ?_
 refine Yes rfl (by decide) ?_
 refine Ix 0 rfl (u:=dSe s1) rfl ?_
 refine Ce rfl (R9.FromInt_ok (z:=2) (by decide)) ?_
 refine Ce rfl ((R9.Equal_g W0 (g0 (s:=64) (q:=2) (by decide +kernel)) (g0 (s:=64) (q:=((2:Int):Rat)) (by decide +kernel)) (by decide) (by decide)).mono λr h=>h.trans (congrArg AV.b (Xaj.2 (show (2:Rat)=((2:Int):Rat) by decide +kernel)))) ?_
 refine Yes rfl rfl ?_
 refine Ix 0 rfl (u:=dSe s1) rfl ?_
 refine Ce rfl (Xjc (i:=-1) (j:=0) (by decide) (by decide)) ?_
 refine Ce rfl Yoh ?_
 exact R0
end
section
open Go.Proofs.YtfjafaehfjjaiaaGreatDoor.P55 (v0 W0 g0 gv0 zw Xlp Qp)
theorem Xg5{x y:Nm}{l h:List Sn}(i:C0 34 [.d (dAr x l)] (·=.b true))(j:C0 13 [.d (dAr x l),.d (dAr y h)] (·=.b true)): C0 10 [.d (dAr x l),.d (dAr y h)] (·=.b true):=by
 refine En Tryz.func10 λ_ _ _=>?_
 refine Ce rfl i ?_
 refine Yes rfl rfl ?_
 refine Ce rfl j ?_
 exact R0
section
variable{K:Nat}{G:Tw K}{S:List (Tow.El K)}{N:List Nm}{n m k:Nat}{x y z:Nm}{a b:Tow.El K}
variable{K':Nat}{G':Tw K'}{S':List (Tow.El K')}{N':List Nm}{u s:Vn}{p q:V2 K'}{f g:Int}
theorem Yoi(W:Wn G S N)(W':Wn G' S' N')(j:Gd G S N n z b)(hb:sgn K G b=1)(h:Gv G' S' N' m u p)(hp:p≠vz K')(hf:lim f)(h0:¬(f=0/\Xcz G' p))(o:n<=800)(i:m<=800): R20.SOk ⟨z,u,f⟩ where
 vc:=R9.Valid_g W j o
 vd:=R13.Valid_g W' h i
 tv:=(R19.Valid_g W' h i).mono λv e=>e.trans (congrArg AV.b (Xaj.2 ⟨hp,hf⟩))
 tz:=(R20.Zero_g W' h i).mono λv e=>e.trans (congrArg AV.b (P11.dcF h0))
 sc:=(R9.Sign_g W j o).mono λv e=>by rw[e,hb]
theorem Yi1(W:Wn G S N): Gd G S N 1 n00 (Tow.rat K ((0:Int):Rat)):=Gd.rat W (by decide +kernel)
end
end
section
open Go.Proofs.YtfjafaehfjjaiaaGreatDoor.P55 (v0 W0 g0 gv0 zw Xlp Qp)
section
variable{K:Nat}{G:Tw K}{S:List (Tow.El K)}{N:List Nm}{n m k:Nat}{x y z c c':Nm}{a b e:Tow.El K}{u v w s t:Vn}{p q r:V2 K}{f g:Int}
end
end
end Go.Proofs.YtfjafaehfjjaiaaGreatDoor.P20
namespace Go.Proofs.YtfjafaehfjjaiaaGreatDoor.R20
open Go Go.Vm Go.Num Go.Tow Go.Proofs.YtfjafaehfjjaiaaGreatDoor Go.Proofs.YtfjafaehfjjaiaaGreatDoor.P20
def SG{K:Nat}(G:Tw K)(S:List (Tow.El K))(N:List Nm)(U:Nat)(s:Sn): Prop:=(∃a,Gd G S N 9 s.c a)/\(∃p,Gv G S N U s.v p)/\few s.f
def ptV: Option (List Sn)->AV
 | none=>.lit 7 []
 | some w=>.own 600 7 0 (w.map dSe).length
def ptH: Option (List Sn)->Hpl
 | none=>[]
 | some w=>[(600,.arr 7 (w.map dSe))]
def ptW: Option (List Sn)->List Sn
 | none=>[]
 | some w=>w
section
variable{K:Nat}{G:Tw K}{S:List (Tow.El K)}{N:List Nm}{U:Nat}
def PtG(G:Tw K)(S:List (Tow.El K))(N:List Nm)(U n:Nat)(r:AV): Prop:=(∃e:Int,e≠0/\r=.tup (.pr (.d (dSs [])) (.d (.int .i64 e))))\/∃l,r=.tup (.pr (.d (dSs l)) (.d (.int .i64 0)))/\l.length<=n/\∀s∈l,SG G S N U s
theorem Xcv(l:List Sn): (l.map dSe).length=l.length:=W0i ..
variable{n m:Nat}{x y z:Nm}{a b:Tow.El K}
end
abbrev dCb(h:List RO)(at':List (Fin 256))(ts:List Int): D:=.st (.pr (dPl h at') (.sl 1 (ts.map λz=>.int .i64 z)))
abbrev dAa(a b:List D)(L:List Sn): D:=.st (.pr (.st (.pr (.sl 1 a) (.sl 4 b))) (dSs L))
theorem Ydo{ts:List Int}{k:Nat}{z:Int}(h:ts[k]?=some z): (ts.map λz=>(D.int .i64 z:D))[k]?=some (.int .i64 z):=by rw[W1q,h];rfl
end Go.Proofs.YtfjafaehfjjaiaaGreatDoor.R20
namespace Go.Proofs.YtfjafaehfjjaiaaGreatDoor
open Go Go.Vm Go.Num
theorem Xsa{t:TypeId}(o:Tryz.prog.underlying t=some (.slice 3)): Reads Tryz.prog t λd=>∃ts:List Int,d=.sl 1 (ts.map λz=>.int .i64 z)/\ts.length<9223372036854775808/\∀z∈ts,-9223372036854775808<=z/\z<9223372036854775808 :=
 (Xfi o (Xun Tryz.underlying3) (sz:=1) (by kernel_rfl) (by decide)).mono λd ⟨l,e,i,h⟩=>by
  obtain⟨m,j⟩:=Ynf (f:=λn:{n:Int // -9223372036854775808<=n/\n<9223372036854775808}=>(D.int .i64 n.val:D)) λy I=>let ⟨n,e,O,Q⟩:=h y I;⟨⟨n,O,Q⟩,e⟩
  refine⟨m.map (·.val),by rw[e,j,List.map_map];rfl,by rw[W0i];rw[j,W0i] at i;exact i,λz T=>?_⟩
  obtain⟨x,_,rfl⟩:=W2l.1 T
  exact x.2
theorem Xza: Reads Tryz.prog 29 λd=>∃h l ts,d=R20.dCb h l ts/\ts.length<9223372036854775808/\∀z∈ts,-9223372036854775808<=z/\z<9223372036854775808 :=
 (Xel Tryz.underlying29 (.cons (n:=2) rfl Xsb (by kernel_rfl) (.one rfl (Xsa Tryz.underlying27))) (λf hf=>by cases hf;kernel_rfl)).mono λd hd=>by
  obtain⟨_,rfl,_,_,rfl,⟨h,l,rfl⟩,⟨ts,rfl,i,j⟩⟩:=hd
  exact⟨h,l,ts,rfl,i,j⟩
theorem Yda: Arg Tryz.prog 29 λd=>∃h l ts,d=R20.dCb h l ts/\ts.length<9223372036854775808/\∀z∈ts,-9223372036854775808<=z/\z<9223372036854775808:=Xsv Tryz.underlying29 Xza λx ⟨_,_,_,e,_⟩=>by rw[e];rfl
end Go.Proofs.YtfjafaehfjjaiaaGreatDoor
namespace Go.Vm
open Go
section
variable{c:Cx}{s:St}{p:Pl}
noncomputable def Yo2(tb:Nat->Option TI)(n:Nat)(s:St): Option (Pl×Oper×TypeId×TI×Operand×Operand×Operand×Operand×Nat×Nat×Nat×Nat×Int×Int×Int):=match nxO tb n s with
 | some (p,o)=>match o.op,p.dr with
  | .slice T x (some lo) (some hi) (some h),false=>match Xbt (look p.E) x,Xbt (look p.E) lo,Xbt (look p.E) hi,Xbt (look p.E) h,tb T with
   | some (.own q sz l m),some (.d (.int _ i)),some (.d (.int _ j)),some (.d (.int _ k)),some I=>match I.z with
    | .sl _ _=>some (p,o,T,I,x,lo,hi,h,q,sz,l,m,i,j,k)
    | _=>none
   | _,_,_,_,_=>none
  | _,_=>none
 | none=>none
theorem Sx(i j k:Nat){o:Oper}{T:TypeId}{ti:TI}{x lo hi mx:Operand}{q sz l m:Nat}{i' j' k':Int}(h:Yo2 c.tb c.n s=some (p,o,T,ti,x,lo,hi,mx,q,sz,l,m,i',j',k'))(h1:i<=j)(h2:j<=k)(h3:k<=m)(kk:p.nx c .an)
 (e1:i'=(i:Int):=by first | exact rfl | omega) (e2:j'=(j:Int):=by first | exact rfl | omega) (e3:k'=(k:Int):=by first | exact rfl | omega):StP c s:=by
 subst e1;subst e2;subst e3
 unfold Yo2 at h
 split at h<;>try cases h
 rename_i p' o' ho
 split at h<;>try cases h
 rename_i T' x' lo' hi' mx' I Q
 split at h<;>try cases h
 rename_i ti' hx hl hh hm V
 split at h<;>cases h
 rename_i s0 ys0 hz
 refine Xhq (us:=[]) ho (by unfold Xal;rw[I];rfl) Q (λN W θ ρ _ hO hN hB O=>?_) (Pl.nx_nil kk)
 obtain⟨hk,_⟩:=c.hT _ _ V
 obtain⟨t,u1,_,u3⟩:=hk.u
 rw[hz] at u3
 obtain⟨E,e',hsz,hez,ii,v0,i1,i2,_⟩:=u3
 subst e'
 obtain⟨b,pp,f1,f2,f3,e,f5⟩:=Xea (O _ _ hx)
 obtain⟨g1,_⟩:=Xcf (O _ _ hl)
 obtain⟨g2,_⟩:=Xcf (O _ _ hh)
 obtain⟨g3,_⟩:=Xcf (O _ _ hm)
 have Z:∃r,(execOp ρ o).run c.P W.w=.ok (.value (.slice r (j-i) (k-i))) W.w:=by
  have hc:k<=(θ q).2-l:=by omega
  refine⟨if k=i then pp else pp.map (·.add (i*ii.size)),?_⟩
  simp only[execOp,I,W3g]
  simp[e,g1,g2,g3,Instr.sliceAt,Instr.slice,Instr.sliceBounds,Instr.sliceBound,asIntOf,sizeOf,typeInfo,underlying,program,bind,Sem.bind,Sem.run,pure,u1,i1,h1,h2,hc]
 obtain⟨r,Z⟩:=Z
 exact .val (u:=.slice r (j-i) (k-i)) hO Z ⟨_,⟨_,_,_,rfl⟩,rfl⟩ (λ_ h=>h.elim)
noncomputable def Yo1(tb:Nat->Option TI)(n:Nat)(s:St): Option (Pl×Oper×TypeId×TI×Operand×Operand×Operand×Nat×Nat×Nat×Nat×List D×Int×Int):=match nxO tb n s with
 | some (p,o)=>match o.op,p.dr with
  | .slice T x (some lo) (some hi) none,false=>match Xbt (look p.E) x,Xbt (look p.E) lo,Xbt (look p.E) hi,tb T with
   | some (.own q sz l m),some (.d (.int _ i)),some (.d (.int _ j)),some h=>match h.z,look p.H q,Nat.beq sz h.e.size with
    | .sl _ _,some (.arr s1 xs),true=>match Nat.beq s1 sz with
     | true=>some (p,o,T,h,x,lo,hi,q,sz,l,m,xs,i,j)
     | false=>none
    | _,_,_=>none
   | _,_,_,_=>none
  | _,_=>none
 | none=>none
theorem Sy(i j:Nat){o:Oper}{T:TypeId}{ti:TI}{x lo hi:Operand}{q sz l m:Nat}{xs:List D}{i' j':Int}(h:Yo1 c.tb c.n s=some (p,o,T,ti,x,lo,hi,q,sz,l,m,xs,i',j'))(h1:i<=j)(h2:l+j<=xs.length)(kk:p.nx c (.own q sz (l+i) (j-i)))
 (Q:i'=(i:Int):=by first | exact rfl | omega) (V:j'=(j:Int):=by first | exact rfl | omega):StP c s:=by
 subst Q;subst V
 unfold Yo1 at h
 split at h<;>try cases h
 rename_i p' o' ho
 split at h<;>try cases h
 rename_i T' x' lo' hi' I Z
 split at h<;>try cases h
 rename_i ti' hx hl hh hti
 split at h<;>try cases h
 rename_i s0 ys0 s1 xs1 hz hH hb1
 split at h<;>cases h
 rename_i hb2
 have Q:=W0d hb1
 have V:=W0d hb2
 subst V
 refine Xhq (us:=[]) ho (by unfold Xal;rw[I];rfl) Z (λN W θ ρ _ hO hN hB hv=>?_) (Pl.nx_nil kk)
 obtain⟨hk,_⟩:=c.hT _ _ hti
 obtain⟨t,u1,_,u3⟩:=hk.u
 rw[hz] at u3
 obtain⟨E,e,hsz,hez,ii,v0,i1,i2,_⟩:=u3
 subst e
 obtain⟨b,O,f1,f2,f3,ex,f5⟩:=Xea (hv _ _ hx)
 obtain⟨b',cs,T1,r1,r2,r3,r4,r5,r6,r7⟩:=hO.r _ _ hH
 obtain⟨g1,_⟩:=Xcf (hv _ _ hl)
 obtain⟨g2,_⟩:=Xcf (hv _ _ hh)
 have hr:=Xua (P:=c.P) (w:=W.w) u1 i1 i2 ex (lo:=some (ρ lo)) (hi':=some (ρ hi)) (l:=i) (h:=j) (.inr ⟨_,by rw[g1]⟩) (.inr ⟨_,by rw[g2]⟩) h1 (by omega)
 have hg:(sem p.E p.H).2 q=some (.arr s1 xs):=hH
 refine .val (u:=.slice (if (θ q).2-l=i then O else O.map (·.add (i*ti.e.size))) (j-i) ((θ q).2-l-i)) hO ?_ ⟨[.slice (if (θ q).2-l=i then O else O.map (·.add (i*ti.e.size))) (j-i) ((θ q).2-l-i)],⟨b,_,f1,by omega,f3,by rw[show (θ q).2-l-i=(θ q).2-(l+i) by omega],λhh=>?_⟩,rfl⟩ (λi hi=>by subst hi;exact⟨_,hg⟩)
 . simp only[execOp,I,W3g,Option.map_none]
   rw[Sem.run_bind,hr];rfl
 . by_cases hc:(θ q).2-l=i
   . rw[if_pos hc]
     rcases hh with h0 | h0
     . have:i=0:=by omega
       subst this
       rw[W2i]
       exact f5 (.inl (by omega))
     . omega
   . rw[if_neg hc,f5 (by omega)]
     simp only[W3g,add0,Q]
     rw[W1c]
noncomputable def Yph(tb:Nat->Option TI)(n:Nat)(s:St): Option (Pl×Oper×Operand×TypeId×TI×Nat×Nat×Nat×Nat×List D):=match nxO tb n s with
 | some (p,o)=>match o.op,p.dr with
  | .call ⟨.builtin .clear,⟨[x]⟩,⟨[T]⟩⟩,false=>match Xbt (look p.E) x,tb T with
   | some (.own q sz l m),some h=>match look p.H q,h.z with
    | some (.arr s1 xs),.sl s2 _=>match Nat.beq s1 sz&&Nat.beq s2 sz with
     | true=>some (p,o,x,T,h,q,sz,l,m,xs)
     | false=>none
    | _,_=>none
   | _,_=>none
  | _,_=>none
 | none=>none
theorem Cl{o:Oper}{x:Operand}{T:TypeId}{ti:TI}{q sz l m:Nat}{xs:List D}(h:Yph c.tb c.n s=some (p,o,x,T,ti,q,sz,l,m,xs))(hl:l+m<=xs.length)(hm:0<m)(k:p.nx' c (.tup .un) [(q,.arr sz (xs.take l++List.replicate m ti.e++xs.drop (l+m)))]): StP c s:=by
 unfold Yph at h
 split at h<;>try cases h
 rename_i p' o' ho
 split at h<;>try cases h
 rename_i x' T' hop hdr
 split at h<;>try cases h
 rename_i ti' Q hti
 split at h<;>try cases h
 rename_i s1 xs' s2 xs0 hH hz
 split at h<;>cases h
 rename_i hb
 rw[W0g] at hb
 have e1:=W0d hb.1
 have e2:=W0d hb.2
 subst e1;subst e2
 refine Xhq ho (by unfold Xal;rw[hop];rfl) hdr (λN W θ ρ _ hO hN hB hv=>?_) k
 obtain⟨hk,_⟩:=c.hT _ _ hti
 obtain⟨t,u1,_,u3⟩:=hk.u
 rw[hz] at u3
 obtain⟨E,e,V,hez,ii,v0,i1,i2,i3,i4,i5⟩:=u3
 subst e
 obtain⟨b,pp,h1,hxc,hc63,ex,hp5⟩:=Xea (hv _ _ Q)
 have hg:(sem p.E p.H).2 q=some (.arr s2 xs):=hH
 obtain⟨b',cs,T',r1,h2,h3,r4,r5,r6,r7⟩:=hO.r _ _ hg
 rw[h1] at r1;injection r1 with r1;subst r1
 have hpb:=hp5 (by omega)
 have I:ti.e.zc.length=s2:=by rw[D.zc_len,V]
 have hpos:0<s2:=by rw[V];exact D.size_pos _
 have O:=Xkr ti.e.zc m (by omega) v0.cells i5
 rw[I] at O
 have hnl:(Xgz ti.e.zc m).length=m*s2:=by rw[Xd2,I]
 have hfit:l*s2+(Xgz ti.e.zc m).length<=cs.length:=by
  rw[hnl,h3,<-W1c];exact W0k _ (by omega)
 have hone:∀u∈Xgz ti.e.zc m,Xfb u=true:=by
  have:∀k,∀u∈Xgz ti.e.zc k,Xfb u=true:=λk=>by
   induction k with
   | zero=>intro u hu;cases hu
   | succ k ih =>
    intro u hu
    rcases W1r.1 hu with h | h
    . exact D.at_one ti.e (D.at_zc (W:=W) _ hez) u h
    . exact ih u h
  exact this m
 have hst:=Xbz (P:=c.P) (off:=l*s2) (Xgz ti.e.zc m) W.w 0 cs h2 (by omega) hone
 rw[W2i] at hst
 have hv0:v0.cells.size=s2:=by rw[V,<-D.zc_len,<-i5];simp
 have hzc:(Builtin.zeroCells v0.cells m).toList=Xgz ti.e.zc m:=by
  have:Builtin.zeroCells v0.cells m=(Xgz ti.e.zc m).toArray:=by
   unfold Builtin.zeroCells
   rw[hv0] at O |-;exact O
  rw[this]
 have hrun:(execOp ρ o).run c.P W.w=.ok (.value (.tuple #[])) (Xgx W.w b (.cells (spl cs (l*s2) (Xgz ti.e.zc m)).toArray T' (0,0))):=by
  have h1:execOp ρ o=(Builtin.clear_ #[T] o.type #[ρ x] >>= λv=>pure (.value v)):=by
   simp[execOp,hop,resolve,invoke,builtin]
  have h2:(Builtin.clear_ #[T] o.type #[ρ x]).run c.P W.w=.ok (.tuple #[]) (Xgx W.w b (.cells (spl cs (l*s2) (Xgz ti.e.zc m)).toArray T' (0,0))):=by
   rw[ex,hpb]
   obtain⟨m',rfl⟩:∃m',m=m'+1:=⟨m-1,by omega⟩
   simp[Builtin.clear_,run_underlying u1,zeroValue,typeInfo,i1,i4,hzc,hst]
  rw[h1,Sem.run_bind,h2];rfl
 have hsp:∀q,(spl cs (l*s2) (Xgz ti.e.zc m))[q]?=if l*s2<=q/\q<l*s2+(Xgz ti.e.zc m).length then (Xgz ti.e.zc m)[q-l*s2]? else cs[q]?:=λq=>Xd0 _ _ _ _ hfit
 have hs':∀i v,¬W.A b i->cs[i]?=some v->(spl cs (l*s2) (Xgz ti.e.zc m))[i]?=some v:=λi v hA hv=>absurd (r7 i) hA
 have hle:=Xfc W b cs (spl cs (l*s2) (Xgz ti.e.zc m)) T' (λ_=>True) h2 hs'
 have hnw:(xs.take l++List.replicate m ti.e++xs.drop (l+m)).length=xs.length:=by
  rw[W0c,W0c,W0f,W1k,W1n];omega
 refine⟨_,θ,_,hrun,Stp.put hO (t:=q) (x:=.arr s2 (xs.take l++List.replicate m ti.e++xs.drop (l+m))) (B:=λ_=>True) hg rfl h1 h2 hs' (θ':=θ) (λ_ _ _=>rfl) (λ_ _=>rfl) h1 (λi z hz=>?_) (λi z hz=>?_)
  ⟨b,_,T',h1,Xaw _ _ _ (Xax h2),by rw[Xcg];exact h3,r4,by rw[hnw];exact r5,λi x Q=>?_,λi=>⟨r7 i,λ_=>trivial⟩⟩ (λi hi=>hi.elim),.inr ⟨_,rfl,[],rfl,trivial⟩,λi hi=>hi.elim⟩
 . rcases Xaf hz with ⟨f1,f2⟩ | ⟨f1,f2⟩
   . exact .inl ⟨f1,f2⟩
   . exact .inr (.inr ⟨f2,f1⟩)
 . by_cases hio:i=q
   . subst hio;exact⟨_,Xah _ _ _⟩
   . exact⟨z,(Xak hio).trans hz⟩
 . have hi:=Xba Q
   rw[hnw] at hi
   by_cases ha':i<l
   . rw[W0r (by rw[W0c,W0f];omega),W0r (by rw[W0f];omega),W1d,if_pos ha'] at Q
     obtain⟨e1,e2,e3,e4⟩:=r6 i x Q
     refine⟨e1,D.mono hle _ e2,e3,λj v hj=>?_⟩
     have Z:=Xba hj
     rw[D.at_len x e2,e3] at Z
     have:i*s2+s2<=l*s2:=by rw[<-W2k];exact W0k _ ha'
     rw[hsp,if_neg (by omega)]
     exact e4 j v hj
   . by_cases hb':i<l+m
     . rw[W0r (by rw[W0c,W0f,W1n];omega),W0s (by rw[W0f];omega),W0f,show min l xs.length=l by omega,W4h,if_pos (by omega)] at Q
       cases Q
       refine⟨ti.e.zc,D.at_zc _ hez,V.symm,λj v hj=>?_⟩
       have Z:=Xba hj
       rw[I] at Z
       have m1:l*s2<=i*s2:=W0k _ (by omega)
       have m2:i*s2+s2<=l*s2+m*s2:=by rw[<-W2k,<-W1c];exact W0k _ (by omega)
       rw[hsp,if_pos (by rw[hnl];omega),show i*s2+j-l*s2=(i-l)*s2+j by rw[W1h (i-l),Nat.mul_sub,W1h s2 i,W1h s2 l];omega]
       have:=Xk9 ti.e.zc m (i-l) j (by omega) (by rw[I];exact Z)
       rw[I] at this
       rw[this];exact hj
     . rw[W0s (by rw[W0c,W0f,W1n];omega),W0c,W0f,W1n,show min l xs.length=l by omega,W1v,show l+m+(i-(l+m))=i by omega] at Q
       obtain⟨e1,e2,e3,e4⟩:=r6 i x Q
       refine⟨e1,D.mono hle _ e2,e3,λj v hj=>?_⟩
       have m2:l*s2+m*s2<=i*s2:=by rw[<-W1c];exact W0k _ (by omega)
       rw[hsp,if_neg (by rw[hnl];omega)]
       exact e4 j v hj
end
section
variable{c:Cx}{s:St}{p:Pl}
end
end Go.Vm
namespace Go.Proofs.YtfjafaehfjjaiaaGreatDoor.P9
open Go Go.Vm Go.Num Go.Tow Go.Proofs.YtfjafaehfjjaiaaGreatDoor
open Go Go.Vm Go.Num Go.Tow Go.Proofs.YtfjafaehfjjaiaaGreatDoor
section
variable{K:Nat}{G:Tw K}{S:List (Tow.El K)}{r p:Nat}{x:Nm}{v:Tow.El K}
end
end Go.Proofs.YtfjafaehfjjaiaaGreatDoor.P9
namespace Go.Proofs.YtfjafaehfjjaiaaGreatDoor.P19
open Go Go.Vm Go.Num Go.Tow Go.Proofs.YtfjafaehfjjaiaaGreatDoor
section
variable{K:Nat}{G:Tw K}{S:List (Tow.El K)}{N:List Nm}{n m:Nat}{x:Nm}{a:Tow.El K}{u s:Vn}{p q:V2 K}{f g:Int}
end
end Go.Proofs.YtfjafaehfjjaiaaGreatDoor.P19
namespace Go.Tow
open Go Go.Proofs.YtfjafaehfjjaiaaGreatDoor Go.Num
section
section
variable{K:Nat}{G:Tw K}{p q u:V2 K}{a b c:El K}{f g:Int}
def clt(G:Tw K)(a b:El K): Prop:=sgn K G (add K a (neg K b))<0
theorem Xly(hG:red K G)(h:0<sgn K G (add K a (neg K b))): clt G b a:=by
 have Sg:=Xaq (Xad hG)
 have L:=Xay K G
 have e:add K b (neg K a)=neg K (add K a (neg K b)):=(Laws.req L [a,b] (.add (.v 1) (.neg (.v 0))) (.neg (.add (.v 0) (.neg (.v 1)))) (by decide +kernel))
 unfold clt
 rw[e,Sg.sn]
 omega
theorem Xc9(hG:red K G)(j:clt G a b)(o:clt G b c): clt G a c:=by
 have Sg:=Xaq (Xad hG)
 have L:=Xay K G
 have h:∀ {x y:El K},clt G x y->sgn K G (add K y (neg K x))=1:=λ{x y} I=>by
  have e:add K y (neg K x)=neg K (add K x (neg K y)):=(Laws.req L [x,y] (.add (.v 1) (.neg (.v 0))) (.neg (.add (.v 0) (.neg (.v 1)))) (by decide +kernel))
  have t:=Sg.tri (add K x (neg K y))
  unfold clt at I
  rw[e,Sg.sn]
  omega
 have e:add K c (neg K a)=add K (add K c (neg K b)) (add K b (neg K a)):=(Laws.req L [a,b,c] (.add (.v 2) (.neg (.v 0))) (.add (.add (.v 2) (.neg (.v 1))) (.add (.v 1) (.neg (.v 0)))) (by decide +kernel))
 have i:=Sg.sp _ _ (h o) (by rw[h j];decide)
 rw[<-e] at i
 exact Xly hG (by rw[i];decide)
theorem Yc8(hG:red K G)(h:sgn K G (add K a (neg K b))=0): a=b:=by
 have L:=Xay K G
 have h:=(Xbe hG).1 h
 have e:a=add K (add K a (neg K b)) b:=(Laws.req L [a,b] (.v 0) (.add (.add (.v 0) (.neg (.v 1))) (.v 1)) (by decide +kernel))
 rw[e,h,L.za]
theorem Yku(h:clt G a b): sgn K G (add K a (neg K b))=-1:=by
 have:=Xb1 G (add K a (neg K b))
 unfold clt at h
 omega
end
end
section
abbrev Tr(K:Nat):=El K×V2 K×Int
section
variable{K:Nat}{G:Tw K}{s t z:Tr K}{l m X Y A B:List (Tr K)}{a b c:El K}
def tz(G:Tw K)(t:Tr K): Prop:=t.2.2=0/\Xcz G t.2.1
def Xgw(G:Tw K)(s t:Tr K): Tr K:=(t.1,Xb7 G s.2.1 t.2.1,Xec G s.2.1 t.2.1 s.2.2 t.2.2)
open Classical in
noncomputable def Xe4(G:Tw K)(t:Tr K): List (Tr K)->List (Tr K)
 | []=>[t]
 | s::l=>if clt G s.1 t.1 then s::Xe4 G t l else if s.1=t.1 then (if tz G (Xgw G s t) then l else Xgw G s t::l) else t::s::l
noncomputable def mgV(G:Tw K)(X Y:List (Tr K)): List (Tr K):=Y.foldl (λl t=>Xe4 G t l) X
abbrev Srt(G:Tw K)(l:List (Tr K)): Prop:=l.Pairwise λs t=>clt G s.1 t.1
theorem Xlx(hG:red K G): ¬clt G a a:=λh=>by
 unfold clt at h
 rw[(Xay K G).an,(Xbe hG).2 rfl] at h
 cases h
theorem Xxk(hG:red K G)(h:clt G a b): a≠b:=λe=>by subst e;exact Xlx hG h
theorem Xrr(hG:red K G)(h:¬clt G a b)(i:a≠b): clt G b a:=by
 refine Xly hG ?_
 have j:sgn K G (add K a (neg K b))≠0:=λe=>i (Yc8 hG e)
 unfold clt at h
 omega
open Classical in
theorem Xmy(h:∀z∈A,clt G z.1 t.1): Xe4 G t (A++B)=A++Xe4 G t B:=by
 induction A with
 | nil=>rfl
 | cons s A i =>
  show (if clt G s.1 t.1 then s::Xe4 G t (A++B) else _)=_
  rw[if_pos (h s (W0l ..)),i λz j=>h z (W0o _ j)]
  rfl
open Classical in
theorem Xmz(hG:red K G)(h:s.1=t.1)(h0:¬tz G (Xgw G s t)): Xe4 G t (s::B)=Xgw G s t::B:=by
 show (if clt G s.1 t.1 then _ else if s.1=t.1 then _ else _)=_
 rw[if_neg (by rw[h];exact Xlx hG),if_pos h,if_neg h0]
open Classical in
theorem Xj8(hG:red K G)(h:s.1=t.1)(h0:tz G (Xgw G s t)): Xe4 G t (s::B)=B:=by
 show (if clt G s.1 t.1 then _ else if s.1=t.1 then _ else _)=_
 rw[if_neg (by rw[h];exact Xlx hG),if_pos h,if_pos h0]
open Classical in
theorem Xv5(hG:red K G)(h:∀s∈B,clt G t.1 s.1): Xe4 G t B=t::B:=by
 rcases B with _ | ⟨s,B⟩
 . rfl
 . have i:=h s (W0l ..)
   show (if clt G s.1 t.1 then _ else if s.1=t.1 then _ else _)=_
   rw[if_neg λe=>Xlx hG (Xc9 hG i e),if_neg λe=>Xxk hG i e.symm]
open Classical in
theorem Xvl(h:z∈Xe4 G t l): z∈l\/z=t\/∃s∈l,s.1=t.1/\z=Xgw G s t/\¬tz G z:=by
 induction l with
 | nil=>exact .inr (.inl (W0j.1 h))
 | cons s l i =>
  have h:z∈(if clt G s.1 t.1 then s::Xe4 G t l else if s.1=t.1 then (if tz G (Xgw G s t) then l else Xgw G s t::l) else t::s::l):=h
  split at h
  . rcases W1i.1 h with rfl | h
    . exact .inl (W0l ..)
    . rcases i h with h | h | ⟨u,j,o⟩
      . exact .inl (W0o _ h)
      . exact .inr (.inl h)
      . exact .inr (.inr ⟨u,W0o _ j,o⟩)
  . split at h
    . rename_i I
      split at h
      . exact .inl (W0o _ h)
      . rename_i O
        rcases W1i.1 h with rfl | h
        . exact .inr (.inr ⟨s,W0l ..,I,rfl,O⟩)
        . exact .inl (W0o _ h)
    . rcases W1i.1 h with h | h
      . exact .inr (.inl h)
      . exact .inl h
theorem Yfa(h:z∈Xe4 G t l): z.1=t.1\/∃s∈l,z.1=s.1:=by
 rcases Xvl h with h | h | ⟨s,j,o,i,_⟩
 . exact .inr ⟨z,h,rfl⟩
 . exact .inl (by rw[h])
 . exact .inl (by rw[i];rfl)
open Classical in
theorem Xtu(hG:red K G)(Q:Srt G l): Srt G (Xe4 G t l):=by
 induction l with
 | nil=>exact List.pairwise_singleton _ _
 | cons s l T =>
  obtain⟨j,o⟩:=W3e.1 Q
  show Srt G (if clt G s.1 t.1 then s::Xe4 G t l else if s.1=t.1 then (if tz G (Xgw G s t) then l else Xgw G s t::l) else t::s::l)
  split
  . rename_i I
    refine W3e.2 ⟨λz h=>?_,T o⟩
    rcases Yfa h with e | ⟨u,V,e⟩
    . rw[e];exact I
    . rw[e];exact j u V
  . rename_i I
    split
    . rename_i O
      split
      . exact o
      . exact W3e.2 ⟨λz h=>by show clt G t.1 z.1;rw[<-O];exact j z h,o⟩
    . rename_i O
      have i:=Xrr hG I O
      refine W3e.2 ⟨λz h=>?_,Q⟩
      rcases W1i.1 h with rfl | h
      . exact i
      . exact Xc9 hG i (j z h)
open Classical in
noncomputable def lk(a:El K): List (Tr K)->Option (Tr K)
 | []=>none
 | s::l=>if s.1=a then some s else lk a l
open Classical in
theorem Xbi: lk a (s::l)=if s.1=a then some s else lk a l:=rfl
open Classical in
theorem Xot(hG:red K G)(h:∀s∈l,clt G a s.1): lk a l=none:=by
 induction l with
 | nil=>rfl
 | cons s l i =>
  rw[Xbi,if_neg λe=>Xxk hG (h s (W0l ..)) e.symm]
  exact i λz j=>h z (W0o _ j)
open Classical in
theorem Yco(h:lk a l=some s): s∈l/\s.1=a:=by
 induction l with
 | nil=>cases h
 | cons u l i =>
  rw[Xbi] at h
  split at h
  . cases h;exact⟨W0l ..,‹_›⟩
  . obtain⟨j,o⟩:=i h
    exact⟨W0o _ j,o⟩
open Classical in
noncomputable def ent(G:Tw K): Option (Tr K)->Option (Tr K)->Option (Tr K)
 | x,none=>x
 | none,some t=>some t
 | some s,some t=>if tz G (Xgw G s t) then none else some (Xgw G s t)
open Classical in
theorem Yjd(hG:red K G)(V:Srt G l): lk a (Xe4 G t l)=if a=t.1 then ent G (lk a l) (some t) else lk a l:=by
 induction l with
 | nil =>
  show lk a [t]=_
  rw[Xbi]
  by_cases e:a=t.1
  . rw[if_pos e,if_pos e.symm];rfl
  . rw[if_neg e,if_neg λh=>e h.symm]
 | cons s l I =>
  obtain⟨T,Z⟩:=W3e.1 V
  have I:=I Z
  show lk a (if clt G s.1 t.1 then s::Xe4 G t l else if s.1=t.1 then (if tz G (Xgw G s t) then l else Xgw G s t::l) else t::s::l)=_
  split
  . rename_i O
    rw[Xbi,Xbi,I]
    by_cases e:s.1=a
    . rw[if_pos e,if_pos e,if_neg λh=>Xxk hG O (e.trans h)]
    . rw[if_neg e,if_neg e]
  . rename_i O
    split
    . rename_i j
      have Q:lk t.1 l=none:=Xot hG λz i=>by rw[<-j];exact T z i
      by_cases e:a=t.1
      . subst e
        rw[if_pos rfl,Xbi,if_pos j]
        split
        . rename_i i
          rw[Q]
          show _=(if tz G (Xgw G s t) then none else _)
          rw[if_pos i]
        . rename_i i
          rw[Xbi,if_pos (show (Xgw G s t).1=t.1 from rfl)]
          show _=(if tz G (Xgw G s t) then none else _)
          rw[if_neg i]
      . have e1:¬s.1=a:=λh=>e (h.symm.trans j)
        rw[if_neg e,Xbi (s:=s) (l:=l),if_neg e1]
        split
        . rfl
        . rw[Xbi,if_neg λh=>e (show (Xgw G s t).1=a from h).symm]
    . rename_i j
      have o:=Xrr hG O j
      have Q:lk t.1 (s::l)=none:=Xot hG λz i=>by
       rcases W1i.1 i with rfl | i
       . exact o
       . exact Xc9 hG o (T z i)
      rw[Xbi]
      by_cases e:a=t.1
      . subst e
        rw[if_pos rfl,if_pos rfl,Q];rfl
      . rw[if_neg λh=>e h.symm,if_neg e]
open Classical in
theorem Ydz(hG:red K G)(Z:Srt G l): ∀ {m:List (Tr K)},Srt G m->(∀a,lk a l=lk a m)->l=m:=by
 induction l with
 | nil =>
  intro m Q h
  rcases m with _ | ⟨t,m⟩
  . rfl
  . have:=h t.1
    rw[Xbi,if_pos rfl] at this
    cases this
 | cons s l ih =>
  intro m Q h
  obtain⟨T,h2⟩:=W3e.1 Z
  rcases m with _ | ⟨t,m⟩
  . have:=h s.1
    rw[Xbi,if_pos rfl] at this
    cases this
  . obtain⟨V,k2⟩:=W3e.1 Q
    have o:¬clt G s.1 t.1:=λe=>by
     have:=h s.1
     rw[Xbi,if_pos rfl,Xot hG (a:=s.1) λz i=>by
      rcases W1i.1 i with rfl | i
      . exact e
      . exact Xc9 hG e (V z i)] at this
     cases this
    have I:¬clt G t.1 s.1:=λe=>by
     have:=h t.1
     rw[Xbi (s:=t),if_pos rfl,Xot hG (a:=t.1) λz i=>by
      rcases W1i.1 i with rfl | i
      . exact e
      . exact Xc9 hG e (T z i)] at this
     cases this
    have O:s.1=t.1:=W1b λe=>I (Xrr hG o e)
    have j:=h s.1
    rw[Xbi,if_pos rfl,Xbi,if_pos O.symm] at j
    injection j with j
    subst j
    congr 1
    refine ih h2 k2 λa=>?_
    by_cases e:s.1=a
    . subst e
      rw[Xot hG T,Xot hG V]
    . have:=h a
      rwa[Xbi,if_neg e,Xbi,if_neg e] at this
open Classical in
theorem Yjc(hG:red K G)(i:Srt G X)(j:Srt G Y): lk a (mgV G X Y)=ent G (lk a X) (lk a Y):=by
 induction Y generalizing X with
 | nil=>cases h:lk a X<;>(show lk a X=_;rw[h];rfl)
 | cons t Y o =>
  obtain⟨I,O⟩:=W3e.1 j
  show lk a (mgV G (Xe4 G t X) Y)=_
  rw[o (Xtu hG i) O,Yjd hG i,Xbi]
  by_cases e:a=t.1
  . subst e
    rw[if_pos rfl,if_pos rfl,Xot hG I]
    cases ent G (lk t.1 X) (some t)<;>rfl
  . rw[if_neg e,if_neg λh=>e h.symm]
theorem Ybq(hG:red K G)(h:Srt G X): Srt G (mgV G X Y):=by
 induction Y generalizing X with
 | nil=>exact h
 | cons t Y i=>exact i (Xtu hG h)
open Classical in
theorem Yex(hG:red K G)(h:Srt G X)(i:Srt G Y)(j:∀s∈X,s.2.1≠vz K)(o:∀s∈Y,s.2.1≠vz K): mgV G X Y=mgV G Y X:=by
 refine Ydz hG (Ybq hG h) (Ybq hG i) λa=>?_
 rw[Yjc hG h i,Yjc hG i h]
 cases I:lk a X with
 | none=>cases lk a Y<;>rfl
 | some s=>cases O:lk a Y with
  | none=>rfl
  | some t =>
   obtain⟨s1,s2⟩:=Yco I
   obtain⟨Q,T⟩:=Yco O
   have e:Xgw G s t=Xgw G t s:=by
    unfold Xgw
    rw[s2,T,Xeh,Xtc hG (j s s1) (o t Q)]
   show (if tz G (Xgw G s t) then none else some (Xgw G s t))=(if tz G (Xgw G t s) then none else some (Xgw G t s))
   rw[e]
def Bf(n:Nat)(l:List (Tr K)): Prop:=∀s∈l,-(n:Int)<=s.2.2/\s.2.2<=n
theorem Xn1{p q:V2 K}{f g:Int}{n m:Nat}(hf:-(n:Int)<=f/\f<=n)(h:-(m:Int)<=g/\g<=m): -((n+m+1:Nat):Int)<=Xec G p q f g/\Xec G p q f g<=((n+m+1:Nat):Int):=by
 unfold Xec
 split<;>omega
theorem Bf.ins{n m:Nat}(h:Bf n l)(j:-(m:Int)<=t.2.2/\t.2.2<=m): Bf (n+m+1) (Xe4 G t l):=λz i=>by
 rcases Xvl i with i | rfl | ⟨s,o,I,rfl,_⟩
 . have:=h z i;omega
 . omega
 . exact Xn1 (h s o) j
theorem Bf.mono{n m:Nat}(h:Bf n l)(i:n<=m): Bf m l:=λs hs=>by have:=h s hs;omega
end
end
open Go Go.Num Go.Proofs.YtfjafaehfjjaiaaGreatDoor
variable{K:Nat}{G:Tw K}{S:List (El K)}{N:List Nm}{n m b c R:Nat}{p q:V2 K}
def Gp(G:Tw K)(S:List (El K))(N:List Nm)(b:Nat)(p:V2 K): Prop:=∀(m:Nat) (T:Tw m) (ρ:Nat->El K),Fl G S N m T ρ->∃a c:El m,ev G ρ m a=p.1/\ev G ρ m c=p.2/\Sz b (toL m a++toL m c)
theorem Gp.mono(h:Gp G S N b p)(hb:b<=c): Gp G S N c p:=λm T ρ i=>let ⟨a,c,j,o,I⟩:=h m T ρ i;⟨a,c,j,o,I.mono hb⟩
theorem Gp.fst(h:Gp G S N b p): Gs G S N b p.1:=λm T ρ i=>let ⟨a,c,j,I,o⟩:=h m T ρ i;⟨a,j,o.left⟩
theorem Gp.snd(h:Gp G S N b p): Gs G S N b p.2:=λm T ρ i=>let ⟨a,c,I,j,o⟩:=h m T ρ i;⟨c,j,o.right⟩
theorem Gp.of(h:Gs G S N b p.1)(k:Gs G S N c p.2): Gp G S N (b+c) p:=λm T ρ i=>by
 obtain⟨x,j,o⟩:=h m T ρ i
 obtain⟨y,I,O⟩:=k m T ρ i
 exact⟨x,y,j,I,o.append O⟩
theorem Gp.con(h:Gp G S N b p): Gp G S N b (Xn0 p):=λm T ρ i=>by
 obtain⟨x,y,j,o,d,I,O,d2⟩:=h m T ρ i
 exact⟨x,Tow.neg m y,j,by rw[Xed,o];rfl,d,I,O,by rw[Xcb];exact d2.left.append d2.right.neg⟩
theorem Gp.mul{f:Fg}(W:Wy f G S)(h:Gp G S N b p)(k:Gp G S N c q): Gp G S N (b+c+cB f.R f.H+1) (Xb7 G p q):=λm T ρ i=>by
 obtain⟨x,y,I,O,d,Q,d1,d2⟩:=h m T ρ i
 obtain⟨u,v,V,Z,e,e0,e1,j⟩:=k m T ρ i
 obtain⟨E,E0,E1,E2⟩:=Xir (W.t i.1)
 have hC:=Xfe (r:=f.R) (W.le i.1)
 have P:∀s t:El m,IsD d (2^b) (toL m s)->IsD e (2^c) (toL m t)->IsD (d*e*E) (2^(b+c+cB f.R f.H)) (toL m (Tow.mul m T s t)):=λs t hs o=>(E2 s t d e _ _ Q e0 hs o).mono (by
  rw[<-W0z,<-W0z];exact W0p (by decide) (by omega))
 have A:∀s t:El m,IsD (d*e*E) (2^(b+c+cB f.R f.H)) (toL m s)->IsD (d*e*E) (2^(b+c+cB f.R f.H)) (toL m t)->IsD (d*e*E) (2^(b+c+cB f.R f.H+1)) (toL m (Tow.add m s t)):=λs t hs o=>by
  rw[Xav]
  exact(hs.add o).mono (by rw[W1a];omega)
 refine⟨Tow.add m (Tow.mul m T x u) (Tow.neg m (Tow.mul m T y v)),Tow.add m (Tow.mul m T x v) (Tow.mul m T y u),?_,?_,d*e*E,W1m (W1m Q e0) E0,?_,?_⟩
 . rw[Xcy,Xed,Xa5 i.1.h,Xa5 i.1.h,I,O,V,Z];rfl
 . rw[Xcy,Xa5 i.1.h,Xa5 i.1.h,I,O,V,Z];rfl
 . have h3:=W3k d1 e1
   have h4:d*e*E<2^b*2^c*2^cB f.R m:=W0x (W3d h3 E0) (W0v _ E1)
   rw[<-W0z,<-W0z] at h4
   exact W0x h4 (W0p (by decide) (by omega))
 . exact(A _ _ (P _ _ d2.left j.left) (by rw[Xcb];exact(P _ _ d2.right j.right).neg)).append (A _ _ (P _ _ d2.left j.right) (P _ _ d2.right j.left))
end Go.Tow
namespace Go.Proofs.YtfjafaehfjjaiaaGreatDoor
open Go Go.Vm Go.Num Go.Tow
section
variable{K:Nat}{G:Tw K}{S:List (Tow.El K)}{N:List Nm}{n m k:Nat}{u:Vn}{p q:V2 K}
structure Gq {K:Nat} (G:Tw K) (S:List (Tow.El K)) (N:List Nm) (n:Nat) (u:Vn) (p:V2 K):Prop where
 v:Gv G S N n u p
 g:Gp G S N (gB n) p
theorem Gq.mono(h:Gq G S N n u p)(i:n<=m): Gq G S N m u p:=⟨h.v.mono i,h.g.mono (Yfh i)⟩
theorem Gv.re(W:Wn G S N)(h:Gv G S N k u p)(i:Gp G S N (gB n) p)(j:1<=n): Gq G S N n u p:=⟨⟨⟨h.x.o.re W.w W.h i.fst,i.fst,j⟩,⟨h.y.o.re W.w W.h i.snd,i.snd,j⟩⟩,i⟩
theorem Gv.two(W:Wn G S N)(h:Gv G S N n u p): Gq G S N (n+n) u p:=h.re W ((Gp.of h.x.g h.y.g).mono (by unfold gB;omega)) (by have:=h.x.n;omega)
theorem Gq.mul(W:Wn G S N){s w:Vn}(h:Gq G S N n u p)(i:Gq G S N m s q)(j:Gv G S N k w (Xb7 G p q)): Gq G S N (n+m) w (Xb7 G p q):=by
 have o:=h.v.x.n
 have I:=i.v.x.n
 exact j.re W ((Gp.mul W.w h.g i.g).mono (by rw[fC];unfold gB;omega)) (by omega)
end
end Go.Proofs.YtfjafaehfjjaiaaGreatDoor
namespace Go.Proofs.YtfjafaehfjjaiaaGreatDoor.R20
open Go Go.Vm Go.Num Go.Tow Go.Proofs.YtfjafaehfjjaiaaGreatDoor Go.Proofs.YtfjafaehfjjaiaaGreatDoor.P20
structure SV (K:Nat) where
 s:Sn
 a:Tow.El K
 p:V2 K
structure SM {K:Nat} (G:Tw K) (S:List (Tow.El K)) (N:List Nm) (U:Nat) (x:SV K):Prop where
 c:Gd G S N 9 x.s.c x.a
 pos:0<sgn K G x.a
 v:Gq G S N U x.s.v x.p
 ne:x.p≠vz K
 lim:lim x.s.f
structure SN {K:Nat} (G:Tw K) (S:List (Tow.El K)) (N:List Nm) (U:Nat) (x:SV K):Prop extends SM G S N U x where
 nz:¬(x.s.f=0/\Xcz G x.p)
abbrev ls{K:Nat}(L:List (SV K)): List Sn:=L.map (·.s)
structure NF {K:Nat} (G:Tw K) (S:List (Tow.El K)) (N:List Nm) (U:Nat) (L:List (SV K)):Prop where
 m:∀x∈L,SN G S N U x
 o:L.Pairwise λx y=>clt G x.a y.a
section
variable{K:Nat}{G:Tw K}{S:List (Tow.El K)}{N:List Nm}{U:Nat}
theorem SM.mono{U':Nat}{x:SV K}(h:SM G S N U x)(i:U<=U'): SM G S N U' x:=⟨h.c,h.pos,h.v.mono i,h.ne,h.lim⟩
theorem SN.mono{U':Nat}{x:SV K}(h:SN G S N U x)(i:U<=U'): SN G S N U' x:=⟨h.toSM.mono i,h.nz⟩
theorem NF.mono{U':Nat}{L:List (SV K)}(h:NF G S N U L)(i:U<=U'): NF G S N U' L:=⟨λx j=>(h.m x j).mono i,h.o⟩
theorem NF.nil: NF G S N U ([]:List (SV K)):=⟨nofun,.nil⟩
theorem NF.app{A m:List (SV K)}(hA:NF G S N U A)(i:NF G S N U m)(h:∀z∈A,∀y∈m,clt G z.a y.a): NF G S N U (A++m) :=
 ⟨λx j=>(W1r.1 j).elim (hA.m x) (i.m x),List.pairwise_append.2 ⟨hA.o,i.o,h⟩⟩
theorem NF.cons{x:SV K}{m:List (SV K)}(I:SN G S N U x)(j:NF G S N U m)(h:∀y∈m,clt G x.a y.a): NF G S N U (x::m) :=
 ⟨λy i=>by
  rcases W1i.1 i with rfl | i
  . exact I
  . exact j.m y i,W3e.2 ⟨h,j.o⟩⟩
theorem NF.take{L:List (SV K)}(h:NF G S N U L)(k:Nat): NF G S N U (L.take k):=⟨λx i=>h.m x (W3v i),h.o.sublist (List.take_sublist _ _)⟩
theorem NF.drop{L:List (SV K)}(h:NF G S N U L)(k:Nat): NF G S N U (L.drop k):=⟨λx i=>h.m x (W4k i),h.o.sublist (List.drop_sublist _ _)⟩
theorem NF.cut{L:List (SV K)}(h:NF G S N U L)(k:Nat): ∀z∈L.take k,∀y∈L.drop k,clt G z.a y.a:=by
 have:=h.o
 rw[<-W3q k L] at this
 exact(List.pairwise_append.1 this).2.2
theorem Xdq(L:List (SV K)): ((ls L).map dSe).length=L.length:=by simp
theorem Xos{L:List (SV K)}{k:Nat}{x:SV K}(h:L[k]?=some x): ((ls L).map dSe)[k]?=some (dSe x.s):=by simp[h]
abbrev Xbo(L:List (SV K)): List (Tr K):=L.map λy=>(y.a,y.p,y.s.f)
theorem Xgp{L:List (SV K)}{k:Nat}{x:SV K}(h:L[k]?=some x): (Xbo L)[k]?=some (x.a,x.p,x.s.f):=by simp[h]
theorem NF.srt{L:List (SV K)}(h:NF G S N U L): Srt G (Xbo L):=List.pairwise_map.2 h.o
theorem NF.nv{L:List (SV K)}(h:NF G S N U L): ∀s∈Xbo L,s.2.1≠vz K:=λs hs=>by
 obtain⟨y,i,rfl⟩:=W2l.1 hs
 exact(h.m y i).ne
def PtV(G:Tw K)(S:List (Tow.El K))(N:List Nm)(U:Nat)(x:SV K)(L:List (SV K))(r:AV): Prop:=∃L',r=.tup (.pr (.d (dSs (ls L'))) (.d (.int .i64 0)))/\L'.length<=L.length+1/\NF G S N U L'/\Xbo L'=Xe4 G (x.a,x.p,x.s.f) (Xbo L)
theorem Ym2(W:Wn G S N){V:Nat}{L:List (SV K)}{x:SV K}(hU:3*U+2*V<=400)(Z:NF G S N U L)(h3:L.length<=16)(T:SN G S N V x)(hlm:∀y∈L,y.a=x.a->lim (Xec G y.p x.p y.s.f x.s.f)): C0 33 [.d (dSs (ls L)),.d (dSe x.s)] (PtV G S N (U+V) x L):=by
 have hG:=W.w.g
 obtain⟨tx,I⟩:∃tx:Tr K,tx=(x.a,x.p,x.s.f):=⟨_,rfl⟩
 have lm:=Xdq L
 refine En Tryz.func33 λ_ _ _=>?_
 refine Cu (some 1000000) (λk:Nat=>[(0,.d (dSs (ls L))),(3,.ptr 3 0),(6,.d (.int .i64 k))]) (λ_=>[(3,.var (.d (dSe x.s)))]) (λk=>k<=L.length/\(∀y∈L.take k,clt G y.a x.a)/\∀y,L[k]?=some y->¬clt G y.a x.a) rfl ?_ λk ⟨hk,O,hge⟩=>?_
 . refine Lo (λk:Nat=>[(0,.d (dSs (ls L))),(3,.ptr 3 0),(6,.d (.int .i64 k))]) (λ_=>[(3,.var (.d (dSe x.s)))]) (λk=>k<=L.length/\∀y∈L.take k,clt G y.a x.a) (λk=>L.length-k) 0 [] rfl ⟨W0w _,nofun⟩ λk ⟨hk,O⟩=>?_
   refine Dw rfl ?_
   refine By rfl (λh=>?_) λh=>?_<;>rw[lm] at h
   . obtain⟨y,j⟩:∃y,L[k]?=some y:=⟨_,W0e (by omega)⟩
     refine Ix k rfl (Xos j) ?_
     refine Ce rfl (compare_g W (Z.m y (W0h j)).c T.c (by decide) (by decide)) ?_
     refine By rfl (λh2=>?_) λh2=>?_
     . refine Ar (k+1:Nat) rfl ?_
       refine Bk (k+1) [] rfl ⟨by omega,λz i=>?_⟩ (by show L.length-(k+1)<L.length-k;omega)
       rw[W2c,j] at i
       rcases W1r.1 i with i | i
       . exact O z i
       . obtain rfl:=W0j.1 i
         exact h2
     . exact Jn k [] rfl ⟨hk,O,λz i=>by rw[j] at i;cases i;exact h2⟩
   . exact Jn k [] rfl ⟨hk,O,λz i=>absurd (W0n.1 i).1 (by omega)⟩
 refine Dp k ((ls (L.drop k)).map dSe) rfl rfl (by rw[lm];exact hk) (by simp) ?_
 refine Cu (some 5) (λc:Bool=>[(0,.d (dSs (ls L))),(3,.ptr 3 0),(6,.d (.int .i64 k)),(7,.d (dSs (ls (L.drop k)))),(43,.b c)]) (λ_=>[(3,.var (.d (dSe x.s)))]) (λc=>(c=true->∃y,L[k]?=some y/\y.a=x.a)/\(¬c=true->∀y,L[k]?=some y->clt G x.a y.a)) rfl ?_ λc ⟨hc1,hc2⟩=>?_
 . refine Dw rfl ?_
   refine By rfl (λh=>?_) λh=>?_<;>rw[Xdq,W1k] at h
   . obtain⟨y,j⟩:∃y,L[k]?=some y:=⟨_,W0e (by omega)⟩
     have hy0:(L.drop k)[0]?=some y:=by rw[W1v];exact j
     refine Ix 0 rfl (Xos hy0) ?_
     refine Ce rfl (compare_g W (Z.m y (W0h j)).c T.c (by decide) (by decide)) ?_
     have hn:=hge y j
     refine Jn _ [] rfl ⟨λe=>⟨y,j,?_⟩,λe z i=>?_⟩
     . have e:sgn K G (Tow.add K y.a (Tow.neg K x.a))=0:=Xaj.1 e
       exact Yc8 hG e
     . rw[j] at i;cases i
       have e:¬sgn K G (Tow.add K y.a (Tow.neg K x.a))=0:=λh=>e (Xaj.2 h)
       refine Xly hG ?_
       unfold clt at hn
       omega
   . exact Jn false [] rfl ⟨nofun,λ_ z i=>absurd (W0n.1 i).1 (by omega)⟩
 have hcut:=Z.cut k
 refine Cu none (λ(y,m)=>[(0,.d (dSs (ls L))),(3,.ptr 3 0),(6,.d (.int .i64 k)),(7,.d (dSs (ls m)))]) (λ((y,m):SV K×List (SV K))=>[(3,.var (.d (dSe y.s)))]) (λ(y,m)=>SM G S N (U+V) y/\y.a=x.a/\m.length+k<=L.length/\NF G S N U m/\(∀z∈m,clt G x.a z.a)/\(∀z∈L.take k,∀w∈m,clt G z.a w.a)/\((y.s.f=0/\Xcz G y.p)->Xe4 G tx (Xbo (L.drop k))=Xbo m)/\(¬(y.s.f=0/\Xcz G y.p)->Xe4 G tx (Xbo (L.drop k))=(y.a,y.p,y.s.f)::Xbo m)) rfl ?_ λ(y,m) ⟨j,Q,hml,hm,hxm,hzm,hv0,hv1⟩=>?_
 . refine By rfl (λh=>?_) λh=>?_
   . obtain⟨y,j,Q⟩:=hc1 h
     have hk1:=(W0n.1 j).1
     have hy0:(L.drop k)[0]?=some y:=by rw[W1v];exact j
     have hyS:=Z.m y (W0h j)
     refine Dw rfl ?_
     refine Ix 0 rfl (Xos hy0) ?_
     refine Ca rfl (R19.Add_g W hyS.v.v T.v.v (by omega) hyS.lim.few T.lim.few) λr hr=>?_
     rcases hr with ⟨hl',w,rfl,hw⟩ | ⟨hbad,rfl⟩
     . refine No rfl (by decide) ?_
       refine Dw rfl ?_
       refine Dp 1 ((ls (L.drop (k+1))).map dSe) rfl rfl (by rw[Xdq,W1k];omega) (by simp) ?_
       have hd:L.drop k=y::L.drop (k+1):=by rw[<-W6m hk1,(W0n.1 j).2]
       have hD:=Z.drop k
       rw[hd] at hD
       have ht:Xgw G (y.a,y.p,y.s.f) tx=(x.a,Xb7 G y.p x.p,Xec G y.p x.p y.s.f x.s.f):=by rw[I];rfl
       have hya':((y.a,y.p,y.s.f):Tr K).1=tx.1:=by rw[I];exact Q
       exact Jn (⟨⟨x.s.c,w,Xec G y.p x.p y.s.f x.s.f⟩,x.a,Xb7 G y.p x.p⟩,L.drop (k+1)) [] rfl ⟨⟨T.c,T.pos,hyS.v.mul W T.v hw,Xh6 hG hyS.ne T.ne,hl'⟩,rfl,by rw[W1k];omega,Z.drop (k+1),λz i=>by rw[<-Q];exact(W3e.1 hD.o).1 z i,λz i w hw=>hcut z i w (by rw[hd];exact W0o _ hw),λh0=>by rw[hd];exact Xj8 hG hya' (by rw[ht];exact h0),λh0=>by rw[hd];exact(Xmz (B:=Xbo (L.drop (k+1))) hG hya' (by rw[ht];exact h0)).trans (by rw[ht])⟩
     . exact absurd (hlm y (W0h j) Q) hbad
   . have hall:∀z∈L.drop k,clt G x.a z.a:=λz i=>by
      obtain⟨y,j⟩:∃y,L[k]?=some y:=by
       cases h:L[k]? with
       | some y=>exact⟨y,rfl⟩
       | none=>rw[W1y (List.getElem?_eq_none_iff.1 h)] at i;cases i
      have h1:=hc2 h y j
      have hk1:=(W0n.1 j).1
      have hd:L.drop k=y::L.drop (k+1):=by rw[<-W6m hk1,(W0n.1 j).2]
      have hD:=Z.drop k
      rw[hd] at hD i
      rcases W1i.1 i with rfl | i
      . exact h1
      . exact Xc9 hG h1 ((W3e.1 hD.o).1 z i)
     exact Jn (x,L.drop k) [] rfl ⟨T.toSM.mono (by omega),rfl,by rw[W1k];omega,Z.drop k,hall,hcut,λh0=>absurd h0 T.nz,λ_=>by
      rw[<-I]
      refine Xv5 hG λs hs=>?_
      obtain⟨z,i,rfl⟩:=W2l.1 hs
      rw[I];exact hall z i⟩
 refine Cu (some 10) (λo=>[(3,.ptr 3 0),(7,.d (dSs (ls m))),(10,ptV o)]) (λo=>(3,.var (.d (dSe y.s)))::ptH o) (λo=>ptW o=ls (L.take k)/\(o=none↔k=0)) rfl ?_ λo ⟨ho,ho0⟩=>?_
 . refine Tk k ((ls (L.take k)).map dSe) rfl rfl (by rw[lm];exact hk) (by simp) ?_
   by_cases h0:k=0
   . subst h0
     refine Yg3 rfl rfl (by decide) ?_
     exact Jn none [] rfl ⟨rfl,λ_=>rfl,λ_=>rfl⟩
   . refine Ya7 ((ls (L.take k)).map dSe) rfl rfl (by rw[Xdq,W0f];omega) (by rw[Xdq,W0f];omega) ?_
     exact Jn (some (ls (L.take k))) [(65,600)] rfl ⟨rfl,nofun,λh=>absurd h h0⟩
 have F:∀ {o sz:Nat} {xs ys:List D} {g:Hp},g o=some (.arr sz xs)->xs=ys->Fit g [] (.own o sz 0 xs.length) (.d (.sl sz ys)):=λh e=>.own h (by omega) (by subst e;rw[W1e,W2h])
 have hT:=(Z.take k).mono (show U<=U+V by omega)
 have hM:=hm.mono (show U<=U+V by omega)
 have hxy:∀z∈m,clt G y.a z.a:=λz i=>by rw[Q];exact hxm z i
 have hTy:∀z∈L.take k,clt G z.a y.a:=λz i=>by rw[Q];exact O z i
 have tl:(L.take k).length=k:=by rw[W0f];omega
 have fin1:∀h:¬(y.s.f=0/\Xcz G y.p),NF G S N (U+V) (L.take k++y::m):=λh=>hT.app (hM.cons ⟨j,h⟩ hxy) λz i w hw=>by
  rcases W1i.1 hw with rfl | hw
  . exact hTy z i
  . exact hzm z i w hw
 have fin2:NF G S N (U+V) (L.take k++m):=hT.app hM hzm
 have key:Xe4 G tx (Xbo L)=Xbo (L.take k)++Xe4 G tx (Xbo (L.drop k)):=by
  have e:Xbo L=Xbo (L.take k)++Xbo (L.drop k):=by rw[<-W1u,W3q]
  rw[e]
  refine Xmy λs hs=>?_
  obtain⟨z,i,rfl⟩:=W2l.1 hs
  rw[I];exact O z i
 have v1:∀h:¬(y.s.f=0/\Xcz G y.p),Xbo (L.take k++y::m)=Xe4 G (x.a,x.p,x.s.f) (Xbo L):=λh=>by rw[<-I,key,hv1 h];exact W1u
 have v2:∀h:y.s.f=0/\Xcz G y.p,Xbo (L.take k++m)=Xe4 G (x.a,x.p,x.s.f) (Xbo L):=λh=>by rw[<-I,key,hv0 h];exact W1u
 rcases o with _ | w
 . have ho:k=0:=ho0.1 rfl
   subst ho
   refine Ce rfl (Zero_g W j.v.v (by omega)) ?_
   refine By rfl (λh=>?_) λh=>?_
   . have h:¬(y.s.f=0/\Xcz G y.p):=by simpa only [Xap,Xaj] using h
     refine Ya7 [dSe y.s] rfl rfl (W4s _) (W1g rfl) ?_
     refine Ya6 ((ls (y::m)).map dSe) rfl rfl rfl rfl (by rw[Xdq,W0t];omega) ?_
     exact Rt rfl (.tup (.cons (F rfl rfl) Xa1)) ⟨y::m,rfl,by rw[W0t];omega,fin1 h,v1 h⟩
   . have h0:y.s.f=0/\Xcz G y.p:=W2u.1 (by simpa only [Xap,Xaj] using h)
     rcases m with _ | ⟨z,m⟩
     . refine Yg3 rfl rfl (by decide) ?_
       exact Rt rfl (.tup (.cons (.lit rfl) Xa1)) ⟨[],rfl,W0w _,NF.nil,v2 h0⟩
     . refine Ya7 ((ls (z::m)).map dSe) rfl rfl (W4s _) (by rw[Xdq];omega) ?_
       exact Rt rfl (.tup (.cons (F rfl rfl) Xa1)) ⟨z::m,rfl,by omega,fin2,v2 h0⟩
 . have ho:w=ls (L.take k):=ho
   subst ho
   refine Ce rfl (Zero_g W j.v.v (by omega)) ?_
   refine By rfl (λh=>?_) λh=>?_
   . have h:¬(y.s.f=0/\Xcz G y.p):=by simpa only [Xap,Xaj] using h
     refine Ya6 ((ls (L.take k++[y])).map dSe) rfl rfl rfl (by simp) (by rw[Xdq,W0c,tl];show k+1<=_;omega) ?_
     refine Ya6 ((ls (L.take k++[y]++m)).map dSe) rfl rfl rfl (by simp) (by rw[Xdq,W0c,W0c,tl];show k+1+m.length<=_;omega) ?_
     exact Rt rfl (.tup (.cons (F rfl rfl) Xa1)) ⟨L.take k++[y]++m,rfl,by rw[W0c,W0c,tl];show k+1+m.length<=_;omega,by rw[W3r];exact fin1 h,by rw[W3r];exact v1 h⟩
   . refine Ya6 ((ls (L.take k++m)).map dSe) rfl rfl rfl (by simp) (by rw[Xdq,W0c,tl];omega) ?_
     exact Rt rfl (.tup (.cons (F rfl rfl) Xa1)) ⟨L.take k++m,rfl,by rw[W0c,tl];omega,fin2,v2 (W2u.1 (by simpa only [Xap,Xaj] using h))⟩
variable{n m:Nat}{x y z:Nm}{a b:Tow.El K}
def AdV(G:Tw K)(S:List (Tow.El K))(N:List Nm)(U n m:Nat)(a:Tow.El K)(L M:List (SV K))(r:AV): Prop:=∃z L',r=.tup (.pr (.d (dAr z (ls L'))) (.d (.int .i64 0)))/\Gd G S N m z a/\L'.length<=n/\NF G S N U L'/\Xbo L'=mgV G (Xbo L) (Xbo M)
theorem Xvk{X Y:List (Tr K)}{k:Nat}{t:Tr K}(h:Y[k]?=some t): mgV G X (Y.take (k+1))=Xe4 G t (mgV G X (Y.take k)):=by
 unfold mgV
 rw[W2c,h,List.foldl_append]
 rfl
theorem Yey{B C:Nat}{X:List (Tr K)}: ∀ {Y:List (Tr K)},Bf B X->Bf C Y->Bf (B+Y.length*(C+1)) (mgV G X Y):=by
 intro Y
 induction Y generalizing X B with
 | nil=>intro h _;exact h.mono (by simp)
 | cons t Y j =>
  intro h i
  exact(j (h.ins (i t (W0l ..))) λs hs=>i s (W0o _ hs)).mono (by rw[W0t,W1c];omega)
theorem Add_v(W:Wn G S N){V B C:Nat}{L M:List (SV K)}(hx:Gd G S N n x a)(O:Gd G S N m y b)(hn:n<=400)(hm:m<=400)(hL:NF G S N U L)(hM:NF G S N V M)(hl:L.length<=8)(hml:M.length<=8)(hB:Bf B (Xbo L))(Z:Bf C (Xbo M))(hbc:B+8*(C+1)<=900000)(hU:3*(U+M.length*V)<=400): C0 9 [.d (dAr x (ls L)),.d (dAr y (ls M))] (AdV G S N (U+M.length*V) (L.length+M.length) (n+m) (Tow.add K a b) L M):=by
 refine En Tryz.func9 λ_ _ _=>?_
 refine Ca rfl (R9.Add_g W hx O hn hm) λv i=>?_
 obtain⟨z,rfl,hz⟩:=i
 refine Lo (λ((k,L'):Nat×List (SV K))=>[(3,.ptr 3 0),(4,.ptr 4 0),(7,.d (.int .i64 0)),(8,.ptr 8 0),(9,.d (.int .i64 k))]) (λ((k,L'):Nat×List (SV K))=>[(3,.var (.d (dAr y (ls M)))),(4,.var zA),(8,.var (.d (dAr z (ls L'))))]) (λ(k,L')=>k<=M.length/\L'.length<=L.length+k/\NF G S N (U+k*V) L'/\Xbo L'=mgV G (Xbo L) ((Xbo M).take k)) (λ(k,_)=>M.length-k) (0,L) [] rfl ⟨W0w _,W0a _,hL.mono (by omega),rfl⟩ (λ(k,L') ⟨hk,j,I,i⟩=>?_)
 have hk:k<=M.length:=hk
 have j:L'.length<=L.length+k:=j
 have I:NF G S N (U+k*V) L':=I
 have i:Xbo L'=mgV G (Xbo L) ((Xbo M).take k):=i
 refine By rfl (λh=>?_) λh=>?_<;>rw[Xdq] at h
 . obtain⟨s,hs⟩:∃s,M[k]?=some s:=⟨_,W0e (by omega)⟩
   have Q:(k+1)*V<=M.length*V:=W0k _ (by omega)
   rw[W1c,W6j] at Q
   have o:=W0h hs
   obtain⟨X,hX,T⟩:∃X,X<=7*(C+1)/\Bf (B+X) (Xbo L'):=⟨k*(C+1),W0k _ (by omega),by
    rw[i]
    exact(Yey hB λs hs=>Z s (W3v hs)).mono (by
     rw[W0f]
     exact W7x (W0k _ (Nat.min_le_left ..)) _)⟩
   refine Yes rfl (by decide) ?_
   refine Dw rfl ?_
   refine Ix k rfl (Xos hs) ?_
   refine Ca rfl (Ym2 W (V:=V) (x:=s) (by omega) I (by omega) (hM.m s o) λy O _=>?_) λr hr=>?_
   . have h1:-((B+X:Nat):Int)<=y.s.f/\y.s.f<=((B+X:Nat):Int):=T _ (W2l.2 ⟨y,O,rfl⟩)
     have h2:-(C:Int)<=s.s.f/\s.s.f<=C:=Z _ (W2l.2 ⟨s,o,rfl⟩)
     have:=Xn1 (G:=G) (p:=y.p) (q:=s.p) h1 h2
     unfold lim
     omega
   . obtain⟨L2,rfl,g1,g2,g3⟩:=hr
     refine Ar (k+1:Nat) rfl ?_
     exact Bk (k+1,L2) [] rfl ⟨by omega,by show L2.length<=L.length+(k+1);omega,g2.mono (by rw[W1c];omega),by rw[g3,i,<-Xvk (Xgp hs)]⟩ (by show M.length-(k+1)<M.length-k;omega)
 . obtain rfl:k=M.length:=by omega
   rw[W0b (by rw[W0i];exact W0a _)] at i
   refine No rfl (by decide) ?_
   exact Rt rfl (.tup (.cons (.rf rfl) Xa1)) ⟨z,L',rfl,hz,j,I,i⟩
theorem Yfg(W:Wn G S N){u s w:Vn}{p q:V2 K}{k:Nat}(h:Gq G S N n u p)(i:Gq G S N m s q)(j:Gv G S N k w (Xb7 G (Xn0 p) q)): Gq G S N (n+m) w (Xb7 G (Xn0 p) q):=by
 have o:=h.v.x.n
 have I:=i.v.x.n
 exact j.re W ((Gp.mul W.w h.g.con i.g).mono (by rw[fC];unfold gB;omega)) (by omega)
theorem Xzw(hG:red K G)(h:0<sgn K G a): 0<sgn K G (Tow.mul K G a (Tow.rat K hf2)):=by
 rw[(Xaq (Xad hG)).sm,Xej (Xad hG),Xcc (by decide +kernel)]
 omega
theorem Yfn{d:V2 K}(hG:red K G)(h:¬sgn K G (Xgo G d d)=0): 0<sgn K G (Xgo G d d):=by
 have Sg:=Xaq (Xad hG)
 have i:∀x:Tow.El K,0<=sgn K G (Tow.mul K G x x):=λx=>by rw[Sg.sm];exact(Xdl (Sg.tri x)).1
 have:=Sg.sa _ _ (i d.1) (i d.2)
 have:0<=sgn K G (Xgo G d d):=this
 omega
end
def BuF{K:Nat}(G:Tw K)(S:List (Tow.El K))(N:List Nm)(r:AV): Prop:=(∃(a b:List D) (L:List Sn) (l:List Vn) (c:Bool),r=.tup (.pr (.d (dAa a b L)) (.pr (.d (dVs l)) (.b c)))/\¬c=true)\/∃(x:Nm) (a:Tow.El K) (L:List (SV K)) (l:List Vn) (c:Bool),r=.tup (.pr (.d (dAr x (ls L))) (.pr (.d (dVs l)) (.b c)))/\c=true/\Gd G S N 140 x a/\L.length<=4/\NF G S N 16 L/\Bf 4100 (Xbo L)/\1<=l.length/\∀v∈l,∃p,Gv G S N 1 v p
theorem Xpo{K:Nat}{G:Tw K}{S:List (Tow.El K)}{N:List Nm}(W:Wn G S N){T:List RO}{at':List (Fin 256)}{ts:List Int}{lst:List Nm}(hb:C0 120 [.d (dRs T)] (·=.d (dNs lst)))(hl24:lst.length<=24)(hk16:∀z∈lst,z.k<=16)(hw:∀z∈n00::lst,z.k<=1->∃v,Gd G S N 1 z v)(ht:ts.length<9223372036854775808)(hz:∀z∈ts,-9223372036854775808<=z/\z<9223372036854775808): C0 6 [.d (dCb T at' ts),.d (.int .i64 1)] (BuF G S N):=by
 have no:BuF G S N (.tup (.pr (.d dA0) (.pr (.d (dVs [])) (.b false)))):=.inl ⟨[],[],[],[],false,rfl,nofun⟩
 have tl:(ts.map λz=>(D.int .i64 z:D)).length=ts.length:=W0i ..
 have R0n:∀ {g:Hp},FitR g [] (.tup (.pr (.st (.pr (.st (.pr .nil .nil)) .nil)) (.pr .nil (.b false)))) (.tup (.pr (.d dA0) (.pr (.d (dVs [])) (.b false)))):=.tup (.cons Yj6 (.cons (.nil rfl) Xo5))
 refine En Tryz.func6 λ_ _ _=>?_
 refine Ca rfl (Xx4 (n:=1) hb hl24 hk16) λv I=>?_
 obtain⟨l,c',rfl,hl24,hc⟩:=I
 have lm:(l.map dV).length=l.length:=W0i ..
 refine By rfl (λh=>?_) λh=>?_
 . exact Rt rfl R0n no
 have h:c'=true:=by simpa using h
 obtain⟨h1,hm⟩:=hc h
 refine By rfl (λh=>?_) λh=>?_
 . exact Rt rfl R0n no
 rw[lm] at h
 have h8:l.length<=8:=by omega
 refine By rfl (λh=>?_) λh=>?_
 . exact Rt rfl R0n no
 rw[tl] at h
 have h4:ts.length<=4:=by omega
 refine Lo (λi:Nat=>[(2,.ptr 2 0),(4,.ptr 4 0),(7,.d (dVs l)),(9,.d (.int .i64 i))]) (λ_=>[(2,.var (.d (dCb T at' ts))),(4,.var zA)]) (λi=>i<=l.length/\∀x∈l.take i,x.x.k<=1/\x.y.k<=1) (λi=>l.length-i) 0 [] rfl ⟨W0w _,nofun⟩ (λi ⟨hi,O⟩=>?_)
 refine By rfl (λh=>?_) λh=>?_<;>rw[lm] at h
 . obtain⟨x,Q⟩:∃x,l[i]?=some x:=⟨_,W0e (by omega)⟩
   refine Ix i rfl (mp Q) ?_
   refine By rfl (λh2=>?_) λh2=>?_
   . exact Rt rfl R0n no
   refine Ix i rfl (mp Q) ?_
   refine By rfl (λh3=>?_) λh3=>?_
   . exact Rt rfl R0n no
   have h2:¬(((toT x.x.k x.x.t).map dqs).length:Int)>1:=h2
   have h3:¬(((toT x.y.k x.y.t).map dqs).length:Int)>1:=h3
   rw[lt',Xaa] at h2 h3
   refine Ar (i+1:Nat) rfl ?_
   refine Bk (i+1) [] rfl ⟨by omega,λy j=>?_⟩ (by show l.length-(i+1)<l.length-i;omega)
   rw[W2c,Q] at j
   rcases W1r.1 j with j | j
   . exact O y j
   . obtain rfl:=W0j.1 j
     exact⟨by omega,by omega⟩
 rw[W0b (by omega)] at O
 have hpt:∀v∈l,∃p,Gv G S N 1 v p:=λv I=>by
  obtain⟨m1,m2⟩:=hm v I
  obtain⟨k1,k2⟩:=O v I
  obtain⟨a,ha⟩:=hw v.x m1 k1
  obtain⟨b,hb⟩:=hw v.y m2 k2
  exact⟨(a,b),ha,hb⟩
 have H:∀i:Nat,∃p:V2 K,∀v,l[i]?=some v->Gv G S N 1 v p:=λi=>by
  cases I:l[i]? with
  | none=>exact⟨vz K,nofun⟩
  | some v =>
   obtain⟨p,hp⟩:=hpt v (W0h I)
   exact⟨p,λv' e=>by cases e;exact hp⟩
 obtain⟨g,Z⟩:=W4y H
 refine Ca rfl (Xjd W Z (by omega) h8 ⟨by decide,by decide⟩) λr hr=>?_
 obtain⟨z0,rfl,hz0⟩:=hr
 refine Cu (some 1000002) (λ(z,L,a)=>[(4,.ptr 4 0),(7,.d (dVs l)),(10,.ptr 10 0),(11,.d (.int .i64 0))]) (λ((z,L,a):Nm×List (SV K)×Tow.El K)=>[(4,.var zA),(10,.var (.d (dAr z (ls L))))]) (λ(z,L,a)=>Gd G S N 140 z a/\L.length<=4/\NF G S N 16 L/\Bf 4100 (Xbo L)) rfl ?_ λ(z,L,a) ⟨h5,h6,h7,h8'⟩=>?_
 . refine Lo (λ((k,z,L,a):Nat×Nm×List (SV K)×Tow.El K)=>[(2,.ptr 2 0),(4,.ptr 4 0),(7,.d (dVs l)),(10,.ptr 10 0),(11,.d (.int .i64 0)),(12,.d (.int .i64 k))]) (λ(k,z,L,a)=>[(2,.var (.d (dCb T at' ts))),(4,.var zA),(10,.var (.d (dAr z (ls L))))]) (λ(k,z,L,a)=>k<=ts.length/\Gd G S N (130+k) z a/\L.length<=k/\NF G S N (4*k) L/\Bf (1001*k) (Xbo L)) (λ(k,_)=>ts.length-k) (0,z0,[],_) [] rfl ⟨W0w _,hz0,W0a _,NF.nil,nofun⟩ (λ(k,z,L,a) ⟨hk,o,hL,hs,hB⟩=>?_)
   have hk:k<=ts.length:=hk
   have o:Gd G S N (130+k) z a:=o
   have hL:L.length<=k:=hL
   have hs:NF G S N (4*k) L:=hs
   have hB:Bf (1001*k) (Xbo L):=hB
   have out:Gd G S N 140 z a/\L.length<=4/\NF G S N 16 L/\Bf 4100 (Xbo L):=⟨o.mono (by omega),by omega,hs.mono (by omega),hB.mono (by omega)⟩
   refine By rfl (λh=>?_) λh=>?_<;>rw[tl] at h
   rotate_left
   . exact Jn (z,L,a) [] rfl out
   refine Ar (k+1:Nat) rfl ?_
   refine By rfl (λh5=>?_) λh5=>?_<;>rw[lm] at h5
   rotate_left
   . exact Jn (z,L,a) [] rfl out
   refine Yes rfl (by decide) ?_
   have next:Gd G S N (130+(k+1)) z a/\L.length<=k+1/\NF G S N (4*(k+1)) L/\Bf (1001*(k+1)) (Xbo L):=⟨o.mono (by omega),by omega,hs.mono (by omega),hB.mono (by omega)⟩
   have dec:ts.length-(k+1)<ts.length-k:=by omega
   obtain⟨w,hwk⟩:∃w,ts[k]?=some w:=⟨_,W0e (by omega)⟩
   obtain⟨x,Q⟩:∃x,l[k]?=some x:=⟨_,W0e (by omega)⟩
   obtain⟨y,j⟩:∃y,l[k+1]?=some y:=⟨_,W0e (by omega)⟩
   refine Ix k rfl (Ydo hwk) ?_
   refine By rfl (λh7=>?_) λh7=>?_
   . exact Rt rfl R0n no
   refine Ix k rfl (Ydo hwk) ?_
   refine By rfl (λh8=>?_) λh8=>?_
   . exact Rt rfl R0n no
   refine Dw rfl ?_
   refine Ix k rfl (mp Q) ?_
   refine Ar (k+1:Nat) rfl ?_
   refine Ix (k+1) rfl (mp j) ?_
   refine Ca rfl (Ypw W (Z k x Q) (Z (k+1) y j) (by decide)) λv I=>?_
   rcases I with ⟨n1,d,rfl,hd⟩ | ⟨_,rfl⟩
   . refine Dw rfl ?_
     refine Ix k rfl (mp Q) ?_
     refine Ar (k+1:Nat) rfl ?_
     refine Ix (k+1) rfl (mp j) ?_
     refine Cn [(1000001,115)] rfl (R15.Far_g W (Z k x Q) (Z (k+1) y j) (by decide)) λv I=>?_
     obtain⟨f,rfl,hf⟩:=I
     refine No rfl (by decide) ?_
     refine No rfl (by decide) ?_
     refine Ce rfl (R9.Sign_g W hf (by decide)) ?_
     refine By rfl (λh9=>?_) λh9=>?_
     . refine Ar (k+1:Nat) rfl ?_
       exact Bk (k+1,z,L,a) [] rfl ⟨by omega,next⟩ dec
     refine Ix k rfl (Ydo hwk) ?_
     refine Dw rfl ?_
     refine Ca rfl (Xl6 (f:=w) W W hf hd (by decide) (by decide)) λr hr=>?_
     rcases hr with ⟨_,rfl⟩ | ⟨hnz,q,rfl,hq⟩
     . refine Ca rfl (Add_v W (M:=[]) (V:=0) (B:=1001*k) (C:=0) o (Yi1 W) (by omega) (by decide) hs NF.nil (by omega) (W0w _) hB nofun (by omega) (by simp;omega)) λr hr=>?_
       obtain⟨z',L',rfl,hz',hL',hs',hv'⟩:=hr
       refine Ar (k+1:Nat) rfl ?_
       exact Bk (k+1,z',L',_) [] rfl ⟨by omega,hz',by show L'.length<=k+1;simp at hL';omega,hs'.mono (by simp;omega),by rw[hv'];exact hB.mono (by omega)⟩ dec
     . have hx2:=(Z k x Q).two W
       have hy2:=(Z (k+1) y j).two W
       have hp0:g k≠vz K:=λe=>n1 (.inl e)
       have hq0:g (k+1)≠vz K:=λe=>n1 (.inr e)
       have hs4:SN G S N 4 (⟨⟨q,d,w⟩,Tow.mul K G (Xgo G (Xx8 (g k) (g (k+1))) (Xx8 (g k) (g (k+1)))) (Tow.rat K hf2),Xb7 G (Xn0 (g k)) (g (k+1))⟩:SV K) :=
        ⟨⟨hq.mono (by decide),Xzw W.w.g (Yfn W.w.g h9),Yfg W hx2 hy2 hd,Xh6 W.w.g (Ydm W.w.g hp0) hq0,by show lim w;unfold lim;omega⟩,hnz⟩
       have hM:NF G S N 4 [(⟨⟨q,d,w⟩,Tow.mul K G (Xgo G (Xx8 (g k) (g (k+1))) (Xx8 (g k) (g (k+1)))) (Tow.rat K hf2),Xb7 G (Xn0 (g k)) (g (k+1))⟩:SV K)]:=⟨λy j=>by rw[W0j.1 j];exact hs4,List.pairwise_singleton _ _⟩
       have hC:Bf 1000 (Xbo [(⟨⟨q,d,w⟩,Tow.mul K G (Xgo G (Xx8 (g k) (g (k+1))) (Xx8 (g k) (g (k+1)))) (Tow.rat K hf2),Xb7 G (Xn0 (g k)) (g (k+1))⟩:SV K)]):=λs hs=>by
        rw[W0j.1 hs]
        show -((1000:Nat):Int)<=w/\w<=((1000:Nat):Int)
        omega
       refine Ca rfl (Add_v W (V:=4) (B:=1001*k) (C:=1000) o (Yi1 W) (by omega) (by decide) hs hM (by omega) (show 1<=8 by decide) hB hC (by omega) (by show 3*(4*k+1*4)<=400;omega)) λr hr=>?_
       obtain⟨z',L',rfl,hz',hL',hs',hv'⟩:=hr
       refine Ar (k+1:Nat) rfl ?_
       exact Bk (k+1,z',L',_) [] rfl ⟨by omega,hz',by show L'.length<=k+1;have:L'.length<=L.length+1:=hL';omega,hs'.mono (by show 4*k+1*4<=4*(k+1);omega),by rw[hv'];exact(Yey hB hC).mono (by show 1001*k+1*(1000+1)<=1001*(k+1);omega)⟩ dec
   . refine Dw rfl ?_
     refine Ix k rfl (mp Q) ?_
     refine Ar (k+1:Nat) rfl ?_
     refine Ix (k+1) rfl (mp j) ?_
     refine Cn [(1000001,115)] rfl (R15.Far_g W (Z k x Q) (Z (k+1) y j) (by decide)) λv I=>?_
     obtain⟨f,rfl,hf⟩:=I
     refine Yes rfl (by decide) ?_
     refine Ar (k+1:Nat) rfl ?_
     exact Bk (k+1,z,L,a) [] rfl ⟨by omega,next⟩ dec
 exact Rt rfl (.tup (.cons (.rf rfl) (.cons (.rf rfl) Xo5))) (.inr ⟨z,a,L,l,_,rfl,Xaj.2 rfl,h5,h6,h7,h8',h1,hpt⟩)
end Go.Proofs.YtfjafaehfjjaiaaGreatDoor.R20
namespace Go.Tow
open Go Go.Num Go.Proofs.YtfjafaehfjjaiaaGreatDoor
section
variable{K:Nat}{G:Tw K}{S:List (El K)}{ρ ρ':Nat->El K}{m:Nat}
theorem TOk.un(hG:red K G){T T':Tw m}(h:TOk G S m T ρ)(O:TOk G S m T' ρ')(e:∀i,i<m->ρ i=ρ' i): T=T':=by
 refine Xh9 (W4c λi=>?_)
 by_cases hi:i<m
 . obtain⟨x,Q,_,V⟩:=Tw.at (t:=T) hi
   obtain⟨y,Z,_,y3⟩:=Tw.at (t:=T') hi
   have o:=W2f hi
   obtain⟨b,hb⟩:=Lf.ex o x
   obtain⟨c,I⟩:=Lf.ex o y
   have e1:ev G ρ m b=ev G ρ m c:=by
    rw[hb.ev o,I.ev o,<-(V h.h).1,e i hi,(y3 O.h).1]
    exact(Xa8 λj hj=>e j (by omega)).symm
   have e2:=Xcx (Xad hG) h.h h.r e1
   subst e2
   have e3:toL i x=toL i y:=by
    have hb:toL m b=toL i x++List.replicate (2^m-2^i) 0:=hb
    have I:toL m b=toL i y++List.replicate (2^m-2^i) 0:=I
    exact List.append_cancel_right (hb.symm.trans I)
   rw[Q,Z,e3]
 . rw[W2b (by rw[Xaa];omega),W2b (by rw[Xaa];omega)]
def vls(ρ:Nat->El K)(m:Nat): List (El K):=(List.range m).map ρ
theorem Xps: vls ρ (m+1)=vls ρ m++[ρ m]:=by unfold vls;rw[W7b,W1u];rfl
theorem Xma(h:∀i,i<m->ρ i=ρ' i): vls ρ m=vls ρ' m:=List.map_congr_left λi hi=>h i (List.mem_range.1 hi)
theorem Ybh{n:Nat}(h:vls ρ m=vls ρ' n): m=n/\∀i,i<m->ρ i=ρ' i:=by
 have j:=congrArg List.length h
 unfold vls at j h
 rw[W0i,W0i,List.length_range,List.length_range] at j
 subst j
 exact⟨rfl,λi hi=>W5v.1 h i (List.mem_range.2 hi)⟩
def Ynq(G:Tw K)(V:List (El K))(u:El K): Prop:=∃(m:Nat) (ρ:Nat->El K),vls ρ m=V/\∃e:El m,ev G ρ m e=u
theorem Yl2{u:El K}: Ynq G (vls ρ m) u↔∃e:El m,ev G ρ m e=u:=by
 refine⟨λ⟨n,σ,h,e,i⟩=>?_,λ⟨e,i⟩=>⟨m,ρ,rfl,e,i⟩⟩
 obtain⟨rfl,j⟩:=Ybh h
 exact⟨e,by rw[<-i];exact(Xa8 j).symm⟩
open Classical in
noncomputable def stV(G:Tw K)(V:List (El K))(u:El K): List (El K):=if Ynq G V u then V else V++[u]
end
end Go.Tow
namespace Go.Proofs.YtfjafaehfjjaiaaGreatDoor.R9
open Go Go.Vm Go.Num Go.Tow Go.Proofs.YtfjafaehfjjaiaaGreatDoor
section
variable{c:Fg}{K:Nat}{G:Tw K}{S:List (Tow.El K)}{k l:Nat}{t:Tw k}{u:Tw l}{ρ ρu:Nat->Tow.El K}
def ExF(c:Fg)(G:Tw K)(S:List (Tow.El K))(l k:Nat)(t:Tw k)(ρ ρu:Nat->Tow.El K)(x:Nat×(Σ m,Tw m)×List (List Rat)): Prop:=ExI c G S l k t ρ ρu x/\∃ρ',TOk G S x.2.1.1 x.2.1.2 ρ'/\vls ρ' x.2.1.1=(vls ρu x.1).foldl (stV G) (vls ρ k)
theorem ExF.start(h:TOk G S k t ρ): ExF c G S l k t ρ ρu (0,⟨k,t⟩,[]):=⟨⟨W0w _,rfl,ρ,h,Beg.rf,λ_ _=>rfl,λi hi=>absurd hi (W4r _),λ_=>rfl⟩,ρ,h,rfl⟩
theorem Xm4{i:Nat}: (vls ρu (i+1)).foldl (stV G) (vls ρ k)=stV G ((vls ρu i).foldl (stV G) (vls ρ k)) (ρu i):=by rw[Xps,List.foldl_append];rfl
theorem ExF.step(W:Wy c G S)(hu:TOk G S l u ρu){i m:Nat}{T:Tw m}{rs:List (List Rat)}(h:ExF c G S l k t ρ ρu (i,⟨m,T⟩,rs))(Q:i<l):
 ∃(x:Tow.El i) (σ:Nat->Tow.El m),(toT l u)[i]?=some (toL i x)/\Sz c.R (toL i x)/\Rts m c.Z i rs σ/\red m T/\Sz c.E (toL m (ev T σ i x))/\0<=sgn m T (ev T σ i x) /\
  (∀y,mul m T y y=ev T σ i x->0<=sgn m T y->ExF c G S l k t ρ ρu (i+1,⟨m,T⟩,rs++[toL m y])) /\
  (¬Xcu m T (ev T σ i x)->ExF c G S l k t ρ ρu (i+1,⟨m+1,tsn T (ev T σ i x)⟩,rs++[toL (m+1) (Xcw (m+1) m)])):=by
 have hG:=W.g
 have O:=Xad hG
 obtain⟨hI,ρv,hV,hv⟩:=h
 have hI':=hI
 obtain⟨hi,hrl,ρ',o,hB,ha,V,hc⟩:=hI
 simp only at hi hrl o hB ha V hc hV hv
 have hag:=o.h.uniq hG hV.h
 have hvl:vls ρ' m=(vls ρu i).foldl (stV G) (vls ρ k):=by rw[<-hv];exact Xma hag
 obtain⟨x,σ,x1,x2,s1,s2,I,x4,hsz⟩:=ExI.rad W hu Q o V
 have hsg:0<=sgn m T (ev T σ i x):=by
  have:=Xdc O o.h (a:=ev T σ i x)
  rw[I,(Xaq O).sm,x4] at this
  omega
 refine⟨x,σ,x1,x2,s1,o.r,hsz,hsg,λy h1 h2=>⟨hI'.sq W hu Q o hB ha V hc s2 I x4 h1 h2,ρ',o,?_⟩,λh2=>⟨hI'.new W hu Q o hB ha V I x4 h2,_,o.snoc O h2 (hu.s i Q) (a:=ev T σ i x) I.symm x4,?_⟩⟩
 . have hy:ev G ρ' m y=ρu i:=Xjs hG (by rw[<-Xa5 o.h,h1,I]) (by rw[Xdc O o.h];exact h2) (by rw[x4];decide)
   show vls ρ' m=(vls ρu (i+1)).foldl (stV G) (vls ρ k)
   rw[Xm4,<-hvl,stV,if_pos (Yl2.2 ⟨y,hy⟩)]
 . show vls (λj=>if j=m then ρu i else ρ' j) (m+1)=(vls ρu (i+1)).foldl (stV G) (vls ρ k)
   have hn:¬Ynq G (vls ρ' m) (ρu i):=λe=>by
    obtain⟨b,hb⟩:=Yl2.1 e
    exact h2 ⟨b,Xcx O o.h o.r (by rw[Xa5 o.h,hb,I])⟩
   rw[Xm4,<-hvl,stV,if_neg hn,Xps,if_pos rfl]
   congr 1
   exact Xma λj hj=>if_neg (by omega)
theorem ExF.ex(W:Wy c G S)(o:TOk G S k t ρ)(I:TOk G S l u ρu): ∀i,i<=l->∃m T O,ExF c G S l k t ρ ρu (i,⟨m,T⟩,O)
 | 0,_=>⟨k,t,[],ExF.start o⟩
 | i+1,hi=>by
  obtain⟨m,T,O,h⟩:=ExF.ex W o I i (by omega)
  obtain⟨x,σ,_,_,_,Z,_,h0,Q,h2⟩:=h.step W I (by omega)
  by_cases hs:Xcu m T (ev T σ i x)
  . obtain⟨y,V⟩:=hs
    by_cases j:0<=sgn m T y
    . exact⟨m,T,_,Q y V j⟩
    . have L:=Xay m T
      exact⟨m,T,_,Q (Tow.neg m y) (by rw[L.mn,L.nm,L.nn,V]) (by rw[(Xaq (Xad Z)).sn];omega)⟩
  . exact⟨_,_,_,h2 hs⟩
theorem Xm9(W:Wy c G S)(ht:TOk G S k t ρ)(hu:TOk G S l u ρu): C0 214 [.d (dt t),.d (dt u)] (λv=>∃m T j,v=.tup (.pr (.d (dt T)) (.pr (.d (dts j)) (.d (.int .i64 0))))/\ExF c G S l k t ρ ρu (l,⟨m,T⟩,j)):=by
 have hl3:=W.le hu
 have hH:=W.k.h
 refine En Tryz.func214 λ_ _ _=>?_
 refine Nl 7 7 1 rfl ?_
 refine Lo (λ(x:Nat×(Σ m,Tw m)×List (List Rat))=>[(0,.d (dt x.2.1.2)),(1,.d (dt u)),(7,.gr 7 1 (x.2.2.map dqs)),(8,.d (.int .i64 x.1))]) (λx=>[(7,.tok (x.2.2.map dqs).length 1)])
  (ExF c G S l k t ρ ρu) (λx=>l-x.1) (0,⟨k,t⟩,[]) [] rfl (ExF.start ht) (λ(i,⟨m,T⟩,j) hF=>?_)
 have I:=hF
 obtain⟨⟨hi,V,ρ',Q,_⟩,_⟩:=hF
 simp only at hi V Q
 have O:=W.le Q
 have hz:=W.t Q
 refine By rfl (λh=>?_) λh=>?_<;>simp only[lt',Xaa] at h
 . have Z:i<l:=by omega
   obtain⟨x,σ,x1,x2,s1,_,hsz,h0,k1,k2⟩:=I.step W hu Z
   obtain⟨q1,q2,q3,q4⟩:=exB W.k O
   have hE:=Xyj O (show i<c.H by omega)
   have hR:=W.k.r
   have hE':=W.k.e
   have o:(j.map dqs).length<=c.H:=by rw[W0i];omega
   refine Ix i rfl (mp x1) ?_
   refine Ce rfl (Xd8 (k:=m) (T:=T) hz (by omega) s1 x2 (by omega) (by omega)) ?_
   refine Ca rfl (R8.Adjoin_ok (k:=m) (t:=T) hz hsz Q.r (by omega) q1 q2 q3 q4) λv hv=>?_
   rcases hv with ⟨h1,rfl⟩ | ⟨y,h1,h2,rfl⟩ | ⟨h1,h2,h3,rfl⟩
   . omega
   . refine No rfl (by simp) ?_
     refine ApG ((j++[toL m y]).map dqs) rfl (by simp) (by simp at o |-;omega) ?_
     refine Ar (i+1:Nat) rfl ?_
     exact Bk (i+1,⟨m,T⟩,j++[toL m y]) [(38,7)] rfl (k1 y h1 h2) (by show l-(i+1)<l-i;omega)
   . refine No rfl (by simp) ?_
     refine ApG ((j++[toL (m+1) (Xcw (m+1) m)]).map dqs) rfl (by simp) (by simp at o |-;omega) ?_
     refine Ar (i+1:Nat) rfl ?_
     exact Bk (i+1,⟨m+1,tsn T (ev T σ i x)⟩,j++[toL (m+1) (Xcw (m+1) m)]) [(38,7)] rfl (k2 h2) (by show l-(i+1)<l-i;omega)
 . obtain rfl:i=l:=by omega
   exact Rt rfl (.tup (.cons (.rf rfl) (.cons (.gr rfl) Xa1))) ⟨m,T,j,rfl,I⟩
theorem Yjn(W:Wy c G S){m p:Nat}{T:Tw m}{o:Nat->Tow.El K}(Q:TOk G S m T o)(Z:TOk G S l u ρu)(I:∀j,j<l->∃e:Tow.El m,ev G o m e=ρu j){a:Tow.El l}(ha:Sz p (toL l a)): ∃b:Tow.El m,ev G o m b=ev G ρu l a/\Sz (jW c p) (toL m b):=by
 obtain⟨σ,O⟩:=Go.Tow.choose (P:=(·<l)) I
 have V:=W.le Z
 exact⟨ev T σ l a,Xi6 Q.h O,(Xjm (W.t Q) (λi h=>(W.z Q Z i h (λj hj=>I j (by omega)) (σ i) (O i h)).mono (W.k.z i (by omega))) ha).mono (Xvw (W.le Q) V)⟩
end
section
variable{c:Fg}{K:Nat}{G:Tw K}{S:List (Tow.El K)}{r p:Nat}{x y:Nm}{vx vy:Tow.El K}
open Classical in
noncomputable def jV(G:Tw K)(x y:Nm)(h i:Nat->Tow.El K): List (Tow.El K):=if x.k<y.k/\Beg x.k x.t y.k y.t then vls i y.k else if Beg y.k y.t x.k x.t then vls h x.k else (vls i y.k).foldl (stV G) (vls h x.k)
def CmF(G:Tw K)(S:List (Tow.El K))(x y:Nm)(h i:Nat->Tow.El K)(m:Nat)(T:Tw m): Prop:=CmP G S x y m T/\∃ρ,TOk G S m T ρ/\vls ρ m=jV G x y h i
theorem CmF.un(hG:red K G){i j:Nat->Tow.El K}{m n:Nat}{T:Tw m}{U:Tw n}(h:CmF G S x y i j m T)(o:CmF G S x y i j n U): ∃e:m=n,e ▸ T=U:=by
 obtain⟨_,ρ,I,O⟩:=h
 obtain⟨_,σ,Q,V⟩:=o
 obtain⟨rfl,Z⟩:=Ybh (O.trans V.symm)
 exact⟨rfl,I.un hG Q Z⟩
theorem CmF.ex(W:Wy c G S){o I:Nat->Tow.El K}(i:TOk G S x.k x.t o)(j:TOk G S y.k y.t I): ∃m T,CmF G S x y o I m T:=by
 have hG:=W.g
 by_cases O:x.k<y.k/\Beg x.k x.t y.k y.t
 . exact⟨y.k,y.t,.mk hG i j j (beg_rt hG O.2 i j) rts,I,j,by rw[jV,if_pos O]⟩
 by_cases Q:Beg y.k y.t x.k x.t
 . exact⟨x.k,x.t,.mk hG i j i rts (beg_rt hG Q j i),o,i,by rw[jV,if_neg O,if_pos Q]⟩
 obtain⟨m,T,rs,h⟩:=ExF.ex W i j y.k (W0a _)
 obtain⟨⟨_,_,ρ',hT,hB,ha,V,hc⟩,Z,hV,hv⟩:=h
 exact⟨m,T,.ext hG i j hT hB V,Z,hV,by rw[jV,if_neg O,if_neg Q];exact hv⟩
theorem Ya3(W:Wy c G S)(hx:NOk G S r p x vx)(hy:NOk G S r p y vy)(hp:oW c p<=4398046511104){O Q:Nat->Tow.El K}(o:TOk G S x.k x.t O)(I:TOk G S y.k y.t Q): C0 135 [.d (dNs [x,y])] λv=>∃m T a b,v=.tup (.pr (.d (dNs [⟨m,T,a⟩,⟨m,T,b⟩])) (.d (.int .i64 0)))/\JnR c G S p vx vy m T a b/\CmF G S x y O Q m T:=by
 have hG:=W.g
 have hR:=W.k.r
 have hH:=W.k.h
 have hO:oW c p=2*jW c p+cB c.R c.H+1:=rfl
 have hpj:p<=jW c p:=Xvx
 have hx3:=W.le o
 have hy3:=W.le I
 have hxr:=W.t o
 have hyr:=W.t I
 refine En Tryz.func135 λ_ _ _=>?_
 refine Nd 4 1 rfl ?_
 refine Lo (λ(s:Nat×(Σ m,Tw m))=>[(0,.d (dNs [x,y])),(4,.d (dt s.2.2)),(5,.d (.int .i64 s.1))]) (λ_=>[]) (λs=>(s.1=0/\s.2=⟨0,()⟩)\/(s.1=1/\s.2=⟨x.k,x.t⟩)\/(s.1=2/\CmF G S x y O Q s.2.1 s.2.2)) (λs=>2-s.1) (0,⟨0,()⟩) [] rfl (.inl ⟨rfl,rfl⟩) (λ(i,⟨m,T⟩) hI=>?_)
 simp only at hI
 rcases hI with ⟨rfl,e⟩ | ⟨rfl,e⟩ | ⟨rfl,hP⟩
 . cases e
   refine Yes rfl (show (0:Int)<2 by decide) ?_
   refine Ix 0 rfl (u:=dN x) rfl ?_
   refine By rfl (λh=>?_) λh=>?_
   . refine Ix 0 rfl (u:=dN x) rfl ?_
     refine Ce rfl (begins_ok (U:=[]) (q:=1) (TS.pt hxr) (λi r h=>by simp at h) (by omega) (by rw[Xaa];omega)) ?_
     refine Yes rfl (by simp) ?_
     refine Ix 0 rfl (u:=dN x) rfl ?_
     refine Ar (0+1:Nat) rfl ?_
     exact Bk (1,⟨x.k,x.t⟩) [] rfl (.inr (.inl ⟨rfl,rfl⟩)) (show 1<2 by decide)
   . have h:¬(((toT x.k x.t).map dqs).length:Int)>0:=h
     have hk0:x.k=0:=by rw[lt',Xaa] at h;omega
     refine Ix 0 rfl (u:=dN x) rfl ?_
     have e0:toT x.k x.t=[]:=W4g.1 (by rw[Xaa,hk0])
     refine Ce rfl (begins_ok (T:=[]) (U:=toT x.k x.t) (p:=1) (q:=c.R) (λi r h=>by simp at h) (TS.pt hxr) (by omega) (by decide)) ?_
     refine No rfl (by rw[e0];simp) ?_
     refine Ar (0+1:Nat) rfl ?_
     have e1:(dt (k:=0) ())=dt x.t:=by show dts []=dts (toT x.k x.t);rw[e0]
     rw[e1]
     exact Bk (1,⟨x.k,x.t⟩) [] rfl (.inr (.inl ⟨rfl,rfl⟩)) (show 1<2 by decide)
 . cases e
   have last:¬(x.k<y.k/\Beg x.k x.t y.k y.t)->Beg y.k y.t x.k x.t->CmF G S x y O Q x.k x.t:=λh1 V=>⟨.mk hG o I o rts (beg_rt hG V I o),O,o,by rw[jV,if_neg h1,if_pos V]⟩
   have ext:¬(x.k<y.k/\Beg x.k x.t y.k y.t)->¬Beg y.k y.t x.k x.t->∀ {m:Nat} {T:Tw m} {rs:List (List Rat)},ExF c G S y.k x.k x.t O Q (y.k,⟨m,T⟩,rs)->CmF G S x y O Q m T:=λh1 V m T rs h=>by
    obtain⟨⟨_,_,ρ',hT,hB,ha,hrt,hc⟩,ρv,hV,hv⟩:=h
    exact⟨.ext hG o I hT hB hrt,ρv,hV,by rw[jV,if_neg h1,if_neg V];exact hv⟩
   refine Yes rfl (show (1:Int)<2 by decide) ?_
   refine Ix 1 rfl (u:=dN y) rfl ?_
   refine By rfl (λh=>?_) λh=>?_<;>simp only[lt',Xaa] at h
   . refine Ix 1 rfl (u:=dN y) rfl ?_
     refine Ce rfl (begins_ok (T:=toT y.k y.t) (U:=toT x.k x.t) (TS.pt hyr) (TS.pt hxr) (by omega) (by rw[Xaa];omega)) ?_
     refine By rfl (λh1=>?_) λh1=>?_
     . have hb:x.k<y.k/\Beg x.k x.t y.k y.t:=⟨by omega,h1⟩
       refine Ix 1 rfl (u:=dN y) rfl ?_
       refine Ar (1+1:Nat) rfl ?_
       exact Bk (2,⟨y.k,y.t⟩) [] rfl (.inr (.inr ⟨rfl,.mk hG o I I (beg_rt hG hb.2 o I) rts,Q,I,by rw[jV,if_pos hb]⟩)) (show 0<1 by decide)
     . have n1:¬(x.k<y.k/\Beg x.k x.t y.k y.t):=λe=>h1 e.2
       refine Ix 1 rfl (u:=dN y) rfl ?_
       refine Ce rfl (begins_ok (T:=toT x.k x.t) (U:=toT y.k y.t) (TS.pt hxr) (TS.pt hyr) (by omega) (by rw[Xaa];omega)) ?_
       refine By rfl (λV=>?_) λV=>?_
       . refine Ix 1 rfl (u:=dN y) rfl ?_
         refine Ca rfl (Xm9 W o I) λv hv=>?_
         obtain⟨m,T,rs,rfl,g⟩:=hv
         refine No rfl (by simp) ?_
         refine Ar (1+1:Nat) rfl ?_
         exact Bk (2,⟨m,T⟩) [] rfl (.inr (.inr ⟨rfl,ext n1 V g⟩)) (show 0<1 by decide)
       . refine Ar (1+1:Nat) rfl ?_
         exact Bk (2,⟨x.k,x.t⟩) [] rfl (.inr (.inr ⟨rfl,last n1 (by simp only[Xap,Xaj,W2u] at V;exact V)⟩)) (show 0<1 by decide)
   . have n1:¬(x.k<y.k/\Beg x.k x.t y.k y.t):=λe=>by omega
     refine Ix 1 rfl (u:=dN y) rfl ?_
     refine Ce rfl (begins_ok (T:=toT x.k x.t) (U:=toT y.k y.t) (TS.pt hxr) (TS.pt hyr) (by omega) (by rw[Xaa];omega)) ?_
     refine By rfl (λV=>?_) λV=>?_
     . refine Ix 1 rfl (u:=dN y) rfl ?_
       refine Ca rfl (Xm9 W o I) λv hv=>?_
       obtain⟨m,T,rs,rfl,g⟩:=hv
       refine No rfl (by simp) ?_
       refine Ar (1+1:Nat) rfl ?_
       exact Bk (2,⟨m,T⟩) [] rfl (.inr (.inr ⟨rfl,ext n1 V g⟩)) (show 0<1 by decide)
     . refine Ar (1+1:Nat) rfl ?_
       exact Bk (2,⟨x.k,x.t⟩) [] rfl (.inr (.inr ⟨rfl,last n1 (by simp only[Xap,Xaj,W2u] at V;exact V)⟩)) (show 0<1 by decide)
 . have hP':=hP
   obtain⟨⟨ρ,hT,hcon⟩,_⟩:=hP
   have hTr:=W.t hT
   have hm3:=W.le hT
   refine No rfl (show ¬(2:Int)<2 by decide) ?_
   refine Nl 9 9 2 rfl ?_
   refine Lo (λ(s:Nat×List (Tow.El m))=>[(0,.d (dNs [x,y])),(4,.d (dt T)),(9,.gr 9 2 (s.2.map λa=>dN ⟨m,T,a⟩)),(10,.d (.int .i64 s.1))]) (λs=>[(9,.tok (s.2.map λa=>dN ⟨m,T,a⟩).length 2)])
    (JnI c G p m ρ vx vy) (λs=>2-s.1) (0,[]) [] rfl ⟨W0w _,rfl,λi hi=>absurd hi (W4r _)⟩ (λ(j,bs) hI=>?_)
   have hI':=hI
   obtain⟨hj,hjl,has⟩:=hI
   simp only at hj hjl has
   refine By rfl (λh=>?_) λh=>?_
   . have h:(j:Int)<2:=h
     obtain⟨z,v,ρz,z1,z2,z3,z4,z6⟩:=both hx hy j (by omega)
     have z5:=W.t z3
     have hzu:([x,y].map dN)[j]?=some (dN z):=by rw[W1q,z1];rfl
     have hzm:=hcon z (W0h z1) ρz z3
     have hz3:=W.le z3
     refine Ix j rfl hzu ?_
     refine Ce rfl (begins_ok (T:=toT m T) (U:=toT z.k z.t) (TS.pt hTr) (TS.pt z5) (by omega) (by rw[Xaa];omega)) ?_
     refine By rfl (λh1=>?_) λh1=>?_
     . have hb:Beg z.k z.t m T:=h1
       obtain⟨b,hlb⟩:=Lf.ex hb.le z.a
       have hv1:ev G ρ m b=v:=by rw[hlb.ev hb.le,Xa8 (beg_ag hG hb z3 hT),z4]
       refine Ix j rfl hzu ?_
       refine Ce rfl (Xou (T:=T) hlb hb.le (by omega)) ?_
       refine ApG ((bs++[b]).map λa=>dN ⟨m,T,a⟩) rfl (by simp) (by simp;omega) ?_
       refine Ar (j+1:Nat) rfl ?_
       exact Bk (j+1,bs++[b]) [(113,9)] rfl (hI'.step (by omega) z2 hv1 ((hlb.sz z6).mono hpj)) (by show 2-(j+1)<2-j;omega)
     . refine Ix j rfl hzu ?_
       refine Ca rfl (Xc6 W hT z3) λv' hv=>?_
       obtain⟨m',T',rs,ρ',rfl,g1,g2,g3,g5,g6⟩:=hv
       obtain rfl:m'=m:=by have:=congrArg List.length (g6 hzm);rwa[Xaa,Xaa] at this
       have g5:RtV G m' c.Z z.k rs ρ ρz:=g5.mono (W0a _) (W0a _) (λi hi=>(g3 i hi).symm)
       obtain⟨σ,s1,s2⟩:=g5.sig
       have hbd:=Xvw (p:=p) hm3 hz3
       refine Ix j rfl hzu ?_
       refine Ce rfl (Xd8 hTr (by omega) s1 z6 (by omega) (by omega)) ?_
       refine ApG ((bs++[ev T σ z.k z.a]).map λa=>dN ⟨m',T,a⟩) rfl (by simp) (by simp;omega) ?_
       refine Ar (j+1:Nat) rfl ?_
       exact Bk (j+1,bs++[ev T σ z.k z.a]) [(113,9)] rfl (hI'.step (by omega) z2 (by rw[Xi6 hT.h s2,z4]) (img W hT z3 s1 z6)) (by show 2-(j+1)<2-j;omega)
   . have h:¬(j:Int)<2:=h
     obtain rfl:j=2:=by omega
     obtain⟨a,b,rfl,hJ⟩:=hI'.done hT
     exact Rt rfl (.tup (.cons (.gr rfl) Xa1)) ⟨m,T,a,b,rfl,hJ,hP'⟩
theorem Ygp(W:Wy c G S)(V:NOk G S r p x vx)(Z:NOk G S r p y vy)(hp:oW c p<=4398046511104): ∃m T a b,C0 135 [.d (dNs [x,y])] (·=.tup (.pr (.d (dNs [⟨m,T,a⟩,⟨m,T,b⟩])) (.d (.int .i64 0))))/\JnR c G S p vx vy m T a b:=by
 have hG:=W.g
 obtain⟨ρx,i,I⟩:=V.ex
 obtain⟨ρy,j,O⟩:=Z.ex
 obtain⟨m,T,hC⟩:=CmF.ex W i j
 obtain⟨ρ,o,Q⟩:=hC.1
 obtain⟨a,a1,a2⟩:=Yjn W o i (Q x W0l ρx i) V.p
 obtain⟨b,b1,b2⟩:=Yjn W o j (Q y (W0o _ W0l) ρy j) Z.p
 refine⟨m,T,a,b,(Ya3 W V Z hp i j).mono λv ⟨m',T',a',b',e,⟨ρ',k1,k2,k3,_⟩,hC'⟩=>?_,ρ,o,a1.trans I,b1.trans O,a2,b2⟩
 obtain⟨e1,e2⟩:=hC'.un hG hC
 subst e1
 have e2:T'=T:=e2
 subst e2
 have hu:=k1.h.uniq hG o.h
 have ea:a'=a:=Xcx (Xad hG) o.h o.r (by rw[a1,I,<-k2];exact(Xa8 hu).symm)
 have eb:b'=b:=Xcx (Xad hG) o.h o.r (by rw[b1,O,<-k3];exact(Xa8 hu).symm)
 rw[e,ea,eb]
theorem Ybm(W:Wy c G S)(i:NOk G S r p x vx)(j:NOk G S r p y vy)(hp:oW c p<=4398046511104): ∃m T a b,C0 78 [.d (dN x),.d (dN y)] (·=.tup (.pr (.d (dN ⟨m,T,a⟩)) (.pr (.d (dN ⟨m,T,b⟩)) (.d (.int .i64 0)))))/\JnR c G S p vx vy m T a b:=by
 obtain⟨m,T,a,b,o,h⟩:=Ygp W i j hp
 refine⟨m,T,a,b,?_,h⟩
 refine En Tryz.func78 λ_ _ _=>?_
 refine Ce rfl o ?_
 refine No rfl (by simp) ?_
 refine Dz rfl ?_
 refine Ix 0 rfl (u:=dN ⟨m,T,a⟩) rfl ?_
 refine Ix 1 rfl (u:=dN ⟨m,T,b⟩) rfl ?_
 exact RTt rfl (.cons (.rf rfl) (.cons (.rf rfl) Xa1))
def OpX(c:Fg)(f:FuncId)(x y:Nm)(G:Tw K)(S:List (Tow.El K))(p:Nat)(w:Tow.El K): Prop:=∃z:Nm,C0 f [.d (dN x),.d (dN y)] (·=.tup (.pr (.d (dN z)) (.d (.int .i64 0))))/\NOk G S c.R p z w
theorem Yde(W:Wy c G S)(I:NOk G S r p x vx)(O:NOk G S r p y vy)(hp:oW c p<=4398046511104): OpX c 32 x y G S (oW c p) (Tow.add K vx vy):=by
 have hO:oW c p=2*jW c p+cB c.R c.H+1:=rfl
 have hH:=W.k.h
 obtain⟨m,T,a,b,Q,ρ,i,V,Z,j,o⟩:=Ybm W I O hp
 have h2:=W.t i
 have hm:=W.le i
 refine⟨⟨m,T,Tow.add m a b⟩,?_,⟨ρ,i,by rw[<-V,<-Z];exact Xcy⟩,h2,by rw[Xav];exact(j.add o).mono (by omega)⟩
 refine En Tryz.func32 λ_ _ _=>?_
 refine Ce rfl Q ?_
 refine No rfl (by simp) ?_
 refine Dw rfl ?_
 refine Ce rfl (R6.Add_el (k:=m) (a:=a) (b:=b) (by omega) j.ps o.ps (by omega)) ?_
 exact RTt rfl (.cons (.rf rfl) Xa1)
theorem Ydd(W:Wy c G S)(O:NOk G S r p x vx)(Q:NOk G S r p y vy)(hp:oW c p<=4398046511104): OpX c 123 x y G S (oW c p) (Tow.mul K G vx vy):=by
 have hO:oW c p=2*jW c p+cB c.R c.H+1:=rfl
 have hH:=W.k.h
 obtain⟨m,T,a,b,V,ρ,i,Z,h4,o,I⟩:=Ybm W O Q hp
 have j:=W.t i
 have hm:=W.le i
 have hc:=Xfe (r:=c.R) hm
 refine⟨⟨m,T,Tow.mul m T a b⟩,?_,⟨ρ,i,by rw[<-Z,<-h4];exact Xa5 i.h⟩,j,(o.mul j I).mono (by omega)⟩
 refine En Tryz.func123 λ_ _ _=>?_
 refine Ce rfl V ?_
 refine No rfl (by simp) ?_
 refine Dw rfl ?_
 refine Ce rfl (R6.Mul_el (k:=m) (t:=T) (a:=a) (b:=b) j o I (by omega) (by omega)) ?_
 exact RTt rfl (.cons (.rf rfl) Xa1)
theorem Yli(W:Wy c G S)(j:NOk G S r p x vx)(i:NOk G S r p y vy)(hp:oW c p<=4398046511104): OpX c 118 x y G S (oW c p) (Tow.add K vx (Tow.neg K vy)):=by
 have:=i.le (Xad W.g) W.s
 have O:=W.k.h
 have Q:oW c p=2*jW c p+cB c.R c.H+1:=rfl
 have o:p<=jW c p:=Xvx
 obtain⟨z,I,h⟩:=Yde W j i.neg hp
 refine⟨z,?_,h⟩
 refine En Tryz.func118 λ_ _ _=>?_
 refine Dw rfl ?_
 refine Ce rfl (Neg_ok i (by omega) (by omega)) ?_
 refine Ce rfl I ?_
 exact R0t
theorem Yll(W:Wy c G S){q:Nat}(V:NOk G S r q x vx)(j:NOk G S r p y vy)(hq:iS r c.H p<=q)(hi:iB r c.H p<=4398046511104)(hp:oW c q<=4398046511104):
 (vy=zero K/\C0 198 [.d (dN x),.d (dN y)] (·=.tup (.pr (.d n0) (.d (.int .i64 6)))))\/∃w,Tow.mul K G w vy=rat K 1/\OpX c 198 x y G S (oW c q) (Tow.mul K G vx w):=by
 have I:=j.le (Xad W.g) W.s
 have hH:=W.k.h
 obtain⟨ρ,O,Q⟩:=j.ex
 by_cases h0:y.a=zero y.k
 . refine .inl ⟨by rw[<-Q,h0,Xd9],?_⟩
   refine En Tryz.func198 λ_ _ _=>?_
   have T:=R6.Inv0_ok (t:=y.t) (by omega)
   rw[<-h0] at T
   refine Ce rfl T ?_
   refine Yes rfl (by decide) ?_
   exact RTt rfl (.cons fit0 Xa1)
 . obtain⟨i,o⟩:=(Xcs O.r).2 y.a h0
   have Z:=Yju (r:=r) (p:=p) I
   have hls:=Yfd (r:=r) (p:=p) I
   have hz:NOk G S r q ⟨y.k,y.t,i⟩ (ev G ρ y.k i):=⟨⟨ρ,O,rfl⟩,j.r,(Sz.invS j.r j.p o).mono (by omega)⟩
   obtain⟨z,hm,h⟩:=Ydd (y:=⟨y.k,y.t,i⟩) W V hz hp
   refine .inr ⟨ev G ρ y.k i,by rw[<-Q,<-Xa5 O.h,Xce o,Xc7],z,?_,h⟩
   refine En Tryz.func198 λ_ _ _=>?_
   refine Ce rfl (R6.Inv_ok j.r j.p O.r o (by omega) (by omega)) ?_
   refine No rfl (by simp) ?_
   refine Ce rfl hm ?_
   exact R0t
def RtP(x z:Nm): Prop:=(∃y,z=⟨x.k,x.t,y⟩/\Tow.mul x.k x.t y y=x.a/\0<=sgn x.k x.t y)\/(z=⟨x.k+1,tsn x.t x.a,Xcw (x.k+1) x.k⟩/\0<=sgn x.k x.t x.a/\¬Xcu x.k x.t x.a)
theorem Ygl(hr:red x.k x.t)(hT:TS r x.k x.t)(ha:Sz p (toL x.k x.a))(h0:0<=sgn x.k x.t x.a)(hk:x.k<8)(hq:qB r x.k p<=4398046511104)(j:qB r x.k r<=4398046511104)(i:vB r x.k (p+gC r x.k)<=4398046511104)(o:vB r x.k r<=4398046511104):
 ∃z:Nm,C0 199 [.d (dN x)] (·=.tup (.pr (.d (dN z)) (.d (.int .i64 0))))/\RtP x z:=by
 have h:=Sqrt_ok hr hT ha h0 hk hq j i o
 by_cases hs:Xcu x.k x.t x.a
 . obtain⟨y,Q,T⟩:∃y,mul x.k x.t y y=x.a/\0<=sgn x.k x.t y:=by
    obtain⟨y,V⟩:=hs
    by_cases I:0<=sgn x.k x.t y
    . exact⟨y,V,I⟩
    . have L:=Xay x.k x.t
      exact⟨Tow.neg x.k y,by rw[L.mn,L.nm,L.nn,V],by rw[(Xaq (Xad hr)).sn];omega⟩
   refine⟨⟨x.k,x.t,y⟩,h.mono λv i=>?_,.inl ⟨y,rfl,Q,T⟩⟩
   obtain⟨z,e,⟨Z,rfl,O,k2⟩ | ⟨_,_,k⟩⟩:=i
   . rw[e,Xjs hr (O.trans Q.symm) k2 T]
   . exact absurd hs k
 . refine⟨⟨x.k+1,tsn x.t x.a,Xcw (x.k+1) x.k⟩,h.mono λv i=>?_,.inr ⟨rfl,h0,hs⟩⟩
   obtain⟨z,e,⟨Z,_,O,_⟩ | ⟨rfl,_,_⟩⟩:=i
   . exact absurd ⟨Z,O⟩ hs
   . exact e
end
end Go.Proofs.YtfjafaehfjjaiaaGreatDoor.R9

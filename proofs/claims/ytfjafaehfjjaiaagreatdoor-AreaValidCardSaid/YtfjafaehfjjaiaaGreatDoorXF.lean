/- part 6 -/
import Derived.Test.YtfjafaehfjjaiaaGreatDoorXE
import Derived.Lib.Bytealg
import Derived.Shelf.Strings.AsciiSet
import Derived.RangeFuncLeaves
import Derived.ControlIn
import Derived.Shelf.Strings.BuilderK
import Derived.RangeFuncCalls
set_option linter.unusedVariables false
set_option linter.unusedSimpArgs false
set_option maxRecDepth 100000
set_option maxHeartbeats 4000000
namespace Go.Proofs.YtfjafaehfjjaiaaGreatDoor
open Go Go.Vm Go.Num Go.Tow
section
section
variable{K:Nat}{G:Tw K}{S:List (Tow.El K)}{N:List Nm}{n m k:Nat}{x y z:Nm}{a b v w:Tow.El K}{u s t:Vn}{p q r:V2 K}
theorem R13.first_ok: C0 158 [.d (.int .i64 0),.d (.int .i64 0)] (·=.d (.int .i64 0)):=by
 refine En Tryz.func158 λ_ _ _=>?_
 refine No rfl (by decide) ?_
 exact R0
theorem R13.vec_ok{x y:Nm}: C0 267 [.d (dN x),.d (dN y),.d (.int .i64 0)] (·=.tup (.pr (.d (dV ⟨x,y⟩)) (.d (.int .i64 0)))):=by
 refine En Tryz.func267 λ_ _ _=>?_
 refine No rfl (by decide) ?_
 exact RTt rfl (.cons (.rf rfl) Xa7)
theorem R13.Add_g(W:Wn G S N)(hu:Gv G S N n u p)(hs:Gv G S N m s q)(hn:n<=400)(hm:m<=400): C0 205 [.d (dV u),.d (dV s)] (VoG G S N (n+m) (Yf5 p q)):=by
 refine En Tryz.func205 λ_ _ _=>?_
 refine Ca rfl (R9.Add_g W hu.x hs.x hn hm) λv hv=>?_
 obtain⟨z,rfl,hz⟩:=hv
 refine Ca rfl (R9.Add_g W hu.y hs.y hn hm) λv hv=>?_
 obtain⟨w,rfl,hw⟩:=hv
 refine Dw rfl ?_
 refine Ce rfl R13.first_ok ?_
 refine Ce rfl R13.vec_ok ?_
 exact Rt rfl (.tup (.cons (.rf rfl) Xa7)) ⟨⟨z,w⟩,rfl,hz,hw⟩
theorem R13.Neg_g(W:Wn G S N)(hu:Gv G S N n u p)(hn:n<=400): C0 206 [.d (dV u)] (VeG G S N n (neg K p.1,neg K p.2)):=by
 refine En Tryz.func206 λ_ _ _=>?_
 refine Dw rfl ?_
 refine Ca rfl (R9.Neg_g W hu.x hn) λv hv=>?_
 obtain⟨z,rfl,hz⟩:=hv
 refine Ca rfl (R9.Neg_g W hu.y hn) λv hv=>?_
 obtain⟨w,rfl,hw⟩:=hv
 exact Rt rfl (.one (.rf rfl) rfl rfl) ⟨⟨z,w⟩,rfl,hz,hw⟩
theorem R13.Sub_g(W:Wn G S N)(hu:Gv G S N n u p)(hs:Gv G S N m s q)(hn:n<=400)(hm:m<=400): C0 127 [.d (dV u),.d (dV s)] (VoG G S N (n+m) (Xxn p q)):=by
 refine En Tryz.func127 λ_ _ _=>?_
 refine Dw rfl ?_
 refine Ca rfl (R13.Neg_g W hs hm) λv hv=>?_
 obtain⟨r,rfl,hr⟩:=hv
 refine Ca rfl (R13.Add_g W hu hr hn hm) λv hv=>?_
 obtain⟨z,rfl,hz⟩:=hv
 exact Rt rfl (.tup (.cons (.rf rfl) Xa7)) ⟨z,rfl,hz⟩
theorem R13.Square_g(W:Wn G S N)(hu:Gv G S N n u p)(hn:n+n<=400): C0 125 [.d (dV u)] (OpG G S N (n+n+(n+n)) (Xhq G p p)):=by
 refine En Tryz.func125 λ_ _ _=>?_
 refine Ca rfl (R13.Dot_g W hu hu (by omega) (by omega) hn) λv hv=>?_
 obtain⟨z,rfl,hz⟩:=hv
 exact Rt rfl (.tup (.cons (.rf rfl) Xa7)) ⟨z,rfl,hz⟩
theorem R15.vec_ok{u:Vn}: CN0 126 [.ptr 1000001 0,.d (dV u),.d (.int .i64 0)] [(1000001,cal)] (·=.d (dV u)):=by
 refine EnW Tryz.func126 λ_ _ _ _=>?_
 refine Cn [] rfl R15.note_ok λv hv=>?_
 refine No rfl (by decide) ?_
 exact Rw [] [(1000001,cal)] rfl (.one (.rf rfl) rfl rfl) ⟨rfl,rfl⟩
theorem R15.Minus_g(W:Wn G S N)(hu:Gv G S N n u p)(hs:Gv G S N m s q)(hn:n<=400)(hm:m<=400): CN0 71 [.ptr 1000001 0,.d (dV u),.d (dV s)] [(1000001,cal)] (VeG G S N (n+m) (Xxn p q)):=by
 refine EnW Tryz.func71 λ_ _ _ _=>?_
 refine Ca rfl (R13.Sub_g W hu hs hn hm) λv hv=>?_
 obtain⟨z,rfl,hz⟩:=hv
 refine Cn [] rfl R15.vec_ok λv hv=>?_
 subst hv
 exact Rw [] [(1000001,cal)] rfl (.one (.rf rfl) rfl rfl) ⟨rfl,z,rfl,hz⟩
theorem R15.Square_g(W:Wn G S N)(hu:Gv G S N n u p)(hn:n+n<=400): CN0 70 [.ptr 1000001 0,.d (dV u)] [(1000001,cal)] (OnG G S N (n+n+(n+n)) (Xhq G p p)):=by
 refine EnW Tryz.func70 λ_ _ _ _=>?_
 refine Ca rfl (R13.Square_g W hu hn) λv hv=>?_
 obtain⟨z,rfl,hz⟩:=hv
 refine Cn [] rfl R15.num_ok λv hv=>?_
 subst hv
 exact Rw [] [(1000001,cal)] rfl (.one (.rf rfl) rfl rfl) ⟨rfl,z,rfl,hz⟩
theorem R15.Dot_g(W:Wn G S N)(hu:Gv G S N n u p)(hs:Gv G S N m s q)(hn:n<=400)(hm:m<=400)(h2:n+m<=400): CN0 51 [.ptr 1000001 0,.d (dV u),.d (dV s)] [(1000001,cal)] (OnG G S N (n+m+(n+m)) (Xhq G p q)):=by
 refine EnW Tryz.func51 λ_ _ _ _=>?_
 refine Ca rfl (R13.Dot_g W hu hs hn hm h2) λv hv=>?_
 obtain⟨z,rfl,hz⟩:=hv
 refine Cn [] rfl R15.num_ok λv hv=>?_
 subst hv
 exact Rw [] [(1000001,cal)] rfl (.one (.rf rfl) rfl rfl) ⟨rfl,z,rfl,hz⟩
theorem R15.Far_g(W:Wn G S N)(hu:Gv G S N n u p)(hs:Gv G S N m s q)(h2:n+m+(n+m)<=400): CN0 26 [.ptr 1000001 0,.d (dV u),.d (dV s)] [(1000001,cal)] (OnG G S N (n+m+(n+m)+(n+m+(n+m))) (Xhq G (Xxn p q) (Xxn p q))):=by
 refine EnW Tryz.func26 λ_ _ _ _=>?_
 refine Cn [] rfl (R15.Minus_g W hu hs (by omega) (by omega)) λv hv=>?_
 obtain⟨r,rfl,hr⟩:=hv
 refine Cn [] rfl (R15.Square_g W hr h2) λv hv=>?_
 obtain⟨z,rfl,hz⟩:=hv
 exact Rw [] [(1000001,cal)] rfl (.one (.rf rfl) rfl rfl) ⟨rfl,z,rfl,hz⟩
end
end
section
theorem RtOf.mg2{r s:Rat×Rat}{b j:Nat}(R:RtOf r b s)(hr:r.2<=pw (2*j))(h0:0<=r.2): 0<=s.1/\s.2<=pw (j+1):=by
 have h1:=Xhy (b:=b) h0
 have h2:=Xda (mx0 r.1) b
 rw[<-R.lo] at h2
 refine⟨h2,?_⟩
 have h3:Xdq r.2 b<=pw j:=Xqp (W2q (Xa0 j)) (W5p h1 (by rw[<-Yba];exact hr))
 have h4:=R.h
 have h5:=Xkd b
 have h6:=Xg1 j
 rw[Xcx]
 grind
def mE(m:Nat): Nat->Nat->Nat
 | 0,M=>M
 | k+1,M=>mE m k M+(mE m k m+1)/2+2
def eE(m b:Nat): Nat->Nat->Nat
 | 0,_=>2*b-2
 | k+1,M=>min (eE m b k M) (eE m b k m/2)-(max (mE m k M) ((mE m k m+1)/2)+3)
theorem Yi8(m b:Nat): ∀k M,eE m b k M<=2*b-2
 | 0,_=>W0a _
 | k+1,M=>by have:=Yi8 m b k M;show min (eE m b k M) (eE m b k m/2)-(max (mE m k M) ((mE m k m+1)/2)+3)<=_;omega
theorem Yjo{k:Nat}{t:Tw (k+1)}{m b:Nat}(h:Xb4 (k+1) t)(hr:Mg (bx k t.1 t.2 b) (mE m k m)): 0<=(rtb (bx k t.1 t.2 b) b).1/\(rtb (bx k t.1 t.2 b) b).2<=pw ((mE m k m+1)/2+1) :=
 (Xpz _ b).mg2 (W5p hr.2 (Xh7 (by omega))) (Xl4 h (Xoy h.1 t.2 b))
theorem Xm9: ∀ {k:Nat} {t:Tw k} {a:El k} {m M:Nat} (b:Nat),Xb4 k t->MgT m k t->MgL M (toL k a)->Mg (bx k t a b) (mE m k M)
 | 0,t,a,m,M,b,h,hT,ha=>Yhz (ha _ (W0h.2 rfl))
 | k+1,t,a,m,M,b,h,hT,ha=>by
  have hu:=Xm9 (a:=a.1) (M:=M) b h.1 hT.1 λx hx=>ha x (W2k _ hx)
  have hv:=Xm9 (a:=a.2) (M:=M) b h.1 hT.1 λx hx=>ha x (W1o _ hx)
  have hr:=Xm9 (M:=m) b h.1 hT.1 hT.2
  have h0:=Xl4 h (Xoy h.1 t.2 b)
  rw[Xox]
  exact Xpm hu hv (Yjo h hr) (Yg0 h0 (Yjp h.1 _ _)) (Yjp h.1 _ _)
theorem Xg7: ∀ {k:Nat} {t:Tw k} {a:El k} {m M b:Nat},Xb4 k t->MgT m k t->MgL M (toL k a)->0<eE m b k M->Wid (bx k t a b) (eE m b k M)
 | 0,t,a,m,M,b,h,hT,ha,he=>⟨W6r,(λ(x:Rat)=>(by grind:(x-x)*pw (eE m b 0 M)<=1)) a⟩
 | k+1,t,a,m,M,b,h,hT,ha,he=>by
  have he':0<min (eE m b k M) (eE m b k m/2)-(max (mE m k M) ((mE m k m+1)/2)+3):=he
  have hle:=Yi8 m b k m
  have hu:=Xg7 (a:=a.1) (m:=m) (M:=M) (b:=b) h.1 hT.1 (λx hx=>ha x (W2k _ hx)) (by omega)
  have hv:=Xg7 (a:=a.2) (m:=m) (M:=M) (b:=b) h.1 hT.1 (λx hx=>ha x (W1o _ hx)) (by omega)
  have hr:=Xg7 (m:=m) (M:=m) (b:=b) h.1 hT.1 hT.2 (by omega)
  have mv:=Xm9 (a:=a.2) (M:=M) b h.1 hT.1 λx hx=>ha x (W1o _ hx)
  have mr:=Xm9 (M:=m) b h.1 hT.1 hT.2
  have ms:=Yjo h mr
  have h0:=Xl4 h (Xoy h.1 t.2 b)
  rw[Xox]
  exact Xpl (m:=max (mE m k M) ((mE m k m+1)/2)) (hu.mono (by omega)) (hv.mono (by omega)) hr (by omega) (mv.mono (by omega)) ⟨ms.1,W5p ms.2 (Xh7 (by omega))⟩ h0 (Xpz _ b) (by omega) (by omega) (by omega)
theorem Ye8{k:Nat}{t:Tw k}{a:El k}(h:Xb4 k t)(hT:MgT 64 k t)(ha:MgL 300 (toL k a))(hk:k<=3): Wid (bx k t a 2048) 1:=by
 have hk:k=0\/k=1\/k=2\/k=3:=by omega
 rcases hk with rfl | rfl | rfl | rfl
 . exact(Xg7 h hT ha (show 0<eE 64 2048 0 300 by decide)).mono (by decide)
 . exact(Xg7 h hT ha (show 0<eE 64 2048 1 300 by decide)).mono (by decide)
 . exact(Xg7 h hT ha (show 0<eE 64 2048 2 300 by decide)).mono (by decide)
 . exact(Xg7 h hT ha (show 0<eE 64 2048 3 300 by decide)).mono (by decide)
theorem Xiv{k:Nat}{t:Tw k}{a:El k}{m:Nat}(h:Xb4 k t)(hT:MgT m k t)(ha:MgL m (toL k a))(hk:k<=3)(hm:m<=10000): ∀b,1000000<=b->Wid (enc k t a b) 1:=λb hb=>by
 have key:∀e,(0<e->Wid (enc k t a b) e)->1<=e->Wid (enc k t a b) 1:=λe h1 h2=>(h1 (by omega)).mono h2
 refine key _ (λhe=>Xq0 h hT ha he) ?_
 have hk:k=0\/k=1\/k=2\/k=3:=by omega
 rcases hk with rfl | rfl | rfl | rfl<;>simp only[eW,mW]<;>omega
end
section
theorem Zs.pow{q:Nat}{z:Int}(h:Zs q z)(n:Nat): Zs (q*n+1) (z^n):=by
 unfold Zs at *
 rw[Int.natAbs_pow]
 have h1:z.natAbs^n<=(2^q)^n:=Nat.pow_le_pow_left (W2h h) n
 rw[<-W5w] at h1
 rw[W0y]
 have:=W0r (q*n)
 omega
theorem Zs.len2{q:Nat}{z:Int}(h:Zs q z)(hq:q<=8000000000000): (dig z.natAbs).length<=274877906944:=by
 have h1:z.natAbs<4294967296^(q/32+1):=by
  rw[show 4294967296=2^32 from rfl,<-W5w]
  exact W0v h (W0m (by decide) (by omega))
 have:=Xas h1
 omega
theorem Xy5{a:Int}(ha:(dig a.natAbs).length<=549755813888): C0 298 [.d (dz a),.d (dz 1)] (·=.d (dz (a-1))):=by
 have h1:(dig (Int.natAbs (-1))).length<=549755813888:=W0k (Xas (n:=1) (k:=1) (by decide)) (by decide)
 have h:=Add_ok (a:=a) (b:=-1) ha h1
 have hc:C0 114 [.d (dz a),.d (.st (.pr (.bool (!decide ((1:Int)<0))) (ws (dig (Int.natAbs 1)))))] (·=.d (dz (a-1))):=h
 refine En Tryz.func298 λ_ _ _=>?_
 refine Ce rfl hc ?_
 exact R1 rfl (.rf rfl)
theorem Xua{x:Rat}{p:Nat}(hx:Qs p x)(hp:p<=4398046511104): C0 297 [.d (dq x)] (·=.d (dz x.floor)):=by
 have h:=DivMod_ok (a:=x.num) (b:=x.den) (W0k (hx.n.len (by omega)) (by decide)) (W0k (hx.d.len (by omega)) (by decide)) (Xb1 x)
 have e:x.num.fdiv x.den=x.floor:=by
  have:=Xhm x 0
  rw[show pw 0=1 from rfl,Rat.mul_one,Int.pow_zero,W5m] at this
  exact this
 rw[e] at h
 refine En Tryz.func297 λ_ _ _=>?_
 refine Ce rfl h ?_
 exact R1 rfl (.rf rfl)
theorem Yee{n:Nat}{z:Int}{q:Nat}(hz:Zs q z)(hn:n<=4096)(hq:q<=100000): C0 296 [.d (dz z),.d (.int .i64 n)] (·=.tup (.pr (.d (dz (z^n))) (.d (.int .i64 0)))):=by
 refine En Tryz.func296 λ_ _ _=>?_
 refine No rfl (by omega) ?_
 refine No rfl (by omega) ?_
 refine Dw rfl ?_
 refine Ce rfl (FromInt_ok (z:=1) (by decide)) ?_
 refine Ce rfl (Norm_ok (W0k (hz.len (by omega)) (by decide))) ?_
 refine Lo (λ((m,o,e):Nat×Nat×Nat)=>[(1,.d (.int .i64 m)),(4,.ptr 4 0),(5,.d (.int .i64 0)),(6,.ptr 6 0),(7,.ptr 7 0)]) (λ(m,o,e)=>[(4,.var (.st (.pr (.b false) .nil))),(6,.var (.d (dz (z^o)))),(7,.var (.d (dz (z^e))))]) (λ(m,o,e)=>o+e*m=n/\e<=max n 1/\m<=n) (λ(m,_,_)=>m) (n,0,1) [] rfl ⟨by omega,by omega,W0a n⟩ ?_ (by exact⟨rfl,by show Xsj _ [(4,Ob.var (AV.st (.pr (.b false) .nil))),(6,Ob.var (AV.d (dz (z^0)))),(7,Ob.var (AV.d (dz (z^1))))];rw[Int.pow_zero,show z^1=z by rw[Int.pow_succ,Int.pow_zero,W5n]];rfl,rfl,rfl,rfl⟩)
 rintro⟨m,o,e⟩ ⟨hm,he,hmn⟩
 have hsz:∀j,j<=4096->(dig (z^j).natAbs).length<=549755813888:=λj hj=>by
  have:=Zs.pow hz j
  have hqj:q*j<=100000*4096:=W2b hq hj
  exact W0k (this.len (by omega)) (by decide)
 have ho:o<=4096:=by have:=W0z (e*m);omega
 have he4:e<=4096:=by omega
 refine By rfl (λh=>?_) λh=>?_
 . have h:(m:Int)>0:=h
   have hdm:=W2o m 2
   have hem:e*m=2*(e*(m/2))+e*(m%2):=by
    conv=>lhs;rw[<-hdm,W1c]
    rw[W4w]
   have hq2:arB .quo .i64 (m:Int) 2 ((m/2:Nat):Int):=Yja (m:=2) rfl (by decide) (by omega)
   have sqr:∀e:Nat,z^e*z^e=z^(e+e):=λe=>(Int.pow_add ..).symm
   refine Ar (m%2:Nat) rfl ?_ (show _/\_ from⟨by decide,Xrk m 2⟩)
   refine By rfl (λh1=>?_) λh1=>?_
   . have h1:m%2=1:=by omega
     rw[h1,W4a] at hem
     refine Ce rfl (Mul_ok (hsz o ho) (hsz e he4)) ?_
     rw[<-Int.pow_add]
     refine Ar (m/2:Nat) rfl ?_ hq2
     refine By rfl (λh2=>?_) λh2=>?_
     . have he2:e*1<=e*(m/2):=W0t e (by omega)
       refine Ce rfl (Mul_ok (hsz e he4) (hsz e he4)) ?_
       rw[sqr]
       exact Bk (m/2,o+e,e+e) [] rfl ⟨by rw[W1h];omega,by omega,by omega⟩ (by show m/2<m;omega)
     . have h20:m/2=0:=by omega
       rw[h20] at hem
       exact Bk (m/2,o+e,e) [] rfl ⟨by rw[h20];omega,he,by omega⟩ (by show m/2<m;omega)
   . have h1:m%2=0:=by omega
     rw[h1,W3d] at hem
     refine Ar (m/2:Nat) rfl ?_ hq2
     have he2:e*1<=e*(m/2):=W0t e (by omega)
     refine Yes rfl (by omega) ?_
     refine Ce rfl (Mul_ok (hsz e he4) (hsz e he4)) ?_
     rw[sqr]
     exact Bk (m/2,o,e+e) [] rfl ⟨by rw[W1h];omega,by omega,by omega⟩ (by show m/2<m;omega)
 . have h:¬(m:Int)>0:=h
   have hm0:m=0:=by omega
   rw[hm0,W3d,W2n] at hm
   rw[hm]
   exact RTt rfl (.cons (.rf rfl) Xa7)
theorem Xtr{k:Nat}{t:Tw k}{a:Tow.El k}{P s:Nat}(hR:Xb4 k t)(hw:∀b,P<=b->Wid (enc k t a b) 1)(hT:TS s k t)(ha:Sz s (toL k a))(hs1:1<=s)(hk:k<=16)(hP:P<=1000000000)(he:eB s (2*(P+1+16)) k<=274877906944)(hv:vB s k (s+eB s (2*(P+1+16)) k+4)<=4398046511104):
 C0 238 [.d (dt t),.d (de a)] λv=>∃z,v=.d (dz z)/\Xdh k t a z/\(dig z.natAbs).length<=274877906944:=by
 have hsB:=W0k (Xds (r:=s) k _) hv
 obtain⟨B,hB⟩:∃B,B=eB s (2*(P+1+16)) k:=⟨_,rfl⟩
 have hvs:vB s k s<=4398046511104:=W0k (Xcv (by omega)) hv
 have hE:=Xgx (bits:=1) hR hw hT ha hs1 hk hvs (by decide) hP he
 rw[<-hB] at he hv hsB hE
 have hB1:1<=B:=by rw[hB];exact W0k hs1 (Xzn ..)
 refine En Tryz.func238 λ_ _ _=>?_
 refine Ce rfl (Xk9 (l:=[toL k a]) (s:=s) hT hR hk hvs (by omega) (λx hx=>⟨a,W0h.1 hx,ha⟩) (by simp) (by omega)) ?_
 refine No rfl (by simp) ?_
 refine Ca rfl hE λv hv'=>?_
 obtain⟨p,rfl,hin,hwd,hq⟩:=hv'
 have hz:=Zs.floor hq.2
 have hfl:=Xzc hR hin hwd
 have hl0:=Zs.len2 (z:=p.2.floor) hz (by omega)
 have hl1:=Zs.len2 (z:=p.2.floor-1) (q:=B+1) (by unfold Zs at *;rw[W0y];omega) (by omega)
 have hmk:=Make_ok (p:=B) (a:=p.2.floor) (b:=1) hz (Zs.one (by omega)) (by omega) (by decide)
 rw[Xwm] at hmk
 have qz:Qs B ((p.2.floor:Int):Rat):=Qs.int hz (by omega)
 have hzr:=Sz.rat k qz
 refine Ce rfl (Xua hq.2 (by omega)) ?_
 refine Dw rfl ?_
 refine Ce rfl (FromInt_ok (z:=1) (by decide)) ?_
 refine Ce rfl hmk ?_
 refine Ce rfl (Xcw hT hk (by omega) qz (by omega)) ?_
 refine Ce rfl (Xki hT ha hzr hk (by omega) (by omega)) ?_
 refine Ce rfl (Xkc (s:=s+B+4) hT (by rw[Xav,Xb6];exact(ha.add hzr.neg).mono (by omega)) hk hv (by omega)) ?_
 refine By rfl (λh=>?_) λh=>?_
 . refine Dw rfl ?_
   refine Ce rfl (FromInt_ok (z:=1) (by decide)) ?_
   refine Ce rfl (Xy5 (W0k (hz.len (by omega)) (by decide))) ?_
   exact Rt rfl (.one (.rf rfl) rfl rfl) ⟨_,rfl,hfl.1 h,hl1⟩
 . exact Rt rfl (.one (.rf rfl) rfl rfl) ⟨_,rfl,hfl.2 h,hl0⟩
end
end Go.Proofs.YtfjafaehfjjaiaaGreatDoor
namespace Go.Proofs.YtfjafaehfjjaiaaGreatDoor.P9
open Go Go.Vm Go.Num Go.Tow Go.Proofs.YtfjafaehfjjaiaaGreatDoor
abbrev nq(q:Rat): Nm:=⟨0,(),q⟩
theorem Yh4{k:Nat}{q:Rat}: Lf (k:=0) (m:=k) q (rat k q):=by
 show toL k (rat k q)=[q]++_
 rw[Xcm];rfl
section
variable{r p s:Nat}{x:Nm}{q:Rat}
theorem Xzt(hr:TS r x.k x.t)(hk:x.k<=8)(hr2:r<=4000000000): C0 145 [.d (dNs [x,nq q])] (·=.tup (.pr (.d (dt x.t)) (.d (.int .i64 0)))):=by
 refine En Tryz.func145 λ_ _ _=>?_
 refine Nd 4 1 rfl ?_
 refine Lo (λ(s:Nat×(Σ m,Tw m))=>[(2,.nil),(3,.d (.int .i64 0)),(4,.d (dt s.2.2)),(9,.d (dNs [x,nq q])),(10,.d (.int .i64 2)),(11,.d (.int .i64 s.1))]) (λ_=>[]) (λs=>(s.1=0/\s.2=⟨0,()⟩)\/(s.1=1/\s.2=⟨x.k,x.t⟩)\/(s.1=2/\s.2=⟨x.k,x.t⟩)) (λs=>2-s.1) (0,⟨0,()⟩) [] rfl (.inl ⟨rfl,rfl⟩) (λ(i,⟨m,T⟩) hI=>?_)
 simp only at hI
 rcases hI with ⟨rfl,e⟩ | ⟨rfl,e⟩ | ⟨rfl,e⟩
 . cases e
   refine Yes rfl (show ((0:Nat):Int)<2 by decide) ?_
   refine Ix 0 rfl (u:=dN x) rfl ?_
   refine Ce rfl (begins_ok (T:=[]) (U:=toT x.k x.t) (p:=1) (λi r h=>by simp at h) (TS.pt hr) (by omega) (by decide)) ?_
   refine By rfl (λh=>?_) λh=>?_
   . obtain⟨kx,tx,ax⟩:=x
     have h:[]=toT kx tx:=by simpa using h
     obtain rfl:kx=0:=by have:=congrArg List.length h;rw[Xaa] at this;exact this.symm
     refine Ar (0+1:Nat) rfl ?_
     exact Bk (1,⟨0,tx⟩) [] rfl (.inr (.inl ⟨rfl,rfl⟩)) (show 1<2 by decide)
   . refine Ce rfl (begins_ok (U:=[]) (q:=1) (TS.pt hr) (λi r h=>by simp at h) (by omega) (by rw[Xaa];omega)) ?_
     refine Yes rfl (by simp) ?_
     refine Ar (0+1:Nat) rfl ?_
     exact Bk (1,⟨x.k,x.t⟩) [] rfl (.inr (.inl ⟨rfl,rfl⟩)) (show 1<2 by decide)
 . cases e
   refine Yes rfl (show ((1:Nat):Int)<2 by decide) ?_
   refine Ix 1 rfl (u:=dN (nq q)) rfl ?_
   refine Ce rfl (begins_ok (T:=toT x.k x.t) (U:=[]) (q:=1) (TS.pt hr) (λi r h=>by simp at h) (by omega) (by rw[Xaa];omega)) ?_
   refine Yes rfl (by simp) ?_
   refine Ar (1+1:Nat) rfl ?_
   exact Bk (2,⟨x.k,x.t⟩) [] rfl (.inr (.inr ⟨rfl,rfl⟩)) (show 0<1 by decide)
 . cases e
   refine No rfl (show ¬((2:Nat):Int)<2 by decide) ?_
   exact R0t
theorem Yj9(hr:TS r x.k x.t)(hp:Sz p (toL x.k x.a))(hq:Qs s q)(hk:x.k<=8)(hr2:r<=4000000000)(hp2:p<=4000000000)(hs2:s<4000000000): C0 88 [.d (dNs [x,nq q])] (·=.tup (.pr (.d (dNs [x,⟨x.k,x.t,rat x.k q⟩])) (.d (.int .i64 0)))):=by
 have hc:=Xzt (q:=q) hr hk hr2
 refine En Tryz.func88 λ_ _ _=>?_
 refine Ce rfl hc ?_
 refine No rfl (by decide) ?_
 refine Nl 6 6 2 rfl ?_
 refine Lo (λ(j:Nat)=>[(2,.nil),(3,.d (.int .i64 0)),(4,.d (dt x.t)),(6,.gr 6 2 (([x,⟨x.k,x.t,rat x.k q⟩].take j).map dN)),(20,.d (dNs [x,nq q])),(21,.d (.int .i64 2)),(22,.d (.int .i64 j))]) (λj=>[(6,.tok (([x,⟨x.k,x.t,rat x.k q⟩].take j).map dN).length 2)])
  (λj=>j<=2) (λj=>2-j) 0 [] rfl (W0z _) (λj hj=>?_)
 have hj:j=0\/j=1\/j=2:=by omega
 rcases hj with rfl | rfl | rfl
 . refine Yes rfl (show ((0:Nat):Int)<2 by decide) ?_
   refine Ix 0 rfl (u:=dN x) rfl ?_
   refine Ce rfl (begins_ok (T:=toT x.k x.t) (U:=toT x.k x.t) (TS.pt hr) (TS.pt hr) (by omega) (by rw[Xaa];omega)) ?_
   refine Yes rfl (W2j ..) ?_
   refine Ce rfl (Xqa (T:=x.t) (Lf.rfl' x.a) (W0a _) (by omega)) ?_
   refine Ce rfl (Xeo (x:=x) hr hp (by omega) (by omega) (by omega)) ?_
   refine ApG ([x].map dN) rfl (by simp) (by simp) ?_
   refine Ar (0+1:Nat) rfl ?_
   exact Bk 1 [(6,90),(56,6)] rfl (show 1<=2 by decide) (show 2-1<2-0 by decide)
 . refine Yes rfl (show ((1:Nat):Int)<2 by decide) ?_
   refine Ix 1 rfl (u:=dN (nq q)) rfl ?_
   refine Ce rfl (begins_ok (T:=toT x.k x.t) (U:=[]) (q:=1) (TS.pt hr) (λi r h=>by simp at h) (by omega) (by rw[Xaa];omega)) ?_
   refine Yes rfl (by simp) ?_
   refine Ce rfl (Xqa (k:=0) (T:=x.t) (Yh4 (q:=q)) (W0z _) (by omega)) ?_
   refine Ce rfl (Xeo (x:=⟨x.k,x.t,rat x.k q⟩) hr (Sz.rat x.k hq) (show _<=16 by show x.k<=16;omega) (by omega) (by omega)) ?_
   refine ApG ([x,⟨x.k,x.t,rat x.k q⟩].map dN) rfl (by simp) (by simp) ?_
   refine Ar (1+1:Nat) rfl ?_
   exact Bk 2 [(6,90),(56,6)] rfl (show 2<=2 by decide) (show 2-2<2-1 by decide)
 . refine No rfl (show ¬((2:Nat):Int)<2 by decide) ?_
   exact RTt rfl (.cons (.gr rfl) Xa7)
theorem Xm0{f:FuncId}{z:Tow.El x.k}(hf:C0 f [.d (dt x.t),.d (de x.a),.d (de (rat x.k q))] (·=.d (de z)))(hr:TS r x.k x.t)(hp:Sz p (toL x.k x.a))(hq:Qs s q)(hk:x.k<=8)(hr2:r<=4000000000)(hp2:p<=4000000000)(hs2:s<4000000000): C0 73 [.d (dN x),.d (dN (nq q)),.d (fnD f)] (·=.tup (.pr (.d (dN ⟨x.k,x.t,z⟩)) (.d (.int .i64 0)))):=by
 refine En Tryz.func73 λ_ _ _=>?_
 refine Ce rfl (Yj9 hr hp hq hk hr2 hp2 hs2) ?_
 refine No rfl (by simp) ?_
 refine Ix 0 rfl (u:=dN x) rfl ?_
 refine Dw rfl ?_
 refine Ix 0 rfl (u:=dN x) rfl ?_
 refine Ix 1 rfl (u:=dN ⟨x.k,x.t,rat x.k q⟩) rfl ?_
 refine Ce rfl hf ?_
 exact RTt rfl (.cons (.rf rfl) Xa7)
theorem Ync(hr:TS r x.k x.t)(hp:Sz p (toL x.k x.a))(hq:Qs s q)(hk:x.k<=8)(hr2:r<=4000000000)(hp2:p<=2000000000)(hs2:s<2000000000): C0 29 [.d (dN x),.d (dN (nq q))] (·=.tup (.pr (.d (dN ⟨x.k,x.t,Tow.add x.k x.a (rat x.k q)⟩)) (.d (.int .i64 0)))):=by
 refine En Tryz.func29 λ_ _ _=>?_
 refine Ce rfl (Xm0 (Xhx hr hp (Sz.rat x.k hq) (by omega) (by omega) (by omega)) hr hp hq hk hr2 (by omega) (by omega)) ?_
 exact R0t
theorem Ym8(hr:TS r x.k x.t)(hp:Sz p (toL x.k x.a))(hq:Qs s q)(hk:x.k<=8)(hr2:r<=4000000000)(hp2:p<=2000000000)(hs2:s<2000000000)(hc:cB r x.k<=1000000000): C0 100 [.d (dN x),.d (dN (nq q))] (·=.tup (.pr (.d (dN ⟨x.k,x.t,Tow.mul x.k x.t x.a (rat x.k q)⟩)) (.d (.int .i64 0)))):=by
 refine En Tryz.func100 λ_ _ _=>?_
 refine Ce rfl (Xm0 (Xdv hr hp (Sz.rat x.k hq) (by omega) (by omega) (by omega)) hr hp hq hk hr2 (by omega) (by omega)) ?_
 exact R0t
end
end Go.Proofs.YtfjafaehfjjaiaaGreatDoor.P9
namespace Go.Num
section
def dec(n:Nat): List UInt8:=if h:n<10 then [UInt8.ofNat (48+n)] else dec (n/10)++[UInt8.ofNat (48+n%10)]
termination_by n
decreasing_by omega
theorem Xd6{n:Nat}(h:n<10): dec n=[UInt8.ofNat (48+n)]:=by rw[dec,dif_pos h]
theorem Xgd{n:Nat}(h:10<=n): dec n=dec (n/10)++[UInt8.ofNat (48+n%10)]:=by rw[dec,dif_neg (by omega)]
theorem Xws(n:Nat): dec n≠[]:=by
 rw[dec];split<;>simp
theorem Xwq(n:Nat): 0<(dec n).length:=W6t.2 (Xws n)
theorem Xfm: ∀(k n:Nat),n<10^(k+1)->(dec n).length<=k+1
 | 0,n,h=>by rw[Xd6 (by simpa using h)];simp
 | k+1,n,h=>by
  by_cases h1:n<10
  . rw[Xd6 h1];simp
  . rw[Xgd (by omega),W0d]
    have:=Xfm k (n/10) (W4t (by rw[W0y] at h;omega))
    simp;omega
theorem Xez: ∀(k n:Nat),10^k<=n->k+1<=(dec n).length
 | 0,n,h=>Xwq n
 | k+1,n,h=>by
  rw[W0y] at h
  have:0<10^k:=Nat.pow_pos (by decide)
  rw[Xgd (by omega),W0d]
  have:=Xez k (n/10) (by omega)
  simp;omega
theorem Yjb(n:Nat): n<10^(dec n).length:=by
 induction n using Nat.strongRecOn with
 | ind n ih =>
  by_cases h:n<10
  . rw[Xd6 h];simpa using h
  . rw[Xgd (by omega),W0d]
    have:=ih (n/10) (by omega)
    simp only[W6m]
    rw[W0y];omega
def tx(z:Int): List UInt8:=(if z<0 then [45] else [])++dec z.natAbs
theorem Xyq(l:Nat): 4294967296^l<=10^(10*l):=by
 rw[W5w];exact Nat.pow_le_pow_left (by decide) l
theorem Xou(n:Nat): (dec n).length<=10*(dig n).length+1:=by
 refine Xfm _ n (W0v (W0v (by have:=Xbw (Xae n);rwa[Xag] at this) (Xyq _)) (W0m (by decide) (by omega)))
theorem dg{d:Nat}(h:d<10): (UInt8.ofNat (48+d)).toNat=48+d:=by
 rw[UInt8.toNat_ofNat'];exact W3w (by omega)
def Xvf(b:UInt8): Prop:=48<=b.toNat/\b.toNat<=57
theorem Yjc(n:Nat): ∀b∈dec n,Xvf b:=by
 induction n using Nat.strongRecOn with
 | ind n ih =>
  intro b hb
  by_cases h:n<10
  . rw[Xd6 h,W0h] at hb;subst hb;exact⟨by rw[dg h];omega,by rw[dg h];omega⟩
  . rw[Xgd (by omega),W1s,W0h] at hb
    rcases hb with hb | hb
    . exact ih _ (by omega) b hb
    . subst hb;have:=W1q n (show 0<10 by decide);exact⟨by rw[dg this];omega,by rw[dg this];omega⟩
def pad(k:Nat)(d:List UInt8): List UInt8:=List.replicate (k+1-d.length) 48++d
theorem Ydm(k:Nat)(d:List UInt8): (pad k d).length=max (k+1) d.length:=by simp[pad];omega
def pt(k:Nat)(p:List UInt8): List UInt8:=if k=0 then p else p.take (p.length-k)++46::p.drop (p.length-k)
def txt(z:Int)(k:Nat): List UInt8:=(if z<0 then [45] else [])++pt k (pad k (dec z.natAbs))
def Xxq(l:List UInt8): Nat:=l.foldl (λa b=>10*a+(b.toNat-48)) 0
theorem Xmx(l:List UInt8)(b:UInt8): Xxq (l++[b])=10*Xxq l+(b.toNat-48):=by simp[Xxq]
theorem Xx9{p:List UInt8->Prop}(h0:p [])(hs:∀l b,p l->p (l++[b]))(l:List UInt8): p l:=by
 rw[<-List.reverse_reverse l]
 induction l.reverse with
 | nil=>exact h0
 | cons b l ih=>rw[List.reverse_cons];exact hs _ _ ih
theorem Yex{l:List UInt8}(h:∀b∈l,Xvf b): Xxq l<10^l.length:=by
 induction l using Xx9 with
 | h0=>decide
 | hs l b ih =>
  have h1:=ih λx hx=>h x (W2k _ hx)
  have h2:=h b (W1o _ (W0h.2 rfl))
  unfold Xvf at h2
  rw[Xmx,W0d,W6m,W0y]
  omega
theorem Xzo(b:UInt8): Xxq [b]=b.toNat-48:=by simp[Xxq]
end
section
def isD(b:UInt8): Bool:=decide (48<=b.toNat)&&decide (b.toNat<=57)
theorem Yl7{b:UInt8}: isD b=true↔Xvf b:=by simp[isD,Xvf]
def z0(l:List UInt8): Bool:=l.all (·==48)
def fr(ng:Bool)(a b:List UInt8): Rat:=if ng then -(((Xxq (a++b):Int):Rat)/((10^b.length:Int):Rat)) else ((Xxq (a++b):Int):Rat)/((10^b.length:Int):Rat)
end
end Go.Num
namespace Go.Vm
open Go
section
section
variable{c:Cx}{s:St}{p:Pl}
noncomputable def Yns(tb:Nat->Option TI)(n:Nat)(s:St): Option (Pl×List UInt8×List UInt8):=match nxA tb n s with
 | some (p,o,[.d (.str a),.d (.str b)])=>match o.op with
  | .binOp op _ _ _ _=>match op with
   | .add=>some (p,a,b)
   | _=>none
  | _=>none
 | _=>none
theorem Sc{a b:List UInt8}(t:List UInt8)(h:Yns c.tb c.n s=some (p,a,b))(ht:a++b=t)(hl:a.length+b.length<9223372036854775808)(kk:p.nx c (.d (.str t))): StP c s:=by
 subst ht
 unfold Yns at h
 split at h<;>try cases h
 rename_i hA
 split at h<;>try cases h
 rename_i ho
 split at h<;>cases h
 refine Xbr (us:=[]) hA ?_ (Pl.nx_nil kk)
 rw[ho]
 simp only[F,Fp,Yaf,if_pos hl]
noncomputable def Yhm(tb:Nat->Option TI)(n:Nat)(s:St): Option (Pl×List UInt8×Option Int×Option Int):=match nxA tb n s with
 | some (p,o,asx)=>match o.op with
  | .slice T _ lo hi mx=>match tb T with
   | some ti=>match ti.z,Xjh lo hi mx asx with
    | .str _,some (.d (.str s),l,h,none)=>some (p,s,l,h)
    | _,_=>none
   | none=>none
  | _=>none
 | none=>none
theorem Xn8{t:List UInt8}{r:AV}{l h':Option Int}(h:Yhm c.tb c.n s=some (p,t,l,h'))(hr:slS t l h'=some r)(k:p.nx c r): StP c s:=by
 unfold Yhm at h
 split at h<;>try cases h
 rename_i hA
 split at h<;>try cases h
 rename_i ho
 split at h<;>try cases h
 rename_i ti ht
 split at h<;>cases h
 rename_i hz hs
 refine Xbr (us:=[]) hA ?_ (Pl.nx_nil k)
 rw[ho]
 simp only[F,Fp,ht,hz,hs,hr]
theorem Stk(j:Nat)(zs:List UInt8){i:Int}{xs:List UInt8}(h:Yhm c.tb c.n s=some (p,xs,none,some i))(hl:j<=xs.length)(hz:xs.take j=zs)(k:p.nx c (.d (.str zs)))(hj:i=j:=by first | exact rfl | omega): StP c s:=by
 subst hj;subst hz
 refine Xn8 h ?_ k
 rw[slS,if_pos ⟨by omega,by omega⟩];simp
theorem Sdp(j:Nat)(zs:List UInt8){i:Int}{xs:List UInt8}(h:Yhm c.tb c.n s=some (p,xs,some i,none))(hl:j<=xs.length)(hz:xs.drop j=zs)(k:p.nx c (.d (.str zs)))(hj:i=j:=by first | exact rfl | omega): StP c s:=by
 subst hj;subst hz
 refine Xn8 h ?_ k
 rw[slS,if_pos ⟨by omega,by omega⟩];simp
theorem Smd(i j:Nat)(zs:List UInt8){i' j':Int}{xs:List UInt8}(h:Yhm c.tb c.n s=some (p,xs,some i',some j'))(hl:i<=j/\j<=xs.length)(hz:(xs.drop i).take (j-i)=zs)(k:p.nx c (.d (.str zs)))(hi:i'=i:=by first | exact rfl | omega)(hj:j'=j:=by first | exact rfl | omega): StP c s:=by
 subst hi;subst hj;subst hz
 refine Xn8 h ?_ k
 rw[slS,if_pos ⟨by omega,by omega,by omega⟩];simp
noncomputable def Yn2(tb:Nat->Option TI)(n:Nat)(s:St): Option (Pl×AV):=match nxA tb n s with
 | some (p,o,[a])=>match o.op with
  | .convert S T _=>match tb S,tb T,Yd7 a with
   | some ⟨.sl _ _,.int .u8 _,_,_⟩,some ⟨.str _,_,_,_⟩,true=>some (p,a)
   | _,_,_=>none
  | _=>none
 | _=>none
theorem Bs(zs:List UInt8){a:AV}(h:Yn2 c.tb c.n s=some (p,a))(hz:Yki a=some zs)(kk:p.nx c (.d (.str zs))): StP c s:=by
 unfold Yn2 at h
 split at h<;>try cases h
 rename_i hA
 split at h<;>try cases h
 rename_i ho
 split at h<;>cases h
 rename_i h1 h2 h3
 refine Xbr (us:=[]) hA ?_ (Pl.nx_nil kk)
 rw[ho]
 have:∀k z,a≠.d (.int k z):=λk z e=>by subst e;cases h3
 cases a with
 | d x=>cases x<;>first | exact absurd rfl (this _ _) | simp only[F,Fp,h2,h1,hz]
 | _=>simp only[F,Fp,h2,h1,hz]
end
end
section
theorem Xww{W:GW}{z:D}: ∀ {cs:List Value},(∀x∈z.comps,x.size=1)->D.At W z cs->AtL W 1 z.comps cs/\cs.length=z.comps.length:=by
 have one:∀ {x:D} {cs:List Value},x.size=1->D.At W x cs->AtL W 1 [x] cs/\cs.length=1:=λ{x cs} h1 h =>
  ⟨λi y hi=>by
   cases i with
   | zero=>simp at hi;subst hi;exact⟨cs,h,h1,λj v hj=>by simpa using hj⟩
   | succ i=>simp at hi,by rw[D.at_len x h,h1]⟩
 induction z using D.ind with
 | leaf x h1 h2 =>
  intro cs hs h
  have e:x.comps=[x]:=by cases x<;>first | rfl | exact absurd rfl (h2 _ _)
  rw[e] at hs |-
  exact one (hs x (W0h.2 rfl)) h
 | st a _=>intro cs hs h;exact one (hs _ (W0h.2 rfl)) h
 | pr a c _ ih =>
  intro cs hs ⟨u,v,e,h1,h2⟩
  have hs:∀x∈a::c.comps,x.size=1:=hs
  obtain⟨k1,k2⟩:=one (hs a (W0l ..)) h1
  obtain⟨k3,k4⟩:=ih (λx hx=>hs x (W0p _ hx)) h2
  subst e
  have:=k1.app k3 (by rw[k2];rfl)
  exact⟨this,by rw[W0d,k2,k4];show _=(a::c.comps).length;simp;omega⟩
theorem Stp.vara{N:Nat->Prop}{W:GW}{θ:Loc}{g:Hp}(h:Obs W θ N g){o d b n sz:Nat}{a:AV}{xs:List D}(ho:g o=some (.var a))(hb:(θ o).1=some b)(hB:d<1000000)(hd:g d=none)(hx:(Ob.arr sz xs).R W (λi=>if i=d then (some b,n) else θ i) d):
 Stp N W W θ (λi=>if i=d then (some b,n) else θ i) g (upd (upd g o .dead) d (.arr sz xs)) where
 os:=_root_.rfl
 out:=_root_.rfl
 tape:=_root_.rfl
 size:=W0a _
 same:=λ_ _ _=>_root_.rfl
 A:=λ_ _ _ _=>W3x
 le:=LeF.refl W
 th:=λi y hy=>if_neg λe=>by rw[e,hd] at hy;cases hy
 hi:=λi h=>if_neg (by omega)
 obs:=by
  have hg:∀ {i:Nat} {y:Ob},upd (upd g o .dead) d (.arr sz xs) i=some y->(i=d/\y=.arr sz xs)\/(i≠d/\i=o/\y=.dead)\/(i≠d/\i≠o/\g i=some y):=λ{i y} hy=>by
   rcases Xaf hy with ⟨e1,e2⟩ | ⟨e1,e2⟩
   . exact .inl ⟨e1,e2⟩
   . rcases Xaf e2 with ⟨f1,f2⟩ | ⟨f1,f2⟩
     . exact .inr (.inl ⟨e1,f1,f2⟩)
     . exact .inr (.inr ⟨e1,f1,f2⟩)
  have hnd:∀ {i:Nat},(∃z,g i=some z)->i≠d:=λ⟨z,hz⟩ e=>by rw[e,hd] at hz;cases hz
  refine⟨λi y hy=>?_,λi y b' hy hl hb'=>?_,λi j y y' b' hy hy' hl hl' b1 b2=>?_,λi y j hy hj=>?_⟩
  . rcases hg hy with ⟨rfl,rfl⟩ | ⟨_,_,rfl⟩ | ⟨e1,e2,e3⟩
    . exact hx
    . trivial
    . exact(h.r i y e3).keep (LeF.refl W) (if_neg e1) (λj hj=>if_neg (hnd (h.ids i y j e3 hj))) λ_ _ _=>⟨_root_.rfl,λ_ h=>h⟩
  . rcases hg hy with ⟨rfl,rfl⟩ | ⟨_,_,rfl⟩ | ⟨e1,e2,e3⟩
    . rw[if_pos _root_.rfl] at hb'
      exact h.new o _ b' ho _root_.rfl (hb.trans hb')
    . cases hl
    . rw[if_neg e1] at hb';exact h.new i y b' e3 hl hb'
  . rcases hg hy with ⟨rfl,rfl⟩ | ⟨_,_,rfl⟩ | ⟨e1,e2,e3⟩
    . rcases hg hy' with ⟨rfl,rfl⟩ | ⟨_,_,rfl⟩ | ⟨f1,f2,f3⟩
      . exact _root_.rfl
      . cases hl'
      . rw[if_pos _root_.rfl] at b1;rw[if_neg f1] at b2
        exact absurd (h.dis j o y' _ b' f3 ho hl' _root_.rfl b2 (hb.trans b1)) f2
    . cases hl
    . rcases hg hy' with ⟨rfl,rfl⟩ | ⟨_,_,rfl⟩ | ⟨f1,f2,f3⟩
      . rw[if_pos _root_.rfl] at b2;rw[if_neg e1] at b1
        exact absurd (h.dis i o y _ b' e3 ho hl _root_.rfl b1 (hb.trans b2)) e2
      . cases hl'
      . rw[if_neg e1] at b1;rw[if_neg f1] at b2;exact h.dis i j y y' b' e3 f3 hl hl' b1 b2
  . rcases hg hy with ⟨rfl,rfl⟩ | ⟨_,_,rfl⟩ | ⟨e1,e2,e3⟩
    . exact hj.elim
    . exact hj.elim
    . have hz:=h.ids i y j e3 hj
      rw[Xak (hnd hz)]
      by_cases e:j=o
      . subst e;exact⟨_,Xaj _ _ _⟩
      . rw[Xak e];exact hz
 dom:=λi y hy=>by
  rw[Xak (λe=>by rw[e,hd] at hy;cases hy)]
  by_cases e:i=o
  . subst e;exact⟨_,Xaj _ _ _⟩
  . exact⟨y,by rw[Xak e];exact hy⟩
section
variable{c:Cx}{s:St}{p:Pl}
noncomputable def Ynp(tb:Nat->Option TI)(n id t:Nat)(s:St): Option (List Kt×Env×Hpl×Nat×D):=match runT tb n id 1000 s with
 | .j _ K E H=>match look E t with
  | some (.ptr o 0)=>match look H o with
   | some (.var (.d (.st z)))=>some (K,E,H,o,z)
   | _=>none
  | _=>none
 | _=>none
theorem Va(id t d m:Nat)(xs:List D){K:List Kt}{E:Env}{H:Hpl}{o:Nat}{z:D}(h:Ynp c.tb c.n id t s=some (K,E,H,o,z))(hz:z.comps=xs)(hs:∀x∈xs,x.size=1)(hm:xs.length=m)(k:StP c (.j [] K ((t,.ap d m)::E) ((d,.arr 1 xs)::(o,.dead)::H)))
 (hd:(Nat.blt d 1000000 && !Xcd H d&&Nat.blt m 1000000)=true:=by exact rfl):StP c s:=by
 subst hz
 simp only[W0g,W1u] at hd
 obtain⟨⟨hd1,hd2⟩,hm1⟩:=hd
 have hd1:=Xqk hd1
 have hm1:=Xqk hm1
 have hdn:look H d=none:=Xbi hd2
 unfold Ynp at h
 split at h<;>try cases h
 rename_i hr
 split at h<;>try cases h
 rename_i he
 split at h<;>cases h
 rename_i ho
 refine Xfb (id:=id) 1000 ?_
 rw[hr]
 rintro a w ⟨s0,W,θ,hw,hs0,hθ,rfl⟩
 obtain⟨b,cs,T',r1,r2,r3,r4⟩:=hs0.obs.r _ _ ho
 have r3:D.At W z cs:=r3
 obtain⟨k1,k2⟩:=Xww hs r3
 have st:=Stp.vara (n:=m) (sz:=1) (xs:=z.comps) hs0.obs ho r1 hd1 hdn ⟨b,cs,T',by simp,r2,by rw[k2,hm];simp,by simp only[if_true];omega,by simp only[if_true];omega,k1,r4⟩
 have h1:=hs0.step0 st
 refine k a w ⟨_,W,_,hw,?_,λi hi=>(st.hi i hi).trans (hθ i hi),rfl⟩
 rw[show sem ((t,AV.ap d m)::E) ((d,Ob.arr 1 z.comps)::(o,Ob.dead)::H)=(upd (look E) t (.ap d m),upd (upd (look H) o .dead) d (.arr 1 z.comps)) by rw[Xa2,Xa2,Xa2]]
 refine⟨h1.fm,⟨h1.rel.defers,h1.rel.size,λq v hq=>?_⟩,h1.obs,λq v i hq hi=>?_⟩
 . rcases Xaf hq with ⟨e1,e2⟩ | ⟨e1,e2⟩
   . subst e1;subst e2
     obtain⟨b',f1,f2⟩:=Xja (hs0.rel.has q _ he)
     rw[r1] at f1;injection f1 with f1;subst f1
     exact⟨_,⟨b,by simp,by simp,rfl⟩,f2⟩
   . exact h1.rel.has q v e2
 . rcases Xaf hq with ⟨e1,e2⟩ | ⟨e1,e2⟩
   . subst e2
     have hi:i=d:=hi
     subst hi
     exact⟨_,Xaj _ _ _⟩
   . exact h1.ids q v i e2 hi
noncomputable def Ynq(tb:Nat->Option TI)(n:Nat)(s:St): Option (Pl×Oper×TypeId×Operand×Operand×Nat×Nat×Nat×Nat×D×Int):=match nxO tb n s with
 | some (p,o)=>match o.op,p.dr with
  | .slice T x none (some y) none,false=>match Xc4 (look p.E) x,Xc4 (look p.E) y,tb T with
   | some (.ap q m),some (.d (.int _ j)),some ⟨.st z,e,eb,ar⟩=>match Nat.beq m ar,look p.H q with
    | true,some _=>some (p,o,T,x,y,q,m,e.size,eb,z,j)
    | _,_=>none
   | _,_,_=>none
  | _,_=>none
 | none=>none
theorem Sp(j:Nat){o:Oper}{T:TypeId}{x y:Operand}{q m sz eb:Nat}{z:D}{i:Int}(h:Ynq c.tb c.n s=some (p,o,T,x,y,q,m,sz,eb,z,i))(hj:j<=m)(h0:0<m)(k:p.nx c (.own q sz 0 j))(hm:m<1000000)(hi:i=(j:Int):=by first | exact rfl | omega): StP c s:=by
 subst hi
 unfold Ynq at h
 split at h<;>try cases h
 rename_i p' o' ho
 split at h<;>try cases h
 rename_i T' x' y' hop hdr
 split at h<;>try cases h
 rename_i k2 e eb' ar hx hy hti
 split at h<;>cases h
 rename_i hH hma
 have hma:=W0e hma
 subst hma
 refine Xry (us:=[]) ho (by unfold Xap;rw[hop];rfl) hdr (λN W θ ρ _ hO hN hB hv=>?_) (Pl.nx_nil k)
 obtain⟨hk,_⟩:=c.hT _ _ hti
 obtain⟨t,u1,_,u3⟩:=hk.u
 simp only[show ¬m=0 by omega,if_false] at u3
 obtain⟨E,e1,i,v0,i1,i2,_⟩:=u3
 subst e1
 obtain⟨cs,⟨b,f1,f2,f3⟩,f4⟩:=hv _ _ hx
 subst f3
 have f4:ρ x=.pointer (some ⟨b,0,none⟩):=f4
 obtain⟨ey,_⟩:=Xdg (hv _ _ hy)
 have hg:(sem p.E p.H).2 q=some _:=hH
 refine .val (u:=.slice (some ⟨b,0,none⟩) j m) hO ?_ ?_ (λi hi=>by subst hi;exact⟨_,hg⟩)
 . have hm0:¬m=0:=by omega
   simp[execOp,hop,f4,ey,Instr.sliceAt,Instr.sureAddr,Instr.sliceBounds,Instr.sliceBound,asIntOf,sizeOf,typeInfo,underlying,program,bind,Sem.bind,Sem.run,pure,u1,i1,i2,hm0,hj,add0]
 . exact⟨[.slice (some ⟨b,0,none⟩) j m],⟨b,some ⟨b,0,none⟩,f1,by omega,by omega,by rw[f2,W6l],λ_=>by rw[W4o]⟩,rfl⟩
noncomputable def Yn3(tb:Nat->Option TI)(n:Nat)(s:St): Option (Pl×Oper×TypeId×TypeId×Operand×Nat×Nat×Nat×List D):=match nxO tb n s with
 | some (p,o)=>match o.op,p.dr with
  | .convert S T x,false=>match Xc4 (look p.E) x,tb S,tb T with
   | some (.own q 1 l m),some ⟨.sl _ _,.int .u8 _,_,_⟩,some ⟨.str _,_,_,_⟩=>match look p.H q with
    | some (.arr 1 xs)=>some (p,o,S,T,x,q,l,m,xs)
    | _=>none
   | _,_,_=>none
  | _,_=>none
 | none=>none
theorem Bo(zs:List UInt8){o:Oper}{S T:TypeId}{x:Operand}{q l m:Nat}{xs:List D}(h:Yn3 c.tb c.n s=some (p,o,S,T,x,q,l,m,xs))(hl:l+m<=xs.length)(hz:Xzz ((xs.drop l).take m)=some zs)(k:p.nx c (.d (.str zs))): StP c s:=by
 unfold Yn3 at h
 split at h<;>try cases h
 rename_i p' o' ho
 split at h<;>try cases h
 rename_i S' T' x' hop hdr
 split at h<;>try cases h
 rename_i hx hS hT
 split at h<;>cases h
 rename_i hH
 refine Xry (us:=[]) ho (by unfold Xap;rw[hop];rfl) hdr (λN W θ ρ _ hO hN hB hv=>?_) (Pl.nx_nil k)
 obtain⟨hk,_⟩:=c.hT _ _ hS
 obtain⟨t,u1,_,E,u3,_⟩:=hk.u
 subst u3
 obtain⟨t',u1',_,u3⟩:=(c.hT _ _ hT).1.u
 have u3:t'=.string:=u3
 subst u3
 have ue:=hk.k E _ _ u1 rfl
 obtain⟨b,pp,f1,f2,f3,e,f5⟩:=Xjb (hv _ _ hx)
 obtain⟨b',bs,T1,r1,r2,r3,r4,r5,r6,r7⟩:=hO.r _ _ hH
 rw[f1] at r1;injection r1 with r1;subst r1
 obtain⟨ns,hn1,rfl⟩:=Xll hz
 have hlen:ns.length=m:=by
  have:=congrArg List.length hn1
  simp at this;omega
 refine .val (u:=.string ⟨(ns.map λz=>UInt8.ofNat z.toNat).toArray⟩) hO ?_ (Xnr (by simp;omega)) (λ_ h=>h.elim)
 have hc:(convert S T (ρ x)).run c.P W.w=.ok (.string ⟨(ns.map λz=>UInt8.ofNat z.toNat).toArray⟩) W.w:=by
  rw[e,run_convert_bytes_string W.w S T E pp _ _ u1 ue u1']
  by_cases hm0:m=0
  . subst hm0
    have:ns=[]:=W4b.1 hlen
    subst this
    cases pp with
    | none=>rfl
    | some a=>exact run_bytesToString W.w a _ _ [] rfl
  . rw[f5 (by omega)]
    rw[run_bytesToString W.w _ _ _ ns (by
     have h:=run_loadCells (P:=c.P) (b:=b) (off:=l*1) (w:=W.w) (ns.map (Value.int .u8)) 0 #[] (λj v hj=>by
      rw[W1p] at hj
      cases hz:ns[j]? with
      | none=>rw[hz] at hj;cases hj
      | some z =>
       rw[hz] at hj;injection hj with hj;subst hj
       have hj':((xs.drop l).take m)[j]?=some (.int .u8 z):=by rw[hn1,W1p,hz];rfl
       have hj2:xs[l+j]?=some (.int .u8 z):=by
        rw[W1e] at hj'
        split at hj'
        . rwa[W1y] at hj'
        . cases hj'
       obtain⟨e1,g1,_,g2⟩:=r6 _ _ hj2
       have g1:=g1.1
       subst g1
       have:=g2 0 _ rfl
       rw[show l*1+(0+j)=(l+j)*1+0 by omega,Xa9 r2]
       exact this)
     simp only[W0i] at h
     rw[<-hlen]
     simpa [loadCells] using h)]
    have:=Xfi ns []
    rw[show (ByteArray.empty:ByteArray)=⟨([]:List UInt8).toArray⟩ from rfl,this]
    simp
 unfold execOp
 rw[hop]
 simp only
 rw[Sem.run_bind,hc];rfl
noncomputable def Yny(tb:Nat->Option TI)(n:Nat)(s:St): Option (Pl×Oper×TypeId×Nat×Operand×Nat×Int):=match nxO tb n s with
 | some (p,o)=>match o.op,p.dr with
  | .indexAddr T (.global g) y,false=>match Xc4 (look p.E) y,tb T with
   | some (.d (.int _ j)),some ⟨.st _,.int _ _,_,ar⟩=>match Nat.beq ar 0 with
    | false=>some (p,o,T,g,y,ar,j)
    | true=>none
   | _,_=>none
  | _,_=>none
 | none=>none
theorem Gx(j:Nat)(k:IntKind)(z:Int){o:Oper}{T:TypeId}{y:Operand}{g ar:Nat}{i:Int}(h:Yny c.tb c.n s=some (p,o,T,g,y,ar,i))(hj:j<ar)(hg:∀W,c.gb.g W->Fr W g j (.int k z))(hr:inR k z)(kk:p.nx c (.at (.int k z)))(hi:i=(j:Int):=by first | exact rfl | omega): StP c s:=by
 subst hi
 unfold Yny at h
 split at h<;>try cases h
 rename_i p' o' ho
 split at h<;>try cases h
 rename_i T' g' y' hop hdr
 split at h<;>try cases h
 rename_i k1 j1 z1 k2 z2 eb ar1 hy hti
 split at h<;>cases h
 rename_i hz
 have hz:¬ar=0:=λe=>by subst e;cases hz
 refine Xry (us:=[]) ho (by unfold Xap;rw[hop];rfl) hdr (λN W θ ρ hgb hO hN hB hv=>?_) (Pl.nx_nil kk)
 obtain⟨hk,_⟩:=c.hT _ _ hti
 obtain⟨t,u1,_,u3⟩:=hk.u
 simp only[hz,if_false] at u3
 obtain⟨E,e1,i,v0,i1,i2,_⟩:=u3
 subst e1
 obtain⟨ey,_⟩:=Xdg (hv _ _ hy)
 have eg:=hgb.2 g
 have i2:i.size=1:=i2
 refine .val (u:=.pointer (some ⟨g,j,none⟩)) hO ?_ (Ym0 (e:=[.int k z]) ⟨rfl,hr⟩ λq v hq=>?_) (λ_ h=>h.elim)
 . have hjl:(j:Int)<(ar:Int):=by omega
   simp[execOp,hop,eg,ey,Instr.indexAt,Instr.sureAddr,asIntOf,sizeOf,typeInfo,underlying,program,bind,Sem.bind,Sem.run,pure,u1,i1,i2,hjl,hj,add0]
 . cases q with
   | zero=>simp at hq;subst hq;exact hg W hgb.1
   | succ q=>simp at hq
end
end
section
section
variable{c:Cx}{s:St}{p:Pl}
end
end
end Go.Vm
namespace Go.Proofs.YtfjafaehfjjaiaaGreatDoor
open Go Go.Vm Go.Num Go.Proofs Go.Shelf Go.RowKit
section
abbrev Tx(s:List UInt8): Prop:=s.length<4611686018427387904
theorem Xg8{s t:List UInt8}(hs:Tx s)(ht:Tx t): C0 239 [.d (.str s),.d (.str t)] (·=.b (dc (s.take t.length=t))):=by
 refine En Tryz.func239 λ_ _ _=>?_
 refine By rfl (λh=>?_) λh=>?_
 . refine Stk t.length _ rfl (by omega) rfl ?_
   exact R1 rfl (.bp Xah)
 . refine R1 rfl (.bp ⟨λe=>(by cases e),λe=>?_⟩)
   have:=congrArg List.length e
   rw[W0j] at this
   omega
theorem Xni{s t:List UInt8}(hs:Tx s)(ht:Tx t): C0 104 [.d (.str s),.d (.str t)] (·=.tup (.pr (.d (.str (if s.take t.length=t then s.drop t.length else s))) (.b (dc (s.take t.length=t))))):=by
 have h1:C0 165 [.d (.str s),.d (.str t)] (·=.tup (.pr (.d (.str (if s.take t.length=t then s.drop t.length else s))) (.b (dc (s.take t.length=t))))):=by
  refine En Tryz.func165 λ_ _ _=>?_
  refine Ce rfl (Xg8 hs ht) ?_
  refine By rfl (λh=>?_) λh=>?_
  . refine RTt rfl (.cons (.eq (by rw[if_neg h])) (.one (by exact .bp (c:=false) ⟨λe=>(by cases e),λe=>absurd e h⟩) (λ_ _ e=>by cases e) (λ_ _ e=>by cases e)))
  . have h:=W2g.1 h
    have hl:t.length<=s.length:=by have:=congrArg List.length h;rw[W0j] at this;omega
    refine Sdp t.length _ rfl hl rfl ?_
    refine RTt rfl (.cons (.eq (by rw[if_pos h])) (.one (by exact .bp (c:=true) ⟨λ_=>h,λ_=>rfl⟩) (λ_ _ e=>by cases e) (λ_ _ e=>by cases e)))
 refine En Tryz.func104 λ_ _ _=>?_
 refine Ce rfl h1 ?_
 exact R0t
end
section
def d2(n:Nat): List UInt8:=[UInt8.ofNat (48+n/10),UInt8.ofNat (48+n%10)]
theorem Yjd{n:Nat}(h:10<=n)(h1:n<100): dec n=d2 n:=by rw[Xgd h,Xd6 (by omega)];rfl
def tb2: List UInt8:=(List.range 100).flatMap d2
theorem Xya{n:Nat}(hn:n<100): C0 300 [.d (.int .i64 n)] (·=.d (.str (dec n))):=by
 refine En Tryz.func300 λ_ _ _=>?_
 refine By rfl (λh=>?_) λh=>?_
 . refine Ar (n+1:Nat) rfl ?_
   refine Smd n (n+1) (dec n) rfl ⟨by omega,by simp;omega⟩ ?_ ?_
   . rw[Xd6 (by omega)]
     have h1:n<10:=by omega
     clear hn h
     revert h1;generalize n=j;revert j;decide +kernel
   . exact R0
 . refine Ar (n*2:Nat) rfl ?_
   refine Ar (n*2:Nat) rfl ?_
   refine Ar (n*2+2:Nat) rfl ?_
   refine Smd (n*2) (n*2+2) (dec n) rfl ⟨by omega,by simp;omega⟩ ?_ ?_
   . rw[Yjd (by omega) hn]
     clear h
     revert hn;generalize n=j;revert j;decide +kernel
   . exact R0
theorem Xmi{n:Nat}(hn:n<=64): C0 337 [.d (.int .i64 n)] (·=.d (.int .i64 (n*78913/262144:Nat))):=by
 refine En Tryz.func337 λ_ _ _=>?_
 refine Ar (n*78913:Nat) rfl ?_
 refine Ar (n*78913/2^18:Nat) rfl ?_ (Xi4 (n:=18) (by decide))
 exact R1 rfl (.eq rfl)
theorem Xz1{p:Prop}: C0 339 [.b (dc p)] (λv=>∃n:Nat,v=.d (.int .i64 n)/\(n=1/\p\/n=0/\¬p)):=by
 refine En Tryz.func339 λ_ _ _=>?_
 refine By rfl (λh=>?_) λh=>?_
 . exact Rt rfl (.one (.rf rfl) rfl rfl) ⟨1,rfl,.inl ⟨rfl,h⟩⟩
 . exact Rt rfl (.one (.rf rfl) rfl rfl) ⟨0,rfl,.inr ⟨rfl,h⟩⟩
theorem Yad{x:Nat}(hx:x<18446744073709551616): C0 338 [.d (.int .u64 x)] (·=.d (.int .i64 (bl x))):=by
 refine En Tryz.func338 λ_ _ _=>?_
 refine Cu none (λ((x1,n1):Nat×Nat)=>[(0,.d (.int .u64 x1)),(2,.d (.int .i64 n1))]) (λ_=>[]) (λ(x1,n1)=>x1<4294967296/\bl x=bl x1+n1/\n1<=32) rfl ?_ λ⟨x0,n0⟩ ⟨hx0,hb0,hn0⟩=>?_
 . refine By rfl (λh=>?_) λh=>?_
   . refine Ar (x/2^32:Nat) rfl ?_ (Xi4 (n:=32) (by decide))
     exact Jn (x/2^32,32) [] rfl ⟨by omega,Xe1 (by omega),W0a _⟩
   . exact Jn (x,0) [] rfl ⟨by omega,rfl,by omega⟩
 refine Cu none (λ((x1,n1):Nat×Nat)=>[(0,.d (.int .u64 x1)),(2,.d (.int .i64 n1))]) (λ_=>[]) (λ(x1,n1)=>x1<65536/\bl x=bl x1+n1/\n1<=48) rfl ?_ λ⟨x1,n1⟩ ⟨hx1,hb1,hn1⟩=>?_
 . refine By rfl (λh=>?_) λh=>?_
   . refine Ar (x0/2^16:Nat) rfl ?_ (Xi4 (n:=16) (by decide))
     refine Ar (n0+16:Nat) rfl ?_
     exact Jn (x0/2^16,n0+16) [] rfl ⟨by omega,by rw[hb0,Xe1 (n:=x0) (k:=16) (by omega)];omega,by omega⟩
   . exact Jn (x0,n0) [] rfl ⟨by omega,hb0,by omega⟩
 refine Cu none (λ((x1,n1):Nat×Nat)=>[(0,.d (.int .u64 x1)),(2,.d (.int .i64 n1))]) (λ_=>[]) (λ(x1,n1)=>x1<256/\bl x=bl x1+n1/\n1<=56) rfl ?_ λ⟨x2,n2⟩ ⟨hx2,hb2,hn2⟩=>?_
 . refine By rfl (λh=>?_) λh=>?_
   . refine Ar (x1/2^8:Nat) rfl ?_ (Xi4 (n:=8) (by decide))
     refine Ar (n1+8:Nat) rfl ?_
     exact Jn (x1/2^8,n1+8) [] rfl ⟨by omega,by rw[hb1,Xe1 (n:=x1) (k:=8) (by omega)];omega,by omega⟩
   . exact Jn (x1,n1) [] rfl ⟨by omega,hb1,by omega⟩
 have hbl:bl x2<256:=W0v (Yb4 (p:=λj=>bl j<10) (by decide +kernel) x2 hx2) (by decide)
 refine Go.Vm.Cv x2 rfl ?_
 refine Yx x2 (UInt8.ofNat (bl x2)) rfl (by revert hx2;generalize x2=j;revert j;decide +kernel) ?_
 refine Go.Vm.Cv (bl x2:Nat) rfl ?_ ((wI ⟨by omega,by rw[Xxz hbl];omega⟩).trans (Xxz hbl))
 refine Ar (bl x:Nat) rfl ?_
 exact R0
theorem Xmf{x:Nat}(h1:100<=x)(hx:x<1000000000): C0 301 [.d (.int .u64 x)] (·=.d (.int .i64 (dec x).length)):=by
 obtain⟨b1,b2,b3⟩:=Xcl (n:=x) (by omega)
 have hb7:7<=bl x:=by
  have:2^6<2^bl x:=W1t (by omega) b2
  have:=(W2v (by decide:1<2)).1 this
  omega
 have hb30:bl x<=30:=by
  have:2^(bl x-1)<2^30:=W1t b1 (by omega)
  have:=(W2v (by decide:1<2)).1 this
  omega
 obtain⟨t,ht⟩:∃t,t=bl x*78913/262144:=⟨_,rfl⟩
 have ht9:t<=9:=by omega
 have key:10^(t-1)<=x/\x<10^(t+1)/\1<=t:=by
  have hc:∀b,b<=30->7<=b->10^(b*78913/262144-1)<=2^(b-1)/\2^b<=10^(b*78913/262144+1)/\1<=b*78913/262144:=by decide +kernel
  obtain⟨c1,c2,c3⟩:=hc (bl x) hb30 hb7
  rw[<-ht] at c1 c2 c3
  exact⟨W0k c1 b1,W0v b2 c2,c3⟩
 refine En Tryz.func301 λ_ _ _=>?_
 refine Ce rfl (Yad (by omega)) ?_
 refine Ce rfl (show C0 _ _ (·=.d (.int .i64 (t:Nat))) by rw[ht];exact Xmi (by omega)) ?_
 refine Gx t .u64 ((10^t:Nat):Int) rfl (by omega) (λW h=>h t (by omega)) ?_ ?_
 . have:10^t<=10^9:=W0m (by decide) ht9
   exact wr rfl (by simp only[inK];omega)
 refine Ca rfl (C.nb Xz1) λv hv=>?_
 obtain⟨n,rfl,hn⟩:=hv
 refine Ar ((dec x).length:Nat) rfl ?_ ?_
 . exact R0
 . refine wr ?_ ?_
   . rcases hn with ⟨rfl,hp⟩ | ⟨rfl,hp⟩
     . have:=Xfm t x key.2.1
       have:=Xez t x (by omega)
       omega
     . have h3:=Xfm (t-1) x (by rw[show t-1+1=t by omega];omega)
       have h4:=Xez (t-1) x key.1
       omega
   . have:=Xfm 9 x (by omega)
     simp only[inK];omega
end
section
def dgs: Nat->Nat->List UInt8
 | 0,_=>[]
 | w+1,n=>dgs w (n/10)++[UInt8.ofNat (48+n%10)]
theorem Yez(w n:Nat): dgs (w+2) n=dgs w (n/100)++d2 (n%100):=by
 rw[dgs,dgs,W6g,d2,show n/10%10=n%100/10 by omega,show n%10=n%100%10 by omega]
 simp
theorem Xwp(n:Nat): dgs (dec n).length n=dec n:=by
 induction n using Nat.strongRecOn with
 | ind n ih =>
  by_cases h:n<10
  . rw[Xd6 h];show dgs 1 n=_;rw[dgs,dgs,W3w h];rfl
  . rw[Xgd (by omega),W0d];show dgs (_+1) n=_
    rw[dgs,ih _ (by omega)]
def b8(b:UInt8): D:=.int .u8 b.toNat
theorem Xw5: ∀l:List UInt8,Xzz (l.map b8)=some l
 | []=>rfl
 | b::l=>by
  show (match Xzz (l.map b8) with | some s=>some (UInt8.ofNat ((b.toNat:Int)).toNat::s) | none=>none)=_
  rw[Xw5 l];simp
theorem st1{z acc:List UInt8}{i j:Nat}{a:UInt8}(h1:j+1=i)(h2:i<=z.length): ((z.take i++acc).map b8).set j (b8 a)=(z.take j++a::acc).map b8:=by
 subst h1
 rw[<-List.map_set]
 congr 1
 apply W3y
 intro k
 by_cases hk:k<j
 . rw[W1w (by omega),W1a (by simp;omega),W1a (by simp;omega),W1e,W1e,if_pos (by omega),if_pos (by omega)]
 . by_cases hk2:k=j
   . subst hk2
     rw[W2w (by simp;omega),W0u (by simp;omega)]
     have:k-(List.take k z).length=0:=by simp;omega
     rw[this];rfl
   . obtain⟨q,rfl⟩:∃q,k=j+1+q:=⟨k-(j+1),by omega⟩
     rw[W1w (by omega),W0u (by simp;omega),W0u (by simp;omega)]
     have e1:j+1+q-(List.take (j+1) z).length=q:=by simp;omega
     have e2:j+1+q-(List.take j z).length=q+1:=by simp;omega
     rw[e1,e2];simp
def Ynf(l:List UInt8): Prop:=∀v,v<100->l[v*2+1]?=some (UInt8.ofNat (48+v%10))/\l[v*2]?=some (UInt8.ofNat (48+v/10))
instance (l:List UInt8):Decidable (Ynf l):=inferInstanceAs (Decidable (∀v,v<100->_))
theorem quN{k:IntKind}{a b r:Nat}(hb:b≠0)(h:a/b=r)(hk:inK k (r:Int)): arB .quo k (a:Int) (b:Int) (r:Int):=show _/\_ from⟨by omega,wr (by subst h;rfl) hk⟩
theorem reN{k:IntKind}{a b r:Nat}(hb:b≠0)(h:a%b=r): arB .rem k (a:Int) (b:Int) (r:Int):=show _/\_ from⟨by omega,by subst h;rfl⟩
theorem tbl: Ynf (List.flatten ((List.range 100).map d2)):=by decide +kernel
theorem Stb{c:Cx}{s:St}{p:Pl}{q j:Nat}{xs:List D}{z:Int}(a:UInt8){zs:List D}(h:Ylw c.tb c.n s=some (p,q,1,xs,j,.int .u8 z))(hj:j<xs.length)(hz:xs.set j (b8 a)=zs)(k:p.nx' c (.ub True) [(q,.arr 1 zs)])(hza:z=(a.toNat:Int):=by exact rfl): StP c s:=by
 subst hza
 exact Sto h hj hz k
theorem Xir{nd x:Nat}{z0:List UInt8}(h1:nd<=9)(hx:x<1000000000)(hxn:x<10^nd)(hz0:nd<=z0.length)(hz24:z0.length<1000):
 CW0 302 [.own 1000001 1 0 nd,.d (.int .u64 x)] [(1000001,.arr 1 (z0.map b8))] λv H'=>H'=[(1000001,.arr 1 ((dgs nd x++z0.drop nd).map b8))]:=by
 refine EnW Tryz.func302 λ_ _ _ _=>?_
 refine Lo (λ((i,u,acc):Nat×Nat×List UInt8)=>[(0,.own 1000001 1 0 nd),(1,.d (.int .u64 u)),(4,.d (.int .i64 i))]) (λ(i,_,acc)=>[(1000001,.arr 1 ((z0.take i++acc).map b8))])
  (λ(i,u,acc)=>i<=nd/\u<10^i/\u<1000000000/\dgs i u++acc=dgs nd x++z0.drop nd) (λ(i,_,_)=>i) (nd,x,z0.drop nd) [] rfl ⟨W0a _,hxn,hx,rfl⟩ ?_ (by exact⟨rfl,by simp only[W4n];rfl,rfl,rfl,rfl⟩)
 rintro⟨i,u,acc⟩ ⟨hi,hu,hu9,hI⟩
 refine By rfl (λh=>?_) λh=>?_
 . obtain⟨v,hv⟩:∃v,v=u%100000000:=⟨_,rfl⟩
   obtain⟨t6,ht6⟩:∃t,t=v/10000:=⟨_,rfl⟩
   obtain⟨t7,ht7⟩:∃t,t=v%10000:=⟨_,rfl⟩
   obtain⟨v0,hv0⟩:∃w,w=t7%100:=⟨_,rfl⟩
   obtain⟨v1,hv1⟩:∃w,w=t7/100:=⟨_,rfl⟩
   obtain⟨v2,hv2⟩:∃w,w=t6%100:=⟨_,rfl⟩
   obtain⟨v3,hv3⟩:∃w,w=t6/100:=⟨_,rfl⟩
   have Bv0:v0<100:=by omega
   have Bv1:v1<100:=by omega
   have Bv2:v2<100:=by omega
   have Bv3:v3<100:=by omega
   refine Ar (v:Nat) rfl ?_ (reN (b:=100000000) (by decide) hv.symm)
   refine Go.Vm.Cv v rfl ?_
   refine Ar (u/100000000:Nat) rfl ?_ (quN (b:=100000000) (by decide) rfl (by simp only[inK];omega))
   refine Ar t6 rfl ?_ (quN (b:=10000) (by decide) ht6.symm (by simp only[inK];omega))
   refine Ar t7 rfl ?_ (reN (b:=10000) (by decide) ht7.symm)
   refine Ar v1 rfl ?_ (quN (b:=100) (by decide) hv1.symm (by simp only[inK];omega))
   refine Ar (v1*2:Nat) rfl ?_
   refine Ar v0 rfl ?_ (reN (b:=100) (by decide) hv0.symm)
   refine Ar (v0*2:Nat) rfl ?_
   refine Ar v3 rfl ?_ (quN (b:=100) (by decide) hv3.symm (by simp only[inK];omega))
   refine Ar (v3*2:Nat) rfl ?_
   refine Ar v2 rfl ?_ (reN (b:=100) (by decide) hv2.symm)
   refine Ar (v2*2:Nat) rfl ?_
   refine Dw rfl ?_
   refine Ar ((i-1:Nat):Int) rfl ?_
   refine Ar ((i-2:Nat):Int) rfl ?_
   refine Ar ((v0*2+1:Nat):Int) rfl ?_
   refine Yx (v0*2+1) (UInt8.ofNat (48+v0%10)) rfl (tbl v0 Bv0).1 ?_
   refine Yx (v0*2) (UInt8.ofNat (48+v0/10)) rfl (tbl v0 Bv0).2 ?_
   refine Eo (i-1) rfl (by omega) ?_
   refine Stb (UInt8.ofNat (48+v0%10)) rfl (by simp only[W0i,W0d,W0j,W0s];omega) (st1 (by omega) (by omega)) ?_
   refine Eo (i-2) rfl (by omega) ?_
   refine Stb (UInt8.ofNat (48+v0/10)) rfl (by simp only[W0i,W0d,W0j,W0s];omega) (st1 (by omega) (by omega)) ?_
   refine Dw rfl ?_
   refine Ar ((i-3:Nat):Int) rfl ?_
   refine Ar ((i-4:Nat):Int) rfl ?_
   refine Ar ((v1*2+1:Nat):Int) rfl ?_
   refine Yx (v1*2+1) (UInt8.ofNat (48+v1%10)) rfl (tbl v1 Bv1).1 ?_
   refine Yx (v1*2) (UInt8.ofNat (48+v1/10)) rfl (tbl v1 Bv1).2 ?_
   refine Eo (i-3) rfl (by omega) ?_
   refine Stb (UInt8.ofNat (48+v1%10)) rfl (by simp only[W0i,W0d,W0j,W0s];omega) (st1 (by omega) (by omega)) ?_
   refine Eo (i-4) rfl (by omega) ?_
   refine Stb (UInt8.ofNat (48+v1/10)) rfl (by simp only[W0i,W0d,W0j,W0s];omega) (st1 (by omega) (by omega)) ?_
   refine Dw rfl ?_
   refine Ar ((i-5:Nat):Int) rfl ?_
   refine Ar ((i-6:Nat):Int) rfl ?_
   refine Ar ((v2*2+1:Nat):Int) rfl ?_
   refine Yx (v2*2+1) (UInt8.ofNat (48+v2%10)) rfl (tbl v2 Bv2).1 ?_
   refine Yx (v2*2) (UInt8.ofNat (48+v2/10)) rfl (tbl v2 Bv2).2 ?_
   refine Eo (i-5) rfl (by omega) ?_
   refine Stb (UInt8.ofNat (48+v2%10)) rfl (by simp only[W0i,W0d,W0j,W0s];omega) (st1 (by omega) (by omega)) ?_
   refine Eo (i-6) rfl (by omega) ?_
   refine Stb (UInt8.ofNat (48+v2/10)) rfl (by simp only[W0i,W0d,W0j,W0s];omega) (st1 (by omega) (by omega)) ?_
   refine Dw rfl ?_
   refine Ar ((i-7:Nat):Int) rfl ?_
   refine Ar ((i-8:Nat):Int) rfl ?_
   refine Ar ((v3*2+1:Nat):Int) rfl ?_
   refine Yx (v3*2+1) (UInt8.ofNat (48+v3%10)) rfl (tbl v3 Bv3).1 ?_
   refine Yx (v3*2) (UInt8.ofNat (48+v3/10)) rfl (tbl v3 Bv3).2 ?_
   refine Eo (i-7) rfl (by omega) ?_
   refine Stb (UInt8.ofNat (48+v3%10)) rfl (by simp only[W0i,W0d,W0j,W0s];omega) (st1 (by omega) (by omega)) ?_
   refine Eo (i-8) rfl (by omega) ?_
   refine Stb (UInt8.ofNat (48+v3/10)) rfl (by simp only[W0i,W0d,W0j,W0s];omega) (st1 (by omega) (by omega)) ?_
   refine Ar ((i-8:Nat):Int) rfl ?_
   refine Bk (i-8,u/100000000,d2 v3++(d2 v2++(d2 v1++(d2 v0++acc)))) [] rfl ⟨by omega,?_,by omega,?_⟩ (by show i-8<i;omega) (by exact⟨rfl,rfl,rfl,rfl,rfl⟩)
   . obtain⟨q,rfl⟩:∃q,i=q+8:=⟨i-8,by omega⟩
     rw[W0x] at hu
     rw[W3r]
     exact W4t (by rw[W1i];exact hu)
   . obtain⟨q,rfl⟩:∃q,i=q+8:=⟨i-8,by omega⟩
     rw[W3r,<-hI,show q+8=q+6+2 from rfl,Yez,show q+6=q+4+2 from rfl,Yez,show q+4=q+2+2 from rfl,Yez,Yez]
     rw[show u/100/100/100/100=u/100000000 by omega,show u%100=v0 by omega,show u/100%100=v1 by omega,show u/100/100%100=v2 by omega,show u/100/100/100%100=v3 by omega]
     simp only[W4x]
 have hi8:i<8:=by omega
 have hu8:u<10^8:=W0v hu (W0m (by decide) (by omega))
 refine Go.Vm.Cv u rfl ?_
 refine Cu none (λ((i,u,acc):Nat×Nat×List UInt8)=>[(0,.own 1000001 1 0 nd),(12,.d (.int .u32 u)),(4,.d (.int .i64 i))]) (λ(i,_,acc)=>[(1000001,.arr 1 ((z0.take i++acc).map b8))])
  (λ(i,u,acc)=>i<=nd/\i<4/\u<10^i/\dgs i u++acc=dgs nd x++z0.drop nd) rfl ?_ ?_
 . refine By rfl (λh4=>?_) λh4=>?_
   . obtain⟨v,hv⟩:∃v,v=u%10000:=⟨_,rfl⟩
     obtain⟨v0,hv0⟩:∃w,w=v%100:=⟨_,rfl⟩
     obtain⟨v1,hv1⟩:∃w,w=v/100:=⟨_,rfl⟩
     have Bv0:v0<100:=by omega
     have Bv1:v1<100:=by omega
     refine Ar (v:Nat) rfl ?_ (reN (b:=10000) (by decide) hv.symm)
     refine Ar (u/10000:Nat) rfl ?_ (quN (b:=10000) (by decide) rfl (by simp only[inK];omega))
     refine Ar v1 rfl ?_ (quN (b:=100) (by decide) hv1.symm (by simp only[inK];omega))
     refine Ar (v1*2:Nat) rfl ?_
     refine Ar v0 rfl ?_ (reN (b:=100) (by decide) hv0.symm)
     refine Ar (v0*2:Nat) rfl ?_
     refine Dw rfl ?_
     refine Ar ((i-1:Nat):Int) rfl ?_
     refine Ar ((i-2:Nat):Int) rfl ?_
     refine Ar ((v0*2+1:Nat):Int) rfl ?_
     refine Yx (v0*2+1) (UInt8.ofNat (48+v0%10)) rfl (tbl v0 Bv0).1 ?_
     refine Yx (v0*2) (UInt8.ofNat (48+v0/10)) rfl (tbl v0 Bv0).2 ?_
     refine Eo (i-1) rfl (by omega) ?_
     refine Stb (UInt8.ofNat (48+v0%10)) rfl (by simp only[W0i,W0d,W0j,W0s];omega) (st1 (by omega) (by omega)) ?_
     refine Eo (i-2) rfl (by omega) ?_
     refine Stb (UInt8.ofNat (48+v0/10)) rfl (by simp only[W0i,W0d,W0j,W0s];omega) (st1 (by omega) (by omega)) ?_
     refine Dw rfl ?_
     refine Ar ((i-3:Nat):Int) rfl ?_
     refine Ar ((i-4:Nat):Int) rfl ?_
     refine Ar ((v1*2+1:Nat):Int) rfl ?_
     refine Yx (v1*2+1) (UInt8.ofNat (48+v1%10)) rfl (tbl v1 Bv1).1 ?_
     refine Yx (v1*2) (UInt8.ofNat (48+v1/10)) rfl (tbl v1 Bv1).2 ?_
     refine Eo (i-3) rfl (by omega) ?_
     refine Stb (UInt8.ofNat (48+v1%10)) rfl (by simp only[W0i,W0d,W0j,W0s];omega) (st1 (by omega) (by omega)) ?_
     refine Eo (i-4) rfl (by omega) ?_
     refine Stb (UInt8.ofNat (48+v1/10)) rfl (by simp only[W0i,W0d,W0j,W0s];omega) (st1 (by omega) (by omega)) ?_
     refine Ar ((i-4:Nat):Int) rfl ?_
     refine Jn (i-4,u/10000,d2 v1++(d2 v0++acc)) [] rfl ⟨by omega,by omega,?_,?_⟩
     . obtain⟨q,rfl⟩:∃q,i=q+4:=⟨i-4,by omega⟩
       rw[W0x] at hu
       rw[W3r]
       exact W4t (by rw[W1i];exact hu)
     . obtain⟨q,rfl⟩:∃q,i=q+4:=⟨i-4,by omega⟩
       rw[W3r,<-hI,show q+4=q+2+2 from rfl,Yez,Yez]
       rw[show u/100/100=u/10000 by omega,show u%100=v0 by omega,show u/100%100=v1 by omega]
       simp only[W4x]
   . exact Jn (i,u,acc) [] rfl ⟨hi,by omega,hu,hI⟩
 clear hu8 hi8 h hI hu9 hu hi acc u i
 rintro⟨i,u,acc⟩ ⟨hi,hi4,hu,hI⟩
 have hu4:u<10^4:=W0v hu (W0m (by decide) (by omega))
 refine Cu none (λ((i,u,acc):Nat×Nat×List UInt8)=>[(0,.own 1000001 1 0 nd),(12,.d (.int .u32 u)),(4,.d (.int .i64 i))]) (λ(i,_,acc)=>[(1000001,.arr 1 ((z0.take i++acc).map b8))])
  (λ(i,u,acc)=>i<=nd/\i<2/\u<10^i/\dgs i u++acc=dgs nd x++z0.drop nd) rfl ?_ ?_
 . refine By rfl (λh4=>?_) λh4=>?_
   . obtain⟨v0,hv0⟩:∃w,w=u%100:=⟨_,rfl⟩
     have Bv0:v0<100:=by omega
     refine Ar v0 rfl ?_ (reN (b:=100) (by decide) hv0.symm)
     refine Ar (v0*2:Nat) rfl ?_
     refine Ar (u/100:Nat) rfl ?_ (quN (b:=100) (by decide) rfl (by simp only[inK];omega))
     refine Dw rfl ?_
     refine Ar ((i-1:Nat):Int) rfl ?_
     refine Ar ((i-2:Nat):Int) rfl ?_
     refine Ar ((v0*2+1:Nat):Int) rfl ?_
     refine Yx (v0*2+1) (UInt8.ofNat (48+v0%10)) rfl (tbl v0 Bv0).1 ?_
     refine Yx (v0*2) (UInt8.ofNat (48+v0/10)) rfl (tbl v0 Bv0).2 ?_
     refine Eo (i-1) rfl (by omega) ?_
     refine Stb (UInt8.ofNat (48+v0%10)) rfl (by simp only[W0i,W0d,W0j,W0s];omega) (st1 (by omega) (by omega)) ?_
     refine Eo (i-2) rfl (by omega) ?_
     refine Stb (UInt8.ofNat (48+v0/10)) rfl (by simp only[W0i,W0d,W0j,W0s];omega) (st1 (by omega) (by omega)) ?_
     refine Ar ((i-2:Nat):Int) rfl ?_
     refine Jn (i-2,u/100,d2 v0++acc) [] rfl ⟨by omega,by omega,?_,?_⟩
     . obtain⟨q,rfl⟩:∃q,i=q+2:=⟨i-2,by omega⟩
       rw[W0x] at hu
       rw[W3r]
       exact W4t (by rw[W1i];exact hu)
     . obtain⟨q,rfl⟩:∃q,i=q+2:=⟨i-2,by omega⟩
       rw[W3r,<-hI,Yez,<-hv0]
       simp only[W4x]
   . exact Jn (i,u,acc) [] rfl ⟨hi,by omega,hu,hI⟩
 clear hu4 hi4 hI hu hi acc u i
 rintro⟨i,u,acc⟩ ⟨hi,hi2,hu,hI⟩
 refine By rfl (λh4=>?_) λh4=>?_
 . have:i=1:=by omega
   subst this
   have hu1:u<10:=by simpa using hu
   refine Ar (48+u:Nat) rfl ?_
   refine Go.Vm.Cv (48+u:Nat) rfl ?_
   refine Eo 0 rfl (by omega) ?_
   refine Stb (UInt8.ofNat (48+u)) rfl (by simp only[W0i,W0d,W0j];omega) (st1 (i:=1) rfl (by omega)) ?_ (by rw[dg hu1])
   refine Rw [] [(1000001,.arr 1 ((z0.take 0++UInt8.ofNat (48+u)::acc).map b8))] rfl (.tup (.one (.rf rfl) (λ_ _ e=>by cases e) (λ_ _ e=>by cases e))) ?_
   rw[<-hI,dgs,dgs,W3w hu1];rfl
 . have:i=0:=by omega
   subst this
   refine Rw [] [(1000001,.arr 1 ((z0.take 0++acc).map b8))] rfl (.tup (.one (.rf rfl) (λ_ _ e=>by cases e) (λ_ _ e=>by cases e))) ?_
   rw[<-hI,dgs];rfl
end
section
theorem Xlq{x:Nat}(hx:x<1000000000): C0 170 [.d (.int .u64 x),.d (.int .i64 10)] (·=.d (.str (dec x))):=by
 have h1:C0 242 [.d (.int .u64 x),.d (.int .i64 10)] (·=.d (.str (dec x))):=by
  refine En Tryz.func242 λ_ _ _=>?_
  refine Yes rfl rfl ?_
  refine By rfl (λh=>?_) λh=>?_
  . refine Go.Vm.Cv x rfl ?_
    refine Ce rfl (Xya (by omega)) ?_
    exact R0
  . have hl:=Xfm 8 x hx
    have hg:=Xez 2 x (by omega)
    refine Va 5 5 900 24 ((List.replicate 24 (0:UInt8)).map b8) rfl rfl (by decide) rfl ?_
    refine Ce rfl (Xmf (by omega) hx) ?_
    refine Sp (dec x).length rfl (by omega) (by decide) ?_ (by decide)
    refine Cw (args:=[.own 1000001 1 0 (dec x).length,.d (.int .u64 x)]) [(1000001,900)] rfl (Xir (z0:=List.replicate 24 (0:UInt8)) hl hx (Yjb x) (by simp;omega) (by simp)) (λv H' _ hv=>?_) rfl
    subst hv
    refine Sp (dec x).length rfl (by omega) (by decide) ?_ (by decide)
    refine Bo (dec x) rfl ?_ ?_ ?_
    . simp[Xwp]
    . rw[Xwp]
      simp only[W1d]
      rw[<-W2e,W6e rfl,Xw5]
    . exact R0
 refine En Tryz.func170 λ_ _ _=>?_
 refine Ce rfl h1 ?_
 exact R0
end
section
theorem Xd4{s t:List UInt8}(hs:Tx s)(ht:Tx t): C0 174 [.d (.str s),.d (.str t)] (·=.b (dc (s.take t.length=t))):=by
 refine En Tryz.func174 λ_ _ _=>?_
 refine Ce rfl (Xg8 hs ht) ?_
 exact R0
theorem Yfo{n:Nat}(hn:n<65): C0 173 [.d (.int .u64 1),.d (.int .u64 n)] (·=.tup (.pr (.d (.int .u64 0)) (.d (.int .u64 n)))):=by
 have h1:C0 244 [.d (.int .u64 1),.d (.int .u64 n)] (·=.tup (.pr (.d (.int .u64 0)) (.d (.int .u64 n)))):=by
  refine En Tryz.func244 λ_ _ _=>?_
  refine Ar 1 rfl ?_ (by simp only[arB];decide +kernel)
  refine Ar 0 rfl ?_ (by simp only[arB];decide +kernel)
  refine Ar n rfl ?_ (by simp only[arB];revert hn;generalize n=j;revert j;decide +kernel)
  refine Ar 0 rfl ?_ (by simp only[arB];revert hn;generalize n=j;revert j;decide +kernel)
  refine Ar n rfl ?_
  refine Ar 0 rfl ?_
  refine Ar 0 rfl ?_ (by simp only[arB];revert hn;generalize n=j;revert j;decide +kernel)
  refine Ar 0 rfl ?_
  refine Ar 0 rfl ?_ (by simp only[arB];decide +kernel)
  refine Ar 0 rfl ?_ (by simp only[arB];decide +kernel)
  refine Ar 0 rfl ?_
  refine Ar 0 rfl ?_
  refine Ar 0 rfl ?_
  refine Ar 0 rfl ?_
  refine Ar 0 rfl ?_ (by simp only[arB];decide +kernel)
  refine Ar 0 rfl ?_
  refine Ar n rfl ?_
  exact R0t
 refine En Tryz.func173 λ_ _ _=>?_
 refine Ce rfl h1 ?_
 exact R0t
theorem Xj9{n:Nat}(hn:n<65): C0 106 [.d (.str [48]),.d (.int .i64 n)] (·=.d (.str (List.replicate n 48))):=by
 refine En Tryz.func106 λ_ _ _=>?_
 refine By rfl (λh=>?_) λh=>?_
 . have:n=0:=by omega
   subst this;exact R1 rfl (.eq rfl)
 refine By rfl (λh1=>?_) λh1=>?_
 . have:n=1:=by omega
   subst this;exact R1 rfl (.eq rfl)
 refine No rfl (by omega) ?_
 refine Go.Vm.Cv 1 rfl ?_ (by decide)
 refine Go.Vm.Cv n rfl ?_
 refine Ce rfl (Yfo hn) ?_
 refine No rfl (by decide) ?_
 refine No rfl (by omega) ?_
 refine Go.Vm.Cv n rfl ?_
 refine No rfl (by decide) ?_
 refine Yx 0 48 rfl rfl ?_
 refine No rfl (by decide) ?_
 refine No rfl (by decide) ?_
 refine Yes rfl (by decide) ?_
 refine Yes rfl (by omega) ?_
 refine Ce rfl (Xd4 (by decide) (by decide)) ?_
 refine No rfl (by decide) ?_
 refine Yes rfl (by omega) ?_
 refine Ce rfl (Xd4 (by decide) (by decide)) ?_
 refine No rfl (by decide) ?_
 refine Yes rfl (by omega) ?_
 refine Ce rfl (Xd4 (by decide) (by decide)) ?_
 refine Yes rfl (by decide) ?_
 refine Stk n (List.replicate n 48) rfl (by simp;omega) ?_ ?_
 . clear h h1
   revert hn;generalize n=j;revert j;decide +kernel
 . exact R0
end
section
end
section
end
section
end
section
end
end Go.Proofs.YtfjafaehfjjaiaaGreatDoor
namespace Go.Num
open Go.Proofs.YtfjafaehfjjaiaaGreatDoor
section
end
section
theorem Xp9{k m d:Nat}(hd:d<10)(hm:m<10^(k+1)): pad k (dec m)++[UInt8.ofNat (48+d)]=pad (k+1) (dec (10*m+d)):=by
 by_cases h0:m=0
 . subst h0
   rw[show 10*0+d=d by omega,Xd6 hd,Xd6 (show 0<10 by decide)]
   show List.replicate (k+1-1) 48++[UInt8.ofNat (48+0)]++[UInt8.ofNat (48+d)]=List.replicate (k+1+1-1) 48++[UInt8.ofNat (48+d)]
   rw[show k+1+1-1=k+1-1+1 by omega,W6p]
   rfl
 . have e:dec (10*m+d)=dec m++[UInt8.ofNat (48+d)]:=by
    rw[Xgd (show 10<=10*m+d by omega),show (10*m+d)/10=m by omega,show (10*m+d)%10=d by omega]
   rw[e]
   unfold pad
   rw[W0d,W6m,show k+1+1-((dec m).length+1)=k+1-(dec m).length by omega,W4x]
theorem Xwr: ∀(k n:Nat),10^(k+1)<=n->dec n=dec (n/10^(k+1))++pad k (dec (n%10^(k+1)))
 | 0,n,h=>by
  have h:10<=n:=h
  rw[Xgd h]
  show _=dec (n/10)++pad 0 (dec (n%10))
  rw[Xd6 (n:=n%10) (W1q _ (by decide))]
  rfl
 | k+1,n,h=>by
  have e1:10^(k+1+1)=10*10^(k+1):=by rw[W0y];omega
  have hp:0<10^(k+1):=Nat.pow_pos (by decide)
  have h10:10<=n:=by omega
  have ih:=Xwr k (n/10) (by rw[W7j (by decide)];omega)
  have hm:n/10%10^(k+1)<10^(k+1):=W1q _ hp
  rw[Xgd h10,ih,W4x,Xp9 (W1q _ (by decide)) hm,W6g,<-e1]
  congr 3
  have:=Nat.mod_mul (a:=10) (b:=10^(k+1)) (x:=n)
  rw[e1,this];omega
def cks(n:Nat): List Nat:=if h:n=0 then [] else n%1000000000::cks (n/1000000000)
termination_by n
decreasing_by omega
theorem Xe0: cks 0=[]:=by rw[cks,dif_pos rfl]
theorem Xfn{n:Nat}(h:n≠0): cks n=n%1000000000::cks (n/1000000000):=by rw[cks,dif_neg h]
theorem Yjl: ∀(n c:Nat),c∈cks n->c<1000000000:=λn=>by
 induction n using Nat.strongRecOn with
 | _ n ih =>
  intro c hc
  by_cases h:n=0
  . subst h;rw[Xe0] at hc;cases hc
  . rw[Xfn h,W1j] at hc
    rcases hc with rfl | hc
    . omega
    . exact ih _ (by omega) c hc
theorem Xw1: ∀ {k n:Nat},n<4294967296^k->(cks n).length<=2*k
 | 0,n,h=>by
  have:n=0:=by simpa using h
  subst this;rw[Xe0];exact W0a _
 | k+1,n,h=>by
  by_cases h0:n=0
  . subst h0;rw[Xe0];exact W0z _
  . rw[Xfn h0]
    by_cases h1:n/1000000000=0
    . rw[h1,Xe0];simp;omega
    . rw[Xfn h1]
      have:=Xw1 (k:=k) (n:=n/1000000000/1000000000) (by
       rw[W0y] at h
       rw[W6g,W2s (by decide)]
       refine W0v h (W0t _ (by decide)))
      simp only[W0s];omega
def Xyv: List Nat->List UInt8
 | []=>[]
 | [c]=>dec c
 | c::e::l=>Xyv (e::l)++pad 8 (dec c)
theorem Xyu: ∀n,n≠0->Xyv (cks n)=dec n:=λn=>by
 induction n using Nat.strongRecOn with
 | _ n ih =>
  intro h
  rw[Xfn h]
  by_cases h2:n/1000000000=0
  . rw[h2,Xe0]
    show dec (n%1000000000)=_
    congr 1;omega
  . have:=ih (n/1000000000) (by omega) h2
    rw[Xfn h2] at this |-
    show Xyv (n/1000000000%1000000000::cks (n/1000000000/1000000000))++pad 8 (dec (n%1000000000))=_
    rw[this]
    exact(Xwr 8 n (by show 1000000000<=n;omega)).symm
theorem Xue{c:Nat}{l:List Nat}(h:l≠[]): Xyv (c::l)=Xyv l++pad 8 (dec c):=by
 cases l with
 | nil=>exact absurd rfl h
 | cons e l=>rfl
end
section
theorem Yod{l:List UInt8}: l.all isD=true↔∀b∈l,Xvf b:=by
 rw[W1n]
 exact⟨λh b hb=>Yl7.1 (h b hb),λh b hb=>Yl7.2 (h b hb)⟩
theorem Ye0: ∀(k:Nat) (l:List UInt8),l.length=k+1->(∀b∈l,Xvf b)->pad k (dec (Xxq l))=l:=λk=>by
 induction k with
 | zero =>
  intro l hl hd
  match l,hl with
  | [x],_ =>
   have hx:=hd x (by simp)
   unfold Xvf at hx
   rw[Xzo,Xd6 (by omega)]
   show [UInt8.ofNat (48+(x.toNat-48))]=[x]
   rw[show 48+(x.toNat-48)=x.toNat by omega];simp
 | succ k ih =>
  intro l hl hd
  obtain⟨m,x,rfl⟩:∃m x,l=m++[x]:=⟨l.dropLast,l.getLast (by intro e;rw[e] at hl;simp at hl),(List.dropLast_concat_getLast _).symm⟩
  have hm:m.length=k+1:=by simpa using hl
  have hdm:∀b∈m,Xvf b:=λb hb=>hd b (by simp[hb])
  have hx:=hd x (by simp)
  unfold Xvf at hx
  have h1:=Yex hdm
  rw[hm] at h1
  rw[Xmx,<-Xp9 (by omega) h1,ih m hm hdm,show 48+(x.toNat-48)=x.toNat by omega]
  simp
end
end Go.Num
namespace Go.Proofs.YtfjafaehfjjaiaaGreatDoor
open Go Go.Num Go.Tow
abbrev scl(k:Nat)(t:Tw k)(a:El k)(u h:Rat): El k:=add k (mul k t a (rat k u)) (rat k h)
section
variable{k:Nat}{t:Tw k}{a:El k}
theorem Xs6{u:Rat}: toL k (mul k t a (rat k u))=(toL k a).map (u*·):=by rw[(Xaz k t).mc,Xhf]
theorem Xmh{m n:Nat}{u:Rat}(ha:MgL m (toL k a))(hu:Qs n u): MgL (n+m) (toL k (mul k t a (rat k u))):=λx hx=>by
 rw[Xs6] at hx
 obtain⟨y,hy,rfl⟩:=W2y.1 hx
 exact hu.mul (ha y hy)
theorem Xu0{n:Nat}{h:Rat}(hh:Qs n h)(h1:1<=n): MgL n (toL k (rat k h)):=λx hx=>by
 rw[Xcm] at hx
 rcases W1j.1 hx with rfl | hx
 . exact hh
 . obtain rfl:=(W5o.1 hx).2
   exact Qs.int (z:=0) (by unfold Zs;exact Nat.pow_pos (by decide)) h1
theorem Xu1{m n:Nat}{b:El k}(ha:MgL m (toL k a))(hb:MgL n (toL k b)): MgL (m+n+1) (toL k (add k a b)):=λx hx=>by
 rw[Xav] at hx
 obtain⟨i,hi⟩:=W3a hx
 rw[W5q] at hi
 split at hi
 . rename_i y z hy hz
   cases hi
   exact(ha y (W0f hy)).add (hb z (W0f hz))
 . cases hi
end
end Go.Proofs.YtfjafaehfjjaiaaGreatDoor
namespace Go.Proofs.YtfjafaehfjjaiaaGreatDoor.R1
open Go Go.Vm Go.Num Go.Proofs.YtfjafaehfjjaiaaGreatDoor
end Go.Proofs.YtfjafaehfjjaiaaGreatDoor.R1
namespace Go.Proofs.YtfjafaehfjjaiaaGreatDoor.R11
open Go Go.Vm Go.Num Go.Proofs.YtfjafaehfjjaiaaGreatDoor
section
theorem Xs0{z:Int}(h:z<0): tx z=45::dec z.natAbs:=by rw[tx,if_pos h];rfl
theorem Xsz{z:Int}(h:¬z<0): tx z=dec z.natAbs:=by rw[tx,if_neg h];rfl
end
section
end
section
end
end Go.Proofs.YtfjafaehfjjaiaaGreatDoor.R11
namespace Go.Proofs.YtfjafaehfjjaiaaGreatDoor.P11
open Go Go.Vm Go.Num Go.Tow Go.Proofs.YtfjafaehfjjaiaaGreatDoor Go.Proofs.YtfjafaehfjjaiaaGreatDoor.P9 Go.Proofs.YtfjafaehfjjaiaaGreatDoor.R11
structure Pk (x:Nm):Prop where
 k:x.k<=3
 re:Xb4 x.k x.t
 t:TS 300 x.k x.t
 mt:MgT 64 x.k x.t
 ml:MgL 64 (toL x.k x.a)\/(x.k=0/\MgL 1700 (toL x.k x.a))
theorem MgL.mono'{m n:Nat}{l:List Rat}(h:MgL m l)(hn:m<=n): MgL n l:=λx hx=>(h x hx).mono hn
theorem MgT.mono': ∀ {k m n:Nat} {t:Tw k},MgT m k t->m<=n->MgT n k t
 | 0,_,_,_,_,_=>trivial
 | _+1,_,_,_,h,hn=>⟨MgT.mono' h.1 hn,MgL.mono' h.2 hn⟩
theorem Xrm{k n:Nat}{a:El k}(h:MgL n (toL k a))(hk:k<=3/\n<=400\/k=0/\n<=3999): Sz 4000 (toL k a):=by
 refine(Sz.all h).mono ?_
 rw[Xab]
 rcases hk with ⟨h3,hn⟩ | ⟨rfl,hn⟩
 . have hp:2^k<=2^3:=W0m (by decide) h3
   have:=W2b hn hp
   omega
 . rw[Nat.pow_zero];omega
structure Scd (x:Nm) (u h:Rat):Prop where
 s1:Sz 4000 (toL x.k (mul x.k x.t x.a (rat x.k u)))
 s2:Sz 4000 (toL x.k (scl x.k x.t x.a u h))
 w1:Wid (bx x.k x.t (scl x.k x.t x.a u h) 2048) 1
 w2:∀b,1000000<=b->Wid (enc x.k x.t (scl x.k x.t x.a u h) b) 1
theorem Pk.sz{x:Nm}(H:Pk x): Sz 4000 (toL x.k x.a):=by
 rcases H.ml with h | ⟨h0,h⟩
 . exact Xrm h (.inl ⟨H.k,by decide⟩)
 . exact Xrm h (.inr ⟨h0,by decide⟩)
theorem Pk.sc{x:Nm}(H:Pk x){u h:Rat}(hu:Qs 200 u)(hh:Qs 2 h): Scd x u h:=by
 rcases H.ml with hl | ⟨h0,hl⟩
 . have m1:=Xmh (t:=x.t) hl hu
   have m2:=Xu1 m1 (Xu0 (k:=x.k) hh (by decide))
   exact⟨Xrm m1 (.inl ⟨H.k,by decide⟩),Xrm m2 (.inl ⟨H.k,by decide⟩),Ye8 H.re H.mt (MgL.mono' m2 (by decide)) H.k,Xiv H.re (MgT.mono' H.mt (by decide)) (MgL.mono' m2 (by decide)) H.k (show 10000<=10000 by decide)⟩
 . have m1:=Xmh (t:=x.t) hl hu
   have m2:=Xu1 m1 (Xu0 (k:=x.k) hh (by decide))
   refine⟨Xrm m1 (.inr ⟨h0,by decide⟩),Xrm m2 (.inr ⟨h0,by decide⟩),?_,Xiv H.re (MgT.mono' H.mt (by decide)) (MgL.mono' m2 (by decide)) H.k (show 10000<=10000 by decide)⟩
   obtain⟨k,t,a⟩:=x
   obtain rfl:k=0:=h0
   exact(Xg7 (m:=64) (b:=2048) H.re H.mt m2 (show 0<eE 64 2048 0 _ by exact(by decide:0<2*2048-2))).mono (show 1<=2*2048-2 by decide)
theorem Ygi{n:Nat}(hn:n<=60): Qs 200 ((10^n:Int):Rat):=by
 have h1:(10:Nat)^n<=10^60:=W0m (by decide) hn
 refine Qs.int ?_ (by decide)
 show ((10:Int)^n).natAbs<2^200
 rw[Int.natAbs_pow]
 exact W1t h1 (by decide)
theorem Yfz{k:Nat}(hk:k<=3): eB 4000 (2*(1000000+1+16)) k<=274877906944/\vB 4000 k (4000+eB 4000 (2*(1000000+1+16)) k+4)<=4398046511104/\vB 4000 k (4000+bB 4000 2048 k+4)<=4398046511104/\bB 4000 2048 k<=274877906944/\cB 300 k<=1000000000:=by
 have h:k=0\/k=1\/k=2\/k=3:=by omega
 rcases h with rfl | rfl | rfl | rfl<;>decide +kernel
theorem Xyp{n:Nat}(hn:n<=400): C0 237 [.d (.int .i64 n)] (·=.d (dz (10^n))):=by
 refine En Tryz.func237 λ_ _ _=>?_
 refine Ce rfl (FromInt_ok (z:=10) (by decide)) ?_
 refine Ce rfl (Yee (z:=10) (q:=4) (show (10:Int).natAbs<2^4 by decide) (by omega) (by decide)) ?_
 exact R1 rfl (.rf rfl)
theorem Xxw{z:Int}{p:Nat}(hz:Zs p z)(hp:1<=p)(hp2:p<=8796093022208): C0 236 [.d (dz z)] (·=.d (dq (z:Rat))):=by
 have h:=Make_ok hz (Zs.one hp) hp2 (by decide)
 rw[Xwm] at h
 refine En Tryz.func236 λ_ _ _=>?_
 refine Dw rfl ?_
 refine Ce rfl (FromInt_ok (z:=1) (by decide)) ?_
 refine Ce rfl h ?_
 exact R1 rfl (.rf rfl)
theorem Xhl{x:Nm}{d:Nat}{h:Rat}(H:Pk x)(hd:d<=60)(hh:Qs 2 h): C0 164 [.d (dN x),.d (.int .i64 d),.d (dq h)] λv=>∃z,v=.tup (.pr (.d (dz z)) (.d (.int .i64 0)))/\Xdh x.k x.t (scl x.k x.t x.a ((10^d:Int):Rat) h) z/\(dig z.natAbs).length<=274877906944:=by
 have hu:=Ygi hd
 have S:=H.sc hu hh
 obtain⟨b1,b2,b3,b4,b5⟩:=Yfz H.k
 have hz:Zs 200 (10^d:Int):=hu.n
 refine En Tryz.func164 λ_ _ _=>?_
 refine No rfl (by omega) ?_
 refine No rfl (by omega) ?_
 refine Dw rfl ?_
 refine Ce rfl (Xyp (by omega)) ?_
 refine Ce rfl (Xxw hz (by decide) (by decide)) ?_
 refine Ce rfl (P9.FromRat_ok hu (by decide)) ?_
 refine Ce rfl (Ym8 H.t H.sz hu (by have:=H.k;omega) (by decide) (by decide) (by decide) b5) ?_
 refine No rfl (by decide) ?_
 refine Dw rfl ?_
 refine Ce rfl (P9.FromRat_ok hh (by decide)) ?_
 refine Ce rfl (Ync (x:=⟨x.k,x.t,mul x.k x.t x.a (rat x.k ((10^d:Int):Rat))⟩) H.t S.s1 hh (by have:=H.k;show x.k<=8;omega) (by decide) (by decide) (by decide)) ?_
 refine No rfl (by decide) ?_
 refine Ca rfl (Xtr (P:=1000000) H.re S.w2 (H.t.mono (by decide)) S.s2 (by decide) (show x.k<=16 by have:=H.k;omega) (by decide) b1 b2) λv hv=>?_
 obtain⟨z,rfl,hz⟩:=hv
 exact Rt rfl (.tup (.cons (.rf rfl) Xa7)) ⟨z,rfl,hz⟩
abbrev hf: Rat:=Rat.divInt 1 2
theorem Ymb: Qs 2 hf:=⟨show hf.num.natAbs<2^2 by decide,show ((hf.den:Int)).natAbs<2^2 by decide⟩
theorem Xz9{x:Nm}{d:Nat}(H:Pk x)(hd:d<=60): C0 103 [.d (dN x),.d (.int .i64 d)] λv=>∃z,v=.tup (.pr (.d (dz z)) (.d (.int .i64 0)))/\Xdh x.k x.t (scl x.k x.t x.a ((10^d:Int):Rat) hf) z/\(dig z.natAbs).length<=274877906944:=by
 refine En Tryz.func103 λ_ _ _=>?_
 refine Dw rfl ?_
 refine Ce rfl (Xcf (a:=1) (b:=2) (by decide) (by decide)) ?_
 refine Ca rfl (Xhl H hd Ymb) λv hv=>?_
 obtain⟨z,rfl,hz⟩:=hv
 exact Rt rfl (.tup (.cons (.rf rfl) Xa7)) ⟨z,rfl,hz⟩
end Go.Proofs.YtfjafaehfjjaiaaGreatDoor.P11
namespace Go.Vm
open Go
abbrev cxM(P:Program)(gb:Gb P)(t:Tab P)(m:Mx P)(hpr:∀T ti,t.tb T=some ti->∀a c,ti.z≠.pr a c)(n:Nat)(hn:n<=1000000)(fn:Func)(W:GW)(Q:AV->Prop)(hg:gb.g W): Cx:=⟨P,gb,t.tb,λT ti h=>⟨t.ok T ti h,hpr T ti h⟩,m,n,hn,W,λ_=>False,θe,bodyPostM Fence.wide 8 P fn (Ret W Q),hg⟩
theorem EnM {P : Program} [gb : Gb P] [t : Tab P] [hp : Npr P] [m : Mx P] {f n : Nat} {fn : Func} {x : Code} {args : List AV} {Q : AV → Prop} (hf : P.funcs[f]? = some fn) (h : ∀ W hg hn, StP (cxM P gb t m hp.h n hn fn W Q hg) (.j [] [.c x] (Yf0 0 args) [])) (hname : (fn.name == "runtime.NumGoroutine") = false := by exact rfl) (hb : fn.body = some x := by exact rfl)
 (hN:fn.ntmps=n:=by exact rfl) (hl:(Nat.ble args.length n&&Nat.ble n 1000000&&args.all Xkz)=true:=by exact rfl):C P f args Q:=by
 refine⟨⟨fn,hf,hname,by rw[hb];rfl⟩,λW vs hg ha=>(callsIn_wide (n:=8)).1 (callsIn_of_wp_marks hf hb trivial (wpIn_wide.2 ?_) rfl)⟩
 have h:=h W hg (by simp only[W0g] at hl;exact W1g hl.1.2)
 simp only[StP,sem,<-Xlm] at h
 simp only[W0g] at hl
 obtain⟨⟨hl1,hl2⟩,hl3⟩:=hl
 have hl1:=W1g hl1
 have hlen:=ha.len
 refine wp_mono (h _ W.w ⟨_,W,θe,rfl,⟨Fm.refl W _,⟨rfl,by simp[hN];omega,λt v ht=>?_⟩,⟨λo x h=>(by cases h),λo x b h=>(by cases h),λo o' x x' b h=>(by cases h),λo x i h=>(by cases h)⟩,λt v i ht hi=>?_⟩,λ_ _=>rfl,rfl⟩) λe a w h=>by cases e<;>exact h
 . obtain⟨_,u,h2,h3,_⟩:=Xne ha ht
   rw[W6l] at h2
   have hlt:=Xbj h2
   rw[W0c hlt] at h2
   injection h2 with h2
   simp only[Array.getD]
   rw[dif_pos (by simp;omega)]
   simp[W6w,hlt,h2]
   exact h3
 . obtain⟨_,u,_,_,h4⟩:=Xne ha ht
   exact absurd hi (Xky (W1n.1 hl3 v h4) i)
theorem StP.rest2{c:Cx}{G:List (Nat×Bool)}{x y:Code}{E:Env}{H:Hpl}(h:∀a w,c.Nx (λs'=>s'=sem E H) a w->x.wp c.P (Exit.then (y.wp c.P c.fin) c.fin) a w): StP c (.j G [.c x,.c y] E H) :=
 λa w hw=>wp_mono (h a w hw) λe a w h=>by
  cases e with
  | normal=>exact wp_mono h λe a w h=>by cases e<;>exact h
  | _=>exact h
theorem Tl{c:Cx}{s:St}(id:Nat){G:List (Nat×Bool)}{x y:Code}{E:Env}{H:Hpl}(h:nxT c.tb c.n (some id) s=some (G,x,[.c y],E,H))(k:∀a w,c.Nx (λs'=>s'=sem E H) a w->x.wpIn Fence.wide 8 c.P (Exit.then (y.wpIn Fence.wide 8 c.P c.fin) c.fin) a w): StP c s:=by
 have key:StP c (.j G [.c x,.c y] E H):=StP.rest2 λa w hw=>wp_mono (wpIn_wide.1 (k a w hw)) λe a w h=>by
  cases e with
  | normal=>exact wpIn_wide.1 h
  | _=>exact h
 unfold nxT at h
 simp only at h
 split at h<;>cases h
 rename_i hr
 exact Xfb 1000 (by rw[hr];exact key)
theorem Xai{α:Type}{n:Nat}: ∀ {l:List α},l.length=n+1->∃t l',l=t::l'/\l'.length=n
 | t::l',h=>⟨t,l',rfl,by simpa using h⟩
end Go.Vm
namespace Go.Proofs.YtfjafaehfjjaiaaGreatDoor
open Go Go.Vm Go.Num Go.Proofs Go.Shelf Go.RowKit
section
end
section
theorem Xve{q n:Nat}{l:List Nat}(hw:Xaq l)(hq:q+n<=l.length)(hl:n<=1099511627776): CN0 167 [.own 1000001 1 q n] [(1000001,.arr 1 (l.map wd))] λv=>∃k,k<=n/\v=.own 1000001 1 q k/\(l.drop q).take k=dig (val ((l.drop q).take n)):=by
 have dtk:∀ {m k:Nat},k<m->((l.drop q).take m)[k]?=l[q+k]?:=λh=>by rw[W1e,if_pos h,W1y]
 have Xxr:∀ {m:Nat},q+m<=l.length->((l.drop q).take m).length=m:=λh=>by rw[W0j,W1l];omega
 refine EnW Tryz.func167 λ_ _ _ _=>?_
 refine Lo (λk=>[(0,.own 1000001 1 q k)]) (λ_=>[(1000001,.arr 1 (l.map wd))]) (λk=>k<=n/\val ((l.drop q).take k)=val ((l.drop q).take n)) id n [] rfl ⟨W0a _,rfl⟩ λk ⟨hk,hv⟩=>?_
 have hwk:=(hw.drop q).take k
 refine By rfl (λh=>?_) λh=>?_
 . obtain⟨u,hu⟩:=xat (l:=l) (k:=q+(k-1)) (by omega)
   have hs:=Xac (l:=l.drop q) (k:=k-1) (x:=u) (by rw[W1y];exact hu)
   rw[show k-1+1=k by omega,hv] at hs
   refine Ar (k-1:Nat) rfl ?_
   refine El (k-1) rfl (by omega) ?_
   refine Ld (wd u) rfl (mp hu) ?_
   refine By rfl (λh0=>?_) λh0=>?_
   . refine Ar (k-1:Nat) rfl ?_
     refine Sw 0 (k-1) rfl (by omega) (by omega) ?_
     exact Bk (k-1) [] rfl ⟨by omega,by rw[hs,show u=0 by omega,W3d,W2n]⟩ (show k-1<k by omega)
   . exact Rw [] [(1000001,.arr 1 (l.map wd))] rfl (.one (.rf rfl) rfl rfl) ⟨rfl,k,hk,rfl,by rw[<-hv,Xfj hwk (.inr ⟨u,by rw[Xxr (by omega),dtk (by omega)];exact hu,λe=>h0 (by rw[e];rfl)⟩)]⟩
 . refine Rw [] [(1000001,.arr 1 (l.map wd))] rfl (.one (.rf rfl) rfl rfl) ⟨rfl,k,hk,rfl,?_⟩
   rw[show k=0 by omega] at hv |-
   rw[<-hv,W5c,val,Xan]
theorem Xlk{l:List Nat}(h0:0<l.length)(hl:l.length<=1099511627776): CA0 166 [.d (ws l)] 1 (l.map wd):=by
 refine EnW Tryz.func166 λ_ _ _ _=>?_
 refine Ub rfl (λh=>?_) ?_
 . exact absurd h (by intro e; have:l.length = 0 := by simpa using congrArg List.length e
                      omega)
 refine ApL (l.map wd) rfl rfl (by simpa using h0) (by simpa using hl) ?_
 exact Rw [(7,1000000)] [(1000000,.arr 1 (l.map wd))] rfl (.one (.rf rfl) rfl rfl) ⟨_,rfl,rfl,rfl⟩
theorem Xo7: C0 105 [.d (dz 0)] (·=.d (.str [48])):=by
 refine En Tryz.func105 λ_ _ _=>?_
 refine Ce rfl (Xci (n:=0) (by rw[Xan];decide)) ?_
 refine Ce rfl (Xbq (l:=dig 0) (by rw[Xan];decide)) ?_
 refine Yes rfl (by rw[Xan];rfl) ?_
 exact R0
def Fm9(z x n:Nat)(lo cs:List Nat): Prop:=n<=lo.length/\lo.length<=549755813888/\Xaq lo/\lo.take n=dig x/\cks z=cs++cks x
theorem Yfs{z x n:Nat}{lo cs:List Nat}(h:Fm9 z x n lo cs): n=(dig x).length:=by
 have:=congrArg List.length h.2.2.2.1
 rw[W0j,W2f h.1] at this
 exact this
end
section
def rnB: Ren:=⟨λn=>match n with
 | 166=>171
 | 167=>168
 | 169=>172
 | 240=>240
 | 276=>299
 | _=>0,λn=>match n with
 | 3=>3
 | 4=>4
 | 5=>5
 | 9=>9
 | 20=>20
 | 37=>24
 | 70=>186
 | 72=>188
 | 75=>190
 | 80=>198
 | 127=>232
 | 164=>266
 | _=>0,λn=>n⟩
theorem Yib: Lays.n166 Tryz.prog rnB where
 mixed:=by kernel_rfl
 f166:=by kernel_rfl
 f240:=by kernel_rfl
 f276:=by kernel_rfl
 t0:=by kernel_rfl
 a0:=λ_=>by kernel_rfl
 z0:=λ_=>by kernel_rfl
 v0:=λ_=>by kernel_rfl
 t3:=by kernel_rfl
 a3:=λ_=>by kernel_rfl
 z3:=λ_=>by kernel_rfl
 v3:=λ_=>by kernel_rfl
 t4:=by kernel_rfl
 a4:=λ_=>by kernel_rfl
 z4:=λ_=>by kernel_rfl
 v4:=λ_=>by kernel_rfl
 t9:=by kernel_rfl
 a9:=λ_=>by kernel_rfl
 z9:=λ_=>by kernel_rfl
 v9:=λ_=>by kernel_rfl
 t20:=by kernel_rfl
 a20:=λ_=>by kernel_rfl
 z20:=λ_=>by kernel_rfl
 v20:=λ_=>by kernel_rfl
 t37:=by kernel_rfl
 a37:=λ_=>by kernel_rfl
 z37:=λ_=>by kernel_rfl
 v37:=λ_=>by kernel_rfl
 t70:=by kernel_rfl
 a70:=λ_=>by kernel_rfl
 z70:=λ_=>by kernel_rfl
 v70:=λ_=>by kernel_rfl
 t72:=by kernel_rfl
 a72:=λ_=>by kernel_rfl
 z72:=λ_=>by kernel_rfl
 v72:=λ_=>by kernel_rfl
 t75:=by kernel_rfl
 a75:=λ_=>by kernel_rfl
 z75:=λ_=>by kernel_rfl
 v75:=λ_=>by kernel_rfl
 t164:=by kernel_rfl
 a164:=λ_=>by kernel_rfl
 z164:=λ_=>by kernel_rfl
 v164:=λ_=>by kernel_rfl
theorem Yia: Lays.n167 Tryz.prog rnB where
 mixed:=by kernel_rfl
 f167:=by kernel_rfl
 f240:=by kernel_rfl
 f276:=by kernel_rfl
 t0:=by kernel_rfl
 a0:=λ_=>by kernel_rfl
 z0:=λ_=>by kernel_rfl
 v0:=λ_=>by kernel_rfl
 t4:=by kernel_rfl
 a4:=λ_=>by kernel_rfl
 z4:=λ_=>by kernel_rfl
 v4:=λ_=>by kernel_rfl
 t5:=by kernel_rfl
 a5:=λ_=>by kernel_rfl
 z5:=λ_=>by kernel_rfl
 v5:=λ_=>by kernel_rfl
 t9:=by kernel_rfl
 a9:=λ_=>by kernel_rfl
 z9:=λ_=>by kernel_rfl
 v9:=λ_=>by kernel_rfl
 t20:=by kernel_rfl
 a20:=λ_=>by kernel_rfl
 z20:=λ_=>by kernel_rfl
 v20:=λ_=>by kernel_rfl
 t37:=by kernel_rfl
 a37:=λ_=>by kernel_rfl
 z37:=λ_=>by kernel_rfl
 v37:=λ_=>by kernel_rfl
 t70:=by kernel_rfl
 a70:=λ_=>by kernel_rfl
 z70:=λ_=>by kernel_rfl
 v70:=λ_=>by kernel_rfl
 t72:=by kernel_rfl
 a72:=λ_=>by kernel_rfl
 z72:=λ_=>by kernel_rfl
 v72:=λ_=>by kernel_rfl
 t75:=by kernel_rfl
 a75:=λ_=>by kernel_rfl
 z75:=λ_=>by kernel_rfl
 v75:=λ_=>by kernel_rfl
 t164:=by kernel_rfl
 a164:=λ_=>by kernel_rfl
 z164:=λ_=>by kernel_rfl
 v164:=λ_=>by kernel_rfl
theorem Ybv: Lays.n169 Tryz.prog rnB where
 mixed:=by kernel_rfl
 f169:=by kernel_rfl
 t0:=by kernel_rfl
 a0:=λ_=>by kernel_rfl
 z0:=λ_=>by kernel_rfl
 v0:=λ_=>by kernel_rfl
 t3:=by kernel_rfl
 a3:=λ_=>by kernel_rfl
 z3:=λ_=>by kernel_rfl
 v3:=λ_=>by kernel_rfl
 t9:=by kernel_rfl
 a9:=λ_=>by kernel_rfl
 z9:=λ_=>by kernel_rfl
 v9:=λ_=>by kernel_rfl
 t37:=by kernel_rfl
 a37:=λ_=>by kernel_rfl
 z37:=λ_=>by kernel_rfl
 v37:=λ_=>by kernel_rfl
 t70:=by kernel_rfl
 a70:=λ_=>by kernel_rfl
 z70:=λ_=>by kernel_rfl
 v70:=λ_=>by kernel_rfl
 t72:=by kernel_rfl
 a72:=λ_=>by kernel_rfl
 z72:=λ_=>by kernel_rfl
 v72:=λ_=>by kernel_rfl
 t127:=by kernel_rfl
 a127:=λ_=>by kernel_rfl
 z127:=λ_=>by kernel_rfl
 v127:=λ_=>by kernel_rfl
theorem Ykv: Builder.Extra Tryz.prog rnB where
 sizeBuilder:=by kernel_rfl
 liesBuilder:=by kernel_rfl
 t5:=by kernel_rfl
 a5:=λ_=>by kernel_rfl
 z5:=λ_=>by kernel_rfl
 v5:=λ_=>by kernel_rfl
 infoByte:=by kernel_rfl
 cellsByte:=by kernel_rfl
 sizeByte:=by kernel_rfl
 neB5:=by decide
end
section
attribute [local go_sem] Oper.semAt_some
abbrev C9:={ x:Nat // x<1000000000 }
def b9(zs:List C9)(k:Nat): List (Nat×C9):=(List.range k).map λj=>(zs.length-1-j,zs[zs.length-1-j]?.getD ⟨0,by decide⟩)
theorem Xw9(zs:List C9)(k:Nat): b9 zs (k+1)=b9 zs k++[(zs.length-1-k,zs[zs.length-1-k]?.getD ⟨0,by decide⟩)]:=by simp[b9,W6x]
theorem Xxa(zs:List C9)(k:Nat): (b9 zs k).length=k:=by simp[b9]
set_option maxRecDepth 100000 in
set_option maxHeartbeats 2000000 in
theorem Yjt(F:Fence)(n:Nat)(h8:F.fn 241)(hro:F.round=none)(hn:1<=n)(l Bs n₀ b off cap:Nat)(zs:List C9)(hreach:zs.length*4<=140737488351232)(hb:b<n₀)(J Jx:List (Nat×C9)->World->Prop)
 (hY:∀pre x W,J pre W->pre.length<zs.length->YieldAt F (n-1) Tryz.prog l #[.int .i64 (x.1:Int),.int .u32 (x.2.1:Int)] W λe W' =>
  (e=.returned (.bool true)/\J (pre++[x]) W'/\Kq n₀ Bs W W')\/(e=.returned (.bool false)/\Jx (pre++[x]) W'))
 (W:World) (hBs:W.cell? ⟨Bs,0,none⟩=some (.slice (some ⟨b,off,none⟩) zs.length cap)) (hc:∀j,j<zs.length->W.cell? ⟨b,off+j,none⟩=some (.int .u32 ((zs[j]?.getD ⟨0,by decide⟩).1:Int))) (h0:J [] W) :
 CallsIn F n Tryz.prog 241 #[.func (.yield l) #[] #[],.pointer (some ⟨Bs,0,none⟩)] W λe W'=>(∃v,e=.returned v) /\
  ((∃ys,ys=b9 zs zs.length/\J ys W')\/(∃pre,True/\Jx pre W')):=by
 refine callsIn_of_wp Tryz.func241 rfl h8 ?_ hro
 simp only[Tryz.ntmps241,W6j,W0s,W4j,Nat.reduceAdd,Nat.reduceSub,W5u,W5v,W6k,W5z,W3z,W5a]
 gi_wp2
 gi_loopw [3] (λi wr=>∃k:Nat,k<=zs.length/\i=.int .i64 ((zs.length:Int)-1-k)/\J (b9 zs k) wr/\Kq n₀ Bs W wr)
  (λi _=>(intOf i+1).toNat)
 case atStart=>exact⟨0,W0z _,by simp,h0,Kq.refl _ _ _⟩
 case round =>
  obtain⟨k,hk,rfl,hJs,hnx⟩:=hrel
  have hBs':=(World.cell?_of_block hnx.b).trans hBs
  by_cases hlt:k<zs.length
  . obtain⟨q,hq⟩:∃q,q+(k+1)=zs.length:=⟨zs.length-1-k,by omega⟩
    have hqi:((zs.length:Int)-1-k)=(q:Int):=by omega
    have hcx:=(hnx.a.cell (p:=⟨b,off+q,none⟩) hb).trans (hc q (by omega))
    obtain⟨fn,tmps,assign,body,hy,hR⟩:=hY _ (q,zs[q]?.getD ⟨0,by decide⟩) wr hJs (by rw[Xxa];exact hlt)
    dsimp only at hy
    rw[hqi]
    gi_wp2
    refine hR.mono ?_
    rintro e W3 (⟨rfl,hJ3,hk3⟩ | ⟨rfl,hJx3⟩)
    . gi_wp2
      go_roundw
      case rel=>exact⟨k+1,by omega,by congr 1;omega,by rw[Xw9,show zs.length-1-k=q by omega];exact hJ3,hnx.trans hk3⟩
      case measure=>simp[intOf]
    . gi_wp2
      refine bodyPost_ret (results_none rfl _ _ _) rfl ?_
      exact⟨⟨_,rfl⟩,.inr ⟨_,trivial,hJx3⟩⟩
  . obtain rfl:k=zs.length:=by omega
    rw[show ((zs.length:Int)-1-(zs.length:Int))=-1 by omega]
    gi_wp2
    go_end0
    exact⟨⟨_,rfl⟩,.inl ⟨_,rfl,hJs⟩⟩
theorem Xnb(F:Fence)(n:Nat)(h8:F.fn 241)(hro:F.round=none)(hn:1<=n)(Bs n₀ b off cap:Nat)(zs:List C9)(hreach:zs.length*4<=140737488351232)(w:World)(hBs:Bs<w.heap.size)(hn₀:n₀<=w.heap.size)
 (hc:w.cell? ⟨Bs,0,none⟩=some (.slice (some ⟨b,off,none⟩) zs.length cap)) (hb:b<n₀) (hcs:∀j,j<zs.length->w.cell? ⟨b,off+j,none⟩=some (.int .u32 ((zs[j]?.getD ⟨0,by decide⟩).1:Int))) :
 SeqStopsK F n Tryz.prog 241 #[.pointer (some ⟨Bs,0,none⟩)] (λx:Nat×C9=>#[Value.int .i64 (x.1:Int),Value.int .u32 (x.2.1:Int)]) (Kq n₀ Bs) (λys=>ys=b9 zs zs.length)
  (λ_=>True) zs.length w:=λl J Jx W hW _ _ hY h0=>by
 have hc':=(hW.cell (p:=⟨Bs,0,none⟩) hBs).trans hc
 exact Yjt F n h8 hro hn l Bs n₀ b off cap zs hreach hb J Jx hY W hc' (λj hj=>(hW.cell (p:=⟨b,off+j,none⟩) (W0v hb hn₀)).trans (hcs j hj)) h0
def o9(N:Nat)(sg:List UInt8): List (Nat×C9)->List UInt8:=List.foldl (λt x=>t++(if x.1+1<N then List.replicate (9-(dec x.2.1).length) 48 else [])++dec x.2.1) sg
theorem Xn7(N:Nat)(sg:List UInt8)(pre:List (Nat×C9))(x:Nat×C9): o9 N sg (pre++[x])=o9 N sg pre++(if x.1+1<N then List.replicate (9-(dec x.2.1).length) 48 else [])++dec x.2.1:=by simp[o9]
theorem Ymq(x:C9): (dec x.1).length<=9:=Xfm 8 x.1 x.2
theorem Xuj(N:Nat): ∀(pre:List (Nat×C9)) (sg:List UInt8),(o9 N sg pre).length<=sg.length+18*pre.length
 | [],_=>W5l _ _
 | x::l,sg=>by
  have ih:=Xuj N l (sg++(if x.1+1<N then List.replicate (9-(dec x.2.1).length) 48 else [])++dec x.2.1)
  have:=Ymq x.2
  have h:(if x.1+1<N then List.replicate (9-(dec x.2.1).length) (48:UInt8) else []).length<=9:=by split<;>simp
  simp only[W0d,W0s] at h ih |-
  refine W0k (show (o9 N sg (x::l)).length<=_ from ih) ?_
  omega
theorem Ydq(sg:List UInt8)(zs:List C9): ∀k,k<=zs.length->o9 zs.length sg (b9 zs k)=sg++Xyv ((zs.map (·.1)).drop (zs.length-k))
 | 0,_=>by
  rw[W1z (by simp)]
  simp[b9,o9,Xyv]
 | k+1,h=>by
  obtain⟨x,hx⟩:∃x,zs[zs.length-1-k]?=some x:=⟨_,W0c (by omega)⟩
  have hxm:(zs.map (·.1))[zs.length-(k+1)]?=some x.1:=by rw[W1p,show zs.length-(k+1)=zs.length-1-k by omega,hx];rfl
  have hd:(zs.map (·.1)).drop (zs.length-(k+1))=x.1::(zs.map (·.1)).drop (zs.length-k):=by
   obtain⟨hlt,he⟩:=W0n.1 hxm
   rw[W3e hlt,he,show zs.length-(k+1)+1=zs.length-k by omega]
  rw[Xw9,Xn7,Ydq sg zs k (by omega),hx,hd]
  simp only[W3v]
  by_cases hk:k=0
  . subst hk
    rw[if_neg (by omega),show (zs.map (·.1)).drop (zs.length-0)=[] from W1z (by simp)]
    simp[Xyv]
  . have hne:(zs.map (·.1)).drop (zs.length-k)≠[]:=λe=>by
     have:=congrArg List.length e
     simp at this;omega
    rw[if_pos (by omega),Xue hne]
    unfold pad
    simp
theorem c9s{l:List Nat}(h:∀x∈l,x<1000000000): ∃zs:List C9,zs.map (·.1)=l:=by
 induction l with
 | nil=>exact⟨[],rfl⟩
 | cons a l ih =>
  obtain⟨zs,hz⟩:=ih λx hx=>h x (W0p _ hx)
  exact⟨⟨a,h a (W0l ..)⟩::zs,by rw[W4h,hz]⟩
def gw1(w:World): GW:=⟨w,λ_ _=>False,λ_ _ h=>h.elim⟩
theorem cell_lt{w:World}{b i:Nat}{v:Value}(h:w.cell? ⟨b,i,none⟩=some v): b<w.heap.size:=by
 apply W1b
 intro hn
 simp only[World.cell?] at h
 rw[W3u (by omega)] at h
 cases h
theorem Yh6{W:GW}{n:Nat}{w':World}(h:Below n W.w w')(hn:W.w.heap.size<=n): LeF W (gw1 w'):=λb i v hv =>
 ⟨(World.cell?_of_block (h.block b (W0v (cell_lt hv.1) hn))).trans hv.1,id⟩
theorem Xre{f:FuncId}{args:List AV}{vs:List Value}{s:List UInt8}{w:World}(hc:C0 f args (·=.d (.str s)))(hg:Gb.g Tryz.prog (gw1 w))(ha:Xi3 (gw1 w) θe args vs):
 Calls Tryz.prog f vs.toArray w λe w'=>e=.returned (.string ⟨s.toArray⟩)/\Below w.heap.size w w' :=
 (hc.2 (gw1 w) vs hg ha).mono λe w' ⟨W',v,u,h1,h2,h3,h4,_,h6⟩=>by
  subst h6;subst h2
  obtain⟨rfl,_⟩:=Xxf h4
  exact⟨h1,h3.os,h3.tape,h3.out,h3.size,λk hk=>h3.same k hk id⟩
theorem Yn8{w:World}(hg:Gb.g Tryz.prog (gw1 w))(x:C9): Calls Tryz.prog 170 #[.int .u64 (x.1:Int),.int .i64 10] w λe w'=>e=.returned (.string ⟨(dec x.1).toArray⟩)/\Below w.heap.size w w' :=
 Xre (vs:=[.int .u64 (x.1:Int),.int .i64 10]) (Xlq x.2) hg ⟨int_V (by have:=x.2;show IntKind.u64.wrap _=_;exact wU (by omega)),int_V (wI (by omega)),trivial⟩
theorem Ynj{w:World}(hg:Gb.g Tryz.prog (gw1 w)){n:Nat}{k:Int}(hk:k=n)(hn:n<65): Calls Tryz.prog 106 #[.string ⟨#[48]⟩,.int .i64 k] w λe w'=>e=.returned (.string ⟨(List.replicate n 48).toArray⟩)/\Below w.heap.size w w':=by
 subst hk
 exact Xre (vs:=[.string ⟨#[48]⟩,.int .i64 (n:Int)]) (Xj9 hn) hg ⟨Xnr (s:=[48]) (by decide),int_V (by show IntKind.i64.wrap _=_;exact wI (by omega)),trivial⟩
theorem Xvh{β:Type}(T e:TypeId)(B b:Nat)(f:β->List Value): Own (λs W=>Lib.IsBuilderF T e B b (f s) W):=by
 intro s X Y row h hg hrow
 have key:∀p,Lib.BuilderAtF T e B b p (f s) X->Lib.BuilderAtF T e B b p (f s) Y:=λp ⟨hB,v,hb,hown,hne⟩=>by
  have cells:∀k cs t fz,X.heap[k]?=some (.cells cs t fz)->some k≠row:=λk cs t fz hk e'=>by
   obtain⟨o,ho,hc⟩:=hrow k e'.symm
   rw[hk] at ho;cases ho;cases hc
  refine⟨hB,v,(hg.block b (W3o.1 hb).1 (cells b _ _ _ hb)).trans hb,hown.kept hg ?_,hne⟩
  cases hv:v.ownBlock with
  | none=>exact .inl rfl
  | some g =>
   obtain⟨c,fz,hc⟩:=Lib.ownsRowF_kind hown g hv
   exact .inr (cells g _ _ _ hc)
 exact h.elim (λh=>.inl (key _ h)) λh=>.inr (key _ h)
theorem Xip{W W':World}{row:Option Nat}{b:Nat}{cs:Array Value}{t:TypeId}{fz:Nat×Nat}(h:W.heap[b]?=some (.cells cs t fz))(hg:W.grownBy W' row)(hr:∀r,row=some r->∃o:Obj,W.heap[r]?=some o/\o.isCells=false): W'.heap[b]?=some (.cells cs t fz) :=
 (hg.block b (W3o.1 h).1 (λe'=>by
  obtain⟨o,ho,hc⟩:=hr b e'.symm
  rw[h] at ho;cases ho;cases hc)).trans h
theorem Xvi{T e:TypeId}{B b:Nat}{bs:List Value}{w w':World}(h:Lib.IsBuilderF T e B b bs w)(hw:Below w.heap.size w w'): Lib.IsBuilderF T e B b bs w':=by
 have key:∀p,Lib.BuilderAtF T e B b p bs w->Lib.BuilderAtF T e B b p bs w':=λp ⟨hB,v,hb,hown,hne⟩ =>
  ⟨hB,v,(hw.block b (W3o.1 hb).1).trans hb,hown.kept (row:=none) ⟨hw.os,hw.tape,hw.output,hw.size,λk hk _=>hw.block k hk⟩ (by cases hv:v.ownBlock<;>simp),hne⟩
 exact h.elim (λh=>.inl (key _ h)) λh=>.inr (key _ h)
theorem Xog{w w':World}(h:Below w.heap.size w w'): KeepsOthers w w':=⟨h.size,λk o hk _=>(h.block k (W3o.1 hk).1).trans hk⟩
theorem Xk4{T e:TypeId}{B b n:Nat}{bs:List Value}{w w':World}(h:Lib.IsBuilderF T e B b bs w)(hw:Below n w w')(ho:Lib.OthersKept e (some b) w w'): KeepsOthers w w':=⟨hw.size,λk o hk hc=>by
 refine ho k o hk (λe'=>?_) (λc fz e'=>by subst e';cases hc)
 cases e'
 rcases h with ⟨_,v,hb,_⟩ | ⟨_,v,hb,_⟩<;>rw[hk] at hb<;>cases hb<;>cases hc⟩
structure W9 (n BS B:Nat) (sl:Value) (w W:World) (t:List UInt8) (W':World):Prop where
 b:Lib.IsBuilderF (rnB.t 72) (rnB.t 5) n n (Lib.byteCells t) W'
 s:W'.heap[BS]?=some (.cells #[sl] 88 (0,0))
 l:Below n w W'
 k:KeepsFrom B W W'
 q:Kq n BS W W'
theorem W9.below{n BS B:Nat}{sl:Value}{w W W' W'':World}{t:List UInt8}(h:W9 n BS B sl w W t W')(hn:n<=W'.heap.size)(hb:Below W'.heap.size W' W''): W9 n BS B sl w W t W'' :=
 ⟨Xvi h.b hb,(hb.block BS (W3o.1 h.s).1).trans h.s,h.l.trans (hb.mono hn),h.k.trans ((Xog hb).from _),h.q.trans ⟨hb.mono hn,hb.block BS (W3o.1 h.s).1⟩⟩
theorem W9.wr{n BS B:Nat}{sl:Value}{w W W':World}{t:List UInt8}(h:W9 n BS B sl w W t W')(u:List UInt8)(hn:n<=W'.heap.size)(hB:BS≠n)(hl:t.length+u.length<=140737488355328):
 Calls Tryz.prog 171 #[.pointer (some ⟨n,0,none⟩),.string ⟨u.toArray⟩] W' λe W''=>e=.returned (.tuple #[.int .i64 u.length,.nilIface])/\W9 n BS B sl w W (t++u) W'':=by
 have hsz:(⟨u.toArray⟩:ByteArray).size=u.length:=by simp[ByteArray.size]
 refine(Any.Builder_WriteString_k Yib Ykv n n _ ⟨u.toArray⟩ W' h.b (by rw[Lib.byteCells_length,hsz];exact hl) hn).mono ?_
 rintro e W'' ⟨rfl,hb,hbl,ho⟩
 have hs:W''.heap[BS]?=some (.cells #[sl] 88 (0,0)):=ho BS _ h.s (by intro e;cases e;exact hB rfl) (by intro c fz e;cases e)
 refine⟨by rw[hsz],.inr (by rw[Lib.byteCells_append];exact hb),hs,h.l.trans hbl,h.k.trans ((Xk4 h.b hbl ho).from _),h.q.trans ⟨hbl,hs.trans h.s.symm⟩⟩
end
section
attribute [local go_sem] Oper.semAt_some
theorem Xsi{z:Int}(hz:z≠0)(hl:(dig z.natAbs).length<=274877906944): C0 105 [.d (dz z)] (·=.d (.str (tx z))):=by
 have hcl:=Xw1 (n:=z.natAbs) (k:=(dig z.natAbs).length) (by have:=Xbw (Xae z.natAbs);rwa[Xag] at this)
 have hp:=W6t.2 (λe:dig z.natAbs=[]=>hz (by have:=Xr7.1 e;omega))
 refine EnM Tryz.func105 λW0 hg0 _=>?_
 refine Ce rfl (Xci (n:=z.natAbs) (by omega)) ?_
 refine Cr rfl (Xlk (l:=dig z.natAbs) hp (by omega)) ?_
 refine No rfl (by simp only[W0i];omega) ?_
 refine Nv 4 7 1 rfl ?_
 refine Lo (λ((x,n,lo,cs):Nat×Nat×List Nat×List Nat)=>[(1,.ptr 1 0),(2,.d (.str [])),(3,.own 14 1 0 n),(4,.ptr 4 0)]) (λ(x,n,lo,cs)=>[(1,.var (.d (dz z))),(14,.arr 1 (lo.map wd)),(4,.var (.gr 7 1 (cs.map wd))),(7,.tok (cs.map wd).length 1)])
  (λ(x,n,lo,cs)=>Fm9 z.natAbs x n lo cs) (λ(x,_)=>x) (z.natAbs,(dig z.natAbs).length,dig z.natAbs,[]) [] rfl ⟨W0a _,by omega,Xae _,W2j ..,rfl⟩ ?_ (by exact⟨by simp only[W0i];rfl,rfl,rfl,rfl,rfl⟩)
 rintro⟨x,n,lo,cs⟩ hI
 have hn:=Yfs hI
 obtain⟨hnl,hll,hwo,hdx,hck⟩:=hI
 have hsz:∀j,j<n->lo[j]?=(dig x)[j]?:=λj hj=>by rw[<-hdx,W1e,if_pos hj]
 refine By rfl (λh=>?_) λh=>?_
 . have h:(n:Int)>0:=h
   have hx0:x≠0:=λe=>by rw[e,Xan] at hn;simp at hn;omega
   refine Ar ((n:Int)-1) rfl ?_ (wr rfl (by simp only[inK];omega))
   refine Lo (λ((k,l,r):Nat×List Nat×Nat)=>[(1,.ptr 1 0),(2,.d (.str [])),(3,.own 14 1 0 n),(4,.ptr 4 0),(5,.d (.int .u64 r)),(6,.d (.int .i64 ((k:Int)-1)))]) (λ(_,l,_)=>[(1,.var (.d (dz z))),(14,.arr 1 (l.map wd)),(4,.var (.gr 7 1 (cs.map wd))),(7,.tok (cs.map wd).length 1)])
    (λ(k,l,r)=>k<=n/\l.length=lo.length/\Xaq l/\r<1000000000/\val ((l.take n).drop k)*1000000000+r=val ((dig x).drop k)/\∀j,j<k->l[j]?=(dig x)[j]?) (λ(k,_,_)=>k) (n,lo,0) [] rfl
    ⟨W0a _,rfl,hwo,by decide,by rw[W1z (by rw[W0j];omega),W1z (by omega)];simp[val],hsz⟩ ?_
   rintro⟨k,l,r⟩ ⟨hk,hl2,hwl,hr,hval,hlj⟩
   refine By rfl (λh2=>?_) λh2=>?_
   . have h2:(k:Int)-1>=0:=h2
     obtain⟨u,hu⟩:=xat (l:=dig x) (k:=k-1) (by omega)
     have hub:=ww hu (Xae x)
     have hul:l[k-1]?=some u:=by rw[hlj _ (by omega),hu]
     obtain⟨s,hs⟩:∃s,s=r*2^32+u:=⟨_,rfl⟩
     have hs64:s<18446744073709551616:=by omega
     have hsy:s/1000000000<4294967296:=by omega
     have hek:((k:Int)-1)=((k-1:Nat):Int):=by omega
     refine Ar (r*2^32:Nat) rfl ?_ (Xh0 (n:=32) rfl (by omega) (by decide))
     refine Eo (k-1) (by rw[hek];rfl) (by omega) ?_
     refine Ld (wd u) rfl (mp hul) ?_
     refine Go.Vm.Cv u rfl ?_
     refine Ar s rfl ?_ (Ybf (by omega) (by omega) (by rw[Xdk u r 32 (by omega),<-hs]) hs64)
     refine Ar (s/1000000000:Nat) rfl ?_ (show _/\_ from⟨by decide,Ycs s 1000000000 hs64⟩)
     refine Go.Vm.Cv (s/1000000000:Nat) rfl ?_ (wW ⟨W5b _,W7a.2 hsy⟩)
     refine Eo (k-1) (by rw[hek];rfl) (by omega) ?_
     refine Sto rfl (by simp only[W0i];omega) ms ?_
     refine Ar (s%1000000000:Nat) rfl ?_ (show _/\_ from⟨by decide,Xrk s 1000000000⟩)
     refine Ar ((k-1:Nat)-1:Int) rfl ?_ (wr (by omega) (by simp only[inK];omega))
     have hs0:val ((dig x).drop (k-1))=u+4294967296*val ((dig x).drop k):=by
      have:=Xbx hu
      rwa[show k-1+1=k by omega] at this
     refine Bk (k-1,l.set (k-1) (s/1000000000),s%1000000000) [] rfl ⟨by omega,by simp[hl2],Xg9 hwl hsy,W1q _ (by decide),?_,λj hj=>?_⟩ (by show k-1<k;omega)
     . rw[hs0,<-hval,List.take_set,drop_set (by rw[W0j];omega),val,show k-1+1=k by omega]
       have e:=W2o s 1000000000
       have hs2:s=r*4294967296+u:=hs
       generalize val (((l.take n)).drop k)=V
       generalize s/1000000000=q at e |-
       generalize s%1000000000=m at e |-
       clear hck hcl hdx hsz hlj hs hval hs0 hsy hs64
       omega
     . rw[W1w (by omega)];exact hlj j (by omega)
   . have hk0:k=0:=by
      have h2:¬(k:Int)-1>=0:=h2
      omega
     subst hk0
     rw[W1d,W1d,Xag] at hval
     have hq:x/1000000000=val (l.take n):=by omega
     have hm:x%1000000000=r:=by omega
     refine Cn [(1000001,14)] rfl (Xve (l:=l) (q:=0) (n:=n) hwl (by omega) (by omega)) λv hv=>?_
     obtain⟨m,hmn,rfl,hml⟩:=hv
     rw[W1d,<-hq] at hml
     refine Go.Vm.Cv r rfl ?_
     refine ApG ((cs++[r]).map wd) rfl (by simp;rfl) (by simp;have:=congrArg List.length hck;rw[W0d] at this;omega) ?_
     refine Bk (x/1000000000,m,l,cs++[r]) [(50,7)] rfl ⟨by omega,by omega,hwl,hml,?_⟩ (by show x/1000000000<x;omega)
     rw[hck,Xfn hx0,hm];simp
 . have h:¬(n:Int)>0:=h
   have hx0:x=0:=by
    have:dig x=[]:=W0o (by omega)
    exact Xr7.1 this
   subst hx0
   rw[Xe0,W4l] at hck
   obtain⟨zs,hzs⟩:=c9s (l:=cs) λx hx=>Yjl z.natAbs x (by rw[hck];exact hx)
   have hzl:zs.length=cs.length:=by rw[<-hzs,W0i]
   have hz0:z.natAbs≠0:=by omega
   have hz1:0<zs.length:=by
    rw[hzl,<-hck,Xfn hz0];simp
   have hzn:zs.length<=549755813888:=by rw[hzl,<-hck];omega
   have htx:∀sg,sg++Xyv (zs.map (·.1))=sg++dec z.natAbs:=λsg=>by rw[hzs,<-hck,Xyu _ hz0]
   refine Tl 15 rfl λa w hw=>?_
   obtain⟨s',W,θ,rfl,hS,hθ,rfl⟩:=hw
   have hgW:Gb.g Tryz.prog W:=Gb.mono _ _ hS.fm.le hg0
   obtain⟨b1,p1,e1⟩:=Xja (hS.rel.has 1 (.ptr 1 0) rfl)
   obtain⟨b4,p4,e4⟩:=Xja (hS.rel.has 4 (.ptr 4 0) rfl)
   obtain⟨bx,cx1,T1,q1,q2,q3,_⟩:=hS.obs.r 1 (.var (.d (dz z))) rfl
   obtain⟨by4,cx4,T4,q5,q6,q7,_⟩:=hS.obs.r 4 (.var (.gr 7 1 (cs.map wd))) rfl
   obtain rfl:bx=b1:=Option.some.inj (q1.symm.trans p1)
   obtain rfl:by4=b4:=Option.some.inj (q5.symm.trans p4)
   have c1:W.w.cell? ⟨bx,0,none⟩=some (.bool (decide (z<0))):=by
    obtain⟨u,v,h1,h2,_⟩:=q3
    have h2:u=[.bool (decide (z<0))]:=h2
    rw[Xa9 q2,h1,h2];rfl
   obtain⟨b7,cp,c4,hcell⟩:∃b7 cp,W.w.cell? ⟨by4,0,none⟩=some (.slice (some ⟨b7,0,none⟩) zs.length cp)/\∀j,j<zs.length->W.w.cell? ⟨b7,0+j,none⟩=some (.int .u32 ((zs[j]?.getD ⟨0,by decide⟩).1:Int)):=by
    obtain⟨p,h1,h0,h2,_,h5⟩:=q7
    simp only[W0i] at h1 h2
    rcases h5 with h5 | ⟨b7,h5,hrow⟩
    . have:=congrArg List.length h5
      rw[W0i] at this
      have:cs.length=0:=this
      omega
    . have hp:p=some ⟨b7,0,none⟩:=by
       rcases h0 with h0 | h0
       . omega
       . rw[h0,h5];rfl
      refine⟨b7,_,by rw[Xa9 q6,h1,hp,<-hzl];rfl,λj hj=>?_⟩
      obtain⟨x,hx⟩:∃x,zs[j]?=some x:=⟨_,W0c hj⟩
      obtain⟨e,g1,_,g3⟩:=D.row_get hrow (i:=j) (x:=wd x.1) (by rw[<-hzs];simp[hx])
      have g1:e=[.int .u32 x.1]:=g1.1
      have:=(g3 0 (.int .u32 x.1) (by rw[g1];rfl)).1
      rw[hx]
      simpa using this
   have hb1:=Go.Proofs.YtfjafaehfjjaiaaGreatDoor.cell_lt c1
   have hb4:=Go.Proofs.YtfjafaehfjjaiaaGreatDoor.cell_lt c4
   have hb7:=Go.Proofs.YtfjafaehfjjaiaaGreatDoor.cell_lt (hcell 0 hz1)
   have hfm:=hS.fm
   obtain⟨tm,df⟩:=a
   obtain rfl:df=[]:=hS.rel.defers
   obtain⟨L⟩:=tm
   have hL:L.length=74:=hS.rel.size
   clear hS
   obtain⟨t0,L0,rfl,hL0⟩:=Xai hL
   clear hL
   obtain⟨t1,L1,rfl,hL1⟩:=Xai hL0
   clear hL0
   obtain⟨t2,L2,rfl,hL2⟩:=Xai hL1
   clear hL1
   obtain⟨t3,L3,rfl,hL3⟩:=Xai hL2
   clear hL2
   obtain⟨t4,L4,rfl,hL4⟩:=Xai hL3
   clear hL3
   obtain⟨t5,L5,rfl,hL5⟩:=Xai hL4
   clear hL4
   obtain⟨t6,L6,rfl,hL6⟩:=Xai hL5
   clear hL5
   obtain⟨t7,L7,rfl,hL7⟩:=Xai hL6
   clear hL6
   obtain⟨t8,L8,rfl,hL8⟩:=Xai hL7
   clear hL7
   obtain⟨t9,L9,rfl,hL9⟩:=Xai hL8
   clear hL8
   obtain⟨t10,L10,rfl,hL10⟩:=Xai hL9
   clear hL9
   obtain⟨t11,L11,rfl,hL11⟩:=Xai hL10
   clear hL10
   obtain⟨t12,L12,rfl,hL12⟩:=Xai hL11
   clear hL11
   obtain⟨t13,L13,rfl,hL13⟩:=Xai hL12
   clear hL12
   obtain⟨t14,L14,rfl,hL14⟩:=Xai hL13
   clear hL13
   obtain⟨t15,L15,rfl,hL15⟩:=Xai hL14
   clear hL14
   obtain⟨t16,L16,rfl,hL16⟩:=Xai hL15
   clear hL15
   obtain⟨t17,L17,rfl,hL17⟩:=Xai hL16
   clear hL16
   obtain⟨t18,L18,rfl,hL18⟩:=Xai hL17
   clear hL17
   obtain⟨t19,L19,rfl,hL19⟩:=Xai hL18
   clear hL18
   obtain⟨t20,L20,rfl,hL20⟩:=Xai hL19
   clear hL19
   obtain⟨t21,L21,rfl,hL21⟩:=Xai hL20
   clear hL20
   obtain⟨t22,L22,rfl,hL22⟩:=Xai hL21
   clear hL21
   obtain⟨t23,L23,rfl,hL23⟩:=Xai hL22
   clear hL22
   obtain⟨t24,L24,rfl,hL24⟩:=Xai hL23
   clear hL23
   obtain⟨t25,L25,rfl,hL25⟩:=Xai hL24
   clear hL24
   obtain⟨t26,L26,rfl,hL26⟩:=Xai hL25
   clear hL25
   obtain⟨t27,L27,rfl,hL27⟩:=Xai hL26
   clear hL26
   obtain⟨t28,L28,rfl,hL28⟩:=Xai hL27
   clear hL27
   obtain⟨t29,L29,rfl,hL29⟩:=Xai hL28
   clear hL28
   obtain⟨t30,L30,rfl,hL30⟩:=Xai hL29
   clear hL29
   obtain⟨t31,L31,rfl,hL31⟩:=Xai hL30
   clear hL30
   obtain⟨t32,L32,rfl,hL32⟩:=Xai hL31
   clear hL31
   obtain⟨t33,L33,rfl,hL33⟩:=Xai hL32
   clear hL32
   obtain⟨t34,L34,rfl,hL34⟩:=Xai hL33
   clear hL33
   obtain⟨t35,L35,rfl,hL35⟩:=Xai hL34
   clear hL34
   obtain⟨t36,L36,rfl,hL36⟩:=Xai hL35
   clear hL35
   obtain⟨t37,L37,rfl,hL37⟩:=Xai hL36
   clear hL36
   obtain⟨t38,L38,rfl,hL38⟩:=Xai hL37
   clear hL37
   obtain⟨t39,L39,rfl,hL39⟩:=Xai hL38
   clear hL38
   obtain⟨t40,L40,rfl,hL40⟩:=Xai hL39
   clear hL39
   obtain⟨t41,L41,rfl,hL41⟩:=Xai hL40
   clear hL40
   obtain⟨t42,L42,rfl,hL42⟩:=Xai hL41
   clear hL41
   obtain⟨t43,L43,rfl,hL43⟩:=Xai hL42
   clear hL42
   obtain⟨t44,L44,rfl,hL44⟩:=Xai hL43
   clear hL43
   obtain⟨t45,L45,rfl,hL45⟩:=Xai hL44
   clear hL44
   obtain⟨t46,L46,rfl,hL46⟩:=Xai hL45
   clear hL45
   obtain⟨t47,L47,rfl,hL47⟩:=Xai hL46
   clear hL46
   obtain⟨t48,L48,rfl,hL48⟩:=Xai hL47
   clear hL47
   obtain⟨t49,L49,rfl,hL49⟩:=Xai hL48
   clear hL48
   obtain⟨t50,L50,rfl,hL50⟩:=Xai hL49
   clear hL49
   obtain⟨t51,L51,rfl,hL51⟩:=Xai hL50
   clear hL50
   obtain⟨t52,L52,rfl,hL52⟩:=Xai hL51
   clear hL51
   obtain⟨t53,L53,rfl,hL53⟩:=Xai hL52
   clear hL52
   obtain⟨t54,L54,rfl,hL54⟩:=Xai hL53
   clear hL53
   obtain⟨t55,L55,rfl,hL55⟩:=Xai hL54
   clear hL54
   obtain⟨t56,L56,rfl,hL56⟩:=Xai hL55
   clear hL55
   obtain⟨t57,L57,rfl,hL57⟩:=Xai hL56
   clear hL56
   obtain⟨t58,L58,rfl,hL58⟩:=Xai hL57
   clear hL57
   obtain⟨t59,L59,rfl,hL59⟩:=Xai hL58
   clear hL58
   obtain⟨t60,L60,rfl,hL60⟩:=Xai hL59
   clear hL59
   obtain⟨t61,L61,rfl,hL61⟩:=Xai hL60
   clear hL60
   obtain⟨t62,L62,rfl,hL62⟩:=Xai hL61
   clear hL61
   obtain⟨t63,L63,rfl,hL63⟩:=Xai hL62
   clear hL62
   obtain⟨t64,L64,rfl,hL64⟩:=Xai hL63
   clear hL63
   obtain⟨t65,L65,rfl,hL65⟩:=Xai hL64
   clear hL64
   obtain⟨t66,L66,rfl,hL66⟩:=Xai hL65
   clear hL65
   obtain⟨t67,L67,rfl,hL67⟩:=Xai hL66
   clear hL66
   obtain⟨t68,L68,rfl,hL68⟩:=Xai hL67
   clear hL67
   obtain⟨t69,L69,rfl,hL69⟩:=Xai hL68
   clear hL68
   obtain⟨t70,L70,rfl,hL70⟩:=Xai hL69
   clear hL69
   obtain⟨t71,L71,rfl,hL71⟩:=Xai hL70
   clear hL70
   obtain⟨t72,L72,rfl,hL72⟩:=Xai hL71
   clear hL71
   obtain⟨t73,L73,rfl,hL73⟩:=Xai hL72
   clear hL72
   obtain rfl:=W0o hL73
   obtain rfl:t1=.pointer (some ⟨bx,0,none⟩):=e1
   obtain rfl:t4=.pointer (some ⟨by4,0,none⟩):=e4
   have hfin:∀ {w':World} {s:List UInt8},Below W.w.heap.size W.w w'->s=tx z->Ret W0 (λx=>x=.d (.str (tx z))) (.returned (.string ⟨s.toArray⟩)) w':=λ{w' s} h e=>by
    obtain⟨W',h1,h2⟩:=Xqw h
    subst e
    refine⟨W',_,_,rfl,h1,⟨h2.os.trans hfm.os,h2.out.trans hfm.out,h2.tape.trans hfm.tape,W0k hfm.size h2.size,λb hb hx=>(h2.same b (W0v hb hfm.size) id).trans (hfm.same b hb hx),λb hb hx i=>(h2.A b (W0v hb hfm.size) id i).trans (hfm.A b hb hx i),hfm.le.trans h2.le⟩,Xnr ?_,λ_ h=>h,rfl⟩
    have:=Xou z.natAbs
    unfold tx
    split<;>simp only[W0d,W0s,W4j]<;>omega
   clear q2 q3 q6 q7 hθ hck
   obtain⟨w,hww⟩:∃w,w=W.w:=⟨_,rfl⟩
   have hgw:∀ {w':World},Below w.heap.size w w'->Gb.g Tryz.prog (gw1 w'):=λh=>Gb.mono _ _ (Yh6 (n:=w.heap.size) (by rw[<-hww];exact h) (by rw[<-hww];exact W0a _)) hgW
   rw[<-hww] at c1 c4 hcell hb1 hb4 hb7 hfin |-
   clear hww hgW hzl hzs hcl hnl hll hwo hn hdx hsz h hp hl q1 q5 p1 p4 hfm
   have hz9:zs.length*4<=140737488351232:=by omega
   have cA:∀o,(w.alloc o).cell? ⟨bx,0,none⟩=some (.bool (decide (z<0))):=λo=>(World.cell?_of_block (a:=⟨bx,0,none⟩) (Below.heap_alloc w o bx hb1)).trans c1
   have c4A:∀o,(w.alloc o).cell? ⟨by4,0,none⟩=some (.slice (some ⟨b7,0,none⟩) zs.length cp):=λo=>(World.cell?_of_block (a:=⟨by4,0,none⟩) (Below.heap_alloc w o by4 hb4)).trans c4
   by_cases hneg:z<0
   . simp only[decide_eq_true hneg] at cA
     gi_wp2
     refine⟨trivial,(callsIn_wide.2 (Any.Builder_WriteByte_k Yia Ykv w.heap.size w.heap.size [] 45 _ (.of (Lib.fresh_isBuilder _ _ w)) (by decide) (by simp))).mono ?_⟩
     rintro e wb ⟨rfl,hB,hbw,hok⟩
     have hB:Lib.IsBuilderF (rnB.t 72) (rnB.t 5) w.heap.size w.heap.size (Lib.byteCells [45]) wb:=.inr hB
     have hbw:Below w.heap.size w wb:=((Below.refl _ w).alloc (W0a _) _).trans hbw
     have hlt:w.heap.size<wb.heap.size:=by rcases hB with h | h<;>exact h.lt
     have c4b:wb.cell? ⟨by4,0,none⟩=some (.slice (some ⟨b7,0,none⟩) zs.length cp):=(hbw.cell (p:=⟨by4,0,none⟩) hb4).trans c4
     gi_wp2
     refine⟨trivial,(Xoz Fence.wide 7 trivial rfl _ _ _ _).mono ?_⟩
     rintro e w2 ⟨rfl,hw2⟩
     have hBS:w2.heap[wb.heap.size]?=some (.cells #[.slice (some ⟨b7,0,none⟩) zs.length cp] 88 (0,0)):=by rw[hw2];exact World.alloc_heap_new wb _
     have hb2:Below w.heap.size w w2:=by rw[hw2];exact hbw.alloc (by have:=hbw.size;omega) _
     have hB2:Lib.IsBuilderF (rnB.t 72) (rnB.t 5) w.heap.size w.heap.size (Lib.byteCells [45]) w2:=by rw[hw2];exact hB.alloc _
     have hs2:w2.heap.size=wb.heap.size+1:=by rw[hw2];simp
     have hcell2:∀j,j<zs.length->w2.cell? ⟨b7,0+j,none⟩=some (.int .u32 ((zs[j]?.getD ⟨0,by decide⟩).1:Int)):=λj hj=>(hb2.cell (p:=⟨b7,0+j,none⟩) hb7).trans (hcell j hj)
     have cBS:w2.cell? ⟨wb.heap.size,0,none⟩=some (.slice (some ⟨b7,0,none⟩) zs.length cp):=by simp[World.cell?,hBS]
     obtain⟨BS,hBSe⟩:∃BS,BS=wb.heap.size:=⟨_,rfl⟩
     rw[<-hBSe] at hBS hs2 cBS hlt |-
     clear hw2 hBSe hB hbw c4b hok
     gi_wp2
     refine wpIn_rangeFunc_ownG rfl (by decide) (gf:=241) (lb:=#[.pointer (some ⟨BS,0,none⟩)]) rfl trivial (enters_of Tryz.func241 (by kernel_rfl) rfl)
      (Xnb Fence.wide (8-1) trivial rfl (by decide) BS w.heap.size b7 0 cp zs hz9 w2 (by omega) (by omega) cBS hb7 hcell2) Kq.trans (λW l o o' hl h _ _=>Xva W l o hl (by omega) (by omega) h o') (Below.refl _ _) (λ_=>rfl)
      (λpre W=>(Lib.IsBuilderF (rnB.t 72) (rnB.t 5) w.heap.size w.heap.size (Lib.byteCells (o9 zs.length [45] pre)) W/\W.heap[BS]?=some (.cells #[.slice (some ⟨b7,0,none⟩) zs.length cp] 88 (0,0)))/\Below w.heap.size w W)
      (λ_ _ _=>False)
      (OwnFrom.and (Own.from (λs A B row hs hg hr=>⟨Xvh _ _ _ _ (λp=>Lib.byteCells (o9 zs.length [45] p)) s A B row hs.1 hg hr,Xip hs.2 hg hr⟩) _) (ownFrom_below (W0a _) (by omega)))
      (λ_ _ _ _ _ hs _ _=>hs)
      ⟨⟨hB2,hBS⟩,hb2⟩
      (λx=>{ tmps:=#[t0,.pointer (some ⟨bx,0,none⟩),t2,t3,.pointer (some ⟨by4,0,none⟩),t5,t6,.pointer (some ⟨w.heap.size,0,none⟩),.int .i64 (x.1:Int),.int .u32 (x.2.1:Int),t10,t11,t12,t13,t14,t15,t16,t17,t18,t19,t20,t21,t22,t23,t24,t25,t26,t27,t28,t29,t30,t31,t32,t33,t34,t35,t36,t37,t38,t39,t40,t41,t42,t43,t44,t45,t46,t47,t48,t49,t50,.pointer (some ⟨bx,0,none⟩),.bool true,.nilIface,.slice (some ⟨b7,0,none⟩) zs.length cp,.func (.func 241) #[] #[.pointer (some ⟨BS,0,none⟩)],.int .i64 (x.1:Int),.int .u32 (x.2.1:Int),t58,t59,t60,t61,t62,t63,t64,t65,t66,t67,t68,t69,t70,t71,t72,t73],defers:=[] }) ?assign ?body ?done ?stop
     case assign =>
      intro l x W K hK
      gi_wp2
      exact hK
     case stop =>
      rintro D c pre W _ _ h _
      exact h.elim
     case body =>
      rintro l pre x W ⟨⟨hBd,hBS⟩,hBl⟩ hlen
      gi_wp2
      rw[wU (by have:=x.2.2;omega)]
      refine⟨trivial,(CallsIn.inRound l (callsIn_wide.2 (Yn8 (hgw hBl) x.2))).mono ?_⟩
      rintro e W1 ⟨rfl,hW1⟩
      have h9:W9 w.heap.size BS w2.heap.size (.slice (some ⟨b7,0,none⟩) zs.length cp) w W (o9 zs.length [45] pre) W1:=W9.below ⟨hBd,hBS,hBl,KeepsFrom.refl _ _,Kq.refl _ _ _⟩ hBl.size hW1
      have c41:W1.cell? ⟨by4,0,none⟩=some (.slice (some ⟨b7,0,none⟩) zs.length cp):=(h9.l.cell (p:=⟨by4,0,none⟩) hb4).trans c4
      have hxl:=Ymq x.2
      have hol:=Xuj zs.length pre [45]
      have hos:=Xn7 zs.length [45] pre x
      have hsgl:([45]:List UInt8).length<=1:=by decide
      have hpl:pre.length<549755813888:=by omega
      obtain⟨ds,hds⟩:∃ds,ds=dec x.2.1:=⟨_,rfl⟩
      rw[<-hds] at hxl hos |-
      have hBn:BS≠w.heap.size:=by omega
      clear hds hBd hBS hW1
      gi_wp2
      . rename_i hx
        refine⟨trivial,(CallsIn.inRound l (callsIn_wide.2 (Ynj (hgw h9.l) (n:=9-ds.length) (by omega) (by omega)))).mono ?_⟩
        rintro e W2 ⟨rfl,hW2⟩
        have h9b:=h9.below h9.l.size hW2
        obtain⟨zr,hzr⟩:∃zr,zr=List.replicate (9-ds.length) (48:UInt8):=⟨_,rfl⟩
        have hzrl:zr.length<=9:=by rw[hzr,W1v];omega
        rw[<-hzr]
        rw[if_pos (by omega),<-hzr] at hos
        clear hzr
        gi_wp2
        refine⟨trivial,(CallsIn.inRound l (callsIn_wide.2 (h9b.wr zr h9b.l.size hBn (by omega)))).mono ?_⟩
        rintro e W3 ⟨rfl,h9c⟩
        gi_wp2
        refine⟨trivial,(CallsIn.inRound l (callsIn_wide.2 (h9c.wr ds h9c.l.size hBn (by simp only[W0d];omega)))).mono ?_⟩
        rintro e W4 ⟨rfl,h9d⟩
        gi_wp2
        exact⟨h9d.k,h9d.q,⟨by rw[hos];exact h9d.b,h9d.s⟩,h9d.l⟩
      . rename_i hx
        rw[if_neg (by omega),W4l] at hos
        refine⟨trivial,(CallsIn.inRound l (callsIn_wide.2 (h9.wr ds h9.l.size hBn (by omega)))).mono ?_⟩
        rintro e W4 ⟨rfl,h9d⟩
        gi_wp2
        exact⟨h9d.k,h9d.q,⟨by rw[hos];exact h9d.b,h9d.s⟩,h9d.l⟩
     case done =>
      rintro D ys W hD rfl ⟨⟨hBd,hBS⟩,hBl⟩ hK
      gi_wp2
      have hne:o9 zs.length [45] (b9 zs zs.length)=tx z:=by
       rw[Ydq _ _ _ (W0a _),W3b,W1d,htx]
       unfold tx
       rw[if_pos hneg]
      rw[hne] at hBd
      have hn0:tx z≠[]:=by
       unfold tx
       intro h
       exact Xws _ (List.append_eq_nil_iff.1 h).2
      refine⟨trivial,(callsIn_wide.2 (Any.Builder_String_k Ybv Ykv w.heap.size w.heap.size (tx z) W hBd hn0)).mono ?_⟩
      rintro e W3 ⟨rfl,_,hb3,hok3⟩
      have hK3:=hok3 D _ hK (by intro h;cases h;have:=hBl.size;omega) (by intro c fz h;cases h)
      gi_wp2
      refine⟨by simp,.inl ⟨_,_,rfl,run_takeDeferred hK3,?_⟩⟩
      refine⟨_,results_tmp rfl _ _ _,?_⟩
      refine hfin (s:=tx z) ?_ rfl
      exact(hBl.trans hb3).trans (belowK_b (w:=w) (W0a _) W3 D _ _ (by omega) hK3 rfl rfl)
   . simp only[decide_eq_false hneg] at cA
     gi_wp2
     obtain⟨wb,hwb⟩:∃wb,wb=w.alloc (.cells #[.pointer none,.slice none 0 0] 188):=⟨_,rfl⟩
     have hB:Lib.IsBuilderF (rnB.t 72) (rnB.t 5) w.heap.size w.heap.size (Lib.byteCells []) wb:=by rw[hwb];exact .of (Lib.fresh_isBuilder _ _ w)
     have hbw:Below w.heap.size w wb:=by rw[hwb];exact(Below.refl _ w).alloc (W0a _) _
     have hlt:w.heap.size<wb.heap.size:=by rcases hB with h | h<;>exact h.lt
     rw[<-hwb]
     clear hwb
     refine⟨trivial,(Xoz Fence.wide 7 trivial rfl _ _ _ _).mono ?_⟩
     rintro e w2 ⟨rfl,hw2⟩
     have hBS:w2.heap[wb.heap.size]?=some (.cells #[.slice (some ⟨b7,0,none⟩) zs.length cp] 88 (0,0)):=by rw[hw2];exact World.alloc_heap_new wb _
     have hb2:Below w.heap.size w w2:=by rw[hw2];exact hbw.alloc (by have:=hbw.size;omega) _
     have hB2:Lib.IsBuilderF (rnB.t 72) (rnB.t 5) w.heap.size w.heap.size (Lib.byteCells []) w2:=by rw[hw2];exact hB.alloc _
     have hs2:w2.heap.size=wb.heap.size+1:=by rw[hw2];simp
     have hcell2:∀j,j<zs.length->w2.cell? ⟨b7,0+j,none⟩=some (.int .u32 ((zs[j]?.getD ⟨0,by decide⟩).1:Int)):=λj hj=>(hb2.cell (p:=⟨b7,0+j,none⟩) hb7).trans (hcell j hj)
     have cBS:w2.cell? ⟨wb.heap.size,0,none⟩=some (.slice (some ⟨b7,0,none⟩) zs.length cp):=by simp[World.cell?,hBS]
     obtain⟨BS,hBSe⟩:∃BS,BS=wb.heap.size:=⟨_,rfl⟩
     rw[<-hBSe] at hBS hs2 cBS hlt |-
     clear hw2 hBSe hB hbw
     gi_wp2
     refine wpIn_rangeFunc_ownG rfl (by decide) (gf:=241) (lb:=#[.pointer (some ⟨BS,0,none⟩)]) rfl trivial (enters_of Tryz.func241 (by kernel_rfl) rfl)
      (Xnb Fence.wide (8-1) trivial rfl (by decide) BS w.heap.size b7 0 cp zs hz9 w2 (by omega) (by omega) cBS hb7 hcell2) Kq.trans (λW l o o' hl h _ _=>Xva W l o hl (by omega) (by omega) h o') (Below.refl _ _) (λ_=>rfl)
      (λpre W=>(Lib.IsBuilderF (rnB.t 72) (rnB.t 5) w.heap.size w.heap.size (Lib.byteCells (o9 zs.length [] pre)) W/\W.heap[BS]?=some (.cells #[.slice (some ⟨b7,0,none⟩) zs.length cp] 88 (0,0)))/\Below w.heap.size w W)
      (λ_ _ _=>False)
      (OwnFrom.and (Own.from (λs A B row hs hg hr=>⟨Xvh _ _ _ _ (λp=>Lib.byteCells (o9 zs.length [] p)) s A B row hs.1 hg hr,Xip hs.2 hg hr⟩) _) (ownFrom_below (W0a _) (by omega)))
      (λ_ _ _ _ _ hs _ _=>hs)
      ⟨⟨hB2,hBS⟩,hb2⟩
      (λx=>{ tmps:=#[t0,.pointer (some ⟨bx,0,none⟩),t2,t3,.pointer (some ⟨by4,0,none⟩),t5,t6,.pointer (some ⟨w.heap.size,0,none⟩),.int .i64 (x.1:Int),.int .u32 (x.2.1:Int),t10,t11,t12,t13,t14,t15,t16,t17,t18,t19,t20,t21,t22,t23,t24,t25,t26,t27,t28,t29,t30,t31,t32,t33,t34,t35,t36,t37,t38,t39,t40,t41,t42,t43,t44,t45,t46,t47,t48,t49,t50,.pointer (some ⟨bx,0,none⟩),.bool false,t53,.slice (some ⟨b7,0,none⟩) zs.length cp,.func (.func 241) #[] #[.pointer (some ⟨BS,0,none⟩)],.int .i64 (x.1:Int),.int .u32 (x.2.1:Int),t58,t59,t60,t61,t62,t63,t64,t65,t66,t67,t68,t69,t70,t71,t72,t73],defers:=[] }) ?assign ?body ?done ?stop
     case assign =>
      intro l x W K hK
      gi_wp2
      exact hK
     case stop =>
      rintro D c pre W _ _ h _
      exact h.elim
     case body =>
      rintro l pre x W ⟨⟨hBd,hBS⟩,hBl⟩ hlen
      gi_wp2
      rw[wU (by have:=x.2.2;omega)]
      refine⟨trivial,(CallsIn.inRound l (callsIn_wide.2 (Yn8 (hgw hBl) x.2))).mono ?_⟩
      rintro e W1 ⟨rfl,hW1⟩
      have h9:W9 w.heap.size BS w2.heap.size (.slice (some ⟨b7,0,none⟩) zs.length cp) w W (o9 zs.length [] pre) W1:=W9.below ⟨hBd,hBS,hBl,KeepsFrom.refl _ _,Kq.refl _ _ _⟩ hBl.size hW1
      have c41:W1.cell? ⟨by4,0,none⟩=some (.slice (some ⟨b7,0,none⟩) zs.length cp):=(h9.l.cell (p:=⟨by4,0,none⟩) hb4).trans c4
      have hxl:=Ymq x.2
      have hol:=Xuj zs.length pre []
      have hos:=Xn7 zs.length [] pre x
      have hsgl:([]:List UInt8).length<=1:=by decide
      have hpl:pre.length<549755813888:=by omega
      obtain⟨ds,hds⟩:∃ds,ds=dec x.2.1:=⟨_,rfl⟩
      rw[<-hds] at hxl hos |-
      have hBn:BS≠w.heap.size:=by omega
      clear hds hBd hBS hW1
      gi_wp2
      . rename_i hx
        refine⟨trivial,(CallsIn.inRound l (callsIn_wide.2 (Ynj (hgw h9.l) (n:=9-ds.length) (by omega) (by omega)))).mono ?_⟩
        rintro e W2 ⟨rfl,hW2⟩
        have h9b:=h9.below h9.l.size hW2
        obtain⟨zr,hzr⟩:∃zr,zr=List.replicate (9-ds.length) (48:UInt8):=⟨_,rfl⟩
        have hzrl:zr.length<=9:=by rw[hzr,W1v];omega
        rw[<-hzr]
        rw[if_pos (by omega),<-hzr] at hos
        clear hzr
        gi_wp2
        refine⟨trivial,(CallsIn.inRound l (callsIn_wide.2 (h9b.wr zr h9b.l.size hBn (by omega)))).mono ?_⟩
        rintro e W3 ⟨rfl,h9c⟩
        gi_wp2
        refine⟨trivial,(CallsIn.inRound l (callsIn_wide.2 (h9c.wr ds h9c.l.size hBn (by simp only[W0d];omega)))).mono ?_⟩
        rintro e W4 ⟨rfl,h9d⟩
        gi_wp2
        exact⟨h9d.k,h9d.q,⟨by rw[hos];exact h9d.b,h9d.s⟩,h9d.l⟩
      . rename_i hx
        rw[if_neg (by omega),W4l] at hos
        refine⟨trivial,(CallsIn.inRound l (callsIn_wide.2 (h9.wr ds h9.l.size hBn (by omega)))).mono ?_⟩
        rintro e W4 ⟨rfl,h9d⟩
        gi_wp2
        exact⟨h9d.k,h9d.q,⟨by rw[hos];exact h9d.b,h9d.s⟩,h9d.l⟩
     case done =>
      rintro D ys W hD rfl ⟨⟨hBd,hBS⟩,hBl⟩ hK
      gi_wp2
      have hne:o9 zs.length [] (b9 zs zs.length)=tx z:=by
       rw[Ydq _ _ _ (W0a _),W3b,W1d,htx]
       unfold tx
       rw[if_neg (by omega)]
      rw[hne] at hBd
      have hn0:tx z≠[]:=by
       unfold tx
       intro h
       exact Xws _ (List.append_eq_nil_iff.1 h).2
      refine⟨trivial,(callsIn_wide.2 (Any.Builder_String_k Ybv Ykv w.heap.size w.heap.size (tx z) W hBd hn0)).mono ?_⟩
      rintro e W3 ⟨rfl,_,hb3,hok3⟩
      have hK3:=hok3 D _ hK (by intro h;cases h;have:=hBl.size;omega) (by intro c fz h;cases h)
      gi_wp2
      refine⟨by simp,.inl ⟨_,_,rfl,run_takeDeferred hK3,?_⟩⟩
      refine⟨_,results_tmp rfl _ _ _,?_⟩
      refine hfin (s:=tx z) ?_ rfl
      exact(hBl.trans hb3).trans (belowK_b (w:=w) (W0a _) W3 D _ _ (by omega) hK3 rfl rfl)
theorem Xr4{z:Int}(hl:(dig z.natAbs).length<=274877906944): C0 105 [.d (dz z)] (·=.d (.str (tx z))):=by
 by_cases hz:z=0
 . subst hz
   have:tx 0=[48]:=by unfold tx;rw[if_neg (by decide),show Int.natAbs 0=0 from rfl,Xd6 (by decide)];rfl
   rw[this];exact Xo7
 . exact Xsi hz hl
end
end Go.Proofs.YtfjafaehfjjaiaaGreatDoor
namespace Go.Proofs.YtfjafaehfjjaiaaGreatDoor.P11
open Go Go.Vm Go.Num Go.Tow Go.Proofs.YtfjafaehfjjaiaaGreatDoor Go.Proofs.YtfjafaehfjjaiaaGreatDoor.P9 Go.Proofs.YtfjafaehfjjaiaaGreatDoor.R11
def fmtV(z:Int)(d:Nat): AV:=if (txt z d).length<=400 then .tup (.pr (.d (.str (txt z d))) (.d (.int .i64 0))) else .tup (.pr (.d (.str [])) (.d (.int .i64 3)))
abbrev RndOf(x:Nm)(d:Nat)(z:Int): Prop:=Xdh x.k x.t (scl x.k x.t x.a ((10^d:Int):Rat) hf) z
theorem dcT{p:Prop}(h:p): dc p=true:=Xah.2 h
theorem dcF{p:Prop}(h:¬p): dc p=false:=W6i.2 λe=>h (Xah.1 e)
theorem Yjf{z:Int}(hl:(dig z.natAbs).length<=274877906944): C0 104 [.d (.str (tx z)),.d (.str [45])] (·=.tup (.pr (.d (.str (dec z.natAbs))) (.b (dc (z<0))))):=by
 have hlen:=Xou z.natAbs
 have hT:Tx (tx z):=by
  by_cases h:z<0
  . rw[Xs0 h];show (45::dec z.natAbs).length<_;rw[W0s];omega
  . rw[Xsz h];show (dec z.natAbs).length<_;omega
 have h:=Xni (s:=tx z) (t:=[45]) hT (by decide)
 by_cases hz:z<0
 . have e:(tx z).take [(45:UInt8)].length=[45]:=by rw[Xs0 hz];rfl
   rw[if_pos e,show (tx z).drop [(45:UInt8)].length=dec z.natAbs by rw[Xs0 hz];rfl] at h
   exact h.mono λv hv=>by rw[hv,dcT e,dcT hz]
 . have e:¬(tx z).take [(45:UInt8)].length=[45]:=λe=>by
    rw[Xsz hz] at e
    have hm:(45:UInt8)∈dec z.natAbs:=W4e (by rw[e];exact W0h.2 rfl)
    have:=(Yjc z.natAbs 45 hm).1
    exact absurd this (by decide)
   exact h.mono λv hv=>by rw[hv,if_neg e,dcF e,dcF hz,Xsz hz]
theorem Xi2{x:Nm}{d:Nat}(H:Pk x)(hd:d<=60): C0 58 [.d (dN x),.d (.int .i64 d)] λv=>∃z,RndOf x d z/\(dig z.natAbs).length<=274877906944/\v=fmtV z d:=by
 refine En Tryz.func58 λ_ _ _=>?_
 refine Ca rfl (Xz9 H hd) λv hv=>?_
 obtain⟨z,rfl,hz,hl⟩:=hv
 have hlen:=Xou z.natAbs
 have hpl:=Ydm d (dec z.natAbs)
 have hdp:=Xwq z.natAbs
 obtain⟨s,hs⟩:∃s,s=dec z.natAbs:=⟨_,rfl⟩
 rw[<-hs] at hlen hpl hdp
 have hct:=Yjf hl
 rw[<-hs] at hct
 refine No rfl (by decide) ?_
 refine Ce rfl (Xr4 hl) ?_
 refine Ce rfl hct ?_
 obtain⟨q,hq⟩:∃q,q=pad d s:=⟨_,rfl⟩
 have hql:q.length=max (d+1) s.length:=by rw[hq,hpl]
 obtain⟨r,hr⟩:∃r,r=pt d q:=⟨_,rfl⟩
 have hrl:r.length<=q.length+1:=by
  rw[hr,pt];split
  . omega
  . rw[W0d,W0s,W0j,W1l];omega
 have htx:txt z d=(if z<0 then [45] else [])++r:=by rw[txt,hr,hq,hs]
 refine Cu none (λ(_:Unit)=>[(1,.d (.int .i64 d)),(8,.d (.str q)),(9,.b (dc (z<0)))]) (λ_=>[]) (λ_=>True) rfl ?_ λ_ _=>?_
 . refine By rfl (λh=>?_) λh=>?_
   . have h:((s.length:Nat):Int)<=d:=h
     refine Ar (d+1:Nat) rfl ?_
     refine Ar (d+1-s.length:Nat) rfl ?_
     refine Ce rfl (Xj9 (by omega)) ?_
     refine Sc q rfl (by rw[hq];rfl) (by rw[W1v];omega) ?_
     exact Jn () [] rfl trivial
   . have h:¬((s.length:Nat):Int)<=d:=h
     have e:q=s:=by rw[hq,pad,show d+1-s.length=0 by omega];rfl
     rw[e]
     exact Jn () [] rfl trivial
 refine Cu none (λ(_:Unit)=>[(1,.d (.int .i64 d)),(8,.d (.str r)),(9,.b (dc (z<0)))]) (λ_=>[]) (λ_=>True) rfl ?_ λ_ _=>?_
 . refine By rfl (λh=>?_) λh=>?_
   . refine Dw rfl ?_
     refine Ar ((q.length-d:Nat):Int) rfl ?_
     refine Stk (q.length-d) _ rfl (by omega) rfl ?_
     refine Sc (q.take (q.length-d)++[46]) rfl rfl (by simp;omega) ?_
     refine Ar ((q.length-d:Nat):Int) rfl ?_
     refine Sdp (q.length-d) _ rfl (by omega) rfl ?_
     refine Sc r rfl (by rw[hr,pt,if_neg (by omega)];simp) (by simp;omega) ?_
     exact Jn () [] rfl trivial
   . have e:r=q:=by rw[hr,pt,if_pos (by omega)]
     rw[e]
     exact Jn () [] rfl trivial
 refine Cu none (λ(_:Unit)=>[(8,.d (.str (txt z d)))]) (λ_=>[]) (λ_=>True) rfl ?_ λ_ _=>?_
 . refine By rfl (λh=>?_) λh=>?_
   . refine Sc (txt z d) rfl (by rw[htx,if_pos h]) (by show 1+r.length<_;omega) ?_
     exact Jn () [] rfl trivial
   . rw[htx,if_neg h]
     exact Jn () [] rfl trivial
 refine By rfl (λh=>?_) λh=>?_
 . exact Rt rfl (.tup (.cons (.rf rfl) Xa7)) ⟨z,hz,hl,by rw[fmtV,if_neg (by omega)]⟩
 . exact Rt rfl (.tup (.cons (.rf rfl) Xa7)) ⟨z,hz,hl,by rw[fmtV,if_pos (by omega)]⟩
theorem dFmt_ok{x:Nm}{d:Nat}(H:Pk x)(hd:d<=60): C0 58 [.d (dN x),.d (.int .i64 d)] λv=>∃z,RndOf x d z/\(dig z.natAbs).length<=274877906944/\v=fmtV z d:=Xi2 H hd
end Go.Proofs.YtfjafaehfjjaiaaGreatDoor.P11
namespace Go.Vm
open Go
theorem Stp.freezeV{N:Nat->Prop}{W:GW}{θ:Loc}{g:Hp}(h:Obs W θ N g){o b:Nat}{x:D}(ho:g o=some (.var (.d x)))(hb:(θ o).1=some b): Stp N W (W.fz b) θ θ g (upd g o .dead) where
 os:=_root_.rfl
 out:=_root_.rfl
 tape:=_root_.rfl
 size:=W0a _
 same:=λ_ _ _=>_root_.rfl
 A:=λb' _ hn i=>⟨λk=>k.2,λk=>⟨λe=>by subst e;exact hn (h.new o _ _ ho _root_.rfl hb),k⟩⟩
 le:=Xlb W b
 th:=λ_ _ _=>_root_.rfl
 hi:=λ_ _=>_root_.rfl
 obs:={
  r:=λo' z hz=>by
   rcases Xaf hz with ⟨e1,e2⟩ | ⟨e1,e2⟩
   . subst e2;trivial
   . exact(h.r o' z e2).keep (Xlb W b) _root_.rfl (λ_ _=>_root_.rfl) λhl b' hb'=>⟨_root_.rfl,λi hA=>show b'≠b/\W.A b' i from⟨λe=>by
      subst e
      exact e1 (h.dis o' o z _ _ e2 ho hl _root_.rfl hb' hb),hA⟩⟩
  new:=λo' z b hz hl hb=>by
   rcases Xaf hz with ⟨e1,e2⟩ | ⟨e1,e2⟩
   . subst e2;cases hl
   . exact h.new o' z b e2 hl hb
  dis:=λo1 o2 y1 y2 b h1 h2 l1 l2 b1 b2=>by
   rcases Xaf h1 with ⟨e1,f1⟩ | ⟨e1,f1⟩
   . subst f1;cases l1
   . rcases Xaf h2 with ⟨e2,f2⟩ | ⟨e2,f2⟩
     . subst f2;cases l2
     . exact h.dis o1 o2 y1 y2 b f1 f2 l1 l2 b1 b2
  ids:=λo' z i hz hzi=>by
   have:∃w,g i=some w:=by
    rcases Xaf hz with ⟨e1,e2⟩ | ⟨e1,e2⟩
    . subst e2;exact hzi.elim
    . exact h.ids o' z i e2 hzi
   obtain⟨w,hw⟩:=this
   by_cases e:i=o
   . subst e;exact⟨_,Xaj _ _ _⟩
   . exact⟨w,by rw[Xak e];exact hw⟩ }
 dom:=λi y hy=>by
  by_cases e:i=o
  . subst e;exact⟨_,Xaj _ _ _⟩
  . exact⟨y,by rw[Xak e];exact hy⟩
theorem Xv3{N:Nat->Prop}{W:GW}{θ:Loc}{g:Hp}(h:Obs W θ N g){o b:Nat}{x:D}{v:Value}(ho:g o=some (.var (.d x)))(hb:(θ o).1=some b)(hv:AV.V W θ (.ptr o 0) v): AV.V (W.fz b) θ (.at x) v:=by
 obtain⟨cs,⟨b1,h1,h2⟩,hc⟩:=hv
 refine⟨cs,?_,hc⟩
 obtain⟨b',bs,T',r1,r2,r3,r4⟩:=h.r _ _ ho
 rw[hb] at r1 h1;injection r1 with r1;injection h1 with h1;subst r1;subst h1
 exact⟨b,0,bs,h2,D.mono (Xlb W b) x r3,λj v hj=>⟨show W.w.cell? _=_ by rw[W1k,Xa9 r2];exact hj,λhA=>hA.1 rfl⟩⟩
section
variable{c:Cx}{s:St}{p:Pl}
noncomputable def Yn0(tb:Nat->Option TI)(n id t:Nat)(s:St): Option (List Kt×Env×Hpl×Nat×D):=match runT tb n id 1000 s with
 | .j _ K E H=>match look E t with
  | some (.ptr o 0)=>match look H o with
   | some (.var (.d x))=>some (K,E,H,o,x)
   | _=>none
  | _=>none
 | _=>none
theorem Fv(id t:Nat){K:List Kt}{E:Env}{H:Hpl}{o:Nat}{x:D}(h:Yn0 c.tb c.n id t s=some (K,E,H,o,x))(k:StP c (.j [] K ((t,.at x)::E) ((o,.dead)::H))): StP c s:=by
 unfold Yn0 at h
 split at h<;>try cases h
 rename_i hr
 split at h<;>try cases h
 rename_i he
 split at h<;>cases h
 rename_i ho
 refine Xfb (id:=id) 1000 ?_
 rw[hr]
 rintro a w ⟨s0,W,θ,hw,hs,hθ,rfl⟩
 obtain⟨b,bs,T',r1,_⟩:=hs.obs.r _ _ ho
 have st:=Stp.freezeV hs.obs ho r1
 have h1:=hs.step0 st
 refine k a w ⟨_,W.fz b,θ,hw,?_,hθ,rfl⟩
 rw[show sem ((t,AV.at x)::E) ((o,Ob.dead)::H)=(upd (look E) t (.at x),upd (look H) o .dead) by rw[Xa2,Xa2]]
 refine⟨h1.fm,⟨h1.rel.defers,h1.rel.size,λq v hq=>?_⟩,h1.obs,λq v i hq hi=>?_⟩
 . rcases Xaf hq with ⟨e1,e2⟩ | ⟨e1,e2⟩
   . subst e1;subst e2
     exact Xv3 hs.obs ho r1 (hs.rel.has q _ he)
   . exact h1.rel.has q v e2
 . rcases Xaf hq with ⟨e1,e2⟩ | ⟨e1,e2⟩
   . subst e1;subst e2;exact hi.elim
   . exact h1.ids q v i e2 hi
end
end Go.Vm
namespace Go.Proofs.YtfjafaehfjjaiaaGreatDoor.R20
open Go Go.Vm Go.Num Go.Tow Go.Proofs.YtfjafaehfjjaiaaGreatDoor Go.Proofs.YtfjafaehfjjaiaaGreatDoor.P20
open Go.Proofs.YtfjafaehfjjaiaaGreatDoor.P55 (v0 W0 g0 gv0 zw Xk8 Qp)
section
variable{K:Nat}{G:Tw K}{S:List (Tow.El K)}{N:List Nm}{n m:Nat}{x y z:Nm}{a b:Tow.El K}
variable{K':Nat}{G':Tw K'}{S':List (Tow.El K')}{N':List Nm}{u s:Vn}{p q:V2 K'}{f g:Int}
theorem Xck(W:Wn G S N)(hx:Gd G S N n x a)(hy:Gd G S N m y b)(hn:n<=400)(hm:m<=400): C0 48 [.d (dN x),.d (dN y)] (·=.d (.int .i64 (sgn K G (Tow.add K a (Tow.neg K b))))):=by
 refine En Tryz.func48 λ_ _ _=>?_
 refine Ce rfl (R9.Cmp_g W hx hy hn hm) ?_
 exact R0
theorem Zero_g(W':Wn G' S' N')(hu:Gv G' S' N' m u p)(hm:m<=800): C0 47 [.d (dT u f)] (·=.b (dc (f=0/\Xcu G' p))):=by
 refine En Tryz.func47 λ_ _ _=>?_
 refine By rfl (λh=>?_) λh=>?_
 . refine Ce rfl (R9.Sign_g W' hu.y hm) ?_
   refine By rfl (λh1=>?_) λh1=>?_
   . refine Ce rfl (R9.Sign_g W' hu.x hm) ?_
     exact R1 rfl (.bp (Xah.trans ⟨λh2=>⟨h,h1,h2⟩,λh2=>h2.2.2⟩))
   . exact R1 rfl (.bp ⟨nofun,λh2=>absurd h2.2.1 h1⟩)
 . exact R1 rfl (.bp ⟨nofun,λh2=>absurd h2.1 h⟩)
theorem half_g(W:Wn G S N)(hx:Gd G S N n x a)(hn:n<=400): C0 69 [.d (dN x)] (OnG G S N (n+1) (Tow.mul K G a (Tow.rat K hf2))):=by
 refine En Tryz.func69 λ_ _ _=>?_
 refine Dw rfl ?_
 refine Ce rfl (R2.Frac_ok (a:=1) (b:=2) (by decide) (by decide) (by decide)) ?_
 refine Ce rfl (R9.FromRat_ok (q:=hf2)) ?_
 refine Ca rfl (R9.Mul_g W hx (Gd.rat W Xqt) (by omega) (by decide)) λv hv=>?_
 obtain⟨z,rfl,hz⟩:=hv
 exact Rt rfl (.one (.rf rfl) rfl rfl) ⟨z,rfl,hz⟩
theorem Xlp(W:Wn G S N)(W':Wn G' S' N')(hx:Gd G S N n x a)(hu:Gv G' S' N' m u p)(hn:n<=400)(hm:m<=800): C0 28 [.d (dN x),.d (dT u f)] (λr=>((f=0/\Xcu G' p)/\r=.d (dAr n00 []))\/(¬(f=0/\Xcu G' p)/\∃z,r=.d (dAr n00 [⟨z,u,f⟩])/\Gd G S N (n+1) z (Tow.mul K G a (Tow.rat K hf2)))):=by
 refine En Tryz.func28 λ_ _ _=>?_
 refine Ce rfl (R9.FromInt_ok (z:=0) (by decide)) ?_
 refine Ce rfl (Zero_g W' hu hm) ?_
 refine By rfl (λh=>?_) λh=>?_
 . have h:¬(f=0/\Xcu G' p):=by simpa only [Xal,Xah] using h
   refine Dw rfl ?_
   refine Ca rfl (half_g W hx hn) λv hv=>?_
   obtain⟨z,rfl,hz⟩:=hv
   exact Rt rfl (.one (.sd (.pd (.rf rfl) (.lit rfl))) rfl rfl) (.inr ⟨h,z,rfl,hz⟩)
 . have h:f=0/\Xcu G' p:=W2g.1 (by simpa only [Xal,Xah] using h)
   exact Rt rfl (.one (.sd (.pd (.rf rfl) (.nil rfl))) rfl rfl) (.inl ⟨h,rfl⟩)
end
theorem ase{l:List Sn}{k:Nat}{s:Sn}(h:l[k]?=some s): (l.map dSe)[k]?=some (dSe s):=by rw[W1p,h];rfl
section
variable{K:Nat}{G:Tw K}{S:List (Tow.El K)}{N:List Nm}{n m:Nat}{x y z:Nm}{a b:Tow.El K}
theorem Xi0(W:Wn G S N){l:List Vn}{g:Nat->V2 K}(hl:∀(i:Nat) v,l[i]?=some v->Gv G S N n v (g i))(h0:0<l.length)(h8:l.length<=8)(hn:1<=n/\n<=4): C0 25 [.d (dVs l)] (λr=>∃z,r=.tup (.pr (.d (dAr z [])) (.d (.int .i64 0)))/\Gd G S N 130 z (Tow.mul K G (pgn G g l.length) (Tow.rat K hf2))):=by
 have lm:(l.map dV).length=l.length:=W0i ..
 refine En Tryz.func25 λ_ _ _=>?_
 refine Ce rfl (R9.FromInt_ok (z:=0) (by decide)) ?_
 refine Lo (λ((k,z):Nat×Nm)=>[(0,.d (dVs l)),(2,.ptr 2 0),(4,.ptr 8 0),(5,.ptr 5 0),(6,.d (.int .i64 k))]) (λ(k,z)=>[(2,.var zA),(8,cal),(5,.var (.d (dN z)))]) (λ(k,z)=>k<=l.length/\Gd G S N (1+16*k) z (Ydj G g l.length k)) (λ(k,_)=>l.length-k) (0,n00) [] rfl ⟨W0z _,by rw[Ybd];exact Gd.rat W (by decide +kernel)⟩ ?_
 rintro⟨k,z⟩ ⟨hk,hz⟩
 refine By rfl (λh=>?_) λh=>?_<;>simp only[lm] at h
 . obtain⟨v,hv⟩:∃v,l[k]?=some v:=⟨_,W0c (by omega)⟩
   obtain⟨w,hw⟩:∃w,l[(k+1)%l.length]?=some w:=⟨_,W0c (W1q _ h0)⟩
   refine Dw rfl ?_
   refine Ix k rfl (mp hv) ?_
   refine Ar (k+1:Nat) rfl ?_
   refine Ar ((k+1)%l.length:Nat) rfl ?_ (by rw[lm];exact remN _ h0)
   refine Ix ((k+1)%l.length) rfl (mp hw) ?_
   refine Cn [(1000001,8)] rfl (R15.Cross_g W (hl k v hv) (hl _ w hw) (by omega) (by omega) (by omega)) λv hv=>?_
   obtain⟨c,rfl,hc⟩:=hv
   refine Cn [(1000001,8)] rfl (R15.Add_g W hz hc (by omega) (by omega)) λv hv=>?_
   obtain⟨z',rfl,hz'⟩:=hv
   rw[<-Ybb] at hz'
   refine Ar (k+1:Nat) rfl ?_
   exact Bk (k+1,z') [] rfl ⟨by omega,hz'.mono (by omega)⟩ (by show l.length-(k+1)<l.length-k;omega)
 . obtain rfl:k=l.length:=by omega
   rw[Ybc] at hz
   first | refine Dw rfl ?_ | refine Dz rfl ?_
   refine Ca rfl (half_g W hz (by omega)) λv hv=>?_
   obtain⟨z',rfl,hz'⟩:=hv
   exact Rt rfl (.tup (.cons (.sd (.pd (.rf rfl) (.nil rfl))) Xa7)) ⟨z',rfl,hz'.mono (by omega)⟩
end
end Go.Proofs.YtfjafaehfjjaiaaGreatDoor.R20
namespace Go.Vm
open Go
section
variable{c:Cx}{s:St}{p:Pl}
noncomputable def Yhn(tb:Nat->Option TI)(n:Nat)(s:St): Option (Pl×Nat×Nat×List D×AV):=match nxA tb n s with
 | some (p,o,[a,b])=>match o.op with
  | .call ⟨.builtin .append,_,⟨[T,T']⟩⟩=>match Nat.beq T T',tb T,look p.H (o.dst.getD 0) with
   | true,some ti,none=>match Nat.ble ti.eb 1024,ti.z,b with
    | true,.sl sz _,.d (.sl s ys)=>match Nat.beq s sz with
     | true=>some (p,o.dst.getD 0,sz,ys,a)
     | false=>none
    | true,.sl sz _,.nil=>some (p,o.dst.getD 0,sz,[],a)
    | true,.sl sz _,.gr _ s ys=>match Nat.beq s sz with
     | true=>some (p,o.dst.getD 0,sz,ys,a)
     | false=>none
    | true,.sl sz _,.lit s ys=>match Nat.beq s sz with
     | true=>some (p,o.dst.getD 0,sz,ys,a)
     | false=>none
    | _,_,_=>none
   | _,_,_=>none
  | _=>none
 | _=>none
theorem Xn9{d sz:Nat}{ys:List D}{a v:AV}{us:Hpl}(h:Yhn c.tb c.n s=some (p,d,sz,ys,a))(hF:∀ti:TI,ti.eb<=1024->Xlt d (look p.H) ti sz ys a=some (v,us))(k:p.nx' c v us): StP c s:=by
 unfold Yhn at h
 split at h<;>try cases h
 rename_i p' o a' b hA
 split at h<;>try cases h
 rename_i asx T T' ho
 split at h<;>try cases h
 rename_i ti hT hti hd
 have hT:=W0e hT
 subst hT
 have fin:∀ {sz' ys' xs0},ti.eb<=1024->ti.z=.sl sz' xs0->Xkl (look p'.H) ti.z sz' b=some ys'->(p',o.dst.getD 0,sz',ys',a')=(p,d,sz,ys,a)->StP c s:=by
  intro sz' ys' xs0 he hz hs e
  injection e with e1 e2;injection e2 with e2 e3;injection e3 with e3 e4;injection e4 with e4 e5
  subst e1;subst e2;subst e3;subst e4;subst e5
  refine Xbr hA ?_ k
  rw[ho]
  simp only[F,if_true,hti,hd,hz]
  rw[hz] at hs
  rw[hs]
  exact hF ti he
 split at h
 . rename_i he hz
   split at h<;>cases h
   rename_i hs
   have hs:=W0e hs
   exact fin (W1g he) hz (by simp[Xkl,toD,hs]) rfl
 . rename_i he hz
   cases h
   exact fin (W1g he) hz (by simp[Xkl,hz,toD]) rfl
 . rename_i he hz
   split at h<;>cases h
   rename_i hs
   have hs:=W0e hs
   exact fin (W1g he) hz (by simp[Xkl,toD,hs]) rfl
 . rename_i he hz
   split at h<;>cases h
   rename_i hs
   have hs:=W0e hs
   exact fin (W1g he) hz (by simp[Xkl,toD,hs]) rfl
 . cases h
theorem Xh4{n:Nat}{ti:TI}(h:n<=137438953472)(he:ti.eb<=1024): Xh5 n ti:=⟨by
 have:=W2b h he;omega,by omega⟩
end
section
variable{c:Cx}{s:St}{p:Pl}
noncomputable def Ynr(tb:Nat->Option TI)(n:Nat)(s:St): Option (Pl×Oper×TypeId×Operand×Operand×TI×Nat×Nat×List D×Nat×Nat×AV):=match nxO tb n s with
 | some (p,o)=>match o.op,p.dr,o.dst with
  | .store T x y,false,none=>match Xc4 (look p.E) x,Xc4 (look p.E) y,tb T with
   | some (.el q sz j off),some v,some ti=>match look p.H q with
    | some (.arr sz' xs)=>match Nat.beq sz sz' with
     | true=>some (p,o,T,x,y,ti,q,sz,xs,j,off,v)
     | false=>none
    | _=>none
   | _,_,_=>none
  | _,_,_=>none
 | none=>none
theorem StF{o:Oper}{T:TypeId}{x y:Operand}{ti:TI}{q sz j off:Nat}{xs:List D}{v a':AV}{x1:D}(zs:List D)(u:D)(h:Ynr c.tb c.n s=some (p,o,T,x,y,ti,q,sz,xs,j,off,v))(hu:xs[j]?=some u)(hz:xs.set j x1=zs)(k:p.nx' c (.ub True) [(q,.arr sz zs)])
 (ha:Xrj v (.d u) off=some a':=by exact rfl) (hd:toD u a'=some x1:=by exact rfl) (hs:(plain v&&Nat.beq v.size ti.z.size&&Nat.beq u.size sz&&Nat.beq x1.size sz)=true:=by exact rfl):StP c s:=by
 subst hz
 unfold Ynr at h
 split at h<;>try cases h
 rename_i p' o' ho
 split at h<;>try cases h
 rename_i T1 x' y' hop hdr hdst
 split at h<;>try cases h
 rename_i q' sz1 j' off' v' ti' hx hy hti
 split at h<;>try cases h
 rename_i sz2 xs' hg
 split at h<;>cases h
 rename_i hb
 have hb:=W0e hb
 subst hb
 simp only[W0g] at hs
 obtain⟨⟨⟨hpl,hs1⟩,hs2⟩,hs3⟩:=hs
 have hs1:=W0e hs1
 have hs2:=W0e hs2
 have hs3:=W0e hs3
 refine Xry ho (by unfold Xap;rw[hop];rfl) hdr (λN W θ ρ _ hO hN hB hv=>?_) k
 obtain⟨hk,hp⟩:=c.hT _ _ hti
 have hg:(sem p.E p.H).2 q=some (.arr sz xs):=hg
 obtain⟨b,h1,e⟩:=Yk0 (hv _ _ hx)
 obtain⟨b',cs,T',r1,r2,r3,r4,r5,r6,r7⟩:=hO.r _ _ hg
 rw[h1] at r1;injection r1 with r1;subst r1
 obtain⟨hvC,_⟩:=Xgp hpl (hv _ _ hy) (Xf3 hpl)
 have hvl:=AV.c_len v hvC
 obtain⟨e1,d1,d2,d3⟩:=r6 j u hu
 have d1':AV.C W θ (.d u) e1:=d1
 obtain⟨u0,m,w,f1,f2,f3,f4,f5⟩:=Yar hvC ha d1'
 have hel:=D.at_len u d1
 have hj:j<xs.length:=(W0n.1 hu).1
 have hlen:off+v.size<=sz:=by
  have:=congrArg List.length f1
  simp only[W0d] at this
  omega
 have hjc:j*sz+sz<=cs.length:=by
  rw[r3,<-W2t];exact W0q _ (by omega)
 have hrun:=Xts (P:=c.P) (ty:=o.type) (pos:=o.pos) (aft:=o.after) (gd:=o.guard) hk e r2 (by rw[hvl,hs1]) (by omega) (AV.c_one v hvC)
 have hle:=Xg2 W b cs (spl cs (j*sz+off) (ρ y).cells.toList) T' (λ_=>True) r2 (λi v hA=>absurd (r7 i) hA)
 have hsp:∀t,(spl cs (j*sz+off) (ρ y).cells.toList)[t]?=if j*sz+off<=t/\t<j*sz+off+v.size then (ρ y).cells.toList[t-(j*sz+off)]? else cs[t]?:=λt=>by
  rw[Xe9 _ _ _ _ (by rw[hvl];omega),hvl]
 have hspe:spl e1 off (ρ y).cells.toList=u0++((ρ y).cells.toList++w):=by rw[f1,<-f2];exact Xpr _ _ _ _ (by rw[hvl,f3])
 have hse:∀t,(u0++((ρ y).cells.toList++w))[t]?=if off<=t/\t<off+v.size then (ρ y).cells.toList[t-off]? else e1[t]?:=λt=>by
  rw[<-hspe,Xe9 _ _ _ _ (by rw[hvl,hel];omega),hvl]
 have ho':o=⟨none,.store T x y,o.type,o.pos,o.after,o.guard⟩:=by
  obtain⟨d,op,ty,ps,af,gu⟩:=o
  cases hop;cases hdst;rfl
 rw[ho']
 refine⟨_,θ,_,hrun,Stp.put hO (t:=q) (x:=.arr sz (xs.set j x1)) hg rfl h1 r2 (λi v hA=>absurd (r7 i) hA) (λ_ _ _=>rfl) (λ_ _=>rfl) h1 (λi z hz=>?_) (λi z hz=>?_)
  ⟨b,_,T',h1,Xa6 _ _ _ (Xa1 r2),by rw[Xdj];exact r3,r4,by simpa using r5,λi x hx=>?_,λi=>⟨r7 i,λ_=>trivial⟩⟩ (λi hi=>hi.elim),.inl ⟨rfl,rfl⟩,λi hi=>hi.elim⟩
 . rcases Xaf hz with ⟨f1,f2⟩ | ⟨f1,f2⟩
   . exact .inl ⟨f1,f2⟩
   . exact .inr (.inr ⟨f2,f1⟩)
 . by_cases hio:i=q
   . subst hio;exact⟨_,Xaj _ _ _⟩
   . exact⟨z,by rw[show Xbe (sem p.E p.H).2 [(q,Ob.arr sz (xs.set j x1))]=upd (sem p.E p.H).2 q (.arr sz (xs.set j x1)) from rfl,Xak hio];exact hz⟩
 . by_cases hij:i=j
   . subst hij
     rw[W2w hj] at hx
     injection hx with hx;subst hx
     refine⟨_,D.mono hle _ (Xly hd f4),hs3,λt c hq=>?_⟩
     rw[hse] at hq
     rw[hsp]
     split at hq
     . rename_i hc
       rw[if_pos (by omega),show i*sz+t-(i*sz+off)=t-off by omega]
       exact hq
     . rename_i hc
       rw[if_neg (by omega)]
       exact d3 t c hq
   . rw[W1w (λh=>hij h.symm)] at hx
     obtain⟨g1,g2,g3,g4⟩:=r6 i x hx
     refine⟨g1,D.mono hle _ g2,g3,λt c hq=>?_⟩
     have hql:t<sz:=by
      rw[<-g3,<-D.at_len x g2]
      by_cases h:t<g1.length
      . exact h
      . rw[W1x (by omega)] at hq;cases hq
     rw[hsp,if_neg ?_]
     . exact g4 t c hq
     . rcases W6z hij with h | h
       . have:i*sz+sz<=j*sz:=by rw[<-W2t];exact W0q _ (by omega)
         omega
       . have:j*sz+sz<=i*sz:=by rw[<-W2t];exact W0q _ (by omega)
         omega
theorem Yah{d sz:Nat}{xs ys:List D}(zs:List D)(h:Yhn c.tb c.n s=some (p,d,sz,ys,.lit sz xs))(hz:xs++ys=zs)(h0:0<ys.length)(hr:zs.length<=137438953472)(k:p.nx' c (.own d sz 0 zs.length) [(d,.arr sz zs)]): StP c s:=by
 subst hz
 exact Xn9 h (λti he=>by simp[Xlt,h0,Xh4 (by simpa using hr) he]) k
theorem Yag{d sz o n:Nat}{xs ys:List D}(zs:List D)(h:Yhn c.tb c.n s=some (p,d,sz,ys,.own o sz 0 n))(ht:look p.H o=some (.arr sz xs))(hn:n=xs.length)(hz:xs++ys=zs)(hr:zs.length<=137438953472)(k:p.nx' c (.own d sz 0 zs.length) [(d,.arr sz zs),(o,.dead)]): StP c s:=by
 subst hz
 exact Xn9 h (λti he=>by subst hn;simp[Xlt,ht,Xh4 (by simpa using hr) he])  k
end
end Go.Vm
namespace Go.Proofs.YtfjafaehfjjaiaaGreatDoor.P11
open Go Go.Vm Go.Num Go.Tow Go.Proofs.YtfjafaehfjjaiaaGreatDoor Go.Proofs.YtfjafaehfjjaiaaGreatDoor.P9 Go.Proofs.YtfjafaehfjjaiaaGreatDoor.R11
section
end
section
end
end Go.Proofs.YtfjafaehfjjaiaaGreatDoor.P11
namespace Go.Proofs.YtfjafaehfjjaiaaGreatDoor.R3
open Go Go.Vm Go.Num Go.Tow Go.Proofs.YtfjafaehfjjaiaaGreatDoor
section
variable{x:Rat}{s b:Nat}
end
section
variable{p q:Rat×Rat}{s t b:Nat}
end
end Go.Proofs.YtfjafaehfjjaiaaGreatDoor.R3
namespace Go.Proofs.YtfjafaehfjjaiaaGreatDoor.R7
open Go Go.Vm Go.Num Go.Tow Go.Proofs.YtfjafaehfjjaiaaGreatDoor
end Go.Proofs.YtfjafaehfjjaiaaGreatDoor.R7
namespace Go.Vm
open Go
section
variable{c:Cx}{s:St}
end
end Go.Vm
namespace Go.Proofs.YtfjafaehfjjaiaaGreatDoor.R11
open Go Go.Vm Go.Num Go.Tow Go.Proofs.YtfjafaehfjjaiaaGreatDoor Go.Proofs.YtfjafaehfjjaiaaGreatDoor.P11
end Go.Proofs.YtfjafaehfjjaiaaGreatDoor.R11
namespace Go.Proofs.YtfjafaehfjjaiaaGreatDoor.P11
open Go Go.Vm Go.Num Go.Tow Go.Proofs.YtfjafaehfjjaiaaGreatDoor Go.Proofs.YtfjafaehfjjaiaaGreatDoor.P9 Go.Proofs.YtfjafaehfjjaiaaGreatDoor.R11 Go.Proofs.YtfjafaehfjjaiaaGreatDoor.R9
section
theorem Pk_rat{q:Rat}{n:Nat}(hq:Qs n q)(hn:n<=1700): Pk ⟨0,(),q⟩ :=
 ⟨W0z _,trivial,trivial,trivial,.inr ⟨rfl,λx hx=>by obtain rfl:=W0h.1 hx;exact hq.mono hn⟩⟩
abbrev two: Nm:=⟨0,(),(2:Rat)⟩
end
section
section
variable{k:Nat}{t:Tw k}{a:El k}
end
theorem txt_at{d:Nat}(l:List UInt8)(hl:l.length=d+1)(hd:∀b∈l,Xvf b): txt (Xxq l:Nat) d=pt d l:=by
 unfold txt
 rw[if_neg (by omega),W1f,Ye0 d l hl hd];rfl
theorem rnd_at{q:Rat}{d:Nat}{z:Int}(h1:0<=Xi5 (q*((10^d:Int):Rat)+hf+-(z:Rat)))(h2:Xi5 (q*((10^d:Int):Rat)+hf+-((z+1:Int):Rat))=-1): RndOf ⟨0,(),q⟩ d z:=⟨h1,h2⟩
end
end Go.Proofs.YtfjafaehfjjaiaaGreatDoor.P11
namespace Go.Vm
variable{c:Cx}{s:St}{p:Pl}
theorem Yke{d sz:Nat}{xs ys:List D}(h:Yhn c.tb c.n s=some (p,d,sz,ys,.lit sz xs))(h0:ys.length=0)(hr:xs.length<=137438953472)(k:p.nx' c (.lit sz xs) []): StP c s :=
 Xn9 h (λti he=>by simp[Xlt,h0,Xh4 (by simpa using hr) he]) k
end Go.Vm
namespace Go.Proofs.YtfjafaehfjjaiaaGreatDoor.P20
open Go Go.Vm Go.Num Go.Tow Go.Proofs.YtfjafaehfjjaiaaGreatDoor
open Go.Proofs.YtfjafaehfjjaiaaGreatDoor.P55 (v0 W0 g0 gv0 zw Xk8 Qp)
section
variable{K:Nat}{G:Tw K}{S:List (Tow.El K)}{N:List Nm}{n m k:Nat}{x y z c c':Nm}{a b e:Tow.El K}{u v s:Vn}{p q:V2 K}{f g:Int}
theorem Xlv(G:Tw K): Xnm (Xnm p)=p:=W3j rfl ((Xaz K G).nn _)
theorem Xsr: Xe2 G (Xnm p) q=(Xhq G p q,Xc5 G p q):=W3j (by rw[<-Yap,Xlv G]) (by rw[<-Yao,Xlv G])
theorem Yof(W:Wn G S N)(hu:Gv G S N n u p)(hs:Gv G S N m s q)(h2:n+m<=190): C0 17 [.d (dV u),.d (dV s)] (P19.OfG G S N (n+m+(n+m)) p q):=by
 refine En Tryz.func17 λ_ _ _=>?_
 refine Ce rfl (R13.Zero_g W hu (by omega)) ?_
 refine By rfl (λh=>?_) λh=>?_
 . exact Rt rfl (.tup (.cons Xr5 Xa7)) (.inr ⟨.inl h,rfl⟩)
 . refine Ce rfl (R13.Zero_g W hs (by omega)) ?_
   refine By rfl (λh1=>?_) λh1=>?_
   . exact Rt rfl (.tup (.cons Xr5 Xa7)) (.inr ⟨.inr h1,rfl⟩)
   refine Dw rfl ?_
   refine Cn [(1000001,15)] rfl (R15.Dot_g W hu hs (by omega) (by omega) (by omega)) λv hv=>?_
   obtain⟨d,rfl,hd⟩:=hv
   refine Cn [(1000001,15)] rfl (R15.Cross_g W hu hs (by omega) (by omega) (by omega)) λv hv=>?_
   obtain⟨c,rfl,hc⟩:=hv
   refine Cn [(1000001,15)] rfl (R19.result_g (u:=⟨d,c⟩) (p:=(Xhq G p q,Xc5 G p q)) (f:=0) ⟨hd,hc⟩) λv hv=>?_
   rcases hv with ⟨_,w,rfl,hw⟩ | ⟨h3,_⟩
   . exact Rt rfl (.tup (.cons (.rf rfl) Xa7)) (.inl ⟨λe=>e.elim h h1,w,rfl,by rw[Xsr];exact hw⟩)
   . exact absurd (by decide) h3
theorem Ye3{h:Sn}: CA0 30 [.d (dSs [h])] 7 [dSe h]:=by
 refine EnW Tryz.func30 λ_ _ _ _=>?_
 refine Ub rfl (λh=>?_) ?_
 . exact absurd (show [dSe _]=[] from h) nofun
 refine Yah [dSe h] rfl rfl (W4p _) (W1g rfl) ?_
 exact Rw [(7,1000000)] [(1000000,.arr 7 [dSe h])] rfl (.one (.rf rfl) rfl rfl) ⟨_,rfl,rfl,rfl⟩
theorem Ylt(W:Wn G S N)(hc:Gd G S N n c a)(hc':Gd G S N n c' a)(hn:n<=95)(hu:Gv G S N m u p)(hv:Gv G S N m v q)(h2:m+m+(m+m)+m<=190)(hf:few f)(hg:few g)(hl:lim (Xgi G p q f g))(h0:¬(Xgi G p q f g=0/\Xcu G (Xe2 G p q))):
 CW0 31 [.own 1000001 7 0 1,.d (dSe ⟨c',v,g⟩)] [(1000001,.arr 7 [dSe ⟨c,u,f⟩])] (λr H'=>∃w,r=.tup (.pr (.own 1000001 7 0 1) (.d (.int .i64 0)))/\H'=[(1000001,.arr 7 [dSe ⟨c,w,Xgi G p q f g⟩])]/\Gv G S N (m+m+(m+m)) w (Xe2 G p q)):=by
 have h00:sgn K G (Tow.add K a (Tow.neg K a))=0:=by rw[(Xaz K G).an];exact(Xbh W.w.g).2 rfl
 refine EnW Tryz.func31 λ_ _ _ _=>?_
 refine Lo (λ_:Unit=>[(0,.own 1000001 7 0 1),(3,.ptr 3 0),(6,.d (.int .i64 0))]) (λ_=>[(1000001,.arr 7 [dSe ⟨c,u,f⟩]),(3,.var (.d (dSe ⟨c',v,g⟩)))]) (λ_=>True) (λ_=>0) () [] rfl trivial (λ_ _=>?_)
 refine Dw rfl ?_
 refine Yes rfl (by decide) ?_
 refine Eo 0 rfl (by decide) ?_
 refine Ld (dSe ⟨c,u,f⟩) rfl rfl ?_
 refine Ce rfl (Ybu W hc hc' (by omega) (by omega)) ?_
 refine No rfl (by rw[h00];decide) ?_
 refine Dw rfl ?_
 refine No rfl (by decide) ?_
 refine Eo 0 rfl (by decide) ?_
 refine Ld (dSe ⟨c,u,f⟩) rfl rfl ?_
 refine Ce rfl (P9.Equal_g W hc hc' (by omega) (by omega)) ?_
 refine No rfl (λh=>h rfl) ?_
 refine Dw rfl ?_
 refine Eo 0 rfl (by decide) ?_
 refine Ld (dSe ⟨c,u,f⟩) rfl rfl ?_
 refine Ca rfl (P19.Add_g W hu hv (by omega) hf hg) λr hr=>?_
 rcases hr with ⟨_,w,rfl,hw⟩ | ⟨h,_⟩
 . refine No rfl (by decide) ?_
   refine Ce rfl (P19.Zero_g W hw (by omega)) ?_
   refine No rfl h0 ?_
   refine Eo 0 rfl (by decide) ?_
   refine StF [dSe ⟨c,w,Xgi G p q f g⟩] (dSe ⟨c,u,f⟩) rfl rfl rfl ?_
   exact Rw [] [(1000001,.arr 7 [dSe ⟨c,w,Xgi G p q f g⟩])] rfl (.tup (.cons (.rf rfl) Xa7)) ⟨w,rfl,rfl,hw⟩
 . exact absurd hl h
theorem Ykg{i:Nat}(W:Wn G S N)(hx:Gd G S N n x a)(hy:Gd G S N m y b)(hn:n<=190)(hm:m<=190)(hc:Gd G S N k c e)(hc':Gd G S N k c' e)(hu:Gv G S N i u p)(hv:Gv G S N i v q)(hk:k<=95)(h2:i+i+(i+i)+i<=190)(hf:few f)(hg:few g)(hl:lim (Xgi G p q f g))(h0:¬(Xgi G p q f g=0/\Xcu G (Xe2 G p q))):
 C0 7 [.d (dAr x [⟨c,u,f⟩]),.d (dAr y [⟨c',v,g⟩])] (λt=>∃z w,t=.tup (.pr (.d (dAr z [⟨c,w,Xgi G p q f g⟩])) (.d (.int .i64 0)))/\Gd G S N (n+m) z (Tow.add K a b)/\Gv G S N (i+i+(i+i)) w (Xe2 G p q)):=by
 refine En Tryz.func7 λ_ _ _=>?_
 refine Ca rfl (P9.Add_g W hx hy (by omega) (by omega)) λv hv=>?_
 obtain⟨z,rfl,hz⟩:=hv
 refine No rfl (by decide) ?_
 refine Dw rfl ?_
 refine Cr rfl Ye3 ?_
 refine Lo (λk:Nat×Vn=>[(4,.ptr 4 0),(8,.ptr 8 0),(29,.d (dSs [⟨c',v,g⟩])),(30,.d (.int .i64 1)),(31,.d (.int .i64 k.1))]) (λk=>[(26,.arr 7 [dSe (if k.1=0 then ⟨c,u,f⟩ else ⟨c,k.2,Xgi G p q f g⟩)]),(4,.var zA),(8,.var (.st (.pr (.d (dN z)) (.own 26 7 0 1))))]) (λk=>k.1<=1/\(k.1=1->Gv G S N (i+i+(i+i)) k.2 (Xe2 G p q))) (λk=>1-k.1) (0,u) [] rfl ⟨W0z _,λh=>by cases h⟩ λ⟨k,w⟩ ⟨hk',hw⟩=>?_
 rcases(show k=0\/k=1 by have:k<=1:=hk';omega) with rfl | rfl
 . refine Yes rfl (show ((0:Nat):Int)<1 by decide) ?_
   refine Ix 0 rfl (u:=dSe ⟨c',v,g⟩) rfl ?_
   refine Cw [(1000001,26)] rfl (Ylt W hc hc' hk hu hv h2 hf hg hl h0) (λr H' _ hr=>?_)
   obtain⟨w',rfl,rfl,hw'⟩:=hr
   show Pl.nx' _ _ (.tup (.pr (.own 26 7 0 1) (.d (.int .i64 0)))) [(26,.arr 7 [dSe ⟨c,w',Xgi G p q f g⟩])]
   refine No rfl (by decide) ?_
   refine Ar (0+1:Nat) rfl ?_
   exact Bk (0+1,w') [] rfl ⟨W0a 1,λ_=>hw'⟩ (show 1-(0+1)<1-0 from W7k)
 . refine No rfl (show ¬((1:Nat):Int)<1 by decide) ?_
   exact Rt rfl (.tup (.cons (.sd (.pd (.rf rfl) (.own rfl (W0a 1) rfl))) Xa7)) ⟨z,w,rfl,hz,hw rfl⟩
end
open Go Go.Vm Go.Num Go.Tow Go.Proofs.YtfjafaehfjjaiaaGreatDoor
section
open Go.Proofs.YtfjafaehfjjaiaaGreatDoor.P55 (v0 W0 g0 gv0 zw Xk8 Qp)
abbrev s0: Sn:=⟨nr 2,v0 (0,1),0⟩
def eV: Rat×Rat:=Xhb (pt 0) (Xbu (pt 2) rV)
theorem Yi7: Q2 1000 eV:=by
 have h:=Xnk fct.2.2.2.2.1
 exact(Xln (s:=64) (s':=314) (p:=pt 0) (by decide +kernel) (Xcb (s:=64) (p:=pt 2) (by decide +kernel) h)).mono (by decide)
theorem Xxb: C0 107 [.d (dAr n00 [s0]),.d (.int .i64 138)] (·=.tup (.pr (.d (dI eV)) (.d (.int .i64 0)))):=by
 have h5:=Xnk fct.2.2.2.2.1
 refine En Tryz.func107 λ_ _ _=>?_
 refine Ce rfl (Xfq (x:=((0:Int):Rat)) (bits:=138) (by decide +kernel) (by decide)) ?_
 refine Lo (λk:Nat=>[(1,.d (.int .i64 138)),(4,.ptr 4 0),(6,.ptr 6 0),(20,.d (dSs [s0])),(21,.d (.int .i64 1)),(22,.d (.int .i64 k))]) (λk=>[(4,.var zI),(6,.var (.d (dI (if k=0 then pt ((0:Int):Rat) else eV))))]) (λk=>k<=1) (λk=>1-k) 0 [] rfl (W0z _) λk hk=>?_
 refine By rfl (λh=>?_) λh=>?_
 . have h:(k:Int)<1:=h
   obtain rfl:k=0:=by omega
   refine Ix 0 rfl (u:=dSe s0) rfl ?_
   refine Ce rfl Xsh ?_
   refine No rfl (by decide) ?_
   refine Dw rfl ?_
   refine Ce rfl (Xfq (x:=2) (bits:=138) (by decide +kernel) (by decide)) ?_
   refine Ce rfl (Xfg (s:=64) (p:=pt 2) (q:=rV) (by decide +kernel) h5 (by decide)) ?_
   refine Ce rfl (Xfh (s:=64) (p:=pt ((0:Int):Rat)) (by decide +kernel) (Xcb (s:=64) (p:=pt 2) (by decide +kernel) h5) (by decide)) ?_
   refine Ar (0+1:Nat) rfl ?_
   exact Bk (0+1) [] rfl (by decide) (by decide)
 . have h:¬(k:Int)<1:=h
   obtain rfl:k=1:=by omega
   exact R0t
theorem Yin: ∀i,i<=130->Qs 200 (hp i):=λi hi=>Yim i (by omega)
theorem Ymp: eV.2-eV.1<=hp 130:=by decide +kernel
theorem Xgx: C0 59 [.d (dAr n00 [s0]),.d (.int .i64 130)] (·=.tup (.pr (.d (dI eV)) (.d (.int .i64 0)))):=by
 have hq:=Yi7
 refine En Tryz.func59 λ_ _ _=>?_
 refine No rfl (by decide) ?_
 refine No rfl (by decide) ?_
 refine Ce rfl (Xat (z:=1) (by decide)) ?_
 refine Lo (λi:Nat=>[(1,.d (.int .i64 130)),(2,.ptr 2 0),(4,.ptr 4 0),(6,.ptr 6 0),(18,.d (.int .i64 130)),(19,.d (.int .i64 i))]) (λi=>[(2,.var (.d (dAr n00 [s0]))),(4,.var zI),(6,.var (.d (dq (hp i))))]) (λi=>i<=130) (λi=>130-i) 0 [] rfl (W0z _) (λi hi=>?_)
 refine By rfl (λh=>?_) λh=>?_
 . refine Dw rfl ?_
   refine Ce rfl (Xcf (a:=1) (b:=2) (by decide) (by decide)) ?_
   refine Ce rfl (Xef (Yin i hi) (Qs.divInt (p:=64) (by decide) (by decide) (by decide)) (by decide)) ?_
   refine Ar (i+1:Nat) rfl ?_
   exact Bk (i+1) [] rfl (show i+1<=130 by omega) (by show 130-(i+1)<130-i;omega)
 . obtain rfl:i=130:=by omega
   refine Ar (138:Nat) rfl ?_ (wr rfl (by simp only[inK];omega))
   refine Mm (138:Nat) rfl ?_ rfl
   refine Lo (λ_:Unit=>[(2,.ptr 2 0),(4,.ptr 4 0),(6,.ptr 6 0),(7,.d (.int .i64 138))]) (λ_=>[(2,.var (.d (dAr n00 [s0]))),(4,.var zI),(6,.var (.d (dq (hp 130))))]) (λ_=>True) (λ_=>0) () [] rfl trivial (λ_ _=>?_)
   refine Ce rfl Xxb ?_
   refine No rfl (by decide) ?_
   refine Dw rfl ?_
   refine Ce rfl (Xga (p:=eV) hq (by decide)) ?_
   have qw:Qs 2001 (eV.2-eV.1):=by rw[W6a];exact hq.2.add hq.1.neg
   refine Ce rfl (Xbt qw (Yin 130 (by decide)) (by decide)) ?_
   refine Yes rfl (by rw[Xlh];exact Rat.not_lt.2 Ymp) ?_
   exact R0t
def mV: Rat:=(eV.1+eV.2)*hf2
theorem Yh3: Qs 1700 mV:=by decide +kernel
theorem Yh2: P11.RndOf (nr mV) 5 314159:=P11.rnd_at (by decide +kernel) (by decide +kernel)
theorem Yhe: txt 314159 5=[51,46,49,52,49,53,57]:=P11.txt_at [51,49,52,49,53,57] rfl (Yod.1 rfl)
theorem Xi2: C0 21 [.d (dAr n00 [s0]),.d (.int .i64 5)] (·=.tup (.pr (.d (.str [51,46,49,52,49,53,57])) (.d (.int .i64 0)))):=by
 have hq:=Yi7
 have hH:=P11.Pk_rat Yh3 (by decide)
 have hf:C0 58 [.d (dN (nr mV)),.d (.int .i64 5)] (·=.tup (.pr (.d (.str [51,46,49,52,49,53,57])) (.d (.int .i64 0)))):=(P11.dFmt_ok hH (by decide)).mono λv ⟨w,hw,_,hv⟩=>by
  obtain rfl:=Xdh.uniq hH.re hw Yh2
  rw[hv,P11.fmtV,Yhe,if_pos (by decide)]
 refine En Tryz.func21 λ_ _ _=>?_
 refine No rfl (by decide) ?_
 refine No rfl (by decide) ?_
 refine No rfl (by decide) ?_
 refine Ce rfl Xgx ?_
 refine No rfl (by decide) ?_
 refine Ce rfl (Xdy hq.1 hq.2 (by decide)) ?_
 refine Ce rfl (Xcf (a:=1) (b:=2) (by decide) (by decide)) ?_
 refine Ce rfl (Xef (p:=2001) (q:=64) (hq.1.add hq.2) Xqt (by decide)) ?_
 refine Ce rfl (P9.FromRat_ok (q:=mV) Yh3 (by decide)) ?_
 refine Ce rfl hf ?_
 exact R0t
theorem Xiz{i j:Int}(hi:-9223372036854775808<=i/\i<9223372036854775808)(hj:-9223372036854775808<=j/\j<9223372036854775808): C0 15 [.d (.int .i64 i),.d (.int .i64 j)] (·=.d (dV (v0 ((i:Rat),(j:Rat))))):=R13.Whole_ok hi hj
theorem Of0: C0 17 [.d (dV (v0 (((1:Int):Rat),((0:Int):Rat)))),.d (dV (v0 (((0:Int):Rat),((1:Int):Rat))))] (·=.tup (.pr (.d (dT (v0 (0,1)) 0)) (.d (.int .i64 0)))):=(Yof W0 (gv0 (s:=64) (by decide +kernel)) (gv0 (s:=64) (by decide +kernel)) (by decide)).mono λr hr=>by
 rcases hr with ⟨_,v,rfl,hv⟩ | ⟨h,_⟩
 . exact(congrArg (λw=>AV.tup (.pr (.d (dT w 0)) (.d (.int .i64 0)))) (Xk8 hv)).trans (congrArg (λq:Rat×Rat=>AV.tup (.pr (.d (dT (v0 q) 0)) (.d (.int .i64 0)))) (W3j (by decide +kernel) (by decide +kernel)))
 . rcases h with h | h
   . exact absurd (congrArg Prod.fst h) (show ¬((1:Int):Rat)=0 by decide +kernel)
   . exact absurd (congrArg Prod.snd h) (show ¬((1:Int):Rat)=0 by decide +kernel)
theorem fl0: ¬((0:Int)=0/\Xcu (K:=0) () (((0:Rat),(1:Rat)):V2 0)):=λh=>absurd h.2.1 (show ¬Xi5 1=0 by decide +kernel)
theorem Yfn: C0 18 [.d (dN (nr ((4:Int):Rat))),.d (dT (v0 (0,1)) 0)] (·=.tup (.pr (.d (dAr n00 [s0])) (.d (.int .i64 0)))):=(Xlp W0 W0 (g0 (s:=64) (by decide +kernel)) (gv0 (s:=64) (by decide +kernel)) (by decide) (by decide)).mono λr hr=>by
 rcases hr with ⟨h,_⟩ | ⟨_,h,_⟩ | ⟨_,_,z,rfl,hz⟩
 . exact absurd (show Xi5 ((4:Int):Rat)>0 by decide +kernel) h
 . exact absurd h fl0
 . rw[zw hz.o,show Tow.mul 0 () ((4:Int):Rat) (Tow.rat 0 hf2)=(2:Rat) from(show ((4:Int):Rat)*hf2=2 by decide +kernel)]
def q0: List (Rat×Rat):=[(((0:Int):Rat),((0:Int):Rat)),(((3:Int):Rat),((0:Int):Rat)),(((3:Int):Rat),((2:Int):Rat)),(((0:Int):Rat),((2:Int):Rat))]
theorem Ylr: ∀p∈q0,Qp 64 p:=by decide +kernel
theorem Yaa: C0 20 [.d (dVs (q0.map v0))] (·=.tup (.pr (.d (dAr (nr 6) [])) (.d (.int .i64 0)))):=(Xi0 (n:=1) (g:=λi=>q0.getD i (0,0)) W0 (λi v h=>by
 obtain⟨p,hp,rfl⟩:=W1p .. ▸ h |> Option.map_eq_some_iff.1
 rw[W2l,hp]
 exact gv0 (Ylr p (W0f hp))) (by decide) (by decide) (by decide)).mono λr ⟨z,e,hz⟩=>by
 rw[e,zw hz.o]
 exact congrArg (λx=>AV.tup (.pr (.d (dAr (nr x) [])) (.d (.int .i64 0)))) (show (show Rat from Tow.mul 0 () (pgn (K:=0) () (λi=>q0.getD i (0,0)) 4) (Tow.rat 0 hf2))=6 by decide +kernel)
abbrev s1: Sn:=⟨nr 2,v0 (-1,0),0⟩
theorem vm1: Xe2 (K:=0) () (((0:Rat),(1:Rat)):V2 0) ((0:Rat),(1:Rat))=(((-1:Rat),(0:Rat)):V2 0):=W3j (by decide +kernel) (by decide +kernel)
theorem va1: Xgi (K:=0) () (((0:Rat),(1:Rat)):V2 0) ((0:Rat),(1:Rat)) 0 0=0:=by decide +kernel
theorem Ype: C0 7 [.d (dAr n00 [s0]),.d (dAr n00 [s0])] (·=.tup (.pr (.d (dAr n00 [s1])) (.d (.int .i64 0)))):=by
 have h0:Gd (K:=0) () ([]:List (Tow.El 0)) [] 1 n00 ((0:Int):Rat):=g0 (s:=64) (by decide +kernel)
 have h2:Gd (K:=0) () ([]:List (Tow.El 0)) [] 1 (nr 2) (2:Rat):=g0 (s:=64) (by decide +kernel)
 have hv:=gv0 (s:=64) (p:=(0,1)) (by decide +kernel)
 refine(Ykg W0 h0 h0 (by decide) (by decide) h2 h2 hv hv (by decide) (by decide) (f:=0) (g:=0) (lim.few (by decide)) (lim.few (by decide)) (Eq.mpr (congrArg lim va1) (by decide)) (λh=>absurd (show Xi5 (-1)>0 from(Eq.mp (congrArg (λp:V2 0=>Xcu (K:=0) () p) vm1) h.2).2) (by decide +kernel))).mono λr ⟨z,w,e,hz,hw⟩=>?_
 have hw':=Eq.mp (congrArg (λp:V2 0=>Gv (K:=0) () ([]:List (Tow.El 0)) [] _ w p) vm1) hw
 obtain rfl:=Xk8 hw'
 obtain rfl:=zw hz.o
 have F:∀ {q q':Rat} {f f':Int},q=q'->f=f'->AV.tup (.pr (.d (dAr (nr q) [⟨nr 2,v0 (-1,0),f⟩])) (.d (.int .i64 0)))=AV.tup (.pr (.d (dAr (nr q') [⟨nr 2,v0 (-1,0),f'⟩])) (.d (.int .i64 0))):=λh1 h2=>by rw[h1,h2]
 exact e.trans (F (show ((0:Int):Rat)+((0:Int):Rat)=((0:Int):Rat) by decide +kernel) va1)
theorem Ym7: C0 23 [.d (dT (v0 (-1,0)) 0),.d (dT (v0 (((-1:Int):Rat),((0:Int):Rat))) 0)] (·=.b true):=by
 have hv:=gv0 (s:=64) (p:=(-1,0)) (by decide +kernel)
 have hu:=gv0 (s:=64) (p:=(((-1:Int):Rat),((0:Int):Rat))) (by decide +kernel)
 refine(R19.Same_g W0 hv hu (by decide)).mono λr hr=>hr.trans (congrArg AV.b (Xah.2 ?_))
 have hz:∀ {p:V2 0},p.1=(-1:Rat)->p≠vz 0:=λe h=>absurd (e.symm.trans (congrArg Prod.fst h)) (show ¬(-1:Rat)=0 by decide +kernel)
 exact⟨⟨hz rfl,by decide⟩,⟨hz (show ((-1:Int):Rat)=(-1:Rat) by decide +kernel),by decide⟩,by decide +kernel⟩
theorem Xz3: C0 5 [] (·=.b true):=by
 refine En Tryz.func5 λ_ _ _=>?_
 refine Ce rfl (Xiz (i:=1) (j:=0) (by decide) (by decide)) ?_
 refine Ce rfl (Xiz (i:=0) (j:=1) (by decide) (by decide)) ?_
 refine Ce rfl Of0 ?_
 refine Dw rfl ?_
 refine Ce rfl (R9.FromInt_ok (z:=4) (by decide)) ?_
 refine Ce rfl Yfn ?_
 refine Ce rfl Ype ?_
 refine Ce rfl (Xiz (i:=0) (j:=0) (by decide) (by decide)) ?_
 refine Ce rfl (Xiz (i:=3) (j:=0) (by decide) (by decide)) ?_
 refine Ce rfl (Xiz (i:=3) (j:=2) (by decide) (by decide)) ?_
 refine Ce rfl (Xiz (i:=0) (j:=2) (by decide) (by decide)) ?_
 refine Ce rfl Yaa ?_
 refine Ce rfl Xi2 ?_
 refine No rfl (by decide) ?_
 refine No rfl (by decide) ?_
 refine No rfl (by decide) ?_
 refine No rfl (by decide) ?_
 refine No rfl (by decide) ?_
 refine No rfl (by decide) ?_
 refine Dw rfl ?_
 refine Ce rfl (R9.FromInt_ok (z:=6) (by decide)) ?_
 refine Ce rfl ((R9.Equal_g W0 (g0 (s:=64) (q:=6) (by decide +kernel)) (g0 (s:=64) (q:=((6:Int):Rat)) (by decide +kernel)) (by decide) (by decide)).mono λr hr=>hr.trans (congrArg AV.b (Xah.2 (show (6:Rat)=((6:Int):Rat) by decide +kernel)))) ?_
 refine Yes rfl rfl ?_
 refine Yes rfl (by decide) ?_
 refine Yes rfl (by decide) ?_
 refine Ix 0 rfl (u:=dSe s1) rfl ?_
 refine Ce rfl (R9.FromInt_ok (z:=2) (by decide)) ?_
 refine Ce rfl ((R9.Equal_g W0 (g0 (s:=64) (q:=2) (by decide +kernel)) (g0 (s:=64) (q:=((2:Int):Rat)) (by decide +kernel)) (by decide) (by decide)).mono λr hr=>hr.trans (congrArg AV.b (Xah.2 (show (2:Rat)=((2:Int):Rat) by decide +kernel)))) ?_
 refine Yes rfl rfl ?_
 refine Ix 0 rfl (u:=dSe s1) rfl ?_
 refine Ce rfl (Xiz (i:=-1) (j:=0) (by decide) (by decide)) ?_
 refine Ce rfl Ym7 ?_
 exact R0
end
section
open Go.Proofs.YtfjafaehfjjaiaaGreatDoor.P55 (v0 W0 g0 gv0 zw Xk8 Qp)
section
variable{K:Nat}{G:Tw K}{S:List (Tow.El K)}{N:List Nm}{n m k:Nat}{x y z:Nm}{a b:Tow.El K}
variable{K':Nat}{G':Tw K'}{S':List (Tow.El K')}{N':List Nm}{u s:Vn}{p q:V2 K'}{f g:Int}
theorem Yht(W:Wn G S N): Gd G S N 1 n00 (Tow.rat K ((0:Int):Rat)):=Gd.rat W (by decide +kernel)
end
end
section
open Go.Proofs.YtfjafaehfjjaiaaGreatDoor.P55 (v0 W0 g0 gv0 zw Xk8 Qp)
section
variable{K:Nat}{G:Tw K}{S:List (Tow.El K)}{N:List Nm}{n m k:Nat}{x y z c c':Nm}{a b e:Tow.El K}{u v w s t:Vn}{p q r:V2 K}{f g:Int}
end
end
end Go.Proofs.YtfjafaehfjjaiaaGreatDoor.P20
namespace Go.Proofs.YtfjafaehfjjaiaaGreatDoor.R20
open Go Go.Vm Go.Num Go.Tow Go.Proofs.YtfjafaehfjjaiaaGreatDoor Go.Proofs.YtfjafaehfjjaiaaGreatDoor.P20
def SG{K:Nat}(G:Tw K)(S:List (Tow.El K))(N:List Nm)(U:Nat)(s:Sn): Prop:=(∃a,Gd G S N 9 s.c a)/\(∃p,Gv G S N U s.v p)/\few s.f
def ptV: Option (List Sn)->AV
 | none=>.lit 7 []
 | some w=>.own 600 7 0 (w.map dSe).length
def ptH: Option (List Sn)->Hpl
 | none=>[]
 | some w=>[(600,.arr 7 (w.map dSe))]
def ptW: Option (List Sn)->List Sn
 | none=>[]
 | some w=>w
section
variable{K:Nat}{G:Tw K}{S:List (Tow.El K)}{N:List Nm}{U:Nat}
def PtG(G:Tw K)(S:List (Tow.El K))(N:List Nm)(U n:Nat)(r:AV): Prop:=(∃e:Int,e≠0/\r=.tup (.pr (.d (dSs [])) (.d (.int .i64 e))))\/∃l,r=.tup (.pr (.d (dSs l)) (.d (.int .i64 0)))/\l.length<=n/\∀s∈l,SG G S N U s
theorem Xcq(l:List Sn): (l.map dSe).length=l.length:=W0i ..
variable{n m:Nat}{x y z:Nm}{a b:Tow.El K}
end
abbrev dCb(ops:List RO)(at':List (Fin 256))(ts:List Int): D:=.st (.pr (dPl ops at') (.sl 1 (ts.map λz=>.int .i64 z)))
abbrev dAa(a b:List D)(L:List Sn): D:=.st (.pr (.st (.pr (.sl 1 a) (.sl 4 b))) (dSs L))
theorem Ycr{ts:List Int}{k:Nat}{z:Int}(h:ts[k]?=some z): (ts.map λz=>(D.int .i64 z:D))[k]?=some (.int .i64 z):=by rw[W1p,h];rfl
end Go.Proofs.YtfjafaehfjjaiaaGreatDoor.R20
namespace Go.Proofs.YtfjafaehfjjaiaaGreatDoor
open Go Go.Vm Go.Num
theorem Xrt{t:TypeId}(ht:Tryz.prog.underlying t=some (.slice 3)): Reads Tryz.prog t λd=>∃ts:List Int,d=.sl 1 (ts.map λz=>.int .i64 z)/\ts.length<9223372036854775808/\∀z∈ts,-9223372036854775808<=z/\z<9223372036854775808 :=
 (Xfd ht (Xt5 Tryz.underlying3) (sz:=1) (by kernel_rfl) (by decide)).mono λd ⟨l,e,hl,h⟩=>by
  obtain⟨m,hm⟩:=Yl3 (f:=λn:{n:Int // -9223372036854775808<=n/\n<9223372036854775808}=>(D.int .i64 n.val:D)) λy hy=>let ⟨n,e,h1,h2⟩:=h y hy;⟨⟨n,h1,h2⟩,e⟩
  refine⟨m.map (·.val),by rw[e,hm,List.map_map];rfl,by rw[W0i];rw[hm,W0i] at hl;exact hl,λz hz=>?_⟩
  obtain⟨x,_,rfl⟩:=W2y.1 hz
  exact x.2
theorem Xyl: Reads Tryz.prog 29 λd=>∃ops l ts,d=R20.dCb ops l ts/\ts.length<9223372036854775808/\∀z∈ts,-9223372036854775808<=z/\z<9223372036854775808 :=
 (Xed Tryz.underlying29 (.cons (n:=2) rfl Xru (by kernel_rfl) (.one rfl (Xrt Tryz.underlying27))) (λf hf=>by cases hf;kernel_rfl)).mono λd hd=>by
  obtain⟨_,rfl,_,_,rfl,⟨ops,l,rfl⟩,⟨ts,rfl,h1,h2⟩⟩:=hd
  exact⟨ops,l,ts,rfl,h1,h2⟩
theorem Ycd: Arg Tryz.prog 29 λd=>∃ops l ts,d=R20.dCb ops l ts/\ts.length<9223372036854775808/\∀z∈ts,-9223372036854775808<=z/\z<9223372036854775808:=Xse Tryz.underlying29 Xyl λx ⟨_,_,_,e,_⟩=>by rw[e];rfl
end Go.Proofs.YtfjafaehfjjaiaaGreatDoor
namespace Go.Vm
open Go
section
variable{c:Cx}{s:St}{p:Pl}
end
section
variable{c:Cx}{s:St}{p:Pl}
end
end Go.Vm
namespace Go.Proofs.YtfjafaehfjjaiaaGreatDoor.P9
open Go Go.Vm Go.Num Go.Tow Go.Proofs.YtfjafaehfjjaiaaGreatDoor
open Go Go.Vm Go.Num Go.Tow Go.Proofs.YtfjafaehfjjaiaaGreatDoor
section
variable{K:Nat}{G:Tw K}{S:List (Tow.El K)}{r p:Nat}{x:Nm}{v:Tow.El K}
end
end Go.Proofs.YtfjafaehfjjaiaaGreatDoor.P9
namespace Go.Proofs.YtfjafaehfjjaiaaGreatDoor.P19
open Go Go.Vm Go.Num Go.Tow Go.Proofs.YtfjafaehfjjaiaaGreatDoor
section
variable{K:Nat}{G:Tw K}{S:List (Tow.El K)}{N:List Nm}{n m:Nat}{x:Nm}{a:Tow.El K}{u s:Vn}{p q:V2 K}{f g:Int}
end
end Go.Proofs.YtfjafaehfjjaiaaGreatDoor.P19
namespace Go.Tow
open Go Go.Proofs.YtfjafaehfjjaiaaGreatDoor Go.Num
section
section
variable{K:Nat}{G:Tw K}{p q u:V2 K}{a b c:El K}{f g:Int}
def clt(G:Tw K)(a b:El K): Prop:=sgn K G (add K a (neg K b))<0
theorem Xrb(hG:red K G)(h:0<sgn K G (add K a (neg K b))): clt G b a:=by
 have Sg:=Xau (Xad hG)
 have L:=Xaz K G
 have e:add K b (neg K a)=neg K (add K a (neg K b)):=(Laws.req L [a,b] (.add (.v 1) (.neg (.v 0))) (.neg (.add (.v 0) (.neg (.v 1)))) (by decide +kernel))
 unfold clt
 rw[e,Sg.sn]
 omega
theorem Xm6(hG:red K G)(h1:clt G a b)(h2:clt G b c): clt G a c:=by
 have Sg:=Xau (Xad hG)
 have L:=Xaz K G
 have h:∀ {x y:El K},clt G x y->sgn K G (add K y (neg K x))=1:=λ{x y} hh=>by
  have e:add K y (neg K x)=neg K (add K x (neg K y)):=(Laws.req L [x,y] (.add (.v 1) (.neg (.v 0))) (.neg (.add (.v 0) (.neg (.v 1)))) (by decide +kernel))
  have t:=Sg.tri (add K x (neg K y))
  unfold clt at hh
  rw[e,Sg.sn]
  omega
 have e:add K c (neg K a)=add K (add K c (neg K b)) (add K b (neg K a)):=(Laws.req L [a,b,c] (.add (.v 2) (.neg (.v 0))) (.add (.add (.v 2) (.neg (.v 1))) (.add (.v 1) (.neg (.v 0)))) (by decide +kernel))
 have h3:=Sg.sp _ _ (h h2) (by rw[h h1];decide)
 rw[<-e] at h3
 exact Xrb hG (by rw[h3];decide)
theorem Yjj(hG:red K G)(h:sgn K G (add K a (neg K b))=0): a=b:=by
 have L:=Xaz K G
 have h:=(Xbh hG).1 h
 have e:a=add K (add K a (neg K b)) b:=(Laws.req L [a,b] (.v 0) (.add (.add (.v 0) (.neg (.v 1))) (.v 1)) (by decide +kernel))
 rw[e,h,L.za]
end
end
section
abbrev Tr(K:Nat):=El K×V2 K×Int
section
variable{K:Nat}{G:Tw K}{s t z:Tr K}{l m X Y A B:List (Tr K)}{a b c:El K}
def tz(G:Tw K)(t:Tr K): Prop:=t.2.2=0/\Xcu G t.2.1
def Xlr(G:Tw K)(s t:Tr K): Tr K:=(t.1,Xe2 G s.2.1 t.2.1,Xgi G s.2.1 t.2.1 s.2.2 t.2.2)
open Classical in
noncomputable def Xk5(G:Tw K)(t:Tr K): List (Tr K)->List (Tr K)
 | []=>[t]
 | s::l=>if clt G s.1 t.1 then s::Xk5 G t l else if s.1=t.1 then (if tz G (Xlr G s t) then l else Xlr G s t::l) else t::s::l
noncomputable def mgV(G:Tw K)(X Y:List (Tr K)): List (Tr K):=Y.foldl (λl t=>Xk5 G t l) X
abbrev Srt(G:Tw K)(l:List (Tr K)): Prop:=l.Pairwise λs t=>clt G s.1 t.1
theorem Xli(hG:red K G): ¬clt G a a:=λh=>by
 unfold clt at h
 rw[(Xaz K G).an,(Xbh hG).2 rfl] at h
 cases h
theorem Yjh(hG:red K G)(h:clt G a b): a≠b:=λe=>by subst e;exact Xli hG h
open Classical in
theorem Xvl(h:∀z∈A,clt G z.1 t.1): Xk5 G t (A++B)=A++Xk5 G t B:=by
 induction A with
 | nil=>rfl
 | cons s A ih =>
  show (if clt G s.1 t.1 then s::Xk5 G t (A++B) else _)=_
  rw[if_pos (h s (W0l ..)),ih λz hz=>h z (W0p _ hz)]
  rfl
open Classical in
theorem Xvm(hG:red K G)(h:s.1=t.1)(h0:¬tz G (Xlr G s t)): Xk5 G t (s::B)=Xlr G s t::B:=by
 show (if clt G s.1 t.1 then _ else if s.1=t.1 then _ else _)=_
 rw[if_neg (by rw[h];exact Xli hG),if_pos h,if_neg h0]
open Classical in
theorem Xr2(hG:red K G)(h:s.1=t.1)(h0:tz G (Xlr G s t)): Xk5 G t (s::B)=B:=by
 show (if clt G s.1 t.1 then _ else if s.1=t.1 then _ else _)=_
 rw[if_neg (by rw[h];exact Xli hG),if_pos h,if_pos h0]
open Classical in
theorem Yea(hG:red K G)(h:∀s∈B,clt G t.1 s.1): Xk5 G t B=t::B:=by
 rcases B with _ | ⟨s,B⟩
 . rfl
 . have h1:=h s (W0l ..)
   show (if clt G s.1 t.1 then _ else if s.1=t.1 then _ else _)=_
   rw[if_neg λe=>Xli hG (Xm6 hG h1 e),if_neg λe=>Yjh hG h1 e.symm]
open Classical in
theorem Yd0(h:z∈Xk5 G t l): z∈l\/z=t\/∃s∈l,s.1=t.1/\z=Xlr G s t/\¬tz G z:=by
 induction l with
 | nil=>exact .inr (.inl (W0h.1 h))
 | cons s l ih =>
  have h:z∈(if clt G s.1 t.1 then s::Xk5 G t l else if s.1=t.1 then (if tz G (Xlr G s t) then l else Xlr G s t::l) else t::s::l):=h
  split at h
  . rcases W1j.1 h with rfl | h
    . exact .inl (W0l ..)
    . rcases ih h with h | h | ⟨u,h1,h2⟩
      . exact .inl (W0p _ h)
      . exact .inr (.inl h)
      . exact .inr (.inr ⟨u,W0p _ h1,h2⟩)
  . split at h
    . rename_i he
      split at h
      . exact .inl (W0p _ h)
      . rename_i hz
        rcases W1j.1 h with rfl | h
        . exact .inr (.inr ⟨s,W0l ..,he,rfl,hz⟩)
        . exact .inl (W0p _ h)
    . rcases W1j.1 h with h | h
      . exact .inr (.inl h)
      . exact .inl h
open Classical in
noncomputable def lk(a:El K): List (Tr K)->Option (Tr K)
 | []=>none
 | s::l=>if s.1=a then some s else lk a l
open Classical in
noncomputable def ent(G:Tw K): Option (Tr K)->Option (Tr K)->Option (Tr K)
 | x,none=>x
 | none,some t=>some t
 | some s,some t=>if tz G (Xlr G s t) then none else some (Xlr G s t)
def Bf(n:Nat)(l:List (Tr K)): Prop:=∀s∈l,-(n:Int)<=s.2.2/\s.2.2<=n
theorem Xsu{p q:V2 K}{f g:Int}{n m:Nat}(hf:-(n:Int)<=f/\f<=n)(hg:-(m:Int)<=g/\g<=m): -((n+m+1:Nat):Int)<=Xgi G p q f g/\Xgi G p q f g<=((n+m+1:Nat):Int):=by
 unfold Xgi
 split<;>omega
theorem Bf.ins{n m:Nat}(h:Bf n l)(ht:-(m:Int)<=t.2.2/\t.2.2<=m): Bf (n+m+1) (Xk5 G t l):=λz hz=>by
 rcases Yd0 hz with hz | rfl | ⟨s,h1,h2,rfl,_⟩
 . have:=h z hz;omega
 . omega
 . exact Xsu (h s h1) ht
theorem Bf.mono{n m:Nat}(h:Bf n l)(hm:n<=m): Bf m l:=λs hs=>by have:=h s hs;omega
end
end
open Go Go.Num Go.Proofs.YtfjafaehfjjaiaaGreatDoor
variable{K:Nat}{G:Tw K}{S:List (El K)}{N:List Nm}{n m b c R:Nat}{p q:V2 K}
def Gp(G:Tw K)(S:List (El K))(N:List Nm)(b:Nat)(p:V2 K): Prop:=∀(m:Nat) (T:Tw m) (ρ:Nat->El K),Fl G S N m T ρ->∃a c:El m,ev G ρ m a=p.1/\ev G ρ m c=p.2/\Sz b (toL m a++toL m c)
theorem Gp.mono(h:Gp G S N b p)(hb:b<=c): Gp G S N c p:=λm T ρ hF=>let ⟨a,c,h1,h2,h3⟩:=h m T ρ hF;⟨a,c,h1,h2,h3.mono hb⟩
theorem Gp.fst(h:Gp G S N b p): Gs G S N b p.1:=λm T ρ hF=>let ⟨a,c,h1,h2,h3⟩:=h m T ρ hF;⟨a,h1,h3.left⟩
theorem Gp.snd(h:Gp G S N b p): Gs G S N b p.2:=λm T ρ hF=>let ⟨a,c,h1,h2,h3⟩:=h m T ρ hF;⟨c,h2,h3.right⟩
theorem Gp.of(h:Gs G S N b p.1)(k:Gs G S N c p.2): Gp G S N (b+c) p:=λm T ρ hF=>by
 obtain⟨x,h1,h2⟩:=h m T ρ hF
 obtain⟨y,k1,k2⟩:=k m T ρ hF
 exact⟨x,y,h1,k1,h2.append k2⟩
theorem Gp.con(h:Gp G S N b p): Gp G S N b (Xnm p):=λm T ρ hF=>by
 obtain⟨x,y,h1,h2,d,d0,d1,d2⟩:=h m T ρ hF
 exact⟨x,Tow.neg m y,h1,by rw[Xd5,h2];rfl,d,d0,d1,by rw[Xb6];exact d2.left.append d2.right.neg⟩
theorem Gp.mul{f:Fg}(W:Wy f G S)(h:Gp G S N b p)(k:Gp G S N c q): Gp G S N (b+c+cB f.R f.H+1) (Xe2 G p q):=λm T ρ hF=>by
 obtain⟨x,y,h1,h2,d,d0,d1,d2⟩:=h m T ρ hF
 obtain⟨u,v,k1,k2,e,e0,e1,e2⟩:=k m T ρ hF
 obtain⟨E,E0,E1,E2⟩:=Xie (W.t hF.1)
 have hC:=Xe4 (r:=f.R) (W.le hF.1)
 have P:∀s t:El m,IsD d (2^b) (toL m s)->IsD e (2^c) (toL m t)->IsD (d*e*E) (2^(b+c+cB f.R f.H)) (toL m (Tow.mul m T s t)):=λs t hs ht=>(E2 s t d e _ _ d0 e0 hs ht).mono (by
  rw[<-W0x,<-W0x];exact W0m (by decide) (by omega))
 have A:∀s t:El m,IsD (d*e*E) (2^(b+c+cB f.R f.H)) (toL m s)->IsD (d*e*E) (2^(b+c+cB f.R f.H)) (toL m t)->IsD (d*e*E) (2^(b+c+cB f.R f.H+1)) (toL m (Tow.add m s t)):=λs t hs ht=>by
  rw[Xav]
  exact(hs.add ht).mono (by rw[W0y];omega)
 refine⟨Tow.add m (Tow.mul m T x u) (Tow.neg m (Tow.mul m T y v)),Tow.add m (Tow.mul m T x v) (Tow.mul m T y u),?_,?_,d*e*E,W1m (W1m d0 e0) E0,?_,?_⟩
 . rw[Xct,Xd5,Xa4 hF.1.h,Xa4 hF.1.h,h1,h2,k1,k2];rfl
 . rw[Xct,Xa4 hF.1.h,Xa4 hF.1.h,h1,h2,k1,k2];rfl
 . have h3:=W3i d1 e1
   have h4:d*e*E<2^b*2^c*2^cB f.R m:=W0v (W3c h3 E0) (W0t _ E1)
   rw[<-W0x,<-W0x] at h4
   exact W0v h4 (W0m (by decide) (by omega))
 . exact(A _ _ (P _ _ d2.left e2.left) (by rw[Xb6];exact(P _ _ d2.right e2.right).neg)).append (A _ _ (P _ _ d2.left e2.right) (P _ _ d2.right e2.left))
end Go.Tow
namespace Go.Proofs.YtfjafaehfjjaiaaGreatDoor
open Go Go.Vm Go.Num Go.Tow
section
variable{K:Nat}{G:Tw K}{S:List (Tow.El K)}{N:List Nm}{n m k:Nat}{u:Vn}{p q:V2 K}
structure Gq {K:Nat} (G:Tw K) (S:List (Tow.El K)) (N:List Nm) (n:Nat) (u:Vn) (p:V2 K):Prop where
 v:Gv G S N n u p
 g:Gp G S N (gB n) p
theorem Gq.mono(h:Gq G S N n u p)(hm:n<=m): Gq G S N m u p:=⟨h.v.mono hm,h.g.mono (Yeh hm)⟩
theorem Gv.re(W:Wn G S N)(h:Gv G S N k u p)(hg:Gp G S N (gB n) p)(hn:1<=n): Gq G S N n u p:=⟨⟨⟨h.x.o.re W.w W.h hg.fst,hg.fst,hn⟩,⟨h.y.o.re W.w W.h hg.snd,hg.snd,hn⟩⟩,hg⟩
theorem Gv.two(W:Wn G S N)(h:Gv G S N n u p): Gq G S N (n+n) u p:=h.re W ((Gp.of h.x.g h.y.g).mono (by unfold gB;omega)) (by have:=h.x.n;omega)
theorem Gq.mul(W:Wn G S N){s w:Vn}(h:Gq G S N n u p)(h2:Gq G S N m s q)(hw:Gv G S N k w (Xe2 G p q)): Gq G S N (n+m) w (Xe2 G p q):=by
 have h1:=h.v.x.n
 have h3:=h2.v.x.n
 exact hw.re W ((Gp.mul W.w h.g h2.g).mono (by rw[fC];unfold gB;omega)) (by omega)
end
end Go.Proofs.YtfjafaehfjjaiaaGreatDoor
namespace Go.Proofs.YtfjafaehfjjaiaaGreatDoor.R20
open Go Go.Vm Go.Num Go.Tow Go.Proofs.YtfjafaehfjjaiaaGreatDoor Go.Proofs.YtfjafaehfjjaiaaGreatDoor.P20
structure SV (K:Nat) where
 s:Sn
 a:Tow.El K
 p:V2 K
structure SM {K:Nat} (G:Tw K) (S:List (Tow.El K)) (N:List Nm) (U:Nat) (x:SV K):Prop where
 c:Gd G S N 9 x.s.c x.a
 pos:0<sgn K G x.a
 v:Gq G S N U x.s.v x.p
 ne:x.p≠vz K
 lim:lim x.s.f
structure SN {K:Nat} (G:Tw K) (S:List (Tow.El K)) (N:List Nm) (U:Nat) (x:SV K):Prop extends SM G S N U x where
 nz:¬(x.s.f=0/\Xcu G x.p)
abbrev ls{K:Nat}(L:List (SV K)): List Sn:=L.map (·.s)
structure NF {K:Nat} (G:Tw K) (S:List (Tow.El K)) (N:List Nm) (U:Nat) (L:List (SV K)):Prop where
 m:∀x∈L,SN G S N U x
 o:L.Pairwise λx y=>clt G x.a y.a
section
variable{K:Nat}{G:Tw K}{S:List (Tow.El K)}{N:List Nm}{U:Nat}
theorem SM.mono{U':Nat}{x:SV K}(h:SM G S N U x)(hu:U<=U'): SM G S N U' x:=⟨h.c,h.pos,h.v.mono hu,h.ne,h.lim⟩
theorem SN.mono{U':Nat}{x:SV K}(h:SN G S N U x)(hu:U<=U'): SN G S N U' x:=⟨h.toSM.mono hu,h.nz⟩
theorem NF.mono{U':Nat}{L:List (SV K)}(h:NF G S N U L)(hu:U<=U'): NF G S N U' L:=⟨λx hx=>(h.m x hx).mono hu,h.o⟩
theorem NF.nil: NF G S N U ([]:List (SV K)):=⟨nofun,.nil⟩
theorem NF.app{A m:List (SV K)}(hA:NF G S N U A)(hm:NF G S N U m)(h:∀z∈A,∀y∈m,clt G z.a y.a): NF G S N U (A++m) :=
 ⟨λx hx=>(W1s.1 hx).elim (hA.m x) (hm.m x),List.pairwise_append.2 ⟨hA.o,hm.o,h⟩⟩
theorem NF.cons{x:SV K}{m:List (SV K)}(hx:SN G S N U x)(hm:NF G S N U m)(h:∀y∈m,clt G x.a y.a): NF G S N U (x::m) :=
 ⟨λy hy=>by
  rcases W1j.1 hy with rfl | hy
  . exact hx
  . exact hm.m y hy,List.pairwise_cons.2 ⟨h,hm.o⟩⟩
theorem NF.take{L:List (SV K)}(h:NF G S N U L)(k:Nat): NF G S N U (L.take k):=⟨λx hx=>h.m x (W4e hx),h.o.sublist (List.take_sublist _ _)⟩
theorem NF.drop{L:List (SV K)}(h:NF G S N U L)(k:Nat): NF G S N U (L.drop k):=⟨λx hx=>h.m x (W4f hx),h.o.sublist (List.drop_sublist _ _)⟩
theorem NF.cut{L:List (SV K)}(h:NF G S N U L)(k:Nat): ∀z∈L.take k,∀y∈L.drop k,clt G z.a y.a:=by
 have:=h.o
 rw[<-W4n k L] at this
 exact(List.pairwise_append.1 this).2.2
theorem Xbf(L:List (SV K)): ((ls L).map dSe).length=L.length:=by simp
theorem Xd9{L:List (SV K)}{k:Nat}{x:SV K}(h:L[k]?=some x): ((ls L).map dSe)[k]?=some (dSe x.s):=by simp[h]
abbrev Xb3(L:List (SV K)): List (Tr K):=L.map λy=>(y.a,y.p,y.s.f)
theorem Xdr{L:List (SV K)}{k:Nat}{x:SV K}(h:L[k]?=some x): (Xb3 L)[k]?=some (x.a,x.p,x.s.f):=by simp[h]
theorem NF.srt{L:List (SV K)}(h:NF G S N U L): Srt G (Xb3 L):=List.pairwise_map.2 h.o
def PtV(G:Tw K)(S:List (Tow.El K))(N:List Nm)(U:Nat)(x:SV K)(L:List (SV K))(r:AV): Prop:=∃L',r=.tup (.pr (.d (dSs (ls L'))) (.d (.int .i64 0)))/\L'.length<=L.length+1/\NF G S N U L'/\Xb3 L'=Xk5 G (x.a,x.p,x.s.f) (Xb3 L)
theorem Yls(W:Wn G S N){V:Nat}{L:List (SV K)}{x:SV K}(hU:3*U+2*V<=400)(hL:NF G S N U L)(h3:L.length<=16)(hx:SN G S N V x)(hlm:∀y∈L,y.a=x.a->lim (Xgi G y.p x.p y.s.f x.s.f)): C0 33 [.d (dSs (ls L)),.d (dSe x.s)] (PtV G S N (U+V) x L):=by
 have hG:=W.w.g
 obtain⟨tx,htx⟩:∃tx:Tr K,tx=(x.a,x.p,x.s.f):=⟨_,rfl⟩
 have lm:=Xbf L
 refine En Tryz.func33 λ_ _ _=>?_
 refine Cu (some 1000000) (λk:Nat=>[(0,.d (dSs (ls L))),(3,.ptr 3 0),(6,.d (.int .i64 k))]) (λ_=>[(3,.var (.d (dSe x.s)))]) (λk=>k<=L.length/\(∀y∈L.take k,clt G y.a x.a)/\∀y,L[k]?=some y->¬clt G y.a x.a) rfl ?_ λk ⟨hk,hlt,hge⟩=>?_
 . refine Lo (λk:Nat=>[(0,.d (dSs (ls L))),(3,.ptr 3 0),(6,.d (.int .i64 k))]) (λ_=>[(3,.var (.d (dSe x.s)))]) (λk=>k<=L.length/\∀y∈L.take k,clt G y.a x.a) (λk=>L.length-k) 0 [] rfl ⟨W0z _,nofun⟩ λk ⟨hk,hlt⟩=>?_
   refine Dw rfl ?_
   refine By rfl (λh=>?_) λh=>?_<;>rw[lm] at h
   . obtain⟨y,hy⟩:∃y,L[k]?=some y:=⟨_,W0c (by omega)⟩
     refine Ix k rfl (Xd9 hy) ?_
     refine Ce rfl (Xck W (hL.m y (W0f hy)).c hx.c (by decide) (by decide)) ?_
     refine By rfl (λh2=>?_) λh2=>?_
     . refine Ar (k+1:Nat) rfl ?_
       refine Bk (k+1) [] rfl ⟨by omega,λz hz=>?_⟩ (by show L.length-(k+1)<L.length-k;omega)
       rw[W2d,hy] at hz
       rcases W1s.1 hz with hz | hz
       . exact hlt z hz
       . obtain rfl:=W0h.1 hz
         exact h2
     . exact Jn k [] rfl ⟨hk,hlt,λz hz=>by rw[hy] at hz;cases hz;exact h2⟩
   . exact Jn k [] rfl ⟨hk,hlt,λz hz=>absurd (W0n.1 hz).1 (by omega)⟩
 refine Dp k ((ls (L.drop k)).map dSe) rfl rfl (by rw[lm];exact hk) (by simp) ?_
 refine Cu (some 5) (λc:Bool=>[(0,.d (dSs (ls L))),(3,.ptr 3 0),(6,.d (.int .i64 k)),(7,.d (dSs (ls (L.drop k)))),(43,.b c)]) (λ_=>[(3,.var (.d (dSe x.s)))]) (λc=>(c=true->∃y,L[k]?=some y/\y.a=x.a)/\(¬c=true->∀y,L[k]?=some y->clt G x.a y.a)) rfl ?_ λc ⟨hc1,hc2⟩=>?_
 . refine Dw rfl ?_
   refine By rfl (λh=>?_) λh=>?_<;>rw[Xbf,W1l] at h
   . obtain⟨y,hy⟩:∃y,L[k]?=some y:=⟨_,W0c (by omega)⟩
     have hy0:(L.drop k)[0]?=some y:=by rw[W1y];exact hy
     refine Ix 0 rfl (Xd9 hy0) ?_
     refine Ce rfl (Xck W (hL.m y (W0f hy)).c hx.c (by decide) (by decide)) ?_
     have hn:=hge y hy
     refine Jn _ [] rfl ⟨λe=>⟨y,hy,?_⟩,λe z hz=>?_⟩
     . have e:sgn K G (Tow.add K y.a (Tow.neg K x.a))=0:=Xah.1 e
       exact Yjj hG e
     . rw[hy] at hz;cases hz
       have e:¬sgn K G (Tow.add K y.a (Tow.neg K x.a))=0:=λh=>e (Xah.2 h)
       refine Xrb hG ?_
       unfold clt at hn
       omega
   . exact Jn false [] rfl ⟨nofun,λ_ z hz=>absurd (W0n.1 hz).1 (by omega)⟩
 have hcut:=hL.cut k
 refine Cu none (λ(y,m)=>[(0,.d (dSs (ls L))),(3,.ptr 3 0),(6,.d (.int .i64 k)),(7,.d (dSs (ls m)))]) (λ((y,m):SV K×List (SV K))=>[(3,.var (.d (dSe y.s)))]) (λ(y,m)=>SM G S N (U+V) y/\y.a=x.a/\m.length+k<=L.length/\NF G S N U m/\(∀z∈m,clt G x.a z.a)/\(∀z∈L.take k,∀w∈m,clt G z.a w.a)/\((y.s.f=0/\Xcu G y.p)->Xk5 G tx (Xb3 (L.drop k))=Xb3 m)/\(¬(y.s.f=0/\Xcu G y.p)->Xk5 G tx (Xb3 (L.drop k))=(y.a,y.p,y.s.f)::Xb3 m)) rfl ?_ λ(y,m) ⟨hy,hya,hml,hm,hxm,hzm,hv0,hv1⟩=>?_
 . refine By rfl (λh=>?_) λh=>?_
   . obtain⟨y,hy,hya⟩:=hc1 h
     have hk1:=(W0n.1 hy).1
     have hy0:(L.drop k)[0]?=some y:=by rw[W1y];exact hy
     have hyS:=hL.m y (W0f hy)
     refine Dw rfl ?_
     refine Ix 0 rfl (Xd9 hy0) ?_
     refine Ca rfl (R19.Add_g W hyS.v.v hx.v.v (by omega) hyS.lim.few hx.lim.few) λr hr=>?_
     rcases hr with ⟨hl',w,rfl,hw⟩ | ⟨hbad,rfl⟩
     . refine No rfl (by decide) ?_
       refine Dw rfl ?_
       refine Dp 1 ((ls (L.drop (k+1))).map dSe) rfl rfl (by rw[Xbf,W1l];omega) (by simp) ?_
       have hd:L.drop k=y::L.drop (k+1):=by rw[<-List.getElem_cons_drop hk1,(W0n.1 hy).2]
       have hD:=hL.drop k
       rw[hd] at hD
       have ht:Xlr G (y.a,y.p,y.s.f) tx=(x.a,Xe2 G y.p x.p,Xgi G y.p x.p y.s.f x.s.f):=by rw[htx];rfl
       have hya':((y.a,y.p,y.s.f):Tr K).1=tx.1:=by rw[htx];exact hya
       exact Jn (⟨⟨x.s.c,w,Xgi G y.p x.p y.s.f x.s.f⟩,x.a,Xe2 G y.p x.p⟩,L.drop (k+1)) [] rfl ⟨⟨hx.c,hx.pos,hyS.v.mul W hx.v hw,Xsq hG hyS.ne hx.ne,hl'⟩,rfl,by rw[W1l];omega,hL.drop (k+1),λz hz=>by rw[<-hya];exact(List.pairwise_cons.1 hD.o).1 z hz,λz hz w hw=>hcut z hz w (by rw[hd];exact W0p _ hw),λh0=>by rw[hd];exact Xr2 hG hya' (by rw[ht];exact h0),λh0=>by rw[hd];exact(Xvm (B:=Xb3 (L.drop (k+1))) hG hya' (by rw[ht];exact h0)).trans (by rw[ht])⟩
     . exact absurd (hlm y (W0f hy) hya) hbad
   . have hall:∀z∈L.drop k,clt G x.a z.a:=λz hz=>by
      obtain⟨y,hy⟩:∃y,L[k]?=some y:=by
       cases h:L[k]? with
       | some y=>exact⟨y,rfl⟩
       | none=>rw[W1z (List.getElem?_eq_none_iff.1 h)] at hz;cases hz
      have h1:=hc2 h y hy
      have hk1:=(W0n.1 hy).1
      have hd:L.drop k=y::L.drop (k+1):=by rw[<-List.getElem_cons_drop hk1,(W0n.1 hy).2]
      have hD:=hL.drop k
      rw[hd] at hD hz
      rcases W1j.1 hz with rfl | hz
      . exact h1
      . exact Xm6 hG h1 ((List.pairwise_cons.1 hD.o).1 z hz)
     exact Jn (x,L.drop k) [] rfl ⟨hx.toSM.mono (by omega),rfl,by rw[W1l];omega,hL.drop k,hall,hcut,λh0=>absurd h0 hx.nz,λ_=>by
      rw[<-htx]
      refine Yea hG λs hs=>?_
      obtain⟨z,hz,rfl⟩:=W2y.1 hs
      rw[htx];exact hall z hz⟩
 refine Cu (some 10) (λo=>[(3,.ptr 3 0),(7,.d (dSs (ls m))),(10,ptV o)]) (λo=>(3,.var (.d (dSe y.s)))::ptH o) (λo=>ptW o=ls (L.take k)/\(o=none↔k=0)) rfl ?_ λo ⟨ho,ho0⟩=>?_
 . refine Tk k ((ls (L.take k)).map dSe) rfl rfl (by rw[lm];exact hk) (by simp) ?_
   by_cases h0:k=0
   . subst h0
     refine Yke rfl rfl (by decide) ?_
     exact Jn none [] rfl ⟨rfl,λ_=>rfl,λ_=>rfl⟩
   . refine Yah ((ls (L.take k)).map dSe) rfl rfl (by rw[Xbf,W0j];omega) (by rw[Xbf,W0j];omega) ?_
     exact Jn (some (ls (L.take k))) [(65,600)] rfl ⟨rfl,nofun,λh=>absurd h h0⟩
 have F:∀ {o sz:Nat} {xs ys:List D} {g:Hp},g o=some (.arr sz xs)->xs=ys->Fit g [] (.own o sz 0 xs.length) (.d (.sl sz ys)):=λh e=>.own h (by omega) (by subst e;rw[W1d,W2j])
 have hT:=(hL.take k).mono (show U<=U+V by omega)
 have hM:=hm.mono (show U<=U+V by omega)
 have hxy:∀z∈m,clt G y.a z.a:=λz hz=>by rw[hya];exact hxm z hz
 have hTy:∀z∈L.take k,clt G z.a y.a:=λz hz=>by rw[hya];exact hlt z hz
 have tl:(L.take k).length=k:=by rw[W0j];omega
 have fin1:∀h:¬(y.s.f=0/\Xcu G y.p),NF G S N (U+V) (L.take k++y::m):=λh=>hT.app (hM.cons ⟨hy,h⟩ hxy) λz hz w hw=>by
  rcases W1j.1 hw with rfl | hw
  . exact hTy z hz
  . exact hzm z hz w hw
 have fin2:NF G S N (U+V) (L.take k++m):=hT.app hM hzm
 have key:Xk5 G tx (Xb3 L)=Xb3 (L.take k)++Xk5 G tx (Xb3 (L.drop k)):=by
  have e:Xb3 L=Xb3 (L.take k)++Xb3 (L.drop k):=by rw[<-W2c,W4n]
  rw[e]
  refine Xvl λs hs=>?_
  obtain⟨z,hz,rfl⟩:=W2y.1 hs
  rw[htx];exact hlt z hz
 have v1:∀h:¬(y.s.f=0/\Xcu G y.p),Xb3 (L.take k++y::m)=Xk5 G (x.a,x.p,x.s.f) (Xb3 L):=λh=>by rw[<-htx,key,hv1 h];exact W2c
 have v2:∀h:y.s.f=0/\Xcu G y.p,Xb3 (L.take k++m)=Xk5 G (x.a,x.p,x.s.f) (Xb3 L):=λh=>by rw[<-htx,key,hv0 h];exact W2c
 rcases o with _ | w
 . have ho:k=0:=ho0.1 rfl
   subst ho
   refine Ce rfl (Zero_g W hy.v.v (by omega)) ?_
   refine By rfl (λh=>?_) λh=>?_
   . have h:¬(y.s.f=0/\Xcu G y.p):=by simpa only [Xal,Xah] using h
     refine Yah [dSe y.s] rfl rfl (W4p _) (W1g rfl) ?_
     refine Yag ((ls (y::m)).map dSe) rfl rfl rfl rfl (by rw[Xbf,W0s];omega) ?_
     exact Rt rfl (.tup (.cons (F rfl rfl) Xa7)) ⟨y::m,rfl,by rw[W0s];omega,fin1 h,v1 h⟩
   . have h0:y.s.f=0/\Xcu G y.p:=W2g.1 (by simpa only [Xal,Xah] using h)
     rcases m with _ | ⟨z,m⟩
     . refine Yke rfl rfl (by decide) ?_
       exact Rt rfl (.tup (.cons (.lit rfl) Xa7)) ⟨[],rfl,W0z _,NF.nil,v2 h0⟩
     . refine Yah ((ls (z::m)).map dSe) rfl rfl (W4p _) (by rw[Xbf];omega) ?_
       exact Rt rfl (.tup (.cons (F rfl rfl) Xa7)) ⟨z::m,rfl,by omega,fin2,v2 h0⟩
 . have ho:w=ls (L.take k):=ho
   subst ho
   refine Ce rfl (Zero_g W hy.v.v (by omega)) ?_
   refine By rfl (λh=>?_) λh=>?_
   . have h:¬(y.s.f=0/\Xcu G y.p):=by simpa only [Xal,Xah] using h
     refine Yag ((ls (L.take k++[y])).map dSe) rfl rfl rfl (by simp) (by rw[Xbf,W0d,tl];show k+1<=_;omega) ?_
     refine Yag ((ls (L.take k++[y]++m)).map dSe) rfl rfl rfl (by simp) (by rw[Xbf,W0d,W0d,tl];show k+1+m.length<=_;omega) ?_
     exact Rt rfl (.tup (.cons (F rfl rfl) Xa7)) ⟨L.take k++[y]++m,rfl,by rw[W0d,W0d,tl];show k+1+m.length<=_;omega,by rw[W4x];exact fin1 h,by rw[W4x];exact v1 h⟩
   . refine Yag ((ls (L.take k++m)).map dSe) rfl rfl rfl (by simp) (by rw[Xbf,W0d,tl];omega) ?_
     exact Rt rfl (.tup (.cons (F rfl rfl) Xa7)) ⟨L.take k++m,rfl,by rw[W0d,tl];omega,fin2,v2 (W2g.1 (by simpa only [Xal,Xah] using h))⟩
variable{n m:Nat}{x y z:Nm}{a b:Tow.El K}
def AdV(G:Tw K)(S:List (Tow.El K))(N:List Nm)(U n m:Nat)(a:Tow.El K)(L M:List (SV K))(r:AV): Prop:=∃z L',r=.tup (.pr (.d (dAr z (ls L'))) (.d (.int .i64 0)))/\Gd G S N m z a/\L'.length<=n/\NF G S N U L'/\Xb3 L'=mgV G (Xb3 L) (Xb3 M)
theorem Ydy{X Y:List (Tr K)}{k:Nat}{t:Tr K}(h:Y[k]?=some t): mgV G X (Y.take (k+1))=Xk5 G t (mgV G X (Y.take k)):=by
 unfold mgV
 rw[W2d,h,List.foldl_append]
 rfl
theorem Yh0{B C:Nat}{X:List (Tr K)}: ∀ {Y:List (Tr K)},Bf B X->Bf C Y->Bf (B+Y.length*(C+1)) (mgV G X Y):=by
 intro Y
 induction Y generalizing X B with
 | nil=>intro h _;exact h.mono (by simp)
 | cons t Y ih =>
  intro h hY
  exact(ih (h.ins (hY t (W0l ..))) λs hs=>hY s (W0p _ hs)).mono (by rw[W0s,W1h];omega)
theorem Ykf(W:Wn G S N){V B C:Nat}{L M:List (SV K)}(hx:Gd G S N n x a)(hy:Gd G S N m y b)(hn:n<=400)(hm:m<=400)(hL:NF G S N U L)(hM:NF G S N V M)(hl:L.length<=8)(hml:M.length<=8)(hB:Bf B (Xb3 L))(hC:Bf C (Xb3 M))(hbc:B+8*(C+1)<=900000)(hU:3*(U+M.length*V)<=400): C0 9 [.d (dAr x (ls L)),.d (dAr y (ls M))] (AdV G S N (U+M.length*V) (L.length+M.length) (n+m) (Tow.add K a b) L M):=by
 refine En Tryz.func9 λ_ _ _=>?_
 refine Ca rfl (R9.Add_g W hx hy hn hm) λv hv=>?_
 obtain⟨z,rfl,hz⟩:=hv
 refine Lo (λ((k,L'):Nat×List (SV K))=>[(3,.ptr 3 0),(4,.ptr 4 0),(7,.d (.int .i64 0)),(8,.ptr 8 0),(9,.d (.int .i64 k))]) (λ((k,L'):Nat×List (SV K))=>[(3,.var (.d (dAr y (ls M)))),(4,.var zA),(8,.var (.d (dAr z (ls L'))))]) (λ(k,L')=>k<=M.length/\L'.length<=L.length+k/\NF G S N (U+k*V) L'/\Xb3 L'=mgV G (Xb3 L) ((Xb3 M).take k)) (λ(k,_)=>M.length-k) (0,L) [] rfl ⟨W0z _,W0a _,hL.mono (by omega),rfl⟩ (λ(k,L') ⟨hk,hl',hN,hv⟩=>?_)
 have hk:k<=M.length:=hk
 have hl':L'.length<=L.length+k:=hl'
 have hN:NF G S N (U+k*V) L':=hN
 have hv:Xb3 L'=mgV G (Xb3 L) ((Xb3 M).take k):=hv
 refine By rfl (λh=>?_) λh=>?_<;>rw[Xbf] at h
 . obtain⟨s,hs⟩:∃s,M[k]?=some s:=⟨_,W0c (by omega)⟩
   have hkV:(k+1)*V<=M.length*V:=W0q _ (by omega)
   rw[W1h,W6q] at hkV
   have hsm:=W0f hs
   obtain⟨X,hX,hb'⟩:∃X,X<=7*(C+1)/\Bf (B+X) (Xb3 L'):=⟨k*(C+1),W0q _ (by omega),by
    rw[hv]
    exact(Yh0 hB λs hs=>hC s (W4e hs)).mono (by
     rw[W0j]
     exact Nat.add_le_add_left (W0q _ (Nat.min_le_left ..)) _)⟩
   refine Yes rfl (by decide) ?_
   refine Dw rfl ?_
   refine Ix k rfl (Xd9 hs) ?_
   refine Ca rfl (Yls W (V:=V) (x:=s) (by omega) hN (by omega) (hM.m s hsm) λy hy _=>?_) λr hr=>?_
   . have h1:-((B+X:Nat):Int)<=y.s.f/\y.s.f<=((B+X:Nat):Int):=hb' _ (W2y.2 ⟨y,hy,rfl⟩)
     have h2:-(C:Int)<=s.s.f/\s.s.f<=C:=hC _ (W2y.2 ⟨s,hsm,rfl⟩)
     have:=Xsu (G:=G) (p:=y.p) (q:=s.p) h1 h2
     unfold lim
     omega
   . obtain⟨L2,rfl,g1,g2,g3⟩:=hr
     refine Ar (k+1:Nat) rfl ?_
     exact Bk (k+1,L2) [] rfl ⟨by omega,by show L2.length<=L.length+(k+1);omega,g2.mono (by rw[W1h];omega),by rw[g3,hv,<-Ydy (Xdr hs)]⟩ (by show M.length-(k+1)<M.length-k;omega)
 . obtain rfl:k=M.length:=by omega
   rw[W0b (by rw[W0i];exact W0a _)] at hv
   refine No rfl (by decide) ?_
   exact Rt rfl (.tup (.cons (.rf rfl) Xa7)) ⟨z,L',rfl,hz,hl',hN,hv⟩
theorem Yeg(W:Wn G S N){u s w:Vn}{p q:V2 K}{k:Nat}(h:Gq G S N n u p)(h2:Gq G S N m s q)(hw:Gv G S N k w (Xe2 G (Xnm p) q)): Gq G S N (n+m) w (Xe2 G (Xnm p) q):=by
 have h1:=h.v.x.n
 have h3:=h2.v.x.n
 exact hw.re W ((Gp.mul W.w h.g.con h2.g).mono (by rw[fC];unfold gB;omega)) (by omega)
theorem Xy7(hG:red K G)(h:0<sgn K G a): 0<sgn K G (Tow.mul K G a (Tow.rat K hf2)):=by
 rw[(Xau (Xad hG)).sm,Xec (Xad hG),Xb7 (by decide +kernel)]
 omega
theorem Yeo{d:V2 K}(hG:red K G)(h:¬sgn K G (Xhq G d d)=0): 0<sgn K G (Xhq G d d):=by
 have Sg:=Xau (Xad hG)
 have h1:∀x:Tow.El K,0<=sgn K G (Tow.mul K G x x):=λx=>by rw[Sg.sm];exact(Xeb (Sg.tri x)).1
 have:=Sg.sa _ _ (h1 d.1) (h1 d.2)
 have:0<=sgn K G (Xhq G d d):=this
 omega
end
def BuF{K:Nat}(G:Tw K)(S:List (Tow.El K))(N:List Nm)(r:AV): Prop:=(∃(a b:List D) (L:List Sn) (l:List Vn) (c:Bool),r=.tup (.pr (.d (dAa a b L)) (.pr (.d (dVs l)) (.b c)))/\¬c=true)\/∃(x:Nm) (a:Tow.El K) (L:List (SV K)) (l:List Vn) (c:Bool),r=.tup (.pr (.d (dAr x (ls L))) (.pr (.d (dVs l)) (.b c)))/\c=true/\Gd G S N 140 x a/\L.length<=4/\NF G S N 16 L/\Bf 4100 (Xb3 L)/\1<=l.length/\∀v∈l,∃p,Gv G S N 1 v p
theorem Xo8{K:Nat}{G:Tw K}{S:List (Tow.El K)}{N:List Nm}(W:Wn G S N){ops:List RO}{at':List (Fin 256)}{ts:List Int}{lst:List Nm}(hb:C0 120 [.d (dRs ops)] (·=.d (dNs lst)))(hl24:lst.length<=24)(hk16:∀z∈lst,z.k<=16)(hw:∀z∈n00::lst,z.k<=1->∃v,Gd G S N 1 z v)(ht:ts.length<9223372036854775808)(hz:∀z∈ts,-9223372036854775808<=z/\z<9223372036854775808): C0 6 [.d (dCb ops at' ts),.d (.int .i64 1)] (BuF G S N):=by
 have no:BuF G S N (.tup (.pr (.d dA0) (.pr (.d (dVs [])) (.b false)))):=.inl ⟨[],[],[],[],false,rfl,nofun⟩
 have tl:(ts.map λz=>(D.int .i64 z:D)).length=ts.length:=W0i ..
 have R0n:∀ {g:Hp},FitR g [] (.tup (.pr (.st (.pr (.st (.pr .nil .nil)) .nil)) (.pr .nil (.b false)))) (.tup (.pr (.d dA0) (.pr (.d (dVs [])) (.b false)))):=.tup (.cons Yiw (.cons (.nil rfl) Xop))
 refine En Tryz.func6 λ_ _ _=>?_
 refine Ca rfl (Xxk (n:=1) hb hl24 hk16) λv hv=>?_
 obtain⟨l,c',rfl,hl24,hc⟩:=hv
 have lm:(l.map dV).length=l.length:=W0i ..
 refine By rfl (λh=>?_) λh=>?_
 . exact Rt rfl R0n no
 have h:c'=true:=by simpa using h
 obtain⟨h1,hm⟩:=hc h
 refine By rfl (λh=>?_) λh=>?_
 . exact Rt rfl R0n no
 rw[lm] at h
 have h8:l.length<=8:=by omega
 refine By rfl (λh=>?_) λh=>?_
 . exact Rt rfl R0n no
 rw[tl] at h
 have h4:ts.length<=4:=by omega
 refine Lo (λi:Nat=>[(2,.ptr 2 0),(4,.ptr 4 0),(7,.d (dVs l)),(9,.d (.int .i64 i))]) (λ_=>[(2,.var (.d (dCb ops at' ts))),(4,.var zA)]) (λi=>i<=l.length/\∀x∈l.take i,x.x.k<=1/\x.y.k<=1) (λi=>l.length-i) 0 [] rfl ⟨W0z _,nofun⟩ (λi ⟨hi,hone⟩=>?_)
 refine By rfl (λh=>?_) λh=>?_<;>rw[lm] at h
 . obtain⟨x,hx⟩:∃x,l[i]?=some x:=⟨_,W0c (by omega)⟩
   refine Ix i rfl (mp hx) ?_
   refine By rfl (λh2=>?_) λh2=>?_
   . exact Rt rfl R0n no
   refine Ix i rfl (mp hx) ?_
   refine By rfl (λh3=>?_) λh3=>?_
   . exact Rt rfl R0n no
   have h2:¬(((toT x.x.k x.x.t).map dqs).length:Int)>1:=h2
   have h3:¬(((toT x.y.k x.y.t).map dqs).length:Int)>1:=h3
   rw[lt',Xaa] at h2 h3
   refine Ar (i+1:Nat) rfl ?_
   refine Bk (i+1) [] rfl ⟨by omega,λy hy=>?_⟩ (by show l.length-(i+1)<l.length-i;omega)
   rw[W2d,hx] at hy
   rcases W1s.1 hy with hy | hy
   . exact hone y hy
   . obtain rfl:=W0h.1 hy
     exact⟨by omega,by omega⟩
 rw[W0b (by omega)] at hone
 have hpt:∀v∈l,∃p,Gv G S N 1 v p:=λv hv=>by
  obtain⟨m1,m2⟩:=hm v hv
  obtain⟨k1,k2⟩:=hone v hv
  obtain⟨a,ha⟩:=hw v.x m1 k1
  obtain⟨b,hb⟩:=hw v.y m2 k2
  exact⟨(a,b),ha,hb⟩
 have H:∀i:Nat,∃p:V2 K,∀v,l[i]?=some v->Gv G S N 1 v p:=λi=>by
  cases hv:l[i]? with
  | none=>exact⟨vz K,nofun⟩
  | some v =>
   obtain⟨p,hp⟩:=hpt v (W0f hv)
   exact⟨p,λv' e=>by cases e;exact hp⟩
 obtain⟨g,hg⟩:=W4v H
 refine Ca rfl (Xi0 W hg (by omega) h8 ⟨by decide,by decide⟩) λr hr=>?_
 obtain⟨z0,rfl,hz0⟩:=hr
 refine Cu (some 1000002) (λ(z,L,a)=>[(4,.ptr 4 0),(7,.d (dVs l)),(10,.ptr 10 0),(11,.d (.int .i64 0))]) (λ((z,L,a):Nm×List (SV K)×Tow.El K)=>[(4,.var zA),(10,.var (.d (dAr z (ls L))))]) (λ(z,L,a)=>Gd G S N 140 z a/\L.length<=4/\NF G S N 16 L/\Bf 4100 (Xb3 L)) rfl ?_ λ(z,L,a) ⟨h5,h6,h7,h8'⟩=>?_
 . refine Lo (λ((k,z,L,a):Nat×Nm×List (SV K)×Tow.El K)=>[(2,.ptr 2 0),(4,.ptr 4 0),(7,.d (dVs l)),(10,.ptr 10 0),(11,.d (.int .i64 0)),(12,.d (.int .i64 k))]) (λ(k,z,L,a)=>[(2,.var (.d (dCb ops at' ts))),(4,.var zA),(10,.var (.d (dAr z (ls L))))]) (λ(k,z,L,a)=>k<=ts.length/\Gd G S N (130+k) z a/\L.length<=k/\NF G S N (4*k) L/\Bf (1001*k) (Xb3 L)) (λ(k,_)=>ts.length-k) (0,z0,[],_) [] rfl ⟨W0z _,hz0,W0a _,NF.nil,nofun⟩ (λ(k,z,L,a) ⟨hk,hzz,hL,hs,hB⟩=>?_)
   have hk:k<=ts.length:=hk
   have hzz:Gd G S N (130+k) z a:=hzz
   have hL:L.length<=k:=hL
   have hs:NF G S N (4*k) L:=hs
   have hB:Bf (1001*k) (Xb3 L):=hB
   have out:Gd G S N 140 z a/\L.length<=4/\NF G S N 16 L/\Bf 4100 (Xb3 L):=⟨hzz.mono (by omega),by omega,hs.mono (by omega),hB.mono (by omega)⟩
   refine By rfl (λh=>?_) λh=>?_<;>rw[tl] at h
   rotate_left
   . exact Jn (z,L,a) [] rfl out
   refine Ar (k+1:Nat) rfl ?_
   refine By rfl (λh5=>?_) λh5=>?_<;>rw[lm] at h5
   rotate_left
   . exact Jn (z,L,a) [] rfl out
   refine Yes rfl (by decide) ?_
   have next:Gd G S N (130+(k+1)) z a/\L.length<=k+1/\NF G S N (4*(k+1)) L/\Bf (1001*(k+1)) (Xb3 L):=⟨hzz.mono (by omega),by omega,hs.mono (by omega),hB.mono (by omega)⟩
   have dec:ts.length-(k+1)<ts.length-k:=by omega
   obtain⟨w,hwk⟩:∃w,ts[k]?=some w:=⟨_,W0c (by omega)⟩
   obtain⟨x,hx⟩:∃x,l[k]?=some x:=⟨_,W0c (by omega)⟩
   obtain⟨y,hy⟩:∃y,l[k+1]?=some y:=⟨_,W0c (by omega)⟩
   refine Ix k rfl (Ycr hwk) ?_
   refine By rfl (λh7=>?_) λh7=>?_
   . exact Rt rfl R0n no
   refine Ix k rfl (Ycr hwk) ?_
   refine By rfl (λh8=>?_) λh8=>?_
   . exact Rt rfl R0n no
   refine Dw rfl ?_
   refine Ix k rfl (mp hx) ?_
   refine Ar (k+1:Nat) rfl ?_
   refine Ix (k+1) rfl (mp hy) ?_
   refine Ca rfl (Yof W (hg k x hx) (hg (k+1) y hy) (by decide)) λv hv=>?_
   rcases hv with ⟨n1,d,rfl,hd⟩ | ⟨_,rfl⟩
   . refine Dw rfl ?_
     refine Ix k rfl (mp hx) ?_
     refine Ar (k+1:Nat) rfl ?_
     refine Ix (k+1) rfl (mp hy) ?_
     refine Cn [(1000001,115)] rfl (R15.Far_g W (hg k x hx) (hg (k+1) y hy) (by decide)) λv hv=>?_
     obtain⟨f,rfl,hf⟩:=hv
     refine No rfl (by decide) ?_
     refine No rfl (by decide) ?_
     refine Ce rfl (R9.Sign_g W hf (by decide)) ?_
     refine By rfl (λh9=>?_) λh9=>?_
     . refine Ar (k+1:Nat) rfl ?_
       exact Bk (k+1,z,L,a) [] rfl ⟨by omega,next⟩ dec
     refine Ix k rfl (Ycr hwk) ?_
     refine Dw rfl ?_
     refine Ca rfl (Xlp (f:=w) W W hf hd (by decide) (by decide)) λr hr=>?_
     rcases hr with ⟨_,rfl⟩ | ⟨hnz,q,rfl,hq⟩
     . refine Ca rfl (Ykf W (M:=[]) (V:=0) (B:=1001*k) (C:=0) hzz (Yht W) (by omega) (by decide) hs NF.nil (by omega) (W0z _) hB nofun (by omega) (by simp;omega)) λr hr=>?_
       obtain⟨z',L',rfl,hz',hL',hs',hv'⟩:=hr
       refine Ar (k+1:Nat) rfl ?_
       exact Bk (k+1,z',L',_) [] rfl ⟨by omega,hz',by show L'.length<=k+1;simp at hL';omega,hs'.mono (by simp;omega),by rw[hv'];exact hB.mono (by omega)⟩ dec
     . have hx2:=(hg k x hx).two W
       have hy2:=(hg (k+1) y hy).two W
       have hp0:g k≠vz K:=λe=>n1 (.inl e)
       have hq0:g (k+1)≠vz K:=λe=>n1 (.inr e)
       have hs4:SN G S N 4 (⟨⟨q,d,w⟩,Tow.mul K G (Xhq G (Xxn (g k) (g (k+1))) (Xxn (g k) (g (k+1)))) (Tow.rat K hf2),Xe2 G (Xnm (g k)) (g (k+1))⟩:SV K) :=
        ⟨⟨hq.mono (by decide),Xy7 W.w.g (Yeo W.w.g h9),Yeg W hx2 hy2 hd,Xsq W.w.g (Ycp W.w.g hp0) hq0,by show lim w;unfold lim;omega⟩,hnz⟩
       have hM:NF G S N 4 [(⟨⟨q,d,w⟩,Tow.mul K G (Xhq G (Xxn (g k) (g (k+1))) (Xxn (g k) (g (k+1)))) (Tow.rat K hf2),Xe2 G (Xnm (g k)) (g (k+1))⟩:SV K)]:=⟨λy hy=>by rw[W0h.1 hy];exact hs4,List.pairwise_singleton _ _⟩
       have hC:Bf 1000 (Xb3 [(⟨⟨q,d,w⟩,Tow.mul K G (Xhq G (Xxn (g k) (g (k+1))) (Xxn (g k) (g (k+1)))) (Tow.rat K hf2),Xe2 G (Xnm (g k)) (g (k+1))⟩:SV K)]):=λs hs=>by
        rw[W0h.1 hs]
        show -((1000:Nat):Int)<=w/\w<=((1000:Nat):Int)
        omega
       refine Ca rfl (Ykf W (V:=4) (B:=1001*k) (C:=1000) hzz (Yht W) (by omega) (by decide) hs hM (by omega) (show 1<=8 by decide) hB hC (by omega) (by show 3*(4*k+1*4)<=400;omega)) λr hr=>?_
       obtain⟨z',L',rfl,hz',hL',hs',hv'⟩:=hr
       refine Ar (k+1:Nat) rfl ?_
       exact Bk (k+1,z',L',_) [] rfl ⟨by omega,hz',by show L'.length<=k+1;have:L'.length<=L.length+1:=hL';omega,hs'.mono (by show 4*k+1*4<=4*(k+1);omega),by rw[hv'];exact(Yh0 hB hC).mono (by show 1001*k+1*(1000+1)<=1001*(k+1);omega)⟩ dec
   . refine Dw rfl ?_
     refine Ix k rfl (mp hx) ?_
     refine Ar (k+1:Nat) rfl ?_
     refine Ix (k+1) rfl (mp hy) ?_
     refine Cn [(1000001,115)] rfl (R15.Far_g W (hg k x hx) (hg (k+1) y hy) (by decide)) λv hv=>?_
     obtain⟨f,rfl,hf⟩:=hv
     refine Yes rfl (by decide) ?_
     refine Ar (k+1:Nat) rfl ?_
     exact Bk (k+1,z,L,a) [] rfl ⟨by omega,next⟩ dec
 exact Rt rfl (.tup (.cons (.rf rfl) (.cons (.rf rfl) Xop))) (.inr ⟨z,a,L,l,_,rfl,Xah.2 rfl,h5,h6,h7,h8',h1,hpt⟩)
end Go.Proofs.YtfjafaehfjjaiaaGreatDoor.R20
namespace Go.Tow
open Go Go.Num Go.Proofs.YtfjafaehfjjaiaaGreatDoor
section
variable{K:Nat}{G:Tw K}{S:List (El K)}{ρ ρ':Nat->El K}{m:Nat}
theorem TOk.un(hG:red K G){T T':Tw m}(h:TOk G S m T ρ)(h':TOk G S m T' ρ')(e:∀i,i<m->ρ i=ρ' i): T=T':=by
 refine Xht (W3y λi=>?_)
 by_cases hi:i<m
 . obtain⟨x,x1,_,x3⟩:=Tw.at (t:=T) hi
   obtain⟨y,y1,_,y3⟩:=Tw.at (t:=T') hi
   have hle:=W2h hi
   obtain⟨b,hb⟩:=Lf.ex hle x
   obtain⟨c,hc⟩:=Lf.ex hle y
   have e1:ev G ρ m b=ev G ρ m c:=by
    rw[hb.ev hle,hc.ev hle,<-(x3 h.h).1,e i hi,(y3 h'.h).1]
    exact(Xa8 λj hj=>e j (by omega)).symm
   have e2:=Xcs (Xad hG) h.h h.r e1
   subst e2
   have e3:toL i x=toL i y:=by
    have hb:toL m b=toL i x++List.replicate (2^m-2^i) 0:=hb
    have hc:toL m b=toL i y++List.replicate (2^m-2^i) 0:=hc
    exact List.append_cancel_right (hb.symm.trans hc)
   rw[x1,y1,e3]
 . rw[W1x (by rw[Xaa];omega),W1x (by rw[Xaa];omega)]
def vls(ρ:Nat->El K)(m:Nat): List (El K):=(List.range m).map ρ
theorem Xpd: vls ρ (m+1)=vls ρ m++[ρ m]:=by unfold vls;rw[W6x,W2c];rfl
theorem Xlu(h:∀i,i<m->ρ i=ρ' i): vls ρ m=vls ρ' m:=List.map_congr_left λi hi=>h i (List.mem_range.1 hi)
theorem Yaq{n:Nat}(h:vls ρ m=vls ρ' n): m=n/\∀i,i<m->ρ i=ρ' i:=by
 have hl:=congrArg List.length h
 unfold vls at hl h
 rw[W0i,W0i,List.length_range,List.length_range] at hl
 subst hl
 exact⟨rfl,λi hi=>W5s.1 h i (List.mem_range.2 hi)⟩
def Ymf(G:Tw K)(V:List (El K))(u:El K): Prop:=∃(m:Nat) (ρ:Nat->El K),vls ρ m=V/\∃e:El m,ev G ρ m e=u
theorem Yku{u:El K}: Ymf G (vls ρ m) u↔∃e:El m,ev G ρ m e=u:=by
 refine⟨λ⟨n,σ,h,e,he⟩=>?_,λ⟨e,he⟩=>⟨m,ρ,rfl,e,he⟩⟩
 obtain⟨rfl,h'⟩:=Yaq h
 exact⟨e,by rw[<-he];exact(Xa8 h').symm⟩
open Classical in
noncomputable def stV(G:Tw K)(V:List (El K))(u:El K): List (El K):=if Ymf G V u then V else V++[u]
end
end Go.Tow
namespace Go.Proofs.YtfjafaehfjjaiaaGreatDoor.R9
open Go Go.Vm Go.Num Go.Tow Go.Proofs.YtfjafaehfjjaiaaGreatDoor
section
variable{c:Fg}{K:Nat}{G:Tw K}{S:List (Tow.El K)}{k l:Nat}{t:Tw k}{u:Tw l}{ρ ρu:Nat->Tow.El K}
def ExF(c:Fg)(G:Tw K)(S:List (Tow.El K))(l k:Nat)(t:Tw k)(ρ ρu:Nat->Tow.El K)(x:Nat×(Σ m,Tw m)×List (List Rat)): Prop:=ExI c G S l k t ρ ρu x/\∃ρ',TOk G S x.2.1.1 x.2.1.2 ρ'/\vls ρ' x.2.1.1=(vls ρu x.1).foldl (stV G) (vls ρ k)
theorem ExF.start(ht:TOk G S k t ρ): ExF c G S l k t ρ ρu (0,⟨k,t⟩,[]):=⟨⟨W0z _,rfl,ρ,ht,Beg.rf,λ_ _=>rfl,λi hi=>absurd hi (W3h _),λ_=>rfl⟩,ρ,ht,rfl⟩
theorem Xmp{i:Nat}: (vls ρu (i+1)).foldl (stV G) (vls ρ k)=stV G ((vls ρu i).foldl (stV G) (vls ρ k)) (ρu i):=by rw[Xpd,List.foldl_append];rfl
theorem ExF.step(W:Wy c G S)(hu:TOk G S l u ρu){i m:Nat}{T:Tw m}{rs:List (List Rat)}(h:ExF c G S l k t ρ ρu (i,⟨m,T⟩,rs))(hil:i<l):
 ∃(x:Tow.El i) (σ:Nat->Tow.El m),(toT l u)[i]?=some (toL i x)/\Sz c.R (toL i x)/\Rts m c.Z i rs σ/\red m T/\Sz c.E (toL m (ev T σ i x))/\0<=sgn m T (ev T σ i x) /\
  (∀y,mul m T y y=ev T σ i x->0<=sgn m T y->ExF c G S l k t ρ ρu (i+1,⟨m,T⟩,rs++[toL m y])) /\
  (¬Xcp m T (ev T σ i x)->ExF c G S l k t ρ ρu (i+1,⟨m+1,tsn T (ev T σ i x)⟩,rs++[toL (m+1) (Xcr (m+1) m)])):=by
 have hG:=W.g
 have hGr:=Xad hG
 obtain⟨hI,ρv,hV,hv⟩:=h
 have hI':=hI
 obtain⟨hi,hrl,ρ',hT,hB,ha,hrt,hc⟩:=hI
 simp only at hi hrl hT hB ha hrt hc hV hv
 have hag:=hT.h.uniq hG hV.h
 have hvl:vls ρ' m=(vls ρu i).foldl (stV G) (vls ρ k):=by rw[<-hv];exact Xlu hag
 obtain⟨x,σ,x1,x2,s1,s2,hev,x4,hsz⟩:=ExI.rad W hu hil hT hrt
 have hsg:0<=sgn m T (ev T σ i x):=by
  have:=Xc8 hGr hT.h (a:=ev T σ i x)
  rw[hev,(Xau hGr).sm,x4] at this
  omega
 refine⟨x,σ,x1,x2,s1,hT.r,hsz,hsg,λy h1 h2=>⟨hI'.sq W hu hil hT hB ha hrt hc s2 hev x4 h1 h2,ρ',hT,?_⟩,λh2=>⟨hI'.new W hu hil hT hB ha hrt hev x4 h2,_,hT.snoc hGr h2 (hu.s i hil) (a:=ev T σ i x) hev.symm x4,?_⟩⟩
 . have hy:ev G ρ' m y=ρu i:=Xjg hG (by rw[<-Xa4 hT.h,h1,hev]) (by rw[Xc8 hGr hT.h];exact h2) (by rw[x4];decide)
   show vls ρ' m=(vls ρu (i+1)).foldl (stV G) (vls ρ k)
   rw[Xmp,<-hvl,stV,if_pos (Yku.2 ⟨y,hy⟩)]
 . show vls (λj=>if j=m then ρu i else ρ' j) (m+1)=(vls ρu (i+1)).foldl (stV G) (vls ρ k)
   have hn:¬Ymf G (vls ρ' m) (ρu i):=λe=>by
    obtain⟨b,hb⟩:=Yku.1 e
    exact h2 ⟨b,Xcs hGr hT.h hT.r (by rw[Xa4 hT.h,hb,hev])⟩
   rw[Xmp,<-hvl,stV,if_neg hn,Xpd,if_pos rfl]
   congr 1
   exact Xlu λj hj=>if_neg (by omega)
theorem ExF.ex(W:Wy c G S)(ht:TOk G S k t ρ)(hu:TOk G S l u ρu): ∀i,i<=l->∃m T rs,ExF c G S l k t ρ ρu (i,⟨m,T⟩,rs)
 | 0,_=>⟨k,t,[],ExF.start ht⟩
 | i+1,hi=>by
  obtain⟨m,T,rs,h⟩:=ExF.ex W ht hu i (by omega)
  obtain⟨x,σ,_,_,_,hr,_,h0,h1,h2⟩:=h.step W hu (by omega)
  by_cases hs:Xcp m T (ev T σ i x)
  . obtain⟨y,hy⟩:=hs
    by_cases hy0:0<=sgn m T y
    . exact⟨m,T,_,h1 y hy hy0⟩
    . have L:=Xaz m T
      exact⟨m,T,_,h1 (Tow.neg m y) (by rw[L.mn,L.nm,L.nn,hy]) (by rw[(Xau (Xad hr)).sn];omega)⟩
  . exact⟨_,_,_,h2 hs⟩
theorem Xmu(W:Wy c G S)(ht:TOk G S k t ρ)(hu:TOk G S l u ρu): C0 214 [.d (dt t),.d (dt u)] (λv=>∃m T rs,v=.tup (.pr (.d (dt T)) (.pr (.d (dts rs)) (.d (.int .i64 0))))/\ExF c G S l k t ρ ρu (l,⟨m,T⟩,rs)):=by
 have hl3:=W.le hu
 have hH:=W.k.h
 refine En Tryz.func214 λ_ _ _=>?_
 refine Nl 7 7 1 rfl ?_
 refine Lo (λ(x:Nat×(Σ m,Tw m)×List (List Rat))=>[(0,.d (dt x.2.1.2)),(1,.d (dt u)),(7,.gr 7 1 (x.2.2.map dqs)),(8,.d (.int .i64 x.1))]) (λx=>[(7,.tok (x.2.2.map dqs).length 1)])
  (ExF c G S l k t ρ ρu) (λx=>l-x.1) (0,⟨k,t⟩,[]) [] rfl (ExF.start ht) (λ(i,⟨m,T⟩,rs) hF=>?_)
 have hF':=hF
 obtain⟨⟨hi,hrl,ρ',hT,_⟩,_⟩:=hF
 simp only at hi hrl hT
 have hm3:=W.le hT
 have hz:=W.t hT
 refine By rfl (λh=>?_) λh=>?_<;>simp only[lt',Xaa] at h
 . have hil:i<l:=by omega
   obtain⟨x,σ,x1,x2,s1,_,hsz,h0,k1,k2⟩:=hF'.step W hu hil
   obtain⟨q1,q2,q3,q4⟩:=exB W.k hm3
   have hE:=Xxy hm3 (show i<c.H by omega)
   have hR:=W.k.r
   have hE':=W.k.e
   have hlen:(rs.map dqs).length<=c.H:=by rw[W0i];omega
   refine Ix i rfl (mp x1) ?_
   refine Ce rfl (Xd2 (k:=m) (T:=T) hz (by omega) s1 x2 (by omega) (by omega)) ?_
   refine Ca rfl (R8.Adjoin_ok (k:=m) (t:=T) hz hsz hT.r (by omega) q1 q2 q3 q4) λv hv=>?_
   rcases hv with ⟨h1,rfl⟩ | ⟨y,h1,h2,rfl⟩ | ⟨h1,h2,h3,rfl⟩
   . omega
   . refine No rfl (by simp) ?_
     refine ApG ((rs++[toL m y]).map dqs) rfl (by simp) (by simp at hlen |-;omega) ?_
     refine Ar (i+1:Nat) rfl ?_
     exact Bk (i+1,⟨m,T⟩,rs++[toL m y]) [(38,7)] rfl (k1 y h1 h2) (by show l-(i+1)<l-i;omega)
   . refine No rfl (by simp) ?_
     refine ApG ((rs++[toL (m+1) (Xcr (m+1) m)]).map dqs) rfl (by simp) (by simp at hlen |-;omega) ?_
     refine Ar (i+1:Nat) rfl ?_
     exact Bk (i+1,⟨m+1,tsn T (ev T σ i x)⟩,rs++[toL (m+1) (Xcr (m+1) m)]) [(38,7)] rfl (k2 h2) (by show l-(i+1)<l-i;omega)
 . obtain rfl:i=l:=by omega
   exact Rt rfl (.tup (.cons (.rf rfl) (.cons (.gr rfl) Xa7))) ⟨m,T,rs,rfl,hF'⟩
theorem Yid(W:Wy c G S){m p:Nat}{T:Tw m}{ρm:Nat->Tow.El K}(hT:TOk G S m T ρm)(hu:TOk G S l u ρu)(hin:∀j,j<l->∃e:Tow.El m,ev G ρm m e=ρu j){a:Tow.El l}(ha:Sz p (toL l a)): ∃b:Tow.El m,ev G ρm m b=ev G ρu l a/\Sz (jW c p) (toL m b):=by
 obtain⟨σ,hσ⟩:=Go.Tow.choose (P:=(·<l)) hin
 have hl3:=W.le hu
 exact⟨ev T σ l a,Xit hT.h hσ,(Xi9 (W.t hT) (λi h=>(W.z hT hu i h (λj hj=>hin j (by omega)) (σ i) (hσ i h)).mono (W.k.z i (by omega))) ha).mono (Xvc (W.le hT) hl3)⟩
end
section
variable{c:Fg}{K:Nat}{G:Tw K}{S:List (Tow.El K)}{r p:Nat}{x y:Nm}{vx vy:Tow.El K}
open Classical in
noncomputable def jV(G:Tw K)(x y:Nm)(ρx ρy:Nat->Tow.El K): List (Tow.El K):=if x.k<y.k/\Beg x.k x.t y.k y.t then vls ρy y.k else if Beg y.k y.t x.k x.t then vls ρx x.k else (vls ρy y.k).foldl (stV G) (vls ρx x.k)
def CmF(G:Tw K)(S:List (Tow.El K))(x y:Nm)(ρx ρy:Nat->Tow.El K)(m:Nat)(T:Tw m): Prop:=CmP G S x y m T/\∃ρ,TOk G S m T ρ/\vls ρ m=jV G x y ρx ρy
theorem CmF.un(hG:red K G){ρx ρy:Nat->Tow.El K}{m n:Nat}{T:Tw m}{U:Tw n}(h:CmF G S x y ρx ρy m T)(h':CmF G S x y ρx ρy n U): ∃e:m=n,e ▸ T=U:=by
 obtain⟨_,ρ,h1,h2⟩:=h
 obtain⟨_,σ,k1,k2⟩:=h'
 obtain⟨rfl,h3⟩:=Yaq (h2.trans k2.symm)
 exact⟨rfl,h1.un hG k1 h3⟩
theorem CmF.ex(W:Wy c G S){ρx ρy:Nat->Tow.El K}(hx:TOk G S x.k x.t ρx)(hy:TOk G S y.k y.t ρy): ∃m T,CmF G S x y ρx ρy m T:=by
 have hG:=W.g
 by_cases h1:x.k<y.k/\Beg x.k x.t y.k y.t
 . exact⟨y.k,y.t,.mk hG hx hy hy (beg_rt hG h1.2 hx hy) rts,ρy,hy,by rw[jV,if_pos h1]⟩
 by_cases h2:Beg y.k y.t x.k x.t
 . exact⟨x.k,x.t,.mk hG hx hy hx rts (beg_rt hG h2 hy hx),ρx,hx,by rw[jV,if_neg h1,if_pos h2]⟩
 obtain⟨m,T,rs,h⟩:=ExF.ex W hx hy y.k (W0a _)
 obtain⟨⟨_,_,ρ',hT,hB,ha,hrt,hc⟩,ρv,hV,hv⟩:=h
 exact⟨m,T,.ext hG hx hy hT hB hrt,ρv,hV,by rw[jV,if_neg h1,if_neg h2];exact hv⟩
theorem Yae(W:Wy c G S)(hx:NOk G S r p x vx)(hy:NOk G S r p y vy)(hp:oW c p<=4398046511104){ρx ρy:Nat->Tow.El K}(hx1:TOk G S x.k x.t ρx)(hy1:TOk G S y.k y.t ρy): C0 135 [.d (dNs [x,y])] λv=>∃m T a b,v=.tup (.pr (.d (dNs [⟨m,T,a⟩,⟨m,T,b⟩])) (.d (.int .i64 0)))/\JnR c G S p vx vy m T a b/\CmF G S x y ρx ρy m T:=by
 have hG:=W.g
 have hR:=W.k.r
 have hH:=W.k.h
 have hO:oW c p=2*jW c p+cB c.R c.H+1:=rfl
 have hpj:p<=jW c p:=Xvd
 have hx3:=W.le hx1
 have hy3:=W.le hy1
 have hxr:=W.t hx1
 have hyr:=W.t hy1
 refine En Tryz.func135 λ_ _ _=>?_
 refine Nd 4 1 rfl ?_
 refine Lo (λ(s:Nat×(Σ m,Tw m))=>[(0,.d (dNs [x,y])),(4,.d (dt s.2.2)),(5,.d (.int .i64 s.1))]) (λ_=>[]) (λs=>(s.1=0/\s.2=⟨0,()⟩)\/(s.1=1/\s.2=⟨x.k,x.t⟩)\/(s.1=2/\CmF G S x y ρx ρy s.2.1 s.2.2)) (λs=>2-s.1) (0,⟨0,()⟩) [] rfl (.inl ⟨rfl,rfl⟩) (λ(i,⟨m,T⟩) hI=>?_)
 simp only at hI
 rcases hI with ⟨rfl,e⟩ | ⟨rfl,e⟩ | ⟨rfl,hP⟩
 . cases e
   refine Yes rfl (show (0:Int)<2 by decide) ?_
   refine Ix 0 rfl (u:=dN x) rfl ?_
   refine By rfl (λh=>?_) λh=>?_
   . refine Ix 0 rfl (u:=dN x) rfl ?_
     refine Ce rfl (begins_ok (U:=[]) (q:=1) (TS.pt hxr) (λi r h=>by simp at h) (by omega) (by rw[Xaa];omega)) ?_
     refine Yes rfl (by simp) ?_
     refine Ix 0 rfl (u:=dN x) rfl ?_
     refine Ar (0+1:Nat) rfl ?_
     exact Bk (1,⟨x.k,x.t⟩) [] rfl (.inr (.inl ⟨rfl,rfl⟩)) (show 1<2 by decide)
   . have h:¬(((toT x.k x.t).map dqs).length:Int)>0:=h
     have hk0:x.k=0:=by rw[lt',Xaa] at h;omega
     refine Ix 0 rfl (u:=dN x) rfl ?_
     have e0:toT x.k x.t=[]:=W4b.1 (by rw[Xaa,hk0])
     refine Ce rfl (begins_ok (T:=[]) (U:=toT x.k x.t) (p:=1) (q:=c.R) (λi r h=>by simp at h) (TS.pt hxr) (by omega) (by decide)) ?_
     refine No rfl (by rw[e0];simp) ?_
     refine Ar (0+1:Nat) rfl ?_
     have e1:(dt (k:=0) ())=dt x.t:=by show dts []=dts (toT x.k x.t);rw[e0]
     rw[e1]
     exact Bk (1,⟨x.k,x.t⟩) [] rfl (.inr (.inl ⟨rfl,rfl⟩)) (show 1<2 by decide)
 . cases e
   have last:¬(x.k<y.k/\Beg x.k x.t y.k y.t)->Beg y.k y.t x.k x.t->CmF G S x y ρx ρy x.k x.t:=λh1 h2=>⟨.mk hG hx1 hy1 hx1 rts (beg_rt hG h2 hy1 hx1),ρx,hx1,by rw[jV,if_neg h1,if_pos h2]⟩
   have ext:¬(x.k<y.k/\Beg x.k x.t y.k y.t)->¬Beg y.k y.t x.k x.t->∀ {m:Nat} {T:Tw m} {rs:List (List Rat)},ExF c G S y.k x.k x.t ρx ρy (y.k,⟨m,T⟩,rs)->CmF G S x y ρx ρy m T:=λh1 h2 m T rs h=>by
    obtain⟨⟨_,_,ρ',hT,hB,ha,hrt,hc⟩,ρv,hV,hv⟩:=h
    exact⟨.ext hG hx1 hy1 hT hB hrt,ρv,hV,by rw[jV,if_neg h1,if_neg h2];exact hv⟩
   refine Yes rfl (show (1:Int)<2 by decide) ?_
   refine Ix 1 rfl (u:=dN y) rfl ?_
   refine By rfl (λh=>?_) λh=>?_<;>simp only[lt',Xaa] at h
   . refine Ix 1 rfl (u:=dN y) rfl ?_
     refine Ce rfl (begins_ok (T:=toT y.k y.t) (U:=toT x.k x.t) (TS.pt hyr) (TS.pt hxr) (by omega) (by rw[Xaa];omega)) ?_
     refine By rfl (λh1=>?_) λh1=>?_
     . have hb:x.k<y.k/\Beg x.k x.t y.k y.t:=⟨by omega,h1⟩
       refine Ix 1 rfl (u:=dN y) rfl ?_
       refine Ar (1+1:Nat) rfl ?_
       exact Bk (2,⟨y.k,y.t⟩) [] rfl (.inr (.inr ⟨rfl,.mk hG hx1 hy1 hy1 (beg_rt hG hb.2 hx1 hy1) rts,ρy,hy1,by rw[jV,if_pos hb]⟩)) (show 0<1 by decide)
     . have n1:¬(x.k<y.k/\Beg x.k x.t y.k y.t):=λe=>h1 e.2
       refine Ix 1 rfl (u:=dN y) rfl ?_
       refine Ce rfl (begins_ok (T:=toT x.k x.t) (U:=toT y.k y.t) (TS.pt hxr) (TS.pt hyr) (by omega) (by rw[Xaa];omega)) ?_
       refine By rfl (λh2=>?_) λh2=>?_
       . refine Ix 1 rfl (u:=dN y) rfl ?_
         refine Ca rfl (Xmu W hx1 hy1) λv hv=>?_
         obtain⟨m,T,rs,rfl,g⟩:=hv
         refine No rfl (by simp) ?_
         refine Ar (1+1:Nat) rfl ?_
         exact Bk (2,⟨m,T⟩) [] rfl (.inr (.inr ⟨rfl,ext n1 h2 g⟩)) (show 0<1 by decide)
       . refine Ar (1+1:Nat) rfl ?_
         exact Bk (2,⟨x.k,x.t⟩) [] rfl (.inr (.inr ⟨rfl,last n1 (by simp only[Xal,Xah,W2g] at h2;exact h2)⟩)) (show 0<1 by decide)
   . have n1:¬(x.k<y.k/\Beg x.k x.t y.k y.t):=λe=>by omega
     refine Ix 1 rfl (u:=dN y) rfl ?_
     refine Ce rfl (begins_ok (T:=toT x.k x.t) (U:=toT y.k y.t) (TS.pt hxr) (TS.pt hyr) (by omega) (by rw[Xaa];omega)) ?_
     refine By rfl (λh2=>?_) λh2=>?_
     . refine Ix 1 rfl (u:=dN y) rfl ?_
       refine Ca rfl (Xmu W hx1 hy1) λv hv=>?_
       obtain⟨m,T,rs,rfl,g⟩:=hv
       refine No rfl (by simp) ?_
       refine Ar (1+1:Nat) rfl ?_
       exact Bk (2,⟨m,T⟩) [] rfl (.inr (.inr ⟨rfl,ext n1 h2 g⟩)) (show 0<1 by decide)
     . refine Ar (1+1:Nat) rfl ?_
       exact Bk (2,⟨x.k,x.t⟩) [] rfl (.inr (.inr ⟨rfl,last n1 (by simp only[Xal,Xah,W2g] at h2;exact h2)⟩)) (show 0<1 by decide)
 . have hP':=hP
   obtain⟨⟨ρ,hT,hcon⟩,_⟩:=hP
   have hTr:=W.t hT
   have hm3:=W.le hT
   refine No rfl (show ¬(2:Int)<2 by decide) ?_
   refine Nl 9 9 2 rfl ?_
   refine Lo (λ(s:Nat×List (Tow.El m))=>[(0,.d (dNs [x,y])),(4,.d (dt T)),(9,.gr 9 2 (s.2.map λa=>dN ⟨m,T,a⟩)),(10,.d (.int .i64 s.1))]) (λs=>[(9,.tok (s.2.map λa=>dN ⟨m,T,a⟩).length 2)])
    (JnI c G p m ρ vx vy) (λs=>2-s.1) (0,[]) [] rfl ⟨W0z _,rfl,λi hi=>absurd hi (W3h _)⟩ (λ(j,bs) hI=>?_)
   have hI':=hI
   obtain⟨hj,hjl,has⟩:=hI
   simp only at hj hjl has
   refine By rfl (λh=>?_) λh=>?_
   . have h:(j:Int)<2:=h
     obtain⟨z,v,ρz,z1,z2,z3,z4,z6⟩:=both hx hy j (by omega)
     have z5:=W.t z3
     have hzu:([x,y].map dN)[j]?=some (dN z):=by rw[W1p,z1];rfl
     have hzm:=hcon z (W0f z1) ρz z3
     have hz3:=W.le z3
     refine Ix j rfl hzu ?_
     refine Ce rfl (begins_ok (T:=toT m T) (U:=toT z.k z.t) (TS.pt hTr) (TS.pt z5) (by omega) (by rw[Xaa];omega)) ?_
     refine By rfl (λh1=>?_) λh1=>?_
     . have hb:Beg z.k z.t m T:=h1
       obtain⟨b,hlb⟩:=Lf.ex hb.le z.a
       have hv1:ev G ρ m b=v:=by rw[hlb.ev hb.le,Xa8 (beg_ag hG hb z3 hT),z4]
       refine Ix j rfl hzu ?_
       refine Ce rfl (Xod (T:=T) hlb hb.le (by omega)) ?_
       refine ApG ((bs++[b]).map λa=>dN ⟨m,T,a⟩) rfl (by simp) (by simp;omega) ?_
       refine Ar (j+1:Nat) rfl ?_
       exact Bk (j+1,bs++[b]) [(113,9)] rfl (hI'.step (by omega) z2 hv1 ((hlb.sz z6).mono hpj)) (by show 2-(j+1)<2-j;omega)
     . refine Ix j rfl hzu ?_
       refine Ca rfl (Xc1 W hT z3) λv' hv=>?_
       obtain⟨m',T',rs,ρ',rfl,g1,g2,g3,g5,g6⟩:=hv
       obtain rfl:m'=m:=by have:=congrArg List.length (g6 hzm);rwa[Xaa,Xaa] at this
       have g5:RtV G m' c.Z z.k rs ρ ρz:=g5.mono (W0a _) (W0a _) (λi hi=>(g3 i hi).symm)
       obtain⟨σ,s1,s2⟩:=g5.sig
       have hbd:=Xvc (p:=p) hm3 hz3
       refine Ix j rfl hzu ?_
       refine Ce rfl (Xd2 hTr (by omega) s1 z6 (by omega) (by omega)) ?_
       refine ApG ((bs++[ev T σ z.k z.a]).map λa=>dN ⟨m',T,a⟩) rfl (by simp) (by simp;omega) ?_
       refine Ar (j+1:Nat) rfl ?_
       exact Bk (j+1,bs++[ev T σ z.k z.a]) [(113,9)] rfl (hI'.step (by omega) z2 (by rw[Xit hT.h s2,z4]) (img W hT z3 s1 z6)) (by show 2-(j+1)<2-j;omega)
   . have h:¬(j:Int)<2:=h
     obtain rfl:j=2:=by omega
     obtain⟨a,b,rfl,hJ⟩:=hI'.done hT
     exact Rt rfl (.tup (.cons (.gr rfl) Xa7)) ⟨m,T,a,b,rfl,hJ,hP'⟩
theorem Yfq(W:Wy c G S)(hx:NOk G S r p x vx)(hy:NOk G S r p y vy)(hp:oW c p<=4398046511104): ∃m T a b,C0 135 [.d (dNs [x,y])] (·=.tup (.pr (.d (dNs [⟨m,T,a⟩,⟨m,T,b⟩])) (.d (.int .i64 0))))/\JnR c G S p vx vy m T a b:=by
 have hG:=W.g
 obtain⟨ρx,hx1,hx2⟩:=hx.ex
 obtain⟨ρy,hy1,hy2⟩:=hy.ex
 obtain⟨m,T,hC⟩:=CmF.ex W hx1 hy1
 obtain⟨ρ,hT,hin⟩:=hC.1
 obtain⟨a,a1,a2⟩:=Yid W hT hx1 (hin x W0l ρx hx1) hx.p
 obtain⟨b,b1,b2⟩:=Yid W hT hy1 (hin y (W0p _ W0l) ρy hy1) hy.p
 refine⟨m,T,a,b,(Yae W hx hy hp hx1 hy1).mono λv ⟨m',T',a',b',e,⟨ρ',k1,k2,k3,_⟩,hC'⟩=>?_,ρ,hT,a1.trans hx2,b1.trans hy2,a2,b2⟩
 obtain⟨e1,e2⟩:=hC'.un hG hC
 subst e1
 have e2:T'=T:=e2
 subst e2
 have hu:=k1.h.uniq hG hT.h
 have ea:a'=a:=Xcs (Xad hG) hT.h hT.r (by rw[a1,hx2,<-k2];exact(Xa8 hu).symm)
 have eb:b'=b:=Xcs (Xad hG) hT.h hT.r (by rw[b1,hy2,<-k3];exact(Xa8 hu).symm)
 rw[e,ea,eb]
theorem Yau(W:Wy c G S)(hx:NOk G S r p x vx)(hy:NOk G S r p y vy)(hp:oW c p<=4398046511104): ∃m T a b,C0 78 [.d (dN x),.d (dN y)] (·=.tup (.pr (.d (dN ⟨m,T,a⟩)) (.pr (.d (dN ⟨m,T,b⟩)) (.d (.int .i64 0)))))/\JnR c G S p vx vy m T a b:=by
 obtain⟨m,T,a,b,hj,h⟩:=Yfq W hx hy hp
 refine⟨m,T,a,b,?_,h⟩
 refine En Tryz.func78 λ_ _ _=>?_
 refine Ce rfl hj ?_
 refine No rfl (by simp) ?_
 refine Dz rfl ?_
 refine Ix 0 rfl (u:=dN ⟨m,T,a⟩) rfl ?_
 refine Ix 1 rfl (u:=dN ⟨m,T,b⟩) rfl ?_
 exact RTt rfl (.cons (.rf rfl) (.cons (.rf rfl) Xa7))
def OpX(c:Fg)(f:FuncId)(x y:Nm)(G:Tw K)(S:List (Tow.El K))(p:Nat)(w:Tow.El K): Prop:=∃z:Nm,C0 f [.d (dN x),.d (dN y)] (·=.tup (.pr (.d (dN z)) (.d (.int .i64 0))))/\NOk G S c.R p z w
theorem Ych(W:Wy c G S)(hx:NOk G S r p x vx)(hy:NOk G S r p y vy)(hp:oW c p<=4398046511104): OpX c 32 x y G S (oW c p) (Tow.add K vx vy):=by
 have hO:oW c p=2*jW c p+cB c.R c.H+1:=rfl
 have hH:=W.k.h
 obtain⟨m,T,a,b,hj,ρ,h1,h3,h4,h5,h6⟩:=Yau W hx hy hp
 have h2:=W.t h1
 have hm:=W.le h1
 refine⟨⟨m,T,Tow.add m a b⟩,?_,⟨ρ,h1,by rw[<-h3,<-h4];exact Xct⟩,h2,by rw[Xav];exact(h5.add h6).mono (by omega)⟩
 refine En Tryz.func32 λ_ _ _=>?_
 refine Ce rfl hj ?_
 refine No rfl (by simp) ?_
 refine Dw rfl ?_
 refine Ce rfl (R6.Add_el (k:=m) (a:=a) (b:=b) (by omega) h5.ps h6.ps (by omega)) ?_
 exact RTt rfl (.cons (.rf rfl) Xa7)
theorem Ycg(W:Wy c G S)(hx:NOk G S r p x vx)(hy:NOk G S r p y vy)(hp:oW c p<=4398046511104): OpX c 123 x y G S (oW c p) (Tow.mul K G vx vy):=by
 have hO:oW c p=2*jW c p+cB c.R c.H+1:=rfl
 have hH:=W.k.h
 obtain⟨m,T,a,b,hj,ρ,h1,h3,h4,h5,h6⟩:=Yau W hx hy hp
 have h2:=W.t h1
 have hm:=W.le h1
 have hc:=Xe4 (r:=c.R) hm
 refine⟨⟨m,T,Tow.mul m T a b⟩,?_,⟨ρ,h1,by rw[<-h3,<-h4];exact Xa4 h1.h⟩,h2,(h5.mul h2 h6).mono (by omega)⟩
 refine En Tryz.func123 λ_ _ _=>?_
 refine Ce rfl hj ?_
 refine No rfl (by simp) ?_
 refine Dw rfl ?_
 refine Ce rfl (R6.Mul_el (k:=m) (t:=T) (a:=a) (b:=b) h2 h5 h6 (by omega) (by omega)) ?_
 exact RTt rfl (.cons (.rf rfl) Xa7)
theorem Yj8(W:Wy c G S)(hx:NOk G S r p x vx)(hy:NOk G S r p y vy)(hp:oW c p<=4398046511104): OpX c 118 x y G S (oW c p) (Tow.add K vx (Tow.neg K vy)):=by
 have:=hy.le (Xad W.g) W.s
 have hH:=W.k.h
 have hO:oW c p=2*jW c p+cB c.R c.H+1:=rfl
 have hpj:p<=jW c p:=Xvd
 obtain⟨z,hz,h⟩:=Ych W hx hy.neg hp
 refine⟨z,?_,h⟩
 refine En Tryz.func118 λ_ _ _=>?_
 refine Dw rfl ?_
 refine Ce rfl (Neg_ok hy (by omega) (by omega)) ?_
 refine Ce rfl hz ?_
 exact R0t
theorem Ykb(W:Wy c G S){q:Nat}(hx:NOk G S r q x vx)(hy:NOk G S r p y vy)(hq:iS r c.H p<=q)(hi:iB r c.H p<=4398046511104)(hp:oW c q<=4398046511104):
 (vy=zero K/\C0 198 [.d (dN x),.d (dN y)] (·=.tup (.pr (.d n0) (.d (.int .i64 6)))))\/∃w,Tow.mul K G w vy=rat K 1/\OpX c 198 x y G S (oW c q) (Tow.mul K G vx w):=by
 have hy3:=hy.le (Xad W.g) W.s
 have hH:=W.k.h
 obtain⟨ρ,h1,h2⟩:=hy.ex
 by_cases h0:y.a=zero y.k
 . refine .inl ⟨by rw[<-h2,h0,Xd3],?_⟩
   refine En Tryz.func198 λ_ _ _=>?_
   have hc:=R6.Inv0_ok (t:=y.t) (by omega)
   rw[<-h0] at hc
   refine Ce rfl hc ?_
   refine Yes rfl (by decide) ?_
   exact RTt rfl (.cons fit0 Xa7)
 . obtain⟨i,hi1⟩:=(Xcn h1.r).2 y.a h0
   have hle:=Yik (r:=r) (p:=p) hy3
   have hls:=Yed (r:=r) (p:=p) hy3
   have hz:NOk G S r q ⟨y.k,y.t,i⟩ (ev G ρ y.k i):=⟨⟨ρ,h1,rfl⟩,hy.r,(Sz.invS hy.r hy.p hi1).mono (by omega)⟩
   obtain⟨z,hm,h⟩:=Ycg (y:=⟨y.k,y.t,i⟩) W hx hz hp
   refine .inr ⟨ev G ρ y.k i,by rw[<-h2,<-Xa4 h1.h,Xb9 hi1,Xc2],z,?_,h⟩
   refine En Tryz.func198 λ_ _ _=>?_
   refine Ce rfl (R6.Inv_ok hy.r hy.p h1.r hi1 (by omega) (by omega)) ?_
   refine No rfl (by simp) ?_
   refine Ce rfl hm ?_
   exact R0t
def RtP(x z:Nm): Prop:=(∃y,z=⟨x.k,x.t,y⟩/\Tow.mul x.k x.t y y=x.a/\0<=sgn x.k x.t y)\/(z=⟨x.k+1,tsn x.t x.a,Xcr (x.k+1) x.k⟩/\0<=sgn x.k x.t x.a/\¬Xcp x.k x.t x.a)
theorem Yfm(hr:red x.k x.t)(hT:TS r x.k x.t)(ha:Sz p (toL x.k x.a))(h0:0<=sgn x.k x.t x.a)(hk:x.k<8)(hq:qB r x.k p<=4398046511104)(hq2:qB r x.k r<=4398046511104)(hv:vB r x.k (p+gC r x.k)<=4398046511104)(hv2:vB r x.k r<=4398046511104):
 ∃z:Nm,C0 199 [.d (dN x)] (·=.tup (.pr (.d (dN z)) (.d (.int .i64 0))))/\RtP x z:=by
 have h:=Sqrt_ok hr hT ha h0 hk hq hq2 hv hv2
 by_cases hs:Xcp x.k x.t x.a
 . obtain⟨y,h1,h2⟩:∃y,mul x.k x.t y y=x.a/\0<=sgn x.k x.t y:=by
    obtain⟨y,hy⟩:=hs
    by_cases hy0:0<=sgn x.k x.t y
    . exact⟨y,hy,hy0⟩
    . have L:=Xaz x.k x.t
      exact⟨Tow.neg x.k y,by rw[L.mn,L.nm,L.nn,hy],by rw[(Xau (Xad hr)).sn];omega⟩
   refine⟨⟨x.k,x.t,y⟩,h.mono λv hv=>?_,.inl ⟨y,rfl,h1,h2⟩⟩
   obtain⟨z,e,⟨y',rfl,k1,k2⟩ | ⟨_,_,k⟩⟩:=hv
   . rw[e,Xjg hr (k1.trans h1.symm) k2 h2]
   . exact absurd hs k
 . refine⟨⟨x.k+1,tsn x.t x.a,Xcr (x.k+1) x.k⟩,h.mono λv hv=>?_,.inr ⟨rfl,h0,hs⟩⟩
   obtain⟨z,e,⟨y',_,k1,_⟩ | ⟨rfl,_,_⟩⟩:=hv
   . exact absurd ⟨y',k1⟩ hs
   . exact e
end
open Go Go.Vm Go.Num Go.Tow Go.Proofs.YtfjafaehfjjaiaaGreatDoor
theorem Yoo{σ:Type}{I:Nat->σ->Prop}{R:Nat->σ->σ->Prop}{n:Nat}{s0:σ}(h0:I 0 s0)(hs:∀i s,i<n->I i s->∃s',R i s s'/\I (i+1) s'): ∃X:Nat->σ,X 0=s0/\(∀i,i<=n->I i (X i))/\∀i,i<n->R i (X i) (X (i+1)):=by
 have:∀i,∀s,∃s',i<n->I i s->R i s s'/\I (i+1) s':=λi s=>by
  by_cases h:i<n/\I i s
  . obtain⟨s',h'⟩:=hs i s h.1 h.2
    exact⟨s',λ_ _=>h'⟩
  . exact⟨s,λa b=>absurd ⟨a,b⟩ h⟩
 obtain⟨f,hf⟩:=W4v λi=>W4v (this i)
 let X:Nat->σ:=λi=>Nat.rec s0 (λi s=>f i s) i
 have hI:∀i,i<=n->I i (X i):=λi=>by
  induction i with
  | zero=>exact λ_=>h0
  | succ i ih=>exact λh=>(hf i (X i) (by omega) (ih (by omega))).2
 exact⟨X,rfl,hI,λi h=>(hf i (X i) h (hI i (by omega))).1⟩
def oQ(o:RO): Rat:=Rat.divInt o.n (o.d%8+1:Nat)
def Rs2(f:FuncId)(x y z:Nm): Prop:=C0 f [.d (dN x),.d (dN y)] (·=.tup (.pr (.d (dN z)) (.d (.int .i64 0))))
open Classical in
noncomputable def pzN(x:Nm): Nm:=if sgn x.k x.t x.a<0 then ⟨x.k,x.t,Tow.neg x.k x.a⟩ else x
def Ykd(o:RO)(n:Nat)(l:List Nm)(z:Nm)(n':Nat): Prop :=
 (l.length=0\/o.kind%6=0->z=⟨0,(),oQ o⟩/\n'=n) /\
 (0<l.length->∀xa xb,l[o.a%l.length]?=some xa->l[o.b%l.length]?=some xb ->
  (o.kind%6=1->n'=n/\Rs2 32 xa xb z)/\(o.kind%6=2->n'=n/\Rs2 118 xa xb z)/\(o.kind%6=3->n'=n/\Rs2 123 xa xb z) /\
  (o.kind%6=4->n'=n/\(Rs2 198 xa xb z\/(z=xa/\C0 198 [.d (dN xa),.d (dN xb)] (·=.tup (.pr (.d n0) (.d (.int .i64 6))))))) /\
  (o.kind%6=5->(n<3->n'=n+1/\C0 199 [.d (dN (pzN xa))] (·=.tup (.pr (.d (dN z)) (.d (.int .i64 0)))))/\(¬n<3->n'=n/\z=xa)))
def Nxt(l:List Nm)(z z':Nm): Prop:=(0<l.length/\¬shN z->∃y,l[l.length-1]?=some y/\z'=trF y.k y)/\(l.length=0\/shN z->z'=trF z.k z)
def StB(ops:List RO)(i:Nat)(s s':Nat×List Nm): Prop:=∀o,ops[i]?=some o->∃z z',Ykd o s.1 s.2 z s'.1/\Big s.2 s'.1 z/\Nxt s.2 z z'/\s'.2=s.2++[z']
def InB(i:Nat)(s:Nat×List Nm): Prop:=s.2.length=i/\s.1<=3/\(∀z∈s.2,Tm z/\shN z)/\Wld s.1 s.2 λ_ _=>True
theorem Ylv(o:RO): sh (oQ o):=by
 obtain⟨o1,o2,o3,o4,o5⟩:=o.h
 exact Yej ⟨o5.1,o5.2⟩ ⟨by omega,by omega⟩
theorem Xui(o:RO): shN ⟨0,(),oQ o⟩:=⟨λx hx=>by obtain rfl:=W0h.1 hx;exact Ylv o,λl hl=>nomatch hl⟩
theorem Yhk(o:RO){K:Nat}(G:Tw K)(S:List (Tow.El K))(r p:Nat)(hp:65<=p): NOk G S r p ⟨0,(),oQ o⟩ (rat K (oQ o)):=⟨⟨λ_=>zero _,⟨trivial,trivial,λi hi=>absurd hi (W3h _)⟩,rfl⟩,trivial,sh_sz (n:=1) (Xui o).1 (W0a _) (by omega)⟩
theorem Ylj{K:Nat}{G:Tw K}{S:List (Tow.El K)}{y:Nm}{vy:Tow.El K}(hG:red K G)(hS3:S.length<=3)(hy:NOk G S 300 600 y vy)(h0:0<=sgn y.k y.t y.a): ∃z:Nm,C0 199 [.d (dN y)] (·=.tup (.pr (.d (dN z)) (.d (.int .i64 0))))/\RtP y z:=by
 obtain⟨b1,b2,b3,b4,b5,b6,b7,b8,b9,b10,b11,b12,b13⟩:=Yfz
 have hGr:=Xad hG
 obtain⟨ρ,y1,y2⟩:=hy.ex
 have ky:=hy.le hGr hS3
 have q1:=Xn2 (r:=300) (p:=600) ky
 have q2:=Xn2 (r:=300) (p:=300) ky
 have q3:=Xcv (r:=300) (k:=y.k) (show 600+gC 300 y.k<=600+gC 300 3 by have:=Xv2 (r:=300) ky;omega)
 have q4:=Xgj (r:=300) (s:=600+gC 300 3) ky
 have q5:=Xgj (r:=300) (s:=300) ky
 exact Yfm y1.r hy.r hy.p h0 (by omega) (by omega) (by omega) (by omega) (by omega)
theorem Yg5{n:Nat}{l:List Nm}{K:Nat}{G:Tw K}{S:List (Tow.El K)}{y z:Nm}{vy:Tow.El K}(hG:red K G)(hS:S.length<=n)(hn:n<3)(hq:Yce G S 300 600)(hall:∀z∈l,∃v,NOk G S 300 600 z v)(hy:NOk G S 300 600 y vy)(hv:RtP y z): Big l (n+1) z:=by
 obtain⟨b1,b2,b3,b4,b5,b6,b7,b8,b9,b10,b11,b12,b13⟩:=Yfz
 have hGr:=Xad hG
 obtain⟨ρ,y1,y2⟩:=hy.ex
 have ky:=hy.le hGr (show S.length<=3 by omega)
 rcases hv with ⟨w,rfl,e1,e2⟩ | ⟨rfl,e1,e2⟩
 . exact⟨by omega,K,G,S,hG,by omega,hq,hall,_,⟨ρ,y1,rfl⟩,hy.r.mono b1,(hy.p.rootS hy.r y1.r e1).mono (W0k (Nat.add_le_add_left (Xv2 ky) _) b3)⟩
 . exact⟨by omega,Xrp hG hS hq hall y1 hy.r hy.p e1 e2 ⟨hy.r.mono b1,hy.p.mono (by omega)⟩ ((Xty y.k).mono (by omega))⟩
theorem Ye6(o:RO){n:Nat}{l:List Nm}(hn3:n<=3)(hw:Wld n l λ_ _=>True): ∃z n',Ykd o n l z n'/\Big l n' z:=by
 obtain⟨b1,b2,b3,b4,b5,b6,b7,b8,b9,b10,b11,b12,b13⟩:=Yfz
 obtain⟨K,G,S,hG,hS,hq,hall,_⟩:=hw
 have hS3:=W0k hS hn3
 have hGr:=Xad hG
 have W:=hq.wd hG hS3
 have ok:∀ {z:Nm} {v:Tow.El K},NOk G S gF.R (oW gF 1000000) z v->Big l n z:=λh=>⟨hn3,K,G,S,hG,hS,hq,hall,_,h⟩
 by_cases h0:l.length=0\/o.kind%6=0
 . exact⟨_,n,⟨λ_=>⟨rfl,rfl⟩,λh1 xa xb _ _=>⟨λh=>by omega,λh=>by omega,λh=>by omega,λh=>by omega,λh=>by omega⟩⟩,ok (Yhk o G S _ _ (by omega))⟩
 have hl0:0<l.length:=by omega
 obtain⟨xa,hxa⟩:∃x,l[o.a%l.length]?=some x:=⟨_,W0c (W1q _ hl0)⟩
 obtain⟨xb,hxb⟩:∃x,l[o.b%l.length]?=some x:=⟨_,W0c (W1q _ hl0)⟩
 obtain⟨va,ha⟩:=hall xa (W0f hxa)
 obtain⟨vb,hb⟩:=hall xb (W0f hxb)
 have ha1:NOk G S 300 1000000 xa va:=ha.mono (W0a _) (by decide)
 have hb1:NOk G S 300 1000000 xb vb:=hb.mono (W0a _) (by decide)
 have same:Big l n xa:=ok (ha.mono b1 b2)
 have mk:∀ {z:Nm} {n':Nat},((o.kind%6=1->n'=n/\Rs2 32 xa xb z)/\(o.kind%6=2->n'=n/\Rs2 118 xa xb z)/\(o.kind%6=3->n'=n/\Rs2 123 xa xb z) /\
  (o.kind%6=4->n'=n/\(Rs2 198 xa xb z\/(z=xa/\C0 198 [.d (dN xa),.d (dN xb)] (·=.tup (.pr (.d n0) (.d (.int .i64 6))))))) /\
  (o.kind%6=5->(n<3->n'=n+1/\C0 199 [.d (dN (pzN xa))] (·=.tup (.pr (.d (dN z)) (.d (.int .i64 0)))))/\(¬n<3->n'=n/\z=xa)))->Ykd o n l z n':=λh=>⟨λe=>absurd e h0,λ_ ya yb h1 h2=>by
   rw[hxa] at h1;rw[hxb] at h2
   cases h1;cases h2
   exact h⟩
 have hk:o.kind%6<6:=W1q _ (by decide)
 have c:o.kind%6=1\/o.kind%6=2\/o.kind%6=3\/o.kind%6=4\/o.kind%6=5:=by omega
 rcases c with e | e | e | e | e
 . obtain⟨z,hz,hN⟩:=Ych W ha1 hb1 b13
   exact⟨z,n,mk ⟨λ_=>⟨rfl,hz⟩,λh=>by omega,λh=>by omega,λh=>by omega,λh=>by omega⟩,ok hN⟩
 . obtain⟨z,hz,hN⟩:=Yj8 W ha1 hb1 b13
   exact⟨z,n,mk ⟨λh=>by omega,λ_=>⟨rfl,hz⟩,λh=>by omega,λh=>by omega,λh=>by omega⟩,ok hN⟩
 . obtain⟨z,hz,hN⟩:=Ycg W ha1 hb1 b13
   exact⟨z,n,mk ⟨λh=>by omega,λh=>by omega,λ_=>⟨rfl,hz⟩,λh=>by omega,λh=>by omega⟩,ok hN⟩
 . rcases Ykb W ha1 hb b5 b6 b13 with ⟨_,hz⟩ | ⟨w,_,z,hz,hN⟩
   . exact⟨xa,n,mk ⟨λh=>by omega,λh=>by omega,λh=>by omega,λ_=>⟨rfl,.inr ⟨rfl,hz⟩⟩,λh=>by omega⟩,same⟩
   . exact⟨z,n,mk ⟨λh=>by omega,λh=>by omega,λh=>by omega,λ_=>⟨rfl,.inl hz⟩,λh=>by omega⟩,ok hN⟩
 . by_cases hn:n<3
   . have hp:∃vy,NOk G S 300 600 (pzN xa) vy/\0<=sgn (pzN xa).k (pzN xa).t (pzN xa).a:=by
      obtain⟨ρ,r1,r2⟩:=ha.ex
      by_cases hs:sgn xa.k xa.t xa.a<0
      . rw[show pzN xa=⟨xa.k,xa.t,Tow.neg xa.k xa.a⟩ from if_pos hs]
        exact⟨_,ha.neg,by show 0<=sgn xa.k xa.t (Tow.neg xa.k xa.a);rw[(Xau (Xad r1.r)).sn];omega⟩
      . rw[show pzN xa=xa from if_neg hs]
        exact⟨_,ha,by omega⟩
     obtain⟨vy,hy,hy0⟩:=hp
     obtain⟨z,hz,hR⟩:=Ylj hG hS3 hy hy0
     exact⟨z,n+1,mk ⟨λh=>by omega,λh=>by omega,λh=>by omega,λh=>by omega,λ_=>⟨λ_=>⟨rfl,hz⟩,λh=>absurd hn h⟩⟩,Yg5 hG hS hn hq hall hy hR⟩
   . exact⟨xa,n,mk ⟨λh=>by omega,λh=>by omega,λh=>by omega,λh=>by omega,λ_=>⟨λh=>absurd h hn,λ_=>⟨rfl,rfl⟩⟩⟩,same⟩
section
variable{K:Nat}{G:Tw K}{S:List (Tow.El K)}{r p:Nat}{v:Tow.El K}
theorem Xs4{P:Rat->Prop}(hG:red K G): ∀(n:Nat) (z:Nm),n<=z.k->NOk G S r p z v->Als P z->(∀j,n<=j->j<z.k->nd z j)->NOk G S r p (trF n z) v/\Als P (trF n z)/\Tm (trF n z)
 | 0,z,_,h,hA,hn=>⟨h,hA,λi hi=>hn i (W0z _) hi⟩
 | i+1,z,hk,h,hA,hn=>by
  by_cases hd:nd z i
  . rw[Xke hd]
    refine Xs4 hG i z (by omega) h hA λj a b=>?_
    by_cases e:i=j
    . subst e;exact hd
    . exact hn j (by omega) b
  obtain⟨k,T,c⟩:=z
  have hk:i+1<=k:=hk
  obtain⟨m,rfl⟩:∃m,k=m+1:=⟨k-1,by omega⟩
  have him:i<=m:=by omega
  rw[Xs3 hd]
  obtain⟨ρ,a1,a2⟩:=h.ex
  have no1:¬oc (toL (m+1) c) i:=λe=>hd (.inl e)
  have no2:∀j l,i<j->(toT (m+1) T)[j]?=some l->¬oc l i:=λj l a b e=>hd (.inr ⟨j,l,a,b,e⟩)
  refine Xs4 hG i ⟨m,rmT m i T,rm m i c⟩ him ⟨⟨skip i ρ,a1.rm (Xad hG) him no2,by rw[<-a2];exact Yep him no1⟩,h.r.rm him,?_⟩ ⟨?_,?_⟩ λj a b=>Yhr him hd a b (hn (j+1) (by omega) (by show j+1<m+1;have b:j<m:=b;omega))
  . show Sz p (toL m (rm m i c))
    rw[Xfy him];exact h.p.sub λx hx=>Xe6 hx
  . show ∀q∈toL m (rm m i c),P q
    rw[Xfy him];exact λq hq=>hA.1 q (Xe6 hq)
  . show ∀l∈toT m (rmT m i T),∀q∈l,P q
    rw[Xkf him]
    intro l hl q hq
    rcases W1s.1 hl with hl | hl
    . exact hA.2 l (W4e hl) q hq
    . obtain⟨l',hl',rfl⟩:=W2y.1 hl
      exact hA.2 l' (W4f hl') q (Xe6 hq)
theorem Xo3{x:Nm}(hs:shN x)(hG:red K G)(hS:S.length<=3)(hx:NOk G S r p x v)(hr:r<=8796093022208)(hp:p<=8796093022208): C0 201 [.d (dN x)] (·=.d (dN (trF x.k x))):=(Xxi (P:=sh) hs hG hS hx hr hp).mono λ_ ⟨z,e,_,_,h⟩=>by rw[e,h]
end
theorem Yc1{ops:List RO}{i:Nat}{s:Nat×List Nm}(h:InB i s): ∃s',StB ops i s s'/\InB (i+1) s':=by
 obtain⟨n,l⟩:=s
 obtain⟨hl,hn3,hm,hw⟩:=h
 simp only at hl hn3 hm hw
 have go:∀o,∃s',(∃z z',Ykd o n l z s'.1/\Big l s'.1 z/\Nxt l z z'/\s'.2=l++[z'])/\InB (i+1) s':=λo=>by
  obtain⟨z,n',hC,hB⟩:=Ye6 o hn3 hw
  have hB':=hB
  obtain⟨hn',K,G,S,hG,hS,hq,hall,v,hz⟩:=hB
  have hS3:=W0k hS hn'
  have kz:z.k<=3:=hz.le (Xad hG) hS3
  have fin:∀y vy,NOk G S 300 600 y vy->shN y->Nxt l z (trF y.k y)->∃s':Nat×List Nm,(∃z z',Ykd o n l z s'.1/\Big l s'.1 z/\Nxt l z z'/\s'.2=l++[z'])/\InB (i+1) s':=λy vy hy hs hN=>by
   obtain⟨t1,t2,t3⟩:=Xs4 (P:=sh) hG y.k y (W0a _) hy hs (λj a b=>by omega)
   refine⟨(n',l++[trF y.k y]),⟨z,_,hC,hB',hN,rfl⟩,by simp[hl],hn',λx hx=>?_,K,G,S,hG,hS,hq,λx hx=>?_,trivial⟩
   . rcases W1s.1 hx with hx | hx
     . exact hm x hx
     . rw[W0h.1 hx];exact⟨t3,t2⟩
   . rcases W1s.1 hx with hx | hx
     . exact hall x hx
     . rw[W0h.1 hx];exact⟨_,t1⟩
  by_cases hc:0<l.length/\¬shN z
  . obtain⟨y,hy⟩:∃y,l[l.length-1]?=some y:=⟨_,W0c (by omega)⟩
    obtain⟨vy,hvy⟩:=hall y (W0f hy)
    exact fin y vy hvy (hm y (W0f hy)).2 ⟨λ_=>⟨y,hy,rfl⟩,λh=>h.elim (λh=>by omega) λh=>absurd h hc.2⟩
  . have hs:shN z:=by
     by_cases hs:shN z
     . exact hs
     . have h0:l.length=0:=by
        by_cases h0:l.length=0
        . exact h0
        . exact absurd ⟨by omega,hs⟩ hc
       rw[(hC.1 (.inl h0)).1];exact Xui o
    exact fin z v (hs.ok hz kz) hs ⟨λh=>absurd h hc,λ_=>rfl⟩
 cases ho:ops[i]? with
 | none =>
  obtain⟨s',_,h⟩:=go ⟨0,0,0,0,0,by decide⟩
  exact⟨s',(λo h=>by rw[ho] at h;cases h),h⟩
 | some o =>
  obtain⟨s',h1,h⟩:=go o
  exact⟨s',(λo' h=>by rw[ho] at h;cases h;exact h1),h⟩
theorem Build_fx(ops:List RO): ∃l:List Nm,C0 120 [.d (dRs ops)] (·=.d (dNs l))/\l.length<=24/\(∀z∈l,Tm z/\shN z)/\Wld 3 l λ_ _=>True:=by
 obtain⟨X,hX0,hXI,hXR⟩:=Yoo (I:=InB) (R:=StB ops) (n:=24) (s0:=(0,[])) ⟨rfl,W0z _,(λz hz=>nomatch hz),0,(),[],trivial,W0a _,(λg hg=>by cases hg),(λy hy=>by cases hy),trivial⟩ λi s _ h=>Yc1 h
 obtain⟨N,hN,hN1,hN2⟩:∃N,N<=24/\N<=ops.length/\(N=24\/N=ops.length):=⟨min 24 ops.length,by omega,by omega,by omega⟩
 obtain⟨f1,f2,f3,f4⟩:=hXI N hN
 refine⟨(X N).2,?_,by omega,f3,Xxv f4 f2⟩
 refine En Tryz.func120 λ_ _ _=>?_
 refine Nl 3 3 2 rfl ?_
 refine Lo (λi:Nat=>[(0,.d (dRs ops)),(3,.gr 3 2 ((X i).2.map dN)),(4,.d (.int .i64 (X i).1)),(5,.d (.int .i64 i))]) (λi=>[(3,.tok ((X i).2.map dN).length 2)]) (λi=>i<=N) (λi=>N-i) 0 [] rfl (W0z _) (λi hi=>?_) (by rw[hX0];exact⟨rfl,rfl,rfl,rfl,rfl⟩)
 obtain⟨hl,hn3,hm,hw⟩:=hXI i (by omega)
 by_cases hiN:i=N
 . subst hiN
   rcases hN2 with e | e
   . by_cases h:i<ops.length
     . refine Yes rfl (show (i:Int)<((ops.map dO).length:Nat) by rw[W0i];omega) ?_
       refine No rfl (show ¬(i:Int)<24 by omega) ?_
       exact R1 rfl (.gr rfl)
     . refine No rfl (show ¬(i:Int)<((ops.map dO).length:Nat) by rw[W0i];omega) ?_
       exact R1 rfl (.gr rfl)
   . refine No rfl (show ¬(i:Int)<((ops.map dO).length:Nat) by rw[W0i];omega) ?_
     exact R1 rfl (.gr rfl)
 have hi':i<N:=by omega
 obtain⟨o,ho⟩:∃o,ops[i]?=some o:=⟨_,W0c (by omega)⟩
 obtain⟨z,z',hC,hB,hNx,hS⟩:=hXR i (by omega) o ho
 obtain⟨n,l,hXi⟩:∃n l,X i=(n,l):=⟨_,_,rfl⟩
 obtain⟨n',l',hXs⟩:∃n l,X (i+1)=(n,l):=⟨_,_,rfl⟩
 rw[hXi] at hl hn3 hm hw hC hB hNx hS |-
 rw[hXs] at hC hB hS
 simp only at hl hn3 hm hw hC hB hNx hS
 rw[hS] at hXs
 have nx:∀ {j:Nat},j=i+1->X j=(n',l++[z']):=λe=>by rw[e,hXs]
 obtain⟨o1,o2,o3,o4,o5⟩:=o.h
 obtain⟨K,G,S,hG,hS,hq,hall,_⟩:=hw
 have hS3:=W0k hS hn3
 have hGr:=Xad hG
 have W:=hq.wd hG hS3
 obtain⟨b1,b2,b3,b4,b5,b6,b7,b8,b9,b10,b11,b12,b13⟩:=Yfz
 refine Yes rfl (show (i:Int)<((ops.map dO).length:Nat) by rw[W0i];omega) ?_
 refine Yes rfl (show (i:Int)<24 by omega) ?_
 refine Ix i rfl (u:=dO o) (by rw[W1p,ho];rfl) ?_
 refine Go.Vm.Cv o.n rfl ?_ (wI (by omega))
 refine Ar (o.d%8:Nat) rfl ?_ (remN (by decide))
 refine Go.Vm.Cv (o.d%8:Nat) rfl ?_ (wI (by omega))
 refine Ar (o.d%8+1:Nat) rfl ?_
 have hfr:C0 196 [.d (.int .i64 o.n),.d (.int .i64 (o.d%8+1:Nat))] (·=.d (dN ⟨0,(),oQ o⟩)):=Frac_ok (a:=o.n) (b:=(o.d%8+1:Nat)) (by omega) (by omega) (by omega)
 refine Ce rfl hfr ?_
 refine By rfl (λh3=>?_) λh3=>?_
 . have h3:((l.map dN).length:Int)>0:=h3
   rw[W0i] at h3
   refine Ar (o.kind%6:Nat) rfl ?_ (remN (by decide))
   refine Cu none (λ(s:Nm×Nat)=>[(0,.d (dRs ops)),(3,.gr 3 2 (l.map dN)),(4,.d (.int .i64 s.2)),(5,.d (.int .i64 i)),(7,.ptr 7 0)]) (λs=>[(3,.tok (l.map dN).length 2),(7,.var (.d (dN s.1)))]) (λs=>s=(z,n')) rfl ?_ (λ(z1,n1) hE=>?_)
   . refine By rfl (λh4=>?_) λh4=>?_
     . obtain⟨xa,hxa⟩:∃x,l[o.a%l.length]?=some x:=⟨_,W0c (W1q _ (by omega))⟩
       obtain⟨xb,hxb⟩:∃x,l[o.b%l.length]?=some x:=⟨_,W0c (W1q _ (by omega))⟩
       obtain⟨d1,d2,d3,d4,d5⟩:=hC.2 (by omega) xa xb hxa hxb
       obtain⟨va,ha⟩:=hall xa (W0f hxa)
       have hua:(l.map dN)[o.a%l.length]?=some (dN xa):=by rw[W1p,hxa];rfl
       have hub:(l.map dN)[o.b%l.length]?=some (dN xb):=by rw[W1p,hxb];rfl
       have hrm:∀ {c:Nat},arB .rem .i64 c ((l.map dN).length:Nat) (c%l.length:Nat):=λ{c}=>by rw[W0i];exact remN (by omega)
       have ka:=ha.le hGr hS3
       have hk6:o.kind%6<6:=W1q _ (by decide)
       have h4:((o.kind%6:Nat):Int)≠0:=h4
       refine Dz rfl ?_
       refine Go.Vm.Cv (o.a:Nat) rfl ?_ (wI (by omega))
       refine Ar (o.a%l.length:Nat) rfl ?_ hrm
       refine Ix (o.a%l.length) rfl hua ?_
       refine Go.Vm.Cv (o.b:Nat) rfl ?_ (wI (by omega))
       refine Ar (o.b%l.length:Nat) rfl ?_ hrm
       refine Ix (o.b%l.length) rfl hub ?_
       refine Ar (o.kind%6:Nat) rfl ?_ (remN (by decide))
       refine By rfl (λc1=>?_) λc1=>?_
       . have c1:((o.kind%6:Nat):Int)=1:=c1
         obtain⟨rfl,hz⟩:=d1 (by omega)
         refine Ce rfl hz ?_
         refine Ce rfl (Xgr (x:=z) (y:=xa)) ?_
         exact Jn (z,n') [] rfl rfl
       refine By rfl (λc2=>?_) λc2=>?_
       . have c2:((o.kind%6:Nat):Int)=2:=c2
         obtain⟨rfl,hz⟩:=d2 (by omega)
         refine Ce rfl hz ?_
         refine Ce rfl (Xgr (x:=z) (y:=xa)) ?_
         exact Jn (z,n') [] rfl rfl
       refine By rfl (λc3=>?_) λc3=>?_
       . have c3:((o.kind%6:Nat):Int)=3:=c3
         obtain⟨rfl,hz⟩:=d3 (by omega)
         refine Ce rfl hz ?_
         refine Ce rfl (Xgr (x:=z) (y:=xa)) ?_
         exact Jn (z,n') [] rfl rfl
       refine By rfl (λc4=>?_) λc4=>?_
       . have c4:((o.kind%6:Nat):Int)=4:=c4
         obtain⟨rfl,hz | ⟨rfl,hz⟩⟩:=d4 (by omega)
         . refine Ce rfl hz ?_
           refine Ce rfl (Xgr (x:=z) (y:=xa)) ?_
           exact Jn (z,n') [] rfl rfl
         . refine Ce rfl hz ?_
           refine Ce rfl (Xyz (y:=z)) ?_
           exact Jn (z,n') [] rfl rfl
       have c1:¬((o.kind%6:Nat):Int)=1:=c1
       have c2:¬((o.kind%6:Nat):Int)=2:=c2
       have c3:¬((o.kind%6:Nat):Int)=3:=c3
       have c4:¬((o.kind%6:Nat):Int)=4:=c4
       obtain⟨e1,e2⟩:=d5 (by omega)
       have q6:=Xgj (r:=300) (s:=600) ka
       have hsg:=ha.sgn hGr
       refine Ce rfl (Sign_ok hG ha (by omega) (by omega)) ?_
       refine By rfl (λc5=>?_) λc5=>?_
       . refine Ce rfl (Neg_ok ha (by omega) (by decide)) ?_
         have hpz:pzN xa=⟨xa.k,xa.t,Tow.neg xa.k xa.a⟩:=if_pos (by rw[<-hsg];exact c5)
         rw[hpz] at e1
         refine By rfl (λc6=>?_) λc6=>?_
         . have c6:(n:Int)<3:=c6
           obtain⟨rfl,hz⟩:=e1 (by omega)
           refine Ar (n+1:Nat) rfl ?_ (wr (show (n:Int)+1=((n+1:Nat):Int) by omega) (by simp only[inK];omega))
           refine Ce rfl hz ?_
           refine Ce rfl (Xgr (x:=z) (y:=⟨xa.k,xa.t,Tow.neg xa.k xa.a⟩)) ?_
           exact Jn (z,n+1) [] rfl rfl
         . have c6:¬(n:Int)<3:=c6
           obtain⟨rfl,rfl⟩:=e2 (by omega)
           exact Jn (z,n') [] rfl rfl
       . have hpz:pzN xa=xa:=if_neg (by rw[<-hsg];exact c5)
         rw[hpz] at e1
         refine By rfl (λc6=>?_) λc6=>?_
         . have c6:(n:Int)<3:=c6
           obtain⟨rfl,hz⟩:=e1 (by omega)
           refine Ar (n+1:Nat) rfl ?_ (wr (show (n:Int)+1=((n+1:Nat):Int) by omega) (by simp only[inK];omega))
           refine Ce rfl hz ?_
           refine Ce rfl (Xgr (x:=z) (y:=xa)) ?_
           exact Jn (z,n+1) [] rfl rfl
         . have c6:¬(n:Int)<3:=c6
           obtain⟨rfl,rfl⟩:=e2 (by omega)
           exact Jn (z,n') [] rfl rfl
     . have h4:¬((o.kind%6:Nat):Int)≠0:=h4
       obtain⟨rfl,rfl⟩:=hC.1 (.inr (by omega))
       exact Jn (⟨0,(),oQ o⟩,n') [] rfl rfl
   . obtain⟨rfl,rfl⟩:=Prod.mk.inj hE
     obtain⟨hn',K,G,S,hG,hS,hq,hall,v,hz⟩:=hB
     have hS3:=W0k hS hn'
     have hGr:=Xad hG
     have kz:z1.k<=3:=hz.le hGr hS3
     refine Yes rfl (by rw[W0i];exact h3) ?_
     refine Ce rfl (Yd1 (x:=z1) (W0k kz (by decide))) ?_
     refine By rfl (λh5=>?_) λh5=>?_
     . obtain⟨y,hy,rfl⟩:=hNx.1 ⟨by omega,h5⟩
       obtain⟨vy,hvy⟩:=hall y (W0f hy)
       refine Ar (l.length-1:Nat) rfl ?_ (wr (by rw[W0i];omega) (by simp only[inK];omega))
       refine Ix (l.length-1) rfl (u:=dN y) (by rw[W1p,hy];rfl) ?_
       refine Ce rfl (Xo3 (hm y (W0f hy)).2 hG hS3 hvy (by decide) (by decide)) ?_
       refine ApG ((l++[trF y.k y]).map dN) rfl (by simp) (by simp;omega) ?_
       refine Ar (i+1:Nat) rfl ?_
       exact Bk (i+1) [(157,3)] rfl (by omega) (by show N-(i+1)<N-i;omega) (by simp only[nx rfl];exact⟨rfl,rfl,rfl,rfl,rfl⟩)
     . have hsh:shN z1:=by simpa [Xal,Xah] using h5
       obtain rfl:=hNx.2 (.inr hsh)
       refine Ce rfl (Xo3 hsh hG hS3 (hsh.ok hz kz) (by decide) (by decide)) ?_
       refine ApG ((l++[trF z1.k z1]).map dN) rfl (by simp) (by simp;omega) ?_
       refine Ar (i+1:Nat) rfl ?_
       exact Bk (i+1) [(157,3)] rfl (by omega) (by show N-(i+1)<N-i;omega) (by simp only[nx rfl];exact⟨rfl,rfl,rfl,rfl,rfl⟩)
 . have h4:¬(l.length:Int)>0:=by
    have h4:¬((l.map dN).length:Int)>0:=h3
    rwa[W0i] at h4
   clear h3
   obtain⟨rfl,rfl⟩:=hC.1 (.inl (by omega))
   obtain rfl:=hNx.2 (.inl (by omega))
   refine No rfl (by rw[W0i];exact h4) ?_
   refine Ce rfl (Xo3 (Xui o) hG hS3 (Yhk o G S 300 600 (by decide)) (by decide) (by decide)) ?_
   refine ApG ((l++[trF 0 ⟨0,(),oQ o⟩]).map dN) rfl (by simp) (by simp;omega) ?_
   refine Ar (i+1:Nat) rfl ?_
   exact Bk (i+1) [(157,3)] rfl (by omega) (by show N-(i+1)<N-i;omega) (by simp only[nx rfl];exact⟨rfl,rfl,rfl,rfl,rfl⟩)
end Go.Proofs.YtfjafaehfjjaiaaGreatDoor.R9
namespace Go.Proofs.YtfjafaehfjjaiaaGreatDoor.R20
open Go Go.Vm Go.Num Go.Tow Go.Proofs.YtfjafaehfjjaiaaGreatDoor Go.Proofs.YtfjafaehfjjaiaaGreatDoor.P20
structure SQ {K:Nat} (G:Tw K) (S:List (Tow.El K)) (N:List Nm) (U:Nat) (x:SV K):Prop where
 c:Gd G S N 9 x.s.c x.a
 v:Gv G S N U x.s.v x.p
section
variable{K:Nat}{G:Tw K}{S:List (Tow.El K)}{N:List Nm}{U U' n m:Nat}{x y z:Nm}{a b:Tow.El K}{L M:List (SV K)}
theorem NF.sq(h:NF G S N U L): ∀y∈L,SQ G S N U y:=λy hy=>⟨(h.m y hy).c,(h.m y hy).v.v⟩
def Vat(G:Tw K)(l:List (Tr K))(i:Nat)(s:Tr K): Prop:=(0<sgn K G s.1/\s.2.1≠vz K/\lim s.2.2/\¬tz G s)/\∀j r,i=j+1->l[j]?=some r->clt G r.1 s.1
def VlP(G:Tw K)(l:List (Tr K)): Prop:=∀i s,l[i]?=some s->Vat G l i s
theorem Vat.next{k:Nat}{s:Tr K}{l:List (Tr K)}(hI:∀i s,i<k->l[i]?=some s->Vat G l i s)(hs:l[k]?=some s)(h:Vat G l k s): ∀i s,i<k+1->l[i]?=some s->Vat G l i s:=λi t hi ht=>by
 by_cases e:i=k
 . subst e;rw[hs] at ht;cases ht;exact h
 . exact hI i t (by omega) ht
theorem VlP.of{l:List (Tr K)}(hI:∀i s,i<l.length->l[i]?=some s->Vat G l i s): VlP G l:=λi s h=>hI i s (W0n.1 h).1 h
theorem Yji(hG:red K G)(h:clt G a b): ¬sgn K G (Tow.add K a (Tow.neg K b))>=0:=by unfold clt at h;omega
theorem Valid_v(W:Wn G S N)(hU:U<=400)(hl:L.length<=100)(hL:∀y∈L,SQ G S N U y): C0 16 [.d (dAr x (ls L))] (·=.b (dc (VlP G (Xb3 L)))):=by
 have hG:=W.w.g
 refine En Tryz.func16 λ_ _ _=>?_
 refine Lo (λk:Nat=>[(1,.ptr 1 0),(3,.d (.int .i64 k))]) (λ_=>[(1,.var (.d (dAr x (ls L))))]) (λk=>k<=L.length/\∀i s,i<k->(Xb3 L)[i]?=some s->Vat G (Xb3 L) i s) (λk=>L.length-k) 0 [] rfl ⟨W0z _,λi s h=>absurd h (W3h _)⟩ λk ⟨hk,hI⟩=>?_
 refine By rfl (λh1=>?_) λh1=>?_<;>rw[Xbf] at h1
 . obtain⟨s,hs⟩:∃s,L[k]?=some s:=⟨_,W0c (by omega)⟩
   have hv:=Xdr hs
   have H:=hL s (W0f hs)
   refine Ix k rfl (Xd9 hs) ?_
   refine Ce rfl (R19.Valid_g W H.v (by omega)) ?_
   refine By rfl (λg1=>?_) λg1=>?_
   . have g1:¬(s.p≠vz K/\lim s.s.f):=by simpa only [Xal,Xah] using g1
     rw[P11.dcF λh=>g1 ⟨(h k _ hv).1.2.1,(h k _ hv).1.2.2.1⟩]
     exact R0
   have g1:s.p≠vz K/\lim s.s.f:=W2g.1 (by simpa only [Xal,Xah] using g1)
   refine Ce rfl (Zero_g W H.v (by omega)) ?_
   refine By rfl (λg2=>?_) λg2=>?_
   . rw[P11.dcF λh=>(h k _ hv).1.2.2.2 g2]
     exact R0
   refine Ce rfl (R9.Sign_g W H.c (by decide)) ?_
   refine By rfl (λg3=>?_) λg3=>?_
   . rw[P11.dcF λh=>by have:=(h k _ hv).1.1;have:0<sgn K G s.a:=this;omega]
     exact R0
   have base:0<sgn K G s.a/\s.p≠vz K/\lim s.s.f/\¬tz G (s.a,s.p,s.s.f):=⟨by omega,g1.1,g1.2,g2⟩
   refine Dw rfl ?_
   refine By rfl (λh2=>?_) λh2=>?_
   . obtain⟨j,rfl⟩:∃j,k=j+1:=⟨k-1,by omega⟩
     obtain⟨r,hr⟩:∃r,L[j]?=some r:=⟨_,W0c (by omega)⟩
     have hrv:=Xdr hr
     refine Ar (j:Nat) rfl ?_
     refine Ix j rfl (Xd9 hr) ?_
     refine Ce rfl (Xck W (hL r (W0f hr)).c H.c (by decide) (by decide)) ?_
     refine By rfl (λg4=>?_) λg4=>?_
     . rw[P11.dcF λh=>Yji hG ((h (j+1) _ hv).2 j _ rfl hrv) g4]
       exact R0
     . refine Ar (j+1+1:Nat) rfl ?_
       exact Bk (j+1+1) [] rfl ⟨by omega,Vat.next hI hv ⟨base,λj' r' e h=>by
        obtain rfl:j=j':=by omega
        rw[hrv] at h;cases h
        show sgn K G (Tow.add K r.a (Tow.neg K s.a))<0
        omega⟩⟩ (by show L.length-(j+1+1)<L.length-(j+1);omega)
   . refine Ar (k+1:Nat) rfl ?_
     exact Bk (k+1) [] rfl ⟨by omega,Vat.next hI hv ⟨base,λj' r' e h=>by omega⟩⟩ (by show L.length-(k+1)<L.length-k;omega)
 . rw[P11.dcT (VlP.of λi s hi h=>hI i s (by rw[W0i] at hi;omega) h)]
   exact R0
def EqR(G:Tw K)(l l':List (Tr K)): Prop:=l.length=l'.length/\∀(i:Nat) (s t:Tr K),l[i]?=some s->l'[i]?=some t->s.1=t.1/\Xs2 G s.2.1 t.2.1 s.2.2 t.2.2
def EqP(G:Tw K)(l l':List (Tr K)): Prop:=l.length=l'.length/\∀(i:Nat) (s t:Tr K),l[i]?=some s->l'[i]?=some t->s.1=t.1/\Xs9 G s.2.1 t.2.1 s.2.2 t.2.2=0
theorem EqR.iff{l l':List (Tr K)}(h:∀s∈l,s.2.1≠vz K/\lim s.2.2)(h':∀s∈l',s.2.1≠vz K/\lim s.2.2): EqR G l l'↔EqP G l l' :=
 ⟨λ⟨e,k⟩=>⟨e,λi s t hs ht=>⟨(k i s t hs ht).1,(k i s t hs ht).2.2.2⟩⟩,λ⟨e,k⟩=>⟨e,λi s t hs ht=>⟨(k i s t hs ht).1,h s (W0f hs),h' t (W0f ht),(k i s t hs ht).2⟩⟩⟩
theorem EqP.rf(hG:red K G){l:List (Tr K)}: EqP G l l:=⟨rfl,λi s t hs ht=>by
 rw[hs] at ht;cases ht
 exact⟨rfl,by unfold Xs9;rw[if_neg (by omega),if_neg (by omega)];exact Xss hG⟩⟩
theorem NF.vl(h:NF G S N U L): ∀s∈Xb3 L,s.2.1≠vz K/\lim s.2.2:=λs hs=>by
 obtain⟨y,hy,rfl⟩:=W2y.1 hs
 exact⟨(h.m y hy).ne,(h.m y hy).lim⟩
theorem Equal_v(W:Wn G S N)(hU:U+U'<=400)(hx:Gd G S N n x a)(hy:Gd G S N m y b)(hn:n<=400)(hm:m<=400)(hl:L.length<=100)(hl':M.length<=100)(hL:∀y∈L,SQ G S N U y)(hM:∀y∈M,SQ G S N U' y): C0 13 [.d (dAr x (ls L)),.d (dAr y (ls M))] (·=.b (dc (a=b/\EqR G (Xb3 L) (Xb3 M)))):=by
 have lL:(Xb3 L).length=L.length:=W0i ..
 have lM:(Xb3 M).length=M.length:=W0i ..
 refine En Tryz.func13 λ_ _ _=>?_
 refine Fv 1 2 rfl ?_
 refine Fv 1 3 rfl ?_
 refine Ce rfl (R9.Equal_g W hx hy hn hm) ?_
 refine By rfl (λh1=>?_) λh1=>?_
 . have h1:¬a=b:=by simpa only [Xal,Xah] using h1
   rw[P11.dcF λh=>h1 h.1]
   exact R0
 have hp:a=b:=W2g.1 (by simpa only [Xal,Xah] using h1)
 refine By rfl (λh2=>?_) λh2=>?_<;>rw[Xbf,Xbf] at h2
 . rw[P11.dcF λh=>h2 (by have:=h.2.1;omega)]
   exact R0
 have hll:L.length=M.length:=by omega
 refine Lo (λk:Nat=>[(2,.at (dAr x (ls L))),(3,.at (dAr y (ls M))),(5,.d (.int .i64 k))]) (λ_=>[]) (λk=>k<=L.length/\∀(i:Nat) (s t:Tr K),i<k->(Xb3 L)[i]?=some s->(Xb3 M)[i]?=some t->s.1=t.1/\Xs2 G s.2.1 t.2.1 s.2.2 t.2.2) (λk=>L.length-k) 0 [] rfl ⟨W0z _,λ_ _ _ h=>absurd h (W3h _)⟩ λk ⟨hk,hI⟩=>?_
 refine By rfl (λh3=>?_) λh3=>?_<;>rw[Xbf] at h3
 . obtain⟨s,hs⟩:∃s,L[k]?=some s:=⟨_,W0c (by omega)⟩
   obtain⟨t,ht⟩:∃t,M[k]?=some t:=⟨_,W0c (by omega)⟩
   have hsv:=Xdr hs
   have htv:=Xdr ht
   have H1:=hL s (W0f hs)
   have H2:=hM t (W0f ht)
   refine Dz rfl ?_
   refine Ix k rfl (Xd9 hs) ?_
   refine Ix k rfl (Xd9 ht) ?_
   refine Ce rfl (R9.Equal_g W H1.c H2.c (by decide) (by decide)) ?_
   refine By rfl (λh4=>?_) λh4=>?_
   . have h4:¬s.a=t.a:=by simpa only [Xal,Xah] using h4
     rw[P11.dcF λh=>h4 (h.2.2 k _ _ hsv htv).1]
     exact R0
   have hP:s.a=t.a:=W2g.1 (by simpa only [Xal,Xah] using h4)
   refine Ce rfl (R19.Same_g W H1.v H2.v hU) ?_
   refine By rfl (λh5=>?_) λh5=>?_
   . have h5:¬Xs2 G s.p t.p s.s.f t.s.f:=by simpa only [Xal,Xah] using h5
     rw[P11.dcF λh=>h5 (h.2.2 k _ _ hsv htv).2]
     exact R0
   have hQ:Xs2 G s.p t.p s.s.f t.s.f:=W2g.1 (by simpa only [Xal,Xah] using h5)
   refine Ar (k+1:Nat) rfl ?_
   refine Bk (k+1) [] rfl ⟨by omega,λi s' t' hi k1 k2=>?_⟩ (by show L.length-(k+1)<L.length-k;omega)
   by_cases e:i=k
   . subst e
     rw[hsv] at k1;rw[htv] at k2
     cases k1;cases k2
     exact⟨hP,hQ⟩
   . exact hI i s' t' (by omega) k1 k2
 . rw[P11.dcT ⟨hp,by rw[lL,lM];exact hll,λi s t k1 k2=>hI i s t (by have:=(W0n.1 k1).1;omega) k1 k2⟩]
   exact R0
theorem Xka{l:List Sn}(hl:l.length<=100): C0 8 [.d (dAr x l)] (·=.d (dAr x l)):=by
 rcases l with _ | ⟨s,l⟩
 . refine En Tryz.func8 λ_ _ _=>?_
   refine Dl rfl ?_
   refine Yke rfl rfl (by decide) ?_
   exact R1 rfl (.sd (.pd (.rf rfl) (.lit rfl)))
 . refine En Tryz.func8 λ_ _ _=>?_
   refine Dl rfl ?_
   refine Yah ((s::l).map dSe) rfl rfl (W4p _) (by rw[W0i];omega) ?_
   exact R1 rfl (.sd (.pd (.rf rfl) (.own rfl (by omega) (by rw[W1d,W2j]))))
theorem Ykc{s:Sn}{l:List Sn}(hl:(s::l).length<=100): CO0 8 [.d (dAr x (s::l))] (λv ob=>v=.st (.pr (.d (dN x)) (.own 1000000 7 0 ((s::l).map dSe).length))/\ob=.arr 7 ((s::l).map dSe)):=by
 refine EnW Tryz.func8 λ_ _ _ _=>?_
 refine Dl rfl ?_
 refine Yah ((s::l).map dSe) rfl rfl (W4p _) (by rw[W0i];omega) ?_
 exact Rw [(8,1000000)] [(1000000,.arr 7 ((s::l).map dSe))] rfl (.one (.rf rfl) rfl rfl) ⟨_,rfl,rfl,rfl⟩
end
theorem Yf3(ops ops':List RO): ∃(l m:List Nm) (K:Nat) (G:Tw K) (S:List (Tow.El K)) (N:List Nm),Wn G S N /\
 (C0 120 [.d (dRs ops)] (·=.d (dNs l))/\l.length<=24/\(∀z∈l,z.k<=16)/\∀z∈n00::l,z.k<=1->∃v,Gd G S N 1 z v) /\
 (C0 120 [.d (dRs ops')] (·=.d (dNs m))/\m.length<=24/\(∀z∈m,z.k<=16)/\∀z∈n00::m,z.k<=1->∃v,Gd G S N 1 z v):=by
 classical
 obtain⟨l,l1,l2,l3,l4⟩:=R9.Build_fx ops
 obtain⟨m,m1,m2,m3,m4⟩:=R9.Build_fx ops'
 obtain⟨K,G,S,hG,hS,hF,hr,hone⟩:=Ymg l4 m4
 have h16:∀ {l:List Nm},(Wld 3 l λ_ _=>True)->∀z∈l,z.k<=16:=λ⟨K,G,S,hG,hS,hq,hall,_⟩ z hz=>by
  obtain⟨v,hv⟩:=hall z hz
  exact W0k (hv.le (Xad hG) hS) (by decide)
 have hz0:∃v,NOk G S 65 129 n00 v:=⟨rat K ((0:Int):Rat),⟨λ_=>zero _,⟨trivial,trivial,nofun⟩,rfl⟩,trivial,(Sz.rat 0 (x:=((0:Int):Rat)) (p:=1) ⟨show ((0:Int):Rat).num.natAbs<2^1 by decide +kernel,show (((0:Int):Rat).den:Int).natAbs<2^1 by decide +kernel⟩).mono (by decide)⟩
 let N:=n00::(l++m).filter λz=>decide (One z)
 have hN:∀z∈N,∃v,NOk G S 65 129 z v:=λz hz=>by
  rcases W1j.1 hz with rfl | hz
  . exact hz0
  . obtain⟨h1,h2⟩:=W6v.1 hz
    exact hone z h1 (by simpa using h2)
 have W:Wn G S N:=⟨Yk3.wd hG hS hF,λz hz=>by
  obtain⟨v,hv⟩:=hN z hz
  obtain⟨ρ,h1,_⟩:=hv.ex
  exact⟨ρ,h1⟩⟩
 have key:∀z∈n00::(l++m),z.k<=1->(z∈l++m->R9.shN z)->∃v,Gd G S N 1 z v:=λz hz hk hs=>by
  have hm:z∈N:=by
   rcases W1j.1 hz with rfl | hz
   . exact W0l ..
   . exact W0p _ (W6v.2 ⟨hz,decide_eq_true (show One z from⟨hk,hs hz,hr z hz⟩)⟩)
  obtain⟨v,hv⟩:=hN z hm
  exact⟨v,Gd.short W hk hv hm⟩
 have hsh:∀z∈l++m,R9.shN z:=λz hz=>(W1s.1 hz).elim (λh=>(l3 z h).2) λh=>(m3 z h).2
 refine⟨l,m,K,G,S,N,W,⟨l1,l2,h16 l4,λz hz hk=>key z ?_ hk λh=>hsh z h⟩,m1,m2,h16 m4,λz hz hk=>key z ?_ hk λh=>hsh z h⟩
 . rcases W1j.1 hz with rfl | hz
   . exact W0l ..
   . exact W0p _ (W2k _ hz)
 . rcases W1j.1 hz with rfl | hz
   . exact W0l ..
   . exact W0p _ (W1o _ hz)
end Go.Proofs.YtfjafaehfjjaiaaGreatDoor.R20
namespace Go.Vm
open Go
section
variable{c:Cx}{s:St}{p:Pl}
noncomputable def Ynt(tb:Nat->Option TI)(n:Nat)(s:St): Option (Pl×Oper×Operand×Nat×Nat×Nat×Nat):=match nxO tb n s with
 | some (p,o)=>match o.op,p.dr with
  | .nilCheck x,false=>match Xc4 (look p.E) x with
   | some (.el q sz j off)=>match look p.H q with
    | some _=>some (p,o,x,q,sz,j,off)
    | none=>none
   | _=>none
  | _,_=>none
 | none=>none
theorem Nke{o:Oper}{x:Operand}{q sz j off:Nat}(h:Ynt c.tb c.n s=some (p,o,x,q,sz,j,off))(k:p.nx c (.el q sz j off)): StP c s:=by
 unfold Ynt at h
 split at h<;>try cases h
 rename_i p' o' ho
 split at h<;>try cases h
 rename_i x' hop hdr
 split at h<;>try cases h
 rename_i q' sz' j' off' hx
 split at h<;>cases h
 rename_i hH
 refine Xry (us:=[]) ho (by unfold Xap;rw[hop];rfl) hdr (λN W θ ρ _ hO hN hB hv=>?_) (Pl.nx_nil k)
 obtain⟨cs,⟨b,f1,f2⟩,f4⟩:=hv _ _ hx
 subst f2
 have f4:ρ x=.pointer (some ⟨b,j*sz+off,none⟩):=f4
 refine .val (u:=.pointer (some ⟨b,j*sz+off,none⟩)) hO ?_ ⟨_,⟨b,f1,rfl⟩,rfl⟩ (λi hi=>by subst hi;exact⟨_,hH⟩)
 simp only[execOp,hop,f4];rfl
def AV.fzo(o sz n:Nat)(d:D): AV->AV
 | .own o' s l m=>match Nat.beq o' o,Nat.beq s sz,Nat.beq l 0 with
  | true,true,true=>.d d
  | _,_,_=>.own o' s l m
 | .st a=>.st (a.fzo o sz n d)
 | .pr a c=>.pr (a.fzo o sz n d) (c.fzo o sz n d)
 | a=>a
def AV.fzk(o n:Nat): AV->Prop
 | .own o' _ _ m=>m=n\/o'≠o
 | .st a=>a.fzk o n
 | .pr a c=>a.fzk o n/\c.fzk o n
 | _=>True
theorem Xzb{N:Nat->Prop}{W:GW}{θ:Loc}{g:Hp}(h:Obs W θ N g){o b sz n:Nat}{xs:List D}{cs:List Value}(ho:g o=some (.arr sz xs))(hb:(θ o).1=some b)(hn:n=xs.length)(hv:AV.C W θ (.own o sz 0 n) cs):
 AV.C (W.fz b) θ (.d (.sl sz xs)) cs:=by
 obtain⟨b1,p,h1,h2,h3,e,h5⟩:=hv
 obtain⟨b',bs,T',r1,r2,r3,r4,r5,r6,r7⟩:=h.r _ _ ho
 rw[hb] at r1 h1;injection r1 with r1;injection h1 with h1;subst r1;subst h1
 refine⟨p,(θ o).2-0,by rw[<-hn];exact e,by omega,by omega,.inr ⟨b,0,?_,?_⟩⟩
 . have:=h5 (.inl rfl)
   rwa[W4o] at this
 . exact(AtL.mono (Xlb W b) (sz:=sz) (xs:=xs) (cs:=bs) r6).row λq v _ hv=>by
    rw[W1k]
    exact⟨show W.w.cell? _=_ by rw[Xa9 r2];exact hv,λhA=>hA.1 rfl⟩
theorem Yme{N:Nat->Prop}{W:GW}{θ:Loc}{g:Hp}(h:Obs W θ N g){o b sz n:Nat}{xs:List D}(ho:g o=some (.arr sz xs))(hb:(θ o).1=some b)(hn:n=xs.length): ∀ {a:AV} {cs:List Value},a.fzk o n->AV.C W θ a cs->AV.C (W.fz b) θ (a.fzo o sz n (.sl sz xs)) cs:=by
 intro a
 induction a with
 | st a ih=>intro cs hk h;exact ih hk h
 | pr a c iha ihc=>intro cs hk ⟨u,v,e,h1,h2⟩;exact⟨u,v,e,iha hk.1 h1,ihc hk.2 h2⟩
 | own o' s l m =>
  intro cs hm hc
  have hk:=AV.c_mono (Xlb W b) (θ':=θ) (.own o' s l m) (λ_ _=>rfl) hc
  unfold AV.fzo
  split
  . rename_i e1 e2 e3
    have e1:=W0e e1
    have e2:=W0e e2
    have e3:=W0e e3
    subst e1;subst e2;subst e3
    have hm:m=n:=Or.elim hm id λh=>absurd rfl h
    subst hm
    exact Xzb h ho hb hn hc
  . exact hk
 | _=>intro cs _ hc;exact AV.c_mono (Xlb W b) (θ':=θ) _ (λ_ _=>rfl) hc
theorem Yei{o sz n i:Nat}{d:D}: ∀ {a:AV},(a.fzo o sz n d).ids i->a.ids i:=by
 intro a
 induction a with
 | st a ih=>exact ih
 | pr a c iha ihc=>exact λh=>h.elim (λh=>.inl (iha h)) λh=>.inr (ihc h)
 | own o' s l m =>
  unfold AV.fzo
  split
  . exact λh=>h.elim
  . exact λh=>h
 | _=>exact λh=>h
noncomputable def Ynz(tb:Nat->Option TI)(n id q:Nat)(s:St): Option (List Kt×Env×Hpl×AV):=match runT tb n id 1000 s with
 | .j _ K E H=>match look H q with
  | some (.var a)=>some (K,E,H,a)
  | _=>none
 | _=>none
theorem FzV(id q o sz m:Nat)(xs:List D){K:List Kt}{E:Env}{H:Hpl}{a:AV}(h:Ynz c.tb c.n id q s=some (K,E,H,a))(k:StP c (.j [] K E ((q,.var (a.fzo o sz m (.sl sz xs)))::(o,.dead)::H)))(hk:a.fzk o m)(hm:m=xs.length:=by exact rfl)(ho:look H o=some (.arr sz xs):=by exact rfl): StP c s:=by
 unfold Ynz at h
 split at h<;>try cases h
 rename_i hr
 split at h<;>cases h
 rename_i hq
 refine Xfb (id:=id) 1000 ?_
 rw[hr]
 rintro x w ⟨s0,W,θ,hw,hs,hθ,rfl⟩
 obtain⟨b,bs,T',r1,_⟩:=hs.obs.r _ _ ho
 have st:=Stp.freeze hs.obs ho r1
 have h1:=hs.step0 st
 have hoq:o≠q:=λe=>by subst e;rw[hq] at ho;cases ho
 refine k x w ⟨_,W.fz b,θ,hw,?_,hθ,rfl⟩
 rw[show sem E ((q,Ob.var (a.fzo o sz m (.sl sz xs)))::(o,Ob.dead)::H)=(look E,upd (upd (look H) o .dead) q (.var (a.fzo o sz m (.sl sz xs)))) by rw[Xa2,Xa2]]
 have hq':upd (look H) o .dead q=some (.var a):=by rw[Xak λe=>hoq e.symm];exact hq
 have hdom:∀ {i:Nat} {y:Ob},upd (look H) o .dead i=some y->∃z,upd (upd (look H) o .dead) q (.var (a.fzo o sz m (.sl sz xs))) i=some z:=λ{i y} hy=>by
  by_cases e:i=q
  . subst e;exact⟨_,Xaj _ _ _⟩
  . exact⟨y,by rw[Xak e];exact hy⟩
 refine⟨h1.fm,h1.rel,⟨λi y hy=>?_,λi y b hy hl hb=>?_,λi j y y' b hy hy' hl hl' b1 b2=>?_,λi y j hy hj=>?_⟩,λt v i ht hi=>?_⟩
 . rcases Xaf hy with ⟨e1,e2⟩ | ⟨e1,e2⟩
   . subst e1;subst e2
     obtain⟨b0,cs0,T0,q1,q2,q3,q4⟩:=hs.obs.r _ _ hq
     obtain⟨b2,cs2,T2,p1,p2,p3,p4⟩:=h1.obs.r _ _ hq'
     have eb:b0=b2:=by rw[q1] at p1;injection p1
     subst eb
     have ec:cs0=cs2:=by
      have:W.w.heap[b0]?=some (.cells cs2.toArray T2 (0,0)):=p2
      rw[q2] at this
      injection this with this
      injection this with this
      have:=congrArg Array.toList this
      simpa using this
     subst ec
     exact⟨b0,cs0,T2,p1,p2,Yme hs.obs ho r1 hm hk q3,p4⟩
   . exact h1.obs.r _ _ e2
 . rcases Xaf hy with ⟨e1,e2⟩ | ⟨e1,e2⟩
   . subst e1;exact h1.obs.new _ _ b hq' rfl hb
   . exact h1.obs.new _ _ b e2 hl hb
 . rcases Xaf hy with ⟨e1,e2⟩ | ⟨e1,e2⟩<;>rcases Xaf hy' with ⟨f1,f2⟩ | ⟨f1,f2⟩
   . rw[e1,f1]
   . subst e1;exact h1.obs.dis _ _ _ _ b hq' f2 rfl hl' b1 b2
   . subst f1;exact h1.obs.dis _ _ _ _ b e2 hq' hl rfl b1 b2
   . exact h1.obs.dis _ _ _ _ b e2 f2 hl hl' b1 b2
 . rcases Xaf hy with ⟨e1,e2⟩ | ⟨e1,e2⟩
   . subst e2
     obtain⟨z,hz⟩:=h1.obs.ids _ _ j hq' (Yei (a:=a) hj)
     exact hdom hz
   . obtain⟨z,hz⟩:=h1.obs.ids _ _ j e2 hj
     exact hdom hz
 . obtain⟨z,hz⟩:=h1.ids t v i ht hi
   exact hdom hz
end
end Go.Vm

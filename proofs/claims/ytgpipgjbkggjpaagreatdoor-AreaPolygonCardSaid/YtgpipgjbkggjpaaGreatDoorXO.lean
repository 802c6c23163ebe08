/- part 5 -/
import Derived.Test.YtgpipgjbkggjpaaGreatDoorXN
import Derived.Test.YtgpipgjbkggjpaaGreatDoorCards
import Derived.Test.YtgpipgjbkggjpaaGreatDoorTie
import Derived.Deep.DeepHandedRow
import Derived.Lib.LaidTab
import Derived.MakeChecks
import Derived.Stop.LaidErr
import Derived.Lib.AppendZeros
set_option linter.unusedVariables false
set_option linter.unusedSimpArgs false
set_option maxRecDepth 100000
namespace Go.Proofs.YtgpipgjbkggjpaaGreatDoor
open Go Go.Vm Go.Num Go.Tow
structure RO where
 kind:Nat
 a:Nat
 b:Nat
 n:Int
 d:Nat
 h:kind<256/\a<256/\b<256/\d<256/\-128<=n/\n<128
abbrev dO(o:RO): D:=.st (.pr (.int .u8 o.kind) (.pr (.int .u8 o.a) (.pr (.int .u8 o.b) (.pr (.int .i8 o.n) (.int .u8 o.d)))))
abbrev dRs(l:List RO): D:=.sl 5 (l.map dO)
end Go.Proofs.YtgpipgjbkggjpaaGreatDoor
namespace Go.Proofs.YtgpipgjbkggjpaaGreatDoor.R9
open Go Go.Vm Go.Num Go.Tow Go.Proofs.YtgpipgjbkggjpaaGreatDoor
theorem Ycu{l:List Rat}{n q:Nat}(h:∀x∈l,sh x)(hn:l.length<=n)(hq:64*n+1<=q): Sz q l:=(Sz.all λx hx=>(h x hx).qs).mono (W0h (by have:=W0p 64 hn;omega) hq)
theorem shN.ok{K:Nat}{G:Tw K}{S:List (Tow.El K)}{r p:Nat}{z:Nm}{v:Tow.El K}(hs:shN z)(h:NOk G S r p z v)(hk:z.k<=3): NOk G S 300 600 z v :=
 ⟨h.ex,TS.of λi l hl=>by
  have hi:=(W0z.1 hl).1
  rw[Xaa] at hi
  have:l.length<=4:=by
   rw[(TS.pt h.r _ _ hl).1];exact W0j (n:=2) (by decide) (show i<=2 by omega)
  exact Ycu (n:=4) (hs.2 l (W0i hl)) this (by decide),
  Ycu (n:=8) hs.1 (by rw[Xab];exact W0j (n:=2) (by decide) hk) (by decide)⟩
def Big(l:List Nm)(n:Nat)(z:Nm): Prop:=n<=3/\Wld n l λG S=>∃v,NOk G S wR (oW 1000000) z v
theorem Yme: 300<=wR/\600<=oW 1000000/\600+gC 300 3<=oW 1000000/\900<=wR/\iS 300 3 600<=1000000/\iB 300 3 600<=4398046511104/\qB 300 3 600<=4398046511104/\qB 300 3 300<=4398046511104/\vB 300 3 (600+gC 300 3)<=4398046511104/\vB 300 3 300<=4398046511104/\vB 300 3 600<=4398046511104/\oW 1000000<=8796093022208:=by decide +kernel
theorem remN{a m:Nat}{k:IntKind}(hm:0<m): arB .rem k a m (a%m:Nat):=show _/\_ from⟨by omega,Xrq a m⟩
theorem Xpb{n m:Nat}{l:List Nm}{P:∀ {K:Nat},Tw K->List (Tow.El K)->Prop}(h:Wld n l @P)(hn:n<=m): Wld m l @P:=by
 obtain⟨K,G,S,h1,h2,h3,h4⟩:=h
 exact⟨K,G,S,h1,W0h h2 hn,h3,h4⟩
theorem Yd6{n:Int}{d:Nat}(hn:-128<=n/\n<128)(hd:0<d/\d<=8): sh (Rat.divInt n d):=by
 have h1:(Rat.divInt n d).num.natAbs<=n.natAbs:=by
  rw[Rat.num_divInt,Int.natAbs_ediv_of_dvd ?_]
  . have hs:((d:Int)).sign=1:=W6d (by omega)
    rw[hs,W4r]
    exact W3j ..
  . have hs:((d:Int)).sign=1:=W6d (by omega)
    rw[hs,W4r];exact Int.gcd_dvd_right ..
 have h2:(Rat.divInt n d).den<=d:=by
  rw[Rat.den_divInt,if_neg (by omega),W1f]
  exact W3j ..
 exact⟨Xas (W1v h1 (by omega)),Xas (W1v h2 (by omega))⟩
theorem Ykm{ops:List RO}: C0 67 [.d (dRs ops)] λv=>∃l:List Nm,v=.d (dNs l)/\l.length<=24/\(∀z∈l,Tm z/\shN z)/\Wld 3 l λ_ _=>True:=by
 obtain⟨b1,b2,b3,b4,b5,b6,b7,b8,b9,b10,b11,b12⟩:=Yme
 have app:∀ {K:Nat} {G:Tw K} {S:List (Tow.El K)} {l:List Nm} {z:Nm} {v:Tow.El K},(∀y∈l,∃v,NOk G S 300 600 y v)->NOk G S 300 600 z v->∀y∈l++[z],∃v,NOk G S 300 600 y v:=λh hz y hy=>by
  rcases W2k.1 hy with hy | hy
  . exact h y hy
  . rw[W0g.1 hy];exact⟨_,hz⟩
 have apt:∀ {l:List Nm} {z:Nm},(∀y∈l,Tm y/\shN y)->(Tm z/\shN z)->∀y∈l++[z],Tm y/\shN y:=λh hz y hy=>by
  rcases W2k.1 hy with hy | hy
  . exact h y hy
  . rw[W0g.1 hy];exact hz
 refine En Tryz.func67 λ_ _ _=>?_
 refine Nl 3 3 2 rfl ?_
 refine Lo (λ(s:Nat×Nat×List Nm)=>[(0,.d (dRs ops)),(3,.gr 3 2 (s.2.2.map dN)),(4,.d (.int .i64 s.2.1)),(5,.d (.int .i64 s.1))]) (λs=>[(3,.tok (s.2.2.map dN).length 2)]) (λs=>s.1<=24/\s.2.2.length=s.1/\s.2.1<=3/\(∀z∈s.2.2,Tm z/\shN z)/\Wld s.2.1 s.2.2 λ_ _=>True) (λs=>24-s.1) (0,0,[]) [] rfl
  ⟨W0y _,rfl,W0y _,λz hz=>(nomatch hz),0,(),[],trivial,W0a _,λg hg=>(by cases hg),λy hy=>(by cases hy),trivial⟩ (λ(i,n,l) ⟨hi,hl,hn3,hm,hw⟩=>?_)
 simp only at hi hl hn3 hm hw
 refine By rfl (λh=>?_) λh=>?_
 . have h:(i:Int)<((ops.map dO).length:Nat):=h
   rw[W0l] at h
   refine By rfl (λh2=>?_) λh2=>?_
   . have h2:(i:Int)<24:=h2
     obtain⟨o,ho⟩:∃o,ops[i]?=some o:=⟨_,W0c (by omega)⟩
     obtain⟨o1,o2,o3,o4,o5⟩:=o.h
     refine Ix i rfl (u:=dO o) (by rw[W1o,ho];rfl) ?_
     have frac:sh (Rat.divInt o.n (o.d%8+1:Nat)):=Yd6 ⟨o5.1,o5.2⟩ ⟨by omega,by omega⟩
     obtain⟨q,hqe⟩:∃q,q=Rat.divInt o.n (o.d%8+1:Nat):=⟨_,rfl⟩
     rw[<-hqe] at frac
     have hqs:shN ⟨0,(),q⟩:=⟨λx hx=>by obtain rfl:=W0g.1 hx;exact frac,λl hl=>nomatch hl⟩
     have hq0:∀ {K:Nat} (G:Tw K) (S:List (Tow.El K)) (r p:Nat),65<=p->NOk G S r p ⟨0,(),q⟩ (rat K q):=λG S r p hp=>⟨⟨λ_=>zero _,⟨trivial,trivial,λi hi=>absurd hi (W3z _)⟩,rfl⟩,trivial,Ycu (n:=1) hqs.1 (W0a _) (by omega)⟩
     refine Go.Vm.Cv o.n rfl ?_ (wI (by omega))
     refine Ar (o.d%8:Nat) rfl ?_ (remN (by decide))
     refine Go.Vm.Cv (o.d%8:Nat) rfl ?_ (wI (by omega))
     refine Ar (o.d%8+1:Nat) rfl ?_
     have hfr:=Frac_ok (a:=o.n) (b:=(o.d%8+1:Nat)) (by omega) (by omega) (by omega)
     rw[<-hqe] at hfr
     refine Ce rfl hfr ?_
     refine By rfl (λh3=>?_) λh3=>?_
     . have h3:((l.map dN).length:Int)>0:=h3
       rw[W0l] at h3
       refine Ar (o.kind%6:Nat) rfl ?_ (remN (by decide))
       refine Cu none (λ(s:Nm×Nat)=>[(0,.d (dRs ops)),(3,.gr 3 2 (l.map dN)),(4,.d (.int .i64 s.2)),(5,.d (.int .i64 i)),(7,.ptr 7 0)]) (λs=>[(3,.tok (l.map dN).length 2),(7,.var (.d (dN s.1)))]) (λs=>Big l s.2 s.1) rfl ?_ (λ(z,n') hB=>?_)
       . obtain⟨K,G,S,hG,hS,hq,hall,_⟩:=hw
         have hS3:=W0h hS hn3
         have hGr:=Xaf hG
         have W:=hq.wd hG hS3
         refine By rfl (λh4=>?_) λh4=>?_
         . obtain⟨xa,hxa⟩:∃x,l[o.a%l.length]?=some x:=⟨_,W0c (W1q _ (by omega))⟩
           obtain⟨xb,hxb⟩:∃x,l[o.b%l.length]?=some x:=⟨_,W0c (W1q _ (by omega))⟩
           obtain⟨va,ha⟩:=hall xa (W0i hxa)
           obtain⟨vb,hb⟩:=hall xb (W0i hxb)
           have ha1:NOk G S 300 1000000 xa va:=ha.mono (W0a _) (by decide)
           have hb1:NOk G S 300 1000000 xb vb:=hb.mono (W0a _) (by decide)
           have hua:(l.map dN)[o.a%l.length]?=some (dN xa):=by rw[W1o,hxa];rfl
           have hub:(l.map dN)[o.b%l.length]?=some (dN xb):=by rw[W1o,hxb];rfl
           have hrm:∀ {c:Nat},arB .rem .i64 c ((l.map dN).length:Nat) (c%l.length:Nat):=λ{c}=>by rw[W0l];exact remN (by omega)
           have ka:=ha.le hGr hS3
           have ok:∀ {z:Nm} {v:Tow.El K},NOk G S wR (oW 1000000) z v->Big l n z:=λh=>⟨hn3,K,G,S,hG,hS,hq,hall,_,h⟩
           have same:Big l n xa:=ok (ha.mono b1 b2)
           refine Dz rfl ?_
           refine Go.Vm.Cv (o.a:Nat) rfl ?_ (wI (by omega))
           refine Ar (o.a%l.length:Nat) rfl ?_ hrm
           refine Ix (o.a%l.length) rfl hua ?_
           refine Go.Vm.Cv (o.b:Nat) rfl ?_ (wI (by omega))
           refine Ar (o.b%l.length:Nat) rfl ?_ hrm
           refine Ix (o.b%l.length) rfl hub ?_
           refine Ar (o.kind%6:Nat) rfl ?_ (remN (by decide))
           refine By rfl (λc1=>?_) λc1=>?_
           . refine Ca rfl (Add_ok W ha1 hb1 (by decide)) λv hv=>?_
             obtain⟨z,rfl,hz⟩:=hv
             refine Ce rfl (Xgp (x:=z) (y:=xa)) ?_
             exact Jn (z,n) [] rfl (ok hz)
           refine By rfl (λc2=>?_) λc2=>?_
           . refine Ca rfl (Sub_ok W ha1 hb1 (by decide)) λv hv=>?_
             obtain⟨z,rfl,hz⟩:=hv
             refine Ce rfl (Xgp (x:=z) (y:=xa)) ?_
             exact Jn (z,n) [] rfl (ok hz)
           refine By rfl (λc3=>?_) λc3=>?_
           . refine Ca rfl (Mul_ok W ha1 hb1 (by decide)) λv hv=>?_
             obtain⟨z,rfl,hz⟩:=hv
             refine Ce rfl (Xgp (x:=z) (y:=xa)) ?_
             exact Jn (z,n) [] rfl (ok hz)
           refine By rfl (λc4=>?_) λc4=>?_
           . refine Ca rfl (Div_ok W ha1 hb b5 b6 (by decide)) λv hv=>?_
             rcases hv with ⟨_,rfl⟩ | ⟨w,_,z,rfl,hz⟩
             . refine Ce rfl (Xyx (y:=xa)) ?_
               exact Jn (xa,n) [] rfl same
             . refine Ce rfl (Xgp (x:=z) (y:=xa)) ?_
               exact Jn (z,n) [] rfl (ok hz)
           have rt:∀ {y:Nm} {vy:Tow.El K} {v:AV},NOk G S 300 600 y vy->RtR y v->n<3->∃z:Nm,v=.tup (.pr (.d (dN z)) (.d (.int .i64 0)))/\Big l (n+1) z:=λ{y vy v} hy hv hn=>by
            obtain⟨ρ,y1,y2⟩:=hy.ex
            have ky:=hy.le hGr hS3
            obtain⟨z,rfl,⟨w,rfl,e1,e2⟩ | ⟨rfl,e1,e2⟩⟩:=hv
            . exact⟨_,rfl,by omega,K,G,S,hG,by omega,hq,hall,_,⟨ρ,y1,rfl⟩,hy.r.mono b1,(hy.p.rootS hy.r y1.r e1).mono (W0h (Nat.add_le_add_left (Xv3 ky) _) b3)⟩
            . exact⟨_,rfl,by omega,Xrv hG hS hq hall y1 hy.r hy.p e1 e2 ⟨hy.r.mono b1,hy.p.mono (by omega)⟩ ((Xt4 y.k).mono (by omega))⟩
           have sq:∀ {y:Nm} {vy:Tow.El K},NOk G S 300 600 y vy->0<=sgn K G vy->C0 120 [.d (dN y)] (RtR y):=λ{y vy} hy h0=>by
            obtain⟨ρ,y1,y2⟩:=hy.ex
            have ky:=hy.le hGr hS3
            rw[hy.sgn hGr] at h0
            have q1:=Xn4 (r:=300) (p:=600) ky
            have q2:=Xn4 (r:=300) (p:=300) ky
            have q3:=Xcm (r:=300) (k:=y.k) (show 600+gC 300 y.k<=600+gC 300 3 by have:=Xv3 (r:=300) ky;omega)
            have q4:=Xgf (r:=300) (s:=600+gC 300 3) ky
            have q5:=Xgf (r:=300) (s:=300) ky
            exact Sqrt_ok y1.r hy.r hy.p h0 (by omega) (by omega) (by omega) (by omega) (by omega)
           have q6:=Xgf (r:=300) (s:=600) ka
           refine Ce rfl (Sign_ok hG ha (by omega) (by omega)) ?_
           refine By rfl (λc5=>?_) λc5=>?_
           . refine Ce rfl (Neg_ok ha (by omega) (by decide)) ?_
             have hneg:=ha.neg
             refine By rfl (λc6=>?_) λc6=>?_
             . have c6:(n:Int)<3:=c6
               refine Ar (n+1:Nat) rfl ?_ (wr (show (n:Int)+1=((n+1:Nat):Int) by omega) (by simp only[inK];omega))
               refine Ca rfl (sq hneg (by rw[(Xar hGr).sn];omega)) λv hv=>?_
               obtain⟨z,rfl,hz⟩:=rt hneg hv (by omega)
               refine Ce rfl (Xgp (x:=z) (y:=⟨xa.k,xa.t,Tow.neg xa.k xa.a⟩)) ?_
               exact Jn (z,n+1) [] rfl hz
             . exact Jn (xa,n) [] rfl same
           . refine By rfl (λc6=>?_) λc6=>?_
             . have c6:(n:Int)<3:=c6
               refine Ar (n+1:Nat) rfl ?_ (wr (show (n:Int)+1=((n+1:Nat):Int) by omega) (by simp only[inK];omega))
               refine Ca rfl (sq ha (by omega)) λv hv=>?_
               obtain⟨z,rfl,hz⟩:=rt ha hv (by omega)
               refine Ce rfl (Xgp (x:=z) (y:=xa)) ?_
               exact Jn (z,n+1) [] rfl hz
             . exact Jn (xa,n) [] rfl same
         . exact Jn (⟨0,(),q⟩,n) [] rfl ⟨hn3,K,G,S,hG,hS,hq,hall,_,hq0 G S _ _ (by omega)⟩
       . obtain⟨hn',K,G,S,hG,hS,hq,hall,v,hz⟩:=hB
         have hS3:=W0h hS hn'
         have hGr:=Xaf hG
         have kz:z.k<=3:=hz.le hGr hS3
         refine Yes rfl (by rw[W0l];exact h3) ?_
         refine Ce rfl (Ydr (x:=z) (W0h kz (by decide))) ?_
         refine By rfl (λh5=>?_) λh5=>?_
         . obtain⟨y,hy⟩:∃y,l[l.length-1]?=some y:=⟨_,W0c (by omega)⟩
           obtain⟨vy,hvy⟩:=hall y (W0i hy)
           refine Ar (l.length-1:Nat) rfl ?_ (wr (by rw[W0l];omega) (by simp only[inK];omega))
           refine Ix (l.length-1) rfl (u:=dN y) (by rw[W1o,hy];rfl) ?_
           refine Ca rfl (Xo3 (hm y (W0i hy)).2 hG hS3 hvy (by decide) (by decide)) λv hv=>?_
           obtain⟨z',rfl,hz',ht'⟩:=hv
           refine ApG ((l++[z']).map dN) rfl (by simp) (by simp;omega) ?_
           refine Ar (i+1:Nat) rfl ?_
           exact Bk (i+1,n',l++[z']) [(157,3)] rfl ⟨by show i+1<=24;omega,by simp[hl],hn',apt hm ht',K,G,S,hG,hS,hq,app hall hz',trivial⟩ (by show 24-(i+1)<24-i;omega)
         . have hsh:shN z:=by simpa [Xav,Xaj] using h5
           refine Ca rfl (Xo3 hsh hG hS3 (hsh.ok hz kz) (by decide) (by decide)) λv hv=>?_
           obtain⟨z',rfl,hz',ht'⟩:=hv
           refine ApG ((l++[z']).map dN) rfl (by simp) (by simp;omega) ?_
           refine Ar (i+1:Nat) rfl ?_
           exact Bk (i+1,n',l++[z']) [(157,3)] rfl ⟨by show i+1<=24;omega,by simp[hl],hn',apt hm ht',K,G,S,hG,hS,hq,app hall hz',trivial⟩ (by show 24-(i+1)<24-i;omega)
     . have h3:¬((l.map dN).length:Int)>0:=h3
       rw[W0l] at h3
       obtain⟨K,G,S,hG,hS,hq,hall,_⟩:=hw
       have hS3:=W0h hS hn3
       refine No rfl (by rw[W0l];exact h3) ?_
       refine Ca rfl (Xo3 hqs hG hS3 (hq0 G S 300 600 (by decide)) (by decide) (by decide)) λv hv=>?_
       obtain⟨z',rfl,hz',ht'⟩:=hv
       refine ApG ((l++[z']).map dN) rfl (by simp) (by simp;omega) ?_
       refine Ar (i+1:Nat) rfl ?_
       exact Bk (i+1,n,l++[z']) [(157,3)] rfl ⟨by show i+1<=24;omega,by simp[hl],hn3,apt hm ht',K,G,S,hG,hS,hq,app hall hz',trivial⟩ (by show 24-(i+1)<24-i;omega)
   . exact Rt rfl (.one (.gr rfl) rfl rfl) ⟨l,rfl,by omega,hm,Xpb hw hn3⟩
 . exact Rt rfl (.one (.gr rfl) rfl rfl) ⟨l,rfl,by omega,hm,Xpb hw hn3⟩
theorem Build_ok{ops:List RO}: C0 67 [.d (dRs ops)] λv=>∃l:List Nm,v=.d (dNs l)/\l.length<=24/\(∀z∈l,Tm z)/\Wld 3 l λ_ _=>True :=
 Ykm.mono λ_ ⟨l,h1,h2,h3,h4⟩=>⟨l,h1,h2,λz hz=>(h3 z hz).1,h4⟩
end Go.Proofs.YtgpipgjbkggjpaaGreatDoor.R9
namespace Go.Vm
open Go Go.ChangeShapes Go.WideShapes Go.ChangeAt Go.RowKit
end Go.Vm
namespace Go.Proofs.YtgpipgjbkggjpaaGreatDoor
open Go Go.Vm Go.Num
theorem Ylm{α:Type}{f:α->D}{l:List D}(h:∀y∈l,∃x,y=f x): ∃m:List α,l=m.map f:=by
 induction l with
 | nil=>exact⟨[],rfl⟩
 | cons y l ih =>
  obtain⟨x,hx⟩:=h y (W0v ..)
  obtain⟨m,hm⟩:=ih λz hz=>h z (W1c _ hz)
  exact⟨x::m,by rw[hx,hm];rfl⟩
theorem Xyi: Reads Tryz.prog 157 λd=>∃o:RO,d=dO o :=
 (Xd8 Tryz.underlying157 (.cons (n:=1) rfl (Xeq Tryz.underlying5) (by kernel_rfl) (.cons (n:=1) rfl (Xeq Tryz.underlying5) (by kernel_rfl) (.cons (n:=1) rfl (Xeq Tryz.underlying5) (by kernel_rfl) (.cons (n:=1) rfl (Xyg Tryz.underlying155) (by kernel_rfl) (.one rfl (Xeq Tryz.underlying5)))))) (λf hf=>by cases hf;kernel_rfl)).mono λd hd=>by
  obtain⟨_,rfl,_,_,rfl,⟨a,rfl,ha⟩,_,_,rfl,⟨b,rfl,hb⟩,_,_,rfl,⟨c,rfl,hc⟩,_,_,rfl,⟨n,rfl,hn⟩,⟨e,rfl,he⟩⟩:=hd
  exact⟨⟨a,b,c,n,e,ha,hb,hc,he,hn⟩,rfl⟩
theorem Xua{t:TypeId}(ht:Tryz.prog.underlying t=some (.slice 157)): Reads Tryz.prog t λd=>∃ops:List RO,d=dRs ops :=
 (Xe9 ht Xyi (sz:=5) (by kernel_rfl) (by decide)).mono λd ⟨l,e,_,h⟩=>by
  obtain⟨m,hm⟩:=Ylm h
  exact⟨m,by rw[e,hm]⟩
theorem Yjg: Arg Tryz.prog 5 λd=>∃n:Nat,d=.int .u8 n/\n<256:=Yez Tryz.underlying5 (Xeq Tryz.underlying5) λx ⟨_,e,_⟩=>by rw[e];rfl
open Go Go.Vm Go.Num Go.ChangeShapes Go.WideShapes Go.ChangeAt Go.RowKit
abbrev Ydw : List (String × DataW Unit) := [("math/bits.deBruijn32tab", Rows.laid_math_bits_deBruijn32tab), ("math/bits.deBruijn64tab", Rows.laid_math_bits_deBruijn64tab), ("internal/strconv.uint64pow10", Rows.laid_internal_strconv_uint64pow10)]
def Yny: List Int:=(List.range 20).map λi=>((10^i:Nat):Int)
theorem Ycn: ∀i,i<20->Yny.getD i 0=((10^i:Nat):Int):=by decide
theorem Yib : Tryz.prog.globalNamed "internal/strconv.uint64pow10" = some 0 := by kernel_rfl
theorem Yia: (Tryz.prog.globals[0]?).map (·.type)=some 302:=by kernel_rfl
theorem Ylw{W:World}(h:laidMetH Tryz.prog Ydw W): Gb.g Tryz.prog (gw0 W):=by
 rw[Go.MakeChecks.laidMetH_plain Tryz.prog Ydw W (by kernel_rfl)] at h
 have h3 : laidMet Tryz.prog (("internal/strconv.uint64pow10", Lib.tabData .u64 Yny) :: []) W := h.tail.tail
 have ht:=Lib.tabIs_of_head Yib Yia Tryz.underlying302 Tryz.underlying171 (by kernel_rfl) (by kernel_rfl) h3
 exact λi hi=>⟨by rw[show (gw0 W).w=W from rfl,ht.cell Yib i (by rw[show Yny.length=20 from rfl];exact hi),Ycn i hi],λh=>h⟩
def lay(vs:List (Nat×Array Value))(w:World): World:={ w with heap:=vs.foldl (λh p=>h.modify p.1 fun | .cells _ t frozen=>.cells p.2 t frozen | o=>o) w.heap }
def u8s(l:List Nat): Array Value:=(l.map λ(n:Nat)=>Value.int .u8 n).toArray
def Ynz: List (Nat×Array Value):=[(0,(Yny.map λz=>Value.int .u64 z).toArray),
 (2,u8s [0,1,28,2,29,14,24,3,30,22,20,15,25,17,4,8,31,27,13,23,21,19,16,7,26,12,18,6,11,5,10,9]),
 (3,u8s [0,1,56,2,57,49,28,3,61,58,42,50,38,29,17,4,62,47,59,36,45,43,51,22,53,39,33,30,24,18,12,5,63,55,48,27,60,41,37,16,46,35,44,21,52,32,23,11,54,26,40,15,34,20,31,10,25,14,19,9,13,8,7,6])]
noncomputable def Xdg(os:Os): World:=lay Ynz (World.holding Tryz.prog os ⟨#[],#[],[]⟩)
theorem Xyy(os:Os)(args:Array Value): laidMet Tryz.prog Ydw ((Xdg os).forCall (λ_ _=>0) ⟨#[],args,[]⟩).memory :=
 laidMet_of_run' 8 (by kernel_rfl) (by kernel_rfl)
end Go.Proofs.YtgpipgjbkggjpaaGreatDoor
namespace Go.Vm
open Go
section
variable{c:Cx}{s:St}{p:Pl}
theorem Xr4{o:Oper}{v:AV}{us:Hpl}(h:nxO c.tb c.n s=some (p,o))(hc:Xao o=false)(hdr:p.dr=false)(hr:Raw c.P o (sem p.E p.H) (v,us))(k:p.nx' c v us): StP c s:=by
 obtain⟨hw,hd⟩:=Xup h
 refine Xmg h (.inl ⟨hw,(Xo0 hc).2 (.inr ⟨hdr,(v,us),hr,?_⟩)⟩)
 unfold aft
 rw[Xe7,<-hd];exact Pl.nx'_eq.1 k
noncomputable def Ynm(tb:Nat->Option TI)(n:Nat)(s:St): Option (Pl×Oper×Operand×Operand×TypeId×TypeId×TI×Nat×Int):=match nxO tb n s with
 | some (p,o)=>match o.op,p.dr with
  | .call ⟨.builtin .append,⟨[x,y]⟩,⟨[T,T']⟩⟩,false=>match Xcw (look p.E) x,Xcw (look p.E) y,tb T,tb T' with
   | some .nil,some (.d (.int .i64 m)),some ti,some ⟨.int _ _,_,_,_⟩=>match look p.H (o.dst.getD 0),ti.z,Nat.ble ti.eb 128 with
    | none,.sl sz _,true=>some (p,o,x,y,T,T',ti,sz,m)
    | _,_,_=>none
   | _,_,_,_=>none
  | _,_=>none
 | none=>none
end
theorem Ygo{P:Program}(w:World)(t tn ty e:TypeId)(i:TypeInfo)(z:Value)(k kn:IntKind)(ht:P.underlying t=some (.slice e))(htn:P.underlying tn=some (.int kn))(hi:P.info? e=some i)(hz:i.zero=some z)(q:Option Addr)
 (n:Nat) (h0:0<n) (hs:0<i.size) (h63:(n:Int)<=9223372036854775807) (h48:n*i.bytes<=281474976710656) :
 (Builtin.append_ #[t,tn] ty #[.slice q 0 0,.int k n]).run P w =
  .ok (.slice (some ⟨w.heap.size,0,none⟩) n (grownCap w n 0 e)) (w.drew.alloc (.cells (Builtin.zeroCells z.cells n++Builtin.zeroCells z.cells (grownCap w n 0 e-n)) e)):=by
 cases q with
 | none=>exact Go.Lib.run_append_nil_zeros w t tn ty e i z k kn ht htn hi hz n h0 hs h63 h48
 | some a =>
  have hn:n≠0:=by omega
  have hw:IntKind.i64.wrap (n:Int)=n:=by rw[IntKind.wrap_i64];omega
  have h63':¬(9223372036854775807<(n:Int)):=by omega
  have h48':¬(281474976710656<Builtin.nextslicecap n 0*i.bytes):=by rw[nextslicecap_zero h0];omega
  have h48i:¬(281474976710656<(n:Int)*(i.bytes:Int)):=by
   rw[<-W2n]
   omega
  have hneg:¬((n:Int)<0):=by omega
  have hns:¬(n*i.size=0):=Nat.mul_ne_zero hn (by omega)
  simp[Builtin.append_,run_underlying ht,run_underlying htn,sizeOf,typeInfo,zeroValue,hi,hz,asInt,asIntOf,hw,hn,hneg,hns,h63',h48',h48i,Question.forced,Builtin.firstCells,loadCells,loadCellsFrom,newRow,grownCap]
section
variable{c:Cx}{s:St}{p:Pl}
theorem ApM{o:Oper}{x y:Operand}{T T':TypeId}{ti:TI}{sz:Nat}{m:Int}(n:Nat)(h:Ynm c.tb c.n s=some (p,o,x,y,T,T',ti,sz,m))(h0:0<n)(hr:n<=1099511627776)(k:p.nx' c (.own (o.dst.getD 0) sz 0 n) [(o.dst.getD 0,.arr sz [])])(hm:m=(n:Int):=by first | exact rfl | omega): StP c s:=by
 subst hm
 unfold Ynm at h
 split at h<;>try cases h
 rename_i p' o' ho
 split at h<;>try cases h
 rename_i x' y' T1 T2 hop hdr
 split at h<;>try cases h
 rename_i m' ti1 kn _ e' eb' ar' hx hy hti hti'
 split at h<;>cases h
 rename_i hd hb hz
 refine Xr4 ho (by unfold Xao;rw[hop];rfl) hdr (λN W θ ρ _ hO hN hB hv=>?_) k
 obtain⟨hk,_⟩:=c.hT _ _ hti
 obtain⟨t,u1,_,u3⟩:=hk.u
 rw[hz] at u3
 obtain⟨E,e,hsz,hez,ii,v0,i1,i2,i3,i4,i5⟩:=u3
 subst e
 obtain⟨hk',_⟩:=c.hT _ _ hti'
 obtain⟨t',u1',_,u3'⟩:=hk'.u
 have u3':t'=.int kn:=u3'
 subst u3'
 obtain⟨q,ex⟩:=Xng (hv _ _ hx)
 obtain⟨ey,_⟩:=Xda (hv _ _ hy)
 have hsp:0<ii.size:=by rw[i2];exact D.size_pos _
 have hbb:n*ii.bytes<=281474976710656:=by rw[i3];have:=W1x hr (W1e hb);omega
 have hrun:=Ygo (P:=c.P) W.w T T' o.type E ii v0 .i64 kn u1 u1' i1 i4 q n h0 hsp (by omega) hbb
 have hge:=grownCap_ge W.w n 0 E
 have hlt:grownCap W.w n 0 E<9223372036854775808:=by
  have:=W1q (W.w.tape W.w.drawn (.appendCap n 0 E)) (show 0<2^63-n by omega)
  simp only[grownCap,Question.cut] at *
  omega
 have hzs:v0.cells.size=sz:=by rw[hsz,<-D.zc_len,<-i5];simp
 obtain⟨W',θ',e1,e2,e3⟩:=Xk4 (W:=W.tick) (θ:=θ) (g:=(sem p.E p.H).2) (dd:=o.dst.getD 0) (E:=E) (sz:=sz) (xs:=[]) (cs:=[]) (c:=grownCap W.w n 0 E) (zs:=(Builtin.zeroCells v0.cells n++Builtin.zeroCells v0.cells (grownCap W.w n 0 E-n)).toList) (Stp.tick hO).obs hN hB hd (λi x h=>by simp at h) (by simp) (by simp) hlt (by
  rw[W3x,Array.length_toList,Array.size_append,size_zeroCells,size_zeroCells,hzs,<-W1i]
  congr 1
  omega)
 obtain⟨cs,⟨b,pp,k1,k2,k3,k4,k5⟩,k6⟩:=e3
 subst k4
 have k6:Value.slice (some ⟨W.tick.size,0,none⟩) 0 (grownCap W.w n 0 E)=.slice pp 0 ((θ' (o.dst.getD 0)).2-0):=k6
 injection k6 with k6 k7 k8
 have k5:=k5 (.inl rfl)
 rw[<-k6] at k5
 injection k5 with k5
 injection k5 with k5
 have k5:W.size=b:=k5
 subst k5
 refine⟨W',θ',.value (.slice (some ⟨W.size,0,none⟩) n (grownCap W.w n 0 E)),?_,(Stp.tick hO).trans e2,.inr ⟨_,rfl,Yde (xs:=[]) k1 (by omega) (by omega) k3⟩,λi hi=>⟨_,by subst hi;exact Xai _ _ _⟩⟩
 have h1:execOp ρ o=(Builtin.append_ #[T,T'] o.type #[ρ x,ρ y] >>= λv=>pure (.value v)):=by
  simp[execOp,hop,resolve,invoke,builtin]
 rw[h1,Sem.run_bind,ex,ey,hrun,e1]
 have fin:∀ {a b:Array Value},a=b->(Result.ok (Next.value (.slice (some ⟨W.size,0,none⟩) n (grownCap W.w n 0 E))) (W.w.drew.alloc (.cells a E)):Result Next)=.ok (.value (.slice (some ⟨W.size,0,none⟩) n (grownCap W.w n 0 E))) (W.tick.w.alloc (.cells b E)):=by
  rintro a b rfl;rfl
 exact fin (by simp)
noncomputable def Ynf(tb:Nat->Option TI)(n:Nat)(s:St): Option Pl:=match nxA tb n s with
 | some (p,o,[.nil])=>match o.op with
  | .call ⟨.builtin .cap,_,⟨[T]⟩⟩=>match tb T with
   | some ⟨.sl _ _,_,_,_⟩=>some p
   | _=>none
  | _=>none
 | _=>none
theorem Kp(h:Ynf c.tb c.n s=some p)(k:p.nx c (.d (.int .i64 0))): StP c s:=by
 unfold Ynf at h
 split at h<;>try cases h
 rename_i p' o hA
 split at h<;>try cases h
 rename_i asx T ho
 split at h<;>cases h
 rename_i ht
 refine Xbr (us:=[]) hA ?_ (Pl.nx_nil k)
 rw[ho]
 simp[F,Fp,ht]
theorem Sn{h':Int}(h:nxS c.tb c.n s=some (p,.nil,none,some h'))(k:p.nx c .nil)(hh:h'=0:=by exact rfl): StP c s:=Xjo h (by subst hh;rfl) k
noncomputable def Yng(tb:Nat->Option TI)(n:Nat)(s:St): Option (Pl×FuncId×List AV):=match nxO tb n s with
 | some (p,o)=>match o.op with
  | .call ⟨.value x,asx,tys⟩=>match callee (look p.E) x,getEs (look p.E) asx.toList with
   | some (f,ex),some vs=>some (p,f,vs++ex)
   | _,_=>none
  | _=>none
 | none=>none
theorem CoN{f:FuncId}{asx:List AV}{Q:AV->Ob->Prop}(h:Yng c.tb c.n s=some (p,f,asx))(hc:CO c.P f asx Q)(k:∀v ob,Q v ob->p.nx' c (v.rnf (rnL [(1000000,p.d.getD 0)])) [(p.d.getD 0,ob.rnf (rnL [(1000000,p.d.getD 0)]))])
 (hk:(Xss asx [] [] (p.d.getD 0) p.H && !p.dr)=true:=by exact rfl):StP c s:=by
 rw[W0f,W1p] at hk
 obtain⟨hk,hdr⟩:=hk
 have hk':=hk
 simp only[Xss,W0f,W1p] at hk'
 obtain⟨⟨⟨⟨⟨k1,k2⟩,k3⟩,k4⟩,k5⟩,k6⟩:=hk'
 have hid:∀ {a:AV},a.rnf (rnL [])=a:=by
  intro a
  induction a with
  | st a ih=>simp only[AV.rnf,ih]
  | tup a ih=>simp only[AV.rnf,ih]
  | fm f a ih=>simp only[AV.rnf,ih]
  | pr a c iha ihc=>simp only[AV.rnf,iha,ihc]
  | _=>rfl
 have hmap:asx.map (AV.rnf (rnL []))=asx:=by rw[show AV.rnf (rnL [])=id from funext λa=>hid,List.map_id]
 unfold Yng at h
 split at h<;>try cases h
 rename_i p' o ho
 obtain⟨hw,hd⟩:=Xup ho
 split at h<;>try cases h
 rename_i x as' tys he
 split at h<;>cases h
 rename_i ex vs hvs hf
 have kk:∀v ob,Q v ob->WL c.P c.tb p.dr p.L (J c p.K) p.l (S.put ((sem p.E p.H).1,Xbg (sem p.E p.H).2 [(p.d.getD 0,ob.rnf (rnL [(1000000,p.d.getD 0)]))]) o.dst (v.rnf (rnL [(1000000,p.d.getD 0)]))):=λv ob hv=>by
  have:=Pl.nx'_eq.1 (k v ob hv)
  have this:WL c.P c.tb p.dr p.L (J c p.K) p.l (sem (Xsr p.E p.d _) (_++p.H)):=this
  rw[<-hd,Xe7]
  exact this
 refine Xmg ho (.inl ⟨hw,?_⟩)
 unfold Wb
 rw[he]
 refine⟨_,_,_,hf,hvs,?_⟩
 rw[hdr] at kk |-
 obtain⟨a1,a2⟩:=Xiz hc hk (Xbh k2) (g:=look p.H) (λo x hx=>by simp[look] at hx)
 rw[hmap] at a2
 refine⟨_,_,.inr rfl,⟨a1,a2⟩,?_⟩
 rintro v g' ⟨v0,H',d1,⟨ob,rfl,d2⟩,rfl,rfl⟩
 have:=kk v0 ob d2
 simpa [rfH,rnL] using this
end
def AV.nl(o sz:Nat): AV->AV
 | .nil=>.gr o sz []
 | .st a=>.st (a.nl o sz)
 | .pr a c=>.pr (a.nl o sz) (c.nl o sz)
 | a=>a
theorem Yoc{W:GW}{θ:Loc}{o sz:Nat}(h0:θ o=(none,0)): ∀ {a:AV} {cs:List Value},AV.C W θ a cs->AV.C W θ (a.nl o sz) cs:=by
 intro a
 induction a with
 | st a ih=>intro cs h;exact ih h
 | pr a c iha ihc=>intro cs ⟨u,v,h,h1,h2⟩;exact⟨u,v,h,iha h1,ihc h2⟩
 | nil=>intro cs ⟨p,h⟩;exact⟨p,by rw[h,h0];rfl,.inl (by rw[h0]),by simp,by rw[h0];decide,.inl rfl⟩
 | _=>intro cs h;exact h
theorem Yhd{o sz i:Nat}: ∀ {a:AV},(a.nl o sz).ids i->i=o\/a.ids i:=by
 intro a
 induction a with
 | st a ih=>exact ih
 | pr a c iha ihc=>exact λh=>h.elim (λh=>(iha h).imp id .inl) λh=>(ihc h).imp id .inr
 | nil=>exact .inl
 | _=>exact .inr
section
variable{c:Cx}{s:St}{p:Pl}
theorem nvS{K:List Kt}{E:Env}{H:Hpl}(q o' sz:Nat){a:AV}(hv:look H q=some (.var a))(hb:(Nat.blt o' 1000000 && !Xce H o')=true)(k:J c K (sem E ((q,.var (a.nl o' sz))::(o',.tok 0 sz)::H))): J c K (sem E H):=by
 simp only[W0f,W1p] at hb
 have hb1:=Xqq hb.1
 have hn:look H o'=none:=Xbh hb.2
 have hq:q≠o':=λe=>by rw[e,hn] at hv;cases hv
 rintro x w ⟨s0,W,θ,hw,hs,hθ,rfl⟩
 have st:=Stp.new0 (d:=o') hs.obs hb1 hn (x:=.tok 0 sz) ⟨by simp,by simp,.inl (by simp)⟩ (λi h=>h)
 have h1:=hs.step0 st
 refine k x w ⟨_,W,_,hw,?_,λi hi=>(st.hi i hi).trans (hθ i hi),rfl⟩
 rw[show sem E ((q,Ob.var (a.nl o' sz))::(o',Ob.tok 0 sz)::H)=(look E,upd (upd (look H) o' (.tok 0 sz)) q (.var (a.nl o' sz))) by rw[Xa3,Xa3]]
 have hq1:upd (look H) o' (.tok 0 sz) q=some (.var a):=by rw[Xak hq];exact hv
 have hdom:∀ {i:Nat} {y:Ob},upd (look H) o' (.tok 0 sz) i=some y->∃z,upd (upd (look H) o' (.tok 0 sz)) q (.var (a.nl o' sz)) i=some z:=λ{i y} hy=>by
  by_cases e:i=q
  . subst e;exact⟨_,Xai _ _ _⟩
  . exact⟨y,by rw[Xak e];exact hy⟩
 refine⟨h1.fm,h1.rel,⟨λi y hy=>?_,λi y b hy hl hb=>?_,λi j y y' b hy hy' hl hl' b1 b2=>?_,λi y j hy hj=>?_⟩,λt v i ht hi=>?_⟩
 . rcases Xae hy with ⟨e1,e2⟩ | ⟨e1,e2⟩
   . subst e1;subst e2
     obtain⟨b,cs,T,r1,r2,r3,r4⟩:=h1.obs.r _ _ hq1
     exact⟨b,cs,T,r1,r2,Yoc (by simp) r3,r4⟩
   . exact h1.obs.r _ _ e2
 . rcases Xae hy with ⟨e1,e2⟩ | ⟨e1,e2⟩
   . subst e1;exact h1.obs.new _ _ b hq1 rfl hb
   . exact h1.obs.new _ _ b e2 hl hb
 . rcases Xae hy with ⟨e1,e2⟩ | ⟨e1,e2⟩<;>rcases Xae hy' with ⟨f1,f2⟩ | ⟨f1,f2⟩
   . rw[e1,f1]
   . subst e1;exact h1.obs.dis _ _ _ _ b hq1 f2 rfl hl' b1 b2
   . subst f1;exact h1.obs.dis _ _ _ _ b e2 hq1 hl rfl b1 b2
   . exact h1.obs.dis _ _ _ _ b e2 f2 hl hl' b1 b2
 . rcases Xae hy with ⟨e1,e2⟩ | ⟨e1,e2⟩
   . subst e2
     rcases Yhd (a:=a) hj with h | h
     . exact hdom (y:=.tok 0 sz) (by rw[h];exact Xai _ _ _)
     . obtain⟨z,hz⟩:=h1.obs.ids _ _ j hq1 h
       exact hdom hz
   . obtain⟨z,hz⟩:=h1.obs.ids _ _ j e2 hj
     exact hdom hz
 . obtain⟨z,hz⟩:=h1.ids t v i ht hi
   exact hdom hz
theorem Nv{K:List Kt}{E:Env}{H:Hpl}(q o' sz:Nat){a:AV}(h:nxJ c.tb c.n s=some (K,E,H))(k:StP c (.j [] K E ((q,.var (a.nl o' sz))::(o',.tok 0 sz)::H)))(hv:look H q=some (.var a):=by exact rfl)(hb:(Nat.blt o' 1000000 && !Xce H o')=true:=by exact rfl): StP c s:=by
 unfold nxJ at h
 split at h<;>cases h
 rename_i hr
 exact go 1000 hr (nvS q o' sz hv hb k)
end
end Go.Vm
namespace Go.Proofs.YtgpipgjbkggjpaaGreatDoor
open Go Go.Vm Go.Num Go.Tow
theorem Xiy{l:List Rat}(h0:0<l.length)(hl:l.length<=1048576): CA0 232 [.d (dqs l)] 4 (l.map dq):=by
 refine EnW Tryz.func232 λ_ _ _ _=>?_
 refine Ub rfl (λh=>?_) ?_
 . exact absurd h (by intro e; have:l.length = 0 := by simpa using congrArg List.length e
                      omega)
 refine ApL (l.map dq) rfl rfl (by simpa using h0) (by simpa using W0h hl (by decide)) ?_
 exact Rw [(7,1000000)] [(1000000,.arr 4 (l.map dq))] rfl (.one (.rf rfl) rfl rfl) ⟨_,rfl,rfl,rfl⟩
theorem Xj4{l:List Rat}(h0:0<l.length)(hl:l.length<=1048576): C0 232 [.d (dqs l)] (·=.d (dqs l)):=(Xiy h0 hl).data
theorem Xv0{n:Nat}(h0:0<n)(hn:n<=1048576): CA0 368 [.nil,.d (.int .i64 n)] 4 []:=by
 refine EnW Tryz.func368 λ_ _ _ _=>?_
 refine No rfl (by omega) ?_
 refine Kp rfl ?_
 refine Ar 0 rfl ?_
 refine Ar n rfl ?_
 refine Yes rfl (by omega) ?_
 refine Kp rfl ?_
 refine Sn rfl ?_
 refine ApM n rfl h0 (by omega) ?_
 refine Sw 0 0 rfl (by omega) (by omega) ?_
 exact Rw [(22,1000000)] [(1000000,.arr 4 [])] rfl (.one (.rf rfl) rfl rfl) ⟨_,rfl,rfl,rfl⟩
theorem Ynr{c c':Bool}(h:c=c'){g:Hp}{K:Hpl}: FitT g K (.b c) (.b c'):=by
 subst h;exact .one (.rf rfl) (λ_ _ e=>by cases e) (λ_ _ e=>by cases e)
theorem Xrd{p q:Prop}(h:p↔q): dc p=dc q:=by rw[show p=q from propext h]
namespace P8
theorem Xz4{n:Int}(hn:n<0)(hl:(dig n.natAbs).length<=274877906944): C0 353 [.d (dz n)] (·=.tup (.pr (.d (dS false [])) (.d (.int .i64 7)))):=by
 refine En Tryz.func353 λ_ _ _=>?_
 refine Ce rfl (Sign_ok (z:=n) (by omega)) ?_
 refine Yes rfl (by rcases Xay n 0 with ⟨g1,g2⟩ | ⟨g1,g2⟩ | ⟨g1,g2⟩<;>omega) ?_
 exact RTt rfl (.cons (.sd (.pd (.bd rfl) (.nil rfl))) Xa6)
theorem Xkz{n:Int}(hl:(dig n.natAbs).length<=274877906944): C0 367 [.d (dz n)] λv=>∃b l,v=.tup (.pr (.d (dS b l)) (.b (dc (0<=n/\sqN n.natAbs))))/\(0<=n->dS b l=dz (rt n.natAbs:Int)):=by
 have hs:=@Sqrt_ok n.natAbs hl
 refine En Tryz.func367 λ_ _ _=>?_
 by_cases hn:0<=n
 . have e:((n.natAbs:Nat):Int)=n:=by omega
   rw[e] at hs
   have hr:=(Xc5 n.natAbs).1
   have h3:rt n.natAbs<=rt n.natAbs*rt n.natAbs:=Nat.le_mul_self _
   have l1:=Xaq (show rt n.natAbs<=n.natAbs by omega)
   have l2:=Xaq hr
   refine Ce rfl hs ?_
   refine Dw rfl ?_
   refine Yes rfl rfl ?_
   refine Ce rfl (Mul_ok (by rw[W1f];omega) (by rw[W1f];omega)) ?_
   refine Ce rfl (Cmp_ok (by rw[<-W2n,W1f];omega) (by omega)) ?_
   refine Rt rfl (.tup (.cons (.rf rfl) (Ynr (Xrd ?_)))) ⟨_,_,rfl,λ_=>rfl⟩
   unfold sqN
   rcases Xay ((rt n.natAbs:Int)*(rt n.natAbs:Int)) n with ⟨g1,g2⟩ | ⟨g1,g2⟩ | ⟨g1,g2⟩<;>rw[<-W2n] at g1<;>rw[<-W2n] at g2 |-<;>omega
 . refine Ce rfl (Xz4 (by omega) hl) ?_
   refine Dw rfl ?_
   refine No rfl (by decide) ?_
   exact Rt rfl (.tup (.cons (.rf rfl) (Xv8 λh=>hn h.1))) ⟨_,_,rfl,λh=>absurd h hn⟩
theorem Xxl{x:Rat}{p:Nat}(hx:Qs p x)(hp:p<=4398046511104): C0 359 [.d (dq x)] λv=>∃b l b' l',v=.tup (.pr (.d (R2.dR b l b' l')) (.b (dc (∃y:Rat,y*y=x))))/\((∃y:Rat,y*y=x)->∃y:Rat,y*y=x/\R2.dR b l b' l'=dq y):=by
 have h1:=hx.n.len2 hp
 have h2:=hx.d.len2 hp
 have hi:=Xtm (q:=x)
 refine En Tryz.func359 λ_ _ _=>?_
 refine Ca rfl (Xkz (n:=x.num) (by omega)) λv hv=>?_
 obtain⟨b,l,rfl,hb⟩:=hv
 refine Ca rfl (Xkz (n:=(x.den:Int)) (by omega)) λv hv=>?_
 obtain⟨b',l',rfl,hb'⟩:=hv
 have z:∀ {c g K},(c=false/\¬ ∃y:Rat,y*y=x)->FitT g K (.pr (.st (.pr (.st (.pr (.b false) .nil)) (.st (.pr (.b false) .nil)))) (.b c)) (.pr (.d (R2.dR false [] false [])) (.b (dc (∃y:Rat,y*y=x)))):=λ⟨h0,h⟩=>by
  subst h0;exact .cons (.sd (.pd (.sd (.pd (.bd rfl) (.nil rfl))) (.sd (.pd (.bd rfl) (.nil rfl))))) (Xv8 h)
 refine By rfl (λh=>?_) λh=>?_
 . have h:¬(0<=x.num/\sqN x.num.natAbs):=by simpa only [Xav,Xaj] using h
   have no:¬ ∃y:Rat,y*y=x:=λe=>h ⟨(hi.1 e).1,(hi.1 e).2.1⟩
   exact Rt rfl (.tup (z ⟨rfl,no⟩)) ⟨false,[],false,[],rfl,λe=>absurd e no⟩
 have h:0<=x.num/\sqN x.num.natAbs:=by simpa [Xav,Xaj] using h
 refine By rfl (λk=>?_) λk=>?_
 . have k:¬(0<=(x.den:Int)/\sqN (x.den:Int).natAbs):=by simpa only [Xav,Xaj] using k
   have no:¬ ∃y:Rat,y*y=x:=λe=>k ⟨by omega,by rw[W1f];exact(hi.1 e).2.2⟩
   exact Rt rfl (.tup (z ⟨rfl,no⟩)) ⟨false,[],false,[],rfl,λe=>absurd e no⟩
 have k:0<=(x.den:Int)/\sqN (x.den:Int).natAbs:=by simpa [Xav,Xaj] using k
 rw[W1f] at k
 obtain⟨y,y1,y2,y3⟩:=Xkt (q:=x) h.1 h.2 k.2
 refine Rt rfl (.tup (.cons (.rf rfl) (Xxq ⟨y,y3⟩))) ⟨_,_,_,_,rfl,λ_=>⟨y,y3,?_⟩⟩
 have e1:=hb h.1
 have e2:=hb' k.1
 rw[W1f] at e2
 show D.st (.pr (dS b l) (dS b' l'))=D.st (.pr (dz _) (dz _))
 rw[e1,e2,y1,y2]
theorem Xon{k r p:Nat}{t:Tw k}{a:Tow.El k}(hT:TS r k t)(ha:Sz p (toL k a))(hk:k<=16)(hp:p+3+cB r k<=4398046511104)(hr:r<=4398046511104): C0 362 [.d (dt t),.d (de a)] (·=.d (de (mul k t a (rat k (1/2))))):=by
 refine En Tryz.func362 λ_ _ _=>?_
 refine Ce rfl (Xcg (a:=1) (b:=2) (by decide) (by decide)) ?_
 rw[Xvz]
 refine Ce rfl (Xcq (x:=1/2) (p:=3) hT hk hr ⟨show (1/2:Rat).num.natAbs<2^3 by decide +kernel,show ((1/2:Rat).den:Int).natAbs<2^3 by decide +kernel⟩ (by decide)) ?_
 refine Ce rfl (Xdr hT ha Sz.half hk (by omega) hr) ?_
 exact R0
theorem Xrf{a b:List D}(h0:0<a.length+b.length)(hl:a.length+b.length<=1048576): C0 360 [.d (.sl 1 [.sl 4 a,.sl 4 b])] (·=.d (.sl 4 (a++b))):=by
 refine En Tryz.func360 λ_ _ _=>?_
 refine Lo (λ(x:Nat×Nat)=>[(0,.d (.sl 1 [.sl 4 a,.sl 4 b])),(2,.nil),(3,.d (.int .i64 x.2)),(9,.d (.sl 1 [.sl 4 a,.sl 4 b])),(10,.d (.int .i64 2)),(11,.d (.int .i64 x.1))]) (λ_=>[]) (λx=>x=(0,0)\/x=(1,a.length)\/x=(2,a.length+b.length)) (λx=>2-x.1) (0,0) [] rfl (.inl rfl) (λx hI=>?_)
 rcases hI with rfl | rfl | rfl
 . refine Yes rfl (show ((0:Nat):Int)<2 by decide) ?_
   refine Ix 0 rfl (u:=.sl 4 a) rfl ?_
   refine Ar a.length rfl ?_ (wr (by omega) (by simp only[inK];omega))
   refine No rfl (by omega) ?_
   refine Ar (1:Nat) rfl ?_
   exact Bk (1,a.length) [] rfl (.inr (.inl rfl)) (show 1<2 by decide)
 . refine Yes rfl (show ((1:Nat):Int)<2 by decide) ?_
   refine Ix 1 rfl (u:=.sl 4 b) rfl ?_
   refine Ar (a.length+b.length:Nat) rfl ?_ (wr (by omega) (by simp only[inK];omega))
   refine No rfl (by omega) ?_
   refine Ar (2:Nat) rfl ?_
   exact Bk (2,a.length+b.length) [] rfl (.inr (.inr rfl)) (show 0<1 by decide)
 refine No rfl (show ¬((2:Nat):Int)<2 by decide) ?_
 refine CoN rfl (Xv0 (n:=a.length+b.length) (by omega) hl) (λv ob hv=>?_)
 obtain⟨rfl,rfl⟩:=hv
 refine Lo (λ(x:Nat×List D)=>[(0,.d (.sl 1 [.sl 4 a,.sl 4 b])),(2,.nil),(6,.own 24 4 0 x.2.length),(25,.d (.sl 1 [.sl 4 a,.sl 4 b])),(26,.d (.int .i64 2)),(27,.d (.int .i64 x.1))]) (λx=>[(24,.arr 4 x.2)]) (λx=>x=(0,[])\/x=(1,a)\/x=(2,a++b)) (λx=>2-x.1) (0,[]) [] rfl (.inl rfl) (λx hI=>?_)
 rcases hI with rfl | rfl | rfl
 . refine Yes rfl (show ((0:Nat):Int)<2 by decide) ?_
   refine Ix 0 rfl (u:=.sl 4 a) rfl ?_
   refine ApO a rfl rfl rfl rfl (by omega) ?_
   refine Ar (1:Nat) rfl ?_
   exact Bk (1,a) [(24,90),(33,24)] rfl (.inr (.inl rfl)) (show 1<2 by decide)
 . refine Yes rfl (show ((1:Nat):Int)<2 by decide) ?_
   refine Ix 1 rfl (u:=.sl 4 b) rfl ?_
   refine ApO (a++b) rfl rfl rfl (by simp) (by simp;omega) ?_
   refine Ar (2:Nat) rfl ?_
   exact Bk (2,a++b) [(24,90),(33,24)] rfl (.inr (.inr rfl)) (show 0<1 by decide)
 refine No rfl (show ¬((2:Nat):Int)<2 by decide) ?_
 exact R1 rfl (.own rfl (by simp) (by rw[W1d];exact W0b (by simp)))
theorem Xm0{k:Nat}{x y:Tow.El k}(hk:k<=16): C0 360 [.d (.sl 1 [de x,de y])] (·=.d (de (pr x y))):=by
 have:=Xrf (a:=(toL k x).map dq) (b:=(toL k y).map dq) (by simp[Xab];have:=W0n k;omega) (by simp[Xab];have:=p16 hk;omega)
 rwa[<-W2g] at this
end P8
open Go Go.Num Go.Tow
theorem Ybq{r:Nat}: ∀ {k p:Nat},0<iS r k p
 | 0,p=>Nat.succ_pos p
 | k+1,p=>by have:=Ybq (r:=r) (k:=k) (p:=nS r k p);show 0<p+iS r k (nS r k p)+cB r k;omega
theorem Ylu{r:Nat}: ∀ {k p:Nat},p<=iS r k p
 | 0,p=>Nat.le_succ p
 | k+1,p=>by show p<=p+iS r k (nS r k p)+cB r k;omega
theorem Yh6{r:Nat}: ∀ {k p:Nat},p<=iB r k p
 | 0,p=>Nat.le_succ p
 | k+1,p=>by show p<=2*(p+iB r k (nB r k p)+cB r k);omega
end Go.Proofs.YtgpipgjbkggjpaaGreatDoor
namespace Go.Proofs.YtgpipgjbkggjpaaGreatDoor.P8
open Go Go.Vm Go.Num Go.Tow Go.Proofs.YtgpipgjbkggjpaaGreatDoor
def SqP(k:Nat)(t:Tw k)(a:Tow.El k)(v:AV): Prop:=∃w:List D,w.length<=2^k/\v=.tup (.pr (.d (.sl 4 w)) (.b (dc (Xcy k t a))))/\(Xcy k t a->∃x,mul k t x x=a/\D.sl 4 w=de x)
theorem Xje{k r:Nat}{t:Tw k}(hT:TS r k t)(hk:k<=16)(hr:r<=4398046511104): C0 277 [.d (dt t),.d (dq ((0:Int):Rat))] (·=.d (de (zero k))):=by
 have:=Xcq (x:=((0:Int):Rat)) (p:=1) hT hk hr (Qs.int Zs.zero (W0a 1)) (by decide)
 rwa[show ((0:Int):Rat)=0 from rfl,Xer] at this
theorem Xd5{k:Nat}: ∀ {r p:Nat} {t:Tw k} {a:Tow.El k},TS r k t->Sz p (toL k a)->red k t->k<=16->qB r k p<=4398046511104->r<=4398046511104->C0 349 [.d (dt t),.d (de a)] (SqP k t a):=by
 induction k with
 | zero =>
  intro r p t a hT ha hR hk hq hr
  have hq:p<=4398046511104:=hq
  have key:∀y:Rat,Qs p y->C0 349 [.d (dts []),.d (dqs [y])] λv=>∃w:List D,w.length<=2^0/\v=.tup (.pr (.d (.sl 4 w)) (.b (dc (∃x:Rat,x*x=y))))/\((∃x:Rat,x*x=y)->∃x:Rat,x*x=y/\D.sl 4 w=dqs [x]):=λy hy=>by
   refine En Tryz.func349 λ_ _ _=>?_
   refine Yes rfl rfl ?_
   refine Ix 0 rfl (u:=dq y) rfl ?_
   refine Ca rfl (Xxl hy (by omega)) λv hv=>?_
   obtain⟨b,l,b',l',rfl,hw⟩:=hv
   exact Rt rfl (.tup (.cons (.lit rfl) (.one (.rf rfl) (λ_ _ e=>by cases e) (λ_ _ e=>by cases e)))) ⟨_,W0a _,rfl,λh=>let ⟨y,h1,h2⟩:=hw h;⟨y,h1,by rw[show dqs [y]=D.sl 4 [dq y] from rfl,<-h2];rfl⟩⟩
  exact key a (ha.qs (W0g.2 rfl))
 | succ k ih =>
  intro r p t a hT ha hR hk hq hr
  have hx:Sz p (toL k a.1):=Sz.left ha
  have hy:Sz p (toL k a.2):=Sz.right ha
  have hlen:=Xab k
  have hk0:=W0n k
  have hpk:=p16 (show k<=16 by omega)
  have hz:=ha.normS hT
  have L:=Xaw k t.1
  have hqq:p+vB r (k+1) p+vB r (k+1) r+nB r k p+qB r k (sX r k p)+iB r k (sX r k p+gC r k)+iS r k (sX r k p+gC r k)+iB r k r+2*cB r k+4<=4398046511104:=hq
  have hX:sX r k p=p+nS r k p+gC r k+cB r k+iS r k r+4:=rfl
  have hN:nB r k p=4*p+3*cB r k+r+1:=rfl
  have hI:0<iS r k r:=Ybq
  have q6:=Ylu (r:=r) (k:=k) (p:=sX r k p+gC r k)
  have q7:=Yh6 (r:=r) (k:=k) (p:=sX r k p+gC r k)
  have q1:qB r k p<=qB r k (sX r k p):=Xc7 (by omega)
  have q2:qB r k (nS r k p)<=qB r k (sX r k p):=Xc7 (by omega)
  have q3:qB r k (p+iS r k r+cB r k)<=qB r k (sX r k p):=Xc7 (by omega)
  have q4:sX r k p<=qB r k (sX r k p):=Yg0
  have hr0:t.2≠zero k:=λh0=>hR.2.2 ⟨zero k,by rw[h0,L.mz]⟩
  obtain⟨i,hi⟩:=(Xcr hR.1).2 t.2 hr0
  have him:=Xcc hi
  have hiz:=Sz.invS hT.1 hT.2 hi
  have no0:∀ {g K},¬Xcy (k+1) t a->FitT g K (.pr .nil (.b false)) (.pr (.d (.sl 4 [])) (.b (dc (Xcy (k+1) t a)))):=λh=>.cons (.nil (sz:=4) rfl) (Xv8 h)
  refine En Tryz.func349 λ_ _ _=>?_
  refine No rfl (by show ¬((((toT k t.1++[toL k t.2]).map dqs).length:Nat):Int)=0;rw[twL];omega) ?_
  refine Dw rfl ?_
  refine Ar k rfl ?_ (tw1 t (by omega))
  refine Tk k ((toT k t.1).map dqs) rfl rfl (Xi7 t) (twT t) ?_
  refine Ar k rfl ?_ (tw1 t (by omega))
  refine Ix k rfl (twU t) ?_
  refine Dw rfl ?_
  refine Ar (2^k:Nat) rfl ?_ (hvq a (by omega))
  refine Tk (2^k) ((toL k a.1).map dq) rfl rfl (Xcd a) (hvT a) ?_
  refine Ar (2^k:Nat) rfl ?_ (hvq a (by omega))
  refine Dp (2^k) ((toL k a.2).map dq) rfl rfl (Xcd a) (hvD a) ?_
  refine Ce rfl (Xem (l:=toL k a.2) hy.ps (by omega) (by rw[hlen];omega)) ?_
  refine By rfl (λhv=>?_) λhv=>?_
  . have ev:=(Xal k a.2).2 hv
    have ea:a=up k a.1:=by show (a.1,a.2)=(a.1,zero k);rw[ev]
    refine Ca rfl (ih hT.1 hx hR.1 (by omega) (by omega) hr) λv hv=>?_
    obtain⟨w,hwl,rfl,hw⟩:=hv
    refine By rfl (λh1=>?_) λh1=>?_
    . obtain⟨x,hx1,hx2⟩:=hw h1
      injection hx2 with _ hx2
      subst hx2
      have hs:mul (k+1) t (pr x (zero k)) (pr x (zero k))=a:=(Ygc hx1).trans ea.symm
      refine Ce rfl (Xat (z:=0) (by decide)) ?_
      refine Ce rfl (Xje hT.1 (by omega) hr) ?_
      refine Ce rfl (Xm0 (x:=x) (y:=zero k) (by omega)) ?_
      exact Rt rfl (.tup (.cons (.rf rfl) (Xxq ⟨_,hs⟩))) ⟨_,by simp[Xab],rfl,λ_=>⟨_,hs,rfl⟩⟩
    . refine Ce rfl (Xns hT.1 hT.2 (by omega) (by omega) hr hi) ?_
      refine No rfl (by decide) ?_
      refine Ce rfl (Xdr hT.1 hx hiz (by omega) (by omega) hr) ?_
      refine Ca rfl (ih hT.1 (hx.mul hT.1 hiz) hR.1 (by omega) (by omega) hr) λv hv=>?_
      obtain⟨w,hwl,rfl,hw⟩:=hv
      refine Ce rfl (Xat (z:=0) (by decide)) ?_
      refine Ce rfl (Xje hT.1 (by omega) hr) ?_
      refine Ce rfl (Xrf (a:=(toL k (zero k)).map dq) (b:=w) (by simp[hlen];omega) (by simp[hlen];omega)) ?_
      have hiff:Xcy k t.1 (mul k t.1 a.1 i)↔Xcy (k+1) t a:=⟨λ⟨x,hx1⟩=>⟨_,(Xtk him hx1).trans ea.symm⟩,λe=>W0u λh2=>Xl5 hR.1 him h1 h2 (ea ▸ e)⟩
      refine Rt rfl (.tup (.cons (.rf rfl) (Ynr (Xrd hiff)))) ⟨_,by simp[hlen];omega,rfl,λe=>?_⟩
      obtain⟨x,hx1,hx2⟩:=hw (hiff.2 e)
      injection hx2 with _ hx2
      subst hx2
      exact⟨(zero k,x),(Xtk him hx1).trans ea.symm,by rw[<-W2g];rfl⟩
  have ev:a.2≠zero k:=λe=>hv ((Xal k a.2).1 e)
  refine Ce rfl (Xx0 hT ha hk (by omega) hr) ?_
  refine Ca rfl (ih hT.1 hz hR.1 (by omega) (by omega) hr) λv hv=>?_
  obtain⟨w,hwl,rfl,hw⟩:=hv
  refine By rfl (λh1=>?_) λh1=>?_
  . have no:¬Xcy (k+1) t a:=λe=>by
     exact h1 (Xtj e)
    exact Rt rfl (.tup (.cons (.nil (sz:=4) rfl) (Xv8 no))) ⟨[],W0y _,rfl,λe=>absurd e no⟩
  obtain⟨m,hm,hm2⟩:=hw (W3e.1 h1)
  injection hm2 with _ hm2
  subst hm2
  have hm:mul k t.1 m m=Tow.norm k t a:=hm
  have hmz:=hz.rootS hT.1 hR.1 hm
  refine Ce rfl (Xh1 hT.1 hx hmz (by omega) (by omega) hr) ?_
  refine Ce rfl (Xkn hT.1 hx hmz (by omega) (by omega) hr) ?_
  refine Lo (λ(x:Nat)=>[(4,.nil),(5,.b false),(8,.d (dt t.1)),(11,.d (de a.2)),(117,.lit 1 [de (Tow.add k a.1 m),de (Tow.add k a.1 (Tow.neg k m))]),(118,.d (.int .i64 2)),(119,.d (.int .i64 x))]) (λ_=>[]) (λx=>x=0\/(x=1/\¬Xcy k t.1 (mul k t.1 (rat k (1/2)) (Tow.add k a.1 m)))\/(x=2/\¬Xcy k t.1 (mul k t.1 (rat k (1/2)) (Tow.add k a.1 m))/\¬Xcy k t.1 (mul k t.1 (rat k (1/2)) (Tow.add k a.1 (Tow.neg k m))))) (λx=>2-x) 0 [] rfl (.inl rfl) (λx hI=>?_)
  have step:∀(mm:Tow.El k),mul k t.1 mm mm=Tow.norm k t a->Sz (nS r k p+gC r k) (toL k mm)->Sz (3+(p+(nS r k p+gC r k)+1)+cB r k) (toL k (mul k t.1 (Tow.add k a.1 mm) (rat k (1/2))))/\mul k t.1 (Tow.add k a.1 mm) (rat k (1/2))=mul k t.1 (rat k (1/2)) (Tow.add k a.1 mm):=λmm _ hs=>⟨by
   rw[L.mc];exact Sz.half.mul hT.1 (by rw[Xax];exact hx.add hs),L.mc _ _⟩
  have q5:qB r k (3+(p+(nS r k p+gC r k)+1)+cB r k)<=qB r k (sX r k p):=Xc7 (by omega)
  refine By rfl (λh2=>?_) λh2=>?_
  . obtain⟨mm,e1,e2,e3,next⟩:∃mm,[de (Tow.add k a.1 m),de (Tow.add k a.1 (Tow.neg k m))][x]?=some (de (Tow.add k a.1 mm))/\mul k t.1 mm mm=Tow.norm k t a/\Sz (nS r k p+gC r k) (toL k mm)/\(¬Xcy k t.1 (mul k t.1 (rat k (1/2)) (Tow.add k a.1 mm))->(x+1=0\/(x+1=1/\¬Xcy k t.1 (mul k t.1 (rat k (1/2)) (Tow.add k a.1 m)))\/(x+1=2/\¬Xcy k t.1 (mul k t.1 (rat k (1/2)) (Tow.add k a.1 m))/\¬Xcy k t.1 (mul k t.1 (rat k (1/2)) (Tow.add k a.1 (Tow.neg k m)))))):=by
     rcases hI with rfl | ⟨rfl,g1⟩ | ⟨rfl,g1,g2⟩
     . exact⟨m,rfl,hm,hmz,λh=>.inr (.inl ⟨rfl,h⟩)⟩
     . exact⟨Tow.neg k m,rfl,by rw[L.mn,L.nm,L.nn,hm],Xg2 hmz,λh=>.inr (.inr ⟨rfl,g1,h⟩)⟩
     . omega
    refine Ix x rfl e1 ?_
    obtain⟨s1,s2⟩:=step mm e2 e3
    refine Ce rfl (Xon hT.1 (a:=Tow.add k a.1 mm) (p:=p+(nS r k p+gC r k)+1) (by rw[Xax];exact hx.add e3) (by omega) (by omega) hr) ?_
    refine Ca rfl (ih hT.1 s1 hR.1 (by omega) (by omega) hr) λv hv=>?_
    obtain⟨w,hwl,rfl,hw⟩:=hv
    refine By rfl (λh3=>?_) λh3=>?_
    . have h3:¬Xcy k t.1 (mul k t.1 (Tow.add k a.1 mm) (rat k (1/2))):=by simpa only [Xav,Xaj] using h3
      rw[s2] at h3
      refine Ar (x+1:Nat) rfl ?_
      exact Bk (x+1) [] rfl (next h3) (by omega)
    . have h3:Xcy k t.1 (mul k t.1 (Tow.add k a.1 mm) (rat k (1/2))):=by simpa [Xav,Xaj] using h3
      obtain⟨w,hw1,hw2⟩:=hw h3
      injection hw2 with _ hw2
      subst hw2
      rw[s2] at hw1
      have hw0:=Ygb hR ev e2 hw1
      have hwz:Sz (3+(p+(nS r k p+gC r k)+1)+cB r k+gC r k) (toL k w):=(s2 ▸ s1).rootS hT.1 hR.1 hw1
      have hw2:Tow.add k w w≠zero k:=λe=>hw0 (by
       have e3:mul k t.1 (rat k (1/2)) (Tow.add k w w)=w:=by rw[L.md,<-L.dm,Xf5,L.om]
       rw[<-e3,e,L.mz])
      obtain⟨j,hj⟩:=(Xcr hR.1).2 _ hw2
      have hdz:Sz (sX r k p+gC r k) (toL k (Tow.add k w w)):=by rw[Xax];exact hwz.dbl.mono (by omega)
      have hjz:=Sz.invS hT.1 hdz hj
      have hs:=Ygd e2 hw1 (Xcc hj)
      refine Ce rfl (Xem (l:=toL k w) hwz.ps (by omega) (by rw[hlen];omega)) ?_
      refine No rfl (λe=>hw0 ((Xal k w).2 e)) ?_
      refine Ce rfl (Xh1 hT.1 hwz hwz (by omega) (by omega) hr) ?_
      refine Ce rfl (Xns hT.1 hdz (by omega) (by omega) hr hj) ?_
      refine Ce rfl (Xdr hT.1 hy hjz (by omega) (by omega) hr) ?_
      refine Ce rfl (Xm0 (by omega)) ?_
      exact Rt rfl (.tup (.cons (.rf rfl) (Xxq ⟨_,hs⟩))) ⟨_,by simp[Xab],rfl,λ_=>⟨_,hs,rfl⟩⟩
  . have no:¬Xcy (k+1) t a:=λe=>by
     rcases hI with rfl | ⟨rfl,g1⟩ | ⟨rfl,g1,g2⟩
     . omega
     . omega
     . obtain⟨w,_,h6 | h6⟩:=Xpr hR.1 ev hm e
       . exact g1 ⟨w,h6⟩
       . exact g2 ⟨w,h6⟩
    exact Rt rfl (.tup (.cons (.nil (sz:=4) rfl) (Xv8 no))) ⟨[],W0y _,rfl,λe=>absurd e no⟩
theorem Xn6{k r p:Nat}{t:Tw k}{a:Tow.El k}(hT:TS r k t)(ha:Sz p (toL k a))(hR:red k t)(hk:k<=16)(hq:qB r k p<=4398046511104)(hv:vB r k (p+gC r k)<=4398046511104)(hr:vB r k r<=4398046511104):
 C0 330 [.d (dt t),.d (de a)] λv=>∃w:D,v=.tup (.pr (.d w) (.b (dc (Xcy k t a))))/\(Xcy k t a->∃x,mul k t x x=a/\0<=sgn k t x/\w=de x):=by
 have L:=Xaw k t
 have S:=Xar (Xaf hR)
 have:=Xdo (r:=r) k (p+gC r k)
 have hr2:=Xdo (r:=r) k r
 refine En Tryz.func330 λ_ _ _=>?_
 refine Ca rfl (Xd5 hT ha hR hk hq (by omega)) λv hv=>?_
 obtain⟨w,_,rfl,hw⟩:=hv
 refine By rfl (λh=>?_) λh=>?_
 . exact Rt rfl (.tup (.cons (.nil (sz:=4) rfl) (Xv8 h))) ⟨_,rfl,λe=>absurd e h⟩
 have h:=W3e.1 h
 obtain⟨x,hx,hx2⟩:=hw h
 injection hx2 with _ hx2
 subst hx2
 have hz:=ha.rootS hT hR hx
 refine Ce rfl (Xlx hT hz (Xaf hR) hk hv hr (by omega)) ?_
 refine By rfl (λh1=>?_) λh1=>?_
 . refine Ce rfl (Xtg hT hz hk (by omega) (by omega)) ?_
   exact Rt rfl (.tup (.cons (.rf rfl) (Xxq h))) ⟨_,rfl,λ_=>⟨Tow.neg k x,by rw[L.mn,L.nm,L.nn,hx],by rw[S.sn];omega,rfl⟩⟩
 . exact Rt rfl (.tup (.cons (.rf rfl) (Xxq h))) ⟨_,rfl,λ_=>⟨x,hx,by omega,rfl⟩⟩
theorem Reduced_ok{k r:Nat}{t:Tw k}(hT:TS r k t)(hR:red k t)(hk:k<=16)(hq:qB r k r<=4398046511104)(hv:vB r k r<=4398046511104): C0 329 [.d (dt t)] (·=.b true):=by
 have:=Xdo (r:=r) k r
 refine En Tryz.func329 λ_ _ _=>?_
 refine Lo (λi:Nat=>[(0,.d (dt t)),(2,.b false),(7,.d (dt t)),(8,.d (.int .i64 ((toT k t).map dqs).length)),(9,.d (.int .i64 i))]) (λ_=>[]) (λi=>i<=k) (λi=>k-i) 0 [] rfl (by omega) (λi hi=>?_)
 refine By rfl (λh=>?_) λh=>?_<;>simp only[lt',Xaa] at h
 . obtain⟨w,x,h1,h2,h3,h4,h5⟩:=Tw.take (t:=t) (i:=i) (by omega)
   have hx:=h3 r hT
   obtain⟨h6,h7,h8⟩:=h5 hR
   have q1:=Xn4 (r:=r) (p:=r) (show i<=k by omega)
   have v1:=Xgf (r:=r) (s:=r) (show i<=k by omega)
   refine Ix i rfl (mp h2) ?_
   refine Tk i ((toT i w).map dqs) rfl rfl (by rw[lt',Xaa];omega) (by rw[<-W1z,h1]) ?_
   refine Ce rfl (Xb2 hx.1 hx.2 (by omega) (by omega) (by omega)) ?_
   refine No rfl (by simp) ?_
   refine Tk i ((toT i w).map dqs) rfl rfl (by rw[lt',Xaa];omega) (by rw[<-W1z,h1]) ?_
   refine Ce rfl (Xlx hx.1 hx.2 (Xaf h6) (by omega) (by omega) (by omega) (by omega)) ?_
   refine No rfl (λe=>e (by rcases Xb7 w x with h | h | h<;>omega)) ?_
   refine Tk i ((toT i w).map dqs) rfl rfl (by rw[lt',Xaa];omega) (by rw[<-W1z,h1]) ?_
   refine Ca rfl (Xd5 hx.1 hx.2 h6 (by omega) (by omega) (by omega)) λv hv=>?_
   obtain⟨d,_,rfl,hd⟩:=hv
   refine No rfl h8 ?_
   refine Ar (i+1:Nat) rfl ?_
   exact Bk (i+1) [] rfl (show i+1<=k by omega) (by show k-(i+1)<k-i;omega)
 . exact R0
theorem Xrh{l:List (List Rat)}(hl:l.length<=1048576)(h:∀x∈l,0<x.length/\x.length<=1048576): CA0 331 [.d (dts l)] 1 (l.map dqs):=by
 have hll:(l.map dqs).length=l.length:=by simp
 refine EnW Tryz.func331 λ_ _ _ _=>?_
 refine Mk l.length rfl (by omega) ?_ (by simp[hll])
 refine Lo (λi:Nat=>[(0,.d (dts l)),(2,.nil),(3,.own 8 1 0 l.length),(9,.d (dts l)),(10,.d (.int .i64 (l.map dqs).length)),(11,.d (.int .i64 i))]) (λi=>[(8,.arr 1 (fl (l.map dqs) (.sl 4 []) i))]) (λi=>i<=l.length) (λi=>l.length-i) 0 [] rfl (by omega) (λi hi=>?_) (by exact⟨rfl,by rw[<-Xiu hll];rfl,rfl,rfl,rfl⟩)
 refine By rfl (λg=>?_) λg=>?_<;>simp only[lt'] at g
 . have hu:l[i]?=some l[i]:=W0c (by omega)
   have hm:=h _ (W6l (l:=l) (n:=i) (by omega))
   refine Ix i rfl (mp hu) ?_
   refine Ce rfl (Xj4 hm.1 hm.2) ?_
   refine Eo i rfl (by omega) ?_
   refine Sto rfl (by rw[Xjx (by omega)];omega) (Xmr (u:=dqs l[i]) (by rw[W1o,hu];rfl)) ?_
   refine Ar (i+1:Nat) rfl ?_
   exact Bk (i+1) [] rfl (show i+1<=l.length by omega) (by show l.length-(i+1)<l.length-i;omega)
 . exact Rw [(8,1000000)] [(1000000,.arr 1 (l.map dqs))] rfl (.one (.rf rfl) rfl rfl) ⟨_,rfl,by rw[hll];rfl,rfl⟩ (by rw[Xms (by omega)];rfl)
theorem Adjoin_ok{k r p:Nat}{t:Tw k}{a:Tow.El k}(hT:TS r k t)(ha:Sz p (toL k a))(hR:red k t)(hk:k<8)(hq:qB r k p<=4398046511104)(hq2:qB r k r<=4398046511104)(hv:vB r k (p+gC r k)<=4398046511104)(hr:vB r k r<=4398046511104):
 C0 276 [.d (dt t),.d (de a)] (R8.AdjR k t a):=by
 have h0:=Xdo (r:=r) k r
 have h1:=Xdo (r:=r) k (p+gC r k)
 have h2:=Xcm (r:=r) (k:=k) (show p<=p+gC r k by omega)
 have hlen:=Xaa k t
 have e2:(((toT k t).map dqs).length:Int)=k:=by simp[hlen]
 have hle:∀x∈toT k t,0<x.length/\x.length<=1048576:=λx hx=>by
  obtain⟨i,hi,e⟩:=List.mem_iff_getElem.1 hx
  have:=(Xkl hT (i:=i) (l:=x) (by rw[W0c hi,e])).1
  rw[hlen] at hi
  have h3:=W0j (n:=2) (by decide) (show i<=8 by omega)
  have:=W0n i
  omega
 refine En Tryz.func276 λ_ _ _=>?_
 refine Ce rfl (Xb2 hT ha (by omega) (by omega) (by omega)) ?_
 refine No rfl (by simp) ?_
 refine Ce rfl (Reduced_ok hT hR (by omega) hq2 hr) ?_
 refine No rfl (by simp) ?_
 refine Ce rfl (Xlx hT ha (Xaf hR) (by omega) (by omega) hr (by omega)) ?_
 refine By rfl (λh=>?_) λh=>?_
 . exact Rt rfl (.tup (.cons (.nil rfl) (.cons (.nil rfl) Xa6))) (.inl ⟨h,rfl⟩)
 refine Ca rfl (Xn6 hT ha hR (by omega) hq hv hr) λv hv=>?_
 obtain⟨w,rfl,hw⟩:=hv
 refine By rfl (λh1=>?_) λh1=>?_
 . obtain⟨x,x1,x2,rfl⟩:=hw h1
   refine Ce rfl (Xrh (by omega) hle).data ?_
   exact Rt rfl (.tup (.cons (.rf rfl) (.cons (.rf rfl) Xa6))) (.inr (.inl ⟨x,x1,x2,rfl⟩))
 refine No rfl (by simp only[lt',hlen];omega) ?_
 refine Cr rfl (Xrh (by omega) hle) ?_
 refine Ce rfl (Xj4 (by rw[Xab];exact W0n k) (by rw[Xab];have:=W0j (n:=2) (by decide) (show k<=8 by omega);omega)) ?_
 refine ApO ((toT k t++[toL k a]).map dqs) rfl rfl rfl (by simp) (by simp[hlen];omega) ?_
 refine Fz 11 9 ((toT k t++[toL k a]).map dqs) rfl (by simp) (by rw[W1d];exact W0b (by simp)) ?_
 have hrt:=Xxz (r:=max r p) (t:=tsn t a) (i:=k) ?_ (by omega) (by omega) (by omega)
 rw[<-e2] at hrt
 refine Ce rfl hrt ?_
 exact Rt rfl (.tup (.cons (.rf rfl) (.cons (.rf rfl) Xa6))) (.inr (.inr ⟨by omega,h1,hk,rfl⟩))
 exact⟨hT.mono (by omega),ha.mono (by omega)⟩
end Go.Proofs.YtgpipgjbkggjpaaGreatDoor.P8
namespace Go.Proofs.YtgpipgjbkggjpaaGreatDoor.P9
open Go Go.Vm Go.Num Go.Tow Go.Proofs.YtgpipgjbkggjpaaGreatDoor
section
theorem Xj3{x:Rat}{p:Nat}(hx:Qs p x)(hp:p<=4398046511104): C0 114 [.d (dq x)] (·=.d (dq x)):=by
 have h1:=hx.n.len2 hp
 have h2:=hx.d.len2 hp
 refine En Tryz.func114 λ_ _ _=>?_
 refine Dw rfl ?_
 refine Ce rfl (Xbq (l:=dig x.num.natAbs) (by omega)) ?_
 refine Ce rfl (Xbq (l:=dig (x.den:Int).natAbs) (by omega)) ?_
 exact R0
theorem Xix{l:List Rat}{p:Nat}(hl:Ps p l)(hp:p<=4398046511104)(hn:l.length<=1048576): C0 274 [.d (dqs l)] (·=.d (dqs l)):=by
 have hll:(l.map dq).length=l.length:=by simp
 refine En Tryz.func274 λ_ _ _=>?_
 refine Mk l.length rfl (by omega) ?_ (by simp[hll])
 refine Lo (λi:Nat=>[(0,.d (dqs l)),(2,.nil),(3,.own 8 4 0 l.length),(9,.d (dqs l)),(10,.d (.int .i64 (l.map dq).length)),(11,.d (.int .i64 i))]) (λi=>[(8,.arr 4 (fl (l.map dq) rz i))]) (λi=>i<=l.length) (λi=>l.length-i) 0 [] rfl (by omega) (λi hi=>?_) (by exact⟨rfl,by rw[<-Xiu hll];rfl,rfl,rfl,rfl⟩)
 refine By rfl (λg=>?_) λg=>?_<;>simp only[lq] at g
 . obtain⟨u,hu⟩:=qat (l:=l) (k:=i) (by omega)
   refine Ix i rfl (mp hu) ?_
   refine Ce rfl (Xj3 (hl u (W0i hu)) hp) ?_
   refine Eo i rfl (by omega) ?_
   refine Sto rfl (by rw[Xjx (by omega)];omega) (Xmr (u:=dq u) (by rw[W1o,hu];rfl)) ?_
   refine Ar (i+1:Nat) rfl ?_
   exact Bk (i+1) [] rfl (show i+1<=l.length by omega) (by show l.length-(i+1)<l.length-i;omega)
 . refine R1 rfl (.own rfl (by rw[Xjx (by omega)];simp) ?_)
   rw[Xms (by omega),W1d]
   exact W0b (by simp)
theorem Xya{x y:Rat}{p q:Nat}(hx:Qs p x)(hy:Qs q y)(hp:p+q<=8796093022208): C0 230 [.d (dq x),.d (dq y)] (·=.b (dc (x=y))):=by
 refine En Tryz.func230 λ_ _ _=>?_
 refine Ce rfl (Xbu hx hy hp) ?_
 exact R1 rfl (.bp (Xaj.trans ⟨λh=>W0u λe=>R9.cmpQ_ne.2 e h,λe=>W0u λh=>R9.cmpQ_ne.1 h e⟩))
theorem Xzh{l m:List Rat}{p q:Nat}(hl:Ps p l)(hm:Ps q m)(hp:p+q<=8796093022208)(hn:l.length<=1048576): C0 229 [.d (dqs l),.d (dqs m),.d (.raw (.func (.func 230) #[] #[]))] (·=.b (dc (l=m))):=by
 refine En Tryz.func229 λ_ _ _=>?_
 refine By rfl (λh=>?_) λh=>?_<;>simp only[lq] at h
 . exact R1 rfl (.bp ⟨nofun,λe=>absurd (by rw[e]) h⟩)
 have h:l.length=m.length:=by omega
 refine Lo (λk:Nat=>[(0,.d (dqs l)),(1,.d (dqs m)),(2,.d (.raw (.func (.func 230) #[] #[]))),(15,.d (dqs l)),(16,.d (.int .i64 (l.map dq).length)),(17,.d (.int .i64 k))]) (λ_=>[]) (λk=>k<=l.length/\l.take k=m.take k) (λk=>l.length-k) 0 [] rfl ⟨by omega,rfl⟩ λk ⟨hk,ht⟩=>?_
 refine By rfl (λh2=>?_) λh2=>?_<;>simp only[lq] at h2
 . obtain⟨x,hx⟩:=qat (l:=l) (k:=k) (by omega)
   obtain⟨y,hy⟩:=qat (l:=m) (k:=k) (by omega)
   refine Ix k rfl (mp hx) ?_
   refine Ix k rfl (mp hy) ?_
   refine Ce rfl (Xya (hl x (W0i hx)) (hm y (W0i hy)) hp) ?_
   refine By rfl (λh3=>?_) λh3=>?_
   . have h3:¬x=y:=by simpa [Xav,Xaj] using h3
     exact R1 rfl (.bp ⟨nofun,λe=>by subst e;rw[hx] at hy;injection hy with hy;exact absurd hy h3⟩)
   . have e:x=y:=by simpa [Xav,Xaj] using h3
     refine Ar (k+1:Nat) rfl ?_
     exact Bk (k+1) [] rfl ⟨by omega,by rw[W2f,W2f,hx,hy,ht,e]⟩ (by show l.length-(k+1)<l.length-k;omega)
 . rw[W0b (by omega),W0b (by omega)] at ht
   exact R1 rfl (.bp ⟨λ_=>ht,λ_=>rfl⟩)
theorem sameElement_ok{l m:List Rat}{p q:Nat}(hl:Ps p l)(hm:Ps q m)(hp:p+q<=8796093022208)(hn:l.length<=1048576): C0 150 [.d (dqs l),.d (dqs m)] (·=.b (dc (l=m))):=by
 refine En Tryz.func150 λ_ _ _=>?_
 refine Ce rfl (Xzh hl hm hp hn) ?_
 exact R0
theorem Xzg{T U:List (List Rat)}{p q:Nat}(hT:Pt p T)(hU:Pt q U)(hp:p+q<=8796093022208)(hl:T.length<=16): C0 228 [.d (dts T),.d (dts U),.d (.raw (.func (.func 150) #[] #[]))] (·=.b (dc (T=U))):=by
 refine En Tryz.func228 λ_ _ _=>?_
 refine By rfl (λh=>?_) λh=>?_<;>simp only[lt'] at h
 . exact R1 rfl (.bp ⟨nofun,λe=>absurd (by rw[e]) h⟩)
 have h:T.length=U.length:=by omega
 refine Lo (λk:Nat=>[(0,.d (dts T)),(1,.d (dts U)),(2,.d (.raw (.func (.func 150) #[] #[]))),(15,.d (dts T)),(16,.d (.int .i64 (T.map dqs).length)),(17,.d (.int .i64 k))]) (λ_=>[]) (λk=>k<=T.length/\T.take k=U.take k) (λk=>T.length-k) 0 [] rfl ⟨by omega,rfl⟩ λk ⟨hk,ht⟩=>?_
 refine By rfl (λh2=>?_) λh2=>?_<;>simp only[lt'] at h2
 . obtain⟨x,hx⟩:∃x,T[k]?=some x:=⟨_,W0c (by omega)⟩
   obtain⟨y,hy⟩:∃y,U[k]?=some y:=⟨_,W0c (by omega)⟩
   obtain⟨x1,x2⟩:=hT k x hx
   obtain⟨y1,y2⟩:=hU k y hy
   have:=p16 (show k<=16 by omega)
   refine Ix k rfl (mp hx) ?_
   refine Ix k rfl (mp hy) ?_
   refine Ce rfl (sameElement_ok x2 y2 hp (by omega)) ?_
   refine By rfl (λh3=>?_) λh3=>?_
   . have h3:¬x=y:=by simpa [Xav,Xaj] using h3
     exact R1 rfl (.bp ⟨nofun,λe=>by subst e;rw[hx] at hy;injection hy with hy;exact absurd hy h3⟩)
   . have e:x=y:=by simpa [Xav,Xaj] using h3
     refine Ar (k+1:Nat) rfl ?_
     exact Bk (k+1) [] rfl ⟨by omega,by rw[W2f,W2f,hx,hy,ht,e]⟩ (by show T.length-(k+1)<T.length-k;omega)
 . rw[W0b (by omega),W0b (by omega)] at ht
   exact R1 rfl (.bp ⟨λ_=>ht,λ_=>rfl⟩)
theorem begins_ok{T U:List (List Rat)}{p q:Nat}(hT:Pt p T)(hU:Pt q U)(hp:p+q<=8796093022208)(hl:T.length<=16): C0 149 [.d (dts T),.d (dts U)] (·=.b (dc (T.take U.length=U))):=by
 refine En Tryz.func149 λ_ _ _=>?_
 refine By rfl (λh=>?_) λh=>?_<;>simp only[lt'] at h
 . have hq:Pt p (T.take U.length):=λi r hi=>by
    rw[W1g] at hi
    split at hi
    . exact hT i r hi
    . cases hi
   refine Tk U.length ((T.take U.length).map dqs) rfl rfl (by simp only[lt'];omega) (by rw[W1z]) ?_ (by simp only[lt'])
   refine Ce rfl (Xzg hq hU hp (by rw[W0k];omega)) ?_
   exact R0
 . exact R1 rfl (.bp ⟨nofun,λe=>absurd (congrArg List.length e) (by rw[W0k];omega)⟩)
theorem Yg5{T:List (List Rat)}{l:List Rat}(h0:0<l.length)(hT:T.length<=16)(hl:l.length<=2^T.length): C0 154 [.d (dts T),.d (dqs l)] (·=.d (dqs (l++List.replicate (2^T.length-l.length) 0))):=by
 have hp:=p16 hT
 obtain⟨n,hn⟩:∃n,n=2^T.length:=⟨_,rfl⟩
 rw[<-hn] at hp hl |-
 refine En Tryz.func154 λ_ _ _=>?_
 refine Cr rfl (Xiy h0 (by omega)) ?_
 refine Lo (λk:Nat=>[(0,.d (dts T)),(5,.own 7 4 0 ((l++List.replicate k 0).map dq).length)]) (λk=>[(7,.arr 4 ((l++List.replicate k 0).map dq))]) (λk=>l.length+k<=n) (λk=>n-k) 0 [] rfl (by omega) (λk hk=>?_) (by exact⟨by simp;rfl,by simp;rfl,rfl,rfl,rfl⟩)
 refine Ar n rfl ?_ (by rw[hn];simp only[lt'];exact Xbt (by omega))
 refine By rfl (λh=>?_) λh=>?_<;>simp only[lq,W0e,W1s] at h
 . refine Ce rfl (Xat (z:=0) (by decide)) ?_
   refine ApO ((l++List.replicate (k+1) 0).map dq) rfl rfl rfl (by rw[W6n];simp) (by simp;omega) ?_
   exact Bk (k+1) [(7,90),(17,7)] rfl (show l.length+(k+1)<=n by omega) (by show n-(k+1)<n-k;omega)
 . refine R1 rfl (.own rfl (by omega) ?_)
   rw[W1d,show n-l.length=k by omega]
   exact W0b (by simp)
theorem Xqg{k m:Nat}{s:Tow.El k}{b:Tow.El m}{T:Tw m}(h:Lf s b)(hk:k<=m)(hm:m<=16): C0 154 [.d (dt T),.d (de s)] (·=.d (de b)):=by
 have:=Yg5 (T:=toT m T) (l:=toL k s) (by rw[Xab];exact W0n k) (by rw[Xaa];omega) (by rw[Xab,Xaa];exact W0j (by decide) hk)
 rw[Xaa,Xab,<-h] at this
 exact this
abbrev dE(T rs:List (List Rat)): D:=.st (.pr (dts T) (dts rs))
theorem Xf2{k R z:Nat}{T:Tw k}{rs:List (List Rat)}{σ:Nat->Tow.El k}(hT:TS R k T)(hk:k<=16)(hR:R<=4398046511104): ∀ {j p:Nat} {a:Tow.El j},R9.Rts k z j rs σ->Sz p (toL j a)->j<=16->imB (cB R k) z j p<=4398046511104 ->
 C0 216 [.d (dE (toT k T) rs),.d (de a)] (·=.d (de (ev T σ j a))):=by
 intro j
 induction j with
 | zero =>
  intro p a _ ha hj hb
  have hb:p+1<=4398046511104:=hb
  have key:∀y:Rat,Qs p y->C0 216 [.d (dE (toT k T) rs),.d (dqs [y])] (·=.d (de (rat k y))):=λy hy=>by
   refine En Tryz.func216 λ_ _ _=>?_
   refine Yes rfl rfl ?_
   refine Dw rfl ?_
   refine Ix 0 rfl (u:=dq y) rfl ?_
   refine Ce rfl (Xcq hT hk hR hy (by omega)) ?_
   exact R0
  exact key a (ha.qs (W0g.2 rfl))
 | succ j ih =>
  intro p a hr ha hj hb
  have hb':2*imB (cB R k) z j p+z+cB R k+1<=4398046511104:=hb
  have hr':R9.Rts k z j rs σ:=λi hi=>hr i (by omega)
  have hpj:=p16 (show j<=16 by omega)
  have hp0:=W0n j
  have hpp:=Ybp (c:=cB R k) (z:=z) (p:=p) (j:=j)
  have hs:∀i,i<j->Sz z (toL k (σ i)):=λi hi=>(hr' i hi).elim λ_ h=>h.elim λ_ h=>h.2.2.2
  have h1:=Xlk hT (a:=a.1) hs (Sz.left ha)
  have h2:=Xlk hT (a:=a.2) hs (Sz.right ha)
  obtain⟨m,s,m1,m2,m3,m4⟩:=hr j (by omega)
  refine En Tryz.func216 λ_ _ _=>?_
  refine No rfl (by show ¬((((toL j a.1++toL j a.2).map dq).length:Nat):Int)=1;rw[hvL];omega) ?_
  refine Ar (2^j:Nat) rfl ?_ (hvq a (by omega))
  refine Lo (λi:Nat=>[(1,.d (de a)),(2,.ptr 2 0),(4,.nil),(5,.d (.int .i64 (2^j:Nat))),(6,.d (.int .i64 i))]) (λ_=>[(2,.var (.d (dE (toT k T) rs)))]) (λi=>i<=j) (λi=>j-i) 0 [] rfl (by omega) λi hi=>?_
  refine Ar (i+1:Nat) rfl ?_
  refine Ar (2^(i+1):Nat) rfl ?_ (Xbt (by omega))
  refine By rfl (λh=>?_) λh=>?_
  . have h:((2^(i+1):Nat):Int)<(((toL j a.1++toL j a.2).map dq).length:Nat):=h
    rw[hvL,<-Nat.pow_succ'] at h
    have h:i+1<j+1:=(W2s (by decide:1<2)).1 (by omega)
    refine Ar (i+1:Nat) rfl ?_
    exact Bk (i+1) [] rfl (show i+1<=j by omega) (by show j-(i+1)<j-i;omega)
  . have h:¬((2^(i+1):Nat):Int)<(((toL j a.1++toL j a.2).map dq).length:Nat):=h
    rw[hvL,<-Nat.pow_succ'] at h
    have h:¬i+1<j+1:=λe=>h (by have:=(W2s (by decide:1<2)).2 e;omega)
    obtain rfl:i=j:=by omega
    refine Dw rfl ?_
    refine Tk (2^i) ((toL i a.1).map dq) rfl rfl (Xcd a) (hvT a) ?_
    refine Ce rfl (ih hr' (Sz.left ha) (by omega) (by omega)) ?_
    refine Dp (2^i) ((toL i a.2).map dq) rfl rfl (Xcd a) (hvD a) ?_
    refine Ce rfl (Xem (l:=toL i a.2) (Sz.right ha).ps (by omega) (by rw[Xab];omega)) ?_
    refine By rfl (λhv=>?_) λhv=>?_
    . have hv:a.2=zero i:=(Xal i a.2).2 hv
      have e:ev T σ i a.1=ev T σ (i+1) a:=by
       have L:=Xaw k T
       show _=Tow.add k (ev T σ i a.1) (mul k T (ev T σ i a.2) (σ i))
       rw[hv,Xdx,L.mc,L.mz,L.az]
      exact R1 rfl (.eq (congrArg de e))
    . refine Dw rfl ?_
      refine Dp (2^i) ((toL i a.2).map dq) rfl rfl (Xcd a) (hvD a) ?_
      refine Ce rfl (ih hr' (Sz.right ha) (by omega) (by omega)) ?_
      refine Ix i rfl (mp m2) ?_
      refine Ce rfl (Xqg (T:=T) m3 m1 hk) ?_
      refine Ce rfl (Xdr hT h2 m4 hk (by omega) hR) ?_
      refine Ce rfl (Xh1 hT h1 (h2.mul hT m4) hk (by omega) hR) ?_
      exact R0
section
variable{K:Nat}{G:Tw K}{S:List (Tow.El K)}{k l:Nat}{t:Tw k}{u:Tw l}{ρ ρu:Nat->Tow.El K}
theorem Xdi(W:Wy G S wR)(ht:TOk G S k t ρ)(hu:TOk G S l u ρu): C0 215 [.d (dt t),.d (dt u)] (R9.ExQ G S l k t ρ ρu λT rs=>.tup (.pr (.d (.st (.pr T rs))) (.d (.int .i64 0)))):=by
 have hl3:l<=3:=W.le hu
 refine En Tryz.func215 λ_ _ _=>?_
 refine Nv 6 7 1 rfl ?_
 refine Lo (λ(x:Nat×(Σ m,Tw m)×List (List Rat))=>[(4,.ptr 4 0),(5,.d (.int .i64 0)),(6,.ptr 6 0),(14,.d (dt u)),(15,.d (.int .i64 ((toT l u).map dqs).length)),(16,.d (.int .i64 x.1))]) (λx=>[(4,.var (.st (.pr .nil .nil))),(6,.var (.st (.pr (.d (dt x.2.1.2)) (.gr 7 1 (x.2.2.map dqs))))),(7,.tok (x.2.2.map dqs).length 1)])
  (R9.ExI G S l k t ρ ρu) (λx=>l-x.1) (0,⟨k,t⟩,[]) [] rfl ⟨W0y _,rfl,ρ,ht,Beg.rf,λ_ _=>rfl,λi hi=>by omega,λ_=>rfl⟩ (λ(i,⟨m,T⟩,rs) hI=>?_)
 have hI':=hI
 obtain⟨hi,hrl,ρ',hT,hB,ha,hrt,hc⟩:=hI
 simp only at hi hrl hT hB ha hrt hc
 have hm3:m<=3:=W.le hT
 have hz:=W.t hT
 refine By rfl (λh=>?_) λh=>?_<;>simp only[lt',Xaa] at h
 . have hil:i<l:=by omega
   obtain⟨x,σ,x1,x2,s1,s2,hev,x4,hsz⟩:=R9.ExI.rad W hu hil hT hrt
   obtain⟨q1,q2,q3,q4⟩:=R9.exB hm3
   have hE:=Yce hm3 (show i<=2 by omega)
   have hR:=Xhr
   have hE':=Yfp
   have hlen:(rs.map dqs).length<=3:=by rw[W0l];omega
   refine Ix i rfl (mp x1) ?_
   refine Dw rfl ?_
   refine Ce rfl (Xf2 (k:=m) (T:=T) hz (by omega) (by omega) s1 x2 (by omega) (by omega)) ?_
   refine Ca rfl (P8.Adjoin_ok (k:=m) (t:=T) hz hsz hT.r (by omega) q1 q2 q3 q4) λv hv=>?_
   rcases hv with ⟨h1,rfl⟩ | ⟨y,h1,h2,rfl⟩ | ⟨h1,h2,h3,rfl⟩
   . have:=Xd0 (Xaf W.g) hT.h (a:=ev T σ i x)
     rw[hev,(Xar (Xaf W.g)).sm,x4] at this
     omega
   . refine No rfl (by simp) ?_
     refine ApG ((rs++[toL m y]).map dqs) rfl (by simp) (by simp at hlen |-;omega) ?_
     refine Ar (i+1:Nat) rfl ?_
     exact Bk (i+1,⟨m,T⟩,rs++[toL m y]) [(7,90),(39,7)] rfl (hI'.sq W hu hil hT hB ha hrt hc s2 hev x4 h1 h2) (by show l-(i+1)<l-i;omega)
   . refine No rfl (by simp) ?_
     refine ApG ((rs++[toL (m+1) (Xcz (m+1) m)]).map dqs) rfl (by simp) (by simp at hlen |-;omega) ?_
     refine Ar (i+1:Nat) rfl ?_
     exact Bk (i+1,⟨m+1,tsn T (ev T σ i x)⟩,rs++[toL (m+1) (Xcz (m+1) m)]) [(7,90),(39,7)] rfl (hI'.new W hu hil hT hB ha hrt hev x4 h2) (by show l-(i+1)<l-i;omega)
 . obtain rfl:i=l:=by omega
   exact Rt rfl (.tup (.cons (.sd (.pd (.rf rfl) (.gr rfl))) Xa6)) ⟨m,T,rs,ρ',rfl,hT,hB,ha,hrt,hc⟩
end
end
section
theorem Xej{x:Nm}{r p:Nat}(hr:TS r x.k x.t)(hp:Sz p (toL x.k x.a))(hk:x.k<=16)(h1:r<=4398046511104)(h2:p<=4398046511104): C0 212 [.d (dN x)] (·=.d (dN x)):=by
 have hpk:=p16 hk
 refine En Tryz.func212 λ_ _ _=>?_
 refine Ce rfl (Xix hp.ps h2 (by rw[Xab];omega)) ?_
 refine Nv 3 7 1 rfl ?_
 refine Lo (λ(i:Nat)=>[(2,.ptr 2 0),(3,.ptr 3 0),(11,.d (dt x.t)),(12,.d (.int .i64 ((toT x.k x.t).map dqs).length)),(13,.d (.int .i64 i))]) (λi=>[(2,.var (.st (.pr .nil .nil))),(3,.var (.st (.pr (.gr 7 1 (((toT x.k x.t).take i).map dqs)) (.d (de x.a))))),(7,.tok (((toT x.k x.t).take i).map dqs).length 1)])
  (λi=>i<=x.k) (λi=>x.k-i) 0 [] rfl (W0y _) (λi hi=>?_)
 refine By rfl (λh=>?_) λh=>?_<;>simp only[lt',Xaa] at h
 . obtain⟨w,y,y1,y2,y3,_⟩:=Tw.take (t:=x.t) (i:=i) (by omega)
   have hy:=(y3 r hr).2
   refine Ix i rfl (mp y2) ?_
   refine Dw rfl ?_
   refine Ce rfl (Xix hy.ps h1 (by rw[Xab];have:=p16 (show i<=16 by omega);omega)) ?_
   refine ApG (((toT x.k x.t).take (i+1)).map dqs) rfl (by rw[W2f,y2];simp) (by simp[Xaa];omega) ?_
   refine Ar (i+1:Nat) rfl ?_
   exact Bk (i+1) [(7,90),(22,7)] rfl (show i+1<=x.k by omega) (by show x.k-(i+1)<x.k-i;omega)
 . have e:(toT x.k x.t).take i=toT x.k x.t:=W0b (by rw[Xaa];omega)
   refine R1 rfl (.sd (.pd (.gr ?_) (.rf rfl)))
   rw[e]
theorem Xqh: ∀ {k:Nat},rat k 1≠zero k
 | 0,h=>by have h:(1:Rat)=0:=h;exact absurd h (by decide)
 | k+1,h=>Xqh (k:=k) (congrArg Prod.fst h)
theorem inv_zero{k:Nat}{t:Tw k}{a:Tow.El k}(h:a=zero k): Tow.inv k t a=none:=by
 cases e:Tow.inv k t a with
 | none=>rfl
 | some i =>
  have:=Xcc e
  rw[h,(Xaw k t).mz] at this
  exact absurd this.symm Xqh
section
variable{K:Nat}{G:Tw K}{S:List (Tow.El K)}{r p:Nat}{x y:Nm}{vx vy:Tow.El K}
theorem Xwy(W:Wy G S wR)(hx:NOk G S r p x vx)(hy:NOk G S r p y vy): C0 214 [.d (dNs [x,y])] λv=>∃m T,v=.tup (.pr (.d (dt T)) (.d (.int .i64 0)))/\R9.CmP G S x y m T:=by
 have hG:=W.g
 have hR:=Xhr
 obtain⟨ρx,hx1,hx2⟩:=hx.ex
 obtain⟨ρy,hy1,hy2⟩:=hy.ex
 have hx3:=W.le hx1
 have hy3:=W.le hy1
 have hxr:=W.t hx1
 have hyr:=W.t hy1
 refine En Tryz.func214 λ_ _ _=>?_
 refine Nd 4 1 rfl ?_
 refine Lo (λ(s:Nat×(Σ m,Tw m))=>[(2,.nil),(3,.d (.int .i64 0)),(4,.d (dt s.2.2)),(9,.d (dNs [x,y])),(10,.d (.int .i64 2)),(11,.d (.int .i64 s.1))]) (λ_=>[]) (λs=>(s.1=0/\s.2=⟨0,()⟩)\/(s.1=1/\s.2=⟨x.k,x.t⟩)\/(s.1=2/\R9.CmP G S x y s.2.1 s.2.2)) (λs=>2-s.1) (0,⟨0,()⟩) [] rfl (.inl ⟨rfl,rfl⟩) (λ(i,⟨m,T⟩) hI=>?_)
 simp only at hI
 rcases hI with ⟨rfl,e⟩ | ⟨rfl,e⟩ | ⟨rfl,hP⟩
 . cases e
   refine Yes rfl (show ((0:Nat):Int)<2 by decide) ?_
   refine Ix 0 rfl (u:=dN x) rfl ?_
   refine Ce rfl (begins_ok (T:=[]) (U:=toT x.k x.t) (p:=1) (λi r h=>by simp at h) (TS.pt hxr) (by omega) (by decide)) ?_
   refine By rfl (λh=>?_) λh=>?_
   . obtain⟨kx,tx,ax⟩:=x
     have h:[]=toT kx tx:=by simpa using h
     obtain rfl:kx=0:=by have:=congrArg List.length h;rw[Xaa] at this;exact this.symm
     refine Ar (0+1:Nat) rfl ?_
     exact Bk (1,⟨0,tx⟩) [] rfl (.inr (.inl ⟨rfl,rfl⟩)) (show 1<2 by decide)
   . refine Ce rfl (begins_ok (U:=[]) (q:=1) (TS.pt hxr) (λi r h=>by simp at h) (by omega) (by rw[Xaa];omega)) ?_
     refine Yes rfl (by simp) ?_
     refine Ar (0+1:Nat) rfl ?_
     exact Bk (1,⟨x.k,x.t⟩) [] rfl (.inr (.inl ⟨rfl,rfl⟩)) (show 1<2 by decide)
 . cases e
   have last:∀h:(toT x.k x.t).take (toT y.k y.t).length=toT y.k y.t,R9.CmP G S x y x.k x.t:=λh=>.mk hG hx1 hy1 hx1 R9.rts (R9.beg_rt hG (show Beg y.k y.t x.k x.t from h) hy1 hx1)
   refine Yes rfl (show ((1:Nat):Int)<2 by decide) ?_
   refine Ix 1 rfl (u:=dN y) rfl ?_
   refine Ce rfl (begins_ok (T:=toT x.k x.t) (U:=toT y.k y.t) (TS.pt hxr) (TS.pt hyr) (by omega) (by rw[Xaa];omega)) ?_
   refine By rfl (λh=>?_) λh=>?_
   . refine Ar (1+1:Nat) rfl ?_
     exact Bk (2,⟨x.k,x.t⟩) [] rfl (.inr (.inr ⟨rfl,last h⟩)) (show 0<1 by decide)
   refine Ce rfl (begins_ok (T:=toT y.k y.t) (U:=toT x.k x.t) (TS.pt hyr) (TS.pt hxr) (by omega) (by rw[Xaa];omega)) ?_
   refine By rfl (λh1=>?_) λh1=>?_
   . have hb:Beg x.k x.t y.k y.t:=h1
     refine Ar (1+1:Nat) rfl ?_
     exact Bk (2,⟨y.k,y.t⟩) [] rfl (.inr (.inr ⟨rfl,.mk hG hx1 hy1 hy1 (R9.beg_rt hG hb hx1 hy1) R9.rts⟩)) (show 0<1 by decide)
   . refine Ca rfl (Xdi W hx1 hy1) λv hv=>?_
     obtain⟨m,T,rs,ρ',rfl,g1,g2,g3,g5,g6⟩:=hv
     refine No rfl (by simp) ?_
     refine Ar (1+1:Nat) rfl ?_
     exact Bk (2,⟨m,T⟩) [] rfl (.inr (.inr ⟨rfl,.ext hG hx1 hy1 g1 g2 g5⟩)) (show 0<1 by decide)
 . refine No rfl (show ¬((2:Nat):Int)<2 by decide) ?_
   exact Rt rfl (.tup (.cons (.rf rfl) Xa6)) ⟨m,T,rfl,hP⟩
theorem Join_ok(W:Wy G S wR)(hx:NOk G S r p x vx)(hy:NOk G S r p y vy)(hp:p<=4000000000): C0 139 [.d (dNs [x,y])] λv=>∃m T a b,v=.tup (.pr (.d (dNs [⟨m,T,a⟩,⟨m,T,b⟩])) (.d (.int .i64 0)))/\R9.JnR G S p vx vy m T a b:=by
 have hc:=Xwy W hx hy
 have hG:=W.g
 have hR:=Xhr
 have hJ:jW p=8*p+73803682:=rfl
 refine En Tryz.func139 λ_ _ _=>?_
 refine Ca rfl hc λv hv=>?_
 obtain⟨m,T,rfl,hP⟩:=hv
 obtain⟨ρ,hT,hcon⟩:=hP
 have hTr:=W.t hT
 have hm3:=W.le hT
 refine No rfl (by decide) ?_
 refine Nl 6 6 2 rfl ?_
 refine Lo (λ(s:Nat×List (Tow.El m))=>[(2,.nil),(3,.d (.int .i64 0)),(4,.d (dt T)),(6,.gr 6 2 (s.2.map λa=>dN ⟨m,T,a⟩)),(20,.d (dNs [x,y])),(21,.d (.int .i64 2)),(22,.d (.int .i64 s.1))]) (λs=>[(6,.tok (s.2.map λa=>dN ⟨m,T,a⟩).length 2)])
  (R9.JnI G p m ρ vx vy) (λs=>2-s.1) (0,[]) [] rfl ⟨W0y _,rfl,λi hi=>absurd hi (W3z _)⟩ (λ(j,bs) hI=>?_)
 have hI':=hI
 obtain⟨hj,hjl,has⟩:=hI
 simp only at hj hjl has
 refine By rfl (λh=>?_) λh=>?_
 . have h:(j:Int)<2:=h
   obtain⟨z,v,ρz,z1,z2,z3,z4,z6⟩:=R9.both hx hy j (by omega)
   have z5:=W.t z3
   have hzu:([x,y].map dN)[j]?=some (dN z):=by rw[W1o,z1];rfl
   have hzm:=hcon z (W0i z1) ρz z3
   have hz3:=W.le z3
   have hpj:p<=jW p:=R9.jW_ge
   refine Ix j rfl hzu ?_
   refine Ce rfl (begins_ok (T:=toT m T) (U:=toT z.k z.t) (TS.pt hTr) (TS.pt z5) (by omega) (by rw[Xaa];omega)) ?_
   refine By rfl (λh1=>?_) λh1=>?_
   . have hb:Beg z.k z.t m T:=h1
     obtain⟨b,hlb⟩:=Lf.ex hb.le z.a
     have hv1:ev G ρ m b=v:=by rw[hlb.ev hb.le,Xbn (R9.beg_ag hG hb z3 hT),z4]
     refine Ce rfl (Xqg (T:=T) hlb hb.le (by omega)) ?_
     refine Ce rfl (Xej (x:=⟨_,T,b⟩) hTr ((hlb.sz z6).mono hpj) (show _<=16 by show m<=16;omega) (by omega) (by omega)) ?_
     refine ApG ((bs++[b]).map λa=>dN ⟨m,T,a⟩) rfl (by simp) (by simp;omega) ?_
     refine Ar (j+1:Nat) rfl ?_
     exact Bk (j+1,bs++[b]) [(6,90),(56,6)] rfl (hI'.step (by omega) z2 hv1 ((hlb.sz z6).mono hpj)) (by show 2-(j+1)<2-j;omega)
   . refine Ca rfl (Xdi W hT z3) λv' hv=>?_
     obtain⟨m',T',rs,ρ',rfl,g1,g2,g3,g5,g6⟩:=hv
     obtain rfl:m'=m:=by have:=congrArg List.length (g6 hzm);rwa[Xaa,Xaa] at this
     obtain rfl:T=T':=(Xkk (g6 hzm)).symm
     have g5:RtV G m' (zM wR 3) z.k rs ρ ρz:=g5.mono (W0a _) (W0a _) (λi hi=>(g3 i hi).symm)
     obtain⟨σ,s1,s2⟩:=g5.sig
     have hbd:=Ydy (p:=p) hm3 hz3
     refine No rfl (by simp) ?_
     refine Ce rfl (Xf2 hTr (by omega) (by omega) s1 z6 (by omega) (by omega)) ?_
     refine Ce rfl (Xej (x:=⟨_,T,ev T σ z.k z.a⟩) hTr (R9.img W hT z3 s1 z6) (show _<=16 by show m'<=16;omega) (by omega) (by omega)) ?_
     refine ApG ((bs++[ev T σ z.k z.a]).map λa=>dN ⟨m',T,a⟩) rfl (by simp) (by simp;omega) ?_
     refine Ar (j+1:Nat) rfl ?_
     exact Bk (j+1,bs++[ev T σ z.k z.a]) [(6,90),(56,6)] rfl (hI'.step (by omega) z2 (by rw[Xll hT.h s2,z4]) (R9.img W hT z3 s1 z6)) (by show 2-(j+1)<2-j;omega)
 . have h:¬(j:Int)<2:=h
   obtain rfl:j=2:=by omega
   obtain⟨a,b,rfl,hJ⟩:=hI'.done hT
   exact Rt rfl (.tup (.cons (.gr rfl) Xa6)) ⟨m,T,a,b,rfl,hJ⟩
def OpF(f:FuncId)(p:Nat)(g:(m:Nat)->Tw m->Tow.El m->Tow.El m->Tow.El m): Prop:=∀(m:Nat) (T:Tw m) (a b:Tow.El m),m<=3->TS wR m T->Sz (jW p) (toL m a)->Sz (jW p) (toL m b)->C0 f [.d (dt T),.d (de a),.d (de b)] (·=.d (de (g m T a b)))
theorem Xgt{f:FuncId}{g:(m:Nat)->Tw m->Tow.El m->Tow.El m->Tow.El m}(hf:OpF f p g)(W:Wy G S wR)(hx:NOk G S r p x vx)(hy:NOk G S r p y vy)(hp:p<=4000000000): C0 84 [.d (dN x),.d (dN y),.d (fnD f)] λv=>∃m T a b,v=.tup (.pr (.d (dN ⟨m,T,g m T a b⟩)) (.d (.int .i64 0)))/\R9.JnR G S p vx vy m T a b:=by
 refine En Tryz.func84 λ_ _ _=>?_
 refine Ca rfl (Join_ok W hx hy hp) λv hv=>?_
 obtain⟨m,T,a,b,rfl,h⟩:=hv
 obtain⟨ρ,h1,h3,h4,h5,h6⟩:=id h
 have h2:=W.t h1
 have hm:=W.le h1
 refine No rfl (by simp) ?_
 refine Ix 0 rfl (u:=dN ⟨m,T,a⟩) rfl ?_
 refine Dw rfl ?_
 refine Ix 0 rfl (u:=dN ⟨m,T,a⟩) rfl ?_
 refine Ix 1 rfl (u:=dN ⟨m,T,b⟩) rfl ?_
 refine Ce rfl (hf m T a b hm h2 h5 h6) ?_
 exact Rt rfl (.tup (.cons (.rf rfl) Xa6)) ⟨m,T,a,b,rfl,h⟩
theorem Add_ok(W:Wy G S wR)(hx:NOk G S r p x vx)(hy:NOk G S r p y vy)(hp:p<=4000000000): C0 43 [.d (dN x),.d (dN y)] (R9.OpR G S (oW p) (Tow.add K vx vy)):=by
 have hO:oW p=16*p+147714794:=rfl
 have hJ:jW p=8*p+73803682:=rfl
 have hC:=wC
 have hR:=Xhr
 refine En Tryz.func43 λ_ _ _=>?_
 refine Ca rfl (Xgt (g:=λm T a b=>Tow.add m a b) (λm T a b hm h2 h5 h6=>Xh1 h2 h5 h6 (by omega) (by omega) (by omega)) W hx hy hp) λv hv=>?_
 obtain⟨m,T,a,b,rfl,ρ,h1,h3,h4,h5,h6⟩:=hv
 have h2:=W.t h1
 exact Rt rfl (.tup (.cons (.rf rfl) Xa6)) ⟨⟨m,T,Tow.add m a b⟩,rfl,⟨ρ,h1,by rw[<-h3,<-h4];exact Xdk⟩,h2,by rw[Xax];exact(h5.add h6).mono (by omega)⟩
theorem Mul_ok(W:Wy G S wR)(hx:NOk G S r p x vx)(hy:NOk G S r p y vy)(hp:p<=4000000000): C0 73 [.d (dN x),.d (dN y)] (R9.OpR G S (oW p) (Tow.mul K G vx vy)):=by
 have hO:oW p=16*p+147714794:=rfl
 have hJ:jW p=8*p+73803682:=rfl
 have hC:=wC
 have hR:=Xhr
 refine En Tryz.func73 λ_ _ _=>?_
 refine Ca rfl (Xgt (g:=λm T a b=>Tow.mul m T a b) (λm T a b hm h2 h5 h6=>Xdr h2 h5 h6 (by omega) (by have:=Xg6 (r:=wR) hm;omega) (by omega)) W hx hy hp) λv hv=>?_
 obtain⟨m,T,a,b,rfl,ρ,h1,h3,h4,h5,h6⟩:=hv
 have h2:=W.t h1
 have hm:=W.le h1
 have hc:=Xg6 (r:=wR) hm
 exact Rt rfl (.tup (.cons (.rf rfl) Xa6)) ⟨⟨m,T,Tow.mul m T a b⟩,rfl,⟨ρ,h1,by rw[<-h3,<-h4];exact Xbi h1.h⟩,h2,(h5.mul h2 h6).mono (by omega)⟩
theorem Sub_ok(W:Wy G S wR)(hx:NOk G S r p x vx)(hy:NOk G S r p y vy)(hp:p<=4000000000): C0 227 [.d (dN x),.d (dN y)] (R9.OpR G S (oW p) (Tow.add K vx (Tow.neg K vy))):=by
 have hO:oW p=16*p+147714794:=rfl
 have hJ:jW p=8*p+73803682:=rfl
 have hC:=wC
 have hR:=Xhr
 refine En Tryz.func227 λ_ _ _=>?_
 refine Ca rfl (Xgt (g:=λm T a b=>Tow.add m a (Tow.neg m b)) (λm T a b hm h2 h5 h6=>Xkn h2 h5 h6 (by omega) (by omega) (by omega)) W hx hy hp) λv hv=>?_
 obtain⟨m,T,a,b,rfl,ρ,h1,h3,h4,h5,h6⟩:=hv
 have h2:=W.t h1
 exact Rt rfl (.tup (.cons (.rf rfl) Xa6)) ⟨⟨m,T,Tow.add m a (Tow.neg m b)⟩,rfl,⟨ρ,h1,by rw[<-h3,<-h4,<-Xe2];exact Xdk⟩,h2,by rw[Xax];exact(h5.add (Xg2 h6)).mono (by omega)⟩
theorem Neg_ok(hx:NOk G S r p x vx)(hk:x.k<=16)(hr:r<=4398046511104)(hp:p<=4398046511104): C0 137 [.d (dN x)] (·=.d (dN ⟨x.k,x.t,Tow.neg x.k x.a⟩)):=by
 refine En Tryz.func137 λ_ _ _=>?_
 refine Ce rfl (Xej hx.r hx.p hk hr hp) ?_
 refine Ce rfl (Xtg hx.r hx.p hk hp hr) ?_
 exact R0
theorem Sign_ok(hG:red K G)(hx:NOk G S r p x vx)(hk:x.k<=16)(hv:vB r x.k p<=4398046511104)(hr:vB r x.k r<=4398046511104): C0 70 [.d (dN x)] (·=.d (.int .i64 (sgn K G vx))):=by
 obtain⟨ρ,h1,h2⟩:=hx.ex
 have:=Xdo (r:=r) x.k r
 refine En Tryz.func70 λ_ _ _=>?_
 refine Ce rfl (Xlx hx.r hx.p (Xaf h1.r) hk hv hr (by omega)) ?_
 rw[hx.sgn (Xaf hG)]
 exact R0
theorem FromRat_ok{q:Rat}{p:Nat}(hq:Qs p q)(hp:p<=4398046511104): C0 64 [.d (dq q)] (·=.d (dN ⟨0,(),q⟩)):=by
 refine En Tryz.func64 λ_ _ _=>?_
 refine Ce rfl (Xj3 hq hp) ?_
 exact R1 rfl (.sd (.pd (.nil rfl) (.lit rfl)))
theorem FromInt_ok{z:Int}(h:-9223372036854775808<=z/\z<9223372036854775808): C0 32 [.d (.int .i64 z)] (·=.d (dN ⟨0,(),(z:Rat)⟩)):=by
 refine En Tryz.func32 λ_ _ _=>?_
 refine Ce rfl (Xat h) ?_
 refine Ce rfl (FromRat_ok (q:=(z:Rat)) (p:=64) (Qs.int (by unfold Zs;omega) (by omega)) (by decide)) ?_
 exact R0
theorem Cmp_ok(W:Wy G S wR)(hx:NOk G S r p x vx)(hy:NOk G S r p y vy)(hp:p<=4000000000): C0 148 [.d (dN x),.d (dN y)] (·=.tup (.pr (.d (.int .i64 (sgn K G (Tow.add K vx (Tow.neg K vy))))) (.d (.int .i64 0)))):=by
 refine En Tryz.func148 λ_ _ _=>?_
 refine Ca rfl (Sub_ok W hx hy hp) λv hv=>?_
 obtain⟨z,rfl,hz⟩:=hv
 have h3:=hz.le (Xaf W.g) W.s
 refine No rfl (by simp) ?_
 refine Ce rfl (Sign_ok W.g hz (by omega) (W0h (W0h (Xgf h3) (Xcm (by unfold oW;omega))) wV) (W0h (Xgf h3) wQ.2.2.2)) ?_
 exact RTt rfl (.cons (.rf rfl) Xa6)
theorem Div_ok(W:Wy G S wR){q:Nat}(hx:NOk G S r q x vx)(hy:NOk G S r p y vy)(hq:iS r 3 p<=q)(hi:iB r 3 p<=4398046511104)(hp:q<=4000000000)(hr:r<=4398046511104):
 C0 304 [.d (dN x),.d (dN y)] λv=>(vy=zero K/\v=.tup (.pr (.d R9.n0) (.d (.int .i64 6))))\/∃w,Tow.mul K G w vy=rat K 1/\R9.OpR G S (oW q) (Tow.mul K G vx w) v:=by
 have hy3:=hy.le (Xaf W.g) W.s
 obtain⟨ρ,h1,h2⟩:=hy.ex
 have hle:=Yh5 (r:=r) (p:=p) hy3
 have hls:=Yd3 (r:=r) (p:=p) hy3
 refine En Tryz.func304 λ_ _ _=>?_
 by_cases h0:y.a=zero y.k
 . refine Ce rfl (Xx1 hy.r hy.p (by omega) (by omega) (by omega) (inv_zero h0)) ?_
   refine Yes rfl (by decide) ?_
   exact Rt rfl (.tup (.cons R9.fit0 Xa6)) (.inl ⟨by rw[<-h2,h0,Xdx],rfl⟩)
 . obtain⟨i,hi1⟩:=(Xcr h1.r).2 y.a h0
   refine Ce rfl (Xns hy.r hy.p (by omega) (by omega) (by omega) hi1) ?_
   refine No rfl (by decide) ?_
   have hz:NOk G S r q ⟨y.k,y.t,i⟩ (ev G ρ y.k i):=⟨⟨ρ,h1,rfl⟩,hy.r,(Sz.invS hy.r hy.p hi1).mono (by omega)⟩
   refine Ca rfl (Mul_ok (y:=⟨y.k,y.t,i⟩) W hx hz hp) λv hv=>?_
   obtain⟨z,rfl,h⟩:=hv
   exact Rt rfl (.tup (.cons (.rf rfl) Xa6)) (.inr ⟨ev G ρ y.k i,by rw[<-h2,<-Xbi h1.h,Xcc hi1,Xdj],z,rfl,h⟩)
end
end
end Go.Proofs.YtgpipgjbkggjpaaGreatDoor.P9
namespace Go.Tow
open Go Go.Num Go.Proofs.YtgpipgjbkggjpaaGreatDoor
variable{K:Nat}{G:Tw K}{S:List (El K)}{N:List Nm}{n m:Nat}{x y z:Nm}{v w:El K}{r p:Nat}
structure Wn (G:Tw K) (S:List (El K)) (N:List Nm):Prop where
 w:Wy G S wR
 h:∀z∈N,∃ρz,TOk G S z.k z.t ρz
def gB(n:Nat): Nat:=n*20000000-107430
structure Gd (G:Tw K) (S:List (El K)) (N:List Nm) (n:Nat) (x:Nm) (v:El K):Prop where
 o:NOk G S wR (gB n) x v
 g:Gs G S N (gB n) v
 n:1<=n
theorem Yic(h:n<=m): gB n<=gB m:=by unfold gB;omega
theorem Gd.mono(h:Gd G S N n x v)(hm:n<=m): Gd G S N m x v:=⟨h.o.mono (W0a _) (Yic hm),h.g.mono (Yic hm),W0h h.n hm⟩
theorem Gd.neg(h:Gd G S N n x v): Gd G S N n ⟨x.k,x.t,Tow.neg x.k x.a⟩ (Tow.neg K v):=⟨h.o.neg,h.g.neg,h.n⟩
theorem Gd.short(W:Wn G S N)(hz:NOk G S 300 600 z v)(hN:z∈N): Gd G S N 1 z v:=by
 have h:=(Gs.short W.w hz hN).mono (show _<=gB 1 by decide +kernel)
 exact⟨hz.re W.w W.h h,h,W0a _⟩
theorem Gd.add(W:Wn G S N)(hx:Gd G S N n x v)(hy:Gd G S N m y w)(hz:NOk G S r p z (Tow.add K v w)): Gd G S N (n+m) z (Tow.add K v w):=by
 have h:=(hx.g.add hy.g).mono (show _<=gB (n+m) by have:=hx.n;have:=hy.n;unfold gB;omega)
 exact⟨hz.re W.w W.h h,h,W0h hx.n (W5i ..)⟩
theorem Gd.mul(W:Wn G S N)(hx:Gd G S N n x v)(hy:Gd G S N m y w)(hz:NOk G S r p z (Tow.mul K G v w)): Gd G S N (n+m) z (Tow.mul K G v w):=by
 have h:=(hx.g.mul W.w hy.g).mono (show _<=gB (n+m) by rw[wC];have:=hx.n;have:=hy.n;unfold gB;omega)
 exact⟨hz.re W.w W.h h,h,W0h hx.n (W5i ..)⟩
theorem wS{p:Nat}: iS wR 3 p=15*p+966862:=by
 show p+(nS wR 2 p+(nS wR 1 (nS wR 2 p)+(nS wR 0 (nS wR 1 (nS wR 2 p))+1)+cB wR 0)+cB wR 1)+cB wR 2=_
 unfold nS
 rw[show cB wR 0=0 from rfl,show cB wR 1=15347 by decide +kernel,show cB wR 2=46041 by decide +kernel,Xhr]
 omega
theorem Gd.inv(W:Wn G S N)(hy:Gd G S N m y w)(hv:Tow.mul K G v w=Tow.rat K 1): Gs G S N (gB (15*m+1)) v:=(hy.g.inv W.w hv).mono (by rw[wS];have:=hy.n;unfold gB;omega)
theorem Gd.div(W:Wn G S N){u:El K}(hx:Gd G S N n x v)(hy:Gd G S N m y w)(hv:Tow.mul K G u w=Tow.rat K 1)(hz:NOk G S r p z (Tow.mul K G v u)): Gd G S N (n+(15*m+1)) z (Tow.mul K G v u):=by
 have h:=(hx.g.mul W.w (hy.inv W hv)).mono (show _<=gB (n+(15*m+1)) by rw[wC];have:=hx.n;unfold gB;omega)
 exact⟨hz.re W.w W.h h,h,W0h hx.n (W5i ..)⟩
theorem Gd.rat(W:Wn G S N){q:Rat}(h:Qs 64 q): Gd G S N 1 ⟨0,(),q⟩ (Tow.rat K q):=by
 have h0:NOk G S 0 65 ⟨0,(),q⟩ (Tow.rat K q):=⟨⟨λ_=>zero _,⟨trivial,trivial,λi hi=>absurd hi (W3z _)⟩,rfl⟩,trivial,Sz.rat 0 h⟩
 have hg:Gs G S N (gB 1) (Tow.rat K q):=(Gs.rat h).mono (by decide)
 exact⟨h0.re W.w W.h hg,hg,W0a _⟩
theorem Gd.le(W:Wn G S N)(h:Gd G S N n x v): x.k<=3:=h.o.le (Xaf W.w.g) W.w.s
theorem Gd.op(h:Gd G S N n x v)(hn:n<=190): NOk G S wR 3799892570 x v:=h.o.mono (W0a _) (by unfold gB;omega)
theorem Yft(W:Wn G S N)(h:Gd G S N n x v)(hn:n<=800): vB wR x.k (gB n)<=4398046511104:=W0h (W0h (Xgf (h.le W)) (Xcm (show gB n<=oW 4000000000 by unfold gB oW;omega))) wV
theorem Yfs(W:Wn G S N)(h:Gd G S N n x v): vB wR x.k wR<=4398046511104:=W0h (Xgf (h.le W)) wQ.2.2.2
end Go.Tow
namespace Go.Proofs.YtgpipgjbkggjpaaGreatDoor
open Go Go.Vm Go.Num Go.Tow
section
variable{K:Nat}{G:Tw K}{S:List (Tow.El K)}{N:List Nm}{n m:Nat}{x y z:Nm}{v w:Tow.El K}
def OpG(G:Tw K)(S:List (Tow.El K))(N:List Nm)(n:Nat)(w:Tow.El K)(r:AV): Prop:=∃z:Nm,r=.tup (.pr (.d (dN z)) (.d (.int .i64 0)))/\Gd G S N n z w
def OnG(G:Tw K)(S:List (Tow.El K))(N:List Nm)(n:Nat)(w:Tow.El K)(r:AV): Prop:=∃z:Nm,r=.d (dN z)/\Gd G S N n z w
theorem P9.Add_g(W:Wn G S N)(hx:Gd G S N n x v)(hy:Gd G S N m y w)(hn:n<=190)(hm:m<=190): C0 43 [.d (dN x),.d (dN y)] (OpG G S N (n+m) (Tow.add K v w)):=(P9.Add_ok W.w (hx.op hn) (hy.op hm) (by decide)).mono λ_ ⟨z,e,h⟩=>⟨z,e,hx.add W hy h⟩
theorem R9.Add_g(W:Wn G S N)(hx:Gd G S N n x v)(hy:Gd G S N m y w)(hn:n<=190)(hm:m<=190): C0 44 [.d (dN x),.d (dN y)] (OpG G S N (n+m) (Tow.add K v w)):=(R9.Add_ok W.w (hx.op hn) (hy.op hm) (by decide)).mono λ_ ⟨z,e,h⟩=>⟨z,e,hx.add W hy h⟩
theorem P9.Mul_g(W:Wn G S N)(hx:Gd G S N n x v)(hy:Gd G S N m y w)(hn:n<=190)(hm:m<=190): C0 73 [.d (dN x),.d (dN y)] (OpG G S N (n+m) (Tow.mul K G v w)):=(P9.Mul_ok W.w (hx.op hn) (hy.op hm) (by decide)).mono λ_ ⟨z,e,h⟩=>⟨z,e,hx.mul W hy h⟩
theorem R9.Mul_g(W:Wn G S N)(hx:Gd G S N n x v)(hy:Gd G S N m y w)(hn:n<=190)(hm:m<=190): C0 75 [.d (dN x),.d (dN y)] (OpG G S N (n+m) (Tow.mul K G v w)):=(R9.Mul_ok W.w (hx.op hn) (hy.op hm) (by decide)).mono λ_ ⟨z,e,h⟩=>⟨z,e,hx.mul W hy h⟩
theorem R9.Sub_g(W:Wn G S N)(hx:Gd G S N n x v)(hy:Gd G S N m y w)(hn:n<=190)(hm:m<=190): C0 115 [.d (dN x),.d (dN y)] (OpG G S N (n+m) (Tow.add K v (Tow.neg K w))):=(R9.Sub_ok W.w (hx.op hn) (hy.op hm) (by decide)).mono λ_ ⟨z,e,h⟩=>⟨z,e,hx.add W hy.neg h⟩
theorem P9.Neg_g(W:Wn G S N)(hx:Gd G S N n x v)(hn:n<=190): C0 137 [.d (dN x)] (OnG G S N n (Tow.neg K v)):=(P9.Neg_ok hx.o (by have:=hx.le W;omega) (by decide) (by unfold gB;omega)).mono λ_ e=>⟨_,e,hx.neg⟩
theorem R9.Neg_g(W:Wn G S N)(hx:Gd G S N n x v)(hn:n<=190): C0 47 [.d (dN x)] (OnG G S N n (Tow.neg K v)):=(R9.Neg_ok hx.o (by have:=hx.le W;omega) (by unfold gB;omega)).mono λ_ e=>⟨_,e,hx.neg⟩
theorem P9.Sign_g(W:Wn G S N)(hx:Gd G S N n x v)(hn:n<=800): C0 70 [.d (dN x)] (·=.d (.int .i64 (sgn K G v))):=P9.Sign_ok W.w.g hx.o (by have:=hx.le W;omega) (Yft W hx hn) (Yfs W hx)
theorem R9.Sign_g(W:Wn G S N)(hx:Gd G S N n x v)(hn:n<=800): C0 13 [.d (dN x)] (·=.d (.int .i64 (sgn K G v))):=R9.Sign_ok W.w.g hx.o (by have:=hx.le W;omega) (Yft W hx hn)
theorem P9.Cmp_g(W:Wn G S N)(hx:Gd G S N n x v)(hy:Gd G S N m y w)(hn:n<=190)(hm:m<=190): C0 148 [.d (dN x),.d (dN y)] (·=.tup (.pr (.d (.int .i64 (sgn K G (Tow.add K v (Tow.neg K w))))) (.d (.int .i64 0)))):=P9.Cmp_ok W.w (hx.op hn) (hy.op hm) (by decide)
def DvG(G:Tw K)(S:List (Tow.El K))(N:List Nm)(n:Nat)(v w:Tow.El K)(r:AV): Prop:=(w=zero K/\r=.tup (.pr (.d R9.n0) (.d (.int .i64 6))))\/∃u,Tow.mul K G u w=rat K 1/\OpG G S N n (Tow.mul K G v u) r
theorem P9.Div_g(W:Wn G S N)(hx:Gd G S N n x v)(hy:Gd G S N m y w)(hn:n<=190)(hm:m<=12): C0 304 [.d (dN x),.d (dN y)] (DvG G S N (n+(15*m+1)) v w):=by
 have hi:iB wR 3 (gB m)<=4398046511104:=W0h (Xip (W0a _) (show gB m<=4000000000 by unfold gB;omega)) wB
 have hq:iS wR 3 (gB m)<=3799892570:=by rw[wS];unfold gB;omega
 refine(P9.Div_ok W.w (hx.op hn) hy.o hq hi (by decide) (by decide)).mono λr hr=>?_
 rcases hr with h | ⟨u,h1,z,e,h2⟩
 . exact .inl h
 . exact .inr ⟨u,h1,z,e,hx.div W hy h1 h2⟩
end
end Go.Proofs.YtgpipgjbkggjpaaGreatDoor
namespace Go.Tow
open Go
abbrev V2(K:Nat):=El K×El K
section
variable{K:Nat}{G:Tw K}{p q:V2 K}
def Xi6(G:Tw K)(p q:V2 K): El K:=add K (mul K G p.1 q.1) (mul K G p.2 q.2)
def Xau(G:Tw K)(p q:V2 K): El K:=Xi6 G (neg K p.2,p.1) q
def Xbw(G:Tw K)(p q:V2 K): V2 K:=(add K (mul K G p.1 q.1) (neg K (mul K G p.2 q.2)),add K (mul K G p.1 q.2) (mul K G p.2 q.1))
def Xdn(p:V2 K): V2 K:=(p.1,neg K p.2)
def vz(K:Nat): V2 K:=(zero K,zero K)
def vup(G:Tw K)(p:V2 K): Prop:=0<sgn K G p.2\/(sgn K G p.2=0/\0<sgn K G p.1)
instance:Decidable (vup G p):=by unfold vup;infer_instance
def Xci(G:Tw K)(p:V2 K): Prop:=sgn K G p.2=0/\0<sgn K G p.1
def Xez(G:Tw K)(p q:V2 K): Int:=if vup G p↔vup G q then-sgn K G (Xau G p q) else if vup G p then -1 else 1
theorem Yah: Xi6 G (Xdn p) q=(Xbw G p q).1:=by
 have L:=Xaw K G
 show add K (mul K G p.1 q.1) (mul K G (neg K p.2) q.2)=add K (mul K G p.1 q.1) (neg K (mul K G p.2 q.2))
 rw[L.nm]
theorem Yag: Xau G (Xdn p) q=(Xbw G p q).2:=by
 have L:=Xaw K G
 show add K (mul K G (neg K (neg K p.2)) q.1) (mul K G p.1 q.2)=add K (mul K G p.1 q.2) (mul K G p.2 q.1)
 rw[L.nn,L.ac]
theorem Xl0(hG:red K G): p=vz K↔sgn K G p.1=0/\sgn K G p.2=0:=by
 rw[Xbf hG,Xbf hG]
 exact⟨λh=>by rw[h];exact⟨rfl,rfl⟩,λh=>W3d h.1 h.2⟩
theorem vsq(hG:red K G)(h:sgn K G (Xi6 G p p)=0): p=vz K:=by
 have Sg:=Xar (Xaf hG)
 have h1:=Xdz (Sg.tri p.1)
 have h2:=Xdz (Sg.tri p.2)
 rw[Xl0 hG]
 have e1:=Sg.sm p.1 p.1
 have e2:=Sg.sm p.2 p.2
 have L:=Xaw K G
 by_cases a1:sgn K G p.1=0
 . refine⟨a1,W0u λa2=>?_⟩
   have:=Sg.sp (mul K G p.2 p.2) (mul K G p.1 p.1) (by rw[e2];exact h2.2.1 a2) (by rw[e1];exact h1.1)
   rw[L.ac] at this
   rw[show add K (mul K G p.1 p.1) (mul K G p.2 p.2)=Xi6 G p p from rfl,h] at this
   cases this
 . have:=Sg.sp (mul K G p.1 p.1) (mul K G p.2 p.2) (by rw[e1];exact h1.2.1 a1) (by rw[e2];exact h2.1)
   rw[show add K (mul K G p.1 p.1) (mul K G p.2 p.2)=Xi6 G p p from rfl,h] at this
   cases this
theorem Ycf: Xi6 G (Xbw G p q) (Xbw G p q)=mul K G (Xi6 G p p) (Xi6 G q q):=by
 obtain⟨a,b⟩:=p
 obtain⟨c,d⟩:=q
 have L:=Xaw K G
 exact(Laws.req L [a,b,c,d] (.add (.mul (.add (.mul (.v 0) (.v 2)) (.neg (.mul (.v 1) (.v 3)))) (.add (.mul (.v 0) (.v 2)) (.neg (.mul (.v 1) (.v 3))))) (.mul (.add (.mul (.v 0) (.v 3)) (.mul (.v 1) (.v 2))) (.add (.mul (.v 0) (.v 3)) (.mul (.v 1) (.v 2))))) (.mul (.add (.mul (.v 0) (.v 0)) (.mul (.v 1) (.v 1))) (.add (.mul (.v 2) (.v 2)) (.mul (.v 3) (.v 3)))) (by decide +kernel))
theorem Xkg(hG:red K G)(hp:p≠vz K)(hq:q≠vz K): Xbw G p q≠vz K:=λh=>by
 have Sg:=Xar (Xaf hG)
 have L:=Xaw K G
 have h0:sgn K G (Xi6 G (Xbw G p q) (Xbw G p q))=0:=by
  rw[h]
  show sgn K G (add K (mul K G (zero K) (zero K)) (mul K G (zero K) (zero K)))=0
  rw[L.mz,L.az,Xbf hG]
 rw[Ycf,Sg.sm] at h0
 rcases W6v.1 h0 with h | h
 . exact hp (vsq hG h)
 . exact hq (vsq hG h)
theorem Xhs(hG:red K G): Xez G p p=0:=by
 obtain⟨a,b⟩:=p
 have L:=Xaw K G
 unfold Xez
 rw[if_pos W3u,show Xau G (a,b) (a,b)=zero K from(Laws.req L [a,b] (.add (.mul (.neg (.v 1)) (.v 0)) (.mul (.v 0) (.v 1))) .z (by decide +kernel)),(Xar (Xaf hG)).s0 L]
 rfl
theorem Xsz(hG:red K G): Xez G p (rat K 1,zero K)=0↔Xci G p:=by
 obtain⟨a,b⟩:=p
 have L:=Xaw K G
 have Sg:=Xar (Xaf hG)
 have h1:vup G ((rat K 1,zero K):V2 K):=.inr ⟨Sg.s0 L,by show 0<sgn K G (rat K 1);rw[Sg.s1];decide⟩
 have hc:Xau G (a,b) (rat K 1,zero K)=neg K b:=(Laws.req L [a,b] (.add (.mul (.neg (.v 1)) .o) (.mul (.v 0) .z)) (.neg (.v 1)) (by decide +kernel))
 unfold Xez Xci
 by_cases hu:vup G (a,b)
 . rw[if_pos (show vup G (a,b)↔vup G (rat K 1,zero K) from⟨λ_=>h1,λ_=>hu⟩),hc,Sg.sn]
   show - -sgn K G b=0↔sgn K G b=0/\0<sgn K G a
   have hu:0<sgn K G b\/(sgn K G b=0/\0<sgn K G a):=hu
   omega
 . rw[if_neg (show ¬(vup G (a,b)↔vup G (rat K 1,zero K)) from λh=>hu (h.2 h1)),if_neg hu]
   exact⟨λh=>absurd h (by decide),λh=>absurd (show vup G (a,b) from .inr h) hu⟩
def Xge(G:Tw K)(p q:V2 K)(f g:Int): Int:=if Xez G (Xbw G p q) p<0 then f+g+1 else f+g
end
end Go.Tow
namespace Go.Proofs.YtgpipgjbkggjpaaGreatDoor
open Go Go.Vm Go.Num Go.Tow
section
structure Vn where
 x:Nm
 y:Nm
abbrev dV(v:Vn): D:=.st (.pr (dN v.x) (dN v.y))
abbrev dVs(l:List Vn): D:=.sl 4 (l.map dV)
abbrev n00: Nm:=⟨0,(),((0:Int):Rat)⟩
structure Gv {K:Nat} (G:Tw K) (S:List (Tow.El K)) (N:List Nm) (n:Nat) (v:Vn) (p:V2 K):Prop where
 x:Gd G S N n v.x p.1
 y:Gd G S N n v.y p.2
structure Ww {K:Nat} (G:Tw K) (S:List (Tow.El K)) (N:List Nm):Prop where
 w:Wn G S N
 n:∀z∈N,∃v,NOk G S 300 600 z v
 t:∀z∈N,Tm z
def IsB(r:AV): Prop:=∃c:Bool,r=.b c
section
variable{K:Nat}{G:Tw K}{S:List (Tow.El K)}{N:List Nm}{n m:Nat}{x y z:Nm}{a b v w:Tow.El K}{u s:Vn}{p q:V2 K}
theorem Gv.mono(h:Gv G S N n u p)(hm:n<=m): Gv G S N m u p:=⟨h.x.mono hm,h.y.mono hm⟩
theorem Ww.gd(W:Ww G S N)(h:z∈N): ∃v,Gd G S N 1 z v:=let ⟨v,hv⟩:=W.n z h;⟨v,.short W.w hv h⟩
def VeG(G:Tw K)(S:List (Tow.El K))(N:List Nm)(n:Nat)(p:V2 K)(r:AV): Prop:=∃v:Vn,r=.d (dV v)/\Gv G S N n v p
def VoG(G:Tw K)(S:List (Tow.El K))(N:List Nm)(n:Nat)(p:V2 K)(r:AV): Prop:=∃v:Vn,r=.tup (.pr (.d (dV v)) (.d (.int .i64 0)))/\Gv G S N n v p
theorem R9.Cmp_g(W:Wn G S N)(hx:Gd G S N n x v)(hy:Gd G S N m y w)(hn:n<=190)(hm:m<=190): C0 65 [.d (dN x),.d (dN y)] (·=.tup (.pr (.d (.int .i64 (sgn K G (Tow.add K v (Tow.neg K w))))) (.d (.int .i64 0)))):=by
 refine En Tryz.func65 λ_ _ _=>?_
 refine Ca rfl (R9.Sub_g W hx hy hn hm) λv hv=>?_
 obtain⟨z,rfl,hz⟩:=hv
 refine No rfl (by simp) ?_
 refine Ce rfl (R9.Sign_g W hz (by omega)) ?_
 exact RTt rfl (.cons (.rf rfl) Xa6)
theorem R9.Equal_g(W:Wn G S N)(hx:Gd G S N n x v)(hy:Gd G S N m y w)(hn:n<=190)(hm:m<=190): C0 27 [.d (dN x),.d (dN y)] (·=.b (dc (v=w))):=by
 refine En Tryz.func27 λ_ _ _=>?_
 refine Ce rfl (R9.Cmp_g W hx hy hn hm) ?_
 refine Yes rfl (by simp) ?_
 have e:sgn K G (Tow.add K v (Tow.neg K w))=0↔v=w:=by
  rw[Xbf W.w.g]
  exact⟨λh=>(Xaw K G).sub0 h,λh=>(Xaw K G).sb h⟩
 exact R1 rfl (.bp (Xaj.trans e))
theorem R9.Valid_g(W:Wn G S N)(hx:Gd G S N n x v)(hn:n<=800): C0 55 [.d (dN x)] (·=.b true):=by
 have hk:=hx.le W
 obtain⟨ρ,h1,h2⟩:=hx.o.ex
 have hT:=W.w.t h1
 have q2:=W0h (Xn4 (r:=wR) (p:=wR) hk) wQ.2.1
 refine En Tryz.func55 λ_ _ _=>?_
 refine Yes rfl (by rw[lt',Xaa];omega) ?_
 refine Ce rfl (R6.Formed_ok (TS.pt hT) (by decide) hx.o.p.ps (by unfold gB;omega) (by rw[Xaa];omega) (by rw[Xab,Xaa])) ?_
 refine Yes rfl rfl ?_
 refine Ce rfl (R8.Reduced_ok hT h1.r (by omega) q2 (Yfs W hx)) ?_
 exact R0
theorem R9.Light_ok{x:Nm}(hk:x.k<=16): C0 123 [.d (dN x)] IsB:=by
 obtain⟨k,t,a⟩:=x
 have hk:k<=16:=hk
 have hp:=p16 hk
 have hcl:=Xab k a
 have hTl:=Xaa k t
 refine En Tryz.func123 λ_ _ _=>?_
 refine Lo (λi:Nat=>[(1,.ptr 1 0),(3,.d (.int .i64 i))]) (λ_=>[(1,.var (.d (dN ⟨k,t,a⟩)))]) (λi=>i<=2^k) (λi=>2^k-i) 0 [] rfl (W0y _) λi hi=>?_
 refine By rfl (λh=>?_) λh=>?_
 . have h:(i:Int)<(((toL k a).map dq).length:Nat):=h
   rw[lq,hcl] at h
   obtain⟨x,hx⟩:=qat (l:=toL k a) (k:=i) (by omega)
   refine Ix i rfl (mp hx) ?_
   refine By rfl (λh1=>?_) λh1=>?_
   . exact Rt rfl (.one (.rf rfl) rfl rfl) ⟨_,rfl⟩
   . refine Ix i rfl (mp hx) ?_
     refine By rfl (λh2=>?_) λh2=>?_
     . exact Rt rfl (.one (.rf rfl) rfl rfl) ⟨_,rfl⟩
     . refine Ar (i+1:Nat) rfl ?_
       exact Bk (i+1) [] rfl (show i+1<=2^k by omega) (by show 2^k-(i+1)<2^k-i;omega)
 refine Lo (λi:Nat=>[(1,.ptr 1 0),(4,.d (.int .i64 i))]) (λ_=>[(1,.var (.d (dN ⟨k,t,a⟩)))]) (λi=>i<=k) (λi=>k-i) 0 [] rfl (W0y _) λi hi=>?_
 refine By rfl (λh=>?_) λh=>?_
 . have h:(i:Int)<(((toT k t).map dqs).length:Nat):=h
   rw[lt',hTl] at h
   obtain⟨l,hl⟩:∃l,(toT k t)[i]?=some l:=⟨_,W0c (by omega)⟩
   obtain⟨e,e1,_,_⟩:=Tw.at (t:=t) (show i<k by omega)
   obtain rfl:l=toL i e:=by rw[hl] at e1;injection e1
   have hll:=Xab i e
   have hpi:=p16 (show i<=16 by omega)
   refine Lo (λj:Nat=>[(1,.ptr 1 0),(4,.d (.int .i64 i)),(5,.d (.int .i64 j))]) (λ_=>[(1,.var (.d (dN ⟨k,t,a⟩)))]) (λj=>j<=2^i) (λj=>2^i-j) 0 [] rfl (W0y _) λj hj=>?_
   refine Ix i rfl (mp hl) ?_
   refine By rfl (λh1=>?_) λh1=>?_
   . have h1:(j:Int)<(((toL i e).map dq).length:Nat):=h1
     rw[lq,hll] at h1
     obtain⟨x,hx⟩:=qat (l:=toL i e) (k:=j) (by omega)
     refine Ix i rfl (mp hl) ?_
     refine Ix j rfl (mp hx) ?_
     refine By rfl (λh1=>?_) λh1=>?_
     . exact Rt rfl (.one (.rf rfl) rfl rfl) ⟨_,rfl⟩
     . refine Ix i rfl (mp hl) ?_
       refine Ix j rfl (mp hx) ?_
       refine By rfl (λh2=>?_) λh2=>?_
       . exact Rt rfl (.one (.rf rfl) rfl rfl) ⟨_,rfl⟩
       . refine Ar (j+1:Nat) rfl ?_
         exact Bk (j+1) [] rfl (show j+1<=2^i by omega) (by show 2^i-(j+1)<2^i-j;omega)
   . refine Ar (i+1:Nat) rfl ?_
     exact Bk (i+1) [] rfl (show i+1<=k by omega) (by show k-(i+1)<k-i;omega)
 . exact Rt rfl (.one (.rf rfl) rfl rfl) ⟨_,rfl⟩
theorem R9.All_ok{l:List Nm}(hl:∀z∈l,z.k<=16)(hn:l.length<=1000): C0 68 [.d (dNs l)] IsB:=by
 refine En Tryz.func68 λ_ _ _=>?_
 refine Lo (λi:Nat=>[(0,.d (dNs l)),(3,.d (.int .i64 i))]) (λ_=>[]) (λi=>i<=l.length) (λi=>l.length-i) 0 [] rfl (W0y _) λi hi=>?_
 refine By rfl (λh=>?_) λh=>?_<;>simp only[W0l] at h
 . obtain⟨z,hz⟩:∃z,l[i]?=some z:=⟨_,W0c (by omega)⟩
   refine Ix i rfl (mp hz) ?_
   refine Ca rfl (R9.Light_ok (hl z (W0i hz))) λv hv=>?_
   obtain⟨c,rfl⟩:=hv
   refine By rfl (λh2=>?_) λh2=>?_
   . exact Rt rfl (.one (.rf rfl) rfl rfl) ⟨_,rfl⟩
   . refine Ar (i+1:Nat) rfl ?_
     exact Bk (i+1) [] rfl (show i+1<=l.length by omega) (by show l.length-(i+1)<l.length-i;omega)
 . exact Rt rfl (.one (.rf rfl) rfl rfl) ⟨_,rfl⟩
theorem R9.At_ok{l:List Nm}{i:Nat}(hi:i<256)(hn:l.length<=1000): C0 69 [.d (dNs l),.d (.int .i64 i)] λv=>∃z∈n00::l,v=.d (dN z):=by
 refine En Tryz.func69 λ_ _ _=>?_
 refine By rfl (λh=>?_) λh=>?_<;>simp only[W0l] at h
 . refine Ce rfl (R9.FromInt_ok (z:=0) (by decide)) ?_
   exact Rt rfl (.one (.rf rfl) rfl rfl) ⟨_,W0v ..,rfl⟩
 . refine No rfl (by omega) ?_
   obtain⟨z,hz⟩:∃z,l[i%l.length]?=some z:=⟨_,W0c (W1q _ (by omega))⟩
   refine Ar (i%l.length:Nat) rfl ?_ (by rw[W0l];exact R9.remN (by omega))
   refine Ix (i%l.length) rfl (mp hz) ?_
   exact Rt rfl (.one (.rf rfl) rfl rfl) ⟨z,W1c _ (W0i hz),rfl⟩
end
end
section
section
variable{K:Nat}{G:Tw K}{S:List (Tow.El K)}{N:List Nm}{n m:Nat}{x y z:Nm}{a b:Tow.El K}{u s:Vn}{p q:V2 K}
theorem R13.Left_g(W:Wn G S N)(hu:Gv G S N n u p)(hn:n<=190): C0 135 [.d (dV u)] (VeG G S N n (neg K p.2,p.1)):=by
 refine En Tryz.func135 λ_ _ _=>?_
 refine Dw rfl ?_
 refine Ca rfl (R9.Neg_g W hu.y hn) λv hv=>?_
 obtain⟨z,rfl,hz⟩:=hv
 exact Rt rfl (.one (.rf rfl) rfl rfl) ⟨⟨z,u.x⟩,rfl,hz,hu.x⟩
theorem R13.Dot_g(W:Wn G S N)(hu:Gv G S N n u p)(hs:Gv G S N m s q)(hn:n<=190)(hm:m<=190)(h2:n+m<=190): C0 90 [.d (dV u),.d (dV s)] (OpG G S N (n+m+(n+m)) (Xi6 G p q)):=by
 refine En Tryz.func90 λ_ _ _=>?_
 refine Ca rfl (R9.Mul_g W hu.x hs.x hn hm) λv hv=>?_
 obtain⟨z,rfl,hz⟩:=hv
 refine Ca rfl (R9.Mul_g W hu.y hs.y hn hm) λv hv=>?_
 obtain⟨w,rfl,hw⟩:=hv
 refine No rfl (by simp) ?_
 refine No rfl (by simp) ?_
 refine Ca rfl (R9.Add_g W hz hw h2 h2) λv hv=>?_
 obtain⟨r,rfl,hr⟩:=hv
 exact Rt rfl (.tup (.cons (.rf rfl) Xa6)) ⟨r,rfl,hr⟩
theorem R13.Cross_g(W:Wn G S N)(hu:Gv G S N n u p)(hs:Gv G S N m s q)(hn:n<=190)(hm:m<=190)(h2:n+m<=190): C0 81 [.d (dV u),.d (dV s)] (OpG G S N (n+m+(n+m)) (Xau G p q)):=by
 refine En Tryz.func81 λ_ _ _=>?_
 refine Dw rfl ?_
 refine Ca rfl (R13.Left_g W hu hn) λv hv=>?_
 obtain⟨r,rfl,hr⟩:=hv
 refine Ca rfl (R13.Dot_g W hr hs hn hm h2) λv hv=>?_
 obtain⟨z,rfl,hz⟩:=hv
 exact Rt rfl (.tup (.cons (.rf rfl) Xa6)) ⟨z,rfl,hz⟩
theorem R13.Zero_g(W:Wn G S N)(hu:Gv G S N n u p)(hn:n<=800): C0 29 [.d (dV u)] (·=.b (dc (p=vz K))):=by
 refine En Tryz.func29 λ_ _ _=>?_
 refine Ce rfl (R9.Sign_g W hu.x hn) ?_
 refine By rfl (λh=>?_) λh=>?_
 . refine Ce rfl (R9.Sign_g W hu.y hn) ?_
   exact R1 rfl (.bp (Xaj.trans ⟨λh2=>(Xl0 W.w.g).2 ⟨h,h2⟩,λh2=>((Xl0 W.w.g).1 h2).2⟩))
 . exact R1 rfl (.bp ⟨nofun,λh2=>absurd ((Xl0 W.w.g).1 h2).1 h⟩)
theorem R13.Valid_g(W:Wn G S N)(hu:Gv G S N n u p)(hn:n<=800): C0 56 [.d (dV u)] (·=.b true):=by
 refine En Tryz.func56 λ_ _ _=>?_
 refine Ce rfl (R9.Valid_g W hu.x hn) ?_
 refine Yes rfl rfl ?_
 refine Ce rfl (R9.Valid_g W hu.y hn) ?_
 exact R0
theorem R13.Make_ok{i j:Rat}: C0 58 [.d (dq i),.d (dq j)] (·=.d (dV ⟨⟨0,(),i⟩,⟨0,(),j⟩⟩)):=by
 refine En Tryz.func58 λ_ _ _=>?_
 refine Dw rfl ?_
 refine Ce rfl R9.FromRat_ok ?_
 refine Ce rfl R9.FromRat_ok ?_
 exact R0
theorem R13.Whole_ok{i j:Int}(hi:-9223372036854775808<=i/\i<9223372036854775808)(hj:-9223372036854775808<=j/\j<9223372036854775808): C0 25 [.d (.int .i64 i),.d (.int .i64 j)] (·=.d (dV ⟨⟨0,(),(i:Rat)⟩,⟨0,(),(j:Rat)⟩⟩)):=by
 refine En Tryz.func25 λ_ _ _=>?_
 refine Ce rfl (R2.FromInt_ok hi) ?_
 refine Ce rfl (R2.FromInt_ok hj) ?_
 refine Ce rfl R13.Make_ok ?_
 exact R0
abbrev cal: Ob:=.var (.d (.st (.int .i64 0)))
theorem R15.note_ok: CN0 134 [.ptr 1000001 0,.d (.int .i64 0)] [(1000001,cal)] (λ_=>True):=by
 refine EnW Tryz.func134 λ_ _ _ _=>?_
 refine Yes rfl (by decide) ?_
 exact Rw [] [(1000001,cal)] rfl (.tup (.one (.rf rfl) (λ_ _ e=>by cases e) (λ_ _ e=>by cases e))) ⟨rfl,trivial⟩
theorem R15.num_ok{x:Nm}: CN0 80 [.ptr 1000001 0,.d (dN x),.d (.int .i64 0)] [(1000001,cal)] (·=.d (dN x)):=by
 refine EnW Tryz.func80 λ_ _ _ _=>?_
 refine Cn [] rfl R15.note_ok λv hv=>?_
 refine No rfl (by decide) ?_
 exact Rw [] [(1000001,cal)] rfl (.one (.rf rfl) rfl rfl) ⟨rfl,rfl⟩
theorem R15.Add_g(W:Wn G S N)(hx:Gd G S N n x a)(hy:Gd G S N m y b)(hn:n<=190)(hm:m<=190): CN0 40 [.ptr 1000001 0,.d (dN x),.d (dN y)] [(1000001,cal)] (OnG G S N (n+m) (Tow.add K a b)):=by
 refine EnW Tryz.func40 λ_ _ _ _=>?_
 refine Ca rfl (R9.Add_g W hx hy hn hm) λv hv=>?_
 obtain⟨z,rfl,hz⟩:=hv
 refine Cn [] rfl R15.num_ok λv hv=>?_
 subst hv
 exact Rw [] [(1000001,cal)] rfl (.one (.rf rfl) rfl rfl) ⟨rfl,z,rfl,hz⟩
theorem R15.Sub_g(W:Wn G S N)(hx:Gd G S N n x a)(hy:Gd G S N m y b)(hn:n<=190)(hm:m<=190): CN0 327 [.ptr 1000001 0,.d (dN x),.d (dN y)] [(1000001,cal)] (OnG G S N (n+m) (Tow.add K a (Tow.neg K b))):=by
 refine EnW Tryz.func327 λ_ _ _ _=>?_
 refine Ca rfl (R9.Sub_g W hx hy hn hm) λv hv=>?_
 obtain⟨z,rfl,hz⟩:=hv
 refine Cn [] rfl R15.num_ok λv hv=>?_
 subst hv
 exact Rw [] [(1000001,cal)] rfl (.one (.rf rfl) rfl rfl) ⟨rfl,z,rfl,hz⟩
theorem R15.Mul_g(W:Wn G S N)(hx:Gd G S N n x a)(hy:Gd G S N m y b)(hn:n<=190)(hm:m<=190): CN0 328 [.ptr 1000001 0,.d (dN x),.d (dN y)] [(1000001,cal)] (OnG G S N (n+m) (Tow.mul K G a b)):=by
 refine EnW Tryz.func328 λ_ _ _ _=>?_
 refine Ca rfl (R9.Mul_g W hx hy hn hm) λv hv=>?_
 obtain⟨z,rfl,hz⟩:=hv
 refine Cn [] rfl R15.num_ok λv hv=>?_
 subst hv
 exact Rw [] [(1000001,cal)] rfl (.one (.rf rfl) rfl rfl) ⟨rfl,z,rfl,hz⟩
theorem R15.Cross_g(W:Wn G S N)(hu:Gv G S N n u p)(hs:Gv G S N m s q)(hn:n<=190)(hm:m<=190)(h2:n+m<=190): CN0 41 [.ptr 1000001 0,.d (dV u),.d (dV s)] [(1000001,cal)] (OnG G S N (n+m+(n+m)) (Xau G p q)):=by
 refine EnW Tryz.func41 λ_ _ _ _=>?_
 refine Ca rfl (R13.Cross_g W hu hs hn hm h2) λv hv=>?_
 obtain⟨z,rfl,hz⟩:=hv
 refine Cn [] rfl R15.num_ok λv hv=>?_
 subst hv
 exact Rw [] [(1000001,cal)] rfl (.one (.rf rfl) rfl rfl) ⟨rfl,z,rfl,hz⟩
end
end
section
abbrev dT(v:Vn)(f:Int): D:=.st (.pr (dV v) (.int .i64 f))
abbrev dT0: D:=.st (.pr (.st (.pr R9.n0 R9.n0)) (.int .i64 0))
theorem Xsb{g:Hp}{K:Hpl}: Fit g K (.st (.pr (.st (.pr (.st (.pr .nil .nil)) (.st (.pr .nil .nil)))) (.d (.int .i64 0)))) (.d dT0):=.sd (.pd (.sd (.pd R9.fit0 R9.fit0)) (.rf rfl))
def lim(f:Int): Prop:=-1000000<=f/\f<=1000000
instance {f:Int}:Decidable (lim f):=by unfold lim;infer_instance
def few(f:Int): Prop:=-1000000000<=f/\f<=1000000000
theorem lim.few{f:Int}(h:lim f): few f:=by unfold lim at h;unfold Proofs.YtgpipgjbkggjpaaGreatDoor.few;omega
def Yf5{K:Nat}(G:Tw K)(p q:V2 K)(f g:Int): Int:=if f<g then -1 else if f>g then 1 else Xez G p q
section
variable{K:Nat}{G:Tw K}{S:List (Tow.El K)}{N:List Nm}{n m:Nat}{x y z:Nm}{a b:Tow.El K}{u s:Vn}{p q:V2 K}{f g:Int}
def TuG(G:Tw K)(S:List (Tow.El K))(N:List Nm)(n:Nat)(p:V2 K)(f:Int)(r:AV): Prop:=(lim f/\∃v,r=.tup (.pr (.d (dT v f)) (.d (.int .i64 0)))/\Gv G S N n v p)\/(¬lim f/\r=.tup (.pr (.d dT0) (.d (.int .i64 3))))
theorem R19.Valid_g(W:Wn G S N)(hu:Gv G S N n u p)(hn:n<=800): C0 8 [.d (dT u f)] (·=.b (dc (p≠vz K/\lim f))):=by
 refine En Tryz.func8 λ_ _ _=>?_
 refine Ce rfl (R13.Zero_g W hu hn) ?_
 refine By rfl (λh=>?_) λh=>?_
 . have h:p≠vz K:=by simpa [Xav,Xaj] using h
   refine By rfl (λh2=>?_) λh2=>?_
   . exact R1 rfl (.bp (Xaj.trans ⟨λh3=>⟨h,h2,h3⟩,λh3=>h3.2.2⟩))
   . exact R1 rfl (.bp ⟨nofun,λh3=>absurd h3.2.1 h2⟩)
 . have h:p=vz K:=by simpa [Xav,Xaj] using h
   exact R1 rfl (.bp ⟨nofun,λh3=>absurd h h3.1⟩)
theorem R19.half_g(W:Wn G S N)(hu:Gv G S N n u p)(hn:n<=800): C0 194 [.d (dV u)] (·=.d (.int .i64 (if vup G p then 0 else 1))):=by
 refine En Tryz.func194 λ_ _ _=>?_
 refine Ce rfl (R9.Sign_g W hu.y hn) ?_
 refine By rfl (λh=>?_) λh=>?_
 . rw[if_pos (show vup G p from .inl h)];exact R0
 . refine By rfl (λh2=>?_) λh2=>?_
   . refine Ce rfl (R9.Sign_g W hu.x hn) ?_
     refine By rfl (λh3=>?_) λh3=>?_
     . rw[if_pos (show vup G p from .inr ⟨h2,h3⟩)];exact R0
     . rw[if_neg (show ¬vup G p from λe=>e.elim h λe=>h3 e.2)];exact R0
   . rw[if_neg (show ¬vup G p from λe=>e.elim h λe=>h2 e.1)];exact R0
theorem R19.order_g(W:Wn G S N)(hu:Gv G S N n u p)(hs:Gv G S N m s q)(hn:n<=190)(hm:m<=190)(h2:n+m<=190): CN0 116 [.ptr 1000001 0,.d (dV u),.d (dV s)] [(1000001,cal)] (·=.d (.int .i64 (Xez G p q))):=by
 refine EnW Tryz.func116 λ_ _ _ _=>?_
 refine Dw rfl ?_
 refine Ce rfl (R19.half_g W hu (by omega)) ?_
 refine Ce rfl (R19.half_g W hs (by omega)) ?_
 refine By rfl (λh=>?_) λh=>?_
 . refine Dw rfl ?_
   refine Ce rfl (R19.half_g W hu (by omega)) ?_
   refine Ce rfl (R19.half_g W hs (by omega)) ?_
   refine Ar (Xez G p q) rfl ?_ (by
    unfold Xez
    by_cases h1:vup G p<;>by_cases h2:vup G q<;>simp[h1,h2] at h |-<;>rfl)
   exact Rw [] [(1000001,cal)] rfl (.one (.rf rfl) rfl rfl) ⟨rfl,rfl⟩
 . refine Cn [] rfl (R15.Cross_g W hu hs hn hm h2) λv hv=>?_
   obtain⟨z,rfl,hz⟩:=hv
   refine Ce rfl (R9.Sign_g W hz (by omega)) ?_
   have hi:vup G p↔vup G q:=by
    by_cases h1:vup G p<;>by_cases h2:vup G q<;>simp[h1,h2] at h |-
   have ht:=Xb7 G (Xau G p q)
   refine Ne (Xez G p q) rfl ?_ (by
    unfold Xez
    rw[if_pos hi]
    exact wr (Int.zero_sub _) (by simp only[inK];omega))
   exact Rw [] [(1000001,cal)] rfl (.one (.rf rfl) rfl rfl) ⟨rfl,rfl⟩
theorem R19.product_g(W:Wn G S N)(hu:Gv G S N n u p)(hs:Gv G S N m s q)(h2:n+m<=190): CN0 273 [.ptr 1000001 0,.d (dV u),.d (dV s)] [(1000001,cal)] (VeG G S N (n+m+(n+m)) (Xbw G p q)):=by
 refine EnW Tryz.func273 λ_ _ _ _=>?_
 refine Dw rfl ?_
 refine Cn [] rfl (R15.Mul_g W hu.x hs.x (by omega) (by omega)) λv hv=>?_
 obtain⟨z1,rfl,h1⟩:=hv
 refine Cn [] rfl (R15.Mul_g W hu.y hs.y (by omega) (by omega)) λv hv=>?_
 obtain⟨z2,rfl,h2'⟩:=hv
 refine Cn [] rfl (R15.Sub_g W h1 h2' h2 h2) λv hv=>?_
 obtain⟨z3,rfl,h3⟩:=hv
 refine Cn [] rfl (R15.Mul_g W hu.x hs.y (by omega) (by omega)) λv hv=>?_
 obtain⟨z4,rfl,h4⟩:=hv
 refine Cn [] rfl (R15.Mul_g W hu.y hs.x (by omega) (by omega)) λv hv=>?_
 obtain⟨z5,rfl,h5⟩:=hv
 refine Cn [] rfl (R15.Add_g W h4 h5 h2 h2) λv hv=>?_
 obtain⟨z6,rfl,h6⟩:=hv
 exact Rw [] [(1000001,cal)] rfl (.one (.rf rfl) rfl rfl) ⟨rfl,⟨z3,z6⟩,rfl,h3,h6⟩
theorem R19.sum_g(W:Wn G S N)(hu:Gv G S N n u p)(hs:Gv G S N m s q)(h2:n+m+(n+m)+n<=190)(hf:few f)(hg:few g): CN0 211 [.ptr 1000001 0,.d (dT u f),.d (dT s g)] [(1000001,cal)] (λr=>∃v,r=.d (dT v (Xge G p q f g))/\Gv G S N (n+m+(n+m)) v (Xbw G p q)):=by
 unfold few at hf hg
 refine EnW Tryz.func211 λ_ _ _ _=>?_
 refine Cn [] rfl (R19.product_g W hu hs (by omega)) λv hv=>?_
 obtain⟨d,rfl,hd⟩:=hv
 refine Ar (f+g) rfl ?_ (wr rfl (by simp only[inK];omega))
 refine Yes rfl (by decide) ?_
 refine Cn [] rfl (R19.order_g W hd hu (by omega) (by omega) h2) λv hv=>?_
 subst hv
 refine By rfl (λh=>?_) λh=>?_
 . refine Ar (f+g+1) rfl ?_ (wr rfl (by simp only[inK];omega))
   exact Rw [] [(1000001,cal)] rfl (.one (.rf rfl) rfl rfl) ⟨rfl,d,by rw[Xge,if_pos h],hd⟩
 . exact Rw [] [(1000001,cal)] rfl (.one (.rf rfl) rfl rfl) ⟨rfl,d,by rw[Xge,if_neg h],hd⟩
theorem R19.result_g(hu:Gv G S N n u p): CN0 49 [.ptr 1000001 0,.d (dT u f)] [(1000001,cal)] (TuG G S N n p f):=by
 refine EnW Tryz.func49 λ_ _ _ _=>?_
 refine No rfl (by decide) ?_
 refine By rfl (λh=>?_) λh=>?_
 . exact Rw [] [(1000001,cal)] rfl (.tup (.cons Xsb Xa6)) ⟨rfl,.inr ⟨λh2=>by unfold lim at h2;omega,rfl⟩⟩
 . refine By rfl (λh2=>?_) λh2=>?_
   . exact Rw [] [(1000001,cal)] rfl (.tup (.cons Xsb Xa6)) ⟨rfl,.inr ⟨λh2=>by unfold lim at h2;omega,rfl⟩⟩
   . exact Rw [] [(1000001,cal)] rfl (.tup (.cons (.rf rfl) Xa6)) ⟨rfl,.inl ⟨by unfold lim;omega,u,rfl,hu⟩⟩
theorem R19.Add_g(W:Wn G S N)(hu:Gv G S N n u p)(hs:Gv G S N m s q)(h2:n+m+(n+m)+n<=190)(hf:few f)(hg:few g): C0 133 [.d (dT u f),.d (dT s g)] (TuG G S N (n+m+(n+m)) (Xbw G p q) (Xge G p q f g)):=by
 refine En Tryz.func133 λ_ _ _=>?_
 refine Cn [(1000001,8)] rfl (R19.sum_g W hu hs h2 hf hg) λv hv=>?_
 obtain⟨d,rfl,hd⟩:=hv
 refine Cn [(1000001,8)] rfl (R19.result_g hd) λv hv=>?_
 rcases hv with ⟨h1,w,rfl,hw⟩ | ⟨h1,rfl⟩
 . exact Rt rfl (.tup (.cons (.rf rfl) Xa6)) (.inl ⟨h1,w,rfl,hw⟩)
 . exact Rt rfl (.tup (.cons (.rf rfl) Xa6)) (.inr ⟨h1,rfl⟩)
theorem R19.Cmp_g(W:Wn G S N)(hu:Gv G S N n u p)(hs:Gv G S N m s q)(h2:n+m<=190): C0 66 [.d (dT u f),.d (dT s g)] (·=.tup (.pr (.d (.int .i64 (Yf5 G p q f g))) (.d (.int .i64 0)))):=by
 refine En Tryz.func66 λ_ _ _=>?_
 unfold Yf5
 refine By rfl (λh=>?_) λh=>?_
 . rw[if_pos h];exact RTt rfl (.cons (.rf rfl) Xa6)
 rw[if_neg h]
 refine By rfl (λh=>?_) λh=>?_
 . rw[if_pos h];exact RTt rfl (.cons (.rf rfl) Xa6)
 rw[if_neg h]
 refine Cn [(1000001,19)] rfl (R19.order_g W hu hs (by omega) (by omega) h2) λv hv=>?_
 subst hv
 refine No rfl (by decide) ?_
 exact RTt rfl (.cons (.rf rfl) Xa6)
def Xs8(G:Tw K)(p q:V2 K)(f g:Int): Prop:=(p≠vz K/\lim f)/\(q≠vz K/\lim g)/\Yf5 G p q f g=0
theorem R19.Same_g(W:Wn G S N)(hu:Gv G S N n u p)(hs:Gv G S N m s q)(h2:n+m<=190): C0 28 [.d (dT u f),.d (dT s g)] (·=.b (dc (Xs8 G p q f g))):=by
 refine En Tryz.func28 λ_ _ _=>?_
 refine Ce rfl (R13.Valid_g W hu (by omega)) ?_
 refine No rfl (by simp) ?_
 refine Ce rfl (R13.Valid_g W hs (by omega)) ?_
 refine No rfl (by simp) ?_
 refine Ce rfl (R19.Valid_g W hu (by omega)) ?_
 refine By rfl (λh=>?_) λh=>?_
 . have h:¬(p≠vz K/\lim f):=by simpa [Xav,Xaj] using h
   exact R1 rfl (.bp ⟨nofun,λe=>absurd e.1 h⟩)
 have h:p≠vz K/\lim f:=by simpa [Xav,Xaj] using h
 refine Ce rfl (R19.Valid_g W hs (by omega)) ?_
 refine By rfl (λh1=>?_) λh1=>?_
 . have h1:¬(q≠vz K/\lim g):=by simpa [Xav,Xaj] using h1
   exact R1 rfl (.bp ⟨nofun,λe=>absurd e.2.1 h1⟩)
 have h1:q≠vz K/\lim g:=by simpa [Xav,Xaj] using h1
 refine Ce rfl (R19.Cmp_g W hu hs h2) ?_
 refine By rfl (λh3=>?_) λh3=>?_
 . exact R1 rfl (.bp ⟨λ_=>⟨h,h1,h3⟩,λ_=>Xaj.2 rfl⟩)
 . exact R1 rfl (.bp ⟨nofun,λe=>absurd e.2.2 h3⟩)
end
end
open Go Go.Vm Go.Num Go.Tow
section
variable{K:Nat}{G:Tw K}{S:List (Tow.El K)}{N:List Nm}{n m:Nat}{x y z:Nm}{a b:Tow.El K}{u s:Vn}{p q:V2 K}{f g:Int}
namespace P13
theorem Xzx(W:Wn G S N)(hu:Gv G S N n u p)(hs:Gv G S N m s q)(hn:n<=190)(hm:m<=190): C0 136 [.d (dV u),.d (dV s),.d (fnD 73)] (VoG G S N (n+m) (Tow.mul K G p.1 q.1,Tow.mul K G p.2 q.2)):=by
 refine En Tryz.func136 λ_ _ _=>?_
 refine Ca rfl (P9.Mul_g W hu.x hs.x hn hm) λv hv=>?_
 obtain⟨z,rfl,hz⟩:=hv
 refine No rfl (by simp) ?_
 refine Ca rfl (P9.Mul_g W hu.y hs.y hn hm) λv hv=>?_
 obtain⟨w,rfl,hw⟩:=hv
 refine No rfl (by simp) ?_
 exact Rt rfl (.tup (.cons (.rf rfl) Xa6)) ⟨⟨z,w⟩,rfl,hz,hw⟩
theorem Xzo(W:Wn G S N)(hx:Gd G S N n x a)(hn:n<=190): C0 138 [.d (dN x)] (OnG G S N n a):=by
 refine En Tryz.func138 λ_ _ _=>?_
 refine Ca rfl (P9.Neg_g W hx hn) λv hv=>?_
 obtain⟨z,rfl,hz⟩:=hv
 refine Ca rfl (P9.Neg_g W hz hn) λv hv=>?_
 obtain⟨w,rfl,hw⟩:=hv
 rw[(Xaw K G).nn] at hw
 exact Rt rfl (.one (.rf rfl) rfl rfl) ⟨w,rfl,hw⟩
theorem Left_g(W:Wn G S N)(hu:Gv G S N n u p)(hn:n<=190): C0 83 [.d (dV u)] (VeG G S N n (neg K p.2,p.1)):=by
 refine En Tryz.func83 λ_ _ _=>?_
 refine Dw rfl ?_
 refine Ca rfl (P9.Neg_g W hu.y hn) λv hv=>?_
 obtain⟨z,rfl,hz⟩:=hv
 refine Ca rfl (Xzo W hu.x hn) λv hv=>?_
 obtain⟨w,rfl,hw⟩:=hv
 exact Rt rfl (.one (.rf rfl) rfl rfl) ⟨⟨z,w⟩,rfl,hz,hw⟩
theorem Dot_g(W:Wn G S N)(hu:Gv G S N n u p)(hs:Gv G S N m s q)(hn:n<=190)(hm:m<=190)(h2:n+m<=190): C0 82 [.d (dV u),.d (dV s)] (OpG G S N (n+m+(n+m)) (Xi6 G p q)):=by
 refine En Tryz.func82 λ_ _ _=>?_
 refine Ca rfl (Xzx W hu hs hn hm) λv hv=>?_
 obtain⟨r,rfl,hr⟩:=hv
 refine No rfl (by simp) ?_
 refine Ca rfl (P9.Add_g W hr.x hr.y h2 h2) λv hv=>?_
 obtain⟨z,rfl,hz⟩:=hv
 exact Rt rfl (.tup (.cons (.rf rfl) Xa6)) ⟨z,rfl,hz⟩
theorem Cross_g(W:Wn G S N)(hu:Gv G S N n u p)(hs:Gv G S N m s q)(hn:n<=190)(hm:m<=190)(h2:n+m<=190): C0 42 [.d (dV u),.d (dV s)] (OpG G S N (n+m+(n+m)) (Xau G p q)):=by
 refine En Tryz.func42 λ_ _ _=>?_
 refine Dw rfl ?_
 refine Ca rfl (Left_g W hu hn) λv hv=>?_
 obtain⟨r,rfl,hr⟩:=hv
 refine Ca rfl (Dot_g W hr hs hn hm h2) λv hv=>?_
 obtain⟨z,rfl,hz⟩:=hv
 exact Rt rfl (.tup (.cons (.rf rfl) Xa6)) ⟨z,rfl,hz⟩
end P13
namespace P19
theorem Xr7(W:Wn G S N)(hu:Gv G S N n u p)(hs:Gv G S N m s q)(h2:n+m<=190): C0 234 [.d (dV u),.d (dV s)] (VoG G S N (n+m+(n+m)) (Xbw G p q)):=by
 refine En Tryz.func234 λ_ _ _=>?_
 refine Dw rfl ?_
 refine Ca rfl (P9.Neg_g W hu.y (by omega)) λv hv=>?_
 obtain⟨z,rfl,hz⟩:=hv
 refine Ca rfl (P13.Dot_g (u:=⟨u.x,z⟩) (p:=Xdn p) W ⟨hu.x,hz⟩ hs (by omega) (by omega) h2) λv hv=>?_
 obtain⟨d,rfl,hd⟩:=hv
 rw[Yah] at hd
 refine No rfl (by simp) ?_
 refine Dw rfl ?_
 refine Ca rfl (P9.Neg_g W hu.y (by omega)) λv hv=>?_
 obtain⟨z',rfl,hz'⟩:=hv
 refine Ca rfl (P13.Cross_g (u:=⟨u.x,z'⟩) (p:=Xdn p) W ⟨hu.x,hz'⟩ hs (by omega) (by omega) h2) λv hv=>?_
 obtain⟨c,rfl,hc⟩:=hv
 rw[Yag] at hc
 refine No rfl (by simp) ?_
 exact Rt rfl (.tup (.cons (.rf rfl) Xa6)) ⟨⟨d,c⟩,rfl,hd,hc⟩
theorem Xs1(W:Wn G S N)(hu:Gv G S N n u p)(hn:n<=800): C0 288 [.d (dV u)] (·=.b (dc (vup G p))):=by
 refine En Tryz.func288 λ_ _ _=>?_
 refine Ce rfl (P9.Sign_g W hu.y hn) ?_
 refine By rfl (λh=>?_) λh=>?_
 . exact R1 rfl (.bp ⟨λ_=>.inl h,λ_=>rfl⟩)
 . refine By rfl (λh2=>?_) λh2=>?_
   . refine Ce rfl (P9.Sign_g W hu.x hn) ?_
     exact R1 rfl (.bp (Xaj.trans ⟨λh3=>.inr ⟨h2,h3⟩,λh3=>h3.elim (λe=>absurd e h) λe=>e.2⟩))
   . exact R1 rfl (.bp ⟨nofun,λh3=>h3.elim (λe=>absurd e h) λe=>absurd e.1 h2⟩)
theorem Yif(W:Wn G S N)(hu:Gv G S N n u p)(hn:n<=800): C0 72 [.d (dV u)] (·=.b (dc (Xci G p))):=by
 refine En Tryz.func72 λ_ _ _=>?_
 refine Ce rfl (P9.Sign_g W hu.y hn) ?_
 refine By rfl (λh=>?_) λh=>?_
 . refine Ce rfl (P9.Sign_g W hu.x hn) ?_
   exact R1 rfl (.bp (Xaj.trans ⟨λh3=>⟨h,h3⟩,λh3=>h3.2⟩))
 . exact R1 rfl (.bp ⟨nofun,λh3=>absurd h3.1 h⟩)
theorem Xf8(W:Wn G S N)(hu:Gv G S N n u p)(hs:Gv G S N m s q)(h2:n+m<=190): C0 235 [.d (dV u),.d (dV s)] (·=.tup (.pr (.d (.int .i64 (Xez G p q))) (.d (.int .i64 0)))):=by
 refine En Tryz.func235 λ_ _ _=>?_
 refine Dw rfl ?_
 refine Ce rfl (Xs1 W hu (by omega)) ?_
 refine Ce rfl (Xs1 W hs (by omega)) ?_
 unfold Xez
 refine By rfl (λh=>?_) λh=>?_
 . refine By rfl (λh1=>?_) λh1=>?_
   . rw[if_neg (by simp[Xaj,h1] at h |-;exact h),if_pos h1]
     exact RTt rfl (.cons (.rf rfl) Xa6)
   . rw[if_neg (by simp[Xaj,h1] at h |-;exact h),if_neg h1]
     exact RTt rfl (.cons (.rf rfl) Xa6)
 . have d1:dc True=true:=Xaj.2 trivial
   have d2:dc False=false:=W6h.2 λh=>Xaj.1 h
   have h:vup G p↔vup G q:=by
    by_cases h1:vup G p<;>by_cases h2:vup G q<;>simp[h1,h2,d1,d2] at h |-
   rw[if_pos h]
   refine Ca rfl (P13.Cross_g W hu hs (by omega) (by omega) h2) λv hv=>?_
   obtain⟨z,rfl,hz⟩:=hv
   refine Ce rfl (P9.Sign_g W hz (by omega)) ?_
   have ht:=Xb7 G (Xau G p q)
   refine Ne (-sgn K G (Xau G p q)) rfl ?_ (wr (Int.zero_sub _) (by simp only[inK];omega))
   exact RTt rfl (.cons (.rf rfl) Xa6)
theorem Yml(W:Wn G S N)(hu:Gv G S N n u p)(hs:Gv G S N m s q)(h2:n+m+(n+m)+n<=190)(hf:few f)(hg:few g): C0 158 [.d (dT u f),.d (dT s g)] (λr=>∃v,r=.tup (.pr (.d (dT v (Xge G p q f g))) (.d (.int .i64 0)))/\Gv G S N (n+m+(n+m)) v (Xbw G p q)):=by
 unfold few at hf hg
 refine En Tryz.func158 λ_ _ _=>?_
 refine Ca rfl (Xr7 W hu hs (by omega)) λv hv=>?_
 obtain⟨d,rfl,hd⟩:=hv
 refine No rfl (by simp) ?_
 refine Ce rfl (Xf8 W hd hu h2) ?_
 refine No rfl (by simp) ?_
 refine Ar (f+g) rfl ?_ (wr rfl (by simp only[inK];omega))
 refine By rfl (λh=>?_) λh=>?_
 . refine Ar (f+g+1) rfl ?_ (wr rfl (by simp only[inK];omega))
   exact Rt rfl (.tup (.cons (.rf rfl) Xa6)) ⟨d,by rw[Xge,if_pos h],hd⟩
 . exact Rt rfl (.tup (.cons (.rf rfl) Xa6)) ⟨d,by rw[Xge,if_neg h],hd⟩
theorem Xvc(hu:Gv G S N n u p): C0 157 [.d (dT u f),.d (.int .i64 0)] (TuG G S N n p f):=by
 refine En Tryz.func157 λ_ _ _=>?_
 refine Yes rfl (by decide) ?_
 refine By rfl (λh=>?_) λh=>?_
 . refine Yes rfl (by decide) ?_
   exact Rt rfl (.tup (.cons Xsb Xa6)) (.inr ⟨λh2=>by unfold lim at h2;omega,rfl⟩)
 . refine By rfl (λh2=>?_) λh2=>?_
   . refine Yes rfl (by decide) ?_
     exact Rt rfl (.tup (.cons Xsb Xa6)) (.inr ⟨λh2=>by unfold lim at h2;omega,rfl⟩)
   . refine No rfl (by decide) ?_
     exact Rt rfl (.tup (.cons (.rf rfl) Xa6)) (.inl ⟨by unfold lim;omega,u,rfl,hu⟩)
theorem Add_g(W:Wn G S N)(hu:Gv G S N n u p)(hs:Gv G S N m s q)(h2:n+m+(n+m)+n<=190)(hf:few f)(hg:few g): C0 95 [.d (dT u f),.d (dT s g)] (TuG G S N (n+m+(n+m)) (Xbw G p q) (Xge G p q f g)):=by
 refine En Tryz.func95 λ_ _ _=>?_
 refine Ca rfl (Yml W hu hs h2 hf hg) λv hv=>?_
 obtain⟨d,rfl,hd⟩:=hv
 refine Ca rfl (Xvc hd) λv hv=>?_
 rcases hv with ⟨h1,w,rfl,hw⟩ | ⟨h1,rfl⟩
 . exact Rt rfl (.tup (.cons (.rf rfl) Xa6)) (.inl ⟨h1,w,rfl,hw⟩)
 . exact Rt rfl (.tup (.cons (.rf rfl) Xa6)) (.inr ⟨h1,rfl⟩)
theorem Zero_g(W:Wn G S N)(hu:Gv G S N n u p)(hn:n<=800): C0 33 [.d (dT u f)] (·=.b (dc (f=0/\Xci G p))):=by
 refine En Tryz.func33 λ_ _ _=>?_
 refine By rfl (λh=>?_) λh=>?_
 . refine Ce rfl (Yif W hu hn) ?_
   exact R1 rfl (.bp (Xaj.trans ⟨λh2=>⟨h,h2⟩,λh2=>h2.2⟩))
 . exact R1 rfl (.bp ⟨nofun,λh2=>absurd h2.1 h⟩)
def OfG(G:Tw K)(S:List (Tow.El K))(N:List Nm)(n:Nat)(p q:V2 K)(r:AV): Prop:=(¬(p=vz K\/q=vz K)/\∃v,r=.tup (.pr (.d (dT v 0)) (.d (.int .i64 0)))/\Gv G S N n v (Xbw G (Xdn p) q))\/((p=vz K\/q=vz K)/\r=.tup (.pr (.d dT0) (.d (.int .i64 6))))
end P19
end
end Go.Proofs.YtgpipgjbkggjpaaGreatDoor
namespace Go.Vm
open Go
section
variable{c:Cx}{s:St}{p:Pl}
end
end Go.Vm
namespace Go.Proofs.YtgpipgjbkggjpaaGreatDoor
open Go Go.Vm Go.Num Go.Tow
section
abbrev dAt(l:List (Fin 256)): D:=.sl 1 (l.map λn=>.int .u8 n.val)
abbrev dPl(ops:List RO)(l:List (Fin 256)): D:=.st (.pr (dRs ops) (dAt l))
def InW(P:∀ {K:Nat},Tw K->List (Tow.El K)->List Nm->Prop): Prop:=∃(K:Nat) (G:Tw K) (S:List (Tow.El K)) (N:List Nm),Ww G S N/\P G S N
def PtR(v:AV): Prop:=v=.tup (.pr (.d (dVs [])) (.b false))\/∃l:List Vn,v=.tup (.pr (.d (dVs l)) (.b true))/\l.length<=24/\InW λ_ _ N=>∀x∈l,x.x∈N/\x.y∈N
theorem Xmu{c:Bool}{g:Hp}{K:Hpl}: FitT g K (.b c) (.b c):=.one (.rf rfl) (λ_ _ e=>by cases e) (λ_ _ e=>by cases e)
theorem Xxm{ops:List RO}{at':List (Fin 256)}: C0 30 [.d (dPl ops at')] PtR:=by
 refine En Tryz.func30 λ_ _ _=>?_
 refine Ca rfl R9.Build_ok λv hv=>?_
 obtain⟨l,rfl,hl24,htm,K,G,S,hG,hS,hq,hall,_⟩:=hv
 have hk:∀z∈l,z.k<=16:=λz hz=>by
  obtain⟨v,hv⟩:=hall z hz
  exact W0h (hv.le (Xaf hG) hS) (by decide)
 refine Ca rfl (R9.All_ok hk (by omega)) λv hv=>?_
 obtain⟨c,rfl⟩:=hv
 refine By rfl (λh=>?_) λh=>?_
 . exact Rt rfl (.tup (.cons (.nil rfl) Xmu)) (.inl rfl)
 refine By rfl (λh2=>?_) λh2=>?_
 . exact Rt rfl (.tup (.cons (.nil rfl) Xmu)) (.inl rfl)
 have h2:¬((at'.map λn=>(D.int .u8 n.val:D)).length:Int)>24:=h2
 rw[W0l] at h2
 refine Nl 5 5 4 rfl ?_
 refine Lo (λ(s:Nat×List Vn)=>[(1,.ptr 1 0),(4,.d (dNs l)),(5,.gr 5 4 (s.2.map dV)),(6,.d (.int .i64 s.1))]) (λs=>[(1,.var (.d (dPl ops at'))),(5,.tok (s.2.map dV).length 4)]) (λs=>s.1<=24/\s.2.length<=s.1/\∀x∈s.2,x.x∈n00::l/\x.y∈n00::l) (λs=>24-s.1) (0,[]) [] rfl ⟨W0y _,W0a _,λx hx=>nomatch hx⟩ (λ(i,vs) ⟨hi,hv,hm⟩=>?_)
 simp only at hi hv hm
 refine Ar (i+1:Nat) rfl ?_
 refine By rfl (λh3=>?_) λh3=>?_
 . have h3:((i+1:Nat):Int)<((at'.map λn=>(D.int .u8 n.val:D)).length:Nat):=h3
   rw[W0l] at h3
   obtain⟨a,ha⟩:∃a,at'[i]?=some a:=⟨_,W0c (by omega)⟩
   obtain⟨b,hb⟩:∃b,at'[i+1]?=some b:=⟨_,W0c (by omega)⟩
   refine Dw rfl ?_
   refine Ix i rfl (mp (f:=λn:Fin 256=>(D.int .u8 n.val:D)) ha) ?_
   refine Go.Vm.Cv (a.val:Nat) rfl ?_ (wI (by omega))
   refine Ca rfl (R9.At_ok a.isLt (by omega)) λv hv=>?_
   obtain⟨x,hx,rfl⟩:=hv
   refine Ar (i+1:Nat) rfl ?_
   refine Ix (i+1) rfl (mp (f:=λn:Fin 256=>(D.int .u8 n.val:D)) hb) ?_
   refine Go.Vm.Cv (b.val:Nat) rfl ?_ (wI (by omega))
   refine Ca rfl (R9.At_ok b.isLt (by omega)) λv hv=>?_
   obtain⟨y,hy,rfl⟩:=hv
   refine ApG ((vs++[(⟨x,y⟩:Vn)]).map dV) rfl (by simp) (by simp;omega) ?_
   refine Ar (i+2:Nat) rfl ?_
   refine Bk (i+2,vs++[(⟨x,y⟩:Vn)]) [(47,5)] rfl ⟨by show i+2<=24;omega,by simp;omega,λz hz=>?_⟩ (by show 24-(i+2)<24-i;omega)
   rcases W2k.1 hz with hz | hz
   . exact hm z hz
   . obtain rfl:=W0g.1 hz
     exact⟨hx,hy⟩
 . refine Rt rfl (.tup (.cons (.gr rfl) Xmu)) (.inr ⟨vs,rfl,by omega,K,G,S,n00::l,⟨⟨hq.wd hG hS,λz hz=>?_⟩,λz hz=>?_,λz hz=>?_⟩,hm⟩)
   . rcases W1n.1 hz with rfl | hz
     . exact⟨λ_=>zero _,⟨trivial,trivial,λi hi=>absurd hi (W3z _)⟩⟩
     . obtain⟨v,hv⟩:=hall z hz
       obtain⟨ρ,h1,_⟩:=hv.ex
       exact⟨ρ,h1⟩
   . rcases W1n.1 hz with rfl | hz
     . exact⟨rat K ((0:Int):Rat),⟨λ_=>zero _,⟨trivial,trivial,λi hi=>absurd hi (W3z _)⟩,rfl⟩,trivial,(Sz.rat 0 (x:=((0:Int):Rat)) (p:=1) ⟨show ((0:Int):Rat).num.natAbs<2^1 by decide +kernel,show (((0:Int):Rat).den:Int).natAbs<2^1 by decide +kernel⟩).mono (by decide)⟩
     . exact hall z hz
   . rcases W1n.1 hz with rfl | hz
     . exact λi hi=>absurd hi (W3z _)
     . exact htm z hz
theorem Ww.gv{K:Nat}{G:Tw K}{S:List (Tow.El K)}{N:List Nm}{x:Vn}(W:Ww G S N)(h:x.x∈N/\x.y∈N): ∃p:V2 K,Gv G S N 1 x p:=by
 obtain⟨a,ha⟩:=W.gd h.1
 obtain⟨b,hb⟩:=W.gd h.2
 exact⟨(a,b),ha,hb⟩
end
section
theorem Xyh{t:TypeId}(ht:Tryz.prog.underlying t=some (.slice 5)): Reads Tryz.prog t λd=>∃l:List (Fin 256),d=dAt l :=
 (Xe9 ht (Xeq Tryz.underlying5) (sz:=1) (by kernel_rfl) (by decide)).mono λd ⟨l,e,_,h⟩=>by
  obtain⟨m,hm⟩:=Ylm (f:=λn:Fin 256=>(D.int .u8 n.val:D)) λy hy=>let ⟨n,e,hn⟩:=h y hy;⟨⟨n,hn⟩,e⟩
  exact⟨m,by rw[e,hm]⟩
theorem Xjl: Reads Tryz.prog 26 λd=>∃ops l,d=dPl ops l :=
 (Xd8 Tryz.underlying26 (.cons (n:=1) rfl (Xua Tryz.underlying23) (by kernel_rfl) (.one rfl (Xyh Tryz.underlying24))) (λf hf=>by cases hf;kernel_rfl)).mono λd hd=>by
  obtain⟨_,rfl,_,_,rfl,⟨ops,rfl⟩,⟨l,rfl⟩⟩:=hd
  exact⟨ops,l,rfl⟩
def i64(a:Int): Prop:=-9223372036854775808<=a/\a<9223372036854775808
theorem Ykf: Arg Tryz.prog 26 λd=>∃ops l,d=dPl ops l:=Xj7 Tryz.underlying26 Xjl λx ⟨_,_,e⟩=>by rw[e];rfl
end
section
def lo2(x y:Rat): Rat:=if y<x then y else x
def hi2(x y:Rat): Rat:=if x<y then y else x
def Xu2(x:Rat)(r:List Rat): Rat:=r.foldl lo2 x
def Xu8(x:Rat)(r:List Rat): Rat:=r.foldl hi2 x
theorem Ybk{s:Nat}{x y:Rat}(hx:Qs s x)(hy:Qs s y): Qs s (lo2 x y):=by unfold lo2;split<;>assumption
theorem Ybr{s:Nat}{x y:Rat}(hx:Qs s x)(hy:Qs s y): Qs s (hi2 x y):=by unfold hi2;split<;>assumption
theorem Xu0(x:Rat)(r:List Rat)(y:Rat): Xu2 x (r++[y])=lo2 (Xu2 x r) y:=by simp[Xu2]
theorem Xu6(x:Rat)(r:List Rat)(y:Rat): Xu8 x (r++[y])=hi2 (Xu8 x r) y:=by simp[Xu8]
theorem Xu1{s:Nat}{x:Rat}{r:List Rat}(h:∀y∈x::r,Qs s y): Qs s (Xu2 x r):=by
 induction r generalizing x with
 | nil=>exact h x (W0v ..)
 | cons y r ih=>exact ih (x:=lo2 x y) (λz hz=>by
  rcases W1n.1 hz with rfl | hz
  . exact Ybk (h x (W0v ..)) (h y (by simp))
  . exact h z (by simp[hz]))
theorem Xu7{s:Nat}{x:Rat}{r:List Rat}(h:∀y∈x::r,Qs s y): Qs s (Xu8 x r):=by
 induction r generalizing x with
 | nil=>exact h x (W0v ..)
 | cons y r ih=>exact ih (x:=hi2 x y) (λz hz=>by
  rcases W1n.1 hz with rfl | hz
  . exact Ybr (h x (W0v ..)) (h y (by simp))
  . exact h z (by simp[hz]))
theorem Yen{x y:Rat}: Xm4 x y<0↔x<y:=by
 unfold Xm4
 split
 . rename_i h;simp[h]
 . rename_i h
   split<;>simp[h]
theorem Xwz{x y:Rat}: Xm4 x y>0↔y<x:=by
 rw[Xm2,<-Yen];omega
theorem Xue{s:Nat}{x:Rat}{r:List Rat}(h:∀y∈x::r,Qs s y)(k:Nat): ∀y∈x::r.take k,Qs s y:=λy hy=>h y (by
 rcases W1n.1 hy with rfl | hy
 . exact W0v ..
 . exact W1c _ (W5r hy))
theorem Xwn(n:Int): Rat.divInt n 1=(n:Rat):=by
 rw[W5f]
 have:((1:Int):Rat)=1:=rfl
 grind
def pw(b:Nat): Rat:=((2^b:Int):Rat)
theorem Zs.two{b p:Nat}(h:b+1<=p): Zs p (2^b:Int):=by
 refine Zs.mono (p:=b+1) ?_ h
 unfold Zs
 rw[Int.natAbs_pow]
 exact W3q (by decide) (Nat.lt_succ_self b)
theorem Xfr(b:Nat): (2^b:Int)≠0:=by have:=Int.pow_pos (n:=2) (m:=b) (by decide);omega
theorem Xn5(b:Nat): Qs (b+1) (pw b):=⟨Zs.two (W0a _),Zs.one (by omega)⟩
theorem Zs.floor{s:Nat}{x:Rat}(h:Qs s x): Zs s x.floor:=by
 have hn:=h.n
 unfold Zs at *
 rw[Rat.floor_def]
 exact W1v (Int.natAbs_ediv_le_natAbs _ _) hn
def dnQ(x:Rat)(b:Nat): Rat:=Rat.divInt (x*pw b).floor (2^b)
def upQ(x:Rat)(b:Nat): Rat:=-dnQ (-x) b
theorem Xwk{s:Nat}{x:Rat}(h:Qs s x)(b:Nat): Qs (s+b+1) (dnQ x b) :=
 Qs.divInt (p:=s+b+1) ((Zs.floor (h.mul (Xn5 b))).mono (by omega)) (Zs.two (by omega)) (Xfr b)
theorem Yfy{s:Nat}{x:Rat}(h:Qs s x)(b:Nat): Qs (s+b+1) (upQ x b):=(Xwk h.neg b).neg
theorem Xlq{x y:Rat}: Xm4 x y<=0↔¬y<x:=by rw[<-Xwz];omega
theorem Ydt{a p:Nat}(h:a<2^p): (dig a).length<=p/32+1:=by
 refine Xas (W0s h ?_)
 rw[show (4294967296:Nat)=2^32 from rfl,<-W5u]
 exact W0j (by decide) (by omega)
def rtF(x:Rat): Nat:=rt x.floor.toNat
theorem Yk6(n:Nat): rt n<=n:=by
 have h:=(Xc5 n).1
 by_cases h0:rt n=0
 . omega
 . have:=W0p (rt n) (show 1<=rt n by omega)
   omega
theorem Xeg{x:Rat}(h:0<=x): x.floor=(x.floor.toNat:Int):=by
 have:(0:Int)<=x.floor:=Rat.le_floor_iff.2 h
 omega
theorem Yay{s:Nat}{x:Rat}(h:Qs s x)(h0:0<=x): Zs s (rtF x:Int):=by
 have h1:=Zs.floor h
 rw[Xeg h0] at h1
 have h2:=Yk6 x.floor.toNat
 unfold Zs at *
 have h1:x.floor.toNat<2^s:=h1
 show rt x.floor.toNat<2^s
 omega
theorem Xa1(b:Nat): 0<pw b:=Rat.intCast_pos.2 (Int.pow_pos (by decide))
def sq2(x:Rat)(b:Nat): Rat:=x*(pw b*pw b)
def Xdm(x:Rat)(b:Nat): Rat:=Rat.divInt (rtF (sq2 x b):Int) (2^b)
open Classical in
noncomputable def Xtl(x:Rat): Nat:=if ((rtF x*rtF x:Int):Rat)<x then rtF x+1 else rtF x
noncomputable def Xto(x:Rat)(b:Nat): Rat:=Rat.divInt (Xtl (sq2 x b):Int) (2^b)
theorem Yap{s b:Nat}{x:Rat}(h:Qs s x): Qs (s+(2*b+2)) (sq2 x b):=(h.mul ((Xn5 b).mul (Xn5 b))).mono (by omega)
theorem Xgy{x:Rat}{b:Nat}(h:0<=x): 0<=sq2 x b:=Rat.mul_nonneg h (Rat.mul_nonneg (W2o (Xa1 b)) (W2o (Xa1 b)))
theorem Xhn(x:Rat)(n:Nat): (x.num*2^n).fdiv x.den=(x*pw n).floor:=by
 have hd:(0:Int)<x.den:=Int.natCast_pos.2 (W2i x.den_nz)
 rw[W1m _ (by omega)]
 have key:∀z:Int,z<=(x.num*2^n)/x.den↔z<=(x*pw n).floor:=by
  intro z
  rw[Int.le_ediv_iff_mul_le hd,Rat.le_floor_iff]
  have e:x*pw n*(x.den:Rat)=((x.num*2^n:Int):Rat):=by
   have:=Xlb x
   have h2:pw n=((2^n:Int):Rat):=rfl
   rw[W3r,<-h2,<-this]
   grind
  have hdr:(0:Rat)<(x.den:Rat):=by
   have:=Rat.intCast_pos.2 hd
   exact this
  rw[<-W3h,W3r,<-e]
  constructor
  . intro h
    exact W1w h hdr
  . intro h
    exact W2p h (W2o hdr)
 have h1:=(key _).1 (W7s _)
 have h2:=(key _).2 (W7s _)
 omega
theorem Ya1(b:Nat): pw (2*b)=pw b*pw b:=by
 show ((2^(2*b):Int):Rat)=((2^b:Int):Rat)*((2^b:Int):Rat)
 rw[<-W3r,<-Int.pow_add]
 congr 2;omega
theorem Xx5{x:Rat}(b:Nat)(h0:0<=x): (x.num*2^(2*b)).fdiv x.den=((sq2 x b).floor.toNat:Int):=by
 rw[Xhn,Ya1]
 exact Xeg (Xgy h0)
theorem Xku{s:Nat}{x:Rat}(h:Qs s x)(h0:0<=x)(b:Nat): Qs (s+(2*b+2)) (Xdm x b) :=
 Qs.divInt (Yay (Yap h) (Xgy h0)) (Zs.two (by omega)) (Xfr b)
def mx0(x:Rat): Rat:=if x<0 then 0 else x
theorem Xg3(x:Rat): 0<=mx0 x:=by unfold mx0;split<;>grind
theorem Ybh{s:Nat}{x:Rat}(h:Qs s x)(hs:1<=s): Qs s (mx0 x):=by
 unfold mx0
 split
 . exact qs0.mono hs
 . exact h
theorem Yi2{x:Rat}: Xa7 x.num 0<0↔x<0:=by
 rw[Xhg]
 rcases Xbb x with ⟨h,e⟩ | ⟨h,e⟩ | ⟨h,e⟩<;>rw[e]
 . exact⟨λh=>absurd h (by decide),λh'=>absurd h' (by grind)⟩
 . exact⟨λh=>absurd h (by decide),λh'=>absurd h' (by grind)⟩
 . exact⟨λ_=>h,λ_=>by decide⟩
def rnd(p:Rat×Rat)(b:Nat): Rat×Rat:=(dnQ p.1 b,upQ p.2 b)
def rts(p:Rat×Rat)(b:Nat): Rat×Rat:=(Xdm (mx0 p.1) b,Xdm p.2 b+Rat.divInt 1 (2^b))
def Xbv(p q:Rat×Rat): Rat×Rat:=(Xu2 (p.1*q.1) [p.1*q.2,p.2*q.1,p.2*q.2],Xu8 (p.1*q.1) [p.1*q.2,p.2*q.1,p.2*q.2])
def Xhb(p q:Rat×Rat): Rat×Rat:=(p.1+q.1,p.2+q.2)
def enc: (k:Nat)->Tw k->El k->Nat->Rat×Rat
 | 0=>λ_ (x:Rat) _=>(x,x)
 | k+1=>λt a b=>if (∀x∈toL k a.2,x=0) then enc k t.1 a.1 b else rnd (Xhb (enc k t.1 a.1 b) (Xbv (enc k t.1 a.2 b) (rts (enc k t.1 t.2 b) b))) b
theorem Yb1(x:Rat)(b:Nat): dnQ x b*pw b=((x*pw b).floor:Rat):=by
 unfold dnQ
 rw[W5f]
 have h:=Xa1 b
 show ((x*pw b).floor:Rat)/pw b*pw b=_
 rw[W4y (by grind)]
theorem Xq9(x:Rat)(b:Nat): dnQ x b<=x:=by
 refine W1w ?_ (Xa1 b)
 rw[Yb1]
 exact Rat.floor_le _
theorem Xwl(x:Rat)(b:Nat): x*pw b<dnQ x b*pw b+1:=by
 rw[Yb1]
 have:=@Rat.lt_floor (x*pw b)
 grind
theorem Xs3(x:Rat)(b:Nat): x<=upQ x b:=by
 have:=Xq9 (-x) b
 unfold upQ;grind
theorem Yak(x:Rat)(b:Nat): upQ x b*pw b<x*pw b+1:=by
 have:=Xwl (-x) b
 unfold upQ;grind
theorem Xva{x y:Rat}: lo2 x y<=x/\lo2 x y<=y:=by unfold lo2;split<;>grind
theorem Xvy{x y:Rat}: x<=hi2 x y/\y<=hi2 x y:=by unfold hi2;split<;>grind
theorem Xu9{x y:Rat}: lo2 x y=x\/lo2 x y=y:=by unfold lo2;split<;>simp
theorem Xvx{x y:Rat}: hi2 x y=x\/hi2 x y=y:=by unfold hi2;split<;>simp
theorem Xih(p q:Rat×Rat): (Xbv p q).1<=p.1*q.1/\(Xbv p q).1<=p.1*q.2/\(Xbv p q).1<=p.2*q.1/\(Xbv p q).1<=p.2*q.2:=by
 show lo2 (lo2 (lo2 (p.1*q.1) (p.1*q.2)) (p.2*q.1)) (p.2*q.2)<=_/\lo2 (lo2 (lo2 (p.1*q.1) (p.1*q.2)) (p.2*q.1)) (p.2*q.2)<=_/\lo2 (lo2 (lo2 (p.1*q.1) (p.1*q.2)) (p.2*q.1)) (p.2*q.2)<=_/\lo2 (lo2 (lo2 (p.1*q.1) (p.1*q.2)) (p.2*q.1)) (p.2*q.2)<=_
 have h1:=@Xva (p.1*q.1) (p.1*q.2)
 have h2:=@Xva (lo2 (p.1*q.1) (p.1*q.2)) (p.2*q.1)
 have h3:=@Xva (lo2 (lo2 (p.1*q.1) (p.1*q.2)) (p.2*q.1)) (p.2*q.2)
 refine⟨?_,?_,?_,h3.2⟩<;>grind
theorem Xii(p q:Rat×Rat): p.1*q.1<=(Xbv p q).2/\p.1*q.2<=(Xbv p q).2/\p.2*q.1<=(Xbv p q).2/\p.2*q.2<=(Xbv p q).2:=by
 show _<=hi2 (hi2 (hi2 (p.1*q.1) (p.1*q.2)) (p.2*q.1)) (p.2*q.2)/\_<=hi2 (hi2 (hi2 (p.1*q.1) (p.1*q.2)) (p.2*q.1)) (p.2*q.2)/\_<=hi2 (hi2 (hi2 (p.1*q.1) (p.1*q.2)) (p.2*q.1)) (p.2*q.2)/\_<=hi2 (hi2 (hi2 (p.1*q.1) (p.1*q.2)) (p.2*q.1)) (p.2*q.2)
 have h1:=@Xvy (p.1*q.1) (p.1*q.2)
 have h2:=@Xvy (hi2 (p.1*q.1) (p.1*q.2)) (p.2*q.1)
 have h3:=@Xvy (hi2 (hi2 (p.1*q.1) (p.1*q.2)) (p.2*q.1)) (p.2*q.2)
 refine⟨?_,?_,?_,h3.2⟩<;>grind
theorem Xe6(x:Rat)(b:Nat): Xdm x b*pw b=((rtF (sq2 x b):Int):Rat):=by
 unfold Xdm
 rw[W5f]
 have h:=Xa1 b
 show ((rtF (sq2 x b):Int):Rat)/pw b*pw b=_
 rw[W4y (by grind)]
theorem Xdq(b:Nat): Rat.divInt 1 (2^b)*pw b=1:=by
 rw[W5f]
 have h:=Xa1 b
 show ((1:Int):Rat)/pw b*pw b=_
 rw[W4y (by grind)];rfl
theorem Xc4(x:Rat)(b:Nat): 0<=Xdm x b:=by
 refine W1w ?_ (Xa1 b)
 rw[Xe6,W4j]
 exact Rat.intCast_nonneg.2 (by omega)
theorem Yaz{x:Rat}(h:0<=x): (((rtF x:Int)):Rat)*((rtF x:Int):Rat)<=x:=by
 have h1:=(Xc5 x.floor.toNat).1
 have h2:=Xeg h
 have h3:=@Rat.floor_le x
 have h4:((rtF x*rtF x:Int):Rat)<=(x.floor:Rat):=by
  rw[W3h,h2]
  unfold rtF
  exact_mod_cast h1
 rw[W3r] at h4
 exact W5l h4 h3
theorem Xt3{x:Rat}(h:0<=x): x<(((rtF x:Int))+1:Rat)*(((rtF x:Int))+1:Rat):=by
 have h1:=(Xc5 x.floor.toNat).2
 have h2:=Xeg h
 have h3:=@Rat.lt_floor x
 have h4:((x.floor+1:Int):Rat)<=(((rtF x+1:Int)*(rtF x+1:Int):Int):Rat):=by
  rw[W3h,h2]
  unfold rtF
  have h1:x.floor.toNat+1<=(rt x.floor.toNat+1)*(rt x.floor.toNat+1):=h1
  exact_mod_cast h1
 rw[W3r,W6b,W6b] at h4
 have h5:((1:Int):Rat)=1:=rfl
 rw[h5] at h4
 grind
theorem Xh4{x:Rat}{b:Nat}(h:0<=x): Xdm x b*Xdm x b<=x:=by
 have hp:=Xa1 b
 have hpp:=W4l hp hp
 refine W1w ?_ hpp
 have h1:=Yaz (Xgy (b:=b) h)
 rw[<-Xe6] at h1
 unfold sq2 at h1
 grind
theorem Xtn{x:Rat}{b:Nat}(h:0<=x): x<=(Xdm x b+Rat.divInt 1 (2^b))*(Xdm x b+Rat.divInt 1 (2^b)):=by
 have hp:=Xa1 b
 have hpp:=W4l hp hp
 refine W1w ?_ hpp
 have h1:=Xt3 (Xgy (b:=b) h)
 have h2:=Xdq b
 rw[<-Xe6] at h1
 have h3:sq2 x b=x*(pw b*pw b):=rfl
 have h4:(Xdm x b+Rat.divInt 1 (2^b))*(Xdm x b+Rat.divInt 1 (2^b))*(pw b*pw b)=(Xdm x b*pw b+1)*(Xdm x b*pw b+1):=by
  rw[<-h2];grind
 rw[h4,<-h3]
 exact W2o h1
theorem Xg4: ∀ {k:Nat} {t:Tw k} (h:Xb5 k t) (a:El k) (b:Nat),inI k t a (enc k t a b).1 (enc k t a b).2
 | 0,t,h,a,b=>⟨(Xar h).le_rf (Xaw 0 t) a,(Xar h).le_rf (Xaw 0 t) a⟩
 | k+1,t,h,a,b=>by
  have iu:=Xmn (t:=t) h.1 (Xg4 h.1 a.1 b)
  have hs:=Xq8 (t:=t) a
  by_cases hz:∀x∈toL k a.2,x=0
  . have he:enc (k+1) t a b=enc k t.1 a.1 b:=if_pos hz
    rw[he]
    have ha:a=up k a.1:=W3d rfl ((Xal k a.2).2 hz)
    rw[ha]
    exact iu
  . have he:enc (k+1) t a b=rnd (Xhb (enc k t.1 a.1 b) (Xbv (enc k t.1 a.2 b) (rts (enc k t.1 t.2 b) b))) b:=if_neg hz
    have iv:=Xmn (t:=t) h.1 (Xg4 h.1 a.2 b)
    have ir:=Xg4 h.1 t.2 b
    have hr2:0<=(enc k t.1 t.2 b).2:=by
     have h0:le k t.1 (rat k 0) t.2:=(Xif h.1).2 (by rw[h.2];decide)
     exact(Xbj h.1).1 (le_tr h.1 h0 ir.2)
    have hu:0<=Rat.divInt 1 (2^b):=W1w (by rw[Xdq,W4j];decide) (Xa1 b)
    have is:=Xvo h ir (c:=Xdm (mx0 (enc k t.1 t.2 b).1) b) (d:=Xdm (enc k t.1 t.2 b).2 b+Rat.divInt 1 (2^b)) (Xc4 _ _) (by have:=Xc4 (enc k t.1 t.2 b).2 b;grind)
     (by
      have h1:=Xh4 (b:=b) (Xg3 (enc k t.1 t.2 b).1)
      by_cases h0:(enc k t.1 t.2 b).1<0
      . right
        have e:mx0 (enc k t.1 t.2 b).1=0:=if_pos h0
        rw[e] at h1 |-
        have h2:=Xc4 0 b
        by_cases h3:Xdm 0 b=0
        . exact h3
        . have:=W4l (show 0<Xdm 0 b by grind) (show 0<Xdm 0 b by grind)
          grind
      . left
        have e:mx0 (enc k t.1 t.2 b).1=(enc k t.1 t.2 b).1:=if_neg h0
        rw[e] at h1 |-
        exact h1) (Xtn hr2)
    have im:=Xvp h iv is (Xc4 _ _) (Xih (enc k t.1 a.2 b) (rts (enc k t.1 t.2 b) b)).1 (Xih (enc k t.1 a.2 b) (rts (enc k t.1 t.2 b) b)).2.1 (Xii (enc k t.1 a.2 b) (rts (enc k t.1 t.2 b) b)).2.2.1 (Xii (enc k t.1 a.2 b) (rts (enc k t.1 t.2 b) b)).2.2.2
    have ia:=Xvq h iu im
    rw[<-hs] at ia
    rw[he]
    exact Xqy h ia (Xq9 _ _) (Xs3 _ _)
def eB(s b:Nat): Nat->Nat
 | 0=>s
 | k+1=>3*eB s b k+4*b+6
theorem Xzk(s b:Nat): ∀k,s<=eB s b k
 | 0=>W0a _
 | k+1=>by have:=Xzk s b k;show s<=3*eB s b k+4*b+6;omega
theorem Yby{k:Nat}{t:Tw (k+1)}(h:Xb5 (k+1) t)(b:Nat): 0<=(enc k t.1 t.2 b).2:=by
 have h0:le k t.1 (rat k 0) t.2:=(Xif h.1).2 (by rw[h.2];decide)
 exact(Xbj h.1).1 (le_tr h.1 h0 (Xg4 h.1 t.2 b).2)
def Q2(s:Nat)(p:Rat×Rat): Prop:=Qs s p.1/\Qs s p.2
theorem Xhw(b:Nat): Qs (b+1) (Rat.divInt 1 (2^b)):=Qs.divInt (Zs.one (by omega)) (Zs.two (W0a _)) (Xfr b)
theorem Yaw{s b:Nat}{p:Rat×Rat}(h:Q2 s p)(h0:0<=p.2)(hs:1<=s): Q2 (s+3*b+4) (rts p b) :=
 ⟨(Xku (Ybh h.1 hs) (Xg3 _) b).mono (by omega),((Xku h.2 h0 b).add (Xhw b)).mono (by omega)⟩
theorem Xcb{s s':Nat}{p q:Rat×Rat}(h:Q2 s p)(h':Q2 s' q): Q2 (s+s') (Xbv p q):=by
 have key:∀y∈p.1*q.1::[p.1*q.2,p.2*q.1,p.2*q.2],Qs (s+s') y:=by
  intro y hy
  simp at hy
  rcases hy with rfl | rfl | rfl | rfl
  . exact h.1.mul h'.1
  . exact h.1.mul h'.2
  . exact h.2.mul h'.1
  . exact h.2.mul h'.2
 exact⟨Xu1 key,Xu7 key⟩
theorem Xlv{s s':Nat}{p q:Rat×Rat}(h:Q2 s p)(h':Q2 s' q): Q2 (s+s'+1) (Xhb p q):=⟨h.1.add h'.1,h.2.add h'.2⟩
theorem Ygw{s:Nat}{p:Rat×Rat}(h:Q2 s p)(b:Nat): Q2 (s+b+1) (rnd p b):=⟨Xwk h.1 b,Yfy h.2 b⟩
theorem Q2.mono{s s':Nat}{p:Rat×Rat}(h:Q2 s p)(hs:s<=s'): Q2 s' p:=⟨h.1.mono hs,h.2.mono hs⟩
theorem Xiv: ∀ {k:Nat} {t:Tw k} {a:El k} {s b:Nat},Xb5 k t->TS s k t->Sz s (toL k a)->1<=s->Q2 (eB s b k) (enc k t a b)
 | 0,t,a,s,b,h,hT,ha,hs=>⟨ha.qs (W0g.2 rfl),ha.qs (W0g.2 rfl)⟩
 | k+1,t,a,s,b,h,hT,ha,hs=>by
  have hu:=Xiv (b:=b) h.1 hT.1 (Sz.left (l:=toL k a.1) (m:=toL k a.2) ha) hs
  have hv:=Xiv (b:=b) h.1 hT.1 (Sz.right (l:=toL k a.1) (m:=toL k a.2) ha) hs
  have hr:=Xiv (b:=b) h.1 hT.1 hT.2 hs
  have hge:=Xzk s b k
  show Q2 (3*eB s b k+4*b+6) (if (∀x∈toL k a.2,x=0) then enc k t.1 a.1 b else rnd (Xhb (enc k t.1 a.1 b) (Xbv (enc k t.1 a.2 b) (rts (enc k t.1 t.2 b) b))) b)
  split
  . exact hu.mono (by omega)
  . exact(Ygw (Xlv hu (Xcb hv (Yaw hr (Yby h b) (by omega)))) b).mono (by omega)
theorem Xme(a b:Nat): pw (a+b)=pw a*pw b:=by
 show ((2^(a+b):Int):Rat)=((2^a:Int):Rat)*((2^b:Int):Rat)
 rw[<-W3r,<-Int.pow_add]
theorem Xcs(n:Nat): pw (n+1)=2*pw n:=by rw[Xme,show pw 1=2 from rfl];grind
theorem Xg0(n:Nat): 1<=pw n:=by
 induction n with
 | zero=>exact W6o
 | succ n ih=>rw[Xcs];grind
theorem Xia{a b:Nat}(h:a<=b): pw a<=pw b:=by
 obtain⟨c,rfl⟩:=Nat.le.dest h
 rw[Xme]
 have h1:=W2x (Xg0 c) (W2o (Xa1 a))
 grind
theorem Xjr{x y:Rat}(h:0<=x)(k:0<=y): 0<=x*y:=Rat.mul_nonneg h k
theorem Ybi{a b c d:Rat}(h:a<=b)(k:c<=d)(hc:0<=c)(hb:0<=b): a*c<=b*d:=by
 have h1:=W2p h hc
 have h2:=W2x k hb
 grind
theorem Xlc{x y X Y:Rat}(h1:-X<=x)(h2:x<=X)(h3:-Y<=y)(h4:y<=Y): x*y<=X*Y:=by
 have a:=Xjr (show 0<=X-x by grind) (show 0<=Y+y by grind)
 have b:=Xjr (show 0<=X+x by grind) (show 0<=Y-y by grind)
 grind
theorem Xqv{x y:Rat}(hy:0<=y)(h:x*x<=y*y): x<=y:=by
 by_cases hxy:x<=y
 . exact hxy
 . have h1:y<x:=by grind
   have a:=W4l (show 0<x-y by grind) (show 0<x by grind)
   have b:=Xjr hy (show 0<=x-y by grind)
   grind
def Wid(p:Rat×Rat)(e:Nat): Prop:=p.1<=p.2/\(p.2-p.1)*pw e<=1
def Mg(p:Rat×Rat)(m:Nat): Prop:=-pw m<=p.1/\p.2<=pw m
theorem Wid.mono{p:Rat×Rat}{e f:Nat}(h:Wid p e)(hf:f<=e): Wid p f:=by
 refine⟨h.1,?_⟩
 have:=W2x (Xia hf) (show 0<=p.2-p.1 by have:=h.1;grind)
 have:=h.2
 grind
theorem Mg.mono{p:Rat×Rat}{m n:Nat}(h:Mg p m)(hn:m<=n): Mg p n:=by
 have:=Xia hn
 have h1:=h.1
 have h2:=h.2
 exact⟨by grind,by grind⟩
structure RtOf (r:Rat×Rat) (b:Nat) (s:Rat×Rat):Prop where
 lo:s.1=Xdm (mx0 r.1) b
 l:Xdm r.2 b<=s.2
 h:s.2<=Xdm r.2 b+Rat.divInt 1 (2^b)
theorem Xdp(b:Nat): 0<Rat.divInt 1 (2^b):=by
 by_cases h:0<Rat.divInt 1 (2^b)
 . exact h
 . have h1:=W2p (show Rat.divInt 1 (2^b)<=0 by grind) (W2o (Xa1 b))
   rw[Xdq] at h1
   exact absurd h1 (by grind)
theorem Xs4{b f:Nat}(h:f+1<=b): 2*(Rat.divInt 1 (2^b)*pw f)<=1:=by
 have h1:=W2x (Xia h) (W2o (Xdp b))
 rw[Xdq,Xcs] at h1
 grind
theorem Xkj(b:Nat): Rat.divInt 1 (2^b)<=1:=by
 have h1:=W2x (Xg0 b) (W2o (Xdp b))
 rw[Xdq] at h1
 grind
theorem Yhg(x:Rat): x<=mx0 x:=by unfold mx0;split<;>grind
theorem Xh5{x y:Rat}{b:Nat}(hx:0<=x)(h:x<=y): Xdm x b<=Xdm y b:=by
 have hp:=Xa1 b
 refine W1w ?_ hp
 rw[Xe6,Xe6,W3h]
 have h1:sq2 x b<=sq2 y b:=W2p h (W2o (W4l hp hp))
 have h2:=Yaz (Xgy (b:=b) hx)
 have h3:=Xt3 (x:=sq2 y b) (W5l (Xgy (b:=b) hx) h1)
 by_cases h4:(rtF (sq2 x b):Int)<=rtF (sq2 y b)
 . exact h4
 . have h5:(rtF (sq2 y b):Int)+1<=rtF (sq2 x b):=by omega
   have h6:=W3h.2 h5
   rw[W6b,show ((1:Int):Rat)=1 from rfl] at h6
   have h7:(0:Rat)<=((rtF (sq2 y b):Int):Rat):=Rat.intCast_nonneg.2 (by omega)
   have h8:=Ybi h6 h6 (by grind) (by grind)
   grind
theorem RtOf.wd{r s:Rat×Rat}{b e f:Nat}(R:RtOf r b s)(hr:Wid r e)(h0:0<=r.2)(hf:2*f<=e)(hb:f+1<=b): s.1<=s.2/\(s.2-s.1)*pw f<=2:=by
 obtain⟨r1,r2⟩:=r
 obtain⟨c,d⟩:=s
 obtain⟨h1,h2,h3⟩:=R
 dsimp only at *
 have hA:=Xh4 (b:=b) h0
 have hB:=Xtn (b:=b) (Xg3 r1)
 have hB0:=Xc4 (mx0 r1) b
 have hm:=Yhg r1
 have hu:=Xdp b
 have hul:=Xs4 hb
 rw[<-h1] at hB hB0
 have hw:=(hr.mono hf).2
 have hpf:=Xa1 f
 rw[show 2*f=f+f by omega,Xme] at hw
 dsimp only at hw
 generalize Rat.divInt 1 (2^b)=ε at *
 generalize hAe:Xdm r2 b=A at *
 have key:(A-(c+ε))*pw f<=1:=by
  by_cases hk:(A-(c+ε))*pw f<=1
  . exact hk
  . have hk:1<(A-(c+ε))*pw f:=by grind
    have hD:0<A-(c+ε):=by
     by_cases hD:0<A-(c+ε)
     . exact hD
     . have:=W2p (show A-(c+ε)<=0 by grind) (W2o hpf)
       grind
    have e1:=Xjr (W2o hD) (show 0<=2*(c+ε) by grind)
    have e2:(A-(c+ε))*(A-(c+ε))<=r2-r1:=by grind
    have e3:=W2p e2 (W2o (W4l hpf hpf))
    have e4:=Ybi (W2o hk) (W2o hk) (by decide) (by grind)
    have e5:=W4l (show 0<(A-(c+ε))*pw f-1 by grind) (show 0<(A-(c+ε))*pw f by grind)
    grind
 refine⟨?_,?_⟩
 . have hmono:mx0 r1<=r2:=by
    have:=hr.1
    unfold mx0
    dsimp only at this
    split
    . exact h0
    . exact this
   have:=Xh5 (b:=b) (Xg3 r1) hmono
   rw[hAe,<-h1] at this
   grind
 . have:=W2p (show d-c<=(A-(c+ε))+2*ε by grind) (W2o hpf)
   grind
theorem RtOf.mg{r s:Rat×Rat}{b m:Nat}(R:RtOf r b s)(hr:Mg r m)(h0:0<=r.2): 0<=s.1/\s.2<=pw (m+1):=by
 have h1:=Xh4 (b:=b) h0
 have h2:=Xc4 (mx0 r.1) b
 rw[<-R.lo] at h2
 refine⟨h2,?_⟩
 have h3:Xdm r.2 b<=pw m:=by
  refine Xqv (W2o (Xa1 m)) (W5l h1 (W5l hr.2 ?_))
  have:=W2x (Xg0 m) (W2o (Xa1 m))
  grind
 have h4:=R.h
 have h5:=Xkj b
 have h6:=Xg0 m
 rw[Xcs]
 grind
theorem Xux(p q:Rat×Rat): (∃v s,(v=p.1\/v=p.2)/\(s=q.1\/s=q.2)/\(Xbv p q).1=v*s)/\∃v s,(v=p.1\/v=p.2)/\(s=q.1\/s=q.2)/\(Xbv p q).2=v*s:=by
 constructor
 . show ∃v s,(v=p.1\/v=p.2)/\(s=q.1\/s=q.2)/\lo2 (lo2 (lo2 (p.1*q.1) (p.1*q.2)) (p.2*q.1)) (p.2*q.2)=v*s
   rcases @Xu9 (lo2 (lo2 (p.1*q.1) (p.1*q.2)) (p.2*q.1)) (p.2*q.2) with h | h<;>rw[h]
   . rcases @Xu9 (lo2 (p.1*q.1) (p.1*q.2)) (p.2*q.1) with h | h<;>rw[h]
     . rcases @Xu9 (p.1*q.1) (p.1*q.2) with h | h<;>rw[h]
       . exact⟨_,_,.inl rfl,.inl rfl,rfl⟩
       . exact⟨_,_,.inl rfl,.inr rfl,rfl⟩
     . exact⟨_,_,.inr rfl,.inl rfl,rfl⟩
   . exact⟨_,_,.inr rfl,.inr rfl,rfl⟩
 . show ∃v s,(v=p.1\/v=p.2)/\(s=q.1\/s=q.2)/\hi2 (hi2 (hi2 (p.1*q.1) (p.1*q.2)) (p.2*q.1)) (p.2*q.2)=v*s
   rcases @Xvx (hi2 (hi2 (p.1*q.1) (p.1*q.2)) (p.2*q.1)) (p.2*q.2) with h | h<;>rw[h]
   . rcases @Xvx (hi2 (p.1*q.1) (p.1*q.2)) (p.2*q.1) with h | h<;>rw[h]
     . rcases @Xvx (p.1*q.1) (p.1*q.2) with h | h<;>rw[h]
       . exact⟨_,_,.inl rfl,.inl rfl,rfl⟩
       . exact⟨_,_,.inl rfl,.inr rfl,rfl⟩
     . exact⟨_,_,.inr rfl,.inl rfl,rfl⟩
   . exact⟨_,_,.inr rfl,.inr rfl,rfl⟩
theorem Xpn{u v r s:Rat×Rat}{b b' e f m:Nat}(hu:Wid u f)(hv:Wid v f)(hr:Wid r e)(hf:2*f<=e)(mv:Mg v m)(ms:0<=s.1/\s.2<=pw (m+1))(h0:0<=r.2)(R:RtOf r b s)(hb:f+1<=b)(hb':b<=b')(he:m+3<=f):
 Wid (rnd (Xhb u (Xbv v s)) b') (f-(m+3)):=by
 have hs:=R.wd hr h0 (f:=f) hf hb
 have wu:=hu.2
 have wv:=hv.2
 have hu1:=hu.1
 have hv1:=hv.1
 have hs1:=hs.1
 have hs2:=hs.2
 have hpf:=Xa1 f
 have hpm:=Xa1 m
 obtain⟨⟨v1,s1,hv1',hs1',e1⟩,v2,s2,hv2',hs2',e2⟩:=Xux v s
 have hle:=(Xih v s).1
 have hge:=(Xii v s).1
 have hP:(Xbv v s).2-(Xbv v s).1<=pw m*(s.2-s.1)+pw (m+1)*(v.2-v.1):=by
  rw[e1,e2]
  have a1:-pw m<=v2/\v2<=pw m:=by
   have:=mv.1;have:=mv.2
   rcases hv2' with rfl | rfl<;>exact⟨by grind,by grind⟩
  have a2:-(s.2-s.1)<=s2-s1/\s2-s1<=s.2-s.1:=by
   rcases hs1' with rfl | rfl<;>rcases hs2' with rfl | rfl<;>exact⟨by grind,by grind⟩
  have a3:-pw (m+1)<=s1/\s1<=pw (m+1):=by
   have:=ms.1;have:=ms.2;have:=Xa1 (m+1)
   rcases hs1' with rfl | rfl<;>exact⟨by grind,by grind⟩
  have a4:-(v.2-v.1)<=v2-v1/\v2-v1<=v.2-v.1:=by
   rcases hv1' with rfl | rfl<;>rcases hv2' with rfl | rfl<;>exact⟨by grind,by grind⟩
  have b1:=Xlc a1.1 a1.2 a2.1 a2.2
  have b2:=Xlc a3.1 a3.2 a4.1 a4.2
  grind
 have hPf:((Xbv v s).2-(Xbv v s).1)*pw f<=pw (m+2):=by
  have c1:=W2p hP (W2o hpf)
  have c2:=W2x hs2 (W2o hpm)
  have c3:=W2x wv (W2o (Xa1 (m+1)))
  rw[Xcs,Xcs] at *
  grind
 have d1:=Xwl (u.1+(Xbv v s).1) b'
 have d2:=Yak (u.2+(Xbv v s).2) b'
 have d3:=Xq9 (u.1+(Xbv v s).1) b'
 have d4:=Xs3 (u.2+(Xbv v s).2) b'
 have hε:=Xs4 (b:=b') (f:=f) (by omega)
 have hεp:=Xdp b'
 have hεe:=Xdq b'
 have d5:u.1+(Xbv v s).1-Rat.divInt 1 (2^b')<=dnQ (u.1+(Xbv v s).1) b':=by
  refine W1w ?_ (Xa1 b')
  grind
 have d6:upQ (u.2+(Xbv v s).2) b'<=u.2+(Xbv v s).2+Rat.divInt 1 (2^b'):=by
  refine W1w ?_ (Xa1 b')
  grind
 refine⟨?_,?_⟩
 . show dnQ (u.1+(Xbv v s).1) b'<=upQ (u.2+(Xbv v s).2) b'
   grind
 . show (upQ (u.2+(Xbv v s).2) b'-dnQ (u.1+(Xbv v s).1) b')*pw (f-(m+3))<=1
   refine W1w ?_ (Xa1 (m+3))
   rw[Rat.mul_assoc,<-Xme,show f-(m+3)+(m+3)=f by omega,Rat.one_mul]
   have g1:=W2p (show upQ (u.2+(Xbv v s).2) b'-dnQ (u.1+(Xbv v s).1) b'<=(u.2-u.1)+((Xbv v s).2-(Xbv v s).1)+2*Rat.divInt 1 (2^b') by grind) (W2o hpf)
   have g2:=Xg0 (m+1)
   rw[Xcs (m+1)] at hPf
   rw[Xcs (m+2),Xcs (m+1)]
   grind
theorem Ycp{u v r s:Rat×Rat}{b b' e m:Nat}(hu:Wid u e)(hv:Wid v e)(hr:Wid r e)(mv:Mg v m)(mr:Mg r m)(h0:0<=r.2)(R:RtOf r b s)(hb:e/2+1<=b)(hb':b<=b')(he:m+3<=e/2):
 Wid (rnd (Xhb u (Xbv v s)) b') (e/2-(m+3)):=Xpn (hu.mono (by omega)) (hv.mono (by omega)) hr (by omega) mv (R.mg mr h0) h0 R hb hb' he
theorem Xpo{u v s:Rat×Rat}{b' m j:Nat}(mu:Mg u m)(mv:Mg v m)(ms:0<=s.1/\s.2<=pw (j+1))(hs1:s.1<=s.2)(hv1:v.1<=v.2): Mg (rnd (Xhb u (Xbv v s)) b') (m+j+2):=by
 obtain⟨⟨v1,s1,hv1',hs1',e1⟩,v2,s2,hv2',hs2',e2⟩:=Xux v s
 have key:∀x y,(x=v.1\/x=v.2)->(y=s.1\/y=s.2)->-(pw m*pw (j+1))<=x*y/\x*y<=pw m*pw (j+1):=by
  intro x y hx hy
  have a1:-pw m<=x/\x<=pw m:=by
   have:=mv.1;have:=mv.2
   rcases hx with rfl | rfl<;>exact⟨by grind,by grind⟩
  have a3:-pw (j+1)<=y/\y<=pw (j+1):=by
   have:=ms.1;have:=ms.2;have:=Xa1 (j+1)
   rcases hy with rfl | rfl<;>exact⟨by grind,by grind⟩
  have b1:=Xlc a1.1 a1.2 a3.1 a3.2
  have b2:=Xlc (x:=-x) (show -pw m<=-x by grind) (show -x<=pw m by grind) a3.1 a3.2
  exact⟨by grind,b1⟩
 have k1:=(key _ _ hv1' hs1').1
 have k2:=(key _ _ hv2' hs2').2
 rw[<-e1] at k1
 rw[<-e2] at k2
 have hεe:=Xdq b'
 have hε1:=Xkj b'
 have d1:=Xwl (u.1+(Xbv v s).1) b'
 have d2:=Yak (u.2+(Xbv v s).2) b'
 have d5:u.1+(Xbv v s).1-Rat.divInt 1 (2^b')<=dnQ (u.1+(Xbv v s).1) b':=by
  refine W1w ?_ (Xa1 b')
  grind
 have d6:upQ (u.2+(Xbv v s).2) b'<=u.2+(Xbv v s).2+Rat.divInt 1 (2^b'):=by
  refine W1w ?_ (Xa1 b')
  grind
 have e3:pw (m+j+2)=2*(pw m*pw (j+1)):=by rw[<-Xme,<-Xcs];congr 1
 have e4:pw m+1<=pw m*pw (j+1):=by
  have h1:=Xg0 m
  have h3:=Xg0 j
  have h2:=W2x (show 2<=pw (j+1) by rw[Xcs];grind) (W2o (Xa1 m))
  grind
 have m1:=mu.1
 have m2:=mu.2
 refine⟨?_,?_⟩
 . show -pw (m+j+2)<=dnQ (u.1+(Xbv v s).1) b'
   rw[e3];grind
 . show upQ (u.2+(Xbv v s).2) b'<=pw (m+j+2)
   rw[e3];grind
theorem Ycr{u v r s:Rat×Rat}{b b' m:Nat}(mu:Mg u m)(mv:Mg v m)(mr:Mg r m)(h0:0<=r.2)(hs1:s.1<=s.2)(hv1:v.1<=v.2)(R:RtOf r b s): Mg (rnd (Xhb u (Xbv v s)) b') (2*m+2):=by
 rw[show 2*m+2=m+m+2 by omega];exact Xpo mu mv (R.mg mr h0) hs1 hv1
def mW(m:Nat): Nat->Nat
 | 0=>m
 | k+1=>2*mW m k+2
def eW(m b:Nat): Nat->Nat
 | 0=>2*b-2
 | k+1=>eW m b k/2-(mW m k+3)
theorem Yis(m b:Nat): ∀k,eW m b k<=2*b-2
 | 0=>W0a _
 | k+1=>by have:=Yis m b k;show eW m b k/2-(mW m k+3)<=_;omega
theorem Yhl{m:Nat}{x:Rat}(h:Qs m x): Mg (x,x) m:=by
 have h1:=h.n
 unfold Zs at h1
 have e:=Xlb x
 have hd:(1:Rat)<=(x.den:Rat):=by
  have:((1:Int):Rat)<=((x.den:Int):Rat):=W3h.2 (by have:=x.den_pos;omega)
  exact this
 have h2:((x.num:Int):Rat) <= pw m := W3h.2 (by have:(x.num.natAbs:Int) < ((2^m:Nat):Int) := by exact_mod_cast h1
                                                have e2:((2^m:Nat):Int)=2^m:=by simp
                                                omega)
 have h3:-pw m<=((x.num:Int):Rat):=by
  have h4:((-(2^m):Int):Rat) <= ((x.num:Int):Rat) := W3h.2 (by have:(x.num.natAbs:Int) < ((2^m:Nat):Int) := by exact_mod_cast h1
                                                               have e2:((2^m:Nat):Int)=2^m:=by simp
                                                               omega)
  rwa[W7n] at h4
 have hp:=Xa1 m
 refine⟨?_,?_⟩
 . show -pw m<=x
   by_cases h0:0<=x
   . grind
   . have:=Xjr (show 0<=-x by grind) (show 0<=(x.den:Rat)-1 by grind)
     grind
 . show x<=pw m
   by_cases h0:0<=x
   . have:=Xjr h0 (show 0<=(x.den:Rat)-1 by grind)
     grind
   . grind
def MgL(m:Nat)(l:List Rat): Prop:=∀x∈l,Qs m x
def MgT(m:Nat): (k:Nat)->Tw k->Prop
 | 0,_=>True
 | k+1,t=>MgT m k t.1/\MgL m (toL k t.2)
theorem Yax(r:Rat×Rat)(b:Nat): RtOf r b (rts r b):=⟨rfl,by have:=Xdp b;show _<=Xdm r.2 b+_;grind,W6o⟩
theorem Xwg{k:Nat}{t:Tw k}(h:Xb5 k t)(a:El k)(b:Nat): (enc k t a b).1<=(enc k t a b).2:=Ybn h (Xg4 h a b)
theorem Xmx: ∀ {k:Nat} {t:Tw k} {a:El k} {m:Nat} (b:Nat),Xb5 k t->MgT m k t->MgL m (toL k a)->Mg (enc k t a b) (mW m k)
 | 0,t,a,m,b,h,hT,ha=>Yhl (ha _ (W0g.2 rfl))
 | k+1,t,a,m,b,h,hT,ha=>by
  have hu:=Xmx (a:=a.1) b h.1 hT.1 λx hx=>ha x (W2v _ hx)
  have hv:=Xmx (a:=a.2) b h.1 hT.1 λx hx=>ha x (W1r _ hx)
  have hr:=Xmx b h.1 hT.1 hT.2
  have h0:0<=(enc k t.1 t.2 b).2:=by
   have h0:le k t.1 (rat k 0) t.2:=(Xif h.1).2 (by rw[h.2];decide)
   exact(Xbj h.1).1 (le_tr h.1 h0 (Xg4 h.1 t.2 b).2)
  show Mg (if (∀x∈toL k a.2,x=0) then enc k t.1 a.1 b else rnd (Xhb (enc k t.1 a.1 b) (Xbv (enc k t.1 a.2 b) (rts (enc k t.1 t.2 b) b))) b) (2*mW m k+2)
  split
  . exact hu.mono (by omega)
  . refine Ycr hu hv hr h0 ?_ (Xwg h.1 _ _) (Yax _ b)
    have hle:=Xwg h.1 t.2 b
    have hm:mx0 (enc k t.1 t.2 b).1<=(enc k t.1 t.2 b).2:=by unfold mx0;split<;>assumption
    have:=Xh5 (b:=b) (Xg3 _) hm
    have:=Xdp b
    show Xdm (mx0 (enc k t.1 t.2 b).1) b<=Xdm (enc k t.1 t.2 b).2 b+Rat.divInt 1 (2^b)
    grind
theorem Xq6: ∀ {k:Nat} {t:Tw k} {a:El k} {m b:Nat},Xb5 k t->MgT m k t->MgL m (toL k a)->0<eW m b k->Wid (enc k t a b) (eW m b k)
 | 0,t,a,m,b,h,hT,ha,he=>⟨W6o,(λ(x:Rat)=>(by grind:(x-x)*pw (eW m b 0)<=1)) a⟩
 | k+1,t,a,m,b,h,hT,ha,he=>by
  have he':0<eW m b k/2-(mW m k+3):=he
  have hle:=Yis m b k
  have hu:=Xq6 (a:=a.1) (m:=m) (b:=b) h.1 hT.1 (λx hx=>ha x (W2v _ hx)) (by omega)
  have hv:=Xq6 (a:=a.2) (m:=m) (b:=b) h.1 hT.1 (λx hx=>ha x (W1r _ hx)) (by omega)
  have hr:=Xq6 (m:=m) (b:=b) h.1 hT.1 hT.2 (by omega)
  have mv:=Xmx (a:=a.2) b h.1 hT.1 λx hx=>ha x (W1r _ hx)
  have mr:=Xmx b h.1 hT.1 hT.2
  have h0:0<=(enc k t.1 t.2 b).2:=by
   have h0:le k t.1 (rat k 0) t.2:=(Xif h.1).2 (by rw[h.2];decide)
   exact(Xbj h.1).1 (le_tr h.1 h0 (Xg4 h.1 t.2 b).2)
  show Wid (if (∀x∈toL k a.2,x=0) then enc k t.1 a.1 b else rnd (Xhb (enc k t.1 a.1 b) (Xbv (enc k t.1 a.2 b) (rts (enc k t.1 t.2 b) b))) b) (eW m b k/2-(mW m k+3))
  split
  . exact hu.mono (by omega)
  . exact Ycp hu hv hr mv mr h0 (Yax _ b) (by omega) (W0a _) (by omega)
end
section
theorem Xos{s b b':Nat}(h:b<=b'): ∀k,eB s b k<=eB s b' k
 | 0=>W0a _
 | k+1=>by have:=Xos (s:=s) h k;show 3*eB s b k+4*b+6<=3*eB s b' k+4*b'+6;omega
theorem Yks{x y:Rat}{b:Nat}: Xm4 (y-x) (Rat.divInt 1 (2^b))<=0↔(y-x)*pw b<=1:=by
 rw[Xlq]
 have h:=Xdq b
 constructor
 . intro h1
   have:=W2p (show y-x<=Rat.divInt 1 (2^b) by grind) (W2o (Xa1 b))
   rwa[h] at this
 . intro h1 h2
   have:=W4l (show 0<y-x-Rat.divInt 1 (2^b) by grind) (Xa1 b)
   grind
def Xdb(k:Nat)(t:Tw k)(a:El k)(z:Int): Prop:=le k t (rat k (z:Rat)) a/\sgn k t (add k a (neg k (rat k ((z+1:Int):Rat))))=-1
theorem Ybj{k:Nat}{t:Tw k}(h:Xb5 k t){a b:El k}: sgn k t (add k a (neg k b))=-1↔¬le k t b a:=by
 unfold le
 have:=(Xar h).tri (add k a (neg k b))
 omega
theorem Xdb.uniq{k:Nat}{t:Tw k}{a:El k}{z z':Int}(h:Xb5 k t)(i:Xdb k t a z)(j:Xdb k t a z'): z=z':=by
 have key:∀z z',Xdb k t a z->Xdb k t a z'->z<=z':=by
  intro z z' i j
  by_cases hz:z<=z'
  . exact hz
  . exact absurd (le_tr h ((Xbj h).2 (W3h.2 (show z'+1<=z by omega))) i.1) ((Ybj h).1 j.2)
 have:=key _ _ i j
 have:=key _ _ j i
 omega
theorem Xy9{k:Nat}{t:Tw k}{a:El k}{x y:Rat}(h:Xb5 k t)(i:inI k t a x y)(hw:Wid (x,y) 1): (sgn k t (add k a (neg k (rat k (y.floor:Rat))))<0->Xdb k t a (y.floor-1))/\(¬sgn k t (add k a (neg k (rat k (y.floor:Rat))))<0->Xdb k t a y.floor):=by
 have h1:=@Rat.floor_le y
 have h2:=@Rat.lt_floor y
 have h3:(y-x)*2<=1:=hw.2
 have e1:((1:Int):Rat)=1:=rfl
 have hup:sgn k t (add k a (neg k (rat k ((y.floor+1:Int):Rat))))=-1:=by
  rw[Ybj h]
  intro hl
  have:=(Xbj h).1 (le_tr h hl i.2)
  rw[W6b,e1] at this
  grind
 refine⟨λhn=>⟨le_tr h ((Xbj h).2 ?_) i.1,?_⟩,λhn=>⟨?_,hup⟩⟩
 . rw[Rat.intCast_sub,e1]
   grind
 . rw[show y.floor-1+1=y.floor by omega]
   have:=(Xar h).tri (add k a (neg k (rat k (y.floor:Rat))))
   omega
 . show 0<=_
   omega
noncomputable def rtb(p:Rat×Rat)(b:Nat): Rat×Rat:=(Xdm (mx0 p.1) b,Xto p.2 b)
noncomputable def bx: (k:Nat)->Tw k->El k->Nat->Rat×Rat
 | 0=>λ_ (x:Rat) _=>(x,x)
 | k+1=>λt a b=>rnd (Xhb (bx k t.1 a.1 b) (Xbv (bx k t.1 a.2 b) (rtb (bx k t.1 t.2 b) b))) (b+20)
theorem Xnv(x:Rat)(b:Nat): Xto x b*pw b=((Xtl (sq2 x b):Int):Rat):=by
 unfold Xto
 rw[W5f]
 have h:=Xa1 b
 show ((Xtl (sq2 x b):Int):Rat)/pw b*pw b=_
 rw[W4y (by grind)]
theorem Yct(x:Rat): (Xtl x=rtF x/\x<=((rtF x:Int):Rat)*((rtF x:Int):Rat))\/Xtl x=rtF x+1:=by
 unfold Xtl
 split
 . exact .inr rfl
 . rename_i h
   rw[W3r] at h
   exact .inl ⟨rfl,by grind⟩
theorem Xl6(x:Rat): ((rtF x:Int):Rat)<=((Xtl x:Int):Rat)/\((Xtl x:Int):Rat)<=((rtF x:Int):Rat)+1/\(0<=x->x<=((Xtl x:Int):Rat)*((Xtl x:Int):Rat)):=by
 have e1:((1:Int):Rat)=1:=rfl
 rcases Yct x with ⟨h,h2⟩ | h
 . rw[h];exact⟨W6o,by grind,λ_=>h2⟩
 . have e:((Xtl x:Int):Rat)=((rtF x:Int):Rat)+1:=by
    rw[h,<-e1,<-W6b];congr 1
   rw[e]
   exact⟨by grind,W6o,λh0=>W2o (Xt3 h0)⟩
theorem Xp3(r:Rat×Rat)(b:Nat): RtOf r b (rtb r b):=by
 have h:=Xl6 (sq2 r.2 b)
 have hp:=Xa1 b
 refine⟨rfl,?_,?_⟩
 . refine W1w ?_ hp
   rw[Xe6]
   show _<=Xto r.2 b*pw b
   rw[Xnv];exact h.1
 . refine W1w ?_ hp
   show Xto r.2 b*pw b<=_
   have e:=Xe6 r.2 b
   have e2:=Xdq b
   have e3:=Xnv r.2 b
   have h2:=h.2.1
   grind
theorem Xx6{x:Rat}{b:Nat}(h:0<=x): x<=Xto x b*Xto x b:=by
 have hp:=Xa1 b
 have hpp:=W4l hp hp
 refine W1w ?_ hpp
 have h1:=(Xl6 (sq2 x b)).2.2 (Xgy h)
 rw[<-Xnv] at h1
 have h3:sq2 x b=x*(pw b*pw b):=rfl
 rw[<-h3]
 have h4:Xto x b*Xto x b*(pw b*pw b)=Xto x b*pw b*(Xto x b*pw b):=by grind
 rw[h4];exact h1
theorem Yln{x:Rat}{b:Nat}: Xdm (mx0 x) b*Xdm (mx0 x) b<=x\/Xdm (mx0 x) b=0:=by
 have h1:=Xh4 (b:=b) (Xg3 x)
 by_cases h0:x<0
 . right
   have e:mx0 x=0:=if_pos h0
   rw[e] at h1 |-
   have h2:=Xc4 0 b
   by_cases h3:Xdm 0 b=0
   . exact h3
   . have:=W4l (show 0<Xdm 0 b by grind) (show 0<Xdm 0 b by grind)
     grind
 . left
   have e:mx0 x=x:=if_neg h0
   rw[e] at h1 |-
   exact h1
theorem Xl9{k:Nat}{t:Tw (k+1)}(h:Xb5 (k+1) t){x y:Rat}(i:inI k t.1 t.2 x y): 0<=y:=by
 have h0:le k t.1 (rat k 0) t.2:=(Xif h.1).2 (by rw[h.2];decide)
 exact(Xbj h.1).1 (le_tr h.1 h0 i.2)
theorem Ycs{k:Nat}{t:Tw (k+1)}(h:Xb5 (k+1) t){a:El (k+1)}{u v r s:Rat×Rat}{b b':Nat}(iu:inI k t.1 a.1 u.1 u.2)(iv:inI k t.1 a.2 v.1 v.2)(ir:inI k t.1 t.2 r.1 r.2)(R:RtOf r b s)(hs:r.2<=s.2*s.2):
 inI (k+1) t a (rnd (Xhb u (Xbv v s)) b').1 (rnd (Xhb u (Xbv v s)) b').2:=by
 have iu:=Xmn (t:=t) h.1 iu
 have iv:=Xmn (t:=t) h.1 iv
 have hr2:=Xl9 h ir
 have h0:0<=s.1:=by rw[R.lo];exact Xc4 _ _
 have h2:0<=s.2:=W5l (Xc4 _ _) R.l
 have is:=Xvo h ir (c:=s.1) (d:=s.2) h0 h2 (by rw[R.lo];exact Yln) hs
 have im:=Xvp h iv is h0 (Xih v s).1 (Xih v s).2.1 (Xii v s).2.2.1 (Xii v s).2.2.2
 have ia:=Xvq h iu im
 rw[<-Xq8 a] at ia
 exact Xqy h ia (Xq9 _ _) (Xs3 _ _)
theorem Xow{k:Nat}{t:Tw (k+1)}{a:El (k+1)}{b:Nat}: bx (k+1) t a b=rnd (Xhb (bx k t.1 a.1 b) (Xbv (bx k t.1 a.2 b) (rtb (bx k t.1 t.2 b) b))) (b+20):=rfl
theorem Xox: ∀ {k:Nat} {t:Tw k} (h:Xb5 k t) (a:El k) (b:Nat),inI k t a (bx k t a b).1 (bx k t a b).2
 | 0,t,h,a,b=>⟨(Xar h).le_rf (Xaw 0 t) a,(Xar h).le_rf (Xaw 0 t) a⟩
 | k+1,t,h,a,b=>by
  have hu:=Xox h.1 a.1 b
  have hv:=Xox h.1 a.2 b
  have hr:=Xox h.1 t.2 b
  have hs:(bx k t.1 t.2 b).2<=(rtb (bx k t.1 t.2 b) b).2*(rtb (bx k t.1 t.2 b) b).2:=Xx6 (Xl9 h hr)
  have R:=Xp3 (bx k t.1 t.2 b) b
  rw[Xow]
  generalize rtb (bx k t.1 t.2 b) b=s at *
  exact Ycs h hu hv hr R hs
theorem Yi8{k:Nat}{t:Tw k}(h:Xb5 k t)(a:El k)(b:Nat): (bx k t a b).1<=(bx k t a b).2:=Ybn h (Xox h a b)
theorem Ygp{r:Rat×Rat}{b:Nat}(h0:0<=r.2)(h:r.1<=r.2): (rtb r b).1<=(rtb r b).2:=by
 have hm:mx0 r.1<=r.2:=by unfold mx0;split<;>assumption
 exact W5l (Xh5 (b:=b) (Xg3 _) hm) (Xp3 r b).l
def bB(s b:Nat): Nat->Nat
 | 0=>s
 | k+1=>3*bB s b k+3*b+30
end
section
abbrev dI(p:Rat×Rat): D:=.st (.pr (dq p.1) (dq p.2))
theorem Yih{a b a' b':D}{g:Hp}{K:Hpl}(h1:a=a')(h2:b=b'): Fit g K (.d (.st (.pr a b))) (.d (.st (.pr a' b'))):=.eq (by rw[h1,h2])
abbrev zq: AV:=.st (.pr (.st (.pr (.b false) .nil)) (.st (.pr (.b false) .nil)))
abbrev zI: AV:=.st (.pr zq zq)
theorem Xom{x:Rat}{r:List Rat}{s:Nat}(hx:∀y∈x::r,Qs s y)(hs:s+3<=4398046511104)(hn:r.length<=1000): C0 255 [.d (dqs (x::r))] (·=.d (dI (Xu2 x r,Xu8 x r))):=by
 refine En Tryz.func255 λ_ _ _=>?_
 refine Dz rfl ?_
 refine Ix 0 rfl (u:=dq x) rfl ?_
 refine Ix 0 rfl (u:=dq x) rfl ?_
 refine Dp 1 (r.map dq) rfl rfl (by simp) rfl ?_
 refine Lo (λ(q:Nat×Rat×Rat)=>[(2,.ptr 2 0),(3,.ptr 3 0),(4,.ptr 4 0),(15,.d (dqs r)),(16,.d (.int .i64 (r.map dq).length)),(17,.d (.int .i64 q.1))]) (λq=>[(2,.var zI),(3,.var (.d (dq q.2.1))),(4,.var (.d (dq q.2.2)))]) (λq=>q.1<=r.length/\q.2.1=Xu2 x (r.take q.1)/\q.2.2=Xu8 x (r.take q.1)) (λq=>r.length-q.1) (0,x,x) [] rfl ⟨W0y _,rfl,rfl⟩ (λ(k,lo,hi) ⟨hk,hlo,hhi⟩=>?_)
 simp only at hk hlo hhi
 have qlo:Qs s lo:=hlo ▸ Xu1 (Xue hx k)
 have qhi:Qs s hi:=hhi ▸ Xu7 (Xue hx k)
 refine By rfl (λh=>?_) λh=>?_
 . have h:(k:Int)<((r.map dq).length:Nat):=h
   rw[lq] at h
   obtain⟨y,hy⟩:=qat (l:=r) (k:=k) (by omega)
   have qy:Qs s y:=hx y (W1c _ (W0i hy))
   have e:r.take (k+1)=r.take k++[y]:=by rw[W2f,hy];rfl
   have e1:Xu2 x (r.take (k+1))=lo2 lo y:=by rw[e,Xu0,hlo]
   have e2:Xu8 x (r.take (k+1))=hi2 hi y:=by rw[e,Xu6,hhi]
   have fin:∀lo' hi',lo'=lo2 lo y->hi'=hi2 hi y->k+1<=r.length/\lo'=Xu2 x (r.take (k+1))/\hi'=Xu8 x (r.take (k+1)):=λlo' hi' a b=>⟨by omega,by rw[a,e1],by rw[b,e2]⟩
   refine Ix k rfl (mp hy) ?_
   refine Ce rfl (Xbu qy qlo (by omega)) ?_
   refine By rfl (λh1=>?_) λh1=>?_
   . refine Ce rfl (Xbu qy qhi (by omega)) ?_
     refine By rfl (λh2=>?_) λh2=>?_
     . refine Ar (k+1:Nat) rfl ?_ (wr (show (k:Int)+1=((k+1:Nat):Int) by omega) (by simp only[inK];omega))
       exact Bk (k+1,y,y) [] rfl (fin y y (if_pos (Yen.1 h1)).symm (if_pos (Xwz.1 h2)).symm) (by show r.length-(k+1)<r.length-k;omega)
     . refine Ar (k+1:Nat) rfl ?_ (wr (show (k:Int)+1=((k+1:Nat):Int) by omega) (by simp only[inK];omega))
       exact Bk (k+1,y,hi) [] rfl (fin y hi (if_pos (Yen.1 h1)).symm (if_neg λh=>h2 (Xwz.2 h)).symm) (by show r.length-(k+1)<r.length-k;omega)
   . refine Ce rfl (Xbu qy qhi (by omega)) ?_
     refine By rfl (λh2=>?_) λh2=>?_
     . refine Ar (k+1:Nat) rfl ?_ (wr (show (k:Int)+1=((k+1:Nat):Int) by omega) (by simp only[inK];omega))
       exact Bk (k+1,lo,y) [] rfl (fin lo y (if_neg λh=>h1 (Yen.2 h)).symm (if_pos (Xwz.1 h2)).symm) (by show r.length-(k+1)<r.length-k;omega)
     . refine Ar (k+1:Nat) rfl ?_ (wr (show (k:Int)+1=((k+1:Nat):Int) by omega) (by simp only[inK];omega))
       exact Bk (k+1,lo,hi) [] rfl (fin lo hi (if_neg λh=>h1 (Yen.2 h)).symm (if_neg λh=>h2 (Xwz.2 h)).symm) (by show r.length-(k+1)<r.length-k;omega)
 . have h:¬(k:Int)<((r.map dq).length:Nat):=h
   rw[lq] at h
   rw[W0b (by omega)] at hlo hhi
   refine Ce rfl (Xat (z:=0) (by decide)) ?_
   refine Dw rfl ?_
   refine Ce rfl (Xdt (y:=0) qlo qs0 (by omega)) ?_
   refine Ce rfl (Xdt (y:=0) qhi qs0 (by omega)) ?_
   exact R1 rfl (Yih (by rw[W7a,hlo]) (by rw[W7a,hhi]))
section
variable{p q:Rat×Rat}{s t:Nat}
theorem Xdh{x:Rat}(hx:Qs s x)(hs:s+3<=4398046511104): C0 301 [.d (dq x)] (·=.d (dI (x,x))):=by
 have e1:Xu2 x [x]=x:=by show lo2 x x=x;unfold lo2;split<;>rfl
 have e2:Xu8 x [x]=x:=by show hi2 x x=x;unfold hi2;split<;>rfl
 have:=Xom (x:=x) (r:=[x]) (s:=s) (λy hy=>by simp at hy;rw[hy];exact hx) hs (by simp)
 rw[e1,e2] at this
 refine En Tryz.func301 λ_ _ _=>?_
 refine Ce rfl this ?_
 exact R1 rfl (.rf rfl)
theorem Xf4(hp:Q2 s p)(hs:2*s+1<=4398046511104): C0 106 [.d (dI p)] (·=.d (dq (p.2-p.1))):=by
 refine En Tryz.func106 λ_ _ _=>?_
 refine Ce rfl (Xn3 hp.2 hp.1 (by omega)) ?_
 exact R1 rfl (.rf rfl)
theorem Xfd(hp:Q2 s p)(hq:Q2 t q)(hs:s+t+1<=4398046511104): C0 178 [.d (dI p),.d (dI q)] (·=.d (dI (Xhb p q))):=by
 refine En Tryz.func178 λ_ _ _=>?_
 refine Dw rfl ?_
 refine Ce rfl (Xdt hp.1 hq.1 (by omega)) ?_
 refine Ce rfl (Xdt hp.2 hq.2 (by omega)) ?_
 exact R1 rfl (Yih rfl rfl)
theorem Xfc(hp:Q2 s p)(hq:Q2 t q)(hs:s+t+3<=4398046511104): C0 179 [.d (dI p),.d (dI q)] (·=.d (dI (Xbv p q))):=by
 have hh:=Xom (x:=p.1*q.1) (r:=[p.1*q.2,p.2*q.1,p.2*q.2]) (s:=s+t) (λy hy=>by
  simp only[W1n,List.not_mem_nil,or_false] at hy
  rcases hy with rfl | rfl | rfl | rfl
  . exact hp.1.mul hq.1
  . exact hp.1.mul hq.2
  . exact hp.2.mul hq.1
  . exact hp.2.mul hq.2) hs (by simp)
 refine En Tryz.func179 λ_ _ _=>?_
 refine Dw rfl ?_
 refine Ce rfl (Xea hp.1 hq.1 (by omega)) ?_
 refine Ce rfl (Xea hp.1 hq.2 (by omega)) ?_
 refine Ce rfl (Xea hp.2 hq.1 (by omega)) ?_
 refine Ce rfl (Xea hp.2 hq.2 (by omega)) ?_
 refine Ce rfl hh ?_
 exact R1 rfl (.rf rfl)
end
theorem Yiw{n m r:Nat}(hr:n/m=r)(hm:0<m)(hn:n<9223372036854775808): arB .quo .i64 n m r:=show _/\_ from⟨by omega,by
 rw[show Int.tdiv (n:Int) (m:Int)=((n/m:Nat):Int) from rfl,hr]
 have:=W3j n m
 exact wI (by omega)⟩
theorem Xct{n:Nat}(hn:n<=8796093022200): C0 250 [.d (.int .i64 n)] (·=.d (dz (2^n:Int))):=by
 have e:(2^n:Int)=((2^n:Nat):Int):=by simp
 refine En Tryz.func250 λ_ _ _=>?_
 refine Ar (n/32:Nat) rfl ?_ (Yiw (m:=32) rfl (by decide) (by omega))
 refine Ar (n/32+1:Nat) rfl ?_
 refine Mk (n/32+1) rfl (by omega) ?_
 refine Ar (n/32:Nat) rfl ?_ (Yiw (m:=32) rfl (by decide) (by omega))
 refine Ar (n%32:Nat) rfl ?_ (show _/\_ from⟨by decide,Xrq n 32⟩)
 refine Ar (2^(n%32):Nat) rfl ?_ (Xfu (W1q _ (by decide)))
 refine Eo (n/32) rfl (by omega) ?_
 refine Sto rfl (by simp) rfl ?_
 refine R1 rfl (.sd (.pd (.bd (by rw[e];exact(decide_eq_false (by have:=Int.pow_pos (n:=2) (m:=n) (by decide);omega)).symm)) (.own rfl (by simp) ?_)))
 rw[e,W1f,Xlp,W1d,W0b (by simp),<-ms,W2d]
 rfl
theorem Xb3(x:Rat): (x.den:Int)≠0:=by have:=x.den_nz;omega
section
variable{x:Rat}{s b:Nat}
theorem Xwi(hx:Qs s x)(hb:b<=1099511627776)(hs:s<=1099511627776): C0 342 [.d (dq x),.d (.int .i64 b)] (·=.d (dq (dnQ x b))):=by
 have hp:=hx.mul (Xn5 b)
 have h2:Zs (b+1) (2^b:Int):=Zs.two (W0a _)
 have hn2:=(hx.n.mul h2).len (by omega)
 have l1:=hx.n.len (by omega)
 have l2:=h2.len (by omega)
 have l3:=hx.d.len (by omega)
 have hm:=Make_ok (p:=s+b+1) (a:=(x*pw b).floor) (b:=2^b) ((Zs.floor hp).mono (by omega)) (h2.mono (by omega)) (by omega) (Xfr b)
 have hd:=DivMod_ok (a:=x.num*2^b) (b:=x.den) (by omega) (by omega) (Xb3 x)
 rw[Xhn] at hd
 refine En Tryz.func342 λ_ _ _=>?_
 refine Ce rfl (Xct (n:=b) (by omega)) ?_
 refine Dz rfl ?_
 refine Ce rfl (Mul_ok (by omega) (by omega)) ?_
 refine Ce rfl hd ?_
 refine Ce rfl hm ?_
 exact R1 rfl (.rf rfl)
theorem Yku(hx:Qs s x)(hb:b<=1099511627776)(hs:s<=1099511627776): C0 343 [.d (dq x),.d (.int .i64 b)] (·=.d (dq (upQ x b))):=by
 refine En Tryz.func343 λ_ _ _=>?_
 refine Ce rfl (Xfb hx (by omega)) ?_
 refine Ce rfl (Xwi hx.neg hb hs) ?_
 refine Ce rfl (Xfb (Xwk hx.neg b) (by omega)) ?_
 exact R1 rfl (.rf rfl)
theorem Xyd{p:Rat×Rat}(hp:Q2 s p)(hb:b<=1099511627776)(hs:s<=1099511627776): C0 302 [.d (dI p),.d (.int .i64 b)] (·=.d (dI (rnd p b))):=by
 refine En Tryz.func302 λ_ _ _=>?_
 refine Dw rfl ?_
 refine Ce rfl (Xwi hp.1 hb hs) ?_
 refine Ce rfl (Yku hp.2 hb hs) ?_
 exact R1 rfl (Yih rfl rfl)
theorem Xc1(hx:Qs s x)(hx0:0<=x)(hb:b<=1099511627776)(hs:s<=1099511627776): C0 344 [.d (dq x),.d (.int .i64 b)] (·=.d (dq (Xdm x b))):=by
 have h2:Zs (2*b+1) (2^(2*b):Int):=Zs.two (W0a _)
 have hn2:=(hx.n.mul h2).len (by omega)
 have qx:=Yap (b:=b) hx
 have nx:=Xgy (b:=b) hx0
 have zx:=Yay qx nx
 have fx:=Zs.floor qx
 rw[Xeg nx] at fx
 have lx:=Ydt (show (sq2 x b).floor.toNat<_ from fx)
 have l1:=hx.n.len (by omega)
 have l2:=h2.len (by omega)
 have l3:=hx.d.len (by omega)
 have hd:=DivMod_ok (a:=x.num*2^(2*b)) (b:=x.den) (by omega) (by omega) (Xb3 x)
 rw[Xx5 b hx0] at hd
 refine En Tryz.func344 λ_ _ _=>?_
 refine Dz rfl ?_
 refine Ar (2*b:Nat) rfl ?_
 refine Ce rfl (Xct (n:=2*b) (by omega)) ?_
 refine Ce rfl (Mul_ok (by omega) (by omega)) ?_
 refine Ce rfl hd ?_
 refine Ce rfl (Sqrt_ok (a:=(sq2 x b).floor.toNat) (by omega)) ?_
 refine Dz rfl ?_
 refine Ce rfl (Xct (n:=b) (by omega)) ?_
 refine Ce rfl (Make_ok (p:=s+(2*b+2)) (a:=(rtF (sq2 x b):Int)) (b:=2^b) zx (Zs.two (by omega)) (by omega) (Xfr b)) ?_
 exact R1 rfl (.rf rfl)
theorem Xye{p:Rat×Rat}(hp:Q2 s p)(hp0:0<=p.2)(hb:b<=1099511627776)(hs1:1<=s)(hs:s<=1099511627776): C0 303 [.d (dI p),.d (.int .i64 b)] (·=.d (dI (rts p b))):=by
 have hm:=Ybh hp.1 hs1
 have hmk:=Make_ok (p:=b+1) (a:=1) (b:=2^b) (Zs.one (by omega)) (Zs.two (W0a _)) (by omega) (Xfr b)
 refine En Tryz.func303 λ_ _ _=>?_
 refine Ce rfl (Xfw hp.1 (by omega)) ?_
 refine By rfl (λh=>?_) λh=>?_
 . have e:mx0 p.1=0:=if_pos (Yi2.1 h)
   rw[e] at hm
   refine Ce rfl (Xat (z:=0) (by decide)) ?_
   refine Ce rfl (FromInt_ok (z:=1) (by decide)) ?_
   refine Ce rfl (Xct (n:=b) (by omega)) ?_
   refine Ce rfl hmk ?_
   refine Dw rfl ?_
   refine Ce rfl (Xc1 (x:=0) hm W6o hb hs) ?_
   refine Ce rfl (Xc1 hp.2 hp0 hb hs) ?_
   refine Ce rfl (Xdt (Xku hp.2 hp0 b) (Xhw b) (by omega)) ?_
   exact R1 rfl (Yih (by show dq _=dq (Xdm (mx0 p.1) b);rw[e]) rfl)
 . have e:mx0 p.1=p.1:=if_neg (λe=>h (Yi2.2 e))
   refine Ce rfl (FromInt_ok (z:=1) (by decide)) ?_
   refine Ce rfl (Xct (n:=b) (by omega)) ?_
   refine Ce rfl hmk ?_
   refine Dw rfl ?_
   refine Ce rfl (Xc1 hp.1 (by rw[<-e];exact Xg3 _) hb hs) ?_
   refine Ce rfl (Xc1 hp.2 hp0 hb hs) ?_
   refine Ce rfl (Xdt (Xku hp.2 hp0 b) (Xhw b) (by omega)) ?_
   exact R1 rfl (Yih (by show dq _=dq (Xdm (mx0 p.1) b);rw[e]) rfl)
end
theorem Xsd{k:Nat}: ∀ {s b:Nat} {t:Tw k} {a:Tow.El k},Xb5 k t->TS s k t->Sz s (toL k a)->1<=s->k<=16->eB s b k<=274877906944->b<=274877906944->C0 251 [.d (dt t),.d (de a),.d (.int .i64 b)] (·=.d (dI (enc k t a b))):=by
 induction k with
 | zero =>
  intro s b t a hR hT ha hs1 hk hs hb
  have hs:s<=274877906944:=hs
  have key:∀y:Rat,Qs s y->C0 251 [.d (dts []),.d (dqs [y]),.d (.int .i64 b)] (·=.d (dI (y,y))):=λy hy=>by
   refine En Tryz.func251 λ_ _ _=>?_
   refine Yes rfl rfl ?_
   refine Ix 0 rfl (u:=dq y) rfl ?_
   refine Ce rfl (Xdh hy (by omega)) ?_
   exact R1 rfl (.rf rfl)
  exact key a (ha.qs (W0g.2 rfl))
 | succ k ih =>
  intro s b t a hR hT ha hs1 hk hs hb
  have hx:Sz s (toL k a.1):=Sz.left ha
  have hy:Sz s (toL k a.2):=Sz.right ha
  have hge:=Xzk s b k
  have hs':3*eB s b k+4*b+6<=274877906944:=hs
  have qu:=Xiv (b:=b) hR.1 hT.1 hx hs1
  have qv:=Xiv (b:=b) hR.1 hT.1 hy hs1
  have qr:=Xiv (b:=b) hR.1 hT.1 hT.2 hs1
  have hhi:=Yby hR b
  have qs:=Yaw (b:=b) qr hhi (by omega)
  have qm:=Xcb qv qs
  have qa:=Xlv qu qm
  have hlen:=Xab k
  have hp:=p16 hk
  refine En Tryz.func251 λ_ _ _=>?_
  refine No rfl (by show ¬((((toT k t.1++[toL k t.2]).map dqs).length:Nat):Int)=0;rw[twL];omega) ?_
  refine Ar k rfl ?_ (tw1 t (by omega))
  refine Ar (2^k:Nat) rfl ?_ (hvq a (by omega))
  refine Tk k ((toT k t.1).map dqs) rfl rfl (Xi7 t) (twT t) ?_
  refine Tk (2^k) ((toL k a.1).map dq) rfl rfl (Xcd a) (hvT a) ?_
  refine Ce rfl (ih hR.1 hT.1 hx hs1 (by omega) (by omega) hb) ?_
  refine Dp (2^k) ((toL k a.2).map dq) rfl rfl (Xcd a) (hvD a) ?_
  refine Ce rfl (Xem (l:=toL k a.2) hy.ps (by omega) (by rw[hlen];have:=p16 (show k<=16 by omega);omega)) ?_
  refine By rfl (λh=>?_) λh=>?_
  . have he:enc (k+1) t a b=enc k t.1 a.1 b:=if_pos h
    exact R1 rfl (by rw[he];exact .rf rfl)
  . have he:enc (k+1) t a b=rnd (Xhb (enc k t.1 a.1 b) (Xbv (enc k t.1 a.2 b) (rts (enc k t.1 t.2 b) b))) b:=if_neg h
    refine Dz rfl ?_
    refine Dp (2^k) ((toL k a.2).map dq) rfl rfl (Xcd a) (hvD a) ?_
    refine Ce rfl (ih hR.1 hT.1 hy hs1 (by omega) (by omega) hb) ?_
    refine Ix k rfl (twU t) ?_
    refine Ce rfl (ih hR.1 hT.1 hT.2 hs1 (by omega) (by omega) hb) ?_
    refine Dw rfl ?_
    refine Ce rfl (Xye qr hhi (by omega) (by omega) (by omega)) ?_
    refine Ce rfl (Xfc qv qs (by omega)) ?_
    refine Ce rfl (Xfd qu qm (by omega)) ?_
    refine Ce rfl (Xyd qa (by omega) (by omega)) ?_
    rw[he]
    exact R1 rfl (.rf rfl)
theorem Xgx{k:Nat}{t:Tw k}{a:Tow.El k}{bits P s:Nat}(hR:Xb5 k t)(hw:∀b,P<=b->Wid (enc k t a b) bits)(hT:TS s k t)(ha:Sz s (toL k a))(hs1:1<=s)(hk:k<=16)(hv:vB s k s<=4398046511104)(hb:bits<=1024)(hP:P<=1000000000)(he:eB s (2*(P+bits+16)) k<=274877906944):
 C0 176 [.d (dt t),.d (de a),.d (.int .i64 bits)] λv=>∃p:Rat×Rat,v=.d (dI p)/\inI k t a p.1 p.2/\Wid p bits/\Q2 (eB s (2*(P+bits+16)) k) p:=by
 have hsb:s<=4398046511104:=W0h (Xdo k s) hv
 obtain⟨B,hB⟩:∃B,B=eB s (2*(P+bits+16)) k:=⟨_,rfl⟩
 rw[<-hB] at he |-
 have hq:∀b,b<=2*(P+bits+16)->Q2 B (enc k t a b):=λb hb=>(Xiv hR hT ha hs1).mono (by rw[hB];exact Xos hb k)
 refine En Tryz.func176 λ_ _ _=>?_
 refine No rfl (by omega) ?_
 refine No rfl (by omega) ?_
 refine Ce rfl (Xgr (l:=[toL k a]) (s:=s) hT hR hk hv hsb (λx hx=>⟨a,W0g.1 hx,ha⟩) (by simp) hsb) ?_
 refine No rfl (by simp) ?_
 refine Ce rfl (FromInt_ok (z:=1) (by decide)) ?_
 refine Ce rfl (Xct (n:=bits) (by omega)) ?_
 refine Ce rfl (Make_ok (p:=bits+1) (a:=1) (b:=2^bits) (Zs.one (by omega)) (Zs.two (W0a _)) (by omega) (Xfr bits)) ?_
 refine Ar (bits+16:Nat) rfl ?_
 refine Lo (λ(g:Nat)=>[(0,.d (dt t)),(1,.d (de a)),(6,.ptr 6 0),(7,.ptr 7 0),(9,.d (.int .i64 g))]) (λ_=>[(6,.var (.st (.pr (.st (.pr (.st (.pr (.b false) .nil)) (.st (.pr (.b false) .nil)))) (.st (.pr (.st (.pr (.b false) .nil)) (.st (.pr (.b false) .nil))))))),(7,.var (.d (dq (Rat.divInt 1 (2^bits)))))]) (λg=>1<=g/\g<=2*(P+bits+16)) (λg=>2*(P+bits+16)-g) (bits+16) [] rfl ⟨by omega,by omega⟩ (λg ⟨hg1,hg⟩=>?_)
 have hge:=hq g hg
 have heB:eB s g k<=274877906944:=W0h (Xos hg k) (by omega)
 refine Ce rfl (Xsd hR hT ha hs1 hk heB (by omega)) ?_
 refine Dw rfl ?_
 refine Ce rfl (Xf4 hge (by omega)) ?_
 refine Ce rfl (Xbu (by rw[W5y];exact hge.2.add hge.1.neg) (Xhw bits) (by omega)) ?_
 refine By rfl (λh=>?_) λh=>?_
 . exact Rt rfl (.one (.rf rfl) rfl rfl) ⟨_,rfl,Xg4 hR a g,⟨Xwg hR a g,Yks.1 h⟩,hge⟩
 . have hgP:g<P:=by
    by_cases hgP:g<P
    . exact hgP
    . exact absurd (Yks.2 (hw g (by omega)).2) h
   refine Ar (2*g:Nat) rfl ?_
   exact Bk (2*g) [] rfl ⟨by omega,by omega⟩ (by show 2*(P+bits+16)-2*g<2*(P+bits+16)-g;omega)
end
end Go.Proofs.YtgpipgjbkggjpaaGreatDoor
namespace Go.Proofs.YtgpipgjbkggjpaaGreatDoor.P20
open Go Go.Vm Go.Num Go.Tow Go.Proofs.YtgpipgjbkggjpaaGreatDoor
section
variable{s b:Nat}{x:Rat}
def Yfe(p q:Rat×Rat): Rat×Rat:=(p.1-q.2,p.2-q.1)
theorem Xvu{n:Nat}(hn:n<=8796093022200): C0 355 [.d (.int .i64 n)] (·=.d (dz (2^n:Int))):=by
 have e:(2^n:Int)=((2^n:Nat):Int):=by simp
 refine En Tryz.func355 λ_ _ _=>?_
 refine Ar (n/32:Nat) rfl ?_ (Yiw (m:=32) rfl (by decide) (by omega))
 refine Ar (n/32+1:Nat) rfl ?_
 refine Mk (n/32+1) rfl (by omega) ?_
 refine Ar (n/32:Nat) rfl ?_ (Yiw (m:=32) rfl (by decide) (by omega))
 refine Ar (n%32:Nat) rfl ?_ (show _/\_ from⟨by decide,Xrq n 32⟩)
 refine Ar (2^(n%32):Nat) rfl ?_ (Xfu (W1q _ (by decide)))
 refine Eo (n/32) rfl (by omega) ?_
 refine Sto rfl (by simp) rfl ?_
 refine R1 rfl (.sd (.pd (.bd (by rw[e];exact(decide_eq_false (Int.not_lt.2 (W4v _))).symm)) (.own rfl (by simp) ?_)))
 rw[e,W1f,Xlp,W1d,W0b (by simp),<-ms,W2d]
 rfl
theorem Xvt{p q:Rat×Rat}{t:Nat}(hp:Q2 s p)(hq:Q2 t q)(hs:s+t+1<=4398046511104): C0 307 [.d (dI p),.d (dI q)] (·=.d (dI (Yfe p q))):=by
 refine En Tryz.func307 λ_ _ _=>?_
 refine Dw rfl ?_
 refine Ce rfl (Xn3 hp.1 hq.2 (by omega)) ?_
 refine Ce rfl (Xn3 hp.2 hq.1 (by omega)) ?_
 exact R0
theorem Xhl(hx:Qs s x)(hb:b<=1099511627776)(hs:s<=1099511627776): C0 357 [.d (dq x),.d (dz (2^b:Int))] (·=.d (dz (x*pw b).floor)):=by
 have h2:Zs (b+1) (2^b:Int):=Zs.two (W0a _)
 have hn2:=(hx.n.mul h2).len (by omega)
 have l1:=hx.n.len (by omega)
 have l2:=h2.len (by omega)
 have l3:=hx.d.len (by omega)
 have hd:=DivMod_ok (a:=x.num*2^b) (b:=x.den) (by omega) (by omega) (Xb3 x)
 rw[Xhn] at hd
 refine En Tryz.func357 λ_ _ _=>?_
 refine Dz rfl ?_
 refine Ce rfl (Mul_ok (by omega) (by omega)) ?_
 refine Ce rfl hd ?_
 exact R0
theorem Yep(hx:Qs s x)(hb:b<=1099511627776)(hs:s<=1099511627776): C0 358 [.d (dq x),.d (dz (2^b:Int))] (·=.d (dz (-((-x)*pw b).floor))):=by
 have hf:=Zs.floor (hx.neg.mul (Xn5 b))
 have hl:=hf.len (by omega)
 refine En Tryz.func358 λ_ _ _=>?_
 refine Dw rfl ?_
 refine Ce rfl (Xfb hx (by omega)) ?_
 refine Ce rfl (Xhl hx.neg hb hs) ?_
 refine Ce rfl (Neg_ok (by omega)) ?_
 exact R0
theorem Xui{n:Int}{p:Nat}(hn:Zs p n)(hp:p<=1099511627776)(hb:b<=1099511627776): C0 356 [.d (dz n),.d (dz (2^b:Int))] (·=.d (dq (Rat.divInt n (2^b)))):=by
 refine En Tryz.func356 λ_ _ _=>?_
 refine Ce rfl (Make_ok (p:=p+b+1) (hn.mono (by omega)) (Zs.two (by omega)) (by omega) (Xfr b)) ?_
 exact R0
theorem Yfz{x:Rat}{b:Nat}: upQ x b=Rat.divInt (-((-x)*pw b).floor) (2^b):=by
 unfold upQ dnQ
 rw[Rat.neg_divInt]
theorem Xee{p:Rat×Rat}(hp:Q2 s p)(hb:b<=4096)(hs:s<=1099511627): C0 347 [.d (dI p),.d (.int .i64 b)] (·=.d (dI (rnd p b))):=by
 have h1:=Zs.floor (hp.1.mul (Xn5 b))
 have h2:=(Zs.floor (hp.2.neg.mul (Xn5 b))).neg
 refine En Tryz.func347 λ_ _ _=>?_
 refine No rfl (by omega) ?_
 refine No rfl (by omega) ?_
 refine Ce rfl (Xvu (n:=b) (by omega)) ?_
 refine Dw rfl ?_
 refine Ce rfl (Xhl hp.1 (by omega) (by omega)) ?_
 refine Ce rfl (Xui h1 (by omega) (by omega)) ?_
 refine Ce rfl (Yep hp.2 (by omega) (by omega)) ?_
 refine Ce rfl (Xui h2 (by omega) (by omega)) ?_
 rw[<-Yfz]
 exact R0
def Xb9(p q:Rat×Rat): Rat×Rat:=(hi2 p.1 q.1,lo2 p.2 q.2)
theorem Xy5{p q:Rat×Rat}(hp:Q2 s p)(hq:Q2 s q)(hs:s<=1099511627)(h:¬(Xb9 p q).2<(Xb9 p q).1): C0 305 [.d (dI p),.d (dI q)] (·=.tup (.pr (.d (dI (Xb9 p q))) (.b true))):=by
 have q1:Qs s (Xb9 p q).1:=Ybr hp.1 hq.1
 have q2:Qs s (Xb9 p q).2:=Ybk hp.2 hq.2
 have hh:=Xom (x:=(Xb9 p q).1) (r:=[(Xb9 p q).2]) (s:=s) (λy hy=>by
  simp only[W1n,List.not_mem_nil,or_false] at hy
  rcases hy with rfl | rfl
  . exact q1
  . exact q2) (by omega) (by simp)
 have e1:Xu2 (Xb9 p q).1 [(Xb9 p q).2]=(Xb9 p q).1:=if_neg h
 have e2:Xu8 (Xb9 p q).1 [(Xb9 p q).2]=(Xb9 p q).2:=by
  show (if (Xb9 p q).1<(Xb9 p q).2 then (Xb9 p q).2 else (Xb9 p q).1)=_
  split
  . rfl
  . grind
 rw[e1,e2] at hh
 have fin:∀ {l u:Rat},l=(Xb9 p q).1->u=(Xb9 p q).2->C0 255 [.d (dqs [l,u])] (·=.d (dI (Xb9 p q))):=λe f=>by rw[e,f];exact hh
 have nlt:∀ {l u:Rat},l=(Xb9 p q).1->u=(Xb9 p q).2->¬Xm4 l u>0:=λe f=>by rw[e,f,Xwz];exact h
 refine En Tryz.func305 λ_ _ _=>?_
 refine Dz rfl ?_
 refine Ce rfl (Xbu hq.1 hp.1 (by omega)) ?_
 refine By rfl (λh1=>?_) λh1=>?_
 . have e1:q.1=(Xb9 p q).1:=(if_pos (Xwz.1 h1)).symm
   refine Ce rfl (Xbu hq.2 hp.2 (by omega)) ?_
   refine By rfl (λh2=>?_) λh2=>?_
   . have e2:q.2=(Xb9 p q).2:=(if_pos (Yen.1 h2)).symm
     refine Ce rfl (Xbu (x:=q.1) (y:=q.2) hq.1 hq.2 (by omega)) ?_
     refine No rfl (nlt e1 e2) ?_
     refine Ce rfl (fin e1 e2) ?_
     exact RTt rfl (.cons (.rf rfl) (.one (.rf rfl) (λ_ _ e=>by cases e) (λ_ _ e=>by cases e)))
   . have e2:p.2=(Xb9 p q).2:=(if_neg λh=>h2 (Yen.2 h)).symm
     refine Ce rfl (Xbu (x:=q.1) (y:=p.2) hq.1 hp.2 (by omega)) ?_
     refine No rfl (nlt e1 e2) ?_
     refine Ce rfl (fin e1 e2) ?_
     exact RTt rfl (.cons (.rf rfl) (.one (.rf rfl) (λ_ _ e=>by cases e) (λ_ _ e=>by cases e)))
 . have e1:p.1=(Xb9 p q).1:=(if_neg λh=>h1 (Xwz.2 h)).symm
   refine Ce rfl (Xbu hq.2 hp.2 (by omega)) ?_
   refine By rfl (λh2=>?_) λh2=>?_
   . have e2:q.2=(Xb9 p q).2:=(if_pos (Yen.1 h2)).symm
     refine Ce rfl (Xbu (x:=p.1) (y:=q.2) hp.1 hq.2 (by omega)) ?_
     refine No rfl (nlt e1 e2) ?_
     refine Ce rfl (fin e1 e2) ?_
     exact RTt rfl (.cons (.rf rfl) (.one (.rf rfl) (λ_ _ e=>by cases e) (λ_ _ e=>by cases e)))
   . have e2:p.2=(Xb9 p q).2:=(if_neg λh=>h2 (Yen.2 h)).symm
     refine Ce rfl (Xbu (x:=p.1) (y:=p.2) hp.1 hp.2 (by omega)) ?_
     refine No rfl (nlt e1 e2) ?_
     refine Ce rfl (fin e1 e2) ?_
     exact RTt rfl (.cons (.rf rfl) (.one (.rf rfl) (λ_ _ e=>by cases e) (λ_ _ e=>by cases e)))
end
section
def sm(p:Rat×Rat): Bool:=Nat.ble (p.1.num.natAbs+1) (2^250)&&Nat.ble (p.1.den+1) (2^250)&&Nat.ble (p.2.num.natAbs+1) (2^250)&&Nat.ble (p.2.den+1) (2^250)
theorem Xnm{p:Rat×Rat}(h:sm p=true): Q2 250 p:=by
 unfold sm at h
 simp only[W0f] at h
 obtain⟨⟨⟨h1,h2⟩,h3⟩,h4⟩:=h
 have h1:=W1e h1
 have h2:=W1e h2
 have h3:=W1e h3
 have h4:=W1e h4
 exact⟨⟨h1,by show ((p.1.den:Int)).natAbs<_;rw[W1f];exact h2⟩,⟨h3,by show ((p.2.den:Int)).natAbs<_;rw[W1f];exact h4⟩⟩
def Xlz(b k:Nat)(P:Rat×Rat): Rat×Rat:=rnd (Xbv P (Rat.divInt 1 (2*k+1:Nat),Rat.divInt 1 (2*k+1:Nat))) b
def Yjk(k:Nat)(S T:Rat×Rat): Rat×Rat:=if k%2=0 then Xhb S T else Yfe S T
def Ykg(b:Nat)(Q:Rat×Rat): Nat->Nat->Rat×Rat->Rat×Rat->Option (Rat×Rat)
 | 0,_,_,_=>none
 | n+1,k,P,S=>if sm P&&sm (Xlz b k P)&&sm S&&sm (Yjk k S (Xlz b k P)) then
  (if 2*k+1>b then some (Xhb (Yjk k S (Xlz b k P)) (-(Xlz b k P).2,(Xlz b k P).2)) else Ykg b Q n (k+1) (rnd (Xbv P Q) b) (Yjk k S (Xlz b k P))) else none
def Ye1(z:Rat)(b:Nat): Rat×Rat:=rnd (z,z) b
def Yfm(z:Rat)(b:Nat): Rat×Rat:=rnd (Xbv (Ye1 z b) (Ye1 z b)) b
def Xxt(z:Rat)(b:Nat): Option (Rat×Rat):=if sm (z,z)&&sm (Ye1 z b)&&sm (Yfm z b) then Ykg b (Yfm z b) 150 0 (Ye1 z b) (0,0) else none
theorem Yn8{a m:Nat}(hm:0<m): arB .rem .i64 a m (a%m:Nat):=R9.remN hm
theorem Ylj{a b:Nat}(h:a*b<9223372036854775808): arB .mul .i64 a b (a*b:Nat):=by
 show IntKind.i64.wrap ((a:Int)*b)=((a*b:Nat):Int)
 rw[W2n]
 exact wI (by rw[<-W2n];omega)
theorem Xv5{k:Nat}(hk:k<=1000): Qs 40 (Rat.divInt 1 (2*k+1:Nat)):=Qs.divInt (Zs.one (by decide)) (show (((2*k+1:Nat):Int)).natAbs<2^40 by rw[W1f];omega) (by omega)
theorem Yjj{z:Rat}{b:Nat}{R:Rat×Rat}(hb:b<=300)(h:Xxt z b=some R): C0 308 [.d (dq z),.d (.int .i64 b)] (·=.d (dI R)):=by
 unfold Xxt at h
 split at h<;>try cases h
 rename_i hc
 simp only[W0f] at hc
 obtain⟨⟨c1,c2⟩,c3⟩:=hc
 have q1:=(Xnm c1)
 have q2:=(Xnm c2)
 have q3:=(Xnm c3)
 refine En Tryz.func308 λ_ _ _=>?_
 refine Ce rfl (Xdh q1.1 (by decide)) ?_
 refine Ce rfl (Xee q1 (by omega) (by decide)) ?_
 refine Ce rfl (Xfc (p:=Ye1 z b) (q:=Ye1 z b) q2 q2 (by decide)) ?_
 refine Ce rfl (Xee (Xcb q2 q2) (by omega) (by decide)) ?_
 refine Ce rfl (Xat (z:=0) (by decide)) ?_
 refine Ce rfl (Xdh (x:=0) qs0 (by decide)) ?_
 refine Lo (λ(s:Nat×Nat×(Rat×Rat)×(Rat×Rat))=>[(1,.d (.int .i64 b)),(4,.ptr 4 0),(5,.ptr 5 0),(6,.ptr 6 0),(7,.ptr 7 0),(8,.d (.int .i64 s.2.1))]) (λs=>[(4,.var zI),(5,.var (.d (dI s.2.2.1))),(6,.var (.d (dI (Yfm z b)))),(7,.var (.d (dI s.2.2.2)))]) (λs=>s.1+s.2.1<=150/\Ykg b (Yfm z b) s.1 s.2.1 s.2.2.1 s.2.2.2=some R) (λs=>s.1) (150,0,Ye1 z b,(0,0)) [] rfl ⟨W0a _,h⟩ (λ(n,k,P,S) ⟨hn,hR⟩=>?_)
 simp only at hn hR
 cases n with
 | zero=>cases hR
 | succ n =>
  unfold Ykg at hR
  split at hR<;>try cases hR
  rename_i hc
  simp only[W0f] at hc
  obtain⟨⟨⟨c4,c5⟩,c6⟩,c7⟩:=hc
  have q4:=(Xnm c4)
  have q5:=(Xnm c5)
  have q6:=(Xnm c6)
  have q7:=(Xnm c7)
  have fq:Q2 40 (Rat.divInt 1 (2*k+1:Nat),Rat.divInt 1 (2*k+1:Nat)):=⟨Xv5 (by omega),Xv5 (by omega)⟩
  refine Dw rfl ?_
  refine Ar (2*k:Nat) rfl ?_ (Ylj (a:=2) (b:=k) (by omega))
  refine Ar (2*k+1:Nat) rfl ?_ (wr (show ((2*k:Nat):Int)+1=((2*k+1:Nat):Int) by omega) (by simp only[inK];omega))
  refine Ce rfl (Xcg (a:=1) (b:=(2*k+1:Nat)) (by omega) (by omega)) ?_
  refine Ce rfl (Xdh fq.1 (by decide)) ?_
  refine Ce rfl (Xfc q4 fq (by decide)) ?_
  refine Ce rfl (Xee (Xcb q4 fq) (by omega) (by decide)) ?_
  refine Ar (k%2:Nat) rfl ?_ (Yn8 (a:=k) (m:=2) (by decide))
  refine By rfl (λh1=>?_) λh1=>?_
  . have eS:Yjk k S (Xlz b k P)=Xhb S (Xlz b k P):=if_pos (by omega)
    rw[eS] at hR q7
    refine Ce rfl (Xfd q6 q5 (by decide)) ?_
    refine Ar (2*k:Nat) rfl ?_ (Ylj (a:=2) (b:=k) (by omega))
    refine Ar (2*k+1:Nat) rfl ?_ (wr (show ((2*k:Nat):Int)+1=((2*k+1:Nat):Int) by omega) (by simp only[inK];omega))
    refine By rfl (λh2=>?_) λh2=>?_
    . rw[if_pos (by omega)] at hR
      injection hR with hR
      refine Dw rfl ?_
      refine Ce rfl (Xfb q5.2 (by decide)) ?_
      refine Ce rfl (Xfd (p:=Xhb S (Xlz b k P)) (q:=(-(Xlz b k P).2,(Xlz b k P).2)) q7 ⟨q5.2.neg,q5.2⟩ (by decide)) ?_
      rw[hR]
      exact R0
    . rw[if_neg (by omega)] at hR
      refine Ce rfl (Xfc q4 q3 (by decide)) ?_
      refine Ce rfl (Xee (Xcb q4 q3) (by omega) (by decide)) ?_
      refine Ar (k+1:Nat) rfl ?_ (wr (show (k:Int)+1=((k+1:Nat):Int) by omega) (by simp only[inK];omega))
      exact Bk (n,k+1,rnd (Xbv P (Yfm z b)) b,Xhb S (Xlz b k P)) [] rfl ⟨by show n+(k+1)<=150;omega,hR⟩ (show n<n+1 by omega)
  . have eS:Yjk k S (Xlz b k P)=Yfe S (Xlz b k P):=if_neg (by omega)
    rw[eS] at hR q7
    refine Ce rfl (Xvt q6 q5 (by decide)) ?_
    refine Ar (2*k:Nat) rfl ?_ (Ylj (a:=2) (b:=k) (by omega))
    refine Ar (2*k+1:Nat) rfl ?_ (wr (show ((2*k:Nat):Int)+1=((2*k+1:Nat):Int) by omega) (by simp only[inK];omega))
    refine By rfl (λh2=>?_) λh2=>?_
    . rw[if_pos (by omega)] at hR
      injection hR with hR
      refine Dw rfl ?_
      refine Ce rfl (Xfb q5.2 (by decide)) ?_
      refine Ce rfl (Xfd (p:=Yfe S (Xlz b k P)) (q:=(-(Xlz b k P).2,(Xlz b k P).2)) q7 ⟨q5.2.neg,q5.2⟩ (by decide)) ?_
      rw[hR]
      exact R0
    . rw[if_neg (by omega)] at hR
      refine Ce rfl (Xfc q4 q3 (by decide)) ?_
      refine Ce rfl (Xee (Xcb q4 q3) (by omega) (by decide)) ?_
      refine Ar (k+1:Nat) rfl ?_ (wr (show (k:Int)+1=((k+1:Nat):Int) by omega) (by simp only[inK];omega))
      exact Bk (n,k+1,rnd (Xbv P (Yfm z b)) b,Yfe S (Xlz b k P)) [] rfl ⟨by show n+(k+1)<=150;omega,hR⟩ (show n<n+1 by omega)
end
end Go.Proofs.YtgpipgjbkggjpaaGreatDoor.P20
namespace Go.Proofs.YtgpipgjbkggjpaaGreatDoor.P9
open Go Go.Vm Go.Num Go.Tow Go.Proofs.YtgpipgjbkggjpaaGreatDoor
end Go.Proofs.YtgpipgjbkggjpaaGreatDoor.P9
namespace Go.Proofs.YtgpipgjbkggjpaaGreatDoor.P55
open Go Go.Vm Go.Num Go.Tow Go.Proofs.YtgpipgjbkggjpaaGreatDoor
def Qp(s:Nat)(p:Rat×Rat): Prop:=Qs s p.1/\Qs s p.2
abbrev v0(p:Rat×Rat): Vn:=⟨⟨0,(),p.1⟩,⟨0,(),p.2⟩⟩
theorem W0: Wn (K:=0) () ([]:List (Tow.El 0)) []:=⟨⟨trivial,W0y _,λ{m T ρ} h=>by
 have:=h.le (show Xb5 0 () from trivial)
 have e:m=0:=by have h0:([]:List (Tow.El 0)).length=0:=rfl;omega
 subst e
 trivial⟩,λz hz=>nomatch hz⟩
theorem g0{q:Rat}{s:Nat}(h:Qs s q)(hs:s<=10000:=by decide): Gd (K:=0) () [] [] 1 ⟨0,(),q⟩ q:=by
 have h0:NOk (K:=0) () ([]:List (Tow.El 0)) 0 (s+1) ⟨0,(),q⟩ (Tow.rat 0 q):=⟨⟨λ_=>zero _,⟨trivial,trivial,λi hi=>absurd hi (W3z _)⟩,rfl⟩,trivial,Sz.rat 0 h⟩
 have hg:Gs (K:=0) () ([]:List (Tow.El 0)) [] (gB 1) (Tow.rat 0 q):=(Gs.rat h).mono (by unfold gB;omega)
 exact⟨h0.re W0.w W0.h hg,hg,W0a _⟩
theorem gv0{p:Rat×Rat}{s:Nat}(h:Qp s p)(hs:s<=10000:=by decide): Gv (K:=0) () [] [] 1 (v0 p) p:=⟨g0 h.1 hs,g0 h.2 hs⟩
theorem zw{r p:Nat}{x:Nm}{v:Rat}(h:NOk (K:=0) () ([]:List (Tow.El 0)) r p x v): x=⟨0,(),v⟩:=by
 obtain⟨ρ,h1,h2⟩:=h.ex
 obtain⟨k,t,a⟩:=x
 have hk:k<=([]:List (Tow.El 0)).length:=h1.le (show Xb5 0 () from trivial)
 obtain rfl:k=0:=Nat.le_zero.1 hk
 have h2:(a:Rat)=v:=h2
 rw[<-h2]
 cases t
 rfl
theorem Xlh{n:Nat}{v:Vn}{p:Rat×Rat}(h:Gv (K:=0) () ([]:List (Tow.El 0)) [] n v p): v=v0 p:=by
 obtain⟨x,y⟩:=v
 rw[show x=_ from zw h.x.o,show y=_ from zw h.y.o]
instance {p:Nat} {z:Int}:Decidable (Zs p z):=inferInstanceAs (Decidable (z.natAbs<2^p))
instance {p:Nat} {x:Rat}:Decidable (Qs p x):=decidable_of_iff (Zs p x.num/\Zs p x.den) ⟨λh=>⟨h.1,h.2⟩,λh=>⟨h.1,h.2⟩⟩
instance {p:Nat} {x:Rat×Rat}:Decidable (Qp p x):=by unfold Qp;infer_instance
end Go.Proofs.YtgpipgjbkggjpaaGreatDoor.P55
namespace Go.Proofs.YtgpipgjbkggjpaaGreatDoor.P20
open Go Go.Vm Go.Num Go.Tow Go.Proofs.YtgpipgjbkggjpaaGreatDoor
open Go.Proofs.YtgpipgjbkggjpaaGreatDoor.P55 (v0 W0 g0 gv0 zw Xlh Qp)
abbrev nr(q:Rat): Nm:=⟨0,(),q⟩
instance {p:Nat} {x:Rat×Rat}:Decidable (Q2 p x):=by unfold Q2;infer_instance
def Xj8(z:Rat)(b:Nat): Rat×Rat:=(Xxt z b).getD (0,0)
theorem Ye0{z:Rat}{b:Nat}(h:(Xxt z b).isSome=true): Xxt z b=some (Xj8 z b):=by
 unfold Xj8
 cases e:Xxt z b with
 | none=>rw[e] at h;cases h
 | some R=>rfl
abbrev z5: Rat:=Rat.divInt 1 5
abbrev Yjx: Rat:=Rat.divInt 1 239
theorem a5: (Xxt z5 186).isSome=true:=by decide +kernel
theorem Yoo: (Xxt Yjx 186).isSome=true:=by decide +kernel
theorem a0: (Xxt 0 186).isSome=true:=by decide +kernel
def pt(x:Rat): Rat×Rat:=(x,x)
def qV: Rat×Rat:=Yfe (Xbv (Xj8 z5 186) (pt 8)) (Xbv (Xj8 Yjx 186) (pt 2))
def rV: Rat×Rat:=Xhb (Xhb ((Xj8 0 186).1,(Xj8 0 186).2) (Xbv qV (pt 1))) (Xbv qV (pt 0))
def hp: Nat->Rat
 | 0=>1
 | n+1=>hp n*Rat.divInt 1 2
theorem Ylz: (sm (Xj8 z5 186)&&sm (Xj8 Yjx 186)&&sm (Xj8 0 186)&&sm qV&&sm rV&&decide (rV.2-rV.1<=hp 138))=true:=by decide +kernel
theorem Xoz{z:Rat}(h:(Xxt z 186).isSome=true): C0 308 [.d (dq z),.d (.int .i64 186)] (·=.d (dI (Xj8 z 186))):=Yjj (b:=186) (by decide) (Ye0 h)
theorem fct: sm (Xj8 z5 186)=true/\sm (Xj8 Yjx 186)=true/\sm (Xj8 0 186)=true/\sm qV=true/\sm rV=true/\rV.2-rV.1<=hp 138:=by
 have:=Ylz
 simp only[W0f,decide_eq_true_eq] at this
 obtain⟨⟨⟨⟨⟨h1,h2⟩,h3⟩,h4⟩,h5⟩,h6⟩:=this
 exact⟨h1,h2,h3,h4,h5,h6⟩
theorem Xr2{n:Int}(h:Zs 64 n): Q2 64 (pt (n:Rat)):=⟨Qs.int h (by decide),Qs.int h (by decide)⟩
theorem Xft{p:Rat×Rat}{n:Int}(hp:Q2 250 p)(h:-9223372036854775808<=n/\n<9223372036854775808): C0 253 [.d (dI p),.d (.int .i64 n)] (·=.d (dI (Xbv p (pt (n:Rat))))):=by
 have hq:=Xr2 (n:=n) (by unfold Zs;omega)
 refine En Tryz.func253 λ_ _ _=>?_
 refine Dw rfl ?_
 refine Ce rfl (Xat h) ?_
 refine Ce rfl (Xdh hq.1 (by decide)) ?_
 refine Ce rfl (Xfc (q:=pt (n:Rat)) hp hq (by decide)) ?_
 exact R0
theorem Xjm: C0 254 [.d (.int .i64 186)] (·=.d (dI qV)):=by
 obtain⟨h1,h2,_⟩:=fct
 have q1:=Xnm h1
 have q2:=Xnm h2
 refine En Tryz.func254 λ_ _ _=>?_
 refine Ce rfl (Xcg (a:=1) (b:=5) (by decide) (by decide)) ?_
 refine Ce rfl (Xoz a5) ?_
 refine Ce rfl (Xft (n:=8) q1 (by decide)) ?_
 refine Ce rfl (Xcg (a:=1) (b:=239) (by decide) (by decide)) ?_
 refine Ce rfl (Xoz Yoo) ?_
 refine Ce rfl (Xft (n:=2) q2 (by decide)) ?_
 refine Ce rfl (Xvt (Xcb q1 (Xr2 (n:=8) (by decide))) (Xcb q2 (Xr2 (n:=2) (by decide))) (by decide)) ?_
 exact R0
theorem Xh0: C0 306 [.d (dq 0),.d (.int .i64 186)] (·=.d (dI (Xj8 0 186))):=by
 refine En Tryz.func306 λ_ _ _=>?_
 refine Ce rfl (Xcg (a:=1) (b:=2) (by decide) (by decide)) ?_
 refine Ce rfl (Xbu (x:=0) (p:=1) (q:=40) qs0 (Qs.divInt (Zs.one (by decide)) (by decide) (by decide)) (by decide)) ?_
 refine Yes rfl (by decide +kernel) ?_
 refine Ce rfl (Xoz a0) ?_
 exact R0
theorem Yee{x:Rat}{b:Nat}(hx:Qs 64 x): C0 251 [.d (dts []),.d (dqs [x]),.d (.int .i64 b)] (·=.d (dI (pt x))):=by
 refine En Tryz.func251 λ_ _ _=>?_
 refine Yes rfl rfl ?_
 refine Ix 0 rfl (u:=dq x) rfl ?_
 refine Ce rfl (Xdh hx (by decide)) ?_
 exact R0
theorem Xfl{x:Rat}{bits:Nat}(hx:Qs 64 x)(hb:bits<=1000): C0 176 [.d (dts []),.d (dqs [x]),.d (.int .i64 bits)] (·=.d (dI (pt x))):=by
 have hw:Qs 129 ((pt x).2-(pt x).1):=by rw[W5y];exact hx.add hx.neg
 refine En Tryz.func176 λ_ _ _=>?_
 refine No rfl (by omega) ?_
 refine No rfl (by omega) ?_
 refine Ce rfl (Xgr (k:=0) (t:=()) (l:=[[x]]) (r:=1) (s:=65) trivial trivial (by decide) (by decide) (by decide) (λy hy=>⟨(x:Rat),W0g.1 hy,Sz.rat 0 hx⟩) (by simp) (by decide)) ?_
 refine No rfl (by simp) ?_
 refine Ce rfl (FromInt_ok (z:=1) (by decide)) ?_
 refine Ce rfl (Xct (n:=bits) (by omega)) ?_
 refine Ce rfl (Make_ok (p:=bits+1) (a:=1) (b:=2^bits) (Zs.one (by omega)) (Zs.two (W0a _)) (by omega) (Xfr bits)) ?_
 refine Ar (bits+16:Nat) rfl ?_
 refine Lo (λ_:Unit=>[(0,.d (dts [])),(1,.d (dqs [x])),(6,.ptr 6 0),(7,.ptr 7 0),(9,.d (.int .i64 (bits+16:Nat)))]) (λ_=>[(6,.var zI),(7,.var (.d (dq (Rat.divInt 1 (2^bits)))))]) (λ_=>True) (λ_=>0) () [] rfl trivial (λ_ _=>?_)
 refine Ce rfl (Yee hx) ?_
 refine Dw rfl ?_
 refine Ce rfl (Xf4 (p:=pt x) ⟨hx,hx⟩ (by decide)) ?_
 refine Ce rfl (Xbu (x:=(pt x).2-(pt x).1) hw (Xhw bits) (by omega)) ?_
 refine Yes rfl (by
  rw[Xlq]
  have:=Xdp bits
  show ¬_<x-x
  rw[Rat.sub_self]
  grind) ?_
 exact R0
theorem Xr0: C0 252 [.d (dV (v0 (0,1))),.d (.int .i64 186)] (·=.tup (.pr (.d (dI (Xhb ((Xj8 0 186).1,(Xj8 0 186).2) (Xbv qV (pt 1))))) (.d (.int .i64 0)))):=by
 obtain⟨_,_,h3,h4,_⟩:=fct
 have q3:=Xnm h3
 have q4:=Xnm h4
 have c0:Qs 64 0:=by decide +kernel
 have c1:Qs 64 1:=by decide +kernel
 refine En Tryz.func252 λ_ _ _=>?_
 refine Lo (λi:Nat=>[(1,.d (.int .i64 186)),(2,.ptr 2 0),(4,.ptr 4 0),(5,.d (.int .i64 0)),(6,.d (.int .i64 i))]) (λi=>[(2,.var (.d (dV (v0 (if i=0 then (0,1) else (1,0)))))),(4,.var zI)]) (λi=>i=0\/i=1) (λi=>1-i) 0 [] rfl (.inl rfl) (λi hi=>?_)
 rcases hi with rfl | rfl
 . refine Ce rfl (P9.Sign_g W0 (g0 (q:=0) c0) (by decide)) ?_
   refine Yes rfl (by decide +kernel) ?_
   refine Dw rfl ?_
   refine Ca rfl (P9.Neg_g W0 (g0 (q:=0) c0) (by decide)) λv hv=>?_
   obtain⟨z,rfl,hz⟩:=hv
   rw[zw hz.o,show Tow.neg 0 (0:Rat)=(0:Rat) from Rat.neg_zero]
   refine Ar (0+1:Nat) rfl ?_
   exact Bk 1 [] rfl (.inr rfl) (show 0<1 by decide)
 . refine Ce rfl (P9.Sign_g W0 (g0 (q:=1) c1) (by decide)) ?_
   refine No rfl (by decide +kernel) ?_
   refine Ce rfl (P9.Sign_g W0 (g0 (q:=0) c0) (by decide)) ?_
   refine No rfl (by decide +kernel) ?_
   refine Ce rfl (P9.Cmp_g W0 (g0 (q:=0) c0) (g0 (q:=1) c1) (by decide) (by decide)) ?_
   refine No rfl (by decide) ?_
   refine Dz rfl ?_
   refine No rfl (by decide +kernel) ?_
   refine Ca rfl (P9.Div_g W0 (g0 (q:=0) c0) (g0 (q:=1) c1) (by decide) (by decide)) λv hv=>?_
   rcases hv with ⟨e,_⟩ | ⟨u,_,z,rfl,hz⟩
   . exact absurd e (show ¬(1:Rat)=0 by decide +kernel)
   rw[zw hz.o,show Tow.mul 0 () (0:Rat) u=(0:Rat) from W4j u]
   refine No rfl (by decide) ?_
   refine Mm 186 rfl ?_ rfl
   refine Ce rfl (Xfl (x:=0) (bits:=186) c0 (by decide)) ?_
   refine Ce rfl (Xat (z:=0) (by decide)) ?_
   refine Ce rfl (Xat (z:=1) (by decide)) ?_
   have hm:=Xy5 (p:=pt 0) (q:=(0,1)) (s:=64) (by decide +kernel) (by decide +kernel) (by decide) (by decide +kernel)
   rw[show Xb9 (pt 0) (0,1)=pt 0 by decide +kernel] at hm
   refine Ce rfl hm ?_
   refine Dw rfl ?_
   refine Ce rfl Xh0 ?_
   refine Ce rfl Xh0 ?_
   refine Ce rfl Xjm ?_
   refine No rfl (by decide +kernel) ?_
   refine Dw rfl ?_
   refine Ce rfl (Xft (n:=1) q4 (by decide)) ?_
   refine Ce rfl (Xfd (p:=((Xj8 0 186).1,(Xj8 0 186).2)) q3 (Xcb q4 (Xr2 (n:=1) (by decide))) (by decide)) ?_
   exact RTt rfl (.cons (.rf rfl) Xa6)
theorem Yh7: ∀i,i<=138->Qs 200 (hp i):=by decide +kernel
theorem Xsn: C0 177 [.d (dT (v0 (0,1)) 0),.d (.int .i64 138)] (·=.tup (.pr (.d (dI rV)) (.d (.int .i64 0)))):=by
 obtain⟨_,_,h3,h4,h5,h6⟩:=fct
 have q3:=Xnm h3
 have q4:=Xnm h4
 have q5:=Xnm h5
 have hq:=Yh7
 refine En Tryz.func177 λ_ _ _=>?_
 refine No rfl (by decide) ?_
 refine No rfl (by decide) ?_
 refine Ce rfl (Xat (z:=1) (by decide)) ?_
 refine Lo (λi:Nat=>[(1,.d (.int .i64 138)),(2,.ptr 2 0),(4,.ptr 4 0),(5,.d (.int .i64 0)),(6,.ptr 6 0),(18,.d (.int .i64 138)),(19,.d (.int .i64 i))]) (λi=>[(2,.var (.d (dT (v0 (0,1)) 0))),(4,.var zI),(6,.var (.d (dq (hp i))))]) (λi=>i<=138) (λi=>138-i) 0 [] rfl (W0y _) (λi hi=>?_)
 refine By rfl (λh=>?_) λh=>?_
 . refine Dw rfl ?_
   refine Ce rfl (Xcg (a:=1) (b:=2) (by decide) (by decide)) ?_
   refine Ce rfl (Xea (hq i hi) (Qs.divInt (p:=64) (by decide) (by decide) (by decide)) (by decide)) ?_
   refine Ar (i+1:Nat) rfl ?_
   exact Bk (i+1) [] rfl (show i+1<=138 by omega) (by show 138-(i+1)<138-i;omega)
 . obtain rfl:i=138:=by omega
   refine Ar (186:Nat) rfl ?_ (wr rfl (by simp only[inK];omega))
   refine Lo (λ_:Unit=>[(1,.d (.int .i64 138)),(2,.ptr 2 0),(4,.ptr 4 0),(5,.d (.int .i64 0)),(6,.ptr 6 0),(7,.d (.int .i64 186))]) (λ_=>[(2,.var (.d (dT (v0 (0,1)) 0))),(4,.var zI),(6,.var (.d (dq (hp 138))))]) (λ_=>True) (λ_=>0) () [] rfl trivial (λ_ _=>?_)
   refine Ce rfl Xr0 ?_
   refine No rfl (by decide) ?_
   refine Dw rfl ?_
   refine Ce rfl Xjm ?_
   refine Ar (0:Int) rfl ?_ rfl
   refine Ce rfl (Xft (n:=0) q4 (by decide)) ?_
   have qa:=Xlv (p:=((Xj8 0 186).1,(Xj8 0 186).2)) q3 (Xcb q4 (Xr2 (n:=1) (by decide)))
   refine Ce rfl (Xfd qa (Xcb q4 (Xr2 (n:=0) (by decide))) (by decide)) ?_
   refine Dw rfl ?_
   refine Ce rfl (Xf4 (p:=rV) q5 (by decide)) ?_
   have qw:Qs 501 (rV.2-rV.1):=by rw[W5y];exact q5.2.add q5.1.neg
   refine Ce rfl (Xbu qw (hq 138 (by decide)) (by decide)) ?_
   refine Yes rfl (by rw[Xlq];exact Rat.not_lt.2 h6) ?_
   exact RTt rfl (.cons (.rf rfl) Xa6)
end Go.Proofs.YtgpipgjbkggjpaaGreatDoor.P20
namespace Go.Tow
open Go
section
section
variable{K:Nat}{G:Tw K}{p q r u x y w z:V2 K}
theorem Xpd: Xau G q p=neg K (Xau G p q):=by
 obtain⟨a,b⟩:=p
 obtain⟨c,d⟩:=q
 have L:=Xaw K G
 exact(Laws.req L [a,b,c,d] (.add (.mul (.neg (.v 3)) (.v 0)) (.mul (.v 2) (.v 1))) (.neg (.add (.mul (.neg (.v 1)) (.v 2)) (.mul (.v 0) (.v 3)))) (by decide +kernel))
theorem Xsy: Xbw G p q=Xbw G q p:=by
 obtain⟨a,b⟩:=p
 obtain⟨c,d⟩:=q
 have L:=Xaw K G
 exact W3d (Laws.req L [a,b,c,d] (.add (.mul (.v 0) (.v 2)) (.neg (.mul (.v 1) (.v 3)))) (.add (.mul (.v 2) (.v 0)) (.neg (.mul (.v 3) (.v 1)))) (by decide +kernel)) (Laws.req L [a,b,c,d] (.add (.mul (.v 0) (.v 3)) (.mul (.v 1) (.v 2))) (.add (.mul (.v 2) (.v 1)) (.mul (.v 3) (.v 0))) (by decide +kernel))
theorem Xkh(hG:red K G)(hp:p≠vz K): sgn K G (Xi6 G p p)=1:=by
 have Sg:=Xar (Xaf hG)
 have h1:=(Xdz (Sg.tri p.1)).1
 have h2:=(Xdz (Sg.tri p.2)).1
 have h3:=Sg.sa (mul K G p.1 p.1) (mul K G p.2 p.2) (by rw[Sg.sm];exact h1) (by rw[Sg.sm];exact h2)
 have h3:0<=sgn K G (Xi6 G p p):=h3
 rcases Sg.tri (Xi6 G p p) with h | h | h
 . exact h
 . exact absurd (vsq hG h) hp
 . omega
def vh(G:Tw K)(p:V2 K): Int:=if vup G p then 0 else 1
theorem Yai: vh G p=0/\vup G p\/vh G p=1/\¬vup G p:=by
 unfold vh
 by_cases h:vup G p
 . rw[if_pos h];exact .inl ⟨rfl,h⟩
 . rw[if_neg h];exact .inr ⟨rfl,h⟩
section
theorem Xpe: Xez G p q=if vh G p=vh G q then-sgn K G (Xau G p q) else vh G p-vh G q:=by
 unfold Xez
 rcases Yai (G:=G) (p:=p) with ⟨a1,b1⟩ | ⟨a1,b1⟩<;>rcases Yai (G:=G) (p:=q) with ⟨a2,b2⟩ | ⟨a2,b2⟩<;>rw[a1,a2]<;>simp[b1,b2]
end
theorem Xno(hG:red K G)(hp:p≠vz K): Xdn p≠vz K:=λh=>hp (by
 have Sg:=Xar (Xaf hG)
 rw[Xl0 hG] at h |-
 have h2:sgn K G (neg K p.2)=0:=h.2
 rw[Sg.sn] at h2
 exact⟨h.1,by omega⟩)
end
end
section
section
variable{K:Nat}{G:Tw K}{p q r u x y w z:V2 K}{s:El K}
theorem Xhu(hG:red K G): Xez G q p=- Xez G p q:=by
 have Sg:=Xar (Xaf hG)
 rw[Xpe,Xpe,Xpd (p:=p),Sg.sn]
 by_cases h:vh G p=vh G q
 . rw[if_pos h,if_pos h.symm]
 . rw[if_neg h,if_neg λe=>h e.symm];omega
def vsc(G:Tw K)(s:El K)(p:V2 K): V2 K:=(mul K G s p.1,mul K G s p.2)
theorem Ykt(hG:red K G)(hs:sgn K G s=1): vh G (vsc G s p)=vh G p:=by
 have Sg:=Xar (Xaf hG)
 have:vup G (vsc G s p)↔vup G p:=by unfold vup vsc;simp only[Sg.sm,hs,W4r]
 unfold vh
 by_cases h:vup G p
 . rw[if_pos h,if_pos (this.2 h)]
 . rw[if_neg h,if_neg λe=>h (this.1 e)]
theorem Yfq: Xau G p (vsc G s q)=mul K G s (Xau G p q):=by
 obtain⟨a,b⟩:=p
 obtain⟨c,d⟩:=q
 have L:=Xaw K G
 exact(Laws.req L [a,b,c,d,s] (.add (.mul (.neg (.v 1)) (.mul (.v 4) (.v 2))) (.mul (.v 0) (.mul (.v 4) (.v 3)))) (.mul (.v 4) (.add (.mul (.neg (.v 1)) (.v 2)) (.mul (.v 0) (.v 3)))) (by decide +kernel))
theorem Xht(hG:red K G)(hs:sgn K G s=1): Xez G p (vsc G s q)=Xez G p q:=by
 have Sg:=Xar (Xaf hG)
 rw[Xpe,Xpe,Ykt hG hs,Yfq,Sg.sm,hs,W4r]
theorem Xgd: Xbw G (Xbw G (Xdn p) x) (Xbw G (Xdn x) q)=vsc G (Xi6 G x x) (Xbw G (Xdn p) q):=by
 obtain⟨a,b⟩:=p
 obtain⟨c,d⟩:=q
 obtain⟨e,f⟩:=x
 have L:=Xaw K G
 exact W3d (Laws.req L [a,b,c,d,e,f] (.add (.mul (.add (.mul (.v 0) (.v 4)) (.neg (.mul (.neg (.v 1)) (.v 5)))) (.add (.mul (.v 4) (.v 2)) (.neg (.mul (.neg (.v 5)) (.v 3))))) (.neg (.mul (.add (.mul (.v 0) (.v 5)) (.mul (.neg (.v 1)) (.v 4))) (.add (.mul (.v 4) (.v 3)) (.mul (.neg (.v 5)) (.v 2)))))) (.mul (.add (.mul (.v 4) (.v 4)) (.mul (.v 5) (.v 5))) (.add (.mul (.v 0) (.v 2)) (.neg (.mul (.neg (.v 1)) (.v 3))))) (by decide +kernel)) (Laws.req L [a,b,c,d,e,f] (.add (.mul (.add (.mul (.v 0) (.v 4)) (.neg (.mul (.neg (.v 1)) (.v 5)))) (.add (.mul (.v 4) (.v 3)) (.mul (.neg (.v 5)) (.v 2)))) (.mul (.add (.mul (.v 0) (.v 5)) (.mul (.neg (.v 1)) (.v 4))) (.add (.mul (.v 4) (.v 2)) (.neg (.mul (.neg (.v 5)) (.v 3)))))) (.mul (.add (.mul (.v 4) (.v 4)) (.mul (.v 5) (.v 5))) (.add (.mul (.v 0) (.v 3)) (.mul (.neg (.v 1)) (.v 2)))) (by decide +kernel))
end
end
end Go.Tow
namespace Go.Proofs.YtgpipgjbkggjpaaGreatDoor
open Go Go.Vm Go.Num Go.Tow
section
variable{K:Nat}{G:Tw K}{S:List (Tow.El K)}{N:List Nm}{n m k:Nat}{x y z:Nm}{a b v w:Tow.El K}{u s t:Vn}{p q r:V2 K}
def Yjy{K:Nat}(p q:V2 K): V2 K:=(Tow.add K p.1 (Tow.neg K q.1),Tow.add K p.2 (Tow.neg K q.2))
def Xkf{K:Nat}(p q:V2 K): V2 K:=(Tow.add K p.1 q.1,Tow.add K p.2 q.2)
theorem Yf1{K:Nat}{a b:Tow.El K}: toL K a=toL K b↔a=b:=⟨Xgg,λe=>by rw[e]⟩
theorem P9.Equal_g(W:Wn G S N)(hx:Gd G S N n x v)(hy:Gd G S N m y w)(hn:n<=190)(hm:m<=190): C0 93 [.d (dN x),.d (dN y)] (·=.b (dc (v=w))):=by
 have hG:=W.w.g
 have hR:=Xhr
 have hx':=hx.op hn
 have hy':=hy.op hm
 obtain⟨ρx,hx1,hx2⟩:=hx'.ex
 obtain⟨ρy,hy1,hy2⟩:=hy'.ex
 have hx3:=W.w.le hx1
 have hy3:=W.w.le hy1
 have hxr:=W.w.t hx1
 have hyr:=W.w.t hy1
 have hpx:=p16 (show x.k<=16 by omega)
 have hJ:jW 3799892570=8*3799892570+73803682:=rfl
 have hj:C0 139 [.d (dNs [x,y])] λv'=>∃m T a b,v'=.tup (.pr (.d (dNs [⟨m,T,a⟩,⟨m,T,b⟩])) (.d (.int .i64 0)))/\R9.JnR G S 3799892570 v w m T a b:=P9.Join_ok W.w hx' hy' (by decide)
 have fin:∀ {k:Nat} {T:Tw k} {a b:Tow.El k} {ρ:Nat->Tow.El K},TOk G S k T ρ->ev G ρ k a=v->ev G ρ k b=w->(dc (toL k a=toL k b)=true↔v=w):=λ{k T a b ρ} h1 h2 h3=>by
  rw[Xaj,Yf1,<-h2,<-h3]
  exact⟨λe=>by rw[e],λe=>Xe3 (Xaf hG) h1.h h1.r e⟩
 refine En Tryz.func93 λ_ _ _=>?_
 refine Ce rfl (P9.begins_ok (T:=toT x.k x.t) (U:=toT y.k y.t) (TS.pt hxr) (TS.pt hyr) (by omega) (by rw[Xaa];omega)) ?_
 refine By rfl (λh1=>?_) λh1=>?_
 . refine Ce rfl (P9.begins_ok (T:=toT y.k y.t) (U:=toT x.k x.t) (TS.pt hyr) (TS.pt hxr) (by omega) (by rw[Xaa];omega)) ?_
   refine By rfl (λh2=>?_) λh2=>?_
   . refine Ce rfl (P9.sameElement_ok hx'.p.ps hy'.p.ps (by omega) (by rw[Xab];omega)) ?_
     refine R1 rfl (.bp ?_)
     have e1:(toT x.k x.t).take (toT y.k y.t).length=toT y.k y.t:=h1
     have e2:(toT y.k y.t).take (toT x.k x.t).length=toT x.k x.t:=h2
     have l1:=congrArg List.length e1
     have l2:=congrArg List.length e2
     rw[W0k,Xaa,Xaa] at l1 l2
     obtain⟨kx,tx,ax⟩:=x
     obtain⟨ky,ty,ay⟩:=y
     have l1:min ky kx=ky:=l1
     have l2:min kx ky=kx:=l2
     obtain rfl:kx=ky:=by omega
     have e3:toT kx tx=toT kx ty:=by
      have e1:(toT kx tx).take (toT kx ty).length=toT kx ty:=e1
      rwa[Xaa,W0b (by rw[Xaa];omega)] at e1
     obtain rfl:=Xkk e3
     have hy2:ev G ρx kx ay=w:=by rw[<-hy2];exact Xbn λi hi=>Hom.uniq hG hx1.h hy1.h i hi
     exact fin hx1 hx2 hy2
   . refine Ca rfl hj λv' hv=>?_
     obtain⟨m',T,a,b,rfl,ρ,j1,j2,j3,j4,j5⟩:=hv
     have jm:=W.w.le j1
     have jp:=p16 (show m'<=16 by omega)
     refine Yes rfl (by decide) ?_
     refine Dw rfl ?_
     refine Ix 0 rfl (u:=dN ⟨m',T,a⟩) rfl ?_
     refine Ix 1 rfl (u:=dN ⟨m',T,b⟩) rfl ?_
     refine Ce rfl (P9.sameElement_ok (l:=toL m' a) (m:=toL m' b) j4.ps j5.ps (by omega) (by rw[Xab];omega)) ?_
     exact R1 rfl (.bp (fin j1 j2 j3))
 . refine Ca rfl hj λv' hv=>?_
   obtain⟨m',T,a,b,rfl,ρ,j1,j2,j3,j4,j5⟩:=hv
   have jm:=W.w.le j1
   have jp:=p16 (show m'<=16 by omega)
   refine Yes rfl (by decide) ?_
   refine Dw rfl ?_
   refine Ix 0 rfl (u:=dN ⟨m',T,a⟩) rfl ?_
   refine Ix 1 rfl (u:=dN ⟨m',T,b⟩) rfl ?_
   refine Ce rfl (P9.sameElement_ok (l:=toL m' a) (m:=toL m' b) j4.ps j5.ps (by omega) (by rw[Xab];omega)) ?_
   exact R1 rfl (.bp (fin j1 j2 j3))
end
end Go.Proofs.YtgpipgjbkggjpaaGreatDoor
namespace Go.Tow
open Go.Proofs.YtgpipgjbkggjpaaGreatDoor (Xkf)
section
variable{K:Nat}
def Xd4(h:Nat->El K): Nat->El K
 | 0=>zero K
 | k+1=>add K (Xd4 h k) (h k)
theorem Xca{h h':Nat->El K}: ∀ {n:Nat},(∀i,i<n->h i=h' i)->Xd4 h n=Xd4 h' n
 | 0,_=>rfl
 | n+1,e=>by
  show add K (Xd4 h n) (h n)=add K (Xd4 h' n) (h' n)
  rw[Xca λi hi=>e i (by omega),e n (by omega)]
variable(G:Tw K)
include G
theorem Xh3(h:Nat->El K): ∀n,Xd4 h (n+1)=add K (h 0) (Xd4 (λi=>h (i+1)) n)
 | 0=>by
  show add K (zero K) (h 0)=add K (h 0) (zero K)
  exact(Xaw K G).ac ..
 | n+1=>by
  show add K (Xd4 h (n+1)) (h (n+1))=add K (h 0) (add K (Xd4 (λi=>h (i+1)) n) (h (n+1)))
  rw[Xh3 h n]
  exact(Xaw K G).aa ..
theorem Xkq(h h':Nat->El K): ∀n,Xd4 (λi=>add K (h i) (h' i)) n=add K (Xd4 h n) (Xd4 h' n)
 | 0=>((Xaw K G).az _).symm
 | n+1=>by
  have L:=Xaw K G
  show add K (Xd4 (λi=>add K (h i) (h' i)) n) (add K (h n) (h' n))=add K (add K (Xd4 h n) (h n)) (add K (Xd4 h' n) (h' n))
  rw[Xkq h h' n,L.aa,L.aa,L.alc (Xd4 h' n)]
theorem Xkp(h:Nat->El K): ∀n,Xd4 (λi=>neg K (h i)) n=neg K (Xd4 h n)
 | 0=>by
  have L:=Xaw K G
  show zero K=neg K (zero K)
  have:=L.an (zero K)
  rw[L.za] at this
  exact this.symm
 | n+1=>by
  have L:=Xaw K G
  show add K (Xd4 (λi=>neg K (h i)) n) (neg K (h n))=neg K (add K (Xd4 h n) (h n))
  rw[Xkp h n,L.nd]
theorem Xko(h:Nat->El K): ∀n,Xd4 (λi=>h ((i+1)%n)) n=Xd4 h n
 | 0=>rfl
 | n+1=>by
  have e:Xd4 (λi=>h ((i+1)%(n+1))) n=Xd4 (λi=>h (i+1)) n:=Xca λi hi=>by
   show h ((i+1)%(n+1))=_
   rw[W3a (by omega)]
  rw[Xh3 G h n]
  show add K (Xd4 (λi=>h ((i+1)%(n+1))) n) (h ((n+1)%(n+1)))=_
  rw[e,Nat.mod_self]
  exact(Xaw K G).ac ..
theorem Xh2(h:Nat->El K)(n:Nat): ∀k,Xd4 (λi=>h ((i+k)%n)) n=Xd4 h n
 | 0=>Xca λi hi=>by show h ((i+0)%n)=h i;rw[W2l,W3a hi]
 | k+1=>by
  have e:Xd4 (λi=>h ((i+(k+1))%n)) n=Xd4 (λi=>(λj=>h ((j+k)%n)) ((i+1)%n)) n:=Xca λi hi=>by
   show h ((i+(k+1))%n)=h (((i+1)%n+k)%n)
   rw[Nat.mod_add_mod,show i+(k+1)=i+1+k by omega]
  rw[e,Xko G (λj=>h ((j+k)%n)) n]
  exact Xh2 h n k
theorem Xpl(h:Nat->El K): ∀n,Xd4 (λi=>h (n-1-i)) n=Xd4 h n
 | 0=>rfl
 | n+1=>by
  rw[Xh3 G (λi=>h (n+1-1-i)) n]
  have e:Xd4 (λi=>h (n+1-1-(i+1))) n=Xd4 (λi=>h (n-1-i)) n:=Xca λi hi=>by
   show h (n+1-1-(i+1))=h (n-1-i)
   rw[show n+1-1-(i+1)=n-1-i by omega]
  rw[e,Xpl h n]
  exact(Xaw K G).ac ..
def pgn(g:Nat->V2 K)(n:Nat): El K:=Xd4 (λi=>Xau G (g i) (g ((i+1)%n))) n
variable{G}
theorem Yfr{a b t:V2 K}: Xau G (Xkf a t) (Xkf b t)=add K (Xau G a b) (add K (Xau G a t) (neg K (Xau G b t))):=by
 obtain⟨a,b'⟩:=a
 obtain⟨c,d⟩:=b
 obtain⟨e,f⟩:=t
 have L:=Xaw K G
 exact(Laws.req L [a,b',c,d,e,f] (.add (.mul (.neg (.add (.v 1) (.v 5))) (.add (.v 2) (.v 4))) (.mul (.add (.v 0) (.v 4)) (.add (.v 3) (.v 5)))) (.add (.add (.mul (.neg (.v 1)) (.v 2)) (.mul (.v 0) (.v 3))) (.add (.add (.mul (.neg (.v 1)) (.v 4)) (.mul (.v 0) (.v 5))) (.neg (.add (.mul (.neg (.v 3)) (.v 4)) (.mul (.v 2) (.v 5)))))) (by decide +kernel))
theorem Yg4(g:Nat->V2 K){n:Nat}(k:Nat)(t:V2 K): pgn G (λi=>Xkf (g ((i+k)%n)) t) n=pgn G g n:=by
 have L:=Xaw K G
 have e:pgn G (λi=>Xkf (g ((i+k)%n)) t) n=Xd4 (λi=>add K ((λj=>Xau G (g j) (g ((j+1)%n))) ((i+k)%n)) (add K ((λj=>Xau G (g j) t) ((i+k)%n)) (neg K ((λj=>(λj=>Xau G (g j) t) ((j+k)%n)) ((i+1)%n))))) n:=Xca λi hi=>by
  show Xau G (Xkf (g ((i+k)%n)) t) (Xkf (g (((i+1)%n+k)%n)) t)=add K (Xau G (g ((i+k)%n)) (g (((i+k)%n+1)%n))) (add K (Xau G (g ((i+k)%n)) t) (neg K (Xau G (g (((i+1)%n+k)%n)) t)))
  rw[Yfr,show ((i+k)%n+1)%n=((i+1)%n+k)%n by rw[Nat.mod_add_mod,Nat.mod_add_mod,show i+k+1=i+1+k by omega]]
 rw[e,Xkq G,Xkq G,Xkp G,Xko G (λj=>(λj=>Xau G (g j) t) ((j+k)%n)),Xh2 G (λj=>Xau G (g j) t),Xh2 G (λj=>Xau G (g j) (g ((j+1)%n))),L.an,L.az]
 rfl
theorem Xyr(g:Nat->V2 K)(n:Nat): pgn G (λi=>g (n-1-i)) n=neg K (pgn G g n):=by
 have e:pgn G (λi=>g (n-1-i)) n=Xd4 (λi=>neg K ((λi=>(λj=>Xau G (g j) (g ((j+1)%n))) (n-1-i)) ((i+1)%n))) n:=Xca λi hi=>by
  show Xau G (g (n-1-i)) (g (n-1-(i+1)%n))=neg K (Xau G (g (n-1-(i+1)%n)) (g ((n-1-(i+1)%n+1)%n)))
  have e1:(n-1-(i+1)%n+1)%n=n-1-i:=by
   by_cases h:i+1<n
   . rw[W3a h,show n-1-(i+1)+1=n-1-i by omega,W3a (by omega)]
   . have h:i+1=n:=by omega
     rw[h,Nat.mod_self,show n-1-0+1=n by omega,Nat.mod_self]
     omega
  rw[e1,<-Xpd]
 rw[e,Xkp G,Xko G (λi=>(λj=>Xau G (g j) (g ((j+1)%n))) (n-1-i)),Xpl G (λj=>Xau G (g j) (g ((j+1)%n)))]
 rfl
end
section
variable{K:Nat}{G:Tw K}{u v w p q:V2 K}
theorem Xsw(hG:red K G)(h:Xci G p): Xbw G p q=vsc G p.1 q/\sgn K G p.1=1:=by
 have L:=Xaw K G
 have h2:p.2=zero K:=(Xbf hG).1 h.1
 have h1:=h.2
 refine⟨?_,by rcases Xb7 G p.1 with e | e | e<;>omega⟩
 obtain⟨a,b⟩:=p
 obtain rfl:b=zero K:=h2
 refine W3d ?_ ?_
 . show add K (mul K G a q.1) (neg K (mul K G (zero K) q.2))=mul K G a q.1
   have e:neg K (zero K)=zero K:=by
    have:=L.an (zero K)
    rwa[L.za] at this
   rw[L.zm,e,L.az]
 . show add K (mul K G a q.2) (mul K G (zero K) q.1)=mul K G a q.2
   rw[L.zm,L.az]
theorem Ycg(hG:red K G){s:El K}(hs:sgn K G s=1): Xez G (vsc G s p) q=Xez G p q:=by
 rw[<-W7f (Xez G (vsc G s p) q),<-Xhu hG,Xht hG hs,Xhu hG,W7f]
theorem Ygi(hG:red K G)(hv:v≠vz K)(h:Xci G (Xbw G (Xdn u) v)): Xez G (Xbw G (Xdn v) w) (Xbw G (Xdn u) w)=0:=by
 obtain⟨h1,h2⟩:=Xsw (q:=Xbw G (Xdn v) w) hG h
 rw[Xgd] at h1
 have h3:=Xkh hG hv
 rw[<-Xht hG h3 (q:=Xbw G (Xdn u) w),h1,Xht hG h2,Xhs hG]
theorem Ygh(hG:red K G)(hv:v≠vz K)(h:Xci G (Xbw G (Xdn v) w)): Xez G (Xbw G (Xdn u) v) (Xbw G (Xdn u) w)=0:=by
 obtain⟨h1,h2⟩:=Xsw (q:=Xbw G (Xdn u) v) hG h
 rw[Xsy,Xgd] at h1
 have h3:=Xkh hG hv
 rw[<-Xht hG h3 (q:=Xbw G (Xdn u) w),h1,Xht hG h2,Xhs hG]
theorem Ygj(hG:red K G)(hv:v≠vz K): Xez G (Xbw G (Xbw G (Xdn u) v) (Xbw G (Xdn v) w)) (Xbw G (Xdn u) w)=0:=by
 rw[Xgd,Ycg hG (Xkh hG hv),Xhs hG]
theorem Xhm(hG:red K G)(h:Xez G p q=0)(hq:Xci G q): Xci G p:=by
 have h1:=(Xsz hG).2 hq
 have u1:vup G ((rat K 1,zero K):V2 K):=.inr ⟨(Xar (Xaf hG)).s0 (Xaw K G),by show 0<sgn K G (rat K 1);rw[(Xar (Xaf hG)).s1];decide⟩
 have uq:vup G q:=.inr hq
 have up:vup G p:=W0u λhn=>by
  unfold Xez at h
  rw[if_neg (λe=>hn (e.2 uq)),if_neg hn] at h
  cases h
 unfold Xez at h
 rw[if_pos ⟨λ_=>uq,λ_=>up⟩] at h
 have Sg:=Xar (Xaf hG)
 have L:=Xaw K G
 have hc:Xau G p q=neg K (mul K G q.1 p.2):=by
  have h2:q.2=zero K:=(Xbf hG).1 hq.1
  obtain⟨a,b⟩:=q
  obtain rfl:b=zero K:=h2
  show add K (mul K G (neg K p.2) a) (mul K G p.1 (zero K))=_
  rw[L.mz,L.az,L.nm,L.mc]
 rw[hc,Sg.sn,Sg.sm] at h
 have h3:=hq.2
 have h0:sgn K G p.2=0:=by
  rcases W6v.1 (show sgn K G q.1*sgn K G p.2=0 by omega) with e | e
  . omega
  . exact e
 refine⟨h0,?_⟩
 rcases up with e | e
 . omega
 . exact e.2
theorem Xts(hG:red K G)(hp:p≠vz K)(hq:q≠vz K)(h1:¬Xci G p)(h:Xci G (Xbw G p q)): Xge G p q 0 0=1:=by
 have up:vup G (Xbw G p q):=.inr h
 have key:Xez G (Xbw G p q) p<0:=by
  unfold Xez
  by_cases hu:vup G p
  . rw[if_pos ⟨λ_=>hu,λ_=>up⟩]
    have Sg:=Xar (Xaf hG)
    have L:=Xaw K G
    have h2:(Xbw G p q).2=zero K:=(Xbf hG).1 h.1
    have hc:Xau G (Xbw G p q) p=mul K G (Xbw G p q).1 p.2:=by
     generalize Xbw G p q=r at h2
     obtain⟨a,b⟩:=r
     obtain rfl:b=zero K:=h2
     show add K (mul K G (neg K (zero K)) p.1) (mul K G a p.2)=_
     rw[L.nm,L.zm]
     have e:neg K (zero K)=zero K:=by
      have:=L.an (zero K)
      rwa[L.za] at this
     rw[e,L.za]
    rw[hc,Sg.sm]
    have h3:=h.2
    have h4:0<sgn K G p.2:=by
     rcases hu with e | e
     . exact e
     . exact absurd e h1
    have:=Int.mul_pos h3 h4
    omega
  . rw[if_neg (λe=>hu (e.1 up)),if_pos up]
    decide
 unfold Xge
 rw[if_pos key]
 rfl
theorem Xs0(G:Tw K)(p q:V2 K): Xge G p q 0 0=0\/Xge G p q 0 0=1:=by
 unfold Xge
 split
 . exact .inr rfl
 . exact .inl rfl
end
end Go.Tow
namespace Go.Proofs.YtgpipgjbkggjpaaGreatDoor.P20
open Go Go.Vm Go.Num Go.Tow Go.Proofs.YtgpipgjbkggjpaaGreatDoor
open Go.Proofs.YtgpipgjbkggjpaaGreatDoor.P55 (v0 W0 g0 gv0 zw Xlh Qp)
structure Sn where
 c:Nm
 v:Vn
 f:Int
abbrev dSe(s:Sn): D:=.st (.pr (dN s.c) (dT s.v s.f))
abbrev dSs(l:List Sn): D:=.sl 7 (l.map dSe)
abbrev dAr(x:Nm)(l:List Sn): D:=.st (.pr (dN x) (dSs l))
abbrev dA0: D:=.st (.pr R9.n0 (dSs []))
abbrev zA: AV:=.st (.pr (.st (.pr .nil .nil)) .nil)
theorem Yd9{g:Hp}{K:Hpl}: Fit g K (.st (.pr (.st (.pr .nil .nil)) .nil)) (.d dA0):=.sd (.pd R9.fit0 (.nil rfl))
abbrev hf2: Rat:=Rat.divInt 1 2
theorem Xqz: Qs 64 hf2:=by decide +kernel
section
variable{K:Nat}{G:Tw K}{S:List (Tow.El K)}{N:List Nm}{n m:Nat}{x y z:Nm}{a b:Tow.El K}
variable{K':Nat}{G':Tw K'}{S':List (Tow.El K')}{N':List Nm}{u s:Vn}{p q:V2 K'}{f g:Int}
theorem Xr3(W:Wn G S N)(hx:Gd G S N n x a)(hn:n<=800): C0 31 [.d (dN x)] (·=.b (dc (sgn K G a>0))):=by
 refine En Tryz.func31 λ_ _ _=>?_
 refine Ce rfl (P9.Sign_g W hx hn) ?_
 exact R0
theorem Yhq(W:Wn G S N)(hx:Gd G S N n x a)(hy:Gd G S N m y b)(hn:n<=190)(hm:m<=190): C0 92 [.d (dN x),.d (dN y)] (·=.b (dc (sgn K G (Tow.add K a (Tow.neg K b))<0))):=by
 refine En Tryz.func92 λ_ _ _=>?_
 refine Ce rfl (P9.Cmp_g W hx hy hn hm) ?_
 refine Yes rfl (by decide) ?_
 exact R0
theorem Xgb: C0 11 [.d (dN x)] (·=.d (dAr x [])):=by
 refine En Tryz.func11 λ_ _ _=>?_
 exact R1 rfl (.sd (.pd (.rf rfl) (.nil rfl)))
theorem half_g(W:Wn G S N)(hx:Gd G S N n x a)(hn:n<=190): C0 34 [.d (dN x)] (OpG G S N (n+1) (Tow.mul K G a (Tow.rat K hf2))):=by
 refine En Tryz.func34 λ_ _ _=>?_
 refine Dw rfl ?_
 refine Ce rfl (Xcg (a:=1) (b:=2) (by decide) (by decide)) ?_
 refine Ce rfl (P9.FromRat_ok (q:=hf2) Xqz (by decide)) ?_
 refine Ca rfl (P9.Mul_g W hx (Gd.rat W Xqz) hn (by decide)) λv hv=>?_
 obtain⟨z,rfl,hz⟩:=hv
 exact Rt rfl (.tup (.cons (.rf rfl) Xa6)) ⟨z,rfl,hz⟩
def ScG(G:Tw K)(S:List (Tow.El K))(N:List Nm)(n:Nat)(a:Tow.El K)(G':Tw K')(p:V2 K')(u:Vn)(f:Int)(r:AV): Prop :=
 (¬sgn K G a>0/\r=.tup (.pr (.d dA0) (.d (.int .i64 1))))\/(sgn K G a>0/\(f=0/\Xci G' p)/\r=.tup (.pr (.d (dAr n00 [])) (.d (.int .i64 0)))) \/
 (sgn K G a>0/\¬(f=0/\Xci G' p)/\∃z,r=.tup (.pr (.d (dAr n00 [⟨z,u,f⟩])) (.d (.int .i64 0)))/\Gd G S N n z (Tow.mul K G a (Tow.rat K hf2)))
theorem Xbd(W:Wn G S N)(W':Wn G' S' N')(hx:Gd G S N n x a)(hu:Gv G' S' N' m u p)(hn:n<=190)(hm:m<=800): C0 12 [.d (dN x),.d (dT u f)] (ScG G S N (n+1) a G' p u f):=by
 refine En Tryz.func12 λ_ _ _=>?_
 refine Ce rfl (Xr3 W hx (by omega)) ?_
 refine By rfl (λh=>?_) λh=>?_
 . have h:¬sgn K G a>0:=by simpa only [Xav,Xaj] using h
   exact Rt rfl (.tup (.cons Yd9 Xa6)) (.inl ⟨h,rfl⟩)
 have h:sgn K G a>0:=W3e.1 (by simpa only [Xav,Xaj] using h)
 refine Ce rfl (P9.FromInt_ok (z:=0) (by decide)) ?_
 refine Ce rfl Xgb ?_
 refine Ce rfl (P19.Zero_g W' hu hm) ?_
 refine By rfl (λh1=>?_) λh1=>?_
 . exact Rt rfl (.tup (.cons (.rf rfl) Xa6)) (.inr (.inl ⟨h,h1,rfl⟩))
 . refine Ca rfl (half_g W hx hn) λv hv=>?_
   obtain⟨z,rfl,hz⟩:=hv
   refine No rfl (by decide) ?_
   exact Rt rfl (.tup (.cons (.sd (.pd (.rf rfl) (.lit rfl))) Xa6)) (.inr (.inr ⟨h,h1,z,rfl,hz⟩))
def Yc9(G:Tw K)(g:Nat->V2 K)(n:Nat)(k:Nat): Tow.El K:=Tow.add K (Tow.rat K ((0:Int):Rat)) (Xd4 (λi=>Xau G (g i) (g ((i+1)%n))) k)
theorem Ya4(g:Nat->V2 K)(n:Nat): Yc9 G g n 0=Tow.rat K ((0:Int):Rat):=(Xaw K G).az _
theorem Ya2(g:Nat->V2 K)(n k:Nat): Yc9 G g n (k+1)=Tow.add K (Yc9 G g n k) (Xau G (g k) (g ((k+1)%n))):=((Xaw K G).aa ..).symm
theorem Ya3(g:Nat->V2 K)(n:Nat): Yc9 G g n n=pgn G g n:=by
 have:Tow.rat K ((0:Int):Rat)=zero K:=Xer K
 unfold Yc9
 rw[this,(Xaw K G).za]
 rfl
theorem remN(a:Nat){m:Nat}(hm:0<m): arB .rem .i64 a m (a%m:Nat):=R9.remN hm
theorem Polygon_g(W:Wn G S N){l:List Vn}{g:Nat->V2 K}(hl:∀(i:Nat) v,l[i]?=some v->Gv G S N n v (g i))(h0:0<l.length)(h8:l.length<=8)(hn:1<=n/\n<=4): C0 17 [.d (dVs l)] (λr=>∃z,r=.tup (.pr (.d (dAr z [])) (.d (.int .i64 0)))/\Gd G S N 130 z (Tow.mul K G (pgn G g l.length) (Tow.rat K hf2))):=by
 have lm:(l.map dV).length=l.length:=W0l ..
 refine En Tryz.func17 λ_ _ _=>?_
 refine Ce rfl (P9.FromInt_ok (z:=0) (by decide)) ?_
 refine Lo (λ((k,z):Nat×Nm)=>[(0,.d (dVs l)),(2,.ptr 2 0),(4,.ptr 4 0),(12,.d (dVs l)),(13,.d (.int .i64 (l.map dV).length)),(14,.d (.int .i64 k))]) (λ(k,z)=>[(2,.var zA),(4,.var (.d (dN z)))]) (λ(k,z)=>k<=l.length/\Gd G S N (1+16*k) z (Yc9 G g l.length k)) (λ(k,_)=>l.length-k) (0,n00) [] rfl ⟨W0y _,by rw[Ya4];exact Gd.rat W (by decide +kernel)⟩ ?_
 rintro⟨k,z⟩ ⟨hk,hz⟩
 refine By rfl (λh=>?_) λh=>?_<;>simp only[lm] at h
 . obtain⟨v,hv⟩:∃v,l[k]?=some v:=⟨_,W0c (by omega)⟩
   obtain⟨w,hw⟩:∃w,l[(k+1)%l.length]?=some w:=⟨_,W0c (W1q _ h0)⟩
   refine Ix k rfl (mp hv) ?_
   first | refine Dw rfl ?_ | refine Dz rfl ?_
   refine Ar (k+1:Nat) rfl ?_
   refine Ar ((k+1)%l.length:Nat) rfl ?_ (by rw[lm];exact remN _ h0)
   refine Ix ((k+1)%l.length) rfl (mp hw) ?_
   refine Ca rfl (P13.Cross_g W (hl k v hv) (hl _ w hw) (by omega) (by omega) (by omega)) λv hv=>?_
   obtain⟨c,rfl,hc⟩:=hv
   refine Yes rfl (by decide) ?_
   refine Ca rfl (P9.Add_g W hz hc (by omega) (by omega)) λv hv=>?_
   obtain⟨z',rfl,hz'⟩:=hv
   rw[<-Ya2] at hz'
   refine No rfl (by decide) ?_
   refine Ar (k+1:Nat) rfl ?_
   exact Bk (k+1,z') [] rfl ⟨by omega,hz'.mono (by omega)⟩ (by show l.length-(k+1)<l.length-k;omega)
 . obtain rfl:k=l.length:=by omega
   rw[Ya3] at hz
   refine Ca rfl (half_g W hz (by omega)) λv hv=>?_
   obtain⟨z',rfl,hz'⟩:=hv
   refine No rfl (by decide) ?_
   refine Ce rfl Xgb ?_
   exact Rt rfl (.tup (.cons (.rf rfl) Xa6)) ⟨z',rfl,hz'.mono (by omega)⟩
end
end Go.Proofs.YtgpipgjbkggjpaaGreatDoor.P20
namespace Go.Proofs.YtgpipgjbkggjpaaGreatDoor
open Go Go.Vm Go.Num Go.Tow
section
section
variable{K:Nat}{G:Tw K}{S:List (Tow.El K)}{N:List Nm}{n m k:Nat}{x y z:Nm}{a b v w:Tow.El K}{u s t:Vn}{p q r:V2 K}
theorem R13.first_ok: C0 46 [.d (.int .i64 0),.d (.int .i64 0)] (·=.d (.int .i64 0)):=by
 refine En Tryz.func46 λ_ _ _=>?_
 refine No rfl (by decide) ?_
 exact R0
theorem R13.vec_ok{x y:Nm}: C0 45 [.d (dN x),.d (dN y),.d (.int .i64 0)] (·=.tup (.pr (.d (dV ⟨x,y⟩)) (.d (.int .i64 0)))):=by
 refine En Tryz.func45 λ_ _ _=>?_
 refine No rfl (by decide) ?_
 exact RTt rfl (.cons (.rf rfl) Xa6)
theorem R13.Add_g(W:Wn G S N)(hu:Gv G S N n u p)(hs:Gv G S N m s q)(hn:n<=190)(hm:m<=190): C0 18 [.d (dV u),.d (dV s)] (VoG G S N (n+m) (Xkf p q)):=by
 refine En Tryz.func18 λ_ _ _=>?_
 refine Ca rfl (R9.Add_g W hu.x hs.x hn hm) λv hv=>?_
 obtain⟨z,rfl,hz⟩:=hv
 refine Ca rfl (R9.Add_g W hu.y hs.y hn hm) λv hv=>?_
 obtain⟨w,rfl,hw⟩:=hv
 refine Dw rfl ?_
 refine Ce rfl R13.first_ok ?_
 refine Ce rfl R13.vec_ok ?_
 exact Rt rfl (.tup (.cons (.rf rfl) Xa6)) ⟨⟨z,w⟩,rfl,hz,hw⟩
theorem R13.Neg_g(W:Wn G S N)(hu:Gv G S N n u p)(hn:n<=190): C0 210 [.d (dV u)] (VeG G S N n (neg K p.1,neg K p.2)):=by
 refine En Tryz.func210 λ_ _ _=>?_
 refine Dw rfl ?_
 refine Ca rfl (R9.Neg_g W hu.x hn) λv hv=>?_
 obtain⟨z,rfl,hz⟩:=hv
 refine Ca rfl (R9.Neg_g W hu.y hn) λv hv=>?_
 obtain⟨w,rfl,hw⟩:=hv
 exact Rt rfl (.one (.rf rfl) rfl rfl) ⟨⟨z,w⟩,rfl,hz,hw⟩
theorem R13.Sub_g(W:Wn G S N)(hu:Gv G S N n u p)(hs:Gv G S N m s q)(hn:n<=190)(hm:m<=190): C0 132 [.d (dV u),.d (dV s)] (VoG G S N (n+m) (Yjy p q)):=by
 refine En Tryz.func132 λ_ _ _=>?_
 refine Dw rfl ?_
 refine Ca rfl (R13.Neg_g W hs hm) λv hv=>?_
 obtain⟨r,rfl,hr⟩:=hv
 refine Ca rfl (R13.Add_g W hu hr hn hm) λv hv=>?_
 obtain⟨z,rfl,hz⟩:=hv
 exact Rt rfl (.tup (.cons (.rf rfl) Xa6)) ⟨z,rfl,hz⟩
theorem R13.Square_g(W:Wn G S N)(hu:Gv G S N n u p)(hn:n+n<=190): C0 130 [.d (dV u)] (OpG G S N (n+n+(n+n)) (Xi6 G p p)):=by
 refine En Tryz.func130 λ_ _ _=>?_
 refine Ca rfl (R13.Dot_g W hu hu (by omega) (by omega) hn) λv hv=>?_
 obtain⟨z,rfl,hz⟩:=hv
 exact Rt rfl (.tup (.cons (.rf rfl) Xa6)) ⟨z,rfl,hz⟩
theorem R15.vec_ok{u:Vn}: CN0 131 [.ptr 1000001 0,.d (dV u),.d (.int .i64 0)] [(1000001,cal)] (·=.d (dV u)):=by
 refine EnW Tryz.func131 λ_ _ _ _=>?_
 refine Cn [] rfl R15.note_ok λv hv=>?_
 refine No rfl (by decide) ?_
 exact Rw [] [(1000001,cal)] rfl (.one (.rf rfl) rfl rfl) ⟨rfl,rfl⟩
theorem R15.Minus_g(W:Wn G S N)(hu:Gv G S N n u p)(hs:Gv G S N m s q)(hn:n<=190)(hm:m<=190): CN0 78 [.ptr 1000001 0,.d (dV u),.d (dV s)] [(1000001,cal)] (VeG G S N (n+m) (Yjy p q)):=by
 refine EnW Tryz.func78 λ_ _ _ _=>?_
 refine Ca rfl (R13.Sub_g W hu hs hn hm) λv hv=>?_
 obtain⟨z,rfl,hz⟩:=hv
 refine Cn [] rfl R15.vec_ok λv hv=>?_
 subst hv
 exact Rw [] [(1000001,cal)] rfl (.one (.rf rfl) rfl rfl) ⟨rfl,z,rfl,hz⟩
theorem R15.Square_g(W:Wn G S N)(hu:Gv G S N n u p)(hn:n+n<=190): CN0 77 [.ptr 1000001 0,.d (dV u)] [(1000001,cal)] (OnG G S N (n+n+(n+n)) (Xi6 G p p)):=by
 refine EnW Tryz.func77 λ_ _ _ _=>?_
 refine Ca rfl (R13.Square_g W hu hn) λv hv=>?_
 obtain⟨z,rfl,hz⟩:=hv
 refine Cn [] rfl R15.num_ok λv hv=>?_
 subst hv
 exact Rw [] [(1000001,cal)] rfl (.one (.rf rfl) rfl rfl) ⟨rfl,z,rfl,hz⟩
theorem R15.Dot_g(W:Wn G S N)(hu:Gv G S N n u p)(hs:Gv G S N m s q)(hn:n<=190)(hm:m<=190)(h2:n+m<=190): CN0 50 [.ptr 1000001 0,.d (dV u),.d (dV s)] [(1000001,cal)] (OnG G S N (n+m+(n+m)) (Xi6 G p q)):=by
 refine EnW Tryz.func50 λ_ _ _ _=>?_
 refine Ca rfl (R13.Dot_g W hu hs hn hm h2) λv hv=>?_
 obtain⟨z,rfl,hz⟩:=hv
 refine Cn [] rfl R15.num_ok λv hv=>?_
 subst hv
 exact Rw [] [(1000001,cal)] rfl (.one (.rf rfl) rfl rfl) ⟨rfl,z,rfl,hz⟩
theorem R15.Far_g(W:Wn G S N)(hu:Gv G S N n u p)(hs:Gv G S N m s q)(h2:n+m+(n+m)<=190): CN0 38 [.ptr 1000001 0,.d (dV u),.d (dV s)] [(1000001,cal)] (OnG G S N (n+m+(n+m)+(n+m+(n+m))) (Xi6 G (Yjy p q) (Yjy p q))):=by
 refine EnW Tryz.func38 λ_ _ _ _=>?_
 refine Cn [] rfl (R15.Minus_g W hu hs (by omega) (by omega)) λv hv=>?_
 obtain⟨r,rfl,hr⟩:=hv
 refine Cn [] rfl (R15.Square_g W hr h2) λv hv=>?_
 obtain⟨z,rfl,hz⟩:=hv
 exact Rw [] [(1000001,cal)] rfl (.one (.rf rfl) rfl rfl) ⟨rfl,z,rfl,hz⟩
end
end
section
theorem RtOf.mg2{r s:Rat×Rat}{b j:Nat}(R:RtOf r b s)(hr:r.2<=pw (2*j))(h0:0<=r.2): 0<=s.1/\s.2<=pw (j+1):=by
 have h1:=Xh4 (b:=b) h0
 have h2:=Xc4 (mx0 r.1) b
 rw[<-R.lo] at h2
 refine⟨h2,?_⟩
 have h3:Xdm r.2 b<=pw j:=Xqv (W2o (Xa1 j)) (W5l h1 (by rw[<-Ya1];exact hr))
 have h4:=R.h
 have h5:=Xkj b
 have h6:=Xg0 j
 rw[Xcs]
 grind
def mE(m:Nat): Nat->Nat->Nat
 | 0,M=>M
 | k+1,M=>mE m k M+(mE m k m+1)/2+2
def eE(m b:Nat): Nat->Nat->Nat
 | 0,_=>2*b-2
 | k+1,M=>min (eE m b k M) (eE m b k m/2)-(max (mE m k M) ((mE m k m+1)/2)+3)
theorem Yiu(m b:Nat): ∀k M,eE m b k M<=2*b-2
 | 0,_=>W0a _
 | k+1,M=>by have:=Yiu m b k M;show min (eE m b k M) (eE m b k m/2)-(max (mE m k M) ((mE m k m+1)/2)+3)<=_;omega
theorem Yi7{k:Nat}{t:Tw (k+1)}{m b:Nat}(h:Xb5 (k+1) t)(hr:Mg (bx k t.1 t.2 b) (mE m k m)): 0<=(rtb (bx k t.1 t.2 b) b).1/\(rtb (bx k t.1 t.2 b) b).2<=pw ((mE m k m+1)/2+1) :=
 (Xp3 _ b).mg2 (W5l hr.2 (Xia (by omega))) (Xl9 h (Xox h.1 t.2 b))
theorem Xm9: ∀ {k:Nat} {t:Tw k} {a:El k} {m M:Nat} (b:Nat),Xb5 k t->MgT m k t->MgL M (toL k a)->Mg (bx k t a b) (mE m k M)
 | 0,t,a,m,M,b,h,hT,ha=>Yhl (ha _ (W0g.2 rfl))
 | k+1,t,a,m,M,b,h,hT,ha=>by
  have hu:=Xm9 (a:=a.1) (M:=M) b h.1 hT.1 λx hx=>ha x (W2v _ hx)
  have hv:=Xm9 (a:=a.2) (M:=M) b h.1 hT.1 λx hx=>ha x (W1r _ hx)
  have hr:=Xm9 (M:=m) b h.1 hT.1 hT.2
  have h0:=Xl9 h (Xox h.1 t.2 b)
  rw[Xow]
  exact Xpo hu hv (Yi7 h hr) (Ygp h0 (Yi8 h.1 _ _)) (Yi8 h.1 _ _)
theorem Xg7: ∀ {k:Nat} {t:Tw k} {a:El k} {m M b:Nat},Xb5 k t->MgT m k t->MgL M (toL k a)->0<eE m b k M->Wid (bx k t a b) (eE m b k M)
 | 0,t,a,m,M,b,h,hT,ha,he=>⟨W6o,(λ(x:Rat)=>(by grind:(x-x)*pw (eE m b 0 M)<=1)) a⟩
 | k+1,t,a,m,M,b,h,hT,ha,he=>by
  have he':0<min (eE m b k M) (eE m b k m/2)-(max (mE m k M) ((mE m k m+1)/2)+3):=he
  have hle:=Yiu m b k m
  have hu:=Xg7 (a:=a.1) (m:=m) (M:=M) (b:=b) h.1 hT.1 (λx hx=>ha x (W2v _ hx)) (by omega)
  have hv:=Xg7 (a:=a.2) (m:=m) (M:=M) (b:=b) h.1 hT.1 (λx hx=>ha x (W1r _ hx)) (by omega)
  have hr:=Xg7 (m:=m) (M:=m) (b:=b) h.1 hT.1 hT.2 (by omega)
  have mv:=Xm9 (a:=a.2) (M:=M) b h.1 hT.1 λx hx=>ha x (W1r _ hx)
  have mr:=Xm9 (M:=m) b h.1 hT.1 hT.2
  have ms:=Yi7 h mr
  have h0:=Xl9 h (Xox h.1 t.2 b)
  rw[Xow]
  exact Xpn (m:=max (mE m k M) ((mE m k m+1)/2)) (hu.mono (by omega)) (hv.mono (by omega)) hr (by omega) (mv.mono (by omega)) ⟨ms.1,W5l ms.2 (Xia (by omega))⟩ h0 (Xp3 _ b) (by omega) (by omega) (by omega)
theorem Yer{k:Nat}{t:Tw k}{a:El k}(h:Xb5 k t)(hT:MgT 64 k t)(ha:MgL 300 (toL k a))(hk:k<=3): Wid (bx k t a 2048) 1:=by
 have hk:k=0\/k=1\/k=2\/k=3:=by omega
 rcases hk with rfl | rfl | rfl | rfl
 . exact(Xg7 h hT ha (show 0<eE 64 2048 0 300 by decide)).mono (by decide)
 . exact(Xg7 h hT ha (show 0<eE 64 2048 1 300 by decide)).mono (by decide)
 . exact(Xg7 h hT ha (show 0<eE 64 2048 2 300 by decide)).mono (by decide)
 . exact(Xg7 h hT ha (show 0<eE 64 2048 3 300 by decide)).mono (by decide)
theorem Xiw{k:Nat}{t:Tw k}{a:El k}{m:Nat}(h:Xb5 k t)(hT:MgT m k t)(ha:MgL m (toL k a))(hk:k<=3)(hm:m<=10000): ∀b,1000000<=b->Wid (enc k t a b) 1:=λb hb=>by
 have key:∀e,(0<e->Wid (enc k t a b) e)->1<=e->Wid (enc k t a b) 1:=λe h1 h2=>(h1 (by omega)).mono h2
 refine key _ (λhe=>Xq6 h hT ha he) ?_
 have hk:k=0\/k=1\/k=2\/k=3:=by omega
 rcases hk with rfl | rfl | rfl | rfl<;>simp only[eW,mW]<;>omega
end
section
theorem Zs.pow{q:Nat}{z:Int}(h:Zs q z)(n:Nat): Zs (q*n+1) (z^n):=by
 unfold Zs at *
 rw[Int.natAbs_pow]
 have h1:z.natAbs^n<=(2^q)^n:=Nat.pow_le_pow_left (W2e h) n
 rw[<-W5u] at h1
 rw[W0t]
 have:=W0n (q*n)
 omega
theorem Zs.len2{q:Nat}{z:Int}(h:Zs q z)(hq:q<=8000000000000): (dig z.natAbs).length<=274877906944:=by
 have h1:z.natAbs<4294967296^(q/32+1):=by
  rw[show 4294967296=2^32 from rfl,<-W5u]
  exact W0s h (W0j (by decide) (by omega))
 have:=Xas h1
 omega
theorem Xy4{a:Int}(ha:(dig a.natAbs).length<=549755813888): C0 294 [.d (dz a),.d (dz 1)] (·=.d (dz (a-1))):=by
 have h1:(dig (Int.natAbs (-1))).length<=549755813888:=W0h (Xas (n:=1) (k:=1) (by decide)) (by decide)
 have h:=Add_ok (a:=a) (b:=-1) ha h1
 have hc:C0 111 [.d (dz a),.d (.st (.pr (.bool (!decide ((1:Int)<0))) (ws (dig (Int.natAbs 1)))))] (·=.d (dz (a-1))):=h
 refine En Tryz.func294 λ_ _ _=>?_
 refine Ce rfl hc ?_
 exact R1 rfl (.rf rfl)
theorem Xuf{x:Rat}{p:Nat}(hx:Qs p x)(hp:p<=4398046511104): C0 293 [.d (dq x)] (·=.d (dz x.floor)):=by
 have h:=DivMod_ok (a:=x.num) (b:=x.den) (W0h (hx.n.len (by omega)) (by decide)) (W0h (hx.d.len (by omega)) (by decide)) (Xb3 x)
 have e:x.num.fdiv x.den=x.floor:=by
  have:=Xhn x 0
  rw[show pw 0=1 from rfl,Rat.mul_one,Int.pow_zero,W5j] at this
  exact this
 rw[e] at h
 refine En Tryz.func293 λ_ _ _=>?_
 refine Ce rfl h ?_
 exact R1 rfl (.rf rfl)
theorem Yd4{n:Nat}{z:Int}{q:Nat}(hz:Zs q z)(hn:n<=4096)(hq:q<=100000): C0 292 [.d (dz z),.d (.int .i64 n)] (·=.tup (.pr (.d (dz (z^n))) (.d (.int .i64 0)))):=by
 refine En Tryz.func292 λ_ _ _=>?_
 refine No rfl (by omega) ?_
 refine No rfl (by omega) ?_
 refine Dw rfl ?_
 refine Ce rfl (FromInt_ok (z:=1) (by decide)) ?_
 refine Ce rfl (Norm_ok (W0h (hz.len (by omega)) (by decide))) ?_
 refine Lo (λ((m,o,e):Nat×Nat×Nat)=>[(1,.d (.int .i64 m)),(4,.ptr 4 0),(5,.d (.int .i64 0)),(6,.ptr 6 0),(7,.ptr 7 0)]) (λ(m,o,e)=>[(4,.var (.st (.pr (.b false) .nil))),(6,.var (.d (dz (z^o)))),(7,.var (.d (dz (z^e))))]) (λ(m,o,e)=>o+e*m=n/\e<=max n 1/\m<=n) (λ(m,_,_)=>m) (n,0,1) [] rfl ⟨by omega,by omega,W0a n⟩ ?_ (by exact⟨rfl,by show Xsp _ [(4,Ob.var (AV.st (.pr (.b false) .nil))),(6,Ob.var (AV.d (dz (z^0)))),(7,Ob.var (AV.d (dz (z^1))))];rw[Int.pow_zero,show z^1=z by rw[Int.pow_succ,Int.pow_zero,W4r]];rfl,rfl,rfl,rfl⟩)
 rintro⟨m,o,e⟩ ⟨hm,he,hmn⟩
 have hsz:∀j,j<=4096->(dig (z^j).natAbs).length<=549755813888:=λj hj=>by
  have:=Zs.pow hz j
  have hqj:q*j<=100000*4096:=W1x hq hj
  exact W0h (this.len (by omega)) (by decide)
 have ho:o<=4096:=by have:=W0y (e*m);omega
 have he4:e<=4096:=by omega
 refine By rfl (λh=>?_) λh=>?_
 . have h:(m:Int)>0:=h
   have hdm:=W2m m 2
   have hem:e*m=2*(e*(m/2))+e*(m%2):=by
    conv=>lhs;rw[<-hdm,W1b]
    rw[W4q]
   have hq2:arB .quo .i64 (m:Int) 2 ((m/2:Nat):Int):=Yiw (m:=2) rfl (by decide) (by omega)
   have sqr:∀e:Nat,z^e*z^e=z^(e+e):=λe=>(Int.pow_add ..).symm
   refine Ar (m%2:Nat) rfl ?_ (show _/\_ from⟨by decide,Xrq m 2⟩)
   refine By rfl (λh1=>?_) λh1=>?_
   . have h1:m%2=1:=by omega
     rw[h1,W3y] at hem
     refine Ce rfl (Mul_ok (hsz o ho) (hsz e he4)) ?_
     rw[<-Int.pow_add]
     refine Ar (m/2:Nat) rfl ?_ hq2
     refine By rfl (λh2=>?_) λh2=>?_
     . have he2:e*1<=e*(m/2):=W0p e (by omega)
       refine Ce rfl (Mul_ok (hsz e he4) (hsz e he4)) ?_
       rw[sqr]
       exact Bk (m/2,o+e,e+e) [] rfl ⟨by rw[W1i];omega,by omega,by omega⟩ (by show m/2<m;omega)
     . have h20:m/2=0:=by omega
       rw[h20] at hem
       exact Bk (m/2,o+e,e) [] rfl ⟨by rw[h20];omega,he,by omega⟩ (by show m/2<m;omega)
   . have h1:m%2=0:=by omega
     rw[h1,W3b] at hem
     refine Ar (m/2:Nat) rfl ?_ hq2
     have he2:e*1<=e*(m/2):=W0p e (by omega)
     refine Yes rfl (by omega) ?_
     refine Ce rfl (Mul_ok (hsz e he4) (hsz e he4)) ?_
     rw[sqr]
     exact Bk (m/2,o,e+e) [] rfl ⟨by rw[W1i];omega,by omega,by omega⟩ (by show m/2<m;omega)
 . have h:¬(m:Int)>0:=h
   have hm0:m=0:=by omega
   rw[hm0,W3b,W2l] at hm
   rw[hm]
   exact RTt rfl (.cons (.rf rfl) Xa6)
theorem Xtx{k:Nat}{t:Tw k}{a:Tow.El k}{P s:Nat}(hR:Xb5 k t)(hw:∀b,P<=b->Wid (enc k t a b) 1)(hT:TS s k t)(ha:Sz s (toL k a))(hs1:1<=s)(hk:k<=16)(hP:P<=1000000000)(he:eB s (2*(P+1+16)) k<=274877906944)(hv:vB s k (s+eB s (2*(P+1+16)) k+4)<=4398046511104):
 C0 242 [.d (dt t),.d (de a)] λv=>∃z,v=.d (dz z)/\Xdb k t a z/\(dig z.natAbs).length<=274877906944:=by
 have hsB:=W0h (Xdo (r:=s) k _) hv
 obtain⟨B,hB⟩:∃B,B=eB s (2*(P+1+16)) k:=⟨_,rfl⟩
 have hvs:vB s k s<=4398046511104:=W0h (Xcm (by omega)) hv
 have hE:=Xgx (bits:=1) hR hw hT ha hs1 hk hvs (by decide) hP he
 rw[<-hB] at he hv hsB hE
 have hB1:1<=B:=by rw[hB];exact W0h hs1 (Xzk ..)
 refine En Tryz.func242 λ_ _ _=>?_
 refine Ce rfl (Xgr (l:=[toL k a]) (s:=s) hT hR hk hvs (by omega) (λx hx=>⟨a,W0g.1 hx,ha⟩) (by simp) (by omega)) ?_
 refine No rfl (by simp) ?_
 refine Ca rfl hE λv hv'=>?_
 obtain⟨p,rfl,hin,hwd,hq⟩:=hv'
 have hz:=Zs.floor hq.2
 have hfl:=Xy9 hR hin hwd
 have hl0:=Zs.len2 (z:=p.2.floor) hz (by omega)
 have hl1:=Zs.len2 (z:=p.2.floor-1) (q:=B+1) (by unfold Zs at *;rw[W0t];omega) (by omega)
 have hmk:=Make_ok (p:=B) (a:=p.2.floor) (b:=1) hz (Zs.one (by omega)) (by omega) (by decide)
 rw[Xwn] at hmk
 have qz:Qs B ((p.2.floor:Int):Rat):=Qs.int hz (by omega)
 have hzr:=Sz.rat k qz
 refine Ce rfl (Xuf hq.2 (by omega)) ?_
 refine Dw rfl ?_
 refine Ce rfl (FromInt_ok (z:=1) (by decide)) ?_
 refine Ce rfl hmk ?_
 refine Ce rfl (Xcq hT hk (by omega) qz (by omega)) ?_
 refine Ce rfl (Xkn hT ha hzr hk (by omega) (by omega)) ?_
 refine Ce rfl (Xki (s:=s+B+4) hT (by rw[Xax,Xco];exact(ha.add hzr.neg).mono (by omega)) hk hv (by omega)) ?_
 refine By rfl (λh=>?_) λh=>?_
 . refine Dw rfl ?_
   refine Ce rfl (FromInt_ok (z:=1) (by decide)) ?_
   refine Ce rfl (Xy4 (W0h (hz.len (by omega)) (by decide))) ?_
   exact Rt rfl (.one (.rf rfl) rfl rfl) ⟨_,rfl,hfl.1 h,hl1⟩
 . exact Rt rfl (.one (.rf rfl) rfl rfl) ⟨_,rfl,hfl.2 h,hl0⟩
end
end Go.Proofs.YtgpipgjbkggjpaaGreatDoor
namespace Go.Proofs.YtgpipgjbkggjpaaGreatDoor.P9
open Go Go.Vm Go.Num Go.Tow Go.Proofs.YtgpipgjbkggjpaaGreatDoor
abbrev nq(q:Rat): Nm:=⟨0,(),q⟩
theorem Yhp{k:Nat}{q:Rat}: Lf (k:=0) (m:=k) q (rat k q):=by
 show toL k (rat k q)=[q]++_
 rw[Xcn];rfl
section
variable{r p s:Nat}{x:Nm}{q:Rat}
theorem Xzq(hr:TS r x.k x.t)(hk:x.k<=8)(hr2:r<=4000000000): C0 214 [.d (dNs [x,nq q])] (·=.tup (.pr (.d (dt x.t)) (.d (.int .i64 0)))):=by
 refine En Tryz.func214 λ_ _ _=>?_
 refine Nd 4 1 rfl ?_
 refine Lo (λ(s:Nat×(Σ m,Tw m))=>[(2,.nil),(3,.d (.int .i64 0)),(4,.d (dt s.2.2)),(9,.d (dNs [x,nq q])),(10,.d (.int .i64 2)),(11,.d (.int .i64 s.1))]) (λ_=>[]) (λs=>(s.1=0/\s.2=⟨0,()⟩)\/(s.1=1/\s.2=⟨x.k,x.t⟩)\/(s.1=2/\s.2=⟨x.k,x.t⟩)) (λs=>2-s.1) (0,⟨0,()⟩) [] rfl (.inl ⟨rfl,rfl⟩) (λ(i,⟨m,T⟩) hI=>?_)
 simp only at hI
 rcases hI with ⟨rfl,e⟩ | ⟨rfl,e⟩ | ⟨rfl,e⟩
 . cases e
   refine Yes rfl (show ((0:Nat):Int)<2 by decide) ?_
   refine Ix 0 rfl (u:=dN x) rfl ?_
   refine Ce rfl (begins_ok (T:=[]) (U:=toT x.k x.t) (p:=1) (λi r h=>by simp at h) (TS.pt hr) (by omega) (by decide)) ?_
   refine By rfl (λh=>?_) λh=>?_
   . obtain⟨kx,tx,ax⟩:=x
     have h:[]=toT kx tx:=by simpa using h
     obtain rfl:kx=0:=by have:=congrArg List.length h;rw[Xaa] at this;exact this.symm
     refine Ar (0+1:Nat) rfl ?_
     exact Bk (1,⟨0,tx⟩) [] rfl (.inr (.inl ⟨rfl,rfl⟩)) (show 1<2 by decide)
   . refine Ce rfl (begins_ok (U:=[]) (q:=1) (TS.pt hr) (λi r h=>by simp at h) (by omega) (by rw[Xaa];omega)) ?_
     refine Yes rfl (by simp) ?_
     refine Ar (0+1:Nat) rfl ?_
     exact Bk (1,⟨x.k,x.t⟩) [] rfl (.inr (.inl ⟨rfl,rfl⟩)) (show 1<2 by decide)
 . cases e
   refine Yes rfl (show ((1:Nat):Int)<2 by decide) ?_
   refine Ix 1 rfl (u:=dN (nq q)) rfl ?_
   refine Ce rfl (begins_ok (T:=toT x.k x.t) (U:=[]) (q:=1) (TS.pt hr) (λi r h=>by simp at h) (by omega) (by rw[Xaa];omega)) ?_
   refine Yes rfl (by simp) ?_
   refine Ar (1+1:Nat) rfl ?_
   exact Bk (2,⟨x.k,x.t⟩) [] rfl (.inr (.inr ⟨rfl,rfl⟩)) (show 0<1 by decide)
 . cases e
   refine No rfl (show ¬((2:Nat):Int)<2 by decide) ?_
   exact R0t
theorem Yjr(hr:TS r x.k x.t)(hp:Sz p (toL x.k x.a))(hq:Qs s q)(hk:x.k<=8)(hr2:r<=4000000000)(hp2:p<=4000000000)(hs2:s<4000000000): C0 139 [.d (dNs [x,nq q])] (·=.tup (.pr (.d (dNs [x,⟨x.k,x.t,rat x.k q⟩])) (.d (.int .i64 0)))):=by
 have hc:=Xzq (q:=q) hr hk hr2
 refine En Tryz.func139 λ_ _ _=>?_
 refine Ce rfl hc ?_
 refine No rfl (by decide) ?_
 refine Nl 6 6 2 rfl ?_
 refine Lo (λ(j:Nat)=>[(2,.nil),(3,.d (.int .i64 0)),(4,.d (dt x.t)),(6,.gr 6 2 (([x,⟨x.k,x.t,rat x.k q⟩].take j).map dN)),(20,.d (dNs [x,nq q])),(21,.d (.int .i64 2)),(22,.d (.int .i64 j))]) (λj=>[(6,.tok (([x,⟨x.k,x.t,rat x.k q⟩].take j).map dN).length 2)])
  (λj=>j<=2) (λj=>2-j) 0 [] rfl (W0y _) (λj hj=>?_)
 have hj:j=0\/j=1\/j=2:=by omega
 rcases hj with rfl | rfl | rfl
 . refine Yes rfl (show ((0:Nat):Int)<2 by decide) ?_
   refine Ix 0 rfl (u:=dN x) rfl ?_
   refine Ce rfl (begins_ok (T:=toT x.k x.t) (U:=toT x.k x.t) (TS.pt hr) (TS.pt hr) (by omega) (by rw[Xaa];omega)) ?_
   refine Yes rfl (W2j ..) ?_
   refine Ce rfl (Xqg (T:=x.t) (Lf.rfl' x.a) (W0a _) (by omega)) ?_
   refine Ce rfl (Xej (x:=x) hr hp (by omega) (by omega) (by omega)) ?_
   refine ApG ([x].map dN) rfl (by simp) (by simp) ?_
   refine Ar (0+1:Nat) rfl ?_
   exact Bk 1 [(6,90),(56,6)] rfl (show 1<=2 by decide) (show 2-1<2-0 by decide)
 . refine Yes rfl (show ((1:Nat):Int)<2 by decide) ?_
   refine Ix 1 rfl (u:=dN (nq q)) rfl ?_
   refine Ce rfl (begins_ok (T:=toT x.k x.t) (U:=[]) (q:=1) (TS.pt hr) (λi r h=>by simp at h) (by omega) (by rw[Xaa];omega)) ?_
   refine Yes rfl (by simp) ?_
   refine Ce rfl (Xqg (k:=0) (T:=x.t) (Yhp (q:=q)) (W0y _) (by omega)) ?_
   refine Ce rfl (Xej (x:=⟨x.k,x.t,rat x.k q⟩) hr (Sz.rat x.k hq) (show _<=16 by show x.k<=16;omega) (by omega) (by omega)) ?_
   refine ApG ([x,⟨x.k,x.t,rat x.k q⟩].map dN) rfl (by simp) (by simp) ?_
   refine Ar (1+1:Nat) rfl ?_
   exact Bk 2 [(6,90),(56,6)] rfl (show 2<=2 by decide) (show 2-2<2-1 by decide)
 . refine No rfl (show ¬((2:Nat):Int)<2 by decide) ?_
   exact RTt rfl (.cons (.gr rfl) Xa6)
theorem Xm1{f:FuncId}{z:Tow.El x.k}(hf:C0 f [.d (dt x.t),.d (de x.a),.d (de (rat x.k q))] (·=.d (de z)))(hr:TS r x.k x.t)(hp:Sz p (toL x.k x.a))(hq:Qs s q)(hk:x.k<=8)(hr2:r<=4000000000)(hp2:p<=4000000000)(hs2:s<4000000000): C0 84 [.d (dN x),.d (dN (nq q)),.d (fnD f)] (·=.tup (.pr (.d (dN ⟨x.k,x.t,z⟩)) (.d (.int .i64 0)))):=by
 refine En Tryz.func84 λ_ _ _=>?_
 refine Ce rfl (Yjr hr hp hq hk hr2 hp2 hs2) ?_
 refine No rfl (by simp) ?_
 refine Ix 0 rfl (u:=dN x) rfl ?_
 refine Dw rfl ?_
 refine Ix 0 rfl (u:=dN x) rfl ?_
 refine Ix 1 rfl (u:=dN ⟨x.k,x.t,rat x.k q⟩) rfl ?_
 refine Ce rfl hf ?_
 exact RTt rfl (.cons (.rf rfl) Xa6)
theorem Ymw(hr:TS r x.k x.t)(hp:Sz p (toL x.k x.a))(hq:Qs s q)(hk:x.k<=8)(hr2:r<=4000000000)(hp2:p<=2000000000)(hs2:s<2000000000): C0 43 [.d (dN x),.d (dN (nq q))] (·=.tup (.pr (.d (dN ⟨x.k,x.t,Tow.add x.k x.a (rat x.k q)⟩)) (.d (.int .i64 0)))):=by
 refine En Tryz.func43 λ_ _ _=>?_
 refine Ce rfl (Xm1 (Xh1 hr hp (Sz.rat x.k hq) (by omega) (by omega) (by omega)) hr hp hq hk hr2 (by omega) (by omega)) ?_
 exact R0t
theorem Ymr(hr:TS r x.k x.t)(hp:Sz p (toL x.k x.a))(hq:Qs s q)(hk:x.k<=8)(hr2:r<=4000000000)(hp2:p<=2000000000)(hs2:s<2000000000)(hc:cB r x.k<=1000000000): C0 73 [.d (dN x),.d (dN (nq q))] (·=.tup (.pr (.d (dN ⟨x.k,x.t,Tow.mul x.k x.t x.a (rat x.k q)⟩)) (.d (.int .i64 0)))):=by
 refine En Tryz.func73 λ_ _ _=>?_
 refine Ce rfl (Xm1 (Xdr hr hp (Sz.rat x.k hq) (by omega) (by omega) (by omega)) hr hp hq hk hr2 (by omega) (by omega)) ?_
 exact R0t
end
end Go.Proofs.YtgpipgjbkggjpaaGreatDoor.P9
namespace Go.Num
section
def dec(n:Nat): List UInt8:=if h:n<10 then [UInt8.ofNat (48+n)] else dec (n/10)++[UInt8.ofNat (48+n%10)]
termination_by n
decreasing_by omega
theorem Xd1{n:Nat}(h:n<10): dec n=[UInt8.ofNat (48+n)]:=by rw[dec,dif_pos h]
theorem Xf7{n:Nat}(h:10<=n): dec n=dec (n/10)++[UInt8.ofNat (48+n%10)]:=by rw[dec,dif_neg (by omega)]
theorem Xwt(n:Nat): dec n≠[]:=by
 rw[dec];split<;>simp
theorem Xwr(n:Nat): 0<(dec n).length:=W6q.2 (Xwt n)
theorem Xfi: ∀(k n:Nat),n<10^(k+1)->(dec n).length<=k+1
 | 0,n,h=>by rw[Xd1 (by simpa using h)];simp
 | k+1,n,h=>by
  by_cases h1:n<10
  . rw[Xd1 h1];simp
  . rw[Xf7 (by omega),W0e]
    have:=Xfi k (n/10) (W4m (by rw[W0t] at h;omega))
    simp;omega
theorem Xew: ∀(k n:Nat),10^k<=n->k+1<=(dec n).length
 | 0,n,h=>Xwr n
 | k+1,n,h=>by
  rw[W0t] at h
  have:0<10^k:=Nat.pow_pos (by decide)
  rw[Xf7 (by omega),W0e]
  have:=Xew k (n/10) (by omega)
  simp;omega
theorem Yix(n:Nat): n<10^(dec n).length:=by
 induction n using Nat.strongRecOn with
 | ind n ih =>
  by_cases h:n<10
  . rw[Xd1 h];simpa using h
  . rw[Xf7 (by omega),W0e]
    have:=ih (n/10) (by omega)
    simp only[W6k]
    rw[W0t];omega
def tx(z:Int): List UInt8:=(if z<0 then [45] else [])++dec z.natAbs
theorem Xyo(l:Nat): 4294967296^l<=10^(10*l):=by
 rw[W5u];exact Nat.pow_le_pow_left (by decide) l
theorem Xot(n:Nat): (dec n).length<=10*(dig n).length+1:=by
 refine Xfi _ n (W0s (W0s (by have:=Xby (Xad n);rwa[Xag] at this) (Xyo _)) (W0j (by decide) (by omega)))
theorem dg{d:Nat}(h:d<10): (UInt8.ofNat (48+d)).toNat=48+d:=by
 rw[UInt8.toNat_ofNat'];exact W3a (by omega)
def Xvi(b:UInt8): Prop:=48<=b.toNat/\b.toNat<=57
theorem Yiy(n:Nat): ∀b∈dec n,Xvi b:=by
 induction n using Nat.strongRecOn with
 | ind n ih =>
  intro b hb
  by_cases h:n<10
  . rw[Xd1 h,W0g] at hb;subst hb;exact⟨by rw[dg h];omega,by rw[dg h];omega⟩
  . rw[Xf7 (by omega),W2k,W0g] at hb
    rcases hb with hb | hb
    . exact ih _ (by omega) b hb
    . subst hb;have:=W1q n (show 0<10 by decide);exact⟨by rw[dg this];omega,by rw[dg this];omega⟩
def pad(k:Nat)(d:List UInt8): List UInt8:=List.replicate (k+1-d.length) 48++d
theorem Ydc(k:Nat)(d:List UInt8): (pad k d).length=max (k+1) d.length:=by simp[pad];omega
def pt(k:Nat)(p:List UInt8): List UInt8:=if k=0 then p else p.take (p.length-k)++46::p.drop (p.length-k)
def txt(z:Int)(k:Nat): List UInt8:=(if z<0 then [45] else [])++pt k (pad k (dec z.natAbs))
def Xxr(l:List UInt8): Nat:=l.foldl (λa b=>10*a+(b.toNat-48)) 0
theorem Xmy(l:List UInt8)(b:UInt8): Xxr (l++[b])=10*Xxr l+(b.toNat-48):=by simp[Xxr]
theorem Xx7{p:List UInt8->Prop}(h0:p [])(hs:∀l b,p l->p (l++[b]))(l:List UInt8): p l:=by
 rw[<-List.reverse_reverse l]
 induction l.reverse with
 | nil=>exact h0
 | cons b l ih=>rw[List.reverse_cons];exact hs _ _ ih
theorem Yei{l:List UInt8}(h:∀b∈l,Xvi b): Xxr l<10^l.length:=by
 induction l using Xx7 with
 | h0=>decide
 | hs l b ih =>
  have h1:=ih λx hx=>h x (W2v _ hx)
  have h2:=h b (W1r _ (W0g.2 rfl))
  unfold Xvi at h2
  rw[Xmy,W0e,W6k,W0t]
  omega
theorem Xzl(b:UInt8): Xxr [b]=b.toNat-48:=by simp[Xxr]
end
section
def isD(b:UInt8): Bool:=decide (48<=b.toNat)&&decide (b.toNat<=57)
theorem Ylr{b:UInt8}: isD b=true↔Xvi b:=by simp[isD,Xvi]
def z0(l:List UInt8): Bool:=l.all (·==48)
def fr(ng:Bool)(a b:List UInt8): Rat:=if ng then -(((Xxr (a++b):Int):Rat)/((10^b.length:Int):Rat)) else ((Xxr (a++b):Int):Rat)/((10^b.length:Int):Rat)
end
end Go.Num
namespace Go.Vm
open Go
section
section
variable{c:Cx}{s:St}{p:Pl}
noncomputable def Ync(tb:Nat->Option TI)(n:Nat)(s:St): Option (Pl×List UInt8×List UInt8):=match nxA tb n s with
 | some (p,o,[.d (.str a),.d (.str b)])=>match o.op with
  | .binOp op _ _ _ _=>match op with
   | .add=>some (p,a,b)
   | _=>none
  | _=>none
 | _=>none
theorem Sc{a b:List UInt8}(t:List UInt8)(h:Ync c.tb c.n s=some (p,a,b))(ht:a++b=t)(hl:a.length+b.length<9223372036854775808)(kk:p.nx c (.d (.str t))): StP c s:=by
 subst ht
 unfold Ync at h
 split at h<;>try cases h
 rename_i hA
 split at h<;>try cases h
 rename_i ho
 split at h<;>cases h
 refine Xbr (us:=[]) hA ?_ (Pl.nx_nil kk)
 rw[ho]
 simp only[F,Fp,Xz9,if_pos hl]
noncomputable def Yhb(tb:Nat->Option TI)(n:Nat)(s:St): Option (Pl×List UInt8×Option Int×Option Int):=match nxA tb n s with
 | some (p,o,asx)=>match o.op with
  | .slice T _ lo hi mx=>match tb T with
   | some ti=>match ti.z,Xji lo hi mx asx with
    | .str _,some (.d (.str s),l,h,none)=>some (p,s,l,h)
    | _,_=>none
   | none=>none
  | _=>none
 | none=>none
theorem Xoa{t:List UInt8}{r:AV}{l h':Option Int}(h:Yhb c.tb c.n s=some (p,t,l,h'))(hr:slS t l h'=some r)(k:p.nx c r): StP c s:=by
 unfold Yhb at h
 split at h<;>try cases h
 rename_i hA
 split at h<;>try cases h
 rename_i ho
 split at h<;>try cases h
 rename_i ti ht
 split at h<;>cases h
 rename_i hz hs
 refine Xbr (us:=[]) hA ?_ (Pl.nx_nil k)
 rw[ho]
 simp only[F,Fp,ht,hz,hs,hr]
theorem Stk(j:Nat)(zs:List UInt8){i:Int}{xs:List UInt8}(h:Yhb c.tb c.n s=some (p,xs,none,some i))(hl:j<=xs.length)(hz:xs.take j=zs)(k:p.nx c (.d (.str zs)))(hj:i=j:=by first | exact rfl | omega): StP c s:=by
 subst hj;subst hz
 refine Xoa h ?_ k
 rw[slS,if_pos ⟨by omega,by omega⟩];simp
theorem Sdp(j:Nat)(zs:List UInt8){i:Int}{xs:List UInt8}(h:Yhb c.tb c.n s=some (p,xs,some i,none))(hl:j<=xs.length)(hz:xs.drop j=zs)(k:p.nx c (.d (.str zs)))(hj:i=j:=by first | exact rfl | omega): StP c s:=by
 subst hj;subst hz
 refine Xoa h ?_ k
 rw[slS,if_pos ⟨by omega,by omega⟩];simp
theorem Smd(i j:Nat)(zs:List UInt8){i' j':Int}{xs:List UInt8}(h:Yhb c.tb c.n s=some (p,xs,some i',some j'))(hl:i<=j/\j<=xs.length)(hz:(xs.drop i).take (j-i)=zs)(k:p.nx c (.d (.str zs)))(hi:i'=i:=by first | exact rfl | omega)(hj:j'=j:=by first | exact rfl | omega): StP c s:=by
 subst hi;subst hj;subst hz
 refine Xoa h ?_ k
 rw[slS,if_pos ⟨by omega,by omega,by omega⟩];simp
noncomputable def Ynk(tb:Nat->Option TI)(n:Nat)(s:St): Option (Pl×AV):=match nxA tb n s with
 | some (p,o,[a])=>match o.op with
  | .convert S T _=>match tb S,tb T,Ydz a with
   | some ⟨.sl _ _,.int .u8 _,_,_⟩,some ⟨.str _,_,_,_⟩,true=>some (p,a)
   | _,_,_=>none
  | _=>none
 | _=>none
theorem Bs(zs:List UInt8){a:AV}(h:Ynk c.tb c.n s=some (p,a))(hz:Yjz a=some zs)(kk:p.nx c (.d (.str zs))): StP c s:=by
 unfold Ynk at h
 split at h<;>try cases h
 rename_i hA
 split at h<;>try cases h
 rename_i ho
 split at h<;>cases h
 rename_i h1 h2 h3
 refine Xbr (us:=[]) hA ?_ (Pl.nx_nil kk)
 rw[ho]
 have:∀k z,a≠.d (.int k z):=λk z e=>by subst e;cases h3
 cases a with
 | d x=>cases x<;>first | exact absurd rfl (this _ _) | simp only[F,Fp,h2,h1,hz]
 | _=>simp only[F,Fp,h2,h1,hz]
end
end
section
theorem Xwx{W:GW}{z:D}: ∀ {cs:List Value},(∀x∈z.comps,x.size=1)->D.At W z cs->AtL W 1 z.comps cs/\cs.length=z.comps.length:=by
 have one:∀ {x:D} {cs:List Value},x.size=1->D.At W x cs->AtL W 1 [x] cs/\cs.length=1:=λ{x cs} h1 h =>
  ⟨λi y hi=>by
   cases i with
   | zero=>simp at hi;subst hi;exact⟨cs,h,h1,λj v hj=>by simpa using hj⟩
   | succ i=>simp at hi,by rw[D.at_len x h,h1]⟩
 induction z using D.ind with
 | leaf x h1 h2 =>
  intro cs hs h
  have e:x.comps=[x]:=by cases x<;>first | rfl | exact absurd rfl (h2 _ _)
  rw[e] at hs |-
  exact one (hs x (W0g.2 rfl)) h
 | st a _=>intro cs hs h;exact one (hs _ (W0g.2 rfl)) h
 | pr a c _ ih =>
  intro cs hs ⟨u,v,e,h1,h2⟩
  have hs:∀x∈a::c.comps,x.size=1:=hs
  obtain⟨k1,k2⟩:=one (hs a (W0v ..)) h1
  obtain⟨k3,k4⟩:=ih (λx hx=>hs x (W1c _ hx)) h2
  subst e
  have:=k1.app k3 (by rw[k2];rfl)
  exact⟨this,by rw[W0e,k2,k4];show _=(a::c.comps).length;simp;omega⟩
theorem Stp.vara{N:Nat->Prop}{W:GW}{θ:Loc}{g:Hp}(h:Obs W θ N g){o d b n sz:Nat}{a:AV}{xs:List D}(ho:g o=some (.var a))(hb:(θ o).1=some b)(hB:d<1000000)(hd:g d=none)(hx:(Ob.arr sz xs).R W (λi=>if i=d then (some b,n) else θ i) d):
 Stp N W W θ (λi=>if i=d then (some b,n) else θ i) g (upd (upd g o .dead) d (.arr sz xs)) where
 os:=_root_.rfl
 out:=_root_.rfl
 tape:=_root_.rfl
 size:=W0a _
 same:=λ_ _ _=>_root_.rfl
 A:=λ_ _ _ _=>W3u
 le:=LeF.refl W
 th:=λi y hy=>if_neg λe=>by rw[e,hd] at hy;cases hy
 hi:=λi h=>if_neg (by omega)
 obs:=by
  have hg:∀ {i:Nat} {y:Ob},upd (upd g o .dead) d (.arr sz xs) i=some y->(i=d/\y=.arr sz xs)\/(i≠d/\i=o/\y=.dead)\/(i≠d/\i≠o/\g i=some y):=λ{i y} hy=>by
   rcases Xae hy with ⟨e1,e2⟩ | ⟨e1,e2⟩
   . exact .inl ⟨e1,e2⟩
   . rcases Xae e2 with ⟨f1,f2⟩ | ⟨f1,f2⟩
     . exact .inr (.inl ⟨e1,f1,f2⟩)
     . exact .inr (.inr ⟨e1,f1,f2⟩)
  have hnd:∀ {i:Nat},(∃z,g i=some z)->i≠d:=λ⟨z,hz⟩ e=>by rw[e,hd] at hz;cases hz
  refine⟨λi y hy=>?_,λi y b' hy hl hb'=>?_,λi j y y' b' hy hy' hl hl' b1 b2=>?_,λi y j hy hj=>?_⟩
  . rcases hg hy with ⟨rfl,rfl⟩ | ⟨_,_,rfl⟩ | ⟨e1,e2,e3⟩
    . exact hx
    . trivial
    . exact(h.r i y e3).keep (LeF.refl W) (if_neg e1) (λj hj=>if_neg (hnd (h.ids i y j e3 hj))) λ_ _ _=>⟨_root_.rfl,λ_ h=>h⟩
  . rcases hg hy with ⟨rfl,rfl⟩ | ⟨_,_,rfl⟩ | ⟨e1,e2,e3⟩
    . rw[if_pos _root_.rfl] at hb'
      exact h.new o _ b' ho _root_.rfl (hb.trans hb')
    . cases hl
    . rw[if_neg e1] at hb';exact h.new i y b' e3 hl hb'
  . rcases hg hy with ⟨rfl,rfl⟩ | ⟨_,_,rfl⟩ | ⟨e1,e2,e3⟩
    . rcases hg hy' with ⟨rfl,rfl⟩ | ⟨_,_,rfl⟩ | ⟨f1,f2,f3⟩
      . exact _root_.rfl
      . cases hl'
      . rw[if_pos _root_.rfl] at b1;rw[if_neg f1] at b2
        exact absurd (h.dis j o y' _ b' f3 ho hl' _root_.rfl b2 (hb.trans b1)) f2
    . cases hl
    . rcases hg hy' with ⟨rfl,rfl⟩ | ⟨_,_,rfl⟩ | ⟨f1,f2,f3⟩
      . rw[if_pos _root_.rfl] at b2;rw[if_neg e1] at b1
        exact absurd (h.dis i o y _ b' e3 ho hl _root_.rfl b1 (hb.trans b2)) e2
      . cases hl'
      . rw[if_neg e1] at b1;rw[if_neg f1] at b2;exact h.dis i j y y' b' e3 f3 hl hl' b1 b2
  . rcases hg hy with ⟨rfl,rfl⟩ | ⟨_,_,rfl⟩ | ⟨e1,e2,e3⟩
    . exact hj.elim
    . exact hj.elim
    . have hz:=h.ids i y j e3 hj
      rw[Xak (hnd hz)]
      by_cases e:j=o
      . subst e;exact⟨_,Xai _ _ _⟩
      . rw[Xak e];exact hz
 dom:=λi y hy=>by
  rw[Xak (λe=>by rw[e,hd] at hy;cases hy)]
  by_cases e:i=o
  . subst e;exact⟨_,Xai _ _ _⟩
  . exact⟨y,by rw[Xak e];exact hy⟩
section
variable{c:Cx}{s:St}{p:Pl}
noncomputable def Ym9(tb:Nat->Option TI)(n id t:Nat)(s:St): Option (List Kt×Env×Hpl×Nat×D):=match runT tb n id 1000 s with
 | .j _ K E H=>match look E t with
  | some (.ptr o 0)=>match look H o with
   | some (.var (.d (.st z)))=>some (K,E,H,o,z)
   | _=>none
  | _=>none
 | _=>none
theorem Va(id t d m:Nat)(xs:List D){K:List Kt}{E:Env}{H:Hpl}{o:Nat}{z:D}(h:Ym9 c.tb c.n id t s=some (K,E,H,o,z))(hz:z.comps=xs)(hs:∀x∈xs,x.size=1)(hm:xs.length=m)(k:StP c (.j [] K ((t,.ap d m)::E) ((d,.arr 1 xs)::(o,.dead)::H)))
 (hd:(Nat.blt d 1000000 && !Xce H d&&Nat.blt m 1000000)=true:=by exact rfl):StP c s:=by
 subst hz
 simp only[W0f,W1p] at hd
 obtain⟨⟨hd1,hd2⟩,hm1⟩:=hd
 have hd1:=Xqq hd1
 have hm1:=Xqq hm1
 have hdn:look H d=none:=Xbh hd2
 unfold Ym9 at h
 split at h<;>try cases h
 rename_i hr
 split at h<;>try cases h
 rename_i he
 split at h<;>cases h
 rename_i ho
 refine Xgm (id:=id) 1000 ?_
 rw[hr]
 rintro a w ⟨s0,W,θ,hw,hs0,hθ,rfl⟩
 obtain⟨b,cs,T',r1,r2,r3,r4⟩:=hs0.obs.r _ _ ho
 have r3:D.At W z cs:=r3
 obtain⟨k1,k2⟩:=Xwx hs r3
 have st:=Stp.vara (n:=m) (sz:=1) (xs:=z.comps) hs0.obs ho r1 hd1 hdn ⟨b,cs,T',by simp,r2,by rw[k2,hm];simp,by simp only[if_true];omega,by simp only[if_true];omega,k1,r4⟩
 have h1:=hs0.step0 st
 refine k a w ⟨_,W,_,hw,?_,λi hi=>(st.hi i hi).trans (hθ i hi),rfl⟩
 rw[show sem ((t,AV.ap d m)::E) ((d,Ob.arr 1 z.comps)::(o,Ob.dead)::H)=(upd (look E) t (.ap d m),upd (upd (look H) o .dead) d (.arr 1 z.comps)) by rw[Xa3,Xa3,Xa3]]
 refine⟨h1.fm,⟨h1.rel.defers,h1.rel.size,λq v hq=>?_⟩,h1.obs,λq v i hq hi=>?_⟩
 . rcases Xae hq with ⟨e1,e2⟩ | ⟨e1,e2⟩
   . subst e1;subst e2
     obtain⟨b',f1,f2⟩:=Xjc (hs0.rel.has q _ he)
     rw[r1] at f1;injection f1 with f1;subst f1
     exact⟨_,⟨b,by simp,by simp,rfl⟩,f2⟩
   . exact h1.rel.has q v e2
 . rcases Xae hq with ⟨e1,e2⟩ | ⟨e1,e2⟩
   . subst e2
     have hi:i=d:=hi
     subst hi
     exact⟨_,Xai _ _ _⟩
   . exact h1.ids q v i e2 hi
noncomputable def Yna(tb:Nat->Option TI)(n:Nat)(s:St): Option (Pl×Oper×TypeId×Operand×Operand×Nat×Nat×Nat×Nat×D×Int):=match nxO tb n s with
 | some (p,o)=>match o.op,p.dr with
  | .slice T x none (some y) none,false=>match Xcw (look p.E) x,Xcw (look p.E) y,tb T with
   | some (.ap q m),some (.d (.int _ j)),some ⟨.st z,e,eb,ar⟩=>match Nat.beq m ar,look p.H q with
    | true,some _=>some (p,o,T,x,y,q,m,e.size,eb,z,j)
    | _,_=>none
   | _,_,_=>none
  | _,_=>none
 | none=>none
theorem Sp(j:Nat){o:Oper}{T:TypeId}{x y:Operand}{q m sz eb:Nat}{z:D}{i:Int}(h:Yna c.tb c.n s=some (p,o,T,x,y,q,m,sz,eb,z,i))(hj:j<=m)(h0:0<m)(k:p.nx c (.own q sz 0 j))(hm:m<1000000)(hi:i=(j:Int):=by first | exact rfl | omega): StP c s:=by
 subst hi
 unfold Yna at h
 split at h<;>try cases h
 rename_i p' o' ho
 split at h<;>try cases h
 rename_i T' x' y' hop hdr
 split at h<;>try cases h
 rename_i k2 e eb' ar hx hy hti
 split at h<;>cases h
 rename_i hH hma
 have hma:=W0d hma
 subst hma
 refine Xr4 (us:=[]) ho (by unfold Xao;rw[hop];rfl) hdr (λN W θ ρ _ hO hN hB hv=>?_) (Pl.nx_nil k)
 obtain⟨hk,_⟩:=c.hT _ _ hti
 obtain⟨t,u1,_,u3⟩:=hk.u
 simp only[show ¬m=0 by omega,if_false] at u3
 obtain⟨E,e1,i,v0,i1,i2,_⟩:=u3
 subst e1
 obtain⟨cs,⟨b,f1,f2,f3⟩,f4⟩:=hv _ _ hx
 subst f3
 have f4:ρ x=.pointer (some ⟨b,0,none⟩):=f4
 obtain⟨ey,_⟩:=Xda (hv _ _ hy)
 have hg:(sem p.E p.H).2 q=some _:=hH
 refine .val (u:=.slice (some ⟨b,0,none⟩) j m) hO ?_ ?_ (λi hi=>by subst hi;exact⟨_,hg⟩)
 . have hm0:¬m=0:=by omega
   simp[execOp,hop,f4,ey,Instr.sliceAt,Instr.sureAddr,Instr.sliceBounds,Instr.sliceBound,asIntOf,sizeOf,typeInfo,underlying,program,bind,Sem.bind,Sem.run,pure,u1,i1,i2,hm0,hj,add0]
 . exact⟨[.slice (some ⟨b,0,none⟩) j m],⟨b,some ⟨b,0,none⟩,f1,by omega,by omega,by rw[f2,W6x],λ_=>by rw[W5c]⟩,rfl⟩
noncomputable def Ynl(tb:Nat->Option TI)(n:Nat)(s:St): Option (Pl×Oper×TypeId×TypeId×Operand×Nat×Nat×Nat×List D):=match nxO tb n s with
 | some (p,o)=>match o.op,p.dr with
  | .convert S T x,false=>match Xcw (look p.E) x,tb S,tb T with
   | some (.own q 1 l m),some ⟨.sl _ _,.int .u8 _,_,_⟩,some ⟨.str _,_,_,_⟩=>match look p.H q with
    | some (.arr 1 xs)=>some (p,o,S,T,x,q,l,m,xs)
    | _=>none
   | _,_,_=>none
  | _,_=>none
 | none=>none
theorem Bo(zs:List UInt8){o:Oper}{S T:TypeId}{x:Operand}{q l m:Nat}{xs:List D}(h:Ynl c.tb c.n s=some (p,o,S,T,x,q,l,m,xs))(hl:l+m<=xs.length)(hz:Xzw ((xs.drop l).take m)=some zs)(k:p.nx c (.d (.str zs))): StP c s:=by
 unfold Ynl at h
 split at h<;>try cases h
 rename_i p' o' ho
 split at h<;>try cases h
 rename_i S' T' x' hop hdr
 split at h<;>try cases h
 rename_i hx hS hT
 split at h<;>cases h
 rename_i hH
 refine Xr4 (us:=[]) ho (by unfold Xao;rw[hop];rfl) hdr (λN W θ ρ _ hO hN hB hv=>?_) (Pl.nx_nil k)
 obtain⟨hk,_⟩:=c.hT _ _ hS
 obtain⟨t,u1,_,E,u3,_⟩:=hk.u
 subst u3
 obtain⟨t',u1',_,u3⟩:=(c.hT _ _ hT).1.u
 have u3:t'=.string:=u3
 subst u3
 have ue:=hk.k E _ _ u1 rfl
 obtain⟨b,pp,f1,f2,f3,e,f5⟩:=Xlw (hv _ _ hx)
 obtain⟨b',bs,T1,r1,r2,r3,r4,r5,r6,r7⟩:=hO.r _ _ hH
 rw[f1] at r1;injection r1 with r1;subst r1
 obtain⟨ns,hn1,rfl⟩:=Xlt hz
 have hlen:ns.length=m:=by
  have:=congrArg List.length hn1
  simp at this;omega
 refine .val (u:=.string ⟨(ns.map λz=>UInt8.ofNat z.toNat).toArray⟩) hO ?_ (Xnu (by simp;omega)) (λ_ h=>h.elim)
 have hc:(convert S T (ρ x)).run c.P W.w=.ok (.string ⟨(ns.map λz=>UInt8.ofNat z.toNat).toArray⟩) W.w:=by
  rw[e,run_convert_bytes_string W.w S T E pp _ _ u1 ue u1']
  by_cases hm0:m=0
  . subst hm0
    have:ns=[]:=W4n.1 hlen
    subst this
    cases pp with
    | none=>rfl
    | some a=>exact run_bytesToString W.w a _ _ [] rfl
  . rw[f5 (by omega)]
    rw[run_bytesToString W.w _ _ _ ns (by
     have h:=run_loadCells (P:=c.P) (b:=b) (off:=l*1) (w:=W.w) (ns.map (Value.int .u8)) 0 #[] (λj v hj=>by
      rw[W1o] at hj
      cases hz:ns[j]? with
      | none=>rw[hz] at hj;cases hj
      | some z =>
       rw[hz] at hj;injection hj with hj;subst hj
       have hj':((xs.drop l).take m)[j]?=some (.int .u8 z):=by rw[hn1,W1o,hz];rfl
       have hj2:xs[l+j]?=some (.int .u8 z):=by
        rw[W1g] at hj'
        split at hj'
        . rwa[W2c] at hj'
        . cases hj'
       obtain⟨e1,g1,_,g2⟩:=r6 _ _ hj2
       have g1:=g1.1
       subst g1
       have:=g2 0 _ rfl
       rw[show l*1+(0+j)=(l+j)*1+0 by omega,Xba r2]
       exact this)
     simp only[W0l] at h
     rw[<-hlen]
     simpa [loadCells] using h)]
    have:=Xfe ns []
    rw[show (ByteArray.empty:ByteArray)=⟨([]:List UInt8).toArray⟩ from rfl,this]
    simp
 unfold execOp
 rw[hop]
 simp only
 rw[Sem.run_bind,hc];rfl
noncomputable def Ynh(tb:Nat->Option TI)(n:Nat)(s:St): Option (Pl×Oper×TypeId×Nat×Operand×Nat×Int):=match nxO tb n s with
 | some (p,o)=>match o.op,p.dr with
  | .indexAddr T (.global g) y,false=>match Xcw (look p.E) y,tb T with
   | some (.d (.int _ j)),some ⟨.st _,.int _ _,_,ar⟩=>match Nat.beq ar 0 with
    | false=>some (p,o,T,g,y,ar,j)
    | true=>none
   | _,_=>none
  | _,_=>none
 | none=>none
theorem Gx(j:Nat)(k:IntKind)(z:Int){o:Oper}{T:TypeId}{y:Operand}{g ar:Nat}{i:Int}(h:Ynh c.tb c.n s=some (p,o,T,g,y,ar,i))(hj:j<ar)(hg:∀W,c.gb.g W->Fr W g j (.int k z))(hr:inR k z)(kk:p.nx c (.at (.int k z)))(hi:i=(j:Int):=by first | exact rfl | omega): StP c s:=by
 subst hi
 unfold Ynh at h
 split at h<;>try cases h
 rename_i p' o' ho
 split at h<;>try cases h
 rename_i T' g' y' hop hdr
 split at h<;>try cases h
 rename_i k1 j1 z1 k2 z2 eb ar1 hy hti
 split at h<;>cases h
 rename_i hz
 have hz:¬ar=0:=λe=>by subst e;cases hz
 refine Xr4 (us:=[]) ho (by unfold Xao;rw[hop];rfl) hdr (λN W θ ρ hgb hO hN hB hv=>?_) (Pl.nx_nil kk)
 obtain⟨hk,_⟩:=c.hT _ _ hti
 obtain⟨t,u1,_,u3⟩:=hk.u
 simp only[hz,if_false] at u3
 obtain⟨E,e1,i,v0,i1,i2,_⟩:=u3
 subst e1
 obtain⟨ey,_⟩:=Xda (hv _ _ hy)
 have eg:=hgb.2 g
 have i2:i.size=1:=i2
 refine .val (u:=.pointer (some ⟨g,j,none⟩)) hO ?_ (Ymh (e:=[.int k z]) ⟨rfl,hr⟩ λq v hq=>?_) (λ_ h=>h.elim)
 . have hjl:(j:Int)<(ar:Int):=by omega
   simp[execOp,hop,eg,ey,Instr.indexAt,Instr.sureAddr,asIntOf,sizeOf,typeInfo,underlying,program,bind,Sem.bind,Sem.run,pure,u1,i1,i2,hjl,hj,add0]
 . cases q with
   | zero=>simp at hq;subst hq;exact hg W hgb.1
   | succ q=>simp at hq
end
end
section
section
variable{c:Cx}{s:St}{p:Pl}
end
end
end Go.Vm

/- part 7 -/
import Derived.Test.YtfjafaehfjjaiaaGreatDoorXF
import Derived.Laws.Externs
set_option linter.unusedVariables false
set_option linter.unusedSimpArgs false
set_option maxRecDepth 10000
namespace Go.Proofs.YtfjafaehfjjaiaaGreatDoor.R9
open Go Go.Vm Go.Num Go.Tow Go.Proofs.YtfjafaehfjjaiaaGreatDoor
theorem Yp6{σ:Type}{I:Nat->σ->Prop}{R:Nat->σ->σ->Prop}{n:Nat}{s0:σ}(h0:I 0 s0)(hs:∀i s,i<n->I i s->∃s',R i s s'/\I (i+1) s'): ∃X:Nat->σ,X 0=s0/\(∀i,i<=n->I i (X i))/\∀i,i<n->R i (X i) (X (i+1)):=by
 have:∀i,∀s,∃s',i<n->I i s->R i s s'/\I (i+1) s':=λi s=>by
  by_cases h:i<n/\I i s
  . obtain⟨s',o⟩:=hs i s h.1 h.2
    exact⟨s',λ_ _=>o⟩
  . exact⟨s,λa b=>absurd ⟨a,b⟩ h⟩
 obtain⟨f,hf⟩:=W4y λi=>W4y (this i)
 let X:Nat->σ:=λi=>Nat.rec s0 (λi s=>f i s) i
 have j:∀i,i<=n->I i (X i):=λi=>by
  induction i with
  | zero=>exact λ_=>h0
  | succ i O=>exact λh=>(hf i (X i) (by omega) (O (by omega))).2
 exact⟨X,rfl,j,λi h=>(hf i (X i) h (j i (by omega))).1⟩
def oQ(o:RO): Rat:=Rat.divInt o.n (o.d%8+1:Nat)
def Rs2(f:FuncId)(x y z:Nm): Prop:=C0 f [.d (dN x),.d (dN y)] (·=.tup (.pr (.d (dN z)) (.d (.int .i64 0))))
open Classical in
noncomputable def pzN(x:Nm): Nm:=if sgn x.k x.t x.a<0 then ⟨x.k,x.t,Tow.neg x.k x.a⟩ else x
def Ylm(o:RO)(n:Nat)(l:List Nm)(z:Nm)(i:Nat): Prop :=
 (l.length=0\/o.kind%6=0->z=⟨0,(),oQ o⟩/\i=n) /\
 (0<l.length->∀h j,l[o.a%l.length]?=some h->l[o.b%l.length]?=some j ->
  (o.kind%6=1->i=n/\Rs2 32 h j z)/\(o.kind%6=2->i=n/\Rs2 118 h j z)/\(o.kind%6=3->i=n/\Rs2 123 h j z) /\
  (o.kind%6=4->i=n/\(Rs2 198 h j z\/(z=h/\C0 198 [.d (dN h),.d (dN j)] (·=.tup (.pr (.d n0) (.d (.int .i64 6))))))) /\
  (o.kind%6=5->(n<3->i=n+1/\C0 199 [.d (dN (pzN h))] (·=.tup (.pr (.d (dN z)) (.d (.int .i64 0)))))/\(¬n<3->i=n/\z=h)))
def Nxt(l:List Nm)(z h:Nm): Prop:=(0<l.length/\¬shN z->∃y,l[l.length-1]?=some y/\h=trF y.k y)/\(l.length=0\/shN z->h=trF z.k z)
def StB(h:List RO)(i:Nat)(s s':Nat×List Nm): Prop:=∀o,h[i]?=some o->∃z j,Ylm o s.1 s.2 z s'.1/\Big s.2 s'.1 z/\Nxt s.2 z j/\s'.2=s.2++[j]
def InB(i:Nat)(s:Nat×List Nm): Prop:=s.2.length=i/\s.1<=3/\(∀z∈s.2,Tm z/\shN z)/\Wld s.1 s.2 λ_ _=>True
theorem Ym8(o:RO): sh (oQ o):=by
 obtain⟨j,I,O,Q,i⟩:=o.h
 exact Yfi ⟨i.1,i.2⟩ ⟨by omega,by omega⟩
theorem Xu1(o:RO): shN ⟨0,(),oQ o⟩:=⟨λx h=>by obtain rfl:=W0j.1 h;exact Ym8 o,λl i=>nomatch i⟩
theorem Yip(o:RO){K:Nat}(G:Tw K)(S:List (Tow.El K))(r p:Nat)(hp:65<=p): NOk G S r p ⟨0,(),oQ o⟩ (rat K (oQ o)):=⟨⟨λ_=>zero _,⟨trivial,trivial,λi hi=>absurd hi (W4r _)⟩,rfl⟩,trivial,sh_sz (n:=1) (Xu1 o).1 (W0a _) (by omega)⟩
theorem Ymt{K:Nat}{G:Tw K}{S:List (Tow.El K)}{y:Nm}{vy:Tow.El K}(hG:red K G)(j:S.length<=3)(i:NOk G S 300 600 y vy)(h0:0<=sgn y.k y.t y.a): ∃z:Nm,C0 199 [.d (dN y)] (·=.tup (.pr (.d (dN z)) (.d (.int .i64 0))))/\RtP y z:=by
 obtain⟨Z,b2,b3,b4,b5,b6,b7,b8,b9,I,O,Q,T⟩:=Yg0
 have o:=Xad hG
 obtain⟨ρ,V,y2⟩:=i.ex
 have h:=i.le o j
 have q1:=Xoi (r:=300) (p:=600) h
 have q2:=Xoi (r:=300) (p:=300) h
 have q3:=Xc0 (r:=300) (k:=y.k) (show 600+gC 300 y.k<=600+gC 300 3 by have:=Xwl (r:=300) h;omega)
 have q4:=Xgq (r:=300) (s:=600+gC 300 3) h
 have q5:=Xgq (r:=300) (s:=300) h
 exact Ygl V.r i.r i.p h0 (by omega) (by omega) (by omega) (by omega) (by omega)
theorem Yia{n:Nat}{l:List Nm}{K:Nat}{G:Tw K}{S:List (Tow.El K)}{y z:Nm}{vy:Tow.El K}(hG:red K G)(T:S.length<=n)(hn:n<3)(hq:Ydb G S 300 600)(i:∀z∈l,∃v,NOk G S 300 600 z v)(h:NOk G S 300 600 y vy)(V:RtP y z): Big l (n+1) z:=by
 obtain⟨O,b2,Z,b4,b5,b6,b7,b8,b9,b10,b11,b12,b13⟩:=Yg0
 have j:=Xad hG
 obtain⟨ρ,o,y2⟩:=h.ex
 have ky:=h.le j (show S.length<=3 by omega)
 rcases V with ⟨w,rfl,I,Q⟩ | ⟨rfl,I,Q⟩
 . exact⟨by omega,K,G,S,hG,by omega,hq,i,_,⟨ρ,o,rfl⟩,h.r.mono O,(h.p.rootS h.r o.r I).mono (W0m (W7x (Xwl ky) _) Z)⟩
 . exact⟨by omega,Xr7 hG T hq i o h.r h.p I Q ⟨h.r.mono O,h.p.mono (by omega)⟩ ((Xug y.k).mono (by omega))⟩
theorem Yf6(o:RO){n:Nat}{l:List Nm}(hn3:n<=3)(hw:Wld n l λ_ _=>True): ∃z O,Ylm o n l z O/\Big l O z:=by
 obtain⟨b1,b2,b3,b4,b5,b6,b7,b8,b9,b10,b11,b12,Q⟩:=Yg0
 obtain⟨K,G,S,hG,hS,hq,j,_⟩:=hw
 have hS3:=W0m hS hn3
 have hGr:=Xad hG
 have W:=hq.wd hG hS3
 have ok:∀ {z:Nm} {v:Tow.El K},NOk G S gF.R (oW gF 1000000) z v->Big l n z:=λh=>⟨hn3,K,G,S,hG,hS,hq,j,_,h⟩
 by_cases h0:l.length=0\/o.kind%6=0
 . exact⟨_,n,⟨λ_=>⟨rfl,rfl⟩,λh1 i V _ _=>⟨λh=>by omega,λh=>by omega,λh=>by omega,λh=>by omega,λh=>by omega⟩⟩,ok (Yip o G S _ _ (by omega))⟩
 have hl0:0<l.length:=by omega
 obtain⟨i,hxa⟩:∃x,l[o.a%l.length]?=some x:=⟨_,W0e (W1s _ hl0)⟩
 obtain⟨V,hxb⟩:∃x,l[o.b%l.length]?=some x:=⟨_,W0e (W1s _ hl0)⟩
 obtain⟨va,ha⟩:=j i (W0h hxa)
 obtain⟨vb,hb⟩:=j V (W0h hxb)
 have T:NOk G S 300 1000000 i va:=ha.mono (W0a _) (by decide)
 have Z:NOk G S 300 1000000 V vb:=hb.mono (W0a _) (by decide)
 have same:Big l n i:=ok (ha.mono b1 b2)
 have mk:∀ {z:Nm} {O:Nat},((o.kind%6=1->O=n/\Rs2 32 i V z)/\(o.kind%6=2->O=n/\Rs2 118 i V z)/\(o.kind%6=3->O=n/\Rs2 123 i V z) /\
  (o.kind%6=4->O=n/\(Rs2 198 i V z\/(z=i/\C0 198 [.d (dN i),.d (dN V)] (·=.tup (.pr (.d n0) (.d (.int .i64 6))))))) /\
  (o.kind%6=5->(n<3->O=n+1/\C0 199 [.d (dN (pzN i))] (·=.tup (.pr (.d (dN z)) (.d (.int .i64 0)))))/\(¬n<3->O=n/\z=i)))->Ylm o n l z O:=λh=>⟨λe=>absurd e h0,λ_ ya yb h1 h2=>by
   rw[hxa] at h1;rw[hxb] at h2
   cases h1;cases h2
   exact h⟩
 have hk:o.kind%6<6:=W1s _ (by decide)
 have c:o.kind%6=1\/o.kind%6=2\/o.kind%6=3\/o.kind%6=4\/o.kind%6=5:=by omega
 rcases c with e | e | e | e | e
 . obtain⟨z,I,hN⟩:=Yde W T Z Q
   exact⟨z,n,mk ⟨λ_=>⟨rfl,I⟩,λh=>by omega,λh=>by omega,λh=>by omega,λh=>by omega⟩,ok hN⟩
 . obtain⟨z,I,hN⟩:=Yli W T Z Q
   exact⟨z,n,mk ⟨λh=>by omega,λ_=>⟨rfl,I⟩,λh=>by omega,λh=>by omega,λh=>by omega⟩,ok hN⟩
 . obtain⟨z,I,hN⟩:=Ydd W T Z Q
   exact⟨z,n,mk ⟨λh=>by omega,λh=>by omega,λ_=>⟨rfl,I⟩,λh=>by omega,λh=>by omega⟩,ok hN⟩
 . rcases Yll W T hb b5 b6 Q with ⟨_,I⟩ | ⟨w,_,z,I,hN⟩
   . exact⟨i,n,mk ⟨λh=>by omega,λh=>by omega,λh=>by omega,λ_=>⟨rfl,.inr ⟨rfl,I⟩⟩,λh=>by omega⟩,same⟩
   . exact⟨z,n,mk ⟨λh=>by omega,λh=>by omega,λh=>by omega,λ_=>⟨rfl,.inl I⟩,λh=>by omega⟩,ok hN⟩
 . by_cases hn:n<3
   . have hp:∃vy,NOk G S 300 600 (pzN i) vy/\0<=sgn (pzN i).k (pzN i).t (pzN i).a:=by
      obtain⟨ρ,r1,r2⟩:=ha.ex
      by_cases hs:sgn i.k i.t i.a<0
      . rw[show pzN i=⟨i.k,i.t,Tow.neg i.k i.a⟩ from if_pos hs]
        exact⟨_,ha.neg,by show 0<=sgn i.k i.t (Tow.neg i.k i.a);rw[(Xaq (Xad r1.r)).sn];omega⟩
      . rw[show pzN i=i from if_neg hs]
        exact⟨_,ha,by omega⟩
     obtain⟨vy,hy,hy0⟩:=hp
     obtain⟨z,I,hR⟩:=Ymt hG hS3 hy hy0
     exact⟨z,n+1,mk ⟨λh=>by omega,λh=>by omega,λh=>by omega,λh=>by omega,λ_=>⟨λ_=>⟨rfl,I⟩,λh=>absurd hn h⟩⟩,Yia hG hS hn hq j hy hR⟩
   . exact⟨i,n,mk ⟨λh=>by omega,λh=>by omega,λh=>by omega,λh=>by omega,λ_=>⟨λh=>absurd h hn,λ_=>⟨rfl,rfl⟩⟩⟩,same⟩
section
variable{K:Nat}{G:Tw K}{S:List (Tow.El K)}{r p:Nat}{v:Tow.El K}
theorem Xtl{P:Rat->Prop}(hG:red K G): ∀(n:Nat) (z:Nm),n<=z.k->NOk G S r p z v->Als P z->(∀j,n<=j->j<z.k->nd z j)->NOk G S r p (trF n z) v/\Als P (trF n z)/\Tm (trF n z)
 | 0,z,_,h,I,Q=>⟨h,I,λi hi=>Q i (W0w _) hi⟩
 | i+1,z,hk,h,I,Q=>by
  by_cases hd:nd z i
  . rw[Xkw hd]
    refine Xtl hG i z (by omega) h I λj a b=>?_
    by_cases e:i=j
    . subst e;exact hd
    . exact Q j (by omega) b
  obtain⟨k,T,c⟩:=z
  have hk:i+1<=k:=hk
  obtain⟨m,rfl⟩:∃m,k=m+1:=⟨k-1,by omega⟩
  have o:i<=m:=by omega
  rw[Xtk hd]
  obtain⟨ρ,a1,a2⟩:=h.ex
  have V:¬oc (toL (m+1) c) i:=λe=>hd (.inl e)
  have Z:∀j l,i<j->(toT (m+1) T)[j]?=some l->¬oc l i:=λj l a b e=>hd (.inr ⟨j,l,a,b,e⟩)
  refine Xtl hG i ⟨m,rmT m i T,rm m i c⟩ o ⟨⟨skip i ρ,a1.rm (Xad hG) o Z,by rw[<-a2];exact Yfo o V⟩,h.r.rm o,?_⟩ ⟨?_,?_⟩ λj a b=>Yiz o hd a b (Q (j+1) (by omega) (by show j+1<m+1;have b:j<m:=b;omega))
  . show Sz p (toL m (rm m i c))
    rw[Xf2 o];exact h.p.sub λx hx=>Xfg hx
  . show ∀q∈toL m (rm m i c),P q
    rw[Xf2 o];exact λq hq=>I.1 q (Xfg hq)
  . show ∀l∈toT m (rmT m i T),∀q∈l,P q
    rw[Xkx o]
    intro l O q hq
    rcases W1r.1 O with O | O
    . exact I.2 l (W3v O) q hq
    . obtain⟨l',hl',rfl⟩:=W2l.1 O
      exact I.2 l' (W4k hl') q (Xfg hq)
theorem Xpj{x:Nm}(hs:shN x)(hG:red K G)(i:S.length<=3)(j:NOk G S r p x v)(hr:r<=8796093022208)(hp:p<=8796093022208): C0 201 [.d (dN x)] (·=.d (dN (trF x.k x))):=(Xx2 (P:=sh) hs hG i j hr hp).mono λ_ ⟨z,e,_,_,h⟩=>by rw[e,h]
end
theorem Ydy{Q:List RO}{i:Nat}{s:Nat×List Nm}(h:InB i s): ∃s',StB Q i s s'/\InB (i+1) s':=by
 obtain⟨n,l⟩:=s
 obtain⟨hl,T,hm,hw⟩:=h
 simp only at hl T hm hw
 have go:∀o,∃s',(∃z V,Ylm o n l z s'.1/\Big l s'.1 z/\Nxt l z V/\s'.2=l++[V])/\InB (i+1) s':=λo=>by
  obtain⟨z,n',hC,hB⟩:=Yf6 o T hw
  have hB':=hB
  obtain⟨Z,K,G,S,hG,hS,hq,O,v,hz⟩:=hB
  have hS3:=W0m hS Z
  have kz:z.k<=3:=hz.le (Xad hG) hS3
  have fin:∀y vy,NOk G S 300 600 y vy->shN y->Nxt l z (trF y.k y)->∃s':Nat×List Nm,(∃z V,Ylm o n l z s'.1/\Big l s'.1 z/\Nxt l z V/\s'.2=l++[V])/\InB (i+1) s':=λy vy hy hs hN=>by
   obtain⟨t1,t2,t3⟩:=Xtl (P:=sh) hG y.k y (W0a _) hy hs (λj a b=>by omega)
   refine⟨(n',l++[trF y.k y]),⟨z,_,hC,hB',hN,rfl⟩,by simp[hl],Z,λx I=>?_,K,G,S,hG,hS,hq,λx I=>?_,trivial⟩
   . rcases W1r.1 I with I | I
     . exact hm x I
     . rw[W0j.1 I];exact⟨t3,t2⟩
   . rcases W1r.1 I with I | I
     . exact O x I
     . rw[W0j.1 I];exact⟨_,t1⟩
  by_cases hc:0<l.length/\¬shN z
  . obtain⟨y,hy⟩:∃y,l[l.length-1]?=some y:=⟨_,W0e (by omega)⟩
    obtain⟨vy,hvy⟩:=O y (W0h hy)
    exact fin y vy hvy (hm y (W0h hy)).2 ⟨λ_=>⟨y,hy,rfl⟩,λh=>h.elim (λh=>by omega) λh=>absurd h hc.2⟩
  . have hs:shN z:=by
     by_cases hs:shN z
     . exact hs
     . have h0:l.length=0:=by
        by_cases h0:l.length=0
        . exact h0
        . exact absurd ⟨by omega,hs⟩ hc
       rw[(hC.1 (.inl h0)).1];exact Xu1 o
    exact fin z v (hs.ok hz kz) hs ⟨λh=>absurd h hc,λ_=>rfl⟩
 cases ho:Q[i]? with
 | none =>
  obtain⟨s',_,h⟩:=go ⟨0,0,0,0,0,by decide⟩
  exact⟨s',(λo h=>by rw[ho] at h;cases h),h⟩
 | some o =>
  obtain⟨s',h1,h⟩:=go o
  exact⟨s',(λo' h=>by rw[ho] at h;cases h;exact h1),h⟩
theorem Build_fx(O:List RO): ∃l:List Nm,C0 120 [.d (dRs O)] (·=.d (dNs l))/\l.length<=24/\(∀z∈l,Tm z/\shN z)/\Wld 3 l λ_ _=>True:=by
 obtain⟨X,hX0,hXI,hXR⟩:=Yp6 (I:=InB) (R:=StB O) (n:=24) (s0:=(0,[])) ⟨rfl,W0w _,(λz T=>nomatch T),0,(),[],trivial,W0a _,(λg hg=>by cases hg),(λy hy=>by cases hy),trivial⟩ λi s _ h=>Ydy h
 obtain⟨N,hN,hN1,hN2⟩:∃N,N<=24/\N<=O.length/\(N=24\/N=O.length):=⟨min 24 O.length,by omega,by omega,by omega⟩
 obtain⟨f1,f2,f3,f4⟩:=hXI N hN
 refine⟨(X N).2,?_,by omega,f3,Xyg f4 f2⟩
 refine En Tryz.func120 λ_ _ _=>?_
 refine Nl 3 3 2 rfl ?_
 refine Lo (λi:Nat=>[(0,.d (dRs O)),(3,.gr 3 2 ((X i).2.map dN)),(4,.d (.int .i64 (X i).1)),(5,.d (.int .i64 i))]) (λi=>[(3,.tok ((X i).2.map dN).length 2)]) (λi=>i<=N) (λi=>N-i) 0 [] rfl (W0w _) (λi hi=>?_) (by rw[hX0];exact⟨rfl,rfl,rfl,rfl,rfl⟩)
 obtain⟨hl,hn3,hm,hw⟩:=hXI i (by omega)
 by_cases hiN:i=N
 . subst hiN
   rcases hN2 with e | e
   . by_cases h:i<O.length
     . refine Yes rfl (show (i:Int)<((O.map dO).length:Nat) by rw[W0i];omega) ?_
       refine No rfl (show ¬(i:Int)<24 by omega) ?_
       exact R1 rfl (.gr rfl)
     . refine No rfl (show ¬(i:Int)<((O.map dO).length:Nat) by rw[W0i];omega) ?_
       exact R1 rfl (.gr rfl)
   . refine No rfl (show ¬(i:Int)<((O.map dO).length:Nat) by rw[W0i];omega) ?_
     exact R1 rfl (.gr rfl)
 have hi':i<N:=by omega
 obtain⟨o,ho⟩:∃o,O[i]?=some o:=⟨_,W0e (by omega)⟩
 obtain⟨z,z',hC,hB,Z,hS⟩:=hXR i (by omega) o ho
 obtain⟨n,l,hXi⟩:∃n l,X i=(n,l):=⟨_,_,rfl⟩
 obtain⟨n',l',hXs⟩:∃n l,X (i+1)=(n,l):=⟨_,_,rfl⟩
 rw[hXi] at hl hn3 hm hw hC hB Z hS |-
 rw[hXs] at hC hB hS
 simp only at hl hn3 hm hw hC hB Z hS
 rw[hS] at hXs
 have nx:∀ {j:Nat},j=i+1->X j=(n',l++[z']):=λe=>by rw[e,hXs]
 obtain⟨o1,o2,o3,o4,o5⟩:=o.h
 obtain⟨K,G,S,hG,hS,hq,hall,_⟩:=hw
 have V:=W0m hS hn3
 have hGr:=Xad hG
 have W:=hq.wd hG V
 obtain⟨b1,b2,b3,b4,b5,b6,b7,b8,b9,b10,b11,b12,b13⟩:=Yg0
 refine Yes rfl (show (i:Int)<((O.map dO).length:Nat) by rw[W0i];omega) ?_
 refine Yes rfl (show (i:Int)<24 by omega) ?_
 refine Ix i rfl (u:=dO o) (by rw[W1q,ho];rfl) ?_
 refine Go.Vm.Cv o.n rfl ?_ (wI (by omega))
 refine Ar (o.d%8:Nat) rfl ?_ (remN (by decide))
 refine Go.Vm.Cv (o.d%8:Nat) rfl ?_ (wI (by omega))
 refine Ar (o.d%8+1:Nat) rfl ?_
 have hfr:C0 196 [.d (.int .i64 o.n),.d (.int .i64 (o.d%8+1:Nat))] (·=.d (dN ⟨0,(),oQ o⟩)):=Frac_ok (a:=o.n) (b:=(o.d%8+1:Nat)) (by omega) (by omega) (by omega)
 refine Ce rfl hfr ?_
 refine By rfl (λh3=>?_) λh3=>?_
 . have h3:((l.map dN).length:Int)>0:=h3
   rw[W0i] at h3
   refine Ar (o.kind%6:Nat) rfl ?_ (remN (by decide))
   refine Cu none (λ(s:Nm×Nat)=>[(0,.d (dRs O)),(3,.gr 3 2 (l.map dN)),(4,.d (.int .i64 s.2)),(5,.d (.int .i64 i)),(7,.ptr 7 0)]) (λs=>[(3,.tok (l.map dN).length 2),(7,.var (.d (dN s.1)))]) (λs=>s=(z,n')) rfl ?_ (λ(z1,n1) hE=>?_)
   . refine By rfl (λh4=>?_) λh4=>?_
     . obtain⟨Q,hxa⟩:∃x,l[o.a%l.length]?=some x:=⟨_,W0e (W1s _ (by omega))⟩
       obtain⟨xb,hxb⟩:∃x,l[o.b%l.length]?=some x:=⟨_,W0e (W1s _ (by omega))⟩
       obtain⟨d1,d2,d3,d4,d5⟩:=hC.2 (by omega) Q xb hxa hxb
       obtain⟨va,ha⟩:=hall Q (W0h hxa)
       have hua:(l.map dN)[o.a%l.length]?=some (dN Q):=by rw[W1q,hxa];rfl
       have hub:(l.map dN)[o.b%l.length]?=some (dN xb):=by rw[W1q,hxb];rfl
       have hrm:∀ {c:Nat},arB .rem .i64 c ((l.map dN).length:Nat) (c%l.length:Nat):=λ{c}=>by rw[W0i];exact remN (by omega)
       have ka:=ha.le hGr V
       have hk6:o.kind%6<6:=W1s _ (by decide)
       have h4:((o.kind%6:Nat):Int)≠0:=h4
       refine Dz rfl ?_
       refine Go.Vm.Cv (o.a:Nat) rfl ?_ (wI (by omega))
       refine Ar (o.a%l.length:Nat) rfl ?_ hrm
       refine Ix (o.a%l.length) rfl hua ?_
       refine Go.Vm.Cv (o.b:Nat) rfl ?_ (wI (by omega))
       refine Ar (o.b%l.length:Nat) rfl ?_ hrm
       refine Ix (o.b%l.length) rfl hub ?_
       refine Ar (o.kind%6:Nat) rfl ?_ (remN (by decide))
       refine By rfl (λc1=>?_) λc1=>?_
       . have c1:((o.kind%6:Nat):Int)=1:=c1
         obtain⟨rfl,T⟩:=d1 (by omega)
         refine Ce rfl T ?_
         refine Ce rfl (Xg3 (x:=z) (y:=Q)) ?_
         exact Jn (z,n') [] rfl rfl
       refine By rfl (λc2=>?_) λc2=>?_
       . have c2:((o.kind%6:Nat):Int)=2:=c2
         obtain⟨rfl,T⟩:=d2 (by omega)
         refine Ce rfl T ?_
         refine Ce rfl (Xg3 (x:=z) (y:=Q)) ?_
         exact Jn (z,n') [] rfl rfl
       refine By rfl (λc3=>?_) λc3=>?_
       . have c3:((o.kind%6:Nat):Int)=3:=c3
         obtain⟨rfl,T⟩:=d3 (by omega)
         refine Ce rfl T ?_
         refine Ce rfl (Xg3 (x:=z) (y:=Q)) ?_
         exact Jn (z,n') [] rfl rfl
       refine By rfl (λc4=>?_) λc4=>?_
       . have c4:((o.kind%6:Nat):Int)=4:=c4
         obtain⟨rfl,T | ⟨rfl,T⟩⟩:=d4 (by omega)
         . refine Ce rfl T ?_
           refine Ce rfl (Xg3 (x:=z) (y:=Q)) ?_
           exact Jn (z,n') [] rfl rfl
         . refine Ce rfl T ?_
           refine Ce rfl (Xzn (y:=z)) ?_
           exact Jn (z,n') [] rfl rfl
       have c1:¬((o.kind%6:Nat):Int)=1:=c1
       have c2:¬((o.kind%6:Nat):Int)=2:=c2
       have c3:¬((o.kind%6:Nat):Int)=3:=c3
       have c4:¬((o.kind%6:Nat):Int)=4:=c4
       obtain⟨e1,e2⟩:=d5 (by omega)
       have q6:=Xgq (r:=300) (s:=600) ka
       have hsg:=ha.sgn hGr
       refine Ce rfl (Sign_ok hG ha (by omega) (by omega)) ?_
       refine By rfl (λc5=>?_) λc5=>?_
       . refine Ce rfl (Neg_ok ha (by omega) (by decide)) ?_
         have hpz:pzN Q=⟨Q.k,Q.t,Tow.neg Q.k Q.a⟩:=if_pos (by rw[<-hsg];exact c5)
         rw[hpz] at e1
         refine By rfl (λc6=>?_) λc6=>?_
         . have c6:(n:Int)<3:=c6
           obtain⟨rfl,T⟩:=e1 (by omega)
           refine Ar (n+1:Nat) rfl ?_ (wr (show (n:Int)+1=((n+1:Nat):Int) by omega) (by simp only[inK];omega))
           refine Ce rfl T ?_
           refine Ce rfl (Xg3 (x:=z) (y:=⟨Q.k,Q.t,Tow.neg Q.k Q.a⟩)) ?_
           exact Jn (z,n+1) [] rfl rfl
         . have c6:¬(n:Int)<3:=c6
           obtain⟨rfl,rfl⟩:=e2 (by omega)
           exact Jn (z,n') [] rfl rfl
       . have hpz:pzN Q=Q:=if_neg (by rw[<-hsg];exact c5)
         rw[hpz] at e1
         refine By rfl (λc6=>?_) λc6=>?_
         . have c6:(n:Int)<3:=c6
           obtain⟨rfl,T⟩:=e1 (by omega)
           refine Ar (n+1:Nat) rfl ?_ (wr (show (n:Int)+1=((n+1:Nat):Int) by omega) (by simp only[inK];omega))
           refine Ce rfl T ?_
           refine Ce rfl (Xg3 (x:=z) (y:=Q)) ?_
           exact Jn (z,n+1) [] rfl rfl
         . have c6:¬(n:Int)<3:=c6
           obtain⟨rfl,rfl⟩:=e2 (by omega)
           exact Jn (z,n') [] rfl rfl
     . have h4:¬((o.kind%6:Nat):Int)≠0:=h4
       obtain⟨rfl,rfl⟩:=hC.1 (.inr (by omega))
       exact Jn (⟨0,(),oQ o⟩,n') [] rfl rfl
   . obtain⟨rfl,rfl⟩:=Prod.mk.inj hE
     obtain⟨hn',K,G,S,hG,hS,hq,hall,v,T⟩:=hB
     have V:=W0m hS hn'
     have hGr:=Xad hG
     have kz:z1.k<=3:=T.le hGr V
     refine Yes rfl (by rw[W0i];exact h3) ?_
     refine Ce rfl (Ye1 (x:=z1) (W0m kz (by decide))) ?_
     refine By rfl (λh5=>?_) λh5=>?_
     . obtain⟨y,hy,rfl⟩:=Z.1 ⟨by omega,h5⟩
       obtain⟨vy,hvy⟩:=hall y (W0h hy)
       refine Ar (l.length-1:Nat) rfl ?_ (wr (by rw[W0i];omega) (by simp only[inK];omega))
       refine Ix (l.length-1) rfl (u:=dN y) (by rw[W1q,hy];rfl) ?_
       refine Ce rfl (Xpj (hm y (W0h hy)).2 hG V hvy (by decide) (by decide)) ?_
       refine ApG ((l++[trF y.k y]).map dN) rfl (by simp) (by simp;omega) ?_
       refine Ar (i+1:Nat) rfl ?_
       exact Bk (i+1) [(157,3)] rfl (by omega) (by show N-(i+1)<N-i;omega) (by simp only[nx rfl];exact⟨rfl,rfl,rfl,rfl,rfl⟩)
     . have hsh:shN z1:=by simpa [Xap,Xaj] using h5
       obtain rfl:=Z.2 (.inr hsh)
       refine Ce rfl (Xpj hsh hG V (hsh.ok T kz) (by decide) (by decide)) ?_
       refine ApG ((l++[trF z1.k z1]).map dN) rfl (by simp) (by simp;omega) ?_
       refine Ar (i+1:Nat) rfl ?_
       exact Bk (i+1) [(157,3)] rfl (by omega) (by show N-(i+1)<N-i;omega) (by simp only[nx rfl];exact⟨rfl,rfl,rfl,rfl,rfl⟩)
 . have h4:¬(l.length:Int)>0:=by
    have h4:¬((l.map dN).length:Int)>0:=h3
    rwa[W0i] at h4
   clear h3
   obtain⟨rfl,rfl⟩:=hC.1 (.inl (by omega))
   obtain rfl:=Z.2 (.inl (by omega))
   refine No rfl (by rw[W0i];exact h4) ?_
   refine Ce rfl (Xpj (Xu1 o) hG V (Yip o G S 300 600 (by decide)) (by decide) (by decide)) ?_
   refine ApG ((l++[trF 0 ⟨0,(),oQ o⟩]).map dN) rfl (by simp) (by simp;omega) ?_
   refine Ar (i+1:Nat) rfl ?_
   exact Bk (i+1) [(157,3)] rfl (by omega) (by show N-(i+1)<N-i;omega) (by simp only[nx rfl];exact⟨rfl,rfl,rfl,rfl,rfl⟩)
end Go.Proofs.YtfjafaehfjjaiaaGreatDoor.R9
namespace Go.Proofs.YtfjafaehfjjaiaaGreatDoor.R20
open Go Go.Vm Go.Num Go.Tow Go.Proofs.YtfjafaehfjjaiaaGreatDoor Go.Proofs.YtfjafaehfjjaiaaGreatDoor.P20
section
variable{K:Nat}{G:Tw K}{S:List (Tow.El K)}{N:List Nm}{U U' n m:Nat}{x y z:Nm}{a b:Tow.El K}{L M:List (SV K)}
theorem Xry{l:List Sn}(h:l.length<=100): C0 8 [.d (dAr x l)] (·=.d (dAr x l)):=by
 rcases l with _ | ⟨s,l⟩
 . refine En Tryz.func8 λ_ _ _=>?_
   refine Dl rfl ?_
   refine Yg3 rfl rfl (by decide) ?_
   exact R1 rfl (.sd (.pd (.rf rfl) (.lit rfl)))
 . refine En Tryz.func8 λ_ _ _=>?_
   refine Dl rfl ?_
   refine Ya7 ((s::l).map dSe) rfl rfl (W4s _) (by rw[W0i];omega) ?_
   exact R1 rfl (.sd (.pd (.rf rfl) (.own rfl (by omega) (by rw[W1e,W2h]))))
end
theorem Yg5(I j:List RO): ∃(l m:List Nm) (K:Nat) (G:Tw K) (S:List (Tow.El K)) (N:List Nm),Wn G S N /\
 (C0 120 [.d (dRs I)] (·=.d (dNs l))/\l.length<=24/\(∀z∈l,z.k<=16)/\∀z∈n00::l,z.k<=1->∃v,Gd G S N 1 z v) /\
 (C0 120 [.d (dRs j)] (·=.d (dNs m))/\m.length<=24/\(∀z∈m,z.k<=16)/\∀z∈n00::m,z.k<=1->∃v,Gd G S N 1 z v):=by
 classical
 obtain⟨l,l1,l2,l3,l4⟩:=R9.Build_fx I
 obtain⟨m,m1,m2,m3,m4⟩:=R9.Build_fx j
 obtain⟨K,G,S,hG,hS,hF,hr,O⟩:=Ynr l4 m4
 have Q:∀ {l:List Nm},(Wld 3 l λ_ _=>True)->∀z∈l,z.k<=16:=λ⟨K,G,S,hG,hS,hq,T,_⟩ z i=>by
  obtain⟨v,V⟩:=T z i
  exact W0m (V.le (Xad hG) hS) (by decide)
 have hz0:∃v,NOk G S 65 129 n00 v:=⟨rat K ((0:Int):Rat),⟨λ_=>zero _,⟨trivial,trivial,nofun⟩,rfl⟩,trivial,(Sz.rat 0 (x:=((0:Int):Rat)) (p:=1) ⟨show ((0:Int):Rat).num.natAbs<2^1 by decide +kernel,show (((0:Int):Rat).den:Int).natAbs<2^1 by decide +kernel⟩).mono (by decide)⟩
 let N:=n00::(l++m).filter λz=>decide (One z)
 have hN:∀z∈N,∃v,NOk G S 65 129 z v:=λz i=>by
  rcases W1i.1 i with rfl | i
  . exact hz0
  . obtain⟨h1,h2⟩:=W6z.1 i
    exact O z h1 (by simpa using h2)
 have W:Wn G S N:=⟨Ymc.wd hG hS hF,λz i=>by
  obtain⟨v,V⟩:=hN z i
  obtain⟨ρ,h1,_⟩:=V.ex
  exact⟨ρ,h1⟩⟩
 have Z:∀z∈n00::(l++m),z.k<=1->(z∈l++m->R9.shN z)->∃v,Gd G S N 1 z v:=λz i o hs=>by
  have hm:z∈N:=by
   rcases W1i.1 i with rfl | i
   . exact W0l ..
   . exact W0o _ (W6z.2 ⟨i,decide_eq_true (show One z from⟨o,hs i,hr z i⟩)⟩)
  obtain⟨v,V⟩:=hN z hm
  exact⟨v,Gd.short W o V hm⟩
 have hsh:∀z∈l++m,R9.shN z:=λz i=>(W1r.1 i).elim (λh=>(l3 z h).2) λh=>(m3 z h).2
 refine⟨l,m,K,G,S,N,W,⟨l1,l2,Q l4,λz i o=>Z z ?_ o λh=>hsh z h⟩,m1,m2,Q m4,λz i o=>Z z ?_ o λh=>hsh z h⟩
 . rcases W1i.1 i with rfl | i
   . exact W0l ..
   . exact W0o _ (W2m _ i)
 . rcases W1i.1 i with rfl | i
   . exact W0l ..
   . exact W0o _ (W1p _ i)
end Go.Proofs.YtfjafaehfjjaiaaGreatDoor.R20
namespace Go.Vm
open Go
section
variable{c:Cx}{s:St}{p:Pl}
end
end Go.Vm
namespace Go.Proofs.YtfjafaehfjjaiaaGreatDoor.P20
open Go Go.Vm Go.Num Go.Tow Go.Proofs.YtfjafaehfjjaiaaGreatDoor Go.Proofs.YtfjafaehfjjaiaaGreatDoor.R20
section
variable{K:Nat}{G:Tw K}{S:List (Tow.El K)}{N:List Nm}{U U' n m:Nat}{x y z:Nm}{a b:Tow.El K}{L M:List (SV K)}{u:Vn}{p:V2 K}{f:Int}
end
end Go.Proofs.YtfjafaehfjjaiaaGreatDoor.P20
namespace Go.Vm
open Go
section
variable{c:Cx}{s:St}{p:Pl}
noncomputable def Ypc(tb:Nat->Option TI)(n:Nat)(s:St): Option (Pl×Oper×Operand×TypeId×Nat×Nat×Nat×Nat):=match nxO tb n s with
 | some (p,o)=>match o.op,p.dr with
  | .call ⟨.builtin .cap,⟨[x]⟩,⟨[T]⟩⟩,false=>match Xbt (look p.E) x,tb T with
   | some (.own q sz l m),some h=>match h.z,look p.H q with
    | .sl _ _,some (.arr _ _)=>some (p,o,x,T,q,sz,l,m)
    | _,_=>none
   | _,_=>none
  | _,_=>none
 | none=>none
theorem Kc{o:Oper}{x:Operand}{T:TypeId}{q sz l m:Nat}(h:Ypc c.tb c.n s=some (p,o,x,T,q,sz,l,m))(k:∀r,m<=r->p.nx c (.cx q l r)): StP c s:=by
 unfold Ypc at h
 split at h<;>try cases h
 rename_i p' o' Z
 split at h<;>try cases h
 rename_i x' T' j I
 split at h<;>try cases h
 rename_i ti hx O
 split at h<;>cases h
 rename_i s0 ys0 s1 xs1 hz hH
 refine Yce (Q:=λr=>∃a,m<=a/\r=(.cx q l a,[])) Z I (λN W θ ρ _ hO hN hB hv=>?_) (λv us ⟨a,h1,h2⟩=>by cases h2;exact Pl.nx_nil (k a h1))
 obtain⟨hk,_⟩:=c.hT _ _ O
 obtain⟨t,u1,_,V⟩:=hk.u
 rw[hz] at V
 obtain⟨E,e,_⟩:=V
 subst e
 obtain⟨b,pp,f1,f2,f3,ex,f5⟩:=Xea (hv _ _ hx)
 refine⟨_,⟨(θ q).2-l,by omega,rfl⟩,?_⟩
 refine .val (u:=.int .i64 ((θ q).2-l:Nat)) hO ?_ ⟨_,⟨rfl,by omega⟩,rfl⟩ (λi hi=>by subst hi;exact⟨_,hH⟩)
 simp[execOp,j,resolve,invoke,builtin,Builtin.cap_,ex,underlying,program,bind,Sem.bind,Sem.run,pure,u1,goInt]
theorem Ykq{W:GW}{θ:Loc}{q l a:Nat}{v:Value}(ha:l+a<9223372036854775808)(h:AV.V W θ (.cx q l a) v): AV.V W θ (.d (.int .i64 a)) v:=by
 obtain⟨cs,⟨rfl,_⟩,rfl⟩:=h
 exact int_V (by show IntKind.i64.wrap _=_;rw[IntKind.wrap_i64];omega)
noncomputable def Yit(tb:Nat->Option TI)(n:Nat)(s:St): Option (Pl×Oper×TypeId×TypeId×Operand×Operand×Int×Nat×Nat×Nat):=match nxO tb n s with
 | some (p,o)=>match o.op,p.dr with
  | .binOp .gtr T x y T',false=>match Xbt (look p.E) x,Xbt (look p.E) y with
   | some (.d (.int .i64 a)),some (.cx q l r)=>match look p.H q with
    | some (.arr _ _)=>some (p,o,T,T',x,y,a,q,l,r)
    | _=>none
   | _,_=>none
  | _,_=>none
 | none=>none
theorem Gxr{o:Oper}{T T':TypeId}{x y:Operand}{a:Int}{q l r:Nat}(h:Yit c.tb c.n s=some (p,o,T,T',x,y,a,q,l,r))(k:p.nx c (.b (dc (a>(r:Int))))): StP c s:=by
 unfold Yit at h
 split at h<;>try cases h
 rename_i p' o' ho
 split at h<;>try cases h
 rename_i T1 x' y' T2 j V
 split at h<;>try cases h
 rename_i hx hy
 split at h<;>cases h
 rename_i s1 xs1 hH
 refine Xhq (us:=[]) ho (by unfold Xal;rw[j];rfl) V (λN W θ ρ _ hO hN hB hv=>?_) (Pl.nx_nil k)
 obtain⟨b',cs,T0,r1,r2,r3,r4,r5,r6,r7⟩:=hO.r _ _ hH
 have I:=hv _ _ hy
 have hr:l+r<9223372036854775808:=by
  obtain⟨cs',⟨_,h2⟩,_⟩:=I
  omega
 cases o with
 | mk d0 Z ty0 O Q gd0 =>
  have j:Z=.binOp .gtr T x y T':=j
  subst j
  obtain⟨u,h1,h2,h3⟩:=Xkk (P:=c.P) (W:=W) (θ:=θ) (ρ:=ρ) (d:=d0) (ty:=ty0) (pos:=O) (aft:=Q) (gd:=gd0) (op:=.gtr) (T:=T) (T':=T') (x:=x) (y:=y) (tz:=none) (a:=.d (.int .i64 a)) (c:=.d (.int .i64 r)) (v:=.b (dc (a>(r:Int)))) (by rfl) (hv _ _ hx) (Ykq hr I) rfl rfl
  exact .val hO h1 h2 λi hi=>absurd hi (h3 i)
noncomputable def Yo3(tb:Nat->Option TI)(n t:Nat)(s:St): Option (Pl×Oper×TypeId×TI×Operand×Operand×Nat×Nat×Nat×Nat×Int×Nat):=match nxO tb n s with
 | some (p,o)=>match o.op,p.dr with
  | .slice T x none (some hi) none,false=>match Xbt (look p.E) x,Xbt (look p.E) hi,Xbt (look p.E) (.tmp t),tb T with
   | some (.own q sz l m),some (.d (.int _ j)),some (.cx i I r),some h=>match h.z,look p.H q,Nat.beq sz h.e.size&&(Nat.beq i q&&Nat.beq I l) with
    | .sl _ _,some (.arr _ _),true=>some (p,o,T,h,x,hi,q,sz,l,m,j,r)
    | _,_,_=>none
   | _,_,_,_=>none
  | _,_=>none
 | none=>none
theorem Su(t j:Nat){o:Oper}{T:TypeId}{ti:TI}{x hi:Operand}{q sz l m r:Nat}{j':Int}(h:Yo3 c.tb c.n t s=some (p,o,T,ti,x,hi,q,sz,l,m,j',r))(h1:j<=r)(kk:p.nx c (.own q sz l j))
 (e2:j'=(j:Int):=by first | exact rfl | omega):StP c s:=by
 subst e2
 unfold Yo3 at h
 split at h<;>try cases h
 rename_i p' o' ho
 split at h<;>try cases h
 rename_i T' x' hi' I O
 split at h<;>try cases h
 rename_i q' l' r' ti' hx Q ht V
 split at h<;>cases h
 rename_i s0 ys0 s1 xs1 hz hH hb
 rw[W0g,W0g] at hb
 have b1:=W0d hb.1
 have b2:=W0d hb.2.1
 have b3:=W0d hb.2.2
 subst b2;subst b3
 refine Xhq (us:=[]) ho (by unfold Xal;rw[I];rfl) O (λN W θ ρ _ hO hN hB Z=>?_) (Pl.nx_nil kk)
 obtain⟨hk,_⟩:=c.hT _ _ V
 obtain⟨t',u1,_,u3⟩:=hk.u
 rw[hz] at u3
 obtain⟨E,e,hsz,hez,ii,v0,i1,i2,_⟩:=u3
 subst e
 obtain⟨b,pp,f1,f2,f3,ex,f5⟩:=Xea (Z _ _ hx)
 obtain⟨cs',⟨_,hroom⟩,_⟩:=Z _ _ ht
 obtain⟨g2,_⟩:=Xcf (Z _ _ Q)
 have hr:=Xua (P:=c.P) (w:=W.w) u1 i1 i2 ex (lo:=none) (hi':=some (ρ hi)) (l:=0) (h:=j) (.inl ⟨rfl,rfl⟩) (.inr ⟨_,by rw[g2]⟩) (W0w _) (by omega)
 refine .val (u:=.slice (if (θ q').2-l'=0 then pp else pp.map (·.add (0*ti.e.size))) (j-0) ((θ q').2-l'-0)) hO ?_ ⟨_,⟨b,_,f1,by omega,f3,rfl,λQ=>?_⟩,rfl⟩ (λi hi=>by subst hi;exact⟨_,hH⟩)
 . simp only[execOp,I,W3g,Option.map_none]
   rw[Sem.run_bind,hr];rfl
 . have e5:=f5 Q
   rw[e5]
   split
   . rfl
   . simp only[W3g,add0,W4n,W2i]
theorem Yh3{P:Program}(w:World)(t tn ty e:TypeId)(i:TypeInfo)(z:Value)(k kn:IntKind)(ht:P.underlying t=some (.slice e))(Z:P.underlying tn=some (.int kn))(hi:P.info? e=some i)(hz:i.zero=some z)
 (b:Addr) (h o:Nat) (olds:List Value) (hlo:olds.length=h*i.size) (I:∀j v,olds[j]?=some v->w.cell? (b.add j)=some v)
 (n:Nat) (h0:0<n) (hs:0<i.size) (hg:o<h+n) (h63:((h+n:Nat):Int)<=9223372036854775807) (h48:n*i.bytes<=281474976710656) (hfit:Builtin.nextslicecap (h+n) o*i.bytes<=281474976710656) :
 (Builtin.append_ #[t,tn] ty #[.slice (some b) h o,.int k n]).run P w =
  .ok (.slice (some ⟨w.heap.size,0,none⟩) (h+n) (grownCap w (h+n) o e))
   (w.drew.alloc (.cells (olds.toArray++Builtin.zeroCells z.cells n++Builtin.zeroCells z.cells (grownCap w (h+n) o e-(h+n))) e)):=by
 have hn:n≠0:=by omega
 have hn':¬(h+n<=o):=by omega
 have hw:IntKind.i64.wrap (n:Int)=n:=by rw[IntKind.wrap_i64];omega
 have O:¬(9223372036854775807<((h:Int)+(n:Int))):=by omega
 have Q:¬(281474976710656<Builtin.nextslicecap (h+n) o*i.bytes):=by omega
 have T:¬(281474976710656<(n:Int)*(i.bytes:Int)):=by
  rw[<-W2n]
  omega
 have V:¬((n:Int)<0):=by omega
 have hns:¬(n*i.size=0):=W7q hn (by omega)
 have hfo:=run_firstCells_some (P:=P) w.drew i.size h b h o olds hlo (by simpa using I)
 simp[Builtin.append_,run_underlying ht,run_underlying Z,sizeOf,typeInfo,zeroValue,hi,hz,asInt,asIntOf,hw,hn,hn',V,hns,O,Q,T,Question.forced,hfo,newRow,grownCap]
 try (congr 2;apply Array.ext';simp[W3r])
noncomputable def Ypk(tb:Nat->Option TI)(n t:Nat)(s:St): Option (Pl×Oper×Operand×Operand×TypeId×TypeId×TI×Nat×Nat×Nat×List D×Int×Nat):=match nxO tb n s with
 | some (p,o)=>match o.op,p.dr with
  | .call ⟨.builtin .append,⟨[x,y]⟩,⟨[T,T']⟩⟩,false=>match Xbt (look p.E) x,Xbt (look p.E) y,Xbt (look p.E) (.tmp t),tb T,tb T' with
   | some (.own q sz 0 i),some (.d (.int .i64 m)),some (.cx j 0 r),some h,some ⟨.int _ _,_,_,_⟩=>match look p.H (o.dst.getD 0),look p.H q,h.z,Nat.ble h.eb 1024&&Nat.beq j q with
    | none,some (.arr s' xs),.sl s2 _,true=>match Nat.beq s' sz&&Nat.beq s2 sz with
     | true=>some (p,o,x,y,T,T',h,q,sz,i,xs,m,r)
     | false=>none
    | _,_,_,_=>none
   | _,_,_,_,_=>none
  | _,_=>none
 | none=>none
theorem Az(t n:Nat){o:Oper}{x y:Operand}{T T':TypeId}{ti:TI}{q sz i r:Nat}{xs:List D}{m:Int}(h:Ypk c.tb c.n t s=some (p,o,x,y,T,T',ti,q,sz,i,xs,m,r))(h0:0<n)(hg:r<i+n)(hi:i<=xs.length)(hr:i+n<=137438953472)
 (k:p.nx' c (.own (o.dst.getD 0) sz 0 (i+n)) [(o.dst.getD 0,.arr sz (xs.take i))]) (hm:m=(n:Int):=by first | exact rfl | omega):StP c s:=by
 subst hm
 unfold Ypk at h
 split at h<;>try cases h
 rename_i p' o' ho
 split at h<;>try cases h
 rename_i x' y' T1 T2 hop hdr
 split at h<;>try cases h
 rename_i q0 sz0 i0 m' I r' ti1 kn _ e' eb' ar' hx hy ht hti hti'
 split at h<;>try cases h
 rename_i s' xs' s2 zz hd hq hz hb
 split at h<;>cases h
 rename_i Z
 rw[W0g] at hb Z
 have b2:=W0d hb.2
 have b3:=W0d Z.1
 have b4:=W0d Z.2
 have heb:=W1g hb.1
 subst b2;subst b3;subst b4
 refine Xhq ho (by unfold Xal;rw[hop];rfl) hdr (λN W θ ρ _ hO hN hB hv=>?_) k
 obtain⟨hk,_⟩:=c.hT _ _ hti
 obtain⟨t0,u1,_,u3⟩:=hk.u
 rw[hz] at u3
 obtain⟨E,e,Q,hez,ii,v0,i1,i2,i3,i4,i5⟩:=u3
 subst e
 obtain⟨hk',_⟩:=c.hT _ _ hti'
 obtain⟨t',u1',_,u3'⟩:=hk'.u
 have u3':t'=.int kn:=u3'
 subst u3'
 obtain⟨b,pp,f1,f2,f3,ex,f5⟩:=Xea (hv _ _ hx)
 obtain⟨cs',⟨_,hroom⟩,_⟩:=hv _ _ ht
 obtain⟨ey,_⟩:=Xcf (hv _ _ hy)
 have hg':(sem p.E p.H).2 I=some (.arr s2 xs):=hq
 obtain⟨b',cs,T0,r1,r2,r3,r4,r5,r6,r7⟩:=hO.r _ _ hg'
 rw[f1] at r1;injection r1 with r1;subst r1
 have hpb:=f5 (.inl rfl)
 rw[W4n] at hpb
 rw[W6b] at ex
 rw[W1l] at hroom f2
 have hsp:0<ii.size:=by rw[i2];exact D.size_pos _
 have hbb:n*ii.bytes<=281474976710656:=by rw[i3];have:=W1z (show n<=137438953472 by omega) heb;omega
 have hic:i*s2<=cs.length:=by rw[r3];exact W0k _ (by omega)
 have hol:(cs.take (i*s2)).length=i*ii.size:=by rw[W0f,i2,<-Q];omega
 have V:(xs.take i).length=i:=by rw[W0f];omega
 have hoa:AtL W s2 (xs.take i) (cs.take (i*s2)):=AtL.ext (cs:=cs) (λj x hx=>r6 j x (by
  rw[W1d] at hx
  split at hx
  . exact hx
  . cases hx)) λq v hq hv=>by rw[V] at hq;rw[W1d,if_pos hq];exact hv
 have hfit:=growslice_fits (old:=(θ I).2) (need:=i+n) (bytes:=ii.bytes) (by omega) (by rw[i3];have:=W1z hr heb;omega)
 have hrun:=Yh3 (P:=c.P) W.w T T' o.type E ii v0 .i64 kn u1 u1' i1 i4 ⟨b,0,none⟩ i (θ I).2 (cs.take (i*s2)) hol (λj v hj=>by
  rw[W1d] at hj
  split at hj
  . rw[add0,W1l,Xa9 r2];exact hj
  . cases hj) n h0 hsp (by omega) (by omega) hbb hfit
 have hge:=grownCap_ge W.w (i+n) (θ I).2 E
 have hlt2:grownCap W.w (i+n) (θ I).2 E<9223372036854775808:=by
  have:=W1s (W.w.tape W.w.drawn (.appendCap (i+n) (θ I).2 E)) (show 0<2^63-(i+n) by omega)
  simp only[grownCap,Question.cut] at *
  omega
 have hzs:v0.cells.size=s2:=by rw[Q,<-D.zc_len,<-i5];simp
 obtain⟨W',θ',e1,e2,e3⟩:=Xg1 (W:=W.tick) (θ:=θ) (g:=(sem p.E p.H).2) (dd:=o.dst.getD 0) (E:=E) (sz:=s2) (xs:=xs.take i) (cs:=cs.take (i*s2)) (c:=grownCap W.w (i+n) (θ I).2 E) (zs:=(Builtin.zeroCells v0.cells n++Builtin.zeroCells v0.cells (grownCap W.w (i+n) (θ I).2 E-(i+n))).toList) (Stp.tick hO).obs hN hB hd (hoa.mono (Xdy W)) (by rw[hol,V,i2,Q]) (by rw[V];omega) hlt2 (by
  rw[W0c,hol,W7u,Array.size_append,size_zeroCells,size_zeroCells,hzs,i2,<-Q,<-W1c,<-W1c]
  congr 1
  omega)
 rw[V] at e3
 obtain⟨cs3,⟨b3,p3,k1,k2,k3,k4,O⟩,k6⟩:=e3
 subst k4
 have k6:Value.slice (some ⟨W.tick.size,0,none⟩) i (grownCap W.w (i+n) (θ I).2 E)=.slice p3 i ((θ' (o.dst.getD 0)).2-0):=k6
 injection k6 with k6 k7 k8
 have O:=O (.inl rfl)
 rw[<-k6] at O
 injection O with O
 injection O with O
 have O:W.size=b3:=O
 subst O
 refine⟨W',θ',.value (.slice (some ⟨W.size,0,none⟩) (i+n) (grownCap W.w (i+n) (θ I).2 E)),?_,(Stp.tick hO).trans e2,.inr ⟨_,rfl,Xuv (xs:=[]) k1 (by omega) (by omega) k3⟩,λi hi=>⟨_,by subst hi;exact Xah _ _ _⟩⟩
 have h1:execOp ρ o=(Builtin.append_ #[T,T'] o.type #[ρ x,ρ y] >>= λv=>pure (.value v)):=by
  simp[execOp,hop,resolve,invoke,builtin]
 rw[h1,Sem.run_bind,ex,hpb,ey,hrun,e1]
 have fin:∀ {a b:Array Value},a=b->(Result.ok (Next.value (.slice (some ⟨W.size,0,none⟩) (i+n) (grownCap W.w (i+n) (θ I).2 E))) (W.w.drew.alloc (.cells a E)):Result Next)=.ok (.value (.slice (some ⟨W.size,0,none⟩) (i+n) (grownCap W.w (i+n) (θ I).2 E))) (W.tick.w.alloc (.cells b E)):=by
  rintro a b rfl;rfl
 exact fin (by apply Array.ext';simp[W3r])
noncomputable def Yiv(tb:Nat->Option TI)(n:Nat)(s:St): Option (Pl×Nat×Nat×Nat×Nat×List D×List D):=match nxA tb n s with
 | some (p,o,[.own q sz l m,.d (.sl h i)])=>match o.op with
  | .call ⟨.builtin .copy,_,⟨[T,T']⟩⟩=>match Nat.beq T T',tb T,look p.H q with
   | true,some j,some (.arr s' xs)=>match j.z,Nat.beq s' sz&&Nat.beq h sz with
    | .sl s2 _,true=>match Nat.beq s2 sz with
     | true=>some (p,q,sz,l,m,xs,i)
     | false=>none
    | _,_=>none
   | _,_,_=>none
  | _=>none
 | _=>none
theorem Cy{q sz l m:Nat}{xs ys:List D}(h:Yiv c.tb c.n s=some (p,q,sz,l,m,xs,ys))(O:l<=xs.length)(Q:ys.length<=m)(h0:0<ys.length)(k:p.nx' c (.d (.int .i64 ys.length)) [(q,.arr sz (xs.take l++ys++xs.drop (l+ys.length)))]): StP c s:=by
 unfold Yiv at h
 split at h<;>try cases h
 rename_i p' o q' V l' m' s3 Z hA
 split at h<;>try cases h
 rename_i asx T T' ho
 split at h<;>try cases h
 rename_i ti s' xs' i j hq
 have i:=W0d i
 subst i
 split at h<;>try cases h
 rename_i s2 zz hz hb
 split at h<;>cases h
 rename_i I
 rw[W0g] at hb
 have b1:=W0d hb.1
 have b2:=W0d hb.2
 have b3:=W0d I
 subst b1;subst b2;subst b3
 refine Xbj hA ?_ k
 rw[ho]
 simp only[F,if_true,j,hz,Yhs,Xhn,toD,Yl6,hq]
 rw[if_pos ⟨trivial,trivial,O,Q,h0⟩]
noncomputable def Yiu(tb:Nat->Option TI)(n:Nat)(s:St): Option (Pl×Nat×Nat×Nat×Nat×List D×Nat×Nat×List D):=match nxA tb n s with
 | some (p,o,[.own q sz l m,.own q2 h i j])=>match o.op with
  | .call ⟨.builtin .copy,_,⟨[T,T']⟩⟩=>match Nat.beq T T',tb T,look p.H q,look p.H q2 with
   | true,some I,some (.arr s' xs),some (.arr O ws)=>match I.z,Nat.beq s' sz&&(Nat.beq h sz&&Nat.beq O sz) with
    | .sl s2 _,true=>match Nat.beq s2 sz with
     | true=>some (p,q,sz,l,m,xs,i,j,ws)
     | false=>none
    | _,_=>none
   | _,_,_,_=>none
  | _=>none
 | _=>none
theorem Cyo(n:Nat){q sz l m j I:Nat}{xs ws:List D}(h:Yiu c.tb c.n s=some (p,q,sz,l,m,xs,j,I,ws))(hl:l<=xs.length)(hn:min I m=n)(h0:0<n)(h2:j+n<=ws.length)(k:p.nx' c (.d (.int .i64 n)) [(q,.arr sz (xs.take l++(ws.drop j).take n++xs.drop (l+n)))]): StP c s:=by
 subst hn
 unfold Yiu at h
 split at h<;>try cases h
 rename_i p' o q' sz' l' m' q2 s3 l3 m3 hA
 split at h<;>try cases h
 rename_i asx T T' ho
 split at h<;>try cases h
 rename_i ti s' xs' O ws' Q V hq Z
 have Q:=W0d Q
 subst Q
 split at h<;>try cases h
 rename_i s2 zz hz hb
 split at h<;>cases h
 rename_i hb2
 rw[W0g,W0g] at hb
 have b1:=W0d hb.1
 have b2:=W0d hb.2.1
 have b4:=W0d hb.2.2
 have b3:=W0d hb2
 subst b1;subst b2;subst b3;subst b4
 have i:((ws.drop j).take (min I m)).length=min I m:=by rw[W0f,W1k];omega
 have e:F c.tb (o.dst.getD 0) (look p.H) o.op [.own q O l m,.own q2 O j I]=some (.d (.int .i64 ((ws.drop j).take (min I m)).length),[(q,.arr O (xs.take l++(ws.drop j).take (min I m)++xs.drop (l+((ws.drop j).take (min I m)).length)))]):=by
  rw[ho]
  simp only[F,if_true,V,hz,Yhs,Z]
  rw[if_pos ⟨trivial,trivial,h2⟩]
  simp only[Yl6,hq]
  rw[if_pos ⟨trivial,trivial,hl,by rw[i];exact Nat.min_le_right ..,by rw[i];exact h0⟩]
 rw[i] at e
 exact Xbj hA e k
theorem Yh2{P:Program}(w:World)(tS tR e:TypeId)(ht:P.underlying tS=some (.slice e))(size:Nat)(hz:∀w,(Go.sizeOf e).run P w=.ok size w)
 (a b:Addr) (la ca lb cb:Nat) (hne:a.block≠b.block) (tA tB:TypeId) (kA kB:Nat)
 (hsa:w.shape? a.block=some (tA,kA)) (hsb:w.shape? b.block=some (tB,kB)) (hkA:kA≠0)
 (hfb:w.frozen? b=false) (hfe:w.frozen? { block:=b.block,off:=kB }=false) :
 (Extern.SlicesOverlaps.overlaps #[tS,tS] #[tR] #[.slice (some a) la ca,.slice (some b) lb cb]).run P w=.ok (.bool false) w:=by
 have hnb:(a.block != b.block)=true:=by simpa using hne
 have hnb':(a.block==b.block)=false:=by simpa using hne
 change Sem.run P (α:=Value) (do
  let some t := (#[tS, tS] : Array TypeId)[0]? | stuck "slices.overlaps: no parameter types"
  let .slice elem ← underlying t | stuck "slices.overlaps: slice type expected"
  let size <-sizeOf elem
  match (some a:Option Addr),(some b:Option Addr) with
  | some a,some b =>
   if la=0\/lb=0\/size=0 then pure (Value.bool false)
   else if a.block != b.block&&(<-frozen a)&&(<-frozen b) then unsupported .addressObserved
   else do
    if a.block != b.block then do
     noView a;noView b
     if ← mayBeOne a b then return Value.bool ((← choose (.extern "sameAddr.stringBytes" 2)) == 1)
    pure (Value.bool (a.block==b.block&&a.off<b.off+lb*size&&b.off<a.off+la*size))
  | _,_=>pure (Value.bool false)) w=_
 by_cases h0:la=0\/lb=0\/size=0
 . simp[run_underlying ht,hz,h0]
 . cases kA with
   | zero=>exact absurd rfl hkA
   | succ kA =>
    cases hfa:w.frozen? a<;>cases hfe2:w.frozen? { block:=a.block,off:=kA+1 } <;>
     simp[run_underlying ht,hz,h0,hnb,hnb',frozen,noView,viewAt,mayBeOne,stringish,shape,Sem.run,hsa,hsb,hfa,hfb,hfe,hfe2]
noncomputable def Yo8(tb:Nat->Option TI)(n:Nat)(s:St): Option (Pl×Oper×FuncId×TypeId×TypeId×TI×Operand×Operand×Operand×Nat×List D×Nat×Nat×Nat×Nat×List D):=match nxO tb n s with
 | some (p,o)=>match o.op,p.dr with
  | .call ⟨.value z,⟨[x,y]⟩,⟨[T,T']⟩⟩,false=>match Xbt (look p.E) z,Xbt (look p.E) x,Xbt (look p.E) y,tb T with
   | some (.d (.raw (.func (.func f) ⟨[]⟩ ⟨[]⟩))),some (.d (.sl i j)),some (.own q sz l m),some h=>match h.z,look p.H q with
    | .sl _ _,some (.arr s' xs)=>some (p,o,f,T,T',h,z,x,y,i,j,q,sz,l,m,xs)
    | _,_=>none
   | _,_,_,_=>none
  | _,_=>none
 | none=>none
theorem Ov{tR:TypeId}{o:Oper}{f:FuncId}{T T':TypeId}{ti:TI}{z x y:Operand}{s3 q sz l m:Nat}{ys xs:List D}(h:Yo8 c.tb c.n s=some (p,o,f,T,T',ti,z,x,y,s3,ys,q,sz,l,m,xs))(hE:∀args w,(callFunc f args).run c.P w=((Extern.SlicesOverlaps.overlaps #[T,T] #[tR] args).run c.P w).andThen λv w'=>.ok (.value v) w')(h0:0<ys.length)(hm:0<m)(V:0<s3)(k:p.nx c (.b (dc False))): StP c s:=by
 rw[show dc False=false by simp[dc]] at k
 unfold Yo8 at h
 split at h<;>try cases h
 rename_i p' o' ho
 split at h<;>try cases h
 rename_i z' x' y' T1 T2 Z hdr
 split at h<;>try cases h
 rename_i ti' hz hx hy hti
 split at h<;>cases h
 rename_i s0 ys0 s' hzt hH
 refine Yce (Q:=(·=(.b false,[]))) ho hdr (λN W θ ρ _ hO hN hB hv=>⟨_,rfl,?_⟩) (λv us h=>by cases h;exact Pl.nx_nil k)
 obtain⟨hk,_⟩:=c.hT _ _ hti
 obtain⟨t',u1,_,u3⟩:=hk.u
 rw[hzt] at u3
 obtain⟨E,e,hsz,hez,ii,v0,i1,i2,_⟩:=u3
 subst e
 have ez:ρ z=.func (.func f) #[] #[]:=by
  obtain⟨cs,⟨h1,_⟩,h2⟩:=hv _ _ hz
  rw[h2,h1];rfl
 obtain⟨pp,cc,ex,e1,e2,e3⟩:=V_sl (hv _ _ hx)
 obtain⟨b,off,hp,j⟩:=e3.resolve_left (λh=>by rw[h] at h0;cases h0)
 obtain⟨b2,p2,f1,f2,f3,ey,f5⟩:=Xea (hv _ _ hy)
 have hg:(sem p.E p.H).2 q=some (.arr s' xs):=hH
 obtain⟨b',cs,T0,r1,r2,r3,r4,r5,r6,r7⟩:=hO.r _ _ hg
 rw[f1] at r1;injection r1 with r1;subst r1
 have hp2:=f5 (by omega)
 obtain⟨fl,k1,k2,_,_⟩:=Xf6 j
 have hfl:0<fl.length:=by rw[k1];exact W1m h0 V
 obtain⟨i,g2⟩:=k2 0 _ (W0e hfl)
 have hne:b≠b2:=λe=>by subst e;exact g2 (r7 _)
 obtain⟨tA,O,hsa,hkA⟩:∃tA O,W.w.shape? b=some (tA,O)/\O≠0:=by
  unfold World.cell? at i
  split at i
  . rename_i c0 t0 fr0 hc0
    refine⟨t0,c0.size,by unfold World.shape?;rw[hc0],λe0=>?_⟩
    split at i
    . cases i
    . have:=(W3l.1 i).1
      omega
  . cases i
 have I:=Yh2 (P:=c.P) W.w T tR E u1 ii.size (λw=>by simp[sizeOf,typeInfo,i1,Sem.run,bind,Sem.bind,pure,program]) ⟨b,off,none⟩ ⟨b2,l*sz,none⟩ ys.length cc m ((θ q).2-l) hne tA T0 O cs.length hsa (by unfold World.shape?;rw[r2];simp) hkA
  (by unfold World.frozen?;rw[r2];simp) (by unfold World.frozen?;rw[r2];simp)
 refine .val (u:=.bool false) hO ?_ ⟨_,rfl,rfl⟩ (λ_ h=>h.elim)
 have e4:execOp ρ o=callFunc f #[ρ x,ρ y]:=by
  simp[execOp,Z,resolve,ez,Deferred.ofValue,invoke]
 rw[e4,hE,ex,hp,ey,hp2,I]
 rfl
theorem Yqw{d sz o n:Nat}{xs ys:List D}(h:Ygu c.tb c.n s=some (p,d,sz,ys,.own o sz 0 n))(i:look p.H o=some (.arr sz xs))(j:n+ys.length<=xs.length)(h0:0<ys.length)(hr:n+ys.length<=137438953472)
 (k:p.nx' c (.own o sz 0 (n+ys.length)) [(o,.arr sz (xs.take n++ys++xs.drop (n+ys.length)))]):StP c s:=by
 refine Xle h (λO I=>?_) k
 simp only[Xkm,i]
 rw[if_neg (λh=>by omega),if_pos ⟨Xdm hr I,rfl,j,rfl,rfl⟩]
noncomputable def Yo7(tb:Nat->Option TI)(n:Nat)(s:St): Option (Pl×Nat×Nat×Nat×Nat×Nat×Nat×List D):=match nxA tb n s with
 | some (p,o,[.own q sz 0 n,.own q2 s2 l m])=>match o.op with
  | .call ⟨.builtin .append,_,⟨[T,T']⟩⟩=>match Nat.beq T T',tb T,look p.H (o.dst.getD 0),look p.H q with
   | true,some h,none,some (.arr s' xs)=>match Nat.ble h.eb 1024&&(Nat.beq q2 q&&(Nat.beq s2 sz&&Nat.beq s' sz)),h.z with
    | true,.sl i _=>match Nat.beq i sz with
     | true=>some (p,o.dst.getD 0,q,sz,n,l,m,xs)
     | false=>none
    | _,_=>none
   | _,_,_,_=>none
  | _=>none
 | _=>none
theorem Yqx{d sz q n l m:Nat}{xs:List D}(h:Yo7 c.tb c.n s=some (p,d,q,sz,n,l,m,xs))(Q:l+m<=xs.length)(V:n+m<=xs.length)(Z:n<xs.length)(hr:n+m<=137438953472)
 (k:p.nx' c (.own q sz 0 (n+m)) [(q,.arr sz (xs.take n++(xs.drop l).take m++xs.drop (n+m)))]):StP c s:=by
 unfold Yo7 at h
 split at h<;>try cases h
 rename_i p' o q' sz' n' q2 s2 l' m' hA
 split at h<;>try cases h
 rename_i asx T T' ho
 split at h<;>try cases h
 rename_i ti s' xs' i j hd hq
 have i:=W0d i
 subst i
 split at h<;>try cases h
 rename_i s3 zz hb hz
 split at h<;>cases h
 rename_i I
 rw[W0g,W0g,W0g] at hb
 have he:=W1g hb.1
 have b1:=W0d hb.2.1
 have b2:=W0d hb.2.2.1
 have b3:=W0d hb.2.2.2
 have b4:=W0d I
 subst b1;subst b2;subst b3;subst b4
 have O:((xs.drop l).take m).length=m:=by rw[W0f,W1k];omega
 refine Xbj hA ?_ k
 rw[ho]
 simp only[F,if_true,j,hd,hz,Xhn,hq]
 rw[if_pos ⟨trivial,trivial,Q⟩]
 simp only[Xkm,hq]
 rw[if_neg (λh=>by omega),if_pos ⟨by rw[O];exact Xdm hr he,rfl,by rw[O];exact V,rfl,rfl⟩,O]
noncomputable def Yis(tb:Nat->Option TI)(n:Nat)(s:St): Option (Pl×Oper×Operand×Operand×TypeId×TI×Nat×List D):=match nxO tb n s with
 | some (p,o)=>match o.op,p.dr with
  | .call ⟨.builtin .append,⟨[x,y]⟩,⟨[T,T']⟩⟩,false=>match Nat.beq T T',Xbt (look p.E) x,Xbt (look p.E) y,tb T with
   | true,some .nil,some (.lit sz j),some h=>match h.z,look p.H (o.dst.getD 0),Nat.ble h.eb 1024 with
    | .sl i _,none,true=>match Nat.beq sz i with
     | true=>some (p,o,x,y,T,h,sz,j)
     | false=>none
    | _,_,_=>none
   | _,_,_,_=>none
  | _,_=>none
 | none=>none
theorem Yqv{o:Oper}{x y:Operand}{T:TypeId}{ti:TI}{sz:Nat}{ys:List D}(h:Yis c.tb c.n s=some (p,o,x,y,T,ti,sz,ys))(h0:0<ys.length)(hl:ys.length<=137438953472)(k:p.nx' c (.own (o.dst.getD 0) sz 0 ys.length) [(o.dst.getD 0,.arr sz ys)]): StP c s:=by
 unfold Yis at h
 split at h<;>try cases h
 rename_i p' o' ho
 split at h<;>try cases h
 rename_i x' y' T1 T2 Z hdr
 split at h<;>try cases h
 rename_i sz1 ys1 ti1 hT hx hy hti
 have hT:=W0d hT
 subst hT
 split at h<;>try cases h
 rename_i sz2 zz hz hd hb
 split at h<;>cases h
 rename_i Q
 have Q:=W0d Q
 subst Q
 refine Xhq ho (by unfold Xal;rw[Z];rfl) hdr (λN W θ ρ _ hO hN hB hv=>?_) k
 obtain⟨hk,_⟩:=c.hT _ _ hti
 obtain⟨t,u1,_,u3⟩:=hk.u
 rw[hz] at u3
 obtain⟨E,e,O,hez,ii,v0,i1,i2,i3,i4,i5⟩:=u3
 subst e
 obtain⟨q,ex⟩:=Xl4 (hv _ _ hx)
 obtain⟨q2,c2,news,ey,hk2,V,hnr,hn1,hna⟩:=Xp3 (z:=.sl sz []) (sz:=sz) hO (c:=.lit sz ys) (ys:=ys) (by simp[Xhn,toD]) (hv _ _ hy)
 rw[O] at V
 have hr:Xho (0+ys.length) ti:=by rw[W1l];exact Xdm hl (W1g hb)
 have I:=Xex (P:=c.P) (W:=W) (ty:=o.type) (ti:=ti) u1 i1 i2 i3 i4 i5 (p:=q) (m:=0) (c:=0) (k:=ys.length) (c2:=c2) (q:=q2) (olds:=[]) (news:=news) (W0a _) (.inl rfl) (by simp) (λb _ j u hj=>by simp at hj) V hnr hn1 hr hk2
 rcases I with ⟨h1,_⟩ | ⟨_,h1,_⟩ | ⟨_,c',zs,h1,h2,h3,I⟩
 . omega
 . omega
 . simp only[W1l,W3u] at I h1 h3
   obtain⟨W',θ',e1,e2,e3⟩:=Xg1 (W:=W.tick) (θ:=θ) (g:=(sem p.E p.H).2) (dd:=o.dst.getD 0) (E:=E) (sz:=sz) (xs:=ys) (cs:=news) (c:=c') (zs:=zs) (Stp.tick hO).obs hN hB hd (hna.mono (Xdy W)) (by rw[V,O]) h1 h2 (by rw[O];exact h3)
   refine⟨W',θ',.value _,?_,(Stp.tick hO).trans e2,.inr ⟨_,rfl,e3⟩,λi hi=>⟨_,by subst hi;exact Xah _ _ _⟩⟩
   have h4:execOp ρ o=(Builtin.append_ #[T,T] o.type #[ρ x,ρ y] >>= λv=>pure (.value v)):=by
    simp[execOp,Z,resolve,invoke,builtin]
   rw[h4,Sem.run_bind,ex,ey,I,e1]
   rfl
end
end Go.Vm
namespace Go.Proofs.YtfjafaehfjjaiaaGreatDoor.P20
open Go Go.Vm Go.Num Go.Tow Go.Proofs.YtfjafaehfjjaiaaGreatDoor Go.Proofs.YtfjafaehfjjaiaaGreatDoor.R20
section
def Pla(xs:List D)(n:Nat)(f:AV->AV)(r:AV)(H':Hpl): Prop:=∃R':List D,(r=f (.own 1000000 7 0 n)/\(H'=[(1000000,.arr 7 (xs++R')),(1000001,.dead)]\/∃Z,H'=[(1000000,.arr 7 (xs++R')),(1000001,.arr 7 Z)]))\/(r=f (.own 1000001 7 0 n)/\H'=[(1000001,.arr 7 (xs++R'))])
theorem Xxe{xs:List D}{i:Nat}(hi:i<=xs.length): ∃A B,xs=A++B/\A.length=i:=⟨xs.take i,xs.drop i,(W3q ..).symm,by rw[W0f];omega⟩
theorem Ye0{xs R:List D}{v:D}{i:Nat}(hi:i<=xs.length): (((xs++R).take (i-0)).take (0+i)++[v]++((xs++R).take (i-0)).drop (0+i+[v].length)).take (0+(i+1))++((xs++R).drop (0+i)).take (xs.length-i)++(((xs++R).take (i-0)).take (0+i)++[v]++((xs++R).take (i-0)).drop (0+i+[v].length)).drop (0+(i+1)+(xs.length-i))=xs.take i++v::xs.drop i++[]:=by
 obtain⟨A,B,rfl,rfl⟩:=Xxe hi
 simp[List.take_append,W6u,W3b,W0b,W5q]
theorem Yjb{xs R:List D}{v:D}{i:Nat}(hi:i<xs.length): (((xs++R).take (0+(i+1))++((xs++R).drop (0+i)).take (xs.length-i)++(xs++R).drop (0+(i+1)+(xs.length-i))).take (0+i))++[v]++(((xs++R).take (0+(i+1))++((xs++R).drop (0+i)).take (xs.length-i)++(xs++R).drop (0+(i+1)+(xs.length-i))).drop (0+i+[v].length))=xs.take i++v::xs.drop i++R.drop 1:=by
 obtain⟨A,B,rfl,rfl⟩:=Xxe (W2f hi)
 rcases B with _ | ⟨b,B⟩
 . simp at hi
 . simp[List.take_append,W6u,W3b,W0b,W5q]
   rw[W5q (by omega),show A.length+1+(B.length+1)-A.length=B.length+2 by omega]
   simp[W6u]
theorem Xzr{h:Sn}: CO0 75 [.nil,.d (.int .i64 0),.lit 7 [dSe h]] (λr i=>r=.own 1000000 7 0 1/\i=.arr 7 [dSe h]):=by
 refine EnW Tryz.func75 λ_ _ _ _=>?_
 refine Xjz (a:=.nil) (r:=.nil) rfl rfl ?_
 refine No rfl (show ¬((1:Nat):Int)=0 by decide) ?_
 refine Yes rfl (by decide) ?_
 refine Yqv rfl (W4s _) (W1g rfl) ?_
 exact Rw [(25,1000000)] [(1000000,.arr 7 [dSe h])] rfl (.one (.rf rfl) rfl rfl) ⟨_,rfl,rfl,rfl⟩
theorem Xx5{xs R:List D}{v:D}{n i:Nat}(O:xs.length=n)(hi:i<=n)(hn:n<=1000): CW0 75 [.own 1000001 7 0 n,.d (.int .i64 i),.d (.sl 7 [v])] [(1000001,.arr 7 (xs++R))] (Pla (xs.take i++v::xs.drop i) (n+1) id):=by
 have j:(xs++R).length=xs.length+R.length:=W0c
 generalize Q:xs++R=X at j |-
 rw[O] at j
 have o:[v].length=1:=rfl
 generalize T:[v]=I at o |-
 refine EnW Tryz.func75 λ_ _ _ _=>?_
 refine Sw i n rfl hi (W0a _) ?_
 refine No rfl (by omega) ?_
 refine By rfl (λh=>?_) λh=>?_
 . obtain rfl:i=n:=by omega
   rcases R with _ | ⟨r0,R⟩
   . refine Ya6 (X++I) rfl rfl (by rw[j];rfl) rfl (by rw[W0c,j,o];show i+0+1<=_;omega) ?_
     refine Rw [(25,1000000)] [(1000000,.arr 7 (X++I)),(1000001,.dead)] rfl (.one (.rf rfl) rfl rfl) ⟨[],.inl ⟨?_,.inl ?_⟩⟩
     . rw[W0c,j,o];rfl
     . rw[<-Q,<-T];subst O;simp
   . refine Yqw rfl rfl (by rw[j,o];show i+1<=i+(R.length+1);omega) (by omega) (by omega) ?_
     refine Rw [] [(1000001,.arr 7 (X.take i++I++X.drop (i+I.length)))] rfl (.one (.rf rfl) rfl rfl) ⟨R,.inr ⟨by rw[o];rfl,?_⟩⟩
     rw[<-Q,<-T];subst O;simp[W6u]
 have Z:¬i=n:=λe=>h (by rw[e])
 have V:i<=xs.length:=by omega
 refine Ar (n+1:Nat) rfl ?_
 refine Kc rfl λr hr=>?_
 refine Gxr rfl ?_
 refine By rfl (λh1=>?_) λh1=>?_
 . refine Sw 0 i rfl (W0w _) hi ?_
   refine Ar (n+1:Nat) rfl ?_
   refine Ar (n+1-i:Nat) rfl ?_
   refine Az 30 (n+1-i) rfl (by omega) (by omega) (by rw[j];omega) (by omega) ?_
   refine Sw i (i-0+(n+1-i)) rfl (by omega) (W0a _) ?_
   refine Cy rfl (by rw[W0f,j];omega) (by omega) (by omega) ?_
   refine Dw rfl ?_
   refine Ar (i+1:Nat) rfl ?_
   refine Sw (i+1) (i-0+(n+1-i)) rfl (by omega) (W0a _) ?_
   refine Sw i n rfl hi (W0a _) ?_
   refine Cyo (n-i) rfl (by rw[W0c,W0c,W0f,W0f,j];omega) (by omega) (by omega) (by rw[j];omega) ?_
   have e:((X.take (i-0)).take (0+i)++I++(X.take (i-0)).drop (0+i+I.length)).take (0+(i+1))++(X.drop (0+i)).take (n-i)++((X.take (i-0)).take (0+i)++I++(X.take (i-0)).drop (0+i+I.length)).drop (0+(i+1)+(n-i))=xs.take i++v::xs.drop i++[]:=by
    rw[<-Q,<-T,<-O];exact Ye0 V
   rw[show i-0+(n+1-i)=n+1 by omega]
   exact Rw [(40,1000000)] [(1000000,.arr 7 _),(1000001,.arr 7 X)] rfl (.one (.rf rfl) rfl rfl) ⟨[],.inl ⟨rfl,.inr ⟨_,by rw[<-e]⟩⟩⟩
 . refine Ar (n+1:Nat) rfl ?_
   refine Su 30 (n+1) rfl (by omega) ?_
   refine Ar (i+1:Nat) rfl ?_
   refine Sw (i+1) (n+1) rfl (by omega) (W0a _) ?_
   refine Ov (tR:=4) rfl (λargs w=>?_) (by omega) (by omega) (by decide) ?_
   . exact run_callFunc_extern Tryz.func131 (by kernel_rfl) (by kernel_rfl) (by kernel_rfl) (e:=Extern.SlicesOverlaps.overlaps _ _) (by kernel_rfl) args w
   refine Yes rfl (by simp[dc]) ?_
   refine Dw rfl ?_
   refine Ar (i+1:Nat) rfl ?_
   refine Sw (i+1) (n+1) rfl (by omega) (W0a _) ?_
   refine Sw i (n+1) rfl (by omega) (W0a _) ?_
   refine Cyo (n-i) rfl (by rw[j];omega) (by omega) (by omega) (by rw[j];omega) ?_
   refine Sw i (n+1) rfl (by omega) (W0a _) ?_
   refine Cy rfl (by rw[W0c,W0c,W0f,j];omega) (by omega) (by omega) ?_
   have e:((X.take (0+(i+1))++(X.drop (0+i)).take (n-i)++X.drop (0+(i+1)+(n-i))).take (0+i))++I++((X.take (0+(i+1))++(X.drop (0+i)).take (n-i)++X.drop (0+(i+1)+(n-i))).drop (0+i+I.length))=xs.take i++v::xs.drop i++R.drop 1:=by
    rw[<-Q,<-T,<-O];exact Yjb (by omega)
   exact Rw [] [(1000001,.arr 7 _)] rfl (.one (.rf rfl) rfl rfl) ⟨R.drop 1,.inr ⟨rfl,by rw[<-e]⟩⟩
theorem Ykl{xs R:List D}{i:Nat}(hi:i<xs.length): ((xs++R).take (i-0)++((xs++R).drop (0+(i+1))).take (xs.length-(i+1))++(xs++R).drop (i-0+(xs.length-(i+1)))).take (xs.length-1)=xs.take i++xs.drop (i+1):=by
 obtain⟨A,B,rfl,rfl⟩:=Xxe (W2f hi)
 rcases B with _ | ⟨b,B⟩
 . simp at hi
 . simp[List.take_append,W6u,W3b,W0b,W5q]
   rw[show A.length+(B.length+1)-(A.length+1)=B.length by omega]
   simp
theorem Ya5{xs R:List D}{n i:Nat}(j:xs.length=n)(hi:i<n)(T:n<=1000): CW0 77 [.own 1000001 7 0 n,.d (.int .i64 i),.d (.int .i64 (i+1:Nat))] [(1000001,.arr 7 (xs++R))] (λr H'=>∃R',r=.own 1000001 7 0 (n-1)/\H'=[(1000001,.arr 7 (xs.take i++xs.drop (i+1)++R'))]):=by
 have o:(xs++R).length=xs.length+R.length:=W0c
 generalize O:xs++R=X at o |-
 rw[j] at o
 have e:i-0+(n-(i+1))=n-1:=by omega
 refine EnW Tryz.func77 λ_ _ _ _=>?_
 refine Sx i (i+1) n rfl (by omega) (by omega) (W0a _) ?_
 refine No rfl (by omega) ?_
 refine Dw rfl ?_
 refine Sw 0 i rfl (by omega) (by omega) ?_
 refine Sw (i+1) n rfl (by omega) (by omega) ?_
 refine Yqx rfl (by omega) (by omega) (by omega) (by omega) ?_
 generalize I:X.take (i-0)++(X.drop (0+(i+1))).take (n-(i+1))++X.drop (i-0+(n-(i+1)))=Y
 have h:Y.take (n-1)=xs.take i++xs.drop (i+1):=by
  rw[<-I,<-O,<-j];exact Ykl (by omega)
 have Q:Y.length=X.length:=by rw[<-I];simp;omega
 rw[e]
 refine Sy (n-1) n rfl (by omega) (by omega) ?_
 refine Cl rfl (by omega) (by omega) ?_
 rw[W1l,h]
 exact Rw [] [(1000001,.arr 7 (xs.take i++xs.drop (i+1)++_++Y.drop (n-1+(n-(n-1)))))] rfl (.one (.rf rfl) rfl rfl) ⟨_,rfl,by rw[W3r]⟩
theorem Ym6{h:Sn}: CO0 31 [.nil,.d (dSe h)] (λv i=>v=.tup (.pr (.own 1000000 7 0 1) (.d (.int .i64 0)))/\i=.arr 7 [dSe h]):=by
 refine EnW Tryz.func31 λ_ _ _ _=>?_
 refine Lo (λ_:Unit=>[(0,.nil),(3,.ptr 3 0),(6,.d (.int .i64 0))]) (λ_=>[(3,.var (.d (dSe h)))]) (λ_=>True) (λ_=>0) () [] rfl trivial (λ_ _=>?_)
 refine Dw rfl ?_
 refine No rfl (by decide) ?_
 refine Dw rfl ?_
 refine Yes rfl (by decide) ?_
 refine CoN rfl (Xzr (h:=h)) (λv i j=>?_)
 obtain⟨rfl,rfl⟩:=j
 exact Rw [(44,1000000)] [(1000000,.arr 7 [dSe h])] rfl (.tup (.cons (.rf rfl) Xa1)) ⟨_,rfl,rfl,rfl⟩
section
variable{K:Nat}{G:Tw K}{S:List (Tow.El K)}{N:List Nm}{U n m:Nat}{a b:Tow.El K}{x y z:Nm}
def PtP(G:Tw K)(S:List (Tow.El K))(N:List Nm)(U:Nat)(x:SV K)(L:List (SV K))(r:AV)(H':Hpl): Prop:=∃L',L'.length<=L.length+1/\NF G S N U L'/\Xbo L'=Xe4 G (x.a,x.p,x.s.f) (Xbo L)/\Pla ((ls L').map dSe) L'.length (λv=>.tup (.pr v (.d (.int .i64 0)))) r H'
theorem Ym4(W:Wn G S N){V:Nat}{L:List (SV K)}{x:SV K}{R:List D}(hU:3*U+2*V<=400)(hL:NF G S N U L)(h3:L.length<=100)(hx:SN G S N V x)(hlm:∀y∈L,y.a=x.a->lim (Xec G y.p x.p y.s.f x.s.f)): CW0 31 [.own 1000001 7 0 L.length,.d (dSe x.s)] [(1000001,.arr 7 ((ls L).map dSe++R))] (PtP G S N (U+V) x L):=by
 have hG:=W.w.g
 have lm:=Xdq L
 obtain⟨tx,O⟩:∃tx:Tr K,tx=(x.a,x.p,x.s.f):=⟨_,rfl⟩
 have hX:∀ {k:Nat} {y:SV K},L[k]?=some y->((ls L).map dSe++R)[k]?=some (dSe y.s):=λ{k y} h=>by
  have hk:=(W0n.1 h).1
  rw[W0r (by rw[lm];exact hk)]
  exact Xos h
 obtain⟨X,hXX⟩:∃X,X=(ls L).map dSe++R:=⟨_,rfl⟩
 rw[<-hXX] at hX |-
 refine EnW Tryz.func31 λ_ _ _ _=>?_
 refine Cu (some 1000000) (λk:Nat=>[(0,.own 1000001 7 0 L.length),(3,.ptr 3 0),(6,.d (.int .i64 k))]) (λ_=>[(1000001,.arr 7 X),(3,.var (.d (dSe x.s)))]) (λk=>k<=L.length/\(∀y∈L.take k,clt G y.a x.a)/\∀y,L[k]?=some y->¬clt G y.a x.a) rfl ?_ λk ⟨hk,T,hge⟩=>?_
 . refine Lo (λk:Nat=>[(0,.own 1000001 7 0 L.length),(3,.ptr 3 0),(6,.d (.int .i64 k))]) (λ_=>[(1000001,.arr 7 X),(3,.var (.d (dSe x.s)))]) (λk=>k<=L.length/\∀y∈L.take k,clt G y.a x.a) (λk=>L.length-k) 0 [] rfl ⟨W0w _,nofun⟩ λk ⟨hk,T⟩=>?_
   refine Dw rfl ?_
   refine By rfl (λh=>?_) λh=>?_
   . obtain⟨y,I⟩:∃y,L[k]?=some y:=⟨_,W0e (by omega)⟩
     refine Eo k rfl (by omega) ?_
     refine Ld (dSe y.s) rfl (hX I) ?_
     refine Ce rfl (Ycp W (hL.m y (W0h I)).c hx.c (by decide) (by decide)) ?_
     refine By rfl (λh2=>?_) λh2=>?_
     . refine Ar (k+1:Nat) rfl ?_
       refine Bk (k+1) [] rfl ⟨by omega,λz j=>?_⟩ (by show L.length-(k+1)<L.length-k;omega)
       rw[W2c,I] at j
       rcases W1r.1 j with j | j
       . exact T z j
       . obtain rfl:=W0j.1 j
         exact h2
     . exact Jn k [] rfl ⟨hk,T,λz j=>by rw[I] at j;cases j;exact h2⟩
   . exact Jn k [] rfl ⟨hk,T,λz j=>absurd (W0n.1 j).1 (by omega)⟩
 refine Cu (some 4) (λc:Bool=>[(0,.own 1000001 7 0 L.length),(3,.ptr 3 0),(6,.d (.int .i64 k)),(39,.b c)]) (λ_=>[(1000001,.arr 7 X),(3,.var (.d (dSe x.s)))]) (λc=>(c=true->∀y,L[k]?=some y->clt G x.a y.a)/\(¬c=true->∃y,L[k]?=some y/\y.a=x.a)) rfl ?_ λc ⟨hc1,hc2⟩=>?_
 . refine Dw rfl ?_
   refine By rfl (λh=>?_) λh=>?_
   . exact Jn true [] rfl ⟨λ_ z j=>absurd (W0n.1 j).1 (by omega),λh=>absurd rfl h⟩
   . obtain⟨y,I⟩:∃y,L[k]?=some y:=⟨_,W0e (by omega)⟩
     refine Eo k rfl (by omega) ?_
     refine Ld (dSe y.s) rfl (hX I) ?_
     refine Ce rfl (P9.Equal_g W (hL.m y (W0h I)).c hx.c (by decide) (by decide)) ?_
     have hn:=hge y I
     refine Jn _ [] rfl ⟨λe z j=>?_,λe=>⟨y,I,?_⟩⟩
     . rw[I] at j;cases j
       have e:¬y.a=x.a:=by simpa [Xap,Xaj] using e
       exact Xrr hG hn e
     . exact W2u.1 (by simpa [Xap,Xaj] using e)
 have F:∀ {o sz:Nat} {xs ys:List D} {g:Hp},g o=some (.arr sz xs)->xs=ys->Fit g [] (.own o sz 0 xs.length) (.d (.sl sz ys)):=λh e=>.own h (by omega) (by subst e;rw[W1e,W2h])
 have hcut:=hL.cut k
 have hT:=(hL.take k).mono (show U<=U+V by omega)
 have key:Xe4 G tx (Xbo L)=Xbo (L.take k)++Xe4 G tx (Xbo (L.drop k)):=by
  have e:Xbo L=Xbo (L.take k)++Xbo (L.drop k):=by rw[<-W1u,W3q]
  rw[e]
  refine Xmy λs hs=>?_
  obtain⟨z,j,rfl⟩:=W2l.1 hs
  rw[O];exact T z j
 refine By rfl (λh=>?_) λh=>?_
 . have hall:∀z∈L.drop k,clt G x.a z.a:=λz j=>by
    obtain⟨y,I⟩:∃y,L[k]?=some y:=by
     cases h:L[k]? with
     | some y=>exact⟨y,rfl⟩
     | none=>rw[W1y (List.getElem?_eq_none_iff.1 h)] at j;cases j
    have h1:=hc1 h y I
    have Q:=(W0n.1 I).1
    have hd:L.drop k=y::L.drop (k+1):=by rw[<-W6m Q,(W0n.1 I).2]
    have hD:=hL.drop k
    rw[hd] at hD j
    rcases W1i.1 j with rfl | j
    . exact h1
    . exact Xc9 hG h1 ((W3e.1 hD.o).1 z j)
   have hN:NF G S N (U+V) (L.take k++x::L.drop k):=hT.app (((hL.drop k).mono (by omega)).cons (hx.mono (by omega)) hall) λz j w hw=>by
    rcases W1i.1 hw with rfl | hw
    . exact T z j
    . exact hcut z j w hw
   have hv:Xbo (L.take k++x::L.drop k)=Xe4 G tx (Xbo L):=by
    rw[key,Xv5 hG λs hs=>?_]
    . rw[O];exact W1u
    . obtain⟨z,j,rfl⟩:=W2l.1 hs
      rw[O];exact hall z j
   have hl:(L.take k++x::L.drop k).length=L.length+1:=by rw[W0c,W0t,W0f,W1k];omega
   have hm:((ls L).map dSe).take k++dSe x.s::((ls L).map dSe).drop k=(ls (L.take k++x::L.drop k)).map dSe:=by simp
   refine Cw [] rfl (hXX ▸ Xx5 (R:=R) (v:=dSe x.s) (i:=k) lm hk (by omega)) λv H' _ hr=>?_
   rw[hm] at hr
   have fin:∀ {r:AV} {H':Hpl},Pla ((ls (L.take k++x::L.drop k)).map dSe) (L.length+1) (λv=>.tup (.pr v (.d (.int .i64 0)))) r H'->PtP G S N (U+V) x L r H':=λh=>⟨_,Nat.le_of_eq hl,hN,O ▸ hv,hl.symm ▸ h⟩
   obtain⟨R',⟨rfl,rfl | ⟨Z,rfl⟩⟩ | ⟨rfl,rfl⟩⟩:=hr
   . show Pl.nx' _ _ (.own 44 7 0 (L.length+1)) [(44,.arr 7 ((ls (L.take k++x::L.drop k)).map dSe++R')),(1000001,.dead)]
     exact Rw [(44,1000000)] [(1000000,.arr 7 ((ls (L.take k++x::L.drop k)).map dSe++R')),(1000001,.dead)] rfl (.tup (.cons (.rf rfl) Xa1)) (fin ⟨R',.inl ⟨rfl,.inl rfl⟩⟩)
   . show Pl.nx' _ _ (.own 44 7 0 (L.length+1)) [(44,.arr 7 ((ls (L.take k++x::L.drop k)).map dSe++R')),(1000001,.arr 7 Z)]
     exact Rw [(44,1000000)] [(1000000,.arr 7 ((ls (L.take k++x::L.drop k)).map dSe++R')),(1000001,.arr 7 Z)] rfl (.tup (.cons (.rf rfl) Xa1)) (fin ⟨R',.inl ⟨rfl,.inr ⟨Z,rfl⟩⟩⟩)
   . show Pl.nx' _ _ (.own 1000001 7 0 (L.length+1)) [(1000001,.arr 7 ((ls (L.take k++x::L.drop k)).map dSe++R'))]
     exact Rw [] [(1000001,.arr 7 ((ls (L.take k++x::L.drop k)).map dSe++R'))] rfl (.tup (.cons (.rf rfl) Xa1)) (fin ⟨R',.inr ⟨rfl,rfl⟩⟩)
 . obtain⟨y,I,hya⟩:=hc2 h
   have hym:=W0h I
   have Q:=(W0n.1 I).1
   have hyS:=hL.m y hym
   have hd:L.drop k=y::L.drop (k+1):=by rw[<-W6m Q,(W0n.1 I).2]
   have hD:=hL.drop k
   rw[hd] at hD
   have ht:Xgw G (y.a,y.p,y.s.f) tx=(x.a,Xb7 G y.p x.p,Xec G y.p x.p y.s.f x.s.f):=by rw[O];rfl
   have hya':((y.a,y.p,y.s.f):Tr K).1=tx.1:=by rw[O];exact hya
   have hyz:∀z∈L.drop (k+1),clt G y.a z.a:=(W3e.1 hD.o).1
   have hzz:∀z∈L.take k,∀w∈L.drop (k+1),clt G z.a w.a:=λz j w hw=>hcut z j w (by rw[hd];exact W0o _ hw)
   refine Dw rfl ?_
   refine Eo k rfl Q ?_
   refine Ld (dSe y.s) rfl (hX I) ?_
   refine Ca rfl (P19.Add_g W hyS.v.v hx.v.v (by omega) hyS.lim.few hx.lim.few) λr hr=>?_
   rcases hr with ⟨hl',w,rfl,hw⟩ | ⟨hbad,rfl⟩
   . refine No rfl (by decide) ?_
     refine Ce rfl (P19.Zero_g W hw (by omega)) ?_
     refine By rfl (λh0=>?_) λh0=>?_
     . refine Ar (k+1:Nat) rfl ?_
       refine Cw [] rfl (hXX ▸ Ya5 (R:=R) (i:=k) lm Q (by omega)) λv H' _ hr=>?_
       obtain⟨R',rfl,rfl⟩:=hr
       have hm:((ls L).map dSe).take k++((ls L).map dSe).drop (k+1)=(ls (L.take k++L.drop (k+1))).map dSe:=by simp
       have hl:(L.take k++L.drop (k+1)).length=L.length-1:=by rw[W0c,W0f,W1k];omega
       have hv:Xbo (L.take k++L.drop (k+1))=Xe4 G tx (Xbo L):=by
        rw[key,hd]
        show _=_++Xe4 G tx ((y.a,y.p,y.s.f)::Xbo (L.drop (k+1)))
        rw[Xj8 hG hya' (by rw[ht];exact h0)]
        exact W1u
       rw[hm]
       show Pl.nx' _ _ (.own 1000001 7 0 (L.length-1)) [(1000001,.arr 7 ((ls (L.take k++L.drop (k+1))).map dSe++R'))]
       exact Rw [] [(1000001,.arr 7 ((ls (L.take k++L.drop (k+1))).map dSe++R'))] rfl (.tup (.cons (.rf rfl) Xa1)) ⟨_,by rw[hl];omega,hT.app ((hL.drop (k+1)).mono (by omega)) hzz,O ▸ hv,⟨R',.inr ⟨by rw[hl],rfl⟩⟩⟩
     . refine Eo k rfl Q ?_
       refine StF (X.set k (dSe ⟨y.s.c,w,Xec G y.p x.p y.s.f x.s.f⟩)) (dSe y.s) rfl (hX I) rfl ?_
       obtain⟨y',hy'⟩:∃y':SV K,y'=⟨⟨y.s.c,w,Xec G y.p x.p y.s.f x.s.f⟩,y.a,Xb7 G y.p x.p⟩:=⟨_,rfl⟩
       have hs:X.set k (dSe ⟨y.s.c,w,Xec G y.p x.p y.s.f x.s.f⟩)=(ls (L.take k++y'::L.drop (k+1))).map dSe++R:=by
        rw[hXX,List.set_append_left _ _ (by rw[lm];exact Q),List.set_eq_take_append_cons_drop,if_pos (by rw[lm];exact Q),hy']
        simp
       have hl:(L.take k++y'::L.drop (k+1)).length=L.length:=by rw[W0c,W0t,W0f,W1k];omega
       have hyN:SN G S N (U+V) y':=by
        rw[hy']
        exact⟨⟨hyS.c,hyS.pos,hyS.v.mul W hx.v hw,Xh6 hG hyS.ne hx.ne,hl'⟩,h0⟩
       have hv:Xbo (L.take k++y'::L.drop (k+1))=Xe4 G tx (Xbo L):=by
        rw[key,hd]
        show _=_++Xe4 G tx ((y.a,y.p,y.s.f)::Xbo (L.drop (k+1)))
        rw[Xmz hG hya' (by rw[ht];exact h0),ht,hy',<-hya]
        exact W1u
       have hN:NF G S N (U+V) (L.take k++y'::L.drop (k+1)):=hT.app (((hL.drop (k+1)).mono (by omega)).cons hyN (by rw[hy'];exact hyz)) λz j w hw=>by
        rcases W1i.1 hw with rfl | hw
        . rw[hy'];exact hcut z j y (by rw[hd];exact W0l ..)
        . exact hzz z j w hw
       rw[hs]
       exact Rw [] [(1000001,.arr 7 ((ls (L.take k++y'::L.drop (k+1))).map dSe++R))] rfl (.tup (.cons (.rf rfl) Xa1)) ⟨_,by rw[hl];omega,hN,O ▸ hv,⟨R,.inr ⟨by rw[hl],rfl⟩⟩⟩
   . exact absurd (hlm y hym hya) hbad
end
end
section
theorem Yf1{h:Sn}{l:List Sn}(j:l.length<=100): CO0 30 [.d (dSs (h::l))] (λr i=>r=.own 1000000 7 0 (h::l).length/\i=.arr 7 ((h::l).map dSe++[])):=by
 refine EnW Tryz.func30 λ_ _ _ _=>?_
 refine Ub rfl (λh=>?_) ?_
 . exact absurd (show dSe _::_=[] from h) nofun
 refine Ya7 ((h::l).map dSe) rfl rfl (W4s _) (by rw[W0i,W0t];omega) ?_
 exact Rw [(7,1000000)] [(1000000,.arr 7 ((h::l).map dSe))] rfl (.one (.rf rfl) rfl rfl) ⟨_,rfl,by rw[W0i];rfl,by rw[W4e]⟩
def adW: Option (List Sn×List D)->List Sn
 | none=>[]
 | some (l,_)=>l
def adH(z:Nm): Option (List Sn×List D)->Hpl
 | none=>[(4,.var zA),(8,.var (.st (.pr (.d (dN z)) .nil)))]
 | some (l,R)=>[(26,.arr 7 (l.map dSe++R)),(4,.var zA),(8,.var (.st (.pr (.d (dN z)) (.own 26 7 0 l.length))))]
section
variable{K:Nat}{G:Tw K}{S:List (Tow.El K)}{N:List Nm}{U n m:Nat}{a b:Tow.El K}{x y z:Nm}
theorem Ym3(W:Wn G S N){V:Nat}{L:List (SV K)}{x:SV K}{R:List D}(i:3*U+2*V<=400)(j:NF G S N U L)(o:L.length<=100)(I:SN G S N V x)(h:∀y∈L,y.a=x.a->lim (Xec G y.p x.p y.s.f x.s.f)): CW0 31 [.own 1000001 7 0 (ls L).length,.d (dSe x.s)] [(1000001,.arr 7 ((ls L).map dSe++R))] (PtP G S N (U+V) x L):=by
 rw[show (ls L).length=L.length from W0i ..]
 exact Ym4 W i j o I h
theorem Yln(W:Wn G S N){V B C:Nat}{L M:List (SV K)}(hx:Gd G S N n x a)(hy:Gd G S N m y b)(hn:n<=400)(hm:m<=400)(hL:NF G S N U L)(hM:NF G S N V M)(hl:L.length<=8)(hml:M.length<=8)(hB:Bf B (Xbo L))(hC:Bf C (Xbo M))(hbc:B+8*(C+1)<=900000)(hU:3*(U+M.length*V)<=400): C0 7 [.d (dAr x (ls L)),.d (dAr y (ls M))] (AdV G S N (U+M.length*V) (L.length+M.length) (n+m) (Tow.add K a b) L M):=by
 refine En Tryz.func7 λ_ _ _=>?_
 refine Ca rfl (P9.Add_g W hx hy hn hm) λv j=>?_
 obtain⟨z,rfl,hz⟩:=j
 refine No rfl (by decide) ?_
 refine Cu (some 4) (λo=>[(3,.ptr 3 0),(4,.ptr 4 0),(8,.ptr 8 0)]) (λo=>(3,.var (.d (dAr y (ls M))))::adH z o) (λo=>adW o=ls L) rfl ?_ λo i=>?_
 . refine Dw rfl ?_
   rcases L with _ | ⟨s0,L⟩
   . refine Ce rfl Yf3 ?_
     exact Jn none [] rfl rfl
   . refine Co rfl (Yf1 (h:=s0.s) (l:=ls L) (by rw[W0i];simp at hl;omega)) λv ob j=>?_
     obtain⟨rfl,rfl⟩:=j
     exact Jn (some (ls (s0::L),[])) [] rfl rfl
 refine Lo (λ((k,o):Nat×Option (List Sn×List D))=>[(4,.ptr 4 0),(8,.ptr 8 0),(29,.d (dSs (ls M))),(30,.d (.int .i64 ((ls M).map dSe).length)),(31,.d (.int .i64 k))]) (λ((k,o):Nat×Option (List Sn×List D))=>adH z o) (λ(k,o)=>k<=M.length/\∃L',ls L'=adW o/\L'.length<=L.length+k/\NF G S N (U+k*V) L'/\Xbo L'=mgV G (Xbo L) ((Xbo M).take k)) (λ(k,_)=>M.length-k) (0,o) [] rfl ⟨W0w _,L,i.symm,W0a _,hL.mono (by omega),rfl⟩ (λ(k,o) ⟨hk,L',i,Q,hN,j⟩=>?_) (hf:=by rcases o with _ | ⟨l,R⟩<;>exact⟨rfl,rfl,rfl,rfl,rfl⟩)
 have hk:k<=M.length:=hk
 have Q:L'.length<=L.length+k:=Q
 have hN:NF G S N (U+k*V) L':=hN
 have j:Xbo L'=mgV G (Xbo L) ((Xbo M).take k):=j
 refine By rfl (λh=>?_) λh=>?_<;>rw[Xdq] at h
 . obtain⟨s,hs⟩:∃s,M[k]?=some s:=⟨_,W0e (by omega)⟩
   have hkV:(k+1)*V<=M.length*V:=W0k _ (by omega)
   rw[W1c,W6j] at hkV
   have T:=W0h hs
   obtain⟨X,hX,hb'⟩:∃X,X<=7*(C+1)/\Bf (B+X) (Xbo L'):=⟨k*(C+1),W0k _ (by omega),by
    rw[j]
    exact(Yey hB λs hs=>hC s (W3v hs)).mono (by
     rw[W0f]
     exact W7x (W0k _ (Nat.min_le_left ..)) _)⟩
   have hlm:∀y∈L',y.a=s.a->lim (Xec G y.p s.p y.s.f s.s.f):=λy hy _=>by
    have h1:-((B+X:Nat):Int)<=y.s.f/\y.s.f<=((B+X:Nat):Int):=hb' _ (W2l.2 ⟨y,hy,rfl⟩)
    have h2:-(C:Int)<=s.s.f/\s.s.f<=C:=hC _ (W2l.2 ⟨s,T,rfl⟩)
    have:=Xn1 (G:=G) (p:=y.p) (q:=s.p) h1 h2
    unfold lim
    omega
   have I:M.length-(k+1)<M.length-k:=by omega
   have O:∀ {L2:List (SV K)} {R':List D},L2.length<=L'.length+1->NF G S N (U+k*V+V) L2->Xbo L2=Xe4 G (s.a,s.p,s.s.f) (Xbo L')->k+1<=M.length/\∃L3,ls L3=adW (some (ls L2,R'))/\L3.length<=L.length+(k+1)/\NF G S N (U+(k+1)*V) L3/\Xbo L3=mgV G (Xbo L) ((Xbo M).take (k+1)):=λg1 g2 g3=>⟨by omega,_,rfl,by omega,g2.mono (by rw[W1c];omega),by rw[g3,j,<-Xvk (Xgp hs)]⟩
   rcases o with _ | ⟨l,R⟩
   . have i:ls L'=[]:=i
     have hL0:L'=[]:=List.map_eq_nil_iff.1 i
     subst hL0
     refine Ix k rfl (Xos hs) ?_
     refine CoN rfl (Ym6 (h:=s.s)) λv ob hv'=>?_
     obtain⟨rfl,rfl⟩:=hv'
     show Pl.nx' _ _ (.tup (.pr (.own 39 7 0 1) (.d (.int .i64 0)))) [(39,.arr 7 [dSe s.s])]
     refine No rfl (by decide) ?_
     refine Ar (k+1:Nat) rfl ?_
     exact Bk (k+1,some (ls [s],[])) [(39,26)] rfl (O (L2:=[s]) (R':=[]) (W0a 1) (NF.nil.cons ((hM.m s T).mono (by omega)) nofun) rfl) I
   . have i:ls L'=l:=i
     subst i
     refine Ix k rfl (Xos hs) ?_
     refine Cw [(1000001,26)] rfl (Ym3 W (V:=V) (x:=s) (by omega) hN (by omega) (hM.m s T) hlm) λv H' _ hr=>?_
     obtain⟨L2,g1,g2,g3,hp⟩:=hr
     rw[show L2.length=(ls L2).length from(W0i ..).symm] at hp
     obtain⟨R',⟨rfl,rfl | ⟨Z,rfl⟩⟩ | ⟨rfl,rfl⟩⟩:=hp
     . show Pl.nx' _ _ (.tup (.pr (.own 39 7 0 (ls L2).length) (.d (.int .i64 0)))) [(39,.arr 7 ((ls L2).map dSe++R')),(26,.dead)]
       refine No rfl (by decide) ?_
       refine Ar (k+1:Nat) rfl ?_
       exact Bk (k+1,some (ls L2,R')) [(26,900),(39,26)] rfl (O g1 g2 g3) I
     . show Pl.nx' _ _ (.tup (.pr (.own 39 7 0 (ls L2).length) (.d (.int .i64 0)))) [(39,.arr 7 ((ls L2).map dSe++R')),(26,.arr 7 Z)]
       refine No rfl (by decide) ?_
       refine Ar (k+1:Nat) rfl ?_
       exact Bk (k+1,some (ls L2,R')) [(26,900),(39,26)] rfl (O g1 g2 g3) I
     . show Pl.nx' _ _ (.tup (.pr (.own 26 7 0 (ls L2).length) (.d (.int .i64 0)))) [(26,.arr 7 ((ls L2).map dSe++R'))]
       refine No rfl (by decide) ?_
       refine Ar (k+1:Nat) rfl ?_
       exact Bk (k+1,some (ls L2,R')) [] rfl (O g1 g2 g3) I
 . obtain rfl:k=M.length:=by omega
   rw[W0b (by rw[W0i];exact W0a _)] at j
   rcases o with _ | ⟨l,R⟩
   . have i:ls L'=[]:=i
     have hL0:L'=[]:=List.map_eq_nil_iff.1 i
     subst hL0
     exact Rt rfl (.tup (.cons (.sd (.pd (.rf rfl) (.nil rfl))) Xa1)) ⟨z,[],rfl,hz,W0w _,NF.nil,j⟩
   . have i:ls L'=l:=i
     subst i
     refine Rt rfl (.tup (.cons (.sd (.pd (.rf rfl) (.own rfl ?_ ?_))) Xa1)) ⟨z,L',rfl,hz,Q,hN,j⟩
     . simp
     . rw[W1e,W5m (by simp),W0b (by simp)]
theorem Ycx(W:Wn G S N){M M':List (SV K)}(hx:Gd G S N n x a)(V:Gd G S N m y a)(hn:n<=400)(hm:m<=400)(hU:U<=200)(Z:M.length<=100)(hv:Xbo M=Xbo M')(T:∀s∈M,SN G S N U s)(hM':∀s∈M',SN G S N U s)(ho:(Xbo M).Pairwise λs t=>clt G s.1 t.1): C0 10 [.d (dAr x (ls M)),.d (dAr y (ls M'))] (·=.b true):=by
 have o:M.length=M'.length:=by simpa using congrArg List.length hv
 have j:∀ {M:List (SV K)} {i:Nat} {s:Sn},(ls M)[i]?=some s->∃y,M[i]?=some y/\y.s=s:=λ{M i s} h=>by
  rw[W1q] at h
  cases e:M[i]? with
  | none=>rw[e] at h;cases h
  | some y=>rw[e] at h;exact⟨y,rfl,by injection h⟩
 refine Xg5 (R20.Good_l (by rw[W0i];exact Z) (R9.Valid_g W hx (by omega)) (λs hs=>?_) (λi s t h1 h2=>?_)) ((R20.Equal_l (P:=λ_ _=>True) (Q:=λ_ _=>True) (by rw[W0i];exact Z) (by rw[W0i,<-o];exact Z) (R9.Equal_g W hx V hn hm) (λi s t h1 h2=>?_)).mono λv e=>e.trans (congrArg AV.b (Xaj.2 ⟨rfl,by rw[W0i,W0i,o],λ_ _ _ _ _=>⟨trivial,trivial⟩⟩)))
 . obtain⟨y,V,rfl⟩:=W2l.1 hs
   have H:=T y V
   exact Yoi W W H.c (by have:=Xb1 G y.a;have:=H.pos;omega) H.v.v H.ne H.lim H.nz (by decide) (by omega)
 . obtain⟨s,I,rfl⟩:=j h1
   obtain⟨t,O,rfl⟩:=j h2
   have p1:=W0n.1 (Xgp I)
   have p2:=W0n.1 (Xgp O)
   have h:=List.pairwise_iff_getElem.1 ho i (i+1) p1.1 p2.1 (W7l i)
   rw[p1.2,p2.2] at h
   have:=R20.compare_g W (T s (W0h I)).c (T t (W0h O)).c (by decide) (by decide)
   rwa[Yku h] at this
 . obtain⟨s,I,rfl⟩:=j h1
   obtain⟨t,O,rfl⟩:=j h2
   have H1:=T s (W0h I)
   have H2:=hM' t (W0h O)
   have e:=Xgp I
   rw[hv,Xgp O] at e
   injection e with e
   injection e with e1 e2
   injection e2 with e2 e3
   refine⟨(R9.Equal_g W H1.c H2.c (by decide) (by decide)).mono λv e=>e.trans (congrArg AV.b (W4q.2 ⟨λ_=>Xaj.2 trivial,λ_=>Xaj.2 e1.symm⟩)),(R19.Same_g W H1.v.v H2.v.v (by omega)).mono λv e=>e.trans (congrArg AV.b (W4q.2 ⟨λ_=>Xaj.2 trivial,λ_=>Xaj.2 ?_⟩))⟩
   rw[e2,e3]
   exact⟨⟨H1.ne,H1.lim⟩,⟨H1.ne,H1.lim⟩,by unfold Ygs;rw[if_neg (by omega),if_neg (by omega)];exact Xta W.w.g⟩
end
theorem AreaAdd_ok{O j:List RO}{at' at2:List (Fin 256)}{ts o:List Int}(ht:ts.length<9223372036854775808)(hz:∀z∈ts,-9223372036854775808<=z/\z<9223372036854775808)(Q:o.length<9223372036854775808)(T:∀z∈o,-9223372036854775808<=z/\z<9223372036854775808): C0 3 [.d (dCb O at' ts),.d (dCb j at2 o)] (·=.b true):=by
 obtain⟨l,m,K,G,S,N,W,⟨b1,b2,b3,b4⟩,c1,c2,c3,c4⟩:=Yg5 O j
 have hG:=W.w.g
 refine En Tryz.func3 λ_ _ _=>?_
 refine Ce rfl Yar ?_
 refine No rfl nofun ?_
 refine Ca rfl (Xpo W b1 b2 b3 b4 ht hz) λv i=>?_
 rcases i with ⟨_,_,_,_,c,rfl,hc⟩ | ⟨x,a,L,pts,c,rfl,hc,hx,hL4,V,hB,hp1,hpts⟩
 . refine Ca rfl (Xpo W c1 c2 c3 c4 Q T) λv i=>?_
   obtain⟨_,_,_,_,d,rfl⟩:∃(a b:List D) (L:List Sn) (l:List Vn) (d:Bool),v=.tup (.pr (.d (dAa a b L)) (.pr (.d (dVs l)) (.b d))):=by
    rcases i with ⟨a,b,L,l,d,e,_⟩ | ⟨x,a,L,l,d,e,_⟩
    . exact⟨a,b,L,l,d,e⟩
    . exact⟨_,_,_,l,d,e⟩
   refine Yes rfl hc ?_
   exact R0
 refine Ca rfl (Xpo W c1 c2 c3 c4 Q T) λv i=>?_
 rcases i with ⟨_,_,_,_,d,rfl,hd⟩ | ⟨y,b,M,pts2,d,rfl,hd,hy,hM4,Z,hC,hq1,hqts⟩
 . refine No rfl (λh=>h hc) ?_
   refine Yes rfl hd ?_
   exact R0
 refine No rfl (λh=>h hc) ?_
 refine No rfl (λh=>h hd) ?_
 have kL:(ls L).length<=100:=by rw[W0i];omega
 have kM:(ls M).length<=100:=by rw[W0i];omega
 refine Dw rfl ?_
 refine Ce rfl (Xry kL) ?_
 refine Ce rfl (Xry kM) ?_
 refine Ca rfl (Yln W hx hy (by decide) (by decide) V Z (by omega) (by omega) hB hC (by decide) (by omega)) λv i=>?_
 obtain⟨z1,L1,rfl,hz1,hl1,hN1,hv1⟩:=i
 refine Dw rfl ?_
 refine Ce rfl (Xry kM) ?_
 refine Ce rfl (Xry kL) ?_
 refine Ca rfl (Yln W hy hx (by decide) (by decide) Z V (by omega) (by omega) hC hB (by decide) (by omega)) λv i=>?_
 obtain⟨z2,L2,rfl,hz2,hl2,hN2,hv2⟩:=i
 refine Ca rfl (R20.Add_v W hx hy (by decide) (by decide) V Z (by omega) (by omega) hB hC (by decide) (by omega)) λv i=>?_
 obtain⟨z3,L3,rfl,hz3,hl3,hN3,hv3⟩:=i
 have I:16+M.length*16<=80:=by omega
 have k80:16+L.length*16<=80:=by omega
 have hv23:Xbo L2=Xbo L3:=by rw[hv2,hv3];exact Yex hG Z.srt V.srt Z.nv V.nv
 rw[(Xay K G).ac] at hz2
 refine Yes rfl (by decide) ?_
 refine Yes rfl (by decide) ?_
 refine No rfl (by decide) ?_
 refine Ce rfl (Ycx W hz1 hz3 (by decide) (by decide) (by decide) (by omega) (hv1.trans hv3.symm) (hN1.mono I).m (hN3.mono I).m hN1.srt) ?_
 refine Yes rfl rfl ?_
 refine Ce rfl (Ycx W hz2 hz3 (by decide) (by decide) (by decide) (by omega) hv23 (hN2.mono k80).m (hN3.mono I).m hN2.srt) ?_
 exact R0
end
end Go.Proofs.YtfjafaehfjjaiaaGreatDoor.P20

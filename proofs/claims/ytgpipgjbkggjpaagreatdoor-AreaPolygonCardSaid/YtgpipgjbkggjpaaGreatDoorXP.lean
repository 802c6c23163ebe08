/- part 6 -/
import Derived.Test.YtgpipgjbkggjpaaGreatDoorXO
import Derived.Lib.Bytealg
import Derived.Shelf.Strings.AsciiSet
import Derived.RangeFuncLeaves
import Derived.ControlIn
import Derived.Shelf.Strings.BuilderK
import Derived.RangeFuncCalls
set_option linter.unusedVariables false
set_option linter.unusedSimpArgs false
set_option maxRecDepth 100000
set_option maxHeartbeats 4000000
namespace Go.Proofs.YtgpipgjbkggjpaaGreatDoor
open Go Go.Vm Go.Num Go.Proofs Go.Shelf Go.RowKit
section
abbrev Tx(s:List UInt8): Prop:=s.length<4611686018427387904
theorem Xg8{s t:List UInt8}(hs:Tx s)(ht:Tx t): C0 243 [.d (.str s),.d (.str t)] (·=.b (dc (s.take t.length=t))):=by
 refine En Tryz.func243 λ_ _ _=>?_
 refine By rfl (λh=>?_) λh=>?_
 . refine Stk t.length _ rfl (by omega) rfl ?_
   exact R1 rfl (.bp Xaj)
 . refine R1 rfl (.bp ⟨λe=>(by cases e),λe=>?_⟩)
   have:=congrArg List.length e
   rw[W0k] at this
   omega
theorem Xnk{s t:List UInt8}(hs:Tx s)(ht:Tx t): C0 101 [.d (.str s),.d (.str t)] (·=.tup (.pr (.d (.str (if s.take t.length=t then s.drop t.length else s))) (.b (dc (s.take t.length=t))))):=by
 have h1:C0 164 [.d (.str s),.d (.str t)] (·=.tup (.pr (.d (.str (if s.take t.length=t then s.drop t.length else s))) (.b (dc (s.take t.length=t))))):=by
  refine En Tryz.func164 λ_ _ _=>?_
  refine Ce rfl (Xg8 hs ht) ?_
  refine By rfl (λh=>?_) λh=>?_
  . refine RTt rfl (.cons (.eq (by rw[if_neg h])) (.one (by exact .bp (c:=false) ⟨λe=>(by cases e),λe=>absurd e h⟩) (λ_ _ e=>by cases e) (λ_ _ e=>by cases e)))
  . have h:=W3e.1 h
    have hl:t.length<=s.length:=by have:=congrArg List.length h;rw[W0k] at this;omega
    refine Sdp t.length _ rfl hl rfl ?_
    refine RTt rfl (.cons (.eq (by rw[if_pos h])) (.one (by exact .bp (c:=true) ⟨λ_=>h,λ_=>rfl⟩) (λ_ _ e=>by cases e) (λ_ _ e=>by cases e)))
 refine En Tryz.func101 λ_ _ _=>?_
 refine Ce rfl h1 ?_
 exact R0t
end
section
def d2(n:Nat): List UInt8:=[UInt8.ofNat (48+n/10),UInt8.ofNat (48+n%10)]
theorem Yiz{n:Nat}(h:10<=n)(h1:n<100): dec n=d2 n:=by rw[Xf7 h,Xd1 (by omega)];rfl
def tb2: List UInt8:=(List.range 100).flatMap d2
theorem Xx8{n:Nat}(hn:n<100): C0 296 [.d (.int .i64 n)] (·=.d (.str (dec n))):=by
 refine En Tryz.func296 λ_ _ _=>?_
 refine By rfl (λh=>?_) λh=>?_
 . refine Ar (n+1:Nat) rfl ?_
   refine Smd n (n+1) (dec n) rfl ⟨by omega,by simp;omega⟩ ?_ ?_
   . rw[Xd1 (by omega)]
     have h1:n<10:=by omega
     clear hn h
     revert h1;generalize n=j;revert j;decide +kernel
   . exact R0
 . refine Ar (n*2:Nat) rfl ?_
   refine Ar (n*2:Nat) rfl ?_
   refine Ar (n*2+2:Nat) rfl ?_
   refine Smd (n*2) (n*2+2) (dec n) rfl ⟨by omega,by simp;omega⟩ ?_ ?_
   . rw[Yiz (by omega) hn]
     clear h
     revert hn;generalize n=j;revert j;decide +kernel
   . exact R0
theorem Xmk{n:Nat}(hn:n<=64): C0 337 [.d (.int .i64 n)] (·=.d (.int .i64 (n*78913/262144:Nat))):=by
 refine En Tryz.func337 λ_ _ _=>?_
 refine Ar (n*78913:Nat) rfl ?_
 refine Ar (n*78913/2^18:Nat) rfl ?_ (Xi4 (n:=18) (by decide))
 exact R1 rfl (.eq rfl)
theorem Xzy{p:Prop}: C0 339 [.b (dc p)] (λv=>∃n:Nat,v=.d (.int .i64 n)/\(n=1/\p\/n=0/\¬p)):=by
 refine En Tryz.func339 λ_ _ _=>?_
 refine By rfl (λh=>?_) λh=>?_
 . exact Rt rfl (.one (.rf rfl) rfl rfl) ⟨1,rfl,.inl ⟨rfl,h⟩⟩
 . exact Rt rfl (.one (.rf rfl) rfl rfl) ⟨0,rfl,.inr ⟨rfl,h⟩⟩
theorem Xz8{x:Nat}(hx:x<18446744073709551616): C0 338 [.d (.int .u64 x)] (·=.d (.int .i64 (bl x))):=by
 refine En Tryz.func338 λ_ _ _=>?_
 refine Cu none (λ((x1,n1):Nat×Nat)=>[(0,.d (.int .u64 x1)),(2,.d (.int .i64 n1))]) (λ_=>[]) (λ(x1,n1)=>x1<4294967296/\bl x=bl x1+n1/\n1<=32) rfl ?_ λ⟨x0,n0⟩ ⟨hx0,hb0,hn0⟩=>?_
 . refine By rfl (λh=>?_) λh=>?_
   . refine Ar (x/2^32:Nat) rfl ?_ (Xi4 (n:=32) (by decide))
     exact Jn (x/2^32,32) [] rfl ⟨by omega,Xey (by omega),W0a _⟩
   . exact Jn (x,0) [] rfl ⟨by omega,rfl,by omega⟩
 refine Cu none (λ((x1,n1):Nat×Nat)=>[(0,.d (.int .u64 x1)),(2,.d (.int .i64 n1))]) (λ_=>[]) (λ(x1,n1)=>x1<65536/\bl x=bl x1+n1/\n1<=48) rfl ?_ λ⟨x1,n1⟩ ⟨hx1,hb1,hn1⟩=>?_
 . refine By rfl (λh=>?_) λh=>?_
   . refine Ar (x0/2^16:Nat) rfl ?_ (Xi4 (n:=16) (by decide))
     refine Ar (n0+16:Nat) rfl ?_
     exact Jn (x0/2^16,n0+16) [] rfl ⟨by omega,by rw[hb0,Xey (n:=x0) (k:=16) (by omega)];omega,by omega⟩
   . exact Jn (x0,n0) [] rfl ⟨by omega,hb0,by omega⟩
 refine Cu none (λ((x1,n1):Nat×Nat)=>[(0,.d (.int .u64 x1)),(2,.d (.int .i64 n1))]) (λ_=>[]) (λ(x1,n1)=>x1<256/\bl x=bl x1+n1/\n1<=56) rfl ?_ λ⟨x2,n2⟩ ⟨hx2,hb2,hn2⟩=>?_
 . refine By rfl (λh=>?_) λh=>?_
   . refine Ar (x1/2^8:Nat) rfl ?_ (Xi4 (n:=8) (by decide))
     refine Ar (n1+8:Nat) rfl ?_
     exact Jn (x1/2^8,n1+8) [] rfl ⟨by omega,by rw[hb1,Xey (n:=x1) (k:=8) (by omega)];omega,by omega⟩
   . exact Jn (x1,n1) [] rfl ⟨by omega,hb1,by omega⟩
 have hbl:bl x2<256:=W0s (Ybu (p:=λj=>bl j<10) (by decide +kernel) x2 hx2) (by decide)
 refine Go.Vm.Cv x2 rfl ?_
 refine Yx x2 (UInt8.ofNat (bl x2)) rfl (by revert hx2;generalize x2=j;revert j;decide +kernel) ?_
 refine Go.Vm.Cv (bl x2:Nat) rfl ?_ ((wI ⟨by omega,by rw[Xxy hbl];omega⟩).trans (Xxy hbl))
 refine Ar (bl x:Nat) rfl ?_
 exact R0
theorem Xmh{x:Nat}(h1:100<=x)(hx:x<1000000000): C0 297 [.d (.int .u64 x)] (·=.d (.int .i64 (dec x).length)):=by
 obtain⟨b1,b2,b3⟩:=Xcl (n:=x) (by omega)
 have hb7:7<=bl x:=by
  have:2^6<2^bl x:=W1v (by omega) b2
  have:=(W2s (by decide:1<2)).1 this
  omega
 have hb30:bl x<=30:=by
  have:2^(bl x-1)<2^30:=W1v b1 (by omega)
  have:=(W2s (by decide:1<2)).1 this
  omega
 obtain⟨t,ht⟩:∃t,t=bl x*78913/262144:=⟨_,rfl⟩
 have ht9:t<=9:=by omega
 have key:10^(t-1)<=x/\x<10^(t+1)/\1<=t:=by
  have hc:∀b,b<=30->7<=b->10^(b*78913/262144-1)<=2^(b-1)/\2^b<=10^(b*78913/262144+1)/\1<=b*78913/262144:=by decide +kernel
  obtain⟨c1,c2,c3⟩:=hc (bl x) hb30 hb7
  rw[<-ht] at c1 c2 c3
  exact⟨W0h c1 b1,W0s b2 c2,c3⟩
 refine En Tryz.func297 λ_ _ _=>?_
 refine Ce rfl (Xz8 (by omega)) ?_
 refine Ce rfl (show C0 _ _ (·=.d (.int .i64 (t:Nat))) by rw[ht];exact Xmk (by omega)) ?_
 refine Gx t .u64 ((10^t:Nat):Int) rfl (by omega) (λW h=>h t (by omega)) ?_ ?_
 . have:10^t<=10^9:=W0j (by decide) ht9
   exact wr rfl (by simp only[inK];omega)
 refine Ca rfl (C.nb Xzy) λv hv=>?_
 obtain⟨n,rfl,hn⟩:=hv
 refine Ar ((dec x).length:Nat) rfl ?_ ?_
 . exact R0
 . refine wr ?_ ?_
   . rcases hn with ⟨rfl,hp⟩ | ⟨rfl,hp⟩
     . have:=Xfi t x key.2.1
       have:=Xew t x (by omega)
       omega
     . have h3:=Xfi (t-1) x (by rw[show t-1+1=t by omega];omega)
       have h4:=Xew (t-1) x key.1
       omega
   . have:=Xfi 9 x (by omega)
     simp only[inK];omega
end
section
def dgs: Nat->Nat->List UInt8
 | 0,_=>[]
 | w+1,n=>dgs w (n/10)++[UInt8.ofNat (48+n%10)]
theorem Yek(w n:Nat): dgs (w+2) n=dgs w (n/100)++d2 (n%100):=by
 rw[dgs,dgs,W6e,d2,show n/10%10=n%100/10 by omega,show n%10=n%100%10 by omega]
 simp
theorem Xwq(n:Nat): dgs (dec n).length n=dec n:=by
 induction n using Nat.strongRecOn with
 | ind n ih =>
  by_cases h:n<10
  . rw[Xd1 h];show dgs 1 n=_;rw[dgs,dgs,W3a h];rfl
  . rw[Xf7 (by omega),W0e];show dgs (_+1) n=_
    rw[dgs,ih _ (by omega)]
def b8(b:UInt8): D:=.int .u8 b.toNat
theorem Xw8: ∀l:List UInt8,Xzw (l.map b8)=some l
 | []=>rfl
 | b::l=>by
  show (match Xzw (l.map b8) with | some s=>some (UInt8.ofNat ((b.toNat:Int)).toNat::s) | none=>none)=_
  rw[Xw8 l];simp
theorem st1{z acc:List UInt8}{i j:Nat}{a:UInt8}(h1:j+1=i)(h2:i<=z.length): ((z.take i++acc).map b8).set j (b8 a)=(z.take j++a::acc).map b8:=by
 subst h1
 rw[<-List.map_set]
 congr 1
 apply W4d
 intro k
 by_cases hk:k<j
 . rw[W1u (by omega),W0x (by simp;omega),W0x (by simp;omega),W1g,W1g,if_pos (by omega),if_pos (by omega)]
 . by_cases hk2:k=j
   . subst hk2
     rw[W2t (by simp;omega),W0o (by simp;omega)]
     have:k-(List.take k z).length=0:=by simp;omega
     rw[this];rfl
   . obtain⟨q,rfl⟩:∃q,k=j+1+q:=⟨k-(j+1),by omega⟩
     rw[W1u (by omega),W0o (by simp;omega),W0o (by simp;omega)]
     have e1:j+1+q-(List.take (j+1) z).length=q:=by simp;omega
     have e2:j+1+q-(List.take j z).length=q+1:=by simp;omega
     rw[e1,e2];simp
def Ym1(l:List UInt8): Prop:=∀v,v<100->l[v*2+1]?=some (UInt8.ofNat (48+v%10))/\l[v*2]?=some (UInt8.ofNat (48+v/10))
instance (l:List UInt8):Decidable (Ym1 l):=inferInstanceAs (Decidable (∀v,v<100->_))
theorem quN{k:IntKind}{a b r:Nat}(hb:b≠0)(h:a/b=r)(hk:inK k (r:Int)): arB .quo k (a:Int) (b:Int) (r:Int):=show _/\_ from⟨by omega,wr (by subst h;rfl) hk⟩
theorem reN{k:IntKind}{a b r:Nat}(hb:b≠0)(h:a%b=r): arB .rem k (a:Int) (b:Int) (r:Int):=show _/\_ from⟨by omega,by subst h;rfl⟩
theorem tbl: Ym1 (List.flatten ((List.range 100).map d2)):=by decide +kernel
theorem Stb{c:Cx}{s:St}{p:Pl}{q j:Nat}{xs:List D}{z:Int}(a:UInt8){zs:List D}(h:Ylf c.tb c.n s=some (p,q,1,xs,j,.int .u8 z))(hj:j<xs.length)(hz:xs.set j (b8 a)=zs)(k:p.nx' c (.ub True) [(q,.arr 1 zs)])(hza:z=(a.toNat:Int):=by exact rfl): StP c s:=by
 subst hza
 exact Sto h hj hz k
theorem Xit{nd x:Nat}{z0:List UInt8}(h1:nd<=9)(hx:x<1000000000)(hxn:x<10^nd)(hz0:nd<=z0.length)(hz24:z0.length<1000):
 CW0 298 [.own 1000001 1 0 nd,.d (.int .u64 x)] [(1000001,.arr 1 (z0.map b8))] λv H'=>H'=[(1000001,.arr 1 ((dgs nd x++z0.drop nd).map b8))]:=by
 refine EnW Tryz.func298 λ_ _ _ _=>?_
 refine Lo (λ((i,u,acc):Nat×Nat×List UInt8)=>[(0,.own 1000001 1 0 nd),(1,.d (.int .u64 u)),(4,.d (.int .i64 i))]) (λ(i,_,acc)=>[(1000001,.arr 1 ((z0.take i++acc).map b8))])
  (λ(i,u,acc)=>i<=nd/\u<10^i/\u<1000000000/\dgs i u++acc=dgs nd x++z0.drop nd) (λ(i,_,_)=>i) (nd,x,z0.drop nd) [] rfl ⟨W0a _,hxn,hx,rfl⟩ ?_ (by exact⟨rfl,by simp only[W5m];rfl,rfl,rfl,rfl⟩)
 rintro⟨i,u,acc⟩ ⟨hi,hu,hu9,hI⟩
 refine By rfl (λh=>?_) λh=>?_
 . obtain⟨v,hv⟩:∃v,v=u%100000000:=⟨_,rfl⟩
   obtain⟨t6,ht6⟩:∃t,t=v/10000:=⟨_,rfl⟩
   obtain⟨t7,ht7⟩:∃t,t=v%10000:=⟨_,rfl⟩
   obtain⟨v0,hv0⟩:∃w,w=t7%100:=⟨_,rfl⟩
   obtain⟨v1,hv1⟩:∃w,w=t7/100:=⟨_,rfl⟩
   obtain⟨v2,hv2⟩:∃w,w=t6%100:=⟨_,rfl⟩
   obtain⟨v3,hv3⟩:∃w,w=t6/100:=⟨_,rfl⟩
   have Bv0:v0<100:=by omega
   have Bv1:v1<100:=by omega
   have Bv2:v2<100:=by omega
   have Bv3:v3<100:=by omega
   refine Ar (v:Nat) rfl ?_ (reN (b:=100000000) (by decide) hv.symm)
   refine Go.Vm.Cv v rfl ?_
   refine Ar (u/100000000:Nat) rfl ?_ (quN (b:=100000000) (by decide) rfl (by simp only[inK];omega))
   refine Ar t6 rfl ?_ (quN (b:=10000) (by decide) ht6.symm (by simp only[inK];omega))
   refine Ar t7 rfl ?_ (reN (b:=10000) (by decide) ht7.symm)
   refine Ar v1 rfl ?_ (quN (b:=100) (by decide) hv1.symm (by simp only[inK];omega))
   refine Ar (v1*2:Nat) rfl ?_
   refine Ar v0 rfl ?_ (reN (b:=100) (by decide) hv0.symm)
   refine Ar (v0*2:Nat) rfl ?_
   refine Ar v3 rfl ?_ (quN (b:=100) (by decide) hv3.symm (by simp only[inK];omega))
   refine Ar (v3*2:Nat) rfl ?_
   refine Ar v2 rfl ?_ (reN (b:=100) (by decide) hv2.symm)
   refine Ar (v2*2:Nat) rfl ?_
   refine Dw rfl ?_
   refine Ar ((i-1:Nat):Int) rfl ?_
   refine Ar ((i-2:Nat):Int) rfl ?_
   refine Ar ((v0*2+1:Nat):Int) rfl ?_
   refine Yx (v0*2+1) (UInt8.ofNat (48+v0%10)) rfl (tbl v0 Bv0).1 ?_
   refine Yx (v0*2) (UInt8.ofNat (48+v0/10)) rfl (tbl v0 Bv0).2 ?_
   refine Eo (i-1) rfl (by omega) ?_
   refine Stb (UInt8.ofNat (48+v0%10)) rfl (by simp only[W0l,W0e,W0k,W0q];omega) (st1 (by omega) (by omega)) ?_
   refine Eo (i-2) rfl (by omega) ?_
   refine Stb (UInt8.ofNat (48+v0/10)) rfl (by simp only[W0l,W0e,W0k,W0q];omega) (st1 (by omega) (by omega)) ?_
   refine Dw rfl ?_
   refine Ar ((i-3:Nat):Int) rfl ?_
   refine Ar ((i-4:Nat):Int) rfl ?_
   refine Ar ((v1*2+1:Nat):Int) rfl ?_
   refine Yx (v1*2+1) (UInt8.ofNat (48+v1%10)) rfl (tbl v1 Bv1).1 ?_
   refine Yx (v1*2) (UInt8.ofNat (48+v1/10)) rfl (tbl v1 Bv1).2 ?_
   refine Eo (i-3) rfl (by omega) ?_
   refine Stb (UInt8.ofNat (48+v1%10)) rfl (by simp only[W0l,W0e,W0k,W0q];omega) (st1 (by omega) (by omega)) ?_
   refine Eo (i-4) rfl (by omega) ?_
   refine Stb (UInt8.ofNat (48+v1/10)) rfl (by simp only[W0l,W0e,W0k,W0q];omega) (st1 (by omega) (by omega)) ?_
   refine Dw rfl ?_
   refine Ar ((i-5:Nat):Int) rfl ?_
   refine Ar ((i-6:Nat):Int) rfl ?_
   refine Ar ((v2*2+1:Nat):Int) rfl ?_
   refine Yx (v2*2+1) (UInt8.ofNat (48+v2%10)) rfl (tbl v2 Bv2).1 ?_
   refine Yx (v2*2) (UInt8.ofNat (48+v2/10)) rfl (tbl v2 Bv2).2 ?_
   refine Eo (i-5) rfl (by omega) ?_
   refine Stb (UInt8.ofNat (48+v2%10)) rfl (by simp only[W0l,W0e,W0k,W0q];omega) (st1 (by omega) (by omega)) ?_
   refine Eo (i-6) rfl (by omega) ?_
   refine Stb (UInt8.ofNat (48+v2/10)) rfl (by simp only[W0l,W0e,W0k,W0q];omega) (st1 (by omega) (by omega)) ?_
   refine Dw rfl ?_
   refine Ar ((i-7:Nat):Int) rfl ?_
   refine Ar ((i-8:Nat):Int) rfl ?_
   refine Ar ((v3*2+1:Nat):Int) rfl ?_
   refine Yx (v3*2+1) (UInt8.ofNat (48+v3%10)) rfl (tbl v3 Bv3).1 ?_
   refine Yx (v3*2) (UInt8.ofNat (48+v3/10)) rfl (tbl v3 Bv3).2 ?_
   refine Eo (i-7) rfl (by omega) ?_
   refine Stb (UInt8.ofNat (48+v3%10)) rfl (by simp only[W0l,W0e,W0k,W0q];omega) (st1 (by omega) (by omega)) ?_
   refine Eo (i-8) rfl (by omega) ?_
   refine Stb (UInt8.ofNat (48+v3/10)) rfl (by simp only[W0l,W0e,W0k,W0q];omega) (st1 (by omega) (by omega)) ?_
   refine Ar ((i-8:Nat):Int) rfl ?_
   refine Bk (i-8,u/100000000,d2 v3++(d2 v2++(d2 v1++(d2 v0++acc)))) [] rfl ⟨by omega,?_,by omega,?_⟩ (by show i-8<i;omega) (by exact⟨rfl,rfl,rfl,rfl,rfl⟩)
   . obtain⟨q,rfl⟩:∃q,i=q+8:=⟨i-8,by omega⟩
     rw[W0w] at hu
     rw[W3p]
     exact W4m (by rw[W1h];exact hu)
   . obtain⟨q,rfl⟩:∃q,i=q+8:=⟨i-8,by omega⟩
     rw[W3p,<-hI,show q+8=q+6+2 from rfl,Yek,show q+6=q+4+2 from rfl,Yek,show q+4=q+2+2 from rfl,Yek,Yek]
     rw[show u/100/100/100/100=u/100000000 by omega,show u%100=v0 by omega,show u/100%100=v1 by omega,show u/100/100%100=v2 by omega,show u/100/100/100%100=v3 by omega]
     simp only[W5p]
 have hi8:i<8:=by omega
 have hu8:u<10^8:=W0s hu (W0j (by decide) (by omega))
 refine Go.Vm.Cv u rfl ?_
 refine Cu none (λ((i,u,acc):Nat×Nat×List UInt8)=>[(0,.own 1000001 1 0 nd),(12,.d (.int .u32 u)),(4,.d (.int .i64 i))]) (λ(i,_,acc)=>[(1000001,.arr 1 ((z0.take i++acc).map b8))])
  (λ(i,u,acc)=>i<=nd/\i<4/\u<10^i/\dgs i u++acc=dgs nd x++z0.drop nd) rfl ?_ ?_
 . refine By rfl (λh4=>?_) λh4=>?_
   . obtain⟨v,hv⟩:∃v,v=u%10000:=⟨_,rfl⟩
     obtain⟨v0,hv0⟩:∃w,w=v%100:=⟨_,rfl⟩
     obtain⟨v1,hv1⟩:∃w,w=v/100:=⟨_,rfl⟩
     have Bv0:v0<100:=by omega
     have Bv1:v1<100:=by omega
     refine Ar (v:Nat) rfl ?_ (reN (b:=10000) (by decide) hv.symm)
     refine Ar (u/10000:Nat) rfl ?_ (quN (b:=10000) (by decide) rfl (by simp only[inK];omega))
     refine Ar v1 rfl ?_ (quN (b:=100) (by decide) hv1.symm (by simp only[inK];omega))
     refine Ar (v1*2:Nat) rfl ?_
     refine Ar v0 rfl ?_ (reN (b:=100) (by decide) hv0.symm)
     refine Ar (v0*2:Nat) rfl ?_
     refine Dw rfl ?_
     refine Ar ((i-1:Nat):Int) rfl ?_
     refine Ar ((i-2:Nat):Int) rfl ?_
     refine Ar ((v0*2+1:Nat):Int) rfl ?_
     refine Yx (v0*2+1) (UInt8.ofNat (48+v0%10)) rfl (tbl v0 Bv0).1 ?_
     refine Yx (v0*2) (UInt8.ofNat (48+v0/10)) rfl (tbl v0 Bv0).2 ?_
     refine Eo (i-1) rfl (by omega) ?_
     refine Stb (UInt8.ofNat (48+v0%10)) rfl (by simp only[W0l,W0e,W0k,W0q];omega) (st1 (by omega) (by omega)) ?_
     refine Eo (i-2) rfl (by omega) ?_
     refine Stb (UInt8.ofNat (48+v0/10)) rfl (by simp only[W0l,W0e,W0k,W0q];omega) (st1 (by omega) (by omega)) ?_
     refine Dw rfl ?_
     refine Ar ((i-3:Nat):Int) rfl ?_
     refine Ar ((i-4:Nat):Int) rfl ?_
     refine Ar ((v1*2+1:Nat):Int) rfl ?_
     refine Yx (v1*2+1) (UInt8.ofNat (48+v1%10)) rfl (tbl v1 Bv1).1 ?_
     refine Yx (v1*2) (UInt8.ofNat (48+v1/10)) rfl (tbl v1 Bv1).2 ?_
     refine Eo (i-3) rfl (by omega) ?_
     refine Stb (UInt8.ofNat (48+v1%10)) rfl (by simp only[W0l,W0e,W0k,W0q];omega) (st1 (by omega) (by omega)) ?_
     refine Eo (i-4) rfl (by omega) ?_
     refine Stb (UInt8.ofNat (48+v1/10)) rfl (by simp only[W0l,W0e,W0k,W0q];omega) (st1 (by omega) (by omega)) ?_
     refine Ar ((i-4:Nat):Int) rfl ?_
     refine Jn (i-4,u/10000,d2 v1++(d2 v0++acc)) [] rfl ⟨by omega,by omega,?_,?_⟩
     . obtain⟨q,rfl⟩:∃q,i=q+4:=⟨i-4,by omega⟩
       rw[W0w] at hu
       rw[W3p]
       exact W4m (by rw[W1h];exact hu)
     . obtain⟨q,rfl⟩:∃q,i=q+4:=⟨i-4,by omega⟩
       rw[W3p,<-hI,show q+4=q+2+2 from rfl,Yek,Yek]
       rw[show u/100/100=u/10000 by omega,show u%100=v0 by omega,show u/100%100=v1 by omega]
       simp only[W5p]
   . exact Jn (i,u,acc) [] rfl ⟨hi,by omega,hu,hI⟩
 clear hu8 hi8 h hI hu9 hu hi acc u i
 rintro⟨i,u,acc⟩ ⟨hi,hi4,hu,hI⟩
 have hu4:u<10^4:=W0s hu (W0j (by decide) (by omega))
 refine Cu none (λ((i,u,acc):Nat×Nat×List UInt8)=>[(0,.own 1000001 1 0 nd),(12,.d (.int .u32 u)),(4,.d (.int .i64 i))]) (λ(i,_,acc)=>[(1000001,.arr 1 ((z0.take i++acc).map b8))])
  (λ(i,u,acc)=>i<=nd/\i<2/\u<10^i/\dgs i u++acc=dgs nd x++z0.drop nd) rfl ?_ ?_
 . refine By rfl (λh4=>?_) λh4=>?_
   . obtain⟨v0,hv0⟩:∃w,w=u%100:=⟨_,rfl⟩
     have Bv0:v0<100:=by omega
     refine Ar v0 rfl ?_ (reN (b:=100) (by decide) hv0.symm)
     refine Ar (v0*2:Nat) rfl ?_
     refine Ar (u/100:Nat) rfl ?_ (quN (b:=100) (by decide) rfl (by simp only[inK];omega))
     refine Dw rfl ?_
     refine Ar ((i-1:Nat):Int) rfl ?_
     refine Ar ((i-2:Nat):Int) rfl ?_
     refine Ar ((v0*2+1:Nat):Int) rfl ?_
     refine Yx (v0*2+1) (UInt8.ofNat (48+v0%10)) rfl (tbl v0 Bv0).1 ?_
     refine Yx (v0*2) (UInt8.ofNat (48+v0/10)) rfl (tbl v0 Bv0).2 ?_
     refine Eo (i-1) rfl (by omega) ?_
     refine Stb (UInt8.ofNat (48+v0%10)) rfl (by simp only[W0l,W0e,W0k,W0q];omega) (st1 (by omega) (by omega)) ?_
     refine Eo (i-2) rfl (by omega) ?_
     refine Stb (UInt8.ofNat (48+v0/10)) rfl (by simp only[W0l,W0e,W0k,W0q];omega) (st1 (by omega) (by omega)) ?_
     refine Ar ((i-2:Nat):Int) rfl ?_
     refine Jn (i-2,u/100,d2 v0++acc) [] rfl ⟨by omega,by omega,?_,?_⟩
     . obtain⟨q,rfl⟩:∃q,i=q+2:=⟨i-2,by omega⟩
       rw[W0w] at hu
       rw[W3p]
       exact W4m (by rw[W1h];exact hu)
     . obtain⟨q,rfl⟩:∃q,i=q+2:=⟨i-2,by omega⟩
       rw[W3p,<-hI,Yek,<-hv0]
       simp only[W5p]
   . exact Jn (i,u,acc) [] rfl ⟨hi,by omega,hu,hI⟩
 clear hu4 hi4 hI hu hi acc u i
 rintro⟨i,u,acc⟩ ⟨hi,hi2,hu,hI⟩
 refine By rfl (λh4=>?_) λh4=>?_
 . have:i=1:=by omega
   subst this
   have hu1:u<10:=by simpa using hu
   refine Ar (48+u:Nat) rfl ?_
   refine Go.Vm.Cv (48+u:Nat) rfl ?_
   refine Eo 0 rfl (by omega) ?_
   refine Stb (UInt8.ofNat (48+u)) rfl (by simp only[W0l,W0e,W0k];omega) (st1 (i:=1) rfl (by omega)) ?_ (by rw[dg hu1])
   refine Rw [] [(1000001,.arr 1 ((z0.take 0++UInt8.ofNat (48+u)::acc).map b8))] rfl (.tup (.one (.rf rfl) (λ_ _ e=>by cases e) (λ_ _ e=>by cases e))) ?_
   rw[<-hI,dgs,dgs,W3a hu1];rfl
 . have:i=0:=by omega
   subst this
   refine Rw [] [(1000001,.arr 1 ((z0.take 0++acc).map b8))] rfl (.tup (.one (.rf rfl) (λ_ _ e=>by cases e) (λ_ _ e=>by cases e))) ?_
   rw[<-hI,dgs];rfl
end
section
theorem Xly{x:Nat}(hx:x<1000000000): C0 169 [.d (.int .u64 x),.d (.int .i64 10)] (·=.d (.str (dec x))):=by
 have h1:C0 246 [.d (.int .u64 x),.d (.int .i64 10)] (·=.d (.str (dec x))):=by
  refine En Tryz.func246 λ_ _ _=>?_
  refine Yes rfl rfl ?_
  refine By rfl (λh=>?_) λh=>?_
  . refine Go.Vm.Cv x rfl ?_
    refine Ce rfl (Xx8 (by omega)) ?_
    exact R0
  . have hl:=Xfi 8 x hx
    have hg:=Xew 2 x (by omega)
    refine Va 5 5 900 24 ((List.replicate 24 (0:UInt8)).map b8) rfl rfl (by decide) rfl ?_
    refine Ce rfl (Xmh (by omega) hx) ?_
    refine Sp (dec x).length rfl (by omega) (by decide) ?_ (by decide)
    refine Cw (args:=[.own 1000001 1 0 (dec x).length,.d (.int .u64 x)]) [(1000001,900)] rfl (Xit (z0:=List.replicate 24 (0:UInt8)) hl hx (Yix x) (by simp;omega) (by simp)) (λv H' _ hv=>?_) rfl
    subst hv
    refine Sp (dec x).length rfl (by omega) (by decide) ?_ (by decide)
    refine Bo (dec x) rfl ?_ ?_ ?_
    . simp[Xwq]
    . rw[Xwq]
      simp only[W1d]
      rw[<-W1z,W6c rfl,Xw8]
    . exact R0
 refine En Tryz.func169 λ_ _ _=>?_
 refine Ce rfl h1 ?_
 exact R0
end
section
theorem Xdy{s t:List UInt8}(hs:Tx s)(ht:Tx t): C0 173 [.d (.str s),.d (.str t)] (·=.b (dc (s.take t.length=t))):=by
 refine En Tryz.func173 λ_ _ _=>?_
 refine Ce rfl (Xg8 hs ht) ?_
 exact R0
theorem Yfa{n:Nat}(hn:n<65): C0 172 [.d (.int .u64 1),.d (.int .u64 n)] (·=.tup (.pr (.d (.int .u64 0)) (.d (.int .u64 n)))):=by
 have h1:C0 248 [.d (.int .u64 1),.d (.int .u64 n)] (·=.tup (.pr (.d (.int .u64 0)) (.d (.int .u64 n)))):=by
  refine En Tryz.func248 λ_ _ _=>?_
  refine Ar 1 rfl ?_ (by simp only[arB];decide +kernel)
  refine Ar 0 rfl ?_ (by simp only[arB];decide +kernel)
  refine Ar n rfl ?_ (by simp only[arB];revert hn;generalize n=j;revert j;decide +kernel)
  refine Ar 0 rfl ?_ (by simp only[arB];revert hn;generalize n=j;revert j;decide +kernel)
  refine Ar n rfl ?_
  refine Ar 0 rfl ?_
  refine Ar 0 rfl ?_ (by simp only[arB];revert hn;generalize n=j;revert j;decide +kernel)
  refine Ar 0 rfl ?_
  refine Ar 0 rfl ?_ (by simp only[arB];decide +kernel)
  refine Ar 0 rfl ?_ (by simp only[arB];decide +kernel)
  refine Ar 0 rfl ?_
  refine Ar 0 rfl ?_
  refine Ar 0 rfl ?_
  refine Ar 0 rfl ?_
  refine Ar 0 rfl ?_ (by simp only[arB];decide +kernel)
  refine Ar 0 rfl ?_
  refine Ar n rfl ?_
  exact R0t
 refine En Tryz.func172 λ_ _ _=>?_
 refine Ce rfl h1 ?_
 exact R0t
theorem Xkc{n:Nat}(hn:n<65): C0 103 [.d (.str [48]),.d (.int .i64 n)] (·=.d (.str (List.replicate n 48))):=by
 refine En Tryz.func103 λ_ _ _=>?_
 refine By rfl (λh=>?_) λh=>?_
 . have:n=0:=by omega
   subst this;exact R1 rfl (.eq rfl)
 refine By rfl (λh1=>?_) λh1=>?_
 . have:n=1:=by omega
   subst this;exact R1 rfl (.eq rfl)
 refine No rfl (by omega) ?_
 refine Go.Vm.Cv 1 rfl ?_ (by decide)
 refine Go.Vm.Cv n rfl ?_
 refine Ce rfl (Yfa hn) ?_
 refine No rfl (by decide) ?_
 refine No rfl (by omega) ?_
 refine Go.Vm.Cv n rfl ?_
 refine No rfl (by decide) ?_
 refine Yx 0 48 rfl rfl ?_
 refine No rfl (by decide) ?_
 refine No rfl (by decide) ?_
 refine Yes rfl (by decide) ?_
 refine Yes rfl (by omega) ?_
 refine Ce rfl (Xdy (by decide) (by decide)) ?_
 refine No rfl (by decide) ?_
 refine Yes rfl (by omega) ?_
 refine Ce rfl (Xdy (by decide) (by decide)) ?_
 refine No rfl (by decide) ?_
 refine Yes rfl (by omega) ?_
 refine Ce rfl (Xdy (by decide) (by decide)) ?_
 refine Yes rfl (by decide) ?_
 refine Stk n (List.replicate n 48) rfl (by simp;omega) ?_ ?_
 . clear h h1
   revert hn;generalize n=j;revert j;decide +kernel
 . exact R0
end
section
end
section
end
section
end
section
end
end Go.Proofs.YtgpipgjbkggjpaaGreatDoor
namespace Go.Num
open Go.Proofs.YtgpipgjbkggjpaaGreatDoor
section
end
section
theorem Xqf{k m d:Nat}(hd:d<10)(hm:m<10^(k+1)): pad k (dec m)++[UInt8.ofNat (48+d)]=pad (k+1) (dec (10*m+d)):=by
 by_cases h0:m=0
 . subst h0
   rw[show 10*0+d=d by omega,Xd1 hd,Xd1 (show 0<10 by decide)]
   show List.replicate (k+1-1) 48++[UInt8.ofNat (48+0)]++[UInt8.ofNat (48+d)]=List.replicate (k+1+1-1) 48++[UInt8.ofNat (48+d)]
   rw[show k+1+1-1=k+1-1+1 by omega,W6n]
   rfl
 . have e:dec (10*m+d)=dec m++[UInt8.ofNat (48+d)]:=by
    rw[Xf7 (show 10<=10*m+d by omega),show (10*m+d)/10=m by omega,show (10*m+d)%10=d by omega]
   rw[e]
   unfold pad
   rw[W0e,W6k,show k+1+1-((dec m).length+1)=k+1-(dec m).length by omega,W5p]
theorem Xws: ∀(k n:Nat),10^(k+1)<=n->dec n=dec (n/10^(k+1))++pad k (dec (n%10^(k+1)))
 | 0,n,h=>by
  have h:10<=n:=h
  rw[Xf7 h]
  show _=dec (n/10)++pad 0 (dec (n%10))
  rw[Xd1 (n:=n%10) (W1q _ (by decide))]
  rfl
 | k+1,n,h=>by
  have e1:10^(k+1+1)=10*10^(k+1):=by rw[W0t];omega
  have hp:0<10^(k+1):=Nat.pow_pos (by decide)
  have h10:10<=n:=by omega
  have ih:=Xws k (n/10) (by rw[W7j (by decide)];omega)
  have hm:n/10%10^(k+1)<10^(k+1):=W1q _ hp
  rw[Xf7 h10,ih,W5p,Xqf (W1q _ (by decide)) hm,W6e,<-e1]
  congr 3
  have:=Nat.mod_mul (a:=10) (b:=10^(k+1)) (x:=n)
  rw[e1,this];omega
def cks(n:Nat): List Nat:=if h:n=0 then [] else n%1000000000::cks (n/1000000000)
termination_by n
decreasing_by omega
theorem Xex: cks 0=[]:=by rw[cks,dif_pos rfl]
theorem Xfj{n:Nat}(h:n≠0): cks n=n%1000000000::cks (n/1000000000):=by rw[cks,dif_neg h]
theorem Yi4: ∀(n c:Nat),c∈cks n->c<1000000000:=λn=>by
 induction n using Nat.strongRecOn with
 | _ n ih =>
  intro c hc
  by_cases h:n=0
  . subst h;rw[Xex] at hc;cases hc
  . rw[Xfj h,W1n] at hc
    rcases hc with rfl | hc
    . omega
    . exact ih _ (by omega) c hc
theorem Xw4: ∀ {k n:Nat},n<4294967296^k->(cks n).length<=2*k
 | 0,n,h=>by
  have:n=0:=by simpa using h
  subst this;rw[Xex];exact W0a _
 | k+1,n,h=>by
  by_cases h0:n=0
  . subst h0;rw[Xex];exact W0y _
  . rw[Xfj h0]
    by_cases h1:n/1000000000=0
    . rw[h1,Xex];simp;omega
    . rw[Xfj h1]
      have:=Xw4 (k:=k) (n:=n/1000000000/1000000000) (by
       rw[W0t] at h
       rw[W6e,W2q (by decide)]
       refine W0s h (W0p _ (by decide)))
      simp only[W0q];omega
def Xyt: List Nat->List UInt8
 | []=>[]
 | [c]=>dec c
 | c::e::l=>Xyt (e::l)++pad 8 (dec c)
theorem Xys: ∀n,n≠0->Xyt (cks n)=dec n:=λn=>by
 induction n using Nat.strongRecOn with
 | _ n ih =>
  intro h
  rw[Xfj h]
  by_cases h2:n/1000000000=0
  . rw[h2,Xex]
    show dec (n%1000000000)=_
    congr 1;omega
  . have:=ih (n/1000000000) (by omega) h2
    rw[Xfj h2] at this |-
    show Xyt (n/1000000000%1000000000::cks (n/1000000000/1000000000))++pad 8 (dec (n%1000000000))=_
    rw[this]
    exact(Xws 8 n (by show 1000000000<=n;omega)).symm
theorem Xuj{c:Nat}{l:List Nat}(h:l≠[]): Xyt (c::l)=Xyt l++pad 8 (dec c):=by
 cases l with
 | nil=>exact absurd rfl h
 | cons e l=>rfl
end
section
theorem Ynv{l:List UInt8}: l.all isD=true↔∀b∈l,Xvi b:=by
 rw[W1l]
 exact⟨λh b hb=>Ylr.1 (h b hb),λh b hb=>Ylr.2 (h b hb)⟩
theorem Yel: ∀(k:Nat) (l:List UInt8),l.length=k+1->(∀b∈l,Xvi b)->pad k (dec (Xxr l))=l:=λk=>by
 induction k with
 | zero =>
  intro l hl hd
  match l,hl with
  | [x],_ =>
   have hx:=hd x (by simp)
   unfold Xvi at hx
   rw[Xzl,Xd1 (by omega)]
   show [UInt8.ofNat (48+(x.toNat-48))]=[x]
   rw[show 48+(x.toNat-48)=x.toNat by omega];simp
 | succ k ih =>
  intro l hl hd
  obtain⟨m,x,rfl⟩:∃m x,l=m++[x]:=⟨l.dropLast,l.getLast (by intro e;rw[e] at hl;simp at hl),(List.dropLast_concat_getLast _).symm⟩
  have hm:m.length=k+1:=by simpa using hl
  have hdm:∀b∈m,Xvi b:=λb hb=>hd b (by simp[hb])
  have hx:=hd x (by simp)
  unfold Xvi at hx
  have h1:=Yei hdm
  rw[hm] at h1
  rw[Xmy,<-Xqf (by omega) h1,ih m hm hdm,show 48+(x.toNat-48)=x.toNat by omega]
  simp
end
end Go.Num
namespace Go.Proofs.YtgpipgjbkggjpaaGreatDoor
open Go Go.Num Go.Tow
abbrev scl(k:Nat)(t:Tw k)(a:El k)(u h:Rat): El k:=add k (mul k t a (rat k u)) (rat k h)
section
variable{k:Nat}{t:Tw k}{a:El k}
theorem Xtb{u:Rat}: toL k (mul k t a (rat k u))=(toL k a).map (u*·):=by rw[(Xaw k t).mc,Xhf]
theorem Xmj{m n:Nat}{u:Rat}(ha:MgL m (toL k a))(hu:Qs n u): MgL (n+m) (toL k (mul k t a (rat k u))):=λx hx=>by
 rw[Xtb] at hx
 obtain⟨y,hy,rfl⟩:=W3v.1 hx
 exact hu.mul (ha y hy)
theorem Xu4{n:Nat}{h:Rat}(hh:Qs n h)(h1:1<=n): MgL n (toL k (rat k h)):=λx hx=>by
 rw[Xcn] at hx
 rcases W1n.1 hx with rfl | hx
 . exact hh
 . obtain rfl:=(W5k.1 hx).2
   exact Qs.int (z:=0) (by unfold Zs;exact Nat.pow_pos (by decide)) h1
theorem Xu5{m n:Nat}{b:El k}(ha:MgL m (toL k a))(hb:MgL n (toL k b)): MgL (m+n+1) (toL k (add k a b)):=λx hx=>by
 rw[Xax] at hx
 obtain⟨i,hi⟩:=W2y hx
 rw[W5n] at hi
 split at hi
 . rename_i y z hy hz
   cases hi
   exact(ha y (W0i hy)).add (hb z (W0i hz))
 . cases hi
end
end Go.Proofs.YtgpipgjbkggjpaaGreatDoor
namespace Go.Proofs.YtgpipgjbkggjpaaGreatDoor.R1
open Go Go.Vm Go.Num Go.Proofs.YtgpipgjbkggjpaaGreatDoor
end Go.Proofs.YtgpipgjbkggjpaaGreatDoor.R1
namespace Go.Proofs.YtgpipgjbkggjpaaGreatDoor.R11
open Go Go.Vm Go.Num Go.Proofs.YtgpipgjbkggjpaaGreatDoor
section
theorem Xs6{z:Int}(h:z<0): tx z=45::dec z.natAbs:=by rw[tx,if_pos h];rfl
theorem Xs5{z:Int}(h:¬z<0): tx z=dec z.natAbs:=by rw[tx,if_neg h];rfl
end
section
end
section
end
end Go.Proofs.YtgpipgjbkggjpaaGreatDoor.R11
namespace Go.Proofs.YtgpipgjbkggjpaaGreatDoor.P11
open Go Go.Vm Go.Num Go.Tow Go.Proofs.YtgpipgjbkggjpaaGreatDoor Go.Proofs.YtgpipgjbkggjpaaGreatDoor.P9 Go.Proofs.YtgpipgjbkggjpaaGreatDoor.R11
structure Pk (x:Nm):Prop where
 k:x.k<=3
 re:Xb5 x.k x.t
 t:TS 300 x.k x.t
 mt:MgT 64 x.k x.t
 ml:MgL 64 (toL x.k x.a)\/(x.k=0/\MgL 1700 (toL x.k x.a))
theorem MgL.mono'{m n:Nat}{l:List Rat}(h:MgL m l)(hn:m<=n): MgL n l:=λx hx=>(h x hx).mono hn
theorem MgT.mono': ∀ {k m n:Nat} {t:Tw k},MgT m k t->m<=n->MgT n k t
 | 0,_,_,_,_,_=>trivial
 | _+1,_,_,_,h,hn=>⟨MgT.mono' h.1 hn,MgL.mono' h.2 hn⟩
theorem Xrs{k n:Nat}{a:El k}(h:MgL n (toL k a))(hk:k<=3/\n<=400\/k=0/\n<=3999): Sz 4000 (toL k a):=by
 refine(Sz.all h).mono ?_
 rw[Xab]
 rcases hk with ⟨h3,hn⟩ | ⟨rfl,hn⟩
 . have hp:2^k<=2^3:=W0j (by decide) h3
   have:=W1x hn hp
   omega
 . rw[Nat.pow_zero];omega
structure Scd (x:Nm) (u h:Rat):Prop where
 s1:Sz 4000 (toL x.k (mul x.k x.t x.a (rat x.k u)))
 s2:Sz 4000 (toL x.k (scl x.k x.t x.a u h))
 w1:Wid (bx x.k x.t (scl x.k x.t x.a u h) 2048) 1
 w2:∀b,1000000<=b->Wid (enc x.k x.t (scl x.k x.t x.a u h) b) 1
theorem Pk.sz{x:Nm}(H:Pk x): Sz 4000 (toL x.k x.a):=by
 rcases H.ml with h | ⟨h0,h⟩
 . exact Xrs h (.inl ⟨H.k,by decide⟩)
 . exact Xrs h (.inr ⟨h0,by decide⟩)
theorem Pk.sc{x:Nm}(H:Pk x){u h:Rat}(hu:Qs 200 u)(hh:Qs 2 h): Scd x u h:=by
 rcases H.ml with hl | ⟨h0,hl⟩
 . have m1:=Xmj (t:=x.t) hl hu
   have m2:=Xu5 m1 (Xu4 (k:=x.k) hh (by decide))
   exact⟨Xrs m1 (.inl ⟨H.k,by decide⟩),Xrs m2 (.inl ⟨H.k,by decide⟩),Yer H.re H.mt (MgL.mono' m2 (by decide)) H.k,Xiw H.re (MgT.mono' H.mt (by decide)) (MgL.mono' m2 (by decide)) H.k (show 10000<=10000 by decide)⟩
 . have m1:=Xmj (t:=x.t) hl hu
   have m2:=Xu5 m1 (Xu4 (k:=x.k) hh (by decide))
   refine⟨Xrs m1 (.inr ⟨h0,by decide⟩),Xrs m2 (.inr ⟨h0,by decide⟩),?_,Xiw H.re (MgT.mono' H.mt (by decide)) (MgL.mono' m2 (by decide)) H.k (show 10000<=10000 by decide)⟩
   obtain⟨k,t,a⟩:=x
   obtain rfl:k=0:=h0
   exact(Xg7 (m:=64) (b:=2048) H.re H.mt m2 (show 0<eE 64 2048 0 _ by exact(by decide:0<2*2048-2))).mono (show 1<=2*2048-2 by decide)
theorem Yf4{n:Nat}(hn:n<=60): Qs 200 ((10^n:Int):Rat):=by
 have h1:(10:Nat)^n<=10^60:=W0j (by decide) hn
 refine Qs.int ?_ (by decide)
 show ((10:Int)^n).natAbs<2^200
 rw[Int.natAbs_pow]
 exact W1v h1 (by decide)
theorem Yme{k:Nat}(hk:k<=3): eB 4000 (2*(1000000+1+16)) k<=274877906944/\vB 4000 k (4000+eB 4000 (2*(1000000+1+16)) k+4)<=4398046511104/\vB 4000 k (4000+bB 4000 2048 k+4)<=4398046511104/\bB 4000 2048 k<=274877906944/\cB 300 k<=1000000000:=by
 have h:k=0\/k=1\/k=2\/k=3:=by omega
 rcases h with rfl | rfl | rfl | rfl<;>decide +kernel
theorem Xyn{n:Nat}(hn:n<=400): C0 241 [.d (.int .i64 n)] (·=.d (dz (10^n))):=by
 refine En Tryz.func241 λ_ _ _=>?_
 refine Ce rfl (FromInt_ok (z:=10) (by decide)) ?_
 refine Ce rfl (Yd4 (z:=10) (q:=4) (show (10:Int).natAbs<2^4 by decide) (by omega) (by decide)) ?_
 exact R1 rfl (.rf rfl)
theorem Xxw{z:Int}{p:Nat}(hz:Zs p z)(hp:1<=p)(hp2:p<=8796093022208): C0 240 [.d (dz z)] (·=.d (dq (z:Rat))):=by
 have h:=Make_ok hz (Zs.one hp) hp2 (by decide)
 rw[Xwn] at h
 refine En Tryz.func240 λ_ _ _=>?_
 refine Dw rfl ?_
 refine Ce rfl (FromInt_ok (z:=1) (by decide)) ?_
 refine Ce rfl h ?_
 exact R1 rfl (.rf rfl)
theorem Xhl{x:Nm}{d:Nat}{h:Rat}(H:Pk x)(hd:d<=60)(hh:Qs 2 h): C0 163 [.d (dN x),.d (.int .i64 d),.d (dq h)] λv=>∃z,v=.tup (.pr (.d (dz z)) (.d (.int .i64 0)))/\Xdb x.k x.t (scl x.k x.t x.a ((10^d:Int):Rat) h) z/\(dig z.natAbs).length<=274877906944:=by
 have hu:=Yf4 hd
 have S:=H.sc hu hh
 obtain⟨b1,b2,b3,b4,b5⟩:=Yme H.k
 have hz:Zs 200 (10^d:Int):=hu.n
 refine En Tryz.func163 λ_ _ _=>?_
 refine No rfl (by omega) ?_
 refine No rfl (by omega) ?_
 refine Dw rfl ?_
 refine Ce rfl (Xyn (by omega)) ?_
 refine Ce rfl (Xxw hz (by decide) (by decide)) ?_
 refine Ce rfl (P9.FromRat_ok hu (by decide)) ?_
 refine Ce rfl (Ymr H.t H.sz hu (by have:=H.k;omega) (by decide) (by decide) (by decide) b5) ?_
 refine No rfl (by decide) ?_
 refine Dw rfl ?_
 refine Ce rfl (P9.FromRat_ok hh (by decide)) ?_
 refine Ce rfl (Ymw (x:=⟨x.k,x.t,mul x.k x.t x.a (rat x.k ((10^d:Int):Rat))⟩) H.t S.s1 hh (by have:=H.k;show x.k<=8;omega) (by decide) (by decide) (by decide)) ?_
 refine No rfl (by decide) ?_
 refine Ca rfl (Xtx (P:=1000000) H.re S.w2 (H.t.mono (by decide)) S.s2 (by decide) (show x.k<=16 by have:=H.k;omega) (by decide) b1 b2) λv hv=>?_
 obtain⟨z,rfl,hz⟩:=hv
 exact Rt rfl (.tup (.cons (.rf rfl) Xa6)) ⟨z,rfl,hz⟩
abbrev hf: Rat:=Rat.divInt 1 2
theorem Ylv: Qs 2 hf:=⟨show hf.num.natAbs<2^2 by decide,show ((hf.den:Int)).natAbs<2^2 by decide⟩
theorem Xz5{x:Nm}{d:Nat}(H:Pk x)(hd:d<=60): C0 100 [.d (dN x),.d (.int .i64 d)] λv=>∃z,v=.tup (.pr (.d (dz z)) (.d (.int .i64 0)))/\Xdb x.k x.t (scl x.k x.t x.a ((10^d:Int):Rat) hf) z/\(dig z.natAbs).length<=274877906944:=by
 refine En Tryz.func100 λ_ _ _=>?_
 refine Dw rfl ?_
 refine Ce rfl (Xcg (a:=1) (b:=2) (by decide) (by decide)) ?_
 refine Ca rfl (Xhl H hd Ylv) λv hv=>?_
 obtain⟨z,rfl,hz⟩:=hv
 exact Rt rfl (.tup (.cons (.rf rfl) Xa6)) ⟨z,rfl,hz⟩
end Go.Proofs.YtgpipgjbkggjpaaGreatDoor.P11
namespace Go.Vm
open Go
abbrev cxM(P:Program)(gb:Gb P)(t:Tab P)(m:Mx P)(hpr:∀T ti,t.tb T=some ti->∀a c,ti.z≠.pr a c)(n:Nat)(hn:n<=1000000)(fn:Func)(W:GW)(Q:AV->Prop)(hg:gb.g W): Cx:=⟨P,gb,t.tb,λT ti h=>⟨t.ok T ti h,hpr T ti h⟩,m,n,hn,W,λ_=>False,θe,bodyPostM Fence.wide 8 P fn (Ret W Q),hg⟩
theorem EnM {P : Program} [gb : Gb P] [t : Tab P] [hp : Npr P] [m : Mx P] {f n : Nat} {fn : Func} {x : Code} {args : List AV} {Q : AV → Prop} (hf : P.funcs[f]? = some fn) (h : ∀ W hg hn, StP (cxM P gb t m hp.h n hn fn W Q hg) (.j [] [.c x] (Yfl 0 args) [])) (hname : (fn.name == "runtime.NumGoroutine") = false := by exact rfl) (hb : fn.body = some x := by exact rfl)
 (hN:fn.ntmps=n:=by exact rfl) (hl:(Nat.ble args.length n&&Nat.ble n 1000000&&args.all Xk8)=true:=by exact rfl):C P f args Q:=by
 refine⟨⟨fn,hf,hname,by rw[hb];rfl⟩,λW vs hg ha=>(callsIn_wide (n:=8)).1 (callsIn_of_wp_marks hf hb trivial (wpIn_wide.2 ?_) rfl)⟩
 have h:=h W hg (by simp only[W0f] at hl;exact W1e hl.1.2)
 simp only[StP,sem,<-Xlu] at h
 simp only[W0f] at hl
 obtain⟨⟨hl1,hl2⟩,hl3⟩:=hl
 have hl1:=W1e hl1
 have hlen:=ha.len
 refine wp_mono (h _ W.w ⟨_,W,θe,rfl,⟨Fm.refl W _,⟨rfl,by simp[hN];omega,λt v ht=>?_⟩,⟨λo x h=>(by cases h),λo x b h=>(by cases h),λo o' x x' b h=>(by cases h),λo x i h=>(by cases h)⟩,λt v i ht hi=>?_⟩,λ_ _=>rfl,rfl⟩) λe a w h=>by cases e<;>exact h
 . obtain⟨_,u,h2,h3,_⟩:=Xne ha ht
   rw[W6x] at h2
   have hlt:=Xbs h2
   rw[W0c hlt] at h2
   injection h2 with h2
   simp only[Array.getD]
   rw[dif_pos (by simp;omega)]
   simp[W6t,hlt,h2]
   exact h3
 . obtain⟨_,u,_,_,h4⟩:=Xne ha ht
   exact absurd hi (Xk7 (W1l.1 hl3 v h4) i)
theorem StP.rest2{c:Cx}{G:List (Nat×Bool)}{x y:Code}{E:Env}{H:Hpl}(h:∀a w,c.Nx (λs'=>s'=sem E H) a w->x.wp c.P (Exit.then (y.wp c.P c.fin) c.fin) a w): StP c (.j G [.c x,.c y] E H) :=
 λa w hw=>wp_mono (h a w hw) λe a w h=>by
  cases e with
  | normal=>exact wp_mono h λe a w h=>by cases e<;>exact h
  | _=>exact h
theorem Tl{c:Cx}{s:St}(id:Nat){G:List (Nat×Bool)}{x y:Code}{E:Env}{H:Hpl}(h:nxT c.tb c.n (some id) s=some (G,x,[.c y],E,H))(k:∀a w,c.Nx (λs'=>s'=sem E H) a w->x.wpIn Fence.wide 8 c.P (Exit.then (y.wpIn Fence.wide 8 c.P c.fin) c.fin) a w): StP c s:=by
 have key:StP c (.j G [.c x,.c y] E H):=StP.rest2 λa w hw=>wp_mono (wpIn_wide.1 (k a w hw)) λe a w h=>by
  cases e with
  | normal=>exact wpIn_wide.1 h
  | _=>exact h
 unfold nxT at h
 simp only at h
 split at h<;>cases h
 rename_i hr
 exact Xgm 1000 (by rw[hr];exact key)
theorem Xah{α:Type}{n:Nat}: ∀ {l:List α},l.length=n+1->∃t l',l=t::l'/\l'.length=n
 | t::l',h=>⟨t,l',rfl,by simpa using h⟩
end Go.Vm
namespace Go.Proofs.YtgpipgjbkggjpaaGreatDoor
open Go Go.Vm Go.Num Go.Proofs Go.Shelf Go.RowKit
section
end
section
theorem Xvh{q n:Nat}{l:List Nat}(hw:Xap l)(hq:q+n<=l.length)(hl:n<=1099511627776): CN0 166 [.own 1000001 1 q n] [(1000001,.arr 1 (l.map wd))] λv=>∃k,k<=n/\v=.own 1000001 1 q k/\(l.drop q).take k=dig (val ((l.drop q).take n)):=by
 have dtk:∀ {m k:Nat},k<m->((l.drop q).take m)[k]?=l[q+k]?:=λh=>by rw[W1g,if_pos h,W2c]
 have Xxs:∀ {m:Nat},q+m<=l.length->((l.drop q).take m).length=m:=λh=>by rw[W0k,W1t];omega
 refine EnW Tryz.func166 λ_ _ _ _=>?_
 refine Lo (λk=>[(0,.own 1000001 1 q k)]) (λ_=>[(1000001,.arr 1 (l.map wd))]) (λk=>k<=n/\val ((l.drop q).take k)=val ((l.drop q).take n)) id n [] rfl ⟨W0a _,rfl⟩ λk ⟨hk,hv⟩=>?_
 have hwk:=(hw.drop q).take k
 refine By rfl (λh=>?_) λh=>?_
 . obtain⟨u,hu⟩:=xat (l:=l) (k:=q+(k-1)) (by omega)
   have hs:=Xac (l:=l.drop q) (k:=k-1) (x:=u) (by rw[W2c];exact hu)
   rw[show k-1+1=k by omega,hv] at hs
   refine Ar (k-1:Nat) rfl ?_
   refine El (k-1) rfl (by omega) ?_
   refine Ld (wd u) rfl (mp hu) ?_
   refine By rfl (λh0=>?_) λh0=>?_
   . refine Ar (k-1:Nat) rfl ?_
     refine Sw 0 (k-1) rfl (by omega) (by omega) ?_
     exact Bk (k-1) [] rfl ⟨by omega,by rw[hs,show u=0 by omega,W3b,W2l]⟩ (show k-1<k by omega)
   . exact Rw [] [(1000001,.arr 1 (l.map wd))] rfl (.one (.rf rfl) rfl rfl) ⟨rfl,k,hk,rfl,by rw[<-hv,Xff hwk (.inr ⟨u,by rw[Xxs (by omega),dtk (by omega)];exact hu,λe=>h0 (by rw[e];rfl)⟩)]⟩
 . refine Rw [] [(1000001,.arr 1 (l.map wd))] rfl (.one (.rf rfl) rfl rfl) ⟨rfl,k,hk,rfl,?_⟩
   rw[show k=0 by omega] at hv |-
   rw[<-hv,W4w,val,Xam]
theorem Xls{l:List Nat}(h0:0<l.length)(hl:l.length<=1099511627776): CA0 165 [.d (ws l)] 1 (l.map wd):=by
 refine EnW Tryz.func165 λ_ _ _ _=>?_
 refine Ub rfl (λh=>?_) ?_
 . exact absurd h (by intro e; have:l.length = 0 := by simpa using congrArg List.length e
                      omega)
 refine ApL (l.map wd) rfl rfl (by simpa using h0) (by simpa using hl) ?_
 exact Rw [(7,1000000)] [(1000000,.arr 1 (l.map wd))] rfl (.one (.rf rfl) rfl rfl) ⟨_,rfl,rfl,rfl⟩
theorem Xo7: C0 102 [.d (dz 0)] (·=.d (.str [48])):=by
 refine En Tryz.func102 λ_ _ _=>?_
 refine Ce rfl (Xcj (n:=0) (by rw[Xam];decide)) ?_
 refine Ce rfl (Xbq (l:=dig 0) (by rw[Xam];decide)) ?_
 refine Yes rfl (by rw[Xam];rfl) ?_
 exact R0
def Fm9(z x n:Nat)(lo cs:List Nat): Prop:=n<=lo.length/\lo.length<=549755813888/\Xap lo/\lo.take n=dig x/\cks z=cs++cks x
theorem Yfd{z x n:Nat}{lo cs:List Nat}(h:Fm9 z x n lo cs): n=(dig x).length:=by
 have:=congrArg List.length h.2.2.2.1
 rw[W0k,W2a h.1] at this
 exact this
end
section
def rnB: Ren:=⟨λn=>match n with
 | 166=>170
 | 167=>167
 | 169=>171
 | 240=>244
 | 276=>295
 | _=>0,λn=>match n with
 | 3=>3
 | 4=>4
 | 5=>5
 | 9=>9
 | 20=>20
 | 37=>24
 | 70=>187
 | 72=>189
 | 75=>191
 | 80=>199
 | 127=>244
 | 164=>272
 | _=>0,λn=>n⟩
theorem Yhx: Lays.n166 Tryz.prog rnB where
 mixed:=by kernel_rfl
 f166:=by kernel_rfl
 f240:=by kernel_rfl
 f276:=by kernel_rfl
 t0:=by kernel_rfl
 a0:=λ_=>by kernel_rfl
 z0:=λ_=>by kernel_rfl
 v0:=λ_=>by kernel_rfl
 t3:=by kernel_rfl
 a3:=λ_=>by kernel_rfl
 z3:=λ_=>by kernel_rfl
 v3:=λ_=>by kernel_rfl
 t4:=by kernel_rfl
 a4:=λ_=>by kernel_rfl
 z4:=λ_=>by kernel_rfl
 v4:=λ_=>by kernel_rfl
 t9:=by kernel_rfl
 a9:=λ_=>by kernel_rfl
 z9:=λ_=>by kernel_rfl
 v9:=λ_=>by kernel_rfl
 t20:=by kernel_rfl
 a20:=λ_=>by kernel_rfl
 z20:=λ_=>by kernel_rfl
 v20:=λ_=>by kernel_rfl
 t37:=by kernel_rfl
 a37:=λ_=>by kernel_rfl
 z37:=λ_=>by kernel_rfl
 v37:=λ_=>by kernel_rfl
 t70:=by kernel_rfl
 a70:=λ_=>by kernel_rfl
 z70:=λ_=>by kernel_rfl
 v70:=λ_=>by kernel_rfl
 t72:=by kernel_rfl
 a72:=λ_=>by kernel_rfl
 z72:=λ_=>by kernel_rfl
 v72:=λ_=>by kernel_rfl
 t75:=by kernel_rfl
 a75:=λ_=>by kernel_rfl
 z75:=λ_=>by kernel_rfl
 v75:=λ_=>by kernel_rfl
 t164:=by kernel_rfl
 a164:=λ_=>by kernel_rfl
 z164:=λ_=>by kernel_rfl
 v164:=λ_=>by kernel_rfl
theorem Yhw: Lays.n167 Tryz.prog rnB where
 mixed:=by kernel_rfl
 f167:=by kernel_rfl
 f240:=by kernel_rfl
 f276:=by kernel_rfl
 t0:=by kernel_rfl
 a0:=λ_=>by kernel_rfl
 z0:=λ_=>by kernel_rfl
 v0:=λ_=>by kernel_rfl
 t4:=by kernel_rfl
 a4:=λ_=>by kernel_rfl
 z4:=λ_=>by kernel_rfl
 v4:=λ_=>by kernel_rfl
 t5:=by kernel_rfl
 a5:=λ_=>by kernel_rfl
 z5:=λ_=>by kernel_rfl
 v5:=λ_=>by kernel_rfl
 t9:=by kernel_rfl
 a9:=λ_=>by kernel_rfl
 z9:=λ_=>by kernel_rfl
 v9:=λ_=>by kernel_rfl
 t20:=by kernel_rfl
 a20:=λ_=>by kernel_rfl
 z20:=λ_=>by kernel_rfl
 v20:=λ_=>by kernel_rfl
 t37:=by kernel_rfl
 a37:=λ_=>by kernel_rfl
 z37:=λ_=>by kernel_rfl
 v37:=λ_=>by kernel_rfl
 t70:=by kernel_rfl
 a70:=λ_=>by kernel_rfl
 z70:=λ_=>by kernel_rfl
 v70:=λ_=>by kernel_rfl
 t72:=by kernel_rfl
 a72:=λ_=>by kernel_rfl
 z72:=λ_=>by kernel_rfl
 v72:=λ_=>by kernel_rfl
 t75:=by kernel_rfl
 a75:=λ_=>by kernel_rfl
 z75:=λ_=>by kernel_rfl
 v75:=λ_=>by kernel_rfl
 t164:=by kernel_rfl
 a164:=λ_=>by kernel_rfl
 z164:=λ_=>by kernel_rfl
 v164:=λ_=>by kernel_rfl
theorem Ybl: Lays.n169 Tryz.prog rnB where
 mixed:=by kernel_rfl
 f169:=by kernel_rfl
 t0:=by kernel_rfl
 a0:=λ_=>by kernel_rfl
 z0:=λ_=>by kernel_rfl
 v0:=λ_=>by kernel_rfl
 t3:=by kernel_rfl
 a3:=λ_=>by kernel_rfl
 z3:=λ_=>by kernel_rfl
 v3:=λ_=>by kernel_rfl
 t9:=by kernel_rfl
 a9:=λ_=>by kernel_rfl
 z9:=λ_=>by kernel_rfl
 v9:=λ_=>by kernel_rfl
 t37:=by kernel_rfl
 a37:=λ_=>by kernel_rfl
 z37:=λ_=>by kernel_rfl
 v37:=λ_=>by kernel_rfl
 t70:=by kernel_rfl
 a70:=λ_=>by kernel_rfl
 z70:=λ_=>by kernel_rfl
 v70:=λ_=>by kernel_rfl
 t72:=by kernel_rfl
 a72:=λ_=>by kernel_rfl
 z72:=λ_=>by kernel_rfl
 v72:=λ_=>by kernel_rfl
 t127:=by kernel_rfl
 a127:=λ_=>by kernel_rfl
 z127:=λ_=>by kernel_rfl
 v127:=λ_=>by kernel_rfl
theorem Ykc: Builder.Extra Tryz.prog rnB where
 sizeBuilder:=by kernel_rfl
 liesBuilder:=by kernel_rfl
 t5:=by kernel_rfl
 a5:=λ_=>by kernel_rfl
 z5:=λ_=>by kernel_rfl
 v5:=λ_=>by kernel_rfl
 infoByte:=by kernel_rfl
 cellsByte:=by kernel_rfl
 sizeByte:=by kernel_rfl
 neB5:=by decide
end
section
attribute [local go_sem] Oper.semAt_some
abbrev C9:={ x:Nat // x<1000000000 }
def b9(zs:List C9)(k:Nat): List (Nat×C9):=(List.range k).map λj=>(zs.length-1-j,zs[zs.length-1-j]?.getD ⟨0,by decide⟩)
theorem Xxc(zs:List C9)(k:Nat): b9 zs (k+1)=b9 zs k++[(zs.length-1-k,zs[zs.length-1-k]?.getD ⟨0,by decide⟩)]:=by simp[b9,W7l]
theorem Xxd(zs:List C9)(k:Nat): (b9 zs k).length=k:=by simp[b9]
set_option maxRecDepth 100000 in
set_option maxHeartbeats 2000000 in
theorem Yjc(F:Fence)(n:Nat)(h8:F.fn 245)(hro:F.round=none)(hn:1<=n)(l Bs n₀ b off cap:Nat)(zs:List C9)(hreach:zs.length*4<=140737488351232)(hb:b<n₀)(J Jx:List (Nat×C9)->World->Prop)
 (hY:∀pre x W,J pre W->pre.length<zs.length->YieldAt F (n-1) Tryz.prog l #[.int .i64 (x.1:Int),.int .u32 (x.2.1:Int)] W λe W' =>
  (e=.returned (.bool true)/\J (pre++[x]) W'/\Kq n₀ Bs W W')\/(e=.returned (.bool false)/\Jx (pre++[x]) W'))
 (W:World) (hBs:W.cell? ⟨Bs,0,none⟩=some (.slice (some ⟨b,off,none⟩) zs.length cap)) (hc:∀j,j<zs.length->W.cell? ⟨b,off+j,none⟩=some (.int .u32 ((zs[j]?.getD ⟨0,by decide⟩).1:Int))) (h0:J [] W) :
 CallsIn F n Tryz.prog 245 #[.func (.yield l) #[] #[],.pointer (some ⟨Bs,0,none⟩)] W λe W'=>(∃v,e=.returned v) /\
  ((∃ys,ys=b9 zs zs.length/\J ys W')\/(∃pre,True/\Jx pre W')):=by
 refine callsIn_of_wp Tryz.func245 rfl h8 ?_ hro
 simp only[Tryz.ntmps245,W6i,W0q,W4f,Nat.reduceAdd,Nat.reduceSub,W5s,W5t,W6j,W5x,W3x,W4u]
 gi_wp2
 gi_loopw [3] (λi wr=>∃k:Nat,k<=zs.length/\i=.int .i64 ((zs.length:Int)-1-k)/\J (b9 zs k) wr/\Kq n₀ Bs W wr)
  (λi _=>(intOf i+1).toNat)
 case atStart=>exact⟨0,W0y _,by simp,h0,Kq.refl _ _ _⟩
 case round =>
  obtain⟨k,hk,rfl,hJs,hnx⟩:=hrel
  have hBs':=(World.cell?_of_block hnx.b).trans hBs
  by_cases hlt:k<zs.length
  . obtain⟨q,hq⟩:∃q,q+(k+1)=zs.length:=⟨zs.length-1-k,by omega⟩
    have hqi:((zs.length:Int)-1-k)=(q:Int):=by omega
    have hcx:=(hnx.a.cell (p:=⟨b,off+q,none⟩) hb).trans (hc q (by omega))
    obtain⟨fn,tmps,assign,body,hy,hR⟩:=hY _ (q,zs[q]?.getD ⟨0,by decide⟩) wr hJs (by rw[Xxd];exact hlt)
    dsimp only at hy
    rw[hqi]
    gi_wp2
    refine hR.mono ?_
    rintro e W3 (⟨rfl,hJ3,hk3⟩ | ⟨rfl,hJx3⟩)
    . gi_wp2
      go_roundw
      case rel=>exact⟨k+1,by omega,by congr 1;omega,by rw[Xxc,show zs.length-1-k=q by omega];exact hJ3,hnx.trans hk3⟩
      case measure=>simp[intOf]
    . gi_wp2
      refine bodyPost_ret (results_none rfl _ _ _) rfl ?_
      exact⟨⟨_,rfl⟩,.inr ⟨_,trivial,hJx3⟩⟩
  . obtain rfl:k=zs.length:=by omega
    rw[show ((zs.length:Int)-1-(zs.length:Int))=-1 by omega]
    gi_wp2
    go_end0
    exact⟨⟨_,rfl⟩,.inl ⟨_,rfl,hJs⟩⟩
theorem Xnb(F:Fence)(n:Nat)(h8:F.fn 245)(hro:F.round=none)(hn:1<=n)(Bs n₀ b off cap:Nat)(zs:List C9)(hreach:zs.length*4<=140737488351232)(w:World)(hBs:Bs<w.heap.size)(hn₀:n₀<=w.heap.size)
 (hc:w.cell? ⟨Bs,0,none⟩=some (.slice (some ⟨b,off,none⟩) zs.length cap)) (hb:b<n₀) (hcs:∀j,j<zs.length->w.cell? ⟨b,off+j,none⟩=some (.int .u32 ((zs[j]?.getD ⟨0,by decide⟩).1:Int))) :
 SeqStopsK F n Tryz.prog 245 #[.pointer (some ⟨Bs,0,none⟩)] (λx:Nat×C9=>#[Value.int .i64 (x.1:Int),Value.int .u32 (x.2.1:Int)]) (Kq n₀ Bs) (λys=>ys=b9 zs zs.length)
  (λ_=>True) zs.length w:=λl J Jx W hW _ _ hY h0=>by
 have hc':=(hW.cell (p:=⟨Bs,0,none⟩) hBs).trans hc
 exact Yjc F n h8 hro hn l Bs n₀ b off cap zs hreach hb J Jx hY W hc' (λj hj=>(hW.cell (p:=⟨b,off+j,none⟩) (W0s hb hn₀)).trans (hcs j hj)) h0
def o9(N:Nat)(sg:List UInt8): List (Nat×C9)->List UInt8:=List.foldl (λt x=>t++(if x.1+1<N then List.replicate (9-(dec x.2.1).length) 48 else [])++dec x.2.1) sg
theorem Xn9(N:Nat)(sg:List UInt8)(pre:List (Nat×C9))(x:Nat×C9): o9 N sg (pre++[x])=o9 N sg pre++(if x.1+1<N then List.replicate (9-(dec x.2.1).length) 48 else [])++dec x.2.1:=by simp[o9]
theorem Yl6(x:C9): (dec x.1).length<=9:=Xfi 8 x.1 x.2
theorem Xun(N:Nat): ∀(pre:List (Nat×C9)) (sg:List UInt8),(o9 N sg pre).length<=sg.length+18*pre.length
 | [],_=>W5i _ _
 | x::l,sg=>by
  have ih:=Xun N l (sg++(if x.1+1<N then List.replicate (9-(dec x.2.1).length) 48 else [])++dec x.2.1)
  have:=Yl6 x.2
  have h:(if x.1+1<N then List.replicate (9-(dec x.2.1).length) (48:UInt8) else []).length<=9:=by split<;>simp
  simp only[W0e,W0q] at h ih |-
  refine W0h (show (o9 N sg (x::l)).length<=_ from ih) ?_
  omega
theorem Ydh(sg:List UInt8)(zs:List C9): ∀k,k<=zs.length->o9 zs.length sg (b9 zs k)=sg++Xyt ((zs.map (·.1)).drop (zs.length-k))
 | 0,_=>by
  rw[W1y (by simp)]
  simp[b9,o9,Xyt]
 | k+1,h=>by
  obtain⟨x,hx⟩:∃x,zs[zs.length-1-k]?=some x:=⟨_,W0c (by omega)⟩
  have hxm:(zs.map (·.1))[zs.length-(k+1)]?=some x.1:=by rw[W1o,show zs.length-(k+1)=zs.length-1-k by omega,hx];rfl
  have hd:(zs.map (·.1)).drop (zs.length-(k+1))=x.1::(zs.map (·.1)).drop (zs.length-k):=by
   obtain⟨hlt,he⟩:=W0z.1 hxm
   rw[W3c hlt,he,show zs.length-(k+1)+1=zs.length-k by omega]
  rw[Xxc,Xn9,Ydh sg zs k (by omega),hx,hd]
  simp only[W3t]
  by_cases hk:k=0
  . subst hk
    rw[if_neg (by omega),show (zs.map (·.1)).drop (zs.length-0)=[] from W1y (by simp)]
    simp[Xyt]
  . have hne:(zs.map (·.1)).drop (zs.length-k)≠[]:=λe=>by
     have:=congrArg List.length e
     simp at this;omega
    rw[if_pos (by omega),Xuj hne]
    unfold pad
    simp
theorem c9s{l:List Nat}(h:∀x∈l,x<1000000000): ∃zs:List C9,zs.map (·.1)=l:=by
 induction l with
 | nil=>exact⟨[],rfl⟩
 | cons a l ih =>
  obtain⟨zs,hz⟩:=ih λx hx=>h x (W1c _ hx)
  exact⟨⟨a,h a (W0v ..)⟩::zs,by rw[W4c,hz]⟩
def gw1(w:World): GW:=⟨w,λ_ _=>False,λ_ _ h=>h.elim⟩
theorem cell_lt{w:World}{b i:Nat}{v:Value}(h:w.cell? ⟨b,i,none⟩=some v): b<w.heap.size:=by
 apply W0u
 intro hn
 simp only[World.cell?] at h
 rw[W3s (by omega)] at h
 cases h
theorem Yhs{W:GW}{n:Nat}{w':World}(h:Below n W.w w')(hn:W.w.heap.size<=n): LeF W (gw1 w'):=λb i v hv =>
 ⟨(World.cell?_of_block (h.block b (W0s (cell_lt hv.1) hn))).trans hv.1,id⟩
theorem Xrj{f:FuncId}{args:List AV}{vs:List Value}{s:List UInt8}{w:World}(hc:C0 f args (·=.d (.str s)))(hg:Gb.g Tryz.prog (gw1 w))(ha:Xi3 (gw1 w) θe args vs):
 Calls Tryz.prog f vs.toArray w λe w'=>e=.returned (.string ⟨s.toArray⟩)/\Below w.heap.size w w' :=
 (hc.2 (gw1 w) vs hg ha).mono λe w' ⟨W',v,u,h1,h2,h3,h4,_,h6⟩=>by
  subst h6;subst h2
  obtain⟨rfl,_⟩:=Xxi h4
  exact⟨h1,h3.os,h3.tape,h3.out,h3.size,λk hk=>h3.same k hk id⟩
theorem Ynq{w:World}(hg:Gb.g Tryz.prog (gw1 w))(x:C9): Calls Tryz.prog 169 #[.int .u64 (x.1:Int),.int .i64 10] w λe w'=>e=.returned (.string ⟨(dec x.1).toArray⟩)/\Below w.heap.size w w' :=
 Xrj (vs:=[.int .u64 (x.1:Int),.int .i64 10]) (Xly x.2) hg ⟨int_V (by have:=x.2;show IntKind.u64.wrap _=_;exact wU (by omega)),int_V (wI (by omega)),trivial⟩
theorem Ym5{w:World}(hg:Gb.g Tryz.prog (gw1 w)){n:Nat}{k:Int}(hk:k=n)(hn:n<65): Calls Tryz.prog 103 #[.string ⟨#[48]⟩,.int .i64 k] w λe w'=>e=.returned (.string ⟨(List.replicate n 48).toArray⟩)/\Below w.heap.size w w':=by
 subst hk
 exact Xrj (vs:=[.string ⟨#[48]⟩,.int .i64 (n:Int)]) (Xkc hn) hg ⟨Xnu (s:=[48]) (by decide),int_V (by show IntKind.i64.wrap _=_;exact wI (by omega)),trivial⟩
theorem Xvk{β:Type}(T e:TypeId)(B b:Nat)(f:β->List Value): Own (λs W=>Lib.IsBuilderF T e B b (f s) W):=by
 intro s X Y row h hg hrow
 have key:∀p,Lib.BuilderAtF T e B b p (f s) X->Lib.BuilderAtF T e B b p (f s) Y:=λp ⟨hB,v,hb,hown,hne⟩=>by
  have cells:∀k cs t fz,X.heap[k]?=some (.cells cs t fz)->some k≠row:=λk cs t fz hk e'=>by
   obtain⟨o,ho,hc⟩:=hrow k e'.symm
   rw[hk] at ho;cases ho;cases hc
  refine⟨hB,v,(hg.block b (W3n.1 hb).1 (cells b _ _ _ hb)).trans hb,hown.kept hg ?_,hne⟩
  cases hv:v.ownBlock with
  | none=>exact .inl rfl
  | some g =>
   obtain⟨c,fz,hc⟩:=Lib.ownsRowF_kind hown g hv
   exact .inr (cells g _ _ _ hc)
 exact h.elim (λh=>.inl (key _ h)) λh=>.inr (key _ h)
theorem Xir{W W':World}{row:Option Nat}{b:Nat}{cs:Array Value}{t:TypeId}{fz:Nat×Nat}(h:W.heap[b]?=some (.cells cs t fz))(hg:W.grownBy W' row)(hr:∀r,row=some r->∃o:Obj,W.heap[r]?=some o/\o.isCells=false): W'.heap[b]?=some (.cells cs t fz) :=
 (hg.block b (W3n.1 h).1 (λe'=>by
  obtain⟨o,ho,hc⟩:=hr b e'.symm
  rw[h] at ho;cases ho;cases hc)).trans h
theorem Xvl{T e:TypeId}{B b:Nat}{bs:List Value}{w w':World}(h:Lib.IsBuilderF T e B b bs w)(hw:Below w.heap.size w w'): Lib.IsBuilderF T e B b bs w':=by
 have key:∀p,Lib.BuilderAtF T e B b p bs w->Lib.BuilderAtF T e B b p bs w':=λp ⟨hB,v,hb,hown,hne⟩ =>
  ⟨hB,v,(hw.block b (W3n.1 hb).1).trans hb,hown.kept (row:=none) ⟨hw.os,hw.tape,hw.output,hw.size,λk hk _=>hw.block k hk⟩ (by cases hv:v.ownBlock<;>simp),hne⟩
 exact h.elim (λh=>.inl (key _ h)) λh=>.inr (key _ h)
theorem Xog{w w':World}(h:Below w.heap.size w w'): KeepsOthers w w':=⟨h.size,λk o hk _=>(h.block k (W3n.1 hk).1).trans hk⟩
theorem Xle{T e:TypeId}{B b n:Nat}{bs:List Value}{w w':World}(h:Lib.IsBuilderF T e B b bs w)(hw:Below n w w')(ho:Lib.OthersKept e (some b) w w'): KeepsOthers w w':=⟨hw.size,λk o hk hc=>by
 refine ho k o hk (λe'=>?_) (λc fz e'=>by subst e';cases hc)
 cases e'
 rcases h with ⟨_,v,hb,_⟩ | ⟨_,v,hb,_⟩<;>rw[hk] at hb<;>cases hb<;>cases hc⟩
structure W9 (n BS B:Nat) (sl:Value) (w W:World) (t:List UInt8) (W':World):Prop where
 b:Lib.IsBuilderF (rnB.t 72) (rnB.t 5) n n (Lib.byteCells t) W'
 s:W'.heap[BS]?=some (.cells #[sl] 99 (0,0))
 l:Below n w W'
 k:KeepsFrom B W W'
 q:Kq n BS W W'
theorem W9.below{n BS B:Nat}{sl:Value}{w W W' W'':World}{t:List UInt8}(h:W9 n BS B sl w W t W')(hn:n<=W'.heap.size)(hb:Below W'.heap.size W' W''): W9 n BS B sl w W t W'' :=
 ⟨Xvl h.b hb,(hb.block BS (W3n.1 h.s).1).trans h.s,h.l.trans (hb.mono hn),h.k.trans ((Xog hb).from _),h.q.trans ⟨hb.mono hn,hb.block BS (W3n.1 h.s).1⟩⟩
theorem W9.wr{n BS B:Nat}{sl:Value}{w W W':World}{t:List UInt8}(h:W9 n BS B sl w W t W')(u:List UInt8)(hn:n<=W'.heap.size)(hB:BS≠n)(hl:t.length+u.length<=140737488355328):
 Calls Tryz.prog 170 #[.pointer (some ⟨n,0,none⟩),.string ⟨u.toArray⟩] W' λe W''=>e=.returned (.tuple #[.int .i64 u.length,.nilIface])/\W9 n BS B sl w W (t++u) W'':=by
 have hsz:(⟨u.toArray⟩:ByteArray).size=u.length:=by simp[ByteArray.size]
 refine(Any.Builder_WriteString_k Yhx Ykc n n _ ⟨u.toArray⟩ W' h.b (by rw[Lib.byteCells_length,hsz];exact hl) hn).mono ?_
 rintro e W'' ⟨rfl,hb,hbl,ho⟩
 have hs:W''.heap[BS]?=some (.cells #[sl] 99 (0,0)):=ho BS _ h.s (by intro e;cases e;exact hB rfl) (by intro c fz e;cases e)
 refine⟨by rw[hsz],.inr (by rw[Lib.byteCells_append];exact hb),hs,h.l.trans hbl,h.k.trans ((Xle h.b hbl ho).from _),h.q.trans ⟨hbl,hs.trans h.s.symm⟩⟩
end
section
attribute [local go_sem] Oper.semAt_some
theorem Xso{z:Int}(hz:z≠0)(hl:(dig z.natAbs).length<=274877906944): C0 102 [.d (dz z)] (·=.d (.str (tx z))):=by
 have hcl:=Xw4 (n:=z.natAbs) (k:=(dig z.natAbs).length) (by have:=Xby (Xad z.natAbs);rwa[Xag] at this)
 have hp:=W6q.2 (λe:dig z.natAbs=[]=>hz (by have:=Xse.1 e;omega))
 refine EnM Tryz.func102 λW0 hg0 _=>?_
 refine Ce rfl (Xcj (n:=z.natAbs) (by omega)) ?_
 refine Cr rfl (Xls (l:=dig z.natAbs) hp (by omega)) ?_
 refine No rfl (by simp only[W0l];omega) ?_
 refine Nv 4 7 1 rfl ?_
 refine Lo (λ((x,n,lo,cs):Nat×Nat×List Nat×List Nat)=>[(1,.ptr 1 0),(2,.d (.str [])),(3,.own 14 1 0 n),(4,.ptr 4 0)]) (λ(x,n,lo,cs)=>[(1,.var (.d (dz z))),(14,.arr 1 (lo.map wd)),(4,.var (.gr 7 1 (cs.map wd))),(7,.tok (cs.map wd).length 1)])
  (λ(x,n,lo,cs)=>Fm9 z.natAbs x n lo cs) (λ(x,_)=>x) (z.natAbs,(dig z.natAbs).length,dig z.natAbs,[]) [] rfl ⟨W0a _,by omega,Xad _,W2j ..,rfl⟩ ?_ (by exact⟨by simp only[W0l];rfl,rfl,rfl,rfl,rfl⟩)
 rintro⟨x,n,lo,cs⟩ hI
 have hn:=Yfd hI
 obtain⟨hnl,hll,hwo,hdx,hck⟩:=hI
 have hsz:∀j,j<n->lo[j]?=(dig x)[j]?:=λj hj=>by rw[<-hdx,W1g,if_pos hj]
 refine By rfl (λh=>?_) λh=>?_
 . have h:(n:Int)>0:=h
   have hx0:x≠0:=λe=>by rw[e,Xam] at hn;simp at hn;omega
   refine Ar ((n:Int)-1) rfl ?_ (wr rfl (by simp only[inK];omega))
   refine Lo (λ((k,l,r):Nat×List Nat×Nat)=>[(1,.ptr 1 0),(2,.d (.str [])),(3,.own 14 1 0 n),(4,.ptr 4 0),(5,.d (.int .u64 r)),(6,.d (.int .i64 ((k:Int)-1)))]) (λ(_,l,_)=>[(1,.var (.d (dz z))),(14,.arr 1 (l.map wd)),(4,.var (.gr 7 1 (cs.map wd))),(7,.tok (cs.map wd).length 1)])
    (λ(k,l,r)=>k<=n/\l.length=lo.length/\Xap l/\r<1000000000/\val ((l.take n).drop k)*1000000000+r=val ((dig x).drop k)/\∀j,j<k->l[j]?=(dig x)[j]?) (λ(k,_,_)=>k) (n,lo,0) [] rfl
    ⟨W0a _,rfl,hwo,by decide,by rw[W1y (by rw[W0k];omega),W1y (by omega)];simp[val],hsz⟩ ?_
   rintro⟨k,l,r⟩ ⟨hk,hl2,hwl,hr,hval,hlj⟩
   refine By rfl (λh2=>?_) λh2=>?_
   . have h2:(k:Int)-1>=0:=h2
     obtain⟨u,hu⟩:=xat (l:=dig x) (k:=k-1) (by omega)
     have hub:=ww hu (Xad x)
     have hul:l[k-1]?=some u:=by rw[hlj _ (by omega),hu]
     obtain⟨s,hs⟩:∃s,s=r*2^32+u:=⟨_,rfl⟩
     have hs64:s<18446744073709551616:=by omega
     have hsy:s/1000000000<4294967296:=by omega
     have hek:((k:Int)-1)=((k-1:Nat):Int):=by omega
     refine Ar (r*2^32:Nat) rfl ?_ (Xh6 (n:=32) rfl (by omega) (by decide))
     refine Eo (k-1) (by rw[hek];rfl) (by omega) ?_
     refine Ld (wd u) rfl (mp hul) ?_
     refine Go.Vm.Cv u rfl ?_
     refine Ar s rfl ?_ (Ya6 (by omega) (by omega) (by rw[Xdd u r 32 (by omega),<-hs]) hs64)
     refine Ar (s/1000000000:Nat) rfl ?_ (show _/\_ from⟨by decide,Yck s 1000000000 hs64⟩)
     refine Go.Vm.Cv (s/1000000000:Nat) rfl ?_ (wW ⟨W4v _,W6y.2 hsy⟩)
     refine Eo (k-1) (by rw[hek];rfl) (by omega) ?_
     refine Sto rfl (by simp only[W0l];omega) ms ?_
     refine Ar (s%1000000000:Nat) rfl ?_ (show _/\_ from⟨by decide,Xrq s 1000000000⟩)
     refine Ar ((k-1:Nat)-1:Int) rfl ?_ (wr (by omega) (by simp only[inK];omega))
     have hs0:val ((dig x).drop (k-1))=u+4294967296*val ((dig x).drop k):=by
      have:=Xbz hu
      rwa[show k-1+1=k by omega] at this
     refine Bk (k-1,l.set (k-1) (s/1000000000),s%1000000000) [] rfl ⟨by omega,by simp[hl2],Xg9 hwl hsy,W1q _ (by decide),?_,λj hj=>?_⟩ (by show k-1<k;omega)
     . rw[hs0,<-hval,List.take_set,drop_set (by rw[W0k];omega),val,show k-1+1=k by omega]
       have e:=W2m s 1000000000
       have hs2:s=r*4294967296+u:=hs
       generalize val (((l.take n)).drop k)=V
       generalize s/1000000000=q at e |-
       generalize s%1000000000=m at e |-
       clear hck hcl hdx hsz hlj hs hval hs0 hsy hs64
       omega
     . rw[W1u (by omega)];exact hlj j (by omega)
   . have hk0:k=0:=by
      have h2:¬(k:Int)-1>=0:=h2
      omega
     subst hk0
     rw[W1d,W1d,Xag] at hval
     have hq:x/1000000000=val (l.take n):=by omega
     have hm:x%1000000000=r:=by omega
     refine Cn [(1000001,14)] rfl (Xvh (l:=l) (q:=0) (n:=n) hwl (by omega) (by omega)) λv hv=>?_
     obtain⟨m,hmn,rfl,hml⟩:=hv
     rw[W1d,<-hq] at hml
     refine Go.Vm.Cv r rfl ?_
     refine ApG ((cs++[r]).map wd) rfl (by simp;rfl) (by simp;have:=congrArg List.length hck;rw[W0e] at this;omega) ?_
     refine Bk (x/1000000000,m,l,cs++[r]) [(50,7)] rfl ⟨by omega,by omega,hwl,hml,?_⟩ (by show x/1000000000<x;omega)
     rw[hck,Xfj hx0,hm];simp
 . have h:¬(n:Int)>0:=h
   have hx0:x=0:=by
    have:dig x=[]:=W0m (by omega)
    exact Xse.1 this
   subst hx0
   rw[Xex,W4i] at hck
   obtain⟨zs,hzs⟩:=c9s (l:=cs) λx hx=>Yi4 z.natAbs x (by rw[hck];exact hx)
   have hzl:zs.length=cs.length:=by rw[<-hzs,W0l]
   have hz0:z.natAbs≠0:=by omega
   have hz1:0<zs.length:=by
    rw[hzl,<-hck,Xfj hz0];simp
   have hzn:zs.length<=549755813888:=by rw[hzl,<-hck];omega
   have htx:∀sg,sg++Xyt (zs.map (·.1))=sg++dec z.natAbs:=λsg=>by rw[hzs,<-hck,Xys _ hz0]
   refine Tl 15 rfl λa w hw=>?_
   obtain⟨s',W,θ,rfl,hS,hθ,rfl⟩:=hw
   have hgW:Gb.g Tryz.prog W:=Gb.mono _ _ hS.fm.le hg0
   obtain⟨b1,p1,e1⟩:=Xjc (hS.rel.has 1 (.ptr 1 0) rfl)
   obtain⟨b4,p4,e4⟩:=Xjc (hS.rel.has 4 (.ptr 4 0) rfl)
   obtain⟨bx,cx1,T1,q1,q2,q3,_⟩:=hS.obs.r 1 (.var (.d (dz z))) rfl
   obtain⟨by4,cx4,T4,q5,q6,q7,_⟩:=hS.obs.r 4 (.var (.gr 7 1 (cs.map wd))) rfl
   obtain rfl:bx=b1:=Option.some.inj (q1.symm.trans p1)
   obtain rfl:by4=b4:=Option.some.inj (q5.symm.trans p4)
   have c1:W.w.cell? ⟨bx,0,none⟩=some (.bool (decide (z<0))):=by
    obtain⟨u,v,h1,h2,_⟩:=q3
    have h2:u=[.bool (decide (z<0))]:=h2
    rw[Xba q2,h1,h2];rfl
   obtain⟨b7,cp,c4,hcell⟩:∃b7 cp,W.w.cell? ⟨by4,0,none⟩=some (.slice (some ⟨b7,0,none⟩) zs.length cp)/\∀j,j<zs.length->W.w.cell? ⟨b7,0+j,none⟩=some (.int .u32 ((zs[j]?.getD ⟨0,by decide⟩).1:Int)):=by
    obtain⟨p,h1,h0,h2,_,h5⟩:=q7
    simp only[W0l] at h1 h2
    rcases h5 with h5 | ⟨b7,h5,hrow⟩
    . have:=congrArg List.length h5
      rw[W0l] at this
      have:cs.length=0:=this
      omega
    . have hp:p=some ⟨b7,0,none⟩:=by
       rcases h0 with h0 | h0
       . omega
       . rw[h0,h5];rfl
      refine⟨b7,_,by rw[Xba q6,h1,hp,<-hzl];rfl,λj hj=>?_⟩
      obtain⟨x,hx⟩:∃x,zs[j]?=some x:=⟨_,W0c hj⟩
      obtain⟨e,g1,_,g3⟩:=D.row_get hrow (i:=j) (x:=wd x.1) (by rw[<-hzs];simp[hx])
      have g1:e=[.int .u32 x.1]:=g1.1
      have:=(g3 0 (.int .u32 x.1) (by rw[g1];rfl)).1
      rw[hx]
      simpa using this
   have hb1:=Go.Proofs.YtgpipgjbkggjpaaGreatDoor.cell_lt c1
   have hb4:=Go.Proofs.YtgpipgjbkggjpaaGreatDoor.cell_lt c4
   have hb7:=Go.Proofs.YtgpipgjbkggjpaaGreatDoor.cell_lt (hcell 0 hz1)
   have hfm:=hS.fm
   obtain⟨tm,df⟩:=a
   obtain rfl:df=[]:=hS.rel.defers
   obtain⟨L⟩:=tm
   have hL:L.length=74:=hS.rel.size
   clear hS
   obtain⟨t0,L0,rfl,hL0⟩:=Xah hL
   clear hL
   obtain⟨t1,L1,rfl,hL1⟩:=Xah hL0
   clear hL0
   obtain⟨t2,L2,rfl,hL2⟩:=Xah hL1
   clear hL1
   obtain⟨t3,L3,rfl,hL3⟩:=Xah hL2
   clear hL2
   obtain⟨t4,L4,rfl,hL4⟩:=Xah hL3
   clear hL3
   obtain⟨t5,L5,rfl,hL5⟩:=Xah hL4
   clear hL4
   obtain⟨t6,L6,rfl,hL6⟩:=Xah hL5
   clear hL5
   obtain⟨t7,L7,rfl,hL7⟩:=Xah hL6
   clear hL6
   obtain⟨t8,L8,rfl,hL8⟩:=Xah hL7
   clear hL7
   obtain⟨t9,L9,rfl,hL9⟩:=Xah hL8
   clear hL8
   obtain⟨t10,L10,rfl,hL10⟩:=Xah hL9
   clear hL9
   obtain⟨t11,L11,rfl,hL11⟩:=Xah hL10
   clear hL10
   obtain⟨t12,L12,rfl,hL12⟩:=Xah hL11
   clear hL11
   obtain⟨t13,L13,rfl,hL13⟩:=Xah hL12
   clear hL12
   obtain⟨t14,L14,rfl,hL14⟩:=Xah hL13
   clear hL13
   obtain⟨t15,L15,rfl,hL15⟩:=Xah hL14
   clear hL14
   obtain⟨t16,L16,rfl,hL16⟩:=Xah hL15
   clear hL15
   obtain⟨t17,L17,rfl,hL17⟩:=Xah hL16
   clear hL16
   obtain⟨t18,L18,rfl,hL18⟩:=Xah hL17
   clear hL17
   obtain⟨t19,L19,rfl,hL19⟩:=Xah hL18
   clear hL18
   obtain⟨t20,L20,rfl,hL20⟩:=Xah hL19
   clear hL19
   obtain⟨t21,L21,rfl,hL21⟩:=Xah hL20
   clear hL20
   obtain⟨t22,L22,rfl,hL22⟩:=Xah hL21
   clear hL21
   obtain⟨t23,L23,rfl,hL23⟩:=Xah hL22
   clear hL22
   obtain⟨t24,L24,rfl,hL24⟩:=Xah hL23
   clear hL23
   obtain⟨t25,L25,rfl,hL25⟩:=Xah hL24
   clear hL24
   obtain⟨t26,L26,rfl,hL26⟩:=Xah hL25
   clear hL25
   obtain⟨t27,L27,rfl,hL27⟩:=Xah hL26
   clear hL26
   obtain⟨t28,L28,rfl,hL28⟩:=Xah hL27
   clear hL27
   obtain⟨t29,L29,rfl,hL29⟩:=Xah hL28
   clear hL28
   obtain⟨t30,L30,rfl,hL30⟩:=Xah hL29
   clear hL29
   obtain⟨t31,L31,rfl,hL31⟩:=Xah hL30
   clear hL30
   obtain⟨t32,L32,rfl,hL32⟩:=Xah hL31
   clear hL31
   obtain⟨t33,L33,rfl,hL33⟩:=Xah hL32
   clear hL32
   obtain⟨t34,L34,rfl,hL34⟩:=Xah hL33
   clear hL33
   obtain⟨t35,L35,rfl,hL35⟩:=Xah hL34
   clear hL34
   obtain⟨t36,L36,rfl,hL36⟩:=Xah hL35
   clear hL35
   obtain⟨t37,L37,rfl,hL37⟩:=Xah hL36
   clear hL36
   obtain⟨t38,L38,rfl,hL38⟩:=Xah hL37
   clear hL37
   obtain⟨t39,L39,rfl,hL39⟩:=Xah hL38
   clear hL38
   obtain⟨t40,L40,rfl,hL40⟩:=Xah hL39
   clear hL39
   obtain⟨t41,L41,rfl,hL41⟩:=Xah hL40
   clear hL40
   obtain⟨t42,L42,rfl,hL42⟩:=Xah hL41
   clear hL41
   obtain⟨t43,L43,rfl,hL43⟩:=Xah hL42
   clear hL42
   obtain⟨t44,L44,rfl,hL44⟩:=Xah hL43
   clear hL43
   obtain⟨t45,L45,rfl,hL45⟩:=Xah hL44
   clear hL44
   obtain⟨t46,L46,rfl,hL46⟩:=Xah hL45
   clear hL45
   obtain⟨t47,L47,rfl,hL47⟩:=Xah hL46
   clear hL46
   obtain⟨t48,L48,rfl,hL48⟩:=Xah hL47
   clear hL47
   obtain⟨t49,L49,rfl,hL49⟩:=Xah hL48
   clear hL48
   obtain⟨t50,L50,rfl,hL50⟩:=Xah hL49
   clear hL49
   obtain⟨t51,L51,rfl,hL51⟩:=Xah hL50
   clear hL50
   obtain⟨t52,L52,rfl,hL52⟩:=Xah hL51
   clear hL51
   obtain⟨t53,L53,rfl,hL53⟩:=Xah hL52
   clear hL52
   obtain⟨t54,L54,rfl,hL54⟩:=Xah hL53
   clear hL53
   obtain⟨t55,L55,rfl,hL55⟩:=Xah hL54
   clear hL54
   obtain⟨t56,L56,rfl,hL56⟩:=Xah hL55
   clear hL55
   obtain⟨t57,L57,rfl,hL57⟩:=Xah hL56
   clear hL56
   obtain⟨t58,L58,rfl,hL58⟩:=Xah hL57
   clear hL57
   obtain⟨t59,L59,rfl,hL59⟩:=Xah hL58
   clear hL58
   obtain⟨t60,L60,rfl,hL60⟩:=Xah hL59
   clear hL59
   obtain⟨t61,L61,rfl,hL61⟩:=Xah hL60
   clear hL60
   obtain⟨t62,L62,rfl,hL62⟩:=Xah hL61
   clear hL61
   obtain⟨t63,L63,rfl,hL63⟩:=Xah hL62
   clear hL62
   obtain⟨t64,L64,rfl,hL64⟩:=Xah hL63
   clear hL63
   obtain⟨t65,L65,rfl,hL65⟩:=Xah hL64
   clear hL64
   obtain⟨t66,L66,rfl,hL66⟩:=Xah hL65
   clear hL65
   obtain⟨t67,L67,rfl,hL67⟩:=Xah hL66
   clear hL66
   obtain⟨t68,L68,rfl,hL68⟩:=Xah hL67
   clear hL67
   obtain⟨t69,L69,rfl,hL69⟩:=Xah hL68
   clear hL68
   obtain⟨t70,L70,rfl,hL70⟩:=Xah hL69
   clear hL69
   obtain⟨t71,L71,rfl,hL71⟩:=Xah hL70
   clear hL70
   obtain⟨t72,L72,rfl,hL72⟩:=Xah hL71
   clear hL71
   obtain⟨t73,L73,rfl,hL73⟩:=Xah hL72
   clear hL72
   obtain rfl:=W0m hL73
   obtain rfl:t1=.pointer (some ⟨bx,0,none⟩):=e1
   obtain rfl:t4=.pointer (some ⟨by4,0,none⟩):=e4
   have hfin:∀ {w':World} {s:List UInt8},Below W.w.heap.size W.w w'->s=tx z->Ret W0 (λx=>x=.d (.str (tx z))) (.returned (.string ⟨s.toArray⟩)) w':=λ{w' s} h e=>by
    obtain⟨W',h1,h2⟩:=Xq2 h
    subst e
    refine⟨W',_,_,rfl,h1,⟨h2.os.trans hfm.os,h2.out.trans hfm.out,h2.tape.trans hfm.tape,W0h hfm.size h2.size,λb hb hx=>(h2.same b (W0s hb hfm.size) id).trans (hfm.same b hb hx),λb hb hx i=>(h2.A b (W0s hb hfm.size) id i).trans (hfm.A b hb hx i),hfm.le.trans h2.le⟩,Xnu ?_,λ_ h=>h,rfl⟩
    have:=Xot z.natAbs
    unfold tx
    split<;>simp only[W0e,W0q,W4f]<;>omega
   clear q2 q3 q6 q7 hθ hck
   obtain⟨w,hww⟩:∃w,w=W.w:=⟨_,rfl⟩
   have hgw:∀ {w':World},Below w.heap.size w w'->Gb.g Tryz.prog (gw1 w'):=λh=>Gb.mono _ _ (Yhs (n:=w.heap.size) (by rw[<-hww];exact h) (by rw[<-hww];exact W0a _)) hgW
   rw[<-hww] at c1 c4 hcell hb1 hb4 hb7 hfin |-
   clear hww hgW hzl hzs hcl hnl hll hwo hn hdx hsz h hp hl q1 q5 p1 p4 hfm
   have hz9:zs.length*4<=140737488351232:=by omega
   have cA:∀o,(w.alloc o).cell? ⟨bx,0,none⟩=some (.bool (decide (z<0))):=λo=>(World.cell?_of_block (a:=⟨bx,0,none⟩) (Below.heap_alloc w o bx hb1)).trans c1
   have c4A:∀o,(w.alloc o).cell? ⟨by4,0,none⟩=some (.slice (some ⟨b7,0,none⟩) zs.length cp):=λo=>(World.cell?_of_block (a:=⟨by4,0,none⟩) (Below.heap_alloc w o by4 hb4)).trans c4
   by_cases hneg:z<0
   . simp only[decide_eq_true hneg] at cA
     gi_wp2
     refine⟨trivial,(callsIn_wide.2 (Any.Builder_WriteByte_k Yhw Ykc w.heap.size w.heap.size [] 45 _ (.of (Lib.fresh_isBuilder _ _ w)) (by decide) (by simp))).mono ?_⟩
     rintro e wb ⟨rfl,hB,hbw,hok⟩
     have hB:Lib.IsBuilderF (rnB.t 72) (rnB.t 5) w.heap.size w.heap.size (Lib.byteCells [45]) wb:=.inr hB
     have hbw:Below w.heap.size w wb:=((Below.refl _ w).alloc (W0a _) _).trans hbw
     have hlt:w.heap.size<wb.heap.size:=by rcases hB with h | h<;>exact h.lt
     have c4b:wb.cell? ⟨by4,0,none⟩=some (.slice (some ⟨b7,0,none⟩) zs.length cp):=(hbw.cell (p:=⟨by4,0,none⟩) hb4).trans c4
     gi_wp2
     refine⟨trivial,(Xoy Fence.wide 7 trivial rfl _ _ _ _).mono ?_⟩
     rintro e w2 ⟨rfl,hw2⟩
     have hBS:w2.heap[wb.heap.size]?=some (.cells #[.slice (some ⟨b7,0,none⟩) zs.length cp] 99 (0,0)):=by rw[hw2];exact World.alloc_heap_new wb _
     have hb2:Below w.heap.size w w2:=by rw[hw2];exact hbw.alloc (by have:=hbw.size;omega) _
     have hB2:Lib.IsBuilderF (rnB.t 72) (rnB.t 5) w.heap.size w.heap.size (Lib.byteCells [45]) w2:=by rw[hw2];exact hB.alloc _
     have hs2:w2.heap.size=wb.heap.size+1:=by rw[hw2];simp
     have hcell2:∀j,j<zs.length->w2.cell? ⟨b7,0+j,none⟩=some (.int .u32 ((zs[j]?.getD ⟨0,by decide⟩).1:Int)):=λj hj=>(hb2.cell (p:=⟨b7,0+j,none⟩) hb7).trans (hcell j hj)
     have cBS:w2.cell? ⟨wb.heap.size,0,none⟩=some (.slice (some ⟨b7,0,none⟩) zs.length cp):=by simp[World.cell?,hBS]
     obtain⟨BS,hBSe⟩:∃BS,BS=wb.heap.size:=⟨_,rfl⟩
     rw[<-hBSe] at hBS hs2 cBS hlt |-
     clear hw2 hBSe hB hbw c4b hok
     gi_wp2
     refine wpIn_rangeFunc_ownG rfl (by decide) (gf:=245) (lb:=#[.pointer (some ⟨BS,0,none⟩)]) rfl trivial (enters_of Tryz.func245 (by kernel_rfl) rfl)
      (Xnb Fence.wide (8-1) trivial rfl (by decide) BS w.heap.size b7 0 cp zs hz9 w2 (by omega) (by omega) cBS hb7 hcell2) Kq.trans (λW l o o' hl h _ _=>Xvf W l o hl (by omega) (by omega) h o') (Below.refl _ _) (λ_=>rfl)
      (λpre W=>(Lib.IsBuilderF (rnB.t 72) (rnB.t 5) w.heap.size w.heap.size (Lib.byteCells (o9 zs.length [45] pre)) W/\W.heap[BS]?=some (.cells #[.slice (some ⟨b7,0,none⟩) zs.length cp] 99 (0,0)))/\Below w.heap.size w W)
      (λ_ _ _=>False)
      (OwnFrom.and (Own.from (λs A B row hs hg hr=>⟨Xvk _ _ _ _ (λp=>Lib.byteCells (o9 zs.length [45] p)) s A B row hs.1 hg hr,Xir hs.2 hg hr⟩) _) (ownFrom_below (W0a _) (by omega)))
      (λ_ _ _ _ _ hs _ _=>hs)
      ⟨⟨hB2,hBS⟩,hb2⟩
      (λx=>{ tmps:=#[t0,.pointer (some ⟨bx,0,none⟩),t2,t3,.pointer (some ⟨by4,0,none⟩),t5,t6,.pointer (some ⟨w.heap.size,0,none⟩),.int .i64 (x.1:Int),.int .u32 (x.2.1:Int),t10,t11,t12,t13,t14,t15,t16,t17,t18,t19,t20,t21,t22,t23,t24,t25,t26,t27,t28,t29,t30,t31,t32,t33,t34,t35,t36,t37,t38,t39,t40,t41,t42,t43,t44,t45,t46,t47,t48,t49,t50,.pointer (some ⟨bx,0,none⟩),.bool true,.nilIface,.slice (some ⟨b7,0,none⟩) zs.length cp,.func (.func 245) #[] #[.pointer (some ⟨BS,0,none⟩)],.int .i64 (x.1:Int),.int .u32 (x.2.1:Int),t58,t59,t60,t61,t62,t63,t64,t65,t66,t67,t68,t69,t70,t71,t72,t73],defers:=[] }) ?assign ?body ?done ?stop
     case assign =>
      intro l x W K hK
      gi_wp2
      exact hK
     case stop =>
      rintro D c pre W _ _ h _
      exact h.elim
     case body =>
      rintro l pre x W ⟨⟨hBd,hBS⟩,hBl⟩ hlen
      gi_wp2
      rw[wU (by have:=x.2.2;omega)]
      refine⟨trivial,(CallsIn.inRound l (callsIn_wide.2 (Ynq (hgw hBl) x.2))).mono ?_⟩
      rintro e W1 ⟨rfl,hW1⟩
      have h9:W9 w.heap.size BS w2.heap.size (.slice (some ⟨b7,0,none⟩) zs.length cp) w W (o9 zs.length [45] pre) W1:=W9.below ⟨hBd,hBS,hBl,KeepsFrom.refl _ _,Kq.refl _ _ _⟩ hBl.size hW1
      have c41:W1.cell? ⟨by4,0,none⟩=some (.slice (some ⟨b7,0,none⟩) zs.length cp):=(h9.l.cell (p:=⟨by4,0,none⟩) hb4).trans c4
      have hxl:=Yl6 x.2
      have hol:=Xun zs.length pre [45]
      have hos:=Xn9 zs.length [45] pre x
      have hsgl:([45]:List UInt8).length<=1:=by decide
      have hpl:pre.length<549755813888:=by omega
      obtain⟨ds,hds⟩:∃ds,ds=dec x.2.1:=⟨_,rfl⟩
      rw[<-hds] at hxl hos |-
      have hBn:BS≠w.heap.size:=by omega
      clear hds hBd hBS hW1
      gi_wp2
      . rename_i hx
        refine⟨trivial,(CallsIn.inRound l (callsIn_wide.2 (Ym5 (hgw h9.l) (n:=9-ds.length) (by omega) (by omega)))).mono ?_⟩
        rintro e W2 ⟨rfl,hW2⟩
        have h9b:=h9.below h9.l.size hW2
        obtain⟨zr,hzr⟩:∃zr,zr=List.replicate (9-ds.length) (48:UInt8):=⟨_,rfl⟩
        have hzrl:zr.length<=9:=by rw[hzr,W1s];omega
        rw[<-hzr]
        rw[if_pos (by omega),<-hzr] at hos
        clear hzr
        gi_wp2
        refine⟨trivial,(CallsIn.inRound l (callsIn_wide.2 (h9b.wr zr h9b.l.size hBn (by omega)))).mono ?_⟩
        rintro e W3 ⟨rfl,h9c⟩
        gi_wp2
        refine⟨trivial,(CallsIn.inRound l (callsIn_wide.2 (h9c.wr ds h9c.l.size hBn (by simp only[W0e];omega)))).mono ?_⟩
        rintro e W4 ⟨rfl,h9d⟩
        gi_wp2
        exact⟨h9d.k,h9d.q,⟨by rw[hos];exact h9d.b,h9d.s⟩,h9d.l⟩
      . rename_i hx
        rw[if_neg (by omega),W4i] at hos
        refine⟨trivial,(CallsIn.inRound l (callsIn_wide.2 (h9.wr ds h9.l.size hBn (by omega)))).mono ?_⟩
        rintro e W4 ⟨rfl,h9d⟩
        gi_wp2
        exact⟨h9d.k,h9d.q,⟨by rw[hos];exact h9d.b,h9d.s⟩,h9d.l⟩
     case done =>
      rintro D ys W hD rfl ⟨⟨hBd,hBS⟩,hBl⟩ hK
      gi_wp2
      have hne:o9 zs.length [45] (b9 zs zs.length)=tx z:=by
       rw[Ydh _ _ _ (W0a _),W2z,W1d,htx]
       unfold tx
       rw[if_pos hneg]
      rw[hne] at hBd
      have hn0:tx z≠[]:=by
       unfold tx
       intro h
       exact Xwt _ (List.append_eq_nil_iff.1 h).2
      refine⟨trivial,(callsIn_wide.2 (Any.Builder_String_k Ybl Ykc w.heap.size w.heap.size (tx z) W hBd hn0)).mono ?_⟩
      rintro e W3 ⟨rfl,_,hb3,hok3⟩
      have hK3:=hok3 D _ hK (by intro h;cases h;have:=hBl.size;omega) (by intro c fz h;cases h)
      gi_wp2
      refine⟨by simp,.inl ⟨_,_,rfl,run_takeDeferred hK3,?_⟩⟩
      refine⟨_,results_tmp rfl _ _ _,?_⟩
      refine hfin (s:=tx z) ?_ rfl
      exact(hBl.trans hb3).trans (belowK_b (w:=w) (W0a _) W3 D _ _ (by omega) hK3 rfl rfl)
   . simp only[decide_eq_false hneg] at cA
     gi_wp2
     obtain⟨wb,hwb⟩:∃wb,wb=w.alloc (.cells #[.pointer none,.slice none 0 0] 189):=⟨_,rfl⟩
     have hB:Lib.IsBuilderF (rnB.t 72) (rnB.t 5) w.heap.size w.heap.size (Lib.byteCells []) wb:=by rw[hwb];exact .of (Lib.fresh_isBuilder _ _ w)
     have hbw:Below w.heap.size w wb:=by rw[hwb];exact(Below.refl _ w).alloc (W0a _) _
     have hlt:w.heap.size<wb.heap.size:=by rcases hB with h | h<;>exact h.lt
     rw[<-hwb]
     clear hwb
     refine⟨trivial,(Xoy Fence.wide 7 trivial rfl _ _ _ _).mono ?_⟩
     rintro e w2 ⟨rfl,hw2⟩
     have hBS:w2.heap[wb.heap.size]?=some (.cells #[.slice (some ⟨b7,0,none⟩) zs.length cp] 99 (0,0)):=by rw[hw2];exact World.alloc_heap_new wb _
     have hb2:Below w.heap.size w w2:=by rw[hw2];exact hbw.alloc (by have:=hbw.size;omega) _
     have hB2:Lib.IsBuilderF (rnB.t 72) (rnB.t 5) w.heap.size w.heap.size (Lib.byteCells []) w2:=by rw[hw2];exact hB.alloc _
     have hs2:w2.heap.size=wb.heap.size+1:=by rw[hw2];simp
     have hcell2:∀j,j<zs.length->w2.cell? ⟨b7,0+j,none⟩=some (.int .u32 ((zs[j]?.getD ⟨0,by decide⟩).1:Int)):=λj hj=>(hb2.cell (p:=⟨b7,0+j,none⟩) hb7).trans (hcell j hj)
     have cBS:w2.cell? ⟨wb.heap.size,0,none⟩=some (.slice (some ⟨b7,0,none⟩) zs.length cp):=by simp[World.cell?,hBS]
     obtain⟨BS,hBSe⟩:∃BS,BS=wb.heap.size:=⟨_,rfl⟩
     rw[<-hBSe] at hBS hs2 cBS hlt |-
     clear hw2 hBSe hB hbw
     gi_wp2
     refine wpIn_rangeFunc_ownG rfl (by decide) (gf:=245) (lb:=#[.pointer (some ⟨BS,0,none⟩)]) rfl trivial (enters_of Tryz.func245 (by kernel_rfl) rfl)
      (Xnb Fence.wide (8-1) trivial rfl (by decide) BS w.heap.size b7 0 cp zs hz9 w2 (by omega) (by omega) cBS hb7 hcell2) Kq.trans (λW l o o' hl h _ _=>Xvf W l o hl (by omega) (by omega) h o') (Below.refl _ _) (λ_=>rfl)
      (λpre W=>(Lib.IsBuilderF (rnB.t 72) (rnB.t 5) w.heap.size w.heap.size (Lib.byteCells (o9 zs.length [] pre)) W/\W.heap[BS]?=some (.cells #[.slice (some ⟨b7,0,none⟩) zs.length cp] 99 (0,0)))/\Below w.heap.size w W)
      (λ_ _ _=>False)
      (OwnFrom.and (Own.from (λs A B row hs hg hr=>⟨Xvk _ _ _ _ (λp=>Lib.byteCells (o9 zs.length [] p)) s A B row hs.1 hg hr,Xir hs.2 hg hr⟩) _) (ownFrom_below (W0a _) (by omega)))
      (λ_ _ _ _ _ hs _ _=>hs)
      ⟨⟨hB2,hBS⟩,hb2⟩
      (λx=>{ tmps:=#[t0,.pointer (some ⟨bx,0,none⟩),t2,t3,.pointer (some ⟨by4,0,none⟩),t5,t6,.pointer (some ⟨w.heap.size,0,none⟩),.int .i64 (x.1:Int),.int .u32 (x.2.1:Int),t10,t11,t12,t13,t14,t15,t16,t17,t18,t19,t20,t21,t22,t23,t24,t25,t26,t27,t28,t29,t30,t31,t32,t33,t34,t35,t36,t37,t38,t39,t40,t41,t42,t43,t44,t45,t46,t47,t48,t49,t50,.pointer (some ⟨bx,0,none⟩),.bool false,t53,.slice (some ⟨b7,0,none⟩) zs.length cp,.func (.func 245) #[] #[.pointer (some ⟨BS,0,none⟩)],.int .i64 (x.1:Int),.int .u32 (x.2.1:Int),t58,t59,t60,t61,t62,t63,t64,t65,t66,t67,t68,t69,t70,t71,t72,t73],defers:=[] }) ?assign ?body ?done ?stop
     case assign =>
      intro l x W K hK
      gi_wp2
      exact hK
     case stop =>
      rintro D c pre W _ _ h _
      exact h.elim
     case body =>
      rintro l pre x W ⟨⟨hBd,hBS⟩,hBl⟩ hlen
      gi_wp2
      rw[wU (by have:=x.2.2;omega)]
      refine⟨trivial,(CallsIn.inRound l (callsIn_wide.2 (Ynq (hgw hBl) x.2))).mono ?_⟩
      rintro e W1 ⟨rfl,hW1⟩
      have h9:W9 w.heap.size BS w2.heap.size (.slice (some ⟨b7,0,none⟩) zs.length cp) w W (o9 zs.length [] pre) W1:=W9.below ⟨hBd,hBS,hBl,KeepsFrom.refl _ _,Kq.refl _ _ _⟩ hBl.size hW1
      have c41:W1.cell? ⟨by4,0,none⟩=some (.slice (some ⟨b7,0,none⟩) zs.length cp):=(h9.l.cell (p:=⟨by4,0,none⟩) hb4).trans c4
      have hxl:=Yl6 x.2
      have hol:=Xun zs.length pre []
      have hos:=Xn9 zs.length [] pre x
      have hsgl:([]:List UInt8).length<=1:=by decide
      have hpl:pre.length<549755813888:=by omega
      obtain⟨ds,hds⟩:∃ds,ds=dec x.2.1:=⟨_,rfl⟩
      rw[<-hds] at hxl hos |-
      have hBn:BS≠w.heap.size:=by omega
      clear hds hBd hBS hW1
      gi_wp2
      . rename_i hx
        refine⟨trivial,(CallsIn.inRound l (callsIn_wide.2 (Ym5 (hgw h9.l) (n:=9-ds.length) (by omega) (by omega)))).mono ?_⟩
        rintro e W2 ⟨rfl,hW2⟩
        have h9b:=h9.below h9.l.size hW2
        obtain⟨zr,hzr⟩:∃zr,zr=List.replicate (9-ds.length) (48:UInt8):=⟨_,rfl⟩
        have hzrl:zr.length<=9:=by rw[hzr,W1s];omega
        rw[<-hzr]
        rw[if_pos (by omega),<-hzr] at hos
        clear hzr
        gi_wp2
        refine⟨trivial,(CallsIn.inRound l (callsIn_wide.2 (h9b.wr zr h9b.l.size hBn (by omega)))).mono ?_⟩
        rintro e W3 ⟨rfl,h9c⟩
        gi_wp2
        refine⟨trivial,(CallsIn.inRound l (callsIn_wide.2 (h9c.wr ds h9c.l.size hBn (by simp only[W0e];omega)))).mono ?_⟩
        rintro e W4 ⟨rfl,h9d⟩
        gi_wp2
        exact⟨h9d.k,h9d.q,⟨by rw[hos];exact h9d.b,h9d.s⟩,h9d.l⟩
      . rename_i hx
        rw[if_neg (by omega),W4i] at hos
        refine⟨trivial,(CallsIn.inRound l (callsIn_wide.2 (h9.wr ds h9.l.size hBn (by omega)))).mono ?_⟩
        rintro e W4 ⟨rfl,h9d⟩
        gi_wp2
        exact⟨h9d.k,h9d.q,⟨by rw[hos];exact h9d.b,h9d.s⟩,h9d.l⟩
     case done =>
      rintro D ys W hD rfl ⟨⟨hBd,hBS⟩,hBl⟩ hK
      gi_wp2
      have hne:o9 zs.length [] (b9 zs zs.length)=tx z:=by
       rw[Ydh _ _ _ (W0a _),W2z,W1d,htx]
       unfold tx
       rw[if_neg (by omega)]
      rw[hne] at hBd
      have hn0:tx z≠[]:=by
       unfold tx
       intro h
       exact Xwt _ (List.append_eq_nil_iff.1 h).2
      refine⟨trivial,(callsIn_wide.2 (Any.Builder_String_k Ybl Ykc w.heap.size w.heap.size (tx z) W hBd hn0)).mono ?_⟩
      rintro e W3 ⟨rfl,_,hb3,hok3⟩
      have hK3:=hok3 D _ hK (by intro h;cases h;have:=hBl.size;omega) (by intro c fz h;cases h)
      gi_wp2
      refine⟨by simp,.inl ⟨_,_,rfl,run_takeDeferred hK3,?_⟩⟩
      refine⟨_,results_tmp rfl _ _ _,?_⟩
      refine hfin (s:=tx z) ?_ rfl
      exact(hBl.trans hb3).trans (belowK_b (w:=w) (W0a _) W3 D _ _ (by omega) hK3 rfl rfl)
theorem Xr9{z:Int}(hl:(dig z.natAbs).length<=274877906944): C0 102 [.d (dz z)] (·=.d (.str (tx z))):=by
 by_cases hz:z=0
 . subst hz
   have:tx 0=[48]:=by unfold tx;rw[if_neg (by decide),show Int.natAbs 0=0 from rfl,Xd1 (by decide)];rfl
   rw[this];exact Xo7
 . exact Xso hz hl
end
end Go.Proofs.YtgpipgjbkggjpaaGreatDoor
namespace Go.Proofs.YtgpipgjbkggjpaaGreatDoor.P11
open Go Go.Vm Go.Num Go.Tow Go.Proofs.YtgpipgjbkggjpaaGreatDoor Go.Proofs.YtgpipgjbkggjpaaGreatDoor.P9 Go.Proofs.YtgpipgjbkggjpaaGreatDoor.R11
def fmtV(z:Int)(d:Nat): AV:=if (txt z d).length<=400 then .tup (.pr (.d (.str (txt z d))) (.d (.int .i64 0))) else .tup (.pr (.d (.str [])) (.d (.int .i64 3)))
abbrev RndOf(x:Nm)(d:Nat)(z:Int): Prop:=Xdb x.k x.t (scl x.k x.t x.a ((10^d:Int):Rat) hf) z
theorem dcT{p:Prop}(h:p): dc p=true:=Xaj.2 h
theorem dcF{p:Prop}(h:¬p): dc p=false:=W6h.2 λe=>h (Xaj.1 e)
theorem Yi1{z:Int}(hl:(dig z.natAbs).length<=274877906944): C0 101 [.d (.str (tx z)),.d (.str [45])] (·=.tup (.pr (.d (.str (dec z.natAbs))) (.b (dc (z<0))))):=by
 have hlen:=Xot z.natAbs
 have hT:Tx (tx z):=by
  by_cases h:z<0
  . rw[Xs6 h];show (45::dec z.natAbs).length<_;rw[W0q];omega
  . rw[Xs5 h];show (dec z.natAbs).length<_;omega
 have h:=Xnk (s:=tx z) (t:=[45]) hT (by decide)
 by_cases hz:z<0
 . have e:(tx z).take [(45:UInt8)].length=[45]:=by rw[Xs6 hz];rfl
   rw[if_pos e,show (tx z).drop [(45:UInt8)].length=dec z.natAbs by rw[Xs6 hz];rfl] at h
   exact h.mono λv hv=>by rw[hv,dcT e,dcT hz]
 . have e:¬(tx z).take [(45:UInt8)].length=[45]:=λe=>by
    rw[Xs5 hz] at e
    have hm:(45:UInt8)∈dec z.natAbs:=W5r (by rw[e];exact W0g.2 rfl)
    have:=(Yiy z.natAbs 45 hm).1
    exact absurd this (by decide)
   exact h.mono λv hv=>by rw[hv,if_neg e,dcF e,dcF hz,Xs5 hz]
theorem Xi2{x:Nm}{d:Nat}(H:Pk x)(hd:d<=60): C0 59 [.d (dN x),.d (.int .i64 d)] λv=>∃z,RndOf x d z/\(dig z.natAbs).length<=274877906944/\v=fmtV z d:=by
 refine En Tryz.func59 λ_ _ _=>?_
 refine Ca rfl (Xz5 H hd) λv hv=>?_
 obtain⟨z,rfl,hz,hl⟩:=hv
 have hlen:=Xot z.natAbs
 have hpl:=Ydc d (dec z.natAbs)
 have hdp:=Xwr z.natAbs
 obtain⟨s,hs⟩:∃s,s=dec z.natAbs:=⟨_,rfl⟩
 rw[<-hs] at hlen hpl hdp
 have hct:=Yi1 hl
 rw[<-hs] at hct
 refine No rfl (by decide) ?_
 refine Ce rfl (Xr9 hl) ?_
 refine Ce rfl hct ?_
 obtain⟨q,hq⟩:∃q,q=pad d s:=⟨_,rfl⟩
 have hql:q.length=max (d+1) s.length:=by rw[hq,hpl]
 obtain⟨r,hr⟩:∃r,r=pt d q:=⟨_,rfl⟩
 have hrl:r.length<=q.length+1:=by
  rw[hr,pt];split
  . omega
  . rw[W0e,W0q,W0k,W1t];omega
 have htx:txt z d=(if z<0 then [45] else [])++r:=by rw[txt,hr,hq,hs]
 refine Cu none (λ(_:Unit)=>[(1,.d (.int .i64 d)),(8,.d (.str q)),(9,.b (dc (z<0)))]) (λ_=>[]) (λ_=>True) rfl ?_ λ_ _=>?_
 . refine By rfl (λh=>?_) λh=>?_
   . have h:((s.length:Nat):Int)<=d:=h
     refine Ar (d+1:Nat) rfl ?_
     refine Ar (d+1-s.length:Nat) rfl ?_
     refine Ce rfl (Xkc (by omega)) ?_
     refine Sc q rfl (by rw[hq];rfl) (by rw[W1s];omega) ?_
     exact Jn () [] rfl trivial
   . have h:¬((s.length:Nat):Int)<=d:=h
     have e:q=s:=by rw[hq,pad,show d+1-s.length=0 by omega];rfl
     rw[e]
     exact Jn () [] rfl trivial
 refine Cu none (λ(_:Unit)=>[(1,.d (.int .i64 d)),(8,.d (.str r)),(9,.b (dc (z<0)))]) (λ_=>[]) (λ_=>True) rfl ?_ λ_ _=>?_
 . refine By rfl (λh=>?_) λh=>?_
   . refine Dw rfl ?_
     refine Ar ((q.length-d:Nat):Int) rfl ?_
     refine Stk (q.length-d) _ rfl (by omega) rfl ?_
     refine Sc (q.take (q.length-d)++[46]) rfl rfl (by simp;omega) ?_
     refine Ar ((q.length-d:Nat):Int) rfl ?_
     refine Sdp (q.length-d) _ rfl (by omega) rfl ?_
     refine Sc r rfl (by rw[hr,pt,if_neg (by omega)];simp) (by simp;omega) ?_
     exact Jn () [] rfl trivial
   . have e:r=q:=by rw[hr,pt,if_pos (by omega)]
     rw[e]
     exact Jn () [] rfl trivial
 refine Cu none (λ(_:Unit)=>[(8,.d (.str (txt z d)))]) (λ_=>[]) (λ_=>True) rfl ?_ λ_ _=>?_
 . refine By rfl (λh=>?_) λh=>?_
   . refine Sc (txt z d) rfl (by rw[htx,if_pos h]) (by show 1+r.length<_;omega) ?_
     exact Jn () [] rfl trivial
   . rw[htx,if_neg h]
     exact Jn () [] rfl trivial
 refine By rfl (λh=>?_) λh=>?_
 . exact Rt rfl (.tup (.cons (.rf rfl) Xa6)) ⟨z,hz,hl,by rw[fmtV,if_neg (by omega)]⟩
 . exact Rt rfl (.tup (.cons (.rf rfl) Xa6)) ⟨z,hz,hl,by rw[fmtV,if_pos (by omega)]⟩
theorem dFmt_ok{x:Nm}{d:Nat}(H:Pk x)(hd:d<=60): C0 59 [.d (dN x),.d (.int .i64 d)] λv=>∃z,RndOf x d z/\(dig z.natAbs).length<=274877906944/\v=fmtV z d:=Xi2 H hd
end Go.Proofs.YtgpipgjbkggjpaaGreatDoor.P11
namespace Go.Vm
open Go
theorem Stp.freezeV{N:Nat->Prop}{W:GW}{θ:Loc}{g:Hp}(h:Obs W θ N g){o b:Nat}{x:D}(ho:g o=some (.var (.d x)))(hb:(θ o).1=some b): Stp N W (W.fz b) θ θ g (upd g o .dead) where
 os:=_root_.rfl
 out:=_root_.rfl
 tape:=_root_.rfl
 size:=W0a _
 same:=λ_ _ _=>_root_.rfl
 A:=λb' _ hn i=>⟨λk=>k.2,λk=>⟨λe=>by subst e;exact hn (h.new o _ _ ho _root_.rfl hb),k⟩⟩
 le:=Xsa W b
 th:=λ_ _ _=>_root_.rfl
 hi:=λ_ _=>_root_.rfl
 obs:={
  r:=λo' z hz=>by
   rcases Xae hz with ⟨e1,e2⟩ | ⟨e1,e2⟩
   . subst e2;trivial
   . exact(h.r o' z e2).keep (Xsa W b) _root_.rfl (λ_ _=>_root_.rfl) λhl b' hb'=>⟨_root_.rfl,λi hA=>show b'≠b/\W.A b' i from⟨λe=>by
      subst e
      exact e1 (h.dis o' o z _ _ e2 ho hl _root_.rfl hb' hb),hA⟩⟩
  new:=λo' z b hz hl hb=>by
   rcases Xae hz with ⟨e1,e2⟩ | ⟨e1,e2⟩
   . subst e2;cases hl
   . exact h.new o' z b e2 hl hb
  dis:=λo1 o2 y1 y2 b h1 h2 l1 l2 b1 b2=>by
   rcases Xae h1 with ⟨e1,f1⟩ | ⟨e1,f1⟩
   . subst f1;cases l1
   . rcases Xae h2 with ⟨e2,f2⟩ | ⟨e2,f2⟩
     . subst f2;cases l2
     . exact h.dis o1 o2 y1 y2 b f1 f2 l1 l2 b1 b2
  ids:=λo' z i hz hzi=>by
   have:∃w,g i=some w:=by
    rcases Xae hz with ⟨e1,e2⟩ | ⟨e1,e2⟩
    . subst e2;exact hzi.elim
    . exact h.ids o' z i e2 hzi
   obtain⟨w,hw⟩:=this
   by_cases e:i=o
   . subst e;exact⟨_,Xai _ _ _⟩
   . exact⟨w,by rw[Xak e];exact hw⟩ }
 dom:=λi y hy=>by
  by_cases e:i=o
  . subst e;exact⟨_,Xai _ _ _⟩
  . exact⟨y,by rw[Xak e];exact hy⟩
theorem Xv4{N:Nat->Prop}{W:GW}{θ:Loc}{g:Hp}(h:Obs W θ N g){o b:Nat}{x:D}{v:Value}(ho:g o=some (.var (.d x)))(hb:(θ o).1=some b)(hv:AV.V W θ (.ptr o 0) v): AV.V (W.fz b) θ (.at x) v:=by
 obtain⟨cs,⟨b1,h1,h2⟩,hc⟩:=hv
 refine⟨cs,?_,hc⟩
 obtain⟨b',bs,T',r1,r2,r3,r4⟩:=h.r _ _ ho
 rw[hb] at r1 h1;injection r1 with r1;injection h1 with h1;subst r1;subst h1
 exact⟨b,0,bs,h2,D.mono (Xsa W b) x r3,λj v hj=>⟨show W.w.cell? _=_ by rw[W1k,Xba r2];exact hj,λhA=>hA.1 rfl⟩⟩
section
variable{c:Cx}{s:St}{p:Pl}
noncomputable def Yni(tb:Nat->Option TI)(n id t:Nat)(s:St): Option (List Kt×Env×Hpl×Nat×D):=match runT tb n id 1000 s with
 | .j _ K E H=>match look E t with
  | some (.ptr o 0)=>match look H o with
   | some (.var (.d x))=>some (K,E,H,o,x)
   | _=>none
  | _=>none
 | _=>none
theorem Fv(id t:Nat){K:List Kt}{E:Env}{H:Hpl}{o:Nat}{x:D}(h:Yni c.tb c.n id t s=some (K,E,H,o,x))(k:StP c (.j [] K ((t,.at x)::E) ((o,.dead)::H))): StP c s:=by
 unfold Yni at h
 split at h<;>try cases h
 rename_i hr
 split at h<;>try cases h
 rename_i he
 split at h<;>cases h
 rename_i ho
 refine Xgm (id:=id) 1000 ?_
 rw[hr]
 rintro a w ⟨s0,W,θ,hw,hs,hθ,rfl⟩
 obtain⟨b,bs,T',r1,_⟩:=hs.obs.r _ _ ho
 have st:=Stp.freezeV hs.obs ho r1
 have h1:=hs.step0 st
 refine k a w ⟨_,W.fz b,θ,hw,?_,hθ,rfl⟩
 rw[show sem ((t,AV.at x)::E) ((o,Ob.dead)::H)=(upd (look E) t (.at x),upd (look H) o .dead) by rw[Xa3,Xa3]]
 refine⟨h1.fm,⟨h1.rel.defers,h1.rel.size,λq v hq=>?_⟩,h1.obs,λq v i hq hi=>?_⟩
 . rcases Xae hq with ⟨e1,e2⟩ | ⟨e1,e2⟩
   . subst e1;subst e2
     exact Xv4 hs.obs ho r1 (hs.rel.has q _ he)
   . exact h1.rel.has q v e2
 . rcases Xae hq with ⟨e1,e2⟩ | ⟨e1,e2⟩
   . subst e1;subst e2;exact hi.elim
   . exact h1.ids q v i e2 hi
end
end Go.Vm
namespace Go.Proofs.YtgpipgjbkggjpaaGreatDoor.R20
open Go Go.Vm Go.Num Go.Tow Go.Proofs.YtgpipgjbkggjpaaGreatDoor Go.Proofs.YtgpipgjbkggjpaaGreatDoor.P20
open Go.Proofs.YtgpipgjbkggjpaaGreatDoor.P55 (v0 W0 g0 gv0 zw Xlh Qp)
section
variable{K:Nat}{G:Tw K}{S:List (Tow.El K)}{N:List Nm}{n m:Nat}{x y z:Nm}{a b:Tow.El K}
variable{K':Nat}{G':Tw K'}{S':List (Tow.El K')}{N':List Nm}{u s:Vn}{p q:V2 K'}{f g:Int}
theorem Xf8(W:Wn G S N)(hx:Gd G S N n x a)(hy:Gd G S N m y b)(hn:n<=190)(hm:m<=190): C0 99 [.d (dN x),.d (dN y)] (·=.d (.int .i64 (sgn K G (Tow.add K a (Tow.neg K b))))):=by
 refine En Tryz.func99 λ_ _ _=>?_
 refine Ce rfl (R9.Cmp_g W hx hy hn hm) ?_
 exact R0
theorem Zero_g(W':Wn G' S' N')(hu:Gv G' S' N' m u p)(hm:m<=800): C0 36 [.d (dT u f)] (·=.b (dc (f=0/\Xci G' p))):=by
 refine En Tryz.func36 λ_ _ _=>?_
 refine By rfl (λh=>?_) λh=>?_
 . refine Ce rfl (R9.Sign_g W' hu.y hm) ?_
   refine By rfl (λh1=>?_) λh1=>?_
   . refine Ce rfl (R9.Sign_g W' hu.x hm) ?_
     exact R1 rfl (.bp (Xaj.trans ⟨λh2=>⟨h,h1,h2⟩,λh2=>h2.2.2⟩))
   . exact R1 rfl (.bp ⟨nofun,λh2=>absurd h2.2.1 h1⟩)
 . exact R1 rfl (.bp ⟨nofun,λh2=>absurd h2.1 h⟩)
theorem half_g(W:Wn G S N)(hx:Gd G S N n x a)(hn:n<=190): C0 37 [.d (dN x)] (OnG G S N (n+1) (Tow.mul K G a (Tow.rat K hf2))):=by
 refine En Tryz.func37 λ_ _ _=>?_
 refine Dw rfl ?_
 refine Ce rfl (R2.Frac_ok (a:=1) (b:=2) (by decide) (by decide) (by decide)) ?_
 refine Ce rfl (R9.FromRat_ok (q:=hf2)) ?_
 refine Ca rfl (R9.Mul_g W hx (Gd.rat W Xqz) hn (by decide)) λv hv=>?_
 obtain⟨z,rfl,hz⟩:=hv
 exact Rt rfl (.one (.rf rfl) rfl rfl) ⟨z,rfl,hz⟩
theorem Xbd(W:Wn G S N)(W':Wn G' S' N')(hx:Gd G S N n x a)(hu:Gv G' S' N' m u p)(hn:n<=190)(hm:m<=800): C0 14 [.d (dN x),.d (dT u f)] (λr=>((f=0/\Xci G' p)/\r=.d (dAr n00 []))\/(¬(f=0/\Xci G' p)/\∃z,r=.d (dAr n00 [⟨z,u,f⟩])/\Gd G S N (n+1) z (Tow.mul K G a (Tow.rat K hf2)))):=by
 refine En Tryz.func14 λ_ _ _=>?_
 refine Ce rfl (R9.FromInt_ok (z:=0) (by decide)) ?_
 refine Ce rfl (Zero_g W' hu hm) ?_
 refine By rfl (λh=>?_) λh=>?_
 . have h:¬(f=0/\Xci G' p):=by simpa only [Xav,Xaj] using h
   refine Dw rfl ?_
   refine Ca rfl (half_g W hx hn) λv hv=>?_
   obtain⟨z,rfl,hz⟩:=hv
   exact Rt rfl (.one (.sd (.pd (.rf rfl) (.lit rfl))) rfl rfl) (.inr ⟨h,z,rfl,hz⟩)
 . have h:f=0/\Xci G' p:=W3e.1 (by simpa only [Xav,Xaj] using h)
   exact Rt rfl (.one (.sd (.pd (.rf rfl) (.nil rfl))) rfl rfl) (.inl ⟨h,rfl⟩)
end
structure SOk (s:Sn):Prop where
 vc:C0 55 [.d (dN s.c)] (·=.b true)
 vd:C0 56 [.d (dV s.v)] (·=.b true)
 tv:C0 8 [.d (dT s.v s.f)] (·=.b true)
 tz:C0 36 [.d (dT s.v s.f)] (·=.b false)
 sc:C0 13 [.d (dN s.c)] (·=.d (.int .i64 1))
theorem lse(l:List Sn): (l.map dSe).length=l.length:=W0l ..
theorem ase{l:List Sn}{k:Nat}{s:Sn}(h:l[k]?=some s): (l.map dSe)[k]?=some (dSe s):=by rw[W1o,h];rfl
theorem Ye6{x:Nm}{l:List Sn}(hl:l.length<=100)(h:∀s∈l,SOk s)(ho:∀(i:Nat) s t,l[i]?=some s->l[i+1]?=some t->C0 99 [.d (dN s.c),.d (dN t.c)] (·=.d (.int .i64 (-1)))): C0 57 [.d (dAr x l)] (·=.b true):=by
 refine En Tryz.func57 λ_ _ _=>?_
 refine Lo (λk:Nat=>[(1,.ptr 1 0),(3,.d (.int .i64 k))]) (λ_=>[(1,.var (.d (dAr x l)))]) (λk=>k<=l.length) (λk=>l.length-k) 0 [] rfl (W0y _) λk hk=>?_
 refine By rfl (λh1=>?_) λh1=>?_<;>simp only[lse] at h1
 . obtain⟨s,hs⟩:∃s,l[k]?=some s:=⟨_,W0c (by omega)⟩
   have H:=h s (W0i hs)
   refine Ix k rfl (ase hs) ?_
   refine Ce rfl H.tv ?_
   refine No rfl (λh=>h rfl) ?_
   refine Ce rfl H.tz ?_
   refine No rfl nofun ?_
   refine Ce rfl H.sc ?_
   refine No rfl (by decide) ?_
   refine Dw rfl ?_
   refine By rfl (λh2=>?_) λh2=>?_
   . obtain⟨j,rfl⟩:∃j,k=j+1:=⟨k-1,by omega⟩
     obtain⟨r,hr⟩:∃r,l[j]?=some r:=⟨_,W0c (by omega)⟩
     refine Ar (j:Nat) rfl ?_
     refine Ix j rfl (ase hr) ?_
     refine Ce rfl (ho j r s hr hs) ?_
     refine No rfl (by decide) ?_
     refine Ar (j+1+1:Nat) rfl ?_
     exact Bk (j+1+1) [] rfl (by omega) (by show l.length-(j+1+1)<l.length-(j+1);omega)
   . refine Ar (k+1:Nat) rfl ?_
     exact Bk (k+1) [] rfl (by omega) (by show l.length-(k+1)<l.length-k;omega)
 . exact R0
theorem Good_l{x:Nm}{l:List Sn}(hl:l.length<=100)(hx:C0 55 [.d (dN x)] (·=.b true))(h:∀s∈l,SOk s)(ho:∀(i:Nat) s t,l[i]?=some s->l[i+1]?=some t->C0 99 [.d (dN s.c),.d (dN t.c)] (·=.d (.int .i64 (-1)))): C0 23 [.d (dAr x l)] (·=.b true):=by
 refine En Tryz.func23 λ_ _ _=>?_
 refine Ce rfl hx ?_
 refine No rfl (λh=>h rfl) ?_
 refine Lo (λk:Nat=>[(1,.ptr 1 0),(3,.d (.int .i64 k))]) (λ_=>[(1,.var (.d (dAr x l)))]) (λk=>k<=l.length) (λk=>l.length-k) 0 [] rfl (W0y _) λk hk=>?_
 refine By rfl (λh1=>?_) λh1=>?_<;>simp only[lse] at h1
 . obtain⟨s,hs⟩:∃s,l[k]?=some s:=⟨_,W0c (by omega)⟩
   have H:=h s (W0i hs)
   refine Ix k rfl (ase hs) ?_
   refine Ce rfl H.vc ?_
   refine No rfl (λh=>h rfl) ?_
   refine Ix k rfl (ase hs) ?_
   refine Ce rfl H.vd ?_
   refine No rfl (λh=>h rfl) ?_
   refine Ar (k+1:Nat) rfl ?_
   exact Bk (k+1) [] rfl (by omega) (by show l.length-(k+1)<l.length-k;omega)
 . refine Ce rfl (Ye6 hl h ho) ?_
   exact R0
theorem Equal_l{x y:Nm}{l l':List Sn}{p:Prop}{P Q:Sn->Sn->Prop}(hl:l.length<=100)(hl':l'.length<=100)(hx:C0 27 [.d (dN x),.d (dN y)] (·=.b (dc p)))(h:∀(i:Nat) s t,l[i]?=some s->l'[i]?=some t->C0 27 [.d (dN s.c),.d (dN t.c)] (·=.b (dc (P s t)))/\C0 28 [.d (dT s.v s.f),.d (dT t.v t.f)] (·=.b (dc (Q s t)))):
 C0 24 [.d (dAr x l),.d (dAr y l')] (·=.b (dc (p/\l.length=l'.length/\∀(i:Nat) s t,l[i]?=some s->l'[i]?=some t->P s t/\Q s t))):=by
 refine En Tryz.func24 λ_ _ _=>?_
 refine Fv 1 2 rfl ?_
 refine Fv 1 3 rfl ?_
 refine Ce rfl hx ?_
 refine By rfl (λh1=>?_) λh1=>?_
 . have h1:¬p:=by simpa only [Xav,Xaj] using h1
   rw[P11.dcF λh=>h1 h.1]
   exact R0
 have hp:p:=W3e.1 (by simpa only [Xav,Xaj] using h1)
 refine By rfl (λh2=>?_) λh2=>?_<;>simp only[lse] at h2
 . rw[P11.dcF λh=>h2 (by rw[h.2.1])]
   exact R0
 have hll:l.length=l'.length:=by omega
 refine Lo (λk:Nat=>[(2,.at (dAr x l)),(3,.at (dAr y l')),(5,.d (.int .i64 k))]) (λ_=>[]) (λk=>k<=l.length/\∀(i:Nat) s t,i<k->l[i]?=some s->l'[i]?=some t->P s t/\Q s t) (λk=>l.length-k) 0 [] rfl ⟨W0y _,λ_ _ _ h=>absurd h (by omega)⟩ λk ⟨hk,hI⟩=>?_
 refine By rfl (λh3=>?_) λh3=>?_<;>simp only[lse] at h3
 . obtain⟨s,hs⟩:∃s,l[k]?=some s:=⟨_,W0c (by omega)⟩
   obtain⟨t,ht⟩:∃t,l'[k]?=some t:=⟨_,W0c (by omega)⟩
   obtain⟨g1,g2⟩:=h k s t hs ht
   refine Dz rfl ?_
   refine Ix k rfl (ase hs) ?_
   refine Ix k rfl (ase ht) ?_
   refine Ce rfl g1 ?_
   refine By rfl (λh4=>?_) λh4=>?_
   . have h4:¬P s t:=by simpa only [Xav,Xaj] using h4
     rw[P11.dcF λh=>h4 (h.2.2 k s t hs ht).1]
     exact R0
   have hP:P s t:=W3e.1 (by simpa only [Xav,Xaj] using h4)
   refine Ce rfl g2 ?_
   refine By rfl (λh5=>?_) λh5=>?_
   . have h5:¬Q s t:=by simpa only [Xav,Xaj] using h5
     rw[P11.dcF λh=>h5 (h.2.2 k s t hs ht).2]
     exact R0
   have hQ:Q s t:=W3e.1 (by simpa only [Xav,Xaj] using h5)
   refine Ar (k+1:Nat) rfl ?_
   refine Bk (k+1) [] rfl ⟨by omega,λi s' t' hi k1 k2=>?_⟩ (by show l.length-(k+1)<l.length-k;omega)
   by_cases e:i=k
   . subst e
     rw[hs] at k1;rw[ht] at k2
     cases k1;cases k2
     exact⟨hP,hQ⟩
   . exact hI i s' t' (by omega) k1 k2
 . rw[P11.dcT ⟨hp,hll,λi s t k1 k2=>hI i s t (by have:=(W0z.1 k1).1;omega) k1 k2⟩]
   exact R0
section
variable{K:Nat}{G:Tw K}{S:List (Tow.El K)}{N:List Nm}{n m:Nat}{x y z:Nm}{a b:Tow.El K}
theorem Polygon_g(W:Wn G S N){l:List Vn}{g:Nat->V2 K}(hl:∀(i:Nat) v,l[i]?=some v->Gv G S N n v (g i))(h0:0<l.length)(h8:l.length<=8)(hn:1<=n/\n<=4): C0 16 [.d (dVs l)] (λr=>∃z,r=.tup (.pr (.d (dAr z [])) (.d (.int .i64 0)))/\Gd G S N 130 z (Tow.mul K G (pgn G g l.length) (Tow.rat K hf2))):=by
 have lm:(l.map dV).length=l.length:=W0l ..
 refine En Tryz.func16 λ_ _ _=>?_
 refine Ce rfl (R9.FromInt_ok (z:=0) (by decide)) ?_
 refine Lo (λ((k,z):Nat×Nm)=>[(0,.d (dVs l)),(2,.ptr 2 0),(4,.ptr 8 0),(5,.ptr 5 0),(6,.d (.int .i64 k))]) (λ(k,z)=>[(2,.var zA),(8,cal),(5,.var (.d (dN z)))]) (λ(k,z)=>k<=l.length/\Gd G S N (1+16*k) z (Yc9 G g l.length k)) (λ(k,_)=>l.length-k) (0,n00) [] rfl ⟨W0y _,by rw[Ya4];exact Gd.rat W (by decide +kernel)⟩ ?_
 rintro⟨k,z⟩ ⟨hk,hz⟩
 refine By rfl (λh=>?_) λh=>?_<;>simp only[lm] at h
 . obtain⟨v,hv⟩:∃v,l[k]?=some v:=⟨_,W0c (by omega)⟩
   obtain⟨w,hw⟩:∃w,l[(k+1)%l.length]?=some w:=⟨_,W0c (W1q _ h0)⟩
   refine Dw rfl ?_
   refine Ix k rfl (mp hv) ?_
   refine Ar (k+1:Nat) rfl ?_
   refine Ar ((k+1)%l.length:Nat) rfl ?_ (by rw[lm];exact remN _ h0)
   refine Ix ((k+1)%l.length) rfl (mp hw) ?_
   refine Cn [(1000001,8)] rfl (R15.Cross_g W (hl k v hv) (hl _ w hw) (by omega) (by omega) (by omega)) λv hv=>?_
   obtain⟨c,rfl,hc⟩:=hv
   refine Cn [(1000001,8)] rfl (R15.Add_g W hz hc (by omega) (by omega)) λv hv=>?_
   obtain⟨z',rfl,hz'⟩:=hv
   rw[<-Ya2] at hz'
   refine Ar (k+1:Nat) rfl ?_
   exact Bk (k+1,z') [] rfl ⟨by omega,hz'.mono (by omega)⟩ (by show l.length-(k+1)<l.length-k;omega)
 . obtain rfl:k=l.length:=by omega
   rw[Ya3] at hz
   first | refine Dw rfl ?_ | refine Dz rfl ?_
   refine Ca rfl (half_g W hz (by omega)) λv hv=>?_
   obtain⟨z',rfl,hz'⟩:=hv
   exact Rt rfl (.tup (.cons (.sd (.pd (.rf rfl) (.nil rfl))) Xa6)) ⟨z',rfl,hz'.mono (by omega)⟩
end
end Go.Proofs.YtgpipgjbkggjpaaGreatDoor.R20
namespace Go.Vm
open Go
section
variable{c:Cx}{s:St}{p:Pl}
noncomputable def Yff(tb:Nat->Option TI)(n:Nat)(s:St): Option (Pl×Nat×Nat×List D×AV):=match nxA tb n s with
 | some (p,o,[a,b])=>match o.op with
  | .call ⟨.builtin .append,_,⟨[T,T']⟩⟩=>match Nat.beq T T',tb T,look p.H (o.dst.getD 0) with
   | true,some ti,none=>match Nat.ble ti.eb 1024,ti.z,b with
    | true,.sl sz _,.d (.sl s ys)=>match Nat.beq s sz with
     | true=>some (p,o.dst.getD 0,sz,ys,a)
     | false=>none
    | true,.sl sz _,.nil=>some (p,o.dst.getD 0,sz,[],a)
    | true,.sl sz _,.gr _ s ys=>match Nat.beq s sz with
     | true=>some (p,o.dst.getD 0,sz,ys,a)
     | false=>none
    | true,.sl sz _,.lit s ys=>match Nat.beq s sz with
     | true=>some (p,o.dst.getD 0,sz,ys,a)
     | false=>none
    | _,_,_=>none
   | _,_,_=>none
  | _=>none
 | _=>none
theorem Xk5{d sz:Nat}{ys:List D}{a v:AV}{us:Hpl}(h:Yff c.tb c.n s=some (p,d,sz,ys,a))(hF:∀ti:TI,ti.eb<=1024->Xj9 d (look p.H) ti sz ys a=some (v,us))(k:p.nx' c v us): StP c s:=by
 unfold Yff at h
 split at h<;>try cases h
 rename_i p' o a' b hA
 split at h<;>try cases h
 rename_i asx T T' ho
 split at h<;>try cases h
 rename_i ti hT hti hd
 have hT:=W0d hT
 subst hT
 have fin:∀ {sz' ys' xs0},ti.eb<=1024->ti.z=.sl sz' xs0->Xjh (look p'.H) ti.z sz' b=some ys'->(p',o.dst.getD 0,sz',ys',a')=(p,d,sz,ys,a)->StP c s:=by
  intro sz' ys' xs0 he hz hs e
  injection e with e1 e2;injection e2 with e2 e3;injection e3 with e3 e4;injection e4 with e4 e5
  subst e1;subst e2;subst e3;subst e4;subst e5
  refine Xbr hA ?_ k
  rw[ho]
  simp only[F,if_true,hti,hd,hz]
  rw[hz] at hs
  rw[hs]
  exact hF ti he
 split at h
 . rename_i he hz
   split at h<;>cases h
   rename_i hs
   have hs:=W0d hs
   exact fin (W1e he) hz (by simp[Xjh,toD,hs]) rfl
 . rename_i he hz
   cases h
   exact fin (W1e he) hz (by simp[Xjh,hz,toD]) rfl
 . rename_i he hz
   split at h<;>cases h
   rename_i hs
   have hs:=W0d hs
   exact fin (W1e he) hz (by simp[Xjh,toD,hs]) rfl
 . rename_i he hz
   split at h<;>cases h
   rename_i hs
   have hs:=W0d hs
   exact fin (W1e he) hz (by simp[Xjh,toD,hs]) rfl
 . cases h
theorem Xd7{n:Nat}{ti:TI}(h:n<=137438953472)(he:ti.eb<=1024): Xja n ti:=⟨by
 have:=W1x h he;omega,by omega⟩
end
section
variable{c:Cx}{s:St}{p:Pl}
noncomputable def Ynb(tb:Nat->Option TI)(n:Nat)(s:St): Option (Pl×Oper×TypeId×Operand×Operand×TI×Nat×Nat×List D×Nat×Nat×AV):=match nxO tb n s with
 | some (p,o)=>match o.op,p.dr,o.dst with
  | .store T x y,false,none=>match Xcw (look p.E) x,Xcw (look p.E) y,tb T with
   | some (.el q sz j off),some v,some ti=>match look p.H q with
    | some (.arr sz' xs)=>match Nat.beq sz sz' with
     | true=>some (p,o,T,x,y,ti,q,sz,xs,j,off,v)
     | false=>none
    | _=>none
   | _,_,_=>none
  | _,_,_=>none
 | none=>none
theorem StF{o:Oper}{T:TypeId}{x y:Operand}{ti:TI}{q sz j off:Nat}{xs:List D}{v a':AV}{x1:D}(zs:List D)(u:D)(h:Ynb c.tb c.n s=some (p,o,T,x,y,ti,q,sz,xs,j,off,v))(hu:xs[j]?=some u)(hz:xs.set j x1=zs)(k:p.nx' c (.ub True) [(q,.arr sz zs)])
 (ha:Xrp v (.d u) off=some a':=by exact rfl) (hd:toD u a'=some x1:=by exact rfl) (hs:(plain v&&Nat.beq v.size ti.z.size&&Nat.beq u.size sz&&Nat.beq x1.size sz)=true:=by exact rfl):StP c s:=by
 subst hz
 unfold Ynb at h
 split at h<;>try cases h
 rename_i p' o' ho
 split at h<;>try cases h
 rename_i T1 x' y' hop hdr hdst
 split at h<;>try cases h
 rename_i q' sz1 j' off' v' ti' hx hy hti
 split at h<;>try cases h
 rename_i sz2 xs' hg
 split at h<;>cases h
 rename_i hb
 have hb:=W0d hb
 subst hb
 simp only[W0f] at hs
 obtain⟨⟨⟨hpl,hs1⟩,hs2⟩,hs3⟩:=hs
 have hs1:=W0d hs1
 have hs2:=W0d hs2
 have hs3:=W0d hs3
 refine Xr4 ho (by unfold Xao;rw[hop];rfl) hdr (λN W θ ρ _ hO hN hB hv=>?_) k
 obtain⟨hk,hp⟩:=c.hT _ _ hti
 have hg:(sem p.E p.H).2 q=some (.arr sz xs):=hg
 obtain⟨b,h1,e⟩:=Yki (hv _ _ hx)
 obtain⟨b',cs,T',r1,r2,r3,r4,r5,r6,r7⟩:=hO.r _ _ hg
 rw[h1] at r1;injection r1 with r1;subst r1
 obtain⟨hvC,_⟩:=Xgn hpl (hv _ _ hy) (Xfx hpl)
 have hvl:=AV.c_len v hvC
 obtain⟨e1,d1,d2,d3⟩:=r6 j u hu
 have d1':AV.C W θ (.d u) e1:=d1
 obtain⟨u0,m,w,f1,f2,f3,f4,f5⟩:=Yaj hvC ha d1'
 have hel:=D.at_len u d1
 have hj:j<xs.length:=(W0z.1 hu).1
 have hlen:off+v.size<=sz:=by
  have:=congrArg List.length f1
  simp only[W0e] at this
  omega
 have hjc:j*sz+sz<=cs.length:=by
  rw[r3,<-W2w];exact W1a _ (by omega)
 have hrun:=Xty (P:=c.P) (ty:=o.type) (pos:=o.pos) (aft:=o.after) (gd:=o.guard) hk e r2 (by rw[hvl,hs1]) (by omega) (AV.c_one v hvC)
 have hle:=Xib W b cs (spl cs (j*sz+off) (ρ y).cells.toList) T' (λ_=>True) r2 (λi v hA=>absurd (r7 i) hA)
 have hsp:∀t,(spl cs (j*sz+off) (ρ y).cells.toList)[t]?=if j*sz+off<=t/\t<j*sz+off+v.size then (ρ y).cells.toList[t-(j*sz+off)]? else cs[t]?:=λt=>by
  rw[Xgl _ _ _ _ (by rw[hvl];omega),hvl]
 have hspe:spl e1 off (ρ y).cells.toList=u0++((ρ y).cells.toList++w):=by rw[f1,<-f2];exact Xpu _ _ _ _ (by rw[hvl,f3])
 have hse:∀t,(u0++((ρ y).cells.toList++w))[t]?=if off<=t/\t<off+v.size then (ρ y).cells.toList[t-off]? else e1[t]?:=λt=>by
  rw[<-hspe,Xgl _ _ _ _ (by rw[hvl,hel];omega),hvl]
 have ho':o=⟨none,.store T x y,o.type,o.pos,o.after,o.guard⟩:=by
  obtain⟨d,op,ty,ps,af,gu⟩:=o
  cases hop;cases hdst;rfl
 rw[ho']
 refine⟨_,θ,_,hrun,Stp.put hO (t:=q) (x:=.arr sz (xs.set j x1)) hg rfl h1 r2 (λi v hA=>absurd (r7 i) hA) (λ_ _ _=>rfl) (λ_ _=>rfl) h1 (λi z hz=>?_) (λi z hz=>?_)
  ⟨b,_,T',h1,Xa8 _ _ _ (Xa5 r2),by rw[Xen];exact r3,r4,by simpa using r5,λi x hx=>?_,λi=>⟨r7 i,λ_=>trivial⟩⟩ (λi hi=>hi.elim),.inl ⟨rfl,rfl⟩,λi hi=>hi.elim⟩
 . rcases Xae hz with ⟨f1,f2⟩ | ⟨f1,f2⟩
   . exact .inl ⟨f1,f2⟩
   . exact .inr (.inr ⟨f2,f1⟩)
 . by_cases hio:i=q
   . subst hio;exact⟨_,Xai _ _ _⟩
   . exact⟨z,by rw[show Xbg (sem p.E p.H).2 [(q,Ob.arr sz (xs.set j x1))]=upd (sem p.E p.H).2 q (.arr sz (xs.set j x1)) from rfl,Xak hio];exact hz⟩
 . by_cases hij:i=j
   . subst hij
     rw[W2t hj] at hx
     injection hx with hx;subst hx
     refine⟨_,D.mono hle _ (Xl4 hd f4),hs3,λt c hq=>?_⟩
     rw[hse] at hq
     rw[hsp]
     split at hq
     . rename_i hc
       rw[if_pos (by omega),show i*sz+t-(i*sz+off)=t-off by omega]
       exact hq
     . rename_i hc
       rw[if_neg (by omega)]
       exact d3 t c hq
   . rw[W1u (λh=>hij h.symm)] at hx
     obtain⟨g1,g2,g3,g4⟩:=r6 i x hx
     refine⟨g1,D.mono hle _ g2,g3,λt c hq=>?_⟩
     have hql:t<sz:=by
      rw[<-g3,<-D.at_len x g2]
      by_cases h:t<g1.length
      . exact h
      . rw[W2b (by omega)] at hq;cases hq
     rw[hsp,if_neg ?_]
     . exact g4 t c hq
     . rcases W6w hij with h | h
       . have:i*sz+sz<=j*sz:=by rw[<-W2w];exact W1a _ (by omega)
         omega
       . have:j*sz+sz<=i*sz:=by rw[<-W2w];exact W1a _ (by omega)
         omega
theorem Yko{d sz:Nat}{xs ys:List D}(zs:List D)(h:Yff c.tb c.n s=some (p,d,sz,ys,.lit sz xs))(hz:xs++ys=zs)(h0:0<ys.length)(hr:zs.length<=137438953472)(k:p.nx' c (.own d sz 0 zs.length) [(d,.arr sz zs)]): StP c s:=by
 subst hz
 exact Xk5 h (λti he=>by simp[Xj9,h0,Xd7 (by simpa using hr) he]) k
theorem Ykn{d sz o n:Nat}{xs ys:List D}(zs:List D)(h:Yff c.tb c.n s=some (p,d,sz,ys,.own o sz 0 n))(ht:look p.H o=some (.arr sz xs))(hn:n=xs.length)(hz:xs++ys=zs)(hr:zs.length<=137438953472)(k:p.nx' c (.own d sz 0 zs.length) [(d,.arr sz zs),(o,.dead)]): StP c s:=by
 subst hz
 exact Xk5 h (λti he=>by subst hn;simp[Xj9,ht,Xd7 (by simpa using hr) he])  k
end
end Go.Vm
namespace Go.Proofs.YtgpipgjbkggjpaaGreatDoor.P11
open Go Go.Vm Go.Num Go.Tow Go.Proofs.YtgpipgjbkggjpaaGreatDoor Go.Proofs.YtgpipgjbkggjpaaGreatDoor.P9 Go.Proofs.YtgpipgjbkggjpaaGreatDoor.R11
section
end
section
end
end Go.Proofs.YtgpipgjbkggjpaaGreatDoor.P11
namespace Go.Proofs.YtgpipgjbkggjpaaGreatDoor.R3
open Go Go.Vm Go.Num Go.Tow Go.Proofs.YtgpipgjbkggjpaaGreatDoor
section
variable{x:Rat}{s b:Nat}
end
section
variable{p q:Rat×Rat}{s t b:Nat}
end
end Go.Proofs.YtgpipgjbkggjpaaGreatDoor.R3
namespace Go.Proofs.YtgpipgjbkggjpaaGreatDoor.R7
open Go Go.Vm Go.Num Go.Tow Go.Proofs.YtgpipgjbkggjpaaGreatDoor
end Go.Proofs.YtgpipgjbkggjpaaGreatDoor.R7
namespace Go.Vm
open Go
section
variable{c:Cx}{s:St}
end
end Go.Vm
namespace Go.Proofs.YtgpipgjbkggjpaaGreatDoor.R11
open Go Go.Vm Go.Num Go.Tow Go.Proofs.YtgpipgjbkggjpaaGreatDoor Go.Proofs.YtgpipgjbkggjpaaGreatDoor.P11
end Go.Proofs.YtgpipgjbkggjpaaGreatDoor.R11
namespace Go.Proofs.YtgpipgjbkggjpaaGreatDoor.P11
open Go Go.Vm Go.Num Go.Tow Go.Proofs.YtgpipgjbkggjpaaGreatDoor Go.Proofs.YtgpipgjbkggjpaaGreatDoor.P9 Go.Proofs.YtgpipgjbkggjpaaGreatDoor.R11 Go.Proofs.YtgpipgjbkggjpaaGreatDoor.R9
section
theorem Pk_rat{q:Rat}{n:Nat}(hq:Qs n q)(hn:n<=1700): Pk ⟨0,(),q⟩ :=
 ⟨W0y _,trivial,trivial,trivial,.inr ⟨rfl,λx hx=>by obtain rfl:=W0g.1 hx;exact hq.mono hn⟩⟩
abbrev two: Nm:=⟨0,(),(2:Rat)⟩
end
section
section
variable{k:Nat}{t:Tw k}{a:El k}
end
theorem txt_at{d:Nat}(l:List UInt8)(hl:l.length=d+1)(hd:∀b∈l,Xvi b): txt (Xxr l:Nat) d=pt d l:=by
 unfold txt
 rw[if_neg (by omega),W1f,Yel d l hl hd];rfl
theorem rnd_at{q:Rat}{d:Nat}{z:Int}(h1:0<=Xi9 (q*((10^d:Int):Rat)+hf+-(z:Rat)))(h2:Xi9 (q*((10^d:Int):Rat)+hf+-((z+1:Int):Rat))=-1): RndOf ⟨0,(),q⟩ d z:=⟨h1,h2⟩
end
end Go.Proofs.YtgpipgjbkggjpaaGreatDoor.P11
namespace Go.Vm
variable{c:Cx}{s:St}{p:Pl}
theorem Ymv{d sz:Nat}{xs ys:List D}(h:Yff c.tb c.n s=some (p,d,sz,ys,.lit sz xs))(h0:ys.length=0)(hr:xs.length<=137438953472)(k:p.nx' c (.lit sz xs) []): StP c s :=
 Xk5 h (λti he=>by simp[Xj9,h0,Xd7 (by simpa using hr) he]) k
theorem Yot{d sz:Nat}{ys:List D}(zs:List D)(h:Yff c.tb c.n s=some (p,d,sz,ys,.nil))(hz:ys=zs)(hr:zs.length<=137438953472)(k:p.nx' c (.gr d sz zs) [(d,.tok zs.length sz)]): StP c s:=by
 subst hz
 exact Xk5 h (λti he=>by simp[Xj9,Xd7 hr he]) k
theorem liS{K:List Kt}{E:Env}{H:Hpl}(t sz:Nat)(hv:look E t=some (.lit sz []))(k:J c K (sem ((t,.nil)::E) H)): J c K (sem E H):=by
 rintro a w ⟨s0,W,θ,hw,hs,hθ,rfl⟩
 refine k a w ⟨_,W,θ,hw,?_,hθ,rfl⟩
 rw[show sem ((t,AV.nil)::E) H=(upd (look E) t .nil,look H) by rw[Xa3]]
 refine⟨hs.fm,⟨hs.rel.defers,hs.rel.size,λq v hq=>?_⟩,hs.obs,λq v i hq hi=>?_⟩
 . rcases Xae hq with ⟨e1,e2⟩ | ⟨e1,e2⟩
   . subst e1;subst e2
     obtain⟨p,e,_⟩:=Xo2 (hs.rel.has q _ hv)
     rw[e]
     exact⟨_,⟨_,rfl⟩,rfl⟩
   . exact hs.rel.has q v e2
 . rcases Xae hq with ⟨e1,e2⟩ | ⟨e1,e2⟩
   . subst e2;exact hi.elim
   . exact hs.ids q v i e2 hi
theorem Li{K:List Kt}{E:Env}{H:Hpl}(t sz:Nat)(h:nxJ c.tb c.n s=some (K,E,H))(k:StP c (.j [] K ((t,.nil)::E) H))(hv:look E t=some (.lit sz []):=by exact rfl): StP c s:=by
 unfold nxJ at h
 split at h<;>cases h
 rename_i hr
 exact go 1000 hr (liS t sz hv k)
end Go.Vm
namespace Go.Proofs.YtgpipgjbkggjpaaGreatDoor.P20
open Go Go.Vm Go.Num Go.Tow Go.Proofs.YtgpipgjbkggjpaaGreatDoor
open Go.Proofs.YtgpipgjbkggjpaaGreatDoor.P55 (v0 W0 g0 gv0 zw Xlh Qp)
section
variable{K:Nat}{G:Tw K}{S:List (Tow.El K)}{N:List Nm}{n m k:Nat}{x y z c c':Nm}{a b e:Tow.El K}{u v s:Vn}{p q:V2 K}{f g:Int}
theorem Xl1(G:Tw K): Xdn (Xdn p)=p:=W3d rfl ((Xaw K G).nn _)
theorem Xsx: Xbw G (Xdn p) q=(Xi6 G p q,Xau G p q):=W3d (by rw[<-Yah,Xl1 G]) (by rw[<-Yag,Xl1 G])
theorem Yb5(W:Wn G S N)(hu:Gv G S N n u p)(hs:Gv G S N m s q)(h2:n+m<=190): C0 20 [.d (dV u),.d (dV s)] (P19.OfG G S N (n+m+(n+m)) p q):=by
 refine En Tryz.func20 λ_ _ _=>?_
 refine Ce rfl (R13.Zero_g W hu (by omega)) ?_
 refine By rfl (λh=>?_) λh=>?_
 . exact Rt rfl (.tup (.cons Xsb Xa6)) (.inr ⟨.inl h,rfl⟩)
 . refine Ce rfl (R13.Zero_g W hs (by omega)) ?_
   refine By rfl (λh1=>?_) λh1=>?_
   . exact Rt rfl (.tup (.cons Xsb Xa6)) (.inr ⟨.inr h1,rfl⟩)
   refine Dw rfl ?_
   refine Cn [(1000001,15)] rfl (R15.Dot_g W hu hs (by omega) (by omega) h2) λv hv=>?_
   obtain⟨d,rfl,hd⟩:=hv
   refine Cn [(1000001,15)] rfl (R15.Cross_g W hu hs (by omega) (by omega) h2) λv hv=>?_
   obtain⟨c,rfl,hc⟩:=hv
   refine Cn [(1000001,15)] rfl (R19.result_g (u:=⟨d,c⟩) (p:=(Xi6 G p q,Xau G p q)) (f:=0) ⟨hd,hc⟩) λv hv=>?_
   rcases hv with ⟨_,w,rfl,hw⟩ | ⟨h3,_⟩
   . exact Rt rfl (.tup (.cons (.rf rfl) Xa6)) (.inl ⟨λe=>e.elim h h1,w,rfl,by rw[Xsx];exact hw⟩)
   . exact absurd (by decide) h3
theorem Xw2{h:Sn}: CA0 53 [.d (dSs [h])] 7 [dSe h]:=by
 refine EnW Tryz.func53 λ_ _ _ _=>?_
 refine Ub rfl (λh=>?_) ?_
 . exact absurd (show [dSe _]=[] from h) nofun
 refine Yko [dSe h] rfl rfl (W7h _) (W1e rfl) ?_
 exact Rw [(7,1000000)] [(1000000,.arr 7 [dSe h])] rfl (.one (.rf rfl) rfl rfl) ⟨_,rfl,rfl,rfl⟩
theorem Xw3: C0 53 [.d (dSs [])] (·=.nil):=by
 refine En Tryz.func53 λ_ _ _=>?_
 refine Ub rfl (λh=>?_) ?_
 . exact R0
 . refine Ymv rfl rfl (by decide) ?_
   refine Li 2 7 rfl ?_
   exact R0
theorem Xy1{h:Sn}: CG0 94 [.nil,.d (.int .i64 0),.lit 7 [dSe h]] 7 [dSe h]:=by
 refine EnW Tryz.func94 λ_ _ _ _=>?_
 refine Xjo (a:=.nil) (r:=.nil) rfl rfl ?_
 refine No rfl (show ¬((1:Nat):Int)=0 by decide) ?_
 refine Yes rfl (by decide) ?_
 refine Yot [dSe h] rfl rfl (W1e rfl) ?_
 exact Rw [(25,1000000)] [(1000000,.tok 1 7)] rfl (.one (.rf rfl) rfl rfl) ⟨_,rfl,rfl,rfl⟩
theorem Ylc{h:Sn}: CO0 54 [.nil,.d (dSe h)] (λv ob=>v=.tup (.pr (.gr 1000000 7 [dSe h]) (.d (.int .i64 0)))/\ob=.tok 1 7):=by
 refine EnW Tryz.func54 λ_ _ _ _=>?_
 refine Lo (λ_:Unit=>[(0,.nil),(3,.ptr 3 0),(6,.d (.int .i64 0))]) (λ_=>[(3,.var (.d (dSe h)))]) (λ_=>True) (λ_=>0) () [] rfl trivial (λ_ _=>?_)
 refine Dw rfl ?_
 refine No rfl (by decide) ?_
 refine Dw rfl ?_
 refine Yes rfl (by decide) ?_
 refine CoN rfl (Xy1 (h:=h)) (λv ob hv=>?_)
 obtain⟨rfl,rfl⟩:=hv
 exact Rw [(44,1000000)] [(1000000,.tok 1 7)] rfl (.tup (.cons (.rf rfl) Xa6)) ⟨_,rfl,rfl,rfl⟩
theorem Yld(W:Wn G S N)(hc:Gd G S N n c a)(hc':Gd G S N n c' a)(hn:n<=95)(hu:Gv G S N m u p)(hv:Gv G S N m v q)(h2:m+m+(m+m)+m<=190)(hf:few f)(hg:few g)(hl:lim (Xge G p q f g))(h0:¬(Xge G p q f g=0/\Xci G (Xbw G p q))):
 CW0 54 [.own 1000001 7 0 1,.d (dSe ⟨c',v,g⟩)] [(1000001,.arr 7 [dSe ⟨c,u,f⟩])] (λr H'=>∃w,r=.tup (.pr (.own 1000001 7 0 1) (.d (.int .i64 0)))/\H'=[(1000001,.arr 7 [dSe ⟨c,w,Xge G p q f g⟩])]/\Gv G S N (m+m+(m+m)) w (Xbw G p q)):=by
 have h00:sgn K G (Tow.add K a (Tow.neg K a))=0:=by rw[(Xaw K G).an];exact(Xbf W.w.g).2 rfl
 refine EnW Tryz.func54 λ_ _ _ _=>?_
 refine Lo (λ_:Unit=>[(0,.own 1000001 7 0 1),(3,.ptr 3 0),(6,.d (.int .i64 0))]) (λ_=>[(1000001,.arr 7 [dSe ⟨c,u,f⟩]),(3,.var (.d (dSe ⟨c',v,g⟩)))]) (λ_=>True) (λ_=>0) () [] rfl trivial (λ_ _=>?_)
 refine Dw rfl ?_
 refine Yes rfl (by decide) ?_
 refine Eo 0 rfl (by decide) ?_
 refine Ld (dSe ⟨c,u,f⟩) rfl rfl ?_
 refine Ce rfl (Yhq W hc hc' (by omega) (by omega)) ?_
 refine No rfl (by rw[h00];decide) ?_
 refine Dw rfl ?_
 refine No rfl (by decide) ?_
 refine Eo 0 rfl (by decide) ?_
 refine Ld (dSe ⟨c,u,f⟩) rfl rfl ?_
 refine Ce rfl (P9.Equal_g W hc hc' (by omega) (by omega)) ?_
 refine No rfl (λh=>h rfl) ?_
 refine Dw rfl ?_
 refine Eo 0 rfl (by decide) ?_
 refine Ld (dSe ⟨c,u,f⟩) rfl rfl ?_
 refine Ca rfl (P19.Add_g W hu hv h2 hf hg) λr hr=>?_
 rcases hr with ⟨_,w,rfl,hw⟩ | ⟨h,_⟩
 . refine No rfl (by decide) ?_
   refine Ce rfl (P19.Zero_g W hw (by omega)) ?_
   refine No rfl h0 ?_
   refine Eo 0 rfl (by decide) ?_
   refine StF [dSe ⟨c,w,Xge G p q f g⟩] (dSe ⟨c,u,f⟩) rfl rfl rfl ?_
   exact Rw [] [(1000001,.arr 7 [dSe ⟨c,w,Xge G p q f g⟩])] rfl (.tup (.cons (.rf rfl) Xa6)) ⟨w,rfl,rfl,hw⟩
 . exact absurd hl h
theorem Yjw(W:Wn G S N)(hx:Gd G S N n x a)(hy:Gd G S N m y b)(hn:n<=190)(hm:m<=190): C0 22 [.d (dAr x []),.d (dAr y [])] (λr=>∃z,r=.tup (.pr (.d (dAr z [])) (.d (.int .i64 0)))/\Gd G S N (n+m) z (Tow.add K a b)):=by
 refine En Tryz.func22 λ_ _ _=>?_
 refine Ca rfl (P9.Add_g W hx hy hn hm) λv hv=>?_
 obtain⟨z,rfl,hz⟩:=hv
 refine No rfl (by decide) ?_
 refine Dw rfl ?_
 refine Ce rfl Xw3 ?_
 refine Lo (λ_:Unit=>[(4,.ptr 4 0),(8,.ptr 8 0),(30,.d (.int .i64 0)),(31,.d (.int .i64 0))]) (λ_=>[(4,.var zA),(8,.var (.st (.pr (.d (dN z)) .nil)))]) (λ_=>True) (λ_=>0) () [] rfl trivial (λ_ _=>?_)
 refine No rfl (by decide) ?_
 exact Rt rfl (.tup (.cons (.sd (.pd (.rf rfl) (.nil rfl))) Xa6)) ⟨z,rfl,hz⟩
theorem Yju(W:Wn G S N)(hx:Gd G S N n x a)(hy:Gd G S N m y b)(hn:n<=190)(hm:m<=190){h:Sn}: C0 22 [.d (dAr x [h]),.d (dAr y [])] (λr=>∃z,r=.tup (.pr (.d (dAr z [h])) (.d (.int .i64 0)))/\Gd G S N (n+m) z (Tow.add K a b)):=by
 refine En Tryz.func22 λ_ _ _=>?_
 refine Ca rfl (P9.Add_g W hx hy hn hm) λv hv=>?_
 obtain⟨z,rfl,hz⟩:=hv
 refine No rfl (by decide) ?_
 refine Dw rfl ?_
 refine Cr rfl Xw2 ?_
 refine Lo (λ_:Unit=>[(4,.ptr 4 0),(8,.ptr 8 0),(30,.d (.int .i64 0)),(31,.d (.int .i64 0))]) (λ_=>[(26,.arr 7 [dSe h]),(4,.var zA),(8,.var (.st (.pr (.d (dN z)) (.own 26 7 0 1))))]) (λ_=>True) (λ_=>0) () [] rfl trivial (λ_ _=>?_)
 refine No rfl (by decide) ?_
 exact Rt rfl (.tup (.cons (.sd (.pd (.rf rfl) (.own rfl (W0a 1) rfl))) Xa6)) ⟨z,rfl,hz⟩
theorem Yjv(W:Wn G S N)(hx:Gd G S N n x a)(hy:Gd G S N m y b)(hn:n<=190)(hm:m<=190){h:Sn}: C0 22 [.d (dAr x []),.d (dAr y [h])] (λr=>∃z,r=.tup (.pr (.d (dAr z [h])) (.d (.int .i64 0)))/\Gd G S N (n+m) z (Tow.add K a b)):=by
 refine En Tryz.func22 λ_ _ _=>?_
 refine Ca rfl (P9.Add_g W hx hy hn hm) λv hv=>?_
 obtain⟨z,rfl,hz⟩:=hv
 refine No rfl (by decide) ?_
 refine Dw rfl ?_
 refine Ce rfl Xw3 ?_
 refine Lo (λk:Nat=>[(4,.ptr 4 0),(8,.ptr 8 0),(29,.d (dSs [h])),(30,.d (.int .i64 1)),(31,.d (.int .i64 k))]) (λk=>if k=0 then [(4,.var zA),(8,.var (.st (.pr (.d (dN z)) .nil)))] else [(39,.tok 1 7),(4,.var zA),(8,.var (.st (.pr (.d (dN z)) (.gr 39 7 [dSe h]))))]) (λk=>k<=1) (λk=>1-k) 0 [] rfl (W0y _) λk hk=>?_
 rcases(show k=0\/k=1 by omega) with rfl | rfl
 . refine Yes rfl (by decide) ?_
   refine Ix 0 rfl (u:=dSe h) rfl ?_
   refine CoN rfl (Ylc (h:=h)) (λv ob hv=>?_)
   obtain⟨rfl,rfl⟩:=hv
   show Pl.nx' _ _ (.tup (.pr (.gr 39 7 [dSe h]) (.d (.int .i64 0)))) [(39,.tok 1 7)]
   refine No rfl (by decide) ?_
   refine Ar (0+1:Nat) rfl ?_
   exact Bk (0+1) [] rfl (by decide) (by decide)
 . refine No rfl (by decide) ?_
   exact Rt rfl (.tup (.cons (.sd (.pd (.rf rfl) (.gr rfl))) Xa6)) ⟨z,rfl,hz⟩
theorem Yb7{i:Nat}(W:Wn G S N)(hx:Gd G S N n x a)(hy:Gd G S N m y b)(hn:n<=190)(hm:m<=190)(hc:Gd G S N k c e)(hc':Gd G S N k c' e)(hu:Gv G S N i u p)(hv:Gv G S N i v q)(hk:k<=95)(h2:i+i+(i+i)+i<=190)(hf:few f)(hg:few g)(hl:lim (Xge G p q f g))(h0:¬(Xge G p q f g=0/\Xci G (Xbw G p q))):
 C0 22 [.d (dAr x [⟨c,u,f⟩]),.d (dAr y [⟨c',v,g⟩])] (λt=>∃z w,t=.tup (.pr (.d (dAr z [⟨c,w,Xge G p q f g⟩])) (.d (.int .i64 0)))/\Gd G S N (n+m) z (Tow.add K a b)/\Gv G S N (i+i+(i+i)) w (Xbw G p q)):=by
 refine En Tryz.func22 λ_ _ _=>?_
 refine Ca rfl (P9.Add_g W hx hy hn hm) λv hv=>?_
 obtain⟨z,rfl,hz⟩:=hv
 refine No rfl (by decide) ?_
 refine Dw rfl ?_
 refine Cr rfl Xw2 ?_
 refine Lo (λk:Nat×Vn=>[(4,.ptr 4 0),(8,.ptr 8 0),(29,.d (dSs [⟨c',v,g⟩])),(30,.d (.int .i64 1)),(31,.d (.int .i64 k.1))]) (λk=>[(26,.arr 7 [dSe (if k.1=0 then ⟨c,u,f⟩ else ⟨c,k.2,Xge G p q f g⟩)]),(4,.var zA),(8,.var (.st (.pr (.d (dN z)) (.own 26 7 0 1))))]) (λk=>k.1<=1/\(k.1=1->Gv G S N (i+i+(i+i)) k.2 (Xbw G p q))) (λk=>1-k.1) (0,u) [] rfl ⟨W0y _,λh=>by cases h⟩ λ⟨k,w⟩ ⟨hk',hw⟩=>?_
 rcases(show k=0\/k=1 by have:k<=1:=hk';omega) with rfl | rfl
 . refine Yes rfl (show ((0:Nat):Int)<1 by decide) ?_
   refine Ix 0 rfl (u:=dSe ⟨c',v,g⟩) rfl ?_
   refine Cw [(1000001,26)] rfl (Yld W hc hc' hk hu hv h2 hf hg hl h0) (λr H' _ hr=>?_)
   obtain⟨w',rfl,rfl,hw'⟩:=hr
   show Pl.nx' _ _ (.tup (.pr (.own 26 7 0 1) (.d (.int .i64 0)))) [(26,.arr 7 [dSe ⟨c,w',Xge G p q f g⟩])]
   refine No rfl (by decide) ?_
   refine Ar (0+1:Nat) rfl ?_
   exact Bk (0+1,w') [] rfl ⟨W0a 1,λ_=>hw'⟩ (show 1-(0+1)<1-0 from W6r)
 . refine No rfl (show ¬((1:Nat):Int)<1 by decide) ?_
   exact Rt rfl (.tup (.cons (.sd (.pd (.rf rfl) (.own rfl (W0a 1) rfl))) Xa6)) ⟨z,w,rfl,hz,hw rfl⟩
end
open Go Go.Vm Go.Num Go.Tow Go.Proofs.YtgpipgjbkggjpaaGreatDoor
section
open Go.Proofs.YtgpipgjbkggjpaaGreatDoor.P55 (v0 W0 g0 gv0 zw Xlh Qp)
abbrev s0: Sn:=⟨nr 2,v0 (0,1),0⟩
def eV: Rat×Rat:=Xhb (pt 0) (Xbv (pt 2) rV)
theorem Yit: Q2 1000 eV:=by
 have h:=Xnm fct.2.2.2.2.1
 exact(Xlv (s:=64) (s':=314) (p:=pt 0) (by decide +kernel) (Xcb (s:=64) (p:=pt 2) (by decide +kernel) h)).mono (by decide)
theorem Xxe: C0 104 [.d (dAr n00 [s0]),.d (.int .i64 138)] (·=.tup (.pr (.d (dI eV)) (.d (.int .i64 0)))):=by
 have h5:=Xnm fct.2.2.2.2.1
 refine En Tryz.func104 λ_ _ _=>?_
 refine Ce rfl (Xfl (x:=((0:Int):Rat)) (bits:=138) (by decide +kernel) (by decide)) ?_
 refine Lo (λk:Nat=>[(1,.d (.int .i64 138)),(4,.ptr 4 0),(6,.ptr 6 0),(20,.d (dSs [s0])),(21,.d (.int .i64 1)),(22,.d (.int .i64 k))]) (λk=>[(4,.var zI),(6,.var (.d (dI (if k=0 then pt ((0:Int):Rat) else eV))))]) (λk=>k<=1) (λk=>1-k) 0 [] rfl (W0y _) λk hk=>?_
 refine By rfl (λh=>?_) λh=>?_
 . have h:(k:Int)<1:=h
   obtain rfl:k=0:=by omega
   refine Ix 0 rfl (u:=dSe s0) rfl ?_
   refine Ce rfl Xsn ?_
   refine No rfl (by decide) ?_
   refine Dw rfl ?_
   refine Ce rfl (Xfl (x:=2) (bits:=138) (by decide +kernel) (by decide)) ?_
   refine Ce rfl (Xfc (s:=64) (p:=pt 2) (q:=rV) (by decide +kernel) h5 (by decide)) ?_
   refine Ce rfl (Xfd (s:=64) (p:=pt ((0:Int):Rat)) (by decide +kernel) (Xcb (s:=64) (p:=pt 2) (by decide +kernel) h5) (by decide)) ?_
   refine Ar (0+1:Nat) rfl ?_
   exact Bk (0+1) [] rfl (by decide) (by decide)
 . have h:¬(k:Int)<1:=h
   obtain rfl:k=1:=by omega
   exact R0t
theorem Yh8: ∀i,i<=130->Qs 200 (hp i):=λi hi=>Yh7 i (by omega)
theorem Yl5: eV.2-eV.1<=hp 130:=by decide +kernel
theorem Xgx: C0 60 [.d (dAr n00 [s0]),.d (.int .i64 130)] (·=.tup (.pr (.d (dI eV)) (.d (.int .i64 0)))):=by
 have hq:=Yit
 refine En Tryz.func60 λ_ _ _=>?_
 refine No rfl (by decide) ?_
 refine No rfl (by decide) ?_
 refine Ce rfl (Xat (z:=1) (by decide)) ?_
 refine Lo (λi:Nat=>[(1,.d (.int .i64 130)),(2,.ptr 2 0),(4,.ptr 4 0),(6,.ptr 6 0),(18,.d (.int .i64 130)),(19,.d (.int .i64 i))]) (λi=>[(2,.var (.d (dAr n00 [s0]))),(4,.var zI),(6,.var (.d (dq (hp i))))]) (λi=>i<=130) (λi=>130-i) 0 [] rfl (W0y _) (λi hi=>?_)
 refine By rfl (λh=>?_) λh=>?_
 . refine Dw rfl ?_
   refine Ce rfl (Xcg (a:=1) (b:=2) (by decide) (by decide)) ?_
   refine Ce rfl (Xea (Yh8 i hi) (Qs.divInt (p:=64) (by decide) (by decide) (by decide)) (by decide)) ?_
   refine Ar (i+1:Nat) rfl ?_
   exact Bk (i+1) [] rfl (show i+1<=130 by omega) (by show 130-(i+1)<130-i;omega)
 . obtain rfl:i=130:=by omega
   refine Ar (138:Nat) rfl ?_ (wr rfl (by simp only[inK];omega))
   refine Mm (138:Nat) rfl ?_ rfl
   refine Lo (λ_:Unit=>[(2,.ptr 2 0),(4,.ptr 4 0),(6,.ptr 6 0),(7,.d (.int .i64 138))]) (λ_=>[(2,.var (.d (dAr n00 [s0]))),(4,.var zI),(6,.var (.d (dq (hp 130))))]) (λ_=>True) (λ_=>0) () [] rfl trivial (λ_ _=>?_)
   refine Ce rfl Xxe ?_
   refine No rfl (by decide) ?_
   refine Dw rfl ?_
   refine Ce rfl (Xf4 (p:=eV) hq (by decide)) ?_
   have qw:Qs 2001 (eV.2-eV.1):=by rw[W5y];exact hq.2.add hq.1.neg
   refine Ce rfl (Xbu qw (Yh8 130 (by decide)) (by decide)) ?_
   refine Yes rfl (by rw[Xlq];exact Rat.not_lt.2 Yl5) ?_
   exact R0t
def mV: Rat:=(eV.1+eV.2)*hf2
theorem Yho: Qs 1700 mV:=by decide +kernel
theorem Yhn: P11.RndOf (nr mV) 5 314159:=P11.rnd_at (by decide +kernel) (by decide +kernel)
theorem Yg3: txt 314159 5=[51,46,49,52,49,53,57]:=P11.txt_at [51,49,52,49,53,57] rfl (Ynv.1 rfl)
theorem Xi2: C0 26 [.d (dAr n00 [s0]),.d (.int .i64 5)] (·=.tup (.pr (.d (.str [51,46,49,52,49,53,57])) (.d (.int .i64 0)))):=by
 have hq:=Yit
 have hH:=P11.Pk_rat Yho (by decide)
 have hf:C0 59 [.d (dN (nr mV)),.d (.int .i64 5)] (·=.tup (.pr (.d (.str [51,46,49,52,49,53,57])) (.d (.int .i64 0)))):=(P11.dFmt_ok hH (by decide)).mono λv ⟨w,hw,_,hv⟩=>by
  obtain rfl:=Xdb.uniq hH.re hw Yhn
  rw[hv,P11.fmtV,Yg3,if_pos (by decide)]
 refine En Tryz.func26 λ_ _ _=>?_
 refine No rfl (by decide) ?_
 refine No rfl (by decide) ?_
 refine No rfl (by decide) ?_
 refine Ce rfl Xgx ?_
 refine No rfl (by decide) ?_
 refine Ce rfl (Xdt hq.1 hq.2 (by decide)) ?_
 refine Ce rfl (Xcg (a:=1) (b:=2) (by decide) (by decide)) ?_
 refine Ce rfl (Xea (p:=2001) (q:=64) (hq.1.add hq.2) Xqz (by decide)) ?_
 refine Ce rfl (P9.FromRat_ok (q:=mV) Yho (by decide)) ?_
 refine Ce rfl hf ?_
 exact R0t
theorem Xi0{i j:Int}(hi:-9223372036854775808<=i/\i<9223372036854775808)(hj:-9223372036854775808<=j/\j<9223372036854775808): C0 25 [.d (.int .i64 i),.d (.int .i64 j)] (·=.d (dV (v0 ((i:Rat),(j:Rat))))):=R13.Whole_ok hi hj
theorem Of0: C0 20 [.d (dV (v0 (((1:Int):Rat),((0:Int):Rat)))),.d (dV (v0 (((0:Int):Rat),((1:Int):Rat))))] (·=.tup (.pr (.d (dT (v0 (0,1)) 0)) (.d (.int .i64 0)))):=(Yb5 W0 (gv0 (s:=64) (by decide +kernel)) (gv0 (s:=64) (by decide +kernel)) (by decide)).mono λr hr=>by
 rcases hr with ⟨_,v,rfl,hv⟩ | ⟨h,_⟩
 . exact(congrArg (λw=>AV.tup (.pr (.d (dT w 0)) (.d (.int .i64 0)))) (Xlh hv)).trans (congrArg (λq:Rat×Rat=>AV.tup (.pr (.d (dT (v0 q) 0)) (.d (.int .i64 0)))) (W3d (by decide +kernel) (by decide +kernel)))
 . rcases h with h | h
   . exact absurd (congrArg Prod.fst h) (show ¬((1:Int):Rat)=0 by decide +kernel)
   . exact absurd (congrArg Prod.snd h) (show ¬((1:Int):Rat)=0 by decide +kernel)
theorem fl0: ¬((0:Int)=0/\Xci (K:=0) () (((0:Rat),(1:Rat)):V2 0)):=λh=>absurd h.2.1 (show ¬Xi9 1=0 by decide +kernel)
theorem Ye8: C0 12 [.d (dN (nr ((4:Int):Rat))),.d (dT (v0 (0,1)) 0)] (·=.tup (.pr (.d (dAr n00 [s0])) (.d (.int .i64 0)))):=(Xbd W0 W0 (g0 (s:=64) (by decide +kernel)) (gv0 (s:=64) (by decide +kernel)) (by decide) (by decide)).mono λr hr=>by
 rcases hr with ⟨h,_⟩ | ⟨_,h,_⟩ | ⟨_,_,z,rfl,hz⟩
 . exact absurd (show Xi9 ((4:Int):Rat)>0 by decide +kernel) h
 . exact absurd h fl0
 . rw[zw hz.o,show Tow.mul 0 () ((4:Int):Rat) (Tow.rat 0 hf2)=(2:Rat) from(show ((4:Int):Rat)*hf2=2 by decide +kernel)]
def q0: List (Rat×Rat):=[(((0:Int):Rat),((0:Int):Rat)),(((3:Int):Rat),((0:Int):Rat)),(((3:Int):Rat),((2:Int):Rat)),(((0:Int):Rat),((2:Int):Rat))]
theorem Ylb: ∀p∈q0,Qp 64 p:=by decide +kernel
theorem Xz6: C0 17 [.d (dVs (q0.map v0))] (·=.tup (.pr (.d (dAr (nr 6) [])) (.d (.int .i64 0)))):=(Polygon_g (n:=1) (g:=λi=>q0.getD i (0,0)) W0 (λi v h=>by
 obtain⟨p,hp,rfl⟩:=W1o .. ▸ h |> Option.map_eq_some_iff.1
 rw[W2h,hp]
 exact gv0 (Ylb p (W0i hp))) (by decide) (by decide) (by decide)).mono λr ⟨z,e,hz⟩=>by
 rw[e,zw hz.o]
 exact congrArg (λx=>AV.tup (.pr (.d (dAr (nr x) [])) (.d (.int .i64 0)))) (show (show Rat from Tow.mul 0 () (pgn (K:=0) () (λi=>q0.getD i (0,0)) 4) (Tow.rat 0 hf2))=6 by decide +kernel)
abbrev s1: Sn:=⟨nr 2,v0 (-1,0),0⟩
theorem vm1: Xbw (K:=0) () (((0:Rat),(1:Rat)):V2 0) ((0:Rat),(1:Rat))=(((-1:Rat),(0:Rat)):V2 0):=W3d (by decide +kernel) (by decide +kernel)
theorem va1: Xge (K:=0) () (((0:Rat),(1:Rat)):V2 0) ((0:Rat),(1:Rat)) 0 0=0:=by decide +kernel
theorem Yov: C0 22 [.d (dAr n00 [s0]),.d (dAr n00 [s0])] (·=.tup (.pr (.d (dAr n00 [s1])) (.d (.int .i64 0)))):=by
 have h0:Gd (K:=0) () ([]:List (Tow.El 0)) [] 1 n00 ((0:Int):Rat):=g0 (s:=64) (by decide +kernel)
 have h2:Gd (K:=0) () ([]:List (Tow.El 0)) [] 1 (nr 2) (2:Rat):=g0 (s:=64) (by decide +kernel)
 have hv:=gv0 (s:=64) (p:=(0,1)) (by decide +kernel)
 refine(Yb7 W0 h0 h0 (by decide) (by decide) h2 h2 hv hv (by decide) (by decide) (f:=0) (g:=0) (lim.few (by decide)) (lim.few (by decide)) (Eq.mpr (congrArg lim va1) (by decide)) (λh=>absurd (show Xi9 (-1)>0 from(Eq.mp (congrArg (λp:V2 0=>Xci (K:=0) () p) vm1) h.2).2) (by decide +kernel))).mono λr ⟨z,w,e,hz,hw⟩=>?_
 have hw':=Eq.mp (congrArg (λp:V2 0=>Gv (K:=0) () ([]:List (Tow.El 0)) [] _ w p) vm1) hw
 obtain rfl:=Xlh hw'
 obtain rfl:=zw hz.o
 have F:∀ {q q':Rat} {f f':Int},q=q'->f=f'->AV.tup (.pr (.d (dAr (nr q) [⟨nr 2,v0 (-1,0),f⟩])) (.d (.int .i64 0)))=AV.tup (.pr (.d (dAr (nr q') [⟨nr 2,v0 (-1,0),f'⟩])) (.d (.int .i64 0))):=λh1 h2=>by rw[h1,h2]
 exact e.trans (F (show ((0:Int):Rat)+((0:Int):Rat)=((0:Int):Rat) by decide +kernel) va1)
theorem Ymp: C0 28 [.d (dT (v0 (-1,0)) 0),.d (dT (v0 (((-1:Int):Rat),((0:Int):Rat))) 0)] (·=.b true):=by
 have hv:=gv0 (s:=64) (p:=(-1,0)) (by decide +kernel)
 have hu:=gv0 (s:=64) (p:=(((-1:Int):Rat),((0:Int):Rat))) (by decide +kernel)
 refine(R19.Same_g W0 hv hu (by decide)).mono λr hr=>hr.trans (congrArg AV.b (Xaj.2 ?_))
 have hz:∀ {p:V2 0},p.1=(-1:Rat)->p≠vz 0:=λe h=>absurd (e.symm.trans (congrArg Prod.fst h)) (show ¬(-1:Rat)=0 by decide +kernel)
 exact⟨⟨hz rfl,by decide⟩,⟨hz (show ((-1:Int):Rat)=(-1:Rat) by decide +kernel),by decide⟩,by decide +kernel⟩
theorem Xrk: C0 6 [] (·=.b true):=by
 refine En Tryz.func6 λ_ _ _=>?_
 refine Ce rfl (Xi0 (i:=1) (j:=0) (by decide) (by decide)) ?_
 refine Ce rfl (Xi0 (i:=0) (j:=1) (by decide) (by decide)) ?_
 refine Ce rfl Of0 ?_
 refine Dw rfl ?_
 refine Ce rfl (R9.FromInt_ok (z:=4) (by decide)) ?_
 refine Ce rfl Ye8 ?_
 refine Ce rfl Yov ?_
 refine Ce rfl (Xi0 (i:=0) (j:=0) (by decide) (by decide)) ?_
 refine Ce rfl (Xi0 (i:=3) (j:=0) (by decide) (by decide)) ?_
 refine Ce rfl (Xi0 (i:=3) (j:=2) (by decide) (by decide)) ?_
 refine Ce rfl (Xi0 (i:=0) (j:=2) (by decide) (by decide)) ?_
 refine Ce rfl Xz6 ?_
 refine Ce rfl Xi2 ?_
 refine No rfl (by decide) ?_
 refine No rfl (by decide) ?_
 refine No rfl (by decide) ?_
 refine No rfl (by decide) ?_
 refine No rfl (by decide) ?_
 refine No rfl (by decide) ?_
 refine Dw rfl ?_
 refine Ce rfl (R9.FromInt_ok (z:=6) (by decide)) ?_
 refine Ce rfl ((R9.Equal_g W0 (g0 (s:=64) (q:=6) (by decide +kernel)) (g0 (s:=64) (q:=((6:Int):Rat)) (by decide +kernel)) (by decide) (by decide)).mono λr hr=>hr.trans (congrArg AV.b (Xaj.2 (show (6:Rat)=((6:Int):Rat) by decide +kernel)))) ?_
 refine Yes rfl rfl ?_
 refine Yes rfl (by decide) ?_
 refine Yes rfl (by decide) ?_
 refine Ix 0 rfl (u:=dSe s1) rfl ?_
 refine Ce rfl (R9.FromInt_ok (z:=2) (by decide)) ?_
 refine Ce rfl ((R9.Equal_g W0 (g0 (s:=64) (q:=2) (by decide +kernel)) (g0 (s:=64) (q:=((2:Int):Rat)) (by decide +kernel)) (by decide) (by decide)).mono λr hr=>hr.trans (congrArg AV.b (Xaj.2 (show (2:Rat)=((2:Int):Rat) by decide +kernel)))) ?_
 refine Yes rfl rfl ?_
 refine Ix 0 rfl (u:=dSe s1) rfl ?_
 refine Ce rfl (Xi0 (i:=-1) (j:=0) (by decide) (by decide)) ?_
 refine Ce rfl Ymp ?_
 exact R0
end
section
open Go.Proofs.YtgpipgjbkggjpaaGreatDoor.P55 (v0 W0 g0 gv0 zw Xlh Qp)
theorem Xgr{x y:Nm}{l l':List Sn}(h1:C0 23 [.d (dAr x l)] (·=.b true))(h2:C0 24 [.d (dAr x l),.d (dAr y l')] (·=.b true)): C0 10 [.d (dAr x l),.d (dAr y l')] (·=.b true):=by
 refine En Tryz.func10 λ_ _ _=>?_
 refine Ce rfl h1 ?_
 refine Yes rfl rfl ?_
 refine Ce rfl h2 ?_
 exact R0
theorem Ydu{s:Sn}: [s].length<=100:=by show 1<=100;decide
theorem Yj4{α:Type}{x y:α}{i:Nat}(h:[x][i]?=some y): i=0/\x=y:=by
 cases i with
 | zero=>exact⟨rfl,by simpa using h⟩
 | succ i=>simp at h
section
variable{K:Nat}{G:Tw K}{S:List (Tow.El K)}{N:List Nm}{n m k:Nat}{x y z:Nm}{a b:Tow.El K}
variable{K':Nat}{G':Tw K'}{S':List (Tow.El K')}{N':List Nm}{u s:Vn}{p q:V2 K'}{f g:Int}
theorem Xkw(W:Wn G S N)(h:sgn K G a>0): sgn K G (Tow.mul K G a (Tow.rat K hf2))=1:=by
 have hR:=Xaf W.w.g
 have h1:sgn K G a=1:=by rcases Xb7 G a with e | e | e<;>omega
 rw[(Xar hR).sm,h1,Xd6 hR,Xb8 (show (0:Rat)<hf2 by decide +kernel)]
 rfl
theorem Ye9(W:Wn G S N)(W':Wn G' S' N')(hz:Gd G S N n z b)(hb:sgn K G b=1)(hu:Gv G' S' N' m u p)(hp:p≠vz K')(hf:lim f)(h0:¬(f=0/\Xci G' p))(hn:n<=800)(hm:m<=800): R20.SOk ⟨z,u,f⟩ where
 vc:=R9.Valid_g W hz hn
 vd:=R13.Valid_g W' hu hm
 tv:=(R19.Valid_g W' hu hm).mono λv e=>e.trans (congrArg AV.b (Xaj.2 ⟨hp,hf⟩))
 tz:=(R20.Zero_g W' hu hm).mono λv e=>e.trans (congrArg AV.b (P11.dcF h0))
 sc:=(R9.Sign_g W hz hn).mono λv e=>by rw[e,hb]
theorem Xv1(W:Wn G S N)(hx:Gd G S N n x a)(hy:Gd G S N m y a)(hn:n<=190)(hm:m<=190): C0 10 [.d (dAr x []),.d (dAr y [])] (·=.b true) :=
 Xgr (R20.Good_l (by decide) (R9.Valid_g W hx (by omega)) nofun (λi s t h=>by cases h)) ((R20.Equal_l (P:=λ_ _=>True) (Q:=λ_ _=>True) (by decide) (by decide) (R9.Equal_g W hx hy hn hm) (λi s t h=>by cases h)).mono λv e=>e.trans (congrArg AV.b (Xaj.2 ⟨rfl,rfl,λi s t h=>by cases h⟩)))
theorem Ydm(W:Wn G S N): Gd G S N 1 n00 (Tow.rat K ((0:Int):Rat)):=Gd.rat W (by decide +kernel)
end
end
section
open Go.Proofs.YtgpipgjbkggjpaaGreatDoor.P55 (v0 W0 g0 gv0 zw Xlh Qp)
section
variable{K:Nat}{G:Tw K}{S:List (Tow.El K)}{N:List Nm}{n m k:Nat}{x y z c c':Nm}{a b e:Tow.El K}{u v w s t:Vn}{p q r:V2 K}{f g:Int}
theorem Yl1(W:Wn G S N)(hx:Gd G S N n x a)(hy:Gd G S N m y a)(hn:n<=190)(hm:m<=190): C0 24 [.d (dAr x []),.d (dAr y [])] (·=.b true) :=
 (R20.Equal_l (P:=λ_ _=>True) (Q:=λ_ _=>True) (by decide) (by decide) (R9.Equal_g W hx hy hn hm) (λi s t h=>by cases h)).mono λv e=>e.trans (congrArg AV.b (Xaj.2 ⟨rfl,rfl,λi s t h=>by cases h⟩))
theorem Yl0(W:Wn G S N)(hx:Gd G S N n x a)(hy:Gd G S N m y b)(hn:n<=190)(hm:m<=190){h:Sn}: C0 24 [.d (dAr x [h]),.d (dAr y [])] (·=.b false) :=
 (R20.Equal_l (P:=λ_ _=>True) (Q:=λ_ _=>True) Ydu (by decide) (R9.Equal_g W hx hy hn hm) (λi s t _ h=>by cases h)).mono λv e=>e.trans (congrArg AV.b (P11.dcF λh=>absurd h.2.1 (show ¬1=0 by decide)))
theorem Xsc(W:Wn G S N)(hx:Gd G S N n x a)(hy:Gd G S N m y a)(hn:n<=190)(hm:m<=190)(hc:Gd G S N n c b)(hc':Gd G S N m c' b)(hu:Gv G S N k u p)(hv:Gv G S N k v q)(hk:k<=90): C0 24 [.d (dAr x [⟨c,u,f⟩]),.d (dAr y [⟨c',v,g⟩])] (·=.b (dc (Xs8 G p q f g))) :=
 (R20.Equal_l (P:=λ_ _=>True) (Q:=λ_ _=>Xs8 G p q f g) Ydu Ydu (R9.Equal_g W hx hy hn hm) (λi s t h1 h2=>by
  obtain⟨rfl,rfl⟩:=Yj4 h1
  obtain⟨_,rfl⟩:=Yj4 h2
  exact⟨(R9.Equal_g W hc hc' hn hm).mono λv e=>e.trans (congrArg AV.b (W4g.2 ⟨λ_=>Xaj.2 trivial,λ_=>Xaj.2 rfl⟩)),R19.Same_g W hu hv (by omega)⟩)).mono λv e=>e.trans (congrArg AV.b (W4g.2 (Xaj.trans ⟨λh=>Xaj.2 (h.2.2 0 _ _ rfl rfl).2,λh=>⟨rfl,rfl,λ_ _ _ _ _=>⟨trivial,Xaj.1 h⟩⟩⟩)))
theorem Yjs(W:Wn G S N)(hx:Gd G S N n x a)(hn:n<=190): C0 23 [.d (dAr x [])] (·=.b true):=R20.Good_l (by decide) (R9.Valid_g W hx (by omega)) nofun (λi s t h=>by cases h)
theorem Xnj(W:Wn G S N)(hx:Gd G S N n x a)(hn:n<=190){h:Sn}(H:R20.SOk h): C0 23 [.d (dAr x [h])] (·=.b true):=R20.Good_l Ydu (R9.Valid_g W hx (by omega)) (λs hs=>by obtain rfl:=W0g.1 hs;exact H) (λi s t _ h2=>by simp at h2)
theorem ts(hp:p≠vz K)(hq:q≠vz K)(hf:lim f)(h:Xez G p q=0): Xs8 G p q f f:=⟨⟨hp,hf⟩,⟨hq,hf⟩,by unfold Yf5;rw[if_neg (by omega),if_neg (by omega)];exact h⟩
theorem Ykx(h:f≠g): ¬Xs8 G p q f g:=λe=>by
 have:=e.2.2
 unfold Yf5 at this
 by_cases h1:f<g
 . rw[if_pos h1] at this;cases this
 . rw[if_neg h1,if_pos (by omega)] at this;cases this
theorem Xsm: Tow.add K (Tow.rat K ((0:Int):Rat)) (Tow.rat K ((0:Int):Rat))=Tow.rat K ((0:Int):Rat):=by
 rw[<-Xfa]
 exact congrArg (Tow.rat K) (show ((0:Int):Rat)+((0:Int):Rat)=((0:Int):Rat) by decide +kernel)
end
theorem Xnh{ops:List RO}{at':List (Fin 256)}{n:Nat}: C0 9 [.d (dPl ops at'),.d (.int .i64 n)] (λv=>∃(l:List Vn) (c:Bool),v=.tup (.pr (.d (dVs l)) (.b c))/\l.length<=24/\(c=true->n<=l.length/\InW λ_ _ N=>∀x∈l,x.x∈N/\x.y∈N)):=by
 refine En Tryz.func9 λ_ _ _=>?_
 refine Ca rfl Xxm λv hv=>?_
 rcases hv with rfl | ⟨l,rfl,h1,h2⟩
 . refine No rfl (by decide) ?_
   exact Rt rfl (.tup (.cons (.rf rfl) Xmu)) ⟨[],false,rfl,W0y _,λh=>nomatch h⟩
 . refine Yes rfl rfl ?_
   refine Rt rfl (.tup (.cons (.rf rfl) Xmu)) ⟨l,_,rfl,by omega,λh=>⟨?_,h2⟩⟩
   have h:(((l.map dV).length:Nat):Int)>=n:=Xaj.1 h
   rw[W0l] at h
   omega
theorem Yb6{ops:List RO}{at':List (Fin 256)}{sq:Nat}(hsq:sq<256): C0 5 [.d (dPl ops at'),.d (.int .u8 sq)] (·=.b true):=by
 refine En Tryz.func5 λ_ _ _=>?_
 refine Ce rfl Xrk ?_
 refine No rfl nofun ?_
 refine Ca rfl (Xnh (n:=3)) λv hv=>?_
 obtain⟨l,c',rfl,hl24,hc⟩:=hv
 refine By rfl (λh=>?_) λh=>?_
 . exact R0
 have h:c'=true:=by simpa using h
 obtain⟨h3,K,G,S,N,W,hm⟩:=hc h
 have lm:(l.map dV).length=l.length:=W0l ..
 have hG:=W.w.w.g
 obtain⟨x0,k0⟩:∃x,l[0]?=some x:=⟨_,W0c (by omega)⟩
 obtain⟨x1,k1⟩:∃x,l[1]?=some x:=⟨_,W0c (by omega)⟩
 obtain⟨x2,k2⟩:∃x,l[2]?=some x:=⟨_,W0c (by omega)⟩
 obtain⟨p0,g0'⟩:=W.gv (hm x0 (W0i k0))
 obtain⟨p1,g1⟩:=W.gv (hm x1 (W0i k1))
 obtain⟨p2,g2⟩:=W.gv (hm x2 (W0i k2))
 refine Lo (λi:Nat=>[(1,.d (.int .u8 sq)),(4,.b false),(5,.d (dVs l)),(32,.d (dVs l)),(33,.d (.int .i64 ((l.map dV).length:Nat))),(34,.d (.int .i64 i))]) (λ_=>[]) (λi=>i<=l.length) (λi=>l.length-i) 0 [] rfl (W0y _) (λi hi=>?_)
 refine By rfl (λh=>?_) λh=>?_<;>rw[lm] at h
 . obtain⟨x,hx⟩:∃x,l[i]?=some x:=⟨_,W0c (by omega)⟩
   refine Ix i rfl (mp hx) ?_
   refine By rfl (λh2=>?_) λh2=>?_
   . exact R0
   refine By rfl (λh2=>?_) λh2=>?_
   . exact R0
   refine Ar (i+1:Nat) rfl ?_
   exact Bk (i+1) [] rfl (by omega) (by show l.length-(i+1)<l.length-i;omega)
 have hn:=Gd.rat W.w (show Qs 64 (((1+sq:Nat):Int):Rat) from Qs.int (by unfold Zs;omega) (by decide))
 have hpos:sgn K G (Tow.rat K ((((1+sq:Nat):Int)):Rat))>0:=by
  rw[Xd6 (Xaf hG),Xb8 (Rat.intCast_pos.2 (by omega))]
  decide
 have n00g:=Ydm W.w
 refine Dw rfl ?_
 refine Ix 0 rfl (mp k0) ?_
 refine Ix 1 rfl (mp k1) ?_
 refine Ca rfl (Yb5 W.w g0' g1 (by decide)) λv hv=>?_
 rcases hv with ⟨n1,d1,rfl,hd1⟩ | ⟨_,rfl⟩
 rotate_left
 . refine Dw rfl ?_
   refine Ix 1 rfl (mp k1) ?_
   refine Ix 2 rfl (mp k2) ?_
   refine Ca rfl (Yb5 W.w g1 g2 (by decide)) λv' hv'=>?_
   rcases hv' with ⟨_,d2,rfl,hd2⟩ | ⟨_,rfl⟩<;>refine Dw rfl ?_<;>refine Ix 0 rfl (mp k0) ?_<;>refine Ix 2 rfl (mp k2) ?_<;>refine Ca rfl (Yb5 W.w g0' g2 (by decide)) λv'' hv''=>?_<;>rcases hv'' with ⟨_,d3,rfl,hd3⟩ | ⟨_,rfl⟩<;>exact Yes rfl (by decide) R0
 refine Dw rfl ?_
 refine Ix 1 rfl (mp k1) ?_
 refine Ix 2 rfl (mp k2) ?_
 refine Ca rfl (Yb5 W.w g1 g2 (by decide)) λv' hv'=>?_
 rcases hv' with ⟨n2,d2,rfl,hd2⟩ | ⟨_,rfl⟩
 rotate_left
 . refine Dw rfl ?_
   refine Ix 0 rfl (mp k0) ?_
   refine Ix 2 rfl (mp k2) ?_
   refine Ca rfl (Yb5 W.w g0' g2 (by decide)) λv'' hv''=>?_
   rcases hv'' with ⟨_,d3,rfl,hd3⟩ | ⟨_,rfl⟩<;>exact No rfl (by decide) (Yes rfl (by decide) R0)
 refine Dw rfl ?_
 refine Ix 0 rfl (mp k0) ?_
 refine Ix 2 rfl (mp k2) ?_
 refine Ca rfl (Yb5 W.w g0' g2 (by decide)) λv'' hv''=>?_
 rcases hv'' with ⟨n3,d3,rfl,hd3⟩ | ⟨_,rfl⟩
 rotate_left
 . exact No rfl (by decide) (No rfl (by decide) (Yes rfl (by decide) R0))
 refine No rfl (by decide) ?_
 refine No rfl (by decide) ?_
 refine No rfl (by decide) ?_
 refine Go.Vm.Cv (sq:Nat) rfl ?_ (wI (by omega))
 refine Ar ((1+sq:Nat):Int) rfl ?_ (wr (by omega) (by simp only[inK];omega))
 refine Ce rfl (R9.FromInt_ok (z:=((1+sq:Nat):Int)) (by omega)) ?_
 have z0:p0≠vz K:=λe=>n1 (.inl e)
 have z1:p1≠vz K:=λe=>n1 (.inr e)
 have z2:p2≠vz K:=λe=>n2 (.inr e)
 have nP:=Xkg hG (Xno hG z0) z1
 have nQ:=Xkg hG (Xno hG z1) z2
 have nR:=Xkg hG (Xno hG z0) z2
 have cb:=Ygj (u:=p0) (w:=p2) hG z1
 refine Ca rfl (Xbd (f:=0) W.w W.w hn hd1 (by decide) (by decide)) λr hr=>?_
 rcases hr with ⟨h,_⟩ | ⟨_,⟨_,fP⟩,rfl⟩ | ⟨_,fP,za,rfl,hza⟩
 . exact absurd hpos h
 . have cl:=Ygi (w:=p2) hG z1 fP
   refine Ca rfl (Xbd (f:=0) W.w W.w hn hd2 (by decide) (by decide)) λr' hr'=>?_
   rcases hr' with ⟨h,_⟩ | ⟨_,⟨_,fQ⟩,rfl⟩ | ⟨_,fQ,zb,rfl,hzb⟩
   . exact absurd hpos h
   . have fR:=Xhm hG (show Xez G (Xbw G (Xdn p0) p2) (Xbw G (Xdn p1) p2)=0 by rw[Xhu hG,cl];rfl) fQ
     refine Ca rfl (Xbd (f:=0) W.w W.w hn hd3 (by decide) (by decide)) λr'' hr''=>?_
     rcases hr'' with ⟨h,_⟩ | ⟨_,_,rfl⟩ | ⟨_,h,_⟩
     . exact absurd hpos h
     . refine Ca rfl (Yjw W.w n00g n00g (by decide) (by decide)) λv hv=>?_
       obtain⟨z,rfl,hz⟩:=hv
       rw[Xsm] at hz
       refine No rfl (by decide) ?_
       refine No rfl (by decide) ?_
       refine No rfl (by decide) ?_
       refine No rfl (by decide) ?_
       refine Ce rfl (Yjs W.w hz (by decide)) ?_
       refine No rfl (λh=>h rfl) ?_
       refine Ca rfl (Xbd (f:=1) W.w W.w hn hd3 (by decide) (by decide)) λr hr=>?_
       rcases hr with ⟨h,_⟩ | ⟨_,h,_⟩ | ⟨_,_,zm,rfl,hzm⟩
       . exact absurd hpos h
       . exact absurd h.1 (by decide)
       refine Yes rfl (by decide) ?_
       refine Ce rfl (Yl1 W.w hz n00g (by decide) (by decide)) ?_
       refine Yes rfl rfl ?_
       exact R0
     . exact absurd ⟨rfl,fR⟩ h
   . have fR:¬Xci G (Xbw G (Xdn p0) p2):=λe=>fQ ⟨rfl,Xhm hG cl e⟩
     refine Ca rfl (Xbd (f:=0) W.w W.w hn hd3 (by decide) (by decide)) λr'' hr''=>?_
     rcases hr'' with ⟨h,_⟩ | ⟨_,⟨_,h⟩,_⟩ | ⟨_,_,zc,rfl,hzc⟩
     . exact absurd hpos h
     . exact absurd h fR
     . refine Ca rfl (Yjv W.w n00g n00g (by decide) (by decide)) λv hv=>?_
       obtain⟨z,rfl,hz⟩:=hv
       rw[Xsm] at hz
       refine No rfl (by decide) ?_
       refine No rfl (by decide) ?_
       refine No rfl (by decide) ?_
       refine No rfl (by decide) ?_
       refine Ce rfl (Xnj W.w hz (by decide) (Ye9 W.w W.w hzb (Xkw W.w hpos) hd2 nQ (by decide) fQ (by decide) (by decide))) ?_
       refine No rfl (λh=>h rfl) ?_
       refine Ca rfl (Xbd (f:=1) W.w W.w hn hd3 (by decide) (by decide)) λr hr=>?_
       rcases hr with ⟨h,_⟩ | ⟨_,h,_⟩ | ⟨_,_,zm,rfl,hzm⟩
       . exact absurd hpos h
       . exact absurd h.1 (by decide)
       refine Yes rfl (by decide) ?_
       refine Ce rfl ((Xsc (n:=2) (m:=2) W.w (hz.mono (by decide)) (n00g.mono (by decide)) (by decide) (by decide) (hzb.mono (by decide)) (hzc.mono (by decide)) hd2 hd3 (by decide)).mono λv e=>e.trans (congrArg AV.b (Xaj.2 (ts nQ nR (by decide) cl)))) ?_
       refine Yes rfl rfl ?_
       exact R0
 . refine Ca rfl (Xbd (f:=0) W.w W.w hn hd2 (by decide) (by decide)) λr' hr'=>?_
   rcases hr' with ⟨h,_⟩ | ⟨_,⟨_,fQ⟩,rfl⟩ | ⟨_,fQ,zb,rfl,hzb⟩
   . exact absurd hpos h
   . have cr:=Ygh (u:=p0) hG z1 fQ
     have fR:¬Xci G (Xbw G (Xdn p0) p2):=λe=>fP ⟨rfl,Xhm hG cr e⟩
     refine Ca rfl (Xbd (f:=0) W.w W.w hn hd3 (by decide) (by decide)) λr'' hr''=>?_
     rcases hr'' with ⟨h,_⟩ | ⟨_,⟨_,h⟩,_⟩ | ⟨_,_,zc,rfl,hzc⟩
     . exact absurd hpos h
     . exact absurd h fR
     . refine Ca rfl (Yju W.w n00g n00g (by decide) (by decide)) λv hv=>?_
       obtain⟨z,rfl,hz⟩:=hv
       rw[Xsm] at hz
       refine No rfl (by decide) ?_
       refine No rfl (by decide) ?_
       refine No rfl (by decide) ?_
       refine No rfl (by decide) ?_
       refine Ce rfl (Xnj W.w hz (by decide) (Ye9 W.w W.w hza (Xkw W.w hpos) hd1 nP (by decide) fP (by decide) (by decide))) ?_
       refine No rfl (λh=>h rfl) ?_
       refine Ca rfl (Xbd (f:=1) W.w W.w hn hd3 (by decide) (by decide)) λr hr=>?_
       rcases hr with ⟨h,_⟩ | ⟨_,h,_⟩ | ⟨_,_,zm,rfl,hzm⟩
       . exact absurd hpos h
       . exact absurd h.1 (by decide)
       refine Yes rfl (by decide) ?_
       refine Ce rfl ((Xsc (n:=2) (m:=2) W.w (hz.mono (by decide)) (n00g.mono (by decide)) (by decide) (by decide) (hza.mono (by decide)) (hzc.mono (by decide)) hd1 hd3 (by decide)).mono λv e=>e.trans (congrArg AV.b (Xaj.2 (ts nP nR (by decide) cr)))) ?_
       refine Yes rfl rfl ?_
       exact R0
   . have nPQ:=Xkg hG nP nQ
     have nz:¬(Xge G (Xbw G (Xdn p0) p1) (Xbw G (Xdn p1) p2) 0 0=0/\Xci G (Xbw G (Xbw G (Xdn p0) p1) (Xbw G (Xdn p1) p2))):=λe=>by
      have:=Xts hG nP nQ (λh=>fP ⟨rfl,h⟩) e.2
      rw[e.1] at this
      cases this
     have hl:lim (Xge G (Xbw G (Xdn p0) p1) (Xbw G (Xdn p1) p2) 0 0):=by
      rcases Xs0 G (Xbw G (Xdn p0) p1) (Xbw G (Xdn p1) p2) with e | e<;>rw[e]<;>decide
     have A:=Yb7 W.w n00g n00g (by decide) (by decide) hza hzb hd1 hd2 (by decide) (by decide) (f:=0) (g:=0) (lim.few (by decide)) (lim.few (by decide)) hl nz
     have HH:=λw (hw:Gv G S N 64 w _)=>Ye9 (u:=w) W.w W.w hza (Xkw W.w hpos) hw nPQ hl nz (by decide) (by decide)
     refine Ca rfl (Xbd (f:=0) W.w W.w hn hd3 (by decide) (by decide)) λr'' hr''=>?_
     rcases hr'' with ⟨h,_⟩ | ⟨_,⟨_,fR⟩,rfl⟩ | ⟨_,fR,zc,rfl,hzc⟩
     . exact absurd hpos h
     . have e1:=Xts hG nP nQ (λh=>fP ⟨rfl,h⟩) (Xhm hG cb fR)
       rw[e1] at A HH
       refine Ca rfl A λv hv=>?_
       obtain⟨z,w,rfl,hz,hw⟩:=hv
       rw[Xsm] at hz
       have H:=HH w (hw.mono (by decide))
       refine No rfl (by decide) ?_
       refine No rfl (by decide) ?_
       refine No rfl (by decide) ?_
       refine No rfl (by decide) ?_
       refine Ce rfl (Xnj W.w hz (by decide) H) ?_
       refine No rfl (λh=>h rfl) ?_
       refine Ca rfl (Xbd (f:=1) W.w W.w hn hd3 (by decide) (by decide)) λr hr=>?_
       rcases hr with ⟨h,_⟩ | ⟨_,h,_⟩ | ⟨_,_,zm,rfl,hzm⟩
       . exact absurd hpos h
       . exact absurd h.1 (by decide)
       refine Yes rfl (by decide) ?_
       refine Ce rfl (Yl0 W.w hz n00g (by decide) (by decide)) ?_
       refine No rfl nofun ?_
       refine Ce rfl ((Xsc (n:=2) (m:=2) W.w (hz.mono (by decide)) (n00g.mono (by decide)) (by decide) (by decide) (hza.mono (by decide)) (hzm.mono (by decide)) hw (hd3.mono (by decide)) (by decide)).mono λv e=>e.trans (congrArg AV.b (Xaj.2 (ts nPQ nR (by decide) cb)))) ?_
       exact R0
     . rcases Xs0 G (Xbw G (Xdn p0) p1) (Xbw G (Xdn p1) p2) with e1 | e1<;>rw[e1] at A HH
       . refine Ca rfl A λv hv=>?_
         obtain⟨z,w,rfl,hz,hw⟩:=hv
         rw[Xsm] at hz
         have H:=HH w (hw.mono (by decide))
         refine No rfl (by decide) ?_
         refine No rfl (by decide) ?_
         refine No rfl (by decide) ?_
         refine No rfl (by decide) ?_
         refine Ce rfl (Xnj W.w hz (by decide) H) ?_
         refine No rfl (λh=>h rfl) ?_
         refine Ca rfl (Xbd (f:=1) W.w W.w hn hd3 (by decide) (by decide)) λr hr=>?_
         rcases hr with ⟨h,_⟩ | ⟨_,h,_⟩ | ⟨_,_,zm,rfl,hzm⟩
         . exact absurd hpos h
         . exact absurd h.1 (by decide)
         refine Yes rfl (by decide) ?_
         refine Ce rfl ((Xsc (n:=2) (m:=2) W.w (hz.mono (by decide)) (n00g.mono (by decide)) (by decide) (by decide) (hza.mono (by decide)) (hzc.mono (by decide)) hw (hd3.mono (by decide)) (by decide)).mono λv e=>e.trans (congrArg AV.b (Xaj.2 (ts nPQ nR (by decide) cb)))) ?_
         refine Yes rfl rfl ?_
         exact R0
       . refine Ca rfl A λv hv=>?_
         obtain⟨z,w,rfl,hz,hw⟩:=hv
         rw[Xsm] at hz
         have H:=HH w (hw.mono (by decide))
         refine No rfl (by decide) ?_
         refine No rfl (by decide) ?_
         refine No rfl (by decide) ?_
         refine No rfl (by decide) ?_
         refine Ce rfl (Xnj W.w hz (by decide) H) ?_
         refine No rfl (λh=>h rfl) ?_
         refine Ca rfl (Xbd (f:=1) W.w W.w hn hd3 (by decide) (by decide)) λr hr=>?_
         rcases hr with ⟨h,_⟩ | ⟨_,h,_⟩ | ⟨_,_,zm,rfl,hzm⟩
         . exact absurd hpos h
         . exact absurd h.1 (by decide)
         refine Yes rfl (by decide) ?_
         refine Ce rfl ((Xsc (n:=2) (m:=2) W.w (hz.mono (by decide)) (n00g.mono (by decide)) (by decide) (by decide) (hza.mono (by decide)) (hzc.mono (by decide)) hw (hd3.mono (by decide)) (by decide)).mono λv e=>e.trans (congrArg AV.b (P11.dcF (Ykx (by decide))))) ?_
         refine No rfl nofun ?_
         refine Ce rfl ((Xsc (n:=2) (m:=2) W.w (hz.mono (by decide)) (n00g.mono (by decide)) (by decide) (by decide) (hza.mono (by decide)) (hzm.mono (by decide)) hw (hd3.mono (by decide)) (by decide)).mono λv e=>e.trans (congrArg AV.b (Xaj.2 (ts nPQ nR (by decide) cb)))) ?_
         exact R0
end
end Go.Proofs.YtgpipgjbkggjpaaGreatDoor.P20
namespace Go.Proofs.YtgpipgjbkggjpaaGreatDoor.R20
open Go Go.Vm Go.Num Go.Tow Go.Proofs.YtgpipgjbkggjpaaGreatDoor Go.Proofs.YtgpipgjbkggjpaaGreatDoor.P20
def SG{K:Nat}(G:Tw K)(S:List (Tow.El K))(N:List Nm)(U:Nat)(s:Sn): Prop:=(∃a,Gd G S N 9 s.c a)/\(∃p,Gv G S N U s.v p)/\few s.f
def ptV: Option (List Sn)->AV
 | none=>.lit 7 []
 | some w=>.own 600 7 0 (w.map dSe).length
def ptH: Option (List Sn)->Hpl
 | none=>[]
 | some w=>[(600,.arr 7 (w.map dSe))]
def ptW: Option (List Sn)->List Sn
 | none=>[]
 | some w=>w
section
variable{K:Nat}{G:Tw K}{S:List (Tow.El K)}{N:List Nm}{U:Nat}
theorem SG.mono{U':Nat}{s:Sn}(h:SG G S N U s)(hu:U<=U'): SG G S N U' s:=⟨h.1,let ⟨p,hp⟩:=h.2.1;⟨p,hp.mono hu⟩,h.2.2⟩
def PtG(G:Tw K)(S:List (Tow.El K))(N:List Nm)(U n:Nat)(r:AV): Prop:=(∃e:Int,e≠0/\r=.tup (.pr (.d (dSs [])) (.d (.int .i64 e))))\/∃l,r=.tup (.pr (.d (dSs l)) (.d (.int .i64 0)))/\l.length<=n/\∀s∈l,SG G S N U s
theorem Xcp(l:List Sn): (l.map dSe).length=l.length:=W0l ..
theorem put_g(W:Wn G S N){l:List Sn}{s:Sn}(hU:U<=60)(hl:∀x∈l,SG G S N U x)(h3:l.length<=8)(hs:SG G S N 4 s): C0 79 [.d (dSs l),.d (dSe s)] (PtG G S N (2*(U+4)) (l.length+1)):=by
 refine En Tryz.func79 λ_ _ _=>?_
 refine Cu (some 1000000) (λk:Nat=>[(0,.d (dSs l)),(3,.ptr 3 0),(6,.d (.int .i64 k))]) (λ_=>[(3,.var (.d (dSe s)))]) (λk=>k<=l.length) rfl ?_ λk hk=>?_
 . refine Lo (λk:Nat=>[(0,.d (dSs l)),(3,.ptr 3 0),(6,.d (.int .i64 k))]) (λ_=>[(3,.var (.d (dSe s)))]) (λk=>k<=l.length) (λk=>l.length-k) 0 [] rfl (W0y _) λk hk=>?_
   refine Dw rfl ?_
   refine By rfl (λh=>?_) λh=>?_<;>rw[Xcp] at h
   . obtain⟨x,hx⟩:∃x,l[k]?=some x:=⟨_,W0c (by omega)⟩
     obtain⟨⟨a,ha⟩,_⟩:=hl x (W0i hx)
     obtain⟨⟨b,hb⟩,_⟩:=hs
     refine Ix k rfl (ase hx) ?_
     refine Ce rfl (Xf8 W ha hb (by decide) (by decide)) ?_
     refine By rfl (λh2=>?_) λh2=>?_
     . refine Ar (k+1:Nat) rfl ?_
       exact Bk (k+1) [] rfl (by omega) (by show l.length-(k+1)<l.length-k;omega)
     . exact Jn k [] rfl hk
   . exact Jn k [] rfl hk
 refine Dp k ((l.drop k).map dSe) rfl rfl (by rw[Xcp];exact hk) (by rw[W4t]) ?_
 refine Cu (some 5) (λc:Bool=>[(0,.d (dSs l)),(3,.ptr 3 0),(6,.d (.int .i64 k)),(7,.d (dSs (l.drop k))),(43,.b c)]) (λ_=>[(3,.var (.d (dSe s)))]) (λc=>c=true->k<l.length) rfl ?_ λc hc=>?_
 . refine Dw rfl ?_
   refine By rfl (λh=>?_) λh=>?_<;>rw[Xcp,W1t] at h
   . obtain⟨x,hx⟩:∃x,(l.drop k)[0]?=some x:=⟨_,W0c (by rw[W1t];omega)⟩
     obtain⟨⟨a,ha⟩,_⟩:=hl x (W5d (W0i hx))
     obtain⟨⟨b,hb⟩,_⟩:=hs
     refine Ix 0 rfl (ase hx) ?_
     refine Ce rfl (Xf8 W ha hb (by decide) (by decide)) ?_
     exact Jn _ [] rfl (λ_=>by omega)
   . exact Jn false [] rfl nofun
 refine Cu none (λ(s,m)=>[(0,.d (dSs l)),(3,.ptr 3 0),(6,.d (.int .i64 k)),(7,.d (dSs m))]) (λ((s,m):Sn×List Sn)=>[(3,.var (.d (dSe s)))]) (λ(s,m)=>SG G S N (2*(U+4)) s/\m.length+k<=l.length/\∀x∈m,SG G S N U x) rfl ?_ λ(s,m) ⟨hs',hm,hml⟩=>?_
 . refine By rfl (λh=>?_) λh=>?_
   . have hc:=hc h
     obtain⟨x,hx⟩:∃x,(l.drop k)[0]?=some x:=⟨_,W0c (by rw[W1t];omega)⟩
     obtain⟨_,⟨p,hp⟩,hf⟩:=hl x (W5d (W0i hx))
     obtain⟨hb,⟨q,hq⟩,hg⟩:=hs
     refine Dw rfl ?_
     refine Ix 0 rfl (ase hx) ?_
     refine Ca rfl (R19.Add_g W hp hq (by omega) hf hg) λr hr=>?_
     rcases hr with ⟨hl',w,rfl,hw⟩ | ⟨_,rfl⟩
     . refine No rfl (by decide) ?_
       refine Dw rfl ?_
       refine Dp 1 ((l.drop (k+1)).map dSe) rfl rfl (by rw[Xcp,W1t];omega) (by rw[<-W4t,W5v]) ?_
       exact Jn (⟨s.c,w,Xge G p q x.f s.f⟩,l.drop (k+1)) [] rfl ⟨⟨hb,⟨_,hw.mono (by omega)⟩,hl'.few⟩,by rw[W1t];omega,λy hy=>hl y (W5d hy)⟩
     . refine Yes rfl (by decide) ?_
       exact Rt rfl (.tup (.cons (.nil rfl) Xa6)) (.inl ⟨3,by decide,rfl⟩)
   . exact Jn (s,l.drop k) [] rfl ⟨hs.mono (by omega),by rw[W1t];omega,λy hy=>hl y (W5d hy)⟩
 refine Cu (some 10) (λo=>[(3,.ptr 3 0),(7,.d (dSs m)),(10,ptV o)]) (λo=>(3,.var (.d (dSe s)))::ptH o) (λo=>(ptW o).length=k/\∀x∈ptW o,SG G S N U x) rfl ?_ λo ⟨ho,hol⟩=>?_
 . refine Tk k ((l.take k).map dSe) rfl rfl (by rw[Xcp];exact hk) (by rw[W1z]) ?_
   by_cases h0:k=0
   . subst h0
     refine Ymv rfl rfl (by decide) ?_
     exact Jn none [] rfl ⟨rfl,nofun⟩
   . refine Yko ((l.take k).map dSe) rfl rfl (by rw[Xcp,W0k];omega) (by rw[Xcp,W0k];omega) ?_
     exact Jn (some (l.take k)) [(65,600)] rfl ⟨by show (l.take k).length=k;rw[W0k];omega,λx hx=>hl x (W5r hx)⟩
 obtain⟨hb,⟨q,hq⟩,hg⟩:=hs'
 have hX:∀ {x:Sn},SG G S N U x->SG G S N (2*(U+4)) x:=λh=>h.mono (by omega)
 have F:∀ {o sz:Nat} {xs ys:List D} {g:Hp},g o=some (.arr sz xs)->xs=ys->Fit g [] (.own o sz 0 xs.length) (.d (.sl sz ys)):=λh e=>.own h (by omega) (by subst e;rw[W1d,W2j])
 rcases o with _ | w
 . have ho:0=k:=ho
   refine Ce rfl (Zero_g W hq (by omega)) ?_
   refine By rfl (λh=>?_) λh=>?_
   . refine Yko [dSe s] rfl rfl (W7h _) (W1e rfl) ?_
     refine Ykn ((s::m).map dSe) rfl rfl rfl rfl (by rw[Xcp,W0q];omega) ?_
     exact Rt rfl (.tup (.cons (F rfl rfl) Xa6)) (.inr ⟨s::m,rfl,by rw[W0q];omega,λx hx=>by
      rcases W1n.1 hx with rfl | hx
      . exact⟨hb,⟨q,hq⟩,hg⟩
      . exact hX (hml x hx)⟩)
   . rcases m with _ | ⟨y,m⟩
     . refine Ymv rfl rfl (by decide) ?_
       exact Rt rfl (.tup (.cons (.lit rfl) Xa6)) (.inr ⟨[],rfl,W0y _,nofun⟩)
     . refine Yko ((y::m).map dSe) rfl rfl (W7h _) (by rw[Xcp];omega) ?_
       exact Rt rfl (.tup (.cons (F rfl rfl) Xa6)) (.inr ⟨y::m,rfl,by omega,λx hx=>hX (hml x hx)⟩)
 . have ho:w.length=k:=ho
   have hol:∀x∈w,SG G S N U x:=hol
   refine Ce rfl (Zero_g W hq (by omega)) ?_
   refine By rfl (λh=>?_) λh=>?_
   . refine Ykn ((w++[s]).map dSe) rfl rfl rfl (by rw[W2g];rfl) (by rw[Xcp,W0e];show w.length+1<=_;omega) ?_
     refine Ykn ((w++[s]++m).map dSe) rfl rfl rfl (by rw[W2g (l₁:=w++[s])]) (by rw[Xcp,W0e,W0e];show w.length+1+m.length<=_;omega) ?_
     exact Rt rfl (.tup (.cons (F rfl rfl) Xa6)) (.inr ⟨w++[s]++m,rfl,by rw[W0e,W0e];show w.length+1+m.length<=_;omega,λx hx=>by
      rcases W2k.1 hx with hx | hx
      . rcases W2k.1 hx with hx | hx
        . exact hX (hol x hx)
        . obtain rfl:=W0g.1 hx
          exact⟨hb,⟨q,hq⟩,hg⟩
      . exact hX (hml x hx)⟩)
   . refine Ykn ((w++m).map dSe) rfl rfl rfl (by rw[W2g]) (by rw[Xcp,W0e];omega) ?_
     exact Rt rfl (.tup (.cons (F rfl rfl) Xa6)) (.inr ⟨w++m,rfl,by rw[W0e];omega,λx hx=>by
      rcases W2k.1 hx with hx | hx
      . exact hX (hol x hx)
      . exact hX (hml x hx)⟩)
def AdG(G:Tw K)(S:List (Tow.El K))(N:List Nm)(U n m:Nat)(a:Tow.El K)(r:AV): Prop:=(∃e:Int,e≠0/\r=.tup (.pr (.d dA0) (.d (.int .i64 e))))\/∃z L,r=.tup (.pr (.d (dAr z L)) (.d (.int .i64 0)))/\Gd G S N m z a/\L.length<=n/\∀s∈L,SG G S N U s
variable{n m:Nat}{x y z:Nm}{a b:Tow.El K}
theorem Ymy(W:Wn G S N){l:List Sn}(hx:Gd G S N n x a)(hy:Gd G S N m y b)(hn:n<=190)(hm:m<=190)(hl:∀x∈l,SG G S N U x): C0 39 [.d (dAr x l),.d (dAr y [])] (AdG G S N U l.length (n+m) (Tow.add K a b)):=by
 refine En Tryz.func39 λ_ _ _=>?_
 refine Ca rfl (R9.Add_g W hx hy hn hm) λv hv=>?_
 obtain⟨z,rfl,hz⟩:=hv
 refine Lo (λ_:Unit=>[(3,.ptr 3 0),(4,.ptr 4 0),(7,.d (.int .i64 0)),(8,.ptr 8 0),(9,.d (.int .i64 0))]) (λ_=>[(3,.var (.d (dAr y []))),(4,.var zA),(8,.var (.d (dAr z l)))]) (λ_=>True) (λ_=>0) () [] rfl trivial (λ_ _=>?_)
 refine No rfl (show ¬(0:Int)<((0:Nat):Int) by decide) ?_
 refine No rfl (by decide) ?_
 exact Rt rfl (.tup (.cons (.rf rfl) Xa6)) (.inr ⟨z,l,rfl,hz,W0a _,hl⟩)
theorem Ymx(W:Wn G S N){l:List Sn}{s:Sn}(hU:U<=60)(hx:Gd G S N n x a)(hy:Gd G S N m y b)(hn:n<=190)(hm:m<=190)(hl:∀x∈l,SG G S N U x)(h3:l.length<=8)(hs:SG G S N 4 s): C0 39 [.d (dAr x l),.d (dAr y [s])] (AdG G S N (2*(U+4)) (l.length+1) (n+m) (Tow.add K a b)):=by
 refine En Tryz.func39 λ_ _ _=>?_
 refine Ca rfl (R9.Add_g W hx hy hn hm) λv hv=>?_
 obtain⟨z,rfl,hz⟩:=hv
 refine Lo (λ((k,L,e):Nat×List Sn×Int)=>[(3,.ptr 3 0),(4,.ptr 4 0),(7,.d (.int .i64 e)),(8,.ptr 8 0),(9,.d (.int .i64 k))]) (λ((k,L,e):Nat×List Sn×Int)=>[(3,.var (.d (dAr y [s]))),(4,.var zA),(8,.var (.d (dAr z L)))]) (λ(k,L,e)=>k<=1/\(k=0->L=l/\e=0)/\(k=1->e=0->L.length<=l.length+1/\∀s∈L,SG G S N (2*(U+4)) s)) (λ(k,_,_)=>1-k) (0,l,0) [] rfl ⟨W0y _,λ_=>⟨rfl,rfl⟩,nofun⟩ (λ(k,L,e) ⟨hk,h0,h1⟩=>?_)
 rcases(show k=0\/k=1 by omega) with rfl | rfl
 . obtain⟨rfl,rfl⟩:=h0 rfl
   refine Yes rfl (show ((0:Nat):Int)<((1:Nat):Int) by decide) ?_
   refine Yes rfl (by decide) ?_
   refine Dw rfl ?_
   refine Ix 0 rfl (u:=dSe s) rfl ?_
   refine Ca rfl (put_g W hU hl h3 hs) λr hr=>?_
   rcases hr with ⟨e,he,rfl⟩ | ⟨L,rfl,k1,k2⟩
   . refine Ar (0+1:Nat) rfl ?_
     exact Bk (0+1,[],e) [] rfl ⟨W0a 1,nofun,λ_ h=>absurd h he⟩ (show 1-(0+1)<1-0 from W6r)
   . refine Ar (0+1:Nat) rfl ?_
     exact Bk (0+1,L,0) [] rfl ⟨W0a 1,nofun,λ_ _=>⟨k1,k2⟩⟩ (show 1-(0+1)<1-0 from W6r)
 . refine No rfl (show ¬((1:Nat):Int)<((1:Nat):Int) by decide) ?_
   refine By rfl (λh=>?_) λh=>?_
   . exact Rt rfl (.tup (.cons Yd9 Xa6)) (.inl ⟨e,h,rfl⟩)
   . have he:e=0:=W3e.1 h
     subst he
     exact Rt rfl (.tup (.cons (.rf rfl) Xa6)) (.inr ⟨z,L,rfl,hz,h1 rfl rfl⟩)
end
abbrev dCb(ops:List RO)(at':List (Fin 256))(ts:List Int): D:=.st (.pr (dPl ops at') (.sl 1 (ts.map λz=>.int .i64 z)))
abbrev dAa(a b:List D)(L:List Sn): D:=.st (.pr (.st (.pr (.sl 1 a) (.sl 4 b))) (dSs L))
def BuR(r:AV): Prop:=∃a b L l c,r=.tup (.pr (.d (dAa a b L)) (.pr (.d (dVs l)) (.b c)))/\(c=true->(1<=l.length/\l.length<=8)/\InW λ_ _ N=>∀x∈l,x.x∈N/\x.y∈N)
def aoD: Option (Nm×List Sn)->D
 | none=>dA0
 | some (z,L)=>dAr z L
def Uf: Nat->Nat
 | 0=>0
 | k+1=>2*(Uf k+4)
theorem Ymo{k:Nat}(h:k<=3): Uf k<=60:=by
 rcases(show k=0\/k=1\/k=2\/k=3 by omega) with rfl | rfl | rfl | rfl<;>decide
theorem Yci{ts:List Int}{k:Nat}{z:Int}(h:ts[k]?=some z): (ts.map λz=>(D.int .i64 z:D))[k]?=some (.int .i64 z):=by rw[W1o,h];rfl
theorem Build_g{ops:List RO}{at':List (Fin 256)}{ts:List Int}(ht:ts.length<9223372036854775808)(hz:∀z∈ts,-9223372036854775808<=z/\z<9223372036854775808): C0 15 [.d (dCb ops at' ts),.d (.int .i64 1)] BuR:=by
 have no:BuR (.tup (.pr (.d dA0) (.pr (.d (dVs [])) (.b false)))):=⟨[],[],[],[],false,rfl,nofun⟩
 have tl:(ts.map λz=>(D.int .i64 z:D)).length=ts.length:=W0l ..
 have R0n:∀ {g:Hp},FitR g [] (.tup (.pr (.st (.pr (.st (.pr .nil .nil)) .nil)) (.pr .nil (.b false)))) (.tup (.pr (.d dA0) (.pr (.d (dVs [])) (.b false)))):=.tup (.cons Yd9 (.cons (.nil rfl) Xmu))
 refine En Tryz.func15 λ_ _ _=>?_
 refine Ca rfl (Xnh (n:=1)) λv hv=>?_
 obtain⟨l,c',rfl,hl24,hc⟩:=hv
 have lm:(l.map dV).length=l.length:=W0l ..
 refine By rfl (λh=>?_) λh=>?_
 . exact Rt rfl R0n no
 have h:c'=true:=by simpa using h
 obtain⟨h1,K,G,S,N,W,hm⟩:=hc h
 refine By rfl (λh=>?_) λh=>?_
 . exact Rt rfl R0n no
 rw[lm] at h
 have h8:l.length<=8:=by omega
 refine By rfl (λh=>?_) λh=>?_
 . exact Rt rfl R0n no
 rw[tl] at h
 have h4:ts.length<=4:=by omega
 have H:∀i:Nat,∃p:V2 K,∀v,l[i]?=some v->Gv G S N 1 v p:=λi=>by
  cases hv:l[i]? with
  | none=>exact⟨vz K,nofun⟩
  | some v =>
   obtain⟨p,hp⟩:=W.gv (hm v (W0i hv))
   exact⟨p,λv' e=>by cases e;exact hp⟩
 obtain⟨g,hg⟩:=W5g H
 refine Lo (λi:Nat=>[(2,.ptr 2 0),(4,.ptr 4 0),(7,.d (dVs l)),(9,.d (.int .i64 i))]) (λ_=>[(2,.var (.d (dCb ops at' ts))),(4,.var zA)]) (λi=>i<=l.length) (λi=>l.length-i) 0 [] rfl (W0y _) (λi hi=>?_)
 refine By rfl (λh=>?_) λh=>?_<;>rw[lm] at h
 . obtain⟨x,hx⟩:∃x,l[i]?=some x:=⟨_,W0c (by omega)⟩
   refine Ix i rfl (mp hx) ?_
   refine By rfl (λh2=>?_) λh2=>?_
   . exact Rt rfl R0n no
   refine Ix i rfl (mp hx) ?_
   refine By rfl (λh2=>?_) λh2=>?_
   . exact Rt rfl R0n no
   refine Ar (i+1:Nat) rfl ?_
   exact Bk (i+1) [] rfl (by omega) (by show l.length-(i+1)<l.length-i;omega)
 refine Ca rfl (Polygon_g W.w hg (by omega) h8 ⟨by decide,by decide⟩) λr hr=>?_
 obtain⟨z0,rfl,hz0⟩:=hr
 refine Cu (some 1000002) (λ(o,e)=>[(4,.ptr 4 0),(7,.d (dVs l)),(10,.ptr 10 0),(11,.d (.int .i64 e))]) (λ((o,e):Option (Nm×List Sn)×Int)=>[(4,.var zA),(10,.var (.d (aoD o)))]) (λ_=>True) rfl ?_ λ(o,e) _=>?_
 . refine Lo (λ((k,o,e):Nat×Option (Nm×List Sn)×Int)=>[(2,.ptr 2 0),(4,.ptr 4 0),(7,.d (dVs l)),(10,.ptr 10 0),(11,.d (.int .i64 e)),(12,.d (.int .i64 k))]) (λ(k,o,e)=>[(2,.var (.d (dCb ops at' ts))),(4,.var zA),(10,.var (.d (aoD o)))]) (λ(k,o,e)=>k<=ts.length/\(e=0->∃z L a,o=some (z,L)/\Gd G S N (130+k) z a/\L.length<=k/\∀s∈L,SG G S N (Uf k) s)) (λ(k,_,_)=>ts.length-k) (0,some (z0,[]),0) [] rfl ⟨W0y _,λ_=>⟨z0,[],_,rfl,hz0,W0a _,nofun⟩⟩ (λ(k,o,e) ⟨hk,hI⟩=>?_)
   have hk:k<=ts.length:=hk
   refine By rfl (λh=>?_) λh=>?_<;>rw[tl] at h
   rotate_left
   . exact Jn (o,e) [] rfl trivial
   refine Ar (k+1:Nat) rfl ?_
   refine By rfl (λh5=>?_) λh5=>?_<;>rw[lm] at h5
   rotate_left
   . exact Jn (o,e) [] rfl trivial
   refine By rfl (λh6=>?_) λh6=>?_
   rotate_left
   . exact Jn (o,e) [] rfl trivial
   have h6:e=0:=h6
   subst h6
   obtain⟨z,L,a,rfl,hzz,hL,hs⟩:=hI rfl
   have hU:=Ymo (k:=k) (by omega)
   have next:(some (z,L):Option (Nm×List Sn))=some (z,L)/\Gd G S N (130+(k+1)) z a/\L.length<=k+1/\∀s∈L,SG G S N (Uf (k+1)) s:=⟨rfl,hzz.mono (by omega),by omega,λs h=>(hs s h).mono (by show Uf k<=2*(Uf k+4);omega)⟩
   have dec:ts.length-(k+1)<ts.length-k:=by omega
   obtain⟨w,hw⟩:∃w,ts[k]?=some w:=⟨_,W0c (by omega)⟩
   obtain⟨x,hx⟩:∃x,l[k]?=some x:=⟨_,W0c (by omega)⟩
   obtain⟨y,hy⟩:∃y,l[k+1]?=some y:=⟨_,W0c (by omega)⟩
   refine Ix k rfl (Yci hw) ?_
   refine By rfl (λh7=>?_) λh7=>?_
   . exact Rt rfl R0n no
   refine Ix k rfl (Yci hw) ?_
   refine By rfl (λh8=>?_) λh8=>?_
   . exact Rt rfl R0n no
   refine Dw rfl ?_
   refine Ix k rfl (mp hx) ?_
   refine Ar (k+1:Nat) rfl ?_
   refine Ix (k+1) rfl (mp hy) ?_
   refine Ca rfl (Yb5 W.w (hg k x hx) (hg (k+1) y hy) (by decide)) λv hv=>?_
   rcases hv with ⟨n1,d,rfl,hd⟩ | ⟨_,rfl⟩
   . refine Dw rfl ?_
     refine Ix k rfl (mp hx) ?_
     refine Ar (k+1:Nat) rfl ?_
     refine Ix (k+1) rfl (mp hy) ?_
     refine Cn [(1000001,115)] rfl (R15.Far_g W.w (hg k x hx) (hg (k+1) y hy) (by decide)) λv hv=>?_
     obtain⟨f,rfl,hf⟩:=hv
     refine No rfl (by decide) ?_
     refine No rfl (by decide) ?_
     refine Ce rfl (R9.Sign_g W.w hf (by decide)) ?_
     refine By rfl (λh9=>?_) λh9=>?_
     . refine Ar (k+1:Nat) rfl ?_
       exact Bk (k+1,some (z,L),0) [] rfl ⟨by omega,λ_=>⟨z,L,a,next⟩⟩ dec
     refine Ix k rfl (Yci hw) ?_
     refine Dw rfl ?_
     refine Ca rfl (Xbd (f:=w) W.w W.w hf hd (by decide) (by decide)) λr hr=>?_
     rcases hr with ⟨_,rfl⟩ | ⟨_,q,rfl,hq⟩
     . refine Ca rfl (Ymy W.w hzz (Ydm W.w) (by omega) (by decide) hs) λr hr=>?_
       rcases hr with ⟨e,he,rfl⟩ | ⟨z',L',rfl,hz',hL',hs'⟩
       . refine Ar (k+1:Nat) rfl ?_
         exact Bk (k+1,none,e) [] rfl ⟨by omega,λh=>absurd h he⟩ dec
       . refine Ar (k+1:Nat) rfl ?_
         exact Bk (k+1,some (z',L'),0) [] rfl ⟨by omega,λ_=>⟨z',L',_,rfl,hz',by omega,λs h=>(hs' s h).mono (by show Uf k<=2*(Uf k+4);omega)⟩⟩ dec
     . refine Ca rfl (Ymx W.w hU hzz (Ydm W.w) (by omega) (by decide) hs (by omega) ⟨⟨_,hq.mono (by decide)⟩,⟨_,hd⟩,by show few w;unfold few;omega⟩) λr hr=>?_
       rcases hr with ⟨e,he,rfl⟩ | ⟨z',L',rfl,hz',hL',hs'⟩
       . refine Ar (k+1:Nat) rfl ?_
         exact Bk (k+1,none,e) [] rfl ⟨by omega,λh=>absurd h he⟩ dec
       . refine Ar (k+1:Nat) rfl ?_
         exact Bk (k+1,some (z',L'),0) [] rfl ⟨by omega,λ_=>⟨z',L',_,rfl,hz',by omega,hs'⟩⟩ dec
   . refine Dw rfl ?_
     refine Ix k rfl (mp hx) ?_
     refine Ar (k+1:Nat) rfl ?_
     refine Ix (k+1) rfl (mp hy) ?_
     refine Cn [(1000001,115)] rfl (R15.Far_g W.w (hg k x hx) (hg (k+1) y hy) (by decide)) λv hv=>?_
     obtain⟨f,rfl,hf⟩:=hv
     refine Yes rfl (by decide) ?_
     refine Ar (k+1:Nat) rfl ?_
     exact Bk (k+1,some (z,L),0) [] rfl ⟨by omega,λ_=>⟨z,L,a,next⟩⟩ dec
 rcases o with _ | ⟨z,L⟩
 . exact Rt rfl (.tup (.cons (.rf rfl) (.cons (.rf rfl) Xmu))) ⟨_,_,[],l,_,rfl,λ_=>⟨⟨h1,h8⟩,K,G,S,N,W,hm⟩⟩
 . exact Rt rfl (.tup (.cons (.rf rfl) (.cons (.rf rfl) Xmu))) ⟨_,_,L,l,_,rfl,λ_=>⟨⟨h1,h8⟩,K,G,S,N,W,hm⟩⟩
end Go.Proofs.YtgpipgjbkggjpaaGreatDoor.R20
namespace Go.Proofs.YtgpipgjbkggjpaaGreatDoor
open Go Go.Vm Go.Num
theorem Xrz{t:TypeId}(ht:Tryz.prog.underlying t=some (.slice 3)): Reads Tryz.prog t λd=>∃ts:List Int,d=.sl 1 (ts.map λz=>.int .i64 z)/\ts.length<9223372036854775808/\∀z∈ts,-9223372036854775808<=z/\z<9223372036854775808 :=
 (Xe9 ht (Xub Tryz.underlying3) (sz:=1) (by kernel_rfl) (by decide)).mono λd ⟨l,e,hl,h⟩=>by
  obtain⟨m,hm⟩:=Ylm (f:=λn:{n:Int // -9223372036854775808<=n/\n<9223372036854775808}=>(D.int .i64 n.val:D)) λy hy=>let ⟨n,e,h1,h2⟩:=h y hy;⟨⟨n,h1,h2⟩,e⟩
  refine⟨m.map (·.val),by rw[e,hm,List.map_map];rfl,by rw[W0l];rw[hm,W0l] at hl;exact hl,λz hz=>?_⟩
  obtain⟨x,_,rfl⟩:=W3v.1 hz
  exact x.2
theorem Xyj: Reads Tryz.prog 59 λd=>∃ops l ts,d=R20.dCb ops l ts/\ts.length<9223372036854775808/\∀z∈ts,-9223372036854775808<=z/\z<9223372036854775808 :=
 (Xd8 Tryz.underlying59 (.cons (n:=2) rfl Xjl (by kernel_rfl) (.one rfl (Xrz Tryz.underlying57))) (λf hf=>by cases hf;kernel_rfl)).mono λd hd=>by
  obtain⟨_,rfl,_,_,rfl,⟨ops,l,rfl⟩,⟨ts,rfl,h1,h2⟩⟩:=hd
  exact⟨ops,l,ts,rfl,h1,h2⟩
theorem Yjh: Arg Tryz.prog 59 λd=>∃ops l ts,d=R20.dCb ops l ts/\ts.length<9223372036854775808/\∀z∈ts,-9223372036854775808<=z/\z<9223372036854775808:=Xj7 Tryz.underlying59 Xyj λx ⟨_,_,_,e,_⟩=>by rw[e];rfl
end Go.Proofs.YtgpipgjbkggjpaaGreatDoor
namespace Go.Vm
open Go
variable{c:Cx}{s:St}{p:Pl}
noncomputable def Ynn(tb:Nat->Option TI)(n:Nat)(s:St): Option (Pl×Oper×Operand×Operand×TypeId×TypeId×TI×Nat×Nat×List D):=match nxO tb n s with
 | some (p,o)=>match o.op,p.dr with
  | .call ⟨.builtin .append,⟨[x,y]⟩,⟨[T,T']⟩⟩,false=>match Xcw (look p.E) x,Xcw (look p.E) y,tb T,Nat.beq T T',look p.H (o.dst.getD 0) with
   | some (.lit s0 []),some (.d (.sl s1 ys)),some ti,true,none=>match ti.z,Nat.ble ti.eb 1024 with
    | .sl sz _,true=>match Nat.beq s1 sz with
     | true=>some (p,o,x,y,T,T',ti,s0,sz,ys)
     | false=>none
    | _,_=>none
   | _,_,_,_,_=>none
  | _,_=>none
 | none=>none
theorem You{o:Oper}{x y:Operand}{T T':TypeId}{ti:TI}{s0 sz:Nat}{ys:List D}(zs:List D)(h:Ynn c.tb c.n s=some (p,o,x,y,T,T',ti,s0,sz,ys))(hz:ys=zs)(hr:zs.length<=137438953472)(k:p.nx' c (.gr (o.dst.getD 0) sz zs) [(o.dst.getD 0,.tok zs.length sz)]): StP c s:=by
 subst hz
 unfold Ynn at h
 split at h<;>try cases h
 rename_i p' o' ho
 split at h<;>try cases h
 rename_i x' y' T1 T2 hop hdr
 split at h<;>try cases h
 rename_i s0' s1 ys' ti' hx hy hti hT hd
 split at h<;>try cases h
 rename_i sz' xs0 hzz he
 split at h<;>cases h
 rename_i hs
 have hs:=W0d hs
 subst hs
 have hT:=W0d hT
 subst hT
 have he:=W1e he
 refine Xr4 ho (by unfold Xao;rw[hop];rfl) hdr (λN W θ ρ _ hO hN hB hv=>?_) k
 have hF:F c.tb (o.dst.getD 0) (look p.H) (.call ⟨.builtin .append,#[x,y],#[T,T]⟩) [.nil,.d (.sl s1 ys)]=some (.gr (o.dst.getD 0) s1 ys,[(o.dst.getD 0,.tok ys.length s1)]):=by
  simp[F,hti,hd,hzz,Xjh,toD,Xj9,Xd7 hr he]
 obtain⟨q,e,_⟩:=Xo2 (hv _ _ hx)
 have A:=Yb3 (d:=o.dst) (ty:=o.type) (pos:=o.pos) (aft:=o.after) (gd:=o.guard) (W:=W) (θ:=θ) (ρ:=ρ) c.hT hO hN hB hF ⟨⟨by rw[e];exact⟨_,⟨_,rfl⟩,rfl⟩,λ_ h=>h.elim⟩,⟨hv _ _ hy,λ_ h=>h.elim⟩,trivial⟩
 obtain⟨d,op,ty,ps,af,gu⟩:=o
 cases hop
 exact A
end Go.Vm
namespace Go.Proofs.YtgpipgjbkggjpaaGreatDoor.P20
open Go Go.Vm Go.Num Go.Tow Go.Proofs.YtgpipgjbkggjpaaGreatDoor
section
variable{K:Nat}{G:Tw K}{S:List (Tow.El K)}{N:List Nm}{n m:Nat}{x y z:Nm}{a b:Tow.El K}
theorem Ymq(W:Wn G S N)(hx:Gd G S N n x a)(hn:n<=190): C0 19 [.d (dAr x [])] (λr=>∃z,r=.d (dAr z [])/\Gd G S N n z (Tow.neg K a)):=by
 refine En Tryz.func19 λ_ _ _=>?_
 refine Ca rfl (R9.Neg_g W hx hn) λv hv=>?_
 obtain⟨z,rfl,hz⟩:=hv
 refine Lo (λ_:Unit=>[(1,.ptr 1 0),(2,.ptr 2 0),(3,.ptr 3 0),(4,.d (.int .i64 0))]) (λ_=>[(1,.var (.d (dAr x []))),(2,.var zA),(3,.var (.st (.pr (.d (dN z)) .nil)))]) (λ_=>True) (λ_=>0) () [] rfl trivial (λ_ _=>?_)
 refine No rfl (show ¬(0:Int)<((0:Nat):Int) by decide) ?_
 exact Rt rfl (.one (.sd (.pd (.rf rfl) (.nil rfl))) rfl rfl) ⟨z,rfl,hz⟩
end
theorem AreaPolygon_ok{ops:List RO}{at':List (Fin 256)}{ts:List Int}{s:Nat}(ht:ts.length<9223372036854775808)(hz:∀z∈ts,-9223372036854775808<=z/\z<9223372036854775808)(hs:s<256): C0 4 [.d (R20.dCb ops at' ts),.d (.int .u8 s)] (·=.b true):=by
 refine En Tryz.func4 λ_ _ _=>?_
 refine Ce rfl Xrk ?_
 refine No rfl nofun ?_
 refine Ca rfl (R20.Build_g ht hz) λv hv=>?_
 obtain⟨a,b,L,l,c,rfl,hc⟩:=hv
 refine By rfl (λh=>?_) λh=>?_
 . exact R0
 have h:c=true:=by simpa using h
 obtain⟨⟨h1,h8⟩,K,G,S,N,W,hm⟩:=hc h
 have lm:(l.map dV).length=l.length:=W0l ..
 have H:∀i:Nat,∃p:V2 K,∀v,l[i]?=some v->Gv G S N 1 v p:=λi=>by
  cases hv:l[i]? with
  | none=>exact⟨vz K,nofun⟩
  | some v =>
   obtain⟨p,hp⟩:=W.gv (hm v (W0i hv))
   exact⟨p,λv' e=>by cases e;exact hp⟩
 obtain⟨g,hg⟩:=W5g H
 refine Ca rfl (R20.Polygon_g W.w hg (by omega) h8 ⟨by decide,by decide⟩) λr hr=>?_
 obtain⟨zr,rfl,hzr⟩:=hr
 refine You (l.map dV) rfl rfl (by rw[lm];omega) ?_
 refine Ca rfl (Polygon_g W.w hg (by omega) h8 ⟨by decide,by decide⟩) λr hr=>?_
 obtain⟨zp,rfl,hzp⟩:=hr
 refine No rfl (by decide) ?_
 refine Ce rfl (Xv1 W.w hzp hzr (by decide) (by decide)) ?_
 refine No rfl (λh=>h rfl) ?_
 obtain⟨r,hr⟩:∃r,s%l.length=r:=⟨_,rfl⟩
 have hrl:r<l.length:=hr ▸ W1q _ (by omega)
 refine Go.Vm.Cv (s:Nat) rfl ?_ (wI (by omega))
 refine Ar (r:Nat) rfl ?_ (by rw[lm,<-hr];exact remN _ (by omega))
 refine Nl 13 13 4 rfl ?_
 refine Nl 14 14 4 rfl ?_
 refine Lo (λ((k,A,B):Nat×List Vn×List Vn)=>[(4,.b false),(6,.d (dVs l)),(8,.ptr 8 0),(12,.d (.int .i64 r)),(13,.gr 13 4 (A.map dV)),(14,.gr 14 4 (B.map dV)),(58,.d (.int .i64 ((l.map dV).length:Nat))),(59,.d (.int .i64 k))]) (λ(k,A,B)=>[(8,.var (.d (dAr zr []))),(13,.tok (A.map dV).length 4),(14,.tok (B.map dV).length 4)]) (λ(k,A,B)=>k<=l.length/\(A.length=k/\B.length=k)/\(∀(i:Nat) v,A[i]?=some v->Gv G S N 2 v (Xkf (g ((i+r)%l.length)) (g r)))/\∀(i:Nat) v,B[i]?=some v->Gv G S N 1 v (g (l.length-1-i))) (λ(k,_,_)=>l.length-k) (0,[],[]) [] rfl ⟨W0y _,⟨rfl,rfl⟩,nofun,nofun⟩ (λ(k,A,B) ⟨hk,⟨hA,hB⟩,hAg,hBg⟩=>?_)
 have hk:k<=l.length:=hk
 have hA:A.length=k:=hA
 have hB:B.length=k:=hB
 refine By rfl (λh=>?_) λh=>?_<;>rw[lm] at h
 . have h:(k:Int)<l.length:=h
   obtain⟨u,hu⟩:∃u,l[(k+r)%l.length]?=some u:=⟨_,W0c (W1q _ (by omega))⟩
   obtain⟨w,hw⟩:∃w,l[r]?=some w:=⟨_,W0c hrl⟩
   obtain⟨y,hy⟩:∃y,l[l.length-1-k]?=some y:=⟨_,W0c (by omega)⟩
   refine Dw rfl ?_
   refine Ar (k+r:Nat) rfl ?_
   refine Ar ((k+r)%l.length:Nat) rfl ?_ (by rw[lm];exact remN _ (by omega))
   refine Ix ((k+r)%l.length) rfl (mp hu) ?_
   refine Ix r rfl (mp hw) ?_
   refine Ca rfl (R13.Add_g W.w (hg _ u hu) (hg _ w hw) (by decide) (by decide)) λv hv=>?_
   obtain⟨v,rfl,hv⟩:=hv
   refine ApG ((A++[v]).map dV) rfl (by simp) (by simp;omega) ?_
   refine Ar (l.length-1:Nat) rfl ?_ (wr (by rw[lm];omega) (by simp only[inK];omega))
   refine Ar (l.length-1-k:Nat) rfl ?_ (wr (by omega) (by simp only[inK];omega))
   refine Ix (l.length-1-k) rfl (mp hy) ?_
   refine ApG ((B++[y]).map dV) rfl (by simp) (by simp;omega) ?_
   refine Ar (k+1:Nat) rfl ?_
   refine Bk (k+1,A++[v],B++[y]) [(82,13),(93,14)] rfl ⟨by show k+1<=l.length;omega,⟨by simp[hA],by simp[hB]⟩,λi x hx=>?_,λi x hx=>?_⟩ (by show l.length-(k+1)<l.length-k;omega)
   . rcases Nat.lt_or_ge i A.length with hi | hi
     . exact hAg i x (by rwa[W0x hi] at hx)
     . rw[W0o hi] at hx
       obtain⟨hi0,rfl⟩:=Yj4 hx
       obtain rfl:i=k:=by omega
       exact hv
   . rcases Nat.lt_or_ge i B.length with hi | hi
     . exact hBg i x (by rwa[W0x hi] at hx)
     . rw[W0o hi] at hx
       obtain⟨hi0,rfl⟩:=Yj4 hx
       obtain rfl:i=k:=by omega
       exact hg _ y hy
 . have h:¬(k:Int)<l.length:=h
   obtain rfl:k=l.length:=by omega
   refine Ca rfl (Polygon_g (n:=2) W.w hAg (by omega) (by omega) ⟨by decide,by decide⟩) λt ht=>?_
   obtain⟨za,rfl,hza⟩:=ht
   refine Ca rfl (Polygon_g (n:=1) W.w hBg (by omega) (by omega) ⟨by decide,by decide⟩) λt ht=>?_
   obtain⟨zb,rfl,hzb⟩:=ht
   rw[hA,Yg4] at hza
   rw[hB,Xyr] at hzb
   refine Dw rfl ?_
   refine Yes rfl (by decide) ?_
   refine Yes rfl (by decide) ?_
   refine Ce rfl (Xv1 W.w hza hzr (by decide) (by decide)) ?_
   refine Yes rfl rfl ?_
   refine Ca rfl (Ymq W.w hzr (by decide)) λt ht=>?_
   obtain⟨zn,rfl,hzn⟩:=ht
   have L:=Xaw K G
   refine Ce rfl (Xv1 W.w hzb (a:=Tow.mul K G (Tow.neg K (pgn G g l.length)) (Tow.rat K hf2)) (by
    have e:Tow.neg K (Tow.mul K G (pgn G g l.length) (Tow.rat K hf2))=Tow.mul K G (Tow.neg K (pgn G g l.length)) (Tow.rat K hf2):=(L.nm ..).symm
    rw[<-e]
    exact hzn) (by decide) (by decide)) ?_
   exact R0
end Go.Proofs.YtgpipgjbkggjpaaGreatDoor.P20

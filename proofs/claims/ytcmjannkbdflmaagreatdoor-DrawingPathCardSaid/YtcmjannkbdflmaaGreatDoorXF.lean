/- part 6 -/
import Derived.Test.YtcmjannkbdflmaaGreatDoorXE
import Derived.RangeFuncCalls
set_option linter.unusedVariables false
set_option linter.unusedSimpArgs false
set_option maxRecDepth 100000
set_option maxHeartbeats 4000000
namespace Go.Proofs.YtcmjannkbdflmaaGreatDoor
open Go Go.Vm Go.Num Go.Proofs Go.Shelf Go.RowKit
section
def pa6: Option (List Nat)->AV
 | none=>.nil
 | some w=>.own 600 1 0 w.length
def paH: Option (List Nat)->Hpl
 | none=>[(2,.var (.st (.pr (.b false) .nil)))]
 | some w=>[(2,.var (.st (.pr (.b false) .nil))),(600,.arr 1 (w.map wd))]
def paI(s d:List UInt8): Option (List Nat)->Prop
 | none=>d=s
 | some w=>∃u,s=u++d/\w=dig (Xb7 u)/\0<Xb7 u
theorem Ybn{c:Nat}(h:c<4294967296)(h0:0<c): dig c=[c]:=by
 have j:val [c]=c:=by simp[val]
 have:=Xdg (l:=[c]) (λx i=>by rw[W0f.1 i];exact h) (Xfp (λx i=>by rw[W0f.1 i];exact h) (by simp) (by rw[j];have:4294967296^([c].length-1)=1:=rfl;omega))
 rwa[j] at this
theorem Xl7{l:List UInt8}(h:∀b∈l,Xhh b): (dig (Xb7 l)).length<=l.length :=
 Xaq (W0u (Xiy h) (W6f (by decide) _))
theorem Yca{s:List UInt8}(hs:∀b∈s,Xhh b)(hl:s.length<=65536)(h0:∃b l,s=b::l/\48<b.toNat): C0 167 [.d (.str s)] (·=.tup (.pr (.d (dz (Xb7 s))) (.d (.int .i64 0)))):=by
 obtain⟨b,l,T,hb⟩:=h0
 have hcp:C0 63 [.d (.str s),.d (.str [45])] (·=.tup (.pr (.d (.str s)) (.b false))):=by
  have hn:¬s.take [(45:UInt8)].length=[45]:=λe=>by
   rw[T] at e
   have:b=45:=by simpa using e
   rw[this] at hb;exact absurd hb (by decide)
  refine(Xem (s:=s) (t:=[45]) (by show s.length<_;omega) (by decide)).mono λv hv=>?_
  rw[hv,if_neg hn]
  congr 3
  exact W2p.2 λe=>hn (Xal.1 e)
 refine En Tryz.func167 λ_ _ _=>?_
 refine No rfl (by omega)<|Ce rfl hcp<|No rfl (by rw[T];simp)<|Yx 0 b rfl (by rw[T];rfl) ?_
 refine No rfl (λe=>by omega)<|Lo (λ((d,o):List UInt8×Option (List Nat))=>[(2,.ptr 2 0),(3,.d (.int .i64 0)),(4,.d (.str d)),(5,.b false),(6,pa6 o)]) (λ(_,o)=>paH o)
  (λ(d,o)=>d.length<=s.length/\(∀b∈d,Xhh b)/\paI s d o) (λ(d,_)=>d.length) (s,none) [] rfl ⟨W0c _,hs,rfl⟩ ?_ (by exact⟨rfl,rfl,rfl,rfl,rfl⟩)
 rintro⟨d,o⟩ ⟨hdl,A,hI⟩
 cases o with
 | none =>
  refine By rfl (λB=>?_) λB=>?_
  . obtain⟨n,hn⟩:∃n,n=(d.length-1)%9+1:=⟨_,rfl⟩
    refine Ar (d.length-1:Nat) rfl ?_
    refine Ar ((d.length-1)%9:Nat) rfl ?_ (reN (b:=9) (by decide) rfl)
    refine Ar (n:Nat) rfl ?_
    have hnl:n<=d.length:=by omega
    refine Lo (λ(i:Nat)=>[(2,.ptr 2 0),(3,.d (.int .i64 0)),(4,.d (.str d)),(5,.b false),(6,pa6 (none)),(7,.d (.int .i64 n)),(8,.d (.int .u64 (Xb7 (d.take i):Nat))),(9,.d (.int .u64 (10^i:Nat))),(46,.d (.int .i64 n)),(47,.d (.int .i64 i))]) (λ_=>paH (none)) (λi=>i<=n) (λi=>n-i) 0 [] rfl (W0s _) ?_ (by exact⟨rfl,rfl,rfl,rfl,rfl⟩)
    intro i hi
    have I:∀j,j<=n->Xb7 (d.take j)<10^j/\10^j<=10^9:=λj hj=>by
     have:=Xiy (l:=d.take j) λb hb=>A b (W5f hb)
     rw[W0k,W2d (by omega)] at this
     exact⟨this,W0m (by decide) (by omega)⟩
    refine By rfl (λU=>?_) λU=>?_
    . obtain⟨x,V⟩:∃x,d[i]?=some x:=⟨_,W0a (by omega)⟩
      have hxd:=A x (W0e V)
      unfold Xhh at hxd
      have hsn:d.take (i+1)=d.take i++[x]:=by rw[W1c,V];rfl
      have hv:=Xb5 (d.take i) x
      rw[<-hsn] at hv
      have h1:=I i (by omega)
      have h2:=I (i+1) (by omega)
      refine Yx i x rfl V ?_
      refine No rfl (by omega)<|No rfl (by omega)<|Ar (10*Xb7 (d.take i):Nat) rfl ?_
      refine Ar (x.toNat-48:Nat) rfl ?_
      refine Go.Vm.Cv (x.toNat-48:Nat) rfl ?_
      refine Ar (Xb7 (d.take (i+1)):Nat) rfl ?_
      refine Ar (10^(i+1):Nat) rfl ?_ (wr (by rw[W0q];simp) (by simp only[inK];omega))
      refine Ar (i+1:Nat) rfl ?_
      exact Bk (i+1) [] rfl (show i+1<=n by omega) (show n-(i+1)<n-i by omega) (by exact⟨rfl,rfl,rfl,rfl,rfl⟩)
    . have hin:i=n:=by omega
      subst hin
      obtain⟨Z,h⟩:∃c,c=Xb7 (d.take i):=⟨_,rfl⟩
      obtain⟨F,hF⟩:∃F,F=10^i:=⟨_,rfl⟩
      have h1:=I i (W0c _)
      rw[<-h,<-hF] at h1
      have hds:d=s:=hI
      refine Lo (λ(_:Unit)=>[(2,.ptr 2 0),(3,.d (.int .i64 0)),(4,.d (.str d)),(5,.b false),(6,.nil),(7,.d (.int .i64 i)),(8,.d (.int .u64 Z)),(70,.d (.int .i64 0)),(71,.d (.int .i64 0))]) (λ_=>[(2,.var (.st (.pr (.b false) .nil)))]) (λ_=>True) (λ_=>0) () [] rfl trivial ?_ (by exact⟨by rw[h];rfl,rfl,rfl,rfl,rfl⟩)
      intro _ _
      refine No rfl (by decide) ?_
      have hcp:0<Z:=by
       rw[h,hds,T]
       obtain⟨q,hq⟩:∃q,i=q+1:=⟨i-1,by omega⟩
       rw[hq,List.take_succ_cons]
       exact Ybh hb
      refine Yes rfl (by omega)<|Go.Vm.Cv Z rfl ?_
      refine ApW rfl (by simp) (by simp) ?_
      refine Sdp i (d.drop i) rfl (by omega) rfl ?_
      refine Bk (d.drop i,some [Z]) [(97,600)] rfl ⟨by simp only[W1n];omega,λb hb=>A b (W6s hb),d.take i,by rw[<-hds,W3w],by rw[<-h,Ybn (by omega) hcp],by rw[<-h];exact hcp⟩ (by show (d.drop i).length<d.length;rw[W1n];omega) (by exact⟨rfl,rfl,rfl,rfl,rfl⟩)
  . exact absurd (show d=s from hI) (λe=>by rw[e,T] at B;simp at B)
 | some w =>
  obtain⟨u,hu,hw,hv0⟩:=hI
  refine By rfl (λB=>?_) λB=>?_
  . obtain⟨n,hn⟩:∃n,n=(d.length-1)%9+1:=⟨_,rfl⟩
    refine Ar (d.length-1:Nat) rfl ?_
    refine Ar ((d.length-1)%9:Nat) rfl ?_ (reN (b:=9) (by decide) rfl)
    refine Ar (n:Nat) rfl ?_
    have hnl:n<=d.length:=by omega
    refine Lo (λ(i:Nat)=>[(2,.ptr 2 0),(3,.d (.int .i64 0)),(4,.d (.str d)),(5,.b false),(6,pa6 (some w)),(7,.d (.int .i64 n)),(8,.d (.int .u64 (Xb7 (d.take i):Nat))),(9,.d (.int .u64 (10^i:Nat))),(46,.d (.int .i64 n)),(47,.d (.int .i64 i))]) (λ_=>paH (some w)) (λi=>i<=n) (λi=>n-i) 0 [] rfl (W0s _) ?_ (by exact⟨rfl,rfl,rfl,rfl,rfl⟩)
    intro i hi
    have I:∀j,j<=n->Xb7 (d.take j)<10^j/\10^j<=10^9:=λj hj=>by
     have:=Xiy (l:=d.take j) λb hb=>A b (W5f hb)
     rw[W0k,W2d (by omega)] at this
     exact⟨this,W0m (by decide) (by omega)⟩
    refine By rfl (λU=>?_) λU=>?_
    . obtain⟨x,V⟩:∃x,d[i]?=some x:=⟨_,W0a (by omega)⟩
      have hxd:=A x (W0e V)
      unfold Xhh at hxd
      have hsn:d.take (i+1)=d.take i++[x]:=by rw[W1c,V];rfl
      have hv:=Xb5 (d.take i) x
      rw[<-hsn] at hv
      have h1:=I i (by omega)
      have h2:=I (i+1) (by omega)
      refine Yx i x rfl V ?_
      refine No rfl (by omega)<|No rfl (by omega)<|Ar (10*Xb7 (d.take i):Nat) rfl ?_
      refine Ar (x.toNat-48:Nat) rfl ?_
      refine Go.Vm.Cv (x.toNat-48:Nat) rfl ?_
      refine Ar (Xb7 (d.take (i+1)):Nat) rfl ?_
      refine Ar (10^(i+1):Nat) rfl ?_ (wr (by rw[W0q];simp) (by simp only[inK];omega))
      refine Ar (i+1:Nat) rfl ?_
      exact Bk (i+1) [] rfl (show i+1<=n by omega) (show n-(i+1)<n-i by omega) (by exact⟨rfl,rfl,rfl,rfl,rfl⟩)
    . have hin:i=n:=by omega
      subst hin
      obtain⟨Z,h⟩:∃c,c=Xb7 (d.take i):=⟨_,rfl⟩
      obtain⟨F,hF⟩:∃F,F=10^i:=⟨_,rfl⟩
      have h1:=I i (W0c _)
      rw[<-h,<-hF] at h1
      have hww:Xao w:=by rw[hw];exact Xad _
      have hvw:val w=Xb7 u:=by rw[hw,Xaf]
      have hwl:w.length<=65536:=by
       rw[hw]
       refine W0l (Xl7 λb hb=>hs b (by rw[hu];exact W2l _ hb)) ?_
       rw[hu,W0d] at hl
       omega
      refine Lo (λ((j,lo,O):Nat×List Nat×Nat)=>[(2,.ptr 2 0),(3,.d (.int .i64 0)),(4,.d (.str d)),(5,.b false),(6,.own 600 1 0 w.length),(7,.d (.int .i64 i)),(8,.d (.int .u64 O)),(9,.d (.int .u64 F)),(70,.d (.int .i64 w.length)),(71,.d (.int .i64 j))]) (λ(_,lo,_)=>[(2,.var (.st (.pr (.b false) .nil))),(600,.arr 1 (lo.map wd))])
       (λ(j,lo,O)=>j<=w.length/\lo.length=w.length/\Xao lo/\O<F/\val (lo.take j)+4294967296^j*O=val (w.take j)*F+Z/\lo.drop j=w.drop j) (λ(j,_,_)=>w.length-j) (0,w,Z) [] rfl ⟨W0s _,rfl,hww,h1.1,by simp[val],rfl⟩ ?_ (by exact⟨by rw[h,hF];rfl,rfl,rfl,rfl,rfl⟩)
      rintro⟨j,lo,O⟩ ⟨hj,Y,Q,hcr,hval,hdr⟩
      refine By rfl (λU=>?_) λU=>?_
      . obtain⟨x,V⟩:=xat (l:=lo) (k:=j) (by omega)
        have hxb:=ww V Q
        have hxw:w[j]?=some x:=by
         have:=congrArg (λl=>l[0]?) hdr
         simpa [V] using this.symm
        have hxF:x*F<=4294967295*F:=W0x F (by omega)
        obtain⟨s1,hs1⟩:∃s1,s1=O+x*F:=⟨_,rfl⟩
        have hs1b:s1<4294967296*F:=by omega
        refine Eo j rfl (by omega)<|Ld (wd x) rfl (mp V) ?_
        refine Go.Vm.Cv x rfl ?_
        refine Ar (x*F:Nat) rfl ?_ (wr (W2z ..).symm (by simp only[inK];omega))
        refine Ar s1 rfl ?_
        refine Go.Vm.Cv (s1%4294967296:Nat) rfl ?_ (by rw[wWm];omega)
        refine Eo j rfl (by omega)<|Sto rfl (by simp;omega) ms ?_
        refine Ar (s1/2^32:Nat) rfl ?_ (Xh2 (n:=32) (by decide))
        refine Ar (j+1:Nat) rfl ?_
        refine Bk (j+1,lo.set j (s1%4294967296),s1/2^32) [] rfl ⟨by omega,by simp[Y],Xgv Q (by omega),W4l (by simpa using hs1b),?_,?_⟩ (by show w.length-(j+1)<w.length-j;omega) (by exact⟨rfl,rfl,rfl,rfl,rfl⟩)
        . rw[Xbd (by omega),Xac hxw,W1i,W0q]
          have h3:4294967296^j*s1=4294967296^j*O+4294967296^j*x*F:=by rw[hs1,W0z,W0t]
          have h4:4294967296^j*(s1%4294967296)+4294967296^j*4294967296*(s1/2^32)=4294967296^j*s1:=by
           rw[W0t,<-W0z]
           congr 1
           omega
          omega
        . rw[List.drop_set_of_lt (by omega)]
          have:=congrArg (List.drop 1) hdr
          rw[W4u,W4u] at this
          exact this
      . have hje:j=w.length:=by omega
        have M:val lo+4294967296^lo.length*O=Xb7 u*F+Z:=by
         rw[hje,W0b (by omega),W0b (W0c _),hvw] at hval
         rw[Y];exact hval
        have hv':Xb7 (u++d.take i)=Xb7 u*F+Z:=by
         rw[Xf6,W0k,W2d hnl,<-hF,<-h]
        have hsd:s=(u++d.take i)++d.drop i:=by rw[W2j,W3w];exact hu
        have hF0:0<F:=by rw[hF];exact W6u (by decide)
        have hgrow:Xb7 u<=Xb7 u*F:=W4k _ hF0
        refine By rfl (λhc=>?_) λhc=>?_
        . refine Go.Vm.Cv O rfl ?_
          refine ApO ((lo++[O]).map wd) rfl rfl (by simp[Y]) (by simp;rfl) (by simp;omega) ?_
          refine Sdp i (d.drop i) rfl (by omega) rfl ?_
          refine Bk (d.drop i,some (lo++[O])) [(97,600)] rfl ⟨by simp only[W1n];omega,λb hb=>A b (W6s hb),u++d.take i,hsd,?_,by omega⟩ (by show (d.drop i).length<d.length;rw[W1n];omega) (by exact⟨by simp only[W0i];rfl,rfl,rfl,rfl,rfl⟩)
          have hva:val (lo++[O])=Xb7 u*F+Z:=by rw[Xcm,<-M];simp[val]
          rw[hv',<-hva]
          refine(Xdg (Q.app (.cons (by omega) .nil)) (Xfp (Q.app (.cons (by omega) .nil)) (by simp) ?_)).symm
          rw[Xcm,W0d,W4g,W3m]
          have:4294967296^lo.length*1<=4294967296^lo.length*val [O]:=W0p _ (by simp[val];omega)
          omega
        . refine Sdp i (d.drop i) rfl (by omega) rfl ?_
          refine Bk (d.drop i,some lo) [] rfl ⟨by simp only[W1n];omega,λb hb=>A b (W6s hb),u++d.take i,hsd,?_,by omega⟩ (by show (d.drop i).length<d.length;rw[W1n];omega) (by exact⟨by simp only[pa6,Y];rfl,rfl,rfl,rfl,rfl⟩)
          have hcr0:O=0:=by omega
          rw[hcr0,W3i,W2r] at M
          rw[hv',<-M]
          have hlb:=Xn0 (n:=Xb7 u) (by omega)
          rw[<-hw] at hlb
          have hl0:0<w.length:=by
           rw[hw];exact W4o.2 λe=>by have:=Xtv.1 e;omega
          exact(Xdg Q (Xfp Q (by omega) (by rw[Y];omega))).symm
  . have B:d=[]:=W2k.1 (by omega)
    subst B
    rw[W3f] at hu
    subst hu
    subst hw
    have hdl:=Xl7 hs
    refine Fz 29 6 ((dig (Xb7 s)).map wd) rfl (by simp) (by rw[W0y,W0b (by simp)]) ?_
    exact Ce rfl (Xak (b:=false) (n:=Xb7 s) (by omega))<|R0t
end
section
theorem Xwx{q n:Nat}{l:List Nat}(B:Xao l)(hq:q+n<=l.length)(I:n<=1099511627776): CN0 116 [.own 1000001 1 q n] [(1000001,.arr 1 (l.map wd))] λv=>∃k,k<=n/\v=.own 1000001 1 q k/\(l.drop q).take k=dig (val ((l.drop q).take n)):=by
 have dtk:∀ {m k:Nat},k<m->((l.drop q).take m)[k]?=l[q+k]?:=λh=>by rw[W1l,if_pos h,W2h]
 have Xze:∀ {m:Nat},q+m<=l.length->((l.drop q).take m).length=m:=λh=>by rw[W0k,W1n];omega
 refine EnW Tryz.func116 λ_ _ _ _=>?_
 refine Lo (λk=>[(0,.own 1000001 1 q k)]) (λ_=>[(1000001,.arr 1 (l.map wd))]) (λk=>k<=n/\val ((l.drop q).take k)=val ((l.drop q).take n)) id n [] rfl ⟨W0c _,rfl⟩ λk ⟨A,i⟩=>?_
 have j:=(B.drop q).take k
 refine By rfl (λh=>?_) λh=>?_
 . obtain⟨u,o⟩:=xat (l:=l) (k:=q+(k-1)) (by omega)
   have hs:=Xac (l:=l.drop q) (k:=k-1) (x:=u) (by rw[W2h];exact o)
   rw[show k-1+1=k by omega,i] at hs
   refine Ar (k-1:Nat) rfl ?_
   refine El (k-1) rfl (by omega) ?_
   refine Ld (wd u) rfl (mp o) ?_
   refine By rfl (λh0=>?_) λh0=>?_
   . refine Ar (k-1:Nat) rfl ?_
     refine Sw 0 (k-1) rfl (by omega) (by omega) ?_
     exact Bk (k-1) [] rfl ⟨by omega,by rw[hs,show u=0 by omega,W3i,W2r]⟩ (show k-1<k by omega)
   . exact Rw [] [(1000001,.arr 1 (l.map wd))] rfl (.one (.rf rfl) rfl rfl) ⟨rfl,k,A,rfl,by rw[<-i,Xdg j (.inr ⟨u,by rw[Xze (by omega),dtk (by omega)];exact o,λe=>h0 (by rw[e];rfl)⟩)]⟩
 . refine Rw [] [(1000001,.arr 1 (l.map wd))] rfl (.one (.rf rfl) rfl rfl) ⟨rfl,k,A,rfl,?_⟩
   rw[show k=0 by omega] at i |-
   rw[<-i,W8i,val,Xaj]
theorem Xmb{l:List Nat}(h0:0<l.length)(i:l.length<=1099511627776): CA0 121 [.d (ws l)] 1 (l.map wd):=by
 refine EnW Tryz.func121 λ_ _ _ _=>?_
 refine Ub rfl (λh=>?_) ?_
 . exact absurd h (by intro e; have:l.length = 0 := by simpa using congrArg List.length e
                      omega)
 refine ApL (l.map wd) rfl rfl (by simpa using h0) (by simpa using i) ?_
 exact Rw [(7,1000000)] [(1000000,.arr 1 (l.map wd))] rfl (.one (.rf rfl) rfl rfl) ⟨_,rfl,rfl,rfl⟩
theorem Xqb: C0 64 [.d (dz 0)] (·=.d (.str [48])):=by
 refine En Tryz.func64 λ_ _ _=>?_
 exact Ce rfl (Xch (n:=0) (by rw[Xaj];decide))<|Ce rfl (Xbl (l:=dig 0) (by rw[Xaj];decide))<|Yes rfl (by rw[Xaj];rfl)<|R0
def Fm9(z x n:Nat)(lo cs:List Nat): Prop:=n<=lo.length/\lo.length<=549755813888/\Xao lo/\lo.take n=dig x/\cks z=cs++cks x
theorem Yia{z x n:Nat}{lo cs:List Nat}(h:Fm9 z x n lo cs): n=(dig x).length:=by
 have:=congrArg List.length h.2.2.2.1
 rw[W0k,W2d h.1] at this
 exact this
end
section
attribute [local go_sem] Oper.semAt_some
abbrev C9:={ x:Nat // x<1000000000 }
def b9(zs:List C9)(k:Nat): List (Nat×C9):=(List.range k).map λj=>(zs.length-1-j,zs[zs.length-1-j]?.getD ⟨0,by decide⟩)
theorem Xys(zs:List C9)(k:Nat): b9 zs (k+1)=b9 zs k++[(zs.length-1-k,zs[zs.length-1-k]?.getD ⟨0,by decide⟩)]:=by simp[b9,W7w]
theorem Xyt(zs:List C9)(k:Nat): (b9 zs k).length=k:=by simp[b9]
set_option maxRecDepth 100000 in
set_option maxHeartbeats 2000000 in
theorem Ymd(F:Fence)(n:Nat)(h8:F.fn 219)(hro:F.round=none)(hn:1<=n)(l Bs n₀ b off cap:Nat)(zs:List C9)(hreach:zs.length*4<=140737488351232)(hb:b<n₀)(J Jx:List (Nat×C9)->World->Prop)
 (hY:∀pre x W,J pre W->pre.length<zs.length->YieldAt F (n-1) Tryz.prog l #[.int .i64 (x.1:Int),.int .u32 (x.2.1:Int)] W λe W' =>
  (e=.returned (.bool true)/\J (pre++[x]) W'/\Kq n₀ Bs W W')\/(e=.returned (.bool false)/\Jx (pre++[x]) W'))
 (W:World) (hBs:W.cell? ⟨Bs,0,none⟩=some (.slice (some ⟨b,off,none⟩) zs.length cap)) (hc:∀j,j<zs.length->W.cell? ⟨b,off+j,none⟩=some (.int .u32 ((zs[j]?.getD ⟨0,by decide⟩).1:Int))) (h0:J [] W) :
 CallsIn F n Tryz.prog 219 #[.func (.yield l) #[] #[],.pointer (some ⟨Bs,0,none⟩)] W λe W'=>(∃v,e=.returned v) /\
  ((∃ys,ys=b9 zs zs.length/\J ys W')\/(∃pre,True/\Jx pre W')):=by
 refine callsIn_of_wp Tryz.func219 rfl h8 ?_ hro
 simp only[Tryz.ntmps219,W6m,W0j,W3e,Nat.reduceAdd,Nat.reduceSub,W5v,W5w,W6n,W6e,W4i,W3q]
 gi_wp2
 gi_loopw [3] (λi wr=>∃k:Nat,k<=zs.length/\i=.int .i64 ((zs.length:Int)-1-k)/\J (b9 zs k) wr/\Kq n₀ Bs W wr)
  (λi _=>(intOf i+1).toNat)
 case atStart=>exact⟨0,W0s _,by simp,h0,Kq.refl _ _ _⟩
 case round =>
  obtain⟨k,hk,rfl,hJs,hnx⟩:=hrel
  have hBs':=(World.cell?_of_block hnx.b).trans hBs
  by_cases hlt:k<zs.length
  . obtain⟨q,hq⟩:∃q,q+(k+1)=zs.length:=⟨zs.length-1-k,by omega⟩
    have hqi:((zs.length:Int)-1-k)=(q:Int):=by omega
    have hcx:=(hnx.a.cell (p:=⟨b,off+q,none⟩) hb).trans (hc q (by omega))
    obtain⟨fn,tmps,assign,body,hy,hR⟩:=hY _ (q,zs[q]?.getD ⟨0,by decide⟩) wr hJs (by rw[Xyt];exact hlt)
    dsimp only at hy
    rw[hqi]
    gi_wp2
    refine hR.mono ?_
    rintro e W3 (⟨rfl,hJ3,hk3⟩ | ⟨rfl,hJx3⟩)
    . gi_wp2
      go_roundw
      case rel=>exact⟨k+1,by omega,by congr 1;omega,by rw[Xys,show zs.length-1-k=q by omega];exact hJ3,hnx.trans hk3⟩
      case measure=>simp[intOf]
    . gi_wp2
      refine bodyPost_ret (results_none rfl _ _ _) rfl ?_
      exact⟨⟨_,rfl⟩,.inr ⟨_,trivial,hJx3⟩⟩
  . obtain rfl:k=zs.length:=by omega
    rw[show ((zs.length:Int)-1-(zs.length:Int))=-1 by omega]
    gi_wp2
    go_end0
    exact⟨⟨_,rfl⟩,.inl ⟨_,rfl,hJs⟩⟩
theorem Xod(F:Fence)(n:Nat)(Q:F.fn 219)(A:F.round=none)(T:1<=n)(Bs h b off cap:Nat)(zs:List C9)(i:zs.length*4<=140737488351232)(w:World)(B:Bs<w.heap.size)(o:h<=w.heap.size)
 (U:w.cell? ⟨Bs,0,none⟩=some (.slice (some ⟨b,off,none⟩) zs.length cap)) (hb:b<h) (I:∀j,j<zs.length->w.cell? ⟨b,off+j,none⟩=some (.int .u32 ((zs[j]?.getD ⟨0,by decide⟩).1:Int))) :
 SeqStopsK F n Tryz.prog 219 #[.pointer (some ⟨Bs,0,none⟩)] (λx:Nat×C9=>#[Value.int .i64 (x.1:Int),Value.int .u32 (x.2.1:Int)]) (Kq h Bs) (λys=>ys=b9 zs zs.length)
  (λ_=>True) zs.length w:=λl J Jx W O _ _ V h0=>by
 have M:=(O.cell (p:=⟨Bs,0,none⟩) B).trans U
 exact Ymd F n Q A T l Bs h b off cap zs i hb J Jx V W M (λj Y=>(O.cell (p:=⟨b,off+j,none⟩) (W0u hb o)).trans (I j Y)) h0
def o9(N:Nat)(sg:List UInt8): List (Nat×C9)->List UInt8:=List.foldl (λt x=>t++(if x.1+1<N then List.replicate (9-(dec x.2.1).length) 48 else [])++dec x.2.1) sg
theorem Xpb(N:Nat)(sg:List UInt8)(pre:List (Nat×C9))(x:Nat×C9): o9 N sg (pre++[x])=o9 N sg pre++(if x.1+1<N then List.replicate (9-(dec x.2.1).length) 48 else [])++dec x.2.1:=by simp[o9]
theorem Yo5(x:C9): (dec x.1).length<=9:=Xel 8 x.1 x.2
theorem Xv2(N:Nat): ∀(pre:List (Nat×C9)) (sg:List UInt8),(o9 N sg pre).length<=sg.length+18*pre.length
 | [],_=>W6a _ _
 | x::l,sg=>by
  have i:=Xv2 N l (sg++(if x.1+1<N then List.replicate (9-(dec x.2.1).length) 48 else [])++dec x.2.1)
  have:=Yo5 x.2
  have h:(if x.1+1<N then List.replicate (9-(dec x.2.1).length) (48:UInt8) else []).length<=9:=by split<;>simp
  simp only[W0d,W0j] at h i |-
  refine W0l (show (o9 N sg (x::l)).length<=_ from i) ?_
  omega
theorem Yfy(sg:List UInt8)(zs:List C9): ∀k,k<=zs.length->o9 zs.length sg (b9 zs k)=sg++Yak ((zs.map (·.1)).drop (zs.length-k))
 | 0,_=>by
  rw[W1o (by simp)]
  simp[b9,o9,Yak]
 | k+1,h=>by
  obtain⟨x,A⟩:∃x,zs[zs.length-1-k]?=some x:=⟨_,W0a (by omega)⟩
  have i:(zs.map (·.1))[zs.length-(k+1)]?=some x.1:=by rw[W0w,show zs.length-(k+1)=zs.length-1-k by omega,A];rfl
  have hd:(zs.map (·.1)).drop (zs.length-(k+1))=x.1::(zs.map (·.1)).drop (zs.length-k):=by
   obtain⟨j,B⟩:=W1e.1 i
   rw[W3k j,B,show zs.length-(k+1)+1=zs.length-k by omega]
  rw[Xys,Xpb,Yfy sg zs k (by omega),A,hd]
  simp only[W6b]
  by_cases I:k=0
  . subst I
    rw[if_neg (by omega),show (zs.map (·.1)).drop (zs.length-0)=[] from W1o (by simp)]
    simp[Yak]
  . have o:(zs.map (·.1)).drop (zs.length-k)≠[]:=λe=>by
     have:=congrArg List.length e
     simp at this;omega
    rw[if_pos (by omega),Xvz o]
    unfold pad
    simp
theorem c9s{l:List Nat}(h:∀x∈l,x<1000000000): ∃zs:List C9,zs.map (·.1)=l:=by
 induction l with
 | nil=>exact⟨[],rfl⟩
 | cons a l i =>
  obtain⟨zs,j⟩:=i λx o=>h x (W1b _ o)
  exact⟨⟨a,h a (W0v ..)⟩::zs,by rw[W3t,j]⟩
def gw1(w:World): GW:=⟨w,λ_ _=>False,λ_ _ h=>h.elim⟩
theorem cell_lt{w:World}{b i:Nat}{v:Value}(h:w.cell? ⟨b,i,none⟩=some v): b<w.heap.size:=by
 apply W1g
 intro j
 simp only[World.cell?] at h
 rw[W4b (by omega)] at h
 cases h
theorem Ykq{W:GW}{n:Nat}{w':World}(h:Below n W.w w')(o:W.w.heap.size<=n): LeF W (gw1 w'):=λb i v j =>
 ⟨(World.cell?_of_block (h.block b (W0u (cell_lt j.1) o))).trans j.1,id⟩
theorem Xs5{f:FuncId}{args:List AV}{vs:List Value}{s:List UInt8}{w:World}(i:C0 f args (·=.d (.str s)))(j:Gb.g Tryz.prog (gw1 w))(ha:Xjg (gw1 w) θe args vs):
 Calls Tryz.prog f vs.toArray w λe w'=>e=.returned (.string ⟨s.toArray⟩)/\Below w.heap.size w w' :=
 (i.2 (gw1 w) vs j ha).mono λe w' ⟨W',v,u,o,A,h,B,_,I⟩=>by
  subst I;subst A
  obtain⟨rfl,_⟩:=Xjm B
  exact⟨o,h.os,h.tape,h.out,h.size,λk M=>h.same k M id⟩
theorem Yqm{w:World}(h:Gb.g Tryz.prog (gw1 w))(x:C9): Calls Tryz.prog 136 #[.int .u64 (x.1:Int),.int .i64 10] w λe w'=>e=.returned (.string ⟨(dec x.1).toArray⟩)/\Below w.heap.size w w' :=
 Xs5 (vs:=[.int .u64 (x.1:Int),.int .i64 10]) (Xmj x.2) h ⟨int_V (by have:=x.2;show IntKind.u64.wrap _=_;exact wU (by omega)),int_V (wI (by omega)),trivial⟩
theorem Yp0{w:World}(h:Gb.g Tryz.prog (gw1 w)){n:Nat}{k:Int}(i:k=n)(j:n<65): Calls Tryz.prog 65 #[.string ⟨#[48]⟩,.int .i64 k] w λe w'=>e=.returned (.string ⟨(List.replicate n 48).toArray⟩)/\Below w.heap.size w w':=by
 subst i
 exact Xs5 (vs:=[.string ⟨#[48]⟩,.int .i64 (n:Int)]) (Xkk j) h ⟨Xmr (s:=[48]) (by decide),int_V (by show IntKind.i64.wrap _=_;exact wI (by omega)),trivial⟩
theorem Xwz{U:Type}(T e:TypeId)(B b:Nat)(f:U->List Value): Own (λs W=>Lib.IsBuilderF T e B b (f s) W):=by
 intro s X Y row h O j
 have A:∀p,Lib.BuilderAtF T e B b p (f s) X->Lib.BuilderAtF T e B b p (f s) Y:=λp ⟨V,v,hb,i,I⟩=>by
  have cells:∀k cs t fz,X.heap[k]?=some (.cells cs t fz)->some k≠row:=λk cs t fz Z e'=>by
   obtain⟨o,Q,M⟩:=j k e'.symm
   rw[Z] at Q;cases Q;cases M
  refine⟨V,v,(O.block b (W3x.1 hb).1 (cells b _ _ _ hb)).trans hb,i.kept O ?_,I⟩
  cases hv:v.ownBlock with
  | none=>exact .inl rfl
  | some g =>
   obtain⟨c,fz,M⟩:=Lib.ownsRowF_kind i g hv
   exact .inr (cells g _ _ _ M)
 exact h.elim (λh=>.inl (A _ h)) λh=>.inr (A _ h)
theorem Xiq{W W':World}{row:Option Nat}{b:Nat}{cs:Array Value}{t:TypeId}{fz:Nat×Nat}(h:W.heap[b]?=some (.cells cs t fz))(j:W.grownBy W' row)(hr:∀r,row=some r->∃o:Obj,W.heap[r]?=some o/\o.isCells=false): W'.heap[b]?=some (.cells cs t fz) :=
 (j.block b (W3x.1 h).1 (λA=>by
  obtain⟨o,i,B⟩:=hr b A.symm
  rw[h] at i;cases i;cases B)).trans h
theorem Xw0{T e:TypeId}{B b:Nat}{A:List Value}{w w':World}(h:Lib.IsBuilderF T e B b A w)(i:Below w.heap.size w w'): Lib.IsBuilderF T e B b A w':=by
 have j:∀p,Lib.BuilderAtF T e B b p A w->Lib.BuilderAtF T e B b p A w':=λp ⟨M,v,hb,o,I⟩ =>
  ⟨M,v,(i.block b (W3x.1 hb).1).trans hb,o.kept (row:=none) ⟨i.os,i.tape,i.output,i.size,λk O _=>i.block k O⟩ (by cases Q:v.ownBlock<;>simp),I⟩
 exact h.elim (λh=>.inl (j _ h)) λh=>.inr (j _ h)
theorem Xpj{w w':World}(h:Below w.heap.size w w'): KeepsOthers w w':=⟨h.size,λk o i _=>(h.block k (W3x.1 i).1).trans i⟩
theorem Xlr{T e:TypeId}{B b n:Nat}{I:List Value}{w w':World}(h:Lib.IsBuilderF T e B b I w)(M:Below n w w')(O:Lib.OthersKept e (some b) w w'): KeepsOthers w w':=⟨M.size,λk o j A=>by
 refine O k o j (λi=>?_) (λc fz i=>by subst i;cases A)
 cases i
 rcases h with ⟨_,v,hb,_⟩ | ⟨_,v,hb,_⟩<;>rw[j] at hb<;>cases hb<;>cases A⟩
structure W9 (n BS B:Nat) (sl:Value) (w W:World) (t:List UInt8) (W':World):Prop where
 b:Lib.IsBuilderF (rnB.t 72) (rnB.t 5) n n (Lib.byteCells t) W'
 s:W'.heap[BS]?=some (.cells #[sl] 53 (0,0))
 l:Below n w W'
 k:KeepsFrom B W W'
 q:Kq n BS W W'
theorem W9.below{n BS B:Nat}{sl:Value}{w W W' W'':World}{t:List UInt8}(h:W9 n BS B sl w W t W')(i:n<=W'.heap.size)(hb:Below W'.heap.size W' W''): W9 n BS B sl w W t W'' :=
 ⟨Xw0 h.b hb,(hb.block BS (W3x.1 h.s).1).trans h.s,h.l.trans (hb.mono i),h.k.trans ((Xpj hb).from _),h.q.trans ⟨hb.mono i,hb.block BS (W3x.1 h.s).1⟩⟩
theorem W9.wr{n BS B:Nat}{sl:Value}{w W W':World}{t:List UInt8}(h:W9 n BS B sl w W t W')(u:List UInt8)(A:n<=W'.heap.size)(I:BS≠n)(M:t.length+u.length<=140737488355328):
 Calls Tryz.prog 67 #[.pointer (some ⟨n,0,none⟩),.string ⟨u.toArray⟩] W' λe W''=>e=.returned (.tuple #[.int .i64 u.length,.nilIface])/\W9 n BS B sl w W (t++u) W'':=by
 have j:(⟨u.toArray⟩:ByteArray).size=u.length:=by simp[ByteArray.size]
 refine(Any.Builder_WriteString_k Yku Yni n n _ ⟨u.toArray⟩ W' h.b (by rw[Lib.byteCells_length,j];exact M) A).mono ?_
 rintro e W'' ⟨rfl,hb,i,o⟩
 have hs:W''.heap[BS]?=some (.cells #[sl] 53 (0,0)):=o BS _ h.s (by intro e;cases e;exact I rfl) (by intro c fz e;cases e)
 refine⟨by rw[j],.inr (by rw[Lib.byteCells_append];exact hb),hs,h.l.trans i,h.k.trans ((Xlr h.b i o).from _),h.q.trans ⟨i,hs.trans h.s.symm⟩⟩
end
section
attribute [local go_sem] Oper.semAt_some
theorem Xt6{z:Int}(hz:z≠0)(hl:(dig z.natAbs).length<=274877906944): C0 64 [.d (dz z)] (·=.d (.str (tx z))):=by
 have hcl:=Xyg (n:=z.natAbs) (k:=(dig z.natAbs).length) (by have:=Xbx (Xad z.natAbs);rwa[Xaf] at this)
 have hp:=W4o.2 (λe:dig z.natAbs=[]=>hz (by have:=Xtv.1 e;omega))
 refine EnM Tryz.func64 λW0 hg0 _=>?_
 refine Ce rfl (Xch (n:=z.natAbs) (by omega))<|Cr rfl (Xmb (l:=dig z.natAbs) hp (by omega)) ?_
 refine No rfl (by simp only[W0i];omega)<|Nv 4 7 1 rfl ?_
 refine Lo (λ((x,n,lo,cs):Nat×Nat×List Nat×List Nat)=>[(1,.ptr 1 0),(2,.d (.str [])),(3,.own 14 1 0 n),(4,.ptr 4 0)]) (λ(x,n,lo,cs)=>[(1,.var (.d (dz z))),(14,.arr 1 (lo.map wd)),(4,.var (.gr 7 1 (cs.map wd))),(7,.tok (cs.map wd).length 1)])
  (λ(x,n,lo,cs)=>Fm9 z.natAbs x n lo cs) (λ(x,_)=>x) (z.natAbs,(dig z.natAbs).length,dig z.natAbs,[]) [] rfl ⟨W0c _,by omega,Xad _,W1x ..,rfl⟩ ?_ (by exact⟨by simp only[W0i];rfl,rfl,rfl,rfl,rfl⟩)
 rintro⟨x,n,lo,cs⟩ hI
 have hn:=Yia hI
 obtain⟨hnl,hll,hwo,hdx,hck⟩:=hI
 have hsz:∀j,j<n->lo[j]?=(dig x)[j]?:=λj hj=>by rw[<-hdx,W1l,if_pos hj]
 refine By rfl (λh=>?_) λh=>?_
 . have h:(n:Int)>0:=h
   have hx0:x≠0:=λe=>by rw[e,Xaj] at hn;simp at hn;omega
   refine Ar ((n:Int)-1) rfl ?_ (wr rfl (by simp only[inK];omega))
   refine Lo (λ((k,l,r):Nat×List Nat×Nat)=>[(1,.ptr 1 0),(2,.d (.str [])),(3,.own 14 1 0 n),(4,.ptr 4 0),(5,.d (.int .u64 r)),(6,.d (.int .i64 ((k:Int)-1)))]) (λ(_,l,_)=>[(1,.var (.d (dz z))),(14,.arr 1 (l.map wd)),(4,.var (.gr 7 1 (cs.map wd))),(7,.tok (cs.map wd).length 1)])
    (λ(k,l,r)=>k<=n/\l.length=lo.length/\Xao l/\r<1000000000/\val ((l.take n).drop k)*1000000000+r=val ((dig x).drop k)/\∀j,j<k->l[j]?=(dig x)[j]?) (λ(k,_,_)=>k) (n,lo,0) [] rfl
    ⟨W0c _,rfl,hwo,by decide,by rw[W1o (by rw[W0k];omega),W1o (by omega)];simp[val],hsz⟩ ?_
   rintro⟨k,l,r⟩ ⟨hk,hl2,hwl,hr,hval,hlj⟩
   refine By rfl (λh2=>?_) λh2=>?_
   . have h2:(k:Int)-1>=0:=h2
     obtain⟨u,hu⟩:=xat (l:=dig x) (k:=k-1) (by omega)
     have hub:=ww hu (Xad x)
     have hul:l[k-1]?=some u:=by rw[hlj _ (by omega),hu]
     obtain⟨s,hs⟩:∃s,s=r*2^32+u:=⟨_,rfl⟩
     have hs64:s<18446744073709551616:=by omega
     have hsy:s/1000000000<4294967296:=by omega
     have hek:((k:Int)-1)=((k-1:Nat):Int):=by omega
     refine Ar (r*2^32:Nat) rfl ?_ (Xh3 (n:=32) rfl (by omega) (by decide))
     refine Eo (k-1) (by rw[hek];rfl) (by omega)<|Ld (wd u) rfl (mp hul) ?_
     refine Go.Vm.Cv u rfl ?_
     refine Ar s rfl ?_ (Ydj (by omega) (by omega) (by rw[Xdm u r 32 (by omega),<-hs]) hs64)
     refine Ar (s/1000000000:Nat) rfl ?_ (show _/\_ from⟨by decide,Yeu s 1000000000 hs64⟩)
     refine Go.Vm.Cv (s/1000000000:Nat) rfl ?_ (wW ⟨W5n _,W7d.2 hsy⟩)
     refine Eo (k-1) (by rw[hek];rfl) (by omega)<|Sto rfl (by simp only[W0i];omega) ms ?_
     refine Ar (s%1000000000:Nat) rfl ?_ (show _/\_ from⟨by decide,Xuo s 1000000000⟩)
     refine Ar ((k-1:Nat)-1:Int) rfl ?_ (wr (by omega) (by simp only[inK];omega))
     have hs0:val ((dig x).drop (k-1))=u+4294967296*val ((dig x).drop k):=by
      have:=Xbs hu
      rwa[show k-1+1=k by omega] at this
     refine Bk (k-1,l.set (k-1) (s/1000000000),s%1000000000) [] rfl ⟨by omega,by simp[hl2],Xgv hwl hsy,W2b _ (by decide),?_,λj hj=>?_⟩ (by show k-1<k;omega)
     . rw[hs0,<-hval,List.take_set,drop_set (by rw[W0k];omega),val,show k-1+1=k by omega]
       have e:=W2s s 1000000000
       have hs2:s=r*4294967296+u:=hs
       generalize val (((l.take n)).drop k)=V
       generalize s/1000000000=q at e |-
       generalize s%1000000000=m at e |-
       clear hck hcl hdx hsz hlj hs hval hs0 hsy hs64
       omega
     . rw[W1v (by omega)];exact hlj j (by omega)
   . have hk0:k=0:=by
      have h2:¬(k:Int)-1>=0:=h2
      omega
     subst hk0
     rw[W0y,W0y,Xaf] at hval
     have hq:x/1000000000=val (l.take n):=by omega
     have hm:x%1000000000=r:=by omega
     refine Cn [(1000001,14)] rfl (Xwx (l:=l) (q:=0) (n:=n) hwl (by omega) (by omega)) λv hv=>?_
     obtain⟨m,hmn,rfl,hml⟩:=hv
     rw[W0y,<-hq] at hml
     refine Go.Vm.Cv r rfl ?_
     refine ApG ((cs++[r]).map wd) rfl (by simp;rfl) (by simp;have:=congrArg List.length hck;rw[W0d] at this;omega) ?_
     refine Bk (x/1000000000,m,l,cs++[r]) [(50,7)] rfl ⟨by omega,by omega,hwl,hml,?_⟩ (by show x/1000000000<x;omega)
     rw[hck,Xfg hx0,hm];simp
 . have h:¬(n:Int)>0:=h
   have hx0:x=0:=by
    have:dig x=[]:=W0n (by omega)
    exact Xtv.1 this
   subst hx0
   rw[Xey,W3f] at hck
   obtain⟨zs,hzs⟩:=c9s (l:=cs) λx hx=>Yl0 z.natAbs x (by rw[hck];exact hx)
   have hzl:zs.length=cs.length:=by rw[<-hzs,W0i]
   have hz0:z.natAbs≠0:=by omega
   have hz1:0<zs.length:=by
    rw[hzl,<-hck,Xfg hz0];simp
   have hzn:zs.length<=549755813888:=by rw[hzl,<-hck];omega
   have htx:∀sg,sg++Yak (zs.map (·.1))=sg++dec z.natAbs:=λsg=>by rw[hzs,<-hck,Yaj _ hz0]
   refine Tl 15 rfl λa w hw=>?_
   obtain⟨s',W,θ,rfl,hS,hθ,rfl⟩:=hw
   have hgW:Gb.g Tryz.prog W:=Gb.mono _ _ hS.fm.le hg0
   obtain⟨b1,p1,e1⟩:=Xjn (hS.rel.has 1 (.ptr 1 0) rfl)
   obtain⟨b4,p4,e4⟩:=Xjn (hS.rel.has 4 (.ptr 4 0) rfl)
   obtain⟨bx,cx1,T1,q1,q2,q3,_⟩:=hS.obs.r 1 (.var (.d (dz z))) rfl
   obtain⟨by4,cx4,T4,q5,q6,q7,_⟩:=hS.obs.r 4 (.var (.gr 7 1 (cs.map wd))) rfl
   obtain rfl:bx=b1:=Option.some.inj (q1.symm.trans p1)
   obtain rfl:by4=b4:=Option.some.inj (q5.symm.trans p4)
   have c1:W.w.cell? ⟨bx,0,none⟩=some (.bool (decide (z<0))):=by
    obtain⟨u,v,h1,h2,_⟩:=q3
    have h2:u=[.bool (decide (z<0))]:=h2
    rw[Xbf q2,h1,h2];rfl
   obtain⟨b7,cp,c4,hcell⟩:∃b7 cp,W.w.cell? ⟨by4,0,none⟩=some (.slice (some ⟨b7,0,none⟩) zs.length cp)/\∀j,j<zs.length->W.w.cell? ⟨b7,0+j,none⟩=some (.int .u32 ((zs[j]?.getD ⟨0,by decide⟩).1:Int)):=by
    obtain⟨p,h1,h0,h2,_,h5⟩:=q7
    simp only[W0i] at h1 h2
    rcases h5 with h5 | ⟨b7,h5,hrow⟩
    . have:=congrArg List.length h5
      rw[W0i] at this
      have:cs.length=0:=this
      omega
    . have hp:p=some ⟨b7,0,none⟩:=by
       rcases h0 with h0 | h0
       . omega
       . rw[h0,h5];rfl
      refine⟨b7,_,by rw[Xbf q6,h1,hp,<-hzl];rfl,λj hj=>?_⟩
      obtain⟨x,hx⟩:∃x,zs[j]?=some x:=⟨_,W0a hj⟩
      obtain⟨e,g1,_,g3⟩:=D.row_get hrow (i:=j) (x:=wd x.1) (by rw[<-hzs];simp[hx])
      have g1:e=[.int .u32 x.1]:=g1.1
      have:=(g3 0 (.int .u32 x.1) (by rw[g1];rfl)).1
      rw[hx]
      simpa using this
   have hb1:=Go.Proofs.YtcmjannkbdflmaaGreatDoor.cell_lt c1
   have hb4:=Go.Proofs.YtcmjannkbdflmaaGreatDoor.cell_lt c4
   have hb7:=Go.Proofs.YtcmjannkbdflmaaGreatDoor.cell_lt (hcell 0 hz1)
   have hfm:=hS.fm
   obtain⟨tm,df⟩:=a
   obtain rfl:df=[]:=hS.rel.defers
   obtain⟨L⟩:=tm
   have hL:L.length=74:=hS.rel.size
   clear hS
   obtain⟨t0,L0,rfl,hL0⟩:=Xag hL
   clear hL
   obtain⟨t1,L1,rfl,hL1⟩:=Xag hL0
   clear hL0
   obtain⟨t2,L2,rfl,hL2⟩:=Xag hL1
   clear hL1
   obtain⟨t3,L3,rfl,hL3⟩:=Xag hL2
   clear hL2
   obtain⟨t4,L4,rfl,hL4⟩:=Xag hL3
   clear hL3
   obtain⟨t5,L5,rfl,hL5⟩:=Xag hL4
   clear hL4
   obtain⟨t6,L6,rfl,hL6⟩:=Xag hL5
   clear hL5
   obtain⟨t7,L7,rfl,hL7⟩:=Xag hL6
   clear hL6
   obtain⟨t8,L8,rfl,hL8⟩:=Xag hL7
   clear hL7
   obtain⟨t9,L9,rfl,hL9⟩:=Xag hL8
   clear hL8
   obtain⟨t10,L10,rfl,hL10⟩:=Xag hL9
   clear hL9
   obtain⟨t11,L11,rfl,hL11⟩:=Xag hL10
   clear hL10
   obtain⟨t12,L12,rfl,hL12⟩:=Xag hL11
   clear hL11
   obtain⟨t13,L13,rfl,hL13⟩:=Xag hL12
   clear hL12
   obtain⟨t14,L14,rfl,hL14⟩:=Xag hL13
   clear hL13
   obtain⟨t15,L15,rfl,hL15⟩:=Xag hL14
   clear hL14
   obtain⟨t16,L16,rfl,hL16⟩:=Xag hL15
   clear hL15
   obtain⟨t17,L17,rfl,hL17⟩:=Xag hL16
   clear hL16
   obtain⟨t18,L18,rfl,hL18⟩:=Xag hL17
   clear hL17
   obtain⟨t19,L19,rfl,hL19⟩:=Xag hL18
   clear hL18
   obtain⟨t20,L20,rfl,hL20⟩:=Xag hL19
   clear hL19
   obtain⟨t21,L21,rfl,hL21⟩:=Xag hL20
   clear hL20
   obtain⟨t22,L22,rfl,hL22⟩:=Xag hL21
   clear hL21
   obtain⟨t23,L23,rfl,hL23⟩:=Xag hL22
   clear hL22
   obtain⟨t24,L24,rfl,hL24⟩:=Xag hL23
   clear hL23
   obtain⟨t25,L25,rfl,hL25⟩:=Xag hL24
   clear hL24
   obtain⟨t26,L26,rfl,hL26⟩:=Xag hL25
   clear hL25
   obtain⟨t27,L27,rfl,hL27⟩:=Xag hL26
   clear hL26
   obtain⟨t28,L28,rfl,hL28⟩:=Xag hL27
   clear hL27
   obtain⟨t29,L29,rfl,hL29⟩:=Xag hL28
   clear hL28
   obtain⟨t30,L30,rfl,hL30⟩:=Xag hL29
   clear hL29
   obtain⟨t31,L31,rfl,hL31⟩:=Xag hL30
   clear hL30
   obtain⟨t32,L32,rfl,hL32⟩:=Xag hL31
   clear hL31
   obtain⟨t33,L33,rfl,hL33⟩:=Xag hL32
   clear hL32
   obtain⟨t34,L34,rfl,hL34⟩:=Xag hL33
   clear hL33
   obtain⟨t35,L35,rfl,hL35⟩:=Xag hL34
   clear hL34
   obtain⟨t36,L36,rfl,hL36⟩:=Xag hL35
   clear hL35
   obtain⟨t37,L37,rfl,hL37⟩:=Xag hL36
   clear hL36
   obtain⟨t38,L38,rfl,hL38⟩:=Xag hL37
   clear hL37
   obtain⟨t39,L39,rfl,hL39⟩:=Xag hL38
   clear hL38
   obtain⟨t40,L40,rfl,hL40⟩:=Xag hL39
   clear hL39
   obtain⟨t41,L41,rfl,hL41⟩:=Xag hL40
   clear hL40
   obtain⟨t42,L42,rfl,hL42⟩:=Xag hL41
   clear hL41
   obtain⟨t43,L43,rfl,hL43⟩:=Xag hL42
   clear hL42
   obtain⟨t44,L44,rfl,hL44⟩:=Xag hL43
   clear hL43
   obtain⟨t45,L45,rfl,hL45⟩:=Xag hL44
   clear hL44
   obtain⟨t46,L46,rfl,hL46⟩:=Xag hL45
   clear hL45
   obtain⟨t47,L47,rfl,hL47⟩:=Xag hL46
   clear hL46
   obtain⟨t48,L48,rfl,hL48⟩:=Xag hL47
   clear hL47
   obtain⟨t49,L49,rfl,hL49⟩:=Xag hL48
   clear hL48
   obtain⟨t50,L50,rfl,hL50⟩:=Xag hL49
   clear hL49
   obtain⟨t51,L51,rfl,hL51⟩:=Xag hL50
   clear hL50
   obtain⟨t52,L52,rfl,hL52⟩:=Xag hL51
   clear hL51
   obtain⟨t53,L53,rfl,hL53⟩:=Xag hL52
   clear hL52
   obtain⟨t54,L54,rfl,hL54⟩:=Xag hL53
   clear hL53
   obtain⟨t55,L55,rfl,hL55⟩:=Xag hL54
   clear hL54
   obtain⟨t56,L56,rfl,hL56⟩:=Xag hL55
   clear hL55
   obtain⟨t57,L57,rfl,hL57⟩:=Xag hL56
   clear hL56
   obtain⟨t58,L58,rfl,hL58⟩:=Xag hL57
   clear hL57
   obtain⟨t59,L59,rfl,hL59⟩:=Xag hL58
   clear hL58
   obtain⟨t60,L60,rfl,hL60⟩:=Xag hL59
   clear hL59
   obtain⟨t61,L61,rfl,hL61⟩:=Xag hL60
   clear hL60
   obtain⟨t62,L62,rfl,hL62⟩:=Xag hL61
   clear hL61
   obtain⟨t63,L63,rfl,hL63⟩:=Xag hL62
   clear hL62
   obtain⟨t64,L64,rfl,hL64⟩:=Xag hL63
   clear hL63
   obtain⟨t65,L65,rfl,hL65⟩:=Xag hL64
   clear hL64
   obtain⟨t66,L66,rfl,hL66⟩:=Xag hL65
   clear hL65
   obtain⟨t67,L67,rfl,hL67⟩:=Xag hL66
   clear hL66
   obtain⟨t68,L68,rfl,hL68⟩:=Xag hL67
   clear hL67
   obtain⟨t69,L69,rfl,hL69⟩:=Xag hL68
   clear hL68
   obtain⟨t70,L70,rfl,hL70⟩:=Xag hL69
   clear hL69
   obtain⟨t71,L71,rfl,hL71⟩:=Xag hL70
   clear hL70
   obtain⟨t72,L72,rfl,hL72⟩:=Xag hL71
   clear hL71
   obtain⟨t73,L73,rfl,hL73⟩:=Xag hL72
   clear hL72
   obtain rfl:=W0n hL73
   obtain rfl:t1=.pointer (some ⟨bx,0,none⟩):=e1
   obtain rfl:t4=.pointer (some ⟨by4,0,none⟩):=e4
   have hfin:∀ {w':World} {s:List UInt8},Below W.w.heap.size W.w w'->s=tx z->Ret W0 (λx=>x=.d (.str (tx z))) (.returned (.string ⟨s.toArray⟩)) w':=λ{w' s} h e=>by
    obtain⟨W',h1,h2⟩:=Xhj h
    subst e
    refine⟨W',_,_,rfl,h1,⟨h2.os.trans hfm.os,h2.out.trans hfm.out,h2.tape.trans hfm.tape,W0l hfm.size h2.size,λb hb hx=>(h2.same b (W0u hb hfm.size) id).trans (hfm.same b hb hx),λb hb hx i=>(h2.A b (W0u hb hfm.size) id i).trans (hfm.A b hb hx i),hfm.le.trans h2.le⟩,Xmr ?_,λ_ h=>h,rfl⟩
    have:=Xi3 z.natAbs
    unfold tx
    split<;>simp only[W0d,W0j,W3e]<;>omega
   clear q2 q3 q6 q7 hθ hck
   obtain⟨w,hww⟩:∃w,w=W.w:=⟨_,rfl⟩
   have hgw:∀ {w':World},Below w.heap.size w w'->Gb.g Tryz.prog (gw1 w'):=λh=>Gb.mono _ _ (Ykq (n:=w.heap.size) (by rw[<-hww];exact h) (by rw[<-hww];exact W0c _)) hgW
   rw[<-hww] at c1 c4 hcell hb1 hb4 hb7 hfin |-
   clear hww hgW hzl hzs hcl hnl hll hwo hn hdx hsz h hp hl q1 q5 p1 p4 hfm
   have hz9:zs.length*4<=140737488351232:=by omega
   have cA:∀o,(w.alloc o).cell? ⟨bx,0,none⟩=some (.bool (decide (z<0))):=λo=>(World.cell?_of_block (a:=⟨bx,0,none⟩) (Below.heap_alloc w o bx hb1)).trans c1
   have c4A:∀o,(w.alloc o).cell? ⟨by4,0,none⟩=some (.slice (some ⟨b7,0,none⟩) zs.length cp):=λo=>(World.cell?_of_block (a:=⟨by4,0,none⟩) (Below.heap_alloc w o by4 hb4)).trans c4
   by_cases hneg:z<0
   . simp only[decide_eq_true hneg] at cA
     gi_wp2
     refine⟨trivial,(callsIn_wide.2 (Any.Builder_WriteByte_k Ykt Yni w.heap.size w.heap.size [] 45 _ (.of (Lib.fresh_isBuilder _ _ w)) (by decide) (by simp))).mono ?_⟩
     rintro e wb ⟨rfl,hB,hbw,hok⟩
     have hB:Lib.IsBuilderF (rnB.t 72) (rnB.t 5) w.heap.size w.heap.size (Lib.byteCells [45]) wb:=.inr hB
     have hbw:Below w.heap.size w wb:=((Below.refl _ w).alloc (W0c _) _).trans hbw
     have hlt:w.heap.size<wb.heap.size:=by rcases hB with h | h<;>exact h.lt
     have c4b:wb.cell? ⟨by4,0,none⟩=some (.slice (some ⟨b7,0,none⟩) zs.length cp):=(hbw.cell (p:=⟨by4,0,none⟩) hb4).trans c4
     gi_wp2
     refine⟨trivial,(Xp2 Fence.wide 7 trivial rfl _ _ _ _).mono ?_⟩
     rintro e w2 ⟨rfl,hw2⟩
     have hBS:w2.heap[wb.heap.size]?=some (.cells #[.slice (some ⟨b7,0,none⟩) zs.length cp] 53 (0,0)):=by rw[hw2];exact World.alloc_heap_new wb _
     have hb2:Below w.heap.size w w2:=by rw[hw2];exact hbw.alloc (by have:=hbw.size;omega) _
     have hB2:Lib.IsBuilderF (rnB.t 72) (rnB.t 5) w.heap.size w.heap.size (Lib.byteCells [45]) w2:=by rw[hw2];exact hB.alloc _
     have hs2:w2.heap.size=wb.heap.size+1:=by rw[hw2];simp
     have hcell2:∀j,j<zs.length->w2.cell? ⟨b7,0+j,none⟩=some (.int .u32 ((zs[j]?.getD ⟨0,by decide⟩).1:Int)):=λj hj=>(hb2.cell (p:=⟨b7,0+j,none⟩) hb7).trans (hcell j hj)
     have cBS:w2.cell? ⟨wb.heap.size,0,none⟩=some (.slice (some ⟨b7,0,none⟩) zs.length cp):=by simp[World.cell?,hBS]
     obtain⟨BS,hBSe⟩:∃BS,BS=wb.heap.size:=⟨_,rfl⟩
     rw[<-hBSe] at hBS hs2 cBS hlt |-
     clear hw2 hBSe hB hbw c4b hok
     gi_wp2
     refine wpIn_rangeFunc_ownG rfl (by decide) (gf:=219) (lb:=#[.pointer (some ⟨BS,0,none⟩)]) rfl trivial (enters_of Tryz.func219 (by kernel_rfl) rfl)
      (Xod Fence.wide (8-1) trivial rfl (by decide) BS w.heap.size b7 0 cp zs hz9 w2 (by omega) (by omega) cBS hb7 hcell2) Kq.trans (λW l o o' hl h _ _=>Xws W l o hl (by omega) (by omega) h o') (Below.refl _ _) (λ_=>rfl)
      (λpre W=>(Lib.IsBuilderF (rnB.t 72) (rnB.t 5) w.heap.size w.heap.size (Lib.byteCells (o9 zs.length [45] pre)) W/\W.heap[BS]?=some (.cells #[.slice (some ⟨b7,0,none⟩) zs.length cp] 53 (0,0)))/\Below w.heap.size w W)
      (λ_ _ _=>False)
      (OwnFrom.and (Own.from (λs A B row hs hg hr=>⟨Xwz _ _ _ _ (λp=>Lib.byteCells (o9 zs.length [45] p)) s A B row hs.1 hg hr,Xiq hs.2 hg hr⟩) _) (ownFrom_below (W0c _) (by omega)))
      (λ_ _ _ _ _ hs _ _=>hs)
      ⟨⟨hB2,hBS⟩,hb2⟩
      (λx=>{ tmps:=#[t0,.pointer (some ⟨bx,0,none⟩),t2,t3,.pointer (some ⟨by4,0,none⟩),t5,t6,.pointer (some ⟨w.heap.size,0,none⟩),.int .i64 (x.1:Int),.int .u32 (x.2.1:Int),t10,t11,t12,t13,t14,t15,t16,t17,t18,t19,t20,t21,t22,t23,t24,t25,t26,t27,t28,t29,t30,t31,t32,t33,t34,t35,t36,t37,t38,t39,t40,t41,t42,t43,t44,t45,t46,t47,t48,t49,t50,.pointer (some ⟨bx,0,none⟩),.bool true,.nilIface,.slice (some ⟨b7,0,none⟩) zs.length cp,.func (.func 219) #[] #[.pointer (some ⟨BS,0,none⟩)],.int .i64 (x.1:Int),.int .u32 (x.2.1:Int),t58,t59,t60,t61,t62,t63,t64,t65,t66,t67,t68,t69,t70,t71,t72,t73],defers:=[] }) ?assign ?body ?done ?stop
     case assign =>
      intro l x W K hK
      gi_wp2
      exact hK
     case stop =>
      rintro D c pre W _ _ h _
      exact h.elim
     case body =>
      rintro l pre x W ⟨⟨hBd,hBS⟩,hBl⟩ hlen
      gi_wp2
      rw[wU (by have:=x.2.2;omega)]
      refine⟨trivial,(CallsIn.inRound l (callsIn_wide.2 (Yqm (hgw hBl) x.2))).mono ?_⟩
      rintro e W1 ⟨rfl,hW1⟩
      have h9:W9 w.heap.size BS w2.heap.size (.slice (some ⟨b7,0,none⟩) zs.length cp) w W (o9 zs.length [45] pre) W1:=W9.below ⟨hBd,hBS,hBl,KeepsFrom.refl _ _,Kq.refl _ _ _⟩ hBl.size hW1
      have c41:W1.cell? ⟨by4,0,none⟩=some (.slice (some ⟨b7,0,none⟩) zs.length cp):=(h9.l.cell (p:=⟨by4,0,none⟩) hb4).trans c4
      have hxl:=Yo5 x.2
      have hol:=Xv2 zs.length pre [45]
      have hos:=Xpb zs.length [45] pre x
      have hsgl:([45]:List UInt8).length<=1:=by decide
      have hpl:pre.length<549755813888:=by omega
      obtain⟨ds,hds⟩:∃ds,ds=dec x.2.1:=⟨_,rfl⟩
      rw[<-hds] at hxl hos |-
      have hBn:BS≠w.heap.size:=by omega
      clear hds hBd hBS hW1
      gi_wp2
      . rename_i hx
        refine⟨trivial,(CallsIn.inRound l (callsIn_wide.2 (Yp0 (hgw h9.l) (n:=9-ds.length) (by omega) (by omega)))).mono ?_⟩
        rintro e W2 ⟨rfl,hW2⟩
        have h9b:=h9.below h9.l.size hW2
        obtain⟨zr,hzr⟩:∃zr,zr=List.replicate (9-ds.length) (48:UInt8):=⟨_,rfl⟩
        have hzrl:zr.length<=9:=by rw[hzr,W1w];omega
        rw[<-hzr]
        rw[if_pos (by omega),<-hzr] at hos
        clear hzr
        gi_wp2
        refine⟨trivial,(CallsIn.inRound l (callsIn_wide.2 (h9b.wr zr h9b.l.size hBn (by omega)))).mono ?_⟩
        rintro e W3 ⟨rfl,h9c⟩
        gi_wp2
        refine⟨trivial,(CallsIn.inRound l (callsIn_wide.2 (h9c.wr ds h9c.l.size hBn (by simp only[W0d];omega)))).mono ?_⟩
        rintro e W4 ⟨rfl,h9d⟩
        gi_wp2
        exact⟨h9d.k,h9d.q,⟨by rw[hos];exact h9d.b,h9d.s⟩,h9d.l⟩
      . rename_i hx
        rw[if_neg (by omega),W3f] at hos
        refine⟨trivial,(CallsIn.inRound l (callsIn_wide.2 (h9.wr ds h9.l.size hBn (by omega)))).mono ?_⟩
        rintro e W4 ⟨rfl,h9d⟩
        gi_wp2
        exact⟨h9d.k,h9d.q,⟨by rw[hos];exact h9d.b,h9d.s⟩,h9d.l⟩
     case done =>
      rintro D ys W hD rfl ⟨⟨hBd,hBS⟩,hBl⟩ hK
      gi_wp2
      have hne:o9 zs.length [45] (b9 zs zs.length)=tx z:=by
       rw[Yfy _ _ _ (W0c _),W2v,W0y,htx]
       unfold tx
       rw[if_pos hneg]
      rw[hne] at hBd
      have hn0:tx z≠[]:=by
       unfold tx
       intro h
       exact Xn1 _ (List.append_eq_nil_iff.1 h).2
      refine⟨trivial,(callsIn_wide.2 (Any.Builder_String_k Ydw Yni w.heap.size w.heap.size (tx z) W hBd hn0)).mono ?_⟩
      rintro e W3 ⟨rfl,_,hb3,hok3⟩
      have hK3:=hok3 D _ hK (by intro h;cases h;have:=hBl.size;omega) (by intro c fz h;cases h)
      gi_wp2
      refine⟨by simp,.inl ⟨_,_,rfl,run_takeDeferred hK3,?_⟩⟩
      refine⟨_,results_tmp rfl _ _ _,?_⟩
      refine hfin (s:=tx z) ?_ rfl
      exact(hBl.trans hb3).trans (belowK_b (w:=w) (W0c _) W3 D _ _ (by omega) hK3 rfl rfl)
   . simp only[decide_eq_false hneg] at cA
     gi_wp2
     obtain⟨wb,hwb⟩:∃wb,wb=w.alloc (.cells #[.pointer none,.slice none 0 0] 133):=⟨_,rfl⟩
     have hB:Lib.IsBuilderF (rnB.t 72) (rnB.t 5) w.heap.size w.heap.size (Lib.byteCells []) wb:=by rw[hwb];exact .of (Lib.fresh_isBuilder _ _ w)
     have hbw:Below w.heap.size w wb:=by rw[hwb];exact(Below.refl _ w).alloc (W0c _) _
     have hlt:w.heap.size<wb.heap.size:=by rcases hB with h | h<;>exact h.lt
     rw[<-hwb]
     clear hwb
     refine⟨trivial,(Xp2 Fence.wide 7 trivial rfl _ _ _ _).mono ?_⟩
     rintro e w2 ⟨rfl,hw2⟩
     have hBS:w2.heap[wb.heap.size]?=some (.cells #[.slice (some ⟨b7,0,none⟩) zs.length cp] 53 (0,0)):=by rw[hw2];exact World.alloc_heap_new wb _
     have hb2:Below w.heap.size w w2:=by rw[hw2];exact hbw.alloc (by have:=hbw.size;omega) _
     have hB2:Lib.IsBuilderF (rnB.t 72) (rnB.t 5) w.heap.size w.heap.size (Lib.byteCells []) w2:=by rw[hw2];exact hB.alloc _
     have hs2:w2.heap.size=wb.heap.size+1:=by rw[hw2];simp
     have hcell2:∀j,j<zs.length->w2.cell? ⟨b7,0+j,none⟩=some (.int .u32 ((zs[j]?.getD ⟨0,by decide⟩).1:Int)):=λj hj=>(hb2.cell (p:=⟨b7,0+j,none⟩) hb7).trans (hcell j hj)
     have cBS:w2.cell? ⟨wb.heap.size,0,none⟩=some (.slice (some ⟨b7,0,none⟩) zs.length cp):=by simp[World.cell?,hBS]
     obtain⟨BS,hBSe⟩:∃BS,BS=wb.heap.size:=⟨_,rfl⟩
     rw[<-hBSe] at hBS hs2 cBS hlt |-
     clear hw2 hBSe hB hbw
     gi_wp2
     refine wpIn_rangeFunc_ownG rfl (by decide) (gf:=219) (lb:=#[.pointer (some ⟨BS,0,none⟩)]) rfl trivial (enters_of Tryz.func219 (by kernel_rfl) rfl)
      (Xod Fence.wide (8-1) trivial rfl (by decide) BS w.heap.size b7 0 cp zs hz9 w2 (by omega) (by omega) cBS hb7 hcell2) Kq.trans (λW l o o' hl h _ _=>Xws W l o hl (by omega) (by omega) h o') (Below.refl _ _) (λ_=>rfl)
      (λpre W=>(Lib.IsBuilderF (rnB.t 72) (rnB.t 5) w.heap.size w.heap.size (Lib.byteCells (o9 zs.length [] pre)) W/\W.heap[BS]?=some (.cells #[.slice (some ⟨b7,0,none⟩) zs.length cp] 53 (0,0)))/\Below w.heap.size w W)
      (λ_ _ _=>False)
      (OwnFrom.and (Own.from (λs A B row hs hg hr=>⟨Xwz _ _ _ _ (λp=>Lib.byteCells (o9 zs.length [] p)) s A B row hs.1 hg hr,Xiq hs.2 hg hr⟩) _) (ownFrom_below (W0c _) (by omega)))
      (λ_ _ _ _ _ hs _ _=>hs)
      ⟨⟨hB2,hBS⟩,hb2⟩
      (λx=>{ tmps:=#[t0,.pointer (some ⟨bx,0,none⟩),t2,t3,.pointer (some ⟨by4,0,none⟩),t5,t6,.pointer (some ⟨w.heap.size,0,none⟩),.int .i64 (x.1:Int),.int .u32 (x.2.1:Int),t10,t11,t12,t13,t14,t15,t16,t17,t18,t19,t20,t21,t22,t23,t24,t25,t26,t27,t28,t29,t30,t31,t32,t33,t34,t35,t36,t37,t38,t39,t40,t41,t42,t43,t44,t45,t46,t47,t48,t49,t50,.pointer (some ⟨bx,0,none⟩),.bool false,t53,.slice (some ⟨b7,0,none⟩) zs.length cp,.func (.func 219) #[] #[.pointer (some ⟨BS,0,none⟩)],.int .i64 (x.1:Int),.int .u32 (x.2.1:Int),t58,t59,t60,t61,t62,t63,t64,t65,t66,t67,t68,t69,t70,t71,t72,t73],defers:=[] }) ?assign ?body ?done ?stop
     case assign =>
      intro l x W K hK
      gi_wp2
      exact hK
     case stop =>
      rintro D c pre W _ _ h _
      exact h.elim
     case body =>
      rintro l pre x W ⟨⟨hBd,hBS⟩,hBl⟩ hlen
      gi_wp2
      rw[wU (by have:=x.2.2;omega)]
      refine⟨trivial,(CallsIn.inRound l (callsIn_wide.2 (Yqm (hgw hBl) x.2))).mono ?_⟩
      rintro e W1 ⟨rfl,hW1⟩
      have h9:W9 w.heap.size BS w2.heap.size (.slice (some ⟨b7,0,none⟩) zs.length cp) w W (o9 zs.length [] pre) W1:=W9.below ⟨hBd,hBS,hBl,KeepsFrom.refl _ _,Kq.refl _ _ _⟩ hBl.size hW1
      have c41:W1.cell? ⟨by4,0,none⟩=some (.slice (some ⟨b7,0,none⟩) zs.length cp):=(h9.l.cell (p:=⟨by4,0,none⟩) hb4).trans c4
      have hxl:=Yo5 x.2
      have hol:=Xv2 zs.length pre []
      have hos:=Xpb zs.length [] pre x
      have hsgl:([]:List UInt8).length<=1:=by decide
      have hpl:pre.length<549755813888:=by omega
      obtain⟨ds,hds⟩:∃ds,ds=dec x.2.1:=⟨_,rfl⟩
      rw[<-hds] at hxl hos |-
      have hBn:BS≠w.heap.size:=by omega
      clear hds hBd hBS hW1
      gi_wp2
      . rename_i hx
        refine⟨trivial,(CallsIn.inRound l (callsIn_wide.2 (Yp0 (hgw h9.l) (n:=9-ds.length) (by omega) (by omega)))).mono ?_⟩
        rintro e W2 ⟨rfl,hW2⟩
        have h9b:=h9.below h9.l.size hW2
        obtain⟨zr,hzr⟩:∃zr,zr=List.replicate (9-ds.length) (48:UInt8):=⟨_,rfl⟩
        have hzrl:zr.length<=9:=by rw[hzr,W1w];omega
        rw[<-hzr]
        rw[if_pos (by omega),<-hzr] at hos
        clear hzr
        gi_wp2
        refine⟨trivial,(CallsIn.inRound l (callsIn_wide.2 (h9b.wr zr h9b.l.size hBn (by omega)))).mono ?_⟩
        rintro e W3 ⟨rfl,h9c⟩
        gi_wp2
        refine⟨trivial,(CallsIn.inRound l (callsIn_wide.2 (h9c.wr ds h9c.l.size hBn (by simp only[W0d];omega)))).mono ?_⟩
        rintro e W4 ⟨rfl,h9d⟩
        gi_wp2
        exact⟨h9d.k,h9d.q,⟨by rw[hos];exact h9d.b,h9d.s⟩,h9d.l⟩
      . rename_i hx
        rw[if_neg (by omega),W3f] at hos
        refine⟨trivial,(CallsIn.inRound l (callsIn_wide.2 (h9.wr ds h9.l.size hBn (by omega)))).mono ?_⟩
        rintro e W4 ⟨rfl,h9d⟩
        gi_wp2
        exact⟨h9d.k,h9d.q,⟨by rw[hos];exact h9d.b,h9d.s⟩,h9d.l⟩
     case done =>
      rintro D ys W hD rfl ⟨⟨hBd,hBS⟩,hBl⟩ hK
      gi_wp2
      have hne:o9 zs.length [] (b9 zs zs.length)=tx z:=by
       rw[Yfy _ _ _ (W0c _),W2v,W0y,htx]
       unfold tx
       rw[if_neg (by omega)]
      rw[hne] at hBd
      have hn0:tx z≠[]:=by
       unfold tx
       intro h
       exact Xn1 _ (List.append_eq_nil_iff.1 h).2
      refine⟨trivial,(callsIn_wide.2 (Any.Builder_String_k Ydw Yni w.heap.size w.heap.size (tx z) W hBd hn0)).mono ?_⟩
      rintro e W3 ⟨rfl,_,hb3,hok3⟩
      have hK3:=hok3 D _ hK (by intro h;cases h;have:=hBl.size;omega) (by intro c fz h;cases h)
      gi_wp2
      refine⟨by simp,.inl ⟨_,_,rfl,run_takeDeferred hK3,?_⟩⟩
      refine⟨_,results_tmp rfl _ _ _,?_⟩
      refine hfin (s:=tx z) ?_ rfl
      exact(hBl.trans hb3).trans (belowK_b (w:=w) (W0c _) W3 D _ _ (by omega) hK3 rfl rfl)
theorem Xtr{z:Int}(i:(dig z.natAbs).length<=274877906944): C0 64 [.d (dz z)] (·=.d (.str (tx z))):=by
 by_cases h:z=0
 . subst h
   have:tx 0=[48]:=by unfold tx;rw[if_neg (by decide),show Int.natAbs 0=0 from rfl,Xb9 (by decide)];rfl
   rw[this];exact Xqb
 . exact Xt6 h i
end
end Go.Proofs.YtcmjannkbdflmaaGreatDoor
namespace Go.Proofs.YtcmjannkbdflmaaGreatDoor.P11
open Go Go.Vm Go.Num Go.Tow Go.Proofs.YtcmjannkbdflmaaGreatDoor Go.Proofs.YtcmjannkbdflmaaGreatDoor.P9 Go.Proofs.YtcmjannkbdflmaaGreatDoor.R11
section
def fmtV(z:Int)(d:Nat): AV:=if (txt z d).length<=400 then .tup (.pr (.d (.str (txt z d))) (.d (.int .i64 0))) else .tup (.pr (.d (.str [])) (.d (.int .i64 3)))
abbrev RndOf(x:Nm)(d:Nat)(z:Int): Prop:=Xbp x.k x.t (scl x.k x.t x.a ((10^d:Int):Rat) hf) z
theorem dcT{p:Prop}(h:p): dc p=true:=Xal.2 h
theorem dcF{p:Prop}(h:¬p): dc p=false:=W2p.2 λe=>h (Xal.1 e)
theorem Ylu{z:Int}(I:(dig z.natAbs).length<=274877906944): C0 63 [.d (.str (tx z)),.d (.str [45])] (·=.tup (.pr (.d (.str (dec z.natAbs))) (.b (dc (z<0))))):=by
 have o:=Xi3 z.natAbs
 have A:Tx (tx z):=by
  by_cases h:z<0
  . rw[Xum h];show (45::dec z.natAbs).length<_;rw[W0j];omega
  . rw[Xul h];show (dec z.natAbs).length<_;omega
 have h:=Xem (s:=tx z) (t:=[45]) A (by decide)
 by_cases i:z<0
 . have e:(tx z).take [(45:UInt8)].length=[45]:=by rw[Xum i];rfl
   rw[if_pos e,show (tx z).drop [(45:UInt8)].length=dec z.natAbs by rw[Xum i];rfl] at h
   exact h.mono λv j=>by rw[j,dcT e,dcT i]
 . have e:¬(tx z).take [(45:UInt8)].length=[45]:=λe=>by
    rw[Xul i] at e
    have B:(45:UInt8)∈dec z.natAbs:=W5f (by rw[e];exact W0f.2 rfl)
    have:=(Xx3 z.natAbs 45 B).1
    exact absurd this (by decide)
   exact h.mono λv j=>by rw[j,if_neg e,dcF e,dcF i,Xul i]
theorem Format_ok{x:Nm}{d:Nat}(H:Pk x)(hd:d<=60): C0 24 [.d (dN x),.d (.int .i64 d)] λv=>∃z,RndOf x d z/\(dig z.natAbs).length<=274877906944/\v=fmtV z d:=by
 refine En Tryz.func24 λ_ _ _=>?_
 refine Ca rfl (Round_ok H hd) λv Q=>?_
 obtain⟨z,rfl,O,B⟩:=Q
 have i:=Xi3 z.natAbs
 have j:=Xle d (dec z.natAbs)
 have M:=Xl9 z.natAbs
 obtain⟨s,hs⟩:∃s,s=dec z.natAbs:=⟨_,rfl⟩
 rw[<-hs] at i j M
 have o:=Ylu B
 rw[<-hs] at o
 refine No rfl (by decide)<|Ce rfl (Xtr B)<|Ce rfl o ?_
 obtain⟨q,hq⟩:∃q,q=pad d s:=⟨_,rfl⟩
 have T:q.length=max (d+1) s.length:=by rw[hq,j]
 obtain⟨r,I⟩:∃r,r=pt d q:=⟨_,rfl⟩
 have U:r.length<=q.length+1:=by
  rw[I,pt];split
  . omega
  . rw[W0d,W0j,W0k,W1n];omega
 have A:txt z d=(if z<0 then [45] else [])++r:=by rw[txt,I,hq,hs]
 refine Cu none (λ(_:Unit)=>[(1,.d (.int .i64 d)),(8,.d (.str q)),(9,.b (dc (z<0)))]) (λ_=>[]) (λ_=>True) rfl ?_ λ_ _=>?_
 . refine By rfl (λh=>?_) λh=>?_
   . have h:((s.length:Nat):Int)<=d:=h
     refine Ar (d+1:Nat) rfl ?_
     refine Ar (d+1-s.length:Nat) rfl ?_
     refine Ce rfl (Xkk (by omega))<|Sc q rfl (by rw[hq];rfl) (by rw[W1w];omega) ?_
     exact Jn () [] rfl trivial
   . have h:¬((s.length:Nat):Int)<=d:=h
     have e:q=s:=by rw[hq,pad,show d+1-s.length=0 by omega];rfl
     rw[e]
     exact Jn () [] rfl trivial
 refine Cu none (λ(_:Unit)=>[(1,.d (.int .i64 d)),(8,.d (.str r)),(9,.b (dc (z<0)))]) (λ_=>[]) (λ_=>True) rfl ?_ λ_ _=>?_
 . refine By rfl (λh=>?_) λh=>?_
   . refine Dw rfl<|Ar ((q.length-d:Nat):Int) rfl ?_
     refine Stk (q.length-d) _ rfl (by omega) rfl ?_
     refine Sc (q.take (q.length-d)++[46]) rfl rfl (by simp;omega) ?_
     refine Ar ((q.length-d:Nat):Int) rfl ?_
     refine Sdp (q.length-d) _ rfl (by omega) rfl ?_
     refine Sc r rfl (by rw[I,pt,if_neg (by omega)];simp) (by simp;omega) ?_
     exact Jn () [] rfl trivial
   . have e:r=q:=by rw[I,pt,if_pos (by omega)]
     rw[e]
     exact Jn () [] rfl trivial
 refine Cu none (λ(_:Unit)=>[(8,.d (.str (txt z d)))]) (λ_=>[]) (λ_=>True) rfl ?_ λ_ _=>?_
 . refine By rfl (λh=>?_) λh=>?_
   . refine Sc (txt z d) rfl (by rw[A,if_pos h]) (by show 1+r.length<_;omega) ?_
     exact Jn () [] rfl trivial
   . rw[A,if_neg h]
     exact Jn () [] rfl trivial
 refine By rfl (λh=>?_) λh=>?_
 . exact Rt rfl (.tup (.cons (.rf rfl) Xav)) ⟨z,O,B,by rw[fmtV,if_neg (by omega)]⟩
 . exact Rt rfl (.tup (.cons (.rf rfl) Xav)) ⟨z,O,B,by rw[fmtV,if_pos (by omega)]⟩
theorem dFmt_ok{x:Nm}{d:Nat}(H:Pk x)(hd:d<=60): C0 24 [.d (dN x),.d (.int .i64 d)] λv=>∃z,RndOf x d z/\(dig z.natAbs).length<=274877906944/\v=fmtV z d:=Format_ok H hd
end
section
def pP(s:List UInt8)(v:AV): Prop:=match prs s with
 | none=>∃m:Int,v=.tup (.pr (.d (dz 0)) (.pr (.d (.int .i64 m)) (.b false)))
 | some (h,a,b)=>v=.tup (.pr (.d (dz (frI h a b))) (.pr (.d (.int .i64 b.length)) (.b true)))
theorem Yai{s:List UInt8}{v:AV}(h:prs s=none): pP s v↔∃m:Int,v=.tup (.pr (.d (dz 0)) (.pr (.d (.int .i64 m)) (.b false))):=by unfold pP;rw[h]
theorem Xnb{s a b:List UInt8}{ng:Bool}{v:AV}(h:prs s=some (ng,a,b)): pP s v↔v=.tup (.pr (.d (dz (frI ng a b))) (.pr (.d (.int .i64 b.length)) (.b true))):=by unfold pP;rw[h]
theorem Yrt{s:List UInt8}(hs:Tx s): ∃ng q,s=sgB ng++q/\(ng=false->s.head?≠some 45)/\C0 63 [.d (.str s),.d (.str [45])] (·=.tup (.pr (.d (.str q)) (.b ng))):=by
 have h:=Xem (s:=s) (t:=[45]) hs (by decide)
 by_cases e:s.take [(45:UInt8)].length=[45]
 . refine⟨true,s.drop 1,?_,nofun,h.mono λv i=>by rw[i,if_pos e,dcT e];rfl⟩
   have:=W3w 1 s
   rw[show s.take 1=[45] from e] at this
   exact this.symm
 . refine⟨false,s,rfl,λ_ j=>e ?_,h.mono λv i=>by rw[i,if_neg e,dcF e]⟩
   cases s with
   | nil=>cases j
   | cons x t=>cases j;rfl
theorem Yrs{s q:List UInt8}{ng:Bool}(j:s.length<=400)(hs:s=sgB ng++q)(o:ng=false->s.head?≠some 45): ∃u t pt,u.length+t.length<=400/\C0 164 [.d (.str q),.d (.str [46])] (·=.tup (.pr (.d (.str u)) (.pr (.d (.str t)) (.b pt)))) /\
 prs s=if u=[]\/(pt=true/\t=[])\/(1<u.length/\u.head?=some 48)\/(u++t).all isD=false then none else if ng&&z0 (u++t) then none else some (ng,u,t):=by
 have i:q.length<=400:=by have:=congrArg List.length hs;rw[W0d] at this;omega
 rcases Xww 46 q with h | ⟨u,t,rfl,h⟩
 . refine⟨q,[],false,by simpa using i,Ym4 (b:=46) (by show q.length<_;omega) h,?_⟩
   rw[Yjz j hs o h,W3f]
   simp only[Bool.false_eq_true,false_and,false_or]
 . refine⟨u,t,true,by rw[W0d,W0j] at i;omega,Ym5 (by show _<_;omega) h,?_⟩
   rw[Yjy j hs o h]
   simp only[true_and]
theorem Ycs{c:UInt8}: ∀l:List UInt8,∃n,l=List.replicate n c++trL c l
 | []=>⟨0,rfl⟩
 | x::l=>by
  unfold trL
  rw[W4p]
  by_cases h:x=c
  . obtain⟨n,i⟩:=Ycs (c:=c) l
    rw[if_pos (by rw[h];exact beq_self_eq_true c)]
    exact⟨n+1,by rw[W3p,W3q,h];congr 1⟩
  . rw[if_neg (by simpa using h)]
    exact⟨0,rfl⟩
theorem Yg3(l:List UInt8)(n:Nat): Xb7 (List.replicate n 48++l)=Xb7 l:=by
 rw[Xf6,Xl2 (by unfold z0;simp),W4q,W1j]
theorem Yiy{l y:List UInt8}(hd:∀b∈l,Xhh b)(i:y=trL 48 l)(h0:y≠[]): ∃b r,y=b::r/\48<b.toNat:=by
 cases y with
 | nil=>exact absurd rfl h0
 | cons b r =>
  refine⟨b,r,rfl,?_⟩
  have h:=W7i (·==(48:UInt8)) l
  unfold trL at i
  rw[<-i] at h
  have h:¬b=48:=by simpa using h
  have hb:b∈l:=(List.dropWhile_sublist _).subset (by rw[<-i];exact W0v ..)
  have:=(hd b hb).1
  have j:b.toNat≠48:=λe=>h (W8c.1 e)
  omega
theorem Xsn{m:Int}{g:Hp}{K:Hpl}: FitT g K (.pr (AV.st (.pr (.b false) .nil)) (.pr (.d (.int .i64 m)) (.b false))) (.pr (.d (dz 0)) (.pr (.d (.int .i64 m)) (.b false))):=by
 rw[dz0];exact .cons (.sd (.pd (.bd rfl) (.nil rfl))) (.cons (.rf rfl) (.one (.rf rfl) (λ_ _ e=>by cases e) (λ_ _ e=>by cases e)))
theorem Xld{s:List UInt8}(hs:Tx s): C0 86 [.d (.str s)] (pP s):=by
 obtain⟨V,q,hq,hn,hc⟩:=Yrt hs
 by_cases hl:s.length<=400
 . obtain⟨u,t,pt,hut,hk,hp⟩:=Yrs hl hq hn
   have Y:Tx (u++t):=by show (u++t).length<_;rw[W0d];omega
   have B:=Yh1 Y
   obtain⟨w,hw⟩:∃w,w=(Xqk Yii.contains (u++t)).dropWhile Yii.contains:=⟨_,rfl⟩
   have hwn:w=[]↔(u++t).all isD=true:=by rw[hw,Xzo,Ybm]
   rw[<-hw] at B
   refine En Tryz.func86 λ_ _ _=>?_
   refine No rfl (by omega)<|Ce rfl hc<|Ce rfl hk ?_
   let fl:Prop:=u=[]\/(pt=true/\t=[])\/(1<u.length/\u.head?=some 48)\/(u++t).all isD=false
   refine Cu (some 5) (λ(c:Bool)=>[(2,.ptr 2 0),(6,.b V),(7,.d (.str u)),(8,.d (.str t)),(53,.b c)]) (λ_=>[(2,.var (.st (.pr (.b false) .nil)))]) (λc=>c=true↔fl) rfl ?_ λc Z=>?_
   . refine By rfl (λh=>?_) λhu=>?_
     . exact Jn true [] rfl ⟨λ_=>.inl h,λ_=>rfl⟩
     have ulen:0<u.length:=W4o.2 hu
     have j:(¬(pt=true/\t=[]))->(¬(1<u.length/\u.head?=some 48))->(w≠[]↔fl):=λh1 h2=>by
      show _↔(_\/_\/_\/_)
      simp only[hu,h1,h2,false_or,hwn,ne_eq,Bool.not_eq_true]
     have o:∀b,u[0]?=some b->((b.toNat:Int)=48↔u.head?=some 48):=λb hb=>by
      rw[List.head?_eq_getElem?,hb]
      constructor
      . intro e;rw[show b=48 from W8c.1 (by show b.toNat=48;omega)]
      . intro e;injection e with e;rw[e];rfl
     have A:u[0]?=some (u[0]):=W0a ulen
     have hsc:(u++t).length<9223372036854775808:=by rw[W0d];omega
     have I:u.length+t.length<9223372036854775808:=by omega
     refine By rfl (λT=>By rfl (λh=>Jn true [] rfl ⟨λ_=>.inr (.inl ⟨T,h⟩),λ_=>rfl⟩) λht=>?_) λT=>?_
     . have hA:¬(pt=true/\t=[]):=λh=>ht h.2
       refine By rfl (λh1=>Yx 0 _ rfl A (By rfl (λi=>Jn true [] rfl ⟨λ_=>.inr (.inr (.inl ⟨by omega,(o _ A).1 i⟩)),λ_=>rfl⟩) λi=>?_)) λh1=>?_
       . refine Sc (u++t) rfl rfl I ?_
         exact Ce rfl B<|Jn (dc (w≠[])) [] rfl (Xal.trans (j hA λh=>i ((o _ A).2 h.2)))
       . refine Sc (u++t) rfl rfl I ?_
         exact Ce rfl B<|Jn (dc (w≠[])) [] rfl (Xal.trans (j hA λh=>by omega))
     . have hA:¬(pt=true/\t=[]):=λh=>T h.1
       refine By rfl (λh1=>Yx 0 _ rfl A (By rfl (λi=>Jn true [] rfl ⟨λ_=>.inr (.inr (.inl ⟨by omega,(o _ A).1 i⟩)),λ_=>rfl⟩) λi=>?_)) λh1=>?_
       . refine Sc (u++t) rfl rfl I ?_
         exact Ce rfl B<|Jn (dc (w≠[])) [] rfl (Xal.trans (j hA λh=>i ((o _ A).2 h.2)))
       . refine Sc (u++t) rfl rfl I ?_
         exact Ce rfl B<|Jn (dc (w≠[])) [] rfl (Xal.trans (j hA λh=>by omega))
   . refine By rfl (λh=>?_) λh=>?_
     . exact Rt rfl (.tup Xsn) ((Yai (by rw[hp,if_pos (Z.1 h)])).2 ⟨0,rfl⟩)
     . have hf:¬fl:=λe=>h (Z.2 e)
       have M:prs s=if V&&z0 (u++t) then none else some (V,u,t):=by rw[hp,if_neg hf]
       have hall:(u++t).all isD=true:=by
        cases e:(u++t).all isD with
        | true=>rfl
        | false=>exact absurd (.inr (.inr (.inr e))) hf
       have hdg:∀b∈u++t,Xhh b:=Yqr.1 hall
       have hTL:=Xoj (s:=u++t) (b:=48) Y (by decide)
       obtain⟨y,hy⟩:∃y,y=trL 48 (u++t):=⟨_,rfl⟩
       have hz0:y=[]↔z0 (u++t)=true:=by rw[hy];exact Ynt _
       rw[<-hy] at hTL
       refine Sc (u++t) rfl rfl (by omega) ?_
       refine Ce rfl hTL<|By rfl (λO=>?_) λO=>?_
       . have hz:=hz0.1 O
         refine Ce rfl (FromInt_ok (z:=0) (by decide)) ?_
         cases V with
         | true =>
          rw[hz] at M
          exact Rt rfl (.tup (.cons (.rf rfl) (.cons (.rf rfl) (.one (.rf rfl) (λ_ _ e=>by cases e) (λ_ _ e=>by cases e))))) ((Yai (by rw[M];rfl)).2 ⟨t.length,rfl⟩)
         | false =>
          exact Rt rfl (.tup (.cons (.rf rfl) (.cons (.rf rfl) (.one (.rf rfl) (λ_ _ e=>by cases e) (λ_ _ e=>by cases e))))) ((Xnb (by rw[M];rfl)).2 (by rw[frI,Xl2 hz];rfl))
       . have hz:z0 (u++t)=false:=by cases e:z0 (u++t) with | true=>exact absurd (hz0.2 e) O | false=>rfl
         have hyp:prs s=some (V,u,t):=by rw[M,hz,Bool.and_false];rfl
         obtain⟨n,Q⟩:=Ycs (u++t)
         rw[<-hy] at Q
         have hyd:∀b∈y,Xhh b:=λb hb=>hdg b (by rw[Q];exact W1r _ hb)
         have hyl:y.length<=400:=by have:=congrArg List.length Q;rw[W0d,W0d] at this;omega
         have hyv:Xb7 y=Xb7 (u++t):=by rw[Q,Yg3]
         have hdl:=Xl7 hyd
         refine Ce rfl (Yca hyd (by omega) (Yiy hdg hy O)) ?_
         rw[hyv] at hdl |-
         refine By rfl (λU=>?_) λU=>?_
         . exact Ce rfl (Neg_ok (by rw[W1m];omega))<|Rt rfl (.tup (.cons (.rf rfl) (.cons (.rf rfl) (.one (.rf rfl) (λ_ _ e=>by cases e) (λ_ _ e=>by cases e))))) ((Xnb hyp).2 (by rw[frI,if_pos U,dcT (p:=(0:Int)=0) rfl];rfl))
         . exact Rt rfl (.tup (.cons (.rf rfl) (.cons (.rf rfl) (.one (.rf rfl) (λ_ _ e=>by cases e) (λ_ _ e=>by cases e))))) ((Xnb hyp).2 (by rw[frI,if_neg U,dcT (p:=(0:Int)=0) rfl];rfl))
 . have hp:prs s=none:=by unfold prs;rw[if_pos (by omega)]
   refine En Tryz.func86 λ_ _ _=>?_
   exact Yes rfl (by omega)<|Rt rfl (.tup Xsn) ((Yai hp).2 ⟨0,rfl⟩)
theorem frI_zs{s a b:List UInt8}{ng:Bool}(h:prs s=some (ng,a,b)): Zs 1601 (frI ng a b)/\b.length<=400:=by
 obtain⟨M,o,O,A,B⟩:=Xrp h
 have I:a.length+b.length<=400:=by
  have:=congrArg List.length o
  rw[W0d,W0d] at this
  have:b.length<=(ptB b).length:=by unfold ptB;split<;>simp_all
  omega
 have hd:∀x∈a++b,Xhh x:=Yqr.1 (by rw[W5i,A,B];rfl)
 have i:=Xiy hd
 rw[W0d] at i
 have:=Qn i I
 refine⟨?_,by omega⟩
 have j:Zs 1601 ((Xb7 (a++b):Nat):Int):=this.n
 unfold frI
 unfold Zs at *
 split
 . rw[W4v];exact j
 . exact j
theorem Parse_no{s:List UInt8}(hs:Tx s)(h:prs s=none): C0 157 [.d (.str s)] (·=.tup (.pr (.d dq0) (.d (.int .i64 2)))):=by
 refine En Tryz.func157 λ_ _ _=>?_
 refine Ca rfl (Xld hs) λv i=>?_
 obtain⟨m,rfl⟩:=(Yai h).1 i
 exact Yes rfl (by decide)<|RTt rfl (.cons (.sd (.pd (.sd (.pd (.bd rfl) (.nil rfl))) (.sd (.pd (.bd rfl) (.nil rfl))))) Xav)
theorem Parse_yes{s a b:List UInt8}{ng:Bool}(hs:Tx s)(h:prs s=some (ng,a,b)): C0 157 [.d (.str s)] (·=.tup (.pr (.d (dq (fr ng a b))) (.d (.int .i64 0)))):=by
 obtain⟨j,hb⟩:=frI_zs h
 have i:=Make_ok (p:=1605) (j.mono (by decide)) ((p10 b.length).mono (by omega)) (by decide) (λe=>Xqq b.length (by rw[e];rfl))
 rw[W3j,<-Xj5] at i
 refine En Tryz.func157 λ_ _ _=>?_
 refine Ca rfl (Xld hs) λv o=>?_
 obtain rfl:=(Xnb h).1 o
 exact No rfl (by decide)<|Dw rfl<|Ce rfl (Xcz (by omega))<|Ce rfl i<|RTt rfl (.cons (.rf rfl) Xav)
end
section
def loQ(ng:Bool)(a b:List UInt8): Rat:=fr ng a b-hf/((10^b.length:Int):Rat)
def hiQ(ng:Bool)(a b:List UInt8): Rat:=fr ng a b+hf/((10^b.length:Int):Rat)
theorem Ynn{k:Nat}(i:k<=3): vB 300 k (15000+4000+4)<=4398046511104/\vB 300 k 300<=4398046511104:=by
 have h:k=0\/k=1\/k=2\/k=3:=by omega
 rcases h with rfl | rfl | rfl | rfl<;>decide +kernel
theorem Yhc{x:Nm}(h:x.k<=3)(hr:Xbm x.k x.t)(i:TS 300 x.k x.t)(hp:Sz 15000 (toL x.k x.a)){q:Rat}(hq:Qs 4000 q):
 ∃c:Int,(C0 94 [.d (dN (nq q)),.d (dN x)] (·=.tup (.pr (.d (.int .i64 c)) (.d (.int .i64 0)))))/\(c<=0↔le x.k x.t (rat x.k q) x.a):=by
 refine⟨_,Yps hr i hp hq (by omega) (by decide) (by decide) (by decide) (Ynn h).1 (Ynn h).2,?_⟩
 unfold le
 have hs:=(Xau hr).sn (add x.k (rat x.k q) (neg x.k x.a))
 have L:=Xba x.k x.t
 rw[L.nd,L.nn,L.ac] at hs
 rw[hs];omega
theorem Ybt{x:Nm}(h:x.k<=3)(hr:Xbm x.k x.t)(i:TS 300 x.k x.t)(hp:Sz 15000 (toL x.k x.a)){q:Rat}(hq:Qs 4000 q):
 ∃c:Int,(C0 94 [.d (dN x),.d (dN (nq q))] (·=.tup (.pr (.d (.int .i64 c)) (.d (.int .i64 0)))))/\(c<=0↔le x.k x.t x.a (rat x.k q)):=by
 refine⟨_,Ypr hr i hp hq (by omega) (by decide) (by decide) (by decide) (Ynn h).1 (Ynn h).2,?_⟩
 unfold le
 have hs:=(Xau hr).sn (add x.k x.a (neg x.k (rat x.k q)))
 have L:=Xba x.k x.t
 rw[L.nd,L.nn,L.ac] at hs
 rw[hs];omega
theorem Ygp{n:Int}(h:Zs 1601 n): Qs 4000 ((n:Rat)-hf)/\Qs 4000 ((n:Rat)+hf):=by
 have i:Qs 1601 (n:Rat):=Qs.int h (by decide)
 exact⟨by rw[W5p];exact(i.add hf_qs.neg).mono (by decide),(i.add hf_qs).mono (by decide)⟩
theorem ten_pos(n:Nat): (0:Rat)<((10^n:Int):Rat):=by
 have:(0:Int)<10^n:=W5x (by decide)
 exact Rat.intCast_pos.2 this
theorem Yez{n:Nat}(h:n<=400): Qs 1601 ((10^n:Int):Rat):=Qs.int ((p10 n).mono (by omega)) (by decide)
theorem Yi2{x:Nm}(H:Pk x){u:Rat}(i:Qs 1601 u): Sz 15000 (toL x.k (mul x.k x.t x.a (rat x.k u))):=by
 rcases H.ml with h | ⟨h0,h⟩
 . refine(Sz.all (Xfw (t:=x.t) h i)).mono ?_
   rw[Xab]
   have hp:2^x.k<=2^3:=W0m (by decide) H.k
   omega
 . refine(Sz.all (Xfw (t:=x.t) h i)).mono ?_
   rw[Xab,h0]
   decide
theorem Within_yes{x:Nm}{s a b:List UInt8}{ng:Bool}(H:Pk x)(hs:Tx s)(h:prs s=some (ng,a,b)): C0 37 [.d (dN x),.d (.str s)] (·=.b (dc (inI x.k x.t x.a (loQ ng a b) (hiQ ng a b)))):=by
 obtain⟨B,hb⟩:=frI_zs h
 obtain⟨n,hn⟩:∃n,n=frI ng a b:=⟨_,rfl⟩
 have I:=Yez hb
 have i:=Yi2 H I
 obtain⟨j,o⟩:=Ygp B
 obtain⟨c,T,M⟩:=Yhc (x:=⟨x.k,x.t,mul x.k x.t x.a (rat x.k ((10^b.length:Int):Rat))⟩) H.k H.re H.t i j
 obtain⟨d,hd,O⟩:=Ybt (x:=⟨x.k,x.t,mul x.k x.t x.a (rat x.k ((10^b.length:Int):Rat))⟩) H.k H.re H.t i o
 have A:inI x.k x.t x.a (loQ ng a b) (hiQ ng a b)↔c<=0/\d<=0:=by
  have h0:=Xqq b.length
  rw[M,O]
  have U:loQ ng a b*((10^b.length:Int):Rat)=((frI ng a b:Int):Rat)-hf:=by rw[loQ,Xj5];grind
  have V:hiQ ng a b*((10^b.length:Int):Rat)=((frI ng a b:Int):Rat)+hf:=by rw[hiQ,Xj5];grind
  show _/\_↔_
  rw[Xlq H.re (ten_pos _) U,Xlw H.re (ten_pos _) V]
 obtain⟨b1,b2,b3,b4,Y⟩:=bnds H.k
 have hk:=H.k
 refine En Tryz.func37 λ_ _ _=>?_
 refine Ca rfl (Xld hs) λv Z=>?_
 obtain rfl:=(Xnb h).1 Z
 refine No rfl (by decide)<|Dw rfl<|Ce rfl (Xcz (by omega))<|Ce rfl (Xkm B (by decide) (by decide))<|Dw rfl<|Ce rfl (Xkm I.n (by decide) (by decide))<|Ce rfl (P9.FromRat_ok I (by decide))<|Ce rfl (Ymy H.t H.sz I (by omega) (by decide) (by decide) (by decide) Y)<|No rfl (by decide)<|Ce rfl (Xk9 (a:=1) (b:=2) (by decide) (by decide))<|Dw rfl<|Ce rfl (Xvt (Qs.int B (by decide)) hf_qs (by decide))<|Ce rfl (P9.FromRat_ok j (by decide))<|Ce rfl (Xdw (Qs.int B (by decide)) hf_qs (by decide))<|Ce rfl (P9.FromRat_ok o (by decide))<|Ce rfl T<|Ce rfl hd<|Yes rfl (by decide)<|Yes rfl (by decide)<|By rfl (λQ=>?_) λQ=>?_
 . exact R1 rfl (.bp (by rw[Xal,A];exact⟨λh=>⟨Q,h⟩,λh=>h.2⟩))
 . exact R1 rfl (.bp (by rw[A];exact⟨nofun,λh=>absurd h.1 Q⟩))
end
end Go.Proofs.YtcmjannkbdflmaaGreatDoor.P11
namespace Go.Proofs.YtcmjannkbdflmaaGreatDoor.R3
open Go Go.Vm Go.Num Go.Tow Go.Proofs.YtcmjannkbdflmaaGreatDoor
theorem Point_ok{x:Rat}: C0 329 [.d (dq x)] (·=.d (dI (x,x))):=by
 refine En Tryz.func329 λ_ _ _=>?_
 exact R1 rfl (Xzd rfl rfl)
theorem Xhs{b:Nat}(hb:b<=4096): C0 338 [.d (.int .i64 b)] (·=.d (dq (pw b))):=by
 refine En Tryz.func338 λ_ _ _=>?_
 exact Ce rfl (R1.FromInt_ok (z:=2) (by decide))<|Ce rfl (R1.Pow_ok (z:=2) (q:=2) (by unfold Zs;decide) (by omega) (by decide))<|Dw rfl<|Ce rfl (R1.FromInt_ok (z:=1) (by decide))<|Ce rfl (R2.Make_ok (p:=b+1) (a:=2^b) (b:=1) (Zs.two (W0c _)) (Zs.one (by omega)) (by omega) (by decide))<|R1 rfl (.eq (by rw[Xi2];rfl))
section
variable{x:Rat}{s b:Nat}
theorem Xi1(h:Qs s x)(hb:b<=4096)(hs:s<=1099511627776): C0 398 [.d (dq x),.d (.int .i64 b)] (·=.d (dq (dnQ x b))):=by
 have hp:=h.mul (Xg5 b)
 refine En Tryz.func398 λ_ _ _=>?_
 exact Ce rfl (Xhs hb)<|Dw rfl<|Ce rfl (R2.Mul_ok h (Xg5 b) (by omega))<|Ce rfl (R2.Floor_ok hp (by omega))<|Ce rfl (R2.Make_ok (p:=s+b+1) (a:=(x*pw b).floor) (b:=2^b) ((Zs.floor hp).mono (by omega)) (Zs.two (by omega)) (by omega) (Xdj b))<|R1 rfl (.rf rfl)
theorem Yep(h:Qs s x)(hb:b<=4096)(hs:s<=1099511627776): C0 399 [.d (dq x),.d (.int .i64 b)] (·=.d (dq (upQ x b))):=by
 refine En Tryz.func399 λ_ _ _=>?_
 exact Ce rfl (R2.Neg_ok h (by omega))<|Ce rfl (Xi1 h.neg hb hs)<|Ce rfl (R2.Neg_ok (Xsv h.neg b) (by omega))<|R1 rfl (.rf rfl)
theorem Round_ok{p:Rat×Rat}(hp:Q2 s p)(hb:b<=4096)(hs:s<=1099511627776): C0 332 [.d (dI p),.d (.int .i64 b)] (·=.d (dI (rnd p b))):=by
 refine En Tryz.func332 λ_ _ _=>?_
 exact No rfl (by omega)<|No rfl (by omega)<|Dw rfl<|Ce rfl (Xi1 hp.1 hb hs)<|Ce rfl (Yep hp.2 hb hs)<|R1 rfl (Xzd rfl rfl)
end
theorem Xy3{x:Rat}{r:List Rat}{s:Nat}(U:∀y∈x::r,Qs s y)(hs:s+s<=4398046511104)(hn:r.length<=1000): C0 400 [.d (dqs (x::r))] (·=.d (dI (Xop x r,Xoq x r))):=by
 refine En Tryz.func400 λ_ _ _=>?_
 refine Ix 0 rfl (u:=dq x) rfl<|Ce rfl Point_ok<|Lo (λ(q:Nat×Rat×Rat)=>[(0,.d (dqs (x::r))),(2,.ptr 2 0),(3,.ptr 3 0),(4,.d (.int .i64 (q.1+1:Nat)))]) (λq=>[(2,.var zI),(3,.var (.d (dI (q.2.1,q.2.2))))]) (λq=>q.1<=r.length/\q.2.1=Xop x (r.take q.1)/\q.2.2=Xoq x (r.take q.1)) (λq=>r.length-q.1) (0,x,x) [] rfl ⟨W0s _,rfl,rfl⟩ (λ(k,lo,hi) ⟨hk,j,o⟩=>?_)
 simp only at hk j o
 have V:Qs s lo:=j ▸ Xpg (Xk7 U k)
 have Q:Qs s hi:=o ▸ Xph (Xk7 U k)
 have B:s+s<=8796093022208:=by omega
 refine By rfl (λh=>?_) λh=>?_
 . have h:((k+1:Nat):Int)<(((x::r).map dq).length:Nat):=h
   rw[lq,W0j] at h
   obtain⟨y,Y⟩:=qat (l:=r) (k:=k) (by omega)
   have i:((x::r).map dq)[k+1]?=some (dq y):=mp (by simpa using Y)
   have Z:Qs s y:=U y (W1b _ (W0e Y))
   have e:r.take (k+1)=r.take k++[y]:=by rw[W1c,Y];rfl
   have e1:Xop x (r.take (k+1))=lo2 lo y:=by rw[e,Xng,j]
   have e2:Xoq x (r.take (k+1))=hi2 hi y:=by rw[e,Xnh,o]
   have A:∀I M,I=lo2 lo y->M=hi2 hi y->k+1<=r.length/\I=Xop x (r.take (k+1))/\M=Xoq x (r.take (k+1)):=λI M a b=>⟨by omega,by rw[a,e1],by rw[b,e2]⟩
   refine Dw rfl<|Ix (k+1) rfl i<|Ce rfl (R2.Cmp_ok Z V B)<|By rfl (λT=>?_) λT=>?_
   . refine Ix (k+1) rfl i<|Dw rfl<|Ix (k+1) rfl i<|Ce rfl (R2.Cmp_ok Z Q B)<|By rfl (λO=>?_) λO=>?_
     . refine Ix (k+1) rfl i<|Ar (k+1+1:Nat) rfl ?_
       exact Bk (k+1,y,y) [] rfl (A y y (if_pos (Xyb.1 T)).symm (if_pos (Yhd.1 O)).symm) (by show r.length-(k+1)<r.length-k;omega)
     . refine Ar (k+1+1:Nat) rfl ?_
       exact Bk (k+1,y,hi) [] rfl (A y hi (if_pos (Xyb.1 T)).symm (if_neg λh=>O (Yhd.2 h)).symm) (by show r.length-(k+1)<r.length-k;omega)
   . refine Dw rfl<|Ix (k+1) rfl i<|Ce rfl (R2.Cmp_ok Z Q B)<|By rfl (λO=>?_) λO=>?_
     . refine Ix (k+1) rfl i<|Ar (k+1+1:Nat) rfl ?_
       exact Bk (k+1,lo,y) [] rfl (A lo y (if_neg λh=>T (Xyb.2 h)).symm (if_pos (Yhd.1 O)).symm) (by show r.length-(k+1)<r.length-k;omega)
     . refine Ar (k+1+1:Nat) rfl ?_
       exact Bk (k+1,lo,hi) [] rfl (A lo hi (if_neg λh=>T (Xyb.2 h)).symm (if_neg λh=>O (Yhd.2 h)).symm) (by show r.length-(k+1)<r.length-k;omega)
 . have h:¬((k+1:Nat):Int)<(((x::r).map dq).length:Nat):=h
   rw[lq,W0j] at h
   rw[W0b (by omega)] at j o
   exact R1 rfl (Xzd (by rw[j]) (by rw[o]))
section
variable{p q:Rat×Rat}{s t b:Nat}
theorem Ybd(hp:Q2 s p)(hq:Q2 t q)(hs:s+t+3<=4398046511104): C0 401 [.d (dI p),.d (dI q),.d (.int .i64 0)] (·=.d (dqs [p.1+q.1,p.1+q.2,p.2+q.1,p.2+q.2])):=by
 have h:s+t+1<=8796093022208:=by omega
 refine En Tryz.func401 λ_ _ _=>?_
 refine Dw rfl<|Nl 7 7 4 rfl ?_
 refine Lo (λ(i:Nat)=>[(2,.d (.int .i64 0)),(7,.gr 7 4 (([p.1+q.1,p.1+q.2,p.2+q.1,p.2+q.2].take (2*i)).map dq)),(8,.lit 4 [dq p.1,dq p.2]),(9,.lit 4 [dq q.1,dq q.2]),(10,.d (.int .i64 i))]) (λi=>[(7,.tok (([p.1+q.1,p.1+q.2,p.2+q.1,p.2+q.2].take (2*i)).map dq).length 4)]) (λi=>i<=2) (λi=>2-i) 0 [] rfl (by decide) (λi hi=>?_)
 have hi:i=0\/i=1\/i=2:=by omega
 rcases hi with rfl | rfl | rfl
 . refine Yes rfl (by decide)<|Lo (λ(k:Nat)=>[(2,.d (.int .i64 0)),(7,.gr 7 4 (([p.1+q.1,p.1+q.2,p.2+q.1,p.2+q.2].take (0+k)).map dq)),(8,.lit 4 [dq p.1,dq p.2]),(9,.lit 4 [dq q.1,dq q.2]),(10,.d (.int .i64 0)),(11,.d (.int .i64 k))]) (λk=>[(7,.tok (([p.1+q.1,p.1+q.2,p.2+q.1,p.2+q.2].take (0+k)).map dq).length 4)]) (λk=>k<=2) (λk=>2-k) 0 [] rfl (by decide) (λk j=>?_)
   have j:k=0\/k=1\/k=2:=by omega
   rcases j with rfl | rfl | rfl
   . refine Yes rfl (by decide)<|Yes rfl (by decide)<|Dw rfl<|Ix 0 rfl (u:=dq p.1) rfl<|Ix 0 rfl (u:=dq q.1) rfl<|Ce rfl (R2.Add_ok hp.1 hq.1 h)<|ApG (([p.1+q.1,p.1+q.2,p.2+q.1,p.2+q.2].take (0+1)).map dq) rfl rfl (by simp) ?_
     refine Ar (0+1:Nat) rfl ?_
     exact Bk 1 [(56,7)] rfl (by decide) (by decide)
   . refine Yes rfl (by decide)<|Yes rfl (by decide)<|Dw rfl<|Ix 0 rfl (u:=dq p.1) rfl<|Ix 1 rfl (u:=dq q.2) rfl<|Ce rfl (R2.Add_ok hp.1 hq.2 h)<|ApG (([p.1+q.1,p.1+q.2,p.2+q.1,p.2+q.2].take (0+2)).map dq) rfl rfl (by simp) ?_
     refine Ar (1+1:Nat) rfl ?_
     exact Bk 2 [(56,7)] rfl (by decide) (by decide)
   . refine No rfl (by decide)<|Ar (0+1:Nat) rfl ?_
     exact Bk 1 [] rfl (by decide) (by decide)
 . refine Yes rfl (by decide)<|Lo (λ(k:Nat)=>[(2,.d (.int .i64 0)),(7,.gr 7 4 (([p.1+q.1,p.1+q.2,p.2+q.1,p.2+q.2].take (2+k)).map dq)),(8,.lit 4 [dq p.1,dq p.2]),(9,.lit 4 [dq q.1,dq q.2]),(10,.d (.int .i64 1)),(11,.d (.int .i64 k))]) (λk=>[(7,.tok (([p.1+q.1,p.1+q.2,p.2+q.1,p.2+q.2].take (2+k)).map dq).length 4)]) (λk=>k<=2) (λk=>2-k) 0 [] rfl (by decide) (λk j=>?_)
   have j:k=0\/k=1\/k=2:=by omega
   rcases j with rfl | rfl | rfl
   . refine Yes rfl (by decide)<|Yes rfl (by decide)<|Dw rfl<|Ix 1 rfl (u:=dq p.2) rfl<|Ix 0 rfl (u:=dq q.1) rfl<|Ce rfl (R2.Add_ok hp.2 hq.1 h)<|ApG (([p.1+q.1,p.1+q.2,p.2+q.1,p.2+q.2].take (2+1)).map dq) rfl rfl (by simp) ?_
     refine Ar (0+1:Nat) rfl ?_
     exact Bk 1 [(56,7)] rfl (by decide) (by decide)
   . refine Yes rfl (by decide)<|Yes rfl (by decide)<|Dw rfl<|Ix 1 rfl (u:=dq p.2) rfl<|Ix 1 rfl (u:=dq q.2) rfl<|Ce rfl (R2.Add_ok hp.2 hq.2 h)<|ApG (([p.1+q.1,p.1+q.2,p.2+q.1,p.2+q.2].take (2+2)).map dq) rfl rfl (by simp) ?_
     refine Ar (1+1:Nat) rfl ?_
     exact Bk 2 [(56,7)] rfl (by decide) (by decide)
   . refine No rfl (by decide)<|Ar (1+1:Nat) rfl ?_
     exact Bk 2 [] rfl (by decide) (by decide)
 . exact No rfl (by decide)<|R1 rfl (.gr rfl)
theorem Ybc(hp:Q2 s p)(hq:Q2 t q)(hs:s+t+3<=4398046511104): C0 401 [.d (dI p),.d (dI q),.d (.int .i64 2)] (·=.d (dqs [p.1*q.1,p.1*q.2,p.2*q.1,p.2*q.2])):=by
 have h:s+t+1<=8796093022208:=by omega
 refine En Tryz.func401 λ_ _ _=>?_
 refine Dw rfl<|Nl 7 7 4 rfl ?_
 refine Lo (λ(i:Nat)=>[(2,.d (.int .i64 2)),(7,.gr 7 4 (([p.1*q.1,p.1*q.2,p.2*q.1,p.2*q.2].take (2*i)).map dq)),(8,.lit 4 [dq p.1,dq p.2]),(9,.lit 4 [dq q.1,dq q.2]),(10,.d (.int .i64 i))]) (λi=>[(7,.tok (([p.1*q.1,p.1*q.2,p.2*q.1,p.2*q.2].take (2*i)).map dq).length 4)]) (λi=>i<=2) (λi=>2-i) 0 [] rfl (by decide) (λi hi=>?_)
 have hi:i=0\/i=1\/i=2:=by omega
 rcases hi with rfl | rfl | rfl
 . refine Yes rfl (by decide)<|Lo (λ(k:Nat)=>[(2,.d (.int .i64 2)),(7,.gr 7 4 (([p.1*q.1,p.1*q.2,p.2*q.1,p.2*q.2].take (0+k)).map dq)),(8,.lit 4 [dq p.1,dq p.2]),(9,.lit 4 [dq q.1,dq q.2]),(10,.d (.int .i64 0)),(11,.d (.int .i64 k))]) (λk=>[(7,.tok (([p.1*q.1,p.1*q.2,p.2*q.1,p.2*q.2].take (0+k)).map dq).length 4)]) (λk=>k<=2) (λk=>2-k) 0 [] rfl (by decide) (λk j=>?_)
   have j:k=0\/k=1\/k=2:=by omega
   rcases j with rfl | rfl | rfl
   . refine Yes rfl (by decide)<|No rfl (by decide)<|No rfl (by decide)<|Dw rfl<|Ix 0 rfl (u:=dq p.1) rfl<|Ix 0 rfl (u:=dq q.1) rfl<|Ce rfl (R2.Mul_ok hp.1 hq.1 h)<|ApG (([p.1*q.1,p.1*q.2,p.2*q.1,p.2*q.2].take (0+1)).map dq) rfl rfl (by simp) ?_
     refine Ar (0+1:Nat) rfl ?_
     exact Bk 1 [(42,7)] rfl (by decide) (by decide)
   . refine Yes rfl (by decide)<|No rfl (by decide)<|No rfl (by decide)<|Dw rfl<|Ix 0 rfl (u:=dq p.1) rfl<|Ix 1 rfl (u:=dq q.2) rfl<|Ce rfl (R2.Mul_ok hp.1 hq.2 h)<|ApG (([p.1*q.1,p.1*q.2,p.2*q.1,p.2*q.2].take (0+2)).map dq) rfl rfl (by simp) ?_
     refine Ar (1+1:Nat) rfl ?_
     exact Bk 2 [(42,7)] rfl (by decide) (by decide)
   . refine No rfl (by decide)<|Ar (0+1:Nat) rfl ?_
     exact Bk 1 [] rfl (by decide) (by decide)
 . refine Yes rfl (by decide)<|Lo (λ(k:Nat)=>[(2,.d (.int .i64 2)),(7,.gr 7 4 (([p.1*q.1,p.1*q.2,p.2*q.1,p.2*q.2].take (2+k)).map dq)),(8,.lit 4 [dq p.1,dq p.2]),(9,.lit 4 [dq q.1,dq q.2]),(10,.d (.int .i64 1)),(11,.d (.int .i64 k))]) (λk=>[(7,.tok (([p.1*q.1,p.1*q.2,p.2*q.1,p.2*q.2].take (2+k)).map dq).length 4)]) (λk=>k<=2) (λk=>2-k) 0 [] rfl (by decide) (λk j=>?_)
   have j:k=0\/k=1\/k=2:=by omega
   rcases j with rfl | rfl | rfl
   . refine Yes rfl (by decide)<|No rfl (by decide)<|No rfl (by decide)<|Dw rfl<|Ix 1 rfl (u:=dq p.2) rfl<|Ix 0 rfl (u:=dq q.1) rfl<|Ce rfl (R2.Mul_ok hp.2 hq.1 h)<|ApG (([p.1*q.1,p.1*q.2,p.2*q.1,p.2*q.2].take (2+1)).map dq) rfl rfl (by simp) ?_
     refine Ar (0+1:Nat) rfl ?_
     exact Bk 1 [(42,7)] rfl (by decide) (by decide)
   . refine Yes rfl (by decide)<|No rfl (by decide)<|No rfl (by decide)<|Dw rfl<|Ix 1 rfl (u:=dq p.2) rfl<|Ix 1 rfl (u:=dq q.2) rfl<|Ce rfl (R2.Mul_ok hp.2 hq.2 h)<|ApG (([p.1*q.1,p.1*q.2,p.2*q.1,p.2*q.2].take (2+2)).map dq) rfl rfl (by simp) ?_
     refine Ar (1+1:Nat) rfl ?_
     exact Bk 2 [(42,7)] rfl (by decide) (by decide)
   . refine No rfl (by decide)<|Ar (1+1:Nat) rfl ?_
     exact Bk 2 [] rfl (by decide) (by decide)
 . exact No rfl (by decide)<|R1 rfl (.gr rfl)
theorem Yax{a b c d:Rat}(h:a<=b)(Q:c<=d): (Xop (a+c) [a+d,b+c,b+d],Xoq (a+c) [a+d,b+c,b+d])=(a+c,b+d):=by
 have o:Xop (a+c) [a+d,b+c,b+d]=a+c:=by
  show lo2 (lo2 (lo2 (a+c) (a+d)) (b+c)) (b+d)=a+c
  have A:lo2 (a+c) (a+d)=a+c:=if_neg (by grind)
  have B:lo2 (a+c) (b+c)=a+c:=if_neg (by grind)
  have I:lo2 (a+c) (b+d)=a+c:=if_neg (by grind)
  rw[A,B,I]
 have M:Xoq (a+c) [a+d,b+c,b+d]=b+d:=by
  show hi2 (hi2 (hi2 (a+c) (a+d)) (b+c)) (b+d)=b+d
  have j:∀x,x<=b+d->hi2 x (b+d)=b+d:=λx O=>by
   unfold hi2
   split
   . rfl
   . grind
  apply j
  have i:∀x y,x<=b+d->y<=b+d->hi2 x y<=b+d:=λx y O T=>by unfold hi2;split<;>assumption
  exact i _ _ (i _ _ (by grind) (by grind)) (by grind)
 rw[o,M]
theorem Add_ok(hp:Q2 s p)(hq:Q2 t q)(j:p.1<=p.2)(lQ:q.1<=q.2)(hs:2*(s+t)+10<=4398046511104): C0 333 [.d (dI p),.d (dI q)] (·=.d (dI (Xml p q))):=by
 have h:=Xy3 (x:=p.1+q.1) (r:=[p.1+q.2,p.2+q.1,p.2+q.2]) (s:=s+t+1) (λy i=>by
  simp only[W1h,W6d,or_false] at i
  rcases i with rfl | rfl | rfl | rfl
  . exact hp.1.add hq.1
  . exact hp.1.add hq.2
  . exact hp.2.add hq.1
  . exact hp.2.add hq.2) (by omega) (by simp)
 rw[Yax j lQ] at h
 refine En Tryz.func333 λ_ _ _=>?_
 exact Ce rfl (Ybd hp hq (by omega))<|Ce rfl h<|R1 rfl (.rf rfl)
theorem Mul_ok(hp:Q2 s p)(hq:Q2 t q)(hs:2*(s+t)+10<=4398046511104): C0 334 [.d (dI p),.d (dI q)] (·=.d (dI (Xb6 p q))):=by
 have i:=Xy3 (x:=p.1*q.1) (r:=[p.1*q.2,p.2*q.1,p.2*q.2]) (s:=s+t) (λy h=>by
  simp only[W1h,W6d,or_false] at h
  rcases h with rfl | rfl | rfl | rfl
  . exact hp.1.mul hq.1
  . exact hp.1.mul hq.2
  . exact hp.2.mul hq.1
  . exact hp.2.mul hq.2) (by omega) (by simp)
 refine En Tryz.func334 λ_ _ _=>?_
 exact Ce rfl (Ybc hp hq (by omega))<|Ce rfl i<|R1 rfl (.rf rfl)
theorem Sqrt_ok{x:Rat}(A:x=mx0 p.1)(hp:Q2 s p)(B:1<=s)(I:0<=p.2)(hb:b<=4096)(hs:s<=1099511627776): C0 331 [.d (dI (x,p.2)),.d (.int .i64 b)] (·=.tup (.pr (.d (dI (rtb p b))) (.d (.int .i64 0)))):=by
 have M:Qs s x:=A ▸ Xr7 hp.1 B
 have T:0<=x:=A ▸ Xe6 p.1
 have w1:=Xmu (b:=b) M
 have w2:=Xmu (b:=b) hp.2
 have n1:=Xea (b:=b) T
 have O:=Xea (b:=b) I
 have U:=Zs.floor w1
 have V:=Zs.floor w2
 have Y:=Xm2 w1 n1
 have i:=Xm2 w2 O
 have s1:=R1.Sqrt_ok (a:=(sq2 x b).floor.toNat) (by
  rw[Xb4 n1] at U
  exact W0l (Xlo U) (by omega))
 have s2:=R1.Sqrt_ok (a:=(sq2 p.2 b).floor.toNat) (by
  rw[Xb4 O] at V
  exact W0l (Xlo V) (by omega))
 rw[<-Xb4 n1] at s1
 rw[<-Xb4 O] at s2
 have Z:Qs (b+1+(b+1)) (pw b*pw b):=(Xg5 b).mul (Xg5 b)
 have Q:(dig (rtF (sq2 p.2 b):Int).natAbs).length<=549755813888:=W0l (i.len (by omega)) (by decide)
 have j:=R1.Mul_ok (a:=(rtF (sq2 p.2 b):Int)) (b:=(rtF (sq2 p.2 b):Int)) Q Q
 have zz:Zs (s+(2*b+2)+(s+(2*b+2))) ((rtF (sq2 p.2 b):Int)*(rtF (sq2 p.2 b):Int)):=i.mul i
 refine En Tryz.func331 λ_ _ _=>?_
 refine No rfl (by omega)<|No rfl (by omega)<|Ce rfl (R2.Sign_ok M (by omega))<|No rfl (Ye7 T)<|Ce rfl (Xhs hb)<|Ce rfl (R2.Mul_ok (Xg5 b) (Xg5 b) (by omega))<|Ce rfl (R2.Mul_ok M Z (by omega))<|Ce rfl (R2.Floor_ok w1 (by omega))<|Ce rfl s1<|Ce rfl (R2.Mul_ok hp.2 Z (by omega))<|Ce rfl (R2.Floor_ok w2 (by omega))<|Ce rfl s2<|Dw rfl<|Ce rfl j<|Ce rfl (R1.FromInt_ok (z:=1) (by decide))<|Ce rfl (R2.Make_ok (p:=s+(2*b+2)+(s+(2*b+2))) (b:=1) zz (Zs.one (by omega)) (by omega) (by decide))<|Ce rfl (R2.Cmp_ok (p:=s+(2*b+2)+(s+(2*b+2))) (Qs.divInt zz (Zs.one (by omega)) (by decide)) w2 (by omega)) ?_
 have o:Xn5 (Rat.divInt ((rtF (sq2 p.2 b):Int)*(rtF (sq2 p.2 b):Int)) 1) (sq2 p.2 b)<0↔((rtF (sq2 p.2 b)*rtF (sq2 p.2 b):Int):Rat)<sq2 p.2 b:=by rw[Xyb,Xi2]
 refine By rfl (λh=>?_) λh=>?_
 . have e:Xth (sq2 p.2 b)=rtF (sq2 p.2 b)+1:=if_pos (o.1 h)
   refine Dw rfl<|Ce rfl (R1.FromInt_ok (z:=1) (by decide))<|Ce rfl (R1.Add_ok (a:=(rtF (sq2 p.2 b):Int)) (b:=1) Q (by have:=(Zs.one (p:=1) (by decide)).len (by decide);omega))<|Dw rfl<|Ce rfl (R2.Make_ok (p:=s+(2*b+2)) (b:=2^b) Y (Zs.two (by omega)) (by omega) (Xdj b))<|Ce rfl (R2.Make_ok (p:=s+(2*b+2)+2) (b:=2^b) ((i.add (Zs.one (p:=1) (by decide))).mono (by omega)) (Zs.two (by omega)) (by omega) (Xdj b))<|RTt rfl (.cons (Xzd (by rw[A];rfl) ?_) Xav)
   show dq _=dq (Xon p.2 b)
   unfold Xon
   rw[e];rfl
 . have e:Xth (sq2 p.2 b)=rtF (sq2 p.2 b):=if_neg λh'=>h (o.2 h')
   refine Dw rfl<|Ce rfl (R2.Make_ok (p:=s+(2*b+2)) (b:=2^b) Y (Zs.two (by omega)) (by omega) (Xdj b))<|Ce rfl (R2.Make_ok (p:=s+(2*b+2)) (b:=2^b) i (Zs.two (by omega)) (by omega) (Xdj b))<|RTt rfl (.cons (Xzd (by rw[A];rfl) ?_) Xav)
   show dq _=dq (Xon p.2 b)
   unfold Xon
   rw[e];rfl
theorem Valid_ok(hp:Q2 s p)(hs:s+s<=4398046511104): C0 335 [.d (dI p)] (·=.b (dc (p.1<=p.2))):=by
 refine En Tryz.func335 λ_ _ _=>?_
 exact Ce rfl (R2.Valid_ok hp.1 (by omega))<|Yes rfl rfl<|Ce rfl (R2.Valid_ok hp.2 (by omega))<|Yes rfl rfl<|Ce rfl (R2.Cmp_ok hp.1 hp.2 (by omega))<|R1 rfl (.bp (by rw[Xal,Xpy];grind))
theorem Narrow_ok(hp:Q2 s p)(hb:b<=4096)(hs:2*s+10000<=4398046511104): C0 232 [.d (dI p),.d (.int .i64 b)] (·=.b (dc (Wid p b))):=by
 have i:Qs (s+s+1) (p.2-p.1):=by rw[W5p];exact hp.2.add hp.1.neg
 refine En Tryz.func232 λ_ _ _=>?_
 refine Ce rfl (Valid_ok hp (by omega))<|By rfl (λh=>?_) λh=>?_
 . refine Ce rfl (R2.Sub_ok hp.2 hp.1 (by omega))<|Ce rfl (Xhs hb)<|Ce rfl (R2.Mul_ok i (Xg5 b) (by omega))<|Ce rfl (R2.FromInt_ok (z:=1) (by decide))<|Ce rfl (R2.Cmp_ok (i.mul (Xg5 b)) (Qs.int (p:=1) (z:=1) (Zs.one (by decide)) (by decide)) (by omega))<|R1 rfl (.bp ?_)
   rw[Xal,Xpy]
   exact⟨λj=>⟨h,by have:((1:Int):Rat)=1:=rfl;rw[this] at j;grind⟩,λj=>by have:=j.2;have e:((1:Int):Rat)=1:=rfl;rw[e];grind⟩
 . exact R1 rfl (.bp ⟨nofun,λj=>absurd j.1 h⟩)
end
end Go.Proofs.YtcmjannkbdflmaaGreatDoor.R3
namespace Go.Proofs.YtcmjannkbdflmaaGreatDoor.R7
open Go Go.Vm Go.Num Go.Tow Go.Proofs.YtcmjannkbdflmaaGreatDoor
theorem FromRat_el{k:Nat}{t:Tw k}{x:Rat}(h:k<=16): C0 237 [.d (dt t),.d (dq x)] (·=.d (de (rat k x))):=by
 have:=R6.FromRat_ok (t:=toT k t) (x:=x) (by rw[Xaa];exact h)
 rwa[Xaa,<-Xd7] at this
theorem Yeh{k:Nat}: ∀ {s b:Nat} {t:Tw k} {a:Tow.El k},Xbm k t->TS s k t->Sz s (toL k a)->1<=s->k<=16->bB s b k<=274877906944->b<=4076->C0 231 [.d (dt t),.d (de a),.d (.int .i64 b)] (·=.d (dI (bx k t a b))):=by
 induction k with
 | zero =>
  intro s b t a j o ha i Y hs hb
  have M:∀y:Rat,C0 231 [.d (dts []),.d (dqs [y]),.d (.int .i64 b)] (·=.d (dI (y,y))):=λy=>by
   refine En Tryz.func231 λ_ _ _=>?_
   exact Yes rfl rfl<|Ix 0 rfl (u:=dq y) rfl<|Ce rfl R3.Point_ok<|R1 rfl (.rf rfl)
  exact M a
 | succ k O =>
  intro s b t a j o ha i Y hs hb
  have Z:Sz s (toL k a.1):=Sz.left ha
  have hy:Sz s (toL k a.2):=Sz.right ha
  have hge:=Yb4 s b k
  have hs':3*bB s b k+3*b+30<=274877906944:=hs
  have Q:=Xp0 (b:=b) j.1 o.1 Z i
  have T:=Xp0 (b:=b) j.1 o.1 hy i
  have I:=Xp0 (b:=b) j.1 o.1 o.2 i
  have A:=Xh4 j (Xjd j.1 t.2 b)
  have qs:=Yc6 (b:=b) I A (by omega)
  have qm:=Xln T qs
  have qa:=Xmf Q qm
  have lu:=Yhi j.1 a.1 b
  have U:=Xjc (t:=t) (a:=a) (b:=b)
  have hlen:=Xab k
  have hp:=p16 Y
  have V:C0 231 [.d (dt t),.d (de a),.d (.int .i64 b)] (·=.d (dI (rnd (Xml (bx k t.1 a.1 b) (Xb6 (bx k t.1 a.2 b) (rtb (bx k t.1 t.2 b) b))) (b+20)))):=by
   refine En Tryz.func231 λ_ _ _=>?_
   refine No rfl (by show ¬((((toT k t.1++[toL k t.2]).map dqs).length:Nat):Int)=0;rw[twL];omega)<|Ar k rfl ?_ (tw1 t (by omega))
   refine Dw rfl<|Tk k ((toT k t.1).map dqs) rfl rfl (Xg3 t) (twT t) ?_
   refine Ar (2^k:Nat) rfl ?_ (hvq a (by omega))
   refine Tk (2^k) ((toL k a.1).map dq) rfl rfl (Xcc a) (hvT a) ?_
   refine Ce rfl (O j.1 o.1 Z i (by omega) (by omega) hb)<|Tk k ((toT k t.1).map dqs) rfl rfl (Xg3 t) (twT t) ?_
   refine Ar (2^k:Nat) rfl ?_ (hvq a (by omega))
   refine Dp (2^k) ((toL k a.2).map dq) rfl rfl (Xcc a) (hvD a) ?_
   refine Ce rfl (O j.1 o.1 hy i (by omega) (by omega) hb)<|Dw rfl<|Tk k ((toT k t.1).map dqs) rfl rfl (Xg3 t) (twT t) ?_
   refine Ix k rfl (twU t)<|Ce rfl (O j.1 o.1 o.2 i (by omega) (by omega) hb)<|Ce rfl (R2.Sign_ok I.1 (by omega))<|By rfl (λh=>?_) λh=>?_
   . have B:(0:Rat)=mx0 (bx k t.1 t.2 b).1:=(if_pos (Ylv.1 h)).symm
     refine Ce rfl (R2.FromInt_ok (z:=0) (by decide))<|Ce rfl (R3.Sqrt_ok (x:=0) B I (by omega) A (by omega) (by omega))<|Dw rfl<|Ce rfl (R3.Mul_ok T qs (by omega))<|Ce rfl (R3.Add_ok Q qm lu (Xr8 _ _) (by omega))<|Ar (b+20:Nat) rfl ?_
     exact Ce rfl (R3.Round_ok qa (by omega) (by omega))<|R1 rfl (.rf rfl)
   . have B:(bx k t.1 t.2 b).1=mx0 (bx k t.1 t.2 b).1:=(if_neg (λe=>h (Ylv.2 e))).symm
     refine Ce rfl (R3.Sqrt_ok B I (by omega) A (by omega) (by omega))<|Dw rfl<|Ce rfl (R3.Mul_ok T qs (by omega))<|Ce rfl (R3.Add_ok Q qm lu (Xr8 _ _) (by omega))<|Ar (b+20:Nat) rfl ?_
     exact Ce rfl (R3.Round_ok qa (by omega) (by omega))<|R1 rfl (.rf rfl)
  rw[U];exact V
theorem Floor_ok{k:Nat}{t:Tw k}{a:Tow.El k}{s:Nat}(I:Xbm k t)(hw:Wid (bx k t a 2048) 1)(Y:TS s k t)(ha:Sz s (toL k a))(i:1<=s)(M:k<=16)(Z:vB s k (s+bB s 2048 k+4)<=4398046511104)(he:bB s 2048 k<=274877906944):
 C0 150 [.d (dt t),.d (de a)] λv=>∃z,v=.d (dz z)/\Xbp k t a z:=by
 have hsB:=W0l (Xdh (r:=s) k _) Z
 obtain⟨B,hB⟩:∃B,B=bB s 2048 k:=⟨_,rfl⟩
 have hB1:1<=B:=by rw[hB];exact W0l i (Yb4 _ _ _)
 have hq:∀b,b<=2048->Q2 B (bx k t a b):=λb hb=>(Xp0 I Y ha i).mono (by rw[hB];exact Xp3 hb k)
 have O:∀b,b<=2048->bB s b k<=274877906944:=λb hb=>W0l (Xp3 hb k) he
 rw[<-hB] at he Z hsB
 refine En Tryz.func150 λ_ _ _=>?_
 refine Ce rfl (Yeh (b:=8) I Y ha i M (O 8 (by decide)) (by decide))<|Lo (λ(g:Nat)=>[(0,.d (dt t)),(1,.d (de a)),(4,.ptr 4 0),(5,.d (.int .i64 ((8*2^g:Nat):Int))),(6,.ptr 6 0)]) (λg=>[(6,.var (.d (dI (bx k t a (8*2^g))))),(4,.var (.st (.pr (.b false) .nil)))]) (λg=>g<=8) (λg=>8-g) 0 [] rfl (by decide) (λg hg=>?_)
 have hg8:2^g<=2^8:=W0m (by decide) hg
 have j:=hq (8*2^g) (by omega)
 have hin:=Xjd I a (8*2^g)
 refine Ce rfl (R3.Narrow_ok (b:=1) j (by decide) (by omega))<|By rfl (λh=>?_) λh=>?_
 . have o:¬Wid (bx k t a (8*2^g)) 1:=by simpa [Xa9,Xal] using h
   have A:g<8:=by
    by_cases A:g<8
    . exact A
    . obtain rfl:g=8:=by omega
      exact absurd hw o
   have hgs:2^(g+1)<=2^8:=W0m (by decide) A
   have hgd:2^(g+1)=2*2^g:=by rw[W0q];omega
   refine Ar ((8*2^(g+1):Nat):Int) rfl ?_ (wr (by omega) (by simp only[inK];omega))
   exact Ce rfl (Yeh (b:=8*2^(g+1)) I Y ha i M (O _ (by omega)) (by omega))<|Bk (g+1) [] rfl (by omega) (by omega)
 . have o:Wid (bx k t a (8*2^g)) 1:=by simpa [Xa9,Xal] using h
   have hz:=Zs.floor j.1
   have Q:Zs (B+1) ((bx k t a (8*2^g)).1.floor+1):=(hz.add (Zs.one (p:=1) (by decide))).mono (by omega)
   have T:=Ya3 I hin o
   have U:=R2.Make_ok (p:=B+1) (a:=(bx k t a (8*2^g)).1.floor+1) (b:=1) Q (Zs.one (by omega)) (by omega) (by decide)
   rw[Xi2] at U
   have V:=Sz.rat k (Qs.int Q (by omega))
   refine Ce rfl (R2.Floor_ok j.1 (by omega))<|Dw rfl<|Ce rfl (R1.FromInt_ok (z:=1) (by decide))<|Ce rfl (R1.Add_ok (W0l (hz.len (by omega)) (by decide)) (W0l ((Zs.one (p:=1) (by decide)).len (by decide)) (by decide)))<|Dw rfl<|Ce rfl (R1.FromInt_ok (z:=1) (by decide))<|Ce rfl U<|Ce rfl (FromRat_el M)<|Ce rfl (R6.Sub_el M ha.ps V (by omega))<|Ce rfl (Xk1 Y (s:=s+B+4) (by rw[Xas,Xbw];exact(ha.add V.neg).mono (by omega)) M Z)<|By rfl (λh2=>?_) λh2=>?_
   . exact Rt rfl (.one (.rf rfl) rfl rfl) ⟨_,rfl,T.1 h2⟩
   . exact Rt rfl (.one (.rf rfl) rfl rfl) ⟨_,rfl,T.2 h2⟩
end Go.Proofs.YtcmjannkbdflmaaGreatDoor.R7
namespace Go.Vm
open Go
section
variable{c:Cx}{s:St}
theorem Yrh{K:List Kt}{E:Env}{H:Hpl}(t sz:Nat)(A:look E t=some .nil)(k:J c K (sem ((t,.lit sz [])::E) H)): J c K (sem E H):=by
 rintro a w ⟨s0,W,θ,B,hs,o,rfl⟩
 refine k a w ⟨_,W,θ,B,?_,o,rfl⟩
 rw[show sem ((t,AV.lit sz [])::E) H=(upd (look E) t (.lit sz []),look H) by rw[Xa6]]
 refine⟨hs.fm,⟨hs.rel.defers,hs.rel.size,λq v hq=>?_⟩,hs.obs,λq v i hq hi=>?_⟩
 . rcases Xae hq with ⟨j,h⟩ | ⟨j,h⟩
   . subst j;subst h
     obtain⟨p,e⟩:=Xjo (hs.rel.has q _ A)
     rw[e]
     exact⟨_,⟨p,rfl,by decide,.inl rfl⟩,rfl⟩
   . exact hs.rel.has q v h
 . rcases Xae hq with ⟨j,h⟩ | ⟨j,h⟩
   . subst h;exact hi.elim
   . exact hs.ids q v i h hi
theorem NL{K:List Kt}{E:Env}{H:Hpl}(t sz:Nat)(h:nxJ c.tb c.n s=some (K,E,H))(k:StP c (.j [] K ((t,.lit sz [])::E) H))(i:look E t=some .nil:=by exact rfl): StP c s:=by
 unfold nxJ at h
 split at h<;>cases h
 rename_i o
 exact go 1000 o (Yrh t sz i k)
end
end Go.Vm
namespace Go.Proofs.YtcmjannkbdflmaaGreatDoor.R11
open Go Go.Vm Go.Num Go.Tow Go.Proofs.YtcmjannkbdflmaaGreatDoor Go.Proofs.YtcmjannkbdflmaaGreatDoor.P11
def scP: Option (List Rat)->AV
 | none=>.lit 4 []
 | some w=>.own 600 4 0 (w.map dq).length
def scH(x:Nm)(h:Rat): Option (List Rat)->Hpl
 | none=>[(3,.var (.d (dN x))),(5,.var (.d (dq h)))]
 | some w=>[(3,.var (.d (dN x))),(5,.var (.d (dq h))),(600,.arr 4 (w.map dq))]
def scW: Option (List Rat)->List Rat
 | none=>[]
 | some w=>w
theorem Xqf: ∀l:List Rat,List.zipWith (·+·) l (List.replicate l.length 0)=l
 | []=>rfl
 | x::l=>by rw[W0j,W3p,List.zipWith_cons_cons,Xqf l,W7g]
theorem Yev{k:Nat}{t:Tw k}{a:El k}{u g y:Rat}{w:List Rat}(i:w=(toL k a).map (·*u))(h:w[0]?=some y): toL k (scl k t a u g)=w.set 0 (y+g):=by
 have j:(λq:Rat=>u*q)=(·*u):=funext λq=>Rat.mul_comm ..
 rw[show scl k t a u g=add k (mul k t a (rat k u)) (rat k g) from rfl,Xas,Xmp,j,<-i,Xd7]
 have o:w.length=2^k:=by rw[i,W0i,Xab]
 cases w with
 | nil=>cases h
 | cons z w =>
  injection h with h;subst h
  rw[List.zipWith_cons_cons,W7h]
  congr 1
  rw[show 2^k-1=w.length by rw[<-o];rfl]
  exact Xqf w
theorem Xdk{x:Nm}{d:Nat}{g:Rat}(H:Pk x)(hd:d<=60)(hg:Qs 2 g): C0 151 [.d (dN x),.d (.int .i64 d),.d (dq g)] (·=.d (de (scl x.k x.t x.a ((10^d:Int):Rat) g))):=by
 have Q:=ten_qs hd
 obtain⟨u,T⟩:∃u:Rat,u=((10^d:Int):Rat):=⟨_,rfl⟩
 have A:=Xcz (n:=d) (by omega)
 rw[<-T] at Q A |-
 have B:∀q∈toL x.k x.a,Qs 1700 q:=λq hq=>H.ml.elim (λh=>(h q hq).mono (by decide)) λh=>h.2 q hq
 have j:=Xab x.k x.a
 have M:2^x.k<=2^3:=W0m (by decide) H.k
 obtain⟨k,t,a⟩:=x
 have M:2^k<=8:=M
 have j:(toL k a).length=2^k:=j
 refine En Tryz.func151 λ_ _ _=>?_
 refine NL 7 4 rfl ?_
 refine Lo (λ((i,o):Nat×Option (List Rat))=>[(1,.d (.int .i64 d)),(3,.ptr 3 0),(5,.ptr 5 0),(7,scP o),(8,.d (.int .i64 i))]) (λ(_,o)=>scH ⟨k,t,a⟩ g o) (λ(i,o)=>i<=2^k/\scW o=((toL k a).take i).map (·*u)/\(o=none↔i=0)) (λ(i,_)=>2^k-i) (0,none) [] rfl ⟨W0s _,rfl,by simp⟩ ?_
 rintro⟨i,o⟩ ⟨hi,I,ho⟩
 have I:scW o=((toL k a).take i).map (·*u):=I
 cases o with
 | none =>
  obtain rfl:i=0:=ho.1 rfl
  refine By rfl (λh=>?_) λh=>?_
  . obtain⟨q,hq⟩:=qat (l:=toL k a) (k:=0) (by rw[j];exact W0r k)
    refine Dw rfl<|Ix 0 rfl (mp hq)<|Ce rfl A<|Ce rfl (R2.Mul_ok (B q (W0e hq)) Q (by decide))<|ApL ([q*u].map dq) rfl rfl (W3u 0) (show 1<=1099511627776 by decide) ?_
    refine Ar (0+1:Nat) rfl ?_
    exact Bk (0+1,some [q*u]) [(26,600)] rfl ⟨W0r k,by rw[W1c,hq];rfl,by simp⟩ (by show 2^k-(0+1)<2^k-0;have:=W0r k;omega) (by exact⟨rfl,rfl,rfl,rfl,rfl⟩)
  . have h:¬((0:Nat):Int)<(((toL k a).map dq).length:Nat):=h
    rw[lq,j] at h
    have:=W0r k
    omega
 | some w =>
  have I:w=((toL k a).take i).map (·*u):=I
  have U:w.length=i:=by rw[I,W0i,W0k,j];omega
  refine By rfl (λh=>?_) λh=>?_
  . have h:(i:Int)<(((toL k a).map dq).length:Nat):=h
    rw[lq,j] at h
    obtain⟨q,hq⟩:=qat (l:=toL k a) (k:=i) (by omega)
    refine Dw rfl<|Ix i rfl (mp hq)<|Ce rfl A<|Ce rfl (R2.Mul_ok (B q (W0e hq)) Q (by decide))<|ApO ((w++[q*u]).map dq) rfl rfl rfl (by rw[W1k];rfl) (by rw[W0i,W0d,U];show i+1<=_;omega) ?_
    refine Ar (i+1:Nat) rfl ?_
    exact Bk (i+1,some (w++[q*u])) [(26,600)] rfl ⟨by show i+1<=2^k;omega,by rw[W1c,hq,W1k,<-I];rfl,by simp⟩ (by show 2^k-(i+1)<2^k-i;omega) (by exact⟨rfl,rfl,rfl,rfl,rfl⟩)
  . have h:¬(i:Int)<(((toL k a).map dq).length:Nat):=h
    rw[lq,j] at h
    have hik:i=2^k:=by omega
    have hpos:=W0r k
    have O:w=(toL k a).map (·*u):=by rw[I,W0b (by omega)]
    obtain⟨y,V⟩:=qat (l:=w) (k:=0) (by omega)
    obtain⟨q,hq,rfl⟩:∃q,q∈toL k a/\q*u=y:=by
     have:=W0e V
     rw[O] at this
     exact W3l.1 this
    have Y:Qs 2000 (q*u):=((B q hq).mul Q).mono (by decide)
    have Z:=Yev (t:=t) (g:=g) O V
    refine Dw rfl<|Eo 0 rfl (by rw[W0i];omega)<|Ld (dq (q*u)) rfl (mp V) ?_
    refine Ce rfl (R2.Add_ok Y hg (by decide))<|Eo 0 rfl (by rw[W0i];omega)<|Sto (zs:=(w.set 0 (q*u+g)).map dq) rfl (by rw[W0i];omega) ms ?_
    refine R1 rfl (.own rfl (by simp) ?_)
    show _=(toL k (scl k t a u g)).map dq
    rw[Z,W0y,W0b (by simp)]
theorem Round_ok{x:Nm}{d:Nat}(H:Pk x)(hd:d<=60): C0 79 [.d (dN x),.d (.int .i64 d)] λv=>∃z,v=.tup (.pr (.d (dz z)) (.d (.int .i64 0)))/\RndOf x d z:=by
 obtain⟨A,B,h,i,I⟩:=P11.bnds H.k
 have S:=H.sc (ten_qs hd) hf_qs
 refine En Tryz.func79 λ_ _ _=>?_
 refine No rfl (by omega)<|No rfl (by omega)<|Dw rfl<|Ce rfl (R2.Frac_ok (a:=1) (b:=2) (by decide) (by decide) (by decide))<|Ce rfl (Xdk H hd hf_qs)<|Ca rfl (R7.Floor_ok H.re S.w1 (H.t.mono (by decide)) S.s2 (by decide) (show x.k<=16 by have:=H.k;omega) h i) λv j=>?_
 obtain⟨z,rfl,o⟩:=j
 exact Rt rfl (.tup (.cons (.rf rfl) Xav)) ⟨z,rfl,o⟩
theorem Format_ok{x:Nm}{d:Nat}{z0:Int}(H:Pk x)(hd:d<=60)(h0:RndOf x d z0)(o:(dig z0.natAbs).length<=274877906944): C0 28 [.d (dN x),.d (.int .i64 d)] (·=fmtV z0 d):=by
 refine En Tryz.func28 λ_ _ _=>?_
 refine Ca rfl (Round_ok H hd) λv i=>?_
 obtain⟨z,rfl,j⟩:=i
 obtain rfl:=Xbp.uniq H.re j h0
 refine No rfl (by decide)<|Ce rfl (Yh2 (by omega) (by omega))<|By rfl (λh=>?_) λh=>?_
 . exact Rt rfl (.tup (.cons (.rf rfl) Xav)) (by rw[fmtV,if_neg (by omega)])
 . exact Rt rfl (.tup (.cons (.rf rfl) Xav)) (by rw[fmtV,if_pos (by omega)])
end Go.Proofs.YtcmjannkbdflmaaGreatDoor.R11
namespace Go.Proofs.YtcmjannkbdflmaaGreatDoor.P11
open Go Go.Vm Go.Num Go.Tow Go.Proofs.YtcmjannkbdflmaaGreatDoor Go.Proofs.YtcmjannkbdflmaaGreatDoor.P9 Go.Proofs.YtcmjannkbdflmaaGreatDoor.R11 Go.Proofs.YtcmjannkbdflmaaGreatDoor.R9
section
theorem Pk_rat{q:Rat}{n:Nat}(hq:Qs n q)(h:n<=1700): Pk ⟨0,(),q⟩ :=
 ⟨W0s _,trivial,trivial,trivial,.inr ⟨rfl,λx i=>by obtain rfl:=W0f.1 i;exact hq.mono h⟩⟩
abbrev two: Nm:=⟨0,(),(2:Rat)⟩
end
section
section
variable{k:Nat}{t:Tw k}{a:El k}
end
theorem txt_at{d:Nat}(l:List UInt8)(h:l.length=d+1)(hd:∀b∈l,Xhh b): txt (Xb7 l:Nat) d=pt d l:=by
 unfold txt
 rw[if_neg (by omega),W1m,Yg9 d l h hd];rfl
theorem rnd_at{q:Rat}{d:Nat}{z:Int}(h:0<=Xe3 (q*((10^d:Int):Rat)+hf+-(z:Rat)))(i:Xe3 (q*((10^d:Int):Rat)+hf+-((z+1:Int):Rat))=-1): RndOf ⟨0,(),q⟩ d z:=⟨h,i⟩
end
end Go.Proofs.YtcmjannkbdflmaaGreatDoor.P11
namespace Go.Proofs.YtcmjannkbdflmaaGreatDoor
open Go Go.Vm Go.Num Go.Tow
namespace P47
theorem Valid_arc{K:Nat}{G:Tw K}{S:List (Tow.El K)}{N:List Nm}{n m k:Nat}{p q r:V2 K}{c:Cv}(W:Wn G S N)(ha:c.arc=true)(j:Gv G S N n c.C p)(hs:Gv G S N m c.A q)(M:Gv G S N k c.B r)(o:P19.Trm c.C.x)(I:P19.Trm c.C.y)(O:n+m+(n+m)+(n+m+(n+m))<=190)(Q:n+k+(n+k)+(n+k+(n+k))<=190)(hp:p≠q)(hr:p≠r): C0 52 [.d (dC c)] (·=.b (dc (Xe1 G (Xbb q p) (Xbb q p)=Xe1 G (Xbb r p) (Xbb r p)))):=by
 obtain⟨_,A,B,C,cw⟩:=c
 obtain rfl:_=true:=ha
 refine En Tryz.func52 λ_ _ _=>?_
 refine No rfl (λh=>h rfl)<|Ca rfl (P15.Around_g W j hs o I (by omega) hp) λv i=>?_
 obtain⟨z,rfl,T⟩:=i
 refine Ca rfl (P15.Around_g W j M o I (by omega) hr) λv i=>?_
 obtain⟨w,rfl,U⟩:=i
 exact Yes rfl (by decide)<|Yes rfl (by decide)<|Ce rfl (P9.Equal_g W T U O Q)<|R0
theorem On_full{c:Cv}{z:Nm}{x:Vn}(ha:c.arc=true)(i:C0 188 [.d (dC c)] (·=.tup (.pr (.d (P15.dK c.C z)) (.d (.int .i64 0)))))(j:C0 189 [.d (P15.dK c.C z),.d (dV x)] (·=.tup (.pr (.d (.int .i64 0)) (.d (.int .i64 0)))))(o:C0 190 [.d (dC c)] (·=.b true)): C0 108 [.d (dC c),.d (dV x)] (·=.b true):=by
 obtain⟨_,A,B,C,cw⟩:=c
 obtain rfl:_=true:=ha
 refine En Tryz.func108 λ_ _ _=>?_
 exact No rfl (λh=>h rfl)<|Ce rfl i<|No rfl (by decide)<|Ce rfl j<|No rfl (by decide)<|No rfl (by decide)<|Ce rfl o<|Yes rfl rfl<|R0
end P47
namespace P55
theorem Yqx{p q r:Rat×Rat}(hp:Qp 64 p)(hq:Qp 64 q)(h:Xcx (K:=0) p q=r): C0 60 [.d (dV (v0 p)),.d (dV (v0 q))] (·=.tup (.pr (.d (dV (v0 r))) (.d (.int .i64 0)))):=(P13.Add_g W0 (gv0 hp) (gv0 hq) (by decide) (by decide)).mono λv ⟨z,e,i⟩=>by rw[e,Xci i,h]
theorem Yqu{p q r:Rat×Rat}(hp:Qp 64 p)(hq:Qp 64 q)(h:Xbb (K:=0) p q=r): C0 59 [.d (dV (v0 p)),.d (dV (v0 q))] (·=.tup (.pr (.d (dV (v0 r))) (.d (.int .i64 0)))):=(P13.Sub_g W0 (gv0 hp) (gv0 hq) (by decide) (by decide)).mono λv ⟨z,e,i⟩=>by rw[e,Xci i,h]
theorem Xy5{p q:Rat×Rat}{b:Bool}(hp:Qp 64 p)(hq:Qp 64 q)(h:dc (p=q)=b): C0 53 [.d (dV (v0 p)),.d (dV (v0 q))] (·=.b b):=(P13.Equal_g W0 (gv0 hp) (gv0 hq) (by decide) (by decide)).mono λv e=>e.trans (congrArg AV.b h)
theorem Ynr{q s:Rat}(hq:Qs 64 q)(h:-q=s): C0 46 [.d (dN (nr q))] (·=.d (dN (nr s))):=(P9.Neg_g W0 (g0 hq) (by decide)).mono λv ⟨z,e,i⟩=>by rw[e,zw i.o,<-h];rfl
theorem Xxk{q:Rat}{d:Nat}{z:Int}(hq:Qs 64 q)(hd:d<=60)(h:0<=Xe3 (q*((10^d:Int):Rat)+((0:Int):Rat)+-(z:Rat)))(i:Xe3 (q*((10^d:Int):Rat)+((0:Int):Rat)+-((z+1:Int):Rat))=-1): C0 47 [.d (dN (nr q)),.d (.int .i64 d)] (·=.tup (.pr (.d (dz z)) (.d (.int .i64 0)))) :=
 (P11.Floor_ok (P11.Pk_rat hq (by decide)) hd).mono λv ⟨w,e,j,_⟩=>by
  obtain rfl:=Xbp.uniq (k:=0) (t:=()) trivial j (show Xbp 0 () _ z from⟨h,i⟩)
  exact e
theorem Xts{x:Nm}{d:Nat}{z:Int}{s:List UInt8}(H:P11.Pk x)(hd:d<=60)(h:P11.RndOf x d z)(i:txt z d=s)(hs:s.length<=400): C0 24 [.d (dN x),.d (.int .i64 d)] (·=.tup (.pr (.d (.str s)) (.d (.int .i64 0)))) :=
 (P11.dFmt_ok H hd).mono λv ⟨w,j,_,o⟩=>by
  obtain rfl:=Xbp.uniq H.re j h
  subst i
  rw[o,P11.fmtV,if_pos hs]
theorem dg: ∀l:List UInt8,l.all isD=true->∀b∈l,Xhh b:=λl h=>Yqr.1 h
abbrev i0: Rat:=((0:Int):Rat)
abbrev i1: Rat:=((1:Int):Rat)
abbrev i2: Rat:=((2:Int):Rat)
abbrev im: Rat:=((-1:Int):Rat)
theorem Pki{q:Rat}(h:Qs 64 q): P11.Pk ⟨0,(),q⟩:=P11.Pk_rat h (by decide)
theorem q0: Qs 64 i0:=by decide +kernel
theorem q1: Qs 64 i1:=by decide +kernel
theorem q2: Qs 64 i2:=by decide +kernel
theorem qm: Qs 64 im:=by decide +kernel
theorem f01: C0 24 [.d (dN (nr i0)),.d (.int .i64 1)] (·=.tup (.pr (.d (.str [48,46,48])) (.d (.int .i64 0)))):=Xts (d:=1) (z:=0) (s:=[48,46,48]) (Pki q0) (by decide) (P11.rnd_at (by decide +kernel) (by decide +kernel)) (P11.txt_at [48,48] rfl (dg _ rfl)) (by decide)
theorem f11: C0 24 [.d (dN (nr i1)),.d (.int .i64 1)] (·=.tup (.pr (.d (.str [49,46,48])) (.d (.int .i64 0)))):=Xts (d:=1) (z:=10) (s:=[49,46,48]) (Pki q1) (by decide) (P11.rnd_at (by decide +kernel) (by decide +kernel)) (P11.txt_at [49,48] rfl (dg _ rfl)) (by decide)
theorem f21: C0 24 [.d (dN (nr i2)),.d (.int .i64 1)] (·=.tup (.pr (.d (.str [50,46,48])) (.d (.int .i64 0)))):=Xts (d:=1) (z:=20) (s:=[50,46,48]) (Pki q2) (by decide) (P11.rnd_at (by decide +kernel) (by decide +kernel)) (P11.txt_at [50,48] rfl (dg _ rfl)) (by decide)
theorem f00: C0 24 [.d (dN (nr i0)),.d (.int .i64 0)] (·=.tup (.pr (.d (.str [48])) (.d (.int .i64 0)))):=Xts (d:=0) (z:=0) (s:=[48]) (Pki q0) (by decide) (P11.rnd_at (by decide +kernel) (by decide +kernel)) (P11.txt_at [48] rfl (dg _ rfl)) (by decide)
theorem f10: C0 24 [.d (dN (nr i1)),.d (.int .i64 0)] (·=.tup (.pr (.d (.str [49])) (.d (.int .i64 0)))):=Xts (d:=0) (z:=1) (s:=[49]) (Pki q1) (by decide) (P11.rnd_at (by decide +kernel) (by decide +kernel)) (P11.txt_at [49] rfl (dg _ rfl)) (by decide)
theorem fm0: C0 24 [.d (dN (nr im)),.d (.int .i64 0)] (·=.tup (.pr (.d (.str [45,49])) (.d (.int .i64 0)))):=Xts (d:=0) (z:=-1) (s:=[45,49]) (Pki qm) (by decide) (P11.rnd_at (by decide +kernel) (by decide +kernel)) (by unfold txt;rw[if_pos (by decide),show (-1:Int).natAbs=1 from rfl,Xb9 (show 1<10 by decide)];rfl) (by decide)
abbrev sg: Cv:=⟨false,v0 (i0,i0),v0 (i1,i2),v0 (i0,i0),false⟩
abbrev wh: Cv:=⟨true,v0 (i1,i0),v0 (i1,i0),v0 (i0,i0),false⟩
theorem Yid{α:Type}{x y:α}{i:Nat}(h:[x][i]?=some y): i=0/\x=y:=by
 cases i with
 | zero=>exact⟨rfl,by simpa using h⟩
 | succ i=>simp at h
theorem Yh5: C0 6 [.d (Xd1 [sg]),.d (.int .i64 1)] (·=.tup (.pr (.d (.str [77,32,48,46,48,32,48,46,48,32,76,32,49,46,48,32,50,46,48])) (.d (.int .i64 0)))):=by
 have A:C0 52 [.d (dC sg)] (·=.b true):=(P47.Valid_seg (K:=0) (G:=()) (S:=[]) (N:=[]) (n:=1) (m:=1) (c:=sg) (p:=(i0,i0)) (q:=(i1,i2)) W0 rfl (gv0 ⟨q0,q0⟩) (gv0 ⟨q1,q2⟩) (by decide) (by decide)).mono λv e=>by rw[e];exact congrArg AV.b (Xal.2 (by decide +kernel))
 have hp:=Xnl (l:=[sg]) (by decide) (by decide) (λc I=>by obtain rfl:=W0f.1 I;exact A) (λi c d _ h=>by simp at h)
 have M:=words_ok (c0:=sg) (d0:=sg) (l:=[sg]) (Z:=[Xoo sg.B]) (cl:=false) rfl rfl (by decide) rfl (λi c w j o=>by
  obtain⟨rfl,rfl⟩:=Yid j
  obtain⟨_,rfl⟩:=Yid o
  exact .seg rfl) (Xy5 ⟨q0,q0⟩ ⟨q1,q2⟩ (P11.dcF (by decide +kernel)))
 exact Path_ok (l:=[sg]) (d:=1) (T:=[[77],[48,46,48],[48,46,48],[76],[49,46,48],[50,46,48]]) (by decide) hp M (by decide) rfl (λi w t j o=>by
  match i,j,o with
  | 0,j,o=>cases j;cases o;rfl
  | 1,j,o=>cases j;cases o;exact f01
  | 2,j,o=>cases j;cases o;exact f01
  | 3,j,o=>cases j;cases o;rfl
  | 4,j,o=>cases j;cases o;exact f11
  | 5,j,o=>cases j;cases o;exact f21
  | i+6,j,o=>cases j) (by decide)
theorem Xs8: C0 52 [.d (dC wh)] (·=.b true):=(P47.Valid_arc (K:=0) (G:=()) (S:=[]) (N:=[]) (n:=1) (m:=1) (k:=1) (c:=wh) (p:=(i0,i0)) (q:=(i1,i0)) (r:=(i1,i0)) W0 rfl (gv0 ⟨q0,q0⟩) (gv0 ⟨q1,q0⟩) (gv0 ⟨q1,q0⟩) (Xaw q0) (Xaw q0) (by decide) (by decide) (by decide +kernel) (by decide +kernel)).mono λv e=>by rw[e];exact congrArg AV.b (Xal.2 rfl)
theorem Yi9(y:Rat)(i:y*y=i1)(j:0<=Xe3 y): y=i1:=by
 have h:i1=1:=rfl
 have o:(y-1)*(y+1)=0:=by rw[h] at i;grind
 rcases Rat.mul_eq_zero.1 o with e | e
 . rw[h];grind
 . exfalso
   have:y<0:=by grind
   rw[Xdt this] at j
   omega
theorem Xm7: C0 56 [.d (dC wh)] (·=.tup (.pr (.d (dN (nr i1))) (.d (.int .i64 0)))):=by
 have hd:d2 (i1,i0) (i0,i0)=i1:=by decide +kernel
 have h:=radius_r (c:=wh) (p:=(i0,i0)) (q:=(i1,i0)) rfl rfl ⟨q0,q0⟩ ⟨q1,q0⟩ (by decide +kernel) (by rw[hd];exact q1.mono (by decide)) (by rw[hd];decide +kernel)
 rw[hd] at h
 refine h.mono λv j=>?_
 obtain⟨z,rfl,o⟩:=j
 rcases o with ⟨y,rfl,A,i⟩ | ⟨_,_,i⟩
 . have B:y=i1:=Yi9 y A i
   rw[B]
 . exact absurd ⟨(i1:Tow.El 0),by show i1*i1=i1;decide +kernel⟩ i
theorem Xzj: C0 23 [.d (Xd1 [wh])] (·=.tup (.pr (.d (dWs (hdW wh++[Xcg (nr i1) false true (v0 (im,i0))++Xcg (nr i1) false true wh.B].flatten++[.mk [90]]))) (.d (.int .i64 0)))) :=
 words_ok (c0:=wh) (d0:=wh) (l:=[wh]) (cl:=true) rfl rfl (by decide) rfl (λi c w h j=>by
  obtain⟨rfl,rfl⟩:=Yid h
  obtain⟨_,rfl⟩:=Yid j
  exact .full (c:=wh) (w:=v0 (im,i0)) rfl Xm7 (Xy5 ⟨q1,q0⟩ ⟨q1,q0⟩ (P11.dcT rfl)) (Yqu (r:=(im,i0)) ⟨q0,q0⟩ ⟨q1,q0⟩ (W3a (show i0+-i1=im by decide +kernel) (show i0+-i0=i0 by decide +kernel))) (Yqx (r:=(im,i0)) ⟨q0,q0⟩ ⟨qm,q0⟩ (W3a (show i0+im=im by decide +kernel) (show i0+i0=i0 by decide +kernel)))) (Xy5 ⟨q1,q0⟩ ⟨q1,q0⟩ (P11.dcT rfl))
theorem Yh4: C0 6 [.d (Xd1 [wh]),.d (.int .i64 0)] (·=.tup (.pr (.d (.str [77,32,49,32,48,32,65,32,49,32,49,32,48,32,48,32,49,32,45,49,32,48,32,65,32,49,32,49,32,48,32,48,32,49,32,49,32,48,32,90])) (.d (.int .i64 0)))):=by
 have hp:=Xnl (l:=[wh]) (by decide) (by decide) (λc A=>by obtain rfl:=W0f.1 A;exact Xs8) (λi c d _ h=>by simp at h)
 exact Path_ok (l:=[wh]) (d:=0) (T:=[[77],[49],[48],[65],[49],[49],[48],[48],[49],[45,49],[48],[65],[49],[49],[48],[48],[49],[49],[48],[90]]) (by decide) hp Xzj (by decide) rfl (λi w t j o=>by
  match i,j,o with
  | 0,j,o=>cases j;cases o;rfl
  | 1,j,o=>cases j;cases o;exact f10
  | 2,j,o=>cases j;cases o;exact f00
  | 3,j,o=>cases j;cases o;rfl
  | 4,j,o=>cases j;cases o;exact f10
  | 5,j,o=>cases j;cases o;exact f10
  | 6,j,o=>cases j;cases o;rfl
  | 7,j,o=>cases j;cases o;rfl
  | 8,j,o=>cases j;cases o;rfl
  | 9,j,o=>cases j;cases o;exact fm0
  | 10,j,o=>cases j;cases o;exact f00
  | 11,j,o=>cases j;cases o;rfl
  | 12,j,o=>cases j;cases o;exact f10
  | 13,j,o=>cases j;cases o;exact f10
  | 14,j,o=>cases j;cases o;rfl
  | 15,j,o=>cases j;cases o;rfl
  | 16,j,o=>cases j;cases o;rfl
  | 17,j,o=>cases j;cases o;exact f10
  | 18,j,o=>cases j;cases o;exact f00
  | 19,j,o=>cases j;cases o;rfl
  | i+20,j,o=>cases j) (by decide)
theorem Ycg{p q r:Rat×Rat}(hp:Qp 64 p)(hq:Qp 64 q)(h:p.1+q.1=r.1)(i:p.2+q.2=r.2): C0 60 [.d (dV (v0 p)),.d (dV (v0 q))] (·=.tup (.pr (.d (dV (v0 r))) (.d (.int .i64 0)))):=Yqx hp hq (W3a h i)
theorem Ycb{p:Rat×Rat}(hp:Qp 64 p)(h:(p.1+-i0)*(p.1+-i0)+(p.2+-i0)*(p.2+-i0)=i1): C0 108 [.d (dC wh),.d (dV (v0 p))] (·=.b true):=by
 have hd:d2 (i1,i0) (i0,i0)=i1:=by decide +kernel
 have j:Gd (K:=0) () ([]:List (Tow.El 0)) [] 8 (nr i1) i1:=(g0 q1).mono (by decide)
 refine P47.On_full (z:=nr i1) rfl ?_ ?_ ?_
 . refine(P47.around_g (c:=wh) (K:=0) (G:=()) (S:=[]) (N:=[]) (n:=1) (m:=1) (p:=(i0,i0)) (q:=(i1,i0)) W0 (gv0 ⟨q0,q0⟩) (gv0 ⟨q1,q0⟩) (Xaw q0) (Xaw q0) (by decide) (by decide +kernel)).mono λv A=>?_
   obtain⟨z,rfl,B⟩:=A
   have i:z=nr (d2 (i1,i0) (i0,i0)):=zw B.o
   rw[hd] at i
   rw[i]
 . refine(P15.Side_g (K:=0) (G:=()) (S:=[]) (N:=[]) (n:=1) (m:=1) (k:=8) (p:=(i0,i0)) (q:=p) W0 (gv0 (p:=(i0,i0)) ⟨q0,q0⟩) j (gv0 hp) (by decide) (by decide)).mono λv A=>?_
   rw[A]
   have e:Xe3 (((p.1+-i0)*(p.1+-i0)+(p.2+-i0)*(p.2+-i0))+-i1)=0:=by rw[h];decide +kernel
   have I:sgn 0 () (Tow.add 0 (Xe1 (K:=0) () (Xbb (K:=0) p (i0,i0)) (Xbb (K:=0) p (i0,i0))) (Tow.neg 0 (i1:Tow.El 0)))=0:=e
   rw[I]
 . exact(P47.full_g (c:=wh) (K:=0) (G:=()) (S:=[]) (N:=[]) (n:=1) (m:=1) (p:=(i1,i0)) (q:=(i1,i0)) W0 rfl (gv0 ⟨q1,q0⟩) (gv0 ⟨q1,q0⟩) (by decide) (by decide)).mono λv e=>e.trans (congrArg AV.b (Xal.2 rfl))
theorem Yle: C0 45 [.d (dC wh)] (·=.tup (.pr (.d (dVs [v0 (i1,i0),v0 (i1,i0),v0 (i1,i0),v0 (i0,i1),v0 (im,i0),v0 (i0,im)])) (.d (.int .i64 0)))) :=
 Xnw (c:=wh) (r:=nr i1) (m:=nr im) (X:=[v0 (i1,i0),v0 (i0,i1),v0 (im,i0),v0 (i0,im)]) (B:=[true,true,true,true]) rfl Xm7 (Ynr q1 (by decide +kernel)) rfl rfl (λi d x b h j o=>by
  match i,h,j,o with
  | 0,h,j,o=>cases h;cases j;cases o;exact⟨Ycg (p:=(i0,i0)) (q:=(i1,i0)) (r:=(i1,i0)) ⟨q0,q0⟩ ⟨q1,q0⟩ (by decide +kernel) (by decide +kernel),Ycb (p:=(i1,i0)) ⟨q1,q0⟩ (by decide +kernel)⟩
  | 1,h,j,o=>cases h;cases j;cases o;exact⟨Ycg (p:=(i0,i0)) (q:=(i0,i1)) (r:=(i0,i1)) ⟨q0,q0⟩ ⟨q0,q1⟩ (by decide +kernel) (by decide +kernel),Ycb (p:=(i0,i1)) ⟨q0,q1⟩ (by decide +kernel)⟩
  | 2,h,j,o=>cases h;cases j;cases o;exact⟨Ycg (p:=(i0,i0)) (q:=(im,i0)) (r:=(im,i0)) ⟨q0,q0⟩ ⟨qm,q0⟩ (by decide +kernel) (by decide +kernel),Ycb (p:=(im,i0)) ⟨qm,q0⟩ (by decide +kernel)⟩
  | 3,h,j,o=>cases h;cases j;cases o;exact⟨Ycg (p:=(i0,i0)) (q:=(i0,im)) (r:=(i0,im)) ⟨q0,q0⟩ ⟨q0,qm⟩ (by decide +kernel) (by decide +kernel),Ycb (p:=(i0,im)) ⟨q0,qm⟩ (by decide +kernel)⟩
  | i+4,h,_,_=>cases h)
theorem l0: C0 47 [.d (dN (nr i0)),.d (.int .i64 (0:Nat))] (·=.tup (.pr (.d (dz 0)) (.d (.int .i64 0)))):=Xxk q0 (by decide) (by decide +kernel) (by decide +kernel)
theorem l1: C0 47 [.d (dN (nr i1)),.d (.int .i64 (0:Nat))] (·=.tup (.pr (.d (dz 1)) (.d (.int .i64 0)))):=Xxk q1 (by decide) (by decide +kernel) (by decide +kernel)
theorem lm: C0 47 [.d (dN (nr im)),.d (.int .i64 (0:Nat))] (·=.tup (.pr (.d (dz (-1))) (.d (.int .i64 0)))):=Xxk qm (by decide) (by decide +kernel) (by decide +kernel)
theorem n0: C0 46 [.d (dN (nr i0))] (·=.d (dN (nr i0))):=Ynr q0 (by decide +kernel)
theorem n1: C0 46 [.d (dN (nr i1))] (·=.d (dN (nr im))):=Ynr q1 (by decide +kernel)
theorem nm: C0 46 [.d (dN (nr im))] (·=.d (dN (nr i1))):=Ynr qm (by decide +kernel)
theorem zb(z:Int)(h:z.natAbs<4294967296): Zb z:=W0l (Xaq (k:=1) (by rw[Nat.pow_one];exact h)) (by decide)
theorem zs4(a b c e:Int)(ha:a.natAbs<4294967296)(hb:b.natAbs<4294967296)(h:c.natAbs<4294967296)(i:e.natAbs<4294967296): Zb a/\Zb b/\Zb c/\Zb e:=⟨zb a ha,zb b hb,zb c h,zb e i⟩
theorem p10: PtF (0:Nat) (v0 (i1,i0)) ⟨1,0,-1,0⟩:=⟨⟨_,_,n1,n0,lm,l0⟩,l1,l0,zs4 _ _ _ _ (by decide) (by decide) (by decide) (by decide)⟩
theorem p01: PtF (0:Nat) (v0 (i0,i1)) ⟨0,1,0,-1⟩:=⟨⟨_,_,n0,n1,l0,lm⟩,l0,l1,zs4 _ _ _ _ (by decide) (by decide) (by decide) (by decide)⟩
theorem pm0: PtF (0:Nat) (v0 (im,i0)) ⟨-1,0,1,0⟩:=⟨⟨_,_,nm,n0,l1,l0⟩,lm,l0,zs4 _ _ _ _ (by decide) (by decide) (by decide) (by decide)⟩
theorem p0m: PtF (0:Nat) (v0 (i0,im)) ⟨0,-1,0,1⟩:=⟨⟨_,_,n0,nm,l0,l1⟩,l0,lm,zs4 _ _ _ _ (by decide) (by decide) (by decide) (by decide)⟩
abbrev fwh: List F4:=[⟨1,0,-1,0⟩,⟨1,0,-1,0⟩,⟨1,0,-1,0⟩,⟨0,1,0,-1⟩,⟨-1,0,1,0⟩,⟨0,-1,0,1⟩]
theorem Yo8: CuF (0:Nat) wh fwh:=⟨_,Yle,rfl,by decide,λi p f h j=>by
 match i,h,j with
 | 0,h,j=>cases h;cases j;exact p10
 | 1,h,j=>cases h;cases j;exact p10
 | 2,h,j=>cases h;cases j;exact p10
 | 3,h,j=>cases h;cases j;exact p01
 | 4,h,j=>cases h;cases j;exact pm0
 | 5,h,j=>cases h;cases j;exact p0m
 | i+6,h,j=>cases h⟩
theorem Xy9: C0 17 [.d (Xd1 [wh]),.d (.int .i64 (0:Nat))] (·=.tup (.pr (.d (Yl8 ⟨-1,-1,-1,-1⟩ 0)) (.d (.int .i64 0)))) :=
 Xza (l:=[wh]) (Fs:=[fwh]) (d:=0) (by decide) (by decide) (by decide) (λc h=>by obtain rfl:=W0f.1 h;exact Xs8) rfl (λi c A j o=>by
  obtain⟨rfl,rfl⟩:=Yid j
  obtain⟨_,rfl⟩:=Yid o
  exact Yo8) rfl
theorem Ymv{x y:Rat}(i:Qs 200 x): C0 38 [.d (dq x),.d (dq y)] (·=.b (dc (x=y))):=by
 have j:=i.n.len (by decide)
 have o:=i.d.len (by decide)
 refine En Tryz.func38 λ_ _ _=>?_
 refine Ce rfl (R2.SameInt_ok (z:=x.num) (w:=y.num) (by omega))<|By rfl (λh=>?_) λh=>?_
 . exact Ce rfl (R2.SameInt_ok (z:=(x.den:Int)) (w:=(y.den:Int)) (by omega))<|R1 rfl (.bp (Xal.trans ⟨λA=>Rat.ext h (by omega),λe=>by rw[e]⟩))
 . exact R1 rfl (.bp ⟨nofun,λe=>absurd (by rw[e]) h⟩)
abbrev dB4(a b c e:Rat): D:=.st (.pr (dq a) (.pr (dq b) (.pr (dq c) (dq e))))
theorem Xt5{a b c e:Rat}(ha:Qs 200 a)(hb:Qs 200 b)(h:Qs 200 c)(i:Qs 200 e): C0 20 [.d (dB4 a b c e),.d (dB4 a b c e)] (·=.b true):=by
 have s:∀ {x:Rat},Qs 200 x->C0 38 [.d (dq x),.d (dq x)] (·=.b true):=λj=>(Ymv j).mono λv e=>e.trans (congrArg AV.b (Xal.2 rfl))
 refine En Tryz.func20 λ_ _ _=>?_
 exact Ce rfl (s ha)<|Yes rfl rfl<|Ce rfl (s hb)<|Yes rfl rfl<|Ce rfl (s h)<|Yes rfl rfl<|Ce rfl (s i)<|R0
theorem Xgr{i j:Int}(hi:-9223372036854775808<=i/\i<9223372036854775808)(h:-9223372036854775808<=j/\j<9223372036854775808): C0 16 [.d (.int .i64 i),.d (.int .i64 j)] (·=.d (dV (v0 ((i:Rat),(j:Rat))))):=by
 refine En Tryz.func16 λ_ _ _=>?_
 exact Ce rfl (R13.Whole_ok hi h)<|R0
theorem Xs7{i:Int}(hi:-9223372036854775808<=i/\i<9223372036854775808): C0 18 [.d (.int .i64 i)] (·=.d (dq (i:Rat))):=by
 refine En Tryz.func18 λ_ _ _=>?_
 exact Ce rfl (R2.FromInt_ok hi)<|R0
theorem Yb0{a b c e:Rat}: C0 21 [.d (dB4 a b c e)] (·=.d (dB4 a b c e)):=by
 refine En Tryz.func21 λ_ _ _=>?_
 exact R0
theorem Yhk: Yl8 ⟨-1,-1,-1,-1⟩ 0=dB4 im im i1 i1:=by
 show dB4 (qb (-1) 0) (qb (-1) 0) (qb (- -1) 0) (qb (- -1) 0)=_
 rw[show qb (-1) 0=im by decide +kernel,show qb (- -1) 0=i1 by decide +kernel]
theorem aw55_ok: C0 5 [] (·=.b true):=by
 have h:=Xy9
 rw[Yhk] at h
 refine En Tryz.func5 λ_ _ _=>?_
 exact Ce rfl (Xgr (i:=0) (j:=0) (by decide) (by decide))<|Ce rfl (Xgr (i:=1) (j:=2) (by decide) (by decide))<|Ce rfl (Xgr (i:=0) (j:=0) (by decide) (by decide))<|Ce rfl Yh5<|Ce rfl (Xgr (i:=1) (j:=0) (by decide) (by decide))<|Ce rfl (Xgr (i:=1) (j:=0) (by decide) (by decide))<|Ce rfl (Xgr (i:=0) (j:=0) (by decide) (by decide))<|Ce rfl Yh4<|Ce rfl h<|Yes rfl (by decide)<|Yes rfl (by decide)<|Yes rfl (by decide)<|Yes rfl rfl<|Yes rfl rfl<|Ce rfl Yb0<|Ce rfl (Xs7 (i:=-1) (by decide))<|Ce rfl (Xs7 (i:=-1) (by decide))<|Ce rfl (Xs7 (i:=1) (by decide))<|Ce rfl (Xs7 (i:=1) (by decide))<|Ce rfl (Xt5 (a:=im) (b:=im) (c:=i1) (e:=i1) (qm.mono (by decide)) (qm.mono (by decide)) (q1.mono (by decide)) (q1.mono (by decide)))<|R0
end P55
end Go.Proofs.YtcmjannkbdflmaaGreatDoor
namespace Go.Proofs.YtcmjannkbdflmaaGreatDoor.R2
open Go Go.Vm Go.Num Go.Proofs.YtcmjannkbdflmaaGreatDoor
end Go.Proofs.YtcmjannkbdflmaaGreatDoor.R2
namespace Go.Proofs.YtcmjannkbdflmaaGreatDoor.P55
open Go Go.Vm Go.Num Go.Tow Go.Proofs.YtcmjannkbdflmaaGreatDoor
end Go.Proofs.YtcmjannkbdflmaaGreatDoor.P55
namespace Go.Vm
open Go Go.ChangeShapes Go.WideShapes Go.ChangeAt Go.RowKit
theorem Xgj{P:Program}{t:TypeId}(i:P.underlying t=some .bool): Reads P t λd=>∃b:Bool,d=.bool b:=λw _ _ _ _ _ _ _ h =>
 let ⟨b,j,_⟩:=DataW.trod_bool i h
 ⟨_,⟨b,rfl⟩,j⟩
end Go.Vm
namespace Go.Proofs.YtcmjannkbdflmaaGreatDoor
open Go Go.Vm Go.Num P55
open Go Go.Vm Go.Num Go.Tow
section
variable{K:Nat}{G:Tw K}{S:List (Tow.El K)}{N:List Nm}{n m k:Nat}{x y z:Nm}{a b v w:Tow.El K}{u s t:Vn}{p q r:V2 K}
def Yio{K:Nat}(G:Tw K)(p:V2 K)(c:Tow.El K): V2 K:=(Tow.mul K G p.1 c,Tow.mul K G p.2 c)
theorem R13.first_ok: C0 184 [.d (.int .i64 0),.d (.int .i64 0)] (·=.d (.int .i64 0)):=by
 refine En Tryz.func184 λ_ _ _=>?_
 exact No rfl (by decide)<|R0
theorem R13.vec_ok{x y:Nm}: C0 183 [.d (dN x),.d (dN y),.d (.int .i64 0)] (·=.tup (.pr (.d (dV ⟨x,y⟩)) (.d (.int .i64 0)))):=by
 refine En Tryz.func183 λ_ _ _=>?_
 exact No rfl (by decide)<|RTt rfl (.cons (.rf rfl) Xav)
theorem R13.Add_g(W:Wn G S N)(i:Gv G S N n u p)(hs:Gv G S N m s q)(j:n<=190)(o:m<=190): C0 103 [.d (dV u),.d (dV s)] (VoG G S N (n+m) (Xcx p q)):=by
 refine En Tryz.func103 λ_ _ _=>?_
 refine Ca rfl (R9.Add_g W i.x hs.x j o) λv h=>?_
 obtain⟨z,rfl,A⟩:=h
 refine Ca rfl (R9.Add_g W i.y hs.y j o) λv h=>?_
 obtain⟨w,rfl,B⟩:=h
 exact Dw rfl<|Ce rfl R13.first_ok<|Ce rfl R13.vec_ok<|Rt rfl (.tup (.cons (.rf rfl) Xav)) ⟨⟨z,w⟩,rfl,A,B⟩
theorem R13.Neg_g(W:Wn G S N)(i:Gv G S N n u p)(j:n<=190): C0 181 [.d (dV u)] (VeG G S N n (neg K p.1,neg K p.2)):=by
 refine En Tryz.func181 λ_ _ _=>?_
 refine Dw rfl<|Ca rfl (R9.Neg_g W i.x j) λv h=>?_
 obtain⟨z,rfl,o⟩:=h
 refine Ca rfl (R9.Neg_g W i.y j) λv h=>?_
 obtain⟨w,rfl,A⟩:=h
 exact Rt rfl (.one (.rf rfl) rfl rfl) ⟨⟨z,w⟩,rfl,o,A⟩
theorem R13.Sub_g(W:Wn G S N)(j:Gv G S N n u p)(hs:Gv G S N m s q)(o:n<=190)(i:m<=190): C0 102 [.d (dV u),.d (dV s)] (VoG G S N (n+m) (Xbb p q)):=by
 refine En Tryz.func102 λ_ _ _=>?_
 refine Dw rfl<|Ca rfl (R13.Neg_g W hs i) λv h=>?_
 obtain⟨r,rfl,A⟩:=h
 refine Ca rfl (R13.Add_g W j A o i) λv h=>?_
 obtain⟨z,rfl,B⟩:=h
 exact Rt rfl (.tup (.cons (.rf rfl) Xav)) ⟨z,rfl,B⟩
theorem R13.Scale_g(W:Wn G S N)(i:Gv G S N n u p)(j:Gd G S N m x v)(o:n<=190)(A:m<=190): C0 145 [.d (dV u),.d (dN x)] (VoG G S N (n+m) (Yio G p v)):=by
 refine En Tryz.func145 λ_ _ _=>?_
 refine Ca rfl (R9.Mul_g W i.x j o A) λv h=>?_
 obtain⟨z,rfl,B⟩:=h
 refine Ca rfl (R9.Mul_g W i.y j o A) λv h=>?_
 obtain⟨w,rfl,I⟩:=h
 exact Dw rfl<|Ce rfl R13.first_ok<|Ce rfl R13.vec_ok<|Rt rfl (.tup (.cons (.rf rfl) Xav)) ⟨⟨z,w⟩,rfl,B,I⟩
theorem R13.Square_g(W:Wn G S N)(h:Gv G S N n u p)(i:n+n<=190): C0 226 [.d (dV u)] (OpG G S N (n+n+(n+n)) (Xe1 G p p)):=by
 refine En Tryz.func226 λ_ _ _=>?_
 refine Ca rfl (R13.Dot_g W h h (by omega) (by omega) i) λv j=>?_
 obtain⟨z,rfl,o⟩:=j
 exact Rt rfl (.tup (.cons (.rf rfl) Xav)) ⟨z,rfl,o⟩
theorem R13.Equal_g(W:Wn G S N)(i:Gv G S N n u p)(hs:Gv G S N m s q)(j:n<=190)(o:m<=190): C0 15 [.d (dV u),.d (dV s)] (·=.b (dc (p=q))):=by
 refine En Tryz.func15 λ_ _ _=>?_
 refine Ce rfl (R9.Equal_g W i.x hs.x j o)<|By rfl (λh=>?_) λh=>?_
 . exact Ce rfl (R9.Equal_g W i.y hs.y j o)<|R1 rfl (.bp (Xal.trans ⟨λA=>W3a h A,λe=>by rw[e]⟩))
 . exact R1 rfl (.bp ⟨nofun,λe=>absurd (by rw[e]) h⟩)
theorem R15.vec_ok{u:Vn}: CN0 101 [.ptr 1000001 0,.d (dV u),.d (.int .i64 0)] [(1000001,cal)] (·=.d (dV u)):=by
 refine EnW Tryz.func101 λ_ _ _ _=>?_
 refine Cn [] rfl R15.note_ok λv h=>?_
 exact No rfl (by decide)<|Rw [] [(1000001,cal)] rfl (.one (.rf rfl) rfl rfl) ⟨rfl,rfl⟩
theorem R15.Plus_g(W:Wn G S N)(i:Gv G S N n u p)(hs:Gv G S N m s q)(j:n<=190)(o:m<=190): CN0 42 [.ptr 1000001 0,.d (dV u),.d (dV s)] [(1000001,cal)] (VeG G S N (n+m) (Xcx p q)):=by
 refine EnW Tryz.func42 λ_ _ _ _=>?_
 refine Ca rfl (R13.Add_g W i hs j o) λv h=>?_
 obtain⟨z,rfl,A⟩:=h
 refine Cn [] rfl R15.vec_ok λv h=>?_
 subst h
 exact Rw [] [(1000001,cal)] rfl (.one (.rf rfl) rfl rfl) ⟨rfl,z,rfl,A⟩
theorem R15.Minus_g(W:Wn G S N)(i:Gv G S N n u p)(hs:Gv G S N m s q)(j:n<=190)(o:m<=190): CN0 41 [.ptr 1000001 0,.d (dV u),.d (dV s)] [(1000001,cal)] (VeG G S N (n+m) (Xbb p q)):=by
 refine EnW Tryz.func41 λ_ _ _ _=>?_
 refine Ca rfl (R13.Sub_g W i hs j o) λv h=>?_
 obtain⟨z,rfl,A⟩:=h
 refine Cn [] rfl R15.vec_ok λv h=>?_
 subst h
 exact Rw [] [(1000001,cal)] rfl (.one (.rf rfl) rfl rfl) ⟨rfl,z,rfl,A⟩
theorem R15.Scale_g(W:Wn G S N)(i:Gv G S N n u p)(j:Gd G S N m x v)(o:n<=190)(A:m<=190): CN0 75 [.ptr 1000001 0,.d (dV u),.d (dN x)] [(1000001,cal)] (VeG G S N (n+m) (Yio G p v)):=by
 refine EnW Tryz.func75 λ_ _ _ _=>?_
 refine Ca rfl (R13.Scale_g W i j o A) λv h=>?_
 obtain⟨z,rfl,B⟩:=h
 refine Cn [] rfl R15.vec_ok λv h=>?_
 subst h
 exact Rw [] [(1000001,cal)] rfl (.one (.rf rfl) rfl rfl) ⟨rfl,z,rfl,B⟩
theorem R15.Square_g(W:Wn G S N)(i:Gv G S N n u p)(j:n+n<=190): CN0 144 [.ptr 1000001 0,.d (dV u)] [(1000001,cal)] (OnG G S N (n+n+(n+n)) (Xe1 G p p)):=by
 refine EnW Tryz.func144 λ_ _ _ _=>?_
 refine Ca rfl (R13.Square_g W i j) λv h=>?_
 obtain⟨z,rfl,o⟩:=h
 refine Cn [] rfl R15.num_ok λv h=>?_
 subst h
 exact Rw [] [(1000001,cal)] rfl (.one (.rf rfl) rfl rfl) ⟨rfl,z,rfl,o⟩
theorem R15.Dot_g(W:Wn G S N)(i:Gv G S N n u p)(hs:Gv G S N m s q)(j:n<=190)(o:m<=190)(A:n+m<=190): CN0 395 [.ptr 1000001 0,.d (dV u),.d (dV s)] [(1000001,cal)] (OnG G S N (n+m+(n+m)) (Xe1 G p q)):=by
 refine EnW Tryz.func395 λ_ _ _ _=>?_
 refine Ca rfl (R13.Dot_g W i hs j o A) λv h=>?_
 obtain⟨z,rfl,B⟩:=h
 refine Cn [] rfl R15.num_ok λv h=>?_
 subst h
 exact Rw [] [(1000001,cal)] rfl (.one (.rf rfl) rfl rfl) ⟨rfl,z,rfl,B⟩
theorem R15.Far_g(W:Wn G S N)(i:Gv G S N n u p)(hs:Gv G S N m s q)(j:n+m+(n+m)<=190): CN0 73 [.ptr 1000001 0,.d (dV u),.d (dV s)] [(1000001,cal)] (OnG G S N (n+m+(n+m)+(n+m+(n+m))) (Xe1 G (Xbb p q) (Xbb p q))):=by
 refine EnW Tryz.func73 λ_ _ _ _=>?_
 refine Cn [] rfl (R15.Minus_g W i hs (by omega) (by omega)) λv h=>?_
 obtain⟨r,rfl,o⟩:=h
 refine Cn [] rfl (R15.Square_g W o j) λv h=>?_
 obtain⟨z,rfl,A⟩:=h
 exact Rw [] [(1000001,cal)] rfl (.one (.rf rfl) rfl rfl) ⟨rfl,z,rfl,A⟩
end
end Go.Proofs.YtcmjannkbdflmaaGreatDoor
namespace Go.Tow
open Go
section
section
variable{K:Nat}{G:Tw K}{p q r u x y w z:V2 K}
theorem Xqj(hG:red K G)(hp:p≠vz K): sgn K G (Xe1 G p p)=1:=by
 have Sg:=Xau (Xah hG)
 have j:=(Xd3 (Sg.tri p.1)).1
 have o:=(Xd3 (Sg.tri p.2)).1
 have i:=Sg.sa (mul K G p.1 p.1) (mul K G p.2 p.2) (by rw[Sg.sm];exact j) (by rw[Sg.sm];exact o)
 have i:0<=sgn K G (Xe1 G p p):=i
 rcases Sg.tri (Xe1 G p p) with h | h | h
 . exact h
 . exact absurd (vsq hG h) hp
 . omega
section
variable(hG:red K G)(hp:p≠vz K)(hq:q≠vz K)
include hG hp hq
end
end
end
section
section
variable{K:Nat}{G:Tw K}{p q r u x y w z:V2 K}{s:El K}
end
end
end Go.Tow
namespace Go.Proofs.YtcmjannkbdflmaaGreatDoor
open Go Go.Vm Go.Num Go.Tow
section
variable{K:Nat}{G:Tw K}{S:List (Tow.El K)}{N:List Nm}{n m k:Nat}{x y z:Nm}{a b v w s:Tow.El K}{u t:Vn}{p q r pa pb pc px:V2 K}
namespace P47
def Yrw(c:Cv): Cv:=match c.cw with
 | true=>⟨c.arc,c.B,c.A,c.C,false⟩
 | false=>c
theorem ccw_ok{c:Cv}: C0 191 [.d (dC c)] (·=.d (dC (Yrw c))):=by
 obtain⟨arc,A,B,C,cw⟩:=c
 cases cw with
 | true =>
  refine En Tryz.func191 λ_ _ _=>?_
  exact Yes rfl rfl<|R1 rfl (.sd (.pd (.eq rfl) (.pd (.eq rfl) (.pd (.eq rfl) (.pd (.eq rfl) (.bd rfl))))))
 | false =>
  refine En Tryz.func191 λ_ _ _=>?_
  exact No rfl nofun<|R0
theorem between_g{c:Cv}{X Y U:Vn}(W:Wn G S N)(o:C0 59 [.d (dV X),.d (dV c.C)] (·=.tup (.pr (.d (dV U)) (.d (.int .i64 0)))))(A:Gv G S N n U p)(j:P19.Trm U.x)(B:C0 59 [.d (dV Y),.d (dV c.C)] (VoG G S N m q))(I:n+m<=190)(hp:p≠vz K)(hq:q≠vz K):
 C0 192 [.d (dC c),.d (dV X),.d (dV Y)] (λr=>∃v,r=.tup (.pr (.d (dT v 0)) (.d (.int .i64 0)))/\Gv G S N (n+m+(n+m)) v (Xzl G (Xfl p) q)):=by
 refine En Tryz.func192 λ_ _ _=>?_
 refine Ce rfl o<|No rfl (by decide)<|Ca rfl B λv i=>?_
 obtain⟨V,rfl,i⟩:=i
 refine No rfl (by decide)<|Ca rfl (P19.Of_g W A i j I) λv i=>?_
 rcases i with ⟨_,t,rfl,j⟩ | ⟨h,_⟩
 . exact Rt rfl (.tup (.cons (.rf rfl) Xav)) ⟨t,rfl,j⟩
 . exact absurd h (λh=>h.elim hp hq)
end P47
namespace R47
theorem vcon2K(G:Tw K): Xfl (Xfl p)=p:=W3a rfl ((Xba K G).nn _)
theorem Yiq: Xzl G (Xfl p) q=(Xe1 G p q,Xe2 G p q):=W3a (by rw[<-Ycn,vcon2K G]) (by rw[<-Ycm,vcon2K G])
theorem Yqv{s:Vn}(W:Wn G S N)(j:Gv G S N n u p)(hs:Gv G S N m s q)(A:n+m<=190): C0 325 [.d (dV u),.d (dV s)] (P19.OfG G S N (n+m+(n+m)) p q):=by
 refine En Tryz.func325 λ_ _ _=>?_
 refine Ce rfl (R13.Zero_g W j (by omega))<|By rfl (λh=>?_) λh=>?_
 . exact Rt rfl (.tup (.cons Xtt Xav)) (.inr ⟨.inl h,rfl⟩)
 . refine Ce rfl (R13.Zero_g W hs (by omega))<|By rfl (λo=>?_) λo=>?_
   . exact Rt rfl (.tup (.cons Xtt Xav)) (.inr ⟨.inr o,rfl⟩)
   refine Dw rfl<|Cn [(1000001,15)] rfl (R15.Dot_g W j hs (by omega) (by omega) A) λv i=>?_
   obtain⟨d,rfl,hd⟩:=i
   refine Cn [(1000001,15)] rfl (R15.Cross_g W j hs (by omega) (by omega) A) λv i=>?_
   obtain⟨c,rfl,B⟩:=i
   refine Cn [(1000001,15)] rfl (R19.result_g (u:=⟨d,c⟩) (p:=(Xe1 G p q,Xe2 G p q)) (f:=0) ⟨hd,B⟩) λv i=>?_
   rcases i with ⟨_,w,rfl,I⟩ | ⟨M,_⟩
   . exact Rt rfl (.tup (.cons (.rf rfl) Xav)) (.inl ⟨λe=>e.elim h o,w,rfl,by rw[Yiq];exact I⟩)
   . exact absurd (by decide) M
theorem Full_g{c:Cv}(W:Wn G S N)(ha:c.arc=true)(h:Gv G S N n c.A p)(hs:Gv G S N m c.B q)(i:n<=190)(j:m<=190): C0 74 [.d (dC c)] (·=.b (dc (p=q))):=by
 obtain⟨_,A,B,C,cw⟩:=c
 obtain rfl:_=true:=ha
 refine En Tryz.func74 λ_ _ _=>?_
 exact Yes rfl rfl<|Ce rfl (R13.Equal_g W h hs i j)<|R0
def plD(cw:Bool)(pa px:V2 K): V2 K×V2 K:=match cw with
 | true=>(px,pa)
 | false=>(pa,px)
theorem place_g{c:Cv}{X:Vn}(W:Wn G S N)(o:Gv G S N 1 c.C pc)(hA:Gv G S N 1 c.A pa)(M:Gv G S N n X px)(O:n<=10)(hp:Xbb pa pc≠vz K)(hq:Xbb px pc≠vz K): CN0 228 [.ptr 1000001 0,.d (dC c),.d (dV X)] [(1000001,cal)] (λr=>∃v,r=.d (dT v 0)/\Gv G S N 40 v (Xzl G (Xfl (plD c.cw (Xbb pa pc) (Xbb px pc)).1) (plD c.cw (Xbb pa pc) (Xbb px pc)).2)):=by
 obtain⟨arc,A,B,C,cw⟩:=c
 refine EnW Tryz.func228 λ_ _ _ _=>?_
 refine Dz rfl ?_
 refine Cn [] rfl (R15.Minus_g W hA o (by decide) (by decide)) λv i=>?_
 obtain⟨u,rfl,I⟩:=i
 refine Cn [] rfl (R15.Minus_g W M o (by omega) (by decide)) λv i=>?_
 obtain⟨t,rfl,j⟩:=i
 cases cw with
 | true =>
  refine Yes rfl rfl<|Ca rfl (Yqv W j I (by omega)) λv i=>?_
  rcases i with ⟨_,t,rfl,j⟩ | ⟨h,_⟩
  . exact No rfl (by decide)<|Rw [] [(1000001,cal)] rfl (.one (.rf rfl) rfl rfl) ⟨rfl,t,rfl,j.mono (by omega)⟩
  . exact absurd h (λh=>h.elim hq hp)
 | false =>
  refine No rfl nofun<|Ca rfl (Yqv W I j (by omega)) λv i=>?_
  rcases i with ⟨_,t,rfl,j⟩ | ⟨h,_⟩
  . exact No rfl (by decide)<|Rw [] [(1000001,cal)] rfl (.one (.rf rfl) rfl rfl) ⟨rfl,t,rfl,j.mono (by omega)⟩
  . exact absurd h (λh=>h.elim hp hq)
end R47
end
end Go.Proofs.YtcmjannkbdflmaaGreatDoor
namespace Go.Vm
open Go
variable{c:Cx}{s:St}{p:Pl}
noncomputable def Ynd(tb:Nat->Option TI)(n:Nat)(s:St): Option (Pl×Nat×Nat×List D×AV):=match nxA tb n s with
 | some (p,o,[a,b])=>match o.op with
  | .call ⟨.builtin .append,_,⟨[T,T']⟩⟩=>match Nat.beq T T',tb T,look p.H (o.dst.getD 0) with
   | true,some i,none=>match Nat.ble i.eb 1024,i.z,b with
    | true,.sl sz _,.d (.sl s h)=>match Nat.beq s sz with
     | true=>some (p,o.dst.getD 0,sz,h,a)
     | false=>none
    | true,.sl sz _,.nil=>some (p,o.dst.getD 0,sz,[],a)
    | true,.sl sz _,.gr _ s h=>match Nat.beq s sz with
     | true=>some (p,o.dst.getD 0,sz,h,a)
     | false=>none
    | true,.sl sz _,.lit s h=>match Nat.beq s sz with
     | true=>some (p,o.dst.getD 0,sz,h,a)
     | false=>none
    | _,_,_=>none
   | _,_,_=>none
  | _=>none
 | _=>none
theorem Xv3{d sz:Nat}{ys:List D}{a v:AV}{us:Hpl}(h:Ynd c.tb c.n s=some (p,d,sz,ys,a))(hF:∀ti:TI,ti.eb<=1024->Xzg d (look p.H) ti sz ys a=some (v,us))(k:p.nx' c v us): StP c s:=by
 unfold Ynd at h
 split at h<;>try cases h
 rename_i Z o a' b hA
 split at h<;>try cases h
 rename_i asx T T' ho
 split at h<;>try cases h
 rename_i ti O Q hd
 have O:=W0g O
 subst O
 have j:∀ {A I M},ti.eb<=1024->ti.z=.sl A M->Xqw (look Z.H) ti.z A b=some I->(Z,o.dst.getD 0,A,I,a')=(p,d,sz,ys,a)->StP c s:=by
  intro A I M B i hs e
  injection e with e1 U;injection U with U V;injection V with V Y;injection Y with Y e5
  subst e1;subst U;subst V;subst Y;subst e5
  refine Xb3 hA ?_ k
  rw[ho]
  simp only[F,if_true,Q,hd,i]
  rw[i] at hs
  rw[hs]
  exact hF ti B
 split at h
 . rename_i B i
   split at h<;>cases h
   rename_i hs
   have hs:=W0g hs
   exact j (W1t B) i (by simp[Xqw,toD,hs]) rfl
 . rename_i B i
   cases h
   exact j (W1t B) i (by simp[Xqw,i,toD]) rfl
 . rename_i B i
   split at h<;>cases h
   rename_i hs
   have hs:=W0g hs
   exact j (W1t B) i (by simp[Xqw,toD,hs]) rfl
 . rename_i B i
   split at h<;>cases h
   rename_i hs
   have hs:=W0g hs
   exact j (W1t B) i (by simp[Xqw,toD,hs]) rfl
 . cases h
theorem Xm3{n:Nat}{ti:TI}(h:n<=137438953472)(i:ti.eb<=1024): Xh8 n ti:=⟨by
 have:=W1z h i;omega,by omega⟩
end Go.Vm
namespace Go.Proofs.YtcmjannkbdflmaaGreatDoor
open Go Go.Vm Go.Num Go.Tow
structure Dft where
 arc:Bool
 cw:Bool
 a1:Int
 a2:Int
 b1:Int
 b2:Int
 st:Nat
 un:Nat
abbrev dP8(x y:Int): D:=.st (.pr (.int .i8 x) (.int .i8 y))
abbrev dDf(d:Dft): D:=.st (.pr (.bool d.arc) (.pr (.bool d.cw) (.pr (dP8 d.a1 d.a2) (.pr (dP8 d.b1 d.b2) (.pr (.int .u8 d.st) (.int .u8 d.un))))))
abbrev Ynm(l:List Dft): D:=.sl 8 (l.map dDf)
abbrev I8(z:Int): Prop:=-128<=z/\z<128
structure Dft.ok (d:Dft):Prop where
 a1:I8 d.a1
 a2:I8 d.a2
 b1:I8 d.b1
 b2:I8 d.b2
 st:d.st<256
 un:d.un<256
namespace R47
open P55 (v0 W0 g0 gv0 zw Xci Qp)
abbrev atQ(x y:Int)(u:Nat): Rat×Rat:=(Rat.divInt x ((u%4+1:Nat):Int),Rat.divInt y ((u%4+1:Nat):Int))
theorem Ymh{x y:Int}{u:Nat}(h:I8 x)(i:I8 y)(j:u<256): C0 96 [.d (dP8 x y),.d (.int .u8 u)] (·=.d (dV (v0 (atQ x y u)))):=by
 refine En Tryz.func96 λ_ _ _=>?_
 refine Ar (u%4:Nat) rfl ?_ (show _/\_ from⟨by decide,rfl⟩)
 refine Go.Vm.Cv (u%4:Nat) rfl ?_ (wI (by omega))
 refine Ar (u%4+1:Nat) rfl ?_
 refine Dw rfl<|Ia 0 rfl (by decide) ?_
 refine Go.Vm.Cv x rfl ?_ (wr rfl (by simp only[inK];omega))
 refine Ce rfl (R2.Frac_ok (by omega) (by omega) (by omega))<|Ia 1 rfl (by decide) ?_
 refine Go.Vm.Cv y rfl ?_ (wr rfl (by simp only[inK];omega))
 exact Ce rfl (R2.Frac_ok (by omega) (by omega) (by omega))<|Ce rfl R13.Make_ok<|R0
def Yqz: List (Int×Int×Int):=[(1,0,1),(3,4,5),(0,1,1),(-1,0,1),(0,-1,1),(4,3,5),(-3,4,5),(-4,3,5),(-4,-3,5),(-3,-4,5),(3,-4,5),(4,-3,5),(5,12,13),(12,5,13),(-5,12,13),(24,7,25)]
def uni(i:Nat): Rat×Rat:=match Yqz[i]? with
 | some (x,y,z)=>(Rat.divInt x z,Rat.divInt y z)
 | none=>(1,0)
theorem Xhs{n:Nat}(j:n<256): C0 97 [.d (.int .u8 n)] (·=.d (dV (v0 (uni (n%16))))):=by
 refine En Tryz.func97 λ_ _ _=>?_
 refine Ar (n%16:Nat) rfl ?_ (show _/\_ from⟨by decide,rfl⟩)
 have h:n%16=0\/n%16=1\/n%16=2\/n%16=3\/n%16=4\/n%16=5\/n%16=6\/n%16=7\/n%16=8\/n%16=9\/n%16=10\/n%16=11\/n%16=12\/n%16=13\/n%16=14\/n%16=15:=by omega
 generalize n%16=i at h
 rcases h with rfl | rfl | rfl | rfl | rfl | rfl | rfl | rfl | rfl | rfl | rfl | rfl | rfl | rfl | rfl | rfl
 . refine Ia 0 rfl (by decide) ?_
   refine Dw rfl<|Ia 0 rfl (by decide) ?_
   refine Ia 2 rfl (by decide) ?_
   refine Ce rfl (R2.Frac_ok (by decide) (by decide) (by decide))<|Ia 1 rfl (by decide) ?_
   refine Ia 2 rfl (by decide) ?_
   exact Ce rfl (R2.Frac_ok (by decide) (by decide) (by decide))<|Ce rfl R13.Make_ok<|R0
 . refine Ia 1 rfl (by decide) ?_
   refine Dw rfl<|Ia 0 rfl (by decide) ?_
   refine Ia 2 rfl (by decide) ?_
   refine Ce rfl (R2.Frac_ok (by decide) (by decide) (by decide))<|Ia 1 rfl (by decide) ?_
   refine Ia 2 rfl (by decide) ?_
   exact Ce rfl (R2.Frac_ok (by decide) (by decide) (by decide))<|Ce rfl R13.Make_ok<|R0
 . refine Ia 2 rfl (by decide) ?_
   refine Dw rfl<|Ia 0 rfl (by decide) ?_
   refine Ia 2 rfl (by decide) ?_
   refine Ce rfl (R2.Frac_ok (by decide) (by decide) (by decide))<|Ia 1 rfl (by decide) ?_
   refine Ia 2 rfl (by decide) ?_
   exact Ce rfl (R2.Frac_ok (by decide) (by decide) (by decide))<|Ce rfl R13.Make_ok<|R0
 . refine Ia 3 rfl (by decide) ?_
   refine Dw rfl<|Ia 0 rfl (by decide) ?_
   refine Ia 2 rfl (by decide) ?_
   refine Ce rfl (R2.Frac_ok (by decide) (by decide) (by decide))<|Ia 1 rfl (by decide) ?_
   refine Ia 2 rfl (by decide) ?_
   exact Ce rfl (R2.Frac_ok (by decide) (by decide) (by decide))<|Ce rfl R13.Make_ok<|R0
 . refine Ia 4 rfl (by decide) ?_
   refine Dw rfl<|Ia 0 rfl (by decide) ?_
   refine Ia 2 rfl (by decide) ?_
   refine Ce rfl (R2.Frac_ok (by decide) (by decide) (by decide))<|Ia 1 rfl (by decide) ?_
   refine Ia 2 rfl (by decide) ?_
   exact Ce rfl (R2.Frac_ok (by decide) (by decide) (by decide))<|Ce rfl R13.Make_ok<|R0
 . refine Ia 5 rfl (by decide) ?_
   refine Dw rfl<|Ia 0 rfl (by decide) ?_
   refine Ia 2 rfl (by decide) ?_
   refine Ce rfl (R2.Frac_ok (by decide) (by decide) (by decide))<|Ia 1 rfl (by decide) ?_
   refine Ia 2 rfl (by decide) ?_
   exact Ce rfl (R2.Frac_ok (by decide) (by decide) (by decide))<|Ce rfl R13.Make_ok<|R0
 . refine Ia 6 rfl (by decide) ?_
   refine Dw rfl<|Ia 0 rfl (by decide) ?_
   refine Ia 2 rfl (by decide) ?_
   refine Ce rfl (R2.Frac_ok (by decide) (by decide) (by decide))<|Ia 1 rfl (by decide) ?_
   refine Ia 2 rfl (by decide) ?_
   exact Ce rfl (R2.Frac_ok (by decide) (by decide) (by decide))<|Ce rfl R13.Make_ok<|R0
 . refine Ia 7 rfl (by decide) ?_
   refine Dw rfl<|Ia 0 rfl (by decide) ?_
   refine Ia 2 rfl (by decide) ?_
   refine Ce rfl (R2.Frac_ok (by decide) (by decide) (by decide))<|Ia 1 rfl (by decide) ?_
   refine Ia 2 rfl (by decide) ?_
   exact Ce rfl (R2.Frac_ok (by decide) (by decide) (by decide))<|Ce rfl R13.Make_ok<|R0
 . refine Ia 8 rfl (by decide) ?_
   refine Dw rfl<|Ia 0 rfl (by decide) ?_
   refine Ia 2 rfl (by decide) ?_
   refine Ce rfl (R2.Frac_ok (by decide) (by decide) (by decide))<|Ia 1 rfl (by decide) ?_
   refine Ia 2 rfl (by decide) ?_
   exact Ce rfl (R2.Frac_ok (by decide) (by decide) (by decide))<|Ce rfl R13.Make_ok<|R0
 . refine Ia 9 rfl (by decide) ?_
   refine Dw rfl<|Ia 0 rfl (by decide) ?_
   refine Ia 2 rfl (by decide) ?_
   refine Ce rfl (R2.Frac_ok (by decide) (by decide) (by decide))<|Ia 1 rfl (by decide) ?_
   refine Ia 2 rfl (by decide) ?_
   exact Ce rfl (R2.Frac_ok (by decide) (by decide) (by decide))<|Ce rfl R13.Make_ok<|R0
 . refine Ia 10 rfl (by decide) ?_
   refine Dw rfl<|Ia 0 rfl (by decide) ?_
   refine Ia 2 rfl (by decide) ?_
   refine Ce rfl (R2.Frac_ok (by decide) (by decide) (by decide))<|Ia 1 rfl (by decide) ?_
   refine Ia 2 rfl (by decide) ?_
   exact Ce rfl (R2.Frac_ok (by decide) (by decide) (by decide))<|Ce rfl R13.Make_ok<|R0
 . refine Ia 11 rfl (by decide) ?_
   refine Dw rfl<|Ia 0 rfl (by decide) ?_
   refine Ia 2 rfl (by decide) ?_
   refine Ce rfl (R2.Frac_ok (by decide) (by decide) (by decide))<|Ia 1 rfl (by decide) ?_
   refine Ia 2 rfl (by decide) ?_
   exact Ce rfl (R2.Frac_ok (by decide) (by decide) (by decide))<|Ce rfl R13.Make_ok<|R0
 . refine Ia 12 rfl (by decide) ?_
   refine Dw rfl<|Ia 0 rfl (by decide) ?_
   refine Ia 2 rfl (by decide) ?_
   refine Ce rfl (R2.Frac_ok (by decide) (by decide) (by decide))<|Ia 1 rfl (by decide) ?_
   refine Ia 2 rfl (by decide) ?_
   exact Ce rfl (R2.Frac_ok (by decide) (by decide) (by decide))<|Ce rfl R13.Make_ok<|R0
 . refine Ia 13 rfl (by decide) ?_
   refine Dw rfl<|Ia 0 rfl (by decide) ?_
   refine Ia 2 rfl (by decide) ?_
   refine Ce rfl (R2.Frac_ok (by decide) (by decide) (by decide))<|Ia 1 rfl (by decide) ?_
   refine Ia 2 rfl (by decide) ?_
   exact Ce rfl (R2.Frac_ok (by decide) (by decide) (by decide))<|Ce rfl R13.Make_ok<|R0
 . refine Ia 14 rfl (by decide) ?_
   refine Dw rfl<|Ia 0 rfl (by decide) ?_
   refine Ia 2 rfl (by decide) ?_
   refine Ce rfl (R2.Frac_ok (by decide) (by decide) (by decide))<|Ia 1 rfl (by decide) ?_
   refine Ia 2 rfl (by decide) ?_
   exact Ce rfl (R2.Frac_ok (by decide) (by decide) (by decide))<|Ce rfl R13.Make_ok<|R0
 . refine Ia 15 rfl (by decide) ?_
   refine Dw rfl<|Ia 0 rfl (by decide) ?_
   refine Ia 2 rfl (by decide) ?_
   refine Ce rfl (R2.Frac_ok (by decide) (by decide) (by decide))<|Ia 1 rfl (by decide) ?_
   refine Ia 2 rfl (by decide) ?_
   exact Ce rfl (R2.Frac_ok (by decide) (by decide) (by decide))<|Ce rfl R13.Make_ok<|R0
theorem Yg5{x y n:Int}(h:n≠0): Rat.divInt x n-Rat.divInt y n=Rat.divInt (x-y) n:=by
 rw[W3j,W3j,W3j,W5z,W5z,W5z,Rat.intCast_sub]
 grind
theorem n4{u:Nat}: Zs 3 ((u%4+1:Nat):Int):=by show (_:Int).natAbs<2^3;omega
theorem atQ_qp{x y:Int}{u:Nat}(j:I8 x)(o:I8 y): Qp 8 (atQ x y u):=by
 have i:∀ {x:Int},I8 x->Zs 8 x:=λ{x} h=>by have h:_/\_:=h;show x.natAbs<2^8;omega
 exact⟨Qs.divInt (i j) (n4.mono (by decide)) (by omega),Qs.divInt (i o) (n4.mono (by decide)) (by omega)⟩
theorem Yi4{x y z w:Int}{u:Nat}(i:I8 x)(o:I8 y)(j:I8 z)(A:I8 w): Qp 9 (Xbb (K:=0) (atQ x y u) (atQ z w u)):=by
 have h:∀ {x z:Int},I8 x->I8 z->Qs 9 (Rat.divInt x ((u%4+1:Nat):Int)+-Rat.divInt z ((u%4+1:Nat):Int)):=λ{x z} i j=>by
  have i:_/\_:=i
  have j:_/\_:=j
  rw[<-W5p,Yg5 (by omega)]
  exact Qs.divInt (show (x-z).natAbs<2^9 by omega) (n4.mono (by decide)) (by omega)
 exact⟨h i j,h o A⟩
theorem Ycq: ∀i:Fin 16,Qp 5 (uni i.val)/\(uni i.val).1*(uni i.val).1+(uni i.val).2*(uni i.val).2=1:=by decide +kernel
def rotQ(w e:Rat×Rat): Rat×Rat:=Xcx (K:=0) (Yio (K:=0) () w e.1) (Yio (K:=0) () (Tow.neg 0 w.2,w.1) e.2)
theorem Yff{w e:Rat×Rat}(h:Qp 9 w)(i:Qp 5 e): Qp 29 (rotQ w e) :=
 ⟨show Qs 29 (w.1*e.1+-w.2*e.2) from(h.1.mul i.1).add (h.2.neg.mul i.2),show Qs 29 (w.2*e.1+w.1*e.2) from(h.2.mul i.1).add (h.1.mul i.2)⟩
theorem Xz3{w e:Rat×Rat}(h:e.1*e.1+e.2*e.2=1): Xe1 (K:=0) () (rotQ w e) (rotQ w e)=Xe1 (K:=0) () w w:=by
 show (w.1*e.1+-w.2*e.2)*(w.1*e.1+-w.2*e.2)+(w.2*e.1+w.1*e.2)*(w.2*e.1+w.1*e.2)=w.1*w.1+w.2*w.2
 have:(w.1*e.1+-w.2*e.2)*(w.1*e.1+-w.2*e.2)+(w.2*e.1+w.1*e.2)*(w.2*e.1+w.1*e.2)=(w.1*w.1+w.2*w.2)*(e.1*e.1+e.2*e.2):=by grind
 rw[this,h,Rat.mul_one]
theorem Xqr{c w:Rat×Rat}: Xbb (K:=0) (Xcx (K:=0) c w) c=w:=W3a (show c.1+w.1+-c.1=w.1 by grind) (show c.2+w.2+-c.2=w.2 by grind)
def cvD(d:Dft): Cv:=match d.arc with
 | false=>⟨false,v0 (atQ d.a1 d.a2 d.un),v0 (atQ d.b1 d.b2 d.un),v0 (((0:Int):Rat),((0:Int):Rat)),d.cw⟩
 | true=>⟨true,v0 (atQ d.b1 d.b2 d.un),v0 (Xcx (K:=0) (atQ d.a1 d.a2 d.un) (rotQ (Xbb (K:=0) (atQ d.b1 d.b2 d.un) (atQ d.a1 d.a2 d.un)) (uni (d.st%16)))),v0 (atQ d.a1 d.a2 d.un),d.cw⟩
structure ArcOk (p q r:Rat×Rat):Prop where
 hp:Qp 64 p
 hq:Qp 64 q
 hr:Qp 64 r
 u:Qp 64 (Xbb (K:=0) q p)
 v:Qp 64 (Xbb (K:=0) r p)
 s:Qs 64 (Xe1 (K:=0) () (Xbb (K:=0) q p) (Xbb (K:=0) q p))
 e:Xe1 (K:=0) () (Xbb (K:=0) q p) (Xbb (K:=0) q p)=Xe1 (K:=0) () (Xbb (K:=0) r p) (Xbb (K:=0) r p)
theorem Qp.mono'{s t:Nat}{p:Rat×Rat}(h:Qp s p)(i:s<=t): Qp t p:=⟨h.1.mono i,h.2.mono i⟩
theorem arcOk{d:Dft}(h:d.ok): ArcOk (atQ d.a1 d.a2 d.un) (atQ d.b1 d.b2 d.un) (Xcx (K:=0) (atQ d.a1 d.a2 d.un) (rotQ (Xbb (K:=0) (atQ d.b1 d.b2 d.un) (atQ d.a1 d.a2 d.un)) (uni (d.st%16)))):=by
 have hp:=atQ_qp (u:=d.un) h.a1 h.a2
 have hq:=atQ_qp (u:=d.un) h.b1 h.b2
 have i:=Yi4 (u:=d.un) h.b1 h.b2 h.a1 h.a2
 obtain⟨o,A⟩:=Ycq ⟨d.st%16,W2b _ (by decide)⟩
 have j:=Yff i o
 refine⟨Qp.mono' hp (by decide),Qp.mono' hq (by decide),?_,Qp.mono' i (by decide),?_,?_,?_⟩
 . exact Qp.mono' (s:=38) ⟨hp.1.add j.1,hp.2.add j.2⟩ (by decide)
 . rw[Xqr];exact Qp.mono' j (by decide)
 . exact((i.1.mul i.1).add (i.2.mul i.2)).mono (by decide)
 . rw[Xqr];exact(Xz3 A).symm
theorem Yhy{c:Cv}{p q:Rat×Rat}(ha:c.arc=false)(hA:c.A=v0 p)(h:c.B=v0 q)(hp:Qp 64 p)(hq:Qp 64 q): C0 99 [.d (dC c)] (·=.b (dc (p≠q))):=by
 obtain⟨_,A,B,C,cw⟩:=c
 obtain rfl:_=false:=ha
 obtain rfl:A=_:=hA
 obtain rfl:B=_:=h
 refine En Tryz.func99 λ_ _ _=>?_
 exact Yes rfl nofun<|Ce rfl (R13.Equal_g W0 (gv0 hp) (gv0 hq) (by decide) (by decide))<|R1 rfl (.bp (by rw[W1u,W2p];exact not_congr Xal))
theorem Yhz{c:Cv}{p q r:Rat×Rat}(ha:c.arc=true)(M:c.C=v0 p)(hA:c.A=v0 q)(O:c.B=v0 r)(h:ArcOk p q r): C0 99 [.d (dC c)] (·=.b (dc (q≠p))):=by
 obtain⟨_,A,B,C,cw⟩:=c
 obtain rfl:_=true:=ha
 obtain rfl:A=_:=hA
 obtain rfl:B=_:=O
 obtain rfl:C=_:=M
 refine En Tryz.func99 λ_ _ _=>?_
 refine No rfl (λh=>h rfl)<|Dw rfl<|Cn [(1000001,16)] rfl (R15.Far_g W0 (gv0 h.hq) (gv0 h.hp) (by decide)) λv j=>?_
 obtain⟨Q,rfl,o⟩:=j
 refine Cn [(1000001,16)] rfl (R15.Far_g W0 (gv0 h.hr) (gv0 h.hp) (by decide)) λv j=>?_
 obtain⟨T,rfl,I⟩:=j
 refine Yes rfl rfl<|Ce rfl (R9.Sign_g W0 o (by decide)) ?_
 by_cases i:Xbb (K:=0) q p=vz 0
 . have e:q=p:=by
    have o:q.1+-p.1=0:=congrArg Prod.fst i
    have I:q.2+-p.2=0:=congrArg Prod.snd i
    exact W3a (by grind) (by grind)
   have h0:sgn 0 () (Xe1 (K:=0) () (Xbb (K:=0) q p) (Xbb (K:=0) q p))=0:=by rw[i];decide +kernel
   exact No rfl (by rw[h0];decide)<|R1 rfl (.bp ⟨nofun,λh=>absurd e h⟩)
 . have h0:=Xqj (K:=0) (G:=()) trivial i
   exact Yes rfl (by rw[h0];decide)<|Ce rfl (R9.Equal_g W0 o I (by decide) (by decide))<|R1 rfl (.bp ⟨λ_ e=>i (by rw[e];exact W3a (show p.1+-p.1=0 by grind) (show p.2+-p.2=0 by grind)),λ_=>Xal.2 h.e⟩)
abbrev vlD(d:Dft): Prop:=atQ d.a1 d.a2 d.un≠atQ d.b1 d.b2 d.un
theorem Yh0{d:Dft}(h:d.ok): C0 99 [.d (dC (cvD d))] (·=.b (dc (vlD d))):=by
 obtain⟨arc,cw,a1,i,j,o,st,un⟩:=d
 cases arc with
 | false=>exact Yhy rfl rfl rfl (Qp.mono' (atQ_qp h.a1 h.a2) (by decide)) (Qp.mono' (atQ_qp h.b1 h.b2) (by decide))
 | true =>
  refine(Yhz rfl rfl rfl rfl (arcOk h)).mono λv e=>e.trans (congrArg AV.b ?_)
  exact W4h.2 (Xal.trans (Iff.trans ⟨λh e=>h e.symm,λh e=>h e.symm⟩ Xal.symm))
theorem Curve_ok{d:Dft}(h:d.ok): C0 39 [.d (dDf d)] (·=.tup (.pr (.d (dC (cvD d))) (.b (dc (vlD d))))):=by
 have M:=Yh0 h
 have B:=arcOk h
 obtain⟨arc,cw,a1,a2,b1,b2,st,un⟩:=d
 obtain⟨Q,T,U,V,Y,O⟩:=h
 refine En Tryz.func39 λ_ _ _=>?_
 refine Dw rfl<|Ce rfl (Ymh Q T O)<|Ce rfl (Ymh U V O)<|Ce rfl (R13.Whole_ok (i:=0) (j:=0) (by decide) (by decide)) ?_
 cases arc with
 | false =>
  exact No rfl nofun<|Dw rfl<|Ce rfl M<|RTt rfl (.cons (.sd (.pd (.bd rfl) (.pd (.eq rfl) (.pd (.eq rfl) (.pd (.eq rfl) (.bd rfl)))))) Xg7)
 | true =>
  refine Yes rfl rfl<|Dw rfl<|Cn [(1000001,27)] rfl (R15.Minus_g W0 (gv0 B.hq) (gv0 B.hp) (by decide) (by decide)) λv o=>?_
  obtain⟨w,rfl,I⟩:=o
  obtain rfl:=Xci I
  refine Ce rfl (Xhs Y) ?_
  have A:=(Ycq ⟨st%16,W2b _ (by decide)⟩).1
  have A:Qp 64 (uni (st%16)):=Qp.mono' A (by decide)
  refine Dw rfl<|Cn [(1000001,27)] rfl (R15.Scale_g W0 I (g0 A.1) (by decide) (by decide)) λv o=>?_
  obtain⟨z1,rfl,Z⟩:=o
  refine Ca rfl (R13.Left_g W0 I (by decide)) λv o=>?_
  obtain⟨z2,rfl,k2⟩:=o
  refine Cn [(1000001,27)] rfl (R15.Scale_g W0 k2 (g0 A.2) (by decide) (by decide)) λv o=>?_
  obtain⟨z3,rfl,k3⟩:=o
  refine Cn [(1000001,27)] rfl (R15.Plus_g W0 Z k3 (by decide) (by decide)) λv o=>?_
  obtain⟨z4,rfl,k4⟩:=o
  refine Cn [(1000001,27)] rfl (R15.Plus_g W0 (gv0 B.hp) k4 (by decide) (by decide)) λv o=>?_
  obtain⟨z5,rfl,k5⟩:=o
  obtain rfl:=Xci k5
  exact Dw rfl<|Ce rfl M<|RTt rfl (.cons (.sd (.pd (.bd rfl) (.pd (.eq rfl) (.pd (.eq rfl) (.pd (.eq rfl) (.bd rfl)))))) Xg7)
theorem lD{l:List Dft}: (l.map dDf).length=l.length:=W0i ..
end R47
end Go.Proofs.YtcmjannkbdflmaaGreatDoor
namespace Go.Proofs.YtcmjannkbdflmaaGreatDoor.R55
open Go Go.Vm Go.Num Go.Tow Go.Proofs.YtcmjannkbdflmaaGreatDoor
section
open Go.Proofs.YtcmjannkbdflmaaGreatDoor.P55 (qb Yg6 sel Xhc Xh6 exA exW W0 zBA Yl8 lC cAt)
abbrev Zb:=Go.Proofs.YtcmjannkbdflmaaGreatDoor.P55.Zb
abbrev F4:=Go.Proofs.YtcmjannkbdflmaaGreatDoor.P55.F4
theorem valid_ok{l:List Cv}(o:l.length<=1000)(j:∀c∈l,C0 99 [.d (dC c)] (·=.b true)): C0 69 [.d (Xd1 l)] (·=.b true):=by
 refine En Tryz.func69 λ_ _ _=>?_
 refine Lo (λk:Nat=>[(0,.d (Xd1 l)),(3,.d (.int .i64 k))]) (λ_=>[]) (λk=>k<=l.length) (λk=>l.length-k) 0 [] rfl (W0s _) λk A=>?_
 refine By rfl (λh=>?_) λh=>?_<;>simp only[lC] at h
 . obtain⟨c,i⟩:∃c,l[k]?=some c:=⟨_,W0a (by omega)⟩
   refine Ix k rfl (cAt i)<|Ce rfl (j c (W0e i))<|No rfl nofun<|Ar (k+1:Nat) rfl ?_
   exact Bk (k+1) [] rfl (by omega) (by show l.length-(k+1)<l.length-k;omega)
 . exact R0
def dr(r m n:Nm): Nat->Vn
 | 0=>⟨r,n00⟩
 | 1=>⟨n00,r⟩
 | 2=>⟨m,n00⟩
 | 3=>⟨n00,m⟩
 | _=>⟨n,n00⟩
theorem Sqrt_c{f r:Nm}(h:C0 143 [.d (dN f)] (·=.tup (.pr (.d (dN r)) (.d (.int .i64 0))))): CN0 72 [.ptr 1000001 0,.d (dN f)] [(1000001,cal)] (·=.d (dN r)):=by
 refine EnW Tryz.func72 λ_ _ _ _=>?_
 refine Ce rfl h<|Cn [] rfl R15.num_ok λv i=>?_
 subst i
 exact Rw [] [(1000001,cal)] rfl (.one (.rf rfl) rfl rfl) ⟨rfl,rfl⟩
def exH(c:Cv)(d:Vn): Option (List Vn)->Hpl
 | none=>[(1000001,cal),(3,.var (.d (dC c))),(7,.var (.d (dV d)))]
 | some w=>[(1000001,cal),(3,.var (.d (dC c))),(7,.var (.d (dV d))),(600,.arr 4 (w.map dV))]
end
section
open Go.Proofs.YtcmjannkbdflmaaGreatDoor.P55 (qb zBA Yl8 lC cAt lst f40 ofO nxF mn Xwf Xwg Xsb Xrv o40)
end
end Go.Proofs.YtcmjannkbdflmaaGreatDoor.R55
namespace Go.Tow
open Go Go.Num Go.Proofs.YtcmjannkbdflmaaGreatDoor
variable{k:Rat}{ρ:Nat->El 1}{r p:Nat}{z:Nm}{v:El 1}
abbrev G1(k:Rat): Tw 1:=((),k)
abbrev r1: El 1:=((0:Rat),(1:Rat))
abbrev n1(k:Rat)(v:El 1): Nm:=⟨1,G1 k,v⟩
theorem Yna(h:0<k)(i:¬Xcl 0 () k): red 1 (G1 k):=⟨trivial,Xbh h,i⟩
theorem Yjt: mul 1 (G1 k) r1 r1=rat 1 k:=by
 show (((0:Rat)*0+((1:Rat)*1)*k,(0:Rat)*1+(1:Rat)*0):Rat×Rat)=(k,0)
 exact W3a (by show (0:Rat)*0+((1:Rat)*1)*k=k;grind) (by show (0:Rat)*1+(1:Rat)*0=0;grind)
theorem Yju(h:0<k): sgn 1 (G1 k) r1=1:=Xu9 (k:=0) (t:=G1 k) trivial
theorem Yq0(h:0<k)(j:¬Xcl 0 () k): TOk (G1 k) [r1] 1 (G1 k) (λ_=>r1) :=
 ⟨Yna h j,⟨trivial,Yjt,Yju h⟩,λi _=>W0f.2 rfl⟩
theorem Yn2(j:0<k)(o:¬Xcl 0 () k){m:Nat}{T:Tw m}(h:TOk (G1 k) [r1] m T ρ): m=0\/∃e:m=1,e ▸ T=G1 k/\ρ 0=r1:=by
 have A:m<=1:=h.le (Xah (Yna j o))
 match m,T,h,A with
 | 0,_,_,_=>exact .inl rfl
 | 1,((),t),h,_ =>
  have h0:ρ 0=r1:=W0f.1 (h.s 0 (by decide))
  have i:mul 1 (G1 k) (ρ 0) (ρ 0)=rat 1 t:=h.h.2.1
  rw[h0,Yjt] at i
  have i:k=t:=congrArg Prod.fst i
  exact .inr ⟨rfl,by rw[i],h0⟩
theorem W1(i:0<k)(j:¬Xcl 0 () k)(hq:Qs 64 k): Wn (G1 k) [r1] [n1 k r1]:=by
 refine⟨⟨Yna i j,by decide,λ{m T ρ} h=>?_⟩,λz o=>?_⟩
 . rcases Yn2 i j h with rfl | ⟨rfl,e,_⟩
   . trivial
   . have e:T=G1 k:=e
     subst e
     exact⟨trivial,(Sz.rat 0 hq).mono (by rw[Xho];decide)⟩
 . obtain rfl:=W0f.1 o
   exact⟨_,Yq0 i j⟩
end Go.Tow
namespace Go.Proofs.YtcmjannkbdflmaaGreatDoor.R55
open Go Go.Vm Go.Num Go.Tow Go.Proofs.YtcmjannkbdflmaaGreatDoor
section
open Go.Proofs.YtcmjannkbdflmaaGreatDoor.P55 (v0 W0 g0 gv0 zw Xci Qp nr Xaw Yg6 sel Xh6 Yqu d2)
abbrev sg{K:Nat}(rv:Tow.El K)(e:Bool): Tow.El K:=if e then rv else neg K rv
section
variable{K:Nat}{G:Tw K}{S:List (Tow.El K)}{N:List Nm}{s:Rat}{r:Nm}{rv:Tow.El K}{p q t:Rat×Rat}{cw:Bool}{δ:V2 K}{d x u v:Vn}{n:Nat}
theorem Xuw(h:q≠p): Xbb (K:=0) q p≠((0,0):Rat×Rat):=λe=>h (by
 have i:q.1+-p.1=0:=congrArg Prod.fst e
 have j:q.2+-p.2=0:=congrArg Prod.snd e
 exact W3a (by grind) (by grind))
end
end
section
open Go.Proofs.YtcmjannkbdflmaaGreatDoor.P55 (v0 W0 g0 gv0 zw Xci Qp nr Xaw Yg6 sel Xh6)
section
variable{K:Nat}{G:Tw K}{S:List (Tow.El K)}{N:List Nm}{s:Rat}{r:Nm}{rv:Tow.El K}{p q t:Rat×Rat}{cw:Bool}{δ:V2 K}{d x u v:Vn}{n:Nat}
theorem CN_mono{P:Program}[Gb P]{f:FuncId}{j:List AV}{H0:Hpl}{Q Q':AV->Prop}(h:CN P f j H0 Q)(k:∀v,Q v->Q' v): CN P f j H0 Q':=⟨h.1,λW θ A B I ha=>(h.2 W θ A B I ha).mono λe w' ⟨W',i,v,u,H',M,O,T,U,V,Y,Z,h8,o⟩=>⟨W',i,v,u,H',M,O,T,U,V,Y,Z,h8,o.1,k v o.2⟩⟩
end
end
section
open Go.Proofs.YtcmjannkbdflmaaGreatDoor.P55 (v0 W0 g0 gv0 zw Xci Qp nr Xaw lst f40 ofO nxF O4.nx Xrv o40 lC cAt)
theorem pk1{s a b:Rat}(i:0<s)(j:¬Xcl 0 () s)(hq:Qs 64 s)(ha:Qs 64 a)(hb:Qs 64 b): P11.Pk (n1 s ((a,b):Rat×Rat)) :=
 ⟨show 1<=3 by decide,Xah (Yna i j),⟨trivial,(Sz.rat 0 hq).mono (by decide)⟩,⟨trivial,λx h=>by obtain rfl:=W0f.1 h;exact hq⟩,.inl λx h=>by
  have h:x∈[a,b]:=h
  rcases W1h.1 h with rfl | h
  . exact ha
  . obtain rfl:=W0f.1 h;exact hb⟩
theorem Yf2{y z:Rat}(h:y*y=z*z)(i:0<=Xe3 y)(j:0<=Xe3 z): y=z:=by
 have p:∀ {y:Rat},0<=Xe3 y->0<=y:=λ{y} h=>by
  rcases Xa0 y with ⟨e,_⟩ | ⟨e,_⟩ | ⟨_,e⟩
  . grind
  . grind
  . omega
 have A:=p i
 have B:=p j
 have o:(y-z)*(y+z)=0:=by grind
 rcases Rat.mul_eq_zero.1 o with e | e
 . grind
 . grind
theorem rt_sq{f:FuncId}{i:List AV}{s y:Rat}(h:C0 f i (R9.RtR (nr s)))(j:y*y=s)(h0:0<=Xe3 y): C0 f i (·=.tup (.pr (.d (dN (nr y))) (.d (.int .i64 0)))):=h.mono λv ⟨z,e,o⟩=>by
 rcases o with ⟨w,rfl,A,B⟩ | ⟨_,_,I⟩
 . have M:(w:Rat)=y:=Yf2 (y:=(w:Rat)) (z:=y) (Eq.trans A j.symm) B h0
   rw[e,show w=y from M]
 . exact absurd ⟨y,j⟩ I
theorem rt_non{f:FuncId}{i:List AV}{s:Rat}(h:C0 f i (R9.RtR (nr s)))(j:¬Xcl 0 () s): C0 f i (·=.tup (.pr (.d (dN (n1 s r1))) (.d (.int .i64 0)))):=h.mono λv ⟨z,e,o⟩=>by
 rcases o with ⟨w,rfl,A,B⟩ | ⟨rfl,_,_⟩
 . exact absurd ⟨w,A⟩ j
 . exact e
theorem Yfm{s:Rat}(h:Qs 64 s)(h0:0<=sgn 0 () s): C0 143 [.d (dN (nr s))] (R9.RtR (nr s)):=R9.Sqrt_ok (x:=nr s) (r:=1) (p:=65) trivial trivial (Sz.rat 0 h) h0 (show 0<8 by decide) (show qB 1 0 65<=4398046511104 by decide +kernel) (show qB 1 0 1<=4398046511104 by decide +kernel) (show vB 1 0 (65+gC 1 0)<=4398046511104 by decide +kernel) (show vB 1 0 1<=4398046511104 by decide +kernel)
end
end Go.Proofs.YtcmjannkbdflmaaGreatDoor.R55
namespace Go.Vm
open Go Go.ChangeShapes Go.WideShapes Go.ChangeAt Go.RowKit
theorem Xm5{P:Program}{t e:TypeId}{r:D->Prop}(O:P.underlying t=some (.array 2 e))(j:Reads P e r)(Q:P.cellsOf e=1)(T:P.cellsOf t=2): Reads P t λd=>∃a b,d=.st (.pr a b)/\r a/\r b:=by
 intro w H enc i o A cs x h
 obtain⟨xs,m,_,_,B,U,I⟩:=DataW.trod_array O h
 rw[T] at B
 match cs,B with
 | [u,v],_ =>
  have g0:=I 0 (by decide)
  have M:=I 1 (by decide)
  rw[Q,W0a (by omega)] at g0 M
  obtain⟨a,a1,V⟩:=j w g0
  obtain⟨b,Y,Z⟩:=j w M
  exact⟨_,⟨a,b,rfl,a1,Y⟩,[u],[v],rfl,V,Z⟩
end Go.Vm
namespace Go.Proofs.YtcmjannkbdflmaaGreatDoor
open Go Go.Vm Go.Num
theorem Xrm: Reads Tryz.prog 96 λd=>∃a b:Int,d=dP8 a b/\I8 a/\I8 b :=
 (Xm5 Tryz.underlying96 (Xz7 Tryz.underlying95) (by kernel_rfl) (by kernel_rfl)).mono λd ⟨a,b,e,⟨x,ex,h⟩,⟨y,i,j⟩⟩=>⟨x,y,by rw[e,ex,i],h,j⟩
theorem Xo1: Reads Tryz.prog 98 λd=>∃x:Dft,d=dDf x/\x.ok :=
 (Xgx Tryz.underlying98 (.cons (n:=1) rfl (Xgj Tryz.underlying4) (by kernel_rfl) (.cons (n:=1) rfl (Xgj Tryz.underlying4) (by kernel_rfl) (.cons (n:=2) rfl Xrm (by kernel_rfl) (.cons (n:=2) rfl Xrm (by kernel_rfl) (.cons (n:=1) rfl (Xk6 Tryz.underlying5) (by kernel_rfl) (.one rfl (Xk6 Tryz.underlying5))))))) (λf hf=>by cases hf;kernel_rfl)).mono λd hd=>by
  obtain⟨_,rfl,_,_,rfl,⟨a,rfl⟩,_,_,rfl,⟨b,rfl⟩,_,_,rfl,⟨c,e,rfl,h,i⟩,_,_,rfl,⟨f,g,rfl,j,o⟩,_,_,rfl,⟨m,rfl,A⟩,⟨n,rfl,B⟩⟩:=hd
  exact⟨⟨a,b,c,e,f,g,m,n⟩,rfl,h,i,j,o,A,B⟩
theorem Xm6: Reads Tryz.prog 22 λd=>∃l:List Dft,d=Ynm l/\l.length<9223372036854775808/\∀x∈l,x.ok :=
 (Xo0 Tryz.underlying22 Xo1 (sz:=8) (by kernel_rfl) (by decide)).mono λd ⟨l,e,i,h⟩=>by
  obtain⟨m,j⟩:=Yrf (f:=λn:{ x:Dft // x.ok }=>dDf n.1) λy o=>let ⟨n,e,A⟩:=h y o;⟨⟨n,A⟩,e⟩
  refine⟨m.map (·.1),by rw[e,j];show _=D.sl 8 ((m.map (·.1)).map dDf);rw[List.map_map];rfl,by rw[j] at i;simpa using i,λx B=>?_⟩
  obtain⟨y,_,rfl⟩:=W3l.1 B
  exact y.2
end Go.Proofs.YtcmjannkbdflmaaGreatDoor
namespace Go.Num
def spl: List UInt8->List (List UInt8)
 | []=>[[]]
 | c::s=>if c=32 then []::spl s else match spl s with
  | []=>[[c]]
  | w::r=>(c::w)::r
theorem Xq2: ∀s,spl s≠[]
 | []=>by simp[spl]
 | c::s=>by
  rw[spl];split
  . simp
  . split<;>simp
theorem Xmv: ∀ {s:List UInt8},32 ∉ s->spl s=[s]
 | [],_=>rfl
 | c::s,h=>by
  rw[W1h,not_or] at h
  rw[spl,if_neg (λe=>h.1 e.symm),Xmv h.2]
theorem Xjt{t:List UInt8}: ∀ {u:List UInt8},32 ∉ u->spl (u++32::t)=u::spl t
 | [],_=>by rw[W4i,spl,if_pos rfl]
 | c::u,h=>by
  rw[W1h,not_or] at h
  rw[W3q,spl,if_neg (λe=>h.1 e.symm),Xjt h.2]
theorem Xbr: ∀s:List UInt8,(spl s).length=s.count 32+1
 | []=>rfl
 | c::s=>by
  have i:=Xbr s
  rw[spl,List.count_cons]
  by_cases h:c=32
  . subst h;rw[if_pos rfl];simp[i]
  . rw[if_neg h,if_neg (by simpa using h)]
    obtain⟨w,r,e⟩:=W5c (Xq2 s)
    rw[e] at i |-
    simpa using i
theorem Xh1: ∀(s w:List UInt8),w∈spl s->w.length<=s.length
 | [],w,h=>by
  obtain rfl:=W0f.1 h;exact W0c _
 | c::s,w,h=>by
  rw[spl] at h
  split at h
  . rcases W1h.1 h with rfl | h
    . exact W0s _
    . exact W0l (Xh1 s w h) (W8n _)
  . obtain⟨v,r,e⟩:=W5c (Xq2 s)
    rw[e] at h
    rcases W1h.1 h with rfl | h
    . exact Nat.succ_le_succ (Xh1 s v (by rw[e];exact W0v))
    . exact W0l (Xh1 s w (by rw[e];exact W1b _ h)) (W8n _)
def num(w:List UInt8): Option Rat:=(prs w).map λq=>fr q.1 q.2.1 q.2.2
theorem Yj8{w:List UInt8}(h:prs w=none): num w=none:=by rw[num,h];rfl
theorem Xv6{w a b:List UInt8}{ng:Bool}(h:prs w=some (ng,a,b)): num w=some (fr ng a b):=by rw[num,h];rfl
abbrev Wd:=List UInt8
abbrev Pt:=Rat×Rat
def pt2: List Wd->Option (Pt×List Wd)
 | x::y::r=>match num x,num y with
  | some a,some b=>some ((a,b),r)
  | _,_=>none
 | _=>none
def Xmk(w:Wd): Prop:=w=[48]\/w=[49]
instance (w:Wd):Decidable (Xmk w):=inferInstanceAs (Decidable (_\/_))
def Xp4: List Wd->Option (Pt×List Wd)
 | x::y::f::g::h::r=>if (num x).isSome=true/\(num y).isSome=true/\f=[48]/\Xmk g/\Xmk h then pt2 r else none
 | _=>none
def cmd: List Wd->Option (List Pt×List Wd)
 | []=>none
 | c::r=>if c=[76] then (pt2 r).map λq=>([q.1],q.2) else if c=[65] then (Xp4 r).map λq=>([q.1],q.2) else if c=[90] then (if r=[] then some ([],[]) else none) else none
theorem Xla{l r:List Wd}{p:Pt}(h:pt2 l=some (p,r)): r.length+2=l.length:=by
 match l,h with
 | x::y::l,h =>
  simp only[pt2] at h
  split at h<;>cases h
  rfl
theorem Yb6{l r:List Wd}{p:Pt}(h:Xp4 l=some (p,r)): r.length+7=l.length:=by
 match l,h with
 | x::y::f::g::k::l,h =>
  simp only[Xp4] at h
  split at h
  . have:=Xla h;simp only[W0j];omega
  . cases h
theorem Xyd{l r:List Wd}{ps:List Pt}(h:cmd l=some (ps,r)): r.length<l.length:=by
 match l,h with
 | c::l,h =>
  simp only[cmd] at h
  split at h
  . cases e:pt2 l with
    | none=>rw[e] at h;cases h
    | some q=>rw[e] at h;cases h;have:=Xla (l:=l) (r:=q.2) (p:=q.1) e;simp only[W0j];omega
  . split at h
    . cases e:Xp4 l with
      | none=>rw[e] at h;cases h
      | some q=>rw[e] at h;cases h;have:=Yb6 (l:=l) (r:=q.2) (p:=q.1) e;simp only[W0j];omega
    . split at h
      . split at h<;>cases h
        simp
      . cases h
def bdy: Nat->List Wd->Option (List Pt)
 | _,[]=>some []
 | 0,_::_=>none
 | n+1,c::r=>match cmd (c::r) with
  | none=>none
  | some (ps,r)=>(bdy n r).map (ps++·)
theorem Ymg: ∀ {n m:Nat} {l:List Wd},l.length<=n->l.length<=m->bdy n l=bdy m l
 | n,m,[],_,_=>by cases n<;>cases m<;>rfl
 | 0,_,_::_,h,_=>absurd h (by simp)
 | _+1,0,_::_,_,h=>absurd h (by simp)
 | n+1,m+1,c::r,i,j=>by
  simp only[bdy]
  cases e:cmd (c::r) with
  | none=>rfl
  | some q =>
   obtain⟨ps,o⟩:=q
   have:=Xyd e
   simp only[W0j] at i j this
   simp only
   rw[Ymg (n:=n) (m:=m) (l:=o) (by omega) (by omega)]
def body(l:List Wd): Option (List Pt):=bdy l.length l
theorem Xs6: body []=some []:=rfl
theorem Xp1{l:List Wd}(h0:l≠[])(h:cmd l=none): body l=none:=by
 match l,h0 with
 | c::r,_=>unfold body;rw[W0j,bdy,h]
theorem Xez{l r:List Wd}{ps:List Pt}(h:cmd l=some (ps,r)): body l=(body r).map (ps++·):=by
 match l,h with
 | c::l,h =>
  have:=Xyd h
  unfold body
  rw[W0j,bdy,h]
  simp only[W0j] at this |-
  rw[Ymg (n:=l.length) (m:=r.length) (l:=r) (by omega) (W0c _)]
def rdP: List Wd->Option (List Pt)
 | []=>none
 | m::r=>if m=[77] then match pt2 r with
  | none=>none
  | some (p,r)=>(body r).map (p::·)
  else none
end Go.Num
namespace Go.Proofs.YtcmjannkbdflmaaGreatDoor
open Go Go.Vm Go.Num Go.Proofs
theorem Xy7(s:ByteArray)(c:UInt8)(w:World): Calls Tryz.prog 155 #[.string s,.string ⟨#[c]⟩] w λe w'=>e=.returned (.int .i64 (Lib.countByte s.data.toList c))/\w'=w:=by
 go_enter Tryz.func155,Tryz.ntmps155
 go_wp2
 rw[run_callFunc_extern Tryz.func243 (by kernel_rfl) (by kernel_rfl) (by kernel_rfl) (e:=Extern.BytealgCount.count) (by kernel_rfl),Lib.run_countString]
 simp only[Result.andThen]
 rw[Oper.upon_value]
 go_wp2
 go_ret
 exact⟨rfl,rfl⟩
theorem Ycf{s:List UInt8}(hs:Tx s): C0 155 [.d (.str s),.d (.str [32])] (·=.d (.int .i64 ((spl s).length-1:Nat))):=by
 refine⟨⟨_,Tryz.func155,rfl,rfl⟩,λW i _ ha=>?_⟩
 match i,ha with
 | [v,u],ha =>
  obtain⟨rfl,_⟩:=Xjm ha.1
  obtain⟨rfl,_⟩:=Xjm ha.2.1
  refine(Xy7 _ 32 W.w).mono ?_
  rintro e o ⟨rfl,rfl⟩
  have j:Lib.countByte (⟨s.toArray⟩:ByteArray).data.toList 32=(spl s).length-1:=by rw[Xbr];simp[Lib.countByte]
  have A:((spl s).length-1)<9223372036854775808:=by
   have hs:s.length<_:=hs
   have:=W4w (a:=(32:UInt8)) (l:=s)
   rw[Xbr];omega
  rw[j]
  refine⟨W,.d (.int .i64 ((spl s).length-1:Nat)),_,rfl,rfl,Fm.refl _ _,?_,λ_ h=>h,rfl⟩
  exact Vm.int_V (by show IntKind.i64.wrap _=_;exact wI ⟨by omega,by omega⟩)
theorem Xmh{s:List UInt8}{b:UInt8}{r:Int}(hs:Tx s)(hr:Lib.indexByte s b=r): C0 156 [.d (.str s),.d (.str [b])] (·=.d (.int .i64 r)):=by
 refine En Tryz.func156 λ_ _ _=>?_
 exact Ce rfl (Xje hs hr)<|R0
theorem Xrb{L:List (List UInt8)}{i n:Nat}{u:List UInt8}(j:L.length=n)(h:L[i]?=some u): ((L.take i).map D.str++List.replicate (n-i) (D.str [])).set i (.str u)=(L.take (i+1)).map D.str++List.replicate (n-(i+1)) (D.str []):=by
 have hi:=(W1e.1 h).1
 rw[W6o _ _ (by simp;omega)]
 have e:i-((L.take i).map D.str).length=0:=by simp;omega
 rw[e,show n-i=n-(i+1)+1 by omega,W3p,W7h,W1c,h]
 simp
theorem Xpr{s:List UInt8}(hs:s.length<=1000000): C0 81 [.d (.str s),.d (.str [32]),.d (.int .i64 0),.d (.int .i64 (-1))] (·=.d (dXs (spl s))):=by
 obtain⟨n,B⟩:∃n,(spl s).length=n+1:=⟨_,Xbr s⟩
 have Q:n<=s.length:=by
  have:=Xbr s
  have:=W4w (a:=(32:UInt8)) (l:=s)
  omega
 have M:=Ycf (s:=s) (by show _<_;omega)
 rw[B,W3m] at M
 refine En Tryz.func81 λ_ _ _=>?_
 refine No rfl (by decide)<|No rfl (by decide)<|Yes rfl (by decide)<|Ce rfl M<|Ar (n+1:Nat) rfl ?_
 refine Ar (s.length+1:Nat) rfl ?_
 refine Mm (n+1:Nat) rfl ?_ (by show min ((n+1:Nat):Int) ((s.length+1:Nat):Int)=_;omega)
 refine Mk (n+1) rfl (by omega) ?_
 refine Ar (n:Nat) rfl ?_
 refine Lo (λ((i,r):Nat×List UInt8)=>[(0,.d (.str r)),(1,.d (.str [32])),(2,.d (.int .i64 0)),(3,.d (.int .i64 n)),(9,.own 31 1 0 (n+1)),(10,.d (.int .i64 i))]) (λ(i,_)=>[(31,.arr 1 (((spl s).take i).map D.str++List.replicate (n+1-i) (D.str [])))]) (λ(i,r)=>i<=n/\spl r=(spl s).drop i/\r.length<=s.length) (λ(i,_)=>n-i) (0,s) [] rfl ⟨W0s _,rfl,W0c _⟩ ?_
 rintro⟨i,r⟩ ⟨hi,A,T⟩
 have o:(spl r).length=n+1-i:=by rw[A,W1n,B]
 have O:(((spl s).take i).map D.str++List.replicate (n+1-i) (D.str [])).length=n+1:=by simp;omega
 refine By rfl (λh=>?_) λh=>?_
 . rcases Xww 32 r with j | ⟨u,t,rfl,j⟩
   . rw[Xmv j] at o
     simp only[W4g] at o
     omega
   . have U:(u++32::t).length=u.length+(t.length+1):=by simp
     refine Ce rfl (Xmh (by show _<_;omega) (Yar j))<|No rfl (by omega)<|Ar (u.length:Nat) rfl ?_
     refine Stk u.length u rfl (by omega) (by simp) ?_
     refine Eo i rfl (by omega) ?_
     have I:(spl s)[i]?=some u:=by
      have:=congrArg (·[0]?) A
      rw[Xjt j] at this
      simpa using this.symm
     refine Sto (zs:=((spl s).take (i+1)).map D.str++List.replicate (n+1-(i+1)) (D.str [])) rfl (by omega) (Xrb B I) ?_
     refine Ar (u.length+1:Nat) rfl ?_ (wr (by simp) (by simp only[inK];omega))
     refine Sdp (u.length+1) t rfl (by omega) (by simp) ?_
     refine Ar (i+1:Nat) rfl ?_
     refine Bk (i+1,t) [] rfl ⟨by omega,?_,by omega⟩ (by show n-(i+1)<n-i;omega)
     rw[Xjt j] at A
     rw[<-W4u,<-A];rfl
 . obtain rfl:i=n:=by omega
   have j:spl r=[r]:=by
    rcases Xww 32 r with j | ⟨u,t,rfl,j⟩
    . exact Xmv j
    . rw[Xjt j] at o
      have:=W4o.2 (Xq2 t)
      simp only[W0j] at o
      omega
   have I:(spl s)[i]?=some r:=by
    have:=congrArg (·[0]?) A
    rw[j] at this
    simpa using this.symm
   refine Eo i rfl (by omega)<|Sto (zs:=(spl s).map D.str) rfl (by omega) (by rw[Xrb B I,W0b (by omega),W2v];simp) ?_
   refine Ar (i+1:Nat) rfl ?_
   refine Sw 0 (i+1) rfl (by omega) (by omega) ?_
   exact R1 rfl (.own rfl (by simp;omega) (by rw[W1j,W0y,W0b (by simp;omega)]))
theorem Xhl{s:List UInt8}(hs:s.length<=1000000): C0 29 [.d (.str s),.d (.str [32])] (·=.d (dXs (spl s))):=by
 refine En Tryz.func29 λ_ _ _=>?_
 exact Ce rfl (Xpr hs)<|R0
end Go.Proofs.YtcmjannkbdflmaaGreatDoor
namespace Go.Vm
open Go
variable{c:Cx}{s:St}
noncomputable def Yp7(tb:Nat->Option TI)(n id:Nat)(s:St): Option (List Kt×Env×Hpl):=match runT tb n id 1000 s with
 | .j _ K E H=>some (K,E,H)
 | _=>none
theorem NvT{K:List Kt}{E:Env}{H:Hpl}(id q i sz:Nat){a:AV}(h:Yp7 c.tb c.n id s=some (K,E,H))(k:StP c (.j [] K E ((q,.var (a.nl i sz))::(i,.tok 0 sz)::H)))(o:look H q=some (.var a):=by exact rfl)(hb:(Nat.blt i 1000000 && !Xcd H i)=true:=by exact rfl): StP c s:=by
 unfold Yp7 at h
 split at h<;>cases h
 rename_i A
 exact Xgi (id:=id) 1000 (by rw[A];exact nvS q i sz o hb k)
end Go.Vm
namespace Go.Num
def hd(r:List Wd): Wd:=r.headD []
theorem Yf0: num []=none:=rfl
theorem Xvx(r:List Wd): pt2 r=match num (hd r),num (hd r.tail) with
 | some a,some b=>some ((a,b),r.tail.tail)
 | _,_=>none:=by
 match r with
 | []=>rfl
 | [x] =>
  show none=match num x,num [] with
   | some a,some b=>some ((a,b),([]:List Wd))
   | _,_=>none
  rw[Yf0];cases num x<;>rfl
 | x::y::r=>rfl
theorem Xme(r:List Wd): Xp4 r=if (num (hd r)).isSome=true/\(num (hd r.tail)).isSome=true/\hd r.tail.tail=[48]/\Xmk (hd r.tail.tail.tail)/\Xmk (hd r.tail.tail.tail.tail) then pt2 r.tail.tail.tail.tail.tail else none:=by
 match r with
 | []=>exact(if_neg λh=>nomatch h.1).symm
 | [_]=>exact(if_neg λh=>nomatch h.2.1).symm
 | [_,_]=>exact(if_neg λh=>nomatch h.2.2.1).symm
 | [_,_,_]=>exact(if_neg λh=>h.2.2.2.1.elim nofun nofun).symm
 | [_,_,_,_]=>exact(if_neg λh=>h.2.2.2.2.elim nofun nofun).symm
 | _::_::_::_::_::r=>rfl
def wat(l:List Wd)(a:Nat): Wd:=hd (l.drop a)
def nx(l:List Wd)(a:Nat): Nat:=if a<l.length then a+1 else a
theorem Xi0(l:List Wd)(a:Nat): l.drop (nx l a)=(l.drop a).tail:=by
 unfold nx
 split
 . rw[W4x]
 . rw[W1o (by omega)];rfl
theorem Xqi{l:List Wd}{a:Nat}{w:Wd}(h:l[a]?=some w): wat l a=w:=by
 unfold wat hd
 rw[List.headD_eq_head?_getD,List.head?_drop,h];rfl
theorem Xqh{l:List Wd}{a:Nat}(h:l.length<=a): wat l a=[]:=by
 unfold wat;rw[W1o h];rfl
theorem Xnc{l:List Wd}{a:Nat}(h:a<l.length): nx l a=a+1:=if_pos h
theorem Yoi{l:List Wd}{a:Nat}(h:l.length<=a): nx l a=a:=if_neg (by omega)
theorem Xjj(l:List Wd)(a:Nat): a<=nx l a:=by unfold nx;split<;>omega
theorem Xcp{l:List Wd}{a:Nat}(h:a<=l.length): nx l a<=l.length:=by unfold nx;split<;>omega
theorem Ycl{l:List Wd}{a:Nat}(h:wat l a≠[]): a<l.length:=by
 rcases Nat.lt_or_ge a l.length with i | i
 . exact i
 . exact absurd (Xqh i) h
theorem Yoh{l:List Wd}{a:Nat}{q:Pt×List Wd}(h:pt2 (l.drop a)=some q): a+1<l.length:=by
 have:=Xla (l:=l.drop a) (p:=q.1) (r:=q.2) h
 rw[W1n] at this
 omega
theorem Xn8{l:List Wd}{a:Nat}(h:a<l.length): cmd (l.drop a)=if wat l a=[76] then (pt2 (l.drop (nx l a))).map λq=>([q.1],q.2) else if wat l a=[65] then (Xp4 (l.drop (nx l a))).map λq=>([q.1],q.2) else if wat l a=[90] then (if l.drop (nx l a)=[] then some ([],[]) else none) else none:=by
 obtain⟨w,A⟩:∃w,l[a]?=some w:=⟨_,W0a h⟩
 rw[Xqi A,Xi0]
 obtain⟨j,r,e⟩:∃j r,l.drop a=j::r:=W5c (by rw[ne_eq,W5j];omega)
 have o:j=w:=by
  have:=List.head?_drop (l:=l) (i:=a)
  rw[e,A] at this
  exact Option.some.inj this
 subst o
 rw[e]
 rfl
theorem Xrn(r:List Wd): rdP r=if hd r=[77] then match pt2 r.tail with
 | none=>none
 | some (p,r)=>(body r).map (p::·)
 else none:=by
 cases r with
 | nil=>rfl
 | cons m r=>rfl
end Go.Num
namespace Go.Proofs.YtcmjannkbdflmaaGreatDoor.P56
open Go Go.Vm Go.Num Go.Tow Go.Proofs.YtcmjannkbdflmaaGreatDoor Go.Proofs.YtcmjannkbdflmaaGreatDoor.R11
theorem Xmh{l:List Num.Wd}{w:Num.Wd}(B:l.length<=1000000): C0 245 [.d (dXs l),.d (.str w)] (λv=>∃r:Int,v=.d (.int .i64 r)/\(0<=r↔w∈l)):=by
 have lm:(l.map D.str).length=l.length:=W0i ..
 refine En Tryz.func245 λ_ _ _=>?_
 refine Lo (λk:Nat=>[(0,.d (dXs l)),(1,.d (.str w)),(7,.d (.int .i64 (l.map D.str).length)),(8,.d (.int .i64 k))]) (λ_=>[]) (λk=>k<=l.length/\w ∉ l.take k) (λk=>l.length-k) 0 [] rfl ⟨W0s _,nofun⟩ λk ⟨I,j⟩=>?_
 refine By rfl (λh=>?_) λh=>?_<;>simp only[lm] at h
 . obtain⟨x,o⟩:∃x,l[k]?=some x:=⟨_,W0a (by omega)⟩
   refine Ix k rfl (u:=.str x) (by rw[W0w,o];rfl)<|By rfl (λA=>?_) λA=>?_
   . exact Rt rfl (.one (.rf rfl) rfl rfl) ⟨k,rfl,λ_=>by rw[A];exact W0e o,λ_=>by omega⟩
   . refine Ar (k+1:Nat) rfl ?_
     refine Bk (k+1) [] rfl ⟨by omega,λi=>?_⟩ (by show l.length-(k+1)<l.length-k;omega)
     rw[W1c,o] at i
     rcases W2c.1 i with i | i
     . exact j i
     . exact A (W0f.1 i)
 . rw[W0b (by omega)] at j
   exact Rt rfl (.one (.rf rfl) rfl rfl) ⟨-1,rfl,λh=>by omega,λh=>absurd h j⟩
theorem Xqc{l:List Num.Wd}{w:Num.Wd}(h:l.length<=1000000): C0 158 [.d (dXs l),.d (.str w)] (·=.b (dc (w∈l))):=by
 refine En Tryz.func158 λ_ _ _=>?_
 refine Ca rfl (Xmh h) λv i=>?_
 obtain⟨r,rfl,j⟩:=i
 exact R1 rfl (.bp (by rw[Xal];exact j))
abbrev rwq(h i:Bool)(l1 j:List D): D:=.st (.pr (.st (.pr (.bool h) (.sl 1 l1))) (.st (.pr (.bool i) (.sl 1 j))))
theorem Yo2(x:Rat): ∃h i l1 j,dq x=rwq h i l1 j:=⟨_,_,_,_,rfl⟩
abbrev rdV(l:List Num.Wd)(a o:Nat)(P:List D): AV:=.st (.pr (.d (dXs l)) (.pr (.d (.int .i64 (a:Nat))) (.gr o 8 P)))
abbrev rdH(l:List Num.Wd)(a:Nat)(P:List D): Hpl:=[(1000001,.var (rdV l a 1000002 P)),(1000002,.tok P.length 8)]
abbrev rdB(l:List Num.Wd)(a:Nat)(P:List D): Hpl:=[(1000001,.var (rdV l a 1000000 P)),(1000002,.dead),(1000000,.tok P.length 8)]
structure Lw (l:List Num.Wd):Prop where
 n:l.length<=1000000
 w:∀w∈l,w.length<=1000000
theorem Lw.tx{l:List Num.Wd}(h:Lw l)(a:Nat): Tx (wat l a):=by
 rcases Nat.lt_or_ge a l.length with i | i
 . obtain⟨w,j⟩:∃w,l[a]?=some w:=⟨_,W0a i⟩
   rw[Xqi j]
   have:=h.w w (W0e j)
   show w.length<_
   omega
 . rw[Xqh i];exact(show ([]:List UInt8).length<4611686018427387904 by decide)
variable{l:List Num.Wd}{a:Nat}{P:List D}
theorem Xlj(H:Lw l)(ha:a<=l.length): CW0 30 [.ptr 1000001 0] (rdH l a P) (λv H'=>v=.d (.str (wat l a))/\H'=rdH l (nx l a) P):=by
 have lm:(l.map D.str).length=l.length:=W0i ..
 have j:=H.n
 refine EnW Tryz.func30 λ_ _ _ _=>?_
 refine Dw rfl<|By rfl (λh=>?_) λh=>?_<;>simp only[lm] at h
 . rw[Xqh (by omega),Yoi (by omega)]
   exact Rw [] (rdH l a P) rfl (.one (.rf rfl) rfl rfl) ⟨rfl,rfl⟩
 . obtain⟨w,i⟩:∃w,l[a]?=some w:=⟨_,W0a (by omega)⟩
   rw[Xqi i,Xnc (by omega)]
   refine Ar (a+1:Nat) rfl ?_
   refine Dw rfl<|Ar (a:Nat) rfl ?_
   exact Ix a rfl (u:=.str w) (by rw[W0w,i];rfl)<|Rw [] (rdH l (a+1) P) rfl (.one (.rf rfl) rfl rfl) ⟨rfl,rfl⟩
theorem Xbe{b:Nat}(H:Lw l)(ha:a<=l.length)(hb:nx l a=b): CW0 82 [.ptr 1000001 0] (rdH l a P) (λv H'=>H'=rdH l b P/\∃h i l1 j,v=.tup (.pr (.d (rwq h i l1 j)) (.b (num (wat l a)).isSome))/\∀x,num (wat l a)=some x->rwq h i l1 j=dq x):=by
 subst hb
 refine EnW Tryz.func82 λ_ _ _ _=>?_
 refine Cw [(1000001,1000001),(1000002,1000002)] rfl (Xlj H ha) λv H' _ I=>?_
 obtain⟨rfl,rfl⟩:=I
 have o:=H.tx a
 cases hp:prs (wat l a) with
 | none =>
  refine Ce rfl (P11.Parse_no o hp) ?_
  rw[Yj8 hp]
  exact Rw [] (rdH l (nx l a) P) rfl (.tup (.cons (.rf rfl) (.one (.rf rfl) (λ_ _ e=>by cases e) (λ_ _ e=>by cases e)))) ⟨rfl,false,false,[],[],by show AV.tup (.pr (.d dq0) (.b (dc _)))=_;rw[P11.dcF (by decide)];rfl,nofun⟩
 | some q =>
  obtain⟨A,u,t⟩:=q
  obtain⟨h,i,l1,j,B⟩:=Yo2 (fr A u t)
  refine Ce rfl (P11.Parse_yes o hp) ?_
  rw[Xv6 hp]
  exact Rw [] (rdH l (nx l a) P) rfl (.tup (.cons (.rf rfl) (.one (.rf rfl) (λ_ _ e=>by cases e) (λ_ _ e=>by cases e)))) ⟨rfl,h,i,l1,j,by show AV.tup (.pr (.d (dq (fr A u t))) (.b (dc _)))=_;rw[P11.dcT rfl,B];rfl,λx e=>by cases e;exact B.symm⟩
theorem Xcs{L:List Num.Wd}{b:Nat}(H:Lw l)(ha:a<=l.length)(hb:nx l a=b)(h:L.length<=1000000): CW0 83 [.ptr 1000001 0,.d (dXs L)] (rdH l a P) (λv H'=>v=.b (dc (wat l a∈L))/\H'=rdH l b P):=by
 subst hb
 refine EnW Tryz.func83 λ_ _ _ _=>?_
 refine Cw [(1000001,1000001),(1000002,1000002)] rfl (Xlj H ha) λv H' _ i=>?_
 obtain⟨rfl,rfl⟩:=i
 exact Ce rfl (Xqc h)<|Rw [] (rdH l (nx l a) P) rfl (.one (.rf rfl) rfl rfl) ⟨rfl,rfl⟩
abbrev dPt(p:Num.Pt): D:=.st (.pr (dq p.1) (dq p.2))
theorem Xdx(H:Lw l)(ha:a<=l.length)(hP:P.length<=1000000): CW0 31 [.ptr 1000001 0] (rdH l a P) (λv H'=>∃x,H'=rdB l (nx l (nx l a)) (P++[x])/\v=.b (pt2 (l.drop a)).isSome/\∀p r,pt2 (l.drop a)=some (p,r)->x=dPt p/\r=l.drop (nx l (nx l a))):=by
 have T:=Xcp ha
 have h2:=Xcp T
 refine EnW Tryz.func31 λ_ _ _ _=>?_
 refine Cw [(1000001,1000001),(1000002,1000002)] rfl (Xbe H ha rfl) λv H' _ M=>?_
 obtain⟨rfl,h,i,l1,j,rfl,O⟩:=M
 refine Cw [(1000001,1000001),(1000002,1000002)] rfl (Xbe H T rfl) λv H' _ M=>?_
 obtain⟨rfl,o,A,B,I,rfl,Q⟩:=M
 refine Dw rfl<|ApG (P++[.st (.pr (rwq h i l1 j) (rwq o A B I))]) rfl rfl (by simp;omega) ?_
 have e:=Xvx (l.drop a)
 rw[<-Xi0,<-Xi0] at e
 have e:pt2 (l.drop a)=match num (wat l a),num (wat l (nx l a)) with | some U,some V=>some ((U,V),l.drop (nx l (nx l a))) | _,_=>none:=e
 rw[e]
 revert O Q
 generalize num (wat l a)=Y
 generalize num (wat l (nx l a))=Z
 intro O Q
 cases Y with
 | none =>
  exact No rfl nofun<|Rw [(26,1000000)] (rdB l (nx l (nx l a)) (P++[.st (.pr (rwq h i l1 j) (rwq o A B I))])) rfl (.one (.rf rfl) rfl rfl) ⟨_,rfl,rfl,nofun⟩
 | some u =>
  refine Yes rfl rfl ?_
  cases Z with
  | none=>exact Rw [(26,1000000)] (rdB l (nx l (nx l a)) (P++[.st (.pr (rwq h i l1 j) (rwq o A B I))])) rfl (.one (.rf rfl) rfl rfl) ⟨_,rfl,rfl,nofun⟩
  | some t=>exact Rw [(26,1000000)] (rdB l (nx l (nx l a)) (P++[.st (.pr (rwq h i l1 j) (rwq o A B I))])) rfl (.one (.rf rfl) rfl rfl) ⟨_,rfl,rfl,λp r e=>by cases e;exact⟨by rw[O u rfl,Q t rfl],rfl⟩⟩
theorem Yht(l:List Num.Wd)(b:Nat): Xp4 (l.drop b)=if (num (wat l b)).isSome=true/\(num (wat l (nx l b))).isSome=true/\wat l (nx l (nx l b))=[48]/\Xmk (wat l (nx l (nx l (nx l b))))/\Xmk (wat l (nx l (nx l (nx l (nx l b))))) then pt2 (l.drop (nx l (nx l (nx l (nx l (nx l b)))))) else none:=by
 rw[Xme]
 unfold wat
 simp only[Xi0]
inductive CmdR (l:List Num.Wd) (a:Nat) (P:List D):AV->Hpl->Prop
 | fa {b:Nat} (h:cmd (l.drop a)=none):CmdR l a P (.b false) (rdH l b P)
 | fb {b:Nat} {x:D} (h:cmd (l.drop a)=none):CmdR l a P (.b false) (rdB l b (P++[x]))
 | ya (h:cmd (l.drop a)=some ([],[])):CmdR l a P (.b true) (rdH l l.length P)
 | yb {b:Nat} {p:Num.Pt} (h:cmd (l.drop a)=some ([p],l.drop b)) (hb:a<b) (hl:b<=l.length):CmdR l a P (.b true) (rdB l b (P++[dPt p]))
theorem fl2{w:Num.Wd}: w∈([[48],[49]]:List Num.Wd)↔Xmk w:=by unfold Xmk;simp
set_option maxHeartbeats 1000000 in
theorem Xtw(H:Lw l)(ha:a<l.length)(hP:P.length<=1000000): CW0 32 [.ptr 1000001 0] (rdH l a P) (CmdR l a P):=by
 have M:=Xcp (W2e ha)
 have i:=Xn8 ha
 have hb:=Xnc ha
 have hn:=H.n
 have lm:(l.map D.str).length=l.length:=W0i ..
 refine EnW Tryz.func32 λ_ _ _ _=>?_
 refine Cw [(1000001,1000001),(1000002,1000002)] rfl (Xlj H (W2e ha)) λv H' _ j=>?_
 obtain⟨rfl,rfl⟩:=j
 show Pl.nx' _ _ (.d (.str (wat l a))) (rdH l (nx l a) P)
 refine By rfl (λU=>?_) λU=>?_
 . rw[if_pos U] at i
   refine Cw [(1000001,1000001),(1000002,1000002)] rfl (Xdx H M hP) λv H' _ j=>?_
   obtain⟨x,rfl,rfl,k⟩:=j
   cases e:pt2 (l.drop (nx l a)) with
   | none=>exact Rw [(12,1000000)] (rdB l (nx l (nx l (nx l a))) (P++[x])) rfl (.one (.rf rfl) rfl rfl) (.fb (by rw[i,e];rfl))
   | some q =>
    obtain⟨p,r⟩:=q
    obtain⟨rfl,rfl⟩:=k p r e
    exact Rw [(12,1000000)] (rdB l (nx l (nx l (nx l a))) (P++[dPt p])) rfl (.one (.rf rfl) rfl rfl) (.yb (by rw[i,e];rfl) (by have:=Xjj l (nx l a);have:=Xjj l (nx l (nx l a));omega) (Xcp (Xcp M)))
 rw[if_neg U] at i
 refine By rfl (λA=>?_) λA=>?_
 . rw[if_pos A,Yht] at i
   obtain⟨a1,e1⟩:∃b,nx l a=b:=⟨_,rfl⟩
   obtain⟨T,V⟩:∃b,nx l a1=b:=⟨_,rfl⟩
   obtain⟨I,Y⟩:∃b,nx l T=b:=⟨_,rfl⟩
   obtain⟨O,Z⟩:∃b,nx l I=b:=⟨_,rfl⟩
   obtain⟨Q,e5⟩:∃b,nx l O=b:=⟨_,rfl⟩
   obtain⟨o,e6⟩:∃b,nx l Q=b:=⟨_,rfl⟩
   rw[e1,V,Y,Z,e5,e6] at i
   rw[e1] at M |-
   have h2:=Xcp M
   rw[V] at h2
   have h3:=Xcp h2
   rw[Y] at h3
   have h4:=Xcp h3
   rw[Z] at h4
   have h5:=Xcp h4
   rw[e5] at h5
   have h6:=Xcp h5
   rw[e6] at h6
   have h0:a<o:=by
    have i1:=Xjj l a1
    have i2:=Xjj l T
    have i3:=Xjj l I
    have i4:=Xjj l O
    have i5:=Xjj l Q
    omega
   have no:∀ {p:Prop} [Decidable p],¬p->cmd (l.drop a)=((if p then pt2 (l.drop o) else none).map λq=>([q.1],q.2))->cmd (l.drop a)=none:=λhp e=>by rw[e,if_neg hp];rfl
   refine Cw [(1000001,1000001),(1000002,1000002)] rfl (Xbe H M V) λv H' _ j=>?_
   obtain⟨rfl,b1,b2,l1,l2,rfl,k1⟩:=j
   show Pl.nx' _ _ (.tup (.pr (.d (rwq b1 b2 l1 l2)) (.b (num (wat l a1)).isSome))) (rdH l T P)
   refine Cw [(1000001,1000001),(1000002,1000002)] rfl (Xbe H h2 Y) λv H' _ j=>?_
   obtain⟨rfl,c1,c2,m1,m2,rfl,k2⟩:=j
   show Pl.nx' _ _ (.tup (.pr (.d (rwq c1 c2 m1 m2)) (.b (num (wat l T)).isSome))) (rdH l I P)
   refine By rfl (λg1=>?_) λg1=>?_
   . refine By rfl (λg2=>?_) λg2=>?_
     . refine Cw (args:=[.ptr 1000001 0,.d (dXs [[48]])]) [(1000001,1000001),(1000002,1000002)] rfl (Xcs H h3 Z (by decide)) λv H' _ j=>?_
       obtain⟨rfl,rfl⟩:=j
       show Pl.nx' _ _ (.b (dc (wat l I∈([[48]]:List Num.Wd)))) (rdH l O P)
       refine By rfl (λg3=>?_) λg3=>?_
       . refine Cw (args:=[.ptr 1000001 0,.d (dXs [[48],[49]])]) [(1000001,1000001),(1000002,1000002)] rfl (Xcs H h4 e5 (by decide)) λv H' _ j=>?_
         obtain⟨rfl,rfl⟩:=j
         show Pl.nx' _ _ (.b (dc (wat l O∈([[48],[49]]:List Num.Wd)))) (rdH l Q P)
         refine By rfl (λg4=>?_) λg4=>?_
         . refine Cw (args:=[.ptr 1000001 0,.d (dXs [[48],[49]])]) [(1000001,1000001),(1000002,1000002)] rfl (Xcs H h5 e6 (by decide)) λv H' _ j=>?_
           obtain⟨rfl,rfl⟩:=j
           show Pl.nx' _ _ (.b (dc (wat l Q∈([[48],[49]]:List Num.Wd)))) (rdH l o P)
           refine By rfl (λg5=>?_) λg5=>?_
           . rw[if_pos ⟨g1,g2,W0f.1 g3,fl2.1 g4,fl2.1 g5⟩] at i
             refine Cw [(1000001,1000001),(1000002,1000002)] rfl (Xdx H h6 hP) λv H' _ j=>?_
             obtain⟨x,rfl,rfl,k⟩:=j
             cases e:pt2 (l.drop o) with
             | none=>exact Rw [(46,1000000)] (rdB l (nx l (nx l o)) (P++[x])) rfl (.one (.rf rfl) rfl rfl) (.fb (by rw[i,e];rfl))
             | some q =>
              obtain⟨p,r⟩:=q
              obtain⟨rfl,rfl⟩:=k p r e
              exact Rw [(46,1000000)] (rdB l (nx l (nx l o)) (P++[dPt p])) rfl (.one (.rf rfl) rfl rfl) (.yb (by rw[i,e];rfl) (by have:=Xjj l o;have:=Xjj l (nx l o);omega) (Xcp (Xcp h6)))
           . exact Rw [] (rdH l o P) rfl (.one (.rf rfl) rfl rfl) (.fa (no (λh=>g5 (fl2.2 h.2.2.2.2)) i))
         . exact Rw [] (rdH l Q P) rfl (.one (.rf rfl) rfl rfl) (.fa (no (λh=>g4 (fl2.2 h.2.2.2.1)) i))
       . exact Rw [] (rdH l O P) rfl (.one (.rf rfl) rfl rfl) (.fa (no (λh=>g3 (W0f.2 h.2.2.1)) i))
     . exact Rw [] (rdH l I P) rfl (.one (.rf rfl) rfl rfl) (.fa (no (λh=>g2 h.2.1) i))
   . exact Rw [] (rdH l I P) rfl (.one (.rf rfl) rfl rfl) (.fa (no (λh=>g1 h.1) i))
 rw[if_neg A] at i
 refine By rfl (λB=>?_) λB=>?_
 . rw[if_pos B] at i
   refine Dw rfl ?_
   by_cases hz:nx l a=l.length
   . rw[if_pos (by rw[hz];exact W7s)] at i
     refine Rw [] (rdH l (nx l a) P) rfl (.one (.rf rfl) rfl rfl) ?_
     rw[show dc (((nx l a:Nat):Int)=((l.map D.str).length:Nat))=true from P11.dcT (by rw[lm,hz]),hz]
     exact .ya i
   . rw[if_neg (by rw[W5j];omega)] at i
     refine Rw [] (rdH l (nx l a) P) rfl (.one (.rf rfl) rfl rfl) ?_
     rw[show dc (((nx l a:Nat):Int)=((l.map D.str).length:Nat))=false from P11.dcF (by rw[lm];omega)]
     exact .fa i
 . rw[if_neg B] at i
   exact Rw [] (rdH l (nx l a) P) rfl (.one (.rf rfl) rfl rfl) (.fa i)
def pdR: Option (List Num.Pt)->AV
 | none=>.tup (.pr (.d (.sl 8 [])) (.d (.int .i64 2)))
 | some ps=>.tup (.pr (.d (.sl 8 (ps.map dPt))) (.d (.int .i64 0)))
theorem Points_ok{s:List UInt8}(hs:s.length<=100000): C0 8 [.d (.str s)] (·=pdR (rdP (spl s))):=by
 have H:Lw (spl s):=⟨by
  have:=Xbr s
  have:=W4w (a:=(32:UInt8)) (l:=s)
  omega,λw i=>by have:=Xh1 s w i;omega⟩
 have o:=Xhl (s:=s) (by omega)
 have B:(spl s).length<=100001:=by
  have:=Xbr s
  have:=W4w (a:=(32:UInt8)) (l:=s)
  omega
 generalize spl s=l at o H B
 have lm:(l.map D.str).length=l.length:=W0i ..
 have e:=Xrn l
 have I:l.tail=l.drop (nx l 0):=by rw[Xi0];rfl
 have M:hd l=wat l 0:=rfl
 rw[I,M] at e
 have A:=Xcp (W0s l.length)
 refine En Tryz.func8 λ_ _ _=>?_
 refine Ce rfl o<|NvT 2 8 900 8 rfl ?_
 refine Cw [(1000001,8),(1000002,900)] rfl (Xlj (a:=0) (P:=[]) H (W0s _)) λv H' _ j=>?_
 obtain⟨rfl,rfl⟩:=j
 refine By rfl (λi=>?_) λi=>?_
 . rw[if_neg i] at e
   rw[e]
   exact RTt rfl (.cons (.nil rfl) Xav)
 rw[if_pos (W3g.1 i)] at e
 refine Cw [(1000001,8),(1000002,900)] rfl (Xdx (P:=[]) H A (by decide)) λv H' _ j=>?_
 obtain⟨x,rfl,rfl,k⟩:=j
 cases hp:pt2 (l.drop (nx l 0)) with
 | none =>
  rw[hp] at e
  rw[e]
  exact Yes rfl (by decide)<|RTt rfl (.cons (.nil rfl) Xav)
 | some q =>
 obtain⟨p,r⟩:=q
 obtain⟨rfl,rfl⟩:=k p r hp
 rw[hp] at e
 have e:rdP l=(body (l.drop (nx l (nx l (nx l 0))))).map (p::·):=e
 rw[e]
 have O:([p]:List Num.Pt).length<=nx l (nx l (nx l 0)):=by
  have Q:=Yoh hp
  rw[Xnc (l:=l) (a:=0) (by omega),Xnc (l:=l) (a:=0+1) (by rw[Xnc (l:=l) (a:=0) (by omega)] at Q;omega)]
  show 1<=_
  have:=Xjj l (0+1+1)
  omega
 refine No rfl nofun<|Lo (λ((a,ps):Nat×List Num.Pt)=>[(4,.ptr 8 0)]) (λ(a,ps)=>[(8,.var (rdV l a 14 (ps.map dPt))),(14,.tok (ps.map dPt).length 8)]) (λ(a,ps)=>a<=l.length/\ps.length<=a/\(body (l.drop (nx l (nx l (nx l 0))))).map (p::·)=(body (l.drop a)).map (ps++·)) (λ(a,_)=>l.length-a) (nx l (nx l (nx l 0)),[p]) [] rfl ⟨Xcp (Xcp A),O,rfl⟩ ?_
 rintro⟨a,ps⟩ ⟨ha,T,U⟩
 rw[U]
 refine Dw rfl<|By rfl (λh=>?_) λh=>?_<;>simp only[lm] at h
 . have hd:l.drop a≠[]:=by rw[ne_eq,W5j];omega
   refine Cw [(1000001,8),(1000002,14)] rfl (Xtw (a:=a) (P:=ps.map dPt) H (by omega) (by rw[W0i];omega)) λv H' _ j=>?_
   cases j with
   | fa h =>
    rw[Xp1 hd h]
    exact Yes rfl (by decide)<|RTt rfl (.cons (.nil rfl) Xav)
   | fb h =>
    rw[Xp1 hd h]
    exact Yes rfl (by decide)<|RTt rfl (.cons (.nil rfl) Xav)
   | ya h =>
    refine No rfl nofun<|Bk (l.length,ps) [] rfl ⟨W0c _,by omega,?_⟩ (by show l.length-l.length<l.length-a;omega)
    rw[Xez h,W7s,W8l];rfl
   | @yb b q h hb V =>
    refine No rfl nofun ?_
    have Y:ps.map dPt++[dPt q]=(ps++[q]).map dPt:=by simp
    rw[Y]
    refine Bk (b,ps++[q]) [(14,901),(28,14)] rfl ⟨V,by simp;omega,?_⟩ (by show l.length-b<l.length-a;omega)
    rw[Xez h,W8l]
    exact congrArg (λf=>Option.map f (body (l.drop b))) (funext λt=>by simp)
 . have Z:l.drop a=[]:=W1o (by omega)
   rw[Z,Xs6]
   exact RTt rfl (.cons (.gr (by simp)) Xav)
end Go.Proofs.YtcmjannkbdflmaaGreatDoor.P56
namespace Go.Num
def nms: List Wd->Nat->Bool
 | _,0=>true
 | r,n+1=>(num (hd r)).isSome&&nms r.tail n
theorem Xo7{r:List Wd}{q:Pt×List Wd}(h:pt2 r=some q): nms r 2=true:=by
 rw[Xvx] at h
 split at h
 . rename_i i j
   simp[nms,i,j]
 . cases h
theorem Xlh{r:List Wd}(h:nms r 2=true): ∃x y,num (hd r)=some x/\num (hd r.tail)=some y/\pt2 r=some ((x,y),r.tail.tail):=by
 simp only[nms,Bool.and_true,W0h,W2g] at h
 obtain⟨⟨x,i⟩,y,j⟩:=h
 exact⟨x,y,i,j,by rw[Xvx,i,j]⟩
theorem Ydq{r:List Wd}(h:nms r 2=false): pt2 r=none:=by
 cases e:pt2 r with
 | none=>rfl
 | some q=>rw[Xo7 e] at h;cases h
theorem Yd2{w:Wd}(h:Xmk w): (num w).isSome=true:=by
 rcases h with rfl | rfl<;>rfl
theorem Yhs{r:List Wd}{q:Pt×List Wd}(h:Xp4 r=some q): nms r 7=true:=by
 rw[Xme] at h
 split at h
 . rename_i j
   obtain⟨o,A,B,I,M⟩:=j
   have O:=Xo7 h
   have i:(num (hd r.tail.tail)).isSome=true:=by rw[B];rfl
   rw[show nms r 7=((num (hd r)).isSome&&((num (hd r.tail)).isSome&&((num (hd r.tail.tail)).isSome&&((num (hd r.tail.tail.tail)).isSome&&((num (hd r.tail.tail.tail.tail)).isSome&&nms r.tail.tail.tail.tail.tail 2))))) from rfl,o,A,i,Yd2 I,Yd2 M,O]
   rfl
 . cases h
theorem Xli{l:List Wd}: ∀ {n b:Nat},0<n->nms (l.drop b) n=true->b+n<=l.length
 | n+1,b,_,h=>by
  rw[nms,W0h,W4x] at h
  have hb:b<l.length:=Ycl (a:=b) λe=>by
   have i:=h.1
   rw[show hd (l.drop b)=[] from e] at i
   cases i
  cases n with
  | zero=>omega
  | succ n=>have:=Xli (l:=l) (n:=n+1) (b:=b+1) (by omega) h.2;omega
theorem Xfv{r:List Wd}{n:Nat}(h:nms r (n+1)=true): (num (hd r)).isSome=true/\nms r.tail n=true:=by
 rwa[nms,W0h] at h
theorem Xgo{l:List Wd}{a:Nat}(h:a<l.length): l[a]?=some (wat l a):=by
 obtain⟨w,i⟩:∃w,l[a]?=some w:=⟨_,W0a h⟩
 rw[Xqi i,i]
theorem Yly{l:List Wd}{a:Nat}(h:a<l.length)(i:wat l a=[76]): cmd (l.drop a)=(pt2 (l.drop (a+1))).map λq=>([q.1],q.2):=by
 rw[Xn8 h,if_pos i,Xnc h]
theorem Xye{l:List Wd}{a:Nat}(h:a<l.length)(i:wat l a=[65]): cmd (l.drop a)=(Xp4 (l.drop (a+1))).map λq=>([q.1],q.2):=by
 rw[Xn8 h,if_neg (by rw[i];decide),if_pos i,Xnc h]
theorem Ylx{l:List Wd}{a:Nat}(h:a<l.length)(i:wat l a=[90]): cmd (l.drop a)=if a+1=l.length then some ([],[]) else none:=by
 rw[Xn8 h,if_neg (by rw[i];decide),if_neg (by rw[i];decide),if_pos i,Xnc h]
 by_cases e:a+1=l.length
 . rw[if_pos e,if_pos (by rw[e,W7s])]
 . rw[if_neg e,if_neg (by rw[W5j];omega)]
theorem Ylw{l:List Wd}{a:Nat}(h:a<l.length)(i:wat l a≠[76])(j:wat l a≠[65])(o:wat l a≠[90]): cmd (l.drop a)=none:=by
 rw[Xn8 h,if_neg i,if_neg j,if_neg o]
theorem Ymm{l:List Wd}{b:Nat}(h:nms (l.drop b) 7=true): ∃x y,num (wat l (b+5))=some x/\num (wat l (b+5+1))=some y/\Xp4 (l.drop b)=if wat l (b+2)=[48]/\Xmk (wat l (b+3))/\Xmk (wat l (b+4)) then some ((x,y),l.drop (b+7)) else none:=by
 obtain⟨j,h⟩:=Xfv h
 obtain⟨o,h⟩:=Xfv h
 obtain⟨_,h⟩:=Xfv h
 obtain⟨_,h⟩:=Xfv h
 obtain⟨_,h⟩:=Xfv h
 obtain⟨x,y,A,B,I⟩:=Xlh h
 simp only[W4x] at j o A B I
 refine⟨x,y,A,B,?_⟩
 rw[Xme]
 simp only[W4x]
 rw[I]
 by_cases i:wat l (b+2)=[48]/\Xmk (wat l (b+3))/\Xmk (wat l (b+4))
 . rw[if_pos i,if_pos ⟨j,o,i⟩]
 . rw[if_neg i,if_neg λk=>i k.2.2]
theorem Yml{l:List Wd}{b:Nat}(h:nms (l.drop b) 7=false): Xp4 (l.drop b)=none:=by
 cases e:Xp4 (l.drop b) with
 | none=>rfl
 | some q=>rw[Yhs e] at h;cases h
end Go.Num
namespace Go.Proofs.YtcmjannkbdflmaaGreatDoor.R56
open Go Go.Vm Go.Num Go.Tow Go.Proofs.YtcmjannkbdflmaaGreatDoor Go.Proofs.YtcmjannkbdflmaaGreatDoor.P56
theorem Xhl{s:List UInt8}(hs:s.length<=1000000): C0 33 [.d (.str s)] (·=.d (dXs (spl s))):=by
 refine En Tryz.func33 λ_ _ _=>?_
 refine Nl 3 3 1 rfl ?_
 refine Lo (λ((i,fr,ws,j,o):Nat×Nat×List (List UInt8)×List UInt8×List UInt8)=>[(0,.d (.str s)),(3,.gr 3 1 (ws.map .str)),(4,.d (.int .i64 fr)),(5,.d (.int .i64 i))]) (λ(_,_,ws,_,_)=>[(3,.tok (ws.map D.str).length 1)]) (λ(i,fr,ws,j,o)=>ws.length<=i/\((i<=s.length/\fr+j.length=i/\s.drop fr=j++o/\32 ∉ j/\spl s=ws++spl (j++o))\/(i=s.length+1/\spl s=ws))) (λ(i,_)=>s.length+1-i) (0,0,[],[],s) [] rfl ⟨W0c _,.inl ⟨W0s _,rfl,rfl,nofun,rfl⟩⟩ ?_
 rintro⟨i,fr,ws,j,o⟩ ⟨Y,T⟩
 refine By rfl (λh=>?_) λh=>?_
 . rcases T with ⟨hi,hf,hd,O,A⟩ | ⟨hi,_⟩
   . have I:(s.drop fr).length=s.length-fr:=W1n ..
     rw[hd,W0d] at I
     have B:(s.drop fr).take (i-fr)=j:=by rw[hd,show i-fr=j.length by omega];simp
     have U:ws.map D.str++[D.str j]=(ws++[j]).map .str:=by simp
     refine By rfl (λZ=>?_) λZ=>?_
     . have hr:o=[]:=W2k.1 (by omega)
       subst hr
       rw[W3f,Xmv O] at A
       refine Smd fr i j rfl (by omega) B ?_
       refine ApG ((ws++[j]).map .str) rfl U (by simp;omega) ?_
       refine Ar (i+1:Nat) rfl ?_
       refine Ar (i+1:Nat) rfl ?_
       exact Bk (i+1,i+1,ws++[j],[],[]) [(3,90),(28,3)] rfl ⟨by simp;omega,.inr ⟨by omega,A⟩⟩ (by show s.length+1-(i+1)<s.length+1-i;omega)
     . obtain⟨c,t,rfl⟩:∃c t,o=c::t:=by
        cases o with
        | nil=>simp at I;omega
        | cons c t=>exact⟨c,t,rfl⟩
       simp only[W0j] at I
       have Q:s[i]?=some c:=by
        have:=congrArg (·[j.length]?) hd
        simp only[W2h,W0o (W0c _),W2v,List.getElem?_cons_zero] at this
        rwa[hf] at this
       refine Yx i c rfl Q ?_
       refine By rfl (λV=>?_) λV=>?_
       . obtain rfl:c=32:=W8c.1 (by show c.toNat=32;omega)
         rw[Xjt O] at A
         refine Smd fr i j rfl (by omega) B ?_
         refine ApG ((ws++[j]).map .str) rfl U (by simp;omega) ?_
         refine Ar (i+1:Nat) rfl ?_
         refine Ar (i+1:Nat) rfl ?_
         refine Bk (i+1,i+1,ws++[j],[],t) [(3,90),(28,3)] rfl ⟨by simp;omega,.inl ⟨by omega,rfl,?_,nofun,by rw[A];simp⟩⟩ (by show s.length+1-(i+1)<s.length+1-i;omega)
         rw[show i+1=fr+(j.length+1) by omega,<-W4u,hd]
         simp
       . refine Ar (i+1:Nat) rfl ?_
         refine Bk (i+1,fr,ws,j++[c],t) [] rfl ⟨by omega,.inl ⟨by omega,by simp;omega,by rw[hd];simp,?_,by rw[A];simp⟩⟩ (by show s.length+1-(i+1)<s.length+1-i;omega)
         intro M
         rcases W2c.1 M with M | M
         . exact O M
         . obtain rfl:=W0f.1 M;exact V rfl
   . omega
 . rcases T with ⟨hi,_⟩ | ⟨_,A⟩
   . omega
   . exact R1 rfl (.gr (by rw[A]))
variable{l:List Num.Wd}{a:Nat}
theorem Yof{w:List UInt8}: (plc w<0)↔(num w).isSome=false:=by
 unfold plc num
 cases prs w with
 | none=>exact⟨λ_=>rfl,λ_=>by decide⟩
 | some q=>exact⟨λh=>by obtain⟨_,_,_⟩:=q;simp at h;omega,nofun⟩
theorem Xcb{n:Nat}(H:Lw l)(ha:a<=1000000)(I:n<=100): C0 34 [.d (dXs l),.d (.int .i64 a),.d (.int .i64 n)] (·=.b (nms (l.drop a) n)):=by
 have lm:(l.map D.str).length=l.length:=W0i ..
 refine En Tryz.func34 λ_ _ _=>?_
 refine Lo (λk:Nat=>[(0,.d (dXs l)),(1,.d (.int .i64 a)),(2,.d (.int .i64 n)),(7,.d (.int .i64 (a+k:Nat)))]) (λ_=>[]) (λk=>k<=n/\nms (l.drop a) n=nms (l.drop (a+k)) (n-k)) (λk=>n-k) 0 [] rfl ⟨W0s _,rfl⟩ λk ⟨M,o⟩=>?_
 rw[o]
 refine Ar (a+n:Nat) rfl ?_
 refine By rfl (λh=>?_) λh=>?_
 . obtain⟨m,A⟩:∃m,n-k=m+1:=⟨n-k-1,by omega⟩
   have e:nms (l.drop (a+k)) (n-k)=((num (wat l (a+k))).isSome&&nms (l.drop (a+(k+1))) (n-(k+1))):=by
    rw[A,nms,W4x,show n-(k+1)=m by omega];rfl
   rw[e]
   refine By rfl (λj=>?_) λj=>?_<;>simp only[lm] at j
   . rw[Xqh (by omega)]
     exact R0
   . refine Ix (a+k) rfl (u:=.str (wat l (a+k))) (by rw[W0w,Xgo (by omega)];rfl)<|Ce rfl (R11.Places_ok (H.tx _))<|By rfl (λi=>?_) λi=>?_
     . rw[Yof.1 i]
       exact R0
     . have B:(num (wat l (a+k))).isSome=true:=by
        cases e:(num (wat l (a+k))).isSome with
        | true=>rfl
        | false=>exact absurd (Yof.2 e) i
       rw[B,W6h]
       refine Ar (a+(k+1):Nat) rfl ?_
       exact Bk (k+1) [] rfl ⟨by omega,rfl⟩ (by show n-(k+1)<n-k;omega)
 . rw[show n-k=0 by omega]
   exact R0
theorem Ydd{w:List UInt8}{x:Rat}(i:Tx w)(h:num w=some x): C0 85 [.d (.str w)] (·=.tup (.pr (.d (dq x)) (.d (.int .i64 0)))):=by
 unfold num at h
 cases hp:prs w with
 | none=>rw[hp] at h;cases h
 | some q =>
  obtain⟨j,u,t⟩:=q
  rw[hp] at h
  cases h
  exact R11.Parse_yes i hp
theorem Yfz{x:Rat}(h:num (wat l a)=some x): a<l.length:=Ycl λe=>by rw[e] at h;cases h
theorem Xdx{x y:Rat}(H:Lw l)(i:num (wat l a)=some x)(h:num (wat l (a+1))=some y): C0 35 [.d (dXs l),.d (.int .i64 a)] (·=.d (dPt (x,y))):=by
 have j:=H.n
 have ha:=Yfz h
 refine En Tryz.func35 λ_ _ _=>?_
 refine Ix a rfl (u:=.str (wat l a)) (by rw[W0w,Xgo (by omega)];rfl)<|Ce rfl (Ydd (H.tx _) i)<|Ar (a+1:Nat) rfl ?_
 exact Ix (a+1) rfl (u:=.str (wat l (a+1))) (by rw[W0w,Xgo ha];rfl)<|Ce rfl (Ydd (H.tx _) h)<|R0
theorem Xnm{w:List UInt8}: C0 36 [.d (.str w)] (·=.b (dc (Xmk w))):=by
 refine En Tryz.func36 λ_ _ _=>?_
 refine By rfl (λh=>?_) λh=>?_
 . exact R1 rfl (.bp ⟨λ_=>.inl h,λ_=>rfl⟩)
 . exact R1 rfl (.bp (Xal.trans ⟨.inr,λk=>k.elim (λe=>absurd e h) id⟩))
def ouD(p:Num.Pt): Option (List Num.Pt)->AV
 | none=>.lit 8 [dPt p]
 | some ps=>.own 600 8 0 (ps.map dPt).length
def ouH: Option (List Num.Pt)->Hpl
 | none=>[]
 | some ps=>[(600,.arr 8 (ps.map dPt))]
def ouP(p:Num.Pt): Option (List Num.Pt)->List Num.Pt
 | none=>[p]
 | some ps=>ps
set_option maxHeartbeats 1000000 in
theorem Points_ok{s:List UInt8}(hs:s.length<=100000): C0 9 [.d (.str s)] (·=pdR (rdP (spl s))):=by
 have H:Lw (spl s):=⟨by
  have:=Xbr s
  have:=W4w (a:=(32:UInt8)) (l:=s)
  omega,λw Y=>by have:=Xh1 s w Y;omega⟩
 have hS:=Xhl (s:=s) (by omega)
 have hn:(spl s).length<=100001:=by
  have:=Xbr s
  have:=W4w (a:=(32:UInt8)) (l:=s)
  omega
 have h0:=W4o.2 (Xq2 s)
 generalize spl s=l at hS H hn h0
 have lm:(l.map D.str).length=l.length:=W0i ..
 have e:=Xrn l
 have e0:l.tail=l.drop 1:=by simp
 have e1:hd l=wat l 0:=rfl
 rw[e0,e1] at e
 refine En Tryz.func9 λ_ _ _=>?_
 refine Ce rfl hS<|Ix 0 rfl (u:=.str (wat l 0)) (by rw[W0w,Xgo h0];rfl)<|By rfl (λY=>?_) λY=>?_
 . rw[if_neg Y] at e
   rw[e]
   exact RTt rfl (.cons (.nil rfl) Xav)
 rw[if_pos (W3g.1 Y)] at e
 refine Ce rfl (Xcb (a:=1) (n:=2) H (by decide) (by decide)) ?_
 cases hp:nms (l.drop 1) 2 with
 | false =>
  rw[Ydq hp] at e
  rw[e]
  exact Yes rfl (by decide)<|RTt rfl (.cons (.nil rfl) Xav)
 | true =>
 have B:=Xli (by decide) hp
 obtain⟨x,y,k1,k2,k3⟩:=Xlh hp
 rw[W4x] at k2
 simp only[W4x] at k3
 rw[k3] at e
 have e:rdP l=(body (l.drop 3)).map ((x,y)::·):=e
 rw[e]
 refine No rfl nofun<|Ce rfl (Xdx (a:=1) H k1 k2) ?_
 generalize hpp:(x,y)=p
 refine Lo (λ((i,o):Nat×Option (List Num.Pt))=>[(4,.d (dXs l)),(5,ouD p o),(6,.d (.int .i64 i))]) (λ(_,o)=>ouH o) (λ(i,o)=>i<=l.length/\(ouP p o).length<=i/\(body (l.drop 3)).map (p::·)=(body (l.drop i)).map (ouP p o++·)) (λ(i,_)=>l.length-i) (3,none) [] rfl ⟨B,by show 1<=3;decide,rfl⟩ ?_
 rintro⟨i,o⟩ ⟨hi,hps,hI⟩
 rw[hI]
 have Z:∀ {j:Nat} {q:Num.Pt},i<l.length->i<j->j<=l.length->cmd (l.drop i)=some ([q],l.drop j)->j<=l.length/\(ouP p (some (ouP p o++[q]))).length<=j/\(body (l.drop i)).map (ouP p o++·)=(body (l.drop j)).map (ouP p (some (ouP p o++[q]))++·):=λ{j q} h O I hc=>by
  refine⟨I,by show (ouP p o++[q]).length<=j;simp;omega,?_⟩
  rw[Xez hc,W8l]
  exact congrArg (λf=>Option.map f (body (l.drop j))) (funext λt=>by simp[ouP])
 have A:i<l.length->cmd (l.drop i)=none->(body (l.drop i)).map (ouP p o++·)=none:=λh hc=>by
  rw[Xp1 (by rw[ne_eq,W5j];omega) hc];rfl
 have zed:i<l.length->i+1=l.length->cmd (l.drop i)=some ([],[])->i+1<=l.length/\(ouP p o).length<=i+1/\(body (l.drop i)).map (ouP p o++·)=(body (l.drop (i+1))).map (ouP p o++·):=λh O hc=>⟨by omega,by omega,by
  rw[Xez hc,W1o (i:=i+1) (by omega),W8l];rfl⟩
 have M:i<l.length->(l.map D.str)[i]?=some (.str (wat l i)):=λh=>by rw[W0w,Xgo h];rfl
 have len:∀q,((ouP p o++[q]).map dPt).length<=1099511627776:=λq=>by simp;omega
 rcases o with _ | ps <;>
 . refine By rfl (λh=>?_) λh=>?_<;>simp only[lm] at h
   . have h:i<l.length:=by omega
     refine Ix i rfl (M h)<|By rfl (λO=>?_) λO=>?_
     . refine Ar (i+1:Nat) rfl ?_
       refine Ce rfl (Xcb (a:=i+1) (n:=2) H (by omega) (by decide)) ?_
       cases Q:nms (l.drop (i+1)) 2 with
       | true =>
        obtain⟨u,v,m1,m2,T⟩:=Xlh Q
        rw[W4x] at m2
        simp only[W4x] at T
        have m4:=Xli (by decide) Q
        refine Yes rfl rfl<|Ar (i+1:Nat) rfl ?_
        refine Ce rfl (Xdx (a:=i+1) H m1 m2) ?_
        first
        | refine ApL ((ouP p _++[(u,v)]).map dPt) rfl rfl (W3u _) (len _) ?_
        | refine ApO ((ouP p _++[(u,v)]).map dPt) rfl rfl rfl (by simp[ouP]) (len _) ?_
        refine Ar (i+3:Nat) rfl ?_
        exact Bk (i+3,some (ouP p _++[(u,v)])) [(600,900),(42,600)] rfl (Z h (by omega) (by omega) (by rw[Yly h O,T];rfl)) (by show l.length-(i+3)<l.length-i;omega)
       | false =>
        refine No rfl nofun<|Ix i rfl (M h)<|No rfl (by rw[O];decide)<|Ix i rfl (M h)<|No rfl (by rw[O];decide) ?_
        rw[A h (by rw[Yly h O,Ydq Q];rfl)]
        exact RTt rfl (.cons (.nil rfl) Xav)
     . refine Ix i rfl (M h)<|By rfl (λI=>?_) λI=>?_
       . have U:¬wat l i=[90]:=by rw[I];decide
         refine Ar (i+1:Nat) rfl ?_
         refine Ce rfl (Xcb (a:=i+1) (n:=7) H (by omega) (by decide)) ?_
         cases Q:nms (l.drop (i+1)) 7 with
         | true =>
          obtain⟨u,v,m1,m2,T⟩:=Ymm Q
          have m4:=Xli (by decide) Q
          have V:∀j,j<l.length->(l.map D.str)[j]?=some (.str (wat l j)):=λj h=>by rw[W0w,Xgo h];rfl
          refine Yes rfl rfl<|Ar (i+3:Nat) rfl ?_
          refine Ix (i+3) rfl (V (i+3) (by omega))<|By rfl (λB=>?_) λB=>?_
          . refine Ar (i+4:Nat) rfl ?_
            refine Ix (i+4) rfl (V (i+4) (by omega))<|Ce rfl Xnm<|By rfl (λh4=>?_) λh4=>?_
            . refine Ar (i+5:Nat) rfl ?_
              refine Ix (i+5) rfl (V (i+5) (by omega))<|Ce rfl Xnm<|By rfl (λh5=>?_) λh5=>?_
              . refine Ar (i+6:Nat) rfl ?_
                refine Ce rfl (Xdx (a:=i+6) H m1 m2) ?_
                first
                | refine ApL ((ouP p _++[(u,v)]).map dPt) rfl rfl (W3u _) (len _) ?_
                | refine ApO ((ouP p _++[(u,v)]).map dPt) rfl rfl rfl (by simp[ouP]) (len _) ?_
                refine Ar (i+8:Nat) rfl ?_
                exact Bk (i+8,some (ouP p _++[(u,v)])) [(600,900),(86,600)] rfl (Z h (by omega) (by omega) (by rw[Xye h I,T,if_pos ⟨B,h4,h5⟩];rfl)) (by show l.length-(i+8)<l.length-i;omega)
              . refine Ix i rfl (M h)<|No rfl U ?_
                rw[A h (by rw[Xye h I,T,if_neg λk=>h5 k.2.2];rfl)]
                exact RTt rfl (.cons (.nil rfl) Xav)
            . refine Ix i rfl (M h)<|No rfl U ?_
              rw[A h (by rw[Xye h I,T,if_neg λk=>h4 k.2.1];rfl)]
              exact RTt rfl (.cons (.nil rfl) Xav)
          . refine Ix i rfl (M h)<|No rfl U ?_
            rw[A h (by rw[Xye h I,T,if_neg λk=>B k.1];rfl)]
            exact RTt rfl (.cons (.nil rfl) Xav)
         | false =>
          refine No rfl nofun<|Ix i rfl (M h)<|No rfl U ?_
          rw[A h (by rw[Xye h I,Yml Q];rfl)]
          exact RTt rfl (.cons (.nil rfl) Xav)
       . refine Ix i rfl (M h)<|By rfl (λB=>?_) λB=>?_
         . refine Ar (l.length-1:Nat) rfl ?_ (wr (by rw[lm];omega) (by simp only[inK];omega))
           refine By rfl (λh4=>?_) λh4=>?_
           . refine Ar (i+1:Nat) rfl ?_
             have U:=zed h (by omega) (show cmd (l.drop i)=some ([],[]) by rw[Ylx h B,if_pos (by omega)])
             first
             | exact Bk (i+1,none) [] rfl U (by show l.length-(i+1)<l.length-i;omega)
             | exact Bk (i+1,some ps) [] rfl U (by show l.length-(i+1)<l.length-i;omega)
           . rw[A h (by rw[Ylx h B,if_neg (by omega)])]
             exact RTt rfl (.cons (.nil rfl) Xav)
         . rw[A h (Ylw h O I B)]
           exact RTt rfl (.cons (.nil rfl) Xav)
   . have ea:l.drop i=[]:=W1o (by omega)
     rw[ea,Xs6]
     first
     | exact RTt rfl (.cons (.lit rfl) Xav)
     | exact RTt rfl (.cons (.own rfl (by rw[W1j];exact W0c _) (by rw[W0y,W1x];simp[ouP])) Xav)
end Go.Proofs.YtcmjannkbdflmaaGreatDoor.R56
namespace Go.Num
def Src(p:Pt): Prop:=∃w v,num w=some p.1/\num v=some p.2
theorem Xo6{r q:List Wd}{p:Pt}(h:pt2 r=some (p,q)): Src p:=by
 obtain⟨x,y,i,j,o⟩:=Xlh (Xo7 h)
 rw[o] at h
 cases h
 exact⟨_,_,i,j⟩
theorem Yhe{l q:List Wd}{ps:List Pt}(h:cmd l=some (ps,q)): ∀p∈ps,Src p:=by
 match l,h with
 | c::l,h =>
  simp only[cmd] at h
  split at h
  . cases e:pt2 l with
    | none=>rw[e] at h;cases h
    | some q=>rw[e] at h;cases h;intro p hp;obtain rfl:=W0f.1 hp;exact Xo6 (q:=q.2) e
  . split at h
    . cases e:Xp4 l with
      | none=>rw[e] at h;cases h
      | some q =>
       rw[e] at h;cases h
       intro p hp
       obtain rfl:=W0f.1 hp
       rw[Xme] at e
       split at e
       . exact Xo6 (q:=q.2) e
       . cases e
    . split at h
      . split at h<;>cases h
        exact nofun
      . cases h
theorem Xyq: ∀ {n:Nat} {l:List Wd} {ps:List Pt},bdy n l=some ps->∀p∈ps,Src p
 | n,[],ps,h=>by cases n<;>cases h<;>exact nofun
 | 0,_::_,_,h=>by cases h
 | n+1,c::r,ps,h=>by
  simp only[bdy] at h
  split at h
  . cases h
  . rename_i qs i j
    cases e:bdy n i with
    | none=>rw[e] at h;cases h
    | some o =>
     rw[e] at h
     cases h
     intro p hp
     rcases W2c.1 hp with hp | hp
     . exact Yhe j p hp
     . exact Xyq e p hp
theorem Yfk{l:List Wd}{ps:List Pt}(h:rdP l=some ps): ∀p∈ps,Src p:=by
 rw[Xrn] at h
 split at h
 . split at h
   . cases h
   . rename_i q r hp
     cases e:body r with
     | none=>rw[e] at h;cases h
     | some j =>
      rw[e] at h
      cases h
      intro p i
      rcases W1h.1 i with rfl | i
      . exact Xo6 hp
      . exact Xyq e p i
 . cases h
theorem Yhf{l q:List Wd}{ps:List Pt}(h:cmd l=some (ps,q)): ps.length<=1:=by
 match l,h with
 | c::l,h =>
  simp only[cmd] at h
  split at h
  . cases e:pt2 l<;>rw[e] at h<;>cases h
    exact W0c _
  . split at h
    . cases e:Xp4 l<;>rw[e] at h<;>cases h
      exact W0c _
    . split at h
      . split at h<;>cases h
        exact W0s _
      . cases h
theorem Xyr: ∀ {n:Nat} {l:List Wd} {ps:List Pt},bdy n l=some ps->ps.length<=n
 | n,[],ps,h=>by cases n<;>cases h<;>exact W0s _
 | 0,_::_,_,h=>by cases h
 | n+1,c::r,ps,h=>by
  simp only[bdy] at h
  split at h
  . cases h
  . rename_i qs i j
    cases e:bdy n i with
    | none=>rw[e] at h;cases h
    | some o =>
     rw[e] at h
     cases h
     have:=Xyr e
     have:=Yhf j
     rw[W0d];omega
theorem Yfl{l:List Wd}{ps:List Pt}(h:rdP l=some ps): ps.length<=l.length:=by
 rw[Xrn] at h
 split at h
 . split at h
   . cases h
   . rename_i q r hp
     cases e:body r with
     | none=>rw[e] at h;cases h
     | some j =>
      rw[e] at h
      cases h
      have o:=Xyr e
      have i:=Xla hp
      rw[List.length_tail] at i
      rw[W0j]
      omega
 . cases h
end Go.Num
namespace Go.Proofs.YtcmjannkbdflmaaGreatDoor.P56
open Go Go.Vm Go.Num Go.Tow Go.Proofs.YtcmjannkbdflmaaGreatDoor
theorem Ydp{w:List UInt8}{x:Rat}(h:num w=some x): Qs 1610 x:=by
 unfold num at h
 cases hp:prs w with
 | none=>rw[hp] at h;cases h
 | some q =>
  obtain⟨i,u,t⟩:=q
  rw[hp] at h
  cases h
  obtain⟨j,hb⟩:=P11.frI_zs hp
  show Qs 1610 (fr i u t)
  rw[Xj5,<-W3j]
  exact Qs.divInt (j.mono (by decide)) ((R11.p10 t.length).mono (by omega)) (λe=>Xqq t.length (by rw[e];rfl))
theorem Yef{x y:Rat}(i:Qs 1610 x): C0 38 [.d (dq x),.d (dq y)] (·=.b (dc (x=y))):=by
 have j:=i.n.len (by decide)
 have o:=i.d.len (by decide)
 refine En Tryz.func38 λ_ _ _=>?_
 refine Ce rfl (R2.SameInt_ok (z:=x.num) (w:=y.num) (by omega))<|By rfl (λh=>?_) λh=>?_
 . exact Ce rfl (R2.SameInt_ok (z:=(x.den:Int)) (w:=(y.den:Int)) (by omega))<|R1 rfl (.bp (Xal.trans ⟨λA=>Rat.ext h (by omega),λe=>by rw[e]⟩))
 . exact R1 rfl (.bp ⟨nofun,λe=>absurd (by rw[e]) h⟩)
theorem SamePoints_ok{ps:List Num.Pt}(A:ps.length<=1000000)(hp:∀p∈ps,Num.Src p): C0 11 [.d (.sl 8 (ps.map dPt)),.d (.sl 8 (ps.map dPt))] (·=.b true):=by
 have lm:(ps.map dPt).length=ps.length:=W0i ..
 refine En Tryz.func11 λ_ _ _=>?_
 refine No rfl (λh=>h rfl)<|Lo (λk:Nat=>[(0,.d (.sl 8 (ps.map dPt))),(1,.d (.sl 8 (ps.map dPt))),(5,.d (.int .i64 k))]) (λ_=>[]) (λk=>k<=ps.length) (λk=>ps.length-k) 0 [] rfl (W0s _) λk B=>?_
 refine By rfl (λh=>?_) λh=>?_
 . have h:(k:Int)<((ps.map dPt).length:Nat):=h
   rw[lm] at h
   obtain⟨p,e⟩:∃p,ps[k]?=some p:=⟨_,W0a (by omega)⟩
   obtain⟨w,v,j,o⟩:=hp p (W0e e)
   have i:(ps.map dPt)[k]?=some (dPt p):=by rw[W0w,e];rfl
   refine Dw rfl<|Ix k rfl i<|Ix k rfl i<|Ce rfl (Yef (Ydp j))<|No rfl (λh=>h rfl)<|Ix k rfl i<|Ix k rfl i<|Ce rfl (Yef (Ydp o))<|No rfl (λh=>h rfl)<|Ar (k+1:Nat) rfl ?_
   exact Bk (k+1) [] rfl (by omega) (by show ps.length-(k+1)<ps.length-k;omega)
 . exact R0
end Go.Proofs.YtcmjannkbdflmaaGreatDoor.P56
namespace Go.Proofs.YtcmjannkbdflmaaGreatDoor.P11
open Go Go.Vm Go.Num Go.Tow Go.Proofs.YtcmjannkbdflmaaGreatDoor Go.Proofs.YtcmjannkbdflmaaGreatDoor.P9 Go.Proofs.YtcmjannkbdflmaaGreatDoor.R11 Go.Proofs.YtcmjannkbdflmaaGreatDoor.R9
theorem in_near{x:Nm}{ng:Bool}{a b:List UInt8}(i:Xbm x.k x.t)(h:RndOf x b.length (frI ng a b)): inI x.k x.t x.a (loQ ng a b) (hiQ ng a b):=by
 have h0:=Xqq b.length
 have j:loQ ng a b*((10^b.length:Int):Rat)=((frI ng a b:Int):Rat)-hf:=by rw[loQ,Xj5];grind
 have o:hiQ ng a b*((10^b.length:Int):Rat)=((frI ng a b:Int):Rat)+1-hf:=by
  have:(hf:Rat)+hf=1:=by decide +kernel
  rw[hiQ,Xj5];grind
 obtain⟨A,B⟩:=Xj6 i h
 exact⟨(Xlq i (ten_pos _) j).2 A,(Xlw i (ten_pos _) o).2 B⟩
end Go.Proofs.YtcmjannkbdflmaaGreatDoor.P11
namespace Go.Vm
open Go
variable{c:Cx}{s:St}{p:Pl}
noncomputable def Yp4(tb:Nat->Option TI)(n:Nat)(s:St): Option (Pl×Oper×TypeId×Operand×Operand×TI×Nat×Nat×List D×Nat×Nat×AV):=match nxO tb n s with
 | some (p,o)=>match o.op,p.dr,o.dst with
  | .store T x y,false,none=>match Xcw (look p.E) x,Xcw (look p.E) y,tb T with
   | some (.el q sz j off),some v,some i=>match look p.H q with
    | some (.arr h xs)=>match Nat.beq sz h with
     | true=>some (p,o,T,x,y,i,q,sz,xs,j,off,v)
     | false=>none
    | _=>none
   | _,_,_=>none
  | _,_,_=>none
 | none=>none
theorem StF{o:Oper}{T:TypeId}{x y:Operand}{ti:TI}{q sz j off:Nat}{xs:List D}{v a':AV}{U:D}(zs:List D)(u:D)(h:Yp4 c.tb c.n s=some (p,o,T,x,y,ti,q,sz,xs,j,off,v))(hu:xs[j]?=some u)(Y:xs.set j U=zs)(k:p.nx' c (.ub True) [(q,.arr sz zs)])
 (ha:Xtc v (.d u) off=some a':=by exact rfl) (hd:toD u a'=some U:=by exact rfl) (hs:(plain v&&Nat.beq v.size ti.z.size&&Nat.beq u.size sz&&Nat.beq U.size sz)=true:=by exact rfl):StP c s:=by
 subst Y
 unfold Yp4 at h
 split at h<;>try cases h
 rename_i p' o' ho
 split at h<;>try cases h
 rename_i T1 x' y' Z hdr hdst
 split at h<;>try cases h
 rename_i q' sz1 j' off' v' ti' B hy hti
 split at h<;>try cases h
 rename_i sz2 xs' hg
 split at h<;>cases h
 rename_i hb
 have hb:=W0g hb
 subst hb
 simp only[W0h] at hs
 obtain⟨⟨⟨hpl,I⟩,hs2⟩,M⟩:=hs
 have I:=W0g I
 have hs2:=W0g hs2
 have M:=W0g M
 refine Xnd ho (by unfold Xap;rw[Z];rfl) hdr (λN W θ ρ _ hO hN hB hv=>?_) k
 obtain⟨hk,hp⟩:=c.hT _ _ hti
 have hg:(sem p.E p.H).2 q=some (.arr sz xs):=hg
 obtain⟨b,h1,e⟩:=Yno (hv _ _ B)
 obtain⟨b',cs,T',r1,r2,r3,r4,r5,r6,r7⟩:=hO.r _ _ hg
 rw[h1] at r1;injection r1 with r1;subst r1
 obtain⟨O,_⟩:=Xgk hpl (hv _ _ hy) (Xfu hpl)
 have A:=AV.c_len v O
 obtain⟨e1,d1,d2,d3⟩:=r6 j u hu
 have d1':AV.C W θ (.d u) e1:=d1
 obtain⟨u0,m,w,V,f2,f3,f4,f5⟩:=Yco O ha d1'
 have hel:=D.at_len u d1
 have hj:j<xs.length:=(W1e.1 hu).1
 have hlen:off+v.size<=sz:=by
  have:=congrArg List.length V
  simp only[W0d] at this
  omega
 have hjc:j*sz+sz<=cs.length:=by
  rw[r3,<-W3b];exact W0x _ (by omega)
 have hrun:=Xve (P:=c.P) (ty:=o.type) (pos:=o.pos) (aft:=o.after) (gd:=o.guard) hk e r2 (by rw[A,I]) (by omega) (AV.c_one v O)
 have hle:=Xid W b cs (spl cs (j*sz+off) (ρ y).cells.toList) T' (λ_=>True) r2 (λi v hA=>absurd (r7 i) hA)
 have hsp:∀t,(spl cs (j*sz+off) (ρ y).cells.toList)[t]?=if j*sz+off<=t/\t<j*sz+off+v.size then (ρ y).cells.toList[t-(j*sz+off)]? else cs[t]?:=λt=>by
  rw[Xgh _ _ _ _ (by rw[A];omega),A]
 have hspe:spl e1 off (ρ y).cells.toList=u0++((ρ y).cells.toList++w):=by rw[V,<-f2];exact Xq4 _ _ _ _ (by rw[A,f3])
 have hse:∀t,(u0++((ρ y).cells.toList++w))[t]?=if off<=t/\t<off+v.size then (ρ y).cells.toList[t-off]? else e1[t]?:=λt=>by
  rw[<-hspe,Xgh _ _ _ _ (by rw[A,hel];omega),A]
 have ho':o=⟨none,.store T x y,o.type,o.pos,o.after,o.guard⟩:=by
  obtain⟨d,op,ty,ps,af,gu⟩:=o
  cases Z;cases hdst;rfl
 rw[ho']
 refine⟨_,θ,_,hrun,Stp.put hO (t:=q) (x:=.arr sz (xs.set j U)) hg rfl h1 r2 (λi v hA=>absurd (r7 i) hA) (λ_ _ _=>rfl) (λ_ _=>rfl) h1 (λi z Y=>?_) (λi z Y=>?_)
  ⟨b,_,T',h1,Xa7 _ _ _ (Xa3 r2),by rw[Xeq];exact r3,r4,by simpa using r5,λi x B=>?_,λi=>⟨r7 i,λ_=>trivial⟩⟩ (λi hi=>hi.elim),.inl ⟨rfl,rfl⟩,λi hi=>hi.elim⟩
 . rcases Xae Y with ⟨V,f2⟩ | ⟨V,f2⟩
   . exact .inl ⟨V,f2⟩
   . exact .inr (.inr ⟨f2,V⟩)
 . by_cases hio:i=q
   . subst hio;exact⟨_,Xai _ _ _⟩
   . exact⟨z,by rw[show Xb1 (sem p.E p.H).2 [(q,Ob.arr sz (xs.set j U))]=upd (sem p.E p.H).2 q (.arr sz (xs.set j U)) from rfl,Xam hio];exact Y⟩
 . by_cases Q:i=j
   . subst Q
     rw[W2n hj] at B
     injection B with B;subst B
     refine⟨_,D.mono hle _ (Xmq hd f4),M,λt c hq=>?_⟩
     rw[hse] at hq
     rw[hsp]
     split at hq
     . rename_i hc
       rw[if_pos (by omega),show i*sz+t-(i*sz+off)=t-off by omega]
       exact hq
     . rename_i hc
       rw[if_neg (by omega)]
       exact d3 t c hq
   . rw[W1v (λh=>Q h.symm)] at B
     obtain⟨g1,g2,g3,g4⟩:=r6 i x B
     refine⟨g1,D.mono hle _ g2,g3,λt c hq=>?_⟩
     have hql:t<sz:=by
      rw[<-g3,<-D.at_len x g2]
      by_cases h:t<g1.length
      . exact h
      . rw[W2f (by omega)] at hq;cases hq
     rw[hsp,if_neg ?_]
     . exact g4 t c hq
     . rcases W7b Q with h | h
       . have:i*sz+sz<=j*sz:=by rw[<-W3b];exact W0x _ (by omega)
         omega
       . have:j*sz+sz<=i*sz:=by rw[<-W3b];exact W0x _ (by omega)
         omega
theorem Yr1{d sz:Nat}{xs ys:List D}(zs:List D)(h:Ynd c.tb c.n s=some (p,d,sz,ys,.lit sz xs))(i:xs++ys=zs)(h0:0<ys.length)(hr:zs.length<=137438953472)(k:p.nx' c (.own d sz 0 zs.length) [(d,.arr sz zs)]): StP c s:=by
 subst i
 exact Xv3 h (λo j=>by simp[Xzg,h0,Xm3 (by simpa using hr) j]) k
theorem Yqw{d sz o n:Nat}{xs ys:List D}(zs:List D)(h:Ynd c.tb c.n s=some (p,d,sz,ys,.own o sz 0 n))(i:look p.H o=some (.arr sz xs))(j:n=xs.length)(A:xs++ys=zs)(hr:zs.length<=137438953472)(k:p.nx' c (.own d sz 0 zs.length) [(d,.arr sz zs),(o,.dead)]): StP c s:=by
 subst A
 exact Xv3 h (λI B=>by subst j;simp[Xzg,i,Xm3 (by simpa using hr) B])  k
end Go.Vm
namespace Go.Proofs.YtcmjannkbdflmaaGreatDoor.P57
open Go Go.Vm Go.Num Go.Tow Go.Proofs.YtcmjannkbdflmaaGreatDoor
section
open Go.Proofs.YtcmjannkbdflmaaGreatDoor.P55 (v0 W0 g0 gv0 zw Xci Qp nr Xaw)
open Go.Proofs.YtcmjannkbdflmaaGreatDoor.R55 (pk1 Xuw)
structure Cq where
 arc:Bool
 a:Rat×Rat
 b:Rat×Rat
 c:Rat×Rat
 cw:Bool
abbrev cvQ(q:Cq): Cv:=⟨q.arc,v0 q.a,v0 q.b,v0 q.c,q.cw⟩
abbrev zz2: Rat×Rat:=(((0:Int):Rat),((0:Int):Rat))
def dqD(d:Dft): Cq:=match d.arc with
 | false=>⟨false,R47.atQ d.a1 d.a2 d.un,R47.atQ d.b1 d.b2 d.un,zz2,d.cw⟩
 | true=>⟨true,R47.atQ d.b1 d.b2 d.un,Xcx (K:=0) (R47.atQ d.a1 d.a2 d.un) (R47.rotQ (Xbb (K:=0) (R47.atQ d.b1 d.b2 d.un) (R47.atQ d.a1 d.a2 d.un)) (R47.uni (d.st%16))),R47.atQ d.a1 d.a2 d.un,d.cw⟩
theorem Yo7(d:Dft): R47.cvD d=cvQ (dqD d):=by
 obtain⟨arc,_⟩:=d
 cases arc<;>rfl
theorem Yo3{d:Dft}(h:(dqD d).arc=false): (dqD d).c=zz2:=by
 obtain⟨arc,_⟩:=d
 cases arc with
 | false=>rfl
 | true=>cases h
def mvQ(c:Cq)(t:Rat×Rat): Cq:=⟨c.arc,t,Xcx (K:=0) c.b (Xbb (K:=0) t c.a),Xcx (K:=0) c.c (Xbb (K:=0) t c.a),c.cw⟩
structure VQ (n:Nat) (q:Cq):Prop where
 a:Qp n q.a
 b:Qp n q.b
 c:Qp n q.c
 s:q.arc=false->q.a≠q.b
 u:q.arc=true->q.a≠q.c/\P55.d2 q.b q.c=P55.d2 q.a q.c/\Qs 64 (P55.d2 q.a q.c)/\Qp 64 (Xbb (K:=0) q.a q.c)/\Qp 64 (Xbb (K:=0) q.b q.c)
theorem VQ.mono{m n:Nat}{q:Cq}(h:VQ m q)(i:m<=n): VQ n q:=⟨R47.Qp.mono' h.a i,R47.Qp.mono' h.b i,R47.Qp.mono' h.c i,h.s,h.u⟩
theorem VQ.of{d:Dft}(h:d.ok)(i:R47.vlD d): VQ 64 (dqD d):=by
 have A:=R47.arcOk h
 obtain⟨arc,cw,a1,j,o,B,st,un⟩:=d
 have hp:=R47.Qp.mono' (R47.atQ_qp (u:=un) h.a1 h.a2) (show 8<=64 by decide)
 have hq:=R47.Qp.mono' (R47.atQ_qp (u:=un) h.b1 h.b2) (show 8<=64 by decide)
 have i:R47.atQ a1 j un≠R47.atQ o B un:=i
 cases arc with
 | false=>exact⟨hp,hq,(show Qp 64 zz2 from⟨by decide +kernel,by decide +kernel⟩),λ_=>i,nofun⟩
 | true=>exact⟨hq,A.hr,hp,nofun,λ_=>⟨i.symm,A.e.symm,A.s,A.u,A.v⟩⟩
theorem VQ.mv{n m:Nat}{q:Cq}{t:Rat×Rat}(h:VQ n q)(o:Qp m t): VQ (m+2*n+4) (mvQ q t):=by
 have hs:Qp (m+n+1) (Xbb (K:=0) t q.a):=⟨o.1.add h.a.1.neg,o.2.add h.a.2.neg⟩
 have hd:∀ {p:Rat×Rat},Qp n p->Qp (m+2*n+4) (Xcx (K:=0) p (Xbb (K:=0) t q.a)):=λhp=>⟨(hp.1.add hs.1).mono (by omega),(hp.2.add hs.2).mono (by omega)⟩
 have e:∀x c:Rat×Rat,Xbb (K:=0) (Xcx (K:=0) x (Xbb (K:=0) t q.a)) (Xcx (K:=0) c (Xbb (K:=0) t q.a))=Xbb (K:=0) x c:=λx c=>W3a (show x.1+(t.1+-q.a.1)+-(c.1+(t.1+-q.a.1))=x.1+-c.1 by grind) (show x.2+(t.2+-q.a.2)+-(c.2+(t.2+-q.a.2))=x.2+-c.2 by grind)
 have A:Xcx (K:=0) q.a (Xbb (K:=0) t q.a)=t:=W3a (show q.a.1+(t.1+-q.a.1)=t.1 by grind) (show q.a.2+(t.2+-q.a.2)=t.2 by grind)
 have j:∀x:Rat×Rat,t=Xcx (K:=0) x (Xbb (K:=0) t q.a)->q.a=x:=λx i=>by
  have B:t.1=x.1+(t.1+-q.a.1):=congrArg Prod.fst i
  have I:t.2=x.2+(t.2+-q.a.2):=congrArg Prod.snd i
  exact W3a (by grind) (by grind)
 have M:∀x c:Rat×Rat,P55.d2 (Xcx (K:=0) x (Xbb (K:=0) t q.a)) (Xcx (K:=0) c (Xbb (K:=0) t q.a))=P55.d2 x c:=λx c=>by unfold P55.d2;rw[e]
 refine⟨R47.Qp.mono' o (by omega),hd h.b,hd h.c,λh0 i=>h.s h0 (j _ i),λh0=>?_⟩
 obtain⟨B,I,Q,T,U⟩:=h.u h0
 have V:Xbb (K:=0) t (Xcx (K:=0) q.c (Xbb (K:=0) t q.a))=Xbb (K:=0) q.a q.c:=by
  have:=e q.a q.c
  rwa[A] at this
 have O:P55.d2 t (Xcx (K:=0) q.c (Xbb (K:=0) t q.a))=P55.d2 q.a q.c:=by
  have:=M q.a q.c
  rwa[A] at this
 refine⟨λi=>B (j _ i),?_,?_,by have h:=T;rw[<-V] at h;exact h,by have h:=U;rw[<-e q.b q.c] at h;exact h⟩
 . exact((M q.b q.c).trans I).trans O.symm
 . have h:=Q
   rw[<-O] at h
   exact h
def chn: Rat×Rat->List Cq->List Cq
 | _,[]=>[]
 | p,c::l=>mvQ c p::chn (mvQ c p).b l
def chQ: List Cq->List Cq
 | []=>[]
 | c::l=>c::chn c.b l
theorem Xyh: ∀(l:List Cq) (p:Rat×Rat),(chn p l).length=l.length
 | [],_=>rfl
 | c::l,p=>congrArg (·+1) (Xyh l _)
theorem Xfh(l:List Cq): (chQ l).length=l.length:=by
 cases l with
 | nil=>rfl
 | cons c l=>exact congrArg (·+1) (Xyh l _)
theorem Yl1{c q:Cq}: ∀(l:List Cq) (p:Rat×Rat) (i:Nat),l[i+1]?=some c->(chn p l)[i]?=some q->(chn p l)[i+1]?=some (mvQ c q.b):=by
 intro l
 induction l with
 | nil=>intro p i h;cases h
 | cons x l j =>
  intro p i h k
  cases i with
  | zero =>
   have k:some (mvQ x p)=some q:=k
   cases k
   cases l with
   | nil=>cases h
   | cons y l =>
    have h:some y=some c:=h
    cases h
    rfl
  | succ i=>exact j _ i h k
theorem Yl3{l:List Cq}{i:Nat}{c q:Cq}(h:l[i+1]?=some c)(k:(chQ l)[i]?=some q): (chQ l)[i+1]?=some (mvQ c q.b):=by
 cases l with
 | nil=>cases h
 | cons x l =>
  cases i with
  | zero =>
   have k:some x=some q:=k
   cases k
   cases l with
   | nil=>cases h
   | cons y l =>
    have h:some y=some c:=h
    cases h
    rfl
  | succ i=>exact Yl1 l _ i h k
theorem Yec: ∀ {l:List Cq} {p:Rat×Rat} {m:Nat},Qp m p->(∀c∈l,VQ 64 c)->∀c∈chn p l,VQ (m+132*l.length) c
 | x::l,p,m,hp,i,c,h=>by
  have j:=(i x W0v).mv hp
  rcases W1h.1 h with rfl | h
  . exact j.mono (by simp only[W0j];omega)
  . exact(Yec j.b (λy o=>i y (W1b _ o)) c h).mono (by simp only[W0j];omega)
theorem Yl2{l:List Cq}(o:l.length<=4)(i:∀c∈l,VQ 64 c): ∀c∈chQ l,VQ 700 c:=by
 cases l with
 | nil=>exact nofun
 | cons x l =>
  intro c h
  have j:=i x W0v
  rcases W1h.1 h with rfl | h
  . exact j.mono (by decide)
  . exact(Yec j.b (λy A=>i y (W1b _ A)) c h).mono (by simp only[W0j] at o;omega)
theorem Yjp{x:Nm}{d:Nat}(H:P11.Pk x)(hd:d<=60): ∃z,P11.RndOf x d z:=by
 have S:=H.sc (h:=P11.hf) (P11.ten_qs hd) P11.hf_qs
 have h:=Xsl H.re (Xjd H.re (scl x.k x.t x.a ((10^d:Int):Rat) P11.hf) 2048) S.w1
 exact Classical.byCases (λhs=>⟨_,h.1 hs⟩) λhs=>⟨_,h.2 hs⟩
noncomputable def zR(x:Nm)(d:Nat): Int:=Classical.epsilon (P11.RndOf x d)
theorem Xzh{x:Nm}{d:Nat}(H:P11.Pk x)(hd:d<=60): P11.RndOf x d (zR x d):=Classical.epsilon_spec (Yjp H hd)
structure Nb (x:Nm):Prop where
 p:P11.Pk x
 i:inI x.k x.t x.a (-pw 1100) (pw 1100)
theorem Nb.z{x:Nm}{d:Nat}(h:Nb x)(hd:d<=20): (zR x d).natAbs<10^(369+1):=by
 have j:=h.p.re
 obtain⟨M,O⟩:=Xj6 j (Xzh h.p (show d<=60 by omega))
 have A:=(Xa1 j).1 (le_tr j M ((Xlw j (P11.ten_pos d) rfl).1 h.i.2))
 have o:=(Xa1 j).1 (le_tr j ((Xlq j (P11.ten_pos d) rfl).1 h.i.1) O)
 revert A o
 generalize zR x d=z
 intro A o
 have e:pw 1100*((10^d:Int):Rat)=((2^1100*10^d:Int):Rat):=(W3z ..).symm
 have U:(P11.hf:Rat)+P11.hf=1:=by decide +kernel
 have Q:(0:Rat)<P11.hf:=by decide +kernel
 rw[Rat.neg_mul] at o
 rw[e] at A o
 have B:(z:Rat)<=((2^1100*10^d+1:Int):Rat):=by rw[W4a];show _<=_+(1:Rat);grind
 have I:((-(2^1100*10^d+1):Int):Rat)<=(z:Rat):=by rw[W7z,W4a];show -(_+(1:Rat))<=_;grind
 have B:=W3h.1 B
 have I:=W3h.1 I
 have hp:(10:Int)^d<=10^20:=by exact_mod_cast W0m (show 0<10 by decide) hd
 have hq:(0:Int)<=10^d:=Int.le_of_lt (W5x (by decide))
 have V:(2:Int)^1100*10^d<=2^1100*10^20:=Int.mul_le_mul_of_nonneg_left hp (by decide +kernel)
 have hb:(2:Int)^1100*10^20+1<((10^(369+1):Nat):Int):=by decide +kernel
 have e:∀(T:Nat) (z u v:Int),v<=u->u+1<(T:Int)->z<=v+1-> -(v+1)<=z->z.natAbs<T:=λT z u v a b c d=>by omega
 exact e _ _ _ _ V hb B I
theorem Nb.tl{x:Nm}{d:Nat}(h:Nb x)(hd:d<=20): (txt (zR x d) d).length<=400:=by
 have i:=Yer (zR x d) d
 have j:=Xel 369 _ (h.z hd)
 omega
theorem Nb.gl{x:Nm}{d:Nat}(h:Nb x)(hd:d<=20): (dig (zR x d).natAbs).length<=274877906944:=by
 have i:(zR x d).natAbs<2^1300:=Nat.lt_trans (h.z hd) (by decide +kernel)
 have:=Xlo i
 omega
theorem Nb.pF{x:Nm}{d:Nat}(h:Nb x)(hd:d<=20): C0 24 [.d (dN x),.d (.int .i64 d)] (·=.tup (.pr (.d (.str (txt (zR x d) d))) (.d (.int .i64 0)))) :=
 (P11.dFmt_ok h.p (by omega)).mono λv ⟨z,i,_,j⟩=>by
  rw[j,Xbp.uniq h.p.re i (Xzh h.p (by omega)),P11.fmtV,if_pos (h.tl hd)]
theorem Nb.rF{x:Nm}{d:Nat}(h:Nb x)(hd:d<=20): C0 28 [.d (dN x),.d (.int .i64 d)] (·=.tup (.pr (.d (.str (txt (zR x d) d))) (.d (.int .i64 0)))) :=
 (R11.Format_ok h.p (by omega) (Xzh h.p (by omega)) (h.gl hd)).mono λv i=>by rw[i,P11.fmtV,if_pos (h.tl hd)]
theorem Nb.rat{q:Rat}(h:Qs 1000 q): Nb (nr q):=by
 refine⟨P11.Pk_rat h (by decide),?_⟩
 obtain⟨i,j⟩:=(Ygc h).mono (show 1000<=1100 by decide)
 exact⟨(Xa1 (k:=0) (t:=()) trivial).2 i,(Xa1 (k:=0) (t:=()) trivial).2 j⟩
open Classical in
noncomputable def rtN(s:Rat): Nm:=if h:∃y:Rat,y*y=s/\0<=Xe3 y then nr h.choose else n1 s r1
theorem Yka{s:Rat}(h:¬ ∃y:Rat,y*y=s/\0<=Xe3 y): ¬Xcl 0 () s:=λj=>by
 obtain⟨w,i⟩:∃w:Rat,w*w=s:=j
 by_cases h0:0<=Xe3 w
 . exact h ⟨w,i,h0⟩
 . refine h ⟨-w,by rw[<-i];grind,?_⟩
   rcases Xa0 w with ⟨_,e⟩ | ⟨_,e⟩ | ⟨e,_⟩
   . omega
   . omega
   . have:0 < -w:=by grind
     rw[Xbh this];decide
theorem Yc7{f:FuncId}{j:List AV}{s:Rat}(h:C0 f j (R9.RtR (nr s))): C0 f j (·=.tup (.pr (.d (dN (rtN s))) (.d (.int .i64 0)))):=by
 unfold rtN
 split
 . rename_i i
   exact R55.rt_sq h i.choose_spec.1 i.choose_spec.2
 . rename_i i
   exact R55.rt_non h (Yka i)
theorem Yjm{s:Rat}(h0:0<s)(hq:Qs 64 s): Nb (rtN s):=by
 unfold rtN
 split
 . rename_i h
   have o:Sz 1000 (toL 0 (h.choose:Tow.El 0)):=((Sz.rat 0 hq).rootS (k:=0) (r:=1) (t:=()) (s:=(h.choose:Tow.El 0)) trivial trivial h.choose_spec.1).mono (by decide)
   exact Nb.rat (o.qs (W0f.2 rfl))
 . rename_i h
   have i:=pk1 h0 (Yka h) hq (a:=0) (b:=1) (by decide +kernel) (by decide +kernel)
   refine⟨i,?_⟩
   have o:=Xf5 i.re (n1 s r1).a 1
   have A:=Xka (a:=(n1 s r1).a) (m:=64) 1 i.re i.mt (λx j=>by
    have j:x∈[(0:Rat),1]:=j
    rcases W1h.1 j with rfl | j
    . decide +kernel
    . obtain rfl:=W0f.1 j;decide +kernel)
   obtain⟨B,I⟩:=A.mono (show mW 64 1<=1100 by decide)
   exact Xlu i.re o B I
end
section
open Go.Proofs.YtcmjannkbdflmaaGreatDoor.P55 (v0 W0 g0 gv0 zw Xci Qp nr Xaw Wv dWv dWs WdC Xcg Xoo hdW)
open Go.Proofs.YtcmjannkbdflmaaGreatDoor.R55 (Yfm Xuw)
variable{q:Cq}
theorem VQ.w(h:VQ 700 q)(ha:q.arc=true): Xbb (K:=0) q.a q.c≠vz 0/\Xbb (K:=0) q.b q.c≠vz 0/\q.b≠q.c/\0<P55.d2 q.a q.c:=by
 obtain⟨o,A,_⟩:=h.u ha
 have i:Xbb (K:=0) q.a q.c≠vz 0:=Xuw o
 have h0:Xe3 (P55.d2 q.a q.c)=1:=Xqj (K:=0) (G:=()) trivial i
 have hp:0<P55.d2 q.a q.c:=by
  rcases Xa0 (P55.d2 q.a q.c) with ⟨e,_⟩ | ⟨_,e⟩ | ⟨_,e⟩
  . exact e
  . omega
  . omega
 have j:Xbb (K:=0) q.b q.c≠vz 0:=λe=>by
  have B:P55.d2 q.b q.c=0:=by
   unfold P55.d2
   rw[e]
   exact(show (0:Rat)*0+0*0=0 by decide +kernel)
  rw[<-A,B] at hp
  exact absurd hp (by decide)
 exact⟨i,j,λe=>j (by rw[e];exact W3a (show q.c.1+-q.c.1=0 by grind) (show q.c.2+-q.c.2=0 by grind)),hp⟩
theorem Yeo(h:VQ 700 q): C0 52 [.d (dC (cvQ q))] (·=.b true):=by
 obtain⟨arc,a,b,c,cw⟩:=q
 cases arc with
 | false=>exact(P47.Valid_seg (c:=cvQ ⟨false,a,b,c,cw⟩) W0 rfl (gv0 h.a) (gv0 h.b) (by decide) (by decide)).mono λv e=>e.trans (congrArg AV.b (Xal.2 (h.s rfl)))
 | true =>
  obtain⟨i,j,_⟩:=h.u rfl
  exact(P47.Valid_arc (c:=cvQ ⟨true,a,b,c,cw⟩) W0 rfl (gv0 h.c) (gv0 h.a) (gv0 h.b) (Xaw h.c.1) (Xaw h.c.2) (by decide) (by decide) i.symm (h.w rfl).2.2.1.symm).mono λv e=>e.trans (congrArg AV.b (Xal.2 j.symm))
def Lnk(R:List Cq): Prop:=∀i c d,R[i]?=some c->R[i+1]?=some d->c.b=d.a
theorem lQ{R:List Cq}: ((R.map cvQ).map dC).length=R.length:=by simp
theorem Xzf{R:List Cq}{k:Nat}{c:Cq}(h:R[k]?=some c): ((R.map cvQ).map dC)[k]?=some (dC (cvQ c)):=by simp[h]
theorem Xls{R:List Cq}(hl:R.length<=1000)(h0:0<R.length)(Y:∀c∈R,VQ 700 c): C0 22 [.d (Xd1 (R.map cvQ))] (·=.b (dc (Lnk R))):=by
 refine En Tryz.func22 λ_ _ _=>?_
 refine Lo (λk:Nat=>[(0,.d (Xd1 (R.map cvQ))),(5,.d (Xd1 (R.map cvQ))),(6,.d (.int .i64 ((R.map cvQ).map dC).length)),(7,.d (.int .i64 k))]) (λ_=>[]) (λk=>k<=R.length/\∀i c d,i+1<k->R[i]?=some c->R[i+1]?=some d->c.b=d.a) (λk=>R.length-k) 0 [] rfl ⟨W0s _,λ_ _ _ h=>absurd h (by omega)⟩ λk ⟨hk,M⟩=>?_
 refine By rfl (λh=>?_) λh=>?_<;>simp only[lQ] at h
 . obtain⟨c,I⟩:∃c,R[k]?=some c:=⟨_,W0a (by omega)⟩
   have B:=Y c (W0e I)
   refine Ix k rfl (Xzf I)<|Dw rfl<|Ce rfl (Yeo B)<|No rfl (λh=>h rfl)<|By rfl (λZ=>?_) λZ=>?_
   . obtain⟨b,hb⟩:∃b,R[k-1]?=some b:=⟨_,W0a (by omega)⟩
     have O:=Y b (W0e hb)
     refine Ar (k-1:Nat) rfl ?_
     refine Ix (k-1) rfl (Xzf hb)<|Ce rfl (P13.Equal_g W0 (gv0 O.b) (gv0 B.a) (by decide) (by decide))<|By rfl (λo=>?_) λo=>?_
     . have o:¬b.b=c.a:=o
       rw[P11.dcF (p:=Lnk R) λQ=>o (Q (k-1) b c hb (by rw[show k-1+1=k by omega];exact I))]
       exact R0
     . have o:b.b=c.a:=W3g.1 o
       refine Ar (k+1:Nat) rfl ?_
       refine Bk (k+1) [] rfl ⟨by omega,λi T U hi A j=>?_⟩ (by show R.length-(k+1)<R.length-k;omega)
       by_cases V:i+1=k
       . rw[V,I] at j
         rw[show i=k-1 by omega,hb] at A
         cases A;cases j;exact o
       . exact M i T U (by omega) A j
   . refine Ar (k+1:Nat) rfl ?_
     exact Bk (k+1) [] rfl ⟨by omega,λi T U hi A j=>M i T U (by omega) A j⟩ (by show R.length-(k+1)<R.length-k;omega)
 . have Q:Lnk R:=λi c d A j=>M i c d (by have:=(W1e.1 j).1;omega) A j
   exact R1 rfl (by exact(show dc ((((R.map cvQ).map dC).length:Int)>0)=dc (Lnk R) by rw[P11.dcT Q,Xal,lQ];omega) ▸ .rf rfl)
theorem Ydc(h:VQ 700 q)(ha:q.arc=true): C0 56 [.d (dC (cvQ q))] (·=.tup (.pr (.d (dN (rtN (P55.d2 q.a q.c)))) (.d (.int .i64 0)))):=by
 obtain⟨i,o,j,_⟩:=h.u ha
 exact Yc7 (P55.radius_r (c:=cvQ q) rfl rfl h.c h.a i.symm (j.mono (by decide)) (W2m (h.w ha).2.2.2))
def Xjl(q:Cq): V2 0:=Xzl (K:=0) () (Xfl (R47.plD (K:=0) q.cw (Xbb (K:=0) q.a q.c) (Xbb (K:=0) q.b q.c)).1) (R47.plD (K:=0) q.cw (Xbb (K:=0) q.a q.c) (Xbb (K:=0) q.b q.c)).2
theorem Xl6(h:VQ 700 q)(ha:q.arc=true): Qp 300 (Xjl q):=by
 obtain⟨_,_,_,A,B⟩:=h.u ha
 have i:∀ {x y:Rat×Rat},Qp 64 x->Qp 64 y->Qp 300 (Xzl (K:=0) () (Xfl x) y):=λ{x y} j o=>⟨show Qs 300 (x.1*y.1+-(-x.2*y.2)) from((j.1.mul o.1).add (j.2.neg.mul o.2).neg).mono (by decide),show Qs 300 (x.1*y.2+-x.2*y.1) from((j.1.mul o.2).add (j.2.neg.mul o.1)).mono (by decide)⟩
 obtain⟨arc,a,b,c,cw⟩:=q
 cases cw with
 | true=>exact i B A
 | false=>exact i A B
noncomputable def lgQ(q:Cq): Bool:=dc (Xzm (K:=0) () (Xjl q) (((-1:Int):Rat),((0:Int):Rat))>0)
def fOp(p:V2 0): Int:=min (max (P19.vopp (K:=0) () p 0) (-1000000)) 1000000
theorem Ygw(p:V2 0): few (fOp p):=by unfold fOp few;omega
theorem Xxm(p:V2 0): Xhq (K:=0) () (Xfl p)↔Xhq (K:=0) () p:=by
 have e:∀x:Rat,sgn 0 () (-x:Rat)=0↔sgn 0 () x=0:=λx=>(Xbu (k:=0) (t:=()) trivial).trans (Iff.trans ⟨λh=>show x=0 by have h:-x=0:=h;grind,λh=>show -x=0 by have h:x=0:=h;grind⟩ (Xbu (k:=0) (t:=()) trivial).symm)
 exact and_congr (e p.2) W4f
theorem Yro(p:V2 0): min (max (P19.vopp (K:=0) () (Xfl p) (fOp p)) (-1000000)) 1000000=0:=by
 have h:=Xxm p
 unfold fOp P19.vopp
 by_cases hp:Xhq (K:=0) () p
 . rw[if_pos hp,if_pos (h.2 hp)];decide
 . rw[if_neg hp,if_neg (λe=>hp (h.1 e))];decide
theorem Yqq(p:V2 0): Xfl (Xfl p)=p:=R47.vcon2K ()
theorem Ydi{u:Vn}{p:V2 0}{f:Int}(h:Gv (K:=0) () [] [] 1 u p)(i:P19.Trm u.x)(hf:few f): C0 131 [.d (dT u f)] (λr=>∃v,r=.d (dT v (min (max (P19.vopp (K:=0) () p f) (-1000000)) 1000000))/\Gv (K:=0) () [] [] 1 v (Xfl p)):=by
 refine En Tryz.func131 λ_ _ _=>?_
 refine Ca rfl (P19.opposite_g W0 h i (by decide) hf) λv j=>?_
 obtain⟨c,rfl,o⟩:=j
 refine Mm (max (P19.vopp (K:=0) () p f) (-1000000)) rfl ?_ rfl
 refine Mm (min (max (P19.vopp (K:=0) () p f) (-1000000)) 1000000) rfl ?_ rfl
 exact Rt rfl (.one (.rf rfl) rfl rfl) ⟨c,rfl,o⟩
theorem Ymo(h:VQ 700 q)(ha:q.arc=true)(o:q.a≠q.b): C0 130 [.d (dC (cvQ q))] (·=.tup (.pr (.d (match q.cw with
 | true=>dT (v0 (Xfl (Xjl q))) (fOp (Xjl q))
 | false=>dT (v0 (Xjl q)) 0)) (.d (.int .i64 0)))):=by
 obtain⟨M,O,_,_⟩:=h.w ha
 have hd:=Xl6 h ha
 obtain⟨_,_,_,A,B⟩:=h.u ha
 obtain⟨arc,a,b,c,cw⟩:=q
 obtain rfl:arc=true:=ha
 have sub:∀ {x:Rat×Rat},Qp 700 x->C0 59 [.d (dV (v0 x)),.d (dV (v0 c))] (·=.tup (.pr (.d (dV (v0 (Xbb (K:=0) x c)))) (.d (.int .i64 0)))):=λI=>(P13.Sub_g W0 (gv0 I) (gv0 h.c) (by decide) (by decide)).mono λv ⟨z,e,j⟩=>by rw[e,Xci j]
 have i:∀ {x:Rat×Rat},Qp 700 x->Qp 64 (Xbb (K:=0) x c)->C0 59 [.d (dV (v0 x)),.d (dV (v0 c))] (VoG (K:=0) () [] [] 1 (Xbb (K:=0) x c)):=λI Q=>(sub I).mono λv e=>⟨_,e,gv0 Q⟩
 cases cw with
 | true =>
  have hb:=(P47.between_g (c:=cvQ ⟨true,b,a,c,false⟩) (X:=v0 b) (Y:=v0 a) W0 (sub h.b) (gv0 B) (Xaw B.1) (i h.a A) (by decide) O M).mono λr ⟨z,e,j⟩=>show r=AV.tup (.pr (.d (dT (v0 (Xjl ⟨true,a,b,c,true⟩)) 0)) (.d (.int .i64 0))) by rw[e,Xci j];rfl
  have hf:=(P47.full_g (c:=cvQ ⟨true,b,a,c,false⟩) W0 rfl (gv0 h.b) (gv0 h.a) (by decide) (by decide)).mono λv e=>show v=AV.b false from e.trans (congrArg AV.b (P11.dcF (λe=>o e.symm)))
  have T:=(Ydi (f:=0) (gv0 hd) (Xaw hd.1) (by unfold few;omega)).mono λr ⟨z,e,j⟩=>show r=AV.d (dT (v0 (Xfl (Xjl ⟨true,a,b,c,true⟩))) (fOp (Xjl ⟨true,a,b,c,true⟩))) by rw[e,Xci j];rfl
  refine En Tryz.func130 λ_ _ _=>?_
  exact No rfl (λh=>h rfl)<|Ce rfl P47.ccw_ok<|Ce rfl hb<|No rfl (by decide)<|Ce rfl hf<|No rfl nofun<|Yes rfl rfl<|Ce rfl T<|R0t
 | false =>
  have hb:=(P47.between_g (c:=cvQ ⟨true,a,b,c,false⟩) (X:=v0 a) (Y:=v0 b) W0 (sub h.a) (gv0 A) (Xaw A.1) (i h.b B) (by decide) M O).mono λr ⟨z,e,j⟩=>show r=AV.tup (.pr (.d (dT (v0 (Xjl ⟨true,a,b,c,false⟩)) 0)) (.d (.int .i64 0))) by rw[e,Xci j];rfl
  have hf:=(P47.full_g (c:=cvQ ⟨true,a,b,c,false⟩) W0 rfl (gv0 h.a) (gv0 h.b) (by decide) (by decide)).mono λv e=>show v=AV.b false from e.trans (congrArg AV.b (P11.dcF o))
  refine En Tryz.func130 λ_ _ _=>?_
  exact No rfl (λh=>h rfl)<|Ce rfl P47.ccw_ok<|Ce rfl hb<|No rfl (by decide)<|Ce rfl hf<|No rfl nofun<|No rfl nofun<|R0t
theorem half_g: Gv (K:=0) () [] [] 1 (v0 (((-1:Int):Rat),((0:Int):Rat))) (((-1:Int):Rat),((0:Int):Rat)):=gv0 (s:=64) ⟨by decide +kernel,by decide +kernel⟩
theorem Yaz(h:VQ 700 q)(ha:q.arc=true)(j:q.a≠q.b): C0 61 [.d (dC (cvQ q))] (·=.tup (.pr (.b (lgQ q)) (.d (.int .i64 0)))):=by
 have o:=Ymo h ha j
 have hd:=Xl6 h ha
 have i:Qp 300 (Xfl (Xjl q)):=⟨hd.1,hd.2.neg⟩
 have B:=(Ydi (f:=fOp (Xjl q)) (gv0 i) (Xaw i.1) (Ygw _)).mono λr ⟨z,e,I⟩=>show r=AV.d (dT (v0 (Xjl q)) 0) by rw[e,Xci I,Yqq,Yro]
 have A:=P19.Cmp_g (f:=0) (g:=0) W0 (gv0 hd) half_g (by decide)
 obtain⟨arc,a,b,c,cw⟩:=q
 cases cw with
 | true =>
  refine En Tryz.func61 λ_ _ _=>?_
  exact Ce rfl o<|No rfl (by decide)<|Yes rfl rfl<|Ce rfl B<|Ce rfl (P9.FromInt_ok (z:=-1) (by decide))<|Ce rfl (P9.FromInt_ok (z:=0) (by decide))<|Ce rfl A<|R0t
 | false =>
  refine En Tryz.func61 λ_ _ _=>?_
  exact Ce rfl o<|No rfl (by decide)<|No rfl nofun<|Ce rfl (P9.FromInt_ok (z:=-1) (by decide))<|Ce rfl (P9.FromInt_ok (z:=0) (by decide))<|Ce rfl A<|R0t
def opQ(q:Cq): Rat×Rat:=Xcx (K:=0) q.c (Xbb (K:=0) q.c q.a)
theorem VQ.way(h:VQ 700 q)(ha:q.arc=true): Qp 64 (Xbb (K:=0) q.c q.a):=by
 obtain⟨_,_,_,i,_⟩:=h.u ha
 have e:Xbb (K:=0) q.c q.a=((-(q.a.1+-q.c.1),-(q.a.2+-q.c.2)):Rat×Rat):=W3a (show q.c.1+-q.a.1=-(q.a.1+-q.c.1) by grind) (show q.c.2+-q.a.2=-(q.a.2+-q.c.2) by grind)
 rw[e]
 exact⟨i.1.neg,i.2.neg⟩
noncomputable def wdQ(q:Cq): List Wv:=if q.arc=false then Xoo (v0 q.b) else if q.a=q.b then Xcg (rtN (P55.d2 q.a q.c)) false (!q.cw) (v0 (opQ q))++Xcg (rtN (P55.d2 q.a q.c)) false (!q.cw) (v0 q.b) else Xcg (rtN (P55.d2 q.a q.c)) (lgQ q) (!q.cw) (v0 q.b)
theorem Ynw(h:VQ 700 q): WdC (cvQ q) (wdQ q):=by
 unfold wdQ
 cases ha:q.arc with
 | false=>rw[if_pos rfl];exact .seg ha
 | true =>
  rw[if_neg (λe=>by cases e)]
  have o:=(P13.Equal_g W0 (gv0 h.a) (gv0 h.b) (by decide) (by decide))
  split
  . rename_i e
    have hs:=VQ.way h ha
    refine .full (w:=v0 (Xbb (K:=0) q.c q.a)) ha (Ydc h ha) (o.mono λv i=>i.trans (congrArg AV.b (Xal.2 e))) ?_ ?_
    . exact(P13.Sub_g W0 (gv0 h.c) (gv0 h.a) (by decide) (by decide)).mono λv ⟨z,e,j⟩=>by rw[e,Xci j]
    . exact(P13.Add_g W0 (gv0 h.c) (gv0 hs) (by decide) (by decide)).mono λv ⟨z,e,j⟩=>by rw[e,Xci j];rfl
  . rename_i e
    exact .part ha (Ydc h ha) (o.mono λv i=>i.trans (congrArg AV.b (P11.dcF e))) (Yaz h ha e)
noncomputable def wds(R:List Cq)(c d:Cq): List Wv:=hdW (cvQ c)++(R.map wdQ).flatten++(if dc (c.a=d.b) then [.mk [90]] else [])
theorem Xuf{R:List Cq}{c d:Cq}(M:R.length<=1000)(o:R[0]?=some c)(hd:R[R.length-1]?=some d)(j:∀c∈R,VQ 700 c): C0 23 [.d (Xd1 (R.map cvQ))] (·=.tup (.pr (.d (dWs (wds R c d))) (.d (.int .i64 0)))):=by
 refine P55.words_ok (c0:=cvQ c) (d0:=cvQ d) (Z:=R.map wdQ) (cl:=dc (c.a=d.b)) (by simp[o]) (by simp[hd]) (by simpa using M) (by simp) (λi x w A B=>?_) (P13.Equal_g W0 (gv0 (j c (W0e o)).a) (gv0 (j d (W0e hd)).b) (by decide) (by decide))
 simp only[W0w,Option.map_eq_some_iff] at A B
 obtain⟨y,I,rfl⟩:=A
 obtain⟨O,h,rfl⟩:=B
 rw[I] at h
 cases h
 exact Ynw (j y (W0e I))
end
end Go.Proofs.YtcmjannkbdflmaaGreatDoor.P57
namespace Go.Num
theorem Xq3: ∀ {x:List UInt8} {r:List (List UInt8)},32 ∉ x->(∀t∈r,32 ∉ t)->spl (Lib.join (x::r) [32])=x::r
 | x,[],h,_=>by rw[Lib.join_one,Xmv h]
 | x,y::r,h,i=>by
  have e:Lib.join (x::y::r) [32]=x++32::Lib.join (y::r) [32]:=by
   rw[Lib.join_cons,Lib.join_cons]
   simp[Lib.joinTail]
  rw[e,Xjt h,Xq3 (i y W0v) λt j=>i t (W1b _ j)]
theorem Xwp{n:Nat}: ∀ {l:List (List UInt8)},(∀t∈l,t.length<=n)->Lib.lens l<=n*l.length
 | [],_=>W0s _
 | x::l,h=>by
  have j:=h x W0v
  have o:=Xwp λt i=>h t (W1b _ i)
  unfold Lib.lens at *
  rw[W3t,List.sum_cons,W0j,Nat.mul_succ]
  omega
theorem Xwu{n m:Nat}{l:List (List UInt8)}(h:∀t∈l,t.length<=n)(i:l.length<=m): (Lib.join l [32]).length<=m*(n+1):=by
 cases l with
 | nil=>exact W0s _
 | cons x r =>
  rw[Lib.join_length]
  have o:Lib.lens (x::r)<=n*(r.length+1):=Xwp h
  have j:(r.length+1)*(n+1)<=m*(n+1):=W0x (n+1) i
  have e:(r.length+1)*(n+1)=n*(r.length+1)+(r.length+1):=by rw[Nat.mul_succ,W1f]
  rw[e] at j
  simp only[W0j,W3e]
  omega
theorem Xv7{z:Int}{k:Nat}(j:(txt z k).length<=400): (num (txt z k)).isSome=true/\32 ∉ txt z k:=by
 obtain⟨a,b,o,_,_,A,_,B,I⟩:=Xvy j
 refine⟨by rw[Xv6 o];rfl,λh=>?_⟩
 have i:isD 32=false:=by decide
 rw[A] at h
 rcases W2c.1 h with h | h
 . unfold sgB at h
   split at h
   . simp at h
   . simp at h
 . rcases W2c.1 h with h | h
   . have:=W1q.1 B _ h
     rw[i] at this;cases this
   . unfold ptB at h
     split at h
     . simp at h
     . rcases W1h.1 h with h | h
       . cases h
       . have:=W1q.1 I _ h
         rw[i] at this;cases this
theorem Yfs{x y:Wd}{r:List Wd}(h:(num x).isSome=true)(i:(num y).isSome=true): ∃p,pt2 (x::y::r)=some (p,r):=by
 obtain⟨a,ha⟩:=W2g.1 h
 obtain⟨b,hb⟩:=W2g.1 i
 exact⟨(a,b),by rw[pt2,ha,hb]⟩
theorem Yl9{x y:Wd}{r:List Wd}(i:(num x).isSome=true)(j:(num y).isSome=true)(h:(body r).isSome=true): (body ([76]::x::y::r)).isSome=true:=by
 obtain⟨p,hp⟩:=Yfs (r:=r) i j
 rw[Xez (show cmd ([76]::x::y::r)=some ([p],r) by rw[cmd,if_pos rfl,hp];rfl)]
 simpa using h
theorem Yma{u f g x y:Wd}{r:List Wd}(i:(num u).isSome=true)(hf:Xmk f)(j:Xmk g)(o:(num x).isSome=true)(A:(num y).isSome=true)(h:(body r).isSome=true): (body ([65]::u::u::[48]::f::g::x::y::r)).isSome=true:=by
 obtain⟨p,hp⟩:=Yfs (r:=r) o A
 rw[Xez (show cmd ([65]::u::u::[48]::f::g::x::y::r)=some ([p],r) by rw[cmd,if_neg (by decide),if_pos rfl,Xp4,if_pos ⟨i,i,rfl,hf,j⟩,hp];rfl)]
 simpa using h
end Go.Num
namespace Go.Proofs.YtcmjannkbdflmaaGreatDoor.P57
open Go Go.Vm Go.Num Go.Tow Go.Proofs.YtcmjannkbdflmaaGreatDoor
open Go.Proofs.YtcmjannkbdflmaaGreatDoor.P55 (v0 W0 g0 gv0 zw Xci Qp nr Xaw Wv dWv dWs WdC Xcg Xoo hdW flB)
variable{q:Cq}
def NbW: Wv->Prop
 | .mk s=>s.length=1/\32 ∉ s
 | .nu x=>Nb x
noncomputable def txW(d:Nat): Wv->List UInt8
 | .mk s=>s
 | .nu x=>txt (zR x d) d
theorem NbW.t{w:Wv}{d:Nat}(h:NbW w)(hd:d<=20): (txW d w).length<=400/\32 ∉ txW d w:=by
 cases w with
 | mk s=>exact⟨by have i:s.length=1:=h.1;show s.length<=400;omega,h.2⟩
 | nu x =>
  have h:Nb x:=h
  exact⟨h.tl hd,(Xv7 (h.tl hd)).2⟩
theorem Nb.n{x:Nm}{d:Nat}(h:Nb x)(hd:d<=20): (num (txt (zR x d) d)).isSome=true:=(Xv7 (h.tl hd)).1
structure NbV (v:Vn):Prop where
 x:Nb v.x
 y:Nb v.y
theorem NbV.of{p:Rat×Rat}(h:Qp 1000 p): NbV (v0 p):=⟨Nb.rat h.1,Nb.rat h.2⟩
theorem Xsm(b:Bool): Xmk (flB b)/\NbW (.mk (flB b)):=by
 cases b
 . exact⟨.inl rfl,by unfold flB;exact⟨by decide,by decide⟩⟩
 . exact⟨.inr rfl,by unfold flB;exact⟨by decide,by decide⟩⟩
inductive Wc:List Wv->Prop
 | nil:Wc []
 | seg {x:Vn} {l:List Wv} (hx:NbV x) (h:Wc l):Wc (Xoo x++l)
 | arc {r:Nm} {a b:Bool} {x:Vn} {l:List Wv} (hr:Nb r) (hx:NbV x) (h:Wc l):Wc (Xcg r a b x++l)
theorem Wc.app{l m:List Wv}(h:Wc l)(k:Wc m): Wc (l++m):=by
 induction h with
 | nil=>exact k
 | seg i _ j=>rw[W2j];exact .seg i j
 | arc o i _ j=>rw[W2j];exact .arc o i j
theorem Wc.nb{l:List Wv}(h:Wc l): ∀w∈l,NbW w:=by
 induction h with
 | nil=>exact nofun
 | @seg x l j _ o =>
  intro w i
  rcases W2c.1 i with i | i
  . simp only[Xoo,W1h,W6d,or_false] at i
    rcases i with rfl | rfl | rfl
    . exact⟨by decide,by decide⟩
    . exact j.x
    . exact j.y
  . exact o w i
 | @arc r a b x l A j _ o =>
  intro w i
  rcases W2c.1 i with i | i
  . simp only[Xcg,W1h,W6d,or_false] at i
    rcases i with rfl | rfl | rfl | rfl | rfl | rfl | rfl | rfl
    . exact⟨by decide,by decide⟩
    . exact A
    . exact A
    . exact⟨by decide,by decide⟩
    . exact(Xsm a).2
    . exact(Xsm b).2
    . exact j.x
    . exact j.y
  . exact o w i
theorem Wc.body{d:Nat}(hd:d<=20){t:List (List UInt8)}(o:(body t).isSome=true){l:List Wv}(h:Wc l): (Num.body (l.map (txW d)++t)).isSome=true:=by
 induction h with
 | nil=>exact o
 | seg i _ j=>exact Yl9 (i.x.n hd) (i.y.n hd) j
 | arc A i _ j=>exact Yma (A.n hd) (Xsm _).1 (Xsm _).1 (i.x.n hd) (i.y.n hd) j
theorem Ynx(h:VQ 700 q): Wc (wdQ q):=by
 unfold wdQ
 have hb:NbV (v0 q.b):=.of (R47.Qp.mono' h.b (by decide))
 cases ha:q.arc with
 | false =>
  rw[if_pos rfl]
  exact Wc.seg (l:=[]) hb .nil
 | true =>
  rw[if_neg (λe=>by cases e)]
  obtain⟨_,_,o,_⟩:=h.u ha
  have i:=Yjm (h.w ha).2.2.2 o
  have j:=VQ.way h ha
  have A:NbV (v0 (opQ q)):=.of ⟨(h.c.1.add j.1).mono (by decide),(h.c.2.add j.2).mono (by decide)⟩
  split
  . exact Wc.arc i A (Wc.arc (l:=[]) i hb .nil)
  . exact Wc.arc (l:=[]) i hb .nil
theorem Xug: ∀ {R:List Cq},(∀c∈R,VQ 700 c)->Wc (R.map wdQ).flatten
 | [],_=>.nil
 | c::R,h=>by
  rw[W3t,List.flatten_cons]
  exact(Ynx (h c W0v)).app (Xug λx i=>h x (W1b _ i))
theorem Yem: (wdQ q).length<=16:=by
 unfold wdQ
 split
 . show 3<=16;decide
 . split
   . simp[Xcg]
   . simp[Xcg]
theorem Xko: ∀ {R:List Cq},(R.map wdQ).flatten.length<=16*R.length
 | []=>W0s _
 | c::R=>by
  rw[W3t,List.flatten_cons,W0d,W0j]
  have:=Yem (q:=c)
  have:=Xko (R:=R)
  omega
section
variable{R:List Cq}{c e:Cq}{d:Nat}
theorem Xmm(o:c∈R)(j:∀c∈R,VQ 700 c): ∀w∈wds R c e,NbW w:=λw i=>by
 unfold wds at i
 rcases W2c.1 i with i | i
 . rcases W2c.1 i with i | i
   . have h:=j c o
     simp only[hdW,W1h,W6d,or_false] at i
     rcases i with rfl | rfl | rfl
     . exact⟨by decide,by decide⟩
     . exact Nb.rat (h.a.1.mono (by decide))
     . exact Nb.rat (h.a.2.mono (by decide))
   . exact(Xug j).nb w i
 . split at i
   . obtain rfl:=W0f.1 i;exact⟨by decide,by decide⟩
   . cases i
theorem Xkn: (wds R c e).length<=16*R.length+4:=by
 unfold wds
 have:=Xko (R:=R)
 rw[W0d,W0d]
 have h:(hdW (cvQ c)).length=3:=rfl
 have i:(if dc (c.a=e.b) then [Wv.mk [90]] else []).length<=1:=by split<;>decide
 omega
noncomputable def ptx(R:List Cq)(c e:Cq)(d:Nat): List UInt8:=Lib.join ((wds R c e).map (txW d)) [32]
theorem Xvw(hd:d<=20)(j:c∈R)(o:∀c∈R,VQ 700 c): spl (ptx R c e d)=(wds R c e).map (txW d):=by
 have h:=Xmm (e:=e) j o
 have i:(wds R c e).map (txW d)=[77]::((wds R c e).map (txW d)).tail:=rfl
 unfold ptx
 rw[i]
 refine Xq3 (by decide) λt A=>?_
 obtain⟨w,B,rfl⟩:=W3l.1 (show t∈(wds R c e).map (txW d) by rw[i];exact W1b _ A)
 exact((h w B).t hd).2
theorem Xo5(hd:d<=20)(A:R.length<=5)(h:c∈R)(i:∀c∈R,VQ 700 c): (ptx R c e d).length<=34000:=by
 have B:=Xkn (R:=R) (c:=c) (e:=e)
 have:=Xwu (n:=400) (m:=84) (l:=(wds R c e).map (txW d)) (λt j=>by
  obtain⟨w,o,rfl⟩:=W3l.1 j
  exact((Xmm h i w o).t hd).1) (by rw[W0i];omega)
 unfold ptx
 omega
theorem Ydf(hd:d<=20)(j:c∈R)(i:∀c∈R,VQ 700 c): (rdP (spl (ptx R c e d))).isSome=true:=by
 rw[Xvw hd j i]
 have h:=i c j
 obtain⟨p,hp⟩:=Yfs (r:=((R.map wdQ).flatten.map (txW d))++(if dc (c.a=e.b) then [[90]] else [])) ((Nb.rat (h.a.1.mono (show 700<=1000 by decide))).n hd) ((Nb.rat (h.a.2.mono (show 700<=1000 by decide))).n hd)
 have o:(wds R c e).map (txW d)=[77]::txt (zR (nr c.a.1) d) d::txt (zR (nr c.a.2) d) d::(((R.map wdQ).flatten.map (txW d))++(if dc (c.a=e.b) then [[90]] else [])):=by
  unfold wds
  rw[W1k,W1k]
  show [77]::_::_::(_++_)=_
  congr 4
  split<;>rfl
 rw[o,rdP,if_pos rfl,hp]
 have hb:=(Xug i).body hd (t:=if dc (c.a=e.b) then [[90]] else []) (by split<;>rfl)
 simpa using hb
theorem Ymw(hd:d<=20)(I:R.length<=5)(j:R[0]?=some c)(M:R[R.length-1]?=some e)(h:∀c∈R,VQ 700 c)(O:Lnk R): C0 6 [.d (Xd1 (R.map cvQ)),.d (.int .i64 d)] (·=.tup (.pr (.d (.str (ptx R c e d))) (.d (.int .i64 0)))):=by
 have o:=W0e j
 have h0:0<R.length:=(W1e.1 j).1
 refine P55.Path_ok (W:=wds R c e) (T:=(wds R c e).map (txW d)) ⟨by omega,by omega⟩ ((Xls (by omega) h0 h).mono λv e=>by rw[e,P11.dcT O]) (Xuf (by omega) j M h) (by have:=Xkn (R:=R) (c:=c) (e:=e);omega) (by simp) (λi w t A B=>?_) (by have:=Xo5 (e:=e) hd I o h;unfold ptx at this;omega)
 rw[W0w,A] at B
 cases B
 have Q:=Xmm (e:=e) o h w (W0e A)
 cases w with
 | mk s=>rfl
 | nu x=>exact(show Nb x from Q).pF hd
theorem Yh6{n:Int}(h0:0<R.length)(B:R.length<=100)(i:∀c∈R,VQ 700 c)(h:¬(0<=n/\n<=20/\Lnk R)): C0 6 [.d (Xd1 (R.map cvQ)),.d (.int .i64 n)] (·=.tup (.pr (.d (.str [])) (.d (.int .i64 1)))):=by
 refine En Tryz.func6 λ_ _ _=>?_
 refine By rfl (λj=>?_) λj=>?_
 . exact R0t
 refine By rfl (λo=>?_) λo=>?_
 . exact R0t
 exact Ce rfl (Xls (by omega) h0 i)<|Yes rfl (λA=>h ⟨by omega,by omega,A⟩)<|R0t
end
end Go.Proofs.YtcmjannkbdflmaaGreatDoor.P57

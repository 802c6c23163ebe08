/- part 6 -/
import Derived.Test.YtclgppjdhndgiaaGreatDoorXE
import Derived.RangeFuncCalls
set_option linter.unusedVariables false
set_option linter.unusedSimpArgs false
set_option maxRecDepth 100000
set_option maxHeartbeats 4000000
namespace Go.Proofs.YtclgppjdhndgiaaGreatDoor
open Go Go.Vm Go.Num Go.Proofs Go.Shelf Go.RowKit
section
def pa6: Option (List Nat)->AV
 | none=>.nil
 | some w=>.own 600 1 0 w.length
def paH: Option (List Nat)->Hpl
 | none=>[(2,.var (.st (.pr (.b false) .nil)))]
 | some w=>[(2,.var (.st (.pr (.b false) .nil))),(600,.arr 1 (w.map wd))]
def paI(s d:List UInt8): Option (List Nat)->Prop
 | none=>d=s
 | some w=>∃u,s=u++d/\w=dig (Xb9 u)/\0<Xb9 u
theorem Yam{c:Nat}(h:c<4294967296)(h0:0<c): dig c=[c]:=by
 have h1:val [c]=c:=by simp[val]
 have:=Xdc (l:=[c]) (λx hx=>by rw[W0g.1 hx];exact h) (Xfi (λx hx=>by rw[W0g.1 hx];exact h) (by simp) (by rw[h1];have:4294967296^([c].length-1)=1:=rfl;omega))
 rwa[h1] at this
theorem Xlg{l:List UInt8}(h:∀b∈l,Xja b): (dig (Xb9 l)).length<=l.length :=
 Xaq (W0s (Xis h) (W6c (by decide) _))
theorem Ybb{s:List UInt8}(hs:∀b∈s,Xja b)(hl:s.length<=65536)(h0:∃b l,s=b::l/\48<b.toNat): C0 142 [.d (.str s)] (·=.tup (.pr (.d (dz (Xb9 s))) (.d (.int .i64 0)))):=by
 obtain⟨b,l,hbl,hb⟩:=h0
 have hcp:C0 99 [.d (.str s),.d (.str [45])] (·=.tup (.pr (.d (.str s)) (.b false))):=by
  have hn:¬s.take [(45:UInt8)].length=[45]:=λe=>by
   rw[hbl] at e
   have:b=45:=by simpa using e
   rw[this] at hb;exact absurd hb (by decide)
  refine(Xed (s:=s) (t:=[45]) (by show s.length<_;omega) (by decide)).mono λv hv=>?_
  rw[hv,if_neg hn]
  congr 3
  exact W2m.2 λe=>hn (Xal.1 e)
 refine En Tryz.func142 λ_ _ _=>?_
 refine No rfl (by omega) ?_
 refine Ce rfl hcp ?_
 refine No rfl (by rw[hbl];simp) ?_
 refine Yx 0 b rfl (by rw[hbl];rfl) ?_
 refine No rfl (λe=>by omega) ?_
 refine Lo (λ((d,o):List UInt8×Option (List Nat))=>[(2,.ptr 2 0),(3,.d (.int .i64 0)),(4,.d (.str d)),(5,.b false),(6,pa6 o)]) (λ(_,o)=>paH o)
  (λ(d,o)=>d.length<=s.length/\(∀b∈d,Xja b)/\paI s d o) (λ(d,_)=>d.length) (s,none) [] rfl ⟨W0c _,hs,rfl⟩ ?_ (by exact⟨rfl,rfl,rfl,rfl,rfl⟩)
 rintro⟨d,o⟩ ⟨hdl,hdd,hI⟩
 cases o with
 | none =>
  refine By rfl (λhd0=>?_) λhd0=>?_
  . obtain⟨n,hn⟩:∃n,n=(d.length-1)%9+1:=⟨_,rfl⟩
    refine Ar (d.length-1:Nat) rfl ?_
    refine Ar ((d.length-1)%9:Nat) rfl ?_ (reN (b:=9) (by decide) rfl)
    refine Ar (n:Nat) rfl ?_
    have hnl:n<=d.length:=by omega
    refine Lo (λ(i:Nat)=>[(2,.ptr 2 0),(3,.d (.int .i64 0)),(4,.d (.str d)),(5,.b false),(6,pa6 (none)),(7,.d (.int .i64 n)),(8,.d (.int .u64 (Xb9 (d.take i):Nat))),(9,.d (.int .u64 (10^i:Nat))),(46,.d (.int .i64 n)),(47,.d (.int .i64 i))]) (λ_=>paH (none)) (λi=>i<=n) (λi=>n-i) 0 [] rfl (W0x _) ?_ (by exact⟨rfl,rfl,rfl,rfl,rfl⟩)
    intro i hi
    have htk:∀j,j<=n->Xb9 (d.take j)<10^j/\10^j<=10^9:=λj hj=>by
     have:=Xis (l:=d.take j) λb hb=>hdd b (W5t hb)
     rw[W0j,W2b (by omega)] at this
     exact⟨this,W0m (by decide) (by omega)⟩
    refine By rfl (λhlt=>?_) λhlt=>?_
    . obtain⟨x,hx⟩:∃x,d[i]?=some x:=⟨_,W0a (by omega)⟩
      have hxd:=hdd x (W0h hx)
      unfold Xja at hxd
      have hsn:d.take (i+1)=d.take i++[x]:=by rw[W1c,hx];rfl
      have hv:=Xcf (d.take i) x
      rw[<-hsn] at hv
      have h1:=htk i (by omega)
      have h2:=htk (i+1) (by omega)
      refine Yx i x rfl hx ?_
      refine No rfl (by omega) ?_
      refine No rfl (by omega) ?_
      refine Ar (10*Xb9 (d.take i):Nat) rfl ?_
      refine Ar (x.toNat-48:Nat) rfl ?_
      refine Go.Vm.Cv (x.toNat-48:Nat) rfl ?_
      refine Ar (Xb9 (d.take (i+1)):Nat) rfl ?_
      refine Ar (10^(i+1):Nat) rfl ?_ (wr (by rw[W0q];simp) (by simp only[inK];omega))
      refine Ar (i+1:Nat) rfl ?_
      exact Bk (i+1) [] rfl (show i+1<=n by omega) (show n-(i+1)<n-i by omega) (by exact⟨rfl,rfl,rfl,rfl,rfl⟩)
    . have hin:i=n:=by omega
      subst hin
      obtain⟨c0,hc0⟩:∃c,c=Xb9 (d.take i):=⟨_,rfl⟩
      obtain⟨F,hF⟩:∃F,F=10^i:=⟨_,rfl⟩
      have h1:=htk i (W0c _)
      rw[<-hc0,<-hF] at h1
      have hds:d=s:=hI
      refine Lo (λ(_:Unit)=>[(2,.ptr 2 0),(3,.d (.int .i64 0)),(4,.d (.str d)),(5,.b false),(6,.nil),(7,.d (.int .i64 i)),(8,.d (.int .u64 c0)),(70,.d (.int .i64 0)),(71,.d (.int .i64 0))]) (λ_=>[(2,.var (.st (.pr (.b false) .nil)))]) (λ_=>True) (λ_=>0) () [] rfl trivial ?_ (by exact⟨by rw[hc0];rfl,rfl,rfl,rfl,rfl⟩)
      intro _ _
      refine No rfl (by decide) ?_
      have hcp:0<c0:=by
       rw[hc0,hds,hbl]
       obtain⟨q,hq⟩:∃q,i=q+1:=⟨i-1,by omega⟩
       rw[hq,List.take_succ_cons]
       exact Yai hb
      refine Yes rfl (by omega) ?_
      refine Go.Vm.Cv c0 rfl ?_
      refine ApW rfl (by simp) (by simp) ?_
      refine Sdp i (d.drop i) rfl (by omega) rfl ?_
      refine Bk (d.drop i,some [c0]) [(97,600)] rfl ⟨by simp only[W1n];omega,λb hb=>hdd b (W6o hb),d.take i,by rw[<-hds,W4d],by rw[<-hc0,Yam (by omega) hcp],by rw[<-hc0];exact hcp⟩ (by show (d.drop i).length<d.length;rw[W1n];omega) (by exact⟨rfl,rfl,rfl,rfl,rfl⟩)
  . exact absurd (show d=s from hI) (λe=>by rw[e,hbl] at hd0;simp at hd0)
 | some w =>
  obtain⟨u,hu,hw,hv0⟩:=hI
  refine By rfl (λhd0=>?_) λhd0=>?_
  . obtain⟨n,hn⟩:∃n,n=(d.length-1)%9+1:=⟨_,rfl⟩
    refine Ar (d.length-1:Nat) rfl ?_
    refine Ar ((d.length-1)%9:Nat) rfl ?_ (reN (b:=9) (by decide) rfl)
    refine Ar (n:Nat) rfl ?_
    have hnl:n<=d.length:=by omega
    refine Lo (λ(i:Nat)=>[(2,.ptr 2 0),(3,.d (.int .i64 0)),(4,.d (.str d)),(5,.b false),(6,pa6 (some w)),(7,.d (.int .i64 n)),(8,.d (.int .u64 (Xb9 (d.take i):Nat))),(9,.d (.int .u64 (10^i:Nat))),(46,.d (.int .i64 n)),(47,.d (.int .i64 i))]) (λ_=>paH (some w)) (λi=>i<=n) (λi=>n-i) 0 [] rfl (W0x _) ?_ (by exact⟨rfl,rfl,rfl,rfl,rfl⟩)
    intro i hi
    have htk:∀j,j<=n->Xb9 (d.take j)<10^j/\10^j<=10^9:=λj hj=>by
     have:=Xis (l:=d.take j) λb hb=>hdd b (W5t hb)
     rw[W0j,W2b (by omega)] at this
     exact⟨this,W0m (by decide) (by omega)⟩
    refine By rfl (λhlt=>?_) λhlt=>?_
    . obtain⟨x,hx⟩:∃x,d[i]?=some x:=⟨_,W0a (by omega)⟩
      have hxd:=hdd x (W0h hx)
      unfold Xja at hxd
      have hsn:d.take (i+1)=d.take i++[x]:=by rw[W1c,hx];rfl
      have hv:=Xcf (d.take i) x
      rw[<-hsn] at hv
      have h1:=htk i (by omega)
      have h2:=htk (i+1) (by omega)
      refine Yx i x rfl hx ?_
      refine No rfl (by omega) ?_
      refine No rfl (by omega) ?_
      refine Ar (10*Xb9 (d.take i):Nat) rfl ?_
      refine Ar (x.toNat-48:Nat) rfl ?_
      refine Go.Vm.Cv (x.toNat-48:Nat) rfl ?_
      refine Ar (Xb9 (d.take (i+1)):Nat) rfl ?_
      refine Ar (10^(i+1):Nat) rfl ?_ (wr (by rw[W0q];simp) (by simp only[inK];omega))
      refine Ar (i+1:Nat) rfl ?_
      exact Bk (i+1) [] rfl (show i+1<=n by omega) (show n-(i+1)<n-i by omega) (by exact⟨rfl,rfl,rfl,rfl,rfl⟩)
    . have hin:i=n:=by omega
      subst hin
      obtain⟨c0,hc0⟩:∃c,c=Xb9 (d.take i):=⟨_,rfl⟩
      obtain⟨F,hF⟩:∃F,F=10^i:=⟨_,rfl⟩
      have h1:=htk i (W0c _)
      rw[<-hc0,<-hF] at h1
      have hww:Xan w:=by rw[hw];exact Xad _
      have hvw:val w=Xb9 u:=by rw[hw,Xaf]
      have hwl:w.length<=65536:=by
       rw[hw]
       refine W0l (Xlg λb hb=>hs b (by rw[hu];exact W2q _ hb)) ?_
       rw[hu,W0d] at hl
       omega
      refine Lo (λ((j,lo,cr):Nat×List Nat×Nat)=>[(2,.ptr 2 0),(3,.d (.int .i64 0)),(4,.d (.str d)),(5,.b false),(6,.own 600 1 0 w.length),(7,.d (.int .i64 i)),(8,.d (.int .u64 cr)),(9,.d (.int .u64 F)),(70,.d (.int .i64 w.length)),(71,.d (.int .i64 j))]) (λ(_,lo,_)=>[(2,.var (.st (.pr (.b false) .nil))),(600,.arr 1 (lo.map wd))])
       (λ(j,lo,cr)=>j<=w.length/\lo.length=w.length/\Xan lo/\cr<F/\val (lo.take j)+4294967296^j*cr=val (w.take j)*F+c0/\lo.drop j=w.drop j) (λ(j,_,_)=>w.length-j) (0,w,c0) [] rfl ⟨W0x _,rfl,hww,h1.1,by simp[val],rfl⟩ ?_ (by exact⟨by rw[hc0,hF];rfl,rfl,rfl,rfl,rfl⟩)
      rintro⟨j,lo,cr⟩ ⟨hj,hlo,hwo,hcr,hval,hdr⟩
      refine By rfl (λhlt=>?_) λhlt=>?_
      . obtain⟨x,hx⟩:=xat (l:=lo) (k:=j) (by omega)
        have hxb:=ww hx hwo
        have hxw:w[j]?=some x:=by
         have:=congrArg (λl=>l[0]?) hdr
         simpa [hx] using this.symm
        have hxF:x*F<=4294967295*F:=W0v F (by omega)
        obtain⟨s1,hs1⟩:∃s1,s1=cr+x*F:=⟨_,rfl⟩
        have hs1b:s1<4294967296*F:=by omega
        refine Eo j rfl (by omega) ?_
        refine Ld (wd x) rfl (mp hx) ?_
        refine Go.Vm.Cv x rfl ?_
        refine Ar (x*F:Nat) rfl ?_ (wr (W2z ..).symm (by simp only[inK];omega))
        refine Ar s1 rfl ?_
        refine Go.Vm.Cv (s1%4294967296:Nat) rfl ?_ (by rw[wWm];omega)
        refine Eo j rfl (by omega) ?_
        refine Sto rfl (by simp;omega) ms ?_
        refine Ar (s1/2^32:Nat) rfl ?_ (Xhv (n:=32) (by decide))
        refine Ar (j+1:Nat) rfl ?_
        refine Bk (j+1,lo.set j (s1%4294967296),s1/2^32) [] rfl ⟨by omega,by simp[hlo],Xgo hwo (by omega),W4j (by simpa using hs1b),?_,?_⟩ (by show w.length-(j+1)<w.length-j;omega) (by exact⟨rfl,rfl,rfl,rfl,rfl⟩)
        . rw[Xbb (by omega),Xac hxw,W1h,W0q]
          have h3:4294967296^j*s1=4294967296^j*cr+4294967296^j*x*F:=by rw[hs1,W0y,W0r]
          have h4:4294967296^j*(s1%4294967296)+4294967296^j*4294967296*(s1/2^32)=4294967296^j*s1:=by
           rw[W0r,<-W0y]
           congr 1
           omega
          omega
        . rw[List.drop_set_of_lt (by omega)]
          have:=congrArg (List.drop 1) hdr
          rw[W4s,W4s] at this
          exact this
      . have hje:j=w.length:=by omega
        have hval':val lo+4294967296^lo.length*cr=Xb9 u*F+c0:=by
         rw[hje,W0b (by omega),W0b (W0c _),hvw] at hval
         rw[hlo];exact hval
        have hv':Xb9 (u++d.take i)=Xb9 u*F+c0:=by
         rw[Xhd,W0j,W2b hnl,<-hF,<-hc0]
        have hsd:s=(u++d.take i)++d.drop i:=by rw[W2i,W4d];exact hu
        have hF0:0<F:=by rw[hF];exact W6s (by decide)
        have hgrow:Xb9 u<=Xb9 u*F:=W4i _ hF0
        refine By rfl (λhc=>?_) λhc=>?_
        . refine Go.Vm.Cv cr rfl ?_
          refine ApO ((lo++[cr]).map wd) rfl rfl (by simp[hlo]) (by simp;rfl) (by simp;omega) ?_
          refine Sdp i (d.drop i) rfl (by omega) rfl ?_
          refine Bk (d.drop i,some (lo++[cr])) [(97,600)] rfl ⟨by simp only[W1n];omega,λb hb=>hdd b (W6o hb),u++d.take i,hsd,?_,by omega⟩ (by show (d.drop i).length<d.length;rw[W1n];omega) (by exact⟨by simp only[W0i];rfl,rfl,rfl,rfl,rfl⟩)
          have hva:val (lo++[cr])=Xb9 u*F+c0:=by rw[Xck,<-hval'];simp[val]
          rw[hv',<-hva]
          refine(Xdc (hwo.app (.cons (by omega) .nil)) (Xfi (hwo.app (.cons (by omega) .nil)) (by simp) ?_)).symm
          rw[Xck,W0d,W4f,W3j]
          have:4294967296^lo.length*1<=4294967296^lo.length*val [cr]:=W0p _ (by simp[val];omega)
          omega
        . refine Sdp i (d.drop i) rfl (by omega) rfl ?_
          refine Bk (d.drop i,some lo) [] rfl ⟨by simp only[W1n];omega,λb hb=>hdd b (W6o hb),u++d.take i,hsd,?_,by omega⟩ (by show (d.drop i).length<d.length;rw[W1n];omega) (by exact⟨by simp only[pa6,hlo];rfl,rfl,rfl,rfl,rfl⟩)
          have hcr0:cr=0:=by omega
          rw[hcr0,W3h,W2o] at hval'
          rw[hv',<-hval']
          have hlb:=Xm3 (n:=Xb9 u) (by omega)
          rw[<-hw] at hlb
          have hl0:0<w.length:=by
           rw[hw];exact W4n.2 λe=>by have:=Xsl.1 e;omega
          exact(Xdc hwo (Xfi hwo (by omega) (by rw[hlo];omega))).symm
  . have hd0:d=[]:=W2s.1 (by omega)
    subst hd0
    rw[W3g] at hu
    subst hu
    subst hw
    have hdl:=Xlg hs
    refine Fz 29 6 ((dig (Xb9 s)).map wd) rfl (by simp) (by rw[W1a,W0b (by simp)]) ?_
    refine Ce rfl (Xaj (b:=false) (n:=Xb9 s) (by omega)) ?_
    exact R0t
end
section
theorem Xvt{q n:Nat}{l:List Nat}(hw:Xan l)(hq:q+n<=l.length)(hl:n<=1099511627776): CN0 116 [.own 1000001 1 q n] [(1000001,.arr 1 (l.map wd))] λv=>∃k,k<=n/\v=.own 1000001 1 q k/\(l.drop q).take k=dig (val ((l.drop q).take n)):=by
 have dtk:∀ {m k:Nat},k<m->((l.drop q).take m)[k]?=l[q+k]?:=λh=>by rw[W1j,if_pos h,W2f]
 have Xyh:∀ {m:Nat},q+m<=l.length->((l.drop q).take m).length=m:=λh=>by rw[W0j,W1n];omega
 refine EnW Tryz.func116 λ_ _ _ _=>?_
 refine Lo (λk=>[(0,.own 1000001 1 q k)]) (λ_=>[(1000001,.arr 1 (l.map wd))]) (λk=>k<=n/\val ((l.drop q).take k)=val ((l.drop q).take n)) id n [] rfl ⟨W0c _,rfl⟩ λk ⟨hk,hv⟩=>?_
 have hwk:=(hw.drop q).take k
 refine By rfl (λh=>?_) λh=>?_
 . obtain⟨u,hu⟩:=xat (l:=l) (k:=q+(k-1)) (by omega)
   have hs:=Xac (l:=l.drop q) (k:=k-1) (x:=u) (by rw[W2f];exact hu)
   rw[show k-1+1=k by omega,hv] at hs
   refine Ar (k-1:Nat) rfl ?_
   refine El (k-1) rfl (by omega) ?_
   refine Ld (wd u) rfl (mp hu) ?_
   refine By rfl (λh0=>?_) λh0=>?_
   . refine Ar (k-1:Nat) rfl ?_
     refine Sw 0 (k-1) rfl (by omega) (by omega) ?_
     exact Bk (k-1) [] rfl ⟨by omega,by rw[hs,show u=0 by omega,W3h,W2o]⟩ (show k-1<k by omega)
   . exact Rw [] [(1000001,.arr 1 (l.map wd))] rfl (.one (.rf rfl) rfl rfl) ⟨rfl,k,hk,rfl,by rw[<-hv,Xdc hwk (.inr ⟨u,by rw[Xyh (by omega),dtk (by omega)];exact hu,λe=>h0 (by rw[e];rfl)⟩)]⟩
 . refine Rw [] [(1000001,.arr 1 (l.map wd))] rfl (.one (.rf rfl) rfl rfl) ⟨rfl,k,hk,rfl,?_⟩
   rw[show k=0 by omega] at hv |-
   rw[<-hv,W8e,val,Xak]
theorem Xlj{l:List Nat}(h0:0<l.length)(hl:l.length<=1099511627776): CA0 121 [.d (ws l)] 1 (l.map wd):=by
 refine EnW Tryz.func121 λ_ _ _ _=>?_
 refine Ub rfl (λh=>?_) ?_
 . exact absurd h (by intro e; have:l.length = 0 := by simpa using congrArg List.length e
                      omega)
 refine ApL (l.map wd) rfl rfl (by simpa using h0) (by simpa using hl) ?_
 exact Rw [(7,1000000)] [(1000000,.arr 1 (l.map wd))] rfl (.one (.rf rfl) rfl rfl) ⟨_,rfl,rfl,rfl⟩
theorem Xo9: C0 100 [.d (dz 0)] (·=.d (.str [48])):=by
 refine En Tryz.func100 λ_ _ _=>?_
 refine Ce rfl (Xcb (n:=0) (by rw[Xak];decide)) ?_
 refine Ce rfl (Xbm (l:=dig 0) (by rw[Xak];decide)) ?_
 refine Yes rfl (by rw[Xak];rfl) ?_
 exact R0
def Fm9(z x n:Nat)(lo cs:List Nat): Prop:=n<=lo.length/\lo.length<=549755813888/\Xan lo/\lo.take n=dig x/\cks z=cs++cks x
theorem Yg6{z x n:Nat}{lo cs:List Nat}(h:Fm9 z x n lo cs): n=(dig x).length:=by
 have:=congrArg List.length h.2.2.2.1
 rw[W0j,W2b h.1] at this
 exact this
end
section
attribute [local go_sem] Oper.semAt_some
abbrev C9:={ x:Nat // x<1000000000 }
def b9(zs:List C9)(k:Nat): List (Nat×C9):=(List.range k).map λj=>(zs.length-1-j,zs[zs.length-1-j]?.getD ⟨0,by decide⟩)
theorem Xxs(zs:List C9)(k:Nat): b9 zs (k+1)=b9 zs k++[(zs.length-1-k,zs[zs.length-1-k]?.getD ⟨0,by decide⟩)]:=by simp[b9,W7u]
theorem Xxt(zs:List C9)(k:Nat): (b9 zs k).length=k:=by simp[b9]
set_option maxRecDepth 100000 in
set_option maxHeartbeats 2000000 in
theorem Yk4(F:Fence)(n:Nat)(h8:F.fn 268)(hro:F.round=none)(hn:1<=n)(l Bs n₀ b off cap:Nat)(zs:List C9)(hreach:zs.length*4<=140737488351232)(hb:b<n₀)(J Jx:List (Nat×C9)->World->Prop)
 (hY:∀pre x W,J pre W->pre.length<zs.length->YieldAt F (n-1) Tryz.prog l #[.int .i64 (x.1:Int),.int .u32 (x.2.1:Int)] W λe W' =>
  (e=.returned (.bool true)/\J (pre++[x]) W'/\Kq n₀ Bs W W')\/(e=.returned (.bool false)/\Jx (pre++[x]) W'))
 (W:World) (hBs:W.cell? ⟨Bs,0,none⟩=some (.slice (some ⟨b,off,none⟩) zs.length cap)) (hc:∀j,j<zs.length->W.cell? ⟨b,off+j,none⟩=some (.int .u32 ((zs[j]?.getD ⟨0,by decide⟩).1:Int))) (h0:J [] W) :
 CallsIn F n Tryz.prog 268 #[.func (.yield l) #[] #[],.pointer (some ⟨Bs,0,none⟩)] W λe W'=>(∃v,e=.returned v) /\
  ((∃ys,ys=b9 zs zs.length/\J ys W')\/(∃pre,True/\Jx pre W')):=by
 refine callsIn_of_wp Tryz.func268 rfl h8 ?_ hro
 simp only[Tryz.ntmps268,W6j,W0k,W3l,Nat.reduceAdd,Nat.reduceSub,W5u,W5v,W6k,W6b,W4g,W3r]
 gi_wp2
 gi_loopw [3] (λi wr=>∃k:Nat,k<=zs.length/\i=.int .i64 ((zs.length:Int)-1-k)/\J (b9 zs k) wr/\Kq n₀ Bs W wr)
  (λi _=>(intOf i+1).toNat)
 case atStart=>exact⟨0,W0x _,by simp,h0,Kq.refl _ _ _⟩
 case round =>
  obtain⟨k,hk,rfl,hJs,hnx⟩:=hrel
  have hBs':=(World.cell?_of_block hnx.b).trans hBs
  by_cases hlt:k<zs.length
  . obtain⟨q,hq⟩:∃q,q+(k+1)=zs.length:=⟨zs.length-1-k,by omega⟩
    have hqi:((zs.length:Int)-1-k)=(q:Int):=by omega
    have hcx:=(hnx.a.cell (p:=⟨b,off+q,none⟩) hb).trans (hc q (by omega))
    obtain⟨fn,tmps,assign,body,hy,hR⟩:=hY _ (q,zs[q]?.getD ⟨0,by decide⟩) wr hJs (by rw[Xxt];exact hlt)
    dsimp only at hy
    rw[hqi]
    gi_wp2
    refine hR.mono ?_
    rintro e W3 (⟨rfl,hJ3,hk3⟩ | ⟨rfl,hJx3⟩)
    . gi_wp2
      go_roundw
      case rel=>exact⟨k+1,by omega,by congr 1;omega,by rw[Xxs,show zs.length-1-k=q by omega];exact hJ3,hnx.trans hk3⟩
      case measure=>simp[intOf]
    . gi_wp2
      refine bodyPost_ret (results_none rfl _ _ _) rfl ?_
      exact⟨⟨_,rfl⟩,.inr ⟨_,trivial,hJx3⟩⟩
  . obtain rfl:k=zs.length:=by omega
    rw[show ((zs.length:Int)-1-(zs.length:Int))=-1 by omega]
    gi_wp2
    go_end0
    exact⟨⟨_,rfl⟩,.inl ⟨_,rfl,hJs⟩⟩
theorem Xne(F:Fence)(n:Nat)(h8:F.fn 268)(hro:F.round=none)(hn:1<=n)(Bs n₀ b off cap:Nat)(zs:List C9)(hreach:zs.length*4<=140737488351232)(w:World)(hBs:Bs<w.heap.size)(hn₀:n₀<=w.heap.size)
 (hc:w.cell? ⟨Bs,0,none⟩=some (.slice (some ⟨b,off,none⟩) zs.length cap)) (hb:b<n₀) (hcs:∀j,j<zs.length->w.cell? ⟨b,off+j,none⟩=some (.int .u32 ((zs[j]?.getD ⟨0,by decide⟩).1:Int))) :
 SeqStopsK F n Tryz.prog 268 #[.pointer (some ⟨Bs,0,none⟩)] (λx:Nat×C9=>#[Value.int .i64 (x.1:Int),Value.int .u32 (x.2.1:Int)]) (Kq n₀ Bs) (λys=>ys=b9 zs zs.length)
  (λ_=>True) zs.length w:=λl J Jx W hW _ _ hY h0=>by
 have hc':=(hW.cell (p:=⟨Bs,0,none⟩) hBs).trans hc
 exact Yk4 F n h8 hro hn l Bs n₀ b off cap zs hreach hb J Jx hY W hc' (λj hj=>(hW.cell (p:=⟨b,off+j,none⟩) (W0s hb hn₀)).trans (hcs j hj)) h0
def o9(N:Nat)(sg:List UInt8): List (Nat×C9)->List UInt8:=List.foldl (λt x=>t++(if x.1+1<N then List.replicate (9-(dec x.2.1).length) 48 else [])++dec x.2.1) sg
theorem Xn9(N:Nat)(sg:List UInt8)(pre:List (Nat×C9))(x:Nat×C9): o9 N sg (pre++[x])=o9 N sg pre++(if x.1+1<N then List.replicate (9-(dec x.2.1).length) 48 else [])++dec x.2.1:=by simp[o9]
theorem Ynu(x:C9): (dec x.1).length<=9:=Xe8 8 x.1 x.2
theorem Xux(N:Nat): ∀(pre:List (Nat×C9)) (sg:List UInt8),(o9 N sg pre).length<=sg.length+18*pre.length
 | [],_=>W5y _ _
 | x::l,sg=>by
  have ih:=Xux N l (sg++(if x.1+1<N then List.replicate (9-(dec x.2.1).length) 48 else [])++dec x.2.1)
  have:=Ynu x.2
  have h:(if x.1+1<N then List.replicate (9-(dec x.2.1).length) (48:UInt8) else []).length<=9:=by split<;>simp
  simp only[W0d,W0k] at h ih |-
  refine W0l (show (o9 N sg (x::l)).length<=_ from ih) ?_
  omega
theorem Yeu(sg:List UInt8)(zs:List C9): ∀k,k<=zs.length->o9 zs.length sg (b9 zs k)=sg++Xzm ((zs.map (·.1)).drop (zs.length-k))
 | 0,_=>by
  rw[W1m (by simp)]
  simp[b9,o9,Xzm]
 | k+1,h=>by
  obtain⟨x,hx⟩:∃x,zs[zs.length-1-k]?=some x:=⟨_,W0a (by omega)⟩
  have hxm:(zs.map (·.1))[zs.length-(k+1)]?=some x.1:=by rw[W0t,show zs.length-(k+1)=zs.length-1-k by omega,hx];rfl
  have hd:(zs.map (·.1)).drop (zs.length-(k+1))=x.1::(zs.map (·.1)).drop (zs.length-k):=by
   obtain⟨hlt,he⟩:=W1d.1 hxm
   rw[W3i hlt,he,show zs.length-(k+1)+1=zs.length-k by omega]
  rw[Xxs,Xn9,Yeu sg zs k (by omega),hx,hd]
  simp only[W5z]
  by_cases hk:k=0
  . subst hk
    rw[if_neg (by omega),show (zs.map (·.1)).drop (zs.length-0)=[] from W1m (by simp)]
    simp[Xzm]
  . have hne:(zs.map (·.1)).drop (zs.length-k)≠[]:=λe=>by
     have:=congrArg List.length e
     simp at this;omega
    rw[if_pos (by omega),Xuu hne]
    unfold pad
    simp
theorem c9s{l:List Nat}(h:∀x∈l,x<1000000000): ∃zs:List C9,zs.map (·.1)=l:=by
 induction l with
 | nil=>exact⟨[],rfl⟩
 | cons a l ih =>
  obtain⟨zs,hz⟩:=ih λx hx=>h x (W1e _ hx)
  exact⟨⟨a,h a (W0w ..)⟩::zs,by rw[W3s,hz]⟩
def gw1(w:World): GW:=⟨w,λ_ _=>False,λ_ _ h=>h.elim⟩
theorem cell_lt{w:World}{b i:Nat}{v:Value}(h:w.cell? ⟨b,i,none⟩=some v): b<w.heap.size:=by
 apply W1g
 intro hn
 simp only[World.cell?] at h
 rw[W3w (by omega)] at h
 cases h
theorem Yjj{W:GW}{n:Nat}{w':World}(h:Below n W.w w')(hn:W.w.heap.size<=n): LeF W (gw1 w'):=λb i v hv =>
 ⟨(World.cell?_of_block (h.block b (W0s (cell_lt hv.1) hn))).trans hv.1,id⟩
theorem Xrv{f:FuncId}{args:List AV}{vs:List Value}{s:List UInt8}{w:World}(hc:C0 f args (·=.d (.str s)))(hg:Gb.g Tryz.prog (gw1 w))(ha:Xi5 (gw1 w) θe args vs):
 Calls Tryz.prog f vs.toArray w λe w'=>e=.returned (.string ⟨s.toArray⟩)/\Below w.heap.size w w' :=
 (hc.2 (gw1 w) vs hg ha).mono λe w' ⟨W',v,u,h1,h2,h3,h4,_,h6⟩=>by
  subst h6;subst h2
  obtain⟨rfl,_⟩:=Xjc h4
  exact⟨h1,h3.os,h3.tape,h3.out,h3.size,λk hk=>h3.same k hk id⟩
theorem Ypc{w:World}(hg:Gb.g Tryz.prog (gw1 w))(x:C9): Calls Tryz.prog 185 #[.int .u64 (x.1:Int),.int .i64 10] w λe w'=>e=.returned (.string ⟨(dec x.1).toArray⟩)/\Below w.heap.size w w' :=
 Xrv (vs:=[.int .u64 (x.1:Int),.int .i64 10]) (Xlp x.2) hg ⟨int_V (by have:=x.2;show IntKind.u64.wrap _=_;exact wU (by omega)),int_V (wI (by omega)),trivial⟩
theorem Yoq{w:World}(hg:Gb.g Tryz.prog (gw1 w)){n:Nat}{k:Int}(hk:k=n)(hn:n<65): Calls Tryz.prog 101 #[.string ⟨#[48]⟩,.int .i64 k] w λe w'=>e=.returned (.string ⟨(List.replicate n 48).toArray⟩)/\Below w.heap.size w w':=by
 subst hk
 exact Xrv (vs:=[.string ⟨#[48]⟩,.int .i64 (n:Int)]) (Xj6 hn) hg ⟨Xlt (s:=[48]) (by decide),int_V (by show IntKind.i64.wrap _=_;exact wI (by omega)),trivial⟩
theorem Xvv{β:Type}(T e:TypeId)(B b:Nat)(f:β->List Value): Own (λs W=>Lib.IsBuilderF T e B b (f s) W):=by
 intro s X Y row h hg hrow
 have key:∀p,Lib.BuilderAtF T e B b p (f s) X->Lib.BuilderAtF T e B b p (f s) Y:=λp ⟨hB,v,hb,hown,hne⟩=>by
  have cells:∀k cs t fz,X.heap[k]?=some (.cells cs t fz)->some k≠row:=λk cs t fz hk e'=>by
   obtain⟨o,ho,hc⟩:=hrow k e'.symm
   rw[hk] at ho;cases ho;cases hc
  refine⟨hB,v,(hg.block b (W3t.1 hb).1 (cells b _ _ _ hb)).trans hb,hown.kept hg ?_,hne⟩
  cases hv:v.ownBlock with
  | none=>exact .inl rfl
  | some g =>
   obtain⟨c,fz,hc⟩:=Lib.ownsRowF_kind hown g hv
   exact .inr (cells g _ _ _ hc)
 exact h.elim (λh=>.inl (key _ h)) λh=>.inr (key _ h)
theorem Xik{W W':World}{row:Option Nat}{b:Nat}{cs:Array Value}{t:TypeId}{fz:Nat×Nat}(h:W.heap[b]?=some (.cells cs t fz))(hg:W.grownBy W' row)(hr:∀r,row=some r->∃o:Obj,W.heap[r]?=some o/\o.isCells=false): W'.heap[b]?=some (.cells cs t fz) :=
 (hg.block b (W3t.1 h).1 (λe'=>by
  obtain⟨o,ho,hc⟩:=hr b e'.symm
  rw[h] at ho;cases ho;cases hc)).trans h
theorem Xvw{T e:TypeId}{B b:Nat}{bs:List Value}{w w':World}(h:Lib.IsBuilderF T e B b bs w)(hw:Below w.heap.size w w'): Lib.IsBuilderF T e B b bs w':=by
 have key:∀p,Lib.BuilderAtF T e B b p bs w->Lib.BuilderAtF T e B b p bs w':=λp ⟨hB,v,hb,hown,hne⟩ =>
  ⟨hB,v,(hw.block b (W3t.1 hb).1).trans hb,hown.kept (row:=none) ⟨hw.os,hw.tape,hw.output,hw.size,λk hk _=>hw.block k hk⟩ (by cases hv:v.ownBlock<;>simp),hne⟩
 exact h.elim (λh=>.inl (key _ h)) λh=>.inr (key _ h)
theorem Xoh{w w':World}(h:Below w.heap.size w w'): KeepsOthers w w':=⟨h.size,λk o hk _=>(h.block k (W3t.1 hk).1).trans hk⟩
theorem Xk4{T e:TypeId}{B b n:Nat}{bs:List Value}{w w':World}(h:Lib.IsBuilderF T e B b bs w)(hw:Below n w w')(ho:Lib.OthersKept e (some b) w w'): KeepsOthers w w':=⟨hw.size,λk o hk hc=>by
 refine ho k o hk (λe'=>?_) (λc fz e'=>by subst e';cases hc)
 cases e'
 rcases h with ⟨_,v,hb,_⟩ | ⟨_,v,hb,_⟩<;>rw[hk] at hb<;>cases hb<;>cases hc⟩
structure W9 (n BS B:Nat) (sl:Value) (w W:World) (t:List UInt8) (W':World):Prop where
 b:Lib.IsBuilderF (rnB.t 72) (rnB.t 5) n n (Lib.byteCells t) W'
 s:W'.heap[BS]?=some (.cells #[sl] 49 (0,0))
 l:Below n w W'
 k:KeepsFrom B W W'
 q:Kq n BS W W'
theorem W9.below{n BS B:Nat}{sl:Value}{w W W' W'':World}{t:List UInt8}(h:W9 n BS B sl w W t W')(hn:n<=W'.heap.size)(hb:Below W'.heap.size W' W''): W9 n BS B sl w W t W'' :=
 ⟨Xvw h.b hb,(hb.block BS (W3t.1 h.s).1).trans h.s,h.l.trans (hb.mono hn),h.k.trans ((Xoh hb).from _),h.q.trans ⟨hb.mono hn,hb.block BS (W3t.1 h.s).1⟩⟩
theorem W9.wr{n BS B:Nat}{sl:Value}{w W W':World}{t:List UInt8}(h:W9 n BS B sl w W t W')(u:List UInt8)(hn:n<=W'.heap.size)(hB:BS≠n)(hl:t.length+u.length<=140737488355328):
 Calls Tryz.prog 103 #[.pointer (some ⟨n,0,none⟩),.string ⟨u.toArray⟩] W' λe W''=>e=.returned (.tuple #[.int .i64 u.length,.nilIface])/\W9 n BS B sl w W (t++u) W'':=by
 have hsz:(⟨u.toArray⟩:ByteArray).size=u.length:=by simp[ByteArray.size]
 refine(Any.Builder_WriteString_k Yjn Yl5 n n _ ⟨u.toArray⟩ W' h.b (by rw[Lib.byteCells_length,hsz];exact hl) hn).mono ?_
 rintro e W'' ⟨rfl,hb,hbl,ho⟩
 have hs:W''.heap[BS]?=some (.cells #[sl] 49 (0,0)):=ho BS _ h.s (by intro e;cases e;exact hB rfl) (by intro c fz e;cases e)
 refine⟨by rw[hsz],.inr (by rw[Lib.byteCells_append];exact hb),hs,h.l.trans hbl,h.k.trans ((Xk4 h.b hbl ho).from _),h.q.trans ⟨hbl,hs.trans h.s.symm⟩⟩
end
section
attribute [local go_sem] Oper.semAt_some
theorem Xsw{z:Int}(hz:z≠0)(hl:(dig z.natAbs).length<=274877906944): C0 100 [.d (dz z)] (·=.d (.str (tx z))):=by
 have hcl:=Xxj (n:=z.natAbs) (k:=(dig z.natAbs).length) (by have:=Xbw (Xad z.natAbs);rwa[Xaf] at this)
 have hp:=W4n.2 (λe:dig z.natAbs=[]=>hz (by have:=Xsl.1 e;omega))
 refine EnM Tryz.func100 λW0 hg0 _=>?_
 refine Ce rfl (Xcb (n:=z.natAbs) (by omega)) ?_
 refine Cr rfl (Xlj (l:=dig z.natAbs) hp (by omega)) ?_
 refine No rfl (by simp only[W0i];omega) ?_
 refine Nv 4 7 1 rfl ?_
 refine Lo (λ((x,n,lo,cs):Nat×Nat×List Nat×List Nat)=>[(1,.ptr 1 0),(2,.d (.str [])),(3,.own 14 1 0 n),(4,.ptr 4 0)]) (λ(x,n,lo,cs)=>[(1,.var (.d (dz z))),(14,.arr 1 (lo.map wd)),(4,.var (.gr 7 1 (cs.map wd))),(7,.tok (cs.map wd).length 1)])
  (λ(x,n,lo,cs)=>Fm9 z.natAbs x n lo cs) (λ(x,_)=>x) (z.natAbs,(dig z.natAbs).length,dig z.natAbs,[]) [] rfl ⟨W0c _,by omega,Xad _,W1x ..,rfl⟩ ?_ (by exact⟨by simp only[W0i];rfl,rfl,rfl,rfl,rfl⟩)
 rintro⟨x,n,lo,cs⟩ hI
 have hn:=Yg6 hI
 obtain⟨hnl,hll,hwo,hdx,hck⟩:=hI
 have hsz:∀j,j<n->lo[j]?=(dig x)[j]?:=λj hj=>by rw[<-hdx,W1j,if_pos hj]
 refine By rfl (λh=>?_) λh=>?_
 . have h:(n:Int)>0:=h
   have hx0:x≠0:=λe=>by rw[e,Xak] at hn;simp at hn;omega
   refine Ar ((n:Int)-1) rfl ?_ (wr rfl (by simp only[inK];omega))
   refine Lo (λ((k,l,r):Nat×List Nat×Nat)=>[(1,.ptr 1 0),(2,.d (.str [])),(3,.own 14 1 0 n),(4,.ptr 4 0),(5,.d (.int .u64 r)),(6,.d (.int .i64 ((k:Int)-1)))]) (λ(_,l,_)=>[(1,.var (.d (dz z))),(14,.arr 1 (l.map wd)),(4,.var (.gr 7 1 (cs.map wd))),(7,.tok (cs.map wd).length 1)])
    (λ(k,l,r)=>k<=n/\l.length=lo.length/\Xan l/\r<1000000000/\val ((l.take n).drop k)*1000000000+r=val ((dig x).drop k)/\∀j,j<k->l[j]?=(dig x)[j]?) (λ(k,_,_)=>k) (n,lo,0) [] rfl
    ⟨W0c _,rfl,hwo,by decide,by rw[W1m (by rw[W0j];omega),W1m (by omega)];simp[val],hsz⟩ ?_
   rintro⟨k,l,r⟩ ⟨hk,hl2,hwl,hr,hval,hlj⟩
   refine By rfl (λh2=>?_) λh2=>?_
   . have h2:(k:Int)-1>=0:=h2
     obtain⟨u,hu⟩:=xat (l:=dig x) (k:=k-1) (by omega)
     have hub:=ww hu (Xad x)
     have hul:l[k-1]?=some u:=by rw[hlj _ (by omega),hu]
     obtain⟨s,hs⟩:∃s,s=r*2^32+u:=⟨_,rfl⟩
     have hs64:s<18446744073709551616:=by omega
     have hsy:s/1000000000<4294967296:=by omega
     have hek:((k:Int)-1)=((k-1:Nat):Int):=by omega
     refine Ar (r*2^32:Nat) rfl ?_ (Xhw (n:=32) rfl (by omega) (by decide))
     refine Eo (k-1) (by rw[hek];rfl) (by omega) ?_
     refine Ld (wd u) rfl (mp hul) ?_
     refine Go.Vm.Cv u rfl ?_
     refine Ar s rfl ?_ (Ycl (by omega) (by omega) (by rw[Xdg u r 32 (by omega),<-hs]) hs64)
     refine Ar (s/1000000000:Nat) rfl ?_ (show _/\_ from⟨by decide,Ydv s 1000000000 hs64⟩)
     refine Go.Vm.Cv (s/1000000000:Nat) rfl ?_ (wW ⟨W5j _,W7b.2 hsy⟩)
     refine Eo (k-1) (by rw[hek];rfl) (by omega) ?_
     refine Sto rfl (by simp only[W0i];omega) ms ?_
     refine Ar (s%1000000000:Nat) rfl ?_ (show _/\_ from⟨by decide,Xte s 1000000000⟩)
     refine Ar ((k-1:Nat)-1:Int) rfl ?_ (wr (by omega) (by simp only[inK];omega))
     have hs0:val ((dig x).drop (k-1))=u+4294967296*val ((dig x).drop k):=by
      have:=Xbr hu
      rwa[show k-1+1=k by omega] at this
     refine Bk (k-1,l.set (k-1) (s/1000000000),s%1000000000) [] rfl ⟨by omega,by simp[hl2],Xgo hwl hsy,W2d _ (by decide),?_,λj hj=>?_⟩ (by show k-1<k;omega)
     . rw[hs0,<-hval,List.take_set,drop_set (by rw[W0j];omega),val,show k-1+1=k by omega]
       have e:=W2p s 1000000000
       have hs2:s=r*4294967296+u:=hs
       generalize val (((l.take n)).drop k)=V
       generalize s/1000000000=q at e |-
       generalize s%1000000000=m at e |-
       clear hck hcl hdx hsz hlj hs hval hs0 hsy hs64
       omega
     . rw[W1u (by omega)];exact hlj j (by omega)
   . have hk0:k=0:=by
      have h2:¬(k:Int)-1>=0:=h2
      omega
     subst hk0
     rw[W1a,W1a,Xaf] at hval
     have hq:x/1000000000=val (l.take n):=by omega
     have hm:x%1000000000=r:=by omega
     refine Cn [(1000001,14)] rfl (Xvt (l:=l) (q:=0) (n:=n) hwl (by omega) (by omega)) λv hv=>?_
     obtain⟨m,hmn,rfl,hml⟩:=hv
     rw[W1a,<-hq] at hml
     refine Go.Vm.Cv r rfl ?_
     refine ApG ((cs++[r]).map wd) rfl (by simp;rfl) (by simp;have:=congrArg List.length hck;rw[W0d] at this;omega) ?_
     refine Bk (x/1000000000,m,l,cs++[r]) [(50,7)] rfl ⟨by omega,by omega,hwl,hml,?_⟩ (by show x/1000000000<x;omega)
     rw[hck,Xe9 hx0,hm];simp
 . have h:¬(n:Int)>0:=h
   have hx0:x=0:=by
    have:dig x=[]:=W0n (by omega)
    exact Xsl.1 this
   subst hx0
   rw[Xep,W3g] at hck
   obtain⟨zs,hzs⟩:=c9s (l:=cs) λx hx=>Ykt z.natAbs x (by rw[hck];exact hx)
   have hzl:zs.length=cs.length:=by rw[<-hzs,W0i]
   have hz0:z.natAbs≠0:=by omega
   have hz1:0<zs.length:=by
    rw[hzl,<-hck,Xe9 hz0];simp
   have hzn:zs.length<=549755813888:=by rw[hzl,<-hck];omega
   have htx:∀sg,sg++Xzm (zs.map (·.1))=sg++dec z.natAbs:=λsg=>by rw[hzs,<-hck,Xzl _ hz0]
   refine Tl 15 rfl λa w hw=>?_
   obtain⟨s',W,θ,rfl,hS,hθ,rfl⟩:=hw
   have hgW:Gb.g Tryz.prog W:=Gb.mono _ _ hS.fm.le hg0
   obtain⟨b1,p1,e1⟩:=Xjd (hS.rel.has 1 (.ptr 1 0) rfl)
   obtain⟨b4,p4,e4⟩:=Xjd (hS.rel.has 4 (.ptr 4 0) rfl)
   obtain⟨bx,cx1,T1,q1,q2,q3,_⟩:=hS.obs.r 1 (.var (.d (dz z))) rfl
   obtain⟨by4,cx4,T4,q5,q6,q7,_⟩:=hS.obs.r 4 (.var (.gr 7 1 (cs.map wd))) rfl
   obtain rfl:bx=b1:=Option.some.inj (q1.symm.trans p1)
   obtain rfl:by4=b4:=Option.some.inj (q5.symm.trans p4)
   have c1:W.w.cell? ⟨bx,0,none⟩=some (.bool (decide (z<0))):=by
    obtain⟨u,v,h1,h2,_⟩:=q3
    have h2:u=[.bool (decide (z<0))]:=h2
    rw[Xbf q2,h1,h2];rfl
   obtain⟨b7,cp,c4,hcell⟩:∃b7 cp,W.w.cell? ⟨by4,0,none⟩=some (.slice (some ⟨b7,0,none⟩) zs.length cp)/\∀j,j<zs.length->W.w.cell? ⟨b7,0+j,none⟩=some (.int .u32 ((zs[j]?.getD ⟨0,by decide⟩).1:Int)):=by
    obtain⟨p,h1,h0,h2,_,h5⟩:=q7
    simp only[W0i] at h1 h2
    rcases h5 with h5 | ⟨b7,h5,hrow⟩
    . have:=congrArg List.length h5
      rw[W0i] at this
      have:cs.length=0:=this
      omega
    . have hp:p=some ⟨b7,0,none⟩:=by
       rcases h0 with h0 | h0
       . omega
       . rw[h0,h5];rfl
      refine⟨b7,_,by rw[Xbf q6,h1,hp,<-hzl];rfl,λj hj=>?_⟩
      obtain⟨x,hx⟩:∃x,zs[j]?=some x:=⟨_,W0a hj⟩
      obtain⟨e,g1,_,g3⟩:=D.row_get hrow (i:=j) (x:=wd x.1) (by rw[<-hzs];simp[hx])
      have g1:e=[.int .u32 x.1]:=g1.1
      have:=(g3 0 (.int .u32 x.1) (by rw[g1];rfl)).1
      rw[hx]
      simpa using this
   have hb1:=Go.Proofs.YtclgppjdhndgiaaGreatDoor.cell_lt c1
   have hb4:=Go.Proofs.YtclgppjdhndgiaaGreatDoor.cell_lt c4
   have hb7:=Go.Proofs.YtclgppjdhndgiaaGreatDoor.cell_lt (hcell 0 hz1)
   have hfm:=hS.fm
   obtain⟨tm,df⟩:=a
   obtain rfl:df=[]:=hS.rel.defers
   obtain⟨L⟩:=tm
   have hL:L.length=74:=hS.rel.size
   clear hS
   obtain⟨t0,L0,rfl,hL0⟩:=Xag hL
   clear hL
   obtain⟨t1,L1,rfl,hL1⟩:=Xag hL0
   clear hL0
   obtain⟨t2,L2,rfl,hL2⟩:=Xag hL1
   clear hL1
   obtain⟨t3,L3,rfl,hL3⟩:=Xag hL2
   clear hL2
   obtain⟨t4,L4,rfl,hL4⟩:=Xag hL3
   clear hL3
   obtain⟨t5,L5,rfl,hL5⟩:=Xag hL4
   clear hL4
   obtain⟨t6,L6,rfl,hL6⟩:=Xag hL5
   clear hL5
   obtain⟨t7,L7,rfl,hL7⟩:=Xag hL6
   clear hL6
   obtain⟨t8,L8,rfl,hL8⟩:=Xag hL7
   clear hL7
   obtain⟨t9,L9,rfl,hL9⟩:=Xag hL8
   clear hL8
   obtain⟨t10,L10,rfl,hL10⟩:=Xag hL9
   clear hL9
   obtain⟨t11,L11,rfl,hL11⟩:=Xag hL10
   clear hL10
   obtain⟨t12,L12,rfl,hL12⟩:=Xag hL11
   clear hL11
   obtain⟨t13,L13,rfl,hL13⟩:=Xag hL12
   clear hL12
   obtain⟨t14,L14,rfl,hL14⟩:=Xag hL13
   clear hL13
   obtain⟨t15,L15,rfl,hL15⟩:=Xag hL14
   clear hL14
   obtain⟨t16,L16,rfl,hL16⟩:=Xag hL15
   clear hL15
   obtain⟨t17,L17,rfl,hL17⟩:=Xag hL16
   clear hL16
   obtain⟨t18,L18,rfl,hL18⟩:=Xag hL17
   clear hL17
   obtain⟨t19,L19,rfl,hL19⟩:=Xag hL18
   clear hL18
   obtain⟨t20,L20,rfl,hL20⟩:=Xag hL19
   clear hL19
   obtain⟨t21,L21,rfl,hL21⟩:=Xag hL20
   clear hL20
   obtain⟨t22,L22,rfl,hL22⟩:=Xag hL21
   clear hL21
   obtain⟨t23,L23,rfl,hL23⟩:=Xag hL22
   clear hL22
   obtain⟨t24,L24,rfl,hL24⟩:=Xag hL23
   clear hL23
   obtain⟨t25,L25,rfl,hL25⟩:=Xag hL24
   clear hL24
   obtain⟨t26,L26,rfl,hL26⟩:=Xag hL25
   clear hL25
   obtain⟨t27,L27,rfl,hL27⟩:=Xag hL26
   clear hL26
   obtain⟨t28,L28,rfl,hL28⟩:=Xag hL27
   clear hL27
   obtain⟨t29,L29,rfl,hL29⟩:=Xag hL28
   clear hL28
   obtain⟨t30,L30,rfl,hL30⟩:=Xag hL29
   clear hL29
   obtain⟨t31,L31,rfl,hL31⟩:=Xag hL30
   clear hL30
   obtain⟨t32,L32,rfl,hL32⟩:=Xag hL31
   clear hL31
   obtain⟨t33,L33,rfl,hL33⟩:=Xag hL32
   clear hL32
   obtain⟨t34,L34,rfl,hL34⟩:=Xag hL33
   clear hL33
   obtain⟨t35,L35,rfl,hL35⟩:=Xag hL34
   clear hL34
   obtain⟨t36,L36,rfl,hL36⟩:=Xag hL35
   clear hL35
   obtain⟨t37,L37,rfl,hL37⟩:=Xag hL36
   clear hL36
   obtain⟨t38,L38,rfl,hL38⟩:=Xag hL37
   clear hL37
   obtain⟨t39,L39,rfl,hL39⟩:=Xag hL38
   clear hL38
   obtain⟨t40,L40,rfl,hL40⟩:=Xag hL39
   clear hL39
   obtain⟨t41,L41,rfl,hL41⟩:=Xag hL40
   clear hL40
   obtain⟨t42,L42,rfl,hL42⟩:=Xag hL41
   clear hL41
   obtain⟨t43,L43,rfl,hL43⟩:=Xag hL42
   clear hL42
   obtain⟨t44,L44,rfl,hL44⟩:=Xag hL43
   clear hL43
   obtain⟨t45,L45,rfl,hL45⟩:=Xag hL44
   clear hL44
   obtain⟨t46,L46,rfl,hL46⟩:=Xag hL45
   clear hL45
   obtain⟨t47,L47,rfl,hL47⟩:=Xag hL46
   clear hL46
   obtain⟨t48,L48,rfl,hL48⟩:=Xag hL47
   clear hL47
   obtain⟨t49,L49,rfl,hL49⟩:=Xag hL48
   clear hL48
   obtain⟨t50,L50,rfl,hL50⟩:=Xag hL49
   clear hL49
   obtain⟨t51,L51,rfl,hL51⟩:=Xag hL50
   clear hL50
   obtain⟨t52,L52,rfl,hL52⟩:=Xag hL51
   clear hL51
   obtain⟨t53,L53,rfl,hL53⟩:=Xag hL52
   clear hL52
   obtain⟨t54,L54,rfl,hL54⟩:=Xag hL53
   clear hL53
   obtain⟨t55,L55,rfl,hL55⟩:=Xag hL54
   clear hL54
   obtain⟨t56,L56,rfl,hL56⟩:=Xag hL55
   clear hL55
   obtain⟨t57,L57,rfl,hL57⟩:=Xag hL56
   clear hL56
   obtain⟨t58,L58,rfl,hL58⟩:=Xag hL57
   clear hL57
   obtain⟨t59,L59,rfl,hL59⟩:=Xag hL58
   clear hL58
   obtain⟨t60,L60,rfl,hL60⟩:=Xag hL59
   clear hL59
   obtain⟨t61,L61,rfl,hL61⟩:=Xag hL60
   clear hL60
   obtain⟨t62,L62,rfl,hL62⟩:=Xag hL61
   clear hL61
   obtain⟨t63,L63,rfl,hL63⟩:=Xag hL62
   clear hL62
   obtain⟨t64,L64,rfl,hL64⟩:=Xag hL63
   clear hL63
   obtain⟨t65,L65,rfl,hL65⟩:=Xag hL64
   clear hL64
   obtain⟨t66,L66,rfl,hL66⟩:=Xag hL65
   clear hL65
   obtain⟨t67,L67,rfl,hL67⟩:=Xag hL66
   clear hL66
   obtain⟨t68,L68,rfl,hL68⟩:=Xag hL67
   clear hL67
   obtain⟨t69,L69,rfl,hL69⟩:=Xag hL68
   clear hL68
   obtain⟨t70,L70,rfl,hL70⟩:=Xag hL69
   clear hL69
   obtain⟨t71,L71,rfl,hL71⟩:=Xag hL70
   clear hL70
   obtain⟨t72,L72,rfl,hL72⟩:=Xag hL71
   clear hL71
   obtain⟨t73,L73,rfl,hL73⟩:=Xag hL72
   clear hL72
   obtain rfl:=W0n hL73
   obtain rfl:t1=.pointer (some ⟨bx,0,none⟩):=e1
   obtain rfl:t4=.pointer (some ⟨by4,0,none⟩):=e4
   have hfin:∀ {w':World} {s:List UInt8},Below W.w.heap.size W.w w'->s=tx z->Ret W0 (λx=>x=.d (.str (tx z))) (.returned (.string ⟨s.toArray⟩)) w':=λ{w' s} h e=>by
    obtain⟨W',h1,h2⟩:=Xhc h
    subst e
    refine⟨W',_,_,rfl,h1,⟨h2.os.trans hfm.os,h2.out.trans hfm.out,h2.tape.trans hfm.tape,W0l hfm.size h2.size,λb hb hx=>(h2.same b (W0s hb hfm.size) id).trans (hfm.same b hb hx),λb hb hx i=>(h2.A b (W0s hb hfm.size) id i).trans (hfm.A b hb hx i),hfm.le.trans h2.le⟩,Xlt ?_,λ_ h=>h,rfl⟩
    have:=Xov z.natAbs
    unfold tx
    split<;>simp only[W0d,W0k,W3l]<;>omega
   clear q2 q3 q6 q7 hθ hck
   obtain⟨w,hww⟩:∃w,w=W.w:=⟨_,rfl⟩
   have hgw:∀ {w':World},Below w.heap.size w w'->Gb.g Tryz.prog (gw1 w'):=λh=>Gb.mono _ _ (Yjj (n:=w.heap.size) (by rw[<-hww];exact h) (by rw[<-hww];exact W0c _)) hgW
   rw[<-hww] at c1 c4 hcell hb1 hb4 hb7 hfin |-
   clear hww hgW hzl hzs hcl hnl hll hwo hn hdx hsz h hp hl q1 q5 p1 p4 hfm
   have hz9:zs.length*4<=140737488351232:=by omega
   have cA:∀o,(w.alloc o).cell? ⟨bx,0,none⟩=some (.bool (decide (z<0))):=λo=>(World.cell?_of_block (a:=⟨bx,0,none⟩) (Below.heap_alloc w o bx hb1)).trans c1
   have c4A:∀o,(w.alloc o).cell? ⟨by4,0,none⟩=some (.slice (some ⟨b7,0,none⟩) zs.length cp):=λo=>(World.cell?_of_block (a:=⟨by4,0,none⟩) (Below.heap_alloc w o by4 hb4)).trans c4
   by_cases hneg:z<0
   . simp only[decide_eq_true hneg] at cA
     gi_wp2
     refine⟨trivial,(callsIn_wide.2 (Any.Builder_WriteByte_k Yjm Yl5 w.heap.size w.heap.size [] 45 _ (.of (Lib.fresh_isBuilder _ _ w)) (by decide) (by simp))).mono ?_⟩
     rintro e wb ⟨rfl,hB,hbw,hok⟩
     have hB:Lib.IsBuilderF (rnB.t 72) (rnB.t 5) w.heap.size w.heap.size (Lib.byteCells [45]) wb:=.inr hB
     have hbw:Below w.heap.size w wb:=((Below.refl _ w).alloc (W0c _) _).trans hbw
     have hlt:w.heap.size<wb.heap.size:=by rcases hB with h | h<;>exact h.lt
     have c4b:wb.cell? ⟨by4,0,none⟩=some (.slice (some ⟨b7,0,none⟩) zs.length cp):=(hbw.cell (p:=⟨by4,0,none⟩) hb4).trans c4
     gi_wp2
     refine⟨trivial,(Xo1 Fence.wide 7 trivial rfl _ _ _ _).mono ?_⟩
     rintro e w2 ⟨rfl,hw2⟩
     have hBS:w2.heap[wb.heap.size]?=some (.cells #[.slice (some ⟨b7,0,none⟩) zs.length cp] 49 (0,0)):=by rw[hw2];exact World.alloc_heap_new wb _
     have hb2:Below w.heap.size w w2:=by rw[hw2];exact hbw.alloc (by have:=hbw.size;omega) _
     have hB2:Lib.IsBuilderF (rnB.t 72) (rnB.t 5) w.heap.size w.heap.size (Lib.byteCells [45]) w2:=by rw[hw2];exact hB.alloc _
     have hs2:w2.heap.size=wb.heap.size+1:=by rw[hw2];simp
     have hcell2:∀j,j<zs.length->w2.cell? ⟨b7,0+j,none⟩=some (.int .u32 ((zs[j]?.getD ⟨0,by decide⟩).1:Int)):=λj hj=>(hb2.cell (p:=⟨b7,0+j,none⟩) hb7).trans (hcell j hj)
     have cBS:w2.cell? ⟨wb.heap.size,0,none⟩=some (.slice (some ⟨b7,0,none⟩) zs.length cp):=by simp[World.cell?,hBS]
     obtain⟨BS,hBSe⟩:∃BS,BS=wb.heap.size:=⟨_,rfl⟩
     rw[<-hBSe] at hBS hs2 cBS hlt |-
     clear hw2 hBSe hB hbw c4b hok
     gi_wp2
     refine wpIn_rangeFunc_ownG rfl (by decide) (gf:=268) (lb:=#[.pointer (some ⟨BS,0,none⟩)]) rfl trivial (enters_of Tryz.func268 (by kernel_rfl) rfl)
      (Xne Fence.wide (8-1) trivial rfl (by decide) BS w.heap.size b7 0 cp zs hz9 w2 (by omega) (by omega) cBS hb7 hcell2) Kq.trans (λW l o o' hl h _ _=>Xvq W l o hl (by omega) (by omega) h o') (Below.refl _ _) (λ_=>rfl)
      (λpre W=>(Lib.IsBuilderF (rnB.t 72) (rnB.t 5) w.heap.size w.heap.size (Lib.byteCells (o9 zs.length [45] pre)) W/\W.heap[BS]?=some (.cells #[.slice (some ⟨b7,0,none⟩) zs.length cp] 49 (0,0)))/\Below w.heap.size w W)
      (λ_ _ _=>False)
      (OwnFrom.and (Own.from (λs A B row hs hg hr=>⟨Xvv _ _ _ _ (λp=>Lib.byteCells (o9 zs.length [45] p)) s A B row hs.1 hg hr,Xik hs.2 hg hr⟩) _) (ownFrom_below (W0c _) (by omega)))
      (λ_ _ _ _ _ hs _ _=>hs)
      ⟨⟨hB2,hBS⟩,hb2⟩
      (λx=>{ tmps:=#[t0,.pointer (some ⟨bx,0,none⟩),t2,t3,.pointer (some ⟨by4,0,none⟩),t5,t6,.pointer (some ⟨w.heap.size,0,none⟩),.int .i64 (x.1:Int),.int .u32 (x.2.1:Int),t10,t11,t12,t13,t14,t15,t16,t17,t18,t19,t20,t21,t22,t23,t24,t25,t26,t27,t28,t29,t30,t31,t32,t33,t34,t35,t36,t37,t38,t39,t40,t41,t42,t43,t44,t45,t46,t47,t48,t49,t50,.pointer (some ⟨bx,0,none⟩),.bool true,.nilIface,.slice (some ⟨b7,0,none⟩) zs.length cp,.func (.func 268) #[] #[.pointer (some ⟨BS,0,none⟩)],.int .i64 (x.1:Int),.int .u32 (x.2.1:Int),t58,t59,t60,t61,t62,t63,t64,t65,t66,t67,t68,t69,t70,t71,t72,t73],defers:=[] }) ?assign ?body ?done ?stop
     case assign =>
      intro l x W K hK
      gi_wp2
      exact hK
     case stop =>
      rintro D c pre W _ _ h _
      exact h.elim
     case body =>
      rintro l pre x W ⟨⟨hBd,hBS⟩,hBl⟩ hlen
      gi_wp2
      rw[wU (by have:=x.2.2;omega)]
      refine⟨trivial,(CallsIn.inRound l (callsIn_wide.2 (Ypc (hgw hBl) x.2))).mono ?_⟩
      rintro e W1 ⟨rfl,hW1⟩
      have h9:W9 w.heap.size BS w2.heap.size (.slice (some ⟨b7,0,none⟩) zs.length cp) w W (o9 zs.length [45] pre) W1:=W9.below ⟨hBd,hBS,hBl,KeepsFrom.refl _ _,Kq.refl _ _ _⟩ hBl.size hW1
      have c41:W1.cell? ⟨by4,0,none⟩=some (.slice (some ⟨b7,0,none⟩) zs.length cp):=(h9.l.cell (p:=⟨by4,0,none⟩) hb4).trans c4
      have hxl:=Ynu x.2
      have hol:=Xux zs.length pre [45]
      have hos:=Xn9 zs.length [45] pre x
      have hsgl:([45]:List UInt8).length<=1:=by decide
      have hpl:pre.length<549755813888:=by omega
      obtain⟨ds,hds⟩:∃ds,ds=dec x.2.1:=⟨_,rfl⟩
      rw[<-hds] at hxl hos |-
      have hBn:BS≠w.heap.size:=by omega
      clear hds hBd hBS hW1
      gi_wp2
      . rename_i hx
        refine⟨trivial,(CallsIn.inRound l (callsIn_wide.2 (Yoq (hgw h9.l) (n:=9-ds.length) (by omega) (by omega)))).mono ?_⟩
        rintro e W2 ⟨rfl,hW2⟩
        have h9b:=h9.below h9.l.size hW2
        obtain⟨zr,hzr⟩:∃zr,zr=List.replicate (9-ds.length) (48:UInt8):=⟨_,rfl⟩
        have hzrl:zr.length<=9:=by rw[hzr,W1v];omega
        rw[<-hzr]
        rw[if_pos (by omega),<-hzr] at hos
        clear hzr
        gi_wp2
        refine⟨trivial,(CallsIn.inRound l (callsIn_wide.2 (h9b.wr zr h9b.l.size hBn (by omega)))).mono ?_⟩
        rintro e W3 ⟨rfl,h9c⟩
        gi_wp2
        refine⟨trivial,(CallsIn.inRound l (callsIn_wide.2 (h9c.wr ds h9c.l.size hBn (by simp only[W0d];omega)))).mono ?_⟩
        rintro e W4 ⟨rfl,h9d⟩
        gi_wp2
        exact⟨h9d.k,h9d.q,⟨by rw[hos];exact h9d.b,h9d.s⟩,h9d.l⟩
      . rename_i hx
        rw[if_neg (by omega),W3g] at hos
        refine⟨trivial,(CallsIn.inRound l (callsIn_wide.2 (h9.wr ds h9.l.size hBn (by omega)))).mono ?_⟩
        rintro e W4 ⟨rfl,h9d⟩
        gi_wp2
        exact⟨h9d.k,h9d.q,⟨by rw[hos];exact h9d.b,h9d.s⟩,h9d.l⟩
     case done =>
      rintro D ys W hD rfl ⟨⟨hBd,hBS⟩,hBl⟩ hK
      gi_wp2
      have hne:o9 zs.length [45] (b9 zs zs.length)=tx z:=by
       rw[Yeu _ _ _ (W0c _),W2v,W1a,htx]
       unfold tx
       rw[if_pos hneg]
      rw[hne] at hBd
      have hn0:tx z≠[]:=by
       unfold tx
       intro h
       exact Xw7 _ (List.append_eq_nil_iff.1 h).2
      refine⟨trivial,(callsIn_wide.2 (Any.Builder_String_k Ycz Yl5 w.heap.size w.heap.size (tx z) W hBd hn0)).mono ?_⟩
      rintro e W3 ⟨rfl,_,hb3,hok3⟩
      have hK3:=hok3 D _ hK (by intro h;cases h;have:=hBl.size;omega) (by intro c fz h;cases h)
      gi_wp2
      refine⟨by simp,.inl ⟨_,_,rfl,run_takeDeferred hK3,?_⟩⟩
      refine⟨_,results_tmp rfl _ _ _,?_⟩
      refine hfin (s:=tx z) ?_ rfl
      exact(hBl.trans hb3).trans (belowK_b (w:=w) (W0c _) W3 D _ _ (by omega) hK3 rfl rfl)
   . simp only[decide_eq_false hneg] at cA
     gi_wp2
     obtain⟨wb,hwb⟩:∃wb,wb=w.alloc (.cells #[.pointer none,.slice none 0 0] 161):=⟨_,rfl⟩
     have hB:Lib.IsBuilderF (rnB.t 72) (rnB.t 5) w.heap.size w.heap.size (Lib.byteCells []) wb:=by rw[hwb];exact .of (Lib.fresh_isBuilder _ _ w)
     have hbw:Below w.heap.size w wb:=by rw[hwb];exact(Below.refl _ w).alloc (W0c _) _
     have hlt:w.heap.size<wb.heap.size:=by rcases hB with h | h<;>exact h.lt
     rw[<-hwb]
     clear hwb
     refine⟨trivial,(Xo1 Fence.wide 7 trivial rfl _ _ _ _).mono ?_⟩
     rintro e w2 ⟨rfl,hw2⟩
     have hBS:w2.heap[wb.heap.size]?=some (.cells #[.slice (some ⟨b7,0,none⟩) zs.length cp] 49 (0,0)):=by rw[hw2];exact World.alloc_heap_new wb _
     have hb2:Below w.heap.size w w2:=by rw[hw2];exact hbw.alloc (by have:=hbw.size;omega) _
     have hB2:Lib.IsBuilderF (rnB.t 72) (rnB.t 5) w.heap.size w.heap.size (Lib.byteCells []) w2:=by rw[hw2];exact hB.alloc _
     have hs2:w2.heap.size=wb.heap.size+1:=by rw[hw2];simp
     have hcell2:∀j,j<zs.length->w2.cell? ⟨b7,0+j,none⟩=some (.int .u32 ((zs[j]?.getD ⟨0,by decide⟩).1:Int)):=λj hj=>(hb2.cell (p:=⟨b7,0+j,none⟩) hb7).trans (hcell j hj)
     have cBS:w2.cell? ⟨wb.heap.size,0,none⟩=some (.slice (some ⟨b7,0,none⟩) zs.length cp):=by simp[World.cell?,hBS]
     obtain⟨BS,hBSe⟩:∃BS,BS=wb.heap.size:=⟨_,rfl⟩
     rw[<-hBSe] at hBS hs2 cBS hlt |-
     clear hw2 hBSe hB hbw
     gi_wp2
     refine wpIn_rangeFunc_ownG rfl (by decide) (gf:=268) (lb:=#[.pointer (some ⟨BS,0,none⟩)]) rfl trivial (enters_of Tryz.func268 (by kernel_rfl) rfl)
      (Xne Fence.wide (8-1) trivial rfl (by decide) BS w.heap.size b7 0 cp zs hz9 w2 (by omega) (by omega) cBS hb7 hcell2) Kq.trans (λW l o o' hl h _ _=>Xvq W l o hl (by omega) (by omega) h o') (Below.refl _ _) (λ_=>rfl)
      (λpre W=>(Lib.IsBuilderF (rnB.t 72) (rnB.t 5) w.heap.size w.heap.size (Lib.byteCells (o9 zs.length [] pre)) W/\W.heap[BS]?=some (.cells #[.slice (some ⟨b7,0,none⟩) zs.length cp] 49 (0,0)))/\Below w.heap.size w W)
      (λ_ _ _=>False)
      (OwnFrom.and (Own.from (λs A B row hs hg hr=>⟨Xvv _ _ _ _ (λp=>Lib.byteCells (o9 zs.length [] p)) s A B row hs.1 hg hr,Xik hs.2 hg hr⟩) _) (ownFrom_below (W0c _) (by omega)))
      (λ_ _ _ _ _ hs _ _=>hs)
      ⟨⟨hB2,hBS⟩,hb2⟩
      (λx=>{ tmps:=#[t0,.pointer (some ⟨bx,0,none⟩),t2,t3,.pointer (some ⟨by4,0,none⟩),t5,t6,.pointer (some ⟨w.heap.size,0,none⟩),.int .i64 (x.1:Int),.int .u32 (x.2.1:Int),t10,t11,t12,t13,t14,t15,t16,t17,t18,t19,t20,t21,t22,t23,t24,t25,t26,t27,t28,t29,t30,t31,t32,t33,t34,t35,t36,t37,t38,t39,t40,t41,t42,t43,t44,t45,t46,t47,t48,t49,t50,.pointer (some ⟨bx,0,none⟩),.bool false,t53,.slice (some ⟨b7,0,none⟩) zs.length cp,.func (.func 268) #[] #[.pointer (some ⟨BS,0,none⟩)],.int .i64 (x.1:Int),.int .u32 (x.2.1:Int),t58,t59,t60,t61,t62,t63,t64,t65,t66,t67,t68,t69,t70,t71,t72,t73],defers:=[] }) ?assign ?body ?done ?stop
     case assign =>
      intro l x W K hK
      gi_wp2
      exact hK
     case stop =>
      rintro D c pre W _ _ h _
      exact h.elim
     case body =>
      rintro l pre x W ⟨⟨hBd,hBS⟩,hBl⟩ hlen
      gi_wp2
      rw[wU (by have:=x.2.2;omega)]
      refine⟨trivial,(CallsIn.inRound l (callsIn_wide.2 (Ypc (hgw hBl) x.2))).mono ?_⟩
      rintro e W1 ⟨rfl,hW1⟩
      have h9:W9 w.heap.size BS w2.heap.size (.slice (some ⟨b7,0,none⟩) zs.length cp) w W (o9 zs.length [] pre) W1:=W9.below ⟨hBd,hBS,hBl,KeepsFrom.refl _ _,Kq.refl _ _ _⟩ hBl.size hW1
      have c41:W1.cell? ⟨by4,0,none⟩=some (.slice (some ⟨b7,0,none⟩) zs.length cp):=(h9.l.cell (p:=⟨by4,0,none⟩) hb4).trans c4
      have hxl:=Ynu x.2
      have hol:=Xux zs.length pre []
      have hos:=Xn9 zs.length [] pre x
      have hsgl:([]:List UInt8).length<=1:=by decide
      have hpl:pre.length<549755813888:=by omega
      obtain⟨ds,hds⟩:∃ds,ds=dec x.2.1:=⟨_,rfl⟩
      rw[<-hds] at hxl hos |-
      have hBn:BS≠w.heap.size:=by omega
      clear hds hBd hBS hW1
      gi_wp2
      . rename_i hx
        refine⟨trivial,(CallsIn.inRound l (callsIn_wide.2 (Yoq (hgw h9.l) (n:=9-ds.length) (by omega) (by omega)))).mono ?_⟩
        rintro e W2 ⟨rfl,hW2⟩
        have h9b:=h9.below h9.l.size hW2
        obtain⟨zr,hzr⟩:∃zr,zr=List.replicate (9-ds.length) (48:UInt8):=⟨_,rfl⟩
        have hzrl:zr.length<=9:=by rw[hzr,W1v];omega
        rw[<-hzr]
        rw[if_pos (by omega),<-hzr] at hos
        clear hzr
        gi_wp2
        refine⟨trivial,(CallsIn.inRound l (callsIn_wide.2 (h9b.wr zr h9b.l.size hBn (by omega)))).mono ?_⟩
        rintro e W3 ⟨rfl,h9c⟩
        gi_wp2
        refine⟨trivial,(CallsIn.inRound l (callsIn_wide.2 (h9c.wr ds h9c.l.size hBn (by simp only[W0d];omega)))).mono ?_⟩
        rintro e W4 ⟨rfl,h9d⟩
        gi_wp2
        exact⟨h9d.k,h9d.q,⟨by rw[hos];exact h9d.b,h9d.s⟩,h9d.l⟩
      . rename_i hx
        rw[if_neg (by omega),W3g] at hos
        refine⟨trivial,(CallsIn.inRound l (callsIn_wide.2 (h9.wr ds h9.l.size hBn (by omega)))).mono ?_⟩
        rintro e W4 ⟨rfl,h9d⟩
        gi_wp2
        exact⟨h9d.k,h9d.q,⟨by rw[hos];exact h9d.b,h9d.s⟩,h9d.l⟩
     case done =>
      rintro D ys W hD rfl ⟨⟨hBd,hBS⟩,hBl⟩ hK
      gi_wp2
      have hne:o9 zs.length [] (b9 zs zs.length)=tx z:=by
       rw[Yeu _ _ _ (W0c _),W2v,W1a,htx]
       unfold tx
       rw[if_neg (by omega)]
      rw[hne] at hBd
      have hn0:tx z≠[]:=by
       unfold tx
       intro h
       exact Xw7 _ (List.append_eq_nil_iff.1 h).2
      refine⟨trivial,(callsIn_wide.2 (Any.Builder_String_k Ycz Yl5 w.heap.size w.heap.size (tx z) W hBd hn0)).mono ?_⟩
      rintro e W3 ⟨rfl,_,hb3,hok3⟩
      have hK3:=hok3 D _ hK (by intro h;cases h;have:=hBl.size;omega) (by intro c fz h;cases h)
      gi_wp2
      refine⟨by simp,.inl ⟨_,_,rfl,run_takeDeferred hK3,?_⟩⟩
      refine⟨_,results_tmp rfl _ _ _,?_⟩
      refine hfin (s:=tx z) ?_ rfl
      exact(hBl.trans hb3).trans (belowK_b (w:=w) (W0c _) W3 D _ _ (by omega) hK3 rfl rfl)
theorem Xsh{z:Int}(hl:(dig z.natAbs).length<=274877906944): C0 100 [.d (dz z)] (·=.d (.str (tx z))):=by
 by_cases hz:z=0
 . subst hz
   have:tx 0=[48]:=by unfold tx;rw[if_neg (by decide),show Int.natAbs 0=0 from rfl,Xdk (by decide)];rfl
   rw[this];exact Xo9
 . exact Xsw hz hl
end
end Go.Proofs.YtclgppjdhndgiaaGreatDoor
namespace Go.Proofs.YtclgppjdhndgiaaGreatDoor.P11
open Go Go.Vm Go.Num Go.Tow Go.Proofs.YtclgppjdhndgiaaGreatDoor Go.Proofs.YtclgppjdhndgiaaGreatDoor.P9 Go.Proofs.YtclgppjdhndgiaaGreatDoor.R11
section
def fmtV(z:Int)(d:Nat): AV:=if (txt z d).length<=400 then .tup (.pr (.d (.str (txt z d))) (.d (.int .i64 0))) else .tup (.pr (.d (.str [])) (.d (.int .i64 3)))
abbrev RndOf(x:Nm)(d:Nat)(z:Int): Prop:=Xcj x.k x.t (scl x.k x.t x.a ((10^d:Int):Rat) hf) z
theorem dcT{p:Prop}(h:p): dc p=true:=Xal.2 h
theorem dcF{p:Prop}(h:¬p): dc p=false:=W2m.2 λe=>h (Xal.1 e)
theorem Ykn{z:Int}(hl:(dig z.natAbs).length<=274877906944): C0 99 [.d (.str (tx z)),.d (.str [45])] (·=.tup (.pr (.d (.str (dec z.natAbs))) (.b (dc (z<0))))):=by
 have hlen:=Xov z.natAbs
 have hT:Tx (tx z):=by
  by_cases h:z<0
  . rw[Xtc h];show (45::dec z.natAbs).length<_;rw[W0k];omega
  . rw[Xtb h];show (dec z.natAbs).length<_;omega
 have h:=Xed (s:=tx z) (t:=[45]) hT (by decide)
 by_cases hz:z<0
 . have e:(tx z).take [(45:UInt8)].length=[45]:=by rw[Xtc hz];rfl
   rw[if_pos e,show (tx z).drop [(45:UInt8)].length=dec z.natAbs by rw[Xtc hz];rfl] at h
   exact h.mono λv hv=>by rw[hv,dcT e,dcT hz]
 . have e:¬(tx z).take [(45:UInt8)].length=[45]:=λe=>by
    rw[Xtb hz] at e
    have hm:(45:UInt8)∈dec z.natAbs:=W5t (by rw[e];exact W0g.2 rfl)
    have:=(Ykk z.natAbs 45 hm).1
    exact absurd this (by decide)
   exact h.mono λv hv=>by rw[hv,if_neg e,dcF e,dcF hz,Xtb hz]
theorem Xx4{x:Nm}{d:Nat}(H:Pk x)(hd:d<=60): C0 34 [.d (dN x),.d (.int .i64 d)] λv=>∃z,RndOf x d z/\(dig z.natAbs).length<=274877906944/\v=fmtV z d:=by
 refine En Tryz.func34 λ_ _ _=>?_
 refine Ca rfl (Yba H hd) λv hv=>?_
 obtain⟨z,rfl,hz,hl⟩:=hv
 have hlen:=Xov z.natAbs
 have hpl:=Yep d (dec z.natAbs)
 have hdp:=Xw5 z.natAbs
 obtain⟨s,hs⟩:∃s,s=dec z.natAbs:=⟨_,rfl⟩
 rw[<-hs] at hlen hpl hdp
 have hct:=Ykn hl
 rw[<-hs] at hct
 refine No rfl (by decide) ?_
 refine Ce rfl (Xsh hl) ?_
 refine Ce rfl hct ?_
 obtain⟨q,hq⟩:∃q,q=pad d s:=⟨_,rfl⟩
 have hql:q.length=max (d+1) s.length:=by rw[hq,hpl]
 obtain⟨r,hr⟩:∃r,r=pt d q:=⟨_,rfl⟩
 have hrl:r.length<=q.length+1:=by
  rw[hr,pt];split
  . omega
  . rw[W0d,W0k,W0j,W1n];omega
 have htx:txt z d=(if z<0 then [45] else [])++r:=by rw[txt,hr,hq,hs]
 refine Cu none (λ(_:Unit)=>[(1,.d (.int .i64 d)),(8,.d (.str q)),(9,.b (dc (z<0)))]) (λ_=>[]) (λ_=>True) rfl ?_ λ_ _=>?_
 . refine By rfl (λh=>?_) λh=>?_
   . have h:((s.length:Nat):Int)<=d:=h
     refine Ar (d+1:Nat) rfl ?_
     refine Ar (d+1-s.length:Nat) rfl ?_
     refine Ce rfl (Xj6 (by omega)) ?_
     refine Sc q rfl (by rw[hq];rfl) (by rw[W1v];omega) ?_
     exact Jn () [] rfl trivial
   . have h:¬((s.length:Nat):Int)<=d:=h
     have e:q=s:=by rw[hq,pad,show d+1-s.length=0 by omega];rfl
     rw[e]
     exact Jn () [] rfl trivial
 refine Cu none (λ(_:Unit)=>[(1,.d (.int .i64 d)),(8,.d (.str r)),(9,.b (dc (z<0)))]) (λ_=>[]) (λ_=>True) rfl ?_ λ_ _=>?_
 . refine By rfl (λh=>?_) λh=>?_
   . refine Dw rfl ?_
     refine Ar ((q.length-d:Nat):Int) rfl ?_
     refine Stk (q.length-d) _ rfl (by omega) rfl ?_
     refine Sc (q.take (q.length-d)++[46]) rfl rfl (by simp;omega) ?_
     refine Ar ((q.length-d:Nat):Int) rfl ?_
     refine Sdp (q.length-d) _ rfl (by omega) rfl ?_
     refine Sc r rfl (by rw[hr,pt,if_neg (by omega)];simp) (by simp;omega) ?_
     exact Jn () [] rfl trivial
   . have e:r=q:=by rw[hr,pt,if_pos (by omega)]
     rw[e]
     exact Jn () [] rfl trivial
 refine Cu none (λ(_:Unit)=>[(8,.d (.str (txt z d)))]) (λ_=>[]) (λ_=>True) rfl ?_ λ_ _=>?_
 . refine By rfl (λh=>?_) λh=>?_
   . refine Sc (txt z d) rfl (by rw[htx,if_pos h]) (by show 1+r.length<_;omega) ?_
     exact Jn () [] rfl trivial
   . rw[htx,if_neg h]
     exact Jn () [] rfl trivial
 refine By rfl (λh=>?_) λh=>?_
 . exact Rt rfl (.tup (.cons (.rf rfl) Xax)) ⟨z,hz,hl,by rw[fmtV,if_neg (by omega)]⟩
 . exact Rt rfl (.tup (.cons (.rf rfl) Xax)) ⟨z,hz,hl,by rw[fmtV,if_pos (by omega)]⟩
theorem dFmt_ok{x:Nm}{d:Nat}(H:Pk x)(hd:d<=60): C0 34 [.d (dN x),.d (.int .i64 d)] λv=>∃z,RndOf x d z/\(dig z.natAbs).length<=274877906944/\v=fmtV z d:=Xx4 H hd
end
section
def pP(s:List UInt8)(v:AV): Prop:=match prs s with
 | none=>∃m:Int,v=.tup (.pr (.d (dz 0)) (.pr (.d (.int .i64 m)) (.b false)))
 | some (ng,a,b)=>v=.tup (.pr (.d (dz (frI ng a b))) (.pr (.d (.int .i64 b.length)) (.b true)))
theorem Xut{s:List UInt8}{v:AV}(h:prs s=none): pP s v↔∃m:Int,v=.tup (.pr (.d (dz 0)) (.pr (.d (.int .i64 m)) (.b false))):=by unfold pP;rw[h]
theorem Xme{s a b:List UInt8}{ng:Bool}{v:AV}(h:prs s=some (ng,a,b)): pP s v↔v=.tup (.pr (.d (dz (frI ng a b))) (.pr (.d (.int .i64 b.length)) (.b true))):=by unfold pP;rw[h]
theorem Yqj{s:List UInt8}(hs:Tx s): ∃ng q,s=sgB ng++q/\(ng=false->s.head?≠some 45)/\C0 99 [.d (.str s),.d (.str [45])] (·=.tup (.pr (.d (.str q)) (.b ng))):=by
 have h:=Xed (s:=s) (t:=[45]) hs (by decide)
 by_cases e:s.take [(45:UInt8)].length=[45]
 . refine⟨true,s.drop 1,?_,nofun,h.mono λv hv=>by rw[hv,if_pos e,dcT e];rfl⟩
   have:=W4d 1 s
   rw[show s.take 1=[45] from e] at this
   exact this.symm
 . refine⟨false,s,rfl,λ_ hh=>e ?_,h.mono λv hv=>by rw[hv,if_neg e,dcF e]⟩
   cases s with
   | nil=>cases hh
   | cons x t=>cases hh;rfl
theorem Yqi{s q:List UInt8}{ng:Bool}(hl:s.length<=400)(hs:s=sgB ng++q)(hn:ng=false->s.head?≠some 45): ∃u t pt,u.length+t.length<=400/\C0 139 [.d (.str q),.d (.str [46])] (·=.tup (.pr (.d (.str u)) (.pr (.d (.str t)) (.b pt)))) /\
 prs s=if u=[]\/(pt=true/\t=[])\/(1<u.length/\u.head?=some 48)\/(u++t).all isD=false then none else if ng&&z0 (u++t) then none else some (ng,u,t):=by
 have hql:q.length<=400:=by have:=congrArg List.length hs;rw[W0d] at this;omega
 rcases Xvs 46 q with h | ⟨u,t,rfl,h⟩
 . refine⟨q,[],false,by simpa using hql,Ylr (b:=46) (by show q.length<_;omega) h,?_⟩
   rw[Yiv hl hs hn h,W3g]
   simp only[Bool.false_eq_true,false_and,false_or]
 . refine⟨u,t,true,by rw[W0d,W0k] at hql;omega,Yls (by show _<_;omega) h,?_⟩
   rw[Yiu hl hs hn h]
   simp only[true_and]
theorem Ybu{c:UInt8}: ∀l:List UInt8,∃n,l=List.replicate n c++trL c l
 | []=>⟨0,rfl⟩
 | x::l=>by
  unfold trL
  rw[W4o]
  by_cases h:x=c
  . obtain⟨n,hn⟩:=Ybu (c:=c) l
    rw[if_pos (by rw[h];exact beq_self_eq_true c)]
    exact⟨n+1,by rw[W4b,W3r,h];congr 1⟩
  . rw[if_neg (by simpa using h)]
    exact⟨0,rfl⟩
theorem Yf2(l:List UInt8)(n:Nat): Xb9 (List.replicate n 48++l)=Xb9 l:=by
 rw[Xhd,Xwt (by unfold z0;simp),W4x,W1k]
theorem Yhu{l y:List UInt8}(hd:∀b∈l,Xja b)(hy:y=trL 48 l)(h0:y≠[]): ∃b r,y=b::r/\48<b.toNat:=by
 cases y with
 | nil=>exact absurd rfl h0
 | cons b r =>
  refine⟨b,r,rfl,?_⟩
  have h1:=W7e (·==(48:UInt8)) l
  unfold trL at hy
  rw[<-hy] at h1
  have h1:¬b=48:=by simpa using h1
  have hb:b∈l:=(List.dropWhile_sublist _).subset (by rw[<-hy];exact W0w ..)
  have:=(hd b hb).1
  have h2:b.toNat≠48:=λe=>h1 (W8a.1 e)
  omega
theorem Xrc{m:Int}{g:Hp}{K:Hpl}: FitT g K (.pr (AV.st (.pr (.b false) .nil)) (.pr (.d (.int .i64 m)) (.b false))) (.pr (.d (dz 0)) (.pr (.d (.int .i64 m)) (.b false))):=by
 rw[dz0];exact .cons (.sd (.pd (.bd rfl) (.nil rfl))) (.cons (.rf rfl) (.one (.rf rfl) (λ_ _ e=>by cases e) (λ_ _ e=>by cases e)))
theorem Xha{s:List UInt8}(hs:Tx s): C0 59 [.d (.str s)] (pP s):=by
 obtain⟨ng,q,hq,hn,hc⟩:=Yqj hs
 by_cases hl:s.length<=400
 . obtain⟨u,t,pt,hut,hk,hp⟩:=Yqi hl hq hn
   have hTx:Tx (u++t):=by show (u++t).length<_;rw[W0d];omega
   have htr:=Ygz hTx
   obtain⟨w,hw⟩:∃w,w=(Xpg Yhe.contains (u++t)).dropWhile Yhe.contains:=⟨_,rfl⟩
   have hwn:w=[]↔(u++t).all isD=true:=by rw[hw,Xyq,Yal]
   rw[<-hw] at htr
   refine En Tryz.func59 λ_ _ _=>?_
   refine No rfl (by omega) ?_
   refine Ce rfl hc ?_
   refine Ce rfl hk ?_
   let fl:Prop:=u=[]\/(pt=true/\t=[])\/(1<u.length/\u.head?=some 48)\/(u++t).all isD=false
   refine Cu (some 5) (λ(c:Bool)=>[(2,.ptr 2 0),(6,.b ng),(7,.d (.str u)),(8,.d (.str t)),(53,.b c)]) (λ_=>[(2,.var (.st (.pr (.b false) .nil)))]) (λc=>c=true↔fl) rfl ?_ λc hcf=>?_
   . refine By rfl (λh=>?_) λhu=>?_
     . exact Jn true [] rfl ⟨λ_=>.inl h,λ_=>rfl⟩
     have ulen:0<u.length:=W4n.2 hu
     have last:(¬(pt=true/\t=[]))->(¬(1<u.length/\u.head?=some 48))->(w≠[]↔fl):=λh1 h2=>by
      show _↔(_\/_\/_\/_)
      simp only[hu,h1,h2,false_or,hwn,ne_eq,Bool.not_eq_true]
     have fin2:∀b,u[0]?=some b->((b.toNat:Int)=48↔u.head?=some 48):=λb hb=>by
      rw[List.head?_eq_getElem?,hb]
      constructor
      . intro e;rw[show b=48 from W8a.1 (by show b.toNat=48;omega)]
      . intro e;injection e with e;rw[e];rfl
     have hu0:u[0]?=some (u[0]):=W0a ulen
     have hsc:(u++t).length<9223372036854775808:=by rw[W0d];omega
     have hsl:u.length+t.length<9223372036854775808:=by omega
     refine By rfl (λhpt=>By rfl (λh=>Jn true [] rfl ⟨λ_=>.inr (.inl ⟨hpt,h⟩),λ_=>rfl⟩) λht=>?_) λhpt=>?_
     . have hA:¬(pt=true/\t=[]):=λh=>ht h.2
       refine By rfl (λh1=>Yx 0 _ rfl hu0 (By rfl (λh48=>Jn true [] rfl ⟨λ_=>.inr (.inr (.inl ⟨by omega,(fin2 _ hu0).1 h48⟩)),λ_=>rfl⟩) λh48=>?_)) λh1=>?_
       . refine Sc (u++t) rfl rfl hsl ?_
         refine Ce rfl htr ?_
         exact Jn (dc (w≠[])) [] rfl (Xal.trans (last hA λh=>h48 ((fin2 _ hu0).2 h.2)))
       . refine Sc (u++t) rfl rfl hsl ?_
         refine Ce rfl htr ?_
         exact Jn (dc (w≠[])) [] rfl (Xal.trans (last hA λh=>by omega))
     . have hA:¬(pt=true/\t=[]):=λh=>hpt h.1
       refine By rfl (λh1=>Yx 0 _ rfl hu0 (By rfl (λh48=>Jn true [] rfl ⟨λ_=>.inr (.inr (.inl ⟨by omega,(fin2 _ hu0).1 h48⟩)),λ_=>rfl⟩) λh48=>?_)) λh1=>?_
       . refine Sc (u++t) rfl rfl hsl ?_
         refine Ce rfl htr ?_
         exact Jn (dc (w≠[])) [] rfl (Xal.trans (last hA λh=>h48 ((fin2 _ hu0).2 h.2)))
       . refine Sc (u++t) rfl rfl hsl ?_
         refine Ce rfl htr ?_
         exact Jn (dc (w≠[])) [] rfl (Xal.trans (last hA λh=>by omega))
   . refine By rfl (λh=>?_) λh=>?_
     . exact Rt rfl (.tup Xrc) ((Xut (by rw[hp,if_pos (hcf.1 h)])).2 ⟨0,rfl⟩)
     . have hf:¬fl:=λe=>h (hcf.2 e)
       have hp':prs s=if ng&&z0 (u++t) then none else some (ng,u,t):=by rw[hp,if_neg hf]
       have hall:(u++t).all isD=true:=by
        cases e:(u++t).all isD with
        | true=>rfl
        | false=>exact absurd (.inr (.inr (.inr e))) hf
       have hdg:∀b∈u++t,Xja b:=Yph.1 hall
       have hTL:=Xnj (s:=u++t) (b:=48) hTx (by decide)
       obtain⟨y,hy⟩:∃y,y=trL 48 (u++t):=⟨_,rfl⟩
       have hz0:y=[]↔z0 (u++t)=true:=by rw[hy];exact Ymh _
       rw[<-hy] at hTL
       refine Sc (u++t) rfl rfl (by omega) ?_
       refine Ce rfl hTL ?_
       refine By rfl (λhy0=>?_) λhy0=>?_
       . have hz:=hz0.1 hy0
         refine Ce rfl (FromInt_ok (z:=0) (by decide)) ?_
         cases ng with
         | true =>
          rw[hz] at hp'
          exact Rt rfl (.tup (.cons (.rf rfl) (.cons (.rf rfl) (.one (.rf rfl) (λ_ _ e=>by cases e) (λ_ _ e=>by cases e))))) ((Xut (by rw[hp'];rfl)).2 ⟨t.length,rfl⟩)
         | false =>
          exact Rt rfl (.tup (.cons (.rf rfl) (.cons (.rf rfl) (.one (.rf rfl) (λ_ _ e=>by cases e) (λ_ _ e=>by cases e))))) ((Xme (by rw[hp'];rfl)).2 (by rw[frI,Xwt hz];rfl))
       . have hz:z0 (u++t)=false:=by cases e:z0 (u++t) with | true=>exact absurd (hz0.2 e) hy0 | false=>rfl
         have hyp:prs s=some (ng,u,t):=by rw[hp',hz,Bool.and_false];rfl
         obtain⟨n,hyn⟩:=Ybu (u++t)
         rw[<-hy] at hyn
         have hyd:∀b∈y,Xja b:=λb hb=>hdg b (by rw[hyn];exact W1r _ hb)
         have hyl:y.length<=400:=by have:=congrArg List.length hyn;rw[W0d,W0d] at this;omega
         have hyv:Xb9 y=Xb9 (u++t):=by rw[hyn,Yf2]
         have hdl:=Xlg hyd
         refine Ce rfl (Ybb hyd (by omega) (Yhu hdg hy hy0)) ?_
         rw[hyv] at hdl |-
         refine By rfl (λhng=>?_) λhng=>?_
         . refine Ce rfl (Neg_ok (by rw[W1l];omega)) ?_
           exact Rt rfl (.tup (.cons (.rf rfl) (.cons (.rf rfl) (.one (.rf rfl) (λ_ _ e=>by cases e) (λ_ _ e=>by cases e))))) ((Xme hyp).2 (by rw[frI,if_pos hng,dcT (p:=(0:Int)=0) rfl];rfl))
         . exact Rt rfl (.tup (.cons (.rf rfl) (.cons (.rf rfl) (.one (.rf rfl) (λ_ _ e=>by cases e) (λ_ _ e=>by cases e))))) ((Xme hyp).2 (by rw[frI,if_neg hng,dcT (p:=(0:Int)=0) rfl];rfl))
 . have hp:prs s=none:=by unfold prs;rw[if_pos (by omega)]
   refine En Tryz.func59 λ_ _ _=>?_
   refine Yes rfl (by omega) ?_
   exact Rt rfl (.tup Xrc) ((Xut hp).2 ⟨0,rfl⟩)
theorem Xmu{s a b:List UInt8}{ng:Bool}(h:prs s=some (ng,a,b)): Zs 1601 (frI ng a b)/\b.length<=400:=by
 obtain⟨h1,h2,h3,h4,h5⟩:=Xqk h
 have hl:a.length+b.length<=400:=by
  have:=congrArg List.length h2
  rw[W0d,W0d] at this
  have:b.length<=(ptB b).length:=by unfold ptB;split<;>simp_all
  omega
 have hd:∀x∈a++b,Xja x:=Yph.1 (by rw[W5e,h4,h5];rfl)
 have hv:=Xis hd
 rw[W0d] at hv
 have:=Qn hv hl
 refine⟨?_,by omega⟩
 have hz:Zs 1601 ((Xb9 (a++b):Nat):Int):=this.n
 unfold frI
 unfold Zs at *
 split
 . rw[W4t];exact hz
 . exact hz
theorem Parse_no{s:List UInt8}(hs:Tx s)(h:prs s=none): C0 218 [.d (.str s)] (·=.tup (.pr (.d dq0) (.d (.int .i64 2)))):=by
 refine En Tryz.func218 λ_ _ _=>?_
 refine Ca rfl (Xha hs) λv hv=>?_
 obtain⟨m,rfl⟩:=(Xut h).1 hv
 refine Yes rfl (by decide) ?_
 exact RTt rfl (.cons (.sd (.pd (.sd (.pd (.bd rfl) (.nil rfl))) (.sd (.pd (.bd rfl) (.nil rfl))))) Xax)
theorem Parse_yes{s a b:List UInt8}{ng:Bool}(hs:Tx s)(h:prs s=some (ng,a,b)): C0 218 [.d (.str s)] (·=.tup (.pr (.d (dq (fr ng a b))) (.d (.int .i64 0)))):=by
 obtain⟨hz,hb⟩:=Xmu h
 have hm:=Make_ok (p:=1605) (hz.mono (by decide)) ((p10 b.length).mono (by omega)) (by decide) (λe=>Xjg b.length (by rw[e];rfl))
 rw[W3b,<-Xq8] at hm
 refine En Tryz.func218 λ_ _ _=>?_
 refine Ca rfl (Xha hs) λv hv=>?_
 obtain rfl:=(Xme h).1 hv
 refine No rfl (by decide) ?_
 refine Dw rfl ?_
 refine Ce rfl (Xcy (by omega)) ?_
 refine Ce rfl hm ?_
 exact RTt rfl (.cons (.rf rfl) Xax)
end
section
def loQ(ng:Bool)(a b:List UInt8): Rat:=fr ng a b-hf/((10^b.length:Int):Rat)
def hiQ(ng:Bool)(a b:List UInt8): Rat:=fr ng a b+hf/((10^b.length:Int):Rat)
theorem Yma{k:Nat}(hk:k<=3): vB 300 k (15000+4000+4)<=4398046511104/\vB 300 k 300<=4398046511104:=by
 have h:k=0\/k=1\/k=2\/k=3:=by omega
 rcases h with rfl | rfl | rfl | rfl<;>decide +kernel
theorem Ygb{x:Nm}(hk:x.k<=3)(hr:Xbv x.k x.t)(hx:TS 300 x.k x.t)(hp:Sz 15000 (toL x.k x.a)){q:Rat}(hq:Qs 4000 q):
 ∃c:Int,(C0 67 [.d (dN (nq q)),.d (dN x)] (·=.tup (.pr (.d (.int .i64 c)) (.d (.int .i64 0)))))/\(c<=0↔le x.k x.t (rat x.k q) x.a):=by
 refine⟨_,Yoi hr hx hp hq (by omega) (by decide) (by decide) (by decide) (Yma hk).1 (Yma hk).2,?_⟩
 unfold le
 have hs:=(Xav hr).sn (add x.k (rat x.k q) (neg x.k x.a))
 have L:=Xbc x.k x.t
 rw[L.nd,L.nn,L.ac] at hs
 rw[hs];omega
theorem Yas{x:Nm}(hk:x.k<=3)(hr:Xbv x.k x.t)(hx:TS 300 x.k x.t)(hp:Sz 15000 (toL x.k x.a)){q:Rat}(hq:Qs 4000 q):
 ∃c:Int,(C0 67 [.d (dN x),.d (dN (nq q))] (·=.tup (.pr (.d (.int .i64 c)) (.d (.int .i64 0)))))/\(c<=0↔le x.k x.t x.a (rat x.k q)):=by
 refine⟨_,Yoh hr hx hp hq (by omega) (by decide) (by decide) (by decide) (Yma hk).1 (Yma hk).2,?_⟩
 unfold le
 have hs:=(Xav hr).sn (add x.k x.a (neg x.k (rat x.k q)))
 have L:=Xbc x.k x.t
 rw[L.nd,L.nn,L.ac] at hs
 rw[hs];omega
theorem Yfn{n:Int}(h:Zs 1601 n): Qs 4000 ((n:Rat)-hf)/\Qs 4000 ((n:Rat)+hf):=by
 have h1:Qs 1601 (n:Rat):=Qs.int h (by decide)
 exact⟨by rw[W5k];exact(h1.add Xwc.neg).mono (by decide),(h1.add Xwc).mono (by decide)⟩
theorem Xtk(n:Nat): (0:Rat)<((10^n:Int):Rat):=by
 have:(0:Int)<10^n:=W6g (by decide)
 exact Rat.intCast_pos.2 this
theorem Xtj{n:Nat}(h:n<=400): Qs 1601 ((10^n:Int):Rat):=Qs.int ((p10 n).mono (by omega)) (by decide)
theorem Yhz{x:Nm}(H:Pk x){u:Rat}(hu:Qs 1601 u): Sz 15000 (toL x.k (mul x.k x.t x.a (rat x.k u))):=by
 rcases H.ml with hl | ⟨h0,hl⟩
 . refine(Sz.all (Xfq (t:=x.t) hl hu)).mono ?_
   rw[Xab]
   have hp:2^x.k<=2^3:=W0m (by decide) H.k
   omega
 . refine(Sz.all (Xfq (t:=x.t) hl hu)).mono ?_
   rw[Xab,h0]
   decide
theorem Within_no{x:Nm}{s:List UInt8}(hs:Tx s)(h:prs s=none): C0 23 [.d (dN x),.d (.str s)] (·=.b false):=by
 refine En Tryz.func23 λ_ _ _=>?_
 refine Ca rfl (Xha hs) λv hv=>?_
 obtain⟨m,rfl⟩:=(Xut h).1 hv
 refine Yes rfl (by decide) ?_
 exact R0
theorem Within_yes{x:Nm}{s a b:List UInt8}{ng:Bool}(H:Pk x)(hs:Tx s)(h:prs s=some (ng,a,b)): C0 23 [.d (dN x),.d (.str s)] (·=.b (dc (inI x.k x.t x.a (loQ ng a b) (hiQ ng a b)))):=by
 obtain⟨hz,hb⟩:=Xmu h
 obtain⟨n,hn⟩:∃n,n=frI ng a b:=⟨_,rfl⟩
 have hu:=Xtj hb
 have hsz:=Yhz H hu
 obtain⟨hq1,hq2⟩:=Yfn hz
 obtain⟨c,hc,hci⟩:=Ygb (x:=⟨x.k,x.t,mul x.k x.t x.a (rat x.k ((10^b.length:Int):Rat))⟩) H.k H.re H.t hsz hq1
 obtain⟨d,hd,hdi⟩:=Yas (x:=⟨x.k,x.t,mul x.k x.t x.a (rat x.k ((10^b.length:Int):Rat))⟩) H.k H.re H.t hsz hq2
 have hin:inI x.k x.t x.a (loQ ng a b) (hiQ ng a b)↔c<=0/\d<=0:=by
  have h0:=Xjg b.length
  rw[hci,hdi]
  have e1:loQ ng a b*((10^b.length:Int):Rat)=((frI ng a b:Int):Rat)-hf:=by rw[loQ,Xq8];grind
  have e2:hiQ ng a b*((10^b.length:Int):Rat)=((frI ng a b:Int):Rat)+hf:=by rw[hiQ,Xq8];grind
  show _/\_↔_
  rw[Xzq H.re (Xtk _) e1,Xz4 H.re (Xtk _) e2]
 obtain⟨b1,b2,b3,b4,b5⟩:=bnds H.k
 have hk:=H.k
 refine En Tryz.func23 λ_ _ _=>?_
 refine Ca rfl (Xha hs) λv hv=>?_
 obtain rfl:=(Xme h).1 hv
 refine No rfl (by decide) ?_
 refine Dw rfl ?_
 refine Ce rfl (Xcy (by omega)) ?_
 refine Ce rfl (Xj8 hz (by decide) (by decide)) ?_
 refine Dw rfl ?_
 refine Ce rfl (Xj8 hu.n (by decide) (by decide)) ?_
 refine Ce rfl (P9.FromRat_ok hu (by decide)) ?_
 refine Ce rfl (Yln H.t H.sz hu (by omega) (by decide) (by decide) (by decide) b5) ?_
 refine No rfl (by decide) ?_
 refine Ce rfl (Xkt (a:=1) (b:=2) (by decide) (by decide)) ?_
 refine Dw rfl ?_
 refine Ce rfl (Xuo (Qs.int hz (by decide)) Xwc (by decide)) ?_
 refine Ce rfl (P9.FromRat_ok hq1 (by decide)) ?_
 refine Ce rfl (Xdq (Qs.int hz (by decide)) Xwc (by decide)) ?_
 refine Ce rfl (P9.FromRat_ok hq2 (by decide)) ?_
 refine Ce rfl hc ?_
 refine Ce rfl hd ?_
 refine Yes rfl (by decide) ?_
 refine Yes rfl (by decide) ?_
 refine By rfl (λh1=>?_) λh1=>?_
 . exact R1 rfl (.bp (by rw[Xal,hin];exact⟨λh=>⟨h1,h⟩,λh=>h.2⟩))
 . exact R1 rfl (.bp (by rw[hin];exact⟨nofun,λh=>absurd h.1 h1⟩))
end
end Go.Proofs.YtclgppjdhndgiaaGreatDoor.P11
namespace Go.Proofs.YtclgppjdhndgiaaGreatDoor.R3
open Go Go.Vm Go.Num Go.Tow Go.Proofs.YtclgppjdhndgiaaGreatDoor
end Go.Proofs.YtclgppjdhndgiaaGreatDoor.R3
namespace Go.Proofs.YtclgppjdhndgiaaGreatDoor.R7
open Go Go.Vm Go.Num Go.Tow Go.Proofs.YtclgppjdhndgiaaGreatDoor
theorem FromRat_el{k:Nat}{t:Tw k}{x:Rat}(hk:k<=16): C0 166 [.d (dt t),.d (dq x)] (·=.d (de (rat k x))):=by
 have:=R6.FromRat_ok (t:=toT k t) (x:=x) (by rw[Xaa];exact hk)
 rwa[Xaa,<-Xex] at this
theorem Contains_ok{k:Nat}{t:Tw k}{a:Tow.El k}{x y:Rat}{s B:Nat}(hT:TS s k t)(ha:Sz s (toL k a))(hx:Qs B x)(hy:Qs B y)(hk:k<=16)(hv:vB s k (s+B+4)<=4398046511104):
 C0 86 [.d (dt t),.d (de a),.d (dI (x,y))] (·=.b (dc (inI k t a x y))):=by
 have hsB:=W0l (Xdd (r:=s) k _) hv
 have zx:=Sz.rat k hx
 have zy:=Sz.rat k hy
 refine En Tryz.func86 λ_ _ _=>?_
 refine Dw rfl ?_
 refine Ce rfl (FromRat_el hk) ?_
 refine Ce rfl (FromRat_el hk) ?_
 refine Ce rfl (R6.Sub_el hk ha.ps zx (by omega)) ?_
 refine Ce rfl (Xhu hT (s:=s+B+4) (by rw[Xas,Xbo];exact(ha.add zx.neg).mono (by omega)) hk hv) ?_
 refine By rfl (λh=>?_) λh=>?_
 . refine Ce rfl (R6.Sub_el hk zy.ps ha (by omega)) ?_
   refine Ce rfl (Xhu hT (s:=s+B+4) (by rw[Xas,Xbo];exact(zy.add ha.neg).mono (by omega)) hk hv) ?_
   exact R1 rfl (.bp (by rw[Xal];exact⟨λh2=>⟨h,h2⟩,λh2=>h2.2⟩))
 . exact R1 rfl (.bp ⟨nofun,λh2=>absurd h2.1 h⟩)
end Go.Proofs.YtclgppjdhndgiaaGreatDoor.R7
namespace Go.Vm
open Go
section
variable{c:Cx}{s:St}
theorem Yp7{K:List Kt}{E:Env}{H:Hpl}(t sz:Nat)(hv:look E t=some .nil)(k:J c K (sem ((t,.lit sz [])::E) H)): J c K (sem E H):=by
 rintro a w ⟨s0,W,θ,hw,hs,hθ,rfl⟩
 refine k a w ⟨_,W,θ,hw,?_,hθ,rfl⟩
 rw[show sem ((t,AV.lit sz [])::E) H=(upd (look E) t (.lit sz []),look H) by rw[Xa6]]
 refine⟨hs.fm,⟨hs.rel.defers,hs.rel.size,λq v hq=>?_⟩,hs.obs,λq v i hq hi=>?_⟩
 . rcases Xae hq with ⟨e1,e2⟩ | ⟨e1,e2⟩
   . subst e1;subst e2
     obtain⟨p,e⟩:=Xje (hs.rel.has q _ hv)
     rw[e]
     exact⟨_,⟨p,rfl,by decide,.inl rfl⟩,rfl⟩
   . exact hs.rel.has q v e2
 . rcases Xae hq with ⟨e1,e2⟩ | ⟨e1,e2⟩
   . subst e2;exact hi.elim
   . exact hs.ids q v i e2 hi
theorem NL{K:List Kt}{E:Env}{H:Hpl}(t sz:Nat)(h:nxJ c.tb c.n s=some (K,E,H))(k:StP c (.j [] K ((t,.lit sz [])::E) H))(hv:look E t=some .nil:=by exact rfl): StP c s:=by
 unfold nxJ at h
 split at h<;>cases h
 rename_i hr
 exact go 1000 hr (Yp7 t sz hv k)
end
end Go.Vm
namespace Go.Proofs.YtclgppjdhndgiaaGreatDoor.R11
open Go Go.Vm Go.Num Go.Tow Go.Proofs.YtclgppjdhndgiaaGreatDoor Go.Proofs.YtclgppjdhndgiaaGreatDoor.P11
theorem Yfq{s a b:List UInt8}{ng:Bool}(h:prs s=some (ng,a,b)): Qs 1605 (fr ng a b):=by
 obtain⟨hz,hb⟩:=Xmu h
 rw[Xq8,<-W3b]
 exact Qs.divInt (hz.mono (by decide)) ((p10 b.length).mono (by omega)) (λe=>Xjg b.length (by rw[e];rfl))
theorem Xwd{n:Nat}(hn:n<=400): Qs 1610 (hf/((10^n:Int):Rat)):=by
 have hn0:(10^n:Int)≠0:=λe=>Xjg n (by rw[e];rfl)
 have e:hf/((10^n:Int):Rat)=Rat.divInt 1 (2*10^n):=by
  rw[hf,W3b,W3b,W3v]
  have h1:=Xjg n
  grind
 rw[e]
 refine Qs.divInt (Zs.one (by decide)) ?_ (by omega)
 have h1:Zs 2 (2:Int):=show Int.natAbs 2<2^2 by decide
 exact(h1.mul (p10 n)).mono (by omega)
theorem Xvk{s a b:List UInt8}{ng:Bool}(h:prs s=some (ng,a,b)): Qs 4000 (loQ ng a b)/\Qs 4000 (hiQ ng a b):=by
 have h1:=Yfq h
 have h2:=Xwd (Xmu h).2
 exact⟨by unfold loQ;rw[W5k];exact(h1.add h2.neg).mono (by decide),(h1.add h2).mono (by decide)⟩
theorem Within_no{x:Nm}{s:List UInt8}(hs:Tx s)(h:prs s=none): C0 28 [.d (dN x),.d (.str s)] (·=.b false):=by
 refine En Tryz.func28 λ_ _ _=>?_
 refine Ce rfl (Parse_no hs h) ?_
 refine Yes rfl (by decide) ?_
 exact R0
theorem Within_yes{x:Nm}{s a b:List UInt8}{ng:Bool}(H:Pk x)(hs:Tx s)(h:prs s=some (ng,a,b)): C0 28 [.d (dN x),.d (.str s)] (·=.b (dc (inI x.k x.t x.a (loQ ng a b) (hiQ ng a b)))):=by
 obtain⟨hz,hb⟩:=Xmu h
 have hu:=Xtj hb
 have hpl:plc s=b.length:=by unfold plc;rw[h]
 refine En Tryz.func28 λ_ _ _=>?_
 refine Ce rfl (Parse_yes hs h) ?_
 refine No rfl (by decide) ?_
 refine Ce rfl (R2.Frac_ok (a:=1) (b:=2) (by decide) (by decide) (by decide)) ?_
 refine Ce rfl (show C0 _ _ (·=.d (.int .i64 b.length)) by rw[<-hpl];exact Places_ok hs) ?_
 refine Ce rfl (Xcy (by omega)) ?_
 refine Ce rfl (R2.Div_ok Xwc hu (by decide) (Xjg _)) ?_
 refine Dw rfl ?_
 refine Ce rfl (R2.Sub_ok (Yfq h) (Xwd hb) (by decide)) ?_
 refine Ce rfl (R2.Add_ok (Yfq h) (Xwd hb) (by decide)) ?_
 refine Ce rfl (R7.Contains_ok (x:=loQ ng a b) (y:=hiQ ng a b) (H.t.mono (by decide)) H.sz (Xvk h).1 (Xvk h).2 (show x.k<=16 by have:=H.k;omega) (W0l (Xcm (by have:=Xwr 4000 (2*(1000000+1+16)) x.k;omega)) (P11.bnds H.k).2.1)) ?_
 exact R0
end Go.Proofs.YtclgppjdhndgiaaGreatDoor.R11
namespace Go.Proofs.YtclgppjdhndgiaaGreatDoor.P11
open Go Go.Vm Go.Num Go.Tow Go.Proofs.YtclgppjdhndgiaaGreatDoor Go.Proofs.YtclgppjdhndgiaaGreatDoor.P9 Go.Proofs.YtclgppjdhndgiaaGreatDoor.R11 Go.Proofs.YtclgppjdhndgiaaGreatDoor.R9
section
theorem Pk_rat{q:Rat}{n:Nat}(hq:Qs n q)(hn:n<=1700): Pk ⟨0,(),q⟩ :=
 ⟨W0x _,trivial,trivial,trivial,.inr ⟨rfl,λx hx=>by obtain rfl:=W0g.1 hx;exact hq.mono hn⟩⟩
abbrev two: Nm:=⟨0,(),(2:Rat)⟩
end
section
theorem txt_at{d:Nat}(l:List UInt8)(hl:l.length=d+1)(hd:∀b∈l,Xja b): txt (Xb9 l:Nat) d=pt d l:=by
 unfold txt
 rw[if_neg (by omega),W1l,Yf8 d l hl hd];rfl
theorem rnd_at{q:Rat}{d:Nat}{z:Int}(h1:0<=Xet (q*((10^d:Int):Rat)+hf+-(z:Rat)))(h2:Xet (q*((10^d:Int):Rat)+hf+-((z+1:Int):Rat))=-1): RndOf ⟨0,(),q⟩ d z:=⟨h1,h2⟩
end
end Go.Proofs.YtclgppjdhndgiaaGreatDoor.P11
namespace Go.Proofs.YtclgppjdhndgiaaGreatDoor
open Go Go.Vm Go.Num Go.Tow
namespace P47
theorem Valid_arc{K:Nat}{G:Tw K}{S:List (Tow.El K)}{N:List Nm}{n m k:Nat}{p q r:V2 K}{c:Cv}(W:Wn G S N)(ha:c.arc=true)(hu:Gv G S N n c.C p)(hs:Gv G S N m c.A q)(ht:Gv G S N k c.B r)(hx:P19.Trm c.C.x)(hy:P19.Trm c.C.y)(h2:n+m+(n+m)+(n+m+(n+m))<=190)(h3:n+k+(n+k)+(n+k+(n+k))<=190)(hp:p≠q)(hr:p≠r): C0 45 [.d (dC c)] (·=.b (dc (Xer G (Xa9 q p) (Xa9 q p)=Xer G (Xa9 r p) (Xa9 r p)))):=by
 obtain⟨_,A,B,C,cw⟩:=c
 obtain rfl:_=true:=ha
 refine En Tryz.func45 λ_ _ _=>?_
 refine No rfl (λh=>h rfl) ?_
 refine Ca rfl (P15.Around_g W hu hs hx hy (by omega) hp) λv hv=>?_
 obtain⟨z,rfl,hz⟩:=hv
 refine Ca rfl (P15.Around_g W hu ht hx hy (by omega) hr) λv hv=>?_
 obtain⟨w,rfl,hw⟩:=hv
 refine Yes rfl (by decide) ?_
 refine Yes rfl (by decide) ?_
 refine Ce rfl (P9.Equal_g W hz hw h2 h3) ?_
 exact R0
theorem On_full{c:Cv}{z:Nm}{x:Vn}(ha:c.arc=true)(h1:C0 193 [.d (dC c)] (·=.tup (.pr (.d (P15.dK c.C z)) (.d (.int .i64 0)))))(h2:C0 194 [.d (P15.dK c.C z),.d (dV x)] (·=.tup (.pr (.d (.int .i64 0)) (.d (.int .i64 0)))))(h3:C0 195 [.d (dC c)] (·=.b true)): C0 108 [.d (dC c),.d (dV x)] (·=.b true):=by
 obtain⟨_,A,B,C,cw⟩:=c
 obtain rfl:_=true:=ha
 refine En Tryz.func108 λ_ _ _=>?_
 refine No rfl (λh=>h rfl) ?_
 refine Ce rfl h1 ?_
 refine No rfl (by decide) ?_
 refine Ce rfl h2 ?_
 refine No rfl (by decide) ?_
 refine No rfl (by decide) ?_
 refine Ce rfl h3 ?_
 refine Yes rfl rfl ?_
 exact R0
end P47
namespace P55
theorem Ypn{p q r:Rat×Rat}(hp:Qp 64 p)(hq:Qp 64 q)(h:Xcw (K:=0) p q=r): C0 56 [.d (dV (v0 p)),.d (dV (v0 q))] (·=.tup (.pr (.d (dV (v0 r))) (.d (.int .i64 0)))):=(P13.Add_g W0 (gv0 hp) (gv0 hq) (by decide) (by decide)).mono λv ⟨z,e,hz⟩=>by rw[e,Xcd hz,h]
theorem Ypk{p q r:Rat×Rat}(hp:Qp 64 p)(hq:Qp 64 q)(h:Xa9 (K:=0) p q=r): C0 55 [.d (dV (v0 p)),.d (dV (v0 q))] (·=.tup (.pr (.d (dV (v0 r))) (.d (.int .i64 0)))):=(P13.Sub_g W0 (gv0 hp) (gv0 hq) (by decide) (by decide)).mono λv ⟨z,e,hz⟩=>by rw[e,Xcd hz,h]
theorem Xx7{p q:Rat×Rat}{b:Bool}(hp:Qp 64 p)(hq:Qp 64 q)(h:dc (p=q)=b): C0 46 [.d (dV (v0 p)),.d (dV (v0 q))] (·=.b b):=(P13.Equal_g W0 (gv0 hp) (gv0 hq) (by decide) (by decide)).mono λv e=>e.trans (congrArg AV.b h)
theorem Yme{q s:Rat}(hq:Qs 64 q)(h:-q=s): C0 38 [.d (dN (nr q))] (·=.d (dN (nr s))):=(P9.Neg_g W0 (g0 hq) (by decide)).mono λv ⟨z,e,hz⟩=>by rw[e,zw hz.o,<-h];rfl
theorem Xwi{q:Rat}{d:Nat}{z:Int}(hq:Qs 64 q)(hd:d<=60)(h1:0<=Xet (q*((10^d:Int):Rat)+((0:Int):Rat)+-(z:Rat)))(h2:Xet (q*((10^d:Int):Rat)+((0:Int):Rat)+-((z+1:Int):Rat))=-1): C0 39 [.d (dN (nr q)),.d (.int .i64 d)] (·=.tup (.pr (.d (dz z)) (.d (.int .i64 0)))) :=
 (P11.Floor_ok (P11.Pk_rat hq (by decide)) hd).mono λv ⟨w,e,hw,_⟩=>by
  obtain rfl:=Xcj.uniq (k:=0) (t:=()) trivial hw (show Xcj 0 () _ z from⟨h1,h2⟩)
  exact e
theorem Xsi{x:Nm}{d:Nat}{z:Int}{s:List UInt8}(H:P11.Pk x)(hd:d<=60)(hz:P11.RndOf x d z)(ht:txt z d=s)(hs:s.length<=400): C0 34 [.d (dN x),.d (.int .i64 d)] (·=.tup (.pr (.d (.str s)) (.d (.int .i64 0)))) :=
 (P11.dFmt_ok H hd).mono λv ⟨w,hw,_,hv⟩=>by
  obtain rfl:=Xcj.uniq H.re hw hz
  subst ht
  rw[hv,P11.fmtV,if_pos hs]
theorem dg: ∀l:List UInt8,l.all isD=true->∀b∈l,Xja b:=λl h=>Yph.1 h
abbrev i0: Rat:=((0:Int):Rat)
abbrev i1: Rat:=((1:Int):Rat)
abbrev i2: Rat:=((2:Int):Rat)
abbrev im: Rat:=((-1:Int):Rat)
theorem Pki{q:Rat}(h:Qs 64 q): P11.Pk ⟨0,(),q⟩:=P11.Pk_rat h (by decide)
theorem q0: Qs 64 i0:=by decide +kernel
theorem q1: Qs 64 i1:=by decide +kernel
theorem q2: Qs 64 i2:=by decide +kernel
theorem qm: Qs 64 im:=by decide +kernel
theorem f01: C0 34 [.d (dN (nr i0)),.d (.int .i64 1)] (·=.tup (.pr (.d (.str [48,46,48])) (.d (.int .i64 0)))):=Xsi (d:=1) (z:=0) (s:=[48,46,48]) (Pki q0) (by decide) (P11.rnd_at (by decide +kernel) (by decide +kernel)) (P11.txt_at [48,48] rfl (dg _ rfl)) (by decide)
theorem f11: C0 34 [.d (dN (nr i1)),.d (.int .i64 1)] (·=.tup (.pr (.d (.str [49,46,48])) (.d (.int .i64 0)))):=Xsi (d:=1) (z:=10) (s:=[49,46,48]) (Pki q1) (by decide) (P11.rnd_at (by decide +kernel) (by decide +kernel)) (P11.txt_at [49,48] rfl (dg _ rfl)) (by decide)
theorem f21: C0 34 [.d (dN (nr i2)),.d (.int .i64 1)] (·=.tup (.pr (.d (.str [50,46,48])) (.d (.int .i64 0)))):=Xsi (d:=1) (z:=20) (s:=[50,46,48]) (Pki q2) (by decide) (P11.rnd_at (by decide +kernel) (by decide +kernel)) (P11.txt_at [50,48] rfl (dg _ rfl)) (by decide)
theorem f00: C0 34 [.d (dN (nr i0)),.d (.int .i64 0)] (·=.tup (.pr (.d (.str [48])) (.d (.int .i64 0)))):=Xsi (d:=0) (z:=0) (s:=[48]) (Pki q0) (by decide) (P11.rnd_at (by decide +kernel) (by decide +kernel)) (P11.txt_at [48] rfl (dg _ rfl)) (by decide)
theorem f10: C0 34 [.d (dN (nr i1)),.d (.int .i64 0)] (·=.tup (.pr (.d (.str [49])) (.d (.int .i64 0)))):=Xsi (d:=0) (z:=1) (s:=[49]) (Pki q1) (by decide) (P11.rnd_at (by decide +kernel) (by decide +kernel)) (P11.txt_at [49] rfl (dg _ rfl)) (by decide)
theorem fm0: C0 34 [.d (dN (nr im)),.d (.int .i64 0)] (·=.tup (.pr (.d (.str [45,49])) (.d (.int .i64 0)))):=Xsi (d:=0) (z:=-1) (s:=[45,49]) (Pki qm) (by decide) (P11.rnd_at (by decide +kernel) (by decide +kernel)) (by unfold txt;rw[if_pos (by decide),show (-1:Int).natAbs=1 from rfl,Xdk (show 1<10 by decide)];rfl) (by decide)
abbrev sg: Cv:=⟨false,v0 (i0,i0),v0 (i1,i2),v0 (i0,i0),false⟩
abbrev wh: Cv:=⟨true,v0 (i1,i0),v0 (i1,i0),v0 (i0,i0),false⟩
theorem Yg9{α:Type}{x y:α}{i:Nat}(h:[x][i]?=some y): i=0/\x=y:=by
 cases i with
 | zero=>exact⟨rfl,by simpa using h⟩
 | succ i=>simp at h
theorem Yg2: C0 12 [.d (Xd0 [sg]),.d (.int .i64 1)] (·=.tup (.pr (.d (.str [77,32,48,46,48,32,48,46,48,32,76,32,49,46,48,32,50,46,48])) (.d (.int .i64 0)))):=by
 have hV:C0 45 [.d (dC sg)] (·=.b true):=(P47.Valid_seg (K:=0) (G:=()) (S:=[]) (N:=[]) (n:=1) (m:=1) (c:=sg) (p:=(i0,i0)) (q:=(i1,i2)) W0 rfl (gv0 ⟨q0,q0⟩) (gv0 ⟨q1,q2⟩) (by decide) (by decide)).mono λv e=>by rw[e];exact congrArg AV.b (Xal.2 (by decide +kernel))
 have hp:=Xmn (l:=[sg]) (by decide) (by decide) (λc hc=>by obtain rfl:=W0g.1 hc;exact hV) (λi c d _ h=>by simp at h)
 have hw:=words_ok (c0:=sg) (d0:=sg) (l:=[sg]) (Z:=[Xnn sg.B]) (cl:=false) rfl rfl (by decide) rfl (λi c w h1 h2=>by
  obtain⟨rfl,rfl⟩:=Yg9 h1
  obtain⟨_,rfl⟩:=Yg9 h2
  exact .seg rfl) (Xx7 ⟨q0,q0⟩ ⟨q1,q2⟩ (P11.dcF (by decide +kernel)))
 exact Xx3 (l:=[sg]) (d:=1) (T:=[[77],[48,46,48],[48,46,48],[76],[49,46,48],[50,46,48]]) (by decide) hp hw (by decide) rfl (λi w t h1 h2=>by
  match i,h1,h2 with
  | 0,h1,h2=>cases h1;cases h2;rfl
  | 1,h1,h2=>cases h1;cases h2;exact f01
  | 2,h1,h2=>cases h1;cases h2;exact f01
  | 3,h1,h2=>cases h1;cases h2;rfl
  | 4,h1,h2=>cases h1;cases h2;exact f11
  | 5,h1,h2=>cases h1;cases h2;exact f21
  | i+6,h1,h2=>cases h1) (by decide)
theorem Xrz: C0 45 [.d (dC wh)] (·=.b true):=(P47.Valid_arc (K:=0) (G:=()) (S:=[]) (N:=[]) (n:=1) (m:=1) (k:=1) (c:=wh) (p:=(i0,i0)) (q:=(i1,i0)) (r:=(i1,i0)) W0 rfl (gv0 ⟨q0,q0⟩) (gv0 ⟨q1,q0⟩) (gv0 ⟨q1,q0⟩) (Xau q0) (Xau q0) (by decide) (by decide) (by decide +kernel) (by decide +kernel)).mono λv e=>by rw[e];exact congrArg AV.b (Xal.2 rfl)
theorem Yh6(y:Rat)(h1:y*y=i1)(h2:0<=Xet y): y=i1:=by
 have e0:i1=1:=rfl
 have e1:(y-1)*(y+1)=0:=by rw[e0] at h1;grind
 rcases Rat.mul_eq_zero.1 e1 with e | e
 . rw[e0];grind
 . exfalso
   have:y<0:=by grind
   rw[Xdo this] at h2
   omega
theorem Xl9: C0 52 [.d (dC wh)] (·=.tup (.pr (.d (dN (nr i1))) (.d (.int .i64 0)))):=by
 have hd:d2 (i1,i0) (i0,i0)=i1:=by decide +kernel
 have h:=radius_r (c:=wh) (p:=(i0,i0)) (q:=(i1,i0)) rfl rfl ⟨q0,q0⟩ ⟨q1,q0⟩ (by decide +kernel) (by rw[hd];exact q1.mono (by decide)) (by rw[hd];decide +kernel)
 rw[hd] at h
 refine h.mono λv hv=>?_
 obtain⟨z,rfl,hz⟩:=hv
 rcases hz with ⟨y,rfl,h1,h2⟩ | ⟨_,_,h2⟩
 . have hy:y=i1:=Yh6 y h1 h2
   rw[hy]
 . exact absurd ⟨(i1:Tow.El 0),by show i1*i1=i1;decide +kernel⟩ h2
theorem Xyl: C0 21 [.d (Xd0 [wh])] (·=.tup (.pr (.d (dWs (hdW wh++[Xca (nr i1) false true (v0 (im,i0))++Xca (nr i1) false true wh.B].flatten++[.mk [90]]))) (.d (.int .i64 0)))) :=
 words_ok (c0:=wh) (d0:=wh) (l:=[wh]) (cl:=true) rfl rfl (by decide) rfl (λi c w h1 h2=>by
  obtain⟨rfl,rfl⟩:=Yg9 h1
  obtain⟨_,rfl⟩:=Yg9 h2
  exact .full (c:=wh) (w:=v0 (im,i0)) rfl Xl9 (Xx7 ⟨q1,q0⟩ ⟨q1,q0⟩ (P11.dcT rfl)) (Ypk (r:=(im,i0)) ⟨q0,q0⟩ ⟨q1,q0⟩ (W3a (show i0+-i1=im by decide +kernel) (show i0+-i0=i0 by decide +kernel))) (Ypn (r:=(im,i0)) ⟨q0,q0⟩ ⟨qm,q0⟩ (W3a (show i0+im=im by decide +kernel) (show i0+i0=i0 by decide +kernel)))) (Xx7 ⟨q1,q0⟩ ⟨q1,q0⟩ (P11.dcT rfl))
theorem Yg1: C0 12 [.d (Xd0 [wh]),.d (.int .i64 0)] (·=.tup (.pr (.d (.str [77,32,49,32,48,32,65,32,49,32,49,32,48,32,48,32,49,32,45,49,32,48,32,65,32,49,32,49,32,48,32,48,32,49,32,49,32,48,32,90])) (.d (.int .i64 0)))):=by
 have hp:=Xmn (l:=[wh]) (by decide) (by decide) (λc hc=>by obtain rfl:=W0g.1 hc;exact Xrz) (λi c d _ h=>by simp at h)
 exact Xx3 (l:=[wh]) (d:=0) (T:=[[77],[49],[48],[65],[49],[49],[48],[48],[49],[45,49],[48],[65],[49],[49],[48],[48],[49],[49],[48],[90]]) (by decide) hp Xyl (by decide) rfl (λi w t h1 h2=>by
  match i,h1,h2 with
  | 0,h1,h2=>cases h1;cases h2;rfl
  | 1,h1,h2=>cases h1;cases h2;exact f10
  | 2,h1,h2=>cases h1;cases h2;exact f00
  | 3,h1,h2=>cases h1;cases h2;rfl
  | 4,h1,h2=>cases h1;cases h2;exact f10
  | 5,h1,h2=>cases h1;cases h2;exact f10
  | 6,h1,h2=>cases h1;cases h2;rfl
  | 7,h1,h2=>cases h1;cases h2;rfl
  | 8,h1,h2=>cases h1;cases h2;rfl
  | 9,h1,h2=>cases h1;cases h2;exact fm0
  | 10,h1,h2=>cases h1;cases h2;exact f00
  | 11,h1,h2=>cases h1;cases h2;rfl
  | 12,h1,h2=>cases h1;cases h2;exact f10
  | 13,h1,h2=>cases h1;cases h2;exact f10
  | 14,h1,h2=>cases h1;cases h2;rfl
  | 15,h1,h2=>cases h1;cases h2;rfl
  | 16,h1,h2=>cases h1;cases h2;rfl
  | 17,h1,h2=>cases h1;cases h2;exact f10
  | 18,h1,h2=>cases h1;cases h2;exact f00
  | 19,h1,h2=>cases h1;cases h2;rfl
  | i+20,h1,h2=>cases h1) (by decide)
theorem Ybh{p q r:Rat×Rat}(hp:Qp 64 p)(hq:Qp 64 q)(h1:p.1+q.1=r.1)(h2:p.2+q.2=r.2): C0 56 [.d (dV (v0 p)),.d (dV (v0 q))] (·=.tup (.pr (.d (dV (v0 r))) (.d (.int .i64 0)))):=Ypn hp hq (W3a h1 h2)
theorem Ybc{p:Rat×Rat}(hp:Qp 64 p)(h:(p.1+-i0)*(p.1+-i0)+(p.2+-i0)*(p.2+-i0)=i1): C0 108 [.d (dC wh),.d (dV (v0 p))] (·=.b true):=by
 have hd:d2 (i1,i0) (i0,i0)=i1:=by decide +kernel
 have hz1:Gd (K:=0) () ([]:List (Tow.El 0)) [] 8 (nr i1) i1:=(g0 q1).mono (by decide)
 refine P47.On_full (z:=nr i1) rfl ?_ ?_ ?_
 . refine(P47.around_g (c:=wh) (K:=0) (G:=()) (S:=[]) (N:=[]) (n:=1) (m:=1) (p:=(i0,i0)) (q:=(i1,i0)) W0 (gv0 ⟨q0,q0⟩) (gv0 ⟨q1,q0⟩) (Xau q0) (Xau q0) (by decide) (by decide +kernel)).mono λv hv=>?_
   obtain⟨z,rfl,hz⟩:=hv
   have hz2:z=nr (d2 (i1,i0) (i0,i0)):=zw hz.o
   rw[hd] at hz2
   rw[hz2]
 . refine(P15.Side_g (K:=0) (G:=()) (S:=[]) (N:=[]) (n:=1) (m:=1) (k:=8) (p:=(i0,i0)) (q:=p) W0 (gv0 (p:=(i0,i0)) ⟨q0,q0⟩) hz1 (gv0 hp) (by decide) (by decide)).mono λv hv=>?_
   rw[hv]
   have e:Xet (((p.1+-i0)*(p.1+-i0)+(p.2+-i0)*(p.2+-i0))+-i1)=0:=by rw[h];decide +kernel
   have e2:sgn 0 () (Tow.add 0 (Xer (K:=0) () (Xa9 (K:=0) p (i0,i0)) (Xa9 (K:=0) p (i0,i0))) (Tow.neg 0 (i1:Tow.El 0)))=0:=e
   rw[e2]
 . exact(P47.full_g (c:=wh) (K:=0) (G:=()) (S:=[]) (N:=[]) (n:=1) (m:=1) (p:=(i1,i0)) (q:=(i1,i0)) W0 rfl (gv0 ⟨q1,q0⟩) (gv0 ⟨q1,q0⟩) (by decide) (by decide)).mono λv e=>e.trans (congrArg AV.b (Xal.2 rfl))
theorem Yj7: C0 37 [.d (dC wh)] (·=.tup (.pr (.d (dVs [v0 (i1,i0),v0 (i1,i0),v0 (i1,i0),v0 (i0,i1),v0 (im,i0),v0 (i0,im)])) (.d (.int .i64 0)))) :=
 Xmz (c:=wh) (r:=nr i1) (m:=nr im) (X:=[v0 (i1,i0),v0 (i0,i1),v0 (im,i0),v0 (i0,im)]) (B:=[true,true,true,true]) rfl Xl9 (Yme q1 (by decide +kernel)) rfl rfl (λi d x b h1 h2 h3=>by
  match i,h1,h2,h3 with
  | 0,h1,h2,h3=>cases h1;cases h2;cases h3;exact⟨Ybh (p:=(i0,i0)) (q:=(i1,i0)) (r:=(i1,i0)) ⟨q0,q0⟩ ⟨q1,q0⟩ (by decide +kernel) (by decide +kernel),Ybc (p:=(i1,i0)) ⟨q1,q0⟩ (by decide +kernel)⟩
  | 1,h1,h2,h3=>cases h1;cases h2;cases h3;exact⟨Ybh (p:=(i0,i0)) (q:=(i0,i1)) (r:=(i0,i1)) ⟨q0,q0⟩ ⟨q0,q1⟩ (by decide +kernel) (by decide +kernel),Ybc (p:=(i0,i1)) ⟨q0,q1⟩ (by decide +kernel)⟩
  | 2,h1,h2,h3=>cases h1;cases h2;cases h3;exact⟨Ybh (p:=(i0,i0)) (q:=(im,i0)) (r:=(im,i0)) ⟨q0,q0⟩ ⟨qm,q0⟩ (by decide +kernel) (by decide +kernel),Ybc (p:=(im,i0)) ⟨qm,q0⟩ (by decide +kernel)⟩
  | 3,h1,h2,h3=>cases h1;cases h2;cases h3;exact⟨Ybh (p:=(i0,i0)) (q:=(i0,im)) (r:=(i0,im)) ⟨q0,q0⟩ ⟨q0,qm⟩ (by decide +kernel) (by decide +kernel),Ybc (p:=(i0,im)) ⟨q0,qm⟩ (by decide +kernel)⟩
  | i+4,h1,_,_=>cases h1)
theorem l0: C0 39 [.d (dN (nr i0)),.d (.int .i64 (0:Nat))] (·=.tup (.pr (.d (dz 0)) (.d (.int .i64 0)))):=Xwi q0 (by decide) (by decide +kernel) (by decide +kernel)
theorem l1: C0 39 [.d (dN (nr i1)),.d (.int .i64 (0:Nat))] (·=.tup (.pr (.d (dz 1)) (.d (.int .i64 0)))):=Xwi q1 (by decide) (by decide +kernel) (by decide +kernel)
theorem lm: C0 39 [.d (dN (nr im)),.d (.int .i64 (0:Nat))] (·=.tup (.pr (.d (dz (-1))) (.d (.int .i64 0)))):=Xwi qm (by decide) (by decide +kernel) (by decide +kernel)
theorem n0: C0 38 [.d (dN (nr i0))] (·=.d (dN (nr i0))):=Yme q0 (by decide +kernel)
theorem n1: C0 38 [.d (dN (nr i1))] (·=.d (dN (nr im))):=Yme q1 (by decide +kernel)
theorem nm: C0 38 [.d (dN (nr im))] (·=.d (dN (nr i1))):=Yme qm (by decide +kernel)
theorem zb(z:Int)(h:z.natAbs<4294967296): Zb z:=W0l (Xaq (k:=1) (by rw[Nat.pow_one];exact h)) (by decide)
theorem zs4(a b c e:Int)(ha:a.natAbs<4294967296)(hb:b.natAbs<4294967296)(hc:c.natAbs<4294967296)(he:e.natAbs<4294967296): Zb a/\Zb b/\Zb c/\Zb e:=⟨zb a ha,zb b hb,zb c hc,zb e he⟩
theorem p10: PtF (0:Nat) (v0 (i1,i0)) ⟨1,0,-1,0⟩:=⟨⟨_,_,n1,n0,lm,l0⟩,l1,l0,zs4 _ _ _ _ (by decide) (by decide) (by decide) (by decide)⟩
theorem p01: PtF (0:Nat) (v0 (i0,i1)) ⟨0,1,0,-1⟩:=⟨⟨_,_,n0,n1,l0,lm⟩,l0,l1,zs4 _ _ _ _ (by decide) (by decide) (by decide) (by decide)⟩
theorem pm0: PtF (0:Nat) (v0 (im,i0)) ⟨-1,0,1,0⟩:=⟨⟨_,_,nm,n0,l1,l0⟩,lm,l0,zs4 _ _ _ _ (by decide) (by decide) (by decide) (by decide)⟩
theorem p0m: PtF (0:Nat) (v0 (i0,im)) ⟨0,-1,0,1⟩:=⟨⟨_,_,n0,nm,l0,l1⟩,l0,lm,zs4 _ _ _ _ (by decide) (by decide) (by decide) (by decide)⟩
abbrev fwh: List F4:=[⟨1,0,-1,0⟩,⟨1,0,-1,0⟩,⟨1,0,-1,0⟩,⟨0,1,0,-1⟩,⟨-1,0,1,0⟩,⟨0,-1,0,1⟩]
theorem Ynx: CuF (0:Nat) wh fwh:=⟨_,Yj7,rfl,by decide,λi p f h1 h2=>by
 match i,h1,h2 with
 | 0,h1,h2=>cases h1;cases h2;exact p10
 | 1,h1,h2=>cases h1;cases h2;exact p10
 | 2,h1,h2=>cases h1;cases h2;exact p10
 | 3,h1,h2=>cases h1;cases h2;exact p01
 | 4,h1,h2=>cases h1;cases h2;exact pm0
 | 5,h1,h2=>cases h1;cases h2;exact p0m
 | i+6,h1,h2=>cases h1⟩
theorem Xyb: C0 14 [.d (Xd0 [wh]),.d (.int .i64 (0:Nat))] (·=.tup (.pr (.d (Yk1 ⟨-1,-1,-1,-1⟩ 0)) (.d (.int .i64 0)))) :=
 Xyc (l:=[wh]) (Fs:=[fwh]) (d:=0) (by decide) (by decide) (by decide) (λc hc=>by obtain rfl:=W0g.1 hc;exact Xrz) rfl (λi c fs h1 h2=>by
  obtain⟨rfl,rfl⟩:=Yg9 h1
  obtain⟨_,rfl⟩:=Yg9 h2
  exact Ynx) rfl
theorem Yll{x y:Rat}(hx:Qs 200 x): C0 44 [.d (dq x),.d (dq y)] (·=.b (dc (x=y))):=by
 have h1:=hx.n.len (by decide)
 have h2:=hx.d.len (by decide)
 refine En Tryz.func44 λ_ _ _=>?_
 refine Ce rfl (R2.SameInt_ok (z:=x.num) (w:=y.num) (by omega)) ?_
 refine By rfl (λh=>?_) λh=>?_
 . refine Ce rfl (R2.SameInt_ok (z:=(x.den:Int)) (w:=(y.den:Int)) (by omega)) ?_
   exact R1 rfl (.bp (Xal.trans ⟨λh3=>Rat.ext h (by omega),λe=>by rw[e]⟩))
 . exact R1 rfl (.bp ⟨nofun,λe=>absurd (by rw[e]) h⟩)
abbrev dB4(a b c e:Rat): D:=.st (.pr (dq a) (.pr (dq b) (.pr (dq c) (dq e))))
theorem Xsv{a b c e:Rat}(ha:Qs 200 a)(hb:Qs 200 b)(hc:Qs 200 c)(he:Qs 200 e): C0 17 [.d (dB4 a b c e),.d (dB4 a b c e)] (·=.b true):=by
 have s:∀ {x:Rat},Qs 200 x->C0 44 [.d (dq x),.d (dq x)] (·=.b true):=λhx=>(Yll hx).mono λv e=>e.trans (congrArg AV.b (Xal.2 rfl))
 refine En Tryz.func17 λ_ _ _=>?_
 refine Ce rfl (s ha) ?_
 refine Yes rfl rfl ?_
 refine Ce rfl (s hb) ?_
 refine Yes rfl rfl ?_
 refine Ce rfl (s hc) ?_
 refine Yes rfl rfl ?_
 refine Ce rfl (s he) ?_
 exact R0
theorem Xgk{i j:Int}(hi:-9223372036854775808<=i/\i<9223372036854775808)(hj:-9223372036854775808<=j/\j<9223372036854775808): C0 13 [.d (.int .i64 i),.d (.int .i64 j)] (·=.d (dV (v0 ((i:Rat),(j:Rat))))):=by
 refine En Tryz.func13 λ_ _ _=>?_
 refine Ce rfl (R13.Whole_ok hi hj) ?_
 exact R0
theorem Xry{i:Int}(hi:-9223372036854775808<=i/\i<9223372036854775808): C0 15 [.d (.int .i64 i)] (·=.d (dq (i:Rat))):=by
 refine En Tryz.func15 λ_ _ _=>?_
 refine Ce rfl (R2.FromInt_ok hi) ?_
 exact R0
theorem Yaz{a b c e:Rat}: C0 18 [.d (dB4 a b c e)] (·=.d (dB4 a b c e)):=by
 refine En Tryz.func18 λ_ _ _=>?_
 exact R0
theorem Ygi: Yk1 ⟨-1,-1,-1,-1⟩ 0=dB4 im im i1 i1:=by
 show dB4 (qb (-1) 0) (qb (-1) 0) (qb (- -1) 0) (qb (- -1) 0)=_
 rw[show qb (-1) 0=im by decide +kernel,show qb (- -1) 0=i1 by decide +kernel]
theorem aw55_ok: C0 5 [] (·=.b true):=by
 have hB:=Xyb
 rw[Ygi] at hB
 refine En Tryz.func5 λ_ _ _=>?_
 refine Ce rfl (Xgk (i:=0) (j:=0) (by decide) (by decide)) ?_
 refine Ce rfl (Xgk (i:=1) (j:=2) (by decide) (by decide)) ?_
 refine Ce rfl (Xgk (i:=0) (j:=0) (by decide) (by decide)) ?_
 refine Ce rfl Yg2 ?_
 refine Ce rfl (Xgk (i:=1) (j:=0) (by decide) (by decide)) ?_
 refine Ce rfl (Xgk (i:=1) (j:=0) (by decide) (by decide)) ?_
 refine Ce rfl (Xgk (i:=0) (j:=0) (by decide) (by decide)) ?_
 refine Ce rfl Yg1 ?_
 refine Ce rfl hB ?_
 refine Yes rfl (by decide) ?_
 refine Yes rfl (by decide) ?_
 refine Yes rfl (by decide) ?_
 refine Yes rfl rfl ?_
 refine Yes rfl rfl ?_
 refine Ce rfl Yaz ?_
 refine Ce rfl (Xry (i:=-1) (by decide)) ?_
 refine Ce rfl (Xry (i:=-1) (by decide)) ?_
 refine Ce rfl (Xry (i:=1) (by decide)) ?_
 refine Ce rfl (Xry (i:=1) (by decide)) ?_
 refine Ce rfl (Xsv (a:=im) (b:=im) (c:=i1) (e:=i1) (qm.mono (by decide)) (qm.mono (by decide)) (q1.mono (by decide)) (q1.mono (by decide))) ?_
 exact R0
end P55
end Go.Proofs.YtclgppjdhndgiaaGreatDoor
namespace Go.Proofs.YtclgppjdhndgiaaGreatDoor.R2
open Go Go.Vm Go.Num Go.Proofs.YtclgppjdhndgiaaGreatDoor
end Go.Proofs.YtclgppjdhndgiaaGreatDoor.R2
namespace Go.Proofs.YtclgppjdhndgiaaGreatDoor.P55
open Go Go.Vm Go.Num Go.Tow Go.Proofs.YtclgppjdhndgiaaGreatDoor
end Go.Proofs.YtclgppjdhndgiaaGreatDoor.P55
namespace Go.Vm
open Go Go.ChangeShapes Go.WideShapes Go.ChangeAt Go.RowKit
theorem Xgd{P:Program}{t:TypeId}(ht:P.underlying t=some .bool): Reads P t λd=>∃b:Bool,d=.bool b:=λw _ _ _ _ _ _ _ h =>
 let ⟨b,h1,_⟩:=DataW.trod_bool ht h
 ⟨_,⟨b,rfl⟩,h1⟩
end Go.Vm
namespace Go.Proofs.YtclgppjdhndgiaaGreatDoor
open Go Go.Vm Go.Num P55
open Go Go.Vm Go.Num Go.Tow
section
variable{K:Nat}{G:Tw K}{S:List (Tow.El K)}{N:List Nm}{n m k:Nat}{x y z:Nm}{a b v w:Tow.El K}{u s t:Vn}{p q r:V2 K}
def Yhk{K:Nat}(G:Tw K)(p:V2 K)(c:Tow.El K): V2 K:=(Tow.mul K G p.1 c,Tow.mul K G p.2 c)
theorem R13.first_ok: C0 180 [.d (.int .i64 0),.d (.int .i64 0)] (·=.d (.int .i64 0)):=by
 refine En Tryz.func180 λ_ _ _=>?_
 refine No rfl (by decide) ?_
 exact R0
theorem R13.vec_ok{x y:Nm}: C0 179 [.d (dN x),.d (dN y),.d (.int .i64 0)] (·=.tup (.pr (.d (dV ⟨x,y⟩)) (.d (.int .i64 0)))):=by
 refine En Tryz.func179 λ_ _ _=>?_
 refine No rfl (by decide) ?_
 exact RTt rfl (.cons (.rf rfl) Xax)
theorem R13.Add_g(W:Wn G S N)(hu:Gv G S N n u p)(hs:Gv G S N m s q)(hn:n<=190)(hm:m<=190): C0 96 [.d (dV u),.d (dV s)] (VoG G S N (n+m) (Xcw p q)):=by
 refine En Tryz.func96 λ_ _ _=>?_
 refine Ca rfl (R9.Add_g W hu.x hs.x hn hm) λv hv=>?_
 obtain⟨z,rfl,hz⟩:=hv
 refine Ca rfl (R9.Add_g W hu.y hs.y hn hm) λv hv=>?_
 obtain⟨w,rfl,hw⟩:=hv
 refine Dw rfl ?_
 refine Ce rfl R13.first_ok ?_
 refine Ce rfl R13.vec_ok ?_
 exact Rt rfl (.tup (.cons (.rf rfl) Xax)) ⟨⟨z,w⟩,rfl,hz,hw⟩
theorem R13.Neg_g(W:Wn G S N)(hu:Gv G S N n u p)(hn:n<=190): C0 177 [.d (dV u)] (VeG G S N n (neg K p.1,neg K p.2)):=by
 refine En Tryz.func177 λ_ _ _=>?_
 refine Dw rfl ?_
 refine Ca rfl (R9.Neg_g W hu.x hn) λv hv=>?_
 obtain⟨z,rfl,hz⟩:=hv
 refine Ca rfl (R9.Neg_g W hu.y hn) λv hv=>?_
 obtain⟨w,rfl,hw⟩:=hv
 exact Rt rfl (.one (.rf rfl) rfl rfl) ⟨⟨z,w⟩,rfl,hz,hw⟩
theorem R13.Sub_g(W:Wn G S N)(hu:Gv G S N n u p)(hs:Gv G S N m s q)(hn:n<=190)(hm:m<=190): C0 95 [.d (dV u),.d (dV s)] (VoG G S N (n+m) (Xa9 p q)):=by
 refine En Tryz.func95 λ_ _ _=>?_
 refine Dw rfl ?_
 refine Ca rfl (R13.Neg_g W hs hm) λv hv=>?_
 obtain⟨r,rfl,hr⟩:=hv
 refine Ca rfl (R13.Add_g W hu hr hn hm) λv hv=>?_
 obtain⟨z,rfl,hz⟩:=hv
 exact Rt rfl (.tup (.cons (.rf rfl) Xax)) ⟨z,rfl,hz⟩
theorem R13.Scale_g(W:Wn G S N)(hu:Gv G S N n u p)(hx:Gd G S N m x v)(hn:n<=190)(hm:m<=190): C0 156 [.d (dV u),.d (dN x)] (VoG G S N (n+m) (Yhk G p v)):=by
 refine En Tryz.func156 λ_ _ _=>?_
 refine Ca rfl (R9.Mul_g W hu.x hx hn hm) λv hv=>?_
 obtain⟨z,rfl,hz⟩:=hv
 refine Ca rfl (R9.Mul_g W hu.y hx hn hm) λv hv=>?_
 obtain⟨w,rfl,hw⟩:=hv
 refine Dw rfl ?_
 refine Ce rfl R13.first_ok ?_
 refine Ce rfl R13.vec_ok ?_
 exact Rt rfl (.tup (.cons (.rf rfl) Xax)) ⟨⟨z,w⟩,rfl,hz,hw⟩
theorem R13.Square_g(W:Wn G S N)(hu:Gv G S N n u p)(hn:n+n<=190): C0 246 [.d (dV u)] (OpG G S N (n+n+(n+n)) (Xer G p p)):=by
 refine En Tryz.func246 λ_ _ _=>?_
 refine Ca rfl (R13.Dot_g W hu hu (by omega) (by omega) hn) λv hv=>?_
 obtain⟨z,rfl,hz⟩:=hv
 exact Rt rfl (.tup (.cons (.rf rfl) Xax)) ⟨z,rfl,hz⟩
theorem R13.Equal_g(W:Wn G S N)(hu:Gv G S N n u p)(hs:Gv G S N m s q)(hn:n<=190)(hm:m<=190): C0 11 [.d (dV u),.d (dV s)] (·=.b (dc (p=q))):=by
 refine En Tryz.func11 λ_ _ _=>?_
 refine Ce rfl (R9.Equal_g W hu.x hs.x hn hm) ?_
 refine By rfl (λh=>?_) λh=>?_
 . refine Ce rfl (R9.Equal_g W hu.y hs.y hn hm) ?_
   exact R1 rfl (.bp (Xal.trans ⟨λh2=>W3a h h2,λe=>by rw[e]⟩))
 . exact R1 rfl (.bp ⟨nofun,λe=>absurd (by rw[e]) h⟩)
theorem R15.vec_ok{u:Vn}: CN0 94 [.ptr 1000001 0,.d (dV u),.d (.int .i64 0)] [(1000001,cal)] (·=.d (dV u)):=by
 refine EnW Tryz.func94 λ_ _ _ _=>?_
 refine Cn [] rfl R15.note_ok λv hv=>?_
 refine No rfl (by decide) ?_
 exact Rw [] [(1000001,cal)] rfl (.one (.rf rfl) rfl rfl) ⟨rfl,rfl⟩
theorem R15.Plus_g(W:Wn G S N)(hu:Gv G S N n u p)(hs:Gv G S N m s q)(hn:n<=190)(hm:m<=190): CN0 32 [.ptr 1000001 0,.d (dV u),.d (dV s)] [(1000001,cal)] (VeG G S N (n+m) (Xcw p q)):=by
 refine EnW Tryz.func32 λ_ _ _ _=>?_
 refine Ca rfl (R13.Add_g W hu hs hn hm) λv hv=>?_
 obtain⟨z,rfl,hz⟩:=hv
 refine Cn [] rfl R15.vec_ok λv hv=>?_
 subst hv
 exact Rw [] [(1000001,cal)] rfl (.one (.rf rfl) rfl rfl) ⟨rfl,z,rfl,hz⟩
theorem R15.Minus_g(W:Wn G S N)(hu:Gv G S N n u p)(hs:Gv G S N m s q)(hn:n<=190)(hm:m<=190): CN0 31 [.ptr 1000001 0,.d (dV u),.d (dV s)] [(1000001,cal)] (VeG G S N (n+m) (Xa9 p q)):=by
 refine EnW Tryz.func31 λ_ _ _ _=>?_
 refine Ca rfl (R13.Sub_g W hu hs hn hm) λv hv=>?_
 obtain⟨z,rfl,hz⟩:=hv
 refine Cn [] rfl R15.vec_ok λv hv=>?_
 subst hv
 exact Rw [] [(1000001,cal)] rfl (.one (.rf rfl) rfl rfl) ⟨rfl,z,rfl,hz⟩
theorem R15.Scale_g(W:Wn G S N)(hu:Gv G S N n u p)(hx:Gd G S N m x v)(hn:n<=190)(hm:m<=190): CN0 74 [.ptr 1000001 0,.d (dV u),.d (dN x)] [(1000001,cal)] (VeG G S N (n+m) (Yhk G p v)):=by
 refine EnW Tryz.func74 λ_ _ _ _=>?_
 refine Ca rfl (R13.Scale_g W hu hx hn hm) λv hv=>?_
 obtain⟨z,rfl,hz⟩:=hv
 refine Cn [] rfl R15.vec_ok λv hv=>?_
 subst hv
 exact Rw [] [(1000001,cal)] rfl (.one (.rf rfl) rfl rfl) ⟨rfl,z,rfl,hz⟩
theorem R15.Square_g(W:Wn G S N)(hu:Gv G S N n u p)(hn:n+n<=190): CN0 155 [.ptr 1000001 0,.d (dV u)] [(1000001,cal)] (OnG G S N (n+n+(n+n)) (Xer G p p)):=by
 refine EnW Tryz.func155 λ_ _ _ _=>?_
 refine Ca rfl (R13.Square_g W hu hn) λv hv=>?_
 obtain⟨z,rfl,hz⟩:=hv
 refine Cn [] rfl R15.num_ok λv hv=>?_
 subst hv
 exact Rw [] [(1000001,cal)] rfl (.one (.rf rfl) rfl rfl) ⟨rfl,z,rfl,hz⟩
theorem R15.Dot_g(W:Wn G S N)(hu:Gv G S N n u p)(hs:Gv G S N m s q)(hn:n<=190)(hm:m<=190)(h2:n+m<=190): CN0 391 [.ptr 1000001 0,.d (dV u),.d (dV s)] [(1000001,cal)] (OnG G S N (n+m+(n+m)) (Xer G p q)):=by
 refine EnW Tryz.func391 λ_ _ _ _=>?_
 refine Ca rfl (R13.Dot_g W hu hs hn hm h2) λv hv=>?_
 obtain⟨z,rfl,hz⟩:=hv
 refine Cn [] rfl R15.num_ok λv hv=>?_
 subst hv
 exact Rw [] [(1000001,cal)] rfl (.one (.rf rfl) rfl rfl) ⟨rfl,z,rfl,hz⟩
theorem R15.Far_g(W:Wn G S N)(hu:Gv G S N n u p)(hs:Gv G S N m s q)(h2:n+m+(n+m)<=190): CN0 72 [.ptr 1000001 0,.d (dV u),.d (dV s)] [(1000001,cal)] (OnG G S N (n+m+(n+m)+(n+m+(n+m))) (Xer G (Xa9 p q) (Xa9 p q))):=by
 refine EnW Tryz.func72 λ_ _ _ _=>?_
 refine Cn [] rfl (R15.Minus_g W hu hs (by omega) (by omega)) λv hv=>?_
 obtain⟨r,rfl,hr⟩:=hv
 refine Cn [] rfl (R15.Square_g W hr h2) λv hv=>?_
 obtain⟨z,rfl,hz⟩:=hv
 exact Rw [] [(1000001,cal)] rfl (.one (.rf rfl) rfl rfl) ⟨rfl,z,rfl,hz⟩
end
end Go.Proofs.YtclgppjdhndgiaaGreatDoor
namespace Go.Tow
open Go
section
section
variable{K:Nat}{G:Tw K}{p q r u x y w z:V2 K}
theorem Xpf(hG:red K G)(hp:p≠vz K): sgn K G (Xer G p p)=1:=by
 have Sg:=Xav (Xah hG)
 have h1:=(Xdx (Sg.tri p.1)).1
 have h2:=(Xdx (Sg.tri p.2)).1
 have h3:=Sg.sa (mul K G p.1 p.1) (mul K G p.2 p.2) (by rw[Sg.sm];exact h1) (by rw[Sg.sm];exact h2)
 have h3:0<=sgn K G (Xer G p p):=h3
 rcases Sg.tri (Xer G p p) with h | h | h
 . exact h
 . exact absurd (vsq hG h) hp
 . omega
section
variable(hG:red K G)(hp:p≠vz K)(hq:q≠vz K)
include hG hp hq
end
end
end
section
end
end Go.Tow
namespace Go.Proofs.YtclgppjdhndgiaaGreatDoor
open Go Go.Vm Go.Num Go.Tow
section
variable{K:Nat}{G:Tw K}{S:List (Tow.El K)}{N:List Nm}{n m k:Nat}{x y z:Nm}{a b v w s:Tow.El K}{u t:Vn}{p q r pa pb pc px:V2 K}
namespace P47
def Yqm(c:Cv): Cv:=match c.cw with
 | true=>⟨c.arc,c.B,c.A,c.C,false⟩
 | false=>c
theorem ccw_ok{c:Cv}: C0 196 [.d (dC c)] (·=.d (dC (Yqm c))):=by
 obtain⟨arc,A,B,C,cw⟩:=c
 cases cw with
 | true =>
  refine En Tryz.func196 λ_ _ _=>?_
  refine Yes rfl rfl ?_
  exact R1 rfl (.sd (.pd (.eq rfl) (.pd (.eq rfl) (.pd (.eq rfl) (.pd (.eq rfl) (.bd rfl))))))
 | false =>
  refine En Tryz.func196 λ_ _ _=>?_
  refine No rfl nofun ?_
  exact R0
theorem between_g{c:Cv}{X Y U:Vn}(W:Wn G S N)(hU:C0 55 [.d (dV X),.d (dV c.C)] (·=.tup (.pr (.d (dV U)) (.d (.int .i64 0)))))(hu:Gv G S N n U p)(ht:P19.Trm U.x)(hV:C0 55 [.d (dV Y),.d (dV c.C)] (VoG G S N m q))(h2:n+m<=190)(hp:p≠vz K)(hq:q≠vz K):
 C0 197 [.d (dC c),.d (dV X),.d (dV Y)] (λr=>∃v,r=.tup (.pr (.d (dT v 0)) (.d (.int .i64 0)))/\Gv G S N (n+m+(n+m)) v (Xyn G (Xfe p) q)):=by
 refine En Tryz.func197 λ_ _ _=>?_
 refine Ce rfl hU ?_
 refine No rfl (by decide) ?_
 refine Ca rfl hV λv hv=>?_
 obtain⟨V,rfl,hv⟩:=hv
 refine No rfl (by decide) ?_
 refine Ca rfl (P19.Of_g W hu hv ht h2) λv hv=>?_
 rcases hv with ⟨_,t,rfl,ht⟩ | ⟨h,_⟩
 . exact Rt rfl (.tup (.cons (.rf rfl) Xax)) ⟨t,rfl,ht⟩
 . exact absurd h (λh=>h.elim hp hq)
end P47
namespace R47
theorem vcon2K(G:Tw K): Xfe (Xfe p)=p:=W3a rfl ((Xbc K G).nn _)
theorem Yhm: Xyn G (Xfe p) q=(Xer G p q,Xes G p q):=W3a (by rw[<-Ybp,vcon2K G]) (by rw[<-Ybo,vcon2K G])
theorem Ypl{s:Vn}(W:Wn G S N)(hu:Gv G S N n u p)(hs:Gv G S N m s q)(h2:n+m<=190): C0 339 [.d (dV u),.d (dV s)] (P19.OfG G S N (n+m+(n+m)) p q):=by
 refine En Tryz.func339 λ_ _ _=>?_
 refine Ce rfl (R13.Zero_g W hu (by omega)) ?_
 refine By rfl (λh=>?_) λh=>?_
 . exact Rt rfl (.tup (.cons Xsj Xax)) (.inr ⟨.inl h,rfl⟩)
 . refine Ce rfl (R13.Zero_g W hs (by omega)) ?_
   refine By rfl (λh1=>?_) λh1=>?_
   . exact Rt rfl (.tup (.cons Xsj Xax)) (.inr ⟨.inr h1,rfl⟩)
   refine Dw rfl ?_
   refine Cn [(1000001,15)] rfl (R15.Dot_g W hu hs (by omega) (by omega) h2) λv hv=>?_
   obtain⟨d,rfl,hd⟩:=hv
   refine Cn [(1000001,15)] rfl (R15.Cross_g W hu hs (by omega) (by omega) h2) λv hv=>?_
   obtain⟨c,rfl,hc⟩:=hv
   refine Cn [(1000001,15)] rfl (R19.result_g (u:=⟨d,c⟩) (p:=(Xer G p q,Xes G p q)) (f:=0) ⟨hd,hc⟩) λv hv=>?_
   rcases hv with ⟨_,w,rfl,hw⟩ | ⟨h3,_⟩
   . exact Rt rfl (.tup (.cons (.rf rfl) Xax)) (.inl ⟨λe=>e.elim h h1,w,rfl,by rw[Yhm];exact hw⟩)
   . exact absurd (by decide) h3
theorem Full_g{c:Cv}(W:Wn G S N)(ha:c.arc=true)(hu:Gv G S N n c.A p)(hs:Gv G S N m c.B q)(hn:n<=190)(hm:m<=190): C0 73 [.d (dC c)] (·=.b (dc (p=q))):=by
 obtain⟨_,A,B,C,cw⟩:=c
 obtain rfl:_=true:=ha
 refine En Tryz.func73 λ_ _ _=>?_
 refine Yes rfl rfl ?_
 refine Ce rfl (R13.Equal_g W hu hs hn hm) ?_
 exact R0
def plD(cw:Bool)(pa px:V2 K): V2 K×V2 K:=match cw with
 | true=>(px,pa)
 | false=>(pa,px)
theorem place_g{c:Cv}{X:Vn}(W:Wn G S N)(hC:Gv G S N 1 c.C pc)(hA:Gv G S N 1 c.A pa)(hX:Gv G S N n X px)(hn:n<=10)(hp:Xa9 pa pc≠vz K)(hq:Xa9 px pc≠vz K): CN0 248 [.ptr 1000001 0,.d (dC c),.d (dV X)] [(1000001,cal)] (λr=>∃v,r=.d (dT v 0)/\Gv G S N 40 v (Xyn G (Xfe (plD c.cw (Xa9 pa pc) (Xa9 px pc)).1) (plD c.cw (Xa9 pa pc) (Xa9 px pc)).2)):=by
 obtain⟨arc,A,B,C,cw⟩:=c
 refine EnW Tryz.func248 λ_ _ _ _=>?_
 refine Dz rfl ?_
 refine Cn [] rfl (R15.Minus_g W hA hC (by decide) (by decide)) λv hv=>?_
 obtain⟨u,rfl,hu⟩:=hv
 refine Cn [] rfl (R15.Minus_g W hX hC (by omega) (by decide)) λv hv=>?_
 obtain⟨t,rfl,ht⟩:=hv
 cases cw with
 | true =>
  refine Yes rfl rfl ?_
  refine Ca rfl (Ypl W ht hu (by omega)) λv hv=>?_
  rcases hv with ⟨_,t,rfl,ht⟩ | ⟨h,_⟩
  . refine No rfl (by decide) ?_
    exact Rw [] [(1000001,cal)] rfl (.one (.rf rfl) rfl rfl) ⟨rfl,t,rfl,ht.mono (by omega)⟩
  . exact absurd h (λh=>h.elim hq hp)
 | false =>
  refine No rfl nofun ?_
  refine Ca rfl (Ypl W hu ht (by omega)) λv hv=>?_
  rcases hv with ⟨_,t,rfl,ht⟩ | ⟨h,_⟩
  . refine No rfl (by decide) ?_
    exact Rw [] [(1000001,cal)] rfl (.one (.rf rfl) rfl rfl) ⟨rfl,t,rfl,ht.mono (by omega)⟩
  . exact absurd h (λh=>h.elim hp hq)
end R47
end
end Go.Proofs.YtclgppjdhndgiaaGreatDoor
namespace Go.Vm
open Go
variable{c:Cx}{s:St}{p:Pl}
noncomputable def Yl0(tb:Nat->Option TI)(n:Nat)(s:St): Option (Pl×Nat×Nat×List D×AV):=match nxA tb n s with
 | some (p,o,[a,b])=>match o.op with
  | .call ⟨.builtin .append,_,⟨[T,T']⟩⟩=>match Nat.beq T T',tb T,look p.H (o.dst.getD 0) with
   | true,some ti,none=>match Nat.ble ti.eb 1024,ti.z,b with
    | true,.sl sz _,.d (.sl s ys)=>match Nat.beq s sz with
     | true=>some (p,o.dst.getD 0,sz,ys,a)
     | false=>none
    | true,.sl sz _,.nil=>some (p,o.dst.getD 0,sz,[],a)
    | true,.sl sz _,.gr _ s ys=>match Nat.beq s sz with
     | true=>some (p,o.dst.getD 0,sz,ys,a)
     | false=>none
    | true,.sl sz _,.lit s ys=>match Nat.beq s sz with
     | true=>some (p,o.dst.getD 0,sz,ys,a)
     | false=>none
    | _,_,_=>none
   | _,_,_=>none
  | _=>none
 | _=>none
theorem Xuy{d sz:Nat}{ys:List D}{a v:AV}{us:Hpl}(h:Yl0 c.tb c.n s=some (p,d,sz,ys,a))(hF:∀ti:TI,ti.eb<=1024->Xyj d (look p.H) ti sz ys a=some (v,us))(k:p.nx' c v us): StP c s:=by
 unfold Yl0 at h
 split at h<;>try cases h
 rename_i p' o a' b hA
 split at h<;>try cases h
 rename_i asx T T' ho
 split at h<;>try cases h
 rename_i ti hT hti hd
 have hT:=W0e hT
 subst hT
 have fin:∀ {sz' ys' xs0},ti.eb<=1024->ti.z=.sl sz' xs0->Xpr (look p'.H) ti.z sz' b=some ys'->(p',o.dst.getD 0,sz',ys',a')=(p,d,sz,ys,a)->StP c s:=by
  intro sz' ys' xs0 he hz hs e
  injection e with e1 e2;injection e2 with e2 e3;injection e3 with e3 e4;injection e4 with e4 e5
  subst e1;subst e2;subst e3;subst e4;subst e5
  refine Xb1 hA ?_ k
  rw[ho]
  simp only[F,if_true,hti,hd,hz]
  rw[hz] at hs
  rw[hs]
  exact hF ti he
 split at h
 . rename_i he hz
   split at h<;>cases h
   rename_i hs
   have hs:=W0e hs
   exact fin (W1q he) hz (by simp[Xpr,toD,hs]) rfl
 . rename_i he hz
   cases h
   exact fin (W1q he) hz (by simp[Xpr,hz,toD]) rfl
 . rename_i he hz
   split at h<;>cases h
   rename_i hs
   have hs:=W0e hs
   exact fin (W1q he) hz (by simp[Xpr,toD,hs]) rfl
 . rename_i he hz
   split at h<;>cases h
   rename_i hs
   have hs:=W0e hs
   exact fin (W1q he) hz (by simp[Xpr,toD,hs]) rfl
 . cases h
theorem Xl4{n:Nat}{ti:TI}(h:n<=137438953472)(he:ti.eb<=1024): Xh0 n ti:=⟨by
 have:=W1z h he;omega,by omega⟩
end Go.Vm
namespace Go.Proofs.YtclgppjdhndgiaaGreatDoor
open Go Go.Vm Go.Num Go.Tow
structure Dft where
 arc:Bool
 cw:Bool
 a1:Int
 a2:Int
 b1:Int
 b2:Int
 st:Nat
 un:Nat
abbrev dP8(x y:Int): D:=.st (.pr (.int .i8 x) (.int .i8 y))
abbrev dDf(d:Dft): D:=.st (.pr (.bool d.arc) (.pr (.bool d.cw) (.pr (dP8 d.a1 d.a2) (.pr (dP8 d.b1 d.b2) (.pr (.int .u8 d.st) (.int .u8 d.un))))))
abbrev Yl9(l:List Dft): D:=.sl 8 (l.map dDf)
abbrev I8(z:Int): Prop:=-128<=z/\z<128
structure Dft.ok (d:Dft):Prop where
 a1:I8 d.a1
 a2:I8 d.a2
 b1:I8 d.b1
 b2:I8 d.b2
 st:d.st<256
 un:d.un<256
namespace R47
open P55 (v0 W0 g0 gv0 zw Xcd Qp)
abbrev atQ(x y:Int)(u:Nat): Rat×Rat:=(Rat.divInt x ((u%4+1:Nat):Int),Rat.divInt y ((u%4+1:Nat):Int))
theorem Yk8{x y:Int}{u:Nat}(hx:I8 x)(hy:I8 y)(hu:u<256): C0 89 [.d (dP8 x y),.d (.int .u8 u)] (·=.d (dV (v0 (atQ x y u)))):=by
 refine En Tryz.func89 λ_ _ _=>?_
 refine Ar (u%4:Nat) rfl ?_ (show _/\_ from⟨by decide,rfl⟩)
 refine Go.Vm.Cv (u%4:Nat) rfl ?_ (wI (by omega))
 refine Ar (u%4+1:Nat) rfl ?_
 refine Dw rfl ?_
 refine Ia 0 rfl (by decide) ?_
 refine Go.Vm.Cv x rfl ?_ (wr rfl (by simp only[inK];omega))
 refine Ce rfl (R2.Frac_ok (by omega) (by omega) (by omega)) ?_
 refine Ia 1 rfl (by decide) ?_
 refine Go.Vm.Cv y rfl ?_ (wr rfl (by simp only[inK];omega))
 refine Ce rfl (R2.Frac_ok (by omega) (by omega) (by omega)) ?_
 refine Ce rfl R13.Make_ok ?_
 exact R0
def Ypp: List (Int×Int×Int):=[(1,0,1),(3,4,5),(0,1,1),(-1,0,1),(0,-1,1),(4,3,5),(-3,4,5),(-4,3,5),(-4,-3,5),(-3,-4,5),(3,-4,5),(4,-3,5),(5,12,13),(12,5,13),(-5,12,13),(24,7,25)]
def uni(i:Nat): Rat×Rat:=match Ypp[i]? with
 | some (x,y,z)=>(Rat.divInt x z,Rat.divInt y z)
 | none=>(1,0)
theorem Yds{n:Nat}(hn:n<256): C0 90 [.d (.int .u8 n)] (·=.d (dV (v0 (uni (n%16))))):=by
 refine En Tryz.func90 λ_ _ _=>?_
 refine Ar (n%16:Nat) rfl ?_ (show _/\_ from⟨by decide,rfl⟩)
 have h:n%16=0\/n%16=1\/n%16=2\/n%16=3\/n%16=4\/n%16=5\/n%16=6\/n%16=7\/n%16=8\/n%16=9\/n%16=10\/n%16=11\/n%16=12\/n%16=13\/n%16=14\/n%16=15:=by omega
 generalize n%16=i at h
 rcases h with rfl | rfl | rfl | rfl | rfl | rfl | rfl | rfl | rfl | rfl | rfl | rfl | rfl | rfl | rfl | rfl
 . refine Ia 0 rfl (by decide) ?_
   refine Dw rfl ?_
   refine Ia 0 rfl (by decide) ?_
   refine Ia 2 rfl (by decide) ?_
   refine Ce rfl (R2.Frac_ok (by decide) (by decide) (by decide)) ?_
   refine Ia 1 rfl (by decide) ?_
   refine Ia 2 rfl (by decide) ?_
   refine Ce rfl (R2.Frac_ok (by decide) (by decide) (by decide)) ?_
   refine Ce rfl R13.Make_ok ?_
   exact R0
 . refine Ia 1 rfl (by decide) ?_
   refine Dw rfl ?_
   refine Ia 0 rfl (by decide) ?_
   refine Ia 2 rfl (by decide) ?_
   refine Ce rfl (R2.Frac_ok (by decide) (by decide) (by decide)) ?_
   refine Ia 1 rfl (by decide) ?_
   refine Ia 2 rfl (by decide) ?_
   refine Ce rfl (R2.Frac_ok (by decide) (by decide) (by decide)) ?_
   refine Ce rfl R13.Make_ok ?_
   exact R0
 . refine Ia 2 rfl (by decide) ?_
   refine Dw rfl ?_
   refine Ia 0 rfl (by decide) ?_
   refine Ia 2 rfl (by decide) ?_
   refine Ce rfl (R2.Frac_ok (by decide) (by decide) (by decide)) ?_
   refine Ia 1 rfl (by decide) ?_
   refine Ia 2 rfl (by decide) ?_
   refine Ce rfl (R2.Frac_ok (by decide) (by decide) (by decide)) ?_
   refine Ce rfl R13.Make_ok ?_
   exact R0
 . refine Ia 3 rfl (by decide) ?_
   refine Dw rfl ?_
   refine Ia 0 rfl (by decide) ?_
   refine Ia 2 rfl (by decide) ?_
   refine Ce rfl (R2.Frac_ok (by decide) (by decide) (by decide)) ?_
   refine Ia 1 rfl (by decide) ?_
   refine Ia 2 rfl (by decide) ?_
   refine Ce rfl (R2.Frac_ok (by decide) (by decide) (by decide)) ?_
   refine Ce rfl R13.Make_ok ?_
   exact R0
 . refine Ia 4 rfl (by decide) ?_
   refine Dw rfl ?_
   refine Ia 0 rfl (by decide) ?_
   refine Ia 2 rfl (by decide) ?_
   refine Ce rfl (R2.Frac_ok (by decide) (by decide) (by decide)) ?_
   refine Ia 1 rfl (by decide) ?_
   refine Ia 2 rfl (by decide) ?_
   refine Ce rfl (R2.Frac_ok (by decide) (by decide) (by decide)) ?_
   refine Ce rfl R13.Make_ok ?_
   exact R0
 . refine Ia 5 rfl (by decide) ?_
   refine Dw rfl ?_
   refine Ia 0 rfl (by decide) ?_
   refine Ia 2 rfl (by decide) ?_
   refine Ce rfl (R2.Frac_ok (by decide) (by decide) (by decide)) ?_
   refine Ia 1 rfl (by decide) ?_
   refine Ia 2 rfl (by decide) ?_
   refine Ce rfl (R2.Frac_ok (by decide) (by decide) (by decide)) ?_
   refine Ce rfl R13.Make_ok ?_
   exact R0
 . refine Ia 6 rfl (by decide) ?_
   refine Dw rfl ?_
   refine Ia 0 rfl (by decide) ?_
   refine Ia 2 rfl (by decide) ?_
   refine Ce rfl (R2.Frac_ok (by decide) (by decide) (by decide)) ?_
   refine Ia 1 rfl (by decide) ?_
   refine Ia 2 rfl (by decide) ?_
   refine Ce rfl (R2.Frac_ok (by decide) (by decide) (by decide)) ?_
   refine Ce rfl R13.Make_ok ?_
   exact R0
 . refine Ia 7 rfl (by decide) ?_
   refine Dw rfl ?_
   refine Ia 0 rfl (by decide) ?_
   refine Ia 2 rfl (by decide) ?_
   refine Ce rfl (R2.Frac_ok (by decide) (by decide) (by decide)) ?_
   refine Ia 1 rfl (by decide) ?_
   refine Ia 2 rfl (by decide) ?_
   refine Ce rfl (R2.Frac_ok (by decide) (by decide) (by decide)) ?_
   refine Ce rfl R13.Make_ok ?_
   exact R0
 . refine Ia 8 rfl (by decide) ?_
   refine Dw rfl ?_
   refine Ia 0 rfl (by decide) ?_
   refine Ia 2 rfl (by decide) ?_
   refine Ce rfl (R2.Frac_ok (by decide) (by decide) (by decide)) ?_
   refine Ia 1 rfl (by decide) ?_
   refine Ia 2 rfl (by decide) ?_
   refine Ce rfl (R2.Frac_ok (by decide) (by decide) (by decide)) ?_
   refine Ce rfl R13.Make_ok ?_
   exact R0
 . refine Ia 9 rfl (by decide) ?_
   refine Dw rfl ?_
   refine Ia 0 rfl (by decide) ?_
   refine Ia 2 rfl (by decide) ?_
   refine Ce rfl (R2.Frac_ok (by decide) (by decide) (by decide)) ?_
   refine Ia 1 rfl (by decide) ?_
   refine Ia 2 rfl (by decide) ?_
   refine Ce rfl (R2.Frac_ok (by decide) (by decide) (by decide)) ?_
   refine Ce rfl R13.Make_ok ?_
   exact R0
 . refine Ia 10 rfl (by decide) ?_
   refine Dw rfl ?_
   refine Ia 0 rfl (by decide) ?_
   refine Ia 2 rfl (by decide) ?_
   refine Ce rfl (R2.Frac_ok (by decide) (by decide) (by decide)) ?_
   refine Ia 1 rfl (by decide) ?_
   refine Ia 2 rfl (by decide) ?_
   refine Ce rfl (R2.Frac_ok (by decide) (by decide) (by decide)) ?_
   refine Ce rfl R13.Make_ok ?_
   exact R0
 . refine Ia 11 rfl (by decide) ?_
   refine Dw rfl ?_
   refine Ia 0 rfl (by decide) ?_
   refine Ia 2 rfl (by decide) ?_
   refine Ce rfl (R2.Frac_ok (by decide) (by decide) (by decide)) ?_
   refine Ia 1 rfl (by decide) ?_
   refine Ia 2 rfl (by decide) ?_
   refine Ce rfl (R2.Frac_ok (by decide) (by decide) (by decide)) ?_
   refine Ce rfl R13.Make_ok ?_
   exact R0
 . refine Ia 12 rfl (by decide) ?_
   refine Dw rfl ?_
   refine Ia 0 rfl (by decide) ?_
   refine Ia 2 rfl (by decide) ?_
   refine Ce rfl (R2.Frac_ok (by decide) (by decide) (by decide)) ?_
   refine Ia 1 rfl (by decide) ?_
   refine Ia 2 rfl (by decide) ?_
   refine Ce rfl (R2.Frac_ok (by decide) (by decide) (by decide)) ?_
   refine Ce rfl R13.Make_ok ?_
   exact R0
 . refine Ia 13 rfl (by decide) ?_
   refine Dw rfl ?_
   refine Ia 0 rfl (by decide) ?_
   refine Ia 2 rfl (by decide) ?_
   refine Ce rfl (R2.Frac_ok (by decide) (by decide) (by decide)) ?_
   refine Ia 1 rfl (by decide) ?_
   refine Ia 2 rfl (by decide) ?_
   refine Ce rfl (R2.Frac_ok (by decide) (by decide) (by decide)) ?_
   refine Ce rfl R13.Make_ok ?_
   exact R0
 . refine Ia 14 rfl (by decide) ?_
   refine Dw rfl ?_
   refine Ia 0 rfl (by decide) ?_
   refine Ia 2 rfl (by decide) ?_
   refine Ce rfl (R2.Frac_ok (by decide) (by decide) (by decide)) ?_
   refine Ia 1 rfl (by decide) ?_
   refine Ia 2 rfl (by decide) ?_
   refine Ce rfl (R2.Frac_ok (by decide) (by decide) (by decide)) ?_
   refine Ce rfl R13.Make_ok ?_
   exact R0
 . refine Ia 15 rfl (by decide) ?_
   refine Dw rfl ?_
   refine Ia 0 rfl (by decide) ?_
   refine Ia 2 rfl (by decide) ?_
   refine Ce rfl (R2.Frac_ok (by decide) (by decide) (by decide)) ?_
   refine Ia 1 rfl (by decide) ?_
   refine Ia 2 rfl (by decide) ?_
   refine Ce rfl (R2.Frac_ok (by decide) (by decide) (by decide)) ?_
   refine Ce rfl R13.Make_ok ?_
   exact R0
theorem Yf4{x y n:Int}(h:n≠0): Rat.divInt x n-Rat.divInt y n=Rat.divInt (x-y) n:=by
 rw[W3b,W3b,W3b,W5x,W5x,W5x,Rat.intCast_sub]
 grind
theorem n4{u:Nat}: Zs 3 ((u%4+1:Nat):Int):=by show (_:Int).natAbs<2^3;omega
theorem atQ_qp{x y:Int}{u:Nat}(hx:I8 x)(hy:I8 y): Qp 8 (atQ x y u):=by
 have h8:∀ {x:Int},I8 x->Zs 8 x:=λ{x} h=>by have h:_/\_:=h;show x.natAbs<2^8;omega
 exact⟨Qs.divInt (h8 hx) (n4.mono (by decide)) (by omega),Qs.divInt (h8 hy) (n4.mono (by decide)) (by omega)⟩
theorem Yh1{x y z w:Int}{u:Nat}(hx:I8 x)(hy:I8 y)(hz:I8 z)(hw:I8 w): Qp 9 (Xa9 (K:=0) (atQ x y u) (atQ z w u)):=by
 have key:∀ {x z:Int},I8 x->I8 z->Qs 9 (Rat.divInt x ((u%4+1:Nat):Int)+-Rat.divInt z ((u%4+1:Nat):Int)):=λ{x z} hx hz=>by
  have hx:_/\_:=hx
  have hz:_/\_:=hz
  rw[<-W5k,Yf4 (by omega)]
  exact Qs.divInt (show (x-z).natAbs<2^9 by omega) (n4.mono (by decide)) (by omega)
 exact⟨key hx hz,key hy hw⟩
theorem Ybs: ∀i:Fin 16,Qp 5 (uni i.val)/\(uni i.val).1*(uni i.val).1+(uni i.val).2*(uni i.val).2=1:=by decide +kernel
def rotQ(w e:Rat×Rat): Rat×Rat:=Xcw (K:=0) (Yhk (K:=0) () w e.1) (Yhk (K:=0) () (Tow.neg 0 w.2,w.1) e.2)
theorem Yed{w e:Rat×Rat}(hw:Qp 9 w)(he:Qp 5 e): Qp 29 (rotQ w e) :=
 ⟨show Qs 29 (w.1*e.1+-w.2*e.2) from(hw.1.mul he.1).add (hw.2.neg.mul he.2),show Qs 29 (w.2*e.1+w.1*e.2) from(hw.2.mul he.1).add (hw.1.mul he.2)⟩
theorem Xy5{w e:Rat×Rat}(he:e.1*e.1+e.2*e.2=1): Xer (K:=0) () (rotQ w e) (rotQ w e)=Xer (K:=0) () w w:=by
 show (w.1*e.1+-w.2*e.2)*(w.1*e.1+-w.2*e.2)+(w.2*e.1+w.1*e.2)*(w.2*e.1+w.1*e.2)=w.1*w.1+w.2*w.2
 have:(w.1*e.1+-w.2*e.2)*(w.1*e.1+-w.2*e.2)+(w.2*e.1+w.1*e.2)*(w.2*e.1+w.1*e.2)=(w.1*w.1+w.2*w.2)*(e.1*e.1+e.2*e.2):=by grind
 rw[this,he,Rat.mul_one]
theorem Xpm{c w:Rat×Rat}: Xa9 (K:=0) (Xcw (K:=0) c w) c=w:=W3a (show c.1+w.1+-c.1=w.1 by grind) (show c.2+w.2+-c.2=w.2 by grind)
def cvD(d:Dft): Cv:=match d.arc with
 | false=>⟨false,v0 (atQ d.a1 d.a2 d.un),v0 (atQ d.b1 d.b2 d.un),v0 (((0:Int):Rat),((0:Int):Rat)),d.cw⟩
 | true=>⟨true,v0 (atQ d.b1 d.b2 d.un),v0 (Xcw (K:=0) (atQ d.a1 d.a2 d.un) (rotQ (Xa9 (K:=0) (atQ d.b1 d.b2 d.un) (atQ d.a1 d.a2 d.un)) (uni (d.st%16)))),v0 (atQ d.a1 d.a2 d.un),d.cw⟩
structure ArcOk (p q r:Rat×Rat):Prop where
 hp:Qp 64 p
 hq:Qp 64 q
 hr:Qp 64 r
 u:Qp 64 (Xa9 (K:=0) q p)
 v:Qp 64 (Xa9 (K:=0) r p)
 s:Qs 64 (Xer (K:=0) () (Xa9 (K:=0) q p) (Xa9 (K:=0) q p))
 e:Xer (K:=0) () (Xa9 (K:=0) q p) (Xa9 (K:=0) q p)=Xer (K:=0) () (Xa9 (K:=0) r p) (Xa9 (K:=0) r p)
theorem Qp.mono'{s t:Nat}{p:Rat×Rat}(h:Qp s p)(ht:s<=t): Qp t p:=⟨h.1.mono ht,h.2.mono ht⟩
theorem arcOk{d:Dft}(h:d.ok): ArcOk (atQ d.a1 d.a2 d.un) (atQ d.b1 d.b2 d.un) (Xcw (K:=0) (atQ d.a1 d.a2 d.un) (rotQ (Xa9 (K:=0) (atQ d.b1 d.b2 d.un) (atQ d.a1 d.a2 d.un)) (uni (d.st%16)))):=by
 have hp:=atQ_qp (u:=d.un) h.a1 h.a2
 have hq:=atQ_qp (u:=d.un) h.b1 h.b2
 have hw:=Yh1 (u:=d.un) h.b1 h.b2 h.a1 h.a2
 obtain⟨he,h1⟩:=Ybs ⟨d.st%16,W2d _ (by decide)⟩
 have hr:=Yed hw he
 refine⟨Qp.mono' hp (by decide),Qp.mono' hq (by decide),?_,Qp.mono' hw (by decide),?_,?_,?_⟩
 . exact Qp.mono' (s:=38) ⟨hp.1.add hr.1,hp.2.add hr.2⟩ (by decide)
 . rw[Xpm];exact Qp.mono' hr (by decide)
 . exact((hw.1.mul hw.1).add (hw.2.mul hw.2)).mono (by decide)
 . rw[Xpm];exact(Xy5 h1).symm
theorem Ygw{c:Cv}{p q:Rat×Rat}(ha:c.arc=false)(hA:c.A=v0 p)(hB:c.B=v0 q)(hp:Qp 64 p)(hq:Qp 64 q): C0 92 [.d (dC c)] (·=.b (dc (p≠q))):=by
 obtain⟨_,A,B,C,cw⟩:=c
 obtain rfl:_=false:=ha
 obtain rfl:A=_:=hA
 obtain rfl:B=_:=hB
 refine En Tryz.func92 λ_ _ _=>?_
 refine Yes rfl nofun ?_
 refine Ce rfl (R13.Equal_g W0 (gv0 hp) (gv0 hq) (by decide) (by decide)) ?_
 exact R1 rfl (.bp (by rw[W1t,W2m];exact not_congr Xal))
theorem Ygx{c:Cv}{p q r:Rat×Rat}(ha:c.arc=true)(hC:c.C=v0 p)(hA:c.A=v0 q)(hB:c.B=v0 r)(h:ArcOk p q r): C0 92 [.d (dC c)] (·=.b (dc (q≠p))):=by
 obtain⟨_,A,B,C,cw⟩:=c
 obtain rfl:_=true:=ha
 obtain rfl:A=_:=hA
 obtain rfl:B=_:=hB
 obtain rfl:C=_:=hC
 refine En Tryz.func92 λ_ _ _=>?_
 refine No rfl (λh=>h rfl) ?_
 refine Dw rfl ?_
 refine Cn [(1000001,16)] rfl (R15.Far_g W0 (gv0 h.hq) (gv0 h.hp) (by decide)) λv hv=>?_
 obtain⟨z1,rfl,h1⟩:=hv
 refine Cn [(1000001,16)] rfl (R15.Far_g W0 (gv0 h.hr) (gv0 h.hp) (by decide)) λv hv=>?_
 obtain⟨z2,rfl,h2⟩:=hv
 refine Yes rfl rfl ?_
 refine Ce rfl (R9.Sign_g W0 h1 (by decide)) ?_
 by_cases hw:Xa9 (K:=0) q p=vz 0
 . have e:q=p:=by
    have h1:q.1+-p.1=0:=congrArg Prod.fst hw
    have h2:q.2+-p.2=0:=congrArg Prod.snd hw
    exact W3a (by grind) (by grind)
   have h0:sgn 0 () (Xer (K:=0) () (Xa9 (K:=0) q p) (Xa9 (K:=0) q p))=0:=by rw[hw];decide +kernel
   refine No rfl (by rw[h0];decide) ?_
   exact R1 rfl (.bp ⟨nofun,λh=>absurd e h⟩)
 . have h0:=Xpf (K:=0) (G:=()) trivial hw
   refine Yes rfl (by rw[h0];decide) ?_
   refine Ce rfl (R9.Equal_g W0 h1 h2 (by decide) (by decide)) ?_
   exact R1 rfl (.bp ⟨λ_ e=>hw (by rw[e];exact W3a (show p.1+-p.1=0 by grind) (show p.2+-p.2=0 by grind)),λ_=>Xal.2 h.e⟩)
abbrev vlD(d:Dft): Prop:=atQ d.a1 d.a2 d.un≠atQ d.b1 d.b2 d.un
theorem Ygy{d:Dft}(h:d.ok): C0 92 [.d (dC (cvD d))] (·=.b (dc (vlD d))):=by
 obtain⟨arc,cw,a1,a2,b1,b2,st,un⟩:=d
 cases arc with
 | false=>exact Ygw rfl rfl rfl (Qp.mono' (atQ_qp h.a1 h.a2) (by decide)) (Qp.mono' (atQ_qp h.b1 h.b2) (by decide))
 | true =>
  refine(Ygx rfl rfl rfl rfl (arcOk h)).mono λv e=>e.trans (congrArg AV.b ?_)
  exact W3p.2 (Xal.trans (Iff.trans ⟨λh e=>h e.symm,λh e=>h e.symm⟩ Xal.symm))
theorem Curve_ok{d:Dft}(h:d.ok): C0 29 [.d (dDf d)] (·=.tup (.pr (.d (dC (cvD d))) (.b (dc (vlD d))))):=by
 have hV:=Ygy h
 have hA:=arcOk h
 obtain⟨arc,cw,a1,a2,b1,b2,st,un⟩:=d
 obtain⟨g1,g2,g3,g4,g5,g6⟩:=h
 refine En Tryz.func29 λ_ _ _=>?_
 refine Dw rfl ?_
 refine Ce rfl (Yk8 g1 g2 g6) ?_
 refine Ce rfl (Yk8 g3 g4 g6) ?_
 refine Ce rfl (R13.Whole_ok (i:=0) (j:=0) (by decide) (by decide)) ?_
 cases arc with
 | false =>
  refine No rfl nofun ?_
  refine Dw rfl ?_
  refine Ce rfl hV ?_
  exact RTt rfl (.cons (.sd (.pd (.bd rfl) (.pd (.eq rfl) (.pd (.eq rfl) (.pd (.eq rfl) (.bd rfl)))))) Xg0)
 | true =>
  refine Yes rfl rfl ?_
  refine Dw rfl ?_
  refine Cn [(1000001,27)] rfl (R15.Minus_g W0 (gv0 hA.hq) (gv0 hA.hp) (by decide) (by decide)) λv hv=>?_
  obtain⟨w,rfl,hw⟩:=hv
  obtain rfl:=Xcd hw
  refine Ce rfl (Yds g5) ?_
  have he:=(Ybs ⟨st%16,W2d _ (by decide)⟩).1
  have he:Qp 64 (uni (st%16)):=Qp.mono' he (by decide)
  refine Dw rfl ?_
  refine Cn [(1000001,27)] rfl (R15.Scale_g W0 hw (g0 he.1) (by decide) (by decide)) λv hv=>?_
  obtain⟨z1,rfl,k1⟩:=hv
  refine Ca rfl (R13.Left_g W0 hw (by decide)) λv hv=>?_
  obtain⟨z2,rfl,k2⟩:=hv
  refine Cn [(1000001,27)] rfl (R15.Scale_g W0 k2 (g0 he.2) (by decide) (by decide)) λv hv=>?_
  obtain⟨z3,rfl,k3⟩:=hv
  refine Cn [(1000001,27)] rfl (R15.Plus_g W0 k1 k3 (by decide) (by decide)) λv hv=>?_
  obtain⟨z4,rfl,k4⟩:=hv
  refine Cn [(1000001,27)] rfl (R15.Plus_g W0 (gv0 hA.hp) k4 (by decide) (by decide)) λv hv=>?_
  obtain⟨z5,rfl,k5⟩:=hv
  obtain rfl:=Xcd k5
  refine Dw rfl ?_
  refine Ce rfl hV ?_
  exact RTt rfl (.cons (.sd (.pd (.bd rfl) (.pd (.eq rfl) (.pd (.eq rfl) (.pd (.eq rfl) (.bd rfl)))))) Xg0)
theorem lD{l:List Dft}: (l.map dDf).length=l.length:=W0i ..
end R47
end Go.Proofs.YtclgppjdhndgiaaGreatDoor
namespace Go.Proofs.YtclgppjdhndgiaaGreatDoor.R55
open Go Go.Vm Go.Num Go.Tow Go.Proofs.YtclgppjdhndgiaaGreatDoor
section
open Go.Proofs.YtclgppjdhndgiaaGreatDoor.P55 (qb Yf5 sel Xg5 Xhy exA exW W0 zBA Yk1 lC cAt)
abbrev Zb:=Go.Proofs.YtclgppjdhndgiaaGreatDoor.P55.Zb
abbrev F4:=Go.Proofs.YtclgppjdhndgiaaGreatDoor.P55.F4
theorem valid_ok{l:List Cv}(hl:l.length<=1000)(hv:∀c∈l,C0 92 [.d (dC c)] (·=.b true)): C0 68 [.d (Xd0 l)] (·=.b true):=by
 refine En Tryz.func68 λ_ _ _=>?_
 refine Lo (λk:Nat=>[(0,.d (Xd0 l)),(3,.d (.int .i64 k))]) (λ_=>[]) (λk=>k<=l.length) (λk=>l.length-k) 0 [] rfl (W0x _) λk hk=>?_
 refine By rfl (λh=>?_) λh=>?_<;>simp only[lC] at h
 . obtain⟨c,hc⟩:∃c,l[k]?=some c:=⟨_,W0a (by omega)⟩
   refine Ix k rfl (cAt hc) ?_
   refine Ce rfl (hv c (W0h hc)) ?_
   refine No rfl nofun ?_
   refine Ar (k+1:Nat) rfl ?_
   exact Bk (k+1) [] rfl (by omega) (by show l.length-(k+1)<l.length-k;omega)
 . exact R0
def dr(r m n:Nm): Nat->Vn
 | 0=>⟨r,n00⟩
 | 1=>⟨n00,r⟩
 | 2=>⟨m,n00⟩
 | 3=>⟨n00,m⟩
 | _=>⟨n,n00⟩
theorem Sqrt_c{f r:Nm}(h:C0 154 [.d (dN f)] (·=.tup (.pr (.d (dN r)) (.d (.int .i64 0))))): CN0 71 [.ptr 1000001 0,.d (dN f)] [(1000001,cal)] (·=.d (dN r)):=by
 refine EnW Tryz.func71 λ_ _ _ _=>?_
 refine Ce rfl h ?_
 refine Cn [] rfl R15.num_ok λv hv=>?_
 subst hv
 exact Rw [] [(1000001,cal)] rfl (.one (.rf rfl) rfl rfl) ⟨rfl,rfl⟩
def exH(c:Cv)(d:Vn): Option (List Vn)->Hpl
 | none=>[(1000001,cal),(3,.var (.d (dC c))),(7,.var (.d (dV d)))]
 | some w=>[(1000001,cal),(3,.var (.d (dC c))),(7,.var (.d (dV d))),(600,.arr 4 (w.map dV))]
end
section
open Go.Proofs.YtclgppjdhndgiaaGreatDoor.P55 (qb zBA Yk1 lC cAt lst f40 ofO nxF mn Xu9 Xva Xq1 Xqp o40)
end
end Go.Proofs.YtclgppjdhndgiaaGreatDoor.R55
namespace Go.Tow
open Go Go.Num Go.Proofs.YtclgppjdhndgiaaGreatDoor
variable{k:Rat}{ρ:Nat->El 1}{r p:Nat}{z:Nm}{v:El 1}
abbrev G1(k:Rat): Tw 1:=((),k)
abbrev r1: El 1:=((0:Rat),(1:Rat))
abbrev n1(k:Rat)(v:El 1): Nm:=⟨1,G1 k,v⟩
theorem Ylx(hk:0<k)(hn:¬Xch 0 () k): red 1 (G1 k):=⟨trivial,Xbh hk,hn⟩
theorem Yiq: mul 1 (G1 k) r1 r1=rat 1 k:=by
 show (((0:Rat)*0+((1:Rat)*1)*k,(0:Rat)*1+(1:Rat)*0):Rat×Rat)=(k,0)
 exact W3a (by show (0:Rat)*0+((1:Rat)*1)*k=k;grind) (by show (0:Rat)*1+(1:Rat)*0=0;grind)
theorem Yir(hk:0<k): sgn 1 (G1 k) r1=1:=Xt3 (k:=0) (t:=G1 k) trivial
theorem Ypq(hk:0<k)(hn:¬Xch 0 () k): TOk (G1 k) [r1] 1 (G1 k) (λ_=>r1) :=
 ⟨Ylx hk hn,⟨trivial,Yiq,Yir hk⟩,λi _=>W0g.2 rfl⟩
theorem Ymr(hk:0<k)(hn:¬Xch 0 () k){m:Nat}{T:Tw m}(h:TOk (G1 k) [r1] m T ρ): m=0\/∃e:m=1,e ▸ T=G1 k/\ρ 0=r1:=by
 have hm:m<=1:=h.le (Xah (Ylx hk hn))
 match m,T,h,hm with
 | 0,_,_,_=>exact .inl rfl
 | 1,((),t),h,_ =>
  have h0:ρ 0=r1:=W0g.1 (h.s 0 (by decide))
  have h2:mul 1 (G1 k) (ρ 0) (ρ 0)=rat 1 t:=h.h.2.1
  rw[h0,Yiq] at h2
  have h2:k=t:=congrArg Prod.fst h2
  exact .inr ⟨rfl,by rw[h2],h0⟩
theorem W1(hk:0<k)(hn:¬Xch 0 () k)(hq:Qs 64 k): Wn (G1 k) [r1] [n1 k r1]:=by
 refine⟨⟨Ylx hk hn,by decide,λ{m T ρ} h=>?_⟩,λz hz=>?_⟩
 . rcases Ymr hk hn h with rfl | ⟨rfl,e,_⟩
   . trivial
   . have e:T=G1 k:=e
     subst e
     exact⟨trivial,(Sz.rat 0 hq).mono (by rw[Xhi];decide)⟩
 . obtain rfl:=W0g.1 hz
   exact⟨_,Ypq hk hn⟩
end Go.Tow
namespace Go.Proofs.YtclgppjdhndgiaaGreatDoor.R55
open Go Go.Vm Go.Num Go.Tow Go.Proofs.YtclgppjdhndgiaaGreatDoor
section
open Go.Proofs.YtclgppjdhndgiaaGreatDoor.P55 (v0 W0 g0 gv0 zw Xcd Qp nr Xau Yf5 sel Xhy Ypk d2)
abbrev sg{K:Nat}(rv:Tow.El K)(e:Bool): Tow.El K:=if e then rv else neg K rv
section
variable{K:Nat}{G:Tw K}{S:List (Tow.El K)}{N:List Nm}{s:Rat}{r:Nm}{rv:Tow.El K}{p q t:Rat×Rat}{cw:Bool}{δ:V2 K}{d x u v:Vn}{n:Nat}
theorem Xtp(h:q≠p): Xa9 (K:=0) q p≠((0,0):Rat×Rat):=λe=>h (by
 have h1:q.1+-p.1=0:=congrArg Prod.fst e
 have h2:q.2+-p.2=0:=congrArg Prod.snd e
 exact W3a (by grind) (by grind))
end
end
section
open Go.Proofs.YtclgppjdhndgiaaGreatDoor.P55 (v0 W0 g0 gv0 zw Xcd Qp nr Xau Yf5 sel Xhy)
section
variable{K:Nat}{G:Tw K}{S:List (Tow.El K)}{N:List Nm}{s:Rat}{r:Nm}{rv:Tow.El K}{p q t:Rat×Rat}{cw:Bool}{δ:V2 K}{d x u v:Vn}{n:Nat}
theorem CN_mono{P:Program}[Gb P]{f:FuncId}{ar:List AV}{H0:Hpl}{Q Q':AV->Prop}(h:CN P f ar H0 Q)(k:∀v,Q v->Q' v): CN P f ar H0 Q':=⟨h.1,λW θ vs hg ho ha=>(h.2 W θ vs hg ho ha).mono λe w' ⟨W',θ',v,u,H',h1,h2,h3,h4,h5,h6,h7,h8,h9⟩=>⟨W',θ',v,u,H',h1,h2,h3,h4,h5,h6,h7,h8,h9.1,k v h9.2⟩⟩
end
end
section
open Go.Proofs.YtclgppjdhndgiaaGreatDoor.P55 (v0 W0 g0 gv0 zw Xcd Qp nr Xau lst f40 ofO nxF O4.nx Xqp o40 lC cAt)
theorem pk1{s a b:Rat}(hk:0<s)(hn:¬Xch 0 () s)(hq:Qs 64 s)(ha:Qs 64 a)(hb:Qs 64 b): P11.Pk (n1 s ((a,b):Rat×Rat)) :=
 ⟨show 1<=3 by decide,Xah (Ylx hk hn),⟨trivial,(Sz.rat 0 hq).mono (by decide)⟩,⟨trivial,λx hx=>by obtain rfl:=W0g.1 hx;exact hq⟩,.inl λx hx=>by
  have hx:x∈[a,b]:=hx
  rcases W1i.1 hx with rfl | hx
  . exact ha
  . obtain rfl:=W0g.1 hx;exact hb⟩
theorem Yez{y z:Rat}(h:y*y=z*z)(hy:0<=Xet y)(hz:0<=Xet z): y=z:=by
 have p:∀ {y:Rat},0<=Xet y->0<=y:=λ{y} h=>by
  rcases Xa0 y with ⟨e,_⟩ | ⟨e,_⟩ | ⟨_,e⟩
  . grind
  . grind
  . omega
 have h1:=p hy
 have h2:=p hz
 have h3:(y-z)*(y+z)=0:=by grind
 rcases Rat.mul_eq_zero.1 h3 with e | e
 . grind
 . grind
theorem rt_sq{f:FuncId}{ar:List AV}{s y:Rat}(h:C0 f ar (R9.RtR (nr s)))(hy:y*y=s)(h0:0<=Xet y): C0 f ar (·=.tup (.pr (.d (dN (nr y))) (.d (.int .i64 0)))):=h.mono λv ⟨z,e,hz⟩=>by
 rcases hz with ⟨w,rfl,h1,h2⟩ | ⟨_,_,hn⟩
 . have hw:(w:Rat)=y:=Yez (y:=(w:Rat)) (z:=y) (Eq.trans h1 hy.symm) h2 h0
   rw[e,show w=y from hw]
 . exact absurd ⟨y,hy⟩ hn
theorem rt_non{f:FuncId}{ar:List AV}{s:Rat}(h:C0 f ar (R9.RtR (nr s)))(hn:¬Xch 0 () s): C0 f ar (·=.tup (.pr (.d (dN (n1 s r1))) (.d (.int .i64 0)))):=h.mono λv ⟨z,e,hz⟩=>by
 rcases hz with ⟨w,rfl,h1,h2⟩ | ⟨rfl,_,_⟩
 . exact absurd ⟨w,h1⟩ hn
 . exact e
theorem rSqrt{s:Rat}(h:Qs 64 s)(h0:0<=sgn 0 () s): C0 154 [.d (dN (nr s))] (R9.RtR (nr s)):=R9.Sqrt_ok (x:=nr s) (r:=1) (p:=65) trivial trivial (Sz.rat 0 h) h0 (show 0<8 by decide) (show qB 1 0 65<=4398046511104 by decide +kernel) (show qB 1 0 1<=4398046511104 by decide +kernel) (show vB 1 0 (65+gC 1 0)<=4398046511104 by decide +kernel) (show vB 1 0 1<=4398046511104 by decide +kernel)
end
end Go.Proofs.YtclgppjdhndgiaaGreatDoor.R55
namespace Go.Vm
open Go Go.ChangeShapes Go.WideShapes Go.ChangeAt Go.RowKit
theorem Xl7{P:Program}{t e:TypeId}{r:D->Prop}(ht:P.underlying t=some (.array 2 e))(he:Reads P e r)(h1:P.cellsOf e=1)(h3:P.cellsOf t=2): Reads P t λd=>∃a b,d=.st (.pr a b)/\r a/\r b:=by
 intro w H enc spare held fuel cs x h
 obtain⟨xs,m,_,_,hl,hxl,hx⟩:=DataW.trod_array ht h
 rw[h3] at hl
 match cs,hl with
 | [u,v],_ =>
  have g0:=hx 0 (by decide)
  have g1:=hx 1 (by decide)
  rw[h1,W0a (by omega)] at g0 g1
  obtain⟨a,a1,a2⟩:=he w g0
  obtain⟨b,b1,b2⟩:=he w g1
  exact⟨_,⟨a,b,rfl,a1,b1⟩,[u],[v],rfl,a2,b2⟩
end Go.Vm
namespace Go.Proofs.YtclgppjdhndgiaaGreatDoor
open Go Go.Vm Go.Num
theorem Xqi: Reads Tryz.prog 83 λd=>∃a b:Int,d=dP8 a b/\I8 a/\I8 b :=
 (Xl7 Tryz.underlying83 (Xy9 Tryz.underlying82) (by kernel_rfl) (by kernel_rfl)).mono λd ⟨a,b,e,⟨x,ex,hx⟩,⟨y,ey,hy⟩⟩=>⟨x,y,by rw[e,ex,ey],hx,hy⟩
theorem Xn1: Reads Tryz.prog 85 λd=>∃x:Dft,d=dDf x/\x.ok :=
 (Xgr Tryz.underlying85 (.cons (n:=1) rfl (Xgd Tryz.underlying4) (by kernel_rfl) (.cons (n:=1) rfl (Xgd Tryz.underlying4) (by kernel_rfl) (.cons (n:=2) rfl Xqi (by kernel_rfl) (.cons (n:=2) rfl Xqi (by kernel_rfl) (.cons (n:=1) rfl (Xqh Tryz.underlying5) (by kernel_rfl) (.one rfl (Xqh Tryz.underlying5))))))) (λf hf=>by cases hf;kernel_rfl)).mono λd hd=>by
  obtain⟨_,rfl,_,_,rfl,⟨a,rfl⟩,_,_,rfl,⟨b,rfl⟩,_,_,rfl,⟨c,e,rfl,h1,h2⟩,_,_,rfl,⟨f,g,rfl,h3,h4⟩,_,_,rfl,⟨m,rfl,h5⟩,⟨n,rfl,h6⟩⟩:=hd
  exact⟨⟨a,b,c,e,f,g,m,n⟩,rfl,h1,h2,h3,h4,h5,h6⟩
theorem Xl8: Reads Tryz.prog 22 λd=>∃l:List Dft,d=Yl9 l/\l.length<9223372036854775808/\∀x∈l,x.ok :=
 (Xn0 Tryz.underlying22 Xn1 (sz:=8) (by kernel_rfl) (by decide)).mono λd ⟨l,e,hl,h⟩=>by
  obtain⟨m,hm⟩:=Yp5 (f:=λn:{ x:Dft // x.ok }=>dDf n.1) λy hy=>let ⟨n,e,hn⟩:=h y hy;⟨⟨n,hn⟩,e⟩
  refine⟨m.map (·.1),by rw[e,hm];show _=D.sl 8 ((m.map (·.1)).map dDf);rw[List.map_map];rfl,by rw[hm] at hl;simpa using hl,λx hx=>?_⟩
  obtain⟨y,_,rfl⟩:=W4e.1 hx
  exact y.2
end Go.Proofs.YtclgppjdhndgiaaGreatDoor
namespace Go.Num
def spl: List UInt8->List (List UInt8)
 | []=>[[]]
 | c::s=>if c=32 then []::spl s else match spl s with
  | []=>[[c]]
  | w::r=>(c::w)::r
theorem Xpy: ∀s,spl s≠[]
 | []=>by simp[spl]
 | c::s=>by
  rw[spl];split
  . simp
  . split<;>simp
theorem Xpx: ∀ {s:List UInt8},32 ∉ s->spl s=[s]
 | [],_=>rfl
 | c::s,h=>by
  rw[W1i,not_or] at h
  rw[spl,if_neg (λe=>h.1 e.symm),Xpx h.2]
theorem Xlw{t:List UInt8}: ∀ {u:List UInt8},32 ∉ u->spl (u++32::t)=u::spl t
 | [],_=>by rw[W4g,spl,if_pos rfl]
 | c::u,h=>by
  rw[W1i,not_or] at h
  rw[W3r,spl,if_neg (λe=>h.1 e.symm),Xlw h.2]
theorem Xbj: ∀s:List UInt8,(spl s).length=s.count 32+1
 | []=>rfl
 | c::s=>by
  have ih:=Xbj s
  rw[spl,List.count_cons]
  by_cases h:c=32
  . subst h;rw[if_pos rfl];simp[ih]
  . rw[if_neg h,if_neg (by simpa using h)]
    obtain⟨w,r,e⟩:=W5r (Xpy s)
    rw[e] at ih |-
    simpa using ih
theorem Xe0: ∀(s w:List UInt8),w∈spl s->w.length<=s.length
 | [],w,h=>by
  obtain rfl:=W0g.1 h;exact W0c _
 | c::s,w,h=>by
  rw[spl] at h
  split at h
  . rcases W1i.1 h with rfl | h
    . exact W0x _
    . exact W0l (Xe0 s w h) (W8j _)
  . obtain⟨v,r,e⟩:=W5r (Xpy s)
    rw[e] at h
    rcases W1i.1 h with rfl | h
    . exact Nat.succ_le_succ (Xe0 s v (by rw[e];exact W0w))
    . exact W0l (Xe0 s w (by rw[e];exact W1e _ h)) (W8j _)
def num(w:List UInt8): Option Rat:=(prs w).map λq=>fr q.1 q.2.1 q.2.2
theorem Yi2{w:List UInt8}(h:prs w=none): num w=none:=by rw[num,h];rfl
theorem Yev{w a b:List UInt8}{ng:Bool}(h:prs w=some (ng,a,b)): num w=some (fr ng a b):=by rw[num,h];rfl
abbrev Wd:=List UInt8
abbrev Pt:=Rat×Rat
def pt2: List Wd->Option (Pt×List Wd)
 | x::y::r=>match num x,num y with
  | some a,some b=>some ((a,b),r)
  | _,_=>none
 | _=>none
def Xno(w:Wd): Prop:=w=[48]\/w=[49]
instance (w:Wd):Decidable (Xno w):=inferInstanceAs (Decidable (_\/_))
def Xs3: List Wd->Option (Pt×List Wd)
 | x::y::f::g::h::r=>if (num x).isSome=true/\(num y).isSome=true/\f=[48]/\Xno g/\Xno h then pt2 r else none
 | _=>none
def cmd: List Wd->Option (List Pt×List Wd)
 | []=>none
 | c::r=>if c=[76] then (pt2 r).map λq=>([q.1],q.2) else if c=[65] then (Xs3 r).map λq=>([q.1],q.2) else if c=[90] then (if r=[] then some ([],[]) else none) else none
theorem Xn5{l r:List Wd}{p:Pt}(h:pt2 l=some (p,r)): r.length+2=l.length:=by
 match l,h with
 | x::y::l,h =>
  simp only[pt2] at h
  split at h<;>cases h
  rfl
theorem Ya5{l r:List Wd}{p:Pt}(h:Xs3 l=some (p,r)): r.length+7=l.length:=by
 match l,h with
 | x::y::f::g::k::l,h =>
  simp only[Xs3] at h
  split at h
  . have:=Xn5 h;simp only[W0k];omega
  . cases h
theorem Xxg{l r:List Wd}{ps:List Pt}(h:cmd l=some (ps,r)): r.length<l.length:=by
 match l,h with
 | c::l,h =>
  simp only[cmd] at h
  split at h
  . cases e:pt2 l with
    | none=>rw[e] at h;cases h
    | some q=>rw[e] at h;cases h;have:=Xn5 (l:=l) (r:=q.2) (p:=q.1) e;simp only[W0k];omega
  . split at h
    . cases e:Xs3 l with
      | none=>rw[e] at h;cases h
      | some q=>rw[e] at h;cases h;have:=Ya5 (l:=l) (r:=q.2) (p:=q.1) e;simp only[W0k];omega
    . split at h
      . split at h<;>cases h
        simp
      . cases h
def bdy: Nat->List Wd->Option (List Pt)
 | _,[]=>some []
 | 0,_::_=>none
 | n+1,c::r=>match cmd (c::r) with
  | none=>none
  | some (ps,r)=>(bdy n r).map (ps++·)
theorem Yk7: ∀ {n m:Nat} {l:List Wd},l.length<=n->l.length<=m->bdy n l=bdy m l
 | n,m,[],_,_=>by cases n<;>cases m<;>rfl
 | 0,_,_::_,h,_=>absurd h (by simp)
 | _+1,0,_::_,_,h=>absurd h (by simp)
 | n+1,m+1,c::r,h1,h2=>by
  simp only[bdy]
  cases e:cmd (c::r) with
  | none=>rfl
  | some q =>
   obtain⟨ps,r'⟩:=q
   have:=Xxg e
   simp only[W0k] at h1 h2 this
   simp only
   rw[Yk7 (n:=n) (m:=m) (l:=r') (by omega) (by omega)]
def body(l:List Wd): Option (List Pt):=bdy l.length l
theorem Xrw: body []=some []:=rfl
theorem Xo0{l:List Wd}(h0:l≠[])(h:cmd l=none): body l=none:=by
 match l,h0 with
 | c::r,_=>unfold body;rw[W0k,bdy,h]
theorem Xhe{l r:List Wd}{ps:List Pt}(h:cmd l=some (ps,r)): body l=(body r).map (ps++·):=by
 match l,h with
 | c::l,h =>
  have:=Xxg h
  unfold body
  rw[W0k,bdy,h]
  simp only[W0k] at this |-
  rw[Yk7 (n:=l.length) (m:=r.length) (l:=r) (by omega) (W0c _)]
def rdP: List Wd->Option (List Pt)
 | []=>none
 | m::r=>if m=[77] then match pt2 r with
  | none=>none
  | some (p,r)=>(body r).map (p::·)
  else none
end Go.Num
namespace Go.Proofs.YtclgppjdhndgiaaGreatDoor
open Go Go.Vm Go.Num Go.Proofs
theorem Xx9(s:ByteArray)(c:UInt8)(w:World): Calls Tryz.prog 137 #[.string s,.string ⟨#[c]⟩] w λe w'=>e=.returned (.int .i64 (Lib.countByte s.data.toList c))/\w'=w:=by
 go_enter Tryz.func137,Tryz.ntmps137
 go_wp2
 rw[run_callFunc_extern Tryz.func227 (by kernel_rfl) (by kernel_rfl) (by kernel_rfl) (e:=Extern.BytealgCount.count) (by kernel_rfl),Lib.run_countString]
 simp only[Result.andThen]
 rw[Oper.upon_value]
 go_wp2
 go_ret
 exact⟨rfl,rfl⟩
theorem Ybg{s:List UInt8}(hs:Tx s): C0 137 [.d (.str s),.d (.str [32])] (·=.d (.int .i64 ((spl s).length-1:Nat))):=by
 refine⟨⟨_,Tryz.func137,rfl,rfl⟩,λW vs _ ha=>?_⟩
 match vs,ha with
 | [v,u],ha =>
  obtain⟨rfl,_⟩:=Xjc ha.1
  obtain⟨rfl,_⟩:=Xjc ha.2.1
  refine(Xx9 _ 32 W.w).mono ?_
  rintro e w' ⟨rfl,rfl⟩
  have e1:Lib.countByte (⟨s.toArray⟩:ByteArray).data.toList 32=(spl s).length-1:=by rw[Xbj];simp[Lib.countByte]
  have h2:((spl s).length-1)<9223372036854775808:=by
   have hs:s.length<_:=hs
   have:=W4l (a:=(32:UInt8)) (l:=s)
   rw[Xbj];omega
  rw[e1]
  refine⟨W,.d (.int .i64 ((spl s).length-1:Nat)),_,rfl,rfl,Fm.refl _ _,?_,λ_ h=>h,rfl⟩
  exact Vm.int_V (by show IntKind.i64.wrap _=_;exact wI ⟨by omega,by omega⟩)
theorem Xln{s:List UInt8}{b:UInt8}{r:Int}(hs:Tx s)(hr:Lib.indexByte s b=r): C0 138 [.d (.str s),.d (.str [b])] (·=.d (.int .i64 r)):=by
 refine En Tryz.func138 λ_ _ _=>?_
 refine Ce rfl (Xi3 hs hr) ?_
 exact R0
theorem Xp6{L:List (List UInt8)}{i n:Nat}{u:List UInt8}(hn:L.length=n)(hu:L[i]?=some u): ((L.take i).map D.str++List.replicate (n-i) (D.str [])).set i (.str u)=(L.take (i+1)).map D.str++List.replicate (n-(i+1)) (D.str []):=by
 have hi:=(W1d.1 hu).1
 rw[W6l _ _ (by simp;omega)]
 have e:i-((L.take i).map D.str).length=0:=by simp;omega
 rw[e,show n-i=n-(i+1)+1 by omega,W4b,List.set_cons_zero,W1c,hu]
 simp
theorem Xop{s:List UInt8}(hs:s.length<=1000000): C0 58 [.d (.str s),.d (.str [32]),.d (.int .i64 0),.d (.int .i64 (-1))] (·=.d (dXs (spl s))):=by
 obtain⟨n,hn⟩:∃n,(spl s).length=n+1:=⟨_,Xbj s⟩
 have hn1:n<=s.length:=by
  have:=Xbj s
  have:=W4l (a:=(32:UInt8)) (l:=s)
  omega
 have hc:=Ybg (s:=s) (by show _<_;omega)
 rw[hn,W3j] at hc
 refine En Tryz.func58 λ_ _ _=>?_
 refine No rfl (by decide) ?_
 refine No rfl (by decide) ?_
 refine Yes rfl (by decide) ?_
 refine Ce rfl hc ?_
 refine Ar (n+1:Nat) rfl ?_
 refine Ar (s.length+1:Nat) rfl ?_
 refine Mm (n+1:Nat) rfl ?_ (by show min ((n+1:Nat):Int) ((s.length+1:Nat):Int)=_;omega)
 refine Mk (n+1) rfl (by omega) ?_
 refine Ar (n:Nat) rfl ?_
 refine Lo (λ((i,r):Nat×List UInt8)=>[(0,.d (.str r)),(1,.d (.str [32])),(2,.d (.int .i64 0)),(3,.d (.int .i64 n)),(9,.own 31 1 0 (n+1)),(10,.d (.int .i64 i))]) (λ(i,_)=>[(31,.arr 1 (((spl s).take i).map D.str++List.replicate (n+1-i) (D.str [])))]) (λ(i,r)=>i<=n/\spl r=(spl s).drop i/\r.length<=s.length) (λ(i,_)=>n-i) (0,s) [] rfl ⟨W0x _,rfl,W0c _⟩ ?_
 rintro⟨i,r⟩ ⟨hi,hr,hrl⟩
 have hrn:(spl r).length=n+1-i:=by rw[hr,W1n,hn]
 have hlen:(((spl s).take i).map D.str++List.replicate (n+1-i) (D.str [])).length=n+1:=by simp;omega
 refine By rfl (λh=>?_) λh=>?_
 . rcases Xvs 32 r with h1 | ⟨u,t,rfl,h1⟩
   . rw[Xpx h1] at hrn
     simp only[W4f] at hrn
     omega
   . have hul:(u++32::t).length=u.length+(t.length+1):=by simp
     refine Ce rfl (Xln (by show _<_;omega) (Xzu h1)) ?_
     refine No rfl (by omega) ?_
     refine Ar (u.length:Nat) rfl ?_
     refine Stk u.length u rfl (by omega) (by simp) ?_
     refine Eo i rfl (by omega) ?_
     have hu:(spl s)[i]?=some u:=by
      have:=congrArg (·[0]?) hr
      rw[Xlw h1] at this
      simpa using this.symm
     refine Sto (zs:=((spl s).take (i+1)).map D.str++List.replicate (n+1-(i+1)) (D.str [])) rfl (by omega) (Xp6 hn hu) ?_
     refine Ar (u.length+1:Nat) rfl ?_ (wr (by simp) (by simp only[inK];omega))
     refine Sdp (u.length+1) t rfl (by omega) (by simp) ?_
     refine Ar (i+1:Nat) rfl ?_
     refine Bk (i+1,t) [] rfl ⟨by omega,?_,by omega⟩ (by show n-(i+1)<n-i;omega)
     rw[Xlw h1] at hr
     rw[<-W4s,<-hr];rfl
 . obtain rfl:i=n:=by omega
   have h1:spl r=[r]:=by
    rcases Xvs 32 r with h1 | ⟨u,t,rfl,h1⟩
    . exact Xpx h1
    . rw[Xlw h1] at hrn
      have:=W4n.2 (Xpy t)
      simp only[W0k] at hrn
      omega
   have hu:(spl s)[i]?=some r:=by
    have:=congrArg (·[0]?) hr
    rw[h1] at this
    simpa using this.symm
   refine Eo i rfl (by omega) ?_
   refine Sto (zs:=(spl s).map D.str) rfl (by omega) (by rw[Xp6 hn hu,W0b (by omega),W2v];simp) ?_
   refine Ar (i+1:Nat) rfl ?_
   refine Sw 0 (i+1) rfl (by omega) (by omega) ?_
   exact R1 rfl (.own rfl (by simp;omega) (by rw[W1k,W1a,W0b (by simp;omega)]))
theorem Split_ok{s:List UInt8}(hs:s.length<=1000000): C0 22 [.d (.str s),.d (.str [32])] (·=.d (dXs (spl s))):=by
 refine En Tryz.func22 λ_ _ _=>?_
 refine Ce rfl (Xop hs) ?_
 exact R0
end Go.Proofs.YtclgppjdhndgiaaGreatDoor
namespace Go.Vm
open Go
variable{c:Cx}{s:St}
noncomputable def Yox(tb:Nat->Option TI)(n id:Nat)(s:St): Option (List Kt×Env×Hpl):=match runT tb n id 1000 s with
 | .j _ K E H=>some (K,E,H)
 | _=>none
theorem NvT{K:List Kt}{E:Env}{H:Hpl}(id q o' sz:Nat){a:AV}(h:Yox c.tb c.n id s=some (K,E,H))(k:StP c (.j [] K E ((q,.var (a.nl o' sz))::(o',.tok 0 sz)::H)))(hv:look H q=some (.var a):=by exact rfl)(hb:(Nat.blt o' 1000000 && !Xb5 H o')=true:=by exact rfl): StP c s:=by
 unfold Yox at h
 split at h<;>cases h
 rename_i hr
 exact Xgc (id:=id) 1000 (by rw[hr];exact nvS q o' sz hv hb k)
end Go.Vm
namespace Go.Num
def hd(r:List Wd): Wd:=r.headD []
theorem Yex: num []=none:=rfl
theorem Xus(r:List Wd): pt2 r=match num (hd r),num (hd r.tail) with
 | some a,some b=>some ((a,b),r.tail.tail)
 | _,_=>none:=by
 match r with
 | []=>rfl
 | [x] =>
  show none=match num x,num [] with
   | some a,some b=>some ((a,b),([]:List Wd))
   | _,_=>none
  rw[Yex];cases num x<;>rfl
 | x::y::r=>rfl
theorem Xo2(r:List Wd): Xs3 r=if (num (hd r)).isSome=true/\(num (hd r.tail)).isSome=true/\hd r.tail.tail=[48]/\Xno (hd r.tail.tail.tail)/\Xno (hd r.tail.tail.tail.tail) then pt2 r.tail.tail.tail.tail.tail else none:=by
 match r with
 | []=>exact(if_neg λh=>nomatch h.1).symm
 | [_]=>exact(if_neg λh=>nomatch h.2.1).symm
 | [_,_]=>exact(if_neg λh=>nomatch h.2.2.1).symm
 | [_,_,_]=>exact(if_neg λh=>h.2.2.2.1.elim nofun nofun).symm
 | [_,_,_,_]=>exact(if_neg λh=>h.2.2.2.2.elim nofun nofun).symm
 | _::_::_::_::_::r=>rfl
def wat(l:List Wd)(a:Nat): Wd:=hd (l.drop a)
def nx(l:List Wd)(a:Nat): Nat:=if a<l.length then a+1 else a
theorem Xiu(l:List Wd)(a:Nat): l.drop (nx l a)=(l.drop a).tail:=by
 unfold nx
 split
 . rw[W4u]
 . rw[W1m (by omega)];rfl
theorem Xpe{l:List Wd}{a:Nat}{w:Wd}(h:l[a]?=some w): wat l a=w:=by
 unfold wat hd
 rw[List.headD_eq_head?_getD,List.head?_drop,h];rfl
theorem Xpd{l:List Wd}{a:Nat}(h:l.length<=a): wat l a=[]:=by
 unfold wat;rw[W1m h];rfl
theorem Xmf{l:List Wd}{a:Nat}(h:a<l.length): nx l a=a+1:=if_pos h
theorem Ym7{l:List Wd}{a:Nat}(h:l.length<=a): nx l a=a:=if_neg (by omega)
theorem Xi8(l:List Wd)(a:Nat): a<=nx l a:=by unfold nx;split<;>omega
theorem Xcp{l:List Wd}{a:Nat}(h:a<=l.length): nx l a<=l.length:=by unfold nx;split<;>omega
theorem Ybn{l:List Wd}{a:Nat}(h:wat l a≠[]): a<l.length:=by
 rcases Nat.lt_or_ge a l.length with h1 | h1
 . exact h1
 . exact absurd (Xpd h1) h
theorem Ym6{l:List Wd}{a:Nat}{q:Pt×List Wd}(h:pt2 (l.drop a)=some q): a+1<l.length:=by
 have:=Xn5 (l:=l.drop a) (p:=q.1) (r:=q.2) h
 rw[W1n] at this
 omega
theorem Xm9{l:List Wd}{a:Nat}(h:a<l.length): cmd (l.drop a)=if wat l a=[76] then (pt2 (l.drop (nx l a))).map λq=>([q.1],q.2) else if wat l a=[65] then (Xs3 (l.drop (nx l a))).map λq=>([q.1],q.2) else if wat l a=[90] then (if l.drop (nx l a)=[] then some ([],[]) else none) else none:=by
 obtain⟨w,hw⟩:∃w,l[a]?=some w:=⟨_,W0a h⟩
 rw[Xpe hw,Xiu]
 obtain⟨w',r,e⟩:∃w' r,l.drop a=w'::r:=W5r (by rw[ne_eq,W5f];omega)
 have hww:w'=w:=by
  have:=List.head?_drop (l:=l) (i:=a)
  rw[e,hw] at this
  exact Option.some.inj this
 subst hww
 rw[e]
 rfl
theorem Yce(r:List Wd): rdP r=if hd r=[77] then match pt2 r.tail with
 | none=>none
 | some (p,r)=>(body r).map (p::·)
 else none:=by
 cases r with
 | nil=>rfl
 | cons m r=>rfl
end Go.Num
namespace Go.Proofs.YtclgppjdhndgiaaGreatDoor.P56
open Go Go.Vm Go.Num Go.Tow Go.Proofs.YtclgppjdhndgiaaGreatDoor Go.Proofs.YtclgppjdhndgiaaGreatDoor.R11
theorem Xln{l:List Num.Wd}{w:Num.Wd}(hl:l.length<=1000000): C0 308 [.d (dXs l),.d (.str w)] (λv=>∃r:Int,v=.d (.int .i64 r)/\(0<=r↔w∈l)):=by
 have lm:(l.map D.str).length=l.length:=W0i ..
 refine En Tryz.func308 λ_ _ _=>?_
 refine Lo (λk:Nat=>[(0,.d (dXs l)),(1,.d (.str w)),(7,.d (.int .i64 (l.map D.str).length)),(8,.d (.int .i64 k))]) (λ_=>[]) (λk=>k<=l.length/\w ∉ l.take k) (λk=>l.length-k) 0 [] rfl ⟨W0x _,nofun⟩ λk ⟨hk,hn⟩=>?_
 refine By rfl (λh=>?_) λh=>?_<;>simp only[lm] at h
 . obtain⟨x,hx⟩:∃x,l[k]?=some x:=⟨_,W0a (by omega)⟩
   refine Ix k rfl (u:=.str x) (by rw[W0t,hx];rfl) ?_
   refine By rfl (λh1=>?_) λh1=>?_
   . exact Rt rfl (.one (.rf rfl) rfl rfl) ⟨k,rfl,λ_=>by rw[h1];exact W0h hx,λ_=>by omega⟩
   . refine Ar (k+1:Nat) rfl ?_
     refine Bk (k+1) [] rfl ⟨by omega,λhm=>?_⟩ (by show l.length-(k+1)<l.length-k;omega)
     rw[W1c,hx] at hm
     rcases W2j.1 hm with hm | hm
     . exact hn hm
     . exact h1 (W0g.1 hm)
 . rw[W0b (by omega)] at hn
   exact Rt rfl (.one (.rf rfl) rfl rfl) ⟨-1,rfl,λh=>by omega,λh=>absurd h hn⟩
theorem Contains_ok{l:List Num.Wd}{w:Num.Wd}(hl:l.length<=1000000): C0 219 [.d (dXs l),.d (.str w)] (·=.b (dc (w∈l))):=by
 refine En Tryz.func219 λ_ _ _=>?_
 refine Ca rfl (Xln hl) λv hv=>?_
 obtain⟨r,rfl,hr⟩:=hv
 exact R1 rfl (.bp (by rw[Xal];exact hr))
abbrev rwq(b1 b2:Bool)(l1 l2:List D): D:=.st (.pr (.st (.pr (.bool b1) (.sl 1 l1))) (.st (.pr (.bool b2) (.sl 1 l2))))
theorem Ynr(x:Rat): ∃b1 b2 l1 l2,dq x=rwq b1 b2 l1 l2:=⟨_,_,_,_,rfl⟩
abbrev rdV(l:List Num.Wd)(a o:Nat)(P:List D): AV:=.st (.pr (.d (dXs l)) (.pr (.d (.int .i64 (a:Nat))) (.gr o 8 P)))
abbrev rdH(l:List Num.Wd)(a:Nat)(P:List D): Hpl:=[(1000001,.var (rdV l a 1000002 P)),(1000002,.tok P.length 8)]
abbrev rdB(l:List Num.Wd)(a:Nat)(P:List D): Hpl:=[(1000001,.var (rdV l a 1000000 P)),(1000002,.dead),(1000000,.tok P.length 8)]
structure Lw (l:List Num.Wd):Prop where
 n:l.length<=1000000
 w:∀w∈l,w.length<=1000000
theorem Lw.tx{l:List Num.Wd}(h:Lw l)(a:Nat): Tx (wat l a):=by
 rcases Nat.lt_or_ge a l.length with h1 | h1
 . obtain⟨w,hw⟩:∃w,l[a]?=some w:=⟨_,W0a h1⟩
   rw[Xpe hw]
   have:=h.w w (W0h hw)
   show w.length<_
   omega
 . rw[Xpd h1];exact(show ([]:List UInt8).length<4611686018427387904 by decide)
variable{l:List Num.Wd}{a:Nat}{P:List D}
theorem Xkz(H:Lw l)(ha:a<=l.length): CW0 47 [.ptr 1000001 0] (rdH l a P) (λv H'=>v=.d (.str (wat l a))/\H'=rdH l (nx l a) P):=by
 have lm:(l.map D.str).length=l.length:=W0i ..
 have hn:=H.n
 refine EnW Tryz.func47 λ_ _ _ _=>?_
 refine Dw rfl ?_
 refine By rfl (λh=>?_) λh=>?_<;>simp only[lm] at h
 . rw[Xpd (by omega),Ym7 (by omega)]
   exact Rw [] (rdH l a P) rfl (.one (.rf rfl) rfl rfl) ⟨rfl,rfl⟩
 . obtain⟨w,hw⟩:∃w,l[a]?=some w:=⟨_,W0a (by omega)⟩
   rw[Xpe hw,Xmf (by omega)]
   refine Ar (a+1:Nat) rfl ?_
   refine Dw rfl ?_
   refine Ar (a:Nat) rfl ?_
   refine Ix a rfl (u:=.str w) (by rw[W0t,hw];rfl) ?_
   exact Rw [] (rdH l (a+1) P) rfl (.one (.rf rfl) rfl rfl) ⟨rfl,rfl⟩
theorem Xbd{b:Nat}(H:Lw l)(ha:a<=l.length)(hb:nx l a=b): CW0 127 [.ptr 1000001 0] (rdH l a P) (λv H'=>H'=rdH l b P/\∃b1 b2 l1 l2,v=.tup (.pr (.d (rwq b1 b2 l1 l2)) (.b (num (wat l a)).isSome))/\∀x,num (wat l a)=some x->rwq b1 b2 l1 l2=dq x):=by
 subst hb
 refine EnW Tryz.func127 λ_ _ _ _=>?_
 refine Cw [(1000001,1000001),(1000002,1000002)] rfl (Xkz H ha) λv H' _ hv=>?_
 obtain⟨rfl,rfl⟩:=hv
 have ht:=H.tx a
 cases hp:prs (wat l a) with
 | none =>
  refine Ce rfl (P11.Parse_no ht hp) ?_
  rw[Yi2 hp]
  exact Rw [] (rdH l (nx l a) P) rfl (.tup (.cons (.rf rfl) (.one (.rf rfl) (λ_ _ e=>by cases e) (λ_ _ e=>by cases e)))) ⟨rfl,false,false,[],[],by show AV.tup (.pr (.d dq0) (.b (dc _)))=_;rw[P11.dcF (by decide)];rfl,nofun⟩
 | some q =>
  obtain⟨ng,u,t⟩:=q
  obtain⟨b1,b2,l1,l2,he⟩:=Ynr (fr ng u t)
  refine Ce rfl (P11.Parse_yes ht hp) ?_
  rw[Yev hp]
  exact Rw [] (rdH l (nx l a) P) rfl (.tup (.cons (.rf rfl) (.one (.rf rfl) (λ_ _ e=>by cases e) (λ_ _ e=>by cases e)))) ⟨rfl,b1,b2,l1,l2,by show AV.tup (.pr (.d (dq (fr ng u t))) (.b (dc _)))=_;rw[P11.dcT rfl,he];rfl,λx e=>by cases e;exact he.symm⟩
theorem Xcs{L:List Num.Wd}{b:Nat}(H:Lw l)(ha:a<=l.length)(hb:nx l a=b)(hL:L.length<=1000000): CW0 128 [.ptr 1000001 0,.d (dXs L)] (rdH l a P) (λv H'=>v=.b (dc (wat l a∈L))/\H'=rdH l b P):=by
 subst hb
 refine EnW Tryz.func128 λ_ _ _ _=>?_
 refine Cw [(1000001,1000001),(1000002,1000002)] rfl (Xkz H ha) λv H' _ hv=>?_
 obtain⟨rfl,rfl⟩:=hv
 refine Ce rfl (Contains_ok hL) ?_
 exact Rw [] (rdH l (nx l a) P) rfl (.one (.rf rfl) rfl rfl) ⟨rfl,rfl⟩
abbrev dPt(p:Num.Pt): D:=.st (.pr (dq p.1) (dq p.2))
theorem Xdr(H:Lw l)(ha:a<=l.length)(hP:P.length<=1000000): CW0 48 [.ptr 1000001 0] (rdH l a P) (λv H'=>∃x,H'=rdB l (nx l (nx l a)) (P++[x])/\v=.b (pt2 (l.drop a)).isSome/\∀p r,pt2 (l.drop a)=some (p,r)->x=dPt p/\r=l.drop (nx l (nx l a))):=by
 have h1:=Xcp ha
 have h2:=Xcp h1
 refine EnW Tryz.func48 λ_ _ _ _=>?_
 refine Cw [(1000001,1000001),(1000002,1000002)] rfl (Xbd H ha rfl) λv H' _ hv=>?_
 obtain⟨rfl,b1,b2,l1,l2,rfl,k1⟩:=hv
 refine Cw [(1000001,1000001),(1000002,1000002)] rfl (Xbd H h1 rfl) λv H' _ hv=>?_
 obtain⟨rfl,c1,c2,m1,m2,rfl,k2⟩:=hv
 refine Dw rfl ?_
 refine ApG (P++[.st (.pr (rwq b1 b2 l1 l2) (rwq c1 c2 m1 m2))]) rfl rfl (by simp;omega) ?_
 have e:=Xus (l.drop a)
 rw[<-Xiu,<-Xiu] at e
 have e:pt2 (l.drop a)=match num (wat l a),num (wat l (nx l a)) with | some a',some b'=>some ((a',b'),l.drop (nx l (nx l a))) | _,_=>none:=e
 rw[e]
 revert k1 k2
 generalize num (wat l a)=o1
 generalize num (wat l (nx l a))=o2
 intro k1 k2
 cases o1 with
 | none =>
  refine No rfl nofun ?_
  exact Rw [(26,1000000)] (rdB l (nx l (nx l a)) (P++[.st (.pr (rwq b1 b2 l1 l2) (rwq c1 c2 m1 m2))])) rfl (.one (.rf rfl) rfl rfl) ⟨_,rfl,rfl,nofun⟩
 | some u =>
  refine Yes rfl rfl ?_
  cases o2 with
  | none=>exact Rw [(26,1000000)] (rdB l (nx l (nx l a)) (P++[.st (.pr (rwq b1 b2 l1 l2) (rwq c1 c2 m1 m2))])) rfl (.one (.rf rfl) rfl rfl) ⟨_,rfl,rfl,nofun⟩
  | some t=>exact Rw [(26,1000000)] (rdB l (nx l (nx l a)) (P++[.st (.pr (rwq b1 b2 l1 l2) (rwq c1 c2 m1 m2))])) rfl (.one (.rf rfl) rfl rfl) ⟨_,rfl,rfl,λp r e=>by cases e;exact⟨by rw[k1 u rfl,k2 t rfl],rfl⟩⟩
theorem Ygr(l:List Num.Wd)(b:Nat): Xs3 (l.drop b)=if (num (wat l b)).isSome=true/\(num (wat l (nx l b))).isSome=true/\wat l (nx l (nx l b))=[48]/\Xno (wat l (nx l (nx l (nx l b))))/\Xno (wat l (nx l (nx l (nx l (nx l b))))) then pt2 (l.drop (nx l (nx l (nx l (nx l (nx l b)))))) else none:=by
 rw[Xo2]
 unfold wat
 simp only[Xiu]
inductive CmdR (l:List Num.Wd) (a:Nat) (P:List D):AV->Hpl->Prop
 | fa {b:Nat} (h:cmd (l.drop a)=none):CmdR l a P (.b false) (rdH l b P)
 | fb {b:Nat} {x:D} (h:cmd (l.drop a)=none):CmdR l a P (.b false) (rdB l b (P++[x]))
 | ya (h:cmd (l.drop a)=some ([],[])):CmdR l a P (.b true) (rdH l l.length P)
 | yb {b:Nat} {p:Num.Pt} (h:cmd (l.drop a)=some ([p],l.drop b)) (hb:a<b) (hl:b<=l.length):CmdR l a P (.b true) (rdB l b (P++[dPt p]))
theorem fl2{w:Num.Wd}: w∈([[48],[49]]:List Num.Wd)↔Xno w:=by unfold Xno;simp
set_option maxHeartbeats 1000000 in
theorem Xsm(H:Lw l)(ha:a<l.length)(hP:P.length<=1000000): CW0 49 [.ptr 1000001 0] (rdH l a P) (CmdR l a P):=by
 have h1:=Xcp (W2c ha)
 have hc:=Xm9 ha
 have hb:=Xmf ha
 have hn:=H.n
 have lm:(l.map D.str).length=l.length:=W0i ..
 refine EnW Tryz.func49 λ_ _ _ _=>?_
 refine Cw [(1000001,1000001),(1000002,1000002)] rfl (Xkz H (W2c ha)) λv H' _ hv=>?_
 obtain⟨rfl,rfl⟩:=hv
 show Pl.nx' _ _ (.d (.str (wat l a))) (rdH l (nx l a) P)
 refine By rfl (λhw=>?_) λhw=>?_
 . rw[if_pos hw] at hc
   refine Cw [(1000001,1000001),(1000002,1000002)] rfl (Xdr H h1 hP) λv H' _ hv=>?_
   obtain⟨x,rfl,rfl,k⟩:=hv
   cases e:pt2 (l.drop (nx l a)) with
   | none=>exact Rw [(12,1000000)] (rdB l (nx l (nx l (nx l a))) (P++[x])) rfl (.one (.rf rfl) rfl rfl) (.fb (by rw[hc,e];rfl))
   | some q =>
    obtain⟨p,r⟩:=q
    obtain⟨rfl,rfl⟩:=k p r e
    exact Rw [(12,1000000)] (rdB l (nx l (nx l (nx l a))) (P++[dPt p])) rfl (.one (.rf rfl) rfl rfl) (.yb (by rw[hc,e];rfl) (by have:=Xi8 l (nx l a);have:=Xi8 l (nx l (nx l a));omega) (Xcp (Xcp h1)))
 rw[if_neg hw] at hc
 refine By rfl (λhw2=>?_) λhw2=>?_
 . rw[if_pos hw2,Ygr] at hc
   obtain⟨a1,e1⟩:∃b,nx l a=b:=⟨_,rfl⟩
   obtain⟨a2,e2⟩:∃b,nx l a1=b:=⟨_,rfl⟩
   obtain⟨a3,e3⟩:∃b,nx l a2=b:=⟨_,rfl⟩
   obtain⟨a4,e4⟩:∃b,nx l a3=b:=⟨_,rfl⟩
   obtain⟨a5,e5⟩:∃b,nx l a4=b:=⟨_,rfl⟩
   obtain⟨a6,e6⟩:∃b,nx l a5=b:=⟨_,rfl⟩
   rw[e1,e2,e3,e4,e5,e6] at hc
   rw[e1] at h1 |-
   have h2:=Xcp h1
   rw[e2] at h2
   have h3:=Xcp h2
   rw[e3] at h3
   have h4:=Xcp h3
   rw[e4] at h4
   have h5:=Xcp h4
   rw[e5] at h5
   have h6:=Xcp h5
   rw[e6] at h6
   have h0:a<a6:=by
    have i1:=Xi8 l a1
    have i2:=Xi8 l a2
    have i3:=Xi8 l a3
    have i4:=Xi8 l a4
    have i5:=Xi8 l a5
    omega
   have no:∀ {p:Prop} [Decidable p],¬p->cmd (l.drop a)=((if p then pt2 (l.drop a6) else none).map λq=>([q.1],q.2))->cmd (l.drop a)=none:=λhp e=>by rw[e,if_neg hp];rfl
   refine Cw [(1000001,1000001),(1000002,1000002)] rfl (Xbd H h1 e2) λv H' _ hv=>?_
   obtain⟨rfl,b1,b2,l1,l2,rfl,k1⟩:=hv
   show Pl.nx' _ _ (.tup (.pr (.d (rwq b1 b2 l1 l2)) (.b (num (wat l a1)).isSome))) (rdH l a2 P)
   refine Cw [(1000001,1000001),(1000002,1000002)] rfl (Xbd H h2 e3) λv H' _ hv=>?_
   obtain⟨rfl,c1,c2,m1,m2,rfl,k2⟩:=hv
   show Pl.nx' _ _ (.tup (.pr (.d (rwq c1 c2 m1 m2)) (.b (num (wat l a2)).isSome))) (rdH l a3 P)
   refine By rfl (λg1=>?_) λg1=>?_
   . refine By rfl (λg2=>?_) λg2=>?_
     . refine Cw (args:=[.ptr 1000001 0,.d (dXs [[48]])]) [(1000001,1000001),(1000002,1000002)] rfl (Xcs H h3 e4 (by decide)) λv H' _ hv=>?_
       obtain⟨rfl,rfl⟩:=hv
       show Pl.nx' _ _ (.b (dc (wat l a3∈([[48]]:List Num.Wd)))) (rdH l a4 P)
       refine By rfl (λg3=>?_) λg3=>?_
       . refine Cw (args:=[.ptr 1000001 0,.d (dXs [[48],[49]])]) [(1000001,1000001),(1000002,1000002)] rfl (Xcs H h4 e5 (by decide)) λv H' _ hv=>?_
         obtain⟨rfl,rfl⟩:=hv
         show Pl.nx' _ _ (.b (dc (wat l a4∈([[48],[49]]:List Num.Wd)))) (rdH l a5 P)
         refine By rfl (λg4=>?_) λg4=>?_
         . refine Cw (args:=[.ptr 1000001 0,.d (dXs [[48],[49]])]) [(1000001,1000001),(1000002,1000002)] rfl (Xcs H h5 e6 (by decide)) λv H' _ hv=>?_
           obtain⟨rfl,rfl⟩:=hv
           show Pl.nx' _ _ (.b (dc (wat l a5∈([[48],[49]]:List Num.Wd)))) (rdH l a6 P)
           refine By rfl (λg5=>?_) λg5=>?_
           . rw[if_pos ⟨g1,g2,W0g.1 g3,fl2.1 g4,fl2.1 g5⟩] at hc
             refine Cw [(1000001,1000001),(1000002,1000002)] rfl (Xdr H h6 hP) λv H' _ hv=>?_
             obtain⟨x,rfl,rfl,k⟩:=hv
             cases e:pt2 (l.drop a6) with
             | none=>exact Rw [(46,1000000)] (rdB l (nx l (nx l a6)) (P++[x])) rfl (.one (.rf rfl) rfl rfl) (.fb (by rw[hc,e];rfl))
             | some q =>
              obtain⟨p,r⟩:=q
              obtain⟨rfl,rfl⟩:=k p r e
              exact Rw [(46,1000000)] (rdB l (nx l (nx l a6)) (P++[dPt p])) rfl (.one (.rf rfl) rfl rfl) (.yb (by rw[hc,e];rfl) (by have:=Xi8 l a6;have:=Xi8 l (nx l a6);omega) (Xcp (Xcp h6)))
           . exact Rw [] (rdH l a6 P) rfl (.one (.rf rfl) rfl rfl) (.fa (no (λh=>g5 (fl2.2 h.2.2.2.2)) hc))
         . exact Rw [] (rdH l a5 P) rfl (.one (.rf rfl) rfl rfl) (.fa (no (λh=>g4 (fl2.2 h.2.2.2.1)) hc))
       . exact Rw [] (rdH l a4 P) rfl (.one (.rf rfl) rfl rfl) (.fa (no (λh=>g3 (W0g.2 h.2.2.1)) hc))
     . exact Rw [] (rdH l a3 P) rfl (.one (.rf rfl) rfl rfl) (.fa (no (λh=>g2 h.2.1) hc))
   . exact Rw [] (rdH l a3 P) rfl (.one (.rf rfl) rfl rfl) (.fa (no (λh=>g1 h.1) hc))
 rw[if_neg hw2] at hc
 refine By rfl (λhw3=>?_) λhw3=>?_
 . rw[if_pos hw3] at hc
   refine Dw rfl ?_
   by_cases hz:nx l a=l.length
   . rw[if_pos (by rw[hz];exact W7q)] at hc
     refine Rw [] (rdH l (nx l a) P) rfl (.one (.rf rfl) rfl rfl) ?_
     rw[show dc (((nx l a:Nat):Int)=((l.map D.str).length:Nat))=true from P11.dcT (by rw[lm,hz]),hz]
     exact .ya hc
   . rw[if_neg (by rw[W5f];omega)] at hc
     refine Rw [] (rdH l (nx l a) P) rfl (.one (.rf rfl) rfl rfl) ?_
     rw[show dc (((nx l a:Nat):Int)=((l.map D.str).length:Nat))=false from P11.dcF (by rw[lm];omega)]
     exact .fa hc
 . rw[if_neg hw3] at hc
   exact Rw [] (rdH l (nx l a) P) rfl (.one (.rf rfl) rfl rfl) (.fa hc)
def pdR: Option (List Num.Pt)->AV
 | none=>.tup (.pr (.d (.sl 8 [])) (.d (.int .i64 2)))
 | some ps=>.tup (.pr (.d (.sl 8 (ps.map dPt))) (.d (.int .i64 0)))
theorem Points_ok{s:List UInt8}(hs:s.length<=100000): C0 20 [.d (.str s)] (·=pdR (rdP (spl s))):=by
 have H:Lw (spl s):=⟨by
  have:=Xbj s
  have:=W4l (a:=(32:UInt8)) (l:=s)
  omega,λw hw=>by have:=Xe0 s w hw;omega⟩
 have hS:=Split_ok (s:=s) (by omega)
 have hn:(spl s).length<=100001:=by
  have:=Xbj s
  have:=W4l (a:=(32:UInt8)) (l:=s)
  omega
 generalize spl s=l at hS H hn
 have lm:(l.map D.str).length=l.length:=W0i ..
 have e:=Yce l
 have e0:l.tail=l.drop (nx l 0):=by rw[Xiu];rfl
 have e1:hd l=wat l 0:=rfl
 rw[e0,e1] at e
 have h1:=Xcp (W0x l.length)
 refine En Tryz.func20 λ_ _ _=>?_
 refine Ce rfl hS ?_
 refine NvT 2 8 900 8 rfl ?_
 refine Cw [(1000001,8),(1000002,900)] rfl (Xkz (a:=0) (P:=[]) H (W0x _)) λv H' _ hv=>?_
 obtain⟨rfl,rfl⟩:=hv
 refine By rfl (λhw=>?_) λhw=>?_
 . rw[if_neg hw] at e
   rw[e]
   exact RTt rfl (.cons (.nil rfl) Xax)
 rw[if_pos (W2h.1 hw)] at e
 refine Cw [(1000001,8),(1000002,900)] rfl (Xdr (P:=[]) H h1 (by decide)) λv H' _ hv=>?_
 obtain⟨x,rfl,rfl,k⟩:=hv
 cases hp:pt2 (l.drop (nx l 0)) with
 | none =>
  rw[hp] at e
  rw[e]
  refine Yes rfl (by decide) ?_
  exact RTt rfl (.cons (.nil rfl) Xax)
 | some q =>
 obtain⟨p,r⟩:=q
 obtain⟨rfl,rfl⟩:=k p r hp
 rw[hp] at e
 have e:rdP l=(body (l.drop (nx l (nx l (nx l 0))))).map (p::·):=e
 rw[e]
 have h3:([p]:List Num.Pt).length<=nx l (nx l (nx l 0)):=by
  have h4:=Ym6 hp
  rw[Xmf (l:=l) (a:=0) (by omega),Xmf (l:=l) (a:=0+1) (by rw[Xmf (l:=l) (a:=0) (by omega)] at h4;omega)]
  show 1<=_
  have:=Xi8 l (0+1+1)
  omega
 refine No rfl nofun ?_
 refine Lo (λ((a,ps):Nat×List Num.Pt)=>[(4,.ptr 8 0)]) (λ(a,ps)=>[(8,.var (rdV l a 14 (ps.map dPt))),(14,.tok (ps.map dPt).length 8)]) (λ(a,ps)=>a<=l.length/\ps.length<=a/\(body (l.drop (nx l (nx l (nx l 0))))).map (p::·)=(body (l.drop a)).map (ps++·)) (λ(a,_)=>l.length-a) (nx l (nx l (nx l 0)),[p]) [] rfl ⟨Xcp (Xcp h1),h3,rfl⟩ ?_
 rintro⟨a,ps⟩ ⟨ha,hps,hI⟩
 rw[hI]
 refine Dw rfl ?_
 refine By rfl (λh=>?_) λh=>?_<;>simp only[lm] at h
 . have hd:l.drop a≠[]:=by rw[ne_eq,W5f];omega
   refine Cw [(1000001,8),(1000002,14)] rfl (Xsm (a:=a) (P:=ps.map dPt) H (by omega) (by rw[W0i];omega)) λv H' _ hv=>?_
   cases hv with
   | fa h =>
    rw[Xo0 hd h]
    refine Yes rfl (by decide) ?_
    exact RTt rfl (.cons (.nil rfl) Xax)
   | fb h =>
    rw[Xo0 hd h]
    refine Yes rfl (by decide) ?_
    exact RTt rfl (.cons (.nil rfl) Xax)
   | ya h =>
    refine No rfl nofun ?_
    refine Bk (l.length,ps) [] rfl ⟨W0c _,by omega,?_⟩ (by show l.length-l.length<l.length-a;omega)
    rw[Xhe h,W7q,W8h];rfl
   | @yb b q h hb hl =>
    refine No rfl nofun ?_
    have ez:ps.map dPt++[dPt q]=(ps++[q]).map dPt:=by simp
    rw[ez]
    refine Bk (b,ps++[q]) [(14,901),(28,14)] rfl ⟨hl,by simp;omega,?_⟩ (by show l.length-b<l.length-a;omega)
    rw[Xhe h,W8h]
    exact congrArg (λf=>Option.map f (body (l.drop b))) (funext λt=>by simp)
 . have ea:l.drop a=[]:=W1m (by omega)
   rw[ea,Xrw]
   exact RTt rfl (.cons (.gr (by simp)) Xax)
end Go.Proofs.YtclgppjdhndgiaaGreatDoor.P56
namespace Go.Num
def nms: List Wd->Nat->Bool
 | _,0=>true
 | r,n+1=>(num (hd r)).isSome&&nms r.tail n
theorem Xur{r:List Wd}{q:Pt×List Wd}(h:pt2 r=some q): nms r 2=true:=by
 rw[Xus] at h
 split at h
 . rename_i h1 h2
   simp[nms,h1,h2]
 . cases h
theorem Xoc{r:List Wd}(h:nms r 2=true): ∃x y,num (hd r)=some x/\num (hd r.tail)=some y/\pt2 r=some ((x,y),r.tail.tail):=by
 simp only[nms,Bool.and_true,W0f,W3f] at h
 obtain⟨⟨x,hx⟩,y,hy⟩:=h
 exact⟨x,y,hx,hy,by rw[Xus,hx,hy]⟩
theorem Ycr{r:List Wd}(h:nms r 2=false): pt2 r=none:=by
 cases e:pt2 r with
 | none=>rfl
 | some q=>rw[Xur e] at h;cases h
theorem Yc5{w:Wd}(h:Xno w): (num w).isSome=true:=by
 rcases h with rfl | rfl<;>rfl
theorem Ygq{r:List Wd}{q:Pt×List Wd}(h:Xs3 r=some q): nms r 7=true:=by
 rw[Xo2] at h
 split at h
 . rename_i hc
   obtain⟨h1,h2,h3,h4,h5⟩:=hc
   have h6:=Xur h
   have h3':(num (hd r.tail.tail)).isSome=true:=by rw[h3];rfl
   rw[show nms r 7=((num (hd r)).isSome&&((num (hd r.tail)).isSome&&((num (hd r.tail.tail)).isSome&&((num (hd r.tail.tail.tail)).isSome&&((num (hd r.tail.tail.tail.tail)).isSome&&nms r.tail.tail.tail.tail.tail 2))))) from rfl,h1,h2,h3',Yc5 h4,Yc5 h5,h6]
   rfl
 . cases h
theorem Xky{l:List Wd}: ∀ {n b:Nat},0<n->nms (l.drop b) n=true->b+n<=l.length
 | n+1,b,_,h=>by
  rw[nms,W0f,W4u] at h
  have hb:b<l.length:=Ybn (a:=b) λe=>by
   have h1:=h.1
   rw[show hd (l.drop b)=[] from e] at h1
   cases h1
  cases n with
  | zero=>omega
  | succ n=>have:=Xky (l:=l) (n:=n+1) (b:=b+1) (by omega) h.2;omega
theorem Xfp{r:List Wd}{n:Nat}(h:nms r (n+1)=true): (num (hd r)).isSome=true/\nms r.tail n=true:=by
 rwa[nms,W0f] at h
theorem Xgh{l:List Wd}{a:Nat}(h:a<l.length): l[a]?=some (wat l a):=by
 obtain⟨w,hw⟩:∃w,l[a]?=some w:=⟨_,W0a h⟩
 rw[Xpe hw,hw]
theorem Ykr{l:List Wd}{a:Nat}(h:a<l.length)(hw:wat l a=[76]): cmd (l.drop a)=(pt2 (l.drop (a+1))).map λq=>([q.1],q.2):=by
 rw[Xm9 h,if_pos hw,Xmf h]
theorem Xxh{l:List Wd}{a:Nat}(h:a<l.length)(hw:wat l a=[65]): cmd (l.drop a)=(Xs3 (l.drop (a+1))).map λq=>([q.1],q.2):=by
 rw[Xm9 h,if_neg (by rw[hw];decide),if_pos hw,Xmf h]
theorem Ykq{l:List Wd}{a:Nat}(h:a<l.length)(hw:wat l a=[90]): cmd (l.drop a)=if a+1=l.length then some ([],[]) else none:=by
 rw[Xm9 h,if_neg (by rw[hw];decide),if_neg (by rw[hw];decide),if_pos hw,Xmf h]
 by_cases e:a+1=l.length
 . rw[if_pos e,if_pos (by rw[e,W7q])]
 . rw[if_neg e,if_neg (by rw[W5f];omega)]
theorem Ykp{l:List Wd}{a:Nat}(h:a<l.length)(h1:wat l a≠[76])(h2:wat l a≠[65])(h3:wat l a≠[90]): cmd (l.drop a)=none:=by
 rw[Xm9 h,if_neg h1,if_neg h2,if_neg h3]
theorem Ylc{l:List Wd}{b:Nat}(h:nms (l.drop b) 7=true): ∃x y,num (wat l (b+5))=some x/\num (wat l (b+5+1))=some y/\Xs3 (l.drop b)=if wat l (b+2)=[48]/\Xno (wat l (b+3))/\Xno (wat l (b+4)) then some ((x,y),l.drop (b+7)) else none:=by
 obtain⟨h1,h⟩:=Xfp h
 obtain⟨h2,h⟩:=Xfp h
 obtain⟨_,h⟩:=Xfp h
 obtain⟨_,h⟩:=Xfp h
 obtain⟨_,h⟩:=Xfp h
 obtain⟨x,y,h3,h4,h5⟩:=Xoc h
 simp only[W4u] at h1 h2 h3 h4 h5
 refine⟨x,y,h3,h4,?_⟩
 rw[Xo2]
 simp only[W4u]
 rw[h5]
 by_cases hc:wat l (b+2)=[48]/\Xno (wat l (b+3))/\Xno (wat l (b+4))
 . rw[if_pos hc,if_pos ⟨h1,h2,hc⟩]
 . rw[if_neg hc,if_neg λk=>hc k.2.2]
theorem Ylb{l:List Wd}{b:Nat}(h:nms (l.drop b) 7=false): Xs3 (l.drop b)=none:=by
 cases e:Xs3 (l.drop b) with
 | none=>rfl
 | some q=>rw[Ygq e] at h;cases h
end Go.Num
namespace Go.Proofs.YtclgppjdhndgiaaGreatDoor.R56
open Go Go.Vm Go.Num Go.Tow Go.Proofs.YtclgppjdhndgiaaGreatDoor Go.Proofs.YtclgppjdhndgiaaGreatDoor.P56
theorem Split_ok{s:List UInt8}(hs:s.length<=1000000): C0 26 [.d (.str s)] (·=.d (dXs (spl s))):=by
 refine En Tryz.func26 λ_ _ _=>?_
 refine Nl 3 3 1 rfl ?_
 refine Lo (λ((i,fr,ws,cur,rest):Nat×Nat×List (List UInt8)×List UInt8×List UInt8)=>[(0,.d (.str s)),(3,.gr 3 1 (ws.map .str)),(4,.d (.int .i64 fr)),(5,.d (.int .i64 i))]) (λ(_,_,ws,_,_)=>[(3,.tok (ws.map D.str).length 1)]) (λ(i,fr,ws,cur,rest)=>ws.length<=i/\((i<=s.length/\fr+cur.length=i/\s.drop fr=cur++rest/\32 ∉ cur/\spl s=ws++spl (cur++rest))\/(i=s.length+1/\spl s=ws))) (λ(i,_)=>s.length+1-i) (0,0,[],[],s) [] rfl ⟨W0c _,.inl ⟨W0x _,rfl,rfl,nofun,rfl⟩⟩ ?_
 rintro⟨i,fr,ws,cur,rest⟩ ⟨hws,hI⟩
 refine By rfl (λh=>?_) λh=>?_
 . rcases hI with ⟨hi,hf,hd,hc,hsp⟩ | ⟨hi,_⟩
   . have hsl:(s.drop fr).length=s.length-fr:=W1n ..
     rw[hd,W0d] at hsl
     have hcur:(s.drop fr).take (i-fr)=cur:=by rw[hd,show i-fr=cur.length by omega];simp
     have hz:ws.map D.str++[D.str cur]=(ws++[cur]).map .str:=by simp
     refine By rfl (λh1=>?_) λh1=>?_
     . have hr:rest=[]:=W2s.1 (by omega)
       subst hr
       rw[W3g,Xpx hc] at hsp
       refine Smd fr i cur rfl (by omega) hcur ?_
       refine ApG ((ws++[cur]).map .str) rfl hz (by simp;omega) ?_
       refine Ar (i+1:Nat) rfl ?_
       refine Ar (i+1:Nat) rfl ?_
       exact Bk (i+1,i+1,ws++[cur],[],[]) [(3,90),(28,3)] rfl ⟨by simp;omega,.inr ⟨by omega,hsp⟩⟩ (by show s.length+1-(i+1)<s.length+1-i;omega)
     . obtain⟨c,t,rfl⟩:∃c t,rest=c::t:=by
        cases rest with
        | nil=>simp at hsl;omega
        | cons c t=>exact⟨c,t,rfl⟩
       simp only[W0k] at hsl
       have hci:s[i]?=some c:=by
        have:=congrArg (·[cur.length]?) hd
        simp only[W2f,W0o (W0c _),W2v,List.getElem?_cons_zero] at this
        rwa[hf] at this
       refine Yx i c rfl hci ?_
       refine By rfl (λh2=>?_) λh2=>?_
       . obtain rfl:c=32:=W8a.1 (by show c.toNat=32;omega)
         rw[Xlw hc] at hsp
         refine Smd fr i cur rfl (by omega) hcur ?_
         refine ApG ((ws++[cur]).map .str) rfl hz (by simp;omega) ?_
         refine Ar (i+1:Nat) rfl ?_
         refine Ar (i+1:Nat) rfl ?_
         refine Bk (i+1,i+1,ws++[cur],[],t) [(3,90),(28,3)] rfl ⟨by simp;omega,.inl ⟨by omega,rfl,?_,nofun,by rw[hsp];simp⟩⟩ (by show s.length+1-(i+1)<s.length+1-i;omega)
         rw[show i+1=fr+(cur.length+1) by omega,<-W4s,hd]
         simp
       . refine Ar (i+1:Nat) rfl ?_
         refine Bk (i+1,fr,ws,cur++[c],t) [] rfl ⟨by omega,.inl ⟨by omega,by simp;omega,by rw[hd];simp,?_,by rw[hsp];simp⟩⟩ (by show s.length+1-(i+1)<s.length+1-i;omega)
         intro hm
         rcases W2j.1 hm with hm | hm
         . exact hc hm
         . obtain rfl:=W0g.1 hm;exact h2 rfl
   . omega
 . rcases hI with ⟨hi,_⟩ | ⟨_,hsp⟩
   . omega
   . exact R1 rfl (.gr (by rw[hsp]))
variable{l:List Num.Wd}{a:Nat}
theorem Ym4{w:List UInt8}: (plc w<0)↔(num w).isSome=false:=by
 unfold plc num
 cases prs w with
 | none=>exact⟨λ_=>rfl,λ_=>by decide⟩
 | some q=>exact⟨λh=>by obtain⟨_,_,_⟩:=q;simp at h;omega,nofun⟩
theorem Xb4{n:Nat}(H:Lw l)(ha:a<=1000000)(hn:n<=100): C0 78 [.d (dXs l),.d (.int .i64 a),.d (.int .i64 n)] (·=.b (nms (l.drop a) n)):=by
 have lm:(l.map D.str).length=l.length:=W0i ..
 refine En Tryz.func78 λ_ _ _=>?_
 refine Lo (λk:Nat=>[(0,.d (dXs l)),(1,.d (.int .i64 a)),(2,.d (.int .i64 n)),(7,.d (.int .i64 (a+k:Nat)))]) (λ_=>[]) (λk=>k<=n/\nms (l.drop a) n=nms (l.drop (a+k)) (n-k)) (λk=>n-k) 0 [] rfl ⟨W0x _,rfl⟩ λk ⟨hk,hI⟩=>?_
 rw[hI]
 refine Ar (a+n:Nat) rfl ?_
 refine By rfl (λh=>?_) λh=>?_
 . obtain⟨m,hm⟩:∃m,n-k=m+1:=⟨n-k-1,by omega⟩
   have e:nms (l.drop (a+k)) (n-k)=((num (wat l (a+k))).isSome&&nms (l.drop (a+(k+1))) (n-(k+1))):=by
    rw[hm,nms,W4u,show n-(k+1)=m by omega];rfl
   rw[e]
   refine By rfl (λh1=>?_) λh1=>?_<;>simp only[lm] at h1
   . rw[Xpd (by omega)]
     exact R0
   . refine Ix (a+k) rfl (u:=.str (wat l (a+k))) (by rw[W0t,Xgh (by omega)];rfl) ?_
     refine Ce rfl (R11.Places_ok (H.tx _)) ?_
     refine By rfl (λh2=>?_) λh2=>?_
     . rw[Ym4.1 h2]
       exact R0
     . have h3:(num (wat l (a+k))).isSome=true:=by
        cases e:(num (wat l (a+k))).isSome with
        | true=>rfl
        | false=>exact absurd (Ym4.2 e) h2
       rw[h3,W6q]
       refine Ar (a+(k+1):Nat) rfl ?_
       exact Bk (k+1) [] rfl ⟨by omega,rfl⟩ (by show n-(k+1)<n-k;omega)
 . rw[show n-k=0 by omega]
   exact R0
theorem Ycg{w:List UInt8}{x:Rat}(hw:Tx w)(h:num w=some x): C0 81 [.d (.str w)] (·=.tup (.pr (.d (dq x)) (.d (.int .i64 0)))):=by
 unfold num at h
 cases hp:prs w with
 | none=>rw[hp] at h;cases h
 | some q =>
  obtain⟨ng,u,t⟩:=q
  rw[hp] at h
  cases h
  exact R11.Parse_yes hw hp
theorem Yew{x:Rat}(h:num (wat l a)=some x): a<l.length:=Ybn λe=>by rw[e] at h;cases h
theorem Xdr{x y:Rat}(H:Lw l)(h1:num (wat l a)=some x)(h2:num (wat l (a+1))=some y): C0 79 [.d (dXs l),.d (.int .i64 a)] (·=.d (dPt (x,y))):=by
 have hn:=H.n
 have ha:=Yew h2
 refine En Tryz.func79 λ_ _ _=>?_
 refine Ix a rfl (u:=.str (wat l a)) (by rw[W0t,Xgh (by omega)];rfl) ?_
 refine Ce rfl (Ycg (H.tx _) h1) ?_
 refine Ar (a+1:Nat) rfl ?_
 refine Ix (a+1) rfl (u:=.str (wat l (a+1))) (by rw[W0t,Xgh ha];rfl) ?_
 refine Ce rfl (Ycg (H.tx _) h2) ?_
 exact R0
theorem Xmo{w:List UInt8}: C0 80 [.d (.str w)] (·=.b (dc (Xno w))):=by
 refine En Tryz.func80 λ_ _ _=>?_
 refine By rfl (λh=>?_) λh=>?_
 . exact R1 rfl (.bp ⟨λ_=>.inl h,λ_=>rfl⟩)
 . exact R1 rfl (.bp (Xal.trans ⟨.inr,λk=>k.elim (λe=>absurd e h) id⟩))
def ouD(p:Num.Pt): Option (List Num.Pt)->AV
 | none=>.lit 8 [dPt p]
 | some ps=>.own 600 8 0 (ps.map dPt).length
def ouH: Option (List Num.Pt)->Hpl
 | none=>[]
 | some ps=>[(600,.arr 8 (ps.map dPt))]
def ouP(p:Num.Pt): Option (List Num.Pt)->List Num.Pt
 | none=>[p]
 | some ps=>ps
set_option maxHeartbeats 1000000 in
theorem Points_ok{s:List UInt8}(hs:s.length<=100000): C0 27 [.d (.str s)] (·=pdR (rdP (spl s))):=by
 have H:Lw (spl s):=⟨by
  have:=Xbj s
  have:=W4l (a:=(32:UInt8)) (l:=s)
  omega,λw hw=>by have:=Xe0 s w hw;omega⟩
 have hS:=Split_ok (s:=s) (by omega)
 have hn:(spl s).length<=100001:=by
  have:=Xbj s
  have:=W4l (a:=(32:UInt8)) (l:=s)
  omega
 have h0:=W4n.2 (Xpy s)
 generalize spl s=l at hS H hn h0
 have lm:(l.map D.str).length=l.length:=W0i ..
 have e:=Yce l
 have e0:l.tail=l.drop 1:=by simp
 have e1:hd l=wat l 0:=rfl
 rw[e0,e1] at e
 refine En Tryz.func27 λ_ _ _=>?_
 refine Ce rfl hS ?_
 refine Ix 0 rfl (u:=.str (wat l 0)) (by rw[W0t,Xgh h0];rfl) ?_
 refine By rfl (λhw=>?_) λhw=>?_
 . rw[if_neg hw] at e
   rw[e]
   exact RTt rfl (.cons (.nil rfl) Xax)
 rw[if_pos (W2h.1 hw)] at e
 refine Ce rfl (Xb4 (a:=1) (n:=2) H (by decide) (by decide)) ?_
 cases hp:nms (l.drop 1) 2 with
 | false =>
  rw[Ycr hp] at e
  rw[e]
  refine Yes rfl (by decide) ?_
  exact RTt rfl (.cons (.nil rfl) Xax)
 | true =>
 have h3:=Xky (by decide) hp
 obtain⟨x,y,k1,k2,k3⟩:=Xoc hp
 rw[W4u] at k2
 simp only[W4u] at k3
 rw[k3] at e
 have e:rdP l=(body (l.drop 3)).map ((x,y)::·):=e
 rw[e]
 refine No rfl nofun ?_
 refine Ce rfl (Xdr (a:=1) H k1 k2) ?_
 generalize hpp:(x,y)=p
 refine Lo (λ((i,o):Nat×Option (List Num.Pt))=>[(4,.d (dXs l)),(5,ouD p o),(6,.d (.int .i64 i))]) (λ(_,o)=>ouH o) (λ(i,o)=>i<=l.length/\(ouP p o).length<=i/\(body (l.drop 3)).map (p::·)=(body (l.drop i)).map (ouP p o++·)) (λ(i,_)=>l.length-i) (3,none) [] rfl ⟨h3,by show 1<=3;decide,rfl⟩ ?_
 rintro⟨i,o⟩ ⟨hi,hps,hI⟩
 rw[hI]
 have nxt:∀ {j:Nat} {q:Num.Pt},i<l.length->i<j->j<=l.length->cmd (l.drop i)=some ([q],l.drop j)->j<=l.length/\(ouP p (some (ouP p o++[q]))).length<=j/\(body (l.drop i)).map (ouP p o++·)=(body (l.drop j)).map (ouP p (some (ouP p o++[q]))++·):=λ{j q} h h1 h2 hc=>by
  refine⟨h2,by show (ouP p o++[q]).length<=j;simp;omega,?_⟩
  rw[Xhe hc,W8h]
  exact congrArg (λf=>Option.map f (body (l.drop j))) (funext λt=>by simp[ouP])
 have bad:i<l.length->cmd (l.drop i)=none->(body (l.drop i)).map (ouP p o++·)=none:=λh hc=>by
  rw[Xo0 (by rw[ne_eq,W5f];omega) hc];rfl
 have zed:i<l.length->i+1=l.length->cmd (l.drop i)=some ([],[])->i+1<=l.length/\(ouP p o).length<=i+1/\(body (l.drop i)).map (ouP p o++·)=(body (l.drop (i+1))).map (ouP p o++·):=λh h1 hc=>⟨by omega,by omega,by
  rw[Xhe hc,W1m (i:=i+1) (by omega),W8h];rfl⟩
 have hx:i<l.length->(l.map D.str)[i]?=some (.str (wat l i)):=λh=>by rw[W0t,Xgh h];rfl
 have len:∀q,((ouP p o++[q]).map dPt).length<=1099511627776:=λq=>by simp;omega
 rcases o with _ | ps <;>
 . refine By rfl (λh=>?_) λh=>?_<;>simp only[lm] at h
   . have h:i<l.length:=by omega
     refine Ix i rfl (hx h) ?_
     refine By rfl (λh1=>?_) λh1=>?_
     . refine Ar (i+1:Nat) rfl ?_
       refine Ce rfl (Xb4 (a:=i+1) (n:=2) H (by omega) (by decide)) ?_
       cases hm:nms (l.drop (i+1)) 2 with
       | true =>
        obtain⟨u,v,m1,m2,m3⟩:=Xoc hm
        rw[W4u] at m2
        simp only[W4u] at m3
        have m4:=Xky (by decide) hm
        refine Yes rfl rfl ?_
        refine Ar (i+1:Nat) rfl ?_
        refine Ce rfl (Xdr (a:=i+1) H m1 m2) ?_
        first
        | refine ApL ((ouP p _++[(u,v)]).map dPt) rfl rfl (W3x _) (len _) ?_
        | refine ApO ((ouP p _++[(u,v)]).map dPt) rfl rfl rfl (by simp[ouP]) (len _) ?_
        refine Ar (i+3:Nat) rfl ?_
        exact Bk (i+3,some (ouP p _++[(u,v)])) [(600,900),(42,600)] rfl (nxt h (by omega) (by omega) (by rw[Ykr h h1,m3];rfl)) (by show l.length-(i+3)<l.length-i;omega)
       | false =>
        refine No rfl nofun ?_
        refine Ix i rfl (hx h) ?_
        refine No rfl (by rw[h1];decide) ?_
        refine Ix i rfl (hx h) ?_
        refine No rfl (by rw[h1];decide) ?_
        rw[bad h (by rw[Ykr h h1,Ycr hm];rfl)]
        exact RTt rfl (.cons (.nil rfl) Xax)
     . refine Ix i rfl (hx h) ?_
       refine By rfl (λh2=>?_) λh2=>?_
       . have hz:¬wat l i=[90]:=by rw[h2];decide
         refine Ar (i+1:Nat) rfl ?_
         refine Ce rfl (Xb4 (a:=i+1) (n:=7) H (by omega) (by decide)) ?_
         cases hm:nms (l.drop (i+1)) 7 with
         | true =>
          obtain⟨u,v,m1,m2,m3⟩:=Ylc hm
          have m4:=Xky (by decide) hm
          have hx':∀j,j<l.length->(l.map D.str)[j]?=some (.str (wat l j)):=λj h=>by rw[W0t,Xgh h];rfl
          refine Yes rfl rfl ?_
          refine Ar (i+3:Nat) rfl ?_
          refine Ix (i+3) rfl (hx' (i+3) (by omega)) ?_
          refine By rfl (λh3=>?_) λh3=>?_
          . refine Ar (i+4:Nat) rfl ?_
            refine Ix (i+4) rfl (hx' (i+4) (by omega)) ?_
            refine Ce rfl Xmo ?_
            refine By rfl (λh4=>?_) λh4=>?_
            . refine Ar (i+5:Nat) rfl ?_
              refine Ix (i+5) rfl (hx' (i+5) (by omega)) ?_
              refine Ce rfl Xmo ?_
              refine By rfl (λh5=>?_) λh5=>?_
              . refine Ar (i+6:Nat) rfl ?_
                refine Ce rfl (Xdr (a:=i+6) H m1 m2) ?_
                first
                | refine ApL ((ouP p _++[(u,v)]).map dPt) rfl rfl (W3x _) (len _) ?_
                | refine ApO ((ouP p _++[(u,v)]).map dPt) rfl rfl rfl (by simp[ouP]) (len _) ?_
                refine Ar (i+8:Nat) rfl ?_
                exact Bk (i+8,some (ouP p _++[(u,v)])) [(600,900),(86,600)] rfl (nxt h (by omega) (by omega) (by rw[Xxh h h2,m3,if_pos ⟨h3,h4,h5⟩];rfl)) (by show l.length-(i+8)<l.length-i;omega)
              . refine Ix i rfl (hx h) ?_
                refine No rfl hz ?_
                rw[bad h (by rw[Xxh h h2,m3,if_neg λk=>h5 k.2.2];rfl)]
                exact RTt rfl (.cons (.nil rfl) Xax)
            . refine Ix i rfl (hx h) ?_
              refine No rfl hz ?_
              rw[bad h (by rw[Xxh h h2,m3,if_neg λk=>h4 k.2.1];rfl)]
              exact RTt rfl (.cons (.nil rfl) Xax)
          . refine Ix i rfl (hx h) ?_
            refine No rfl hz ?_
            rw[bad h (by rw[Xxh h h2,m3,if_neg λk=>h3 k.1];rfl)]
            exact RTt rfl (.cons (.nil rfl) Xax)
         | false =>
          refine No rfl nofun ?_
          refine Ix i rfl (hx h) ?_
          refine No rfl hz ?_
          rw[bad h (by rw[Xxh h h2,Ylb hm];rfl)]
          exact RTt rfl (.cons (.nil rfl) Xax)
       . refine Ix i rfl (hx h) ?_
         refine By rfl (λh3=>?_) λh3=>?_
         . refine Ar (l.length-1:Nat) rfl ?_ (wr (by rw[lm];omega) (by simp only[inK];omega))
           refine By rfl (λh4=>?_) λh4=>?_
           . refine Ar (i+1:Nat) rfl ?_
             have hz:=zed h (by omega) (show cmd (l.drop i)=some ([],[]) by rw[Ykq h h3,if_pos (by omega)])
             first
             | exact Bk (i+1,none) [] rfl hz (by show l.length-(i+1)<l.length-i;omega)
             | exact Bk (i+1,some ps) [] rfl hz (by show l.length-(i+1)<l.length-i;omega)
           . rw[bad h (by rw[Ykq h h3,if_neg (by omega)])]
             exact RTt rfl (.cons (.nil rfl) Xax)
         . rw[bad h (Ykp h h1 h2 h3)]
           exact RTt rfl (.cons (.nil rfl) Xax)
   . have ea:l.drop i=[]:=W1m (by omega)
     rw[ea,Xrw]
     first
     | exact RTt rfl (.cons (.lit rfl) Xax)
     | exact RTt rfl (.cons (.own rfl (by rw[W1k];exact W0c _) (by rw[W1a,W1x];simp[ouP])) Xax)
end Go.Proofs.YtclgppjdhndgiaaGreatDoor.R56
namespace Go.Num
end Go.Num
namespace Go.Proofs.YtclgppjdhndgiaaGreatDoor.P56
open Go Go.Vm Go.Num Go.Tow Go.Proofs.YtclgppjdhndgiaaGreatDoor
end Go.Proofs.YtclgppjdhndgiaaGreatDoor.P56
namespace Go.Proofs.YtclgppjdhndgiaaGreatDoor.P11
open Go Go.Vm Go.Num Go.Tow Go.Proofs.YtclgppjdhndgiaaGreatDoor Go.Proofs.YtclgppjdhndgiaaGreatDoor.P9 Go.Proofs.YtclgppjdhndgiaaGreatDoor.R11 Go.Proofs.YtclgppjdhndgiaaGreatDoor.R9
end Go.Proofs.YtclgppjdhndgiaaGreatDoor.P11
namespace Go.Vm
open Go
variable{c:Cx}{s:St}{p:Pl}
noncomputable def You(tb:Nat->Option TI)(n:Nat)(s:St): Option (Pl×Oper×TypeId×Operand×Operand×TI×Nat×Nat×List D×Nat×Nat×AV):=match nxO tb n s with
 | some (p,o)=>match o.op,p.dr,o.dst with
  | .store T x y,false,none=>match Xcl (look p.E) x,Xcl (look p.E) y,tb T with
   | some (.el q sz j off),some v,some ti=>match look p.H q with
    | some (.arr sz' xs)=>match Nat.beq sz sz' with
     | true=>some (p,o,T,x,y,ti,q,sz,xs,j,off,v)
     | false=>none
    | _=>none
   | _,_,_=>none
  | _,_,_=>none
 | none=>none
theorem StF{o:Oper}{T:TypeId}{x y:Operand}{ti:TI}{q sz j off:Nat}{xs:List D}{v a':AV}{x1:D}(zs:List D)(u:D)(h:You c.tb c.n s=some (p,o,T,x,y,ti,q,sz,xs,j,off,v))(hu:xs[j]?=some u)(hz:xs.set j x1=zs)(k:p.nx' c (.ub True) [(q,.arr sz zs)])
 (ha:Xr3 v (.d u) off=some a':=by exact rfl) (hd:toD u a'=some x1:=by exact rfl) (hs:(plain v&&Nat.beq v.size ti.z.size&&Nat.beq u.size sz&&Nat.beq x1.size sz)=true:=by exact rfl):StP c s:=by
 subst hz
 unfold You at h
 split at h<;>try cases h
 rename_i p' o' ho
 split at h<;>try cases h
 rename_i T1 x' y' hop hdr hdst
 split at h<;>try cases h
 rename_i q' sz1 j' off' v' ti' hx hy hti
 split at h<;>try cases h
 rename_i sz2 xs' hg
 split at h<;>cases h
 rename_i hb
 have hb:=W0e hb
 subst hb
 simp only[W0f] at hs
 obtain⟨⟨⟨hpl,hs1⟩,hs2⟩,hs3⟩:=hs
 have hs1:=W0e hs1
 have hs2:=W0e hs2
 have hs3:=W0e hs3
 refine Xmg ho (by unfold Xao;rw[hop];rfl) hdr (λN W θ ρ _ hO hN hB hv=>?_) k
 obtain⟨hk,hp⟩:=c.hT _ _ hti
 have hg:(sem p.E p.H).2 q=some (.arr sz xs):=hg
 obtain⟨b,h1,e⟩:=Ymb (hv _ _ hx)
 obtain⟨b',cs,T',r1,r2,r3,r4,r5,r6,r7⟩:=hO.r _ _ hg
 rw[h1] at r1;injection r1 with r1;subst r1
 obtain⟨hvC,_⟩:=Xgf hpl (hv _ _ hy) (Xfo hpl)
 have hvl:=AV.c_len v hvC
 obtain⟨e1,d1,d2,d3⟩:=r6 j u hu
 have d1':AV.C W θ (.d u) e1:=d1
 obtain⟨u0,m,w,f1,f2,f3,f4,f5⟩:=Ybq hvC ha d1'
 have hel:=D.at_len u d1
 have hj:j<xs.length:=(W1d.1 hu).1
 have hlen:off+v.size<=sz:=by
  have:=congrArg List.length f1
  simp only[W0d] at this
  omega
 have hjc:j*sz+sz<=cs.length:=by
  rw[r3,<-W3c];exact W0v _ (by omega)
 have hrun:=Xt8 (P:=c.P) (ty:=o.type) (pos:=o.pos) (aft:=o.after) (gd:=o.guard) hk e r2 (by rw[hvl,hs1]) (by omega) (AV.c_one v hvC)
 have hle:=Xh5 W b cs (spl cs (j*sz+off) (ρ y).cells.toList) T' (λ_=>True) r2 (λi v hA=>absurd (r7 i) hA)
 have hsp:∀t,(spl cs (j*sz+off) (ρ y).cells.toList)[t]?=if j*sz+off<=t/\t<j*sz+off+v.size then (ρ y).cells.toList[t-(j*sz+off)]? else cs[t]?:=λt=>by
  rw[Xgb _ _ _ _ (by rw[hvl];omega),hvl]
 have hspe:spl e1 off (ρ y).cells.toList=u0++((ρ y).cells.toList++w):=by rw[f1,<-f2];exact Xpz _ _ _ _ (by rw[hvl,f3])
 have hse:∀t,(u0++((ρ y).cells.toList++w))[t]?=if off<=t/\t<off+v.size then (ρ y).cells.toList[t-off]? else e1[t]?:=λt=>by
  rw[<-hspe,Xgb _ _ _ _ (by rw[hvl,hel];omega),hvl]
 have ho':o=⟨none,.store T x y,o.type,o.pos,o.after,o.guard⟩:=by
  obtain⟨d,op,ty,ps,af,gu⟩:=o
  cases hop;cases hdst;rfl
 rw[ho']
 refine⟨_,θ,_,hrun,Stp.put hO (t:=q) (x:=.arr sz (xs.set j x1)) hg rfl h1 r2 (λi v hA=>absurd (r7 i) hA) (λ_ _ _=>rfl) (λ_ _=>rfl) h1 (λi z hz=>?_) (λi z hz=>?_)
  ⟨b,_,T',h1,Xa7 _ _ _ (Xa2 r2),by rw[Xeh];exact r3,r4,by simpa using r5,λi x hx=>?_,λi=>⟨r7 i,λ_=>trivial⟩⟩ (λi hi=>hi.elim),.inl ⟨rfl,rfl⟩,λi hi=>hi.elim⟩
 . rcases Xae hz with ⟨f1,f2⟩ | ⟨f1,f2⟩
   . exact .inl ⟨f1,f2⟩
   . exact .inr (.inr ⟨f2,f1⟩)
 . by_cases hio:i=q
   . subst hio;exact⟨_,Xai _ _ _⟩
   . exact⟨z,by rw[show Xbz (sem p.E p.H).2 [(q,Ob.arr sz (xs.set j x1))]=upd (sem p.E p.H).2 q (.arr sz (xs.set j x1)) from rfl,Xam hio];exact hz⟩
 . by_cases hij:i=j
   . subst hij
     rw[W2l hj] at hx
     injection hx with hx;subst hx
     refine⟨_,D.mono hle _ (Xls hd f4),hs3,λt c hq=>?_⟩
     rw[hse] at hq
     rw[hsp]
     split at hq
     . rename_i hc
       rw[if_pos (by omega),show i*sz+t-(i*sz+off)=t-off by omega]
       exact hq
     . rename_i hc
       rw[if_neg (by omega)]
       exact d3 t c hq
   . rw[W1u (λh=>hij h.symm)] at hx
     obtain⟨g1,g2,g3,g4⟩:=r6 i x hx
     refine⟨g1,D.mono hle _ g2,g3,λt c hq=>?_⟩
     have hql:t<sz:=by
      rw[<-g3,<-D.at_len x g2]
      by_cases h:t<g1.length
      . exact h
      . rw[W2e (by omega)] at hq;cases hq
     rw[hsp,if_neg ?_]
     . exact g4 t c hq
     . rcases W6z hij with h | h
       . have:i*sz+sz<=j*sz:=by rw[<-W3c];exact W0v _ (by omega)
         omega
       . have:j*sz+sz<=i*sz:=by rw[<-W3c];exact W0v _ (by omega)
         omega
theorem Yqr{d sz:Nat}{xs ys:List D}(zs:List D)(h:Yl0 c.tb c.n s=some (p,d,sz,ys,.lit sz xs))(hz:xs++ys=zs)(h0:0<ys.length)(hr:zs.length<=137438953472)(k:p.nx' c (.own d sz 0 zs.length) [(d,.arr sz zs)]): StP c s:=by
 subst hz
 exact Xuy h (λti he=>by simp[Xyj,h0,Xl4 (by simpa using hr) he]) k
theorem Ypm{d sz o n:Nat}{xs ys:List D}(zs:List D)(h:Yl0 c.tb c.n s=some (p,d,sz,ys,.own o sz 0 n))(ht:look p.H o=some (.arr sz xs))(hn:n=xs.length)(hz:xs++ys=zs)(hr:zs.length<=137438953472)(k:p.nx' c (.own d sz 0 zs.length) [(d,.arr sz zs),(o,.dead)]): StP c s:=by
 subst hz
 exact Xuy h (λti he=>by subst hn;simp[Xyj,ht,Xl4 (by simpa using hr) he])  k
end Go.Vm
namespace Go.Proofs.YtclgppjdhndgiaaGreatDoor.P57
open Go Go.Vm Go.Num Go.Tow Go.Proofs.YtclgppjdhndgiaaGreatDoor
section
open Go.Proofs.YtclgppjdhndgiaaGreatDoor.P55 (v0 W0 g0 gv0 zw Xcd Qp nr Xau)
open Go.Proofs.YtclgppjdhndgiaaGreatDoor.R55 (pk1 Xtp)
structure Cq where
 arc:Bool
 a:Rat×Rat
 b:Rat×Rat
 c:Rat×Rat
 cw:Bool
abbrev cvQ(q:Cq): Cv:=⟨q.arc,v0 q.a,v0 q.b,v0 q.c,q.cw⟩
abbrev zz2: Rat×Rat:=(((0:Int):Rat),((0:Int):Rat))
def dqD(d:Dft): Cq:=match d.arc with
 | false=>⟨false,R47.atQ d.a1 d.a2 d.un,R47.atQ d.b1 d.b2 d.un,zz2,d.cw⟩
 | true=>⟨true,R47.atQ d.b1 d.b2 d.un,Xcw (K:=0) (R47.atQ d.a1 d.a2 d.un) (R47.rotQ (Xa9 (K:=0) (R47.atQ d.b1 d.b2 d.un) (R47.atQ d.a1 d.a2 d.un)) (R47.uni (d.st%16))),R47.atQ d.a1 d.a2 d.un,d.cw⟩
theorem Ynw(d:Dft): R47.cvD d=cvQ (dqD d):=by
 obtain⟨arc,_⟩:=d
 cases arc<;>rfl
theorem Yns{d:Dft}(h:(dqD d).arc=false): (dqD d).c=zz2:=by
 obtain⟨arc,_⟩:=d
 cases arc with
 | false=>rfl
 | true=>cases h
def mvQ(c:Cq)(t:Rat×Rat): Cq:=⟨c.arc,t,Xcw (K:=0) c.b (Xa9 (K:=0) t c.a),Xcw (K:=0) c.c (Xa9 (K:=0) t c.a),c.cw⟩
structure VQ (n:Nat) (q:Cq):Prop where
 a:Qp n q.a
 b:Qp n q.b
 c:Qp n q.c
 s:q.arc=false->q.a≠q.b
 u:q.arc=true->q.a≠q.c/\P55.d2 q.b q.c=P55.d2 q.a q.c/\Qs 64 (P55.d2 q.a q.c)/\Qp 64 (Xa9 (K:=0) q.a q.c)/\Qp 64 (Xa9 (K:=0) q.b q.c)
theorem VQ.mono{m n:Nat}{q:Cq}(h:VQ m q)(hn:m<=n): VQ n q:=⟨R47.Qp.mono' h.a hn,R47.Qp.mono' h.b hn,R47.Qp.mono' h.c hn,h.s,h.u⟩
theorem VQ.of{d:Dft}(h:d.ok)(hv:R47.vlD d): VQ 64 (dqD d):=by
 have A:=R47.arcOk h
 obtain⟨arc,cw,a1,a2,b1,b2,st,un⟩:=d
 have hp:=R47.Qp.mono' (R47.atQ_qp (u:=un) h.a1 h.a2) (show 8<=64 by decide)
 have hq:=R47.Qp.mono' (R47.atQ_qp (u:=un) h.b1 h.b2) (show 8<=64 by decide)
 have hv:R47.atQ a1 a2 un≠R47.atQ b1 b2 un:=hv
 cases arc with
 | false=>exact⟨hp,hq,(show Qp 64 zz2 from⟨by decide +kernel,by decide +kernel⟩),λ_=>hv,nofun⟩
 | true=>exact⟨hq,A.hr,hp,nofun,λ_=>⟨hv.symm,A.e.symm,A.s,A.u,A.v⟩⟩
theorem VQ.mv{n m:Nat}{q:Cq}{t:Rat×Rat}(h:VQ n q)(ht:Qp m t): VQ (m+2*n+4) (mvQ q t):=by
 have hs:Qp (m+n+1) (Xa9 (K:=0) t q.a):=⟨ht.1.add h.a.1.neg,ht.2.add h.a.2.neg⟩
 have hd:∀ {p:Rat×Rat},Qp n p->Qp (m+2*n+4) (Xcw (K:=0) p (Xa9 (K:=0) t q.a)):=λhp=>⟨(hp.1.add hs.1).mono (by omega),(hp.2.add hs.2).mono (by omega)⟩
 have e:∀x c:Rat×Rat,Xa9 (K:=0) (Xcw (K:=0) x (Xa9 (K:=0) t q.a)) (Xcw (K:=0) c (Xa9 (K:=0) t q.a))=Xa9 (K:=0) x c:=λx c=>W3a (show x.1+(t.1+-q.a.1)+-(c.1+(t.1+-q.a.1))=x.1+-c.1 by grind) (show x.2+(t.2+-q.a.2)+-(c.2+(t.2+-q.a.2))=x.2+-c.2 by grind)
 have ea:Xcw (K:=0) q.a (Xa9 (K:=0) t q.a)=t:=W3a (show q.a.1+(t.1+-q.a.1)=t.1 by grind) (show q.a.2+(t.2+-q.a.2)=t.2 by grind)
 have inj:∀x:Rat×Rat,t=Xcw (K:=0) x (Xa9 (K:=0) t q.a)->q.a=x:=λx hx=>by
  have h1:t.1=x.1+(t.1+-q.a.1):=congrArg Prod.fst hx
  have h2:t.2=x.2+(t.2+-q.a.2):=congrArg Prod.snd hx
  exact W3a (by grind) (by grind)
 have e2:∀x c:Rat×Rat,P55.d2 (Xcw (K:=0) x (Xa9 (K:=0) t q.a)) (Xcw (K:=0) c (Xa9 (K:=0) t q.a))=P55.d2 x c:=λx c=>by unfold P55.d2;rw[e]
 refine⟨R47.Qp.mono' ht (by omega),hd h.b,hd h.c,λh0 hx=>h.s h0 (inj _ hx),λh0=>?_⟩
 obtain⟨h1,h2,h3,h4,h5⟩:=h.u h0
 have e4:Xa9 (K:=0) t (Xcw (K:=0) q.c (Xa9 (K:=0) t q.a))=Xa9 (K:=0) q.a q.c:=by
  have:=e q.a q.c
  rwa[ea] at this
 have e3:P55.d2 t (Xcw (K:=0) q.c (Xa9 (K:=0) t q.a))=P55.d2 q.a q.c:=by
  have:=e2 q.a q.c
  rwa[ea] at this
 refine⟨λhx=>h1 (inj _ hx),?_,?_,by have h:=h4;rw[<-e4] at h;exact h,by have h:=h5;rw[<-e q.b q.c] at h;exact h⟩
 . exact((e2 q.b q.c).trans h2).trans e3.symm
 . have h:=h3
   rw[<-e3] at h
   exact h
def chn: Rat×Rat->List Cq->List Cq
 | _,[]=>[]
 | p,c::l=>mvQ c p::chn (mvQ c p).b l
def chQ: List Cq->List Cq
 | []=>[]
 | c::l=>c::chn c.b l
theorem Xxk: ∀(l:List Cq) (p:Rat×Rat),(chn p l).length=l.length
 | [],_=>rfl
 | c::l,p=>congrArg (·+1) (Xxk l _)
theorem Xfa(l:List Cq): (chQ l).length=l.length:=by
 cases l with
 | nil=>rfl
 | cons c l=>exact congrArg (·+1) (Xxk l _)
theorem Yku{c q:Cq}: ∀(l:List Cq) (p:Rat×Rat) (i:Nat),l[i+1]?=some c->(chn p l)[i]?=some q->(chn p l)[i+1]?=some (mvQ c q.b):=by
 intro l
 induction l with
 | nil=>intro p i h;cases h
 | cons x l ih =>
  intro p i h k
  cases i with
  | zero =>
   have k:some (mvQ x p)=some q:=k
   cases k
   cases l with
   | nil=>cases h
   | cons y l =>
    have h:some y=some c:=h
    cases h
    rfl
  | succ i=>exact ih _ i h k
theorem Ykw{l:List Cq}{i:Nat}{c q:Cq}(h:l[i+1]?=some c)(k:(chQ l)[i]?=some q): (chQ l)[i+1]?=some (mvQ c q.b):=by
 cases l with
 | nil=>cases h
 | cons x l =>
  cases i with
  | zero =>
   have k:some x=some q:=k
   cases k
   cases l with
   | nil=>cases h
   | cons y l =>
    have h:some y=some c:=h
    cases h
    rfl
  | succ i=>exact Yku l _ i h k
theorem Ydg: ∀ {l:List Cq} {p:Rat×Rat} {m:Nat},Qp m p->(∀c∈l,VQ 64 c)->∀c∈chn p l,VQ (m+132*l.length) c
 | x::l,p,m,hp,hv,c,hc=>by
  have h1:=(hv x W0w).mv hp
  rcases W1i.1 hc with rfl | hc
  . exact h1.mono (by simp only[W0k];omega)
  . exact(Ydg h1.b (λy hy=>hv y (W1e _ hy)) c hc).mono (by simp only[W0k];omega)
theorem Ykv{l:List Cq}(hl:l.length<=4)(hv:∀c∈l,VQ 64 c): ∀c∈chQ l,VQ 700 c:=by
 cases l with
 | nil=>exact nofun
 | cons x l =>
  intro c hc
  have h1:=hv x W0w
  rcases W1i.1 hc with rfl | hc
  . exact h1.mono (by decide)
  . exact(Ydg h1.b (λy hy=>hv y (W1e _ hy)) c hc).mono (by simp only[W0k] at hl;omega)
structure Nb (x:Nm):Prop where
 p:P11.Pk x
 i:inI x.k x.t x.a (-pw 1100) (pw 1100)
theorem Nb.rat{q:Rat}(h:Qs 1000 q): Nb (nr q):=by
 refine⟨P11.Pk_rat h (by decide),?_⟩
 obtain⟨h1,h2⟩:=(Ye9 h).mono (show 1000<=1100 by decide)
 exact⟨(Xbe (k:=0) (t:=()) trivial).2 h1,(Xbe (k:=0) (t:=()) trivial).2 h2⟩
open Classical in
noncomputable def rtN(s:Rat): Nm:=if h:∃y:Rat,y*y=s/\0<=Xet y then nr h.choose else n1 s r1
theorem Yi4{s:Rat}(h:¬ ∃y:Rat,y*y=s/\0<=Xet y): ¬Xch 0 () s:=λh'=>by
 obtain⟨w,hw⟩:∃w:Rat,w*w=s:=h'
 by_cases h0:0<=Xet w
 . exact h ⟨w,hw,h0⟩
 . refine h ⟨-w,by rw[<-hw];grind,?_⟩
   rcases Xa0 w with ⟨_,e⟩ | ⟨_,e⟩ | ⟨e,_⟩
   . omega
   . omega
   . have:0 < -w:=by grind
     rw[Xbh this];decide
theorem Yb9{f:FuncId}{ar:List AV}{s:Rat}(h:C0 f ar (R9.RtR (nr s))): C0 f ar (·=.tup (.pr (.d (dN (rtN s))) (.d (.int .i64 0)))):=by
 unfold rtN
 split
 . rename_i hy
   exact R55.rt_sq h hy.choose_spec.1 hy.choose_spec.2
 . rename_i hy
   exact R55.rt_non h (Yi4 hy)
theorem Yij{s:Rat}(h0:0<s)(hq:Qs 64 s): Nb (rtN s):=by
 unfold rtN
 split
 . rename_i hy
   have h1:Sz 1000 (toL 0 (hy.choose:Tow.El 0)):=((Sz.rat 0 hq).rootS (k:=0) (r:=1) (t:=()) (s:=(hy.choose:Tow.El 0)) trivial trivial hy.choose_spec.1).mono (by decide)
   exact Nb.rat (h1.qs (W0g.2 rfl))
 . rename_i hy
   have hP:=pk1 h0 (Yi4 hy) hq (a:=0) (b:=1) (by decide +kernel) (by decide +kernel)
   refine⟨hP,?_⟩
   have h1:=Xfz hP.re (n1 s r1).a 1
   have h2:=Xjx (a:=(n1 s r1).a) (m:=64) 1 hP.re hP.mt (λx hx=>by
    have hx:x∈[(0:Rat),1]:=hx
    rcases W1i.1 hx with rfl | hx
    . decide +kernel
    . obtain rfl:=W0g.1 hx;decide +kernel)
   obtain⟨h3,h4⟩:=h2.mono (show mW 64 1<=1100 by decide)
   exact Xk6 hP.re h1 h3 h4
end
section
open Go.Proofs.YtclgppjdhndgiaaGreatDoor.P55 (v0 W0 g0 gv0 zw Xcd Qp nr Xau Wv dWv dWs WdC Xca Xnn hdW)
open Go.Proofs.YtclgppjdhndgiaaGreatDoor.R55 (Xtp)
variable{q:Cq}
theorem VQ.w(h:VQ 700 q)(ha:q.arc=true): Xa9 (K:=0) q.a q.c≠vz 0/\Xa9 (K:=0) q.b q.c≠vz 0/\q.b≠q.c/\0<P55.d2 q.a q.c:=by
 obtain⟨h1,h2,_⟩:=h.u ha
 have hu:Xa9 (K:=0) q.a q.c≠vz 0:=Xtp h1
 have h0:Xet (P55.d2 q.a q.c)=1:=Xpf (K:=0) (G:=()) trivial hu
 have hp:0<P55.d2 q.a q.c:=by
  rcases Xa0 (P55.d2 q.a q.c) with ⟨e,_⟩ | ⟨_,e⟩ | ⟨_,e⟩
  . exact e
  . omega
  . omega
 have hw:Xa9 (K:=0) q.b q.c≠vz 0:=λe=>by
  have h3:P55.d2 q.b q.c=0:=by
   unfold P55.d2
   rw[e]
   exact(show (0:Rat)*0+0*0=0 by decide +kernel)
  rw[<-h2,h3] at hp
  exact absurd hp (by decide)
 exact⟨hu,hw,λe=>hw (by rw[e];exact W3a (show q.c.1+-q.c.1=0 by grind) (show q.c.2+-q.c.2=0 by grind)),hp⟩
theorem Ydr(h:VQ 700 q): C0 45 [.d (dC (cvQ q))] (·=.b true):=by
 obtain⟨arc,a,b,c,cw⟩:=q
 cases arc with
 | false=>exact(P47.Valid_seg (c:=cvQ ⟨false,a,b,c,cw⟩) W0 rfl (gv0 h.a) (gv0 h.b) (by decide) (by decide)).mono λv e=>e.trans (congrArg AV.b (Xal.2 (h.s rfl)))
 | true =>
  obtain⟨h1,h2,_⟩:=h.u rfl
  exact(P47.Valid_arc (c:=cvQ ⟨true,a,b,c,cw⟩) W0 rfl (gv0 h.c) (gv0 h.a) (gv0 h.b) (Xau h.c.1) (Xau h.c.2) (by decide) (by decide) h1.symm (h.w rfl).2.2.1.symm).mono λv e=>e.trans (congrArg AV.b (Xal.2 h2.symm))
def Lnk(R:List Cq): Prop:=∀i c d,R[i]?=some c->R[i+1]?=some d->c.b=d.a
theorem lQ{R:List Cq}: ((R.map cvQ).map dC).length=R.length:=by simp
theorem Xyi{R:List Cq}{k:Nat}{c:Cq}(h:R[k]?=some c): ((R.map cvQ).map dC)[k]?=some (dC (cvQ c)):=by simp[h]
theorem Xzv{R:List Cq}(hl:R.length<=1000)(h0:0<R.length)(hv:∀c∈R,VQ 700 c): C0 19 [.d (Xd0 (R.map cvQ))] (·=.b (dc (Lnk R))):=by
 refine En Tryz.func19 λ_ _ _=>?_
 refine Lo (λk:Nat=>[(0,.d (Xd0 (R.map cvQ))),(5,.d (Xd0 (R.map cvQ))),(6,.d (.int .i64 ((R.map cvQ).map dC).length)),(7,.d (.int .i64 k))]) (λ_=>[]) (λk=>k<=R.length/\∀i c d,i+1<k->R[i]?=some c->R[i+1]?=some d->c.b=d.a) (λk=>R.length-k) 0 [] rfl ⟨W0x _,λ_ _ _ h=>absurd h (by omega)⟩ λk ⟨hk,hI⟩=>?_
 refine By rfl (λh=>?_) λh=>?_<;>simp only[lQ] at h
 . obtain⟨c,hc⟩:∃c,R[k]?=some c:=⟨_,W0a (by omega)⟩
   have hcv:=hv c (W0h hc)
   refine Ix k rfl (Xyi hc) ?_
   refine Dw rfl ?_
   refine Ce rfl (Ydr hcv) ?_
   refine No rfl (λh=>h rfl) ?_
   refine By rfl (λh1=>?_) λh1=>?_
   . obtain⟨b,hb⟩:∃b,R[k-1]?=some b:=⟨_,W0a (by omega)⟩
     have hbv:=hv b (W0h hb)
     refine Ar (k-1:Nat) rfl ?_
     refine Ix (k-1) rfl (Xyi hb) ?_
     refine Ce rfl (P13.Equal_g W0 (gv0 hbv.b) (gv0 hcv.a) (by decide) (by decide)) ?_
     refine By rfl (λh2=>?_) λh2=>?_
     . have h2:¬b.b=c.a:=h2
       rw[P11.dcF (p:=Lnk R) λhL=>h2 (hL (k-1) b c hb (by rw[show k-1+1=k by omega];exact hc))]
       exact R0
     . have h2:b.b=c.a:=W2h.1 h2
       refine Ar (k+1:Nat) rfl ?_
       refine Bk (k+1) [] rfl ⟨by omega,λi c' d' hi h3 h4=>?_⟩ (by show R.length-(k+1)<R.length-k;omega)
       by_cases hik:i+1=k
       . rw[hik,hc] at h4
         rw[show i=k-1 by omega,hb] at h3
         cases h3;cases h4;exact h2
       . exact hI i c' d' (by omega) h3 h4
   . refine Ar (k+1:Nat) rfl ?_
     exact Bk (k+1) [] rfl ⟨by omega,λi c' d' hi h3 h4=>hI i c' d' (by omega) h3 h4⟩ (by show R.length-(k+1)<R.length-k;omega)
 . have hL:Lnk R:=λi c d h3 h4=>hI i c d (by have:=(W1d.1 h4).1;omega) h3 h4
   exact R1 rfl (by exact(show dc ((((R.map cvQ).map dC).length:Int)>0)=dc (Lnk R) by rw[P11.dcT hL,Xal,lQ];omega) ▸ .rf rfl)
theorem Ycf(h:VQ 700 q)(ha:q.arc=true): C0 52 [.d (dC (cvQ q))] (·=.tup (.pr (.d (dN (rtN (P55.d2 q.a q.c)))) (.d (.int .i64 0)))):=by
 obtain⟨h1,h2,h3,_⟩:=h.u ha
 exact Yb9 (P55.radius_r (c:=cvQ q) rfl rfl h.c h.a h1.symm (h3.mono (by decide)) (W2k (h.w ha).2.2.2))
def Xjb(q:Cq): V2 0:=Xyn (K:=0) () (Xfe (R47.plD (K:=0) q.cw (Xa9 (K:=0) q.a q.c) (Xa9 (K:=0) q.b q.c)).1) (R47.plD (K:=0) q.cw (Xa9 (K:=0) q.a q.c) (Xa9 (K:=0) q.b q.c)).2
theorem Xlf(h:VQ 700 q)(ha:q.arc=true): Qp 300 (Xjb q):=by
 obtain⟨_,_,_,h4,h5⟩:=h.u ha
 have key:∀ {x y:Rat×Rat},Qp 64 x->Qp 64 y->Qp 300 (Xyn (K:=0) () (Xfe x) y):=λ{x y} hx hy=>⟨show Qs 300 (x.1*y.1+-(-x.2*y.2)) from((hx.1.mul hy.1).add (hx.2.neg.mul hy.2).neg).mono (by decide),show Qs 300 (x.1*y.2+-x.2*y.1) from((hx.1.mul hy.2).add (hx.2.neg.mul hy.1)).mono (by decide)⟩
 obtain⟨arc,a,b,c,cw⟩:=q
 cases cw with
 | true=>exact key h5 h4
 | false=>exact key h4 h5
noncomputable def lgQ(q:Cq): Bool:=dc (Xyo (K:=0) () (Xjb q) (((-1:Int):Rat),((0:Int):Rat))>0)
def fOp(p:V2 0): Int:=min (max (P19.vopp (K:=0) () p 0) (-1000000)) 1000000
theorem Yfv(p:V2 0): few (fOp p):=by unfold fOp few;omega
theorem Xwk(p:V2 0): Xhk (K:=0) () (Xfe p)↔Xhk (K:=0) () p:=by
 have e:∀x:Rat,sgn 0 () (-x:Rat)=0↔sgn 0 () x=0:=λx=>(Xbt (k:=0) (t:=()) trivial).trans (Iff.trans ⟨λh=>show x=0 by have h:-x=0:=h;grind,λh=>show -x=0 by have h:x=0:=h;grind⟩ (Xbt (k:=0) (t:=()) trivial).symm)
 exact and_congr (e p.2) W4a
theorem Yqe(p:V2 0): min (max (P19.vopp (K:=0) () (Xfe p) (fOp p)) (-1000000)) 1000000=0:=by
 have h:=Xwk p
 unfold fOp P19.vopp
 by_cases hp:Xhk (K:=0) () p
 . rw[if_pos hp,if_pos (h.2 hp)];decide
 . rw[if_neg hp,if_neg (λe=>hp (h.1 e))];decide
theorem Ypg(p:V2 0): Xfe (Xfe p)=p:=R47.vcon2K ()
theorem Yck{u:Vn}{p:V2 0}{f:Int}(hu:Gv (K:=0) () [] [] 1 u p)(ht:P19.Trm u.x)(hf:few f): C0 134 [.d (dT u f)] (λr=>∃v,r=.d (dT v (min (max (P19.vopp (K:=0) () p f) (-1000000)) 1000000))/\Gv (K:=0) () [] [] 1 v (Xfe p)):=by
 refine En Tryz.func134 λ_ _ _=>?_
 refine Ca rfl (P19.opposite_g W0 hu ht (by decide) hf) λv hv=>?_
 obtain⟨c,rfl,hc⟩:=hv
 refine Mm (max (P19.vopp (K:=0) () p f) (-1000000)) rfl ?_ rfl
 refine Mm (min (max (P19.vopp (K:=0) () p f) (-1000000)) 1000000) rfl ?_ rfl
 exact Rt rfl (.one (.rf rfl) rfl rfl) ⟨c,rfl,hc⟩
theorem Yle(h:VQ 700 q)(ha:q.arc=true)(hne:q.a≠q.b): C0 133 [.d (dC (cvQ q))] (·=.tup (.pr (.d (match q.cw with
 | true=>dT (v0 (Xfe (Xjb q))) (fOp (Xjb q))
 | false=>dT (v0 (Xjb q)) 0)) (.d (.int .i64 0)))):=by
 obtain⟨hu,hw,_,_⟩:=h.w ha
 have hd:=Xlf h ha
 obtain⟨_,_,_,h4,h5⟩:=h.u ha
 obtain⟨arc,a,b,c,cw⟩:=q
 obtain rfl:arc=true:=ha
 have sub:∀ {x:Rat×Rat},Qp 700 x->C0 55 [.d (dV (v0 x)),.d (dV (v0 c))] (·=.tup (.pr (.d (dV (v0 (Xa9 (K:=0) x c)))) (.d (.int .i64 0)))):=λhx=>(P13.Sub_g W0 (gv0 hx) (gv0 h.c) (by decide) (by decide)).mono λv ⟨z,e,hz⟩=>by rw[e,Xcd hz]
 have sub':∀ {x:Rat×Rat},Qp 700 x->Qp 64 (Xa9 (K:=0) x c)->C0 55 [.d (dV (v0 x)),.d (dV (v0 c))] (VoG (K:=0) () [] [] 1 (Xa9 (K:=0) x c)):=λhx hv=>(sub hx).mono λv e=>⟨_,e,gv0 hv⟩
 cases cw with
 | true =>
  have hb:=(P47.between_g (c:=cvQ ⟨true,b,a,c,false⟩) (X:=v0 b) (Y:=v0 a) W0 (sub h.b) (gv0 h5) (Xau h5.1) (sub' h.a h4) (by decide) hw hu).mono λr ⟨z,e,hz⟩=>show r=AV.tup (.pr (.d (dT (v0 (Xjb ⟨true,a,b,c,true⟩)) 0)) (.d (.int .i64 0))) by rw[e,Xcd hz];rfl
  have hf:=(P47.full_g (c:=cvQ ⟨true,b,a,c,false⟩) W0 rfl (gv0 h.b) (gv0 h.a) (by decide) (by decide)).mono λv e=>show v=AV.b false from e.trans (congrArg AV.b (P11.dcF (λe=>hne e.symm)))
  have hn:=(Yck (f:=0) (gv0 hd) (Xau hd.1) (by unfold few;omega)).mono λr ⟨z,e,hz⟩=>show r=AV.d (dT (v0 (Xfe (Xjb ⟨true,a,b,c,true⟩))) (fOp (Xjb ⟨true,a,b,c,true⟩))) by rw[e,Xcd hz];rfl
  refine En Tryz.func133 λ_ _ _=>?_
  refine No rfl (λh=>h rfl) ?_
  refine Ce rfl P47.ccw_ok ?_
  refine Ce rfl hb ?_
  refine No rfl (by decide) ?_
  refine Ce rfl hf ?_
  refine No rfl nofun ?_
  refine Yes rfl rfl ?_
  refine Ce rfl hn ?_
  exact R0t
 | false =>
  have hb:=(P47.between_g (c:=cvQ ⟨true,a,b,c,false⟩) (X:=v0 a) (Y:=v0 b) W0 (sub h.a) (gv0 h4) (Xau h4.1) (sub' h.b h5) (by decide) hu hw).mono λr ⟨z,e,hz⟩=>show r=AV.tup (.pr (.d (dT (v0 (Xjb ⟨true,a,b,c,false⟩)) 0)) (.d (.int .i64 0))) by rw[e,Xcd hz];rfl
  have hf:=(P47.full_g (c:=cvQ ⟨true,a,b,c,false⟩) W0 rfl (gv0 h.a) (gv0 h.b) (by decide) (by decide)).mono λv e=>show v=AV.b false from e.trans (congrArg AV.b (P11.dcF hne))
  refine En Tryz.func133 λ_ _ _=>?_
  refine No rfl (λh=>h rfl) ?_
  refine Ce rfl P47.ccw_ok ?_
  refine Ce rfl hb ?_
  refine No rfl (by decide) ?_
  refine Ce rfl hf ?_
  refine No rfl nofun ?_
  refine No rfl nofun ?_
  exact R0t
theorem half_g: Gv (K:=0) () [] [] 1 (v0 (((-1:Int):Rat),((0:Int):Rat))) (((-1:Int):Rat),((0:Int):Rat)):=gv0 (s:=64) ⟨by decide +kernel,by decide +kernel⟩
theorem Xz2(h:VQ 700 q)(ha:q.arc=true)(hne:q.a≠q.b): C0 57 [.d (dC (cvQ q))] (·=.tup (.pr (.b (lgQ q)) (.d (.int .i64 0)))):=by
 have hA:=Yle h ha hne
 have hd:=Xlf h ha
 have hd':Qp 300 (Xfe (Xjb q)):=⟨hd.1,hd.2.neg⟩
 have hn:=(Yck (f:=fOp (Xjb q)) (gv0 hd') (Xau hd'.1) (Yfv _)).mono λr ⟨z,e,hz⟩=>show r=AV.d (dT (v0 (Xjb q)) 0) by rw[e,Xcd hz,Ypg,Yqe]
 have hC:=P19.Cmp_g (f:=0) (g:=0) W0 (gv0 hd) half_g (by decide)
 obtain⟨arc,a,b,c,cw⟩:=q
 cases cw with
 | true =>
  refine En Tryz.func57 λ_ _ _=>?_
  refine Ce rfl hA ?_
  refine No rfl (by decide) ?_
  refine Yes rfl rfl ?_
  refine Ce rfl hn ?_
  refine Ce rfl (P9.FromInt_ok (z:=-1) (by decide)) ?_
  refine Ce rfl (P9.FromInt_ok (z:=0) (by decide)) ?_
  refine Ce rfl hC ?_
  exact R0t
 | false =>
  refine En Tryz.func57 λ_ _ _=>?_
  refine Ce rfl hA ?_
  refine No rfl (by decide) ?_
  refine No rfl nofun ?_
  refine Ce rfl (P9.FromInt_ok (z:=-1) (by decide)) ?_
  refine Ce rfl (P9.FromInt_ok (z:=0) (by decide)) ?_
  refine Ce rfl hC ?_
  exact R0t
def opQ(q:Cq): Rat×Rat:=Xcw (K:=0) q.c (Xa9 (K:=0) q.c q.a)
theorem VQ.way(h:VQ 700 q)(ha:q.arc=true): Qp 64 (Xa9 (K:=0) q.c q.a):=by
 obtain⟨_,_,_,h4,_⟩:=h.u ha
 have e:Xa9 (K:=0) q.c q.a=((-(q.a.1+-q.c.1),-(q.a.2+-q.c.2)):Rat×Rat):=W3a (show q.c.1+-q.a.1=-(q.a.1+-q.c.1) by grind) (show q.c.2+-q.a.2=-(q.a.2+-q.c.2) by grind)
 rw[e]
 exact⟨h4.1.neg,h4.2.neg⟩
noncomputable def wdQ(q:Cq): List Wv:=if q.arc=false then Xnn (v0 q.b) else if q.a=q.b then Xca (rtN (P55.d2 q.a q.c)) false (!q.cw) (v0 (opQ q))++Xca (rtN (P55.d2 q.a q.c)) false (!q.cw) (v0 q.b) else Xca (rtN (P55.d2 q.a q.c)) (lgQ q) (!q.cw) (v0 q.b)
theorem Ymk(h:VQ 700 q): WdC (cvQ q) (wdQ q):=by
 unfold wdQ
 cases ha:q.arc with
 | false=>rw[if_pos rfl];exact .seg ha
 | true =>
  rw[if_neg (λe=>by cases e)]
  have hE:=(P13.Equal_g W0 (gv0 h.a) (gv0 h.b) (by decide) (by decide))
  split
  . rename_i e
    have hs:=VQ.way h ha
    refine .full (w:=v0 (Xa9 (K:=0) q.c q.a)) ha (Ycf h ha) (hE.mono λv e'=>e'.trans (congrArg AV.b (Xal.2 e))) ?_ ?_
    . exact(P13.Sub_g W0 (gv0 h.c) (gv0 h.a) (by decide) (by decide)).mono λv ⟨z,e,hz⟩=>by rw[e,Xcd hz]
    . exact(P13.Add_g W0 (gv0 h.c) (gv0 hs) (by decide) (by decide)).mono λv ⟨z,e,hz⟩=>by rw[e,Xcd hz];rfl
  . rename_i e
    exact .part ha (Ycf h ha) (hE.mono λv e'=>e'.trans (congrArg AV.b (P11.dcF e))) (Xz2 h ha e)
noncomputable def wds(R:List Cq)(c d:Cq): List Wv:=hdW (cvQ c)++(R.map wdQ).flatten++(if dc (c.a=d.b) then [.mk [90]] else [])
theorem Ydn{R:List Cq}{c d:Cq}(hl:R.length<=1000)(hc:R[0]?=some c)(hd:R[R.length-1]?=some d)(hv:∀c∈R,VQ 700 c): C0 21 [.d (Xd0 (R.map cvQ))] (·=.tup (.pr (.d (dWs (wds R c d))) (.d (.int .i64 0)))):=by
 refine P55.words_ok (c0:=cvQ c) (d0:=cvQ d) (Z:=R.map wdQ) (cl:=dc (c.a=d.b)) (by simp[hc]) (by simp[hd]) (by simpa using hl) (by simp) (λi x w h1 h2=>?_) (P13.Equal_g W0 (gv0 (hv c (W0h hc)).a) (gv0 (hv d (W0h hd)).b) (by decide) (by decide))
 simp only[W0t,Option.map_eq_some_iff] at h1 h2
 obtain⟨y,hy,rfl⟩:=h1
 obtain⟨y',hy',rfl⟩:=h2
 rw[hy] at hy'
 cases hy'
 exact Ymk (hv y (W0h hy))
end
end Go.Proofs.YtclgppjdhndgiaaGreatDoor.P57
namespace Go.Num
end Go.Num
namespace Go.Proofs.YtclgppjdhndgiaaGreatDoor.P57
open Go Go.Vm Go.Num Go.Tow Go.Proofs.YtclgppjdhndgiaaGreatDoor
open Go.Proofs.YtclgppjdhndgiaaGreatDoor.P55 (v0 W0 g0 gv0 zw Xcd Qp nr Xau Wv dWv dWs WdC Xca Xnn hdW flB)
variable{q:Cq}
def NbW: Wv->Prop
 | .mk s=>s.length=1/\32 ∉ s
 | .nu x=>Nb x
structure NbV (v:Vn):Prop where
 x:Nb v.x
 y:Nb v.y
theorem NbV.of{p:Rat×Rat}(h:Qp 1000 p): NbV (v0 p):=⟨Nb.rat h.1,Nb.rat h.2⟩
theorem Yc6(b:Bool): Xno (flB b)/\NbW (.mk (flB b)):=by
 cases b
 . exact⟨.inl rfl,by unfold flB;exact⟨by decide,by decide⟩⟩
 . exact⟨.inr rfl,by unfold flB;exact⟨by decide,by decide⟩⟩
inductive Wc:List Wv->Prop
 | nil:Wc []
 | seg {x:Vn} {l:List Wv} (hx:NbV x) (h:Wc l):Wc (Xnn x++l)
 | arc {r:Nm} {a b:Bool} {x:Vn} {l:List Wv} (hr:Nb r) (hx:NbV x) (h:Wc l):Wc (Xca r a b x++l)
theorem Wc.app{l m:List Wv}(h:Wc l)(k:Wc m): Wc (l++m):=by
 induction h with
 | nil=>exact k
 | seg hx _ ih=>rw[W2i];exact .seg hx ih
 | arc hr hx _ ih=>rw[W2i];exact .arc hr hx ih
theorem Wc.nb{l:List Wv}(h:Wc l): ∀w∈l,NbW w:=by
 induction h with
 | nil=>exact nofun
 | @seg x l hx _ ih =>
  intro w hw
  rcases W2j.1 hw with hw | hw
  . simp only[Xnn,W1i,W7p,or_false] at hw
    rcases hw with rfl | rfl | rfl
    . exact⟨by decide,by decide⟩
    . exact hx.x
    . exact hx.y
  . exact ih w hw
 | @arc r a b x l hr hx _ ih =>
  intro w hw
  rcases W2j.1 hw with hw | hw
  . simp only[Xca,W1i,W7p,or_false] at hw
    rcases hw with rfl | rfl | rfl | rfl | rfl | rfl | rfl | rfl
    . exact⟨by decide,by decide⟩
    . exact hr
    . exact hr
    . exact⟨by decide,by decide⟩
    . exact(Yc6 a).2
    . exact(Yc6 b).2
    . exact hx.x
    . exact hx.y
  . exact ih w hw
theorem Yml(h:VQ 700 q): Wc (wdQ q):=by
 unfold wdQ
 have hb:NbV (v0 q.b):=.of (R47.Qp.mono' h.b (by decide))
 cases ha:q.arc with
 | false =>
  rw[if_pos rfl]
  exact Wc.seg (l:=[]) hb .nil
 | true =>
  rw[if_neg (λe=>by cases e)]
  obtain⟨_,_,h3,_⟩:=h.u ha
  have hr:=Yij (h.w ha).2.2.2 h3
  have hw:=VQ.way h ha
  have ho:NbV (v0 (opQ q)):=.of ⟨(h.c.1.add hw.1).mono (by decide),(h.c.2.add hw.2).mono (by decide)⟩
  split
  . exact Wc.arc hr ho (Wc.arc (l:=[]) hr hb .nil)
  . exact Wc.arc (l:=[]) hr hb .nil
theorem Ybm: ∀ {R:List Cq},(∀c∈R,VQ 700 c)->Wc (R.map wdQ).flatten
 | [],_=>.nil
 | c::R,h=>by
  rw[W3s,List.flatten_cons]
  exact(Yml (h c W0w)).app (Ybm λx hx=>h x (W1e _ hx))
theorem Ydp: (wdQ q).length<=16:=by
 unfold wdQ
 split
 . show 3<=16;decide
 . split
   . simp[Xca]
   . simp[Xca]
theorem Xj9: ∀ {R:List Cq},(R.map wdQ).flatten.length<=16*R.length
 | []=>W0x _
 | c::R=>by
  rw[W3s,List.flatten_cons,W0d,W0k]
  have:=Ydp (q:=c)
  have:=Xj9 (R:=R)
  omega
section
variable{R:List Cq}{c e:Cq}{d:Nat}
theorem Ybl(hc:c∈R)(hv:∀c∈R,VQ 700 c): ∀w∈wds R c e,NbW w:=λw hw=>by
 unfold wds at hw
 rcases W2j.1 hw with hw | hw
 . rcases W2j.1 hw with hw | hw
   . have h:=hv c hc
     simp only[hdW,W1i,W7p,or_false] at hw
     rcases hw with rfl | rfl | rfl
     . exact⟨by decide,by decide⟩
     . exact Nb.rat (h.a.1.mono (by decide))
     . exact Nb.rat (h.a.2.mono (by decide))
   . exact(Ybm hv).nb w hw
 . split at hw
   . obtain rfl:=W0g.1 hw;exact⟨by decide,by decide⟩
   . cases hw
theorem Xs6: (wds R c e).length<=16*R.length+4:=by
 unfold wds
 have:=Xj9 (R:=R)
 rw[W0d,W0d]
 have h1:(hdW (cvQ c)).length=3:=rfl
 have h2:(if dc (c.a=e.b) then [Wv.mk [90]] else []).length<=1:=by split<;>decide
 omega
end
open Go Go.Vm Go.Num Go.Tow Go.Proofs.YtclgppjdhndgiaaGreatDoor
section
open Go.Proofs.YtclgppjdhndgiaaGreatDoor.P55 (v0 W0 g0 gv0 zw Xcd Qp nr Xau Wv Xca Xnn hdW flB)
variable{q:Cq}
def dRw: Wv->D
 | .mk s=>.st (.pr (.str s) R9.n0)
 | .nu x=>.st (.pr (.str []) (dN x))
abbrev Ynv(l:List Wv): D:=.sl 3 (l.map dRw)
theorem Xey{s:List UInt8}: C0 69 [.d (.str s)] (·=.d (dRw (.mk s))):=by
 refine En Tryz.func69 λ_ _ _=>?_
 exact R1 rfl (.sd (.pd (.rf rfl) R9.fit0))
theorem Xbd{x:Nm}: C0 70 [.d (dN x)] (·=.d (dRw (.nu x))):=by
 refine En Tryz.func70 λ_ _ _=>?_
 exact R0
theorem Xcs{b:Bool}: C0 157 [.d (.bool b)] (·=.d (dRw (.mk (flB b)))):=by
 refine C.nb (show C0 _ [.b b] _ from ?_)
 cases b with
 | true =>
  refine En Tryz.func157 λ_ _ _=>?_
  refine Yes rfl rfl ?_
  refine Ce rfl Xey ?_
  exact R0
 | false =>
  refine En Tryz.func157 λ_ _ _=>?_
  refine No rfl nofun ?_
  refine Ce rfl Xey ?_
  exact R0
theorem Xxw{r:Nm}{a b:Bool}{x:Vn}: C0 76 [.d (dN r),.d (.bool a),.d (.bool b),.d (dV x)] (·=.d (Ynv (Xca r a b x))):=by
 refine En Tryz.func76 λ_ _ _=>?_
 refine Dw rfl ?_
 refine Ce rfl Xey ?_
 refine Ce rfl Xbd ?_
 refine Ce rfl Xbd ?_
 refine Ce rfl Xey ?_
 refine Ce rfl Xcs ?_
 refine Ce rfl Xcs ?_
 refine Ce rfl Xbd ?_
 refine Ce rfl Xbd ?_
 exact R1 rfl (.lit rfl)
theorem Yf1{p:Rat×Rat}(h:Qp 300 p): C0 340 [.d (dV (v0 p))] (·=.b (dc (Xhk (K:=0) () p))):=by
 refine En Tryz.func340 λ_ _ _=>?_
 refine Ce rfl (R9.Sign_g W0 (g0 h.2) (by decide)) ?_
 refine By rfl (λh1=>?_) λh1=>?_
 . refine Ce rfl (R9.Sign_g W0 (g0 h.1) (by decide)) ?_
   exact R1 rfl (.bp (Xal.trans ⟨λh2=>⟨h1,h2⟩,λh2=>h2.2⟩))
 . exact R1 rfl (.bp ⟨nofun,λh2=>absurd h2.1 h1⟩)
theorem Xsd{p:Rat×Rat}{f:Int}(h:Qp 300 p)(hf:few f): C0 249 [.d (dT (v0 p) f)] (·=.d (dT (v0 (Xfe (K:=0) p)) (P19.vopp (K:=0) () p f))):=by
 unfold few at hf
 refine En Tryz.func249 λ_ _ _=>?_
 refine Ce rfl (Yf1 h) ?_
 refine By rfl (λh1=>?_) λh1=>?_
 . refine Ne (-f) rfl ?_ (wr (W7z _) (by simp only[inK];omega))
   refine R1 rfl (.eq ?_)
   have e:Xfe (K:=0) p=p:=W3a rfl (show -p.2=p.2 by have h2:p.2=0:=(Xbt (k:=0) (t:=()) trivial).1 h1.1;grind)
   unfold P19.vopp
   rw[e,if_pos h1]
 . refine Dw rfl ?_
   refine Ca rfl (R9.Neg_g W0 (g0 h.2) (by decide)) λv hv=>?_
   obtain⟨z,rfl,hz⟩:=hv
   obtain rfl:=zw hz.o
   refine Ne (-f) rfl ?_ (wr (W7z _) (by simp only[inK];omega))
   refine Ar (-f-1) rfl ?_ (wr rfl (by simp only[inK];omega))
   refine R1 rfl (.eq ?_)
   unfold P19.vopp
   rw[if_neg h1];rfl
theorem Ylm{p:Rat×Rat}{f:Int}(h:Qp 300 p)(hf:-1000<=f/\f<=1000): C0 159 [.d (dT (v0 p) f)] (·=.d (dT (v0 (Xfe (K:=0) p)) (P19.vopp (K:=0) () p f))):=by
 have h2:-2000<=P19.vopp (K:=0) () p f:=by unfold P19.vopp;split<;>omega
 refine En Tryz.func159 λ_ _ _=>?_
 refine Ce rfl (Xsd h (by unfold few;omega)) ?_
 refine No rfl (by omega) ?_
 exact R0
theorem Yhl(p:V2 0): -1000<=P19.vopp (K:=0) () p 0/\P19.vopp (K:=0) () p 0<=1000/\P19.vopp (K:=0) () (Xfe p) (P19.vopp (K:=0) () p 0)=0:=by
 have h:=Xwk p
 unfold P19.vopp
 by_cases hp:Xhk (K:=0) () p
 . rw[if_pos hp,if_pos (h.2 hp)];decide
 . rw[if_neg hp,if_neg (λe=>hp (h.1 e))];decide
theorem Xum(h:VQ 700 q)(ha:q.arc=true)(hne:q.a≠q.b): C0 158 [.d (dC (cvQ q))] (·=.d (match q.cw with
 | true=>dT (v0 (Xfe (Xjb q))) (P19.vopp (K:=0) () (Xjb q) 0)
 | false=>dT (v0 (Xjb q)) 0)):=by
 obtain⟨hu,hw,_,_⟩:=h.w ha
 have hd:=Xlf h ha
 have hN:=Ylm (f:=0) hd (by decide)
 have hF:=R47.Full_g (c:=cvQ q) W0 ha (gv0 h.a) (gv0 h.b) (by decide) (by decide)
 have hP:=R47.place_g (c:=cvQ q) (X:=v0 q.b) W0 (gv0 h.c) (gv0 h.a) (gv0 h.b) (by decide) hu hw
 obtain⟨arc,a,b,c,cw⟩:=q
 obtain rfl:arc=true:=ha
 refine En Tryz.func158 λ_ _ _=>?_
 refine No rfl (λh=>h rfl) ?_
 refine Cn [(1000001,11)] rfl hP λv hv=>?_
 obtain⟨z,rfl,hz⟩:=hv
 obtain rfl:=Xcd hz
 refine Ce rfl hF ?_
 refine No rfl hne ?_
 cases cw with
 | true =>
  refine Yes rfl rfl ?_
  refine Ce rfl hN ?_
  exact R0
 | false =>
  refine No rfl nofun ?_
  exact R0
theorem Xzr(h:VQ 700 q)(ha:q.arc=true)(hne:q.a≠q.b): C0 77 [.d (dC (cvQ q))] (·=.b (lgQ q)):=by
 have hA:=Xum h ha hne
 have hd:=Xlf h ha
 have hd':Qp 300 (Xfe (Xjb q)):=⟨hd.1,hd.2.neg⟩
 obtain⟨o1,o2,o3⟩:=Yhl (Xjb q)
 have hn:=Ylm (f:=P19.vopp (K:=0) () (Xjb q) 0) hd' ⟨o1,o2⟩
 have hn:C0 159 [.d (dT (v0 (Xfe (Xjb q))) (P19.vopp (K:=0) () (Xjb q) 0))] (·=.d (dT (v0 (Xjb q)) 0)):=hn.mono λv e=>by rw[e,Ypg,o3]
 have hC:=R19.Cmp_g (f:=0) (g:=0) W0 (gv0 hd) half_g (by decide)
 obtain⟨arc,a,b,c,cw⟩:=q
 cases cw with
 | true =>
  refine En Tryz.func77 λ_ _ _=>?_
  refine Ce rfl hA ?_
  refine Yes rfl rfl ?_
  refine Ce rfl hn ?_
  refine Dw rfl ?_
  refine Ce rfl (R13.Whole_ok (i:=-1) (j:=0) (by decide) (by decide)) ?_
  refine Ce rfl hC ?_
  exact R0
 | false =>
  refine En Tryz.func77 λ_ _ _=>?_
  refine Ce rfl hA ?_
  refine No rfl nofun ?_
  refine Dw rfl ?_
  refine Ce rfl (R13.Whole_ok (i:=-1) (j:=0) (by decide) (by decide)) ?_
  refine Ce rfl hC ?_
  exact R0
theorem Xzb(h:VQ 700 q): C0 92 [.d (dC (cvQ q))] (·=.b true):=by
 obtain⟨arc,a,b,c,cw⟩:=q
 cases arc with
 | false =>
  have key:C0 92 [.d (dC (cvQ ⟨false,a,b,c,cw⟩))] (·=.b (dc (a≠b))):=by
   refine En Tryz.func92 λ_ _ _=>?_
   refine Yes rfl nofun ?_
   refine Ce rfl (R13.Equal_g W0 (gv0 h.a) (gv0 h.b) (by decide) (by decide)) ?_
   exact R1 rfl (.bp (by rw[W1t,W2m];exact not_congr Xal))
  exact key.mono λv e=>e.trans (congrArg AV.b (Xal.2 (h.s rfl)))
 | true =>
  obtain⟨h1,h2,h3,_⟩:=h.u rfl
  have hp:=(h.w rfl).2.2.2
  have key:C0 92 [.d (dC (cvQ ⟨true,a,b,c,cw⟩))] (·=.b (dc (a≠c))):=by
   refine En Tryz.func92 λ_ _ _=>?_
   refine No rfl (λh=>h rfl) ?_
   refine Dw rfl ?_
   refine Cn [(1000001,16)] rfl (R15.Far_g W0 (gv0 h.a) (gv0 h.c) (by decide)) λv hv=>?_
   obtain⟨z1,rfl,k1⟩:=hv
   refine Cn [(1000001,16)] rfl (R15.Far_g W0 (gv0 h.b) (gv0 h.c) (by decide)) λv hv=>?_
   obtain⟨z2,rfl,k2⟩:=hv
   refine Yes rfl rfl ?_
   refine Ce rfl (R9.Sign_g W0 k1 (by decide)) ?_
   have h0:sgn 0 () (Xer (K:=0) () (Xa9 (K:=0) a c) (Xa9 (K:=0) a c))=1:=Xbh hp
   refine Yes rfl (by rw[h0];decide) ?_
   refine Ce rfl (R9.Equal_g W0 k1 k2 (by decide) (by decide)) ?_
   exact R1 rfl (.bp ⟨λ_=>h1,λ_=>Xal.2 h2.symm⟩)
  exact key.mono λv e=>e.trans (congrArg AV.b (Xal.2 h1))
theorem Yei{R:List Cq}(hl:R.length<=1000)(h0:0<R.length)(hv:∀c∈R,VQ 700 c): C0 24 [.d (Xd0 (R.map cvQ))] (·=.b (dc (Lnk R))):=by
 have hval:=R55.valid_ok (l:=R.map cvQ) (by simpa using hl) (λc hc=>by
  obtain⟨x,hx,rfl⟩:=W4e.1 hc
  exact Xzb (hv x hx))
 refine En Tryz.func24 λ_ _ _=>?_
 refine Lo (λk:Nat=>[(0,.d (Xd0 (R.map cvQ))),(3,.d (.int .i64 k))]) (λ_=>[]) (λk=>1<=k/\k<=R.length/\∀i c d,i+1<k->R[i]?=some c->R[i+1]?=some d->c.b=d.a) (λk=>R.length-k) 1 [] rfl ⟨W0c _,h0,λ_ _ _ h=>absurd h (by omega)⟩ λk ⟨hk1,hk,hI⟩=>?_
 refine By rfl (λh=>?_) λh=>?_<;>simp only[lQ] at h
 . obtain⟨c,hc⟩:∃c,R[k]?=some c:=⟨_,W0a (by omega)⟩
   obtain⟨b,hb⟩:∃b,R[k-1]?=some b:=⟨_,W0a (by omega)⟩
   refine Dw rfl ?_
   refine Ar (k-1:Nat) rfl ?_
   refine Ix (k-1) rfl (Xyi hb) ?_
   refine Ix k rfl (Xyi hc) ?_
   refine Ce rfl (R13.Equal_g W0 (gv0 (hv b (W0h hb)).b) (gv0 (hv c (W0h hc)).a) (by decide) (by decide)) ?_
   refine By rfl (λh2=>?_) λh2=>?_
   . have h2:¬b.b=c.a:=h2
     rw[P11.dcF (p:=Lnk R) λhL=>h2 (hL (k-1) b c hb (by rw[show k-1+1=k by omega];exact hc))]
     exact R0
   . have h2:b.b=c.a:=W2h.1 h2
     refine Ar (k+1:Nat) rfl ?_
     refine Bk (k+1) [] rfl ⟨by omega,by omega,λi c' d' hi h3 h4=>?_⟩ (by show R.length-(k+1)<R.length-k;omega)
     by_cases hik:i+1=k
     . rw[hik,hc] at h4
       rw[show i=k-1 by omega,hb] at h3
       cases h3;cases h4;exact h2
     . exact hI i c' d' (by omega) h3 h4
 . have hL:Lnk R:=λi c d h3 h4=>hI i c d (by have:=(W1d.1 h4).1;omega) h3 h4
   rw[P11.dcT hL]
   refine Yes rfl (by rw[lQ];omega) ?_
   refine Ce rfl hval ?_
   exact R0
def rwD(w0:List Wv): Option (List Wv)->AV
 | none=>.lit 3 (w0.map dRw)
 | some w=>.own 600 3 0 (w.map dRw).length
def rwH: Option (List Wv)->Hpl
 | none=>[(11,cal)]
 | some w=>[(11,cal),(600,.arr 3 (w.map dRw))]
def rwW(w0:List Wv): Option (List Wv)->List Wv
 | none=>w0
 | some w=>w
theorem Yec(h:VQ 700 q)(ha:q.arc=true): CN0 71 [.ptr 1000001 0,.d (dN (nr (P55.d2 q.a q.c)))] [(1000001,cal)] (·=.d (dN (rtN (P55.d2 q.a q.c)))):=by
 obtain⟨_,_,h3,_⟩:=h.u ha
 exact R55.Sqrt_c (Yb9 (R55.rSqrt h3 (show 0<=Xet _ by rw[Xbh (h.w ha).2.2.2];decide)))
theorem Yej{p t:Rat×Rat}(hp:Qp 700 p)(ht:Qp 700 t): CN0 72 [.ptr 1000001 0,.d (dV (v0 p)),.d (dV (v0 t))] [(1000001,cal)] (·=.d (dN (nr (P55.d2 p t)))):=R55.CN_mono (R15.Far_g W0 (gv0 hp) (gv0 ht) (by decide)) λv ⟨z,e,hz⟩=>by rw[e,show z=_ from zw hz.o];rfl
set_option maxHeartbeats 1000000 in
theorem Xza{R:List Cq}{c0 d0:Cq}(hl:R.length<=100)(h0:R[0]?=some c0)(h9:R[R.length-1]?=some d0)(hv:∀c∈R,VQ 700 c): C0 25 [.d (Xd0 (R.map cvQ))] (·=.tup (.pr (.d (Ynv (wds R c0 d0))) (.d (.int .i64 0)))):=by
 have hl0:0<R.length:=(W1d.1 h0).1
 have hv0:=hv c0 (W0h h0)
 have hv9:=hv d0 (W0h h9)
 have hE:=R13.Equal_g W0 (gv0 hv0.a) (gv0 hv9.b) (by decide) (by decide)
 refine En Tryz.func25 λ_ _ _=>?_
 refine Dw rfl ?_
 refine Ce rfl Xey ?_
 refine Ix 0 rfl (Xyi h0) ?_
 refine Ce rfl Xbd ?_
 refine Ix 0 rfl (Xyi h0) ?_
 refine Ce rfl Xbd ?_
 refine Lo (λ((k,o):Nat×Option (List Wv))=>[(0,.d (Xd0 (R.map cvQ))),(4,.ptr 11 0),(5,rwD (hdW (cvQ c0)) o),(6,.d (.int .i64 k))]) (λ(_,o)=>rwH o) (λ(k,o)=>k<=R.length/\rwW (hdW (cvQ c0)) o=hdW (cvQ c0)++((R.take k).map wdQ).flatten) (λ(k,_)=>R.length-k) (0,none) [] rfl ⟨W0x _,by simp[rwW]⟩ ?_
 rintro⟨k,o⟩ ⟨hk,hw⟩
 have hw:rwW (hdW (cvQ c0)) o=hdW (cvQ c0)++((R.take k).map wdQ).flatten:=hw
 have hwl:(rwW (hdW (cvQ c0)) o).length<=2000:=by
  rw[hw,W0d]
  have:=Xj9 (R:=R.take k)
  rw[W0j] at this
  have:(hdW (cvQ c0)).length=3:=rfl
  omega
 have nxt:∀ {c u},R[k]?=some c->u=rwW (hdW (cvQ c0)) o++wdQ c->k+1<=R.length/\rwW (hdW (cvQ c0)) (some u)=hdW (cvQ c0)++((R.take (k+1)).map wdQ).flatten:=λ{c u} hc hu=>⟨by have:=(W1d.1 hc).1;omega,by
  rw[W1c,hc]
  show u=_
  rw[hu,hw];simp⟩
 have lenw:∀u:List Wv,u.length<=16->((rwW (hdW (cvQ c0)) o++u).map dRw).length<=1099511627776:=λu hu=>by rw[W0i,W0d];omega
 have lenw2:∀u v:List Wv,u.length<=16->v.length<=16->((rwW (hdW (cvQ c0)) o++u++v).map dRw).length<=1099511627776:=λu v hu hv=>by rw[W0i,W0d,W0d];omega
 have fin:k=R.length->rwW (hdW (cvQ c0)) o=hdW (cvQ c0)++(R.map wdQ).flatten:=λe=>by rw[hw,e,W0b (W0c _)]
 rcases o with _ | w <;>
 . refine By rfl (λh=>?_) λh=>?_<;>simp only[lQ] at h
   . obtain⟨c,hc⟩:∃c,R[k]?=some c:=⟨_,W0a (by omega)⟩
     have hcv:=hv c (W0h hc)
     refine Ix k rfl (Xyi hc) ?_
     cases ha:c.arc with
     | false =>
      have hz:wdQ c=Xnn (v0 c.b):=by unfold wdQ;rw[if_pos ha]
      have hnx:=nxt (c:=c) hc (show _++Xnn (v0 c.b)=_ by rw[hz])
      obtain⟨arc,a,b,cc,cw⟩:=c
      obtain rfl:arc=false:=ha
      refine Yes rfl nofun ?_
      refine Dw rfl ?_
      refine Ce rfl Xey ?_
      refine Ce rfl Xbd ?_
      refine Ce rfl Xbd ?_
      first
      | refine ApL ((rwW (hdW (cvQ c0)) _++Xnn (v0 b)).map dRw) rfl (by rw[W1p];first | done | rfl) (W3x _) (lenw _ (show 3<=16 by decide)) ?_
      | refine ApO ((rwW (hdW (cvQ c0)) _++Xnn (v0 b)).map dRw) rfl rfl rfl (by rw[W1p];first | done | rfl) (lenw _ (show 3<=16 by decide)) ?_
      refine Ar (k+1:Nat) rfl ?_
      exact Bk (k+1,some (rwW (hdW (cvQ c0)) _++Xnn (v0 b))) [(600,900),(50,600)] rfl hnx (by show R.length-(k+1)<R.length-k;omega)
     | true =>
      have hr:=Yec hcv ha
      have hF:=Yej hcv.a hcv.c
      have hU:=R47.Full_g (c:=cvQ c) W0 ha (gv0 hcv.a) (gv0 hcv.b) (by decide) (by decide)
      by_cases hab:c.a=c.b
      . have hz:wdQ c=Xca (rtN (P55.d2 c.a c.c)) false (!c.cw) (v0 (opQ c))++Xca (rtN (P55.d2 c.a c.c)) false (!c.cw) (v0 c.b):=by unfold wdQ;rw[if_neg (by rw[ha];nofun),if_pos hab]
        have hnx:=nxt (c:=c) hc (show _++Xca (rtN (P55.d2 c.a c.c)) false (!c.cw) (v0 (opQ c))++Xca (rtN (P55.d2 c.a c.c)) false (!c.cw) (v0 c.b)=_ by rw[hz,W2i])
        have hop:∀ {z:Vn} {n:Nat},Gv (K:=0) () [] [] n z (Xa9 (K:=0) (Yhk (K:=0) () c.c ((2:Int):Rat)) c.a)->z=v0 (opQ c):=λ{z n} hz=>by
         rw[Xcd hz]
         have h2:((2:Int):Rat)=2:=rfl
         exact congrArg v0 (W3a (show c.c.1*((2:Int):Rat)+-c.a.1=c.c.1+(c.c.1+-c.a.1) by grind) (show c.c.2*((2:Int):Rat)+-c.a.2=c.c.2+(c.c.2+-c.a.2) by grind))
        obtain⟨arc,a,b,cc,cw⟩:=c
        obtain rfl:arc=true:=ha
        refine No rfl (λh=>h rfl) ?_
        refine Cn [(1000001,11)] rfl hF λv hv=>?_
        subst hv
        refine Cn [(1000001,11)] rfl hr λv hv=>?_
        subst hv
        refine Ce rfl hU ?_
        refine Yes rfl hab ?_
        refine Dw rfl ?_
        refine Ce rfl (R9.FromInt_ok (z:=2) (by decide)) ?_
        refine Cn [(1000001,11)] rfl (R15.Scale_g W0 (gv0 hcv.c) (g0 (s:=64) (q:=((2:Int):Rat)) (by decide +kernel)) (by decide) (by decide)) λv hv=>?_
        obtain⟨z1,rfl,k1⟩:=hv
        refine Cn [(1000001,11)] rfl (R15.Minus_g W0 k1 (gv0 hcv.a) (by decide) (by decide)) λv hv=>?_
        obtain⟨z2,rfl,k2⟩:=hv
        obtain rfl:=hop k2
        refine Ce rfl Xxw ?_
        first
        | refine ApL ((rwW (hdW (cvQ c0)) _++Xca (rtN (P55.d2 a cc)) false (!cw) (v0 (opQ ⟨true,a,b,cc,cw⟩))).map dRw) rfl (by rw[W1p];first | done | rfl) (W3x _) (lenw _ (show 8<=16 by decide)) ?_
        | refine ApO ((rwW (hdW (cvQ c0)) _++Xca (rtN (P55.d2 a cc)) false (!cw) (v0 (opQ ⟨true,a,b,cc,cw⟩))).map dRw) rfl rfl rfl (by rw[W1p];first | done | rfl) (lenw _ (show 8<=16 by decide)) ?_
        refine Ce rfl Xxw ?_
        refine ApO ((rwW (hdW (cvQ c0)) _++Xca (rtN (P55.d2 a cc)) false (!cw) (v0 (opQ ⟨true,a,b,cc,cw⟩))++Xca (rtN (P55.d2 a cc)) false (!cw) (v0 b)).map dRw) rfl rfl rfl (by simp) (lenw2 _ _ (show 8<=16 by decide) (show 8<=16 by decide)) ?_
        refine Ar (k+1:Nat) rfl ?_
        exact Bk (k+1,some (rwW (hdW (cvQ c0)) _++Xca (rtN (P55.d2 a cc)) false (!cw) (v0 (opQ ⟨true,a,b,cc,cw⟩))++Xca (rtN (P55.d2 a cc)) false (!cw) (v0 b))) [(600,900),(86,600)] rfl hnx (by show R.length-(k+1)<R.length-k;omega)
      . have hz:wdQ c=Xca (rtN (P55.d2 c.a c.c)) (lgQ c) (!c.cw) (v0 c.b):=by unfold wdQ;rw[if_neg (by rw[ha];nofun),if_neg hab]
        have hnx:=nxt (c:=c) hc (show _++Xca (rtN (P55.d2 c.a c.c)) (lgQ c) (!c.cw) (v0 c.b)=_ by rw[hz])
        have hL:=Xzr hcv ha hab
        generalize lgQ c=lg at hnx hL
        obtain⟨arc,a,b,cc,cw⟩:=c
        obtain rfl:arc=true:=ha
        refine No rfl (λh=>h rfl) ?_
        refine Cn [(1000001,11)] rfl hF λv hv=>?_
        subst hv
        refine Cn [(1000001,11)] rfl hr λv hv=>?_
        subst hv
        refine Ce rfl hU ?_
        refine No rfl hab ?_
        refine Dw rfl ?_
        refine Ce rfl hL ?_
        refine Ce rfl Xxw ?_
        first
        | refine ApL ((rwW (hdW (cvQ c0)) _++Xca (rtN (P55.d2 a cc)) lg (!cw) (v0 b)).map dRw) rfl (by rw[W1p];first | done | rfl) (W3x _) (lenw _ (show 8<=16 by decide)) ?_
        | refine ApO ((rwW (hdW (cvQ c0)) _++Xca (rtN (P55.d2 a cc)) lg (!cw) (v0 b)).map dRw) rfl rfl rfl (by rw[W1p];first | done | rfl) (lenw _ (show 8<=16 by decide)) ?_
        refine Ar (k+1:Nat) rfl ?_
        exact Bk (k+1,some (rwW (hdW (cvQ c0)) _++Xca (rtN (P55.d2 a cc)) lg (!cw) (v0 b))) [(600,900),(97,600)] rfl hnx (by show R.length-(k+1)<R.length-k;omega)
   . have hf:=fin (by omega)
     refine Dw rfl ?_
     refine Ix 0 rfl (Xyi h0) ?_
     refine Ar (R.length-1:Nat) rfl ?_ (wr (by rw[lQ];omega) (by simp only[inK];omega))
     refine Ix (R.length-1) rfl (Xyi h9) ?_
     refine Ce rfl hE ?_
     unfold wds
     rw[<-hf]
     refine By rfl (λh1=>?_) λh1=>?_
     . rw[show (if dc (c0.a=d0.b) then [Wv.mk [90]] else [])=[Wv.mk [90]] from if_pos (P11.dcT h1)]
       refine Ce rfl Xey ?_
       first
       | refine ApL ((rwW (hdW (cvQ c0)) _++[Wv.mk [90]]).map dRw) rfl (by rw[W1p];first | done | rfl) (W3x _) (lenw _ (show 1<=16 by decide)) ?_
       | refine ApO ((rwW (hdW (cvQ c0)) _++[Wv.mk [90]]).map dRw) rfl rfl rfl (by rw[W1p];first | done | rfl) (lenw _ (show 1<=16 by decide)) ?_
       refine Dw rfl ?_
       exact RTt rfl (.cons (.own rfl (by rw[W1k];exact W0c _) (by rw[W1a,W1x])) Xax)
     . rw[show (if dc (c0.a=d0.b) then [Wv.mk [90]] else [])=[] from if_neg (λe=>h1 (Xal.1 e)),W3g]
       refine Dw rfl ?_
       first
       | exact RTt rfl (.cons (.lit rfl) Xax)
       | exact RTt rfl (.cons (.own rfl (by rw[W1k];exact W0c _) (by rw[W1a,W1x];rfl)) Xax)
end
section
open Go.Proofs.YtclgppjdhndgiaaGreatDoor.P55 (v0 W0 g0 gv0 zw Xcd Qp nr Xau)
abbrev Xe5(l:List Cq): List D:=(l.map cvQ).map dC
theorem Xrl{l:List Cq}{k:Nat}{c:Cq}(h:l[k]?=some c): (Xe5 l)[k]?=some (dC (cvQ c)):=Xyi h
theorem Xec{l:List Cq}: (Xe5 l).length=l.length:=lQ
theorem Xyz{α:Type}{l:List α}{k:Nat}{x:α}(h:l[k]?=some x): l.set k x=l:=by
 refine W5s λi=>?_
 by_cases e:k=i
 . subst e
   rw[W2l (W1d.1 h).1,h]
 . rw[W1u e]
def cuV: Option Nat->AV
 | none=>.lit 14 []
 | some n=>.own 600 14 0 n
def cuH(l:List Cq): Option Nat->Hpl
 | none=>[]
 | some _=>[(600,.arr 14 (Xe5 l))]
theorem Xsy{l:List Dft}{n:Nat}(hl:l.length<9223372036854775808)(hn:n<=1000)(hd:∀d∈l,d.ok): CW0 8 [.d (Yl9 l),.d (.int .i64 n)] [] (λv H'=>(v=.tup (.pr (.d (Xd0 [])) (.b false))/\H'=[])\/(v=.tup (.pr (.d (Xd0 [])) (.b true))/\H'=[]) \/
 (0<l.length/\l.length<=n/\(∀d∈l,R47.vlD d)/\v=.tup (.pr (.own 1000000 14 0 (Xe5 (l.map dqD)).length) (.b true))/\H'=[(1000000,.arr 14 (Xe5 (l.map dqD)))])):=by
 have lD:(l.map dDf).length=l.length:=W0i ..
 refine EnW Tryz.func8 λ_ _ _ _=>?_
 refine By rfl (λh=>?_) λh=>?_
 . exact Rw [] [] rfl (.tup (.cons (.nil rfl) Xg0)) (.inl ⟨rfl,rfl⟩)
 have h:¬((l.map dDf).length:Int)>n:=h
 rw[lD] at h
 refine NL 6 14 rfl ?_
 refine Lo (λ((k,o):Nat×Option Nat)=>[(0,.d (Yl9 l)),(6,cuV o),(7,.d (.int .i64 k))]) (λ(k,o)=>cuH ((l.take k).map dqD) o) (λ(k,o)=>k<=l.length/\(∀d∈l.take k,R47.vlD d)/\o=(if k=0 then none else some (Xe5 ((l.take k).map dqD)).length)) (λ(k,_)=>l.length-k) (0,none) [] rfl ⟨W0x _,nofun,rfl⟩ ?_
 rintro⟨k,o⟩ ⟨hk,hv,ho⟩
 have nxt:∀ {d},l[k]?=some d->R47.vlD d->k+1<=l.length/\(∀d∈l.take (k+1),R47.vlD d)/\some (Xe5 ((l.take (k+1)).map dqD)).length=(if k+1=0 then none else some (Xe5 ((l.take (k+1)).map dqD)).length):=λ{d} h1 h3=>⟨by have:=(W1d.1 h1).1;omega,λx hx=>by
  rw[W1c,h1] at hx
  rcases W2j.1 hx with hx | hx
  . exact hv x hx
  . obtain rfl:=W0g.1 hx;exact h3,by rw[if_neg (by omega)]⟩
 have app:∀ {d},l[k]?=some d->Xe5 ((l.take k).map dqD)++[dC (R47.cvD d)]=Xe5 ((l.take (k+1)).map dqD):=λ{d} h1=>by
  rw[W1c,h1,Ynw];simp
 by_cases hk0:k=0
 . subst hk0
   obtain rfl:o=none:=ho
   refine By rfl (λh2=>?_) λh2=>?_<;>simp only[lD] at h2
   . obtain⟨d,h1⟩:∃d,l[0]?=some d:=⟨_,W0a (by omega)⟩
     refine Ix 0 rfl (u:=dDf d) (by rw[W0t,h1];rfl) ?_
     refine Ce rfl (R47.Curve_ok (hd d (W0h h1))) ?_
     refine By rfl (λh3=>?_) λh3=>?_
     . exact Rw [] [] rfl (.tup (.cons (.nil rfl) Xg0)) (.inl ⟨rfl,rfl⟩)
     . have h3:R47.vlD d:=W2h.1 h3
       refine Yqr (Xe5 ((l.take (0+1)).map dqD)) rfl (app h1) (W3x _) (by rw[Xec,W0i,W0j];omega) ?_
       refine Ar (0+1:Nat) rfl ?_
       exact Bk (0+1,some (Xe5 ((l.take (0+1)).map dqD)).length) [(33,600)] rfl (nxt h1 h3) (by show l.length-(0+1)<l.length-0;omega)
   . exact Rw [] [] rfl (.tup (.cons (.lit rfl) Xg0)) (.inr (.inl ⟨rfl,rfl⟩))
 . rw[if_neg hk0] at ho
   subst ho
   refine By rfl (λh2=>?_) λh2=>?_<;>simp only[lD] at h2
   . obtain⟨d,h1⟩:∃d,l[k]?=some d:=⟨_,W0a (by omega)⟩
     refine Ix k rfl (u:=dDf d) (by rw[W0t,h1];rfl) ?_
     refine Ce rfl (R47.Curve_ok (hd d (W0h h1))) ?_
     refine By rfl (λh3=>?_) λh3=>?_
     . exact Rw [] [] rfl (.tup (.cons (.nil rfl) Xg0)) (.inl ⟨rfl,rfl⟩)
     . have h3:R47.vlD d:=W2h.1 h3
       refine Ypm (Xe5 ((l.take (k+1)).map dqD)) rfl rfl rfl (app h1) (by rw[Xec,W0i,W0j];omega) ?_
       refine Ar (k+1:Nat) rfl ?_
       exact Bk (k+1,some (Xe5 ((l.take (k+1)).map dqD)).length) [(600,900),(33,600)] rfl (nxt h1 h3) (by show l.length-(k+1)<l.length-k;omega)
   . obtain rfl:k=l.length:=by omega
     have e:l.take l.length=l:=W1x
     exact Rw [(600,1000000)] [(1000000,.arr 14 (Xe5 ((l.take l.length).map dqD)))] rfl (.tup (.cons (.rf rfl) Xg0)) (.inr (.inr ⟨by omega,by omega,by rwa[e] at hv,by rw[e];rfl,by rw[e]⟩))
theorem Xzo{c:Cq}{t:Rat×Rat}(h:VQ 700 c)(ht:Qp 700 t): CN0 10 [.ptr 1000001 0,.d (dC (cvQ c)),.d (dV (v0 t))] [(1000001,cal)] (·=.d (dC (cvQ (mvQ c t)))):=by
 have hs:Qp 1401 (Xa9 (K:=0) t c.a):=⟨ht.1.add h.a.1.neg,ht.2.add h.a.2.neg⟩
 obtain⟨arc,a,b,cc,cw⟩:=c
 refine EnW Tryz.func10 λ_ _ _ _=>?_
 refine Cn [] rfl (R15.Minus_g W0 (gv0 ht) (gv0 h.a) (by decide) (by decide)) λv hv=>?_
 obtain⟨z,rfl,hz⟩:=hv
 obtain rfl:=Xcd hz
 refine Dw rfl ?_
 refine Cn [] rfl (R15.Plus_g W0 (gv0 h.b) (gv0 hs) (by decide) (by decide)) λv hv=>?_
 obtain⟨z,rfl,hz⟩:=hv
 obtain rfl:=Xcd hz
 refine Cn [] rfl (R15.Plus_g W0 (gv0 h.c) (gv0 hs) (by decide) (by decide)) λv hv=>?_
 obtain⟨z,rfl,hz⟩:=hv
 obtain rfl:=Xcd hz
 exact Rw [] [(1000001,cal)] rfl (.one (.rf rfl) rfl rfl) ⟨rfl,rfl⟩
end
section
open Go.Proofs.YtclgppjdhndgiaaGreatDoor.P55 (v0 W0 g0 gv0 zw Xcd Qp nr Xau)
abbrev dCh(l:List Dft)(cl:Bool): D:=.st (.pr (Yl9 l) (.bool cl))
def mid(L:List Cq)(k:Nat): List Cq:=(chQ L).take k++L.drop k
theorem Ye7{L:List Cq}{k:Nat}: (mid L k).length=L.length:=by
 unfold mid
 rw[W0d,W0j,W1n,Xfa];omega
theorem Yjf{L:List Cq}{k:Nat}{c:Cq}(h:L[k]?=some c): (mid L k)[k]?=some c:=by
 unfold mid
 have hk:=(W1d.1 h).1
 rw[W0o (by rw[W0j,Xfa];omega),W0j,Xfa,W2f,show k+(k-min k L.length)=k by omega,h]
theorem Yje{L:List Cq}{k:Nat}{q:Cq}(h:(chQ L)[k]?=some q): (mid L (k+1))[k]?=some q:=by
 unfold mid
 have hk:=(W1d.1 h).1
 rw[W1b (by rw[W0j];omega),W1j,if_pos (by omega),h]
theorem Ye6{L:List Cq}{k:Nat}{q:Cq}(hk:k<L.length)(h:(chQ L)[k]?=some q): (mid L k).set k q=mid L (k+1):=by
 unfold mid
 have hl:((chQ L).take k).length=k:=by rw[W0j,Xfa];omega
 rw[W6l _ _ (by omega),hl,W2v,W1c,h]
 obtain⟨c,r,e⟩:∃c r,L.drop k=c::r:=W5r (by rw[ne_eq,W5f];omega)
 have e2:L.drop (k+1)=r:=by rw[<-W4u,e];rfl
 rw[e,e2];simp
theorem Ye8{L:List Cq}: mid L L.length=chQ L:=by
 unfold mid
 rw[W7q,W3g,W0b (by rw[Xfa];exact W0c _)]
def CvP(v:AV)(H':Hpl): Prop:=(v=.tup (.pr (.d (Xd0 [])) (.b false))/\H'=[]) \/
 ∃R:List Cq,0<R.length/\R.length<=5/\(∀c∈R,VQ 700 c)/\v=.tup (.pr (.own 1000000 14 0 (Xe5 R).length) (.b true))/\H'=[(1000000,.arr 14 (Xe5 R))]
set_option maxHeartbeats 1000000 in
theorem Xx8{l:List Dft}{cl:Bool}{m:Nat}(hm:m<=4)(hl:l.length<9223372036854775808)(hd:∀d∈l,d.ok): CW0 4 [.d (dCh l cl),.d (.int .i64 m)] [] CvP:=by
 refine EnW Tryz.func4 λ_ _ _ _=>?_
 refine Cw [] rfl (Xsy (n:=m) hl (by omega) hd) λv H' _ hv=>?_
 rcases hv with ⟨rfl,rfl⟩ | ⟨rfl,rfl⟩ | ⟨h0,h4,hvl,rfl,rfl⟩
 . refine Yes rfl (by decide) ?_
   exact Rw [] [] rfl (.tup (.cons (.nil rfl) Xg0)) (.inl ⟨rfl,rfl⟩)
 . refine No rfl nofun ?_
   refine Yes rfl rfl ?_
   exact Rw [] [] rfl (.tup (.cons (.nil rfl) Xg0)) (.inl ⟨rfl,rfl⟩)
 have hL:(l.map dqD).length=l.length:=W0i ..
 have hV:∀c∈l.map dqD,VQ 64 c:=λc hc=>by
  obtain⟨d,hd',rfl⟩:=W4e.1 hc
  exact .of (hd d hd') (hvl d hd')
 have hZ:∀c∈l.map dqD,c.arc=false->c.c=zz2:=λc hc ha=>by
  obtain⟨d,_,rfl⟩:=W4e.1 hc
  exact Yns ha
 generalize l.map dqD=L at hL hV hZ
 have hK:=Ykv (by omega) hV
 have hKl:=Xfa L
 refine No rfl nofun ?_
 refine No rfl (by rw[Xec];omega) ?_
 refine Lo (λk:Nat=>[(2,.ptr 2 0),(6,.own 15 14 0 L.length),(8,.ptr 26 0),(9,.d (.int .i64 k))]) (λk=>[(2,.var (.d (dCh l cl))),(26,cal),(15,.arr 14 (Xe5 (mid L k)))]) (λk=>k<=L.length) (λk=>L.length-k) 0 [] rfl (W0x _) (λk hk=>?_) (by exact⟨by rw[Xec];rfl,rfl,rfl,rfl,rfl⟩)
 refine By rfl (λh=>?_) λh=>?_
 . have h:k<L.length:=by omega
   obtain⟨c,hc⟩:∃c,L[k]?=some c:=⟨_,W0a h⟩
   obtain⟨q,hq⟩:∃q,(chQ L)[k]?=some q:=⟨_,W0a (by omega)⟩
   have hm:=Yjf hc
   have hx:=Xrl hm
   have hcv:=(hV c (W0h hc)).mono (show 64<=700 by decide)
   have hz:=hZ c (W0h hc)
   have hset:(Xe5 (mid L k)).set k (dC (cvQ q))=Xe5 (mid L (k+1)):=by
    rw[<-Ye6 h hq]
    show _=(((mid L k).set k q).map cvQ).map dC
    rw[List.map_set,List.map_set]
   refine Eo k rfl (by omega) ?_
   refine Ld (dC (cvQ c)) rfl hx ?_
   refine Cu (some 10) (λ_:Unit=>[(2,.ptr 2 0),(6,.own 15 14 0 L.length),(8,.ptr 26 0),(9,.d (.int .i64 k))]) (λ_=>[(2,.var (.d (dCh l cl))),(26,cal),(15,.arr 14 (Xe5 (mid L k)))]) (λ_=>True) rfl ?_ λ_ _=>?_
   . obtain⟨arc,a,b,cc,cw⟩:=c
     cases arc with
     | true =>
      refine No rfl (λh=>h rfl) ?_
      exact Jn () [] rfl trivial
     | false =>
      obtain rfl:cc=zz2:=hz rfl
      refine Yes rfl nofun ?_
      refine Ce rfl (R13.Whole_ok (i:=0) (j:=0) (by decide) (by decide)) ?_
      refine Eo k rfl (by omega) ?_
      refine StF (Xe5 (mid L k)) (dC (cvQ ⟨false,a,b,zz2,cw⟩)) rfl hx (Xyz hx) ?_
      exact Jn () [] rfl trivial
   . refine By rfl (λh1=>?_) λh1=>?_
     . obtain⟨j,rfl⟩:∃j,k=j+1:=⟨k-1,by omega⟩
       obtain⟨p,hp⟩:∃p,(chQ L)[j]?=some p:=⟨_,W0a (by omega)⟩
       have hq2:=Ykw hc hp
       rw[hq] at hq2
       cases hq2
       have hpv:=hK p (W0h hp)
       have hpx:=Xrl (Yje hp)
       refine Dw rfl ?_
       refine Eo (j+1) rfl (by omega) ?_
       refine Ld (dC (cvQ c)) rfl hx ?_
       refine Ar (j:Nat) rfl ?_
       refine Eo j rfl (by omega) ?_
       refine Ld (dC (cvQ p)) rfl hpx ?_
       refine Cn [(1000001,26)] rfl (Xzo hcv hpv.b) λv hv=>?_
       subst hv
       refine Eo (j+1) rfl (by omega) ?_
       refine Sto rfl (by rw[Xec,Ye7];omega) hset ?_
       refine Ar (j+1+1:Nat) rfl ?_
       exact Bk (j+1+1) [] rfl (by omega) (by show L.length-(j+1+1)<L.length-(j+1);omega)
     . obtain rfl:k=0:=by omega
       have e1:mid L 1=mid L 0:=by
        cases L with
        | nil=>cases hc
        | cons x L=>rfl
       rw[<-e1]
       refine Ar (0+1:Nat) rfl ?_
       exact Bk (0+1) [] rfl (by omega) (by show L.length-(0+1)<L.length-0;omega)
 . obtain rfl:k=L.length:=by omega
   rw[Ye8]
   obtain⟨f,hf⟩:∃f,(chQ L)[0]?=some f:=⟨_,W0a (by omega)⟩
   obtain⟨e,he⟩:∃e,(chQ L)[L.length-1]?=some e:=⟨_,W0a (by omega)⟩
   have hfv:=hK f (W0h hf)
   have hev:=hK e (W0h he)
   have hfx:=Xrl hf
   have hex:=Xrl he
   have hml:(Xe5 (chQ L)).length=L.length:=by rw[Xec,Xfa]
   refine Ar (L.length-1:Nat) rfl ?_
   refine Eo (L.length-1) rfl (by omega) ?_
   refine Ld (dC (cvQ e)) rfl hex ?_
   refine Dw rfl ?_
   have done:CvP (.tup (.pr (.own 1000000 14 0 (Xe5 (chQ L)).length) (.b true))) [(1000000,.arr 14 (Xe5 (chQ L)))]:=.inr ⟨chQ L,by omega,by omega,hK,rfl,rfl⟩
   rw[hml] at done
   cases cl with
   | false =>
    refine No rfl nofun ?_
    refine Dw rfl ?_
    exact Rw [(15,1000000)] [(1000000,.arr 14 (Xe5 (chQ L)))] rfl (.tup (.cons (.rf rfl) Xg0)) (by rw[P11.dcT rfl];exact done)
   | true =>
    refine Yes rfl rfl ?_
    refine Eo 0 rfl (by omega) ?_
    refine Ld (dC (cvQ f)) rfl hfx ?_
    refine Ce rfl (R13.Equal_g W0 (gv0 hev.b) (gv0 hfv.a) (by decide) (by decide)) ?_
    refine By rfl (λh1=>?_) λh1=>?_
    . have h1:¬e.b=f.a:=h1
      have hn:VQ 700 ⟨false,e.b,f.a,zz2,false⟩:=⟨hev.b,hfv.a,(show Qp 700 zz2 from⟨by decide +kernel,by decide +kernel⟩),λ_=>h1,nofun⟩
      refine Dw rfl ?_
      refine Eo 0 rfl (by omega) ?_
      refine Ld (dC (cvQ f)) rfl hfx ?_
      refine Ce rfl (R13.Whole_ok (i:=0) (j:=0) (by decide) (by decide)) ?_
      refine Ypm (Xe5 (chQ L++[⟨false,e.b,f.a,zz2,false⟩])) rfl rfl hml.symm (by simp) (by rw[Xec,W0d];simp;omega) ?_
      refine Dw rfl ?_
      refine Rw [(88,1000000)] [(1000000,.arr 14 (Xe5 (chQ L++[⟨false,e.b,f.a,zz2,false⟩])))] rfl (.tup (.cons (.rf rfl) Xg0)) ?_
      rw[P11.dcT rfl]
      refine .inr ⟨_,by rw[W0d];simp,by rw[W0d];simp;omega,λc hc=>?_,rfl,rfl⟩
      rcases W2j.1 hc with hc | hc
      . exact hK c hc
      . obtain rfl:=W0g.1 hc;exact hn
    . refine Dw rfl ?_
      exact Rw [(15,1000000)] [(1000000,.arr 14 (Xe5 (chQ L)))] rfl (.tup (.cons (.rf rfl) Xg0)) (by rw[P11.dcT rfl];exact done)
end
end Go.Proofs.YtclgppjdhndgiaaGreatDoor.P57
namespace Go.Proofs.YtclgppjdhndgiaaGreatDoor
open Go Go.Vm Go.Num
theorem Xn2: Reads Tryz.prog 24 λd=>∃(l:List Dft) (c:Bool),d=P57.dCh l c/\l.length<9223372036854775808/\∀x∈l,x.ok :=
 (Xgr Tryz.underlying24 (.cons (n:=1) rfl Xl8 (by kernel_rfl) (.one rfl (Xgd Tryz.underlying4))) (λf hf=>by cases hf;kernel_rfl)).mono λd hd=>by
  obtain⟨_,rfl,_,_,rfl,⟨l,rfl,h1,h2⟩,⟨c,rfl⟩⟩:=hd
  exact⟨l,c,rfl,h1,h2⟩
theorem Xxu: Arg Tryz.prog 24 λd=>∃(l:List Dft) (c:Bool),d=P57.dCh l c/\l.length<9223372036854775808/\∀x∈l,x.ok:=Xst Tryz.underlying24 Xn2 λx ⟨_,_,e,_⟩=>by rw[e];rfl
end Go.Proofs.YtclgppjdhndgiaaGreatDoor
namespace Go.Proofs.YtclgppjdhndgiaaGreatDoor.P57
open Go Go.Vm Go.Num Go.Tow Go.Proofs.YtclgppjdhndgiaaGreatDoor
section
end
section
open Go.Proofs.YtclgppjdhndgiaaGreatDoor.P55 (Wv dWv dWs)
def OkW: Wv->List UInt8->Prop
 | .mk u,t=>t=u
 | .nu x,t=>∃ng a b,prs t=some (ng,a,b)/\inI x.k x.t x.a (P11.loQ ng a b) (P11.hiQ ng a b)
def Xx6(R:List Cq)(c e:Cq)(s:List UInt8): Prop:=Lnk R/\(rdP (spl s)).isSome=true/\(wds R c e).length=(spl s).length/\∀(i:Nat) (w:Wv) (t:List UInt8),(wds R c e)[i]?=some w->(spl s)[i]?=some t->OkW w t
theorem Ya8{x:Nm}{t:List UInt8}(H:P11.Pk x)(ht:Tx t): C0 23 [.d (dN x),.d (.str t)] (·=.b (dc (OkW (.nu x) t))):=by
 cases hp:prs t with
 | none=>exact(P11.Within_no ht hp).mono λv e=>e.trans (congrArg AV.b (P11.dcF λ⟨_,_,_,h,_⟩=>by rw[hp] at h;cases h).symm)
 | some r =>
  obtain⟨ng,a,b⟩:=r
  exact(P11.Within_yes H ht hp).mono λv e=>e.trans (congrArg AV.b (W3p.2 (Xal.trans ⟨λh=>Xal.2 ⟨ng,a,b,hp,h⟩,λh=>by
   obtain⟨_,_,_,h1,h2⟩:=Xal.1 h
   rw[hp] at h1
   cases h1
   exact h2⟩)))
theorem Yg7{R:List Cq}{c e:Cq}{s:List UInt8}(hs:s.length<=1000)(hR:R.length<=5)(hc:R[0]?=some c)(he:R[R.length-1]?=some e)(hv:∀c∈R,VQ 700 c): C0 6 [.d (Xd0 (R.map cvQ)),.d (.str s)] (·=.b (dc (Xx6 R c e s))):=by
 have hm:=W0h hc
 have h0:0<R.length:=(W1d.1 hc).1
 have hP:=Xzv (by omega) h0 hv
 have hW:=Ydn (by omega) hc he hv
 have hnb:=Ybl (e:=e) hm hv
 have hPt:=P56.Points_ok (s:=s) (by omega)
 have hSp:=Split_ok (s:=s) (by omega)
 have hwl:=Xs6 (R:=R) (c:=c) (e:=e)
 have hdef:Xx6 R c e s=(Lnk R/\(rdP (spl s)).isSome=true/\(wds R c e).length=(spl s).length/\∀(i:Nat) (w:Wv) (t:List UInt8),(wds R c e)[i]?=some w->(spl s)[i]?=some t->OkW w t):=rfl
 have hsl:=λw hw=>Xe0 s w hw
 have hcl:(spl s).length<=1001:=by
  have:=Xbj s
  have:=W4l (a:=(32:UInt8)) (l:=s)
  omega
 rw[hdef]
 generalize wds R c e=W at hW hnb hwl
 generalize spl s=T at hPt hSp hsl hcl
 have lm:(W.map dWv).length=W.length:=W0i ..
 have lt:(T.map D.str).length=T.length:=W0i ..
 refine En Tryz.func6 λ_ _ _=>?_
 refine Ce rfl hP ?_
 refine By rfl (λh1=>?_) λh1=>?_
 . have h1:¬Lnk R:=by simpa [Xa4,Xal] using h1
   rw[P11.dcF λh=>h1 h.1]
   exact R0
 have hL:Lnk R:=by simpa [Xa4,Xal] using h1
 cases hr:rdP T with
 | none =>
  rw[hr] at hPt
  refine Ce rfl hPt ?_
  refine Yes rfl (by decide) ?_
  rw[P11.dcF λh=>by cases h.2.1]
  exact R0
 | some ps =>
 rw[hr] at hPt
 refine Ce rfl hPt ?_
 refine No rfl (by decide) ?_
 refine Ce rfl hW ?_
 refine Ce rfl hSp ?_
 refine No rfl (by decide) ?_
 refine By rfl (λh2=>?_) λh2=>?_<;>simp only[lm,lt] at h2
 . rw[P11.dcF λh=>h2 (by rw[h.2.2.1])]
   exact R0
 have hTW:W.length=T.length:=by omega
 refine Lo (λk:Nat=>[(9,.d (dXs T)),(38,.d (dWs W)),(39,.d (.int .i64 (W.map dWv).length)),(40,.d (.int .i64 k))]) (λ_=>[]) (λk=>k<=W.length/\∀(i:Nat) (w:Wv) (t:List UInt8),i<k->W[i]?=some w->T[i]?=some t->OkW w t) (λk=>W.length-k) 0 [] rfl ⟨W0x _,λ_ _ _ h=>absurd h (by omega)⟩ λk ⟨hk,hI⟩=>?_
 refine By rfl (λh=>?_) λh=>?_<;>simp only[lm] at h
 . obtain⟨w,hw⟩:∃w,W[k]?=some w:=⟨_,W0a (by omega)⟩
   obtain⟨t,ht⟩:∃t,T[k]?=some t:=⟨_,W0a (by omega)⟩
   have hn:=hnb w (W0h hw)
   have htx:Tx t:=by have:=hsl t (W0h ht);show _<_;omega
   have hx:(W.map dWv)[k]?=some (dWv w):=by rw[W0t,hw];rfl
   have hy:(T.map D.str)[k]?=some (.str t):=by rw[W0t,ht];rfl
   have bad:¬OkW w t->dc (Lnk R/\(some ps).isSome=true/\W.length=T.length/\∀(i:Nat) (w:Wv) (t:List UInt8),W[i]?=some w->T[i]?=some t->OkW w t)=false:=λh=>P11.dcF λk'=>h (k'.2.2.2 k w t hw ht)
   have nxt:OkW w t->k+1<=W.length/\∀(i:Nat) (w:Wv) (t:List UInt8),i<k+1->W[i]?=some w->T[i]?=some t->OkW w t:=λho=>⟨by omega,λi w' t' hi h3 h4=>by
    by_cases e:i=k
    . subst e
      rw[hw] at h3;rw[ht] at h4
      cases h3;cases h4;exact ho
    . exact hI i w' t' (by omega) h3 h4⟩
   refine Ix k rfl hx ?_
   cases w with
   | mk u =>
    refine Dw rfl ?_
    refine No rfl nofun ?_
    refine Yes rfl (by decide) ?_
    refine Ix k rfl hy ?_
    refine By rfl (λh3=>?_) λh3=>?_
    . rw[bad h3]
      exact R0
    . refine Ar (k+1:Nat) rfl ?_
      exact Bk (k+1) [] rfl (nxt (W2h.1 h3)) (by show W.length-(k+1)<W.length-k;omega)
   | nu x =>
    refine Dw rfl ?_
    refine Yes rfl rfl ?_
    refine Ix k rfl hy ?_
    refine Ce rfl (Ya8 (show Nb x from hn).p htx) ?_
    refine By rfl (λh3=>?_) λh3=>?_
    . rw[bad h3]
      exact R0
    . refine No rfl nofun ?_
      refine Ar (k+1:Nat) rfl ?_
      exact Bk (k+1) [] rfl (nxt (W2h.1 h3)) (by show W.length-(k+1)<W.length-k;omega)
 . rw[P11.dcT ⟨hL,rfl,hTW,λi w t h3 h4=>hI i w t (by have:=(W1d.1 h3).1;omega) h3 h4⟩]
   exact R0
end
section
open Go.Proofs.YtclgppjdhndgiaaGreatDoor.P55 (Wv dWv dWs)
theorem Xul{x:Nm}{t:List UInt8}(H:P11.Pk x)(ht:Tx t): C0 28 [.d (dN x),.d (.str t)] (·=.b (dc (OkW (.nu x) t))):=by
 cases hp:prs t with
 | none=>exact(R11.Within_no ht hp).mono λv e=>e.trans (congrArg AV.b (P11.dcF λ⟨_,_,_,h,_⟩=>by rw[hp] at h;cases h).symm)
 | some r =>
  obtain⟨ng,a,b⟩:=r
  exact(R11.Within_yes H ht hp).mono λv e=>e.trans (congrArg AV.b (W3p.2 (Xal.trans ⟨λh=>Xal.2 ⟨ng,a,b,hp,h⟩,λh=>by
   obtain⟨_,_,_,h1,h2⟩:=Xal.1 h
   rw[hp] at h1
   cases h1
   exact h2⟩)))
theorem Yg8{R:List Cq}{c e:Cq}{s:List UInt8}(hs:s.length<=1000)(hR:R.length<=5)(hc:R[0]?=some c)(he:R[R.length-1]?=some e)(hv:∀c∈R,VQ 700 c): C0 7 [.d (Xd0 (R.map cvQ)),.d (.str s)] (·=.b (dc (Xx6 R c e s))):=by
 have hm:=W0h hc
 have h0:0<R.length:=(W1d.1 hc).1
 have hP:=Yei (by omega) h0 hv
 have hW:=Xza (by omega) hc he hv
 have hnb:=Ybl (e:=e) hm hv
 have hPt:=R56.Points_ok (s:=s) (by omega)
 have hSp:=R56.Split_ok (s:=s) (by omega)
 have hwl:=Xs6 (R:=R) (c:=c) (e:=e)
 have hdef:Xx6 R c e s=(Lnk R/\(rdP (spl s)).isSome=true/\(wds R c e).length=(spl s).length/\∀(i:Nat) (w:Wv) (t:List UInt8),(wds R c e)[i]?=some w->(spl s)[i]?=some t->OkW w t):=rfl
 have hsl:=λw hw=>Xe0 s w hw
 have hcl:(spl s).length<=1001:=by
  have:=Xbj s
  have:=W4l (a:=(32:UInt8)) (l:=s)
  omega
 rw[hdef]
 generalize wds R c e=W at hW hnb hwl
 generalize spl s=T at hPt hSp hsl hcl
 have lm:(W.map dRw).length=W.length:=W0i ..
 have lt:(T.map D.str).length=T.length:=W0i ..
 refine En Tryz.func7 λ_ _ _=>?_
 refine Ce rfl hP ?_
 refine By rfl (λh1=>?_) λh1=>?_
 . have h1:¬Lnk R:=by simpa [Xa4,Xal] using h1
   rw[P11.dcF λh=>h1 h.1]
   exact R0
 have hL:Lnk R:=by simpa [Xa4,Xal] using h1
 refine Ce rfl hW ?_
 refine Ce rfl hSp ?_
 refine No rfl (by decide) ?_
 refine By rfl (λh2=>?_) λh2=>?_<;>simp only[lm,lt] at h2
 . rw[P11.dcF λh=>h2 (by rw[h.2.2.1])]
   exact R0
 have hTW:W.length=T.length:=by omega
 cases hr:rdP T with
 | none =>
  rw[hr] at hPt
  refine Ce rfl hPt ?_
  refine Yes rfl (by decide) ?_
  rw[P11.dcF λh=>by cases h.2.1]
  exact R0
 | some ps =>
 rw[hr] at hPt
 refine Ce rfl hPt ?_
 refine No rfl (by decide) ?_
 refine Lo (λk:Nat=>[(5,.d (Ynv W)),(7,.d (dXs T)),(10,.d (.int .i64 k))]) (λ_=>[]) (λk=>k<=W.length/\∀(i:Nat) (w:Wv) (t:List UInt8),i<k->W[i]?=some w->T[i]?=some t->OkW w t) (λk=>W.length-k) 0 [] rfl ⟨W0x _,λ_ _ _ h=>absurd h (by omega)⟩ λk ⟨hk,hI⟩=>?_
 refine By rfl (λh=>?_) λh=>?_<;>simp only[lm] at h
 . obtain⟨w,hw⟩:∃w,W[k]?=some w:=⟨_,W0a (by omega)⟩
   obtain⟨t,ht⟩:∃t,T[k]?=some t:=⟨_,W0a (by omega)⟩
   have hn:=hnb w (W0h hw)
   have htx:Tx t:=by have:=hsl t (W0h ht);show _<_;omega
   have hx:(W.map dRw)[k]?=some (dRw w):=by rw[W0t,hw];rfl
   have hy:(T.map D.str)[k]?=some (.str t):=by rw[W0t,ht];rfl
   have bad:¬OkW w t->dc (Lnk R/\(some ps).isSome=true/\W.length=T.length/\∀(i:Nat) (w:Wv) (t:List UInt8),W[i]?=some w->T[i]?=some t->OkW w t)=false:=λh=>P11.dcF λk'=>h (k'.2.2.2 k w t hw ht)
   have nxt:OkW w t->k+1<=W.length/\∀(i:Nat) (w:Wv) (t:List UInt8),i<k+1->W[i]?=some w->T[i]?=some t->OkW w t:=λho=>⟨by omega,λi w' t' hi h3 h4=>by
    by_cases e:i=k
    . subst e
      rw[hw] at h3;rw[ht] at h4
      cases h3;cases h4;exact ho
    . exact hI i w' t' (by omega) h3 h4⟩
   refine Dw rfl ?_
   refine Ix k rfl hx ?_
   cases w with
   | mk u =>
    have hu:u≠[]:=λe=>by have h1:u.length=1:=hn.1;rw[e] at h1;cases h1
    refine Yes rfl hu ?_
    refine Ix k rfl hx ?_
    refine Ix k rfl hy ?_
    refine By rfl (λh3=>?_) λh3=>?_
    . rw[bad λh=>h3 h.symm]
      exact R0
    . refine Ix k rfl hx ?_
      refine No rfl hu ?_
      refine Ar (k+1:Nat) rfl ?_
      exact Bk (k+1) [] rfl (nxt (W2h.1 h3).symm) (by show W.length-(k+1)<W.length-k;omega)
   | nu x =>
    refine No rfl (λh=>h rfl) ?_
    refine Ix k rfl hx ?_
    refine Yes rfl rfl ?_
    refine Ix k rfl hx ?_
    refine Ix k rfl hy ?_
    refine Ce rfl (Xul (show Nb x from hn).p htx) ?_
    refine By rfl (λh3=>?_) λh3=>?_
    . rw[bad h3]
      exact R0
    . refine Ar (k+1:Nat) rfl ?_
      exact Bk (k+1) [] rfl (nxt (W2h.1 h3)) (by show W.length-(k+1)<W.length-k;omega)
 . rw[P11.dcT ⟨hL,rfl,hTW,λi w t h3 h4=>hI i w t (by have:=(W1d.1 h3).1;omega) h3 h4⟩]
   exact R0
theorem DrawingError_ok{l:List Dft}{cl:Bool}{s:List UInt8}(hl:l.length<9223372036854775808)(hd:∀d∈l,d.ok): C0 3 [.d (dCh l cl),.d (.str s)] (·=.b true):=by
 refine En Tryz.func3 λ_ _ _=>?_
 refine Cw [] rfl (Xx8 (m:=3) (by decide) hl hd) λv H' _ hv=>?_
 rcases hv with ⟨rfl,rfl⟩ | ⟨R,h0,h5,hv,rfl,rfl⟩
 . refine Ce rfl P55.aw55_ok ?_
   refine No rfl nofun ?_
   refine Yes rfl (by decide) ?_
   refine Ce rfl P55.aw55_ok ?_
   exact R0
 have hq:(Xe5 R).length=R.length:=Xec
 refine Fz 2 5 (Xe5 R) rfl (by omega) (by rw[W1a,W0b (by omega)]) ?_
 refine Ce rfl P55.aw55_ok ?_
 refine No rfl nofun ?_
 refine No rfl nofun ?_
 refine By rfl (λh=>?_) λh=>?_
 . refine Ce rfl P55.aw55_ok ?_
   exact R0
 have hs:s.length<=1000:=by
  have h:¬(s.length:Int)>1000:=h
  omega
 obtain⟨c,hc⟩:∃c,R[0]?=some c:=⟨_,W0a (by omega)⟩
 obtain⟨e,he⟩:∃e,R[R.length-1]?=some e:=⟨_,W0a (by omega)⟩
 have hE:=Yg7 hs (by omega) hc he hv
 have hC:=Yg8 hs (by omega) hc he hv
 generalize dc (Xx6 R c e s)=b at hE hC
 refine Ce rfl hE ?_
 refine Ce rfl hC ?_
 exact Rt rfl (.one (.rf rfl) rfl rfl) (by exact congrArg AV.b (Xal.2 (W4a (a:=b=true))))
end
end Go.Proofs.YtclgppjdhndgiaaGreatDoor.P57

/- part 6 -/
import Derived.Test.YtjcejnjhfcbafaaGreatDoorXE
import Derived.Shelf.Strings.BuilderK
import Derived.RangeFuncCalls
set_option linter.unusedVariables false
set_option linter.unusedSimpArgs false
set_option maxRecDepth 100000
set_option maxHeartbeats 4000000
namespace Go.Proofs.YtjcejnjhfcbafaaGreatDoor
open Go Go.Vm Go.Num Go.Proofs Go.Shelf Go.RowKit
section
def pa6 : Option (List Nat)→AV
 | none=>.nil
 | some w=>.own 600 1 0 w.length
def paH : Option (List Nat)→Hpl
 | none=>[(2,.var (.st (.pr (.b false) .nil)))]
 | some w=>[(2,.var (.st (.pr (.b false) .nil))),(600,.arr 1 (w.map wd))]
def paI (s d : List UInt8) : Option (List Nat)→Prop
 | none=>d=s
 | some w=>∃ u,s=u++d∧w=dig (Xbg u)∧0<Xbg u
theorem Xzd {c : Nat} (h : c<4294967296) (h0 : 0<c) : dig c=[c]:=by
 have h1 : val [c]=c:=by simp [val]
 have:=Xc3 (l:=[c]) (fun x hx=>by rw [W0g.1 hx];exact h) (Xff (fun x hx=>by rw [W0g.1 hx];exact h) (by simp) (by rw [h1];have : 4294967296 ^ ([c].length - 1)=1:=rfl;omega))
 rwa [h1] at this
theorem Xk7 {l : List UInt8} (h : ∀ b∈l,Xe9 b) : (dig (Xbg l)).length≤l.length :=
 Xao (W0t (Xiq h) (W6d (by decide) _))
theorem Xzy {s : List UInt8} (hs : ∀ b∈s,Xe9 b) (hl : s.length≤65536) (h0 : ∃ b l,s=b::l∧48<b.toNat) : C0 102 [.d (.str s)] (·=.tup (.pr (.d (dz (Xbg s))) (.d (.int .i64 0)))):=by
 obtain ⟨b,l,hbl,hb⟩:=h0
 have hcp : C0 35 [.d (.str s),.d (.str [45])] (·=.tup (.pr (.d (.str s)) (.b false))):=by
  have hn : ¬ s.take [(45 : UInt8)].length=[45]:=fun e=>by
   rw [hbl] at e
   have : b=45:=by simpa using e
   rw [this] at hb;exact absurd hb (by decide)
  refine (Xee (s:=s) (t:=[45]) (by show s.length<_;omega) (by decide)).mono fun v hv=>?_
  rw [hv,if_neg hn]
  congr 3
  exact W3e.2 fun e=>hn (Xau.1 e)
 refine En Tryz.func102 fun _ _ _=>?_
 refine No rfl (by omega) ?_
 refine Ce rfl hcp ?_
 refine No rfl (by rw [hbl];simp) ?_
 refine Yx 0 b rfl (by rw [hbl];rfl) ?_
 refine No rfl (fun e=>by omega) ?_
 refine Lo (fun ((d,o) : List UInt8 × Option (List Nat))=>[(2,.ptr 2 0),(3,.d (.int .i64 0)),(4,.d (.str d)),(5,.b false),(6,pa6 o)]) (fun (_,o)=>paH o)
  (fun (d,o)=>d.length≤s.length∧(∀ b∈d,Xe9 b)∧paI s d o) (fun (d,_)=>d.length) (s,none) [] rfl ⟨W0b _,hs,rfl⟩ ?_ (by exact ⟨rfl,rfl,rfl,rfl,rfl⟩)
 rintro ⟨d,o⟩ ⟨hdl,hdd,hI⟩
 cases o with
 | none =>
  refine By rfl (fun hd0=>?_) fun hd0=>?_
  · obtain ⟨n,hn⟩ : ∃ n,n=(d.length - 1) % 9+1:=⟨_,rfl⟩
    refine Ar (d.length - 1 : Nat) rfl ?_
    refine Ar ((d.length - 1) % 9 : Nat) rfl ?_ (reN (b:=9) (by decide) rfl)
    refine Ar (n : Nat) rfl ?_
    have hnl : n≤d.length:=by omega
    refine Lo (fun (i : Nat)=>[(2,.ptr 2 0),(3,.d (.int .i64 0)),(4,.d (.str d)),(5,.b false),(6,pa6 (none)),(7,.d (.int .i64 n)),(8,.d (.int .u64 (Xbg (d.take i) : Nat))),(9,.d (.int .u64 (10 ^ i : Nat))),(46,.d (.int .i64 n)),(47,.d (.int .i64 i))]) (fun _=>paH (none)) (fun i=>i≤n) (fun i=>n - i) 0 [] rfl (W1c _) ?_ (by exact ⟨rfl,rfl,rfl,rfl,rfl⟩)
    intro i hi
    have htk : ∀ j,j≤n→Xbg (d.take j)<10 ^ j∧10 ^ j≤10 ^ 9:=fun j hj=>by
     have:=Xiq (l:=d.take j) fun b hb=>hdd b (W5l hb)
     rw [W0k,W1s (by omega)] at this
     exact ⟨this,W0i (by decide) (by omega)⟩
    refine By rfl (fun hlt=>?_) fun hlt=>?_
    · obtain ⟨x,hx⟩ : ∃ x,d[i]?=some x:=⟨_,W0e (by omega)⟩
      have hxd:=hdd x (W0m hx)
      unfold Xe9 at hxd
      have hsn : d.take (i+1)=d.take i++[x]:=by rw [W1r,hx];rfl
      have hv:=Xbw (d.take i) x
      rw [←hsn] at hv
      have h1:=htk i (by omega)
      have h2:=htk (i+1) (by omega)
      refine Yx i x rfl hx ?_
      refine No rfl (by omega) ?_
      refine No rfl (by omega) ?_
      refine Ar (10*Xbg (d.take i) : Nat) rfl ?_
      refine Ar (x.toNat - 48 : Nat) rfl ?_
      refine Cv (x.toNat - 48 : Nat) rfl ?_
      refine Ar (Xbg (d.take (i+1)) : Nat) rfl ?_
      refine Ar (10 ^ (i+1) : Nat) rfl ?_ (wr (by rw [W0p];simp) (by simp only [inK];omega))
      refine Ar (i+1 : Nat) rfl ?_
      exact Bk (i+1) [] rfl (show i+1≤n by omega) (show n - (i+1)<n - i by omega) (by exact ⟨rfl,rfl,rfl,rfl,rfl⟩)
    · have hin : i=n:=by omega
      subst hin
      obtain ⟨c0,hc0⟩ : ∃ c,c=Xbg (d.take i):=⟨_,rfl⟩
      obtain ⟨F,hF⟩ : ∃ F,F=10 ^ i:=⟨_,rfl⟩
      have h1:=htk i (W0b _)
      rw [←hc0,←hF] at h1
      have hds : d=s:=hI
      refine Lo (fun (_ : Unit)=>[(2,.ptr 2 0),(3,.d (.int .i64 0)),(4,.d (.str d)),(5,.b false),(6,.nil),(7,.d (.int .i64 i)),(8,.d (.int .u64 c0)),(70,.d (.int .i64 0)),(71,.d (.int .i64 0))]) (fun _=>[(2,.var (.st (.pr (.b false) .nil)))]) (fun _=>True) (fun _=>0) () [] rfl trivial ?_ (by exact ⟨by rw [hc0];rfl,rfl,rfl,rfl,rfl⟩)
      intro _ _
      refine No rfl (by decide) ?_
      have hcp : 0<c0:=by
       rw [hc0,hds,hbl]
       obtain ⟨q,hq⟩ : ∃ q,i=q+1:=⟨i - 1,by omega⟩
       rw [hq,List.take_succ_cons]
       exact Xy7 hb
      refine Yes rfl (by omega) ?_
      refine Cv c0 rfl ?_
      refine ApW rfl (by simp) (by simp) ?_
      refine Sdp i (d.drop i) rfl (by omega) rfl ?_
      refine Bk (d.drop i,some [c0]) [(97,600)] rfl ⟨by simp only [W1p];omega,fun b hb=>hdd b (W5z hb),d.take i,by rw [←hds,W3v],by rw [←hc0,Xzd (by omega) hcp],by rw [←hc0];exact hcp⟩ (by show (d.drop i).length<d.length;rw [W1p];omega) (by exact ⟨rfl,rfl,rfl,rfl,rfl⟩)
  · exact absurd (show d=s from hI) (fun e=>by rw [e,hbl] at hd0;simp at hd0)
 | some w =>
  obtain ⟨u,hu,hw,hv0⟩:=hI
  refine By rfl (fun hd0=>?_) fun hd0=>?_
  · obtain ⟨n,hn⟩ : ∃ n,n=(d.length - 1) % 9+1:=⟨_,rfl⟩
    refine Ar (d.length - 1 : Nat) rfl ?_
    refine Ar ((d.length - 1) % 9 : Nat) rfl ?_ (reN (b:=9) (by decide) rfl)
    refine Ar (n : Nat) rfl ?_
    have hnl : n≤d.length:=by omega
    refine Lo (fun (i : Nat)=>[(2,.ptr 2 0),(3,.d (.int .i64 0)),(4,.d (.str d)),(5,.b false),(6,pa6 (some w)),(7,.d (.int .i64 n)),(8,.d (.int .u64 (Xbg (d.take i) : Nat))),(9,.d (.int .u64 (10 ^ i : Nat))),(46,.d (.int .i64 n)),(47,.d (.int .i64 i))]) (fun _=>paH (some w)) (fun i=>i≤n) (fun i=>n - i) 0 [] rfl (W1c _) ?_ (by exact ⟨rfl,rfl,rfl,rfl,rfl⟩)
    intro i hi
    have htk : ∀ j,j≤n→Xbg (d.take j)<10 ^ j∧10 ^ j≤10 ^ 9:=fun j hj=>by
     have:=Xiq (l:=d.take j) fun b hb=>hdd b (W5l hb)
     rw [W0k,W1s (by omega)] at this
     exact ⟨this,W0i (by decide) (by omega)⟩
    refine By rfl (fun hlt=>?_) fun hlt=>?_
    · obtain ⟨x,hx⟩ : ∃ x,d[i]?=some x:=⟨_,W0e (by omega)⟩
      have hxd:=hdd x (W0m hx)
      unfold Xe9 at hxd
      have hsn : d.take (i+1)=d.take i++[x]:=by rw [W1r,hx];rfl
      have hv:=Xbw (d.take i) x
      rw [←hsn] at hv
      have h1:=htk i (by omega)
      have h2:=htk (i+1) (by omega)
      refine Yx i x rfl hx ?_
      refine No rfl (by omega) ?_
      refine No rfl (by omega) ?_
      refine Ar (10*Xbg (d.take i) : Nat) rfl ?_
      refine Ar (x.toNat - 48 : Nat) rfl ?_
      refine Cv (x.toNat - 48 : Nat) rfl ?_
      refine Ar (Xbg (d.take (i+1)) : Nat) rfl ?_
      refine Ar (10 ^ (i+1) : Nat) rfl ?_ (wr (by rw [W0p];simp) (by simp only [inK];omega))
      refine Ar (i+1 : Nat) rfl ?_
      exact Bk (i+1) [] rfl (show i+1≤n by omega) (show n - (i+1)<n - i by omega) (by exact ⟨rfl,rfl,rfl,rfl,rfl⟩)
    · have hin : i=n:=by omega
      subst hin
      obtain ⟨c0,hc0⟩ : ∃ c,c=Xbg (d.take i):=⟨_,rfl⟩
      obtain ⟨F,hF⟩ : ∃ F,F=10 ^ i:=⟨_,rfl⟩
      have h1:=htk i (W0b _)
      rw [←hc0,←hF] at h1
      have hww : Xar w:=by rw [hw];exact Xad _
      have hvw : val w=Xbg u:=by rw [hw,Xaf]
      have hwl : w.length≤65536:=by
       rw [hw]
       refine W0h (Xk7 fun b hb=>hs b (by rw [hu];exact W2d _ hb)) ?_
       rw [hu,W0c] at hl
       omega
      refine Lo (fun ((j,lo,cr) : Nat × List Nat × Nat)=>[(2,.ptr 2 0),(3,.d (.int .i64 0)),(4,.d (.str d)),(5,.b false),(6,.own 600 1 0 w.length),(7,.d (.int .i64 i)),(8,.d (.int .u64 cr)),(9,.d (.int .u64 F)),(70,.d (.int .i64 w.length)),(71,.d (.int .i64 j))]) (fun (_,lo,_)=>[(2,.var (.st (.pr (.b false) .nil))),(600,.arr 1 (lo.map wd))])
       (fun (j,lo,cr)=>j≤w.length∧lo.length=w.length∧Xar lo∧cr<F∧val (lo.take j)+4294967296 ^ j*cr=val (w.take j)*F+c0∧lo.drop j=w.drop j) (fun (j,_,_)=>w.length - j) (0,w,c0) [] rfl ⟨W1c _,rfl,hww,h1.1,by simp [val],rfl⟩ ?_ (by exact ⟨by rw [hc0,hF];rfl,rfl,rfl,rfl,rfl⟩)
      rintro ⟨j,lo,cr⟩ ⟨hj,hlo,hwo,hcr,hval,hdr⟩
      refine By rfl (fun hlt=>?_) fun hlt=>?_
      · obtain ⟨x,hx⟩:=xat (l:=lo) (k:=j) (by omega)
        have hxb:=ww hx hwo
        have hxw : w[j]?=some x:=by
         have:=congrArg (fun l=>l[0]?) hdr
         simpa [hx] using this.symm
        have hxF : x*F≤4294967295*F:=W0z F (by omega)
        obtain ⟨s1,hs1⟩ : ∃ s1,s1=cr+x*F:=⟨_,rfl⟩
        have hs1b : s1<4294967296*F:=by omega
        refine Eo j rfl (by omega) ?_
        refine Ld (wd x) rfl (mp hx) ?_
        refine Cv x rfl ?_
        refine Ar (x*F : Nat) rfl ?_ (wr (W2w ..).symm (by simp only [inK];omega))
        refine Ar s1 rfl ?_
        refine Cv (s1 % 4294967296 : Nat) rfl ?_ (by rw [wWm];omega)
        refine Eo j rfl (by omega) ?_
        refine Sto rfl (by simp;omega) ms ?_
        refine Ar (s1 / 2 ^ 32 : Nat) rfl ?_ (Xhr (n:=32) (by decide))
        refine Ar (j+1 : Nat) rfl ?_
        refine Bk (j+1,lo.set j (s1 % 4294967296),s1 / 2 ^ 32) [] rfl ⟨by omega,by simp [hlo],Xgi hwo (by omega),W4j (by simpa using hs1b),?_,?_⟩ (by show w.length - (j+1)<w.length - j;omega) (by exact ⟨rfl,rfl,rfl,rfl,rfl⟩)
        · rw [Xa9 (by omega),Xac hxw,W1h,W0p]
          have h3 : 4294967296 ^ j*s1=4294967296 ^ j*cr+4294967296 ^ j*x*F:=by rw [hs1,W0x,W0s]
          have h4 : 4294967296 ^ j*(s1 % 4294967296)+4294967296 ^ j*4294967296*(s1 / 2 ^ 32)=4294967296 ^ j*s1:=by
           rw [W0s,←W0x]
           congr 1
           omega
          omega
        · rw [List.drop_set_of_lt (by omega)]
          have:=congrArg (List.drop 1) hdr
          rw [W5s,W5s] at this
          exact this
      · have hje : j=w.length:=by omega
        have hval' : val lo+4294967296 ^ lo.length*cr=Xbg u*F+c0:=by
         rw [hje,W0a (by omega),W0a (W0b _),hvw] at hval
         rw [hlo];exact hval
        have hv' : Xbg (u++d.take i)=Xbg u*F+c0:=by
         rw [Xdu,W0k,W1s hnl,←hF,←hc0]
        have hsd : s=(u++d.take i)++d.drop i:=by rw [W2q,W3v];exact hu
        have hF0 : 0<F:=by rw [hF];exact W6w (by decide)
        have hgrow : Xbg u≤Xbg u*F:=W4i _ hF0
        refine By rfl (fun hc=>?_) fun hc=>?_
        · refine Cv cr rfl ?_
          refine ApO ((lo++[cr]).map wd) rfl rfl (by simp [hlo]) (by simp;rfl) (by simp;omega) ?_
          refine Sdp i (d.drop i) rfl (by omega) rfl ?_
          refine Bk (d.drop i,some (lo++[cr])) [(97,600)] rfl ⟨by simp only [W1p];omega,fun b hb=>hdd b (W5z hb),u++d.take i,hsd,?_,by omega⟩ (by show (d.drop i).length<d.length;rw [W1p];omega) (by exact ⟨by simp only [W0r];rfl,rfl,rfl,rfl,rfl⟩)
          have hva : val (lo++[cr])=Xbg u*F+c0:=by rw [Xco,←hval'];simp [val]
          rw [hv',←hva]
          refine (Xc3 (hwo.app (.cons (by omega) .nil)) (Xff (hwo.app (.cons (by omega) .nil)) (by simp) ?_)).symm
          rw [Xco,W0c,W4s,W3m]
          have : 4294967296 ^ lo.length*1≤4294967296 ^ lo.length*val [cr]:=W0q _ (by simp [val];omega)
          omega
        · refine Sdp i (d.drop i) rfl (by omega) rfl ?_
          refine Bk (d.drop i,some lo) [] rfl ⟨by simp only [W1p];omega,fun b hb=>hdd b (W5z hb),u++d.take i,hsd,?_,by omega⟩ (by show (d.drop i).length<d.length;rw [W1p];omega) (by exact ⟨by simp only [pa6,hlo];rfl,rfl,rfl,rfl,rfl⟩)
          have hcr0 : cr=0:=by omega
          rw [hcr0,W3d,W2k] at hval'
          rw [hv',←hval']
          have hlb:=Xmt (n:=Xbg u) (by omega)
          rw [←hw] at hlb
          have hl0 : 0<w.length:=by
           rw [hw];exact W4z.2 fun e=>by have:=Xsf.1 e;omega
          exact (Xc3 hwo (Xff hwo (by omega) (by rw [hlo];omega))).symm
  · have hd0 : d=[]:=W2g.1 (by omega)
    subst hd0
    rw [W3a] at hu
    subst hu
    subst hw
    have hdl:=Xk7 hs
    refine Fz 29 6 ((dig (Xbg s)).map wd) rfl (by simp) (by rw [W1d,W0a (by simp)]) ?_
    refine Ce rfl (Xak (b:=false) (n:=Xbg s) (by omega)) ?_
    exact R0t
end
section
theorem Xvb {q n : Nat} {l : List Nat} (hw : Xar l) (hq : q+n≤l.length) (hl : n≤1099511627776) : CN0 82 [.own 1000001 1 q n] [(1000001,.arr 1 (l.map wd))] fun v=>∃ k,k≤n∧v=.own 1000001 1 q k∧(l.drop q).take k=dig (val ((l.drop q).take n)):=by
 have dtk : ∀ {m k : Nat},k<m→((l.drop q).take m)[k]?=l[q+k]?:=fun h=>by rw [W1e,if_pos h,W2c]
 have Xxe : ∀ {m : Nat},q+m≤l.length→((l.drop q).take m).length=m:=fun h=>by rw [W0k,W1p];omega
 refine EnW Tryz.func82 fun _ _ _ _=>?_
 refine Lo (fun k=>[(0,.own 1000001 1 q k)]) (fun _=>[(1000001,.arr 1 (l.map wd))]) (fun k=>k≤n∧val ((l.drop q).take k)=val ((l.drop q).take n)) id n [] rfl ⟨W0b _,rfl⟩ fun k ⟨hk,hv⟩=>?_
 have hwk:=(hw.drop q).take k
 refine By rfl (fun h=>?_) fun h=>?_
 · obtain ⟨u,hu⟩:=xat (l:=l) (k:=q+(k - 1)) (by omega)
   have hs:=Xac (l:=l.drop q) (k:=k - 1) (x:=u) (by rw [W2c];exact hu)
   rw [show k - 1+1=k by omega,hv] at hs
   refine Ar (k - 1 : Nat) rfl ?_
   refine El (k - 1) rfl (by omega) ?_
   refine Ld (wd u) rfl (mp hu) ?_
   refine By rfl (fun h0=>?_) fun h0=>?_
   · refine Ar (k - 1 : Nat) rfl ?_
     refine Sw 0 (k - 1) rfl (by omega) (by omega) ?_
     exact Bk (k - 1) [] rfl ⟨by omega,by rw [hs,show u=0 by omega,W3d,W2k]⟩ (show k - 1<k by omega)
   · exact Rw [] [(1000001,.arr 1 (l.map wd))] rfl (.one (.rf rfl) rfl rfl) ⟨rfl,k,hk,rfl,by rw [←hv,Xc3 hwk (.inr ⟨u,by rw [Xxe (by omega),dtk (by omega)];exact hu,fun e=>h0 (by rw [e];rfl)⟩)]⟩
 · refine Rw [] [(1000001,.arr 1 (l.map wd))] rfl (.one (.rf rfl) rfl rfl) ⟨rfl,k,hk,rfl,?_⟩
   rw [show k=0 by omega] at hv ⊢
   rw [←hv,W5c,val,Xaj]
theorem Xlb {l : List Nat} (h0 : 0<l.length) (hl : l.length≤1099511627776) : CA0 81 [.d (ws l)] 1 (l.map wd):=by
 refine EnW Tryz.func81 fun _ _ _ _=>?_
 refine Ub rfl (fun h=>?_) ?_
 · exact absurd h (by intro e; have : l.length = 0 := by simpa using congrArg List.length e
                      omega)
 refine ApL (l.map wd) rfl rfl (by simpa using h0) (by simpa using hl) ?_
 exact Rw [(7,1000000)] [(1000000,.arr 1 (l.map wd))] rfl (.one (.rf rfl) rfl rfl) ⟨_,rfl,rfl,rfl⟩
theorem Xpf : C0 36 [.d (dz 0)] (·=.d (.str [48])):=by
 refine En Tryz.func36 fun _ _ _=>?_
 refine Ce rfl (Xcf (n:=0) (by rw [Xaj];decide)) ?_
 refine Ce rfl (Xbn (l:=dig 0) (by rw [Xaj];decide)) ?_
 refine Yes rfl (by rw [Xaj];rfl) ?_
 exact R0
def Fm9 (z x n : Nat) (lo cs : List Nat) : Prop:=n≤lo.length∧lo.length≤549755813888∧Xar lo∧lo.take n=dig x∧cks z=cs++cks x
theorem Yez {z x n : Nat} {lo cs : List Nat} (h : Fm9 z x n lo cs) : n=(dig x).length:=by
 have:=congrArg List.length h.2.2.2.1
 rw [W0k,W1s h.1] at this
 exact this
end
section
def rnB : Ren:=⟨fun n=>match n with
 | 166=>86
 | 167=>83
 | 169=>87
 | 240=>148
 | 276=>210
 | _=>0,fun n=>match n with
 | 3=>3
 | 4=>4
 | 5=>5
 | 9=>9
 | 20=>20
 | 37=>104
 | 70=>103
 | 72=>106
 | 75=>108
 | 80=>116
 | 127=>157
 | 164=>194
 | _=>0,fun n=>n⟩
theorem Yg9 : Lays.n166 Tryz.prog rnB where
 mixed:=by kernel_rfl
 f166:=by kernel_rfl
 f240:=by kernel_rfl
 f276:=by kernel_rfl
 t0:=by kernel_rfl
 a0:=fun _=>by kernel_rfl
 z0:=fun _=>by kernel_rfl
 v0:=fun _=>by kernel_rfl
 t3:=by kernel_rfl
 a3:=fun _=>by kernel_rfl
 z3:=fun _=>by kernel_rfl
 v3:=fun _=>by kernel_rfl
 t4:=by kernel_rfl
 a4:=fun _=>by kernel_rfl
 z4:=fun _=>by kernel_rfl
 v4:=fun _=>by kernel_rfl
 t9:=by kernel_rfl
 a9:=fun _=>by kernel_rfl
 z9:=fun _=>by kernel_rfl
 v9:=fun _=>by kernel_rfl
 t20:=by kernel_rfl
 a20:=fun _=>by kernel_rfl
 z20:=fun _=>by kernel_rfl
 v20:=fun _=>by kernel_rfl
 t37:=by kernel_rfl
 a37:=fun _=>by kernel_rfl
 z37:=fun _=>by kernel_rfl
 v37:=fun _=>by kernel_rfl
 t70:=by kernel_rfl
 a70:=fun _=>by kernel_rfl
 z70:=fun _=>by kernel_rfl
 v70:=fun _=>by kernel_rfl
 t72:=by kernel_rfl
 a72:=fun _=>by kernel_rfl
 z72:=fun _=>by kernel_rfl
 v72:=fun _=>by kernel_rfl
 t75:=by kernel_rfl
 a75:=fun _=>by kernel_rfl
 z75:=fun _=>by kernel_rfl
 v75:=fun _=>by kernel_rfl
 t164:=by kernel_rfl
 a164:=fun _=>by kernel_rfl
 z164:=fun _=>by kernel_rfl
 v164:=fun _=>by kernel_rfl
theorem Yg8 : Lays.n167 Tryz.prog rnB where
 mixed:=by kernel_rfl
 f167:=by kernel_rfl
 f240:=by kernel_rfl
 f276:=by kernel_rfl
 t0:=by kernel_rfl
 a0:=fun _=>by kernel_rfl
 z0:=fun _=>by kernel_rfl
 v0:=fun _=>by kernel_rfl
 t4:=by kernel_rfl
 a4:=fun _=>by kernel_rfl
 z4:=fun _=>by kernel_rfl
 v4:=fun _=>by kernel_rfl
 t5:=by kernel_rfl
 a5:=fun _=>by kernel_rfl
 z5:=fun _=>by kernel_rfl
 v5:=fun _=>by kernel_rfl
 t9:=by kernel_rfl
 a9:=fun _=>by kernel_rfl
 z9:=fun _=>by kernel_rfl
 v9:=fun _=>by kernel_rfl
 t20:=by kernel_rfl
 a20:=fun _=>by kernel_rfl
 z20:=fun _=>by kernel_rfl
 v20:=fun _=>by kernel_rfl
 t37:=by kernel_rfl
 a37:=fun _=>by kernel_rfl
 z37:=fun _=>by kernel_rfl
 v37:=fun _=>by kernel_rfl
 t70:=by kernel_rfl
 a70:=fun _=>by kernel_rfl
 z70:=fun _=>by kernel_rfl
 v70:=fun _=>by kernel_rfl
 t72:=by kernel_rfl
 a72:=fun _=>by kernel_rfl
 z72:=fun _=>by kernel_rfl
 v72:=fun _=>by kernel_rfl
 t75:=by kernel_rfl
 a75:=fun _=>by kernel_rfl
 z75:=fun _=>by kernel_rfl
 v75:=fun _=>by kernel_rfl
 t164:=by kernel_rfl
 a164:=fun _=>by kernel_rfl
 z164:=fun _=>by kernel_rfl
 v164:=fun _=>by kernel_rfl
theorem Ybc : Lays.n169 Tryz.prog rnB where
 mixed:=by kernel_rfl
 f169:=by kernel_rfl
 t0:=by kernel_rfl
 a0:=fun _=>by kernel_rfl
 z0:=fun _=>by kernel_rfl
 v0:=fun _=>by kernel_rfl
 t3:=by kernel_rfl
 a3:=fun _=>by kernel_rfl
 z3:=fun _=>by kernel_rfl
 v3:=fun _=>by kernel_rfl
 t9:=by kernel_rfl
 a9:=fun _=>by kernel_rfl
 z9:=fun _=>by kernel_rfl
 v9:=fun _=>by kernel_rfl
 t37:=by kernel_rfl
 a37:=fun _=>by kernel_rfl
 z37:=fun _=>by kernel_rfl
 v37:=fun _=>by kernel_rfl
 t70:=by kernel_rfl
 a70:=fun _=>by kernel_rfl
 z70:=fun _=>by kernel_rfl
 v70:=fun _=>by kernel_rfl
 t72:=by kernel_rfl
 a72:=fun _=>by kernel_rfl
 z72:=fun _=>by kernel_rfl
 v72:=fun _=>by kernel_rfl
 t127:=by kernel_rfl
 a127:=fun _=>by kernel_rfl
 z127:=fun _=>by kernel_rfl
 v127:=fun _=>by kernel_rfl
theorem Yjd : Builder.Extra Tryz.prog rnB where
 sizeBuilder:=by kernel_rfl
 liesBuilder:=by kernel_rfl
 t5:=by kernel_rfl
 a5:=fun _=>by kernel_rfl
 z5:=fun _=>by kernel_rfl
 v5:=fun _=>by kernel_rfl
 infoByte:=by kernel_rfl
 cellsByte:=by kernel_rfl
 sizeByte:=by kernel_rfl
 neB5:=by decide
end
section
attribute [local go_sem] Oper.semAt_some
abbrev C9:={ x : Nat // x<1000000000 }
def b9 (zs : List C9) (k : Nat) : List (Nat × C9):=(List.range k).map fun j=>(zs.length - 1 - j,zs[zs.length - 1 - j]?.getD ⟨0,by decide⟩)
theorem Xwy (zs : List C9) (k : Nat) : b9 zs (k+1)=b9 zs k++[(zs.length - 1 - k,zs[zs.length - 1 - k]?.getD ⟨0,by decide⟩)]:=by simp [b9,W7w]
theorem Xwz (zs : List C9) (k : Nat) : (b9 zs k).length=k:=by simp [b9]
set_option maxRecDepth 100000 in
set_option maxHeartbeats 2000000 in
theorem Yif (F : Fence) (n : Nat) (h8 : F.fn 149) (hro : F.round=none) (hn : 1≤n) (l Bs n₀ b off cap : Nat) (zs : List C9) (hreach : zs.length*4≤140737488351232) (hb : b<n₀) (J Jx : List (Nat × C9)→World→Prop)
 (hY : ∀ pre x W,J pre W→pre.length<zs.length→YieldAt F (n - 1) Tryz.prog l #[.int .i64 (x.1 : Int),.int .u32 (x.2.1 : Int)] W fun e W' =>
  (e=.returned (.bool true)∧J (pre++[x]) W'∧Kq n₀ Bs W W')∨(e=.returned (.bool false)∧Jx (pre++[x]) W'))
 (W : World) (hBs : W.cell? ⟨Bs,0,none⟩=some (.slice (some ⟨b,off,none⟩) zs.length cap)) (hc : ∀ j,j<zs.length→W.cell? ⟨b,off+j,none⟩=some (.int .u32 ((zs[j]?.getD ⟨0,by decide⟩).1 : Int))) (h0 : J [] W) :
 CallsIn F n Tryz.prog 149 #[.func (.yield l) #[] #[],.pointer (some ⟨Bs,0,none⟩)] W fun e W'=>(∃ v,e=.returned v) ∧
  ((∃ ys,ys=b9 zs zs.length∧J ys W')∨(∃ pre,True∧Jx pre W')):=by
 refine callsIn_of_wp Tryz.func149 rfl h8 ?_ hro
 simp only [Tryz.ntmps149,W6q,W0n,W3l,Nat.reduceAdd,Nat.reduceSub,W6a,W6b,W6r,W6c,W3z,W4d]
 gi_wp2
 gi_loopw [3] (fun i wr=>∃ k : Nat,k≤zs.length∧i=.int .i64 ((zs.length : Int) - 1 - k)∧J (b9 zs k) wr∧Kq n₀ Bs W wr)
  (fun i _=>(intOf i+1).toNat)
 case atStart=>exact ⟨0,W1c _,by simp,h0,Kq.refl _ _ _⟩
 case round =>
  obtain ⟨k,hk,rfl,hJs,hnx⟩:=hrel
  have hBs':=(World.cell?_of_block hnx.b).trans hBs
  by_cases hlt : k<zs.length
  · obtain ⟨q,hq⟩ : ∃ q,q+(k+1)=zs.length:=⟨zs.length - 1 - k,by omega⟩
    have hqi : ((zs.length : Int) - 1 - k)=(q : Int):=by omega
    have hcx:=(hnx.a.cell (p:=⟨b,off+q,none⟩) hb).trans (hc q (by omega))
    obtain ⟨fn,tmps,assign,body,hy,hR⟩:=hY _ (q,zs[q]?.getD ⟨0,by decide⟩) wr hJs (by rw [Xwz];exact hlt)
    dsimp only at hy
    rw [hqi]
    gi_wp2
    refine hR.mono ?_
    rintro e W3 (⟨rfl,hJ3,hk3⟩ | ⟨rfl,hJx3⟩)
    · gi_wp2
      go_roundw
      case rel=>exact ⟨k+1,by omega,by congr 1;omega,by rw [Xwy,show zs.length - 1 - k=q from by omega];exact hJ3,hnx.trans hk3⟩
      case measure=>simp [intOf]
    · gi_wp2
      refine bodyPost_ret (results_none rfl _ _ _) rfl ?_
      exact ⟨⟨_,rfl⟩,.inr ⟨_,trivial,hJx3⟩⟩
  · obtain rfl : k=zs.length:=by omega
    rw [show ((zs.length : Int) - 1 - (zs.length : Int))=-1 from by omega]
    gi_wp2
    go_end0
    exact ⟨⟨_,rfl⟩,.inl ⟨_,rfl,hJs⟩⟩
theorem Xm4 (F : Fence) (n : Nat) (h8 : F.fn 149) (hro : F.round=none) (hn : 1≤n) (Bs n₀ b off cap : Nat) (zs : List C9) (hreach : zs.length*4≤140737488351232) (w : World) (hBs : Bs<w.heap.size) (hn₀ : n₀≤w.heap.size)
 (hc : w.cell? ⟨Bs,0,none⟩=some (.slice (some ⟨b,off,none⟩) zs.length cap)) (hb : b<n₀) (hcs : ∀ j,j<zs.length→w.cell? ⟨b,off+j,none⟩=some (.int .u32 ((zs[j]?.getD ⟨0,by decide⟩).1 : Int))) :
 SeqStopsK F n Tryz.prog 149 #[.pointer (some ⟨Bs,0,none⟩)] (fun x : Nat × C9=>#[Value.int .i64 (x.1 : Int),Value.int .u32 (x.2.1 : Int)]) (Kq n₀ Bs) (fun ys=>ys=b9 zs zs.length)
  (fun _=>True) zs.length w:=fun l J Jx W hW _ _ hY h0=>by
 have hc':=(hW.cell (p:=⟨Bs,0,none⟩) hBs).trans hc
 exact Yif F n h8 hro hn l Bs n₀ b off cap zs hreach hb J Jx hY W hc' (fun j hj=>(hW.cell (p:=⟨b,off+j,none⟩) (W0t hb hn₀)).trans (hcs j hj)) h0
def o9 (N : Nat) (sg : List UInt8) : List (Nat × C9)→List UInt8:=List.foldl (fun t x=>t++(if x.1+1<N then List.replicate (9 - (dec x.2.1).length) 48 else [])++dec x.2.1) sg
theorem Xn7 (N : Nat) (sg : List UInt8) (pre : List (Nat × C9)) (x : Nat × C9) : o9 N sg (pre++[x])=o9 N sg pre++(if x.1+1<N then List.replicate (9 - (dec x.2.1).length) 48 else [])++dec x.2.1:=by simp [o9]
theorem Ykz (x : C9) : (dec x.1).length≤9:=Xe5 8 x.1 x.2
theorem Xuo (N : Nat) : ∀ (pre : List (Nat × C9)) (sg : List UInt8),(o9 N sg pre).length≤sg.length+18*pre.length
 | [],_=>W7p _ _
 | x::l,sg=>by
  have ih:=Xuo N l (sg++(if x.1+1<N then List.replicate (9 - (dec x.2.1).length) 48 else [])++dec x.2.1)
  have:=Ykz x.2
  have h : (if x.1+1<N then List.replicate (9 - (dec x.2.1).length) (48 : UInt8) else []).length≤9:=by split <;> simp
  simp only [W0c,W0n] at h ih ⊢
  refine W0h (show (o9 N sg (x::l)).length≤_ from ih) ?_
  omega
theorem Yc6 (sg : List UInt8) (zs : List C9) : ∀ k,k≤zs.length→o9 zs.length sg (b9 zs k)=sg++Xyd ((zs.map (·.1)).drop (zs.length - k))
 | 0,_=>by
  rw [W2a (by simp)]
  simp [b9,o9,Xyd]
 | k+1,h=>by
  obtain ⟨x,hx⟩ : ∃ x,zs[zs.length - 1 - k]?=some x:=⟨_,W0e (by omega)⟩
  have hxm : (zs.map (·.1))[zs.length - (k+1)]?=some x.1:=by rw [W1t,show zs.length - (k+1)=zs.length - 1 - k by omega,hx];rfl
  have hd : (zs.map (·.1)).drop (zs.length - (k+1))=x.1::(zs.map (·.1)).drop (zs.length - k):=by
   obtain ⟨hlt,he⟩:=W1a.1 hxm
   rw [W3g hlt,he,show zs.length - (k+1)+1=zs.length - k by omega]
  rw [Xwy,Xn7,Yc6 sg zs k (by omega),hx,hd]
  simp only [W4c]
  by_cases hk : k=0
  · subst hk
    rw [if_neg (by omega),show (zs.map (·.1)).drop (zs.length - 0)=[] from W2a (by simp)]
    simp [Xyd]
  · have hne : (zs.map (·.1)).drop (zs.length - k)≠[]:=fun e=>by
     have:=congrArg List.length e
     simp at this;omega
    rw [if_pos (by omega),Xuj hne]
    unfold pad
    simp
theorem c9s {l : List Nat} (h : ∀ x∈l,x<1000000000) : ∃ zs : List C9,zs.map (·.1)=l:=by
 induction l with
 | nil=>exact ⟨[],rfl⟩
 | cons a l ih =>
  obtain ⟨zs,hz⟩:=ih fun x hx=>h x (W1b _ hx)
  exact ⟨⟨a,h a (W0w ..)⟩::zs,by rw [W4n,hz]⟩
def gw1 (w : World) : GW:=⟨w,fun _ _=>False,fun _ _ h=>h.elim⟩
theorem cell_lt {w : World} {b i : Nat} {v : Value} (h : w.cell? ⟨b,i,none⟩=some v) : b<w.heap.size:=by
 apply W0v
 intro hn
 simp only [World.cell?] at h
 rw [W4b (by omega)] at h
 cases h
theorem Yg3 {W : GW} {n : Nat} {w' : World} (h : Below n W.w w') (hn : W.w.heap.size≤n) : LeF W (gw1 w'):=fun b i v hv =>
 ⟨(World.cell?_of_block (h.block b (W0t (cell_lt hv.1) hn))).trans hv.1,id⟩
theorem Xro {f : FuncId} {args : List AV} {vs : List Value} {s : List UInt8} {w : World} (hc : C0 f args (·=.d (.str s))) (hg : Gb.g Tryz.prog (gw1 w)) (ha : Xi0 (gw1 w) θe args vs) :
 Calls Tryz.prog f vs.toArray w fun e w'=>e=.returned (.string ⟨s.toArray⟩)∧Below w.heap.size w w' :=
 (hc.2 (gw1 w) vs hg ha).mono fun e w' ⟨W',v,u,h1,h2,h3,h4,_,h6⟩=>by
  subst h6;subst h2
  obtain ⟨rfl,_⟩:=Xo7 h4
  exact ⟨h1,h3.os,h3.tape,h3.out,h3.size,fun k hk=>h3.same k hk id⟩
theorem Ymb {w : World} (hg : Gb.g Tryz.prog (gw1 w)) (x : C9) : Calls Tryz.prog 85 #[.int .u64 (x.1 : Int),.int .i64 10] w fun e w'=>e=.returned (.string ⟨(dec x.1).toArray⟩)∧Below w.heap.size w w' :=
 Xro (vs:=[.int .u64 (x.1 : Int),.int .i64 10]) (Xln x.2) hg ⟨int_V (by have:=x.2;show IntKind.u64.wrap _=_;exact wU (by omega)),int_V (wI (by omega)),trivial⟩
theorem Yls {w : World} (hg : Gb.g Tryz.prog (gw1 w)) {n : Nat} {k : Int} (hk : k=n) (hn : n<65) : Calls Tryz.prog 37 #[.string ⟨#[48]⟩,.int .i64 k] w fun e w'=>e=.returned (.string ⟨(List.replicate n 48).toArray⟩)∧Below w.heap.size w w':=by
 subst hk
 exact Xro (vs:=[.string ⟨#[48]⟩,.int .i64 (n : Int)]) (Xj2 hn) hg ⟨Xnr (s:=[48]) (by decide),int_V (by show IntKind.i64.wrap _=_;exact wI (by omega)),trivial⟩
theorem Xve {β : Type} (T e : TypeId) (B b : Nat) (f : β→List Value) : Own (fun s W=>Lib.IsBuilderF T e B b (f s) W):=by
 intro s X Y row h hg hrow
 have key : ∀ p,Lib.BuilderAtF T e B b p (f s) X→Lib.BuilderAtF T e B b p (f s) Y:=fun p ⟨hB,v,hb,hown,hne⟩=>by
  have cells : ∀ k cs t fz,X.heap[k]?=some (.cells cs t fz)→some k≠row:=fun k cs t fz hk e'=>by
   obtain ⟨o,ho,hc⟩:=hrow k e'.symm
   rw [hk] at ho;cases ho;cases hc
  refine ⟨hB,v,(hg.block b (W3w.1 hb).1 (cells b _ _ _ hb)).trans hb,hown.kept hg ?_,hne⟩
  cases hv : v.ownBlock with
  | none=>exact .inl rfl
  | some g =>
   obtain ⟨c,fz,hc⟩:=Lib.ownsRowF_kind hown g hv
   exact .inr (cells g _ _ _ hc)
 exact h.elim (fun h=>.inl (key _ h)) fun h=>.inr (key _ h)
theorem Xii {W W' : World} {row : Option Nat} {b : Nat} {cs : Array Value} {t : TypeId} {fz : Nat × Nat} (h : W.heap[b]?=some (.cells cs t fz)) (hg : W.grownBy W' row) (hr : ∀ r,row=some r→∃ o : Obj,W.heap[r]?=some o∧o.isCells=false) : W'.heap[b]?=some (.cells cs t fz) :=
 (hg.block b (W3w.1 h).1 (fun e'=>by
  obtain ⟨o,ho,hc⟩:=hr b e'.symm
  rw [h] at ho;cases ho;cases hc)).trans h
theorem Xvf {T e : TypeId} {B b : Nat} {bs : List Value} {w w' : World} (h : Lib.IsBuilderF T e B b bs w) (hw : Below w.heap.size w w') : Lib.IsBuilderF T e B b bs w':=by
 have key : ∀ p,Lib.BuilderAtF T e B b p bs w→Lib.BuilderAtF T e B b p bs w':=fun p ⟨hB,v,hb,hown,hne⟩ =>
  ⟨hB,v,(hw.block b (W3w.1 hb).1).trans hb,hown.kept (row:=none) ⟨hw.os,hw.tape,hw.output,hw.size,fun k hk _=>hw.block k hk⟩ (by cases hv : v.ownBlock <;> simp),hne⟩
 exact h.elim (fun h=>.inl (key _ h)) fun h=>.inr (key _ h)
theorem Xoh {w w' : World} (h : Below w.heap.size w w') : KeepsOthers w w':=⟨h.size,fun k o hk _=>(h.block k (W3w.1 hk).1).trans hk⟩
theorem Xku {T e : TypeId} {B b n : Nat} {bs : List Value} {w w' : World} (h : Lib.IsBuilderF T e B b bs w) (hw : Below n w w') (ho : Lib.OthersKept e (some b) w w') : KeepsOthers w w':=⟨hw.size,fun k o hk hc=>by
 refine ho k o hk (fun e'=>?_) (fun c fz e'=>by subst e';cases hc)
 cases e'
 rcases h with ⟨_,v,hb,_⟩ | ⟨_,v,hb,_⟩ <;> rw [hk] at hb <;> cases hb <;> cases hc⟩
structure W9 (n BS B : Nat) (sl : Value) (w W : World) (t : List UInt8) (W' : World) : Prop where
 b : Lib.IsBuilderF (rnB.t 72) (rnB.t 5) n n (Lib.byteCells t) W'
 s : W'.heap[BS]?=some (.cells #[sl] 37 (0,0))
 l : Below n w W'
 k : KeepsFrom B W W'
 q : Kq n BS W W'
theorem W9.below {n BS B : Nat} {sl : Value} {w W W' W'' : World} {t : List UInt8} (h : W9 n BS B sl w W t W') (hn : n≤W'.heap.size) (hb : Below W'.heap.size W' W'') : W9 n BS B sl w W t W'' :=
 ⟨Xvf h.b hb,(hb.block BS (W3w.1 h.s).1).trans h.s,h.l.trans (hb.mono hn),h.k.trans ((Xoh hb).from _),h.q.trans ⟨hb.mono hn,hb.block BS (W3w.1 h.s).1⟩⟩
theorem W9.wr {n BS B : Nat} {sl : Value} {w W W' : World} {t : List UInt8} (h : W9 n BS B sl w W t W') (u : List UInt8) (hn : n≤W'.heap.size) (hB : BS≠n) (hl : t.length+u.length≤140737488355328) :
 Calls Tryz.prog 86 #[.pointer (some ⟨n,0,none⟩),.string ⟨u.toArray⟩] W' fun e W''=>e=.returned (.tuple #[.int .i64 u.length,.nilIface])∧W9 n BS B sl w W (t++u) W'':=by
 have hsz : (⟨u.toArray⟩ : ByteArray).size=u.length:=by simp [ByteArray.size]
 refine (Any.Builder_WriteString_k Yg9 Yjd n n _ ⟨u.toArray⟩ W' h.b (by rw [Lib.byteCells_length,hsz];exact hl) hn).mono ?_
 rintro e W'' ⟨rfl,hb,hbl,ho⟩
 have hs : W''.heap[BS]?=some (.cells #[sl] 37 (0,0)):=ho BS _ h.s (by intro e;cases e;exact hB rfl) (by intro c fz e;cases e)
 refine ⟨by rw [hsz],.inr (by rw [Lib.byteCells_append];exact hb),hs,h.l.trans hbl,h.k.trans ((Xku h.b hbl ho).from _),h.q.trans ⟨hbl,hs.trans h.s.symm⟩⟩
end
section
attribute [local go_sem] Oper.semAt_some
theorem Xso {z : Int} (hz : z≠0) (hl : (dig z.natAbs).length≤274877906944) : C0 36 [.d (dz z)] (·=.d (.str (tx z))):=by
 have hcl:=Xwq (n:=z.natAbs) (k:=(dig z.natAbs).length) (by have:=Xbv (Xad z.natAbs);rwa [Xaf] at this)
 have hp:=W4z.2 (fun e : dig z.natAbs=[]=>hz (by have:=Xsf.1 e;omega))
 refine EnM Tryz.func36 fun W0 hg0 _=>?_
 refine Ce rfl (Xcf (n:=z.natAbs) (by omega)) ?_
 refine Cr rfl (Xlb (l:=dig z.natAbs) hp (by omega)) ?_
 refine No rfl (by simp only [W0r];omega) ?_
 refine Nv 4 7 1 rfl ?_
 refine Lo (fun ((x,n,lo,cs) : Nat × Nat × List Nat × List Nat)=>[(1,.ptr 1 0),(2,.d (.str [])),(3,.own 14 1 0 n),(4,.ptr 4 0)]) (fun (x,n,lo,cs)=>[(1,.var (.d (dz z))),(14,.arr 1 (lo.map wd)),(4,.var (.gr 7 1 (cs.map wd))),(7,.tok (cs.map wd).length 1)])
  (fun (x,n,lo,cs)=>Fm9 z.natAbs x n lo cs) (fun (x,_)=>x) (z.natAbs,(dig z.natAbs).length,dig z.natAbs,[]) [] rfl ⟨W0b _,by omega,Xad _,W2r ..,rfl⟩ ?_ (by exact ⟨by simp only [W0r];rfl,rfl,rfl,rfl,rfl⟩)
 rintro ⟨x,n,lo,cs⟩ hI
 have hn:=Yez hI
 obtain ⟨hnl,hll,hwo,hdx,hck⟩:=hI
 have hsz : ∀ j,j<n→lo[j]?=(dig x)[j]?:=fun j hj=>by rw [←hdx,W1e,if_pos hj]
 refine By rfl (fun h=>?_) fun h=>?_
 · have h : (n : Int) > 0:=h
   have hx0 : x≠0:=fun e=>by rw [e,Xaj] at hn;simp at hn;omega
   refine Ar ((n : Int) - 1) rfl ?_ (wr rfl (by simp only [inK];omega))
   refine Lo (fun ((k,l,r) : Nat × List Nat × Nat)=>[(1,.ptr 1 0),(2,.d (.str [])),(3,.own 14 1 0 n),(4,.ptr 4 0),(5,.d (.int .u64 r)),(6,.d (.int .i64 ((k : Int) - 1)))]) (fun (_,l,_)=>[(1,.var (.d (dz z))),(14,.arr 1 (l.map wd)),(4,.var (.gr 7 1 (cs.map wd))),(7,.tok (cs.map wd).length 1)])
    (fun (k,l,r)=>k≤n∧l.length=lo.length∧Xar l∧r<1000000000∧val ((l.take n).drop k)*1000000000+r=val ((dig x).drop k)∧∀ j,j<k→l[j]?=(dig x)[j]?) (fun (k,_,_)=>k) (n,lo,0) [] rfl
    ⟨W0b _,rfl,hwo,by decide,by rw [W2a (by rw [W0k];omega),W2a (by omega)];simp [val],hsz⟩ ?_
   rintro ⟨k,l,r⟩ ⟨hk,hl2,hwl,hr,hval,hlj⟩
   refine By rfl (fun h2=>?_) fun h2=>?_
   · have h2 : (k : Int) - 1 ≥ 0:=h2
     obtain ⟨u,hu⟩:=xat (l:=dig x) (k:=k - 1) (by omega)
     have hub:=ww hu (Xad x)
     have hul : l[k - 1]?=some u:=by rw [hlj _ (by omega),hu]
     obtain ⟨s,hs⟩ : ∃ s,s=r*2 ^ 32+u:=⟨_,rfl⟩
     have hs64 : s<18446744073709551616:=by omega
     have hsy : s / 1000000000<4294967296:=by omega
     have hek : ((k : Int) - 1)=((k - 1 : Nat) : Int):=by omega
     refine Ar (r*2 ^ 32 : Nat) rfl ?_ (Xhs (n:=32) rfl (by omega) (by decide))
     refine Eo (k - 1) (by rw [hek];rfl) (by omega) ?_
     refine Ld (wd u) rfl (mp hul) ?_
     refine Cv u rfl ?_
     refine Ar s rfl ?_ (Ya1 (by omega) (by omega) (by rw [Xc8 u r 32 (by omega),←hs]) hs64)
     refine Ar (s / 1000000000 : Nat) rfl ?_ (show _∧_ from ⟨by decide,Yb7 s 1000000000 hs64⟩)
     refine Cv (s / 1000000000 : Nat) rfl ?_ (wW ⟨W5t _,W7e.2 hsy⟩)
     refine Eo (k - 1) (by rw [hek];rfl) (by omega) ?_
     refine Sto rfl (by simp only [W0r];omega) ms ?_
     refine Ar (s % 1000000000 : Nat) rfl ?_ (show _∧_ from ⟨by decide,Xrw s 1000000000⟩)
     refine Ar ((k - 1 : Nat) - 1 : Int) rfl ?_ (wr (by omega) (by simp only [inK];omega))
     have hs0 : val ((dig x).drop (k - 1))=u+4294967296*val ((dig x).drop k):=by
      have:=Xbx hu
      rwa [show k - 1+1=k by omega] at this
     refine Bk (k - 1,l.set (k - 1) (s / 1000000000),s % 1000000000) [] rfl ⟨by omega,by simp [hl2],Xgi hwl hsy,W1x _ (by decide),?_,fun j hj=>?_⟩ (by show k - 1<k;omega)
     · rw [hs0,←hval,List.take_set,drop_set (by rw [W0k];omega),val,show k - 1+1=k by omega]
       have e:=W2l s 1000000000
       have hs2 : s=r*4294967296+u:=hs
       generalize val (((l.take n)).drop k)=V
       generalize s / 1000000000=q at e ⊢
       generalize s % 1000000000=m at e ⊢
       clear hck hcl hdx hsz hlj hs hval hs0 hsy hs64
       omega
     · rw [W1w (by omega)];exact hlj j (by omega)
   · have hk0 : k=0:=by
      have h2 : ¬ (k : Int) - 1 ≥ 0:=h2
      omega
     subst hk0
     rw [W1d,W1d,Xaf] at hval
     have hq : x / 1000000000=val (l.take n):=by omega
     have hm : x % 1000000000=r:=by omega
     refine Cn [(1000001,14)] rfl (Xvb (l:=l) (q:=0) (n:=n) hwl (by omega) (by omega)) fun v hv=>?_
     obtain ⟨m,hmn,rfl,hml⟩:=hv
     rw [W1d,←hq] at hml
     refine Cv r rfl ?_
     refine ApG ((cs++[r]).map wd) rfl (by simp;rfl) (by simp;have:=congrArg List.length hck;rw [W0c] at this;omega) ?_
     refine Bk (x / 1000000000,m,l,cs++[r]) [(50,7)] rfl ⟨by omega,by omega,hwl,hml,?_⟩ (by show x / 1000000000<x;omega)
     rw [hck,Xe6 hx0,hm];simp
 · have h : ¬ (n : Int) > 0:=h
   have hx0 : x=0:=by
    have : dig x=[]:=W0l (by omega)
    exact Xsf.1 this
   subst hx0
   rw [Xeo,W3a] at hck
   obtain ⟨zs,hzs⟩:=c9s (l:=cs) fun x hx=>Yh9 z.natAbs x (by rw [hck];exact hx)
   have hzl : zs.length=cs.length:=by rw [←hzs,W0r]
   have hz0 : z.natAbs≠0:=by omega
   have hz1 : 0<zs.length:=by
    rw [hzl,←hck,Xe6 hz0];simp
   have hzn : zs.length≤549755813888:=by rw [hzl,←hck];omega
   have htx : ∀ sg,sg++Xyd (zs.map (·.1))=sg++dec z.natAbs:=fun sg=>by rw [hzs,←hck,Xyc _ hz0]
   refine Tl 15 rfl fun a w hw=>?_
   obtain ⟨s',W,θ,rfl,hS,hθ,rfl⟩:=hw
   have hgW : Gb.g Tryz.prog W:=Gb.mono _ _ hS.fm.le hg0
   obtain ⟨b1,p1,e1⟩:=Xi7 (hS.rel.has 1 (.ptr 1 0) rfl)
   obtain ⟨b4,p4,e4⟩:=Xi7 (hS.rel.has 4 (.ptr 4 0) rfl)
   obtain ⟨bx,cx1,T1,q1,q2,q3,_⟩:=hS.obs.r 1 (.var (.d (dz z))) rfl
   obtain ⟨by4,cx4,T4,q5,q6,q7,_⟩:=hS.obs.r 4 (.var (.gr 7 1 (cs.map wd))) rfl
   obtain rfl : bx=b1:=Option.some.inj (q1.symm.trans p1)
   obtain rfl : by4=b4:=Option.some.inj (q5.symm.trans p4)
   have c1 : W.w.cell? ⟨bx,0,none⟩=some (.bool (decide (z<0))):=by
    obtain ⟨u,v,h1,h2,_⟩:=q3
    have h2 : u=[.bool (decide (z<0))]:=h2
    rw [Xbb q2,h1,h2];rfl
   obtain ⟨b7,cp,c4,hcell⟩ : ∃ b7 cp,W.w.cell? ⟨by4,0,none⟩=some (.slice (some ⟨b7,0,none⟩) zs.length cp)∧∀ j,j<zs.length→W.w.cell? ⟨b7,0+j,none⟩=some (.int .u32 ((zs[j]?.getD ⟨0,by decide⟩).1 : Int)):=by
    obtain ⟨p,h1,h0,h2,_,h5⟩:=q7
    simp only [W0r] at h1 h2
    rcases h5 with h5 | ⟨b7,h5,hrow⟩
    · have:=congrArg List.length h5
      rw [W0r] at this
      have : cs.length=0:=this
      omega
    · have hp : p=some ⟨b7,0,none⟩:=by
       rcases h0 with h0 | h0
       · omega
       · rw [h0,h5];rfl
      refine ⟨b7,_,by rw [Xbb q6,h1,hp,←hzl];rfl,fun j hj=>?_⟩
      obtain ⟨x,hx⟩ : ∃ x,zs[j]?=some x:=⟨_,W0e hj⟩
      obtain ⟨e,g1,_,g3⟩:=D.row_get hrow (i:=j) (x:=wd x.1) (by rw [←hzs];simp [hx])
      have g1 : e=[.int .u32 x.1]:=g1.1
      have:=(g3 0 (.int .u32 x.1) (by rw [g1];rfl)).1
      rw [hx]
      simpa using this
   have hb1:=Go.Proofs.YtjcejnjhfcbafaaGreatDoor.cell_lt c1
   have hb4:=Go.Proofs.YtjcejnjhfcbafaaGreatDoor.cell_lt c4
   have hb7:=Go.Proofs.YtjcejnjhfcbafaaGreatDoor.cell_lt (hcell 0 hz1)
   have hfm:=hS.fm
   obtain ⟨tm,df⟩:=a
   obtain rfl : df=[]:=hS.rel.defers
   obtain ⟨L⟩:=tm
   have hL : L.length=74:=hS.rel.size
   clear hS
   obtain ⟨t0,L0,rfl,hL0⟩:=Xag hL
   clear hL
   obtain ⟨t1,L1,rfl,hL1⟩:=Xag hL0
   clear hL0
   obtain ⟨t2,L2,rfl,hL2⟩:=Xag hL1
   clear hL1
   obtain ⟨t3,L3,rfl,hL3⟩:=Xag hL2
   clear hL2
   obtain ⟨t4,L4,rfl,hL4⟩:=Xag hL3
   clear hL3
   obtain ⟨t5,L5,rfl,hL5⟩:=Xag hL4
   clear hL4
   obtain ⟨t6,L6,rfl,hL6⟩:=Xag hL5
   clear hL5
   obtain ⟨t7,L7,rfl,hL7⟩:=Xag hL6
   clear hL6
   obtain ⟨t8,L8,rfl,hL8⟩:=Xag hL7
   clear hL7
   obtain ⟨t9,L9,rfl,hL9⟩:=Xag hL8
   clear hL8
   obtain ⟨t10,L10,rfl,hL10⟩:=Xag hL9
   clear hL9
   obtain ⟨t11,L11,rfl,hL11⟩:=Xag hL10
   clear hL10
   obtain ⟨t12,L12,rfl,hL12⟩:=Xag hL11
   clear hL11
   obtain ⟨t13,L13,rfl,hL13⟩:=Xag hL12
   clear hL12
   obtain ⟨t14,L14,rfl,hL14⟩:=Xag hL13
   clear hL13
   obtain ⟨t15,L15,rfl,hL15⟩:=Xag hL14
   clear hL14
   obtain ⟨t16,L16,rfl,hL16⟩:=Xag hL15
   clear hL15
   obtain ⟨t17,L17,rfl,hL17⟩:=Xag hL16
   clear hL16
   obtain ⟨t18,L18,rfl,hL18⟩:=Xag hL17
   clear hL17
   obtain ⟨t19,L19,rfl,hL19⟩:=Xag hL18
   clear hL18
   obtain ⟨t20,L20,rfl,hL20⟩:=Xag hL19
   clear hL19
   obtain ⟨t21,L21,rfl,hL21⟩:=Xag hL20
   clear hL20
   obtain ⟨t22,L22,rfl,hL22⟩:=Xag hL21
   clear hL21
   obtain ⟨t23,L23,rfl,hL23⟩:=Xag hL22
   clear hL22
   obtain ⟨t24,L24,rfl,hL24⟩:=Xag hL23
   clear hL23
   obtain ⟨t25,L25,rfl,hL25⟩:=Xag hL24
   clear hL24
   obtain ⟨t26,L26,rfl,hL26⟩:=Xag hL25
   clear hL25
   obtain ⟨t27,L27,rfl,hL27⟩:=Xag hL26
   clear hL26
   obtain ⟨t28,L28,rfl,hL28⟩:=Xag hL27
   clear hL27
   obtain ⟨t29,L29,rfl,hL29⟩:=Xag hL28
   clear hL28
   obtain ⟨t30,L30,rfl,hL30⟩:=Xag hL29
   clear hL29
   obtain ⟨t31,L31,rfl,hL31⟩:=Xag hL30
   clear hL30
   obtain ⟨t32,L32,rfl,hL32⟩:=Xag hL31
   clear hL31
   obtain ⟨t33,L33,rfl,hL33⟩:=Xag hL32
   clear hL32
   obtain ⟨t34,L34,rfl,hL34⟩:=Xag hL33
   clear hL33
   obtain ⟨t35,L35,rfl,hL35⟩:=Xag hL34
   clear hL34
   obtain ⟨t36,L36,rfl,hL36⟩:=Xag hL35
   clear hL35
   obtain ⟨t37,L37,rfl,hL37⟩:=Xag hL36
   clear hL36
   obtain ⟨t38,L38,rfl,hL38⟩:=Xag hL37
   clear hL37
   obtain ⟨t39,L39,rfl,hL39⟩:=Xag hL38
   clear hL38
   obtain ⟨t40,L40,rfl,hL40⟩:=Xag hL39
   clear hL39
   obtain ⟨t41,L41,rfl,hL41⟩:=Xag hL40
   clear hL40
   obtain ⟨t42,L42,rfl,hL42⟩:=Xag hL41
   clear hL41
   obtain ⟨t43,L43,rfl,hL43⟩:=Xag hL42
   clear hL42
   obtain ⟨t44,L44,rfl,hL44⟩:=Xag hL43
   clear hL43
   obtain ⟨t45,L45,rfl,hL45⟩:=Xag hL44
   clear hL44
   obtain ⟨t46,L46,rfl,hL46⟩:=Xag hL45
   clear hL45
   obtain ⟨t47,L47,rfl,hL47⟩:=Xag hL46
   clear hL46
   obtain ⟨t48,L48,rfl,hL48⟩:=Xag hL47
   clear hL47
   obtain ⟨t49,L49,rfl,hL49⟩:=Xag hL48
   clear hL48
   obtain ⟨t50,L50,rfl,hL50⟩:=Xag hL49
   clear hL49
   obtain ⟨t51,L51,rfl,hL51⟩:=Xag hL50
   clear hL50
   obtain ⟨t52,L52,rfl,hL52⟩:=Xag hL51
   clear hL51
   obtain ⟨t53,L53,rfl,hL53⟩:=Xag hL52
   clear hL52
   obtain ⟨t54,L54,rfl,hL54⟩:=Xag hL53
   clear hL53
   obtain ⟨t55,L55,rfl,hL55⟩:=Xag hL54
   clear hL54
   obtain ⟨t56,L56,rfl,hL56⟩:=Xag hL55
   clear hL55
   obtain ⟨t57,L57,rfl,hL57⟩:=Xag hL56
   clear hL56
   obtain ⟨t58,L58,rfl,hL58⟩:=Xag hL57
   clear hL57
   obtain ⟨t59,L59,rfl,hL59⟩:=Xag hL58
   clear hL58
   obtain ⟨t60,L60,rfl,hL60⟩:=Xag hL59
   clear hL59
   obtain ⟨t61,L61,rfl,hL61⟩:=Xag hL60
   clear hL60
   obtain ⟨t62,L62,rfl,hL62⟩:=Xag hL61
   clear hL61
   obtain ⟨t63,L63,rfl,hL63⟩:=Xag hL62
   clear hL62
   obtain ⟨t64,L64,rfl,hL64⟩:=Xag hL63
   clear hL63
   obtain ⟨t65,L65,rfl,hL65⟩:=Xag hL64
   clear hL64
   obtain ⟨t66,L66,rfl,hL66⟩:=Xag hL65
   clear hL65
   obtain ⟨t67,L67,rfl,hL67⟩:=Xag hL66
   clear hL66
   obtain ⟨t68,L68,rfl,hL68⟩:=Xag hL67
   clear hL67
   obtain ⟨t69,L69,rfl,hL69⟩:=Xag hL68
   clear hL68
   obtain ⟨t70,L70,rfl,hL70⟩:=Xag hL69
   clear hL69
   obtain ⟨t71,L71,rfl,hL71⟩:=Xag hL70
   clear hL70
   obtain ⟨t72,L72,rfl,hL72⟩:=Xag hL71
   clear hL71
   obtain ⟨t73,L73,rfl,hL73⟩:=Xag hL72
   clear hL72
   obtain rfl:=W0l hL73
   obtain rfl : t1=.pointer (some ⟨bx,0,none⟩):=e1
   obtain rfl : t4=.pointer (some ⟨by4,0,none⟩):=e4
   have hfin : ∀ {w' : World} {s : List UInt8},Below W.w.heap.size W.w w'→s=tx z→Ret W0 (fun x=>x=.d (.str (tx z))) (.returned (.string ⟨s.toArray⟩)) w':=fun {w' s} h e=>by
    obtain ⟨W',h1,h2⟩:=Xkz h
    subst e
    refine ⟨W',_,_,rfl,h1,⟨h2.os.trans hfm.os,h2.out.trans hfm.out,h2.tape.trans hfm.tape,W0h hfm.size h2.size,fun b hb hx=>(h2.same b (W0t hb hfm.size) id).trans (hfm.same b hb hx),fun b hb hx i=>(h2.A b (W0t hb hfm.size) id i).trans (hfm.A b hb hx i),hfm.le.trans h2.le⟩,Xnr ?_,fun _ h=>h,rfl⟩
    have:=Xis z.natAbs
    unfold tx
    split <;> simp only [W0c,W0n,W3l] <;> omega
   clear q2 q3 q6 q7 hθ hck
   obtain ⟨w,hww⟩ : ∃ w,w=W.w:=⟨_,rfl⟩
   have hgw : ∀ {w' : World},Below w.heap.size w w'→Gb.g Tryz.prog (gw1 w'):=fun h=>Gb.mono _ _ (Yg3 (n:=w.heap.size) (by rw [←hww];exact h) (by rw [←hww];exact W0b _)) hgW
   rw [←hww] at c1 c4 hcell hb1 hb4 hb7 hfin ⊢
   clear hww hgW hzl hzs hcl hnl hll hwo hn hdx hsz h hp hl q1 q5 p1 p4 hfm
   have hz9 : zs.length*4≤140737488351232:=by omega
   have cA : ∀ o,(w.alloc o).cell? ⟨bx,0,none⟩=some (.bool (decide (z<0))):=fun o=>(World.cell?_of_block (a:=⟨bx,0,none⟩) (Below.heap_alloc w o bx hb1)).trans c1
   have c4A : ∀ o,(w.alloc o).cell? ⟨by4,0,none⟩=some (.slice (some ⟨b7,0,none⟩) zs.length cp):=fun o=>(World.cell?_of_block (a:=⟨by4,0,none⟩) (Below.heap_alloc w o by4 hb4)).trans c4
   by_cases hneg : z<0
   · simp only [decide_eq_true hneg] at cA
     gi_wp2
     refine ⟨trivial,(callsIn_wide.2 (Any.Builder_WriteByte_k Yg8 Yjd w.heap.size w.heap.size [] 45 _ (.of (Lib.fresh_isBuilder _ _ w)) (by decide) (by simp))).mono ?_⟩
     rintro e wb ⟨rfl,hB,hbw,hok⟩
     have hB : Lib.IsBuilderF (rnB.t 72) (rnB.t 5) w.heap.size w.heap.size (Lib.byteCells [45]) wb:=.inr hB
     have hbw : Below w.heap.size w wb:=((Below.refl _ w).alloc (W0b _) _).trans hbw
     have hlt : w.heap.size<wb.heap.size:=by rcases hB with h | h <;> exact h.lt
     have c4b : wb.cell? ⟨by4,0,none⟩=some (.slice (some ⟨b7,0,none⟩) zs.length cp):=(hbw.cell (p:=⟨by4,0,none⟩) hb4).trans c4
     gi_wp2
     refine ⟨trivial,(Xo4 Fence.wide 7 trivial rfl _ _ _ _).mono ?_⟩
     rintro e w2 ⟨rfl,hw2⟩
     have hBS : w2.heap[wb.heap.size]?=some (.cells #[.slice (some ⟨b7,0,none⟩) zs.length cp] 37 (0,0)):=by rw [hw2];exact World.alloc_heap_new wb _
     have hb2 : Below w.heap.size w w2:=by rw [hw2];exact hbw.alloc (by have:=hbw.size;omega) _
     have hB2 : Lib.IsBuilderF (rnB.t 72) (rnB.t 5) w.heap.size w.heap.size (Lib.byteCells [45]) w2:=by rw [hw2];exact hB.alloc _
     have hs2 : w2.heap.size=wb.heap.size+1:=by rw [hw2];simp
     have hcell2 : ∀ j,j<zs.length→w2.cell? ⟨b7,0+j,none⟩=some (.int .u32 ((zs[j]?.getD ⟨0,by decide⟩).1 : Int)):=fun j hj=>(hb2.cell (p:=⟨b7,0+j,none⟩) hb7).trans (hcell j hj)
     have cBS : w2.cell? ⟨wb.heap.size,0,none⟩=some (.slice (some ⟨b7,0,none⟩) zs.length cp):=by simp [World.cell?,hBS]
     obtain ⟨BS,hBSe⟩ : ∃ BS,BS=wb.heap.size:=⟨_,rfl⟩
     rw [←hBSe] at hBS hs2 cBS hlt ⊢
     clear hw2 hBSe hB hbw c4b hok
     gi_wp2
     refine wpIn_rangeFunc_ownG rfl (by decide) (gf:=149) (lb:=#[.pointer (some ⟨BS,0,none⟩)]) rfl trivial (enters_of Tryz.func149 (by kernel_rfl) rfl)
      (Xm4 Fence.wide (8 - 1) trivial rfl (by decide) BS w.heap.size b7 0 cp zs hz9 w2 (by omega) (by omega) cBS hb7 hcell2) Kq.trans (fun W l o o' hl h _ _=>Xu9 W l o hl (by omega) (by omega) h o') (Below.refl _ _) (fun _=>rfl)
      (fun pre W=>(Lib.IsBuilderF (rnB.t 72) (rnB.t 5) w.heap.size w.heap.size (Lib.byteCells (o9 zs.length [45] pre)) W∧W.heap[BS]?=some (.cells #[.slice (some ⟨b7,0,none⟩) zs.length cp] 37 (0,0)))∧Below w.heap.size w W)
      (fun _ _ _=>False)
      (OwnFrom.and (Own.from (fun s A B row hs hg hr=>⟨Xve _ _ _ _ (fun p=>Lib.byteCells (o9 zs.length [45] p)) s A B row hs.1 hg hr,Xii hs.2 hg hr⟩) _) (ownFrom_below (W0b _) (by omega)))
      (fun _ _ _ _ _ hs _ _=>hs)
      ⟨⟨hB2,hBS⟩,hb2⟩
      (fun x=>{ tmps:=#[t0,.pointer (some ⟨bx,0,none⟩),t2,t3,.pointer (some ⟨by4,0,none⟩),t5,t6,.pointer (some ⟨w.heap.size,0,none⟩),.int .i64 (x.1 : Int),.int .u32 (x.2.1 : Int),t10,t11,t12,t13,t14,t15,t16,t17,t18,t19,t20,t21,t22,t23,t24,t25,t26,t27,t28,t29,t30,t31,t32,t33,t34,t35,t36,t37,t38,t39,t40,t41,t42,t43,t44,t45,t46,t47,t48,t49,t50,.pointer (some ⟨bx,0,none⟩),.bool true,.nilIface,.slice (some ⟨b7,0,none⟩) zs.length cp,.func (.func 149) #[] #[.pointer (some ⟨BS,0,none⟩)],.int .i64 (x.1 : Int),.int .u32 (x.2.1 : Int),t58,t59,t60,t61,t62,t63,t64,t65,t66,t67,t68,t69,t70,t71,t72,t73],defers:=[] }) ?assign ?body ?done ?stop
     case assign =>
      intro l x W K hK
      gi_wp2
      exact hK
     case stop =>
      rintro D c pre W _ _ h _
      exact h.elim
     case body =>
      rintro l pre x W ⟨⟨hBd,hBS⟩,hBl⟩ hlen
      gi_wp2
      rw [wU (by have:=x.2.2;omega)]
      refine ⟨trivial,(CallsIn.inRound l (callsIn_wide.2 (Ymb (hgw hBl) x.2))).mono ?_⟩
      rintro e W1 ⟨rfl,hW1⟩
      have h9 : W9 w.heap.size BS w2.heap.size (.slice (some ⟨b7,0,none⟩) zs.length cp) w W (o9 zs.length [45] pre) W1:=W9.below ⟨hBd,hBS,hBl,KeepsFrom.refl _ _,Kq.refl _ _ _⟩ hBl.size hW1
      have c41 : W1.cell? ⟨by4,0,none⟩=some (.slice (some ⟨b7,0,none⟩) zs.length cp):=(h9.l.cell (p:=⟨by4,0,none⟩) hb4).trans c4
      have hxl:=Ykz x.2
      have hol:=Xuo zs.length pre [45]
      have hos:=Xn7 zs.length [45] pre x
      have hsgl : ([45] : List UInt8).length≤1:=by decide
      have hpl : pre.length<549755813888:=by omega
      obtain ⟨ds,hds⟩ : ∃ ds,ds=dec x.2.1:=⟨_,rfl⟩
      rw [←hds] at hxl hos ⊢
      have hBn : BS≠w.heap.size:=by omega
      clear hds hBd hBS hW1
      gi_wp2
      · rename_i hx
        refine ⟨trivial,(CallsIn.inRound l (callsIn_wide.2 (Yls (hgw h9.l) (n:=9 - ds.length) (by omega) (by omega)))).mono ?_⟩
        rintro e W2 ⟨rfl,hW2⟩
        have h9b:=h9.below h9.l.size hW2
        obtain ⟨zr,hzr⟩ : ∃ zr,zr=List.replicate (9 - ds.length) (48 : UInt8):=⟨_,rfl⟩
        have hzrl : zr.length≤9:=by rw [hzr,W1m];omega
        rw [←hzr]
        rw [if_pos (by omega),←hzr] at hos
        clear hzr
        gi_wp2
        refine ⟨trivial,(CallsIn.inRound l (callsIn_wide.2 (h9b.wr zr h9b.l.size hBn (by omega)))).mono ?_⟩
        rintro e W3 ⟨rfl,h9c⟩
        gi_wp2
        refine ⟨trivial,(CallsIn.inRound l (callsIn_wide.2 (h9c.wr ds h9c.l.size hBn (by simp only [W0c];omega)))).mono ?_⟩
        rintro e W4 ⟨rfl,h9d⟩
        gi_wp2
        exact ⟨h9d.k,h9d.q,⟨by rw [hos];exact h9d.b,h9d.s⟩,h9d.l⟩
      · rename_i hx
        rw [if_neg (by omega),W3a] at hos
        refine ⟨trivial,(CallsIn.inRound l (callsIn_wide.2 (h9.wr ds h9.l.size hBn (by omega)))).mono ?_⟩
        rintro e W4 ⟨rfl,h9d⟩
        gi_wp2
        exact ⟨h9d.k,h9d.q,⟨by rw [hos];exact h9d.b,h9d.s⟩,h9d.l⟩
     case done =>
      rintro D ys W hD rfl ⟨⟨hBd,hBS⟩,hBl⟩ hK
      gi_wp2
      have hne : o9 zs.length [45] (b9 zs zs.length)=tx z:=by
       rw [Yc6 _ _ _ (W0b _),W2m,W1d,htx]
       unfold tx
       rw [if_pos hneg]
      rw [hne] at hBd
      have hn0 : tx z≠[]:=by
       unfold tx
       intro h
       exact Xmu _ (List.append_eq_nil_iff.1 h).2
      refine ⟨trivial,(callsIn_wide.2 (Any.Builder_String_k Ybc Yjd w.heap.size w.heap.size (tx z) W hBd hn0)).mono ?_⟩
      rintro e W3 ⟨rfl,_,hb3,hok3⟩
      have hK3:=hok3 D _ hK (by intro h;cases h;have:=hBl.size;omega) (by intro c fz h;cases h)
      gi_wp2
      refine ⟨by simp,.inl ⟨_,_,rfl,run_takeDeferred hK3,?_⟩⟩
      refine ⟨_,results_tmp rfl _ _ _,?_⟩
      refine hfin (s:=tx z) ?_ rfl
      exact (hBl.trans hb3).trans (belowK_b (w:=w) (W0b _) W3 D _ _ (by omega) hK3 rfl rfl)
   · simp only [decide_eq_false hneg] at cA
     gi_wp2
     obtain ⟨wb,hwb⟩ : ∃ wb,wb=w.alloc (.cells #[.pointer none,.slice none 0 0] 106):=⟨_,rfl⟩
     have hB : Lib.IsBuilderF (rnB.t 72) (rnB.t 5) w.heap.size w.heap.size (Lib.byteCells []) wb:=by rw [hwb];exact .of (Lib.fresh_isBuilder _ _ w)
     have hbw : Below w.heap.size w wb:=by rw [hwb];exact (Below.refl _ w).alloc (W0b _) _
     have hlt : w.heap.size<wb.heap.size:=by rcases hB with h | h <;> exact h.lt
     rw [←hwb]
     clear hwb
     refine ⟨trivial,(Xo4 Fence.wide 7 trivial rfl _ _ _ _).mono ?_⟩
     rintro e w2 ⟨rfl,hw2⟩
     have hBS : w2.heap[wb.heap.size]?=some (.cells #[.slice (some ⟨b7,0,none⟩) zs.length cp] 37 (0,0)):=by rw [hw2];exact World.alloc_heap_new wb _
     have hb2 : Below w.heap.size w w2:=by rw [hw2];exact hbw.alloc (by have:=hbw.size;omega) _
     have hB2 : Lib.IsBuilderF (rnB.t 72) (rnB.t 5) w.heap.size w.heap.size (Lib.byteCells []) w2:=by rw [hw2];exact hB.alloc _
     have hs2 : w2.heap.size=wb.heap.size+1:=by rw [hw2];simp
     have hcell2 : ∀ j,j<zs.length→w2.cell? ⟨b7,0+j,none⟩=some (.int .u32 ((zs[j]?.getD ⟨0,by decide⟩).1 : Int)):=fun j hj=>(hb2.cell (p:=⟨b7,0+j,none⟩) hb7).trans (hcell j hj)
     have cBS : w2.cell? ⟨wb.heap.size,0,none⟩=some (.slice (some ⟨b7,0,none⟩) zs.length cp):=by simp [World.cell?,hBS]
     obtain ⟨BS,hBSe⟩ : ∃ BS,BS=wb.heap.size:=⟨_,rfl⟩
     rw [←hBSe] at hBS hs2 cBS hlt ⊢
     clear hw2 hBSe hB hbw
     gi_wp2
     refine wpIn_rangeFunc_ownG rfl (by decide) (gf:=149) (lb:=#[.pointer (some ⟨BS,0,none⟩)]) rfl trivial (enters_of Tryz.func149 (by kernel_rfl) rfl)
      (Xm4 Fence.wide (8 - 1) trivial rfl (by decide) BS w.heap.size b7 0 cp zs hz9 w2 (by omega) (by omega) cBS hb7 hcell2) Kq.trans (fun W l o o' hl h _ _=>Xu9 W l o hl (by omega) (by omega) h o') (Below.refl _ _) (fun _=>rfl)
      (fun pre W=>(Lib.IsBuilderF (rnB.t 72) (rnB.t 5) w.heap.size w.heap.size (Lib.byteCells (o9 zs.length [] pre)) W∧W.heap[BS]?=some (.cells #[.slice (some ⟨b7,0,none⟩) zs.length cp] 37 (0,0)))∧Below w.heap.size w W)
      (fun _ _ _=>False)
      (OwnFrom.and (Own.from (fun s A B row hs hg hr=>⟨Xve _ _ _ _ (fun p=>Lib.byteCells (o9 zs.length [] p)) s A B row hs.1 hg hr,Xii hs.2 hg hr⟩) _) (ownFrom_below (W0b _) (by omega)))
      (fun _ _ _ _ _ hs _ _=>hs)
      ⟨⟨hB2,hBS⟩,hb2⟩
      (fun x=>{ tmps:=#[t0,.pointer (some ⟨bx,0,none⟩),t2,t3,.pointer (some ⟨by4,0,none⟩),t5,t6,.pointer (some ⟨w.heap.size,0,none⟩),.int .i64 (x.1 : Int),.int .u32 (x.2.1 : Int),t10,t11,t12,t13,t14,t15,t16,t17,t18,t19,t20,t21,t22,t23,t24,t25,t26,t27,t28,t29,t30,t31,t32,t33,t34,t35,t36,t37,t38,t39,t40,t41,t42,t43,t44,t45,t46,t47,t48,t49,t50,.pointer (some ⟨bx,0,none⟩),.bool false,t53,.slice (some ⟨b7,0,none⟩) zs.length cp,.func (.func 149) #[] #[.pointer (some ⟨BS,0,none⟩)],.int .i64 (x.1 : Int),.int .u32 (x.2.1 : Int),t58,t59,t60,t61,t62,t63,t64,t65,t66,t67,t68,t69,t70,t71,t72,t73],defers:=[] }) ?assign ?body ?done ?stop
     case assign =>
      intro l x W K hK
      gi_wp2
      exact hK
     case stop =>
      rintro D c pre W _ _ h _
      exact h.elim
     case body =>
      rintro l pre x W ⟨⟨hBd,hBS⟩,hBl⟩ hlen
      gi_wp2
      rw [wU (by have:=x.2.2;omega)]
      refine ⟨trivial,(CallsIn.inRound l (callsIn_wide.2 (Ymb (hgw hBl) x.2))).mono ?_⟩
      rintro e W1 ⟨rfl,hW1⟩
      have h9 : W9 w.heap.size BS w2.heap.size (.slice (some ⟨b7,0,none⟩) zs.length cp) w W (o9 zs.length [] pre) W1:=W9.below ⟨hBd,hBS,hBl,KeepsFrom.refl _ _,Kq.refl _ _ _⟩ hBl.size hW1
      have c41 : W1.cell? ⟨by4,0,none⟩=some (.slice (some ⟨b7,0,none⟩) zs.length cp):=(h9.l.cell (p:=⟨by4,0,none⟩) hb4).trans c4
      have hxl:=Ykz x.2
      have hol:=Xuo zs.length pre []
      have hos:=Xn7 zs.length [] pre x
      have hsgl : ([] : List UInt8).length≤1:=by decide
      have hpl : pre.length<549755813888:=by omega
      obtain ⟨ds,hds⟩ : ∃ ds,ds=dec x.2.1:=⟨_,rfl⟩
      rw [←hds] at hxl hos ⊢
      have hBn : BS≠w.heap.size:=by omega
      clear hds hBd hBS hW1
      gi_wp2
      · rename_i hx
        refine ⟨trivial,(CallsIn.inRound l (callsIn_wide.2 (Yls (hgw h9.l) (n:=9 - ds.length) (by omega) (by omega)))).mono ?_⟩
        rintro e W2 ⟨rfl,hW2⟩
        have h9b:=h9.below h9.l.size hW2
        obtain ⟨zr,hzr⟩ : ∃ zr,zr=List.replicate (9 - ds.length) (48 : UInt8):=⟨_,rfl⟩
        have hzrl : zr.length≤9:=by rw [hzr,W1m];omega
        rw [←hzr]
        rw [if_pos (by omega),←hzr] at hos
        clear hzr
        gi_wp2
        refine ⟨trivial,(CallsIn.inRound l (callsIn_wide.2 (h9b.wr zr h9b.l.size hBn (by omega)))).mono ?_⟩
        rintro e W3 ⟨rfl,h9c⟩
        gi_wp2
        refine ⟨trivial,(CallsIn.inRound l (callsIn_wide.2 (h9c.wr ds h9c.l.size hBn (by simp only [W0c];omega)))).mono ?_⟩
        rintro e W4 ⟨rfl,h9d⟩
        gi_wp2
        exact ⟨h9d.k,h9d.q,⟨by rw [hos];exact h9d.b,h9d.s⟩,h9d.l⟩
      · rename_i hx
        rw [if_neg (by omega),W3a] at hos
        refine ⟨trivial,(CallsIn.inRound l (callsIn_wide.2 (h9.wr ds h9.l.size hBn (by omega)))).mono ?_⟩
        rintro e W4 ⟨rfl,h9d⟩
        gi_wp2
        exact ⟨h9d.k,h9d.q,⟨by rw [hos];exact h9d.b,h9d.s⟩,h9d.l⟩
     case done =>
      rintro D ys W hD rfl ⟨⟨hBd,hBS⟩,hBl⟩ hK
      gi_wp2
      have hne : o9 zs.length [] (b9 zs zs.length)=tx z:=by
       rw [Yc6 _ _ _ (W0b _),W2m,W1d,htx]
       unfold tx
       rw [if_neg (by omega)]
      rw [hne] at hBd
      have hn0 : tx z≠[]:=by
       unfold tx
       intro h
       exact Xmu _ (List.append_eq_nil_iff.1 h).2
      refine ⟨trivial,(callsIn_wide.2 (Any.Builder_String_k Ybc Yjd w.heap.size w.heap.size (tx z) W hBd hn0)).mono ?_⟩
      rintro e W3 ⟨rfl,_,hb3,hok3⟩
      have hK3:=hok3 D _ hK (by intro h;cases h;have:=hBl.size;omega) (by intro c fz h;cases h)
      gi_wp2
      refine ⟨by simp,.inl ⟨_,_,rfl,run_takeDeferred hK3,?_⟩⟩
      refine ⟨_,results_tmp rfl _ _ _,?_⟩
      refine hfin (s:=tx z) ?_ rfl
      exact (hBl.trans hb3).trans (belowK_b (w:=w) (W0b _) W3 D _ _ (by omega) hK3 rfl rfl)
theorem Xsa {z : Int} (hl : (dig z.natAbs).length≤274877906944) : C0 36 [.d (dz z)] (·=.d (.str (tx z))):=by
 by_cases hz : z=0
 · subst hz
   have : tx 0=[48]:=by unfold tx;rw [if_neg (by decide),show Int.natAbs 0=0 from rfl,Xcg (by decide)];rfl
   rw [this];exact Xpf
 · exact Xso hz hl
end
end Go.Proofs.YtjcejnjhfcbafaaGreatDoor
namespace Go.Proofs.YtjcejnjhfcbafaaGreatDoor.P11
open Go Go.Vm Go.Num Go.Tow Go.Proofs.YtjcejnjhfcbafaaGreatDoor Go.Proofs.YtjcejnjhfcbafaaGreatDoor.P9 Go.Proofs.YtjcejnjhfcbafaaGreatDoor.R11
section
def Xor (z : Int) (d : Nat) : AV:=if (txt z d).length≤400 then .tup (.pr (.d (.str (txt z d))) (.d (.int .i64 0))) else .tup (.pr (.d (.str [])) (.d (.int .i64 3)))
abbrev Xi8 (x : Nm) (d : Nat) (z : Int) : Prop:=Xbo x.k x.t (scl x.k x.t x.a ((10 ^ d : Int) : Rat) hf) z
theorem dcT {p : Prop} (h : p) : dc p=true:=Xau.2 h
theorem dcF {p : Prop} (h : ¬ p) : dc p=false:=W3e.2 fun e=>h (Xau.1 e)
theorem Yh6 {z : Int} (hl : (dig z.natAbs).length≤274877906944) : C0 35 [.d (.str (tx z)),.d (.str [45])] (·=.tup (.pr (.d (.str (dec z.natAbs))) (.b (dc (z<0))))):=by
 have hlen:=Xis z.natAbs
 have hT : Tx (tx z):=by
  by_cases h : z<0
  · rw [Xs0 h];show (45::dec z.natAbs).length<_;rw [W0n];omega
  · rw [Xsz h];show (dec z.natAbs).length<_;omega
 have h:=Xee (s:=tx z) (t:=[45]) hT (by decide)
 by_cases hz : z<0
 · have e : (tx z).take [(45 : UInt8)].length=[45]:=by rw [Xs0 hz];rfl
   rw [if_pos e,show (tx z).drop [(45 : UInt8)].length=dec z.natAbs by rw [Xs0 hz];rfl] at h
   exact h.mono fun v hv=>by rw [hv,dcT e,dcT hz]
 · have e : ¬ (tx z).take [(45 : UInt8)].length=[45]:=fun e=>by
    rw [Xsz hz] at e
    have hm : (45 : UInt8)∈dec z.natAbs:=W5l (by rw [e];exact W0g.2 rfl)
    have:=(Xwg z.natAbs 45 hm).1
    exact absurd this (by decide)
   exact h.mono fun v hv=>by rw [hv,if_neg e,dcF e,dcF hz,Xsz hz]
theorem Format_ok {x : Nm} {d : Nat} (H : Pk x) (hd : d≤60) : C0 12 [.d (dN x),.d (.int .i64 d)] fun v=>∃ z,Xi8 x d z∧(dig z.natAbs).length≤274877906944∧v=Xor z d:=by
 refine En Tryz.func12 fun _ _ _=>?_
 refine Ca rfl (Round_ok H hd) fun v hv=>?_
 obtain ⟨z,rfl,hz,hl⟩:=hv
 have hlen:=Xis z.natAbs
 have hpl:=Xn5 d (dec z.natAbs)
 have hdp:=Xk9 z.natAbs
 obtain ⟨s,hs⟩ : ∃ s,s=dec z.natAbs:=⟨_,rfl⟩
 rw [←hs] at hlen hpl hdp
 have hct:=Yh6 hl
 rw [←hs] at hct
 refine No rfl (by decide) ?_
 refine Ce rfl (Xsa hl) ?_
 refine Ce rfl hct ?_
 obtain ⟨q,hq⟩ : ∃ q,q=pad d s:=⟨_,rfl⟩
 have hql : q.length=max (d+1) s.length:=by rw [hq,hpl]
 obtain ⟨r,hr⟩ : ∃ r,r=pt d q:=⟨_,rfl⟩
 have hrl : r.length≤q.length+1:=by
  rw [hr,pt];split
  · omega
  · rw [W0c,W0n,W0k,W1p];omega
 have htx : txt z d=(if z<0 then [45] else [])++r:=by rw [txt,hr,hq,hs]
 refine Cu none (fun (_ : Unit)=>[(1,.d (.int .i64 d)),(8,.d (.str q)),(9,.b (dc (z<0)))]) (fun _=>[]) (fun _=>True) rfl ?_ fun _ _=>?_
 · refine By rfl (fun h=>?_) fun h=>?_
   · have h : ((s.length : Nat) : Int)≤d:=h
     refine Ar (d+1 : Nat) rfl ?_
     refine Ar (d+1 - s.length : Nat) rfl ?_
     refine Ce rfl (Xj2 (by omega)) ?_
     refine Sc q rfl (by rw [hq];rfl) (by rw [W1m];omega) ?_
     exact Jn () [] rfl trivial
   · have h : ¬ ((s.length : Nat) : Int)≤d:=h
     have e : q=s:=by rw [hq,pad,show d+1 - s.length=0 by omega];rfl
     rw [e]
     exact Jn () [] rfl trivial
 refine Cu none (fun (_ : Unit)=>[(1,.d (.int .i64 d)),(8,.d (.str r)),(9,.b (dc (z<0)))]) (fun _=>[]) (fun _=>True) rfl ?_ fun _ _=>?_
 · refine By rfl (fun h=>?_) fun h=>?_
   · refine Dw rfl ?_
     refine Ar ((q.length - d : Nat) : Int) rfl ?_
     refine Stk (q.length - d) _ rfl (by omega) rfl ?_
     refine Sc (q.take (q.length - d)++[46]) rfl rfl (by simp;omega) ?_
     refine Ar ((q.length - d : Nat) : Int) rfl ?_
     refine Sdp (q.length - d) _ rfl (by omega) rfl ?_
     refine Sc r rfl (by rw [hr,pt,if_neg (by omega)];simp) (by simp;omega) ?_
     exact Jn () [] rfl trivial
   · have e : r=q:=by rw [hr,pt,if_pos (by omega)]
     rw [e]
     exact Jn () [] rfl trivial
 refine Cu none (fun (_ : Unit)=>[(8,.d (.str (txt z d)))]) (fun _=>[]) (fun _=>True) rfl ?_ fun _ _=>?_
 · refine By rfl (fun h=>?_) fun h=>?_
   · refine Sc (txt z d) rfl (by rw [htx,if_pos h]) (by show 1+r.length<_;omega) ?_
     exact Jn () [] rfl trivial
   · rw [htx,if_neg h]
     exact Jn () [] rfl trivial
 refine By rfl (fun h=>?_) fun h=>?_
 · exact Rt rfl (.tup (.cons (.rf rfl) Xcj)) ⟨z,hz,hl,by rw [Xor,if_neg (by omega)]⟩
 · exact Rt rfl (.tup (.cons (.rf rfl) Xcj)) ⟨z,hz,hl,by rw [Xor,if_pos (by omega)]⟩
theorem Format_no {x : Nm} {d : Int} (hd : ¬ (0≤d∧d≤60)) : C0 12 [.d (dN x),.d (.int .i64 d)] (·=.tup (.pr (.d (.str [])) (.d (.int .i64 1)))):=by
 refine En Tryz.func12 fun _ _ _=>?_
 refine Ce rfl (Round_no hd) ?_
 refine Yes rfl (by decide) ?_
 exact R0t
def shT (s : List UInt8) : List UInt8:=let t:=trR 48 s;if 1≤t.length∧t.drop (t.length - 1)=[46] then t.take (t.length - 1) else t
def Xlx (z : Int) (d : Nat) : AV:=if (txt z d).length≤400 then .tup (.pr (.d (.str (if d=0 then txt z d else shT (txt z d)))) (.d (.int .i64 0))) else .tup (.pr (.d (.str [])) (.d (.int .i64 3)))
theorem Yb5 {c : UInt8} {s : List UInt8} : (trR c s).length≤s.length:=by
 obtain ⟨n,h⟩ : ∃ n,s=trR c s++List.replicate n c:=by
  refine Xck (p:=fun s=>∃ n,s=trR c s++List.replicate n c) ⟨0,rfl⟩ (fun l b ⟨n,h⟩=>?_) s
  rw [Xdi];split
  · rename_i e;exact ⟨n+1,by rw [W5o,←W2q,←h,e]⟩
  · exact ⟨0,by simp⟩
 have:=congrArg List.length h
 rw [W0c] at this
 omega
theorem Short_ok {x : Nm} {d : Nat} (H : Pk x) (hd : d≤60) : C0 14 [.d (dN x),.d (.int .i64 d)] fun v=>∃ z,Xi8 x d z∧(dig z.natAbs).length≤274877906944∧v=Xlx z d:=by
 refine En Tryz.func14 fun _ _ _=>?_
 refine Ca rfl (Format_ok H hd) fun v hv=>?_
 obtain ⟨z,hz,hzl,rfl⟩:=hv
 by_cases h : (txt z d).length≤400
 · rw [Xor,if_pos h]
   have e : Xlx z d=.tup (.pr (.d (.str (if d=0 then txt z d else shT (txt z d)))) (.d (.int .i64 0))):=by rw [Xlx,if_pos h]
   refine No rfl (by decide) ?_
   by_cases h0 : d=0
   · rw [if_pos h0] at e
     refine Yes rfl (by omega) ?_
     exact Rt rfl (.tup (.cons (.rf rfl) Xcj)) ⟨z,hz,hzl,e.symm⟩
   · rw [if_neg h0] at e
     have hl:=Yb5 (c:=48) (s:=txt z d)
     refine No rfl (by omega) ?_
     refine Ce rfl (Xll (b:=48) (show (txt z d).length<_ by omega) (by decide)) ?_
     refine Ce rfl (Xlk (t:=[46]) (show (trR 48 (txt z d)).length<_ by omega) (by decide)) ?_
     exact Rt rfl (.tup (.cons (.rf rfl) Xcj)) ⟨z,hz,hzl,by rw [e];rfl⟩
 · rw [Xor,if_neg h]
   have e : Xlx z d=.tup (.pr (.d (.str [])) (.d (.int .i64 3))):=by rw [Xlx,if_neg h]
   refine Yes rfl (by decide) ?_
   exact Rt rfl (.tup (.cons (.rf rfl) Xcj)) ⟨z,hz,hzl,e.symm⟩
theorem Short_no {x : Nm} {d : Int} (hd : ¬ (0≤d∧d≤60)) : C0 14 [.d (dN x),.d (.int .i64 d)] (·=.tup (.pr (.d (.str [])) (.d (.int .i64 1)))):=by
 refine En Tryz.func14 fun _ _ _=>?_
 refine Ce rfl (Format_no hd) ?_
 refine Yes rfl (by decide) ?_
 exact R0t
end
section
def pP (s : List UInt8) (v : AV) : Prop:=match prs s with
 | none=>∃ m : Int,v=.tup (.pr (.d (dz 0)) (.pr (.d (.int .i64 m)) (.b false)))
 | some (ng,a,b)=>v=.tup (.pr (.d (dz (frI ng a b))) (.pr (.d (.int .i64 b.length)) (.b true)))
theorem Xui {s : List UInt8} {v : AV} (h : prs s=none) : pP s v↔∃ m : Int,v=.tup (.pr (.d (dz 0)) (.pr (.d (.int .i64 m)) (.b false))):=by unfold pP;rw [h]
theorem Xmb {s a b : List UInt8} {ng : Bool} {v : AV} (h : prs s=some (ng,a,b)) : pP s v↔v=.tup (.pr (.d (dz (frI ng a b))) (.pr (.d (.int .i64 b.length)) (.b true))):=by unfold pP;rw [h]
theorem Yne {s : List UInt8} (hs : Tx s) : ∃ ng q,s=sgB ng++q∧(ng=false→s.head?≠some 45)∧C0 35 [.d (.str s),.d (.str [45])] (·=.tup (.pr (.d (.str q)) (.b ng))):=by
 have h:=Xee (s:=s) (t:=[45]) hs (by decide)
 by_cases e : s.take [(45 : UInt8)].length=[45]
 · refine ⟨true,s.drop 1,?_,nofun,h.mono fun v hv=>by rw [hv,if_pos e,dcT e];rfl⟩
   have:=W3v 1 s
   rw [show s.take 1=[45] from e] at this
   exact this.symm
 · refine ⟨false,s,rfl,fun _ hh=>e ?_,h.mono fun v hv=>by rw [hv,if_neg e,dcF e]⟩
   cases s with
   | nil=>cases hh
   | cons x t=>cases hh;rfl
theorem Ynd {s q : List UInt8} {ng : Bool} (hl : s.length≤400) (hs : s=sgB ng++q) (hn : ng=false→s.head?≠some 45) : ∃ u t pt,u.length+t.length≤400∧C0 98 [.d (.str q),.d (.str [46])] (·=.tup (.pr (.d (.str u)) (.pr (.d (.str t)) (.b pt)))) ∧
 prs s=if u=[]∨(pt=true∧t=[])∨(1<u.length∧u.head?=some 48)∨(u++t).all isD=false then none else if ng && z0 (u++t) then none else some (ng,u,t):=by
 have hql : q.length≤400:=by have:=congrArg List.length hs;rw [W0c] at this;omega
 rcases Ydj 46 q with h | ⟨u,t,rfl,h⟩
 · refine ⟨q,[],false,by simpa using hql,Yiw (b:=46) (by show q.length<_;omega) h,?_⟩
   rw [Ygf hl hs hn h,W3a]
   simp only [Bool.false_eq_true,false_and,false_or]
 · refine ⟨u,t,true,by rw [W0c,W0n] at hql;omega,Yix (by show _<_;omega) h,?_⟩
   rw [Yge hl hs hn h]
   simp only [true_and]
theorem Yae {c : UInt8} : ∀ l : List UInt8,∃ n,l=List.replicate n c++trL c l
 | []=>⟨0,rfl⟩
 | x::l=>by
  unfold trL
  rw [W3u]
  by_cases h : x=c
  · obtain ⟨n,hn⟩:=Yae (c:=c) l
    rw [if_pos (by rw [h];exact beq_self_eq_true c)]
    exact ⟨n+1,by rw [W3t,W4d,h];congr 1⟩
  · rw [if_neg (by simpa using h)]
    exact ⟨0,rfl⟩
theorem Yd8 (l : List UInt8) (n : Nat) : Xbg (List.replicate n 48++l)=Xbg l:=by
 rw [Xdu,Xip (by unfold z0;simp),W4t,W1k]
theorem Yfm {l y : List UInt8} (hd : ∀ b∈l,Xe9 b) (hy : y=trL 48 l) (h0 : y≠[]) : ∃ b r,y=b::r∧48<b.toNat:=by
 cases y with
 | nil=>exact absurd rfl h0
 | cons b r =>
  refine ⟨b,r,rfl,?_⟩
  have h1:=W7h (· == (48 : UInt8)) l
  unfold trL at hy
  rw [←hy] at h1
  have h1 : ¬ b=48:=by simpa using h1
  have hb : b∈l:=(List.dropWhile_sublist _).subset (by rw [←hy];exact W0w ..)
  have:=(hd b hb).1
  have h2 : b.toNat≠48:=fun e=>h1 (W5v.1 e)
  omega
theorem Xyx {m : Int} {g : Hp} {K : Hpl} : FitT g K (.pr (AV.st (.pr (.b false) .nil)) (.pr (.d (.int .i64 m)) (.b false))) (.pr (.d (dz 0)) (.pr (.d (.int .i64 m)) (.b false))):=by
 rw [dz0];exact .cons (.sd (.pd (.bd rfl) (.nil rfl))) (.cons (.rf rfl) (.one (.rf rfl) (fun _ _ e=>by cases e) (fun _ _ e=>by cases e)))
theorem Xha {s : List UInt8} (hs : Tx s) : C0 41 [.d (.str s)] (pP s):=by
 obtain ⟨ng,q,hq,hn,hc⟩:=Yne hs
 by_cases hl : s.length≤400
 · obtain ⟨u,t,pt,hut,hk,hp⟩:=Ynd hl hq hn
   have hTx : Tx (u++t):=by show (u++t).length<_;rw [W0c];omega
   have htr:=Trim_ok hTx
   obtain ⟨w,hw⟩ : ∃ w,w=(Xpm Ye7.contains (u++t)).dropWhile Ye7.contains:=⟨_,rfl⟩
   have hwn : w=[]↔(u++t).all isD=true:=by rw [hw,Xxl,Xzc]
   rw [←hw] at htr
   refine En Tryz.func41 fun _ _ _=>?_
   refine No rfl (by omega) ?_
   refine Ce rfl hc ?_
   refine Ce rfl hk ?_
   let fl : Prop:=u=[]∨(pt=true∧t=[])∨(1<u.length∧u.head?=some 48)∨(u++t).all isD=false
   refine Cu (some 5) (fun (c : Bool)=>[(2,.ptr 2 0),(6,.b ng),(7,.d (.str u)),(8,.d (.str t)),(53,.b c)]) (fun _=>[(2,.var (.st (.pr (.b false) .nil)))]) (fun c=>c=true↔fl) rfl ?_ fun c hcf=>?_
   · refine By rfl (fun h=>?_) fun hu=>?_
     · exact Jn true [] rfl ⟨fun _=>.inl h,fun _=>rfl⟩
     have ulen : 0<u.length:=W4z.2 hu
     have last : (¬ (pt=true∧t=[]))→(¬ (1<u.length∧u.head?=some 48))→(w≠[]↔fl):=fun h1 h2=>by
      show _↔(_∨_∨_∨_)
      simp only [hu,h1,h2,false_or,hwn,ne_eq,Bool.not_eq_true]
     have fin2 : ∀ b,u[0]?=some b→((b.toNat : Int)=48↔u.head?=some 48):=fun b hb=>by
      rw [List.head?_eq_getElem?,hb]
      constructor
      · intro e;rw [show b=48 from W5v.1 (by show b.toNat=48;omega)]
      · intro e;injection e with e;rw [e];rfl
     have hu0 : u[0]?=some (u[0]):=W0e ulen
     have hsc : (u++t).length<9223372036854775808:=by rw [W0c];omega
     have hsl : u.length+t.length<9223372036854775808:=by omega
     refine By rfl (fun hpt=>By rfl (fun h=>Jn true [] rfl ⟨fun _=>.inr (.inl ⟨hpt,h⟩),fun _=>rfl⟩) fun ht=>?_) fun hpt=>?_
     · have hA : ¬ (pt=true∧t=[]):=fun h=>ht h.2
       refine By rfl (fun h1=>Yx 0 _ rfl hu0 (By rfl (fun h48=>Jn true [] rfl ⟨fun _=>.inr (.inr (.inl ⟨by omega,(fin2 _ hu0).1 h48⟩)),fun _=>rfl⟩) fun h48=>?_)) fun h1=>?_
       · refine Sc (u++t) rfl rfl hsl ?_
         refine Ce rfl htr ?_
         exact Jn (dc (w≠[])) [] rfl (Xau.trans (last hA fun h=>h48 ((fin2 _ hu0).2 h.2)))
       · refine Sc (u++t) rfl rfl hsl ?_
         refine Ce rfl htr ?_
         exact Jn (dc (w≠[])) [] rfl (Xau.trans (last hA fun h=>by omega))
     · have hA : ¬ (pt=true∧t=[]):=fun h=>hpt h.1
       refine By rfl (fun h1=>Yx 0 _ rfl hu0 (By rfl (fun h48=>Jn true [] rfl ⟨fun _=>.inr (.inr (.inl ⟨by omega,(fin2 _ hu0).1 h48⟩)),fun _=>rfl⟩) fun h48=>?_)) fun h1=>?_
       · refine Sc (u++t) rfl rfl hsl ?_
         refine Ce rfl htr ?_
         exact Jn (dc (w≠[])) [] rfl (Xau.trans (last hA fun h=>h48 ((fin2 _ hu0).2 h.2)))
       · refine Sc (u++t) rfl rfl hsl ?_
         refine Ce rfl htr ?_
         exact Jn (dc (w≠[])) [] rfl (Xau.trans (last hA fun h=>by omega))
   · refine By rfl (fun h=>?_) fun h=>?_
     · exact Rt rfl (.tup Xyx) ((Xui (by rw [hp,if_pos (hcf.1 h)])).2 ⟨0,rfl⟩)
     · have hf : ¬ fl:=fun e=>h (hcf.2 e)
       have hp' : prs s=if ng && z0 (u++t) then none else some (ng,u,t):=by rw [hp,if_neg hf]
       have hall : (u++t).all isD=true:=by
        cases e : (u++t).all isD with
        | true=>rfl
        | false=>exact absurd (.inr (.inr (.inr e))) hf
       have hdg : ∀ b∈u++t,Xe9 b:=Ymf.1 hall
       have hTL:=Xna (s:=u++t) (b:=48) hTx (by decide)
       obtain ⟨y,hy⟩ : ∃ y,y=trL 48 (u++t):=⟨_,rfl⟩
       have hz0 : y=[]↔z0 (u++t)=true:=by rw [hy];exact Yjr _
       rw [←hy] at hTL
       refine Sc (u++t) rfl rfl (by omega) ?_
       refine Ce rfl hTL ?_
       refine By rfl (fun hy0=>?_) fun hy0=>?_
       · have hz:=hz0.1 hy0
         refine Ce rfl (FromInt_ok (z:=0) (by decide)) ?_
         cases ng with
         | true =>
          rw [hz] at hp'
          exact Rt rfl (.tup (.cons (.rf rfl) (.cons (.rf rfl) (.one (.rf rfl) (fun _ _ e=>by cases e) (fun _ _ e=>by cases e))))) ((Xui (by rw [hp'];rfl)).2 ⟨t.length,rfl⟩)
         | false =>
          exact Rt rfl (.tup (.cons (.rf rfl) (.cons (.rf rfl) (.one (.rf rfl) (fun _ _ e=>by cases e) (fun _ _ e=>by cases e))))) ((Xmb (by rw [hp'];rfl)).2 (by rw [frI,Xip hz];rfl))
       · have hz : z0 (u++t)=false:=by cases e : z0 (u++t) with | true=>exact absurd (hz0.2 e) hy0 | false=>rfl
         have hyp : prs s=some (ng,u,t):=by rw [hp',hz,Bool.and_false];rfl
         obtain ⟨n,hyn⟩:=Yae (u++t)
         rw [←hy] at hyn
         have hyd : ∀ b∈y,Xe9 b:=fun b hb=>hdg b (by rw [hyn];exact W1j _ hb)
         have hyl : y.length≤400:=by have:=congrArg List.length hyn;rw [W0c,W0c] at this;omega
         have hyv : Xbg y=Xbg (u++t):=by rw [hyn,Yd8]
         have hdl:=Xk7 hyd
         refine Ce rfl (Xzy hyd (by omega) (Yfm hdg hy hy0)) ?_
         rw [hyv] at hdl ⊢
         refine By rfl (fun hng=>?_) fun hng=>?_
         · refine Ce rfl (Neg_ok (by rw [W1g];omega)) ?_
           exact Rt rfl (.tup (.cons (.rf rfl) (.cons (.rf rfl) (.one (.rf rfl) (fun _ _ e=>by cases e) (fun _ _ e=>by cases e))))) ((Xmb hyp).2 (by rw [frI,if_pos hng,dcT (p:=(0 : Int)=0) rfl];rfl))
         · exact Rt rfl (.tup (.cons (.rf rfl) (.cons (.rf rfl) (.one (.rf rfl) (fun _ _ e=>by cases e) (fun _ _ e=>by cases e))))) ((Xmb hyp).2 (by rw [frI,if_neg hng,dcT (p:=(0 : Int)=0) rfl];rfl))
 · have hp : prs s=none:=by unfold prs;rw [if_pos (by omega)]
   refine En Tryz.func41 fun _ _ _=>?_
   refine Yes rfl (by omega) ?_
   exact Rt rfl (.tup Xyx) ((Xui hp).2 ⟨0,rfl⟩)
theorem Xml {s a b : List UInt8} {ng : Bool} (h : prs s=some (ng,a,b)) : Zs 1601 (frI ng a b)∧b.length≤400:=by
 obtain ⟨h1,h2,h3,h4,h5⟩:=Xdq h
 have hl : a.length+b.length≤400:=by
  have:=congrArg List.length h2
  rw [W0c,W0c] at this
  have : b.length≤(ptB b).length:=by unfold ptB;split <;> simp_all
  omega
 have hd : ∀ x∈a++b,Xe9 x:=Ymf.1 (by rw [W4r,h4,h5];rfl)
 have hv:=Xiq hd
 rw [W0c] at hv
 have:=Qn hv hl
 refine ⟨?_,by omega⟩
 have hz : Zs 1601 ((Xbg (a++b) : Nat) : Int):=this.n
 unfold frI
 unfold Zs at *
 split
 · rw [W4x];exact hz
 · exact hz
theorem Parse_no {s : List UInt8} (hs : Tx s) (h : prs s=none) : C0 25 [.d (.str s)] (·=.tup (.pr (.d dq0) (.d (.int .i64 2)))):=by
 refine En Tryz.func25 fun _ _ _=>?_
 refine Ca rfl (Xha hs) fun v hv=>?_
 obtain ⟨m,rfl⟩:=(Xui h).1 hv
 refine Yes rfl (by decide) ?_
 exact RTt rfl (.cons (.sd (.pd (.sd (.pd (.bd rfl) (.nil rfl))) (.sd (.pd (.bd rfl) (.nil rfl))))) Xcj)
theorem Parse_yes {s a b : List UInt8} {ng : Bool} (hs : Tx s) (h : prs s=some (ng,a,b)) : C0 25 [.d (.str s)] (·=.tup (.pr (.d (dq (fr ng a b))) (.d (.int .i64 0)))):=by
 obtain ⟨hz,hb⟩:=Xml h
 have hm:=Make_ok (p:=1605) (hz.mono (by decide)) ((p10 b.length).mono (by omega)) (by decide) (fun e=>Xes b.length (by rw [e];rfl))
 rw [W3h,←Xij] at hm
 refine En Tryz.func25 fun _ _ _=>?_
 refine Ca rfl (Xha hs) fun v hv=>?_
 obtain rfl:=(Xmb h).1 hv
 refine No rfl (by decide) ?_
 refine Dw rfl ?_
 refine Ce rfl (Xcn (by omega)) ?_
 refine Ce rfl hm ?_
 exact RTt rfl (.cons (.rf rfl) Xcj)
end
section
def loQ (ng : Bool) (a b : List UInt8) : Rat:=fr ng a b - hf / ((10 ^ b.length : Int) : Rat)
def hiQ (ng : Bool) (a b : List UInt8) : Rat:=fr ng a b+hf / ((10 ^ b.length : Int) : Rat)
theorem Yjh {k : Nat} (hk : k≤3) : vB 300 k (15000+4000+4)≤4398046511104∧vB 300 k 300≤4398046511104:=by
 have h : k=0∨k=1∨k=2∨k=3:=by omega
 rcases h with rfl | rfl | rfl | rfl <;> decide +kernel
theorem Yed {x : Nm} (hk : x.k≤3) (hr : Xbh x.k x.t) (hx : TS 300 x.k x.t) (hp : Sz 15000 (toL x.k x.a)) {q : Rat} (hq : Qs 4000 q) :
 ∃ c : Int,(C0 49 [.d (dN (nq q)),.d (dN x)] (·=.tup (.pr (.d (.int .i64 c)) (.d (.int .i64 0)))))∧(c≤0↔le x.k x.t (rat x.k q) x.a):=by
 refine ⟨_,Yli hr hx hp hq (by omega) (by decide) (by decide) (by decide) (Yjh hk).1 (Yjh hk).2,?_⟩
 unfold le
 have hs:=(Xaw hr).sn (add x.k (rat x.k q) (neg x.k x.a))
 have L:=Xa5 x.k x.t
 rw [L.nd,L.nn,L.ac] at hs
 rw [hs];omega
theorem Xzj {x : Nm} (hk : x.k≤3) (hr : Xbh x.k x.t) (hx : TS 300 x.k x.t) (hp : Sz 15000 (toL x.k x.a)) {q : Rat} (hq : Qs 4000 q) :
 ∃ c : Int,(C0 49 [.d (dN x),.d (dN (nq q))] (·=.tup (.pr (.d (.int .i64 c)) (.d (.int .i64 0)))))∧(c≤0↔le x.k x.t x.a (rat x.k q)):=by
 refine ⟨_,Ylh hr hx hp hq (by omega) (by decide) (by decide) (by decide) (Yjh hk).1 (Yjh hk).2,?_⟩
 unfold le
 have hs:=(Xaw hr).sn (add x.k x.a (neg x.k (rat x.k q)))
 have L:=Xa5 x.k x.t
 rw [L.nd,L.nn,L.ac] at hs
 rw [hs];omega
theorem Ydu {n : Int} (h : Zs 1601 n) : Qs 4000 ((n : Rat) - hf)∧Qs 4000 ((n : Rat)+hf):=by
 have h1 : Qs 1601 (n : Rat):=Qs.int h (by decide)
 exact ⟨by rw [W5e];exact (h1.add Xon.neg).mono (by decide),(h1.add Xon).mono (by decide)⟩
theorem Xhm (n : Nat) : (0 : Rat)<((10 ^ n : Int) : Rat):=by
 have : (0 : Int)<10 ^ n:=W6v (by decide)
 exact Rat.intCast_pos.2 this
theorem Xs7 {n : Nat} (h : n≤400) : Qs 1601 ((10 ^ n : Int) : Rat):=Qs.int ((p10 n).mono (by omega)) (by decide)
theorem Yfp {x : Nm} (H : Pk x) {u : Rat} (hu : Qs 1601 u) : Sz 15000 (toL x.k (mul x.k x.t x.a (rat x.k u))):=by
 rcases H.ml with hl | ⟨h0,hl⟩
 · refine (Sz.all (Xfk (t:=x.t) hl hu)).mono ?_
   rw [Xab]
   have hp : 2 ^ x.k≤2 ^ 3:=W0i (by decide) H.k
   omega
 · refine (Sz.all (Xfk (t:=x.t) hl hu)).mono ?_
   rw [Xab,h0]
   decide
theorem Within_no {x : Nm} {s : List UInt8} (hs : Tx s) (h : prs s=none) : C0 16 [.d (dN x),.d (.str s)] (·=.b false):=by
 refine En Tryz.func16 fun _ _ _=>?_
 refine Ca rfl (Xha hs) fun v hv=>?_
 obtain ⟨m,rfl⟩:=(Xui h).1 hv
 refine Yes rfl (by decide) ?_
 exact R0
theorem Within_yes {x : Nm} {s a b : List UInt8} {ng : Bool} (H : Pk x) (hs : Tx s) (h : prs s=some (ng,a,b)) : C0 16 [.d (dN x),.d (.str s)] (·=.b (dc (inI x.k x.t x.a (loQ ng a b) (hiQ ng a b)))):=by
 obtain ⟨hz,hb⟩:=Xml h
 obtain ⟨n,hn⟩ : ∃ n,n=frI ng a b:=⟨_,rfl⟩
 have hu:=Xs7 hb
 have hsz:=Yfp H hu
 obtain ⟨hq1,hq2⟩:=Ydu hz
 obtain ⟨c,hc,hci⟩:=Yed (x:=⟨x.k,x.t,mul x.k x.t x.a (rat x.k ((10 ^ b.length : Int) : Rat))⟩) H.k H.re H.t hsz hq1
 obtain ⟨d,hd,hdi⟩:=Xzj (x:=⟨x.k,x.t,mul x.k x.t x.a (rat x.k ((10 ^ b.length : Int) : Rat))⟩) H.k H.re H.t hsz hq2
 have hin : inI x.k x.t x.a (loQ ng a b) (hiQ ng a b)↔c≤0∧d≤0:=by
  have h0:=Xes b.length
  rw [hci,hdi]
  have e1 : loQ ng a b*((10 ^ b.length : Int) : Rat)=((frI ng a b : Int) : Rat) - hf:=by rw [loQ,Xij];grind
  have e2 : hiQ ng a b*((10 ^ b.length : Int) : Rat)=((frI ng a b : Int) : Rat)+hf:=by rw [hiQ,Xij];grind
  show _∧_↔_
  rw [Xqz H.re (Xhm _) e1,Xq4 H.re (Xhm _) e2]
 obtain ⟨b1,b2,b3,b4,b5⟩:=bnds H.k
 have hk:=H.k
 refine En Tryz.func16 fun _ _ _=>?_
 refine Ca rfl (Xha hs) fun v hv=>?_
 obtain rfl:=(Xmb h).1 hv
 refine No rfl (by decide) ?_
 refine Dw rfl ?_
 refine Ce rfl (Xcn (by omega)) ?_
 refine Ce rfl (Xj5 hz (by decide) (by decide)) ?_
 refine Dw rfl ?_
 refine Ce rfl (Xj5 hu.n (by decide) (by decide)) ?_
 refine Ce rfl (P9.FromRat_ok hu (by decide)) ?_
 refine Ce rfl (Yir H.t H.sz hu (by omega) (by decide) (by decide) (by decide) b5) ?_
 refine No rfl (by decide) ?_
 refine Ce rfl (Xg8 (a:=1) (b:=2) (by decide) (by decide)) ?_
 refine Dw rfl ?_
 refine Ce rfl (Xua (Qs.int hz (by decide)) Xon (by decide)) ?_
 refine Ce rfl (P9.FromRat_ok hq1 (by decide)) ?_
 refine Ce rfl (Xdp (Qs.int hz (by decide)) Xon (by decide)) ?_
 refine Ce rfl (P9.FromRat_ok hq2 (by decide)) ?_
 refine Ce rfl hc ?_
 refine Ce rfl hd ?_
 refine Yes rfl (by decide) ?_
 refine Yes rfl (by decide) ?_
 refine By rfl (fun h1=>?_) fun h1=>?_
 · exact R1 rfl (.bp (by rw [Xau,hin];exact ⟨fun h=>⟨h1,h⟩,fun h=>h.2⟩))
 · exact R1 rfl (.bp (by rw [hin];exact ⟨nofun,fun h=>absurd h.1 h1⟩))
end
end Go.Proofs.YtjcejnjhfcbafaaGreatDoor.P11
namespace Go.Proofs.YtjcejnjhfcbafaaGreatDoor.R3
open Go Go.Vm Go.Num Go.Tow Go.Proofs.YtjcejnjhfcbafaaGreatDoor
theorem Point_ok {x : Rat} : C0 192 [.d (dq x)] (·=.d (dI (x,x))):=by
 refine En Tryz.func192 fun _ _ _=>?_
 exact R1 rfl (Xxd rfl rfl)
theorem Xnj {b : Nat} (hb : b≤4096) : C0 199 [.d (.int .i64 b)] (·=.d (dq (pw b))):=by
 refine En Tryz.func199 fun _ _ _=>?_
 refine Ce rfl (R1.FromInt_ok (z:=2) (by decide)) ?_
 refine Ce rfl (R1.Pow_ok (z:=2) (q:=2) (by unfold Zs;decide) (by omega) (by decide)) ?_
 refine Dw rfl ?_
 refine Ce rfl (R1.FromInt_ok (z:=1) (by decide)) ?_
 refine Ce rfl (R2.Make_ok (p:=b+1) (a:=2 ^ b) (b:=1) (Zs.two (W0b _)) (Zs.one (by omega)) (by omega) (by decide)) ?_
 exact R1 rfl (.eq (by rw [Xgd];rfl))
section
variable {x : Rat} {s b : Nat}
theorem Xir (hx : Qs s x) (hb : b≤4096) (hs : s≤1099511627776) : C0 249 [.d (dq x),.d (.int .i64 b)] (·=.d (dq (dnQ x b))):=by
 have hp:=hx.mul (Xgu b)
 refine En Tryz.func249 fun _ _ _=>?_
 refine Ce rfl (Xnj hb) ?_
 refine Dw rfl ?_
 refine Ce rfl (R2.Mul_ok hx (Xgu b) (by omega)) ?_
 refine Ce rfl (R2.Floor_ok hp (by omega)) ?_
 refine Ce rfl (R2.Make_ok (p:=s+b+1) (a:=(x*pw b).floor) (b:=2 ^ b) ((Zs.floor hp).mono (by omega)) (Zs.two (by omega)) (by omega) (Xc6 b)) ?_
 exact R1 rfl (.rf rfl)
theorem Yb3 (hx : Qs s x) (hb : b≤4096) (hs : s≤1099511627776) : C0 250 [.d (dq x),.d (.int .i64 b)] (·=.d (dq (upQ x b))):=by
 refine En Tryz.func250 fun _ _ _=>?_
 refine Ce rfl (R2.Neg_ok hx (by omega)) ?_
 refine Ce rfl (Xir hx.neg hb hs) ?_
 refine Ce rfl (R2.Neg_ok (Xrh hx.neg b) (by omega)) ?_
 exact R1 rfl (.rf rfl)
theorem Round_ok {p : Rat × Rat} (hp : Q2 s p) (hb : b≤4096) (hs : s≤1099511627776) : C0 194 [.d (dI p),.d (.int .i64 b)] (·=.d (dI (rnd p b))):=by
 refine En Tryz.func194 fun _ _ _=>?_
 refine No rfl (by omega) ?_
 refine No rfl (by omega) ?_
 refine Dw rfl ?_
 refine Ce rfl (Xir hp.1 hb hs) ?_
 refine Ce rfl (Yb3 hp.2 hb hs) ?_
 exact R1 rfl (Xxd rfl rfl)
end
theorem Xw9 {x : Rat} {r : List Rat} {s : Nat} (hx : ∀ y∈x::r,Qs s y) (hs : s+s≤4398046511104) (hn : r.length≤1000) : C0 251 [.d (dqs (x::r))] (·=.d (dI (Xng x r,Xnh x r))):=by
 refine En Tryz.func251 fun _ _ _=>?_
 refine Ix 0 rfl (u:=dq x) rfl ?_
 refine Ce rfl Point_ok ?_
 refine Lo (fun (q : Nat × Rat × Rat)=>[(0,.d (dqs (x::r))),(2,.ptr 2 0),(3,.ptr 3 0),(4,.d (.int .i64 (q.1+1 : Nat)))]) (fun q=>[(2,.var zI),(3,.var (.d (dI (q.2.1,q.2.2))))]) (fun q=>q.1≤r.length∧q.2.1=Xng x (r.take q.1)∧q.2.2=Xnh x (r.take q.1)) (fun q=>r.length - q.1) (0,x,x) [] rfl ⟨W1c _,rfl,rfl⟩ (fun (k,lo,hi) ⟨hk,hlo,hhi⟩=>?_)
 simp only at hk hlo hhi
 have qlo : Qs s lo:=hlo ▸ Xoc (Xkg hx k)
 have qhi : Qs s hi:=hhi ▸ Xod (Xkg hx k)
 have hsm : s+s≤8796093022208:=by omega
 refine By rfl (fun h=>?_) fun h=>?_
 · have h : ((k+1 : Nat) : Int)<(((x::r).map dq).length : Nat):=h
   rw [lq,W0n] at h
   obtain ⟨y,hy⟩:=qat (l:=r) (k:=k) (by omega)
   have hyu : ((x::r).map dq)[k+1]?=some (dq y):=mp (by simpa using hy)
   have qy : Qs s y:=hx y (W1b _ (W0m hy))
   have e : r.take (k+1)=r.take k++[y]:=by rw [W1r,hy];rfl
   have e1 : Xng x (r.take (k+1))=lo2 lo y:=by rw [e,Xmd,hlo]
   have e2 : Xnh x (r.take (k+1))=hi2 hi y:=by rw [e,Xme,hhi]
   have fin : ∀ lo' hi',lo'=lo2 lo y→hi'=hi2 hi y→k+1≤r.length∧lo'=Xng x (r.take (k+1))∧hi'=Xnh x (r.take (k+1)):=fun lo' hi' a b=>⟨by omega,by rw [a,e1],by rw [b,e2]⟩
   refine Dw rfl ?_
   refine Ix (k+1) rfl hyu ?_
   refine Ce rfl (R2.Cmp_ok qy qlo hsm) ?_
   refine By rfl (fun h1=>?_) fun h1=>?_
   · refine Ix (k+1) rfl hyu ?_
     refine Dw rfl ?_
     refine Ix (k+1) rfl hyu ?_
     refine Ce rfl (R2.Cmp_ok qy qhi hsm) ?_
     refine By rfl (fun h2=>?_) fun h2=>?_
     · refine Ix (k+1) rfl hyu ?_
       refine Ar (k+1+1 : Nat) rfl ?_
       exact Bk (k+1,y,y) [] rfl (fin y y (if_pos (Xwn.1 h1)).symm (if_pos (Yee.1 h2)).symm) (by show r.length - (k+1)<r.length - k;omega)
     · refine Ar (k+1+1 : Nat) rfl ?_
       exact Bk (k+1,y,hi) [] rfl (fin y hi (if_pos (Xwn.1 h1)).symm (if_neg fun h=>h2 (Yee.2 h)).symm) (by show r.length - (k+1)<r.length - k;omega)
   · refine Dw rfl ?_
     refine Ix (k+1) rfl hyu ?_
     refine Ce rfl (R2.Cmp_ok qy qhi hsm) ?_
     refine By rfl (fun h2=>?_) fun h2=>?_
     · refine Ix (k+1) rfl hyu ?_
       refine Ar (k+1+1 : Nat) rfl ?_
       exact Bk (k+1,lo,y) [] rfl (fin lo y (if_neg fun h=>h1 (Xwn.2 h)).symm (if_pos (Yee.1 h2)).symm) (by show r.length - (k+1)<r.length - k;omega)
     · refine Ar (k+1+1 : Nat) rfl ?_
       exact Bk (k+1,lo,hi) [] rfl (fin lo hi (if_neg fun h=>h1 (Xwn.2 h)).symm (if_neg fun h=>h2 (Yee.2 h)).symm) (by show r.length - (k+1)<r.length - k;omega)
 · have h : ¬ ((k+1 : Nat) : Int)<(((x::r).map dq).length : Nat):=h
   rw [lq,W0n] at h
   rw [W0a (by omega)] at hlo hhi
   exact R1 rfl (Xxd (by rw [hlo]) (by rw [hhi]))
section
variable {p q : Rat × Rat} {s t b : Nat}
theorem Xy4 (hp : Q2 s p) (hq : Q2 t q) (hs : s+t+3≤4398046511104) : C0 252 [.d (dI p),.d (dI q),.d (.int .i64 0)] (·=.d (dqs [p.1+q.1,p.1+q.2,p.2+q.1,p.2+q.2])):=by
 have hsm : s+t+1≤8796093022208:=by omega
 refine En Tryz.func252 fun _ _ _=>?_
 refine Dw rfl ?_
 refine Nl 7 7 4 rfl ?_
 refine Lo (fun (i : Nat)=>[(2,.d (.int .i64 0)),(7,.gr 7 4 (([p.1+q.1,p.1+q.2,p.2+q.1,p.2+q.2].take (2*i)).map dq)),(8,.lit 4 [dq p.1,dq p.2]),(9,.lit 4 [dq q.1,dq q.2]),(10,.d (.int .i64 i))]) (fun i=>[(7,.tok (([p.1+q.1,p.1+q.2,p.2+q.1,p.2+q.2].take (2*i)).map dq).length 4)]) (fun i=>i≤2) (fun i=>2 - i) 0 [] rfl (by decide) (fun i hi=>?_)
 have hi : i=0∨i=1∨i=2:=by omega
 rcases hi with rfl | rfl | rfl
 · refine Yes rfl (by decide) ?_
   refine Lo (fun (k : Nat)=>[(2,.d (.int .i64 0)),(7,.gr 7 4 (([p.1+q.1,p.1+q.2,p.2+q.1,p.2+q.2].take (0+k)).map dq)),(8,.lit 4 [dq p.1,dq p.2]),(9,.lit 4 [dq q.1,dq q.2]),(10,.d (.int .i64 0)),(11,.d (.int .i64 k))]) (fun k=>[(7,.tok (([p.1+q.1,p.1+q.2,p.2+q.1,p.2+q.2].take (0+k)).map dq).length 4)]) (fun k=>k≤2) (fun k=>2 - k) 0 [] rfl (by decide) (fun k hk=>?_)
   have hk : k=0∨k=1∨k=2:=by omega
   rcases hk with rfl | rfl | rfl
   · refine Yes rfl (by decide) ?_
     refine Yes rfl (by decide) ?_
     refine Dw rfl ?_
     refine Ix 0 rfl (u:=dq p.1) rfl ?_
     refine Ix 0 rfl (u:=dq q.1) rfl ?_
     refine Ce rfl (R2.Add_ok hp.1 hq.1 hsm) ?_
     refine ApG (([p.1+q.1,p.1+q.2,p.2+q.1,p.2+q.2].take (0+1)).map dq) rfl rfl (by simp) ?_
     refine Ar (0+1 : Nat) rfl ?_
     exact Bk 1 [(56,7)] rfl (by decide) (by decide)
   · refine Yes rfl (by decide) ?_
     refine Yes rfl (by decide) ?_
     refine Dw rfl ?_
     refine Ix 0 rfl (u:=dq p.1) rfl ?_
     refine Ix 1 rfl (u:=dq q.2) rfl ?_
     refine Ce rfl (R2.Add_ok hp.1 hq.2 hsm) ?_
     refine ApG (([p.1+q.1,p.1+q.2,p.2+q.1,p.2+q.2].take (0+2)).map dq) rfl rfl (by simp) ?_
     refine Ar (1+1 : Nat) rfl ?_
     exact Bk 2 [(56,7)] rfl (by decide) (by decide)
   · refine No rfl (by decide) ?_
     refine Ar (0+1 : Nat) rfl ?_
     exact Bk 1 [] rfl (by decide) (by decide)
 · refine Yes rfl (by decide) ?_
   refine Lo (fun (k : Nat)=>[(2,.d (.int .i64 0)),(7,.gr 7 4 (([p.1+q.1,p.1+q.2,p.2+q.1,p.2+q.2].take (2+k)).map dq)),(8,.lit 4 [dq p.1,dq p.2]),(9,.lit 4 [dq q.1,dq q.2]),(10,.d (.int .i64 1)),(11,.d (.int .i64 k))]) (fun k=>[(7,.tok (([p.1+q.1,p.1+q.2,p.2+q.1,p.2+q.2].take (2+k)).map dq).length 4)]) (fun k=>k≤2) (fun k=>2 - k) 0 [] rfl (by decide) (fun k hk=>?_)
   have hk : k=0∨k=1∨k=2:=by omega
   rcases hk with rfl | rfl | rfl
   · refine Yes rfl (by decide) ?_
     refine Yes rfl (by decide) ?_
     refine Dw rfl ?_
     refine Ix 1 rfl (u:=dq p.2) rfl ?_
     refine Ix 0 rfl (u:=dq q.1) rfl ?_
     refine Ce rfl (R2.Add_ok hp.2 hq.1 hsm) ?_
     refine ApG (([p.1+q.1,p.1+q.2,p.2+q.1,p.2+q.2].take (2+1)).map dq) rfl rfl (by simp) ?_
     refine Ar (0+1 : Nat) rfl ?_
     exact Bk 1 [(56,7)] rfl (by decide) (by decide)
   · refine Yes rfl (by decide) ?_
     refine Yes rfl (by decide) ?_
     refine Dw rfl ?_
     refine Ix 1 rfl (u:=dq p.2) rfl ?_
     refine Ix 1 rfl (u:=dq q.2) rfl ?_
     refine Ce rfl (R2.Add_ok hp.2 hq.2 hsm) ?_
     refine ApG (([p.1+q.1,p.1+q.2,p.2+q.1,p.2+q.2].take (2+2)).map dq) rfl rfl (by simp) ?_
     refine Ar (1+1 : Nat) rfl ?_
     exact Bk 2 [(56,7)] rfl (by decide) (by decide)
   · refine No rfl (by decide) ?_
     refine Ar (1+1 : Nat) rfl ?_
     exact Bk 2 [] rfl (by decide) (by decide)
 · refine No rfl (by decide) ?_
   exact R1 rfl (.gr rfl)
theorem Xy3 (hp : Q2 s p) (hq : Q2 t q) (hs : s+t+3≤4398046511104) : C0 252 [.d (dI p),.d (dI q),.d (.int .i64 2)] (·=.d (dqs [p.1*q.1,p.1*q.2,p.2*q.1,p.2*q.2])):=by
 have hsm : s+t+1≤8796093022208:=by omega
 refine En Tryz.func252 fun _ _ _=>?_
 refine Dw rfl ?_
 refine Nl 7 7 4 rfl ?_
 refine Lo (fun (i : Nat)=>[(2,.d (.int .i64 2)),(7,.gr 7 4 (([p.1*q.1,p.1*q.2,p.2*q.1,p.2*q.2].take (2*i)).map dq)),(8,.lit 4 [dq p.1,dq p.2]),(9,.lit 4 [dq q.1,dq q.2]),(10,.d (.int .i64 i))]) (fun i=>[(7,.tok (([p.1*q.1,p.1*q.2,p.2*q.1,p.2*q.2].take (2*i)).map dq).length 4)]) (fun i=>i≤2) (fun i=>2 - i) 0 [] rfl (by decide) (fun i hi=>?_)
 have hi : i=0∨i=1∨i=2:=by omega
 rcases hi with rfl | rfl | rfl
 · refine Yes rfl (by decide) ?_
   refine Lo (fun (k : Nat)=>[(2,.d (.int .i64 2)),(7,.gr 7 4 (([p.1*q.1,p.1*q.2,p.2*q.1,p.2*q.2].take (0+k)).map dq)),(8,.lit 4 [dq p.1,dq p.2]),(9,.lit 4 [dq q.1,dq q.2]),(10,.d (.int .i64 0)),(11,.d (.int .i64 k))]) (fun k=>[(7,.tok (([p.1*q.1,p.1*q.2,p.2*q.1,p.2*q.2].take (0+k)).map dq).length 4)]) (fun k=>k≤2) (fun k=>2 - k) 0 [] rfl (by decide) (fun k hk=>?_)
   have hk : k=0∨k=1∨k=2:=by omega
   rcases hk with rfl | rfl | rfl
   · refine Yes rfl (by decide) ?_
     refine No rfl (by decide) ?_
     refine No rfl (by decide) ?_
     refine Dw rfl ?_
     refine Ix 0 rfl (u:=dq p.1) rfl ?_
     refine Ix 0 rfl (u:=dq q.1) rfl ?_
     refine Ce rfl (R2.Mul_ok hp.1 hq.1 hsm) ?_
     refine ApG (([p.1*q.1,p.1*q.2,p.2*q.1,p.2*q.2].take (0+1)).map dq) rfl rfl (by simp) ?_
     refine Ar (0+1 : Nat) rfl ?_
     exact Bk 1 [(42,7)] rfl (by decide) (by decide)
   · refine Yes rfl (by decide) ?_
     refine No rfl (by decide) ?_
     refine No rfl (by decide) ?_
     refine Dw rfl ?_
     refine Ix 0 rfl (u:=dq p.1) rfl ?_
     refine Ix 1 rfl (u:=dq q.2) rfl ?_
     refine Ce rfl (R2.Mul_ok hp.1 hq.2 hsm) ?_
     refine ApG (([p.1*q.1,p.1*q.2,p.2*q.1,p.2*q.2].take (0+2)).map dq) rfl rfl (by simp) ?_
     refine Ar (1+1 : Nat) rfl ?_
     exact Bk 2 [(42,7)] rfl (by decide) (by decide)
   · refine No rfl (by decide) ?_
     refine Ar (0+1 : Nat) rfl ?_
     exact Bk 1 [] rfl (by decide) (by decide)
 · refine Yes rfl (by decide) ?_
   refine Lo (fun (k : Nat)=>[(2,.d (.int .i64 2)),(7,.gr 7 4 (([p.1*q.1,p.1*q.2,p.2*q.1,p.2*q.2].take (2+k)).map dq)),(8,.lit 4 [dq p.1,dq p.2]),(9,.lit 4 [dq q.1,dq q.2]),(10,.d (.int .i64 1)),(11,.d (.int .i64 k))]) (fun k=>[(7,.tok (([p.1*q.1,p.1*q.2,p.2*q.1,p.2*q.2].take (2+k)).map dq).length 4)]) (fun k=>k≤2) (fun k=>2 - k) 0 [] rfl (by decide) (fun k hk=>?_)
   have hk : k=0∨k=1∨k=2:=by omega
   rcases hk with rfl | rfl | rfl
   · refine Yes rfl (by decide) ?_
     refine No rfl (by decide) ?_
     refine No rfl (by decide) ?_
     refine Dw rfl ?_
     refine Ix 1 rfl (u:=dq p.2) rfl ?_
     refine Ix 0 rfl (u:=dq q.1) rfl ?_
     refine Ce rfl (R2.Mul_ok hp.2 hq.1 hsm) ?_
     refine ApG (([p.1*q.1,p.1*q.2,p.2*q.1,p.2*q.2].take (2+1)).map dq) rfl rfl (by simp) ?_
     refine Ar (0+1 : Nat) rfl ?_
     exact Bk 1 [(42,7)] rfl (by decide) (by decide)
   · refine Yes rfl (by decide) ?_
     refine No rfl (by decide) ?_
     refine No rfl (by decide) ?_
     refine Dw rfl ?_
     refine Ix 1 rfl (u:=dq p.2) rfl ?_
     refine Ix 1 rfl (u:=dq q.2) rfl ?_
     refine Ce rfl (R2.Mul_ok hp.2 hq.2 hsm) ?_
     refine ApG (([p.1*q.1,p.1*q.2,p.2*q.1,p.2*q.2].take (2+2)).map dq) rfl rfl (by simp) ?_
     refine Ar (1+1 : Nat) rfl ?_
     exact Bk 2 [(42,7)] rfl (by decide) (by decide)
   · refine No rfl (by decide) ?_
     refine Ar (1+1 : Nat) rfl ?_
     exact Bk 2 [] rfl (by decide) (by decide)
 · refine No rfl (by decide) ?_
   exact R1 rfl (.gr rfl)
theorem Xyp {a b c d : Rat} (h : a≤b) (h' : c≤d) : (Xng (a+c) [a+d,b+c,b+d],Xnh (a+c) [a+d,b+c,b+d])=(a+c,b+d):=by
 have e1 : Xng (a+c) [a+d,b+c,b+d]=a+c:=by
  show lo2 (lo2 (lo2 (a+c) (a+d)) (b+c)) (b+d)=a+c
  have x1 : lo2 (a+c) (a+d)=a+c:=if_neg (by grind)
  have x2 : lo2 (a+c) (b+c)=a+c:=if_neg (by grind)
  have x3 : lo2 (a+c) (b+d)=a+c:=if_neg (by grind)
  rw [x1,x2,x3]
 have e2 : Xnh (a+c) [a+d,b+c,b+d]=b+d:=by
  show hi2 (hi2 (hi2 (a+c) (a+d)) (b+c)) (b+d)=b+d
  have key : ∀ x,x≤b+d→hi2 x (b+d)=b+d:=fun x hx=>by
   unfold hi2
   split
   · rfl
   · grind
  apply key
  have hb1 : ∀ x y,x≤b+d→y≤b+d→hi2 x y≤b+d:=fun x y hx hy=>by unfold hi2;split <;> assumption
  exact hb1 _ _ (hb1 _ _ (by grind) (by grind)) (by grind)
 rw [e1,e2]
theorem Add_ok (hp : Q2 s p) (hq : Q2 t q) (lP : p.1≤p.2) (lQ : q.1≤q.2) (hs : 2*(s+t)+10≤4398046511104) : C0 195 [.d (dI p),.d (dI q)] (·=.d (dI (Xlp p q))):=by
 have hh:=Xw9 (x:=p.1+q.1) (r:=[p.1+q.2,p.2+q.1,p.2+q.2]) (s:=s+t+1) (fun y hy=>by
  simp only [W1q,List.not_mem_nil,or_false] at hy
  rcases hy with rfl | rfl | rfl | rfl
  · exact hp.1.add hq.1
  · exact hp.1.add hq.2
  · exact hp.2.add hq.1
  · exact hp.2.add hq.2) (by omega) (by simp)
 rw [Xyp lP lQ] at hh
 refine En Tryz.func195 fun _ _ _=>?_
 refine Ce rfl (Xy4 hp hq (by omega)) ?_
 refine Ce rfl hh ?_
 exact R1 rfl (.rf rfl)
theorem Mul_ok (hp : Q2 s p) (hq : Q2 t q) (hs : 2*(s+t)+10≤4398046511104) : C0 196 [.d (dI p),.d (dI q)] (·=.d (dI (Xb7 p q))):=by
 have hh:=Xw9 (x:=p.1*q.1) (r:=[p.1*q.2,p.2*q.1,p.2*q.2]) (s:=s+t) (fun y hy=>by
  simp only [W1q,List.not_mem_nil,or_false] at hy
  rcases hy with rfl | rfl | rfl | rfl
  · exact hp.1.mul hq.1
  · exact hp.1.mul hq.2
  · exact hp.2.mul hq.1
  · exact hp.2.mul hq.2) (by omega) (by simp)
 refine En Tryz.func196 fun _ _ _=>?_
 refine Ce rfl (Xy3 hp hq (by omega)) ?_
 refine Ce rfl hh ?_
 exact R1 rfl (.rf rfl)
theorem Sqrt_ok {x : Rat} (hx : x=mx0 p.1) (hp : Q2 s p) (hs1 : 1≤s) (hp0 : 0≤p.2) (hb : b≤4096) (hs : s≤1099511627776) : C0 193 [.d (dI (x,p.2)),.d (.int .i64 b)] (·=.tup (.pr (.d (dI (rtb p b))) (.d (.int .i64 0)))):=by
 have qx : Qs s x:=hx ▸ Xqt hp.1 hs1
 have x0 : 0≤x:=hx ▸ Xev p.1
 have w1:=Xlw (b:=b) qx
 have w2:=Xlw (b:=b) hp.2
 have n1:=Xd4 (b:=b) x0
 have n2:=Xd4 (b:=b) hp0
 have f1:=Zs.floor w1
 have f2:=Zs.floor w2
 have z1:=Xl3 w1 n1
 have z2:=Xl3 w2 n2
 have s1:=R1.Sqrt_ok (a:=(sq2 x b).floor.toNat) (by
  rw [Xb4 n1] at f1
  exact W0h (Xog f1) (by omega))
 have s2:=R1.Sqrt_ok (a:=(sq2 p.2 b).floor.toNat) (by
  rw [Xb4 n2] at f2
  exact W0h (Xog f2) (by omega))
 rw [←Xb4 n1] at s1
 rw [←Xb4 n2] at s2
 have qw : Qs (b+1+(b+1)) (pw b*pw b):=(Xgu b).mul (Xgu b)
 have l2 : (dig (rtF (sq2 p.2 b) : Int).natAbs).length≤549755813888:=W0h (z2.len (by omega)) (by decide)
 have hmul:=R1.Mul_ok (a:=(rtF (sq2 p.2 b) : Int)) (b:=(rtF (sq2 p.2 b) : Int)) l2 l2
 have zz : Zs (s+(2*b+2)+(s+(2*b+2))) ((rtF (sq2 p.2 b) : Int)*(rtF (sq2 p.2 b) : Int)):=z2.mul z2
 refine En Tryz.func193 fun _ _ _=>?_
 refine No rfl (by omega) ?_
 refine No rfl (by omega) ?_
 refine Ce rfl (R2.Sign_ok qx (by omega)) ?_
 refine No rfl (Ycm x0) ?_
 refine Ce rfl (Xnj hb) ?_
 refine Ce rfl (R2.Mul_ok (Xgu b) (Xgu b) (by omega)) ?_
 refine Ce rfl (R2.Mul_ok qx qw (by omega)) ?_
 refine Ce rfl (R2.Floor_ok w1 (by omega)) ?_
 refine Ce rfl s1 ?_
 refine Ce rfl (R2.Mul_ok hp.2 qw (by omega)) ?_
 refine Ce rfl (R2.Floor_ok w2 (by omega)) ?_
 refine Ce rfl s2 ?_
 refine Dw rfl ?_
 refine Ce rfl hmul ?_
 refine Ce rfl (R1.FromInt_ok (z:=1) (by decide)) ?_
 refine Ce rfl (R2.Make_ok (p:=s+(2*b+2)+(s+(2*b+2))) (b:=1) zz (Zs.one (by omega)) (by omega) (by decide)) ?_
 refine Ce rfl (R2.Cmp_ok (p:=s+(2*b+2)+(s+(2*b+2))) (Qs.divInt zz (Zs.one (by omega)) (by decide)) w2 (by omega)) ?_
 have hup : Xmx (Rat.divInt ((rtF (sq2 p.2 b) : Int)*(rtF (sq2 p.2 b) : Int)) 1) (sq2 p.2 b)<0↔((rtF (sq2 p.2 b)*rtF (sq2 p.2 b) : Int) : Rat)<sq2 p.2 b:=by rw [Xwn,Xgd]
 refine By rfl (fun h=>?_) fun h=>?_
 · have e : Xr0 (sq2 p.2 b)=rtF (sq2 p.2 b)+1:=if_pos (hup.1 h)
   refine Dw rfl ?_
   refine Ce rfl (R1.FromInt_ok (z:=1) (by decide)) ?_
   refine Ce rfl (R1.Add_ok (a:=(rtF (sq2 p.2 b) : Int)) (b:=1) l2 (by have:=(Zs.one (p:=1) (by decide)).len (by decide);omega)) ?_
   refine Dw rfl ?_
   refine Ce rfl (R2.Make_ok (p:=s+(2*b+2)) (b:=2 ^ b) z1 (Zs.two (by omega)) (by omega) (Xc6 b)) ?_
   refine Ce rfl (R2.Make_ok (p:=s+(2*b+2)+2) (b:=2 ^ b) ((z2.add (Zs.one (p:=1) (by decide))).mono (by omega)) (Zs.two (by omega)) (by omega) (Xc6 b)) ?_
   refine RTt rfl (.cons (Xxd (by rw [hx];rfl) ?_) Xcj)
   show dq _=dq (Xnf p.2 b)
   unfold Xnf
   rw [e];rfl
 · have e : Xr0 (sq2 p.2 b)=rtF (sq2 p.2 b):=if_neg fun h'=>h (hup.2 h')
   refine Dw rfl ?_
   refine Ce rfl (R2.Make_ok (p:=s+(2*b+2)) (b:=2 ^ b) z1 (Zs.two (by omega)) (by omega) (Xc6 b)) ?_
   refine Ce rfl (R2.Make_ok (p:=s+(2*b+2)) (b:=2 ^ b) z2 (Zs.two (by omega)) (by omega) (Xc6 b)) ?_
   refine RTt rfl (.cons (Xxd (by rw [hx];rfl) ?_) Xcj)
   show dq _=dq (Xnf p.2 b)
   unfold Xnf
   rw [e];rfl
theorem Valid_ok (hp : Q2 s p) (hs : s+s≤4398046511104) : C0 197 [.d (dI p)] (·=.b (dc (p.1≤p.2))):=by
 refine En Tryz.func197 fun _ _ _=>?_
 refine Ce rfl (R2.Valid_ok hp.1 (by omega)) ?_
 refine Yes rfl rfl ?_
 refine Ce rfl (R2.Valid_ok hp.2 (by omega)) ?_
 refine Yes rfl rfl ?_
 refine Ce rfl (R2.Cmp_ok hp.1 hp.2 (by omega)) ?_
 exact R1 rfl (.bp (by rw [Xau,Xo0];grind))
theorem Narrow_ok (hp : Q2 s p) (hb : b≤4096) (hs : 2*s+10000≤4398046511104) : C0 129 [.d (dI p),.d (.int .i64 b)] (·=.b (dc (Wid p b))):=by
 have hsub : Qs (s+s+1) (p.2 - p.1):=by rw [W5e];exact hp.2.add hp.1.neg
 refine En Tryz.func129 fun _ _ _=>?_
 refine Ce rfl (Valid_ok hp (by omega)) ?_
 refine By rfl (fun h=>?_) fun h=>?_
 · refine Ce rfl (R2.Sub_ok hp.2 hp.1 (by omega)) ?_
   refine Ce rfl (Xnj hb) ?_
   refine Ce rfl (R2.Mul_ok hsub (Xgu b) (by omega)) ?_
   refine Ce rfl (R2.FromInt_ok (z:=1) (by decide)) ?_
   refine Ce rfl (R2.Cmp_ok (hsub.mul (Xgu b)) (Qs.int (p:=1) (z:=1) (Zs.one (by decide)) (by decide)) (by omega)) ?_
   refine R1 rfl (.bp ?_)
   rw [Xau,Xo0]
   exact ⟨fun h'=>⟨h,by have : ((1 : Int) : Rat)=1:=rfl;rw [this] at h';grind⟩,fun h'=>by have:=h'.2;have e : ((1 : Int) : Rat)=1:=rfl;rw [e];grind⟩
 · exact R1 rfl (.bp ⟨nofun,fun h'=>absurd h'.1 h⟩)
end
end Go.Proofs.YtjcejnjhfcbafaaGreatDoor.R3
namespace Go.Proofs.YtjcejnjhfcbafaaGreatDoor.R7
open Go Go.Vm Go.Num Go.Tow Go.Proofs.YtjcejnjhfcbafaaGreatDoor
theorem FromRat_el {k : Nat} {t : Tw k} {x : Rat} (hk : k≤16) : C0 120 [.d (dt t),.d (dq x)] (·=.d (de (rat k x))):=by
 have:=R6.FromRat_ok (t:=toT k t) (x:=x) (by rw [Xaa];exact hk)
 rwa [Xaa,←Xca] at this
theorem Ybu {k : Nat} : ∀ {s b : Nat} {t : Tw k} {a : Tow.El k},Xbh k t→TS s k t→Sz s (toL k a)→1≤s→k≤16→bB s b k≤274877906944→b≤4076→C0 128 [.d (dt t),.d (de a),.d (.int .i64 b)] (·=.d (dI (bx k t a b))):=by
 induction k with
 | zero =>
  intro s b t a hR hT ha hs1 hk hs hb
  have key : ∀ y : Rat,C0 128 [.d (dts []),.d (dqs [y]),.d (.int .i64 b)] (·=.d (dI (y,y))):=fun y=>by
   refine En Tryz.func128 fun _ _ _=>?_
   refine Yes rfl rfl ?_
   refine Ix 0 rfl (u:=dq y) rfl ?_
   refine Ce rfl R3.Point_ok ?_
   exact R1 rfl (.rf rfl)
  exact key a
 | succ k ih =>
  intro s b t a hR hT ha hs1 hk hs hb
  have hx : Sz s (toL k a.1):=Sz.left ha
  have hy : Sz s (toL k a.2):=Sz.right ha
  have hge:=Xzs s b k
  have hs' : 3*bB s b k+3*b+30≤274877906944:=hs
  have qu:=Xo3 (b:=b) hR.1 hT.1 hx hs1
  have qv:=Xo3 (b:=b) hR.1 hT.1 hy hs1
  have qr:=Xo3 (b:=b) hR.1 hT.1 hT.2 hs1
  have hhi:=Xhu hR (Xi6 hR.1 t.2 b)
  have qs:=Yat (b:=b) qr hhi (by omega)
  have qm:=Xks qv qs
  have qa:=Xlh qu qm
  have lu:=Yeh hR.1 a.1 b
  have hbx:=Xiw (t:=t) (a:=a) (b:=b)
  have hlen:=Xab k
  have hp:=p16 hk
  have fin : C0 128 [.d (dt t),.d (de a),.d (.int .i64 b)] (·=.d (dI (rnd (Xlp (bx k t.1 a.1 b) (Xb7 (bx k t.1 a.2 b) (rtb (bx k t.1 t.2 b) b))) (b+20)))):=by
   refine En Tryz.func128 fun _ _ _=>?_
   refine No rfl (by show ¬ ((((toT k t.1++[toL k t.2]).map dqs).length : Nat) : Int)=0;rw [twL];omega) ?_
   refine Ar k rfl ?_ (tw1 t (by omega))
   refine Dw rfl ?_
   refine Tk k ((toT k t.1).map dqs) rfl rfl (Xgr t) (twT t) ?_
   refine Ar (2 ^ k : Nat) rfl ?_ (hvq a (by omega))
   refine Tk (2 ^ k) ((toL k a.1).map dq) rfl rfl (Xcb a) (hvT a) ?_
   refine Ce rfl (ih hR.1 hT.1 hx hs1 (by omega) (by omega) hb) ?_
   refine Tk k ((toT k t.1).map dqs) rfl rfl (Xgr t) (twT t) ?_
   refine Ar (2 ^ k : Nat) rfl ?_ (hvq a (by omega))
   refine Dp (2 ^ k) ((toL k a.2).map dq) rfl rfl (Xcb a) (hvD a) ?_
   refine Ce rfl (ih hR.1 hT.1 hy hs1 (by omega) (by omega) hb) ?_
   refine Dw rfl ?_
   refine Tk k ((toT k t.1).map dqs) rfl rfl (Xgr t) (twT t) ?_
   refine Ix k rfl (twU t) ?_
   refine Ce rfl (ih hR.1 hT.1 hT.2 hs1 (by omega) (by omega) hb) ?_
   refine Ce rfl (R2.Sign_ok qr.1 (by omega)) ?_
   refine By rfl (fun h=>?_) fun h=>?_
   · have hm0 : (0 : Rat)=mx0 (bx k t.1 t.2 b).1:=(if_pos (Yh7.1 h)).symm
     refine Ce rfl (R2.FromInt_ok (z:=0) (by decide)) ?_
     refine Ce rfl (R3.Sqrt_ok (x:=0) hm0 qr (by omega) hhi (by omega) (by omega)) ?_
     refine Dw rfl ?_
     refine Ce rfl (R3.Mul_ok qv qs (by omega)) ?_
     refine Ce rfl (R3.Add_ok qu qm lu (Xqu _ _) (by omega)) ?_
     refine Ar (b+20 : Nat) rfl ?_
     refine Ce rfl (R3.Round_ok qa (by omega) (by omega)) ?_
     exact R1 rfl (.rf rfl)
   · have hm0 : (bx k t.1 t.2 b).1=mx0 (bx k t.1 t.2 b).1:=(if_neg (fun e=>h (Yh7.2 e))).symm
     refine Ce rfl (R3.Sqrt_ok hm0 qr (by omega) hhi (by omega) (by omega)) ?_
     refine Dw rfl ?_
     refine Ce rfl (R3.Mul_ok qv qs (by omega)) ?_
     refine Ce rfl (R3.Add_ok qu qm lu (Xqu _ _) (by omega)) ?_
     refine Ar (b+20 : Nat) rfl ?_
     refine Ce rfl (R3.Round_ok qa (by omega) (by omega)) ?_
     exact R1 rfl (.rf rfl)
  rw [hbx];exact fin
theorem Floor_ok {k : Nat} {t : Tw k} {a : Tow.El k} {s : Nat} (hR : Xbh k t) (hw : Wid (bx k t a 2048) 1) (hT : TS s k t) (ha : Sz s (toL k a)) (hs1 : 1≤s) (hk : k≤16) (hv : vB s k (s+bB s 2048 k+4)≤4398046511104) (he : bB s 2048 k≤274877906944) :
 C0 58 [.d (dt t),.d (de a)] fun v=>∃ z,v=.d (dz z)∧Xbo k t a z:=by
 have hsB:=W0h (Xeq (r:=s) k _) hv
 obtain ⟨B,hB⟩ : ∃ B,B=bB s 2048 k:=⟨_,rfl⟩
 have hB1 : 1≤B:=by rw [hB];exact W0h hs1 (Xzs _ _ _)
 have hq : ∀ b,b≤2048→Q2 B (bx k t a b):=fun b hb=>(Xo3 hR hT ha hs1).mono (by rw [hB];exact Xo5 hb k)
 have heb : ∀ b,b≤2048→bB s b k≤274877906944:=fun b hb=>W0h (Xo5 hb k) he
 rw [←hB] at he hv hsB
 refine En Tryz.func58 fun _ _ _=>?_
 refine Ce rfl (Ybu (b:=8) hR hT ha hs1 hk (heb 8 (by decide)) (by decide)) ?_
 refine Lo (fun (g : Nat)=>[(0,.d (dt t)),(1,.d (de a)),(4,.ptr 4 0),(5,.d (.int .i64 ((8*2 ^ g : Nat) : Int))),(6,.ptr 6 0)]) (fun g=>[(6,.var (.d (dI (bx k t a (8*2 ^ g))))),(4,.var (.st (.pr (.b false) .nil)))]) (fun g=>g≤8) (fun g=>8 - g) 0 [] rfl (by decide) (fun g hg=>?_)
 have hg8 : 2 ^ g≤2 ^ 8:=W0i (by decide) hg
 have hge:=hq (8*2 ^ g) (by omega)
 have hin:=Xi6 hR a (8*2 ^ g)
 refine Ce rfl (R3.Narrow_ok (b:=1) hge (by decide) (by omega)) ?_
 refine By rfl (fun h=>?_) fun h=>?_
 · have hnn : ¬ Wid (bx k t a (8*2 ^ g)) 1:=by simpa [Xch,Xau] using h
   have hg7 : g<8:=by
    by_cases hg7 : g<8
    · exact hg7
    · obtain rfl : g=8:=by omega
      exact absurd hw hnn
   have hgs : 2 ^ (g+1)≤2 ^ 8:=W0i (by decide) hg7
   have hgd : 2 ^ (g+1)=2*2 ^ g:=by rw [W0p];omega
   refine Ar ((8*2 ^ (g+1) : Nat) : Int) rfl ?_ (wr (by omega) (by simp only [inK];omega))
   refine Ce rfl (Ybu (b:=8*2 ^ (g+1)) hR hT ha hs1 hk (heb _ (by omega)) (by omega)) ?_
   exact Bk (g+1) [] rfl (by omega) (by omega)
 · have hnn : Wid (bx k t a (8*2 ^ g)) 1:=by simpa [Xch,Xau] using h
   have hz:=Zs.floor hge.1
   have hz1 : Zs (B+1) ((bx k t a (8*2 ^ g)).1.floor+1):=(hz.add (Zs.one (p:=1) (by decide))).mono (by omega)
   have hfl:=Xyu hR hin hnn
   have hmk:=R2.Make_ok (p:=B+1) (a:=(bx k t a (8*2 ^ g)).1.floor+1) (b:=1) hz1 (Zs.one (by omega)) (by omega) (by decide)
   rw [Xgd] at hmk
   have hzr:=Sz.rat k (Qs.int hz1 (by omega))
   refine Ce rfl (R2.Floor_ok hge.1 (by omega)) ?_
   refine Dw rfl ?_
   refine Ce rfl (R1.FromInt_ok (z:=1) (by decide)) ?_
   refine Ce rfl (R1.Add_ok (W0h (hz.len (by omega)) (by decide)) (W0h ((Zs.one (p:=1) (by decide)).len (by decide)) (by decide))) ?_
   refine Dw rfl ?_
   refine Ce rfl (R1.FromInt_ok (z:=1) (by decide)) ?_
   refine Ce rfl hmk ?_
   refine Ce rfl (FromRat_el hk) ?_
   refine Ce rfl (R6.Sub_el hk ha.ps hzr (by omega)) ?_
   refine Ce rfl (Xf3 hT (s:=s+B+4) (by rw [Xat,Xbs];exact (ha.add hzr.neg).mono (by omega)) hk hv) ?_
   refine By rfl (fun h2=>?_) fun h2=>?_
   · exact Rt rfl (.one (.rf rfl) rfl rfl) ⟨_,rfl,hfl.1 h2⟩
   · exact Rt rfl (.one (.rf rfl) rfl rfl) ⟨_,rfl,hfl.2 h2⟩
theorem Contains_ok {k : Nat} {t : Tw k} {a : Tow.El k} {x y : Rat} {s B : Nat} (hT : TS s k t) (ha : Sz s (toL k a)) (hx : Qs B x) (hy : Qs B y) (hk : k≤16) (hv : vB s k (s+B+4)≤4398046511104) :
 C0 53 [.d (dt t),.d (de a),.d (dI (x,y))] (·=.b (dc (inI k t a x y))):=by
 have hsB:=W0h (Xeq (r:=s) k _) hv
 have zx:=Sz.rat k hx
 have zy:=Sz.rat k hy
 refine En Tryz.func53 fun _ _ _=>?_
 refine Dw rfl ?_
 refine Ce rfl (FromRat_el hk) ?_
 refine Ce rfl (FromRat_el hk) ?_
 refine Ce rfl (R6.Sub_el hk ha.ps zx (by omega)) ?_
 refine Ce rfl (Xf3 hT (s:=s+B+4) (by rw [Xat,Xbs];exact (ha.add zx.neg).mono (by omega)) hk hv) ?_
 refine By rfl (fun h=>?_) fun h=>?_
 · refine Ce rfl (R6.Sub_el hk zy.ps ha (by omega)) ?_
   refine Ce rfl (Xf3 hT (s:=s+B+4) (by rw [Xat,Xbs];exact (zy.add ha.neg).mono (by omega)) hk hv) ?_
   exact R1 rfl (.bp (by rw [Xau];exact ⟨fun h2=>⟨h,h2⟩,fun h2=>h2.2⟩))
 · exact R1 rfl (.bp ⟨nofun,fun h2=>absurd h2.1 h⟩)
end Go.Proofs.YtjcejnjhfcbafaaGreatDoor.R7
namespace Go.Vm
open Go
section
variable {c : Cx} {s : St}
theorem Ym2 {K : List Kt} {E : Env} {H : Hpl} (t sz : Nat) (hv : look E t=some .nil) (k : J c K (sem ((t,.lit sz [])::E) H)) : J c K (sem E H):=by
 rintro a w ⟨s0,W,θ,hw,hs,hθ,rfl⟩
 refine k a w ⟨_,W,θ,hw,?_,hθ,rfl⟩
 rw [show sem ((t,AV.lit sz [])::E) H=(upd (look E) t (.lit sz []),look H) from by rw [Xa4]]
 refine ⟨hs.fm,⟨hs.rel.defers,hs.rel.size,fun q v hq=>?_⟩,hs.obs,fun q v i hq hi=>?_⟩
 · rcases Xae hq with ⟨e1,e2⟩ | ⟨e1,e2⟩
   · subst e1;subst e2
     obtain ⟨p,e⟩:=Xlj (hs.rel.has q _ hv)
     rw [e]
     exact ⟨_,⟨p,rfl,by decide,.inl rfl⟩,rfl⟩
   · exact hs.rel.has q v e2
 · rcases Xae hq with ⟨e1,e2⟩ | ⟨e1,e2⟩
   · subst e2;exact hi.elim
   · exact hs.ids q v i e2 hi
theorem NL {K : List Kt} {E : Env} {H : Hpl} (t sz : Nat) (h : nxJ c.tb c.n s=some (K,E,H)) (k : StP c (.j [] K ((t,.lit sz [])::E) H)) (hv : look E t=some .nil:=by exact rfl) : StP c s:=by
 unfold nxJ at h
 split at h <;> cases h
 rename_i hr
 exact go 1000 hr (Ym2 t sz hv k)
end
end Go.Vm
namespace Go.Proofs.YtjcejnjhfcbafaaGreatDoor.R11
open Go Go.Vm Go.Num Go.Tow Go.Proofs.YtjcejnjhfcbafaaGreatDoor Go.Proofs.YtjcejnjhfcbafaaGreatDoor.P11
def scP : Option (List Rat)→AV
 | none=>.lit 4 []
 | some w=>.own 600 4 0 (w.map dq).length
def scH (x : Nm) (h : Rat) : Option (List Rat)→Hpl
 | none=>[(3,.var (.d (dN x))),(5,.var (.d (dq h)))]
 | some w=>[(3,.var (.d (dN x))),(5,.var (.d (dq h))),(600,.arr 4 (w.map dq))]
def scW : Option (List Rat)→List Rat
 | none=>[]
 | some w=>w
theorem Xpi : ∀ l : List Rat,List.zipWith (·+·) l (List.replicate l.length 0)=l
 | []=>rfl
 | x::l=>by rw [W0n,W3t,List.zipWith_cons_cons,Xpi l,W6s]
theorem Yb8 {k : Nat} {t : Tw k} {a : El k} {u g y : Rat} {w : List Rat} (hw : w=(toL k a).map (·*u)) (hy : w[0]?=some y) : toL k (scl k t a u g)=w.set 0 (y+g):=by
 have hc : (fun q : Rat=>u*q)=(·*u):=funext fun q=>Rat.mul_comm ..
 rw [show scl k t a u g=add k (mul k t a (rat k u)) (rat k g) from rfl,Xat,Xlt,hc,←hw,Xca]
 have hl : w.length=2 ^ k:=by rw [hw,W0r,Xab]
 cases w with
 | nil=>cases hy
 | cons z w =>
  injection hy with hy;subst hy
  rw [List.zipWith_cons_cons,List.set_cons_zero]
  congr 1
  rw [show 2 ^ k - 1=w.length by rw [←hl];rfl]
  exact Xpi w
theorem Xl0 {x : Nm} {d : Nat} {g : Rat} (H : Pk x) (hd : d≤60) (hg : Qs 2 g) : C0 59 [.d (dN x),.d (.int .i64 d),.d (dq g)] (·=.d (de (scl x.k x.t x.a ((10 ^ d : Int) : Rat) g))):=by
 have hu:=Xpp hd
 obtain ⟨u,hu'⟩ : ∃ u : Rat,u=((10 ^ d : Int) : Rat):=⟨_,rfl⟩
 have hpw:=Xcn (n:=d) (by omega)
 rw [←hu'] at hu hpw ⊢
 have hml : ∀ q∈toL x.k x.a,Qs 1700 q:=fun q hq=>H.ml.elim (fun h=>(h q hq).mono (by decide)) fun h=>h.2 q hq
 have hcl:=Xab x.k x.a
 have hp8 : 2 ^ x.k≤2 ^ 3:=W0i (by decide) H.k
 obtain ⟨k,t,a⟩:=x
 have hp8 : 2 ^ k≤8:=hp8
 have hcl : (toL k a).length=2 ^ k:=hcl
 refine En Tryz.func59 fun _ _ _=>?_
 refine NL 7 4 rfl ?_
 refine Lo (fun ((i,o) : Nat × Option (List Rat))=>[(1,.d (.int .i64 d)),(3,.ptr 3 0),(5,.ptr 5 0),(7,scP o),(8,.d (.int .i64 i))]) (fun (_,o)=>scH ⟨k,t,a⟩ g o) (fun (i,o)=>i≤2 ^ k∧scW o=((toL k a).take i).map (·*u)∧(o=none↔i=0)) (fun (i,_)=>2 ^ k - i) (0,none) [] rfl ⟨W1c _,rfl,by simp⟩ ?_
 rintro ⟨i,o⟩ ⟨hi,hw,ho⟩
 have hw : scW o=((toL k a).take i).map (·*u):=hw
 cases o with
 | none =>
  obtain rfl : i=0:=ho.1 rfl
  refine By rfl (fun h=>?_) fun h=>?_
  · obtain ⟨q,hq⟩:=qat (l:=toL k a) (k:=0) (by rw [hcl];exact W0o k)
    refine Dw rfl ?_
    refine Ix 0 rfl (mp hq) ?_
    refine Ce rfl hpw ?_
    refine Ce rfl (R2.Mul_ok (hml q (W0m hq)) hu (by decide)) ?_
    refine ApL ([q*u].map dq) rfl rfl (Nat.zero_lt_succ 0) (show 1≤1099511627776 by decide) ?_
    refine Ar (0+1 : Nat) rfl ?_
    exact Bk (0+1,some [q*u]) [(26,600)] rfl ⟨W0o k,by rw [W1r,hq];rfl,by simp⟩ (by show 2 ^ k - (0+1)<2 ^ k - 0;have:=W0o k;omega) (by exact ⟨rfl,rfl,rfl,rfl,rfl⟩)
  · have h : ¬ ((0 : Nat) : Int)<(((toL k a).map dq).length : Nat):=h
    rw [lq,hcl] at h
    have:=W0o k
    omega
 | some w =>
  have hw : w=((toL k a).take i).map (·*u):=hw
  have hwl : w.length=i:=by rw [hw,W0r,W0k,hcl];omega
  refine By rfl (fun h=>?_) fun h=>?_
  · have h : (i : Int)<(((toL k a).map dq).length : Nat):=h
    rw [lq,hcl] at h
    obtain ⟨q,hq⟩:=qat (l:=toL k a) (k:=i) (by omega)
    refine Dw rfl ?_
    refine Ix i rfl (mp hq) ?_
    refine Ce rfl hpw ?_
    refine Ce rfl (R2.Mul_ok (hml q (W0m hq)) hu (by decide)) ?_
    refine ApO ((w++[q*u]).map dq) rfl rfl rfl (by rw [W3b];rfl) (by rw [W0r,W0c,hwl];show i+1≤_;omega) ?_
    refine Ar (i+1 : Nat) rfl ?_
    exact Bk (i+1,some (w++[q*u])) [(26,600)] rfl ⟨by show i+1≤2 ^ k;omega,by rw [W1r,hq,W3b,←hw];rfl,by simp⟩ (by show 2 ^ k - (i+1)<2 ^ k - i;omega) (by exact ⟨rfl,rfl,rfl,rfl,rfl⟩)
  · have h : ¬ (i : Int)<(((toL k a).map dq).length : Nat):=h
    rw [lq,hcl] at h
    have hik : i=2 ^ k:=by omega
    have hpos:=W0o k
    have hw2 : w=(toL k a).map (·*u):=by rw [hw,W0a (by omega)]
    obtain ⟨y,hy⟩:=qat (l:=w) (k:=0) (by omega)
    obtain ⟨q,hq,rfl⟩ : ∃ q,q∈toL k a∧q*u=y:=by
     have:=W0m hy
     rw [hw2] at this
     exact W3y.1 this
    have hqy : Qs 2000 (q*u):=((hml q hq).mul hu).mono (by decide)
    have hsc:=Yb8 (t:=t) (g:=g) hw2 hy
    refine Dw rfl ?_
    refine Eo 0 rfl (by rw [W0r];omega) ?_
    refine Ld (dq (q*u)) rfl (mp hy) ?_
    refine Ce rfl (R2.Add_ok hqy hg (by decide)) ?_
    refine Eo 0 rfl (by rw [W0r];omega) ?_
    refine Sto (zs:=(w.set 0 (q*u+g)).map dq) rfl (by rw [W0r];omega) ms ?_
    refine R1 rfl (.own rfl (by simp) ?_)
    show _=(toL k (scl k t a u g)).map dq
    rw [hsc,W1d,W0a (by simp)]
theorem Xz1 : C0 60 [.d (.int .i64 0)] (·=.d (dq ((0 : Int) : Rat))):=R2.FromInt_ok (z:=0) (by decide)
theorem Yjo : Qs 2 ((0 : Int) : Rat):=Qs.int (z:=0) (show Int.natAbs 0<2 ^ 2 by decide) (by decide)
theorem Floor_ok {x : Nm} {d : Nat} (H : Pk x) (hd : d≤60) : C0 19 [.d (dN x),.d (.int .i64 d)] fun v=>∃ z,v=.tup (.pr (.d (dz z)) (.d (.int .i64 0)))∧Xbo x.k x.t (scl x.k x.t x.a ((10 ^ d : Int) : Rat) ((0 : Int) : Rat)) z:=by
 obtain ⟨b1,b2,b3,b4,b5⟩:=P11.bnds H.k
 have S:=H.sc (Xpp hd) Yjo
 refine En Tryz.func19 fun _ _ _=>?_
 refine No rfl (by omega) ?_
 refine No rfl (by omega) ?_
 refine Dw rfl ?_
 refine Ce rfl Xz1 ?_
 refine Ce rfl (Xl0 H hd Yjo) ?_
 refine Ca rfl (R7.Floor_ok H.re S.w1 (H.t.mono (by decide)) S.s2 (by decide) (show x.k≤16 by have:=H.k;omega) b3 b4) fun v hv=>?_
 obtain ⟨z,rfl,hz⟩:=hv
 exact Rt rfl (.tup (.cons (.rf rfl) Xcj)) ⟨z,rfl,hz⟩
theorem Floor_no {x : Nm} {d : Int} (hd : ¬ (0≤d∧d≤60)) : C0 19 [.d (dN x),.d (.int .i64 d)] (·=.tup (.pr (.d (dz 0)) (.d (.int .i64 1)))):=by
 refine En Tryz.func19 fun _ _ _=>?_
 refine By rfl (fun h=>?_) fun h=>?_
 · exact RTt rfl Ye6
 · refine Yes rfl (by omega) ?_
   exact RTt rfl Ye6
theorem Round_ok {x : Nm} {d : Nat} (H : Pk x) (hd : d≤60) : C0 21 [.d (dN x),.d (.int .i64 d)] fun v=>∃ z,v=.tup (.pr (.d (dz z)) (.d (.int .i64 0)))∧Xi8 x d z:=by
 obtain ⟨b1,b2,b3,b4,b5⟩:=P11.bnds H.k
 have S:=H.sc (Xpp hd) Xon
 refine En Tryz.func21 fun _ _ _=>?_
 refine No rfl (by omega) ?_
 refine No rfl (by omega) ?_
 refine Dw rfl ?_
 refine Ce rfl (R2.Frac_ok (a:=1) (b:=2) (by decide) (by decide) (by decide)) ?_
 refine Ce rfl (Xl0 H hd Xon) ?_
 refine Ca rfl (R7.Floor_ok H.re S.w1 (H.t.mono (by decide)) S.s2 (by decide) (show x.k≤16 by have:=H.k;omega) b3 b4) fun v hv=>?_
 obtain ⟨z,rfl,hz⟩:=hv
 exact Rt rfl (.tup (.cons (.rf rfl) Xcj)) ⟨z,rfl,hz⟩
theorem Round_no {x : Nm} {d : Int} (hd : ¬ (0≤d∧d≤60)) : C0 21 [.d (dN x),.d (.int .i64 d)] (·=.tup (.pr (.d (dz 0)) (.d (.int .i64 1)))):=by
 refine En Tryz.func21 fun _ _ _=>?_
 refine By rfl (fun h=>?_) fun h=>?_
 · exact RTt rfl Ye6
 · refine Yes rfl (by omega) ?_
   exact RTt rfl Ye6
theorem Format_ok {x : Nm} {d : Nat} {z0 : Int} (H : Pk x) (hd : d≤60) (h0 : Xi8 x d z0) (hl : (dig z0.natAbs).length≤274877906944) : C0 13 [.d (dN x),.d (.int .i64 d)] (·=Xor z0 d):=by
 refine En Tryz.func13 fun _ _ _=>?_
 refine Ca rfl (Round_ok H hd) fun v hv=>?_
 obtain ⟨z,rfl,hz⟩:=hv
 obtain rfl:=Xbo.uniq H.re hz h0
 refine No rfl (by decide) ?_
 refine Ce rfl (Yev (by omega) (by omega)) ?_
 refine By rfl (fun h=>?_) fun h=>?_
 · exact Rt rfl (.tup (.cons (.rf rfl) Xcj)) (by rw [Xor,if_neg (by omega)])
 · exact Rt rfl (.tup (.cons (.rf rfl) Xcj)) (by rw [Xor,if_pos (by omega)])
theorem Format_no {x : Nm} {d : Int} (hd : ¬ (0≤d∧d≤60)) : C0 13 [.d (dN x),.d (.int .i64 d)] (·=.tup (.pr (.d (.str [])) (.d (.int .i64 1)))):=by
 refine En Tryz.func13 fun _ _ _=>?_
 refine Ce rfl (Round_no hd) ?_
 refine Yes rfl (by decide) ?_
 exact R0t
theorem Xoq {s a b : List UInt8} {ng : Bool} (h : prs s=some (ng,a,b)) : Qs 1605 (fr ng a b):=by
 obtain ⟨hz,hb⟩:=Xml h
 rw [Xij,←W3h]
 exact Qs.divInt (hz.mono (by decide)) ((p10 b.length).mono (by omega)) (fun e=>Xes b.length (by rw [e];rfl))
theorem Xvt {n : Nat} (hn : n≤400) : Qs 1610 (hf / ((10 ^ n : Int) : Rat)):=by
 have hn0 : (10 ^ n : Int)≠0:=fun e=>Xes n (by rw [e];rfl)
 have e : hf / ((10 ^ n : Int) : Rat)=Rat.divInt 1 (2*10 ^ n):=by
  rw [hf,W3h,W3h,W3c]
  have h1:=Xes n
  grind
 rw [e]
 refine Qs.divInt (Zs.one (by decide)) ?_ (by omega)
 have h1 : Zs 2 (2 : Int):=show Int.natAbs 2<2 ^ 2 by decide
 exact (h1.mul (p10 n)).mono (by omega)
theorem Xu3 {s a b : List UInt8} {ng : Bool} (h : prs s=some (ng,a,b)) : Qs 4000 (loQ ng a b)∧Qs 4000 (hiQ ng a b):=by
 have h1:=Xoq h
 have h2:=Xvt (Xml h).2
 exact ⟨by unfold loQ;rw [W5e];exact (h1.add h2.neg).mono (by decide),(h1.add h2).mono (by decide)⟩
theorem Within_no {x : Nm} {s : List UInt8} (hs : Tx s) (h : prs s=none) : C0 17 [.d (dN x),.d (.str s)] (·=.b false):=by
 refine En Tryz.func17 fun _ _ _=>?_
 refine Ce rfl (Parse_no hs h) ?_
 refine Yes rfl (by decide) ?_
 exact R0
theorem Within_yes {x : Nm} {s a b : List UInt8} {ng : Bool} (H : Pk x) (hs : Tx s) (h : prs s=some (ng,a,b)) : C0 17 [.d (dN x),.d (.str s)] (·=.b (dc (inI x.k x.t x.a (loQ ng a b) (hiQ ng a b)))):=by
 obtain ⟨hz,hb⟩:=Xml h
 have hu:=Xs7 hb
 have hpl : plc s=b.length:=by unfold plc;rw [h]
 refine En Tryz.func17 fun _ _ _=>?_
 refine Ce rfl (Parse_yes hs h) ?_
 refine No rfl (by decide) ?_
 refine Ce rfl (R2.Frac_ok (a:=1) (b:=2) (by decide) (by decide) (by decide)) ?_
 refine Ce rfl (show C0 _ _ (·=.d (.int .i64 b.length)) by rw [←hpl];exact Xfv hs) ?_
 refine Ce rfl (Xcn (by omega)) ?_
 refine Ce rfl (R2.Div_ok Xon hu (by decide) (Xes _)) ?_
 refine Dw rfl ?_
 refine Ce rfl (R2.Sub_ok (Xoq h) (Xvt hb) (by decide)) ?_
 refine Ce rfl (R2.Add_ok (Xoq h) (Xvt hb) (by decide)) ?_
 refine Ce rfl (R7.Contains_ok (x:=loQ ng a b) (y:=hiQ ng a b) (H.t.mono (by decide)) H.sz (Xu3 h).1 (Xu3 h).2 (show x.k≤16 by have:=H.k;omega) (W0h (Xcp (by have:=Xv5 4000 (2*(1000000+1+16)) x.k;omega)) (P11.bnds H.k).2.1)) ?_
 exact R0
theorem Yfk {z : Int} {d : Nat} (hd : d≠0) : (46 : UInt8)∈txt z d:=by
 unfold txt pt
 rw [if_neg hd]
 simp
theorem Yfl {t : List UInt8} (h : (46 : UInt8)∈t) : trR 48 t≠[]:=fun e=>by
 obtain ⟨n,hn⟩:=Yad t
 rw [e,W3z] at hn
 rw [hn] at h
 exact absurd (W5m h) (by decide)
theorem Xtn {t l : List UInt8} {y : UInt8} (h : trR 48 t=l++[y]) : shT t=if y=46 then l else l++[y]:=by
 unfold shT
 rw [h]
 by_cases e : y=46
 · rw [if_pos (by subst e;simp),if_pos e];simp
 · rw [if_neg (by simp [e]),if_neg e]
theorem Short_ok {x : Nm} {d : Nat} {z0 : Int} (H : Pk x) (hd : d≤60) (h0 : Xi8 x d z0) (hl : (dig z0.natAbs).length≤274877906944) : C0 15 [.d (dN x),.d (.int .i64 d)] (·=Xlx z0 d):=by
 have hF:=Format_ok H hd h0 hl
 by_cases h : (txt z0 d).length≤400
 · rw [Xor,if_pos h] at hF
   have e : Xlx z0 d=.tup (.pr (.d (.str (if d=0 then txt z0 d else shT (txt z0 d)))) (.d (.int .i64 0))):=by rw [Xlx,if_pos h]
   rw [e]
   refine En Tryz.func15 fun _ _ _=>?_
   refine Ce rfl hF ?_
   refine No rfl (by decide) ?_
   by_cases hd0 : d=0
   · rw [if_pos hd0]
     refine Yes rfl (by omega) ?_
     exact R0t
   · rw [if_neg hd0]
     refine No rfl (by omega) ?_
     obtain ⟨t,ht⟩ : ∃ t,t=txt z0 d:=⟨_,rfl⟩
     rw [←ht] at h ⊢
     have hne:=Yfl (t:=t) (by rw [ht];exact Yfk hd0)
     refine Lo (fun (s : List UInt8)=>[(6,.d (.str s))]) (fun _=>[]) (fun s=>trR 48 s=trR 48 t∧s.length≤400) (fun s=>s.length) t [] rfl ⟨rfl,h⟩ ?_ (by exact ⟨by rw [ht];rfl,rfl,rfl,rfl,rfl⟩)
     rintro s ⟨hs,hsl⟩
     have hs0 : s≠[]:=fun e=>hne (by rw [←hs,e];rfl)
     obtain ⟨l,y,rfl⟩ : ∃ l y,s=l++[y]:=⟨s.dropLast,s.getLast hs0,(W6t hs0).symm⟩
     have hll : (l++[y]).length=l.length+1:=by simp
     rw [hll] at hsl
     have hy : (l++[y])[l.length]?=some y:=by simp
     rw [Xdi] at hs
     have har : arB .sub .i64 (((l++[y]).length : Nat) : Int) 1 (l.length : Nat):=by rw [hll];exact wr (by omega) (by simp only [inK];omega)
     refine Ar (l.length : Nat) rfl ?_ har
     refine Yx l.length y rfl hy ?_
     refine By rfl (fun h48=>?_) fun h48=>?_
     · have hy48 : y=48:=W5v.1 (by show y.toNat=48;omega)
       rw [if_pos hy48] at hs
       refine Ar (l.length : Nat) rfl ?_ har
       refine Stk l.length l rfl (by rw [hll];omega) (by simp) ?_
       exact Bk l [] rfl ⟨hs,by omega⟩ (by show l.length<(l++[y]).length;omega)
     · have hy48 : ¬ y=48:=fun e=>h48 (by rw [e];rfl)
       rw [if_neg hy48] at hs
       have hsh:=Xtn hs.symm
       rw [hsh]
       refine Ar (l.length : Nat) rfl ?_ har
       refine Yx l.length y rfl hy ?_
       refine By rfl (fun h46=>?_) fun h46=>?_
       · have hy46 : y=46:=W5v.1 (by show y.toNat=46;omega)
         rw [if_pos hy46]
         refine Ar (l.length : Nat) rfl ?_ har
         refine Stk l.length l rfl (by rw [hll];omega) (by simp) ?_
         exact RTt rfl (.cons (.rf rfl) Xcj)
       · have hy46 : ¬ y=46:=fun e=>h46 (by rw [e];rfl)
         rw [if_neg hy46]
         exact RTt rfl (.cons (.rf rfl) Xcj)
 · rw [Xor,if_neg h] at hF
   have e : Xlx z0 d=.tup (.pr (.d (.str [])) (.d (.int .i64 3))):=by rw [Xlx,if_neg h]
   rw [e]
   refine En Tryz.func15 fun _ _ _=>?_
   refine Ce rfl hF ?_
   refine Yes rfl (by decide) ?_
   exact R0t
theorem Short_no {x : Nm} {d : Int} (hd : ¬ (0≤d∧d≤60)) : C0 15 [.d (dN x),.d (.int .i64 d)] (·=.tup (.pr (.d (.str [])) (.d (.int .i64 1)))):=by
 refine En Tryz.func15 fun _ _ _=>?_
 refine Ce rfl (Format_no hd) ?_
 refine Yes rfl (by decide) ?_
 exact R0t
end Go.Proofs.YtjcejnjhfcbafaaGreatDoor.R11
namespace Go.Tow
open Go Go.Num Go.Proofs.YtjcejnjhfcbafaaGreatDoor
variable {K : Nat} {G : Tw K} {S : List (El K)} {N : List Nm} {n m : Nat} {x y z : Nm} {v w : El K} {r p : Nat}
end Go.Tow
namespace Go.Proofs.YtjcejnjhfcbafaaGreatDoor
open Go Go.Vm Go.Num Go.Tow
section
variable {K : Nat} {G : Tw K} {S : List (Tow.El K)} {N : List Nm} {n m : Nat} {x y z : Nm} {v w : Tow.El K}
end
end Go.Proofs.YtjcejnjhfcbafaaGreatDoor
namespace Go.Proofs.YtjcejnjhfcbafaaGreatDoor
open Go Go.Vm Go.Num Go.Tow
structure Vn where
 x : Nm
 y : Nm
abbrev n00 : Nm:=⟨0,(),((0 : Int) : Rat)⟩
def IsB (r : AV) : Prop:=∃ c : Bool,r=.b c
section
variable {K : Nat} {G : Tw K} {S : List (Tow.El K)} {N : List Nm} {n m : Nat} {x y z : Nm} {a b v w : Tow.El K}
theorem R9.Light_ok {x : Nm} (hk : x.k≤16) : C0 33 [.d (dN x)] IsB:=by
 obtain ⟨k,t,a⟩:=x
 have hk : k≤16:=hk
 have hp:=p16 hk
 have hcl:=Xab k a
 have hTl:=Xaa k t
 refine En Tryz.func33 fun _ _ _=>?_
 refine Lo (fun i : Nat=>[(1,.ptr 1 0),(3,.d (.int .i64 i))]) (fun _=>[(1,.var (.d (dN ⟨k,t,a⟩)))]) (fun i=>i≤2 ^ k) (fun i=>2 ^ k - i) 0 [] rfl (W1c _) fun i hi=>?_
 refine By rfl (fun h=>?_) fun h=>?_
 · have h : (i : Int)<(((toL k a).map dq).length : Nat):=h
   rw [lq,hcl] at h
   obtain ⟨x,hx⟩:=qat (l:=toL k a) (k:=i) (by omega)
   refine Ix i rfl (mp hx) ?_
   refine By rfl (fun h1=>?_) fun h1=>?_
   · exact Rt rfl (.one (.rf rfl) rfl rfl) ⟨_,rfl⟩
   · refine Ix i rfl (mp hx) ?_
     refine By rfl (fun h2=>?_) fun h2=>?_
     · exact Rt rfl (.one (.rf rfl) rfl rfl) ⟨_,rfl⟩
     · refine Ar (i+1 : Nat) rfl ?_
       exact Bk (i+1) [] rfl (show i+1≤2 ^ k by omega) (by show 2 ^ k - (i+1)<2 ^ k - i;omega)
 refine Lo (fun i : Nat=>[(1,.ptr 1 0),(4,.d (.int .i64 i))]) (fun _=>[(1,.var (.d (dN ⟨k,t,a⟩)))]) (fun i=>i≤k) (fun i=>k - i) 0 [] rfl (W1c _) fun i hi=>?_
 refine By rfl (fun h=>?_) fun h=>?_
 · have h : (i : Int)<(((toT k t).map dqs).length : Nat):=h
   rw [lt',hTl] at h
   obtain ⟨l,hl⟩ : ∃ l,(toT k t)[i]?=some l:=⟨_,W0e (by omega)⟩
   obtain ⟨e,e1,_,_⟩:=Tw.at (t:=t) (show i<k by omega)
   obtain rfl : l=toL i e:=by rw [hl] at e1;injection e1
   have hll:=Xab i e
   have hpi:=p16 (show i≤16 by omega)
   refine Lo (fun j : Nat=>[(1,.ptr 1 0),(4,.d (.int .i64 i)),(5,.d (.int .i64 j))]) (fun _=>[(1,.var (.d (dN ⟨k,t,a⟩)))]) (fun j=>j≤2 ^ i) (fun j=>2 ^ i - j) 0 [] rfl (W1c _) fun j hj=>?_
   refine Ix i rfl (mp hl) ?_
   refine By rfl (fun h1=>?_) fun h1=>?_
   · have h1 : (j : Int)<(((toL i e).map dq).length : Nat):=h1
     rw [lq,hll] at h1
     obtain ⟨x,hx⟩:=qat (l:=toL i e) (k:=j) (by omega)
     refine Ix i rfl (mp hl) ?_
     refine Ix j rfl (mp hx) ?_
     refine By rfl (fun h1=>?_) fun h1=>?_
     · exact Rt rfl (.one (.rf rfl) rfl rfl) ⟨_,rfl⟩
     · refine Ix i rfl (mp hl) ?_
       refine Ix j rfl (mp hx) ?_
       refine By rfl (fun h2=>?_) fun h2=>?_
       · exact Rt rfl (.one (.rf rfl) rfl rfl) ⟨_,rfl⟩
       · refine Ar (j+1 : Nat) rfl ?_
         exact Bk (j+1) [] rfl (show j+1≤2 ^ i by omega) (by show 2 ^ i - (j+1)<2 ^ i - j;omega)
   · refine Ar (i+1 : Nat) rfl ?_
     exact Bk (i+1) [] rfl (show i+1≤k by omega) (by show k - (i+1)<k - i;omega)
 · exact Rt rfl (.one (.rf rfl) rfl rfl) ⟨_,rfl⟩
theorem R9.At_ok {l : List Nm} {i : Nat} (hi : i<256) (hn : l.length≤1000) : C0 31 [.d (dNs l),.d (.int .i64 i)] fun v=>∃ z∈n00::l,v=.d (dN z):=by
 refine En Tryz.func31 fun _ _ _=>?_
 refine By rfl (fun h=>?_) fun h=>?_ <;> simp only [W0r] at h
 · refine Ce rfl (R9.FromInt_ok (z:=0) (by decide)) ?_
   exact Rt rfl (.one (.rf rfl) rfl rfl) ⟨_,W0w ..,rfl⟩
 · refine No rfl (by omega) ?_
   obtain ⟨z,hz⟩ : ∃ z,l[i % l.length]?=some z:=⟨_,W0e (W1x _ (by omega))⟩
   refine Ar (i % l.length : Nat) rfl ?_ (by rw [W0r];exact R9.remN (by omega))
   refine Ix (i % l.length) rfl (mp hz) ?_
   exact Rt rfl (.one (.rf rfl) rfl rfl) ⟨z,W1b _ (W0m hz),rfl⟩
end
end Go.Proofs.YtjcejnjhfcbafaaGreatDoor
namespace Go.Proofs.YtjcejnjhfcbafaaGreatDoor.P11
open Go Go.Vm Go.Num Go.Tow Go.Proofs.YtjcejnjhfcbafaaGreatDoor Go.Proofs.YtjcejnjhfcbafaaGreatDoor.P9 Go.Proofs.YtjcejnjhfcbafaaGreatDoor.R11 Go.Proofs.YtjcejnjhfcbafaaGreatDoor.R9
section
theorem Yba : ∀ {k : Nat} {t : Tw k},(∀ l∈toT k t,∀ q∈l,Qs 64 q)→MgT 64 k t
 | 0,_,_=>trivial
 | k+1,t,h=>⟨Yba fun l hl=>h l (W2d _ hl),h _ (W1j _ (W0g.2 rfl))⟩
theorem Yiq {K : Nat} {G : Tw K} {S : List (El K)} {z : Nm} {v : El K} (hG : red K G) (hS : S.length≤3) (hq : Xxg G S 300 600) (hz : NOk G S 300 600 z v) (hs : shN z) : Pk z:=by
 obtain ⟨ρ,h1,_⟩:=hz.ex
 exact ⟨hz.le (Xah hG) hS,Xah h1.r,hz.r,Yba fun l hl q hq=>(hs.2 l hl q hq).qs,.inl fun q hq=>(hs.1 q hq).qs⟩
theorem Ylm {K : Nat} {G : Tw K} {S : List (El K)} {ρ : Nat→El K} : TOk G S 0 () ρ:=⟨trivial,trivial,fun i h=>absurd h (W6k i)⟩
theorem Xrr {q : Rat} {n : Nat} (hq : Qs n q) (hn : n≤1700) : Pk ⟨0,(),q⟩ :=
 ⟨W1c _,trivial,trivial,trivial,.inr ⟨rfl,fun x hx=>by obtain rfl:=W0g.1 hx;exact hq.mono hn⟩⟩
theorem Xf6 {ops : List RO} {i : Nat} (hi : i<256) : C0 10 [.d (dRs ops),.d (.int .u8 i)] fun v=>∃ (x : Nm) (c : Bool),v=.tup (.pr (.d (dN x)) (.b c))∧Pk x:=by
 refine En Tryz.func10 fun _ _ _=>?_
 refine Ca rfl Xz3 fun v hv=>?_
 obtain ⟨l,rfl,hl,ht,K,G,S,hG,hS,hq,hall,_⟩:=hv
 refine Cv (i : Nat) rfl ?_ (wI (by omega))
 refine Ca rfl (R9.At_ok hi (W0h hl (by decide))) fun v hv=>?_
 obtain ⟨z,hz,rfl⟩:=hv
 have hP : Pk z:=by
  rcases W1q.1 hz with rfl | hz
  · exact Xrr Yjo (by decide)
  · obtain ⟨v,hv⟩:=hall z hz
    exact Yiq hG hS hq hv (ht z hz).2
 refine Dw rfl ?_
 refine Ca rfl (R9.Light_ok (W0h hP.k (by decide))) fun v hv=>?_
 obtain ⟨c,rfl⟩:=hv
 exact Rt rfl (.tup (.cons (.rf rfl) (.one (.rf rfl) (fun _ _ e=>by cases e) (fun _ _ e=>by cases e)))) ⟨z,c,rfl,hP⟩
theorem Yac : ¬ Xgc 0 () (2 : Rat):=fun ⟨w,h⟩=>by
 obtain ⟨_,h2,_⟩:=(Xth (q:=2)).1 ⟨w,h⟩
 have h2 : rt 2*rt 2=2:=h2
 generalize rt 2=n at h2
 have : n=0∨n=1∨2≤n:=by omega
 rcases this with rfl | rfl | h
 · cases h2
 · cases h2
 · have:=W1z h h
   omega
abbrev two : Nm:=⟨0,(),(2 : Rat)⟩
structure Rt2 (x : Nm) : Prop where
 p : Pk x
 s : mul x.k x.t x.a x.a=rat x.k 2
 n : 0≤sgn x.k x.t x.a
theorem Yiy {x y : Nm} : C0 31 [.d (dNs [y,x]),.d (.int .i64 1)] (·=.d (dN x)):=by
 refine En Tryz.func31 fun _ _ _=>?_
 refine No rfl (show ¬ ((2 : Nat) : Int)=0 by decide) ?_
 refine No rfl (by decide) ?_
 refine Ar (1 : Nat) rfl ?_ (show arB .rem .i64 1 2 1 from ⟨by decide,by decide⟩)
 refine Ix 1 rfl rfl ?_
 exact R0
def aw0 : RO:=⟨0,0,0,2,0,by decide⟩
def aw1 : RO:=⟨5,0,0,0,0,by decide⟩
theorem Xg2 {q : Rat} (h1 : q.num.natAbs≤4) (h2 : q.den≤4) : sh q:=⟨Xao (W1n h1 (by decide)),Xao (W1n h2 (by decide))⟩
theorem sh2 : shN two:=⟨fun x hx=>by obtain rfl:=W0g.1 hx;exact Xg2 (by decide) (by decide),fun l hl=>nomatch hl⟩
theorem Yl7 {K : Nat} (G : Tw K) (S : List (El K)) : NOk G S 300 600 two (rat K 2):=⟨⟨fun _=>zero _,Ylm,rfl⟩,trivial,Xxv (n:=1) sh2.1 (W0b _) (by decide)⟩
abbrev rt2 : Nm:=⟨0+1,tsn () (2 : Rat),Xcl (0+1) 0⟩
theorem Ylr : shN rt2:=⟨fun x hx=>by
 have hx : x∈[(0 : Rat),1]:=hx
 rcases W1q.1 hx with rfl | hx
 · exact Xg2 (by decide) (by decide)
 · obtain rfl:=W0g.1 hx;exact Xg2 (by decide) (by decide),fun l hl x hx=>by
 obtain rfl : l=[(2 : Rat)]:=W0g.1 hl
 obtain rfl:=W0g.1 hx;exact Xg2 (by decide) (by decide)⟩
theorem Yf7 {K : Nat} {G : Tw K} {S : List (El K)} {z : Nm} {v : El K} (hG : red K G) (hS : S.length≤3) (hq : Xxg G S 300 600) (h0 : NOk G S wR (oW 1000000) rt2 v) (hz : NOk G S 300 600 z v) (hs : shN z) : Rt2 z:=by
 have hGr:=Xah hG
 obtain ⟨ρ,h1,h2⟩:=h0.ex
 obtain ⟨σ,k1,k2⟩:=hz.ex
 have e1 : mul K G v v=rat K 2:=by
  rw [←h2,←Xbm h1.h,show mul rt2.k rt2.t rt2.a rt2.a=rat rt2.k 2 from Xl4 (k:=0) (t:=tsn () (2 : Rat)),Xdy]
 refine ⟨Yiq hG hS hq hz hs,Xfr hGr k1.h k1.r ?_,?_⟩
 · rw [Xbm k1.h,k2,e1,Xdy]
 · rw [←hz.sgn hGr,h0.sgn hGr]
   rw [show sgn rt2.k rt2.t rt2.a=1 from Xnw (k:=0) (t:=tsn () (2 : Rat)) trivial]
   decide
theorem Xz4 : C0 32 [.d (dRs [aw0,aw1])] fun v=>∃ x y : Nm,v=.d (dNs [y,x])∧Rt2 x:=by
 obtain ⟨b1,b2,b3,b4,b5,b6,b7,b8,b9,b10,b11,b12⟩:=R9.bnds
 have sq0 : Xxg (K:=0) () [] 300 600:=fun g hg=>(by cases hg)
 have hfr : C0 34 [.d (.int .i64 2),.d (.int .i64 1)] (·=.d (dN two)):=by
  have h:=R9.Frac_ok (a:=2) (b:=1) (by decide) (by decide) (by decide)
  rw [Xgd] at h
  exact h
 refine En Tryz.func32 fun _ _ _=>?_
 refine Nl 3 3 2 rfl ?_
 refine Lo (fun (s : Nat × Nat × List Nm)=>[(0,.d (dRs [aw0,aw1])),(3,.gr 3 2 (s.2.2.map dN)),(4,.d (.int .i64 s.2.1)),(5,.d (.int .i64 s.1))]) (fun s=>[(3,.tok (s.2.2.map dN).length 2)]) (fun s=>(s.1=0∧s.2.1=0∧s.2.2=[])∨(s.1=1∧s.2.1=0∧∃ y,s.2.2=[y]∧y=two)∨(s.1=2∧∃ x y,s.2.2=[y,x]∧Rt2 x)) (fun s=>2 - s.1) (0,0,[]) [] rfl (.inl ⟨rfl,rfl,rfl⟩) (fun (i,n,l) hI=>?_)
 simp only at hI
 rcases hI with ⟨rfl,rfl,rfl⟩ | ⟨rfl,rfl,y,rfl,rfl⟩ | ⟨rfl,x,y,rfl,hx⟩
 · refine Yes rfl (show ((0 : Nat) : Int)<((2 : Nat) : Int) by decide) ?_
   refine Yes rfl (by decide) ?_
   refine Ix 0 rfl (u:=dO aw0) rfl ?_
   refine Cv 2 rfl ?_ (wI (by decide))
   refine Ar (0 : Nat) rfl ?_ (R9.remN (a:=0) (m:=8) (by decide))
   refine Cv (0 : Nat) rfl ?_ (wI (by decide))
   refine Ar (1 : Nat) rfl ?_
   refine Ce rfl hfr ?_
   refine No rfl (show ¬ ((0 : Nat) : Int) > 0 by decide) ?_
   refine No rfl (show ¬ ((0 : Nat) : Int) > 0 by decide) ?_
   refine Ca rfl (R9.Trim_ok (K:=0) (G:=()) (S:=[]) sh2 trivial (W1c _) (Yl7 (K:=0) () []) (by decide) (by decide)) fun v hv=>?_
   obtain ⟨z,rfl,hz,ht⟩:=hv
   have hz2 : z=two:=by
    obtain ⟨ρ,h1,h2⟩:=hz.ex
    have hk : z.k≤0:=h1.le (K:=0) (G:=()) trivial
    obtain ⟨k,t,a⟩:=z
    obtain rfl : k=0:=by have hk : k≤0:=hk;omega
    have h2 : a=(2 : Rat):=h2
    rw [h2];rfl
   subst hz2
   refine ApG ([two].map dN) rfl rfl (show 1≤1099511627776 by decide) ?_
   refine Ar (1 : Nat) rfl ?_
   exact Bk (1,0,[two]) [(157,3)] rfl (.inr (.inl ⟨rfl,rfl,two,rfl,rfl⟩)) (by decide)
 · refine Yes rfl (show ((1 : Nat) : Int)<((2 : Nat) : Int) by decide) ?_
   refine Yes rfl (by decide) ?_
   refine Ix 1 rfl (u:=dO aw1) rfl ?_
   refine Cv 0 rfl ?_ (wI (by decide))
   refine Ar (0 : Nat) rfl ?_ (R9.remN (a:=0) (m:=8) (by decide))
   refine Cv (0 : Nat) rfl ?_ (wI (by decide))
   refine Ar (1 : Nat) rfl ?_
   refine Ce rfl (R9.Frac_ok (a:=0) (b:=1) (by decide) (by decide) (by decide)) ?_
   refine Yes rfl (show ((1 : Nat) : Int) > 0 by decide) ?_
   refine Ar (5 : Nat) rfl ?_ (R9.remN (a:=5) (m:=6) (by decide))
   refine Yes rfl (by decide) ?_
   have hrm : arB .rem .i64 0 ((1 : Nat) : Int) (0 : Nat):=R9.remN (a:=0) (m:=1) (by decide)
   have hn2 : NOk (K:=0) () [] 300 600 two (rat 0 2):=Yl7 (K:=0) () []
   have hs2 : sgn 0 () (rat 0 2)=1:=Xby (show (0 : Rat)<2 by decide)
   refine Dz rfl ?_
   refine Cv (0 : Nat) rfl ?_ (wI (by decide))
   refine Ar (0 : Nat) rfl ?_ hrm
   refine Ix 0 rfl (u:=dN two) rfl ?_
   refine Cv (0 : Nat) rfl ?_ (wI (by decide))
   refine Ar (0 : Nat) rfl ?_ hrm
   refine Ix 0 rfl (u:=dN two) rfl ?_
   refine Ar (5 : Nat) rfl ?_ (R9.remN (a:=5) (m:=6) (by decide))
   refine No rfl (by decide) ?_
   refine No rfl (by decide) ?_
   refine No rfl (by decide) ?_
   refine No rfl (by decide) ?_
   refine Ce rfl (R9.Sign_ok (K:=0) (G:=()) (S:=[]) trivial hn2 (by decide) (by decide +kernel)) ?_
   refine No rfl (by rw [hs2];decide) ?_
   refine Yes rfl (by decide) ?_
   refine Ar (1 : Nat) rfl ?_ (show arB .add .i64 0 1 1 from wr rfl (by simp only [inK];decide))
   refine Ca rfl (R9.Sqrt_ok (x:=two) (r:=300) (p:=600) trivial trivial hn2.p (by rw [show sgn two.k two.t two.a=1 from hs2];decide) (by decide) (by decide +kernel) (by decide +kernel) (by decide +kernel) (by decide +kernel)) fun v hv=>?_
   obtain ⟨z,rfl,hz⟩:=hv
   have hzr : z=rt2:=by
    rcases hz with ⟨w,_,h1,_⟩ | ⟨h,_,_⟩
    · exact absurd ⟨w,h1⟩ Yac
    · exact h
   subst hzr
   refine Ce rfl (R9.made_ok (x:=rt2) (y:=two)) ?_
   refine Yes rfl (show ((1 : Nat) : Int) > 0 by decide) ?_
   refine Ce rfl (R9.long_ok (x:=rt2) (by decide)) ?_
   refine No rfl (fun h=>h Ylr) ?_
   obtain ⟨K,G,S,hG,hS,hq,hall,v,hv⟩:=Xje (l:=[]) (n:=0) (K:=0) (G:=()) (S:=[]) (ρ:=fun _=>zero 0) (k:=0) (t:=()) (a:=(2 : Rat)) (r:=wR) (p:=oW 1000000) trivial (W0b _) sq0 (fun y hy=>nomatch hy) Ylm trivial hn2.p (by rw [show sgn 0 () (2 : Rat)=1 from hs2];decide) Yac ⟨trivial,hn2.p.mono (by decide)⟩ ((Xn1 0).mono (by decide))
   have hS3 : S.length≤3:=W0h hS (by decide)
   refine Ca rfl (R9.Trim_ok Ylr hG hS3 (Ylr.ok hv (by decide)) (by decide) (by decide)) fun w hw=>?_
   obtain ⟨z',rfl,hz',ht'⟩:=hw
   refine ApG ([two,z'].map dN) rfl rfl (show 2≤1099511627776 by decide) ?_
   refine Ar (2 : Nat) rfl ?_
   exact Bk (2,1,[two,z']) [(157,3)] rfl (.inr (.inr ⟨rfl,z',two,rfl,Yf7 hG hS3 hq hv hz' ht'.2⟩)) (show 2 - 2<2 - 1 by decide)
 · refine No rfl (show ¬ ((2 : Nat) : Int)<((2 : Nat) : Int) by decide) ?_
   exact Rt rfl (.one (.gr rfl) rfl rfl) ⟨x,y,rfl,hx⟩
end
section
section
variable {k : Nat} {t : Tw k} {a : El k}
theorem Xto (hR : Xbh k t) {u h w c : Rat} (hu : 0<u) (hc : c*u+h=w) : sgn k t (add k (scl k t a u h) (neg k (rat k w)))=sgn k t (add k a (neg k (rat k c))):=by
 have L:=Xa5 k t
 have e : add k (scl k t a u h) (neg k (rat k w))=mul k t (add k a (neg k (rat k c))) (rat k u):=by
  rw [←hc,Xc1,Xb3 k t,L.dm,L.nm,L.nd]
  show add k (add k (mul k t a (rat k u)) (rat k h)) (add k _ (neg k (rat k h)))=_
  rw [L.aa,L.alc (rat k h),L.an,L.az]
 rw [e,Xht hR hu]
theorem sg2 (hR : Xbh k t) (h2 : mul k t a a=rat k 2) (h0 : 0≤sgn k t a) {c : Rat} (hc : 0<c) : sgn k t (add k a (neg k (rat k c)))=Xhv (2 - c*c):=by
 have L:=Xa5 k t
 have S:=Xaw hR
 have e : mul k t (add k a (neg k (rat k c))) (add k (rat k c) a)=rat k (2 - c*c):=by
  rw [W5e,Xc1,Xc0,Xb3 k t,←h2]
  have L:=Xa5 k t
  exact (Laws.req L [a,(rat k c)] (.mul (.add (.v 0) (.neg (.v 1))) (.add (.v 1) (.v 0))) (.add (.mul (.v 0) (.v 0)) (.neg (.mul (.v 1) (.v 1)))) (by decide +kernel))
 have e1 : sgn k t (add k (rat k c) a)=1:=S.sp _ _ (by rw [Xdl hR,Xby hc]) h0
 have:=S.sm (add k a (neg k (rat k c))) (add k (rat k c) a)
 rw [e,e1,W4u,Xdl hR] at this
 exact this.symm
end
theorem Rt2.flo {x : Nm} (H : Rt2 x) {u h c d : Rat} {z : Int} (hu : 0<u) (hc : 0<c) (hd : 0<d) (h1 : c*u+h=(z : Rat)) (h2 : d*u+h=((z+1 : Int) : Rat)) (hl : 0≤Xhv (2 - c*c)) (hh : Xhv (2 - d*d)=-1) : Xbo x.k x.t (scl x.k x.t x.a u h) z:=by
 refine ⟨?_,?_⟩
 · unfold le;rw [Xto H.p.re hu h1,sg2 H.p.re H.s H.n hc];exact hl
 · rw [Xto H.p.re hu h2,sg2 H.p.re H.s H.n hd];exact hh
theorem Rt2.in {x : Nm} (H : Rt2 x) {c d : Rat} (hc : 0<c) (hd : 0<d) (hl : 0≤Xhv (2 - c*c)) (hh : Xhv (2 - d*d)≤0) : inI x.k x.t x.a c d:=by
 have L:=Xa5 x.k x.t
 refine ⟨?_,?_⟩
 · unfold le;rw [sg2 H.p.re H.s H.n hc];exact hl
 · have hs:=(Xaw H.p.re).sn (add x.k x.a (neg x.k (rat x.k d)))
   rw [L.nd,L.nn,L.ac,sg2 H.p.re H.s H.n hd] at hs
   unfold le;rw [hs];omega
theorem Xmm {x : Nm} {d : Nat} {z : Int} {s : List UInt8} (H : Pk x) (hd : d≤60) (hz : Xi8 x d z) (ht : txt z d=s) (hs : s.length≤400) : C0 12 [.d (dN x),.d (.int .i64 d)] (·=.tup (.pr (.d (.str s)) (.d (.int .i64 0)))) :=
 (Format_ok H hd).mono fun v ⟨w,hw,_,hv⟩=>by
  obtain rfl:=Xbo.uniq H.re hw hz
  subst ht
  rw [hv,Xor,if_pos hs]
theorem Yfy {x : Nm} {d : Nat} {z : Int} {s : List UInt8} (H : Pk x) (hd : d≤60) (hz : Xi8 x d z) (ht : txt z d=s) (hs : s.length≤400) (h0 : d≠0) : C0 14 [.d (dN x),.d (.int .i64 d)] (·=.tup (.pr (.d (.str (shT s))) (.d (.int .i64 0)))) :=
 (Short_ok H hd).mono fun v ⟨w,hw,_,hv⟩=>by
  obtain rfl:=Xbo.uniq H.re hw hz
  subst ht
  rw [hv,Xlx,if_pos hs,if_neg h0]
theorem Xlr {d : Nat} (l : List UInt8) (hl : l.length=d+1) (hd : ∀ b∈l,Xe9 b) : txt (Xbg l : Nat) d=pt d l:=by
 unfold txt
 rw [if_neg (by omega),W1g,Xoy d l hl hd];rfl
theorem Xl5 {q : Rat} {d : Nat} {z : Int} (h1 : 0≤Xhv (q*((10 ^ d : Int) : Rat)+hf+-(z : Rat))) (h2 : Xhv (q*((10 ^ d : Int) : Rat)+hf+-((z+1 : Int) : Rat))=-1) : Xi8 ⟨0,(),q⟩ d z:=⟨h1,h2⟩
theorem Xbd : C0 11 [] (·=.b true):=by
 have dg : ∀ l : List UInt8,l.all isD=true→∀ b∈l,Xe9 b:=fun l h=>Ymf.1 h
 have q1 : Pk ⟨0,(),Rat.divInt (-1) 2⟩:=Xrr (n:=2) ⟨show (Rat.divInt (-1) 2).num.natAbs<2 ^ 2 by decide,show ((Rat.divInt (-1) 2).den : Int).natAbs<2 ^ 2 by decide⟩ (by decide)
 have q2 : Pk ⟨0,(),Rat.divInt 5 4⟩:=Xrr (n:=3) ⟨show (Rat.divInt 5 4).num.natAbs<2 ^ 3 by decide,show ((Rat.divInt 5 4).den : Int).natAbs<2 ^ 3 by decide⟩ (by decide)
 have f2:=Xmm (d:=0) (z:=0) (s:=[48]) q1 (by decide) (Xl5 (by decide +kernel) (by decide +kernel)) (Xlr [48] rfl (dg _ rfl)) (by decide)
 have f3:=Xmm (d:=1) (z:=13) (s:=[49,46,51]) q2 (by decide) (Xl5 (by decide +kernel) (by decide +kernel)) (Xlr [49,51] rfl (dg _ rfl)) (by decide)
 have f4:=Xmm (d:=4) (z:=12500) (s:=[49,46,50,53,48,48]) q2 (by decide) (Xl5 (by decide +kernel) (by decide +kernel)) (Xlr [49,50,53,48,48] rfl (dg _ rfl)) (by decide)
 have f5:=Yfy (d:=4) (z:=12500) (s:=[49,46,50,53,48,48]) q2 (by decide) (Xl5 (by decide +kernel) (by decide +kernel)) (Xlr [49,50,53,48,48] rfl (dg _ rfl)) (by decide) (by decide)
 rw [show shT [49,46,50,53,48,48]=[49,46,50,53] by decide] at f5
 refine En Tryz.func11 fun _ _ _=>?_
 refine Ca rfl Xz4 fun v hv=>?_
 obtain ⟨x,y,rfl,hx⟩:=hv
 have f1:=Xmm (d:=3) (z:=1414) (s:=[49,46,52,49,52]) hx.p (by decide) (hx.flo (c:=2827 / 2000) (d:=2829 / 2000) (Xhm 3) (by decide +kernel) (by decide +kernel) (by decide +kernel) (by decide +kernel) (by decide +kernel) (by decide +kernel)) (Xlr [49,52,49,52] rfl (dg _ rfl)) (by decide)
 have hin : inI x.k x.t x.a (loQ false [49] [52]) (hiQ false [49] [52]):=by
  rw [show loQ false [49] [52]=27 / 20 by decide +kernel,show hiQ false [49] [52]=29 / 20 by decide +kernel]
  exact hx.in (by decide +kernel) (by decide +kernel) (by decide +kernel) (by decide +kernel)
 have hw:=Within_yes (s:=[49,46,52]) (a:=[49]) (b:=[52]) (ng:=false) hx.p (by decide) (by decide)
 refine Ce rfl Yiy ?_
 refine Ce rfl f1 ?_
 refine Ce rfl (R9.Frac_ok (a:=-1) (b:=2) (by decide) (by decide) (by decide)) ?_
 refine Ce rfl f2 ?_
 refine Ce rfl (R9.Frac_ok (a:=5) (b:=4) (by decide) (by decide) (by decide)) ?_
 refine Ce rfl f3 ?_
 refine Ce rfl (R9.Frac_ok (a:=5) (b:=4) (by decide) (by decide) (by decide)) ?_
 refine Ce rfl f4 ?_
 refine Ce rfl (R9.Frac_ok (a:=5) (b:=4) (by decide) (by decide) (by decide)) ?_
 refine Ce rfl f5 ?_
 refine Yes rfl rfl ?_
 refine Yes rfl (by decide) ?_
 refine Yes rfl rfl ?_
 refine Yes rfl (by decide) ?_
 refine Yes rfl rfl ?_
 refine Yes rfl (by decide) ?_
 refine Yes rfl rfl ?_
 refine Yes rfl (by decide) ?_
 refine Yes rfl rfl ?_
 refine Yes rfl (by decide) ?_
 refine Ce rfl hw ?_
 exact Rt rfl (.one (.rf rfl) rfl rfl) (by rw [dcT hin])
end
section
theorem Xvj {x : Nm} {ng : Bool} {a b : List UInt8} (hR : Xbh x.k x.t) (h : Xi8 x b.length (frI ng a b)) : inI x.k x.t x.a (loQ ng a b) (hiQ ng a b):=by
 have h0:=Xes b.length
 have e1 : loQ ng a b*((10 ^ b.length : Int) : Rat)=((frI ng a b : Int) : Rat) - hf:=by rw [loQ,Xij];grind
 have e2 : hiQ ng a b*((10 ^ b.length : Int) : Rat)=((frI ng a b : Int) : Rat)+1 - hf:=by
  have : (hf : Rat)+hf=1:=by decide +kernel
  rw [hiQ,Xij];grind
 obtain ⟨h1,h2⟩:=Xsc hR h
 exact ⟨(Xqz hR (Xhm _) e1).2 h1,(Xq4 hR (Xhm _) e2).2 h2⟩
theorem Xt1 {ng : Bool} {a b : List UInt8} : Xi8 ⟨0,(),fr ng a b⟩ b.length (frI ng a b):=by
 have h0:=Xes b.length
 have h2 : (hf : Rat)+hf=1:=by decide +kernel
 have e : fr ng a b*((10 ^ b.length : Int) : Rat)=((frI ng a b : Int) : Rat):=by rw [Xij];grind
 refine Xl5 ?_ ?_
 · rw [e,show ((frI ng a b : Int) : Rat)+hf+-((frI ng a b : Int) : Rat)=hf by grind];decide
 · rw [e,W4h,show ((frI ng a b : Int) : Rat)+hf+-(((frI ng a b : Int) : Rat)+((1 : Int) : Rat))=-hf by
    have : ((1 : Int) : Rat)=1:=rfl
    grind]
   decide
theorem Yjq (l : List UInt8) (n : Nat) : z0 (l++List.replicate n 48)=z0 l:=by unfold z0;simp
theorem Ycn {s a b : List UInt8} {ng : Bool} (h : prs s=some (ng,a,b)) (hb0 : b≠[]) : ∃ b' n,b=b'++List.replicate n 48∧prs (shT s)=some (ng,a,b'):=by
 obtain ⟨h1,h2,h3,h4,h5⟩:=Xdq h
 obtain ⟨c1,c2⟩:=Xug h
 obtain ⟨n,hn⟩:=Yad b
 obtain ⟨b',hb'⟩ : ∃ b',b'=trR 48 b:=⟨_,rfl⟩
 rw [←hb'] at hn
 have hd' : b'.all isD=true:=by rw [hn,W4r,W0d] at h5;exact h5.1
 have hpt : ptB b=46::b:=by unfold ptB;rw [if_neg hb0]
 have ht : trR 48 s=sgB ng++(a++46::b'):=by
  have e : trR 48 (46::b)=46::b':=by rw [Xxm (by decide),hb']
  rw [h2,hpt,←W2q,Yb6 (by rw [e];simp),e,W2q]
 have hsh : shT s=sgB ng++(a++ptB b'):=by
  by_cases hb0' : b'=[]
  · subst hb0'
    rw [Xtn (l:=sgB ng++a) (y:=46) (by rw [ht];simp),if_pos rfl];simp [ptB]
  · obtain ⟨l,y,rfl⟩ : ∃ l y,b'=l++[y]:=⟨b'.dropLast,b'.getLast hb0',(W6t hb0').symm⟩
    have hy : y≠46:=fun e=>by
     rw [W4r,W0d] at hd'
     rw [e] at hd';exact absurd hd'.2 (by decide)
    rw [Xtn (l:=sgB ng++(a++46::l)) (y:=y) (by rw [ht];simp),if_neg hy]
    unfold ptB;rw [if_neg hb0'];simp
 have hz : (ng && z0 (a++b'))=false:=by rw [hn,←W2q,Yjq] at c2;exact c2
 have hl : (shT s).length≤400:=by
  have e1:=congrArg List.length hsh
  have e2:=congrArg List.length h2
  have e3:=congrArg List.length hn
  have e4 : (ptB b').length≤b'.length+1:=by unfold ptB;split;exact W1c _;exact W0b _
  rw [hpt] at e2
  simp only [W0c,W0n] at e1 e2 e3
  omega
 exact ⟨b',n,hn,Yaz hl hsh h3 c1 h4 hd' hz⟩
end
section
theorem Xw8 {x y : Rat} {p : Nat} (hx : Qs p x) (hp : p≤8796093022208) : C0 27 [.d (dq x),.d (dq y)] (·=.b (dc (x=y))):=by
 have h1:=hx.n.len hp
 have h2:=hx.d.len hp
 refine En Tryz.func27 fun _ _ _=>?_
 refine Ce rfl (R2.SameInt_ok (z:=x.num) (w:=y.num) (by omega)) ?_
 refine By rfl (fun h=>?_) fun h=>?_
 · refine Ce rfl (R2.SameInt_ok (z:=(x.den : Int)) (w:=(y.den : Int)) (by omega)) ?_
   exact R1 rfl (.bp (Xau.trans ⟨fun e=>Rat.ext h (by omega),fun e=>by rw [e]⟩))
 · exact R1 rfl (.bp ⟨nofun,fun e=>absurd (by rw [e]) h⟩)
theorem DecimalFloor_ok {ops : List RO} {i : Nat} {d : Int} (hi : i<256) (hd : -9223372036854775808≤d∧d<9223372036854775808) : C0 5 [.d (dRs ops),.d (.int .u8 i),.d (.int .i64 d)] (·=.b true):=by
 refine En Tryz.func5 fun _ _ _=>?_
 refine Ca rfl (Xf6 hi) fun v hv=>?_
 obtain ⟨x,c,rfl,H⟩:=hv
 refine Ce rfl Xbd ?_
 refine No rfl (by simp) ?_
 refine By rfl (fun h=>?_) fun h=>?_
 · refine Ce rfl Xbd ?_
   exact R0
 by_cases h60 : 0≤d∧d≤60
 · obtain ⟨n,rfl⟩ : ∃ n : Nat,d=n:=⟨d.toNat,by omega⟩
   have hn : n≤60:=by omega
   refine Ca rfl (P11.Floor_ok H hn) fun v hv=>?_
   obtain ⟨z,rfl,hz,hzl⟩:=hv
   refine Ca rfl (R11.Floor_ok H hn) fun v hv=>?_
   obtain ⟨w,rfl,hw⟩:=hv
   obtain rfl:=Xbo.uniq H.re hw hz
   refine Ca rfl (P11.Round_ok H hn) fun v hv=>?_
   obtain ⟨z',rfl,hz',hzl'⟩:=hv
   refine Ca rfl (R11.Round_ok H hn) fun v hv=>?_
   obtain ⟨w',rfl,hw'⟩:=hv
   obtain rfl:=Xbo.uniq H.re hw' hz'
   refine Yes rfl rfl ?_
   refine Yes rfl rfl ?_
   refine Ce rfl (R2.SameInt_ok (by omega)) ?_
   refine Yes rfl rfl ?_
   refine Ce rfl (R2.SameInt_ok (by omega)) ?_
   exact Rt rfl (.one (.rf rfl) rfl rfl) (by rw [dcT rfl])
 · have hz0 : (dig (Int.natAbs 0)).length≤549755813888:=by rw [show Int.natAbs 0=0 from rfl,Xaj];decide
   refine Ce rfl (P11.Floor_no h60) ?_
   refine Ce rfl (R11.Floor_no h60) ?_
   refine Ce rfl (P11.Round_no h60) ?_
   refine Ce rfl (R11.Round_no h60) ?_
   refine Yes rfl rfl ?_
   refine Yes rfl rfl ?_
   refine Ce rfl (R2.SameInt_ok (z:=0) (w:=0) hz0) ?_
   refine Yes rfl rfl ?_
   refine Ce rfl (R2.SameInt_ok (z:=0) (w:=0) hz0) ?_
   exact Rt rfl (.one (.rf rfl) rfl rfl) (by rw [dcT rfl])
theorem DecimalFormat_ok {ops : List RO} {i : Nat} {d : Int} (hi : i<256) (hd : -9223372036854775808≤d∧d<9223372036854775808) : C0 3 [.d (dRs ops),.d (.int .u8 i),.d (.int .i64 d)] (·=.b true):=by
 refine En Tryz.func3 fun _ _ _=>?_
 refine Ca rfl (Xf6 hi) fun v hv=>?_
 obtain ⟨x,c,rfl,H⟩:=hv
 refine Ce rfl Xbd ?_
 refine No rfl (by simp) ?_
 refine By rfl (fun h=>?_) fun h=>?_
 · refine Ce rfl Xbd ?_
   exact R0
 by_cases h60 : 0≤d∧d≤60
 · obtain ⟨n,rfl⟩ : ∃ n : Nat,d=n:=⟨d.toNat,by omega⟩
   have hn : n≤60:=by omega
   refine Ca rfl (P11.Format_ok H hn) fun v hv=>?_
   obtain ⟨z,hz,hzl,rfl⟩:=hv
   obtain ⟨s,e,hs⟩ : ∃ s e,Xor z n=.tup (.pr (.d (.str s)) (.d (.int .i64 e))):=by unfold Xor;split <;> exact ⟨_,_,rfl⟩
   obtain ⟨s',e',hs'⟩ : ∃ s e,Xlx z n=.tup (.pr (.d (.str s)) (.d (.int .i64 e))):=by unfold Xlx;split <;> exact ⟨_,_,rfl⟩
   have hf:=R11.Format_ok H hn hz hzl
   have hr:=R11.Short_ok H hn hz hzl
   have hp : C0 14 [.d (dN x),.d (.int .i64 n)] (·=Xlx z n):=(P11.Short_ok H hn).mono fun v ⟨w,hw,_,hv⟩=>by obtain rfl:=Xbo.uniq H.re hw hz;exact hv
   rw [hs] at hf ⊢
   rw [hs'] at hr hp
   refine Ce rfl hf ?_
   refine Ce rfl hp ?_
   refine Ce rfl hr ?_
   refine Yes rfl rfl ?_
   refine Yes rfl rfl ?_
   refine Yes rfl rfl ?_
   exact Rt rfl (.one (.rf rfl) rfl rfl) (by rw [dcT rfl])
 · refine Ce rfl (P11.Format_no h60) ?_
   refine Ce rfl (R11.Format_no h60) ?_
   refine Ce rfl (P11.Short_no h60) ?_
   refine Ce rfl (R11.Short_no h60) ?_
   refine Yes rfl rfl ?_
   refine Yes rfl rfl ?_
   refine Yes rfl rfl ?_
   exact Rt rfl (.one (.rf rfl) rfl rfl) (by rw [dcT rfl])
theorem DecimalParse_ok {s : List UInt8} (hs : s.length<9223372036854775808) : C0 7 [.d (.str s)] (·=.b true):=by
 refine En Tryz.func7 fun _ _ _=>?_
 refine Ce rfl Xbd ?_
 refine No rfl (by simp) ?_
 refine By rfl (fun h=>?_) fun h=>?_
 · refine Ce rfl Xbd ?_
   exact R0
 have hT : Tx s:=by show s.length<_;omega
 cases hp : prs s with
 | none =>
  refine Ce rfl (P11.Parse_no hT hp) ?_
  refine Ce rfl (R11.Parse_no hT hp) ?_
  refine Yes rfl rfl ?_
  refine No rfl (by decide) ?_
  refine Yes rfl (by decide) ?_
  refine Ar (0 : Nat) rfl ?_ (show arB .add .i64 0 0 0 from wr rfl (by simp only [inK];decide))
  exact Rt rfl (.one (.rf rfl) rfl rfl) (by rw [dcT (p:=((0 : Nat) : Int)=0) rfl])
 | some q =>
  obtain ⟨ng,a,b⟩:=q
  refine Ce rfl (P11.Parse_yes hT hp) ?_
  refine Ce rfl (R11.Parse_yes hT hp) ?_
  refine Yes rfl rfl ?_
  refine Yes rfl rfl ?_
  refine Ce rfl (Xw8 (Xoq hp) (by decide)) ?_
  refine Yes rfl rfl ?_
  exact R0
theorem DecimalWithin_ok {ops : List RO} {i : Nat} {s : List UInt8} (hi : i<256) (hs : s.length<9223372036854775808) : C0 4 [.d (dRs ops),.d (.int .u8 i),.d (.str s)] (·=.b true):=by
 refine En Tryz.func4 fun _ _ _=>?_
 refine Ca rfl (Xf6 hi) fun v hv=>?_
 obtain ⟨x,c,rfl,H⟩:=hv
 refine Ce rfl Xbd ?_
 refine No rfl (by simp) ?_
 refine By rfl (fun h=>?_) fun h=>?_
 · refine Ce rfl Xbd ?_
   exact R0
 refine By rfl (fun h=>?_) fun h=>?_
 · refine Ce rfl Xbd ?_
   exact R0
 have hT : Tx s:=by show s.length<_;omega
 refine Dw rfl ?_
 cases hp : prs s with
 | none =>
  refine Ce rfl (P11.Within_no hT hp) ?_
  refine Ce rfl (R11.Within_no hT hp) ?_
  exact Rt rfl (.one (.rf rfl) rfl rfl) (by rw [dcT Iff.rfl])
 | some q =>
  obtain ⟨ng,a,b⟩:=q
  refine Ce rfl (P11.Within_yes H hT hp) ?_
  refine Ce rfl (R11.Within_yes H hT hp) ?_
  exact Rt rfl (.one (.rf rfl) rfl rfl) (by rw [dcT Iff.rfl])
theorem Xpc {s : List UInt8} (hs : s.length<9223372036854775808) (h : 400<s.length) : C0 28 [.d (.str s)] (·=.d (.int .i64 (-1))):=by
 refine En Tryz.func28 fun _ _ _=>?_
 refine Yes rfl (by omega) ?_
 exact R0
theorem Xgg {s : List UInt8} (hs : s.length<9223372036854775808) : C0 28 [.d (.str s)] (·=.d (.int .i64 (plc s))):=by
 by_cases h : 400<s.length
 · rw [show plc s=-1 by unfold plc prs;rw [if_pos h]]
   exact Xpc hs h
 · exact Xfv (show s.length<_ by omega)
theorem DecimalNearest_ok {ops : List RO} {i d : Nat} (hi : i<256) (hd : d<256) : C0 8 [.d (dRs ops),.d (.int .u8 i),.d (.int .u8 d)] (·=.b true):=by
 refine En Tryz.func8 fun _ _ _=>?_
 refine Ca rfl (Xf6 hi) fun v hv=>?_
 obtain ⟨x,c,rfl,H⟩:=hv
 refine Ce rfl Xbd ?_
 refine No rfl (by simp) ?_
 refine By rfl (fun h=>?_) fun h=>?_
 · refine Ce rfl Xbd ?_
   exact R0
 refine By rfl (fun h6=>?_) fun h6=>?_
 · refine Ce rfl Xbd ?_
   exact R0
 have hd60 : d≤60:=by omega
 refine Cv (d : Nat) rfl ?_ (wI (by omega))
 refine Ca rfl (P11.Format_ok H hd60) fun v hv=>?_
 obtain ⟨z,hz,hzl,rfl⟩:=hv
 have hp : C0 14 [.d (dN x),.d (.int .i64 d)] (·=Xlx z d):=(P11.Short_ok H hd60).mono fun v ⟨w,hw,_,hv⟩=>by obtain rfl:=Xbo.uniq H.re hw hz;exact hv
 by_cases hl : (txt z d).length≤400
 · obtain ⟨a,b,h1,h2,h3,h4,h5,h6,h7⟩:=Yc1 hl
   obtain ⟨s,hs⟩ : ∃ s,s=txt z d:=⟨_,rfl⟩
   obtain ⟨s',hs'⟩ : ∃ s',s'=if d=0 then txt z d else shT (txt z d):=⟨_,rfl⟩
   have hsh : ∃ b' n,b=b'++List.replicate n 48∧prs s'=some (decide (z<0),a,b'):=by
    by_cases h0 : d=0
    · exact ⟨b,0,by simp,by rw [hs',if_pos h0];exact h1⟩
    · obtain ⟨b',n,k1,k2⟩:=Ycn h1 (fun e=>h0 (by rw [←h2,e];rfl))
      exact ⟨b',n,k1,by rw [hs',if_neg h0];exact k2⟩
   obtain ⟨b',n,hbn,hp'⟩:=hsh
   have hfr:=Ykt (ng:=decide (z<0)) (a:=a) hbn
   have hb' : b'.length≤d:=by have:=congrArg List.length hbn;rw [W0c] at this;omega
   have hfi : frI (decide (z<0)) a b=z:=by
    unfold frI
    by_cases h0 : z<0
    · rw [if_pos (decide_eq_true h0),h3];omega
    · rw [if_neg (by simpa using h0),h3];omega
   have hin : inI x.k x.t x.a (loQ (decide (z<0)) a b) (hiQ (decide (z<0)) a b):=Xvj H.re (by rw [hfi,h2];exact hz)
   rw [Xlx,if_pos hl,←hs'] at hp
   rw [Xor,if_pos hl]
   rw [←hs] at hl h1 ⊢
   have hT : Tx s:=by show s.length<_;omega
   have hT' : Tx s':=by have:=(Xdq hp').1;show s'.length<_;omega
   have hpl : plc s=b.length:=by unfold plc;rw [h1]
   have hpl' : plc s'=b'.length:=by unfold plc;rw [hp']
   refine Cv (d : Nat) rfl ?_ (wI (by omega))
   refine Ce rfl hp ?_
   refine No rfl (by decide) ?_
   refine Ce rfl (P11.Parse_yes hT h1) ?_
   refine Ce rfl (P11.Parse_yes hT' hp') ?_
   refine Yes rfl rfl ?_
   refine Yes rfl rfl ?_
   refine Yes rfl rfl ?_
   refine Yes rfl rfl ?_
   refine Ce rfl (Xw8 (Xoq h1) (by decide)) ?_
   refine Yes rfl hfr ?_
   refine Ce rfl (R11.Within_yes H hT h1) ?_
   refine Yes rfl hin ?_
   refine Ce rfl (P11.Within_yes H hT h1) ?_
   refine Yes rfl hin ?_
   refine Ce rfl (Xgg (by omega)) ?_
   refine Cv (d : Nat) rfl ?_ (wI (by omega))
   refine Yes rfl (by rw [hpl,h2]) ?_
   refine Ce rfl (Xgg (show s'.length<_ from Nat.lt_trans hT' (by decide))) ?_
   refine Cv (d : Nat) rfl ?_ (wI (by omega))
   exact Rt rfl (.one (.rf rfl) rfl rfl) (by rw [dcT (show plc s'≤(d : Int) by rw [hpl'];omega)])
 · rw [Xlx,if_neg hl] at hp
   rw [Xor,if_neg hl]
   refine Cv (d : Nat) rfl ?_ (wI (by omega))
   refine Ce rfl hp ?_
   refine Yes rfl rfl ?_
   refine Yes rfl rfl ?_
   exact R0
theorem DecimalRestores_ok {s : List UInt8} (hs : s.length<9223372036854775808) : C0 9 [.d (.str s)] (·=.b true):=by
 refine En Tryz.func9 fun _ _ _=>?_
 refine Ce rfl (Xgg hs) ?_
 refine Ce rfl Xbd ?_
 refine No rfl (by simp) ?_
 cases hp : prs s with
 | none =>
  have hpl : plc s=-1:=by unfold plc;rw [hp]
  refine Yes rfl (by omega) ?_
  refine Ce rfl Xbd ?_
  exact R0
 | some q =>
  obtain ⟨ng,a,b⟩:=q
  have hpl : plc s=b.length:=by unfold plc;rw [hp]
  have hsl:=(Xdq hp).1
  have hT : Tx s:=by show s.length<_;omega
  refine No rfl (by omega) ?_
  refine By rfl (fun h=>?_) fun h=>?_
  · refine Ce rfl Xbd ?_
    exact R0
  have hb : b.length≤60:=by omega
  have H : Pk ⟨0,(),fr ng a b⟩:=Xrr (Xoq hp) (by decide)
  have hin : inI 0 () (fr ng a b) (loQ ng a b) (hiQ ng a b):=Xvj (x:=⟨0,(),fr ng a b⟩) trivial Xt1
  refine Ce rfl (P11.Parse_yes hT hp) ?_
  refine No rfl (by decide) ?_
  refine Ce rfl (R2.Valid_ok (Xoq hp) (by decide)) ?_
  refine No rfl (by simp) ?_
  refine Ce rfl R9.FromRat_ok ?_
  refine Ce rfl (show C0 _ [.d (dN ⟨0,(),fr ng a b⟩),.d (.int .i64 (plc s))] (·=.tup (.pr (.d (.str s)) (.d (.int .i64 0)))) by rw [hpl];exact Xmm H hb Xt1 (Yb4 hp) hsl) ?_
  refine Yes rfl rfl ?_
  refine Yes rfl rfl ?_
  refine Ce rfl R9.FromRat_ok ?_
  refine Ce rfl (P11.Within_yes (x:=⟨0,(),fr ng a b⟩) H hT hp) ?_
  exact Rt rfl (.one (.rf rfl) rfl rfl) (by rw [dcT hin])
end
end Go.Proofs.YtjcejnjhfcbafaaGreatDoor.P11

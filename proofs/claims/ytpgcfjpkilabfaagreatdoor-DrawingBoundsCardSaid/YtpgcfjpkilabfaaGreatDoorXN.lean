/- part 4 -/
import Derived.Test.YtpgcfjpkilabfaaGreatDoorXM
set_option linter.unusedVariables false
set_option linter.unusedSimpArgs false
set_option maxRecDepth 10000
namespace Go.Proofs.YtpgcfjpkilabfaaGreatDoor.R1
open Go Go.Vm Go.Num Go.Proofs.YtpgcfjpkilabfaaGreatDoor
section
theorem trim_ok {l : List Nat} (hw : Xal l) (hl : l.length≤1099511627776) : C0 191 [.d (ws l)] (·=.d (ws (dig (val l)))):=by
 refine En Tryz.func191 fun _ _ _=>?_
 refine Lo (fun k=>[(0,.d (ws (l.take k)))]) (fun _=>[]) (fun k=>k≤l.length∧val (l.take k)=val l) id l.length [] rfl ⟨W0c _,by rw [W2b]⟩ (fun k ⟨hk,hv⟩=>?_) (hf:=⟨by simp only [W2b];rfl,rfl,rfl,rfl,rfl⟩)
 refine By rfl (fun h=>?_) fun h=>?_ <;> simp only [W0i,W0j,W2c hk] at h
 · have hl : ((l.take k).map wd).length=k:=by simp;omega
   refine Ar (k - 1 : Nat) rfl ?_
   have hx:=W0b (l:=l) (i:=k - 1) (by omega)
   refine Ix (k - 1) rfl (u:=wd l[k - 1]) (mp (by rw [W1i,if_pos (by omega),hx])) ?_
   have hs:=Xac hx
   rw [show k - 1+1=k by omega,hv] at hs
   refine By rfl (fun h0=>?_) fun h0=>?_
   · refine Ar (k - 1 : Nat) rfl ?_
     refine Tk (k - 1) ((l.take (k - 1)).map wd) rfl rfl (by simp;omega) (by rw [←W2w,List.take_take,W2c (by omega)]) ?_
     exact Bk (k - 1) [] rfl ⟨by omega,by rw [hs,show l[k - 1]=0 by omega,W2z,W2n]⟩ (show k - 1<k by omega)
   · exact R1 rfl (.eq (by rw [←hv,Xd9 (hw.take k) (.inr ⟨l[k - 1],by rw [W0j,W2c hk,W1i,if_pos (by omega),hx],fun e=>h0 (by rw [e];rfl)⟩)]))
 · refine R1 rfl (.eq ?_)
   rw [show k=0 by omega] at hv ⊢
   rw [←hv,W7o,val,Xai]
theorem trim_dig_ok {n : Nat} (h : (dig n).length≤1099511627776) : C0 191 [.d (ws (dig n))] (·=.d (ws (dig n))):=by
 have:=trim_ok (Xad n) h
 rwa [Xaf] at this
theorem Xco {n : Nat} (h : n<18446744073709551616) : C0 111 [.d (.int .u64 n)] (·=.d (ws (dig n))):=by
 refine En Tryz.func111 fun _ _ _=>?_
 refine Go.Vm.Cv (n % 4294967296 : Nat) rfl ?_ (hr:=by rw [wWm];omega)
 refine Ar (n / 4294967296 : Nat) rfl ?_ (hr:=show _∧_ from ⟨by omega,Ygs n⟩)
 refine Go.Vm.Cv (n / 4294967296 : Nat) rfl ?_
 refine Ce rfl (trim_ok (l:=[n % 4294967296,n / 4294967296]) (.cons (by omega) (.cons (by omega) .nil)) (by simp)) ?_
 exact R1 rfl (.eq (by rw [show val [n % 4294967296,n / 4294967296]=n by simp only [val];omega]))
theorem Xpa {b : Bool} {l : List Nat} (hw : Xal l) (h : l.length≤1099511627776) : C0 110 [.d (.bool b),.d (ws l)] (·=.d (dz (sg b (val l)))):=by
 rw [←Yiy]
 refine C.nb (show C0 _ [.b b,.d (ws l)] _ from ?_)
 obtain ⟨n,hn⟩ : ∃ n,n=val l:=⟨_,rfl⟩
 refine En Tryz.func110 fun _ _ _=>?_
 refine Ce rfl (trim_ok hw h) ?_
 rw [←hn]
 cases b with
 | true =>
  refine Yes rfl rfl ?_
  exact R1 rfl (by exact .sd (.pd (.bd (by
   rw [W3t,Xan,W0g,bne_iff_ne,lw]
   have:=@Xrz n
   rw [←W4g] at this
   simp;omega)) (.rf rfl)))
 | false =>
  refine No rfl (by nofun) ?_
  exact R1 rfl (by exact .sd (.pd (.bd rfl) (.rf rfl)))
theorem Xak {b : Bool} {n : Nat} (h : (dig n).length≤1099511627776) : C0 110 [.d (.bool b),.d (ws (dig n))] (·=.d (dz (sg b n))):=by
 have:=Xpa (b:=b) (Xad n) h
 rwa [Xaf] at this
theorem FromInt_ok {z : Int} (h : -9223372036854775808≤z∧z<9223372036854775808) : C0 50 [.d (.int .i64 z)] (·=.d (dz z)):=by
 have hl : (dig z.natAbs).length≤2:=Xap (by omega)
 refine En Tryz.func50 fun _ _ _=>?_
 refine By rfl (fun h=>?_) fun h=>?_
 · refine Go.Vm.Cv (z % 18446744073709551616) rfl ?_ (hr:=wUm _)
   refine Ne (z.natAbs : Int) rfl ?_ (hr:=by rw [wUm];omega)
   refine Ce rfl (Xco (n:=z.natAbs) (by omega)) ?_
   refine Ce rfl (Xak (n:=z.natAbs) (by omega)) ?_
   exact R1 rfl (.eq (by rw [show sg true z.natAbs=z by unfold sg;rw [if_pos rfl];omega]))
 · refine Go.Vm.Cv (z.natAbs : Int) rfl ?_ (hr:=by rw [wUm];omega)
   refine Ce rfl (Xco (n:=z.natAbs) (by omega)) ?_
   refine Ce rfl (Xak (n:=z.natAbs) (by omega)) ?_
   exact R1 rfl (.eq (by rw [show sg false z.natAbs=z by unfold sg;rw [if_neg nofun];omega]))
theorem Norm_ok {z : Int} (h : (dig z.natAbs).length≤1099511627776) : C0 165 [.d (dz z)] (·=.d (dz z)):=by
 refine En Tryz.func165 fun _ _ _=>?_
 refine Ce rfl (Xak (n:=z.natAbs) h) ?_
 exact R1 rfl (.eq (by rw [Xpf]))
theorem Sign_ok {z : Int} (h : (dig z.natAbs).length≤1099511627776) : C0 162 [.d (dz z)] (·=.d (.int .i64 (Xa1 z 0))):=by
 refine En Tryz.func162 fun _ _ _=>?_
 refine Ce rfl (Norm_ok h) ?_
 refine By rfl (fun h=>?_) fun h=>?_ <;> simp only [lw] at h
 · have:=Xrz.1 (W0l (by omega : (dig z.natAbs).length=0))
   exact R1 rfl (.eq (by rw [show z=0 by omega];rfl))
 · have hz : z≠0:=fun e=>h (by rw [e];simp [Xai])
   refine By rfl (fun h1=>?_) fun h1=>?_
   · exact R1 rfl (.eq (by rw [Xa1,if_pos h1]))
   · exact R1 rfl (.eq (by rw [Xa1,if_neg h1,if_pos (by omega)]))
theorem Xbt {x y : Nat} (hx : (dig x).length≤1099511627776) : C0 248 [.d (ws (dig x)),.d (ws (dig y))] (·=.d (.int .i64 (Xa1 x y))):=by
 refine En Tryz.func248 fun _ _ _=>?_
 refine By rfl (fun h=>?_) fun h=>?_ <;> simp only [lw] at h
 · refine By rfl (fun h1=>?_) fun h1=>?_ <;> simp only [lw] at h1
   · have:=Xdc (m:=x) (n:=y) (by omega)
     exact R1 rfl (.eq (by rw [Xa1,if_pos (by omega)]))
   · have:=Xdc (m:=y) (n:=x) (by omega)
     exact R1 rfl (.eq (by rw [Xa1,if_neg (by omega),if_pos (by omega)]))
 · refine Ar ((dig x).length - 1 : Int) rfl ?_ (wr (by simp only [lw]) (by simp only [inK];omega))
   refine Lo (fun (k : Nat)=>[(0,.d (ws (dig x))),(1,.d (ws (dig y))),(5,.d (.int .i64 ((k : Int) - 1)))]) (fun _=>[]) (fun k=>k≤(dig x).length∧(dig x).drop k=(dig y).drop k) (fun k=>k) (dig x).length [] rfl ⟨by omega,by rw [W1x (by omega),W1x (by omega)]⟩ fun k ⟨hk,hd⟩=>?_
   refine By rfl (fun h1=>?_) fun h1=>?_
   · obtain ⟨u,hu⟩:=xat (l:=dig x) (k:=k - 1) (by omega)
     obtain ⟨v,hv⟩:=xat (l:=dig y) (k:=k - 1) (by omega)
     have hd' : (dig x).drop (k - 1+1)=(dig y).drop (k - 1+1):=by rw [show k - 1+1=k from by omega];exact hd
     refine Dw rfl ?_
     refine Ix (k - 1) rfl (mp hu) ?_
     refine Ix (k - 1) rfl (mp hv) ?_
     refine By rfl (fun h2=>?_) fun h2=>?_
     · have:=Xi0 (Xad x) (by omega) (by omega) hu hv hd' (by omega)
       rw [Xaf,Xaf] at this
       exact R1 rfl (.eq (by rw [Xa1,if_pos (by omega)]))
     · refine Dw rfl ?_
       refine Ix (k - 1) rfl (mp hu) ?_
       refine Ix (k - 1) rfl (mp hv) ?_
       refine By rfl (fun h3=>?_) fun h3=>?_
       · have:=Xi0 (Xad y) (by omega) (by omega) hv hu hd'.symm (by omega)
         rw [Xaf,Xaf] at this
         exact R1 rfl (.eq (by rw [Xa1,if_neg (by omega),if_pos (by omega)]))
       · refine Ar ((k - 1 : Nat) - 1 : Int) rfl ?_
         refine Bk (k - 1) [] rfl ⟨by omega,?_⟩ (by show k - 1<k;omega)
         have huv : u=v:=by omega
         rw [W3a (l:=dig x) (i:=k - 1) (by omega),W3a (l:=dig y) (i:=k - 1) (by omega),show k - 1+1=k from by omega,hd]
         rw [W0b (by omega)] at hu hv
         injection hu with hu
         injection hv with hv
         rw [hu,hv,huv]
   · have hk0 : k=0:=by omega
     rw [hk0,W1b,W1b] at hd
     have hxy : x=y:=by rw [←Xaf x,hd,Xaf]
     exact R1 rfl (.eq (by rw [hxy,Xa1,if_neg (by omega),if_neg (by omega)]))
end
section
theorem dtk {l : List Nat} {q m k : Nat} (h : k<m) : ((l.drop q).take m)[k]?=l[q+k]?:=by rw [W1i,if_pos h,W2m]
theorem Xxe {l : List Nat} {q m : Nat} (h : q+m≤l.length) : ((l.drop q).take m).length=m:=by rw [W0j,W2e];omega
theorem Xgw {q n : Nat} {l : List Nat} (hw : Xal l) (hq : q+n≤l.length) (hl : n≤1099511627776) : CN0 191 [.own 1000001 1 q n] [(1000001,.arr 1 (l.map wd))] fun v=>∃ k,k≤n∧v=.own 1000001 1 q k∧(l.drop q).take k=dig (val ((l.drop q).take n)):=by
 refine EnW Tryz.func191 fun _ _ _ _=>?_
 refine Lo (fun k=>[(0,.own 1000001 1 q k)]) (fun _=>[(1000001,.arr 1 (l.map wd))]) (fun k=>k≤n∧val ((l.drop q).take k)=val ((l.drop q).take n)) id n [] rfl ⟨W0c _,rfl⟩ fun k ⟨hk,hv⟩=>?_
 have hwk:=(hw.drop q).take k
 refine By rfl (fun h=>?_) fun h=>?_
 · obtain ⟨u,hu⟩:=xat (l:=l) (k:=q+(k - 1)) (by omega)
   have hs:=Xac (l:=l.drop q) (k:=k - 1) (x:=u) (by rw [W2m];exact hu)
   rw [show k - 1+1=k by omega,hv] at hs
   refine Ar (k - 1 : Nat) rfl ?_
   refine El (k - 1) rfl (by omega) ?_
   refine Ld (wd u) rfl (mp hu) ?_
   refine By rfl (fun h0=>?_) fun h0=>?_
   · refine Ar (k - 1 : Nat) rfl ?_
     refine Sw 0 (k - 1) rfl (by omega) (by omega) ?_
     exact Bk (k - 1) [] rfl ⟨by omega,by rw [hs,show u=0 by omega,W2z,W2n]⟩ (show k - 1<k by omega)
   · exact Rw [] [(1000001,.arr 1 (l.map wd))] rfl (.one (.rf rfl) rfl rfl) ⟨rfl,k,hk,rfl,by rw [←hv,Xd9 hwk (.inr ⟨u,by rw [Xxe (by omega),dtk (by omega)];exact hu,fun e=>h0 (by rw [e];rfl)⟩)]⟩
 · refine Rw [] [(1000001,.arr 1 (l.map wd))] rfl (.one (.rf rfl) rfl rfl) ⟨rfl,k,hk,rfl,?_⟩
   rw [show k=0 by omega] at hv ⊢
   rw [←hv,W7o,val,Xai]
theorem Xod {x y q m : Nat} {l : List Nat} (hq : q+m≤l.length) (hl : (l.drop q).take m=dig x) (hx : (dig x).length≤1099511627776) : CN0 248 [.own 1000001 1 q m,.d (ws (dig y))] [(1000001,.arr 1 (l.map wd))] (·=.d (.int .i64 (Xa1 x y))):=by
 have hm : (dig x).length=m:=by rw [←hl,Xxe hq]
 rw [hm] at hx
 have hg : ∀ {k u : Nat},(dig x)[k]?=some u→k<m→l[q+k]?=some u:=fun h hk=>by rw [←hl,dtk hk] at h;exact h
 refine EnW Tryz.func248 fun _ _ _ _=>?_
 refine By rfl (fun h=>?_) fun h=>?_ <;> simp only [lw] at h
 · refine By rfl (fun h1=>?_) fun h1=>?_ <;> simp only [lw] at h1
   · have:=Xdc (m:=x) (n:=y) (by omega)
     exact Rw [] [(1000001,.arr 1 (l.map wd))] rfl (.one (.rf rfl) rfl rfl) ⟨rfl,congrArg AV.d (congrArg (D.int .i64) (by rw [Xa1,if_pos (by omega)]))⟩
   · have:=Xdc (m:=y) (n:=x) (by omega)
     exact Rw [] [(1000001,.arr 1 (l.map wd))] rfl (.one (.rf rfl) rfl rfl) ⟨rfl,congrArg AV.d (congrArg (D.int .i64) (by rw [Xa1,if_neg (by omega),if_pos (by omega)]))⟩
 · refine Ar (m - 1 : Int) rfl ?_
   refine Lo (fun (k : Nat)=>[(0,.own 1000001 1 q m),(1,.d (ws (dig y))),(5,.d (.int .i64 ((k : Int) - 1)))]) (fun _=>[(1000001,.arr 1 (l.map wd))]) (fun k=>k≤m∧(dig x).drop k=(dig y).drop k) (fun k=>k) m [] rfl ⟨by omega,by rw [W1x (by omega),W1x (by omega)]⟩ fun k ⟨hk,hd⟩=>?_
   refine By rfl (fun h1=>?_) fun h1=>?_
   · obtain ⟨u,hu⟩:=xat (l:=dig x) (k:=k - 1) (by omega)
     obtain ⟨v,hv⟩:=xat (l:=dig y) (k:=k - 1) (by omega)
     have hd' : (dig x).drop (k - 1+1)=(dig y).drop (k - 1+1):=by rw [show k - 1+1=k from by omega];exact hd
     refine Dw rfl ?_
     refine El (k - 1) rfl (by omega) ?_
     refine Ld (wd u) rfl (mp (hg hu (by omega))) ?_
     refine Ix (k - 1) rfl (mp hv) ?_
     refine By rfl (fun h2=>?_) fun h2=>?_
     · have:=Xi0 (Xad x) (by omega) (by omega) hu hv hd' (by omega)
       rw [Xaf,Xaf] at this
       exact Rw [] [(1000001,.arr 1 (l.map wd))] rfl (.one (.rf rfl) rfl rfl) ⟨rfl,congrArg AV.d (congrArg (D.int .i64) (by rw [Xa1,if_pos (by omega)]))⟩
     · refine Dw rfl ?_
       refine El (k - 1) rfl (by omega) ?_
       refine Ld (wd u) rfl (mp (hg hu (by omega))) ?_
       refine Ix (k - 1) rfl (mp hv) ?_
       refine By rfl (fun h3=>?_) fun h3=>?_
       · have:=Xi0 (Xad y) (by omega) (by omega) hv hu hd'.symm (by omega)
         rw [Xaf,Xaf] at this
         exact Rw [] [(1000001,.arr 1 (l.map wd))] rfl (.one (.rf rfl) rfl rfl) ⟨rfl,congrArg AV.d (congrArg (D.int .i64) (by rw [Xa1,if_neg (by omega),if_pos (by omega)]))⟩
       · refine Ar ((k - 1 : Nat) - 1 : Int) rfl ?_
         refine Bk (k - 1) [] rfl ⟨by omega,?_⟩ (by show k - 1<k;omega)
         have huv : u=v:=by omega
         rw [W3a (l:=dig x) (i:=k - 1) (by omega),W3a (l:=dig y) (i:=k - 1) (by omega),show k - 1+1=k from by omega,hd]
         rw [W0b (by omega)] at hu hv
         injection hu with hu
         injection hv with hv
         rw [hu,hv,huv]
   · have hk0 : k=0:=by omega
     rw [hk0,W1b,W1b] at hd
     have hxy : x=y:=by rw [←Xaf x,hd,Xaf]
     exact Rw [] [(1000001,.arr 1 (l.map wd))] rfl (.one (.rf rfl) rfl rfl) ⟨rfl,congrArg AV.d (congrArg (D.int .i64) (by rw [hxy,Xa1,if_neg (by omega),if_neg (by omega)]))⟩
theorem Xum {x y q m : Nat} {l : List Nat} (hq : q+m≤l.length) (hl : (l.drop q).take m=dig x) (hx : (dig x).length≤1099511627776) (hle : y≤x) : CN0 249 [.own 1000001 1 q m,.d (ws (dig y))] [(1000001,.arr 1 (l.map wd))] (·=.d (ws (dig (x - y)))):=by
 have hm : (dig x).length=m:=by rw [←hl,Xxe hq]
 have hg : ∀ {k u : Nat},(dig x)[k]?=some u→k<m→l[q+k]?=some u:=fun h hk=>by rw [←hl,dtk hk] at h;exact h
 rw [hm] at hx
 have hll:=Xao hle
 refine EnW Tryz.func249 fun _ _ _ _=>?_
 refine Mk m rfl (by omega) ?_
 refine Lo (fun (k,lo,br)=>[(0,.own 1000001 1 q m),(1,.d (ws (dig y))),(5,.own 12 1 0 m),(6,.d (.int .u64 (br : Nat))),(7,.d (.int .i64 (k : Nat)))]) (fun (_,lo,_)=>[(12,.arr 1 (lo.map wd)),(1000001,.arr 1 (l.map wd))])
  (fun (k,lo,br)=>k≤m∧lo.length=m∧Xal lo∧br≤1∧val (lo.take k)+val ((dig y).take k)=val ((dig x).take k)+4294967296 ^ k*br) (fun (k,_,_)=>m - k) (0,List.replicate m 0,0) [] rfl
  ⟨by omega,by simp,Xe6 _,by omega,by simp [val]⟩ ?_ (by exact ⟨rfl,by simp only [W2d];rfl,rfl,rfl,rfl⟩)
 rintro ⟨k,lo,br⟩ ⟨hk,hl1,hw,hbr,hval⟩
 refine By rfl (fun h=>?_) fun h=>?_
 · obtain ⟨u,hu⟩:=xat (l:=dig x) (k:=k) (by omega)
   have hub:=ww hu (Xad x)
   refine Cu none (fun (v : Nat)=>[(0,.own 1000001 1 q m),(1,.d (ws (dig y))),(5,.own 12 1 0 m),(6,.d (.int .u64 br)),(7,.d (.int .i64 k)),(8,.d (.int .u64 v))]) (fun _=>[(12,.arr 1 (lo.map wd)),(1000001,.arr 1 (l.map wd))])
    (fun v=>v<4294967296∧val ((dig y).take (k+1))=val ((dig y).take k)+4294967296 ^ k*v) rfl ?_ fun v ⟨hv,hyv⟩=>?_
   · refine By rfl (fun h2=>?_) fun h2=>?_ <;> simp only [lw] at h2
     · obtain ⟨u2,hu2⟩:=xat (l:=dig y) (k:=k) (by omega)
       have hub2:=ww hu2 (Xad y)
       refine Ix k rfl (mp hu2) ?_
       refine Go.Vm.Cv u2 rfl ?_
       exact Jn u2 [] rfl ⟨hub2,Xac hu2⟩
     · exact Jn 0 [] rfl ⟨by omega,by rw [Xf0 (by omega)];rfl⟩
   obtain ⟨s,hs⟩ : ∃ s,s=u+4294967296 - v - br:=⟨_,rfl⟩
   refine El k rfl (by omega) ?_
   refine Ld (wd u) rfl (mp (hg hu (by omega))) ?_
   refine Go.Vm.Cv u rfl ?_
   refine Ar (u+4294967296 : Nat) rfl ?_
   refine Ar (u+4294967296 - v : Nat) rfl ?_
   refine Ar s rfl ?_
   refine Go.Vm.Cv (s % 4294967296 : Nat) rfl ?_ (by rw [wWm];omega)
   refine Eo k rfl (by omega) ?_
   refine Sto rfl (by simp only [lw];omega) ms ?_
   refine Ar (s / 4294967296 : Nat) rfl ?_ (Xij (n:=32) (by decide))
   refine Ar (1 - s / 4294967296 : Nat) rfl ?_
   refine Ar (k+1 : Nat) rfl ?_
   refine Bk (k+1,lo.set k (s % 4294967296),1 - s / 4294967296) [] rfl ⟨by omega,by simp [hl1],Xgo hw (by omega),by omega,?_⟩ (by show m - (k+1)<m - k;omega)
   rw [Xbc (by omega),hyv,Xac hu,W0s,W0q]
   have e : 4294967296 ^ k*(s % 4294967296+v+br)=4294967296 ^ k*(u+4294967296*(1 - s / 4294967296)):=by congr 1;omega
   simp only [W0w] at e
   omega
 · have hkn : k=m:=by omega
   rw [hkn,W0a (by omega),W0a (by omega),W0a (by omega),Xaf,Xaf] at hval
   have hvl:=Xbq hw
   rw [hl1] at hvl
   have hbr0 : br=0:=by
    rcases W2o br with h0 | h0
    · exact h0
    · have h1 : 4294967296 ^ m*1≤4294967296 ^ m*br:=W0m _ h0
      omega
   rw [hbr0,W2z] at hval
   refine Fz 12 5 (lo.map wd) rfl (by simp only [lw];omega) (oa hl1) ?_
   refine Ce rfl (trim_ok hw (by omega)) ?_
   exact Rw [] [(1000001,.arr 1 (l.map wd))] rfl (.one (.rf rfl) rfl rfl) ⟨rfl,by rw [show val lo=x - y by omega]⟩
theorem Xdo {x y : Nat} (hx : (dig x).length≤1099511627776) (hle : y≤x) : C0 249 [.d (ws (dig x)),.d (ws (dig y))] (·=.d (ws (dig (x - y)))):=by
 obtain ⟨m,hm⟩ : ∃ m,(dig x).length=m:=⟨_,rfl⟩
 rw [hm] at hx
 have hll:=Xao hle
 refine En Tryz.func249 fun _ _ _=>?_
 refine Mk m rfl (by simp only [lw];omega) ?_ (by simp only [lw,hm])
 refine Lo (fun (k,lo,br)=>[(0,.d (ws (dig x))),(1,.d (ws (dig y))),(5,.own 12 1 0 m),(6,.d (.int .u64 (br : Nat))),(7,.d (.int .i64 (k : Nat)))]) (fun (_,lo,_)=>[(12,.arr 1 (lo.map wd))])
  (fun (k,lo,br)=>k≤m∧lo.length=m∧Xal lo∧br≤1∧val (lo.take k)+val ((dig y).take k)=val ((dig x).take k)+4294967296 ^ k*br) (fun (k,_,_)=>m - k) (0,List.replicate m 0,0) [] rfl
  ⟨by omega,by simp,Xe6 _,by omega,by simp [val]⟩ ?_ (by exact ⟨rfl,by simp only [W2d];rfl,rfl,rfl,rfl⟩)
 rintro ⟨k,lo,br⟩ ⟨hk,hl1,hw,hbr,hval⟩
 refine By rfl (fun h=>?_) fun h=>?_ <;> simp only [lw] at h
 · obtain ⟨u,hu⟩:=xat (l:=dig x) (k:=k) (by omega)
   have hub:=ww hu (Xad x)
   refine Cu none (fun (v : Nat)=>[(0,.d (ws (dig x))),(1,.d (ws (dig y))),(5,.own 12 1 0 m),(6,.d (.int .u64 br)),(7,.d (.int .i64 k)),(8,.d (.int .u64 v))]) (fun _=>[(12,.arr 1 (lo.map wd))])
    (fun v=>v<4294967296∧val ((dig y).take (k+1))=val ((dig y).take k)+4294967296 ^ k*v) rfl ?_ fun v ⟨hv,hyv⟩=>?_
   · refine By rfl (fun h2=>?_) fun h2=>?_ <;> simp only [lw] at h2
     · obtain ⟨u2,hu2⟩:=xat (l:=dig y) (k:=k) (by omega)
       have hub2:=ww hu2 (Xad y)
       refine Ix k rfl (mp hu2) ?_
       refine Go.Vm.Cv u2 rfl ?_
       exact Jn u2 [] rfl ⟨hub2,Xac hu2⟩
     · exact Jn 0 [] rfl ⟨by omega,by rw [Xf0 (by omega)];rfl⟩
   obtain ⟨s,hs⟩ : ∃ s,s=u+4294967296 - v - br:=⟨_,rfl⟩
   refine Ix k rfl (mp hu) ?_
   refine Go.Vm.Cv u rfl ?_
   refine Ar (u+4294967296 : Nat) rfl ?_
   refine Ar (u+4294967296 - v : Nat) rfl ?_
   refine Ar s rfl ?_
   refine Go.Vm.Cv (s % 4294967296 : Nat) rfl ?_ (by rw [wWm];omega)
   refine Eo k rfl (by omega) ?_
   refine Sto rfl (by simp only [lw];omega) ms ?_
   refine Ar (s / 4294967296 : Nat) rfl ?_ (Xij (n:=32) (by decide))
   refine Ar (1 - s / 4294967296 : Nat) rfl ?_
   refine Ar (k+1 : Nat) rfl ?_
   refine Bk (k+1,lo.set k (s % 4294967296),1 - s / 4294967296) [] rfl ⟨by omega,by simp [hl1],Xgo hw (by omega),by omega,?_⟩ (by show m - (k+1)<m - k;omega)
   rw [Xbc (by omega),hyv,Xac hu,W0s,W0q]
   have e : 4294967296 ^ k*(s % 4294967296+v+br)=4294967296 ^ k*(u+4294967296*(1 - s / 4294967296)):=by congr 1;omega
   simp only [W0w] at e
   omega
 · have hkn : k=m:=by omega
   rw [hkn,W0a (by omega),W0a (by omega),W0a (by omega),Xaf,Xaf] at hval
   have hvl:=Xbq hw
   rw [hl1] at hvl
   have hbr0 : br=0:=by
    rcases W2o br with h0 | h0
    · exact h0
    · have h1 : 4294967296 ^ m*1≤4294967296 ^ m*br:=W0m _ h0
      omega
   rw [hbr0,W2z] at hval
   refine Fz 12 5 (lo.map wd) rfl (by simp only [lw];omega) (oa hl1) ?_
   refine Ce rfl (trim_ok hw (by omega)) ?_
   exact R1 rfl (.eq (by rw [show val lo=x - y by omega]))
end
section
theorem Xhr {x y : Nat} (hx : (dig x).length≤549755813888) (hy : (dig y).length≤549755813888) : C0 247 [.d (ws (dig x)),.d (ws (dig y))] (·=.d (ws (dig (x+y)))):=by
 refine En Tryz.func247 fun _ _ _=>?_
 refine Cu none (fun (a,b)=>[(0,.d (ws (dig a))),(1,.d (ws (dig b)))]) (fun _=>[]) (fun (a,b)=>a+b=x+y∧(dig b).length≤(dig a).length∧(dig a).length≤549755813888) rfl ?_ fun ⟨a,b⟩ ⟨hs,hle,hbig⟩=>?_
 · refine By rfl (fun h=>?_) fun h=>?_ <;> simp only [lw] at h
   · exact Jn (y,x) [] rfl ⟨Nat.add_comm _ _,by omega,hy⟩
   · exact Jn (x,y) [] rfl ⟨rfl,by omega,hx⟩
 obtain ⟨m,hm⟩ : ∃ m,(dig a).length=m:=⟨_,rfl⟩
 rw [hm] at hle hbig
 refine Ar (m+1 : Nat) rfl ?_ (wr (by simp only [lw,hm];omega) (by simp only [inK];omega))
 refine Mk (m+1) rfl (by omega) ?_
 refine Lo (fun (k,lo,cr)=>[(0,.d (ws (dig a))),(1,.d (ws (dig b))),(5,.own 18 1 0 (m+1)),(6,.d (.int .u64 (cr : Nat))),(7,.d (.int .i64 (k : Nat)))]) (fun (_,lo,_)=>[(18,.arr 1 (lo.map wd))])
  (fun (k,lo,cr)=>k≤m∧lo.length=m+1∧Xal lo∧cr≤1∧val (lo.take k)+4294967296 ^ k*cr=val ((dig a).take k)+val ((dig b).take k)) (fun (k,_,_)=>m - k) (0,List.replicate (m+1) 0,0) [] rfl ⟨by omega,by simp,Xe6 _,by omega,by simp [val]⟩ ?_ (by exact ⟨rfl,by simp only [W2d];rfl,rfl,rfl,rfl⟩)
 rintro ⟨k,lo,cr⟩ ⟨hk,hl,hw,hcr,hval⟩
 refine By rfl (fun h=>?_) fun h=>?_ <;> simp only [lw] at h
 · obtain ⟨u,hu⟩:=xat (l:=dig a) (k:=k) (by omega)
   have hub:=ww hu (Xad a)
   refine Ix k rfl (mp hu) ?_
   refine Go.Vm.Cv u rfl ?_
   refine Ar (cr+u : Nat) rfl ?_
   refine Cu none (fun (s : Nat)=>[(0,.d (ws (dig a))),(1,.d (ws (dig b))),(5,.own 18 1 0 (m+1)),(6,.d (.int .u64 s)),(7,.d (.int .i64 k))]) (fun _=>[(18,.arr 1 (lo.map wd))])
    (fun s=>s<8589934592∧4294967296 ^ k*s+val (lo.take k)=val ((dig a).take (k+1))+val ((dig b).take (k+1))) rfl ?_ fun s ⟨hs8,hsv⟩=>?_
   · refine By rfl (fun h2=>?_) fun h2=>?_ <;> simp only [lw] at h2
     · obtain ⟨u2,hu2⟩:=xat (l:=dig b) (k:=k) (by omega)
       have hub2:=ww hu2 (Xad b)
       refine Ix k rfl (mp hu2) ?_
       refine Go.Vm.Cv u2 rfl ?_
       refine Ar (cr+u+u2 : Nat) rfl ?_
       exact Jn (cr+u+u2) [] rfl ⟨by omega,by rw [Xac hu,Xac hu2,W0w,W0w];omega⟩
     · exact Jn (cr+u) [] rfl ⟨by omega,by rw [Xac hu,Xf0 (l:=dig b) (by omega),W0w];omega⟩
   refine Go.Vm.Cv (s % 4294967296 : Nat) rfl ?_ (by rw [wWm];omega)
   refine Eo k rfl (by omega) ?_
   refine Sto rfl (by simp only [lw];omega) ms ?_
   refine Ar (s / 4294967296 : Nat) rfl ?_ (Xij (n:=32) (by decide))
   refine Ar (k+1 : Nat) rfl ?_
   refine Bk (k+1,lo.set k (s % 4294967296),s / 4294967296) [] rfl ⟨by omega,by simp [hl],Xgo hw (by omega),by show s / 4294967296≤1;omega,?_⟩ (by show m - (k+1)<m - k;omega)
   rw [Xbc (by omega),←hsv,W0s,W0q]
   have e2 : 4294967296 ^ k*s=4294967296 ^ k*(s % 4294967296)+4294967296 ^ k*(4294967296*(s / 4294967296)):=by rw [←W0w];congr 1;omega
   omega
 · have hkn : k=m:=by omega
   subst hkn
   rw [W0a (l:=dig a) (by omega),W0a (l:=dig b) (by omega),Xaf,Xaf,hs] at hval
   have hfin : val (lo.set k cr)=x+y:=by
    have:=Xbc (l:=lo) (k:=k) (d:=cr) (by omega)
    rw [W0a (by rw [W3i];omega)] at this
    rw [this,hval]
   refine Go.Vm.Cv cr rfl ?_
   refine Eo k rfl (by omega) ?_ (by simp only [lw];omega)
   refine Sto rfl (by simp only [lw];omega) ms ?_
   refine Fz 14 5 ((lo.set k cr).map wd) rfl (by simp only [lw,W3i];omega) (oa (by simp [hl])) ?_
   refine Ce rfl (trim_ok (Xgo hw (by omega)) (by simp only [W3i];omega)) ?_
   exact R1 rfl (.eq (by rw [hfin]))
theorem Xs0 {X Y : List Nat} (hX : Xal X) (hY : Xal Y) (hx : X.length≤549755813888) (hy : Y.length≤549755813888) : C0 166 [.d (ws X),.d (ws Y)] (·=.d (ws (dig (val X*val Y)))):=by
 obtain ⟨n,hn⟩ : ∃ n,X.length=n:=⟨_,rfl⟩
 obtain ⟨m,hm⟩ : ∃ m,Y.length=m:=⟨_,rfl⟩
 rw [hm] at hy
 rw [hn] at hx
 refine En Tryz.func166 fun _ _ _=>?_
 refine Ar (n+m : Nat) rfl ?_ (wr (by simp only [lw];omega) (by simp only [inK];omega))
 refine Mk (n+m) rfl (by omega) ?_
 refine Lo (fun (i,lo)=>[(0,.d (ws X)),(1,.d (ws Y)),(5,.own 14 1 0 (n+m)),(6,.d (.int .i64 (i : Nat)))]) (fun (_,lo)=>[(14,.arr 1 (lo.map wd))])
  (fun (i,lo)=>i≤n∧lo.length=n+m∧Xal lo∧val (lo.take (i+m))=val (X.take i)*val Y∧∀ j,i+m≤j→j<n+m→lo[j]?=some 0) (fun (i,_)=>n - i)
  (0,List.replicate (n+m) 0) [] rfl ⟨by omega,by simp,Xe6 _,by rw [W5b,Xbm];simp [val],fun j _ h=>by rw [W5a,if_pos h]⟩ ?_ (by exact ⟨rfl,by simp only [W2d];rfl,rfl,rfl,rfl⟩)
 rintro ⟨i,lo0⟩ ⟨hi,hl0,hw0,hval,hz0⟩
 refine By rfl (fun h=>?_) fun h=>?_ <;> simp only [lw] at h
 · obtain ⟨u,hu⟩:=xat (l:=X) (k:=i) (by omega)
   have hub:=ww hu (hX)
   refine Lo (fun (k,lo,cr)=>[(0,.d (ws X)),(1,.d (ws Y)),(5,.own 14 1 0 (n+m)),(6,.d (.int .i64 i)),(7,.d (.int .u64 (cr : Nat))),(8,.d (.int .i64 (k : Nat)))]) (fun (_,lo,_)=>[(14,.arr 1 (lo.map wd))])
    (fun (k,lo,cr)=>k≤m∧lo.length=n+m∧Xal lo∧cr<4294967296∧(∀ j,i+k≤j→lo[j]?=lo0[j]?)∧val (lo.take (i+k))+4294967296 ^ (i+k)*cr=val (lo0.take (i+k))+4294967296 ^ i*(u*val (Y.take k))) (fun (k,_,_)=>m - k)
    (0,lo0,0) [] rfl ⟨by omega,hl0,hw0,by omega,fun _ _=>rfl,by simp [val]⟩ ?_
   rintro ⟨k,lo,cr⟩ ⟨hk,hl1,hw,hcr,hrest,hval2⟩
   refine By rfl (fun h=>?_) fun h=>?_ <;> simp only [lw] at h
   · obtain ⟨v,hv⟩:=xat (l:=Y) (k:=k) (by omega)
     have hvb:=ww hv (hY)
     obtain ⟨w,hw1⟩:=xat (l:=lo) (k:=i+k) (by omega)
     have hwb:=ww hw1 hw
     have huv : u*v≤4294967295*4294967295:=W1t (by omega) (by omega)
     obtain ⟨s,hs⟩ : ∃ s,s=cr+w+u*v:=⟨_,rfl⟩
     have hs2 : s<18446744073709551616:=by omega
     refine Dw rfl ?_
     refine Ar (i+k : Nat) rfl ?_
     refine Eo (i+k) rfl (by omega) ?_
     refine Ld (wd w) rfl (mp hw1) ?_
     refine Go.Vm.Cv w rfl ?_
     refine Ar (cr+w : Nat) rfl ?_
     refine Ix i rfl (mp hu) ?_
     refine Go.Vm.Cv u rfl ?_
     refine Ix k rfl (mp hv) ?_
     refine Go.Vm.Cv v rfl ?_
     refine Ar (u*v : Nat) rfl ?_ (wr (W2t ..).symm (by simp only [inK];omega))
     refine Ar (s : Nat) rfl ?_
     refine Ar (i+k : Nat) rfl ?_
     refine Go.Vm.Cv (s % 4294967296 : Nat) rfl ?_ (by rw [wWm];omega)
     refine Eo (i+k) rfl (by omega) ?_
     refine Sto rfl (by simp only [lw];omega) ms ?_
     refine Ar (s / 4294967296 : Nat) rfl ?_ (Xij (n:=32) (by decide))
     refine Ar (k+1 : Nat) rfl ?_
     refine Bk (k+1,lo.set (i+k) (s % 4294967296),s / 4294967296) [] rfl ⟨by omega,by simp [hl1],Xgo hw (by omega),by omega,fun j hj=>by rw [W1w (by omega)];exact hrest j (by omega),?_⟩ (by show _ - (k+1)<_ - k;omega)
     have hw0' : lo0[i+k]?=some w:=by rw [←hrest (i+k) (W0c _)];exact hw1
     rw [←W4a,Xbc (by omega),Xac hw0',Xac hv,W0s,W0q,W0w u,W0w (4294967296 ^ i)]
     have e : 4294967296 ^ (i+k)*s=4294967296 ^ (i+k)*(s % 4294967296)+4294967296 ^ (i+k)*(4294967296*(s / 4294967296)):=by rw [←W0w];congr 1;omega
     have e2 : 4294967296 ^ (i+k)*s=4294967296 ^ (i+k)*cr+4294967296 ^ i*(u*(4294967296 ^ k*v))+4294967296 ^ (i+k)*w:=by
      rw [hs,W0w,W0w,W0u]
      have : 4294967296 ^ i*4294967296 ^ k*(u*v)=4294967296 ^ i*(u*(4294967296 ^ k*v)):=by
       rw [W0q,W4i (4294967296 ^ k) u v]
      omega
     omega
   · have hkm : k=m:=by omega
     subst hkm
     refine Ar (i+k : Nat) rfl ?_ (wr (by simp only [lw];omega) (by simp only [inK];omega))
     refine Go.Vm.Cv cr rfl ?_
     refine Eo (i+k) rfl (by omega) ?_
     refine Sto rfl (by simp only [lw];omega) ms ?_
     refine Ar (i+1 : Nat) rfl ?_
     refine Bk (i+1,lo.set (i+k) cr) [] rfl ⟨by omega,by simp [hl1],Xgo hw hcr,?_,fun j h1 h2=>by rw [W1w (by omega),hrest j (by omega)];exact hz0 j (by omega) h2⟩ (by show _ - (i+1)<_ - i;omega)
     rw [show i+1+k=i+k+1 from by omega,Xbc (by omega),Xac hu,hval2,hval,show Y.take k=Y from W0a (by omega),W1g,W0q]
 · have him : i=n:=by omega
   rw [him,W0a (by omega),W0a (by omega)] at hval
   refine Fz 13 5 (lo0.map wd) rfl (by simp only [lw];omega) (oa hl0) ?_
   refine Ce rfl (trim_ok hw0 (by omega)) ?_
   exact R1 rfl (.eq (by rw [hval]))
theorem Xjt {x y : Nat} (hx : (dig x).length≤549755813888) (hy : (dig y).length≤549755813888) : C0 166 [.d (ws (dig x)),.d (ws (dig y))] (·=.d (ws (dig (x*y)))):=by
 have:=Xs0 (Xad x) (Xad y) hx hy
 rwa [Xaf,Xaf] at this
theorem Xs1 {x q n : Nat} {l : List Nat} (hq : q+n≤l.length) (hl : (l.drop q).take n=dig x) (hx : (dig x).length≤549755813888) : CN0 166 [.own 1000001 1 q n,.own 1000001 1 q n] [(1000001,.arr 1 (l.map wd))] (·=.d (ws (dig (x*x)))):=by
 have hg : ∀ {k u : Nat},(dig x)[k]?=some u→k<n→l[q+k]?=some u:=fun h hk=>by rw [←hl,dtk hk] at h;exact h
 have hn : (dig x).length=n:=by rw [←hl,Xxe hq]
 rw [hn] at hx
 refine EnW Tryz.func166 fun _ _ _ _=>?_
 refine Ar (n+n : Nat) rfl ?_ (wr (by omega) (by simp only [inK];omega))
 refine Mk (n+n) rfl (by omega) ?_
 refine Lo (fun (i,lo)=>[(0,.own 1000001 1 q n),(1,.own 1000001 1 q n),(5,.own 14 1 0 (n+n)),(6,.d (.int .i64 (i : Nat)))]) (fun (_,lo)=>[(14,.arr 1 (lo.map wd)),(1000001,.arr 1 (l.map wd))])
  (fun (i,lo)=>i≤n∧lo.length=n+n∧Xal lo∧val (lo.take (i+n))=val ((dig x).take i)*x∧∀ j,i+n≤j→j<n+n→lo[j]?=some 0) (fun (i,_)=>n - i)
  (0,List.replicate (n+n) 0) [] rfl ⟨by omega,by simp,Xe6 _,by rw [W5b,Xbm];simp [val],fun j _ h=>by rw [W5a,if_pos h]⟩ ?_ (by exact ⟨rfl,by simp only [W2d];rfl,rfl,rfl,rfl⟩)
 rintro ⟨i,lo0⟩ ⟨hi,hl0,hw0,hval,hz0⟩
 refine By rfl (fun h=>?_) fun h=>?_
 · obtain ⟨u,hu⟩:=xat (l:=dig x) (k:=i) (by omega)
   have hub:=ww hu (Xad x)
   refine Lo (fun (k,lo,cr)=>[(0,.own 1000001 1 q n),(1,.own 1000001 1 q n),(5,.own 14 1 0 (n+n)),(6,.d (.int .i64 i)),(7,.d (.int .u64 (cr : Nat))),(8,.d (.int .i64 (k : Nat)))]) (fun (_,lo,_)=>[(14,.arr 1 (lo.map wd)),(1000001,.arr 1 (l.map wd))])
    (fun (k,lo,cr)=>k≤n∧lo.length=n+n∧Xal lo∧cr<4294967296∧(∀ j,i+k≤j→lo[j]?=lo0[j]?)∧val (lo.take (i+k))+4294967296 ^ (i+k)*cr=val (lo0.take (i+k))+4294967296 ^ i*(u*val ((dig x).take k))) (fun (k,_,_)=>n - k)
    (0,lo0,0) [] rfl ⟨by omega,hl0,hw0,by omega,fun _ _=>rfl,by simp [val]⟩ ?_
   rintro ⟨k,lo,cr⟩ ⟨hk,hl1,hw,hcr,hrest,hval2⟩
   refine By rfl (fun h=>?_) fun h=>?_
   · obtain ⟨v,hv⟩:=xat (l:=dig x) (k:=k) (by omega)
     have hvb:=ww hv (Xad x)
     obtain ⟨w,hw1⟩:=xat (l:=lo) (k:=i+k) (by omega)
     have hwb:=ww hw1 hw
     have huv : u*v≤4294967295*4294967295:=W1t (by omega) (by omega)
     obtain ⟨s,hs⟩ : ∃ s,s=cr+w+u*v:=⟨_,rfl⟩
     have hs2 : s<18446744073709551616:=by omega
     refine Dw rfl ?_
     refine Ar (i+k : Nat) rfl ?_
     refine Eo (i+k) rfl (by omega) ?_
     refine Ld (wd w) rfl (mp hw1) ?_
     refine Go.Vm.Cv w rfl ?_
     refine Ar (cr+w : Nat) rfl ?_
     refine El i rfl (by omega) ?_
     refine Ld (wd u) rfl (mp (hg hu (by omega))) ?_
     refine Go.Vm.Cv u rfl ?_
     refine El k rfl (by omega) ?_
     refine Ld (wd v) rfl (mp (hg hv (by omega))) ?_
     refine Go.Vm.Cv v rfl ?_
     refine Ar (u*v : Nat) rfl ?_ (wr (W2t ..).symm (by simp only [inK];omega))
     refine Ar (s : Nat) rfl ?_
     refine Ar (i+k : Nat) rfl ?_
     refine Go.Vm.Cv (s % 4294967296 : Nat) rfl ?_ (by rw [wWm];omega)
     refine Eo (i+k) rfl (by omega) ?_
     refine Sto rfl (by simp only [lw];omega) ms ?_
     refine Ar (s / 4294967296 : Nat) rfl ?_ (Xij (n:=32) (by decide))
     refine Ar (k+1 : Nat) rfl ?_
     refine Bk (k+1,lo.set (i+k) (s % 4294967296),s / 4294967296) [] rfl ⟨by omega,by simp [hl1],Xgo hw (by omega),by omega,fun j hj=>by rw [W1w (by omega)];exact hrest j (by omega),?_⟩ (by show _ - (k+1)<_ - k;omega)
     have hw0' : lo0[i+k]?=some w:=by rw [←hrest (i+k) (W0c _)];exact hw1
     rw [←W4a,Xbc (by omega),Xac hw0',Xac hv,W0s,W0q,W0w u,W0w (4294967296 ^ i)]
     have e : 4294967296 ^ (i+k)*s=4294967296 ^ (i+k)*(s % 4294967296)+4294967296 ^ (i+k)*(4294967296*(s / 4294967296)):=by rw [←W0w];congr 1;omega
     have e2 : 4294967296 ^ (i+k)*s=4294967296 ^ (i+k)*cr+4294967296 ^ i*(u*(4294967296 ^ k*v))+4294967296 ^ (i+k)*w:=by
      rw [hs,W0w,W0w,W0u]
      have : 4294967296 ^ i*4294967296 ^ k*(u*v)=4294967296 ^ i*(u*(4294967296 ^ k*v)):=by
       rw [W0q,W4i (4294967296 ^ k) u v]
      omega
     omega
   · have hkm : k=n:=by omega
     subst hkm
     refine Ar (i+k : Nat) rfl ?_ (wr (by omega) (by simp only [inK];omega))
     refine Go.Vm.Cv cr rfl ?_
     refine Eo (i+k) rfl (by omega) ?_
     refine Sto rfl (by simp only [lw];omega) ms ?_
     refine Ar (i+1 : Nat) rfl ?_
     refine Bk (i+1,lo.set (i+k) cr) [] rfl ⟨by omega,by simp [hl1],Xgo hw hcr,?_,fun j h1 h2=>by rw [W1w (by omega),hrest j (by omega)];exact hz0 j (by omega) h2⟩ (by show _ - (i+1)<_ - i;omega)
     rw [show i+1+k=i+k+1 from by omega,Xbc (by omega),Xac hu,hval2,hval,show (dig x).take k=dig x from W0a (by omega),Xaf,W1g,W0q]
 · have him : i=n:=by omega
   rw [him,W0a (by omega),W0a (by omega),Xaf] at hval
   refine Fz 13 5 (lo0.map wd) rfl (by simp only [lw];omega) (oa hl0) ?_
   refine Ce rfl (trim_ok hw0 (by omega)) ?_
   exact Rw [] [(1000001,.arr 1 (l.map wd))] rfl (.one (.rf rfl) rfl rfl) ⟨rfl,by rw [hval]⟩
end
section
theorem Neg_ok {z : Int} (h : (dig z.natAbs).length≤1099511627776) : C0 80 [.d (dz z)] (·=.d (dz (-z))):=by
 refine En Tryz.func80 fun _ _ _=>?_
 refine Ce rfl (Xak h) ?_
 exact R1 rfl (.eq (by rw [Yas]))
theorem Add_ok {a b : Int} (ha : (dig a.natAbs).length≤549755813888) (hb : (dig b.natAbs).length≤549755813888) : C0 153 [.d (dz a),.d (dz b)] (·=.d (dz (a+b))):=by
 refine En Tryz.func153 fun _ _ _=>?_
 refine Dw rfl ?_
 refine Ce rfl (Norm_ok (by omega)) ?_
 refine Ce rfl (Norm_ok (by omega)) ?_
 refine By rfl (fun h=>?_) fun h=>?_ <;> rw [Yl7] at h
 · refine Dw rfl ?_
   refine Ce rfl (Xhr ha hb) ?_
   refine Ce rfl (Xak (W0h (Xf8 ..) (by omega))) ?_
   exact R1 rfl (.eq (by rw [Yau h]))
 · refine Ce rfl (Xbt (by omega)) ?_
   refine By rfl (fun h1=>?_) fun h1=>?_
   · have hle:=Yl0.1 (show ¬ Xa1 (a.natAbs : Int) (b.natAbs : Int)<0 by omega)
     refine Dw rfl ?_
     refine Ce rfl (Xdo (by omega) hle) ?_
     refine Ce rfl (Xak (W0h (Xao (Nat.sub_le ..)) (by omega))) ?_
     exact R1 rfl (.eq (by rw [Xpe h hle]))
   · have hle:=W1z (Xzj.1 (show Xa1 (a.natAbs : Int) (b.natAbs : Int)<0 by omega))
     refine Dw rfl ?_
     refine Ce rfl (Xdo (by omega) hle) ?_
     refine Ce rfl (Xak (W0h (Xao (Nat.sub_le ..)) (by omega))) ?_
     exact R1 rfl (.eq (by rw [Xpe (fun e=>h e.symm) hle,Int.add_comm]))
theorem Sub_ok {a b : Int} (ha : (dig a.natAbs).length≤549755813888) (hb : (dig b.natAbs).length≤549755813888) : C0 164 [.d (dz a),.d (dz b)] (·=.d (dz (a - b))):=by
 refine En Tryz.func164 fun _ _ _=>?_
 refine Dw rfl ?_
 refine Ce rfl (Neg_ok (by omega)) ?_
 refine Ce rfl (Add_ok ha (by rw [W3x];exact hb)) ?_
 exact R0
theorem Mul_ok {a b : Int} (ha : (dig a.natAbs).length≤549755813888) (hb : (dig b.natAbs).length≤549755813888) : C0 82 [.d (dz a),.d (dz b)] (·=.d (dz (a*b))):=by
 refine En Tryz.func82 fun _ _ _=>?_
 refine Dw rfl ?_
 refine Ce rfl (Norm_ok (by omega)) ?_
 refine Ce rfl (Norm_ok (by omega)) ?_
 refine Dw rfl ?_
 refine Ce rfl (Xjt ha hb) ?_
 refine Ce rfl (Xak (W0h (Xkj ..) (by omega))) ?_
 exact R1 rfl (.eq (by rw [Yb2,Yat]))
theorem Xwf (a b : Int) : Xa1 (a - b) 0=Xa1 a b:=by
 unfold Xa1;split <;> split <;> (try split) <;> (try split) <;> omega
theorem Cmp_ok {a b : Int} (ha : (dig a.natAbs).length≤549755813888) (hb : (dig b.natAbs).length≤549755813888) : C0 81 [.d (dz a),.d (dz b)] (·=.d (.int .i64 (Xa1 a b))):=by
 have hl:=Xf8 a.natAbs b.natAbs
 have hl2:=Xao (show (a - b).natAbs≤a.natAbs+b.natAbs by omega)
 refine En Tryz.func81 fun _ _ _=>?_
 refine Ce rfl (Sub_ok ha hb) ?_
 refine Ce rfl (Sign_ok (by omega)) ?_
 exact R1 rfl (.eq (by rw [Xwf]))
theorem Yl2 {x y : Nat} (hx : (dig x).length≤549755813888) (hy : y<4294967296) (hy0 : y≠0) : C0 319 [.d (ws (dig x)),.d (.int .u32 y)] (·=.tup (.pr (.d (ws (dig (x / y)))) (.d (.int .u32 (x % y : Nat))))):=by
 refine En Tryz.func319 fun _ _ _=>?_
 refine Mk (dig x).length rfl (by simp only [lw];omega) ?_ (by simp only [lw])
 refine Ar ((dig x).length - 1 : Int) rfl ?_ (wr (by simp only [lw]) (by simp only [inK];omega))
 refine Lo (fun (k,lo,r)=>[(0,.d (ws (dig x))),(1,.d (.int .u32 y)),(6,.own 11 1 0 (dig x).length),(7,.d (.int .u64 (r : Nat))),(8,.d (.int .i64 ((k : Nat) - 1 : Int)))]) (fun (_,lo,_)=>[(11,.arr 1 (lo.map wd))])
  (fun (k,lo,r)=>k≤(dig x).length∧lo.length=(dig x).length∧Xal lo∧r<y∧val (lo.drop k)*y+r=val ((dig x).drop k)) (fun (k,_,_)=>k) ((dig x).length,List.replicate (dig x).length 0,0) [] rfl
  ⟨by omega,by simp,Xe6 _,by omega,by rw [W1x (by simp),W1x (by omega)];simp [val]⟩ ?_ (by exact ⟨rfl,by simp only [W2d];rfl,rfl,rfl,rfl⟩)
 rintro ⟨k,lo,r⟩ ⟨hk,hl,hwo,hr,hval⟩
 refine By rfl (fun h=>?_) fun h=>?_
 · obtain ⟨u,hu⟩:=xat (l:=dig x) (k:=k - 1) (by omega)
   have hub:=ww hu (Xad x)
   obtain ⟨s,hs⟩ : ∃ s,s=r*2 ^ 32+u:=⟨_,rfl⟩
   have hs64 : s<18446744073709551616:=by omega
   have hsy : s / y<4294967296:=by
    rw [W2l (by omega)]
    have:=W0y 4294967296 (show r+1≤y by omega)
    omega
   have hsm : s % y<y:=W1y _ (by omega)
   have hq0 : 0≤s / y:=W1c _
   refine Ar (r*2 ^ 32 : Nat) rfl ?_ (Xhh (n:=32) rfl (by omega) (by decide))
   refine Ix (k - 1) rfl (mp hu) ?_
   refine Go.Vm.Cv u rfl ?_
   refine Ar s rfl ?_ (Ya8 (by omega) (by omega) (by rw [Xdb u r 32 (by omega),←hs]) hs64)
   refine Go.Vm.Cv y rfl ?_
   refine Ar (s / y : Nat) rfl ?_ (show _∧_ from ⟨by omega,Yci s y hs64⟩)
   refine Go.Vm.Cv (s / y : Nat) rfl ?_ (wW ⟨W5e _,W6s.2 hsy⟩)
   refine Eo (k - 1) rfl (by omega) ?_
   refine Sto rfl (by simp only [lw];omega) ms ?_
   refine Go.Vm.Cv y rfl ?_
   refine Ar (s % y : Nat) rfl ?_ (show _∧_ from ⟨by omega,Xsy s y⟩)
   refine Ar ((k - 1 : Nat) - 1 : Int) rfl ?_
   refine Bk (k - 1,lo.set (k - 1) (s / y),s % y) [] rfl ⟨by omega,by simp [hl],Xgo hwo hsy,hsm,?_⟩ (by show k - 1<k;omega)
   rw [Xbn hu,show k - 1+1=k from by omega,←hval,drop_set (by omega),val,show k - 1+1=k from by omega]
   have e:=W2j s y
   rw [W1d] at e
   rw [W1g,W0w,W0q]
   omega
 · have hk0 : k=0:=by omega
   subst hk0
   rw [W1b,W1b,Xaf] at hval
   have hq : x / y=val lo:=by rw [←hval,W1d,Nat.mul_add_div (by omega),W5c hr,W2n]
   have hm : x % y=r:=by rw [←hval,W1d,Nat.mul_add_mod,W3p hr]
   refine Fz 9 6 (lo.map wd) rfl (by simp only [lw];omega) (oa hl) ?_
   refine Ce rfl (trim_ok hwo (by omega)) ?_
   refine Go.Vm.Cv (x % y : Nat) rfl ?_ (by rw [hm];exact wW (by omega))
   exact RTt rfl (.cons (.eq (by rw [hq])) (.one (.rf rfl) (fun _ _ e=>by cases e) (fun _ _ e=>by cases e)))
theorem Xpc {x : Nat} (hl : (dig x).length≤2) : C0 318 [.d (ws (dig x))] (·=.d (.int .u64 x)):=by
 refine En Tryz.func318 fun _ _ _=>?_
 refine Ar ((dig x).length - 1 : Int) rfl ?_ (wr (by simp only [lw]) (by simp only [inK];omega))
 refine Lo (fun k=>[(0,.d (ws (dig x))),(3,.d (.int .u64 (val ((dig x).drop k)))),(4,.d (.int .i64 ((k : Nat) - 1 : Int)))]) (fun _=>[]) (fun k=>k≤(dig x).length) (fun k=>k) (dig x).length [] rfl (W0c _) (fun k hk=>?_) (by exact ⟨by rw [W1x (W0c _)];rfl,rfl,rfl,rfl,rfl⟩)
 refine By rfl (fun h=>?_) fun h=>?_
 · obtain ⟨u,hu⟩:=xat (l:=dig x) (k:=k - 1) (by omega)
   have hub:=ww hu (Xad x)
   have hv : val ((dig x).drop k)<4294967296:=by
    have h1:=Xbq ((Xad x).drop k)
    have h2 : 4294967296 ^ ((dig x).drop k).length≤4294967296 ^ 1:=W0k (by decide) (by rw [W2e];omega)
    omega
   have hvd:=Xbn hu
   rw [show k - 1+1=k from by omega] at hvd
   obtain ⟨s,hs⟩ : ∃ s,s=val ((dig x).drop k):=⟨_,rfl⟩
   rw [←hs] at hv hvd
   refine Ar (s*2 ^ 32 : Nat) rfl ?_ (by rw [←hs];exact Xhh (n:=32) rfl (by omega) (by decide))
   refine Ix (k - 1) rfl (mp hu) ?_
   refine Go.Vm.Cv u rfl ?_
   refine Ar (val ((dig x).drop (k - 1)) : Nat) rfl ?_ (Ya8 (by omega) (by omega) (by rw [Xdb u s 32 (by omega),hvd];omega) (by omega))
   refine Ar ((k - 1 : Nat) - 1 : Int) rfl ?_
   exact Bk (k - 1) [] rfl (show k - 1≤_ by omega) (by show k - 1<k;omega)
 · refine R1 rfl (.eq ?_)
   rw [show k=0 by omega,W1b,Xaf]
theorem Yez {x : Nat} (h : x≠0) : bl x=bl (x / 2)+1:=by
 by_cases h2 : x / 2=0
 · have : x=1:=by omega
   subst this
   decide
 · exact Xen (n:=x) (k:=1) h2
theorem Xl1 {x : Nat} (hx : (dig x).length≤1099511627776) (h0 : x≠0) : C0 320 [.d (ws (dig x))] fun v=>∃ t,(dig x)[(dig x).length - 1]?=some t∧t≠0∧t<4294967296∧v=.d (.int .i64 (32*((dig x).length - 1)+bl t : Nat)):=by
 have hm0 : (dig x).length≠0:=fun e=>h0 (Yna.1 e)
 obtain ⟨t,ht,ht0⟩ : ∃ t,(dig x)[(dig x).length - 1]?=some t∧t≠0:=by
  rcases Xgx x with h1 | h1
  · exact absurd (Xrz.1 h1) h0
  · exact h1
 have htb:=ww ht (Xad x)
 have hbt : bl t≤32:=by
  obtain ⟨b1,b2,b3⟩:=Xcf ht0
  have : 2 ^ (bl t - 1)<2 ^ 32:=W1r b1 htb
  have:=(W2p (by decide : 1<2)).1 this
  omega
 refine En Tryz.func320 fun _ _ _=>?_
 refine No rfl (by simp only [lw];omega) ?_
 refine Ar ((dig x).length - 1 : Nat) rfl ?_ (wr (by simp only [lw];omega) (by simp only [inK];omega))
 refine Ix ((dig x).length - 1) rfl (mp ht) ?_
 refine Lo (fun (k,i)=>[(0,.d (ws (dig x))),(3,.d (.int .i64 (i : Nat))),(4,.d (.int .u32 (k : Nat)))]) (fun _=>[]) (fun (k,i)=>k<4294967296∧bl k+i=bl t) (fun (k,_)=>k) (t,0) [] rfl ⟨htb,rfl⟩ ?_
 rintro ⟨k,i⟩ ⟨hk,hb⟩
 refine By rfl (fun h=>?_) fun h=>?_
 · have:=Yez (x:=k) (by omega)
   refine Ar (i+1 : Nat) rfl ?_
   refine Ar (k / 2 : Nat) rfl ?_ (show _∧_ from ⟨by decide,by rw [show Int.tdiv (k : Int) 2=((k / 2 : Nat) : Int) from rfl];exact wW (by omega)⟩)
   exact Bk (k / 2,i+1) [] rfl ⟨by omega,by omega⟩ (by show k / 2<k;omega)
 · have hk0 : k=0:=by omega
   subst hk0
   rw [show bl 0=0 from rfl] at hb
   refine Ar ((dig x).length - 1 : Nat) rfl ?_ (wr (by simp only [lw];omega) (by simp only [inK];omega))
   refine Ar (32*((dig x).length - 1) : Nat) rfl ?_
   refine Ar (32*((dig x).length - 1)+bl t : Nat) rfl ?_
   exact Rt rfl (.one (.rf rfl) rfl rfl) ⟨t,ht,ht0,htb,rfl⟩
theorem Xef {n x : Nat} (hx : (dig x).length≤549755813888) (hn32 : n<32) : CO0 321 [.d (ws (dig x)),.d (.int .i64 n)] fun v ob=>∃ l,l.length=(dig x).length+1∧Xal l∧val l=x*2 ^ n∧v=.own 1000000 1 0 l.length∧ob=.arr 1 (l.map wd):=by
 have hp:=W0n n
 have hp32 : 2 ^ n≤2147483648:=by have : 2 ^ n≤2 ^ 31:=W0k (by decide) (by omega);omega
 refine EnW Tryz.func321 fun _ _ _ _=>?_
 refine Ar ((dig x).length+1 : Nat) rfl ?_ (wr (by simp only [lw];omega) (by simp only [inK];omega))
 refine Mk ((dig x).length+1) rfl (by omega) ?_
 refine Lo (fun (i,lo)=>[(0,.d (ws (dig x))),(1,.d (.int .i64 n)),(5,.own 11 1 0 ((dig x).length+1)),(6,.d (.int .i64 (i : Nat)))]) (fun (_,lo)=>[(11,.arr 1 (lo.map wd))])
  (fun (i,lo)=>i≤(dig x).length∧lo.length=(dig x).length+1∧Xal lo∧val (lo.take (i+1))=val ((dig x).take i)*2 ^ n∧∃ w,lo[i]?=some w∧w<2 ^ n) (fun (i,_)=>(dig x).length - i) (0,List.replicate ((dig x).length+1) 0) [] rfl
  ⟨by omega,by simp,Xe6 _,by rw [W5b,Xbm];simp [val],0,by simp,hp⟩ ?_ (by exact ⟨rfl,by simp only [W2d];rfl,rfl,rfl,rfl⟩)
 rintro ⟨i,lo⟩ ⟨hi,hl,hwo,hval,w,hw,hwn⟩
 refine By rfl (fun h=>?_) fun h=>?_ <;> simp only [lw] at h
 · obtain ⟨u,hu⟩:=xat (l:=dig x) (k:=i) (by omega)
   have hub:=ww hu (Xad x)
   have hs1:=Yap hub hn32
   have hs2:=Xdn u n (by omega)
   obtain ⟨s,hs⟩ : ∃ s,s=u*2 ^ n:=⟨_,rfl⟩
   have hshl:=Xhh hs.symm (by omega) (by omega : n≤64)
   rw [←hs] at hs1 hs2
   have hor : w ||| s % 4294967296=s % 4294967296+w:=by rw [Nat.or_comm,hs2];exact Xdb _ _ _ hwn
   have hlt : s % 4294967296+w<4294967296:=by
    rw [hs2]
    have h1 : u % 2 ^ (32 - n)+1≤2 ^ (32 - n):=W1y _ (W0n _)
    have h2:=W0y (2 ^ n) h1
    rw [←W0u,show 32 - n+n=32 from by omega,W2y] at h2
    omega
   refine Ix i rfl (mp hu) ?_
   refine Go.Vm.Cv u rfl ?_
   refine Ar s rfl ?_ hshl
   refine Eo i rfl (by omega) ?_
   refine Ld (wd w) rfl (mp hw) ?_
   refine Go.Vm.Cv (s % 4294967296 : Nat) rfl ?_ (by rw [wWm];omega)
   refine Ar (s % 4294967296+w : Nat) rfl ?_ (Yj9 (by omega) (by omega) hor hlt)
   refine Eo i rfl (by omega) ?_
   refine Sto rfl (by simp only [lw];omega) ms ?_
   refine Ar (i+1 : Nat) rfl ?_
   refine Ar (s / 4294967296 : Nat) rfl ?_ (Xij (n:=32) (by decide))
   refine Go.Vm.Cv (s / 4294967296 : Nat) rfl ?_
   refine Eo (i+1) rfl (by omega) ?_
   refine Sto rfl (by simp only [W0i,W3i];omega) ms ?_
   refine Ar (i+1 : Nat) rfl ?_
   refine Bk (i+1,(lo.set i (s % 4294967296+w)).set (i+1) (s / 4294967296)) [] rfl ⟨by omega,by simp [hl],Xgo (Xgo hwo hlt) (by omega),?_,s / 4294967296,by rw [W2u (by rw [W3i];omega)],?_⟩ (by show _ - (i+1)<_ - i;omega)
   · rw [Xbc (by rw [W3i];omega),Xbc (by omega),Xac hu,W1g,←hval,Xac hw,W0q,←hs,W0s,W0w,W0q]
     have e : 4294967296 ^ i*s=4294967296 ^ i*(s % 4294967296)+4294967296 ^ i*(4294967296*(s / 4294967296)):=by rw [←W0w];congr 1;omega
     omega
   · rw [W2l (by decide),hs,W1d]
     exact Nat.mul_lt_mul_of_pos_left hub hp
 · have him : i=(dig x).length:=by omega
   rw [him,W0a (by omega),W0a (by omega),Xaf] at hval
   exact Rw [(11,1000000)] [(1000000,.arr 1 (lo.map wd))] rfl (.one (.rf rfl) rfl rfl) ⟨_,rfl,lo,hl,hwo,hval,by rw [hl];rfl,rfl⟩
theorem Xlj {n x : Nat} (hx : (dig x).length≤549755813888) (hn32 : n<32) : C0 321 [.d (ws (dig x)),.d (.int .i64 n)] fun v=>∃ l,l.length=(dig x).length+1∧Xal l∧val l=x*2 ^ n∧v=.d (ws l) :=
 CW.data (Xef hx hn32) rfl fun v H' ⟨ob,e,l,h1,h2,h3,h4,h5⟩=>⟨.d (ws l),by rw [h4,e,h5];exact .one (.own rfl (by simp) (oa rfl)) rfl rfl,l,h1,h2,h3,rfl⟩
theorem Xr4 {u v n : Nat} (hu : u<4294967296) (hn : n<32) : (u+v*4294967296) / 2 ^ n % 4294967296=u / 2 ^ n+(v % 2 ^ n)*2 ^ (32 - n):=by
 have e : v*4294967296=v*2 ^ (32 - n)*2 ^ n:=by
  rw [W0q,←W0u,show 32 - n+n=32 from by omega]
 rw [e,Nat.add_mul_div_right _ _ (W0n n)]
 have h1:=Xdn v (32 - n) (by omega)
 rw [show 32 - (32 - n)=n from by omega] at h1
 have h2:=(Xli (v:=v) hu hn).2
 rw [←h1] at h2 ⊢
 generalize v*2 ^ (32 - n)=X at *
 generalize u / 2 ^ n=A at *
 omega
theorem Ye2 {n x : Nat} (hx : (dig x).length≤1099511627776) (hn32 : n<32) : C0 323 [.d (ws (dig x)),.d (.int .i64 n)] (·=.d (ws (dig (x / 2 ^ n)))):=by
 have hp:=W0n n
 have hp32 : 2 ^ n≤2147483648:=by have : 2 ^ n≤2 ^ 31:=W0k (by decide) (by omega);omega
 obtain ⟨m,hm⟩ : ∃ m,(dig x).length=m:=⟨_,rfl⟩
 rw [hm] at hx
 have hvx:=Xaf x
 refine En Tryz.func323 fun _ _ _=>?_
 refine Mk m rfl (by simp only [lw];omega) ?_ (by simp only [lw,hm])
 refine Lo (fun (i,lo)=>[(0,.d (ws (dig x))),(1,.d (.int .i64 n)),(5,.own 10 1 0 m),(6,.d (.int .i64 (i : Nat)))]) (fun (_,lo)=>[(10,.arr 1 (lo.map wd))])
  (fun (i,lo)=>i≤m∧lo.length=m∧Xal lo∧val (lo.take i)*2 ^ n+x % 2 ^ n=val ((dig x).take i)+4294967296 ^ i*((dig x).getD i 0 % 2 ^ n)) (fun (i,_)=>m - i) (0,List.replicate m 0) [] rfl
  ⟨by omega,by simp,Xe6 _,by have:=Xg9 (dig x) n (by omega);rw [hvx] at this;simp [val,this]⟩ ?_ (by exact ⟨rfl,by simp only [W2d];rfl,rfl,rfl,rfl⟩)
 rintro ⟨i,lo⟩ ⟨hi,hl,hwo,hval⟩
 refine By rfl (fun h=>?_) fun h=>?_ <;> simp only [lw] at h
 · obtain ⟨u,hu⟩:=xat (l:=dig x) (k:=i) (by omega)
   have hub:=ww hu (Xad x)
   have hgu : (dig x).getD i 0=u:=by rw [W2q,hu];rfl
   rw [hgu] at hval
   refine Ix i rfl (mp hu) ?_
   refine Go.Vm.Cv u rfl ?_
   refine Ar (i+1 : Nat) rfl ?_
   refine Cu none (fun s : Nat=>[(0,.d (ws (dig x))),(1,.d (.int .i64 n)),(5,.own 10 1 0 m),(6,.d (.int .i64 i)),(7,.d (.int .u64 s))]) (fun _=>[(10,.arr 1 (lo.map wd))])
    (fun s=>∃ v,(dig x).getD (i+1) 0=v∧v<4294967296∧s=u+v*4294967296) rfl ?_ fun s ⟨v,hv,hvb,hs⟩=>?_
   · refine By rfl (fun h2=>?_) fun h2=>?_ <;> simp only [lw] at h2
     · obtain ⟨v,hv⟩:=xat (l:=dig x) (k:=i+1) (by omega)
       have hvb:=ww hv (Xad x)
       refine Ar (i+1 : Nat) rfl ?_
       refine Ix (i+1) rfl (mp hv) ?_
       refine Go.Vm.Cv v rfl ?_
       refine Ar (v*2 ^ 32 : Nat) rfl ?_ (Xhh (n:=32) rfl (by omega) (by decide))
       refine Ar (u+v*4294967296 : Nat) rfl ?_ (Ya8 (by omega) (by omega) (by rw [Nat.or_comm,Xdb u v 32 (by omega)];omega) (by omega))
       exact Jn (u+v*4294967296) [] rfl ⟨v,by rw [W2q,hv];rfl,hvb,rfl⟩
     · exact Jn u [] rfl ⟨0,by rw [W2q,W2a (by omega)];rfl,by decide,by omega⟩
   have hbd:=Xr4 (v:=v) hub hn32
   rw [←hs] at hbd
   refine Ar (s / 2 ^ n : Nat) rfl ?_ (Xij (show n≤64 by omega))
   refine Go.Vm.Cv (s / 2 ^ n % 4294967296 : Nat) rfl ?_ (by rw [wWm];omega)
   refine Eo i rfl (by omega) ?_
   refine Sto rfl (by simp only [lw];omega) ms ?_
   refine Ar (i+1 : Nat) rfl ?_
   refine Bk (i+1,lo.set i (s / 2 ^ n % 4294967296)) [] rfl ⟨by omega,by simp [hl],Xgo hwo (by omega),?_⟩ (by show m - (i+1)<m - i;omega)
   rw [Xbc (by omega),Xac hu,hv,hbd]
   exact Xpb hn32 hval
 · have him : i=m:=by omega
   rw [him,W0a (by omega),W0a (by omega),W2q,W2a (by omega),hvx] at hval
   have hfin : val lo=x / 2 ^ n:=by
    simp at hval
    have:=W2j x (2 ^ n)
    rw [W1d] at this
    exact Nat.eq_of_mul_eq_mul_right hp (by omega)
   refine Fz 9 5 (lo.map wd) rfl (by simp only [lw];omega) (oa hl) ?_
   refine Ce rfl (trim_ok hwo (by omega)) ?_
   exact R1 rfl (.eq (by rw [hfin]))
end
section
theorem Xv2 {q N y V : Nat} {l : List Nat} (hw : Xal l) (hq : q+N≤l.length) (hN : N=(dig y).length+1) (hy0 : y≠0) (hn40 : N≤1099511627776) (hV : val ((l.drop q).take N)=V) (hlt : V<4294967296*y) (hy : (dig y).length≤549755813888) :
 CN0 322 [.own 1000001 1 q N,.d (ws (dig y))] [(1000001,.arr 1 (l.map wd))] (·=.tup (.pr (.d (.int .u32 (V / y : Nat))) (.d (ws (dig (y*(V / y))))))):=by
 obtain ⟨n,hn⟩ : ∃ n,n=(dig y).length:=⟨_,rfl⟩
 rw [←hn] at hN hy
 have hn0 : n≠0:=fun e=>hy0 (Yna.1 (by omega))
 obtain ⟨t,ht,ht0⟩ : ∃ t,(dig y)[n - 1]?=some t∧t≠0:=by
  rcases Xgx y with h1 | h1
  · exact absurd (Xrz.1 h1) hy0
  · rw [←hn] at h1;exact h1
 have htb:=ww ht (Xad y)
 obtain ⟨u0,hu0⟩:=xat (l:=l) (k:=q+n) (by omega)
 obtain ⟨u1,hu1⟩:=xat (l:=l) (k:=q+(n - 1)) (by omega)
 have hub0:=ww hu0 hw
 have hub1:=ww hu1 hw
 have hqB : V / y<4294967296:=by rw [W2l (W2h hy0)];exact hlt
 have hq00:=W1c (V / y)
 obtain ⟨top,htop⟩ : ∃ top,top=u0*2 ^ 32+u1:=⟨_,rfl⟩
 have htopb : top<18446744073709551616:=by omega
 have hest : V / y≤top / t:=by
  have e1:=Xbx hu1
  rw [show n - 1+1=n from by omega] at e1
  have e2:=Xbx hu0
  rw [←hN,hV,e1] at e2
  have e3:=Xac ht
  rw [show n - 1+1=(dig y).length from by omega,W2b,Xaf] at e3
  have hlow:=Xbq ((hw.drop q).take (n - 1))
  rw [Xxe (by omega)] at hlow
  have hM : 4294967296 ^ n=4294967296 ^ (n - 1)*4294967296:=by rw [←W0s];congr 1;omega
  rw [hM] at e2
  generalize 4294967296 ^ (n - 1)=M at *
  generalize val ((l.drop q).take (n - 1))=low at *
  generalize val ((dig y).take (n - 1))=vlow at *
  have h1 : V<M*(top+1):=by
   have : M*(u0*2 ^ 32+u1+1)=M*u1+M*4294967296*u0+M:=by grind
   rw [htop];omega
  have h2 : M*t≤y:=by omega
  have hM0 : 0<M:=by omega
  have h3 : V / y≤V / (M*t):=Nat.div_le_div_left h2 (W1j hM0 (W2h ht0))
  refine W0h h3 ?_
  rw [←W5y]
  refine Nat.div_le_div_right ?_
  have:=(W2l hM0).2 (by rw [W1d];exact h1)
  omega
 refine EnW Tryz.func322 fun _ _ _ _=>?_
 refine Dw rfl ?_
 refine El n rfl (by omega) ?_ (by simp only [lw];omega)
 refine Ld (wd u0) rfl (mp hu0) ?_
 refine Go.Vm.Cv u0 rfl ?_
 refine Ar (u0*2 ^ 32 : Nat) rfl ?_ (Xhh (n:=32) rfl (by omega) (by decide))
 refine Ar (n - 1 : Nat) rfl ?_ (wr (by simp only [lw];omega) (by simp only [inK];omega))
 refine El (n - 1) rfl (by omega) ?_
 refine Ld (wd u1) rfl (mp hu1) ?_
 refine Go.Vm.Cv u1 rfl ?_
 refine Ar top rfl ?_ (Ya8 (by omega) (by omega) (by rw [Xdb u1 u0 32 (by omega),htop]) htopb)
 refine Ar (n - 1 : Nat) rfl ?_ (wr (by simp only [lw];omega) (by simp only [inK];omega))
 refine Ix (n - 1) rfl (mp ht) ?_
 refine Go.Vm.Cv t rfl ?_
 have htt0:=W1c (top / t)
 have htt1:=W3u top t
 refine Ar (top / t : Nat) rfl ?_ (show _∧_ from ⟨by omega,Yci top t htopb⟩)
 refine Cu none (fun g : Nat=>[(0,.own 1000001 1 q N),(1,.d (ws (dig y))),(7,.d (.int .u64 g))]) (fun _=>[(1000001,.arr 1 (l.map wd))]) (fun g=>V / y≤g∧g<4294967296) rfl ?_ fun g0 ⟨hg0,hgB⟩=>?_
 · refine By rfl (fun h=>?_) fun h=>?_
   · exact Jn 4294967295 [] rfl ⟨by omega,by decide⟩
   · exact Jn (top / t) [] rfl ⟨hest,by omega⟩
 refine Go.Vm.Cv g0 rfl ?_
 refine Ce (r:=.d (ws (dig (y*g0)))) rfl (by have:=Xs0 (Xad y) (Y:=[g0]) (.cons hgB .nil) (by omega) (by simp);rwa [Xaf,show val [g0]=g0 from by simp [val]] at this) ?_
 refine Lo (fun g : Nat=>[(0,.own 1000001 1 q N),(1,.d (ws (dig y))),(7,.d (.int .u64 g)),(8,.d (ws (dig (y*g))))]) (fun _=>[(1000001,.arr 1 (l.map wd))]) (fun g=>V / y≤g∧g<4294967296) (fun g=>g) g0 [] rfl ⟨hg0,hgB⟩ fun g ⟨hg,hgB⟩=>?_
 refine Cn [] rfl (Xgw hw hq hn40) fun v hv=>?_
 obtain ⟨k,hk,rfl,hkl⟩:=hv
 rw [hV] at hkl
 refine Cn [] rfl (Xod (by omega) hkl (by rw [←hkl,Xxe (by omega)];omega)) fun v hv=>?_
 obtain rfl : v=_:=hv
 refine By rfl (fun h=>?_) fun h=>?_
 · have hlt2 : V<y*g:=Xzj.1 h
   have hg1 : V / y<g:=by rw [W2l (W2h hy0),W1d];exact hlt2
   have hyg : y*g - y=y*(g - 1):=by rw [Nat.mul_sub_one]
   have hle : y≤y*g:=W4h _ (by omega)
   have hlen : (dig (y*g)).length≤1099511627776:=by
    have h1:=Xkj y g
    have h2 : (dig g).length≤1:=Xap (by omega)
    omega
   refine Ar (g - 1 : Nat) rfl ?_
   refine Ce rfl (Xdo hlen hle) ?_
   exact Bk (g - 1) [] rfl ⟨by omega,by omega⟩ (by show g - 1<g;omega) (by exact ⟨by rw [hyg];rfl,rfl,rfl,rfl,rfl⟩)
 · have hge2 : y*g≤V:=W3w fun hlt=>h (Xzj.2 hlt)
   have hg2 : g=V / y:=Nat.le_antisymm ((W7e (W2h hy0)).2 (by rw [W1d];exact hge2)) hg
   refine Go.Vm.Cv g rfl ?_
   exact Rw [] [(1000001,.arr 1 (l.map wd))] rfl (.tup (.cons (.rf rfl) (.one (.rf rfl) (fun _ _ e=>by cases e) (fun _ _ e=>by cases e)))) ⟨rfl,by rw [hg2];rfl⟩
theorem Xcl {x y : Nat} (hx : (dig x).length≤549755813888) (hy : (dig y).length≤549755813888) (hy0 : y≠0) : C0 252 [.d (ws (dig x)),.d (ws (dig y))] (·=.tup (.pr (.d (ws (dig (x / y)))) (.d (ws (dig (x % y)))))):=by
 refine En Tryz.func252 fun _ _ _=>?_
 refine Ce rfl (Xbt (by omega)) ?_
 refine By rfl (fun h=>?_) fun h=>?_
 · have hlt : x<y:=Xzj.1 h
   exact RTt rfl (.cons (.nil (by rw [W5c hlt,Xai];rfl)) (.one (.eq (by rw [W3p hlt])) (fun _ _ e=>by cases e) (fun _ _ e=>by cases e)))
 have hge : y≤x:=W3w fun hlt=>h (Xzj.2 hlt)
 have hlenle:=Xao hge
 refine By rfl (fun h2=>?_) fun h2=>?_ <;> simp only [lw] at h2
 · have hx64 : x<18446744073709551616:=by
    have:=Xcm x
    have h1 : 4294967296 ^ (dig x).length≤4294967296 ^ 2:=W0k (by decide) (by omega)
    omega
   refine Ce rfl (Xpc (by omega)) ?_
   refine Ce rfl (Xpc (by omega)) ?_
   have hq64 : x / y<18446744073709551616:=W1r (W3u ..) hx64
   have hr64 : x % y<18446744073709551616:=W1r (Nat.mod_le ..) hx64
   refine Dw rfl ?_
   refine Ar (x / y : Nat) rfl ?_ (show _∧_ from ⟨by omega,Yci x y hx64⟩)
   refine Ce rfl (Xco hq64) ?_
   refine Ar (x % y : Nat) rfl ?_ (show _∧_ from ⟨by omega,Xsy x y⟩)
   refine Ce rfl (Xco hr64) ?_
   exact R0t
 refine By rfl (fun h3=>?_) fun h3=>?_ <;> simp only [lw] at h3
 · obtain ⟨t,ht⟩:=xat (l:=dig y) (k:=0) (by omega)
   have htb:=ww ht (Xad y)
   have hyt : y=t:=by
    have:=Xac ht
    rw [W0a (by omega),Xaf] at this
    simpa [val] using this
   have hrt : x % t<t:=W1y _ (by omega)
   have hr0:=W1c (x % t)
   refine Ix 0 rfl (mp ht) ?_
   refine Ce rfl (Yl2 (y:=t) hx htb (by omega)) ?_
   refine Go.Vm.Cv (x % t : Nat) rfl ?_
   refine Ce rfl (Xco (n:=x % t) (by omega)) ?_
   exact RTt rfl (.cons (.eq (by rw [hyt])) (.one (.eq (by rw [hyt])) (fun _ _ e=>by cases e) (fun _ _ e=>by cases e)))
 have hy1 : 1≤(dig y).length:=by
  have : (dig y).length≠0:=fun h=>hy0 (Yna.1 h)
  omega
 refine Ar (32*(dig y).length : Nat) rfl ?_ (wr (by simp only [lw];omega) (by simp only [inK];omega))
 refine Ca rfl (Xl1 (by omega) hy0) fun v hv=>?_
 obtain ⟨t,ht,ht0,htb,rfl⟩:=hv
 obtain ⟨bb1,bb2,bb3⟩:=Xcf ht0
 have hb32 : bl t≤32:=by
  have : 2 ^ (bl t - 1)<2 ^ 32:=W1r bb1 htb
  have:=(W2p (by decide : 1<2)).1 this
  omega
 obtain ⟨s,hs⟩ : ∃ s,s=32 - bl t:=⟨_,rfl⟩
 have hs32 : s<32:=by omega
 have hs1 : 2147483648≤t*2 ^ s:=by
  have h1:=W0y (2 ^ (32 - bl t)) bb1
  rw [←W0u,show bl t - 1+(32 - bl t)=31 from by omega] at h1
  rw [hs];exact h1
 have hs2 : t*2 ^ s<4294967296:=by
  have h1:=W3e bb2 (W0n (32 - bl t))
  rw [←W0u,show bl t+(32 - bl t)=32 from by omega] at h1
  rw [hs];exact h1
 refine Ar s rfl ?_
 obtain ⟨hlen,t',ht',htt⟩:=Xp6 hy0 ht hs1 hs2
 refine Co rfl (Xef hx hs32) fun v ob hv=>?_
 obtain ⟨lu0,hul,huw,huv,rfl,rfl⟩:=hv
 refine Ca rfl (Xlj hy hs32) fun v hv=>?_
 obtain ⟨lv,hvl,hvw,hvv,rfl⟩:=hv
 obtain ⟨Y,hY⟩ : ∃ Y,Y=y*2 ^ s:=⟨_,rfl⟩
 rw [←hY] at hlen hvv
 refine Ce (r:=.d (ws (dig Y))) rfl (by have:=trim_ok hvw (by omega);rwa [hvv] at this) ?_
 obtain ⟨mv,hmv⟩ : ∃ mv,mv=(dig Y).length:=⟨_,rfl⟩
 obtain ⟨m,hm⟩ : ∃ m,m=(dig x).length:=⟨_,rfl⟩
 refine Mk m rfl (by simp only [lw];omega) ?_ (by simp only [lw,hm])
 refine Ar ((lu0.length - mv : Nat) - 1 : Int) rfl ?_ (wr (by simp only [lw];omega) (by simp only [inK];omega))
 have hY0 : Y≠0:=by rw [hY];exact Nat.mul_ne_zero hy0 (W7n.1 (W0n s))
 have hYl:=Xcm Y
 have hR0 : val (lu0.drop (lu0.length - mv))<Y:=by
  have h1:=Xbg lu0 (lu0.length - mv) (by omega)
  rw [huv] at h1
  have h2:=Xmk hy0
  have h3:=Xcm x
  have hp:=W0n s
  apply W1e
  intro hn2
  have h4 : 4294967296 ^ (lu0.length - mv)*Y≤x*2 ^ s:=by
   rw [h1]
   have:=W0m (4294967296 ^ (lu0.length - mv)) (W3w hn2)
   omega
  rw [hY,←W0q] at h4
  have h5:=Nat.le_of_mul_le_mul_right h4 hp
  have h6:=W0m (4294967296 ^ (lu0.length - mv)) h2
  rw [←W0u,show lu0.length - mv+((dig y).length - 1)=(dig x).length from by omega] at h6
  omega
 refine Lo (fun (k,lu,lq)=>[(10,.d (.int .i64 s)),(11,.own 63 1 0 lu0.length),(12,.d (ws (dig Y))),(13,.own 70 1 0 m),(14,.d (.int .i64 ((k : Nat) - 1 : Int)))]) (fun (_,lu,lq)=>[(63,.arr 1 (lu.map wd)),(70,.arr 1 (lq.map wd))])
  (fun (k,lu,lq)=>k≤lu0.length - mv∧lu.length=lu0.length∧Xal lu∧lq.length=m∧Xal lq∧(∀ j,j<k→lu[j]?=lu0[j]?)∧val (lu.drop k)<Y∧val (lq.drop k)*Y+val (lu.drop k)=val (lu0.drop k)) (fun (k,_,_)=>k) (lu0.length - mv,lu0,List.replicate m 0) [] rfl
  ⟨by omega,rfl,huw,by simp,Xe6 _,fun _ _=>rfl,hR0,by rw [List.drop_replicate,Xbm];simp⟩ ?_ (by exact ⟨rfl,by simp only [W2d];rfl,rfl,rfl,rfl⟩)
 rintro ⟨k,lu,lq⟩ ⟨hk,hln,hwu,hlq,hwq,hsame,hRlt,hQR⟩
 refine By rfl (fun h=>?_) fun h=>?_
 · obtain ⟨hwin,hUlt⟩:=Yaa (n:=mv) (i:=k - 1) (Y:=Y) hwu (by omega) (by rw [show k - 1+1=k from by omega];exact hRlt) (by rw [hmv];exact W1z hYl)
   obtain ⟨U,hU⟩ : ∃ U,U=val (lu.drop (k - 1)):=⟨_,rfl⟩
   rw [←hU] at hwin hUlt
   have hqB : U / Y<4294967296:=by rw [W2l (W2h hY0)];exact hUlt
   have hqz0 : 0≤U / Y:=W1c _
   have hUlt2 : U % Y<Y:=W1y _ (W2h hY0)
   have eN : k - 1+mv+1 - (k - 1)=mv+1:=by omega
   refine Ar (k - 1+mv : Nat) rfl ?_ (wr (by simp only [lw];omega) (by simp only [inK];omega))
   refine Ar (k - 1+mv+1 : Nat) rfl ?_
   refine Sw (k - 1) (k - 1+mv+1) rfl (by omega) (by omega) ?_
   have hwin2 : val ((lu.drop (0+(k - 1))).take (k - 1+mv+1 - (k - 1)))=U:=by rw [W1n,eN];exact hwin.symm
   refine Cn [(1000001,63)] rfl (Xv2 (l:=lu) (q:=0+(k - 1)) (N:=k - 1+mv+1 - (k - 1)) (V:=U) hwu (by omega) (by omega) hY0 (by omega) hwin2 hUlt (by omega)) fun v hv=>?_
   obtain rfl : v=_:=hv
   refine Eo (k - 1) rfl (by omega) ?_
   refine Sto rfl (by simp only [lw];omega) ms ?_
   refine Cn [(1000001,63)] rfl (Xgw (l:=lu) (q:=0+(k - 1)) (n:=k - 1+mv+1 - (k - 1)) hwu (by omega) (by omega)) fun v hv=>?_
   obtain ⟨k2,hk2,rfl,hkl⟩:=hv
   rw [hwin2] at hkl
   have hUY : Y*(U / Y)≤U:=Nat.mul_div_le U Y
   have hUmod : U - Y*(U / Y)=U % Y:=by have:=W2j U Y;omega
   refine Cn [(1000001,63)] rfl (Xum (l:=lu) (q:=0+(k - 1)) (m:=k2) (by omega) hkl (by rw [←hkl,Xxe (by omega)];omega) hUY) fun v hv=>?_
   rw [hUmod] at hv
   obtain rfl : v=_:=hv
   have hdlen:=Xao (W1z hUlt2)
   refine Lo (fun (i,lo)=>[(10,.d (.int .i64 s)),(11,.own 63 1 0 lu0.length),(12,.d (ws (dig Y))),(13,.own 70 1 0 m),(14,.d (.int .i64 ((k : Nat) - 1 : Int))),(15,.own 63 1 (0+(k - 1)) (k - 1+mv+1 - (k - 1))),(18,.d (ws (dig (U % Y)))),(19,.d (.int .i64 (i : Nat)))]) (fun (_,lo)=>[(63,.arr 1 (lo.map wd)),(70,.arr 1 ((lq.set (k - 1) (U / Y)).map wd))])
    (fun (i,lo)=>i≤mv+1∧lo.length=lu0.length∧Xal lo∧(∀ j,(j<k - 1∨k - 1+i≤j)→lo[j]?=lu[j]?)∧val ((lo.drop (k - 1)).take i)=val ((dig (U % Y)).take i)) (fun (i,_)=>mv+1 - i) (0,lu) [] rfl
    ⟨by omega,hln,hwu,fun _ _=>rfl,rfl⟩ ?_
   rintro ⟨i,lo⟩ ⟨hi,hlo,hwo,hsame2,hval2⟩
   refine By rfl (fun h1=>?_) fun h1=>?_
   · refine El i rfl (by omega) ?_
     refine Sto rfl (by simp only [lw];omega) (ms (f:=wd) (u:=0)) ?_
     have eJ : 0+(k - 1)+i=k - 1+i:=by omega
     refine Cu none (fun g : Nat=>[(10,.d (.int .i64 s)),(11,.own 63 1 0 lu0.length),(12,.d (ws (dig Y))),(13,.own 70 1 0 m),(14,.d (.int .i64 ((k : Nat) - 1 : Int))),(15,.own 63 1 (0+(k - 1)) (k - 1+mv+1 - (k - 1))),(18,.d (ws (dig (U % Y)))),(19,.d (.int .i64 i))]) (fun g=>[(63,.arr 1 ((lo.set (k - 1+i) g).map wd)),(70,.arr 1 ((lq.set (k - 1) (U / Y)).map wd))])
      (fun g=>g<4294967296∧val ((dig (U % Y)).take (i+1))=val ((dig (U % Y)).take i)+4294967296 ^ i*g) rfl ?_ fun g ⟨hgb,hg⟩=>?_
     · refine By rfl (fun h2=>?_) fun h2=>?_ <;> simp only [lw] at h2
       · obtain ⟨w,hw⟩:=xat (l:=dig (U % Y)) (k:=i) (by omega)
         have hwb:=ww hw (Xad (U % Y))
         refine Ix i rfl (mp hw) ?_
         refine El i rfl (by omega) ?_
         refine Sto rfl (by simp only [lw,W3i];omega) ms ?_
         exact Jn w [] rfl ⟨hwb,Xac hw⟩ (by exact ⟨rfl,by rw [List.set_set,eJ];rfl,rfl,rfl,rfl⟩)
       · exact Jn 0 [] rfl ⟨by decide,by rw [Xf0 (by omega)];rfl⟩ (by exact ⟨rfl,by rw [eJ];rfl,rfl,rfl,rfl⟩)
     refine Ar (i+1 : Nat) rfl ?_
     exact Bk (i+1,lo.set (k - 1+i) g) [] rfl ⟨by omega,by simp [hlo],Xgo hwo hgb,fun j hj=>by rw [W1w (by omega)];exact hsame2 j (by omega),by rw [Xe8 (by omega),hval2,hg]⟩ (by show mv+1 - (i+1)<mv+1 - i;omega)
   · have hik : i=mv+1:=by omega
     subst hik
     rw [W0a (l:=dig (U % Y)) (by omega),Xaf] at hval2
     have hab : val (lo.drop (k - 1))=U % Y:=by
      have g1:=Xbg (lo.drop (k - 1)) (mv+1) (by rw [W2e];omega)
      have g2:=Xbg (lu.drop (k - 1)) (mv+1) (by rw [W2e];omega)
      have g3 : (lo.drop (k - 1)).drop (mv+1)=(lu.drop (k - 1)).drop (mv+1):=by
       rw [W6d,W6d]
       exact Xek fun j hj=>hsame2 j (.inr hj)
      rw [←hU,←hwin] at g2
      rw [g1,hval2,g3]
      omega
     obtain ⟨w,hw⟩:=xat (l:=lu) (k:=k - 1) (by omega)
     have hw2 : lu0[k - 1]?=some w:=by rw [←hsame (k - 1) (by omega)];exact hw
     have hfin : val ((lq.set (k - 1) (U / Y)).drop (k - 1))*Y+val (lo.drop (k - 1))=val (lu0.drop (k - 1)):=by
      have g1:=Xbn hw
      have g2:=Xbn hw2
      have g3:=Xbn (l:=lq.set (k - 1) (U / Y)) (k:=k - 1) (W2u (by omega))
      have g4 : (lq.set (k - 1) (U / Y)).drop (k - 1+1)=lq.drop (k - 1+1):=Xek fun j hj=>W1w (by omega)
      rw [show k - 1+1=k from by omega] at g1 g2 g3 g4
      rw [hab,g2,g3,g4,←hQR,W1g,W0q,W0w]
      have g5:=W2j U Y
      rw [W1d] at g5
      rw [←hU] at g1
      omega
     refine Ar ((k - 1 : Nat) - 1 : Int) rfl ?_
     exact Bk (k - 1,lo,lq.set (k - 1) (U / Y)) [] rfl ⟨by omega,hlo,hwo,by simp [hlq],Xgo hwq hqB,fun j hj=>(hsame2 j (.inl hj)).trans (hsame j (by omega)),by rw [hab];exact hUlt2,hfin⟩ (by show k - 1<k;omega)
 · have hk0 : k=0:=by omega
   subst hk0
   rw [W1b] at hRlt hQR
   rw [W1b,W1b,huv] at hQR
   obtain ⟨hQ,hR⟩:=Xv1 hY.symm hQR hRlt
   refine Fz 25 13 (lq.map wd) rfl (by simp only [lw];omega) (oa hlq) ?_
   refine Fz 25 11 (lu.map wd) rfl (by simp only [lw];omega) (oa hln) ?_
   refine Ce rfl (trim_ok hwq (by omega)) ?_
   refine Ce rfl (trim_ok hwu (by omega)) ?_
   refine Ce rfl (Ye2 (by have:=Xao (W1z hRlt);omega) hs32) ?_
   exact RTt rfl (.cons (.eq (by rw [hQ])) (.one (.eq (by rw [hR,Nat.mul_div_cancel _ (W0n s)])) (fun _ _ e=>by cases e) (fun _ _ e=>by cases e)))
end
section
theorem GCD_ok {a b : Int} (ha : (dig a.natAbs).length≤549755813888) (hb : (dig b.natAbs).length≤549755813888) : C0 161 [.d (dz a),.d (dz b)] (·=.d (dz (Int.gcd a b))):=by
 refine En Tryz.func161 fun _ _ _=>?_
 refine Dw rfl ?_
 refine Ce rfl (trim_dig_ok (by omega)) ?_
 refine Ce rfl (trim_dig_ok (by omega)) ?_
 refine Lo (fun ((x,y) : Nat × Nat)=>[(4,.ptr 4 0),(5,.d (ws (dig x))),(6,.d (ws (dig y)))]) (fun _=>[(4,.var (.st (.pr (.b false) .nil)))]) (fun (x,y)=>Nat.gcd x y=Int.gcd a b∧(dig x).length≤549755813888∧(dig y).length≤549755813888) (fun (_,y)=>y) (a.natAbs,b.natAbs) [] rfl ⟨rfl,ha,hb⟩ fun ⟨x,y⟩ ⟨hg,hx,hy⟩=>?_
 refine By rfl (fun h1=>?_) fun h1=>?_ <;> simp only [lw] at h1
 · have h0 : y≠0:=fun e=>by have:=Yna.2 e;omega
   have hlt:=W1y x (W2h h0)
   refine Ce rfl (Xcl hx hy h0) ?_
   exact Bk (y,x % y) [] rfl ⟨by rw [←hg,W6t y,←Nat.gcd_rec,W6t],hy,W0h (Xao (W1z hlt)) hy⟩ hlt
 · have h0 : y=0:=Yna.1 (by omega)
   subst h0
   rw [Nat.gcd_zero_right] at hg
   refine Ce rfl (Xak (b:=false) (by omega)) ?_
   exact R1 rfl (.eq (by rw [Xgz,hg]))
theorem Xvq {z b q r : Int} (e : b*q+r=z) (h : (0≤r∧r<b)∨(b<r∧r≤0)) : z.fdiv b=q∧z.fmod b=r:=by
 rcases h with ⟨h1,h2⟩ | ⟨h1,h2⟩
 · rw [W1l _ (by omega),W5i _ (by omega)]
   exact (W7i (a:=z) (b:=b) (by omega)).2 ⟨by rw [Int.add_comm];exact e,h1,h2⟩
 · have h3 : (-z).fdiv (-b)=q∧(-z).fmod (-b)=-r:=by
    rw [W1l _ (by omega),W5i _ (by omega)]
    exact (W7i (a:=-z) (b:=-b) (by omega)).2 ⟨by rw [←e,Int.neg_mul];omega,by omega,by omega⟩
   rw [W7c,Int.neg_fmod_neg] at h3
   exact ⟨h3.1,by omega⟩
theorem qr0 {z b : Int} (hb : b≠0) : z - sg (decide (z<0) != decide (b<0)) (z.natAbs / b.natAbs)*b=sg (decide (z<0)) (z.natAbs % b.natAbs):=by
 have e:=W2j z.natAbs b.natAbs
 have hz : z=sg (decide (z<0)) z.natAbs:=by unfold sg;by_cases h : z<0 <;> simp [h] <;> omega
 have hb : b=sg (decide (b<0)) b.natAbs:=by unfold sg;by_cases h : b<0 <;> simp [h] <;> omega
 generalize decide (z<0)=dz at *
 generalize decide (b<0)=db at *
 generalize z.natAbs=A at *
 generalize b.natAbs=B at *
 generalize A / B=q at *
 generalize A % B=r at *
 have e2 : (A : Int)=(B : Int)*q+r:=by rw [←e];push_cast;rfl
 subst hz
 subst hb
 cases dz <;> cases db <;> simp [sg,e2] <;> grind
theorem Xnf (b : Bool) (n : Nat) : (sg b n).natAbs=n:=by cases b <;> simp [sg]
theorem Ybs {z b : Int} (hb : b≠0) (h : Xa1 (sg (decide (z<0)) (z.natAbs % b.natAbs)) 0*Xa1 b 0<0) :
 sg (decide (z<0) != decide (b<0)) (z.natAbs / b.natAbs) - 1=z.fdiv b∧sg (decide (z<0)) (z.natAbs % b.natAbs)+b=z.fmod b:=by
 have h0:=@qr0 z b hb
 have h1:=Xnf (decide (z<0)) (z.natAbs % b.natAbs)
 have h2:=W1y z.natAbs (y:=b.natAbs) (by omega)
 generalize sg (decide (z<0)) (z.natAbs % b.natAbs)=r at *
 generalize sg (decide (z<0) != decide (b<0)) (z.natAbs / b.natAbs)=q at *
 have:=Xvq (z:=z) (b:=b) (q:=q - 1) (r:=r+b) (by rw [←Int.sub_add_cancel z (q*b),h0];grind) (by
  unfold Xa1 at h
  repeat' split at h
  all_goals first | omega | (left;omega) | (right;omega))
 exact ⟨this.1.symm,this.2.symm⟩
theorem Ybt {z b : Int} (hb : b≠0) (h : ¬ Xa1 (sg (decide (z<0)) (z.natAbs % b.natAbs)) 0*Xa1 b 0<0) :
 sg (decide (z<0) != decide (b<0)) (z.natAbs / b.natAbs)=z.fdiv b∧sg (decide (z<0)) (z.natAbs % b.natAbs)=z.fmod b:=by
 have h0:=@qr0 z b hb
 have h1:=Xnf (decide (z<0)) (z.natAbs % b.natAbs)
 have h2:=W1y z.natAbs (y:=b.natAbs) (by omega)
 generalize sg (decide (z<0)) (z.natAbs % b.natAbs)=r at *
 generalize sg (decide (z<0) != decide (b<0)) (z.natAbs / b.natAbs)=q at *
 have:=Xvq (z:=z) (b:=b) (q:=q) (r:=r) (by rw [←Int.sub_add_cancel z (q*b),h0];grind) (by
  unfold Xa1 at h
  repeat' split at h
  all_goals first | omega | (left;omega) | (right;omega))
 exact ⟨this.1.symm,this.2.symm⟩
theorem Xzk (a b c d : Int) : -1≤Xa1 a b*Xa1 c d∧Xa1 a b*Xa1 c d≤1:=by
 unfold Xa1;repeat' split
 all_goals omega
theorem DivMod_ok {a b : Int} (ha : (dig a.natAbs).length≤549755813888) (hb : (dig b.natAbs).length≤549755813888) (hb0 : b≠0) : C0 253 [.d (dz a),.d (dz b)] (·=.tup (.pr (.d (dz (a.fdiv b))) (.pr (.d (dz (a.fmod b))) (.d (.int .i64 0))))):=by
 have hlq : (dig (a.natAbs / b.natAbs)).length≤549755813888:=W0h (Xao (W3u ..)) ha
 have hlr : (dig (a.natAbs % b.natAbs)).length≤549755813888:=W0h (Xao (Nat.mod_le ..)) ha
 have hlqz : (dig (sg (decide (a<0) != decide (b<0)) (a.natAbs / b.natAbs)*b).natAbs).length≤549755813888:=by
  rw [W4f,Xnf]
  exact W0h (Xao (W6j ..)) ha
 refine En Tryz.func253 fun _ _ _=>?_
 refine Dw rfl ?_
 refine Ce rfl (Norm_ok (by omega)) ?_
 refine Ce rfl (Norm_ok (by omega)) ?_
 refine No rfl (by simp only [lw];have:=@Yna b.natAbs;omega) ?_
 refine Ce rfl (Xcl ha hb (by omega)) ?_
 refine Ce rfl (Xak (by omega)) ?_
 refine Dw rfl ?_
 refine Ce (r:=.d (dz (sg (decide (a<0) != decide (b<0)) (a.natAbs / b.natAbs)*b))) rfl (by rw [Yb2];exact Mul_ok (by rw [Xnf];exact hlq) hb) ?_
 refine Ce rfl (Sub_ok ha hlqz) ?_
 have h0:=qr0 (z:=a) hb0
 refine Dw rfl ?_
 refine Ce rfl (Sign_ok (by rw [h0,Xnf];omega)) ?_
 refine Ce rfl (Sign_ok (by omega)) ?_
 have hr:=Xzk (sg (decide (a<0)) (a.natAbs % b.natAbs)) 0 b 0
 rw [←h0] at hr
 refine Ar (Xa1 (a - sg (decide (a<0) != decide (b<0)) (a.natAbs / b.natAbs)*b) 0*Xa1 b 0) rfl ?_
 refine By rfl (fun h=>?_) fun h=>?_ <;> rw [h0] at h
 · refine Dw rfl ?_
   refine Ce rfl (FromInt_ok (z:=1) (by decide)) ?_
   refine Ce (r:=.d (dz (sg (decide (a<0) != decide (b<0)) (a.natAbs / b.natAbs) - 1))) rfl (by rw [Yb2];exact Sub_ok (by rw [Xnf];omega) (W0h (@Xap 1 1 (by decide)) (by decide))) ?_
   refine Ce rfl (Add_ok (by rw [h0,Xnf];omega) hb) ?_
   refine Dz rfl ?_
   exact RTt rfl (.cons (.eq (by rw [(Ybs hb0 h).1];rfl)) (.cons (.eq (by rw [h0,(Ybs hb0 h).2];rfl)) (.one (.rf rfl) (fun _ _ e=>by cases e) (fun _ _ e=>by cases e))))
 · refine Dz rfl ?_
   exact RTt rfl (.cons (.eq (by rw [Yb2,(Ybt hb0 h).1];rfl)) (.cons (.eq (by rw [h0,(Ybt hb0 h).2];rfl)) (.one (.rf rfl) (fun _ _ e=>by cases e) (fun _ _ e=>by cases e))))
theorem Ynk {q : Nat} {z : Int} (h : Zs q z) (n : Nat) : Zs (q*n+1) (z ^ n):=by
 unfold Zs at *
 rw [W5l]
 have h1 : z.natAbs ^ n≤(2 ^ q) ^ n:=W6k (W1z h) n
 rw [←W4b] at h1
 rw [W0s]
 have:=W0n (q*n)
 omega
theorem Xpu (z : Int) (n : Nat) : z ^ n=z ^ (n / 2)*z ^ (n / 2)*z ^ (n % 2):=by
 rw [←W6z,←W6z]
 congr 1
 omega
theorem Xfg : ∀ (n : Nat) {z : Int} {q : Nat},Zs q z→q*n+2≤8796093022208→q≤8796093022208→n<9223372036854775808→C0 160 [.d (dz z),.d (.int .i64 n)] (·=.d (dz (z ^ n))):=by
 intro n
 induction n using Nat.strongRecOn with
 | _ n ih =>
  intro z q hz hq hq0 hn
  have hq2 : q*(n / 2)+q*(n / 2)≤q*n:=by rw [←W0w];exact W0m q (by omega)
  have hqh : q*(n / 2)+2≤8796093022208:=by omega
  have hzh:=Ynk hz (n / 2)
  have hl1:=hzh.len (by omega)
  have hl2:=hz.len (by omega)
  refine En Tryz.func160 fun _ _ _=>?_
  refine By rfl (fun h=>?_) fun h=>?_
  · refine Ce rfl (FromInt_ok (z:=1) (by decide)) ?_
    exact R1 rfl (.eq (by rw [show n=0 by omega,W6u]))
  refine Ar (n / 2 : Nat) rfl ?_ (show _∧_ from ⟨by decide,by rw [show Int.tdiv (n : Int) 2=((n / 2 : Nat) : Int) from rfl];exact wI (by omega)⟩)
  refine Ce rfl (ih (n / 2) (by omega) hz hqh hq0 (by omega)) ?_
  refine Ce rfl (Mul_ok (by omega) (by omega)) ?_
  refine Ar (n % 2 : Nat) rfl ?_ (show _∧_ from ⟨by decide,Xsy n 2⟩)
  refine By rfl (fun h1=>?_) fun h1=>?_
  · refine Ce rfl (Mul_ok (W0h (Zs.len (hzh.mul hzh) (by omega)) (by omega)) (by omega)) ?_
    exact R1 rfl (.eq (by rw [show z ^ n=z ^ (n / 2)*z ^ (n / 2)*z by rw [Xpu z n,show n % 2=1 from by omega,Int.pow_succ,W6u,W3y]];rfl))
  · exact R1 rfl (.eq (by rw [show z ^ n=z ^ (n / 2)*z ^ (n / 2) by rw [Xpu z n,show n % 2=0 from by omega,W6u,W4u]];rfl))
theorem Pow_ok {n : Nat} {z : Int} {q : Nat} (hz : Zs q z) (hn : n≤4096) (hq : q≤1073741824) : C0 78 [.d (dz z),.d (.int .i64 n)] (·=.tup (.pr (.d (dz (z ^ n))) (.d (.int .i64 0)))):=by
 have hqn : q*n≤1073741824*4096:=W1t hq hn
 refine En Tryz.func78 fun _ _ _=>?_
 refine No rfl (by omega) ?_
 refine No rfl (by omega) ?_
 refine Ce rfl (Xfg n hz (by omega) (by omega) (by omega)) ?_
 exact R0t
theorem Xoq {z : Int} (hl : (dig z.natAbs).length≤549755813888) : C0 363 [.d (dz z)] fun v=>∃ B : Nat,v=.d (.int .i64 B)∧z.natAbs<2 ^ B∧B≤32*(dig z.natAbs).length:=by
 refine En Tryz.func363 fun _ _ _=>?_
 refine Ce rfl (trim_dig_ok (by omega)) ?_
 by_cases h0 : z.natAbs=0
 · refine Ce (r:=.d (.int .i64 0)) rfl (by
    rw [h0,Xai]
    refine En Tryz.func320 fun _ _ _=>?_
    refine Yes rfl rfl ?_
    exact R0) ?_
   exact Rt rfl (.one (.rf rfl) rfl rfl) ⟨0,rfl,by rw [h0];decide,W1c _⟩
 · refine Ca rfl (Xl1 (by omega) h0) fun v hv=>?_
   obtain ⟨t,ht,_,htw,rfl⟩:=hv
   have h1:=(W2s.1 ht).1
   have h2:=Xwn htw
   exact Rt rfl (.one (.rf rfl) rfl rfl) ⟨_,rfl,Xov rfl (by omega) ht,by omega⟩
theorem Xwp {l : List Nat} {i w : Nat} (hl : Xal l) (hw : l[i / 32]?=some w) (h : val l % 2 ^ (i+1)=0) : w % 2 ^ (i % 32+1)=0:=by
 have h0:=Xe9 hw
 have hj : i / 32<l.length:=(W2s.1 hw).1
 have hlow:=Xbq (hl.take (i / 32))
 rw [W0j,show min (i / 32) l.length=i / 32 from by omega] at hlow
 have hp : 4294967296 ^ (i / 32)*2 ^ (i % 32+1)=2 ^ (i+1):=by
  rw [show (4294967296 : Nat)=2 ^ 32 from rfl,←W4b,←W0u];congr 1;omega
 obtain ⟨c,hc⟩:=W4o h
 rw [←hp,W0q] at hc
 generalize 4294967296 ^ (i / 32)=B at *
 generalize val (l.drop (i / 32+1))=R at *
 have e1 : w+4294967296*R=2 ^ (i % 32+1)*c:=by
  have hB : 0<B:=by omega
  have h1 : (val (l.take (i / 32))+B*(w+4294967296*R)) / B=w+4294967296*R:=by
   rw [Nat.add_mul_div_left _ _ hB,W5c hlow,W1n]
  have h2 : B*(2 ^ (i % 32+1)*c) / B=2 ^ (i % 32+1)*c:=W6w _ hB
  rw [←h1,←h0,hc,h2]
 have e2 : (4294967296 : Nat)=2 ^ (i % 32+1)*2 ^ (31 - i % 32):=by
  rw [←W0u,show i % 32+1+(31 - i % 32)=32 from by omega]
 rw [e2,W0q] at e1
 have e3 : (w+2 ^ (i % 32+1)*(2 ^ (31 - i % 32)*R)) % 2 ^ (i % 32+1)=0:=by rw [e1,Nat.mul_mod_right]
 rwa [Nat.add_mul_mod_self_left] at e3
theorem Xua {w s : Nat} (h : w % 2 ^ (s+1)=0) : w ||| 2 ^ s=w+2 ^ s:=by
 obtain ⟨c,rfl⟩:=W4o h
 rw [W1d]
 exact Xdb (2 ^ s) c (s+1) (W3n (by decide) (Nat.lt_succ_self s))
theorem Ye7 {w s : Nat} (h : w % 2 ^ (s+1)=0) : (w+2 ^ s) &&& 2 ^ s=2 ^ s:=by
 obtain ⟨c,rfl⟩:=W4o h
 have e : (2 ^ (s+1)*c+2 ^ s) / 2 ^ s=2*c+1:=by
  rw [W0s,show 2 ^ s*2*c+2 ^ s=2 ^ s*(2*c+1) from by rw [W0w,W0q,W3q]]
  exact W6w _ (W0n s)
 have ht : (2 ^ (s+1)*c+2 ^ s).testBit s=true:=by
  rw [Nat.testBit_eq_decide_div_mod_eq,e]
  simp
 apply Nat.eq_of_testBit_eq
 intro i
 rw [Nat.testBit_and]
 by_cases hi : s=i
 · subst hi;rw [ht,Bool.true_and]
 · rw [Nat.testBit_two_pow_of_ne hi,Bool.and_false]
theorem Xr8 {w s : Nat} (hw : w<4294967296) (hs : s<32) (h : w % 2 ^ (s+1)=0) : w+2 ^ s<4294967296:=by
 rw [←Xua h]
 exact Nat.or_lt_two_pow (n:=32) hw (W0p (W3n (by decide) hs) (by decide))
theorem Ycw {l : List Nat} {i w x : Nat} (hw : l[i / 32]?=some w) (hx : x=w+2 ^ (i % 32)) : val (l.set (i / 32) x)=val l+2 ^ i:=by
 have hj : i / 32<l.length:=(W2s.1 hw).1
 have h0:=Xe9 hw
 have h1:=Xe9 (l:=l.set (i / 32) x) (j:=i / 32) (x:=x) (by rw [W2u hj])
 rw [h1,h0,List.take_set_of_le (W0c _),List.drop_set_of_lt (by omega),hx,←Xhq i]
 grind
theorem Yep {w s : Nat} (hw : w+2 ^ s<4294967296) (h : w % 2 ^ (s+1)=0) : arB .andNot .u32 (w+2 ^ s : Nat) (2 ^ s : Nat) w:=by
 have hp:=W0n s
 have e:=Ye7 h
 show IntKind.u32.wrap _=_
 have h1 : (BitVec.ofInt 32 ((w+2 ^ s : Nat) : Int) &&& ~~~BitVec.ofInt 32 ((2 ^ s : Nat) : Int)).toNat=w:=by
  have hx : (BitVec.ofInt 32 ((w+2 ^ s : Nat) : Int)).toNat=w+2 ^ s:=by rw [BitVec.toNat_ofInt];omega
  have hy : (BitVec.ofInt 32 ((2 ^ s : Nat) : Int)).toNat=2 ^ s:=by rw [BitVec.toNat_ofInt];omega
  apply Nat.eq_of_testBit_eq
  intro i
  rw [BitVec.toNat_and,BitVec.toNat_not,hx,hy,Nat.testBit_and]
  have e1:=congrArg (·.testBit i) e
  simp only [Nat.testBit_and] at e1
  have e2:=Xua h
  rw [←e2,Nat.testBit_or]
  have e3 : (2 ^ 32 - 1 - 2 ^ s).testBit i=(decide (i<32) && !(2 ^ s).testBit i):=by
   have:=Nat.testBit_two_pow_sub_succ (x:=2 ^ s) (n:=32) (by omega) i
   rwa [show 2 ^ 32 - (2 ^ s+1)=2 ^ 32 - 1 - 2 ^ s by omega] at this
  rw [e3]
  by_cases hi : i<32
  · rw [decide_eq_true hi,Bool.true_and]
    by_cases his : s=i
    · subst his
      rw [←e2,Nat.testBit_or] at e1
      have hws : w.testBit s=false:=by
       obtain ⟨c,rfl⟩:=W4o h
       rw [Nat.testBit_eq_decide_div_mod_eq,W0s,W0q,W6w _ hp]
       simp
      rw [hws,Nat.testBit_two_pow_self];rfl
    · rw [Nat.testBit_two_pow_of_ne his];simp
  · rw [decide_eq_false hi]
    have : w.testBit i=false:=Nat.testBit_lt_two_pow (W0p (by omega : w<2 ^ 32) (W0k (by decide) (by omega)))
    rw [this];simp
 rw [show IntKind.bits .u32=32 from rfl,h1]
 exact wW (by omega)
theorem Sqrt_ok {a : Nat} (hl : (dig a).length≤274877906944) : C0 313 [.d (dz (a : Int))] (·=.tup (.pr (.d (dz (rt a : Int))) (.d (.int .i64 0)))):=by
 have ha : dz (a : Int)=.st (.pr (.bool (decide ((a : Int)<0))) (ws (dig a))):=rfl
 have hbits:=fun (B n : Nat) (hB : a<2 ^ B) (hn : B≤2*n)=>W0p hB (W0k (by decide) hn : 2 ^ B≤2 ^ (2*n))
 refine En Tryz.func313 fun _ _ _=>?_
 refine Ce rfl (Norm_ok (by simp only [W1h];omega)) ?_
 refine No rfl (by omega) ?_
 refine Ca rfl (Xoq (z:=(a : Int)) (by simp only [W1h];omega)) fun v hv=>?_
 obtain ⟨B,rfl,hB1,hB2⟩:=hv
 simp only [W1h] at hB1 hB2
 obtain ⟨n,hn⟩ : ∃ n,n=(B+1) / 2:=⟨_,rfl⟩
 refine Ar (B+1 : Nat) rfl ?_
 refine Ar n rfl ?_ (show _∧_ from ⟨by decide,by rw [show Int.tdiv ((B+1 : Nat) : Int) 2=(((B+1) / 2 : Nat) : Int) from rfl,←hn];exact wI (by omega)⟩)
 refine Ar (n / 32 : Nat) rfl ?_ (show _∧_ from ⟨by decide,by rw [show Int.tdiv (n : Int) 32=((n / 32 : Nat) : Int) from rfl];exact wI (by omega)⟩)
 refine Ar (n / 32+1 : Nat) rfl ?_
 refine Mk (n / 32+1) rfl (by omega) ?_
 refine Ar (n - 1 : Int) rfl ?_
 refine Lo (fun (k,lo)=>[(1,.ptr 1 0),(2,.ptr 2 0),(5,.own 19 1 0 (n / 32+1)),(6,.d (.int .i64 ((k : Nat) - 1 : Int)))]) (fun (_,lo)=>[(1,.var (.d (dz (a : Int)))),(2,.var (.st (.pr (.b false) .nil))),(19,.arr 1 (lo.map wd))])
  (fun (k,lo)=>k≤n∧lo.length=n / 32+1∧Xal lo∧val lo % 2 ^ k=0∧val lo*val lo≤a∧a<(val lo+2 ^ k)*(val lo+2 ^ k)) (fun (k,_)=>k) (n,List.replicate (n / 32+1) 0) [] rfl
  ⟨by omega,by simp,Xe6 _,by rw [Xbm];simp,by rw [Xbm];omega,by rw [Xbm,W1n,←W0u,←Nat.two_mul];exact hbits B n hB1 (by omega)⟩ ?_ (by exact ⟨rfl,by simp only [W2d];rfl,rfl,rfl,rfl⟩)
 rintro ⟨k,lo⟩ ⟨hk,hlo,hwl,hmod,hsq1,hsq2⟩
 refine By rfl (fun h=>?_) fun h=>?_
 · obtain ⟨i,rfl⟩ : ∃ i,k=i+1:=⟨k - 1,by omega⟩
   obtain ⟨w,hw⟩:=xat (l:=lo) (k:=i / 32) (by omega)
   have hww:=ww hw hwl
   have hwc:=Xwp hwl hw hmod
   have hwb:=Xr8 hww (by omega) hwc
   have hv1:=Ycw hw rfl
   have hw1:=Xgo (k:=i / 32) hwl hwb
   obtain ⟨lo1,hlo1⟩ : ∃ lo1,lo1=lo.set (i / 32) (w+2 ^ (i % 32)):=⟨_,rfl⟩
   rw [←hlo1] at hv1 hw1
   have hl1 : lo1.length=n / 32+1:=by rw [hlo1,W3i,hlo]
   have hlen1 : (dig (val lo1)).length≤549755813888:=by
    have h1:=Xap (Xbq hw1)
    omega
   have hq32 : arB .quo .i64 (((i+1 : Nat) : Int) - 1) 32 (i / 32 : Nat):=show _∧_ from ⟨by decide,by rw [show (((i+1 : Nat) : Int) - 1)=(i : Int) by omega,show Int.tdiv (i : Int) 32=((i / 32 : Nat) : Int) from rfl];exact wI (by omega)⟩
   have hr32 : arB .rem .i64 (((i+1 : Nat) : Int) - 1) 32 (i % 32 : Nat):=show _∧_ from ⟨by decide,by rw [show (((i+1 : Nat) : Int) - 1)=(i : Int) by omega];exact Xsy i 32⟩
   refine Dw rfl ?_
   refine Ar (i / 32 : Nat) rfl ?_ hq32
   refine Ar (i / 32 : Nat) rfl ?_ hq32
   refine Eo (i / 32) rfl (by omega) ?_
   refine Ld (wd w) rfl (mp hw) ?_
   refine Ar (i % 32 : Nat) rfl ?_ hr32
   refine Ar (2 ^ (i % 32) : Nat) rfl ?_ (Xgy (by omega))
   refine Ar (w+2 ^ (i % 32) : Nat) rfl ?_ (Yj9 hww Ydc (Xua hwc) hwb)
   refine Eo (i / 32) rfl (by omega) ?_
   refine Sto rfl (by simp only [lw];omega) ms ?_
   refine Cu none (fun _ : Unit=>[(1,.ptr 1 0),(2,.ptr 2 0),(5,.own 19 1 0 (n / 32+1)),(6,.d (.int .i64 (((i+1 : Nat) : Int) - 1))),(47,.b (dc (a<val lo1*val lo1)))]) (fun _=>[(1,.var (.d (dz (a : Int)))),(2,.var (.st (.pr (.b false) .nil))),(19,.arr 1 (lo1.map wd))]) (fun _=>True) rfl ?_ fun _ _=>?_
   · refine Dw rfl ?_
     refine Cn [(1000001,19)] rfl (Xgw (l:=lo1) (q:=0) (n:=n / 32+1) hw1 (by omega) (by omega)) (fun v hv=>?_) rfl (by rw [hlo1];rfl)
     obtain ⟨k1,hk1,rfl,hkl⟩:=hv
     refine Cn [(1000001,19)] rfl (Xgw (l:=lo1) (q:=0) (n:=n / 32+1) hw1 (by omega) (by omega)) (fun v hv=>?_) rfl (by rw [hlo1];rfl)
     obtain ⟨k2,hk2,rfl,hkl2⟩:=hv
     rw [show (lo1.drop 0).take (n / 32+1)=lo1 from W0a (by simp [hl1])] at hkl hkl2
     obtain rfl : k2=k1:=by
      have e1:=congrArg List.length hkl
      have e2:=congrArg List.length hkl2
      rw [Xxe (by omega)] at e1 e2
      omega
     refine Cn [(1000001,19)] rfl (Xs1 (l:=lo1) (q:=0) (n:=k2) (by omega) hkl hlen1) (fun v hv=>?_) rfl (by rw [hlo1];rfl)
     obtain rfl : v=_:=hv
     refine Ce rfl (Xbt (y:=a) (W0h (Xkj ..) (by omega))) ?_
     refine Jn () [] rfl trivial (by exact ⟨by
      rw [show (Xa1 ((val lo1*val lo1 : Nat) : Int) (a : Int) > 0)=(a<val lo1*val lo1) from propext (by
       rcases Xau ((val lo1*val lo1 : Nat) : Int) (a : Int) with ⟨g1,g2⟩ | ⟨g1,g2⟩ | ⟨g1,g2⟩ <;> rw [g2] <;> omega)]
      rfl,by rw [hlo1];rfl,rfl,rfl,rfl⟩)
   refine By rfl (fun h1=>?_) fun h1=>?_
   · have hw2 : lo1[i / 32]?=some (w+2 ^ (i % 32)):=by rw [hlo1,W2u (by omega)]
     have hback : lo1.set (i / 32) w=lo:=by
      rw [hlo1,List.set_set]
      apply W5z
      intro q
      by_cases hq : i / 32=q
      · subst hq;rw [W2u (by omega),hw]
      · rw [W1w hq]
     have hm2 : val lo % 2 ^ i=0:=by
      obtain ⟨c,hc⟩:=W4o hmod
      rw [hc,W0s,W0q];exact Nat.mul_mod_right _ _
     refine Dw rfl ?_
     refine Ar (i / 32 : Nat) rfl ?_ hq32
     refine Ar (i / 32 : Nat) rfl ?_ hq32
     refine Eo (i / 32) rfl (by omega) ?_
     refine Ld (wd (w+2 ^ (i % 32))) rfl (mp hw2) ?_
     refine Ar (i % 32 : Nat) rfl ?_ hr32
     refine Ar (2 ^ (i % 32) : Nat) rfl ?_ (Xgy (by omega))
     refine Ar w rfl ?_ (Yep hwb hwc)
     refine Eo (i / 32) rfl (by omega) ?_
     refine Sto rfl (by simp only [lw];omega) ms ?_
     refine Ar (i - 1 : Int) rfl ?_
     exact Bk (i,lo) [] rfl ⟨by omega,hlo,hwl,hm2,hsq1,by rw [←hv1];exact h1⟩ (by show i<i+1;omega) (by exact ⟨rfl,by rw [hback];rfl,rfl,rfl,rfl⟩)
   · have hm2 : val lo1 % 2 ^ i=0:=by
      rw [hv1]
      obtain ⟨c,hc⟩:=W4o hmod
      rw [hc,W0s,W0q,Nat.add_mod_right];exact Nat.mul_mod_right _ _
     refine Ar (i - 1 : Int) rfl ?_
     exact Bk (i,lo1) [] rfl ⟨by omega,hl1,hw1,hm2,W3w h1,by rw [hv1,W4a,←Nat.two_mul,W1d 2,←W0s];exact hsq2⟩ (by show i<i+1;omega)
 · have hk0 : k=0:=by omega
   subst hk0
   have hrt : rt a=val lo:=Yg2 hsq1 (by simpa using hsq2)
   refine Fz 12 5 (lo.map wd) rfl (by simp only [lw];omega) (oa hlo) ?_
   refine Ce (r:=.d (dz (sg false (val lo)))) rfl (by
    have:=Xpa (b:=false) hwl (by omega)
    exact this) ?_
   exact RTt rfl (.cons (.eq (by rw [Xgz,hrt])) (.one (.rf rfl) (fun _ _ e=>by cases e) (fun _ _ e=>by cases e)))
end
end Go.Proofs.YtpgcfjpkilabfaaGreatDoor.R1
namespace Go.Num
theorem Zs.fdv {p : Nat} {z g : Int} (h : Zs p z) (hg : 0<g) : Zs p (z.fdiv g):=by
 unfold Zs at *
 rw [W1l _ (by omega)]
 have : (z / g).natAbs≤z.natAbs:=Int.natAbs_ediv_le_natAbs ..
 omega
end Go.Num
namespace Go.Proofs.YtpgcfjpkilabfaaGreatDoor.R2
open Go Go.Vm Go.Num Go.Proofs.YtpgcfjpkilabfaaGreatDoor
theorem Yd8 {a g : Int} (h : g ∣ a) (hg : 0≤g) : a.fdiv g=a.tdiv g:=by
 rw [W1l _ hg,Int.tdiv_eq_ediv_of_dvd h]
theorem Xmd (a g : Nat) : (a : Int).fdiv g=((a / g : Nat) : Int):=by
 rw [W1l _ (by omega),Int.natCast_ediv]
theorem Xyh (x y : Rat) : (x*y).num=x.num.fdiv (Int.gcd x.num y.den : Int)*y.num.fdiv (Int.gcd y.num x.den : Int):=by
 show (Rat.mul x y).num=_
 delta Rat.mul
 simp only [Int.divExact_eq_tdiv]
 rw [Yd8 (Int.gcd_dvd_left ..) (by omega),Yd8 (Int.gcd_dvd_left ..) (by omega)]
 rfl
theorem Xze (x y : Rat) : ((x*y).den : Int)=(x.den : Int).fdiv (Int.gcd y.num x.den : Int)*(y.den : Int).fdiv (Int.gcd x.num y.den : Int):=by
 show ((Rat.mul x y).den : Int)=_
 delta Rat.mul
 simp only [Nat.divExact_eq_div]
 rw [Xmd,Xmd]
 rfl
theorem Xp2 {x y : Rat} (h : (Int.gcd x.den y.den : Int)=1) : (x+y).num=x.num*y.den+y.num*x.den∧(x+y).den=x.den*y.den:=by
 have hg : x.den.gcd y.den=1:=by have : (x.den.gcd y.den : Int)=1:=h;omega
 show (Rat.add x y).num=_∧(Rat.add x y).den=_
 delta Rat.add
 simp only [hg]
 exact ⟨rfl,rfl⟩
theorem Xp1 {x y : Rat} (h : ¬ (Int.gcd x.den y.den : Int)=1) : (x+y).num=(x.num*(y.den : Int).fdiv (Int.gcd x.den y.den : Int)+y.num*(x.den : Int).fdiv (Int.gcd x.den y.den : Int)).fdiv (Int.gcd (x.num*(y.den : Int).fdiv (Int.gcd x.den y.den : Int)+y.num*(x.den : Int).fdiv (Int.gcd x.den y.den : Int)) (Int.gcd x.den y.den : Int) : Int) ∧
 ((x+y).den : Int)=(x.den : Int).fdiv (Int.gcd x.den y.den : Int)*(y.den : Int).fdiv (Int.gcd (x.num*(y.den : Int).fdiv (Int.gcd x.den y.den : Int)+y.num*(x.den : Int).fdiv (Int.gcd x.den y.den : Int)) (Int.gcd x.den y.den : Int) : Int):=by
 have hg : ¬ x.den.gcd y.den=1:=fun e=>h (by show ((x.den.gcd y.den : Nat) : Int)=1;rw [e];rfl)
 have eg : Int.gcd (x.den : Int) (y.den : Int)=x.den.gcd y.den:=rfl
 rw [eg,Xmd,Xmd]
 generalize hn : x.num*((y.den / x.den.gcd y.den : Nat) : Int)+y.num*((x.den / x.den.gcd y.den : Nat) : Int)=n
 have et : Int.gcd n ((x.den.gcd y.den : Nat) : Int)=n.natAbs.gcd (x.den.gcd y.den):=rfl
 have htd : n.natAbs.gcd (x.den.gcd y.den) ∣ y.den:=Nat.dvd_trans (Nat.gcd_dvd_right ..) (Nat.gcd_dvd_right ..)
 rw [Yd8 (Int.gcd_dvd_left ..) (by omega),et,Xmd]
 have e : Rat.add x y=x+y:=rfl
 delta Rat.add at e
 simp only [hg,hn,dif_neg,not_false_eq_true,Rat.maybeNormalize_eq] at e
 rw [←e]
 refine ⟨by simp only [Int.divExact_eq_tdiv],?_⟩
 simp only [Nat.divExact_eq_div]
 rw [←W2t,Nat.mul_div_assoc _ htd]
theorem Xkn {a b : Int} (h : b≠0) : (Int.gcd a b : Int)≠0:=by have:=@Xvj a b h;omega
theorem Xd5 {z : Int} (h : (dig z.natAbs).length≤1099511627776) : C0 167 [.d (dz z)] (·=.b true):=by
 refine En Tryz.func167 fun _ _ _=>?_
 refine Dw rfl ?_
 refine Ce rfl (R1.trim_dig_ok h) ?_
 refine Yes rfl rfl ?_
 refine By rfl (fun h1=>?_) fun h1=>?_
 · exact R0
 · have : (dig z.natAbs).length≠0:=fun e=>by have:=Yna.1 e;omega
   exact R1 rfl (by exact (show dc (((List.map wd (dig z.natAbs)).length : Int) > 0)=true by rw [Xan,lw];omega) ▸ .rf rfl)
theorem Xd2 {z : Int} : C0 168 [.d (dz z)] (·=.b (dc (z=1))):=by
 refine En Tryz.func168 fun _ _ _=>?_
 refine By rfl (fun h1=>?_) fun h1=>?_ <;> simp only [lw] at h1
 · obtain ⟨u,hu⟩:=xat (l:=dig z.natAbs) (k:=0) (by omega)
   have hl:=Ym9 (by omega) hu
   refine Ix 0 rfl (mp hu) ?_
   refine By rfl (fun h2=>?_) fun h2=>?_
   · refine R1 rfl (.bp ?_)
     rw [←Xub,hl]
     simp only [W1s,decide_eq_false_iff_not]
     exact ⟨fun h=>⟨by rw [show u=1 by omega],h⟩,fun h=>h.2⟩
   · refine R1 rfl (.bp ⟨nofun,fun e=>?_⟩)
     have:=(Xub.2 e).1
     rw [hl] at this;injection this with this;omega
 · exact R1 rfl (.bp ⟨nofun,fun e=>absurd (by rw [e];show ((dig 1).length : Int)=1;rw [Yfs];rfl) h1⟩)
theorem Xb3 {a b : Int} (ha : (dig a.natAbs).length≤549755813888) (hb : (dig b.natAbs).length≤549755813888) (hb0 : b≠0) : C0 163 [.d (dz a),.d (dz b)] (·=.d (dz (a.fdiv b))):=by
 refine En Tryz.func163 fun _ _ _=>?_
 refine Ce rfl (R1.DivMod_ok ha hb hb0) ?_
 exact R0
theorem FromInt_ok {z : Int} (h : -9223372036854775808≤z∧z<9223372036854775808) : C0 19 [.d (.int .i64 z)] (·=.d (dq z)):=by
 refine En Tryz.func19 fun _ _ _=>?_
 refine Ce rfl (R1.FromInt_ok h) ?_
 refine Ce rfl (R1.FromInt_ok (z:=1) (by decide)) ?_
 exact R0
theorem Make_ok {a b : Int} {p : Nat} (ha : Zs p a) (hb : Zs p b) (hp : p≤8796093022208) (hb0 : b≠0) : C0 79 [.d (dz a),.d (dz b)] (·=.d (dq (Rat.divInt a b))):=by
 have hla:=ha.len hp
 have hlb:=hb.len hp
 have hlg:=(hb.gcd (x:=a) hb0).len hp
 have h0:=Xvj (a:=a) hb0
 have key : ∀ g : Int,g=(if b<0 then -(Int.gcd a b : Int) else (Int.gcd a b : Int))→D.st (.pr (dz (a.fdiv g)) (dz (b.fdiv g)))=dq (Rat.divInt a b):=fun g hg=>by rw [hg,Xi1 hb0,Xi2 hb0];rfl
 have hs : Xa1 b 0<0↔b<0:=by rcases Xau b 0 with ⟨g1,g2⟩ | ⟨g1,g2⟩ | ⟨g1,g2⟩ <;> omega
 refine En Tryz.func79 fun _ _ _=>?_
 refine Ce rfl (R1.GCD_ok (by omega) (by omega)) ?_
 refine Ce rfl (R1.Sign_ok (by omega)) ?_
 refine By rfl (fun h=>?_) fun h=>?_
 · refine Ce rfl (R1.Neg_ok (by omega)) ?_
   refine Dw rfl ?_
   refine Ce rfl (Xb3 (by omega) (by rw [W3x];omega) (by omega)) ?_
   refine Ce rfl (Xb3 (by omega) (by rw [W3x];omega) (by omega)) ?_
   exact R1 rfl (.eq (key _ (by rw [if_pos (hs.1 h)])))
 · refine Dw rfl ?_
   refine Ce rfl (Xb3 (by omega) (by omega) (by omega)) ?_
   refine Ce rfl (Xb3 (by omega) (by omega) (by omega)) ?_
   exact R1 rfl (.eq (key _ (by rw [if_neg (mt hs.2 h)])))
theorem Frac_ok {a b : Int} (ha : -9223372036854775808≤a∧a<9223372036854775808) (hb : -9223372036854775808≤b∧b<9223372036854775808) (hb0 : b≠0) : C0 88 [.d (.int .i64 a),.d (.int .i64 b)] (·=.d (dq (Rat.divInt a b))):=by
 refine En Tryz.func88 fun _ _ _=>?_
 refine No rfl hb0 ?_
 refine Ce rfl (R1.FromInt_ok ha) ?_
 refine Ce rfl (R1.FromInt_ok hb) ?_
 refine Ce rfl (Make_ok (p:=64) (by unfold Zs;omega) (by unfold Zs;omega) (by decide) hb0) ?_
 exact R0
theorem Valid_ok {x : Rat} {p : Nat} (hx : Qs p x) (hp : p≤8796093022208) : C0 84 [.d (dq x)] (·=.b true):=by
 have h1:=hx.n.len hp
 have h2:=hx.d.len hp
 refine En Tryz.func84 fun _ _ _=>?_
 refine Ce rfl (Xd5 (z:=x.num) (by omega)) ?_
 refine Yes rfl rfl ?_
 refine Ce rfl (Xd5 (z:=x.den) (by omega)) ?_
 refine Yes rfl rfl ?_
 refine Ce rfl (R1.Sign_ok (by omega)) ?_
 refine Yes rfl (Ylz.2 (by have:=x.den_pos;omega)) ?_
 refine Ce rfl (R1.GCD_ok (by omega) (by omega)) ?_
 refine Ce rfl Xd2 ?_
 refine R1 rfl (by exact (show dc ((Int.gcd x.num x.den : Int)=1)=true by rw [Xan];exact congrArg Nat.cast (show Int.gcd x.num x.den=1 from x.reduced)) ▸ .rf rfl)
theorem Sign_ok {x : Rat} {p : Nat} (hx : Qs p x) (hp : p≤8796093022208) : C0 239 [.d (dq x)] (·=.d (.int .i64 (Xa1 x.num 0))):=by
 have:=hx.n.len hp
 refine En Tryz.func239 fun _ _ _=>?_
 refine Ce rfl (R1.Sign_ok (by omega)) ?_
 exact R0
theorem Neg_ok {x : Rat} {p : Nat} (hx : Qs p x) (hp : p≤8796093022208) : C0 32 [.d (dq x)] (·=.d (dq (-x))):=by
 have:=hx.n.len hp
 refine En Tryz.func32 fun _ _ _=>?_
 refine Dw rfl ?_
 refine Ce rfl (R1.Neg_ok (by omega)) ?_
 exact R1 rfl (.eq (show D.st (.pr (dz (-x.num)) (dz x.den))=dq (-x) by unfold dq;rw [Rat.neg_num,Rat.neg_den]))
theorem zero_of {x : Rat} (h : ((List.map wd (dig x.num.natAbs)).length : Int)=0) : x=0:=by
 simp only [lw] at h
 have:=Yna.1 (by omega : (dig x.num.natAbs).length=0)
 exact W5v.1 (by omega)
theorem Mul_ok {x y : Rat} {p q : Nat} (hx : Qs p x) (hy : Qs q y) (hp : p+q+1≤8796093022208) : C0 157 [.d (dq x),.d (dq y)] (·=.d (dq (x*y))):=by
 have h1:=hx.n.len (by omega)
 have h2:=hx.d.len (by omega)
 have h3:=hy.n.len (by omega)
 have h4:=hy.d.len (by omega)
 have g1:=hy.d.gcd (x:=x.num) (Xbs y)
 have g2:=hx.d.gcd (x:=y.num) (Xbs x)
 have l1:=g1.len (by omega)
 have l2:=g2.len (by omega)
 have k1:=@Xkn x.num y.den (Xbs y)
 have k2:=@Xkn y.num x.den (Xbs x)
 have q1:=(hx.n.fdv (g:=(Int.gcd x.num y.den : Int)) (by omega)).len (by omega)
 have q2:=(hy.n.fdv (g:=(Int.gcd y.num x.den : Int)) (by omega)).len (by omega)
 have q3:=(hx.d.fdv (g:=(Int.gcd y.num x.den : Int)) (by omega)).len (by omega)
 have q4:=(hy.d.fdv (g:=(Int.gcd x.num y.den : Int)) (by omega)).len (by omega)
 refine En Tryz.func157 fun _ _ _=>?_
 refine Cu (some 1) (fun (b : Bool)=>[(2,.ptr 2 0),(3,.ptr 3 0),(4,.ptr 4 0),(18,.b b)]) (fun _=>[(2,.var (.d (dq x))),(3,.var (.d (dq y))),(4,.var q0)]) (fun b=>b=true→x*y=0) rfl ?_ fun b hb=>?_
 · refine By rfl (fun h=>?_) fun h=>?_
   · exact Jn true [] rfl fun _=>by rw [zero_of h,W5f]
   · exact Jn (dc _) [] rfl fun e=>by rw [zero_of (x:=y) (Xan.1 e),Rat.mul_zero]
 refine By rfl (fun h=>?_) fun h=>?_
 · refine Ce rfl (FromInt_ok (z:=0) (by decide)) ?_
   exact R1 rfl (.eq (show dq _=dq _ by rw [hb h];rfl))
 refine Cu (some 3) (fun (b : Bool)=>[(2,.ptr 2 0),(3,.ptr 3 0),(4,.ptr 4 0),(27,.b b)]) (fun _=>[(2,.var (.d (dq x))),(3,.var (.d (dq y))),(4,.var q0)]) (fun b=>b=true→(x.den : Int)=1∧(y.den : Int)=1) rfl ?_ fun b hb=>?_
 · refine Ce rfl Xd2 ?_
   refine By rfl (fun h=>?_) fun h=>?_
   · refine Ce rfl Xd2 ?_
     exact Jn (dc _) [] rfl fun e=>⟨h,Xan.1 e⟩
   · exact Jn false [] rfl nofun
 refine By rfl (fun h=>?_) fun h=>?_
 · obtain ⟨d1,d2⟩:=hb h
   refine Dw rfl ?_
   refine Ce rfl (R1.Mul_ok (by omega) (by omega)) ?_
   exact R1 rfl (.eq (show D.st (.pr (dz (x.num*y.num)) (dz x.den))=dq _ by rw [Xqy d1 d2,d1];rfl))
 · refine Dw rfl ?_
   refine Ce rfl (R1.GCD_ok (by omega) (by omega)) ?_
   refine Ce rfl (R1.GCD_ok (by omega) (by omega)) ?_
   refine Dw rfl ?_
   refine Ce rfl (Xb3 (by omega) (by omega) k1) ?_
   refine Ce rfl (Xb3 (by omega) (by omega) k2) ?_
   refine Ce rfl (R1.Mul_ok (by omega) (by omega)) ?_
   refine Ce rfl (Xb3 (by omega) (by omega) k2) ?_
   refine Ce rfl (Xb3 (by omega) (by omega) k1) ?_
   refine Ce rfl (R1.Mul_ok (by omega) (by omega)) ?_
   exact R1 rfl (.eq (show D.st (.pr (dz _) (dz _))=dq (x*y) by unfold dq;rw [Xyh,Xze]))
theorem Add_ok {x y : Rat} {p q : Nat} (hx : Qs p x) (hy : Qs q y) (hp : p+q+1≤8796093022208) : C0 159 [.d (dq x),.d (dq y)] (·=.d (dq (x+y))):=by
 have h1:=hx.n.len (by omega)
 have h2:=hx.d.len (by omega)
 have h3:=hy.n.len (by omega)
 have h4:=hy.d.len (by omega)
 have h5:=(hx.n.mul hy.d).len (by omega)
 have h6:=(hy.n.mul hx.d).len (by omega)
 have hg:=hy.d.gcd (x:=(x.den : Int)) (Xbs y)
 have k:=@Xkn (x.den : Int) y.den (Xbs y)
 have hdx:=hx.d.fdv (g:=(Int.gcd x.den y.den : Int)) (by omega)
 have hdy:=hy.d.fdv (g:=(Int.gcd x.den y.den : Int)) (by omega)
 have hn : Zs (p+q+1) (x.num*(y.den : Int).fdiv (Int.gcd x.den y.den : Int)+y.num*(x.den : Int).fdiv (Int.gcd x.den y.den : Int)):=((hx.n.mul hdy).add (hy.n.mul hdx)).mono (by omega)
 have ht:=hg.gcd (x:=x.num*(y.den : Int).fdiv (Int.gcd x.den y.den : Int)+y.num*(x.den : Int).fdiv (Int.gcd x.den y.den : Int)) k
 have kt:=@Xkn (x.num*(y.den : Int).fdiv (Int.gcd x.den y.den : Int)+y.num*(x.den : Int).fdiv (Int.gcd x.den y.den : Int)) _ k
 have l1:=hg.len (by omega)
 have l2:=hdx.len (by omega)
 have l3:=hdy.len (by omega)
 have l4:=hn.len (by omega)
 have l5:=ht.len (by omega)
 have l6:=(hx.n.mul hdy).len (by omega)
 have l7:=(hy.n.mul hdx).len (by omega)
 have l8:=(hy.d.fdv (g:=(Int.gcd (x.num*(y.den : Int).fdiv (Int.gcd x.den y.den : Int)+y.num*(x.den : Int).fdiv (Int.gcd x.den y.den : Int)) (Int.gcd x.den y.den : Int) : Int)) (by omega)).len (by omega)
 refine En Tryz.func159 fun _ _ _=>?_
 refine By rfl (fun h=>?_) fun h=>?_
 · exact R1 rfl (.eq (by rw [zero_of h,Rat.zero_add];rfl))
 refine By rfl (fun h=>?_) fun h=>?_
 · exact R1 rfl (.eq (by rw [zero_of h,W5p];rfl))
 refine Cu (some 5) (fun (b : Bool)=>[(2,.ptr 2 0),(3,.ptr 3 0),(4,.ptr 4 0),(30,.b b)]) (fun _=>[(2,.var (.d (dq x))),(3,.var (.d (dq y))),(4,.var q0)]) (fun b=>b=true→(x.den : Int)=1∧(y.den : Int)=1) rfl ?_ fun b hb=>?_
 · refine Ce rfl Xd2 ?_
   refine By rfl (fun h=>?_) fun h=>?_
   · refine Ce rfl Xd2 ?_
     exact Jn (dc _) [] rfl fun e=>⟨h,Xan.1 e⟩
   · exact Jn false [] rfl nofun
 refine By rfl (fun h=>?_) fun h=>?_
 · obtain ⟨d1,d2⟩:=hb h
   refine Dw rfl ?_
   refine Ce rfl (R1.Add_ok (by omega) (by omega)) ?_
   exact R1 rfl (.eq (show D.st (.pr (dz (x.num+y.num)) (dz x.den))=dq _ by rw [Xqz d1 d2,d1];rfl))
 refine Ce rfl (R1.GCD_ok (by omega) (by omega)) ?_
 refine Ce rfl Xd2 ?_
 refine By rfl (fun h=>?_) fun h=>?_
 · refine Dw rfl ?_
   refine Ce rfl (R1.Mul_ok (by omega) (by omega)) ?_
   refine Ce rfl (R1.Mul_ok (by omega) (by omega)) ?_
   refine Ce rfl (R1.Add_ok (by omega) (by omega)) ?_
   refine Dw rfl ?_
   refine Ce rfl (R1.Mul_ok (by omega) (by omega)) ?_
   exact R1 rfl (.eq (show D.st (.pr (dz _) (dz _))=dq (x+y) by unfold dq;rw [(Xp2 h).1,(Xp2 h).2,W2t]))
 · refine Dw rfl ?_
   refine Ce rfl (Xb3 (by omega) (by omega) k) ?_
   refine Ce rfl (Xb3 (by omega) (by omega) k) ?_
   refine Dw rfl ?_
   refine Ce rfl (R1.Mul_ok (by omega) (by omega)) ?_
   refine Ce rfl (R1.Mul_ok (by omega) (by omega)) ?_
   refine Ce rfl (R1.Add_ok (by omega) (by omega)) ?_
   refine Ce rfl (R1.GCD_ok (by omega) (by omega)) ?_
   refine Dw rfl ?_
   refine Ce rfl (Xb3 (by omega) (by omega) kt) ?_
   refine Ce rfl (Xb3 (by omega) (by omega) kt) ?_
   refine Ce rfl (R1.Mul_ok (by omega) (by omega)) ?_
   exact R1 rfl (.eq (show D.st (.pr (dz _) (dz _))=dq (x+y) by unfold dq;rw [(Xp1 h).1,(Xp1 h).2]))
theorem Sub_ok {x y : Rat} {p q : Nat} (hx : Qs p x) (hy : Qs q y) (hp : p+q+1≤8796093022208) : C0 245 [.d (dq x),.d (dq y)] (·=.d (dq (x - y))):=by
 refine En Tryz.func245 fun _ _ _=>?_
 refine Dw rfl ?_
 refine Ce rfl (Neg_ok hy (by omega)) ?_
 refine Ce rfl (Add_ok hx hy.neg hp) ?_
 exact R1 rfl (.eq (by rw [W5u]))
theorem Yh4 {x : Rat} (h0 : x≠0) : dq x⁻¹=if x.num<0 then D.st (.pr (dz (-x.den)) (dz (-x.num))) else D.st (.pr (dz x.den) (dz x.num)):=by
 have hn : x.num≠0:=fun e=>h0 (W5v.1 e)
 unfold dq
 rw [Rat.num_inv,Rat.den_inv,if_neg hn]
 split
 · rename_i h
   rw [Int.sign_eq_neg_one_of_neg h,show (-1*(x.den : Int))=-x.den by omega,show ((x.num.natAbs : Nat) : Int)=-x.num by omega]
 · rename_i h
   rw [Int.sign_eq_one_of_pos (by omega),show (1*(x.den : Int))=x.den by omega,show ((x.num.natAbs : Nat) : Int)=x.num by omega]
theorem Inv_ok {x : Rat} {p : Nat} (hx : Qs p x) (hp : p≤8796093022208) (h0 : x≠0) : C0 398 [.d (dq x)] (·=.d (dq x⁻¹)):=by
 have h1:=hx.n.len hp
 have h2:=hx.d.len hp
 have e:=Yh4 h0
 refine En Tryz.func398 fun _ _ _=>?_
 refine By rfl (fun h=>?_) fun h=>?_
 · rw [if_pos h] at e
   refine Dw rfl ?_
   refine Ce rfl (R1.Neg_ok (by omega)) ?_
   refine Ce rfl (R1.Neg_ok (by omega)) ?_
   exact R1 rfl (.eq e.symm)
 · rw [if_neg h] at e
   exact R1 rfl (.eq e.symm)
theorem Cmp_ok {x y : Rat} {p q : Nat} (hx : Qs p x) (hy : Qs q y) (hp : p+q≤8796093022208) : C0 33 [.d (dq x),.d (dq y)] (·=.d (.int .i64 (Xgu x y))):=by
 have h1:=hx.n.len (by omega)
 have h2:=hx.d.len (by omega)
 have h3:=hy.n.len (by omega)
 have h4:=hy.d.len (by omega)
 have h5:=(hx.n.mul hy.d).len (by omega)
 have h6:=(hy.n.mul hx.d).len (by omega)
 refine En Tryz.func33 fun _ _ _=>?_
 refine Dw rfl ?_
 refine Ce rfl (R1.Mul_ok (by omega) (by omega)) ?_
 refine Ce rfl (R1.Mul_ok (by omega) (by omega)) ?_
 refine Ce rfl (R1.Cmp_ok (by omega) (by omega)) ?_
 exact R1 rfl (.eq (by rw [Xq3]))
theorem Floor_ok {x : Rat} {p : Nat} (hx : Qs p x) (hp : p≤8796093022208) : C0 152 [.d (dq x)] (·=.d (dz x.floor)):=by
 have h1:=hx.n.len hp
 have h2:=hx.d.len hp
 refine En Tryz.func152 fun _ _ _=>?_
 refine Ce rfl (Xb3 (by omega) (by omega) (Xbs x)) ?_
 exact R1 rfl (.eq (show dz _=dz _ by rw [Rat.floor_def,W1l _ (by omega)]))
theorem SameInt_ok {z w : Int} (hz : (dig z.natAbs).length≤549755813888) : C0 83 [.d (dz z),.d (dz w)] (·=.b (dc (z=w))):=by
 refine En Tryz.func83 fun _ _ _=>?_
 refine By rfl (fun h=>?_) fun h=>?_
 · exact R1 rfl (.bp ⟨nofun,fun e=>absurd (by rw [e]) h⟩)
 have h : (z<0↔w<0):=by simpa using h
 refine By rfl (fun h1=>?_) fun h1=>?_ <;> simp only [lw] at h1
 · exact R1 rfl (.bp ⟨nofun,fun e=>absurd (by rw [e]) h1⟩)
 refine Lo (fun k : Nat=>[(2,.ptr 2 0),(3,.ptr 3 0),(5,.d (.int .i64 k))]) (fun _=>[(2,.var (.d (dz z))),(3,.var (.d (dz w)))]) (fun k=>k≤(dig z.natAbs).length∧(dig z.natAbs).take k=(dig w.natAbs).take k) (fun k=>(dig z.natAbs).length - k) 0 [] rfl ⟨by omega,rfl⟩ fun k ⟨hk,ht⟩=>?_
 refine By rfl (fun h2=>?_) fun h2=>?_ <;> simp only [lw] at h2
 · obtain ⟨u,hu⟩:=xat (l:=dig z.natAbs) (k:=k) (by omega)
   obtain ⟨v,hv⟩:=xat (l:=dig w.natAbs) (k:=k) (by omega)
   refine Dw rfl ?_
   refine Ix k rfl (mp hu) ?_
   refine Ix k rfl (mp hv) ?_
   refine By rfl (fun h3=>?_) fun h3=>?_
   · exact R1 rfl (.bp ⟨nofun,fun e=>by subst e;rw [hu] at hv;injection hv with hv;omega⟩)
   · refine Ar (k+1 : Nat) rfl ?_
     refine Bk (k+1) [] rfl ⟨by omega,?_⟩ (by show _ - (k+1)<_ - k;omega)
     have h1:=(W2s.1 hu).1
     have h2:=(W2s.1 hv).1
     rw [W0z,W0z,hu,hv,ht,show u=v by omega]
 · refine R1 rfl (.bp ⟨fun _=>?_,fun _=>rfl⟩)
   rw [W0a (by omega),W0a (by omega)] at ht
   have:=Xaf z.natAbs
   rw [ht,Xaf] at this
   omega
end Go.Proofs.YtpgcfjpkilabfaaGreatDoor.R2
namespace Go.Tow
def El : Nat→Type
 | 0=>Rat
 | k+1=>El k × El k
def Tw : Nat→Type
 | 0=>Unit
 | k+1=>Tw k × El k
def toL : (k : Nat)→El k→List Rat
 | 0,x=>[x]
 | k+1,x=>toL k x.1++toL k x.2
def toT : (k : Nat)→Tw k→List (List Rat)
 | 0,_=>[]
 | k+1,t=>toT k t.1++[toL k t.2]
def zero : (k : Nat)→El k
 | 0=>(0 : Rat)
 | k+1=>(zero k,zero k)
def rat : (k : Nat)→Rat→El k
 | 0,x=>x
 | k+1,x=>(rat k x,zero k)
def add : (k : Nat)→El k→El k→El k
 | 0=>fun (x y : Rat)=>x+y
 | k+1=>fun x y=>(add k x.1 y.1,add k x.2 y.2)
def neg : (k : Nat)→El k→El k
 | 0=>fun (x : Rat)=>-x
 | k+1=>fun x=>(neg k x.1,neg k x.2)
def mul : (k : Nat)→Tw k→El k→El k→El k
 | 0=>fun _ (x y : Rat)=>x*y
 | k+1=>fun t x y=>(add k (mul k t.1 x.1 y.1) (mul k t.1 (mul k t.1 x.2 y.2) t.2),add k (mul k t.1 x.1 y.2) (mul k t.1 x.2 y.1))
instance decEl : (k : Nat)→DecidableEq (El k)
 | 0=>inferInstanceAs (DecidableEq Rat)
 | k+1=>@instDecidableEqProd _ _ (decEl k) (decEl k)
theorem Xab (k : Nat) (a : El k) : (toL k a).length=2 ^ k:=by
 induction k with
 | zero=>rfl
 | succ k ih=>simp only [toL,W0d,ih,W0s];omega
theorem Xaa (k : Nat) (t : Tw k) : (toT k t).length=k:=by
 induction k with
 | zero=>rfl
 | succ k ih=>simp only [toT,W0d,ih,W6e]
theorem Xe5 {α : Type} {a b c d : List α} (h : a.length=c.length) (e : a++b=c++d) : a=c∧b=d:=List.append_inj e h
theorem Xhb {k : Nat} {a b : El k} (h : toL k a=toL k b) : a=b:=by
 induction k with
 | zero=>exact (List.cons.inj h).1
 | succ k ih =>
  obtain ⟨h1,h2⟩:=Xe5 (by rw [Xab,Xab]) h
  exact W2f (ih h1) (ih h2)
theorem exE (k : Nat) (l : List Rat) (h : l.length=2 ^ k) : ∃ a : El k,toL k a=l:=by
 induction k generalizing l with
 | zero =>
  match l,h with
  | [x],_=>exact ⟨x,rfl⟩
 | succ k ih =>
  obtain ⟨a,ha⟩:=ih (l.take (2 ^ k)) (by rw [W0j,h,W0s];omega)
  obtain ⟨b,hb⟩:=ih (l.drop (2 ^ k)) (by rw [W2e,h,W0s];omega)
  exact ⟨(a,b),by show toL k a++toL k b=l;rw [ha,hb,W5h]⟩
theorem Xat (k : Nat) (a b : El k) : toL k (add k a b)=List.zipWith (·+·) (toL k a) (toL k b):=by
 induction k with
 | zero=>rfl
 | succ k ih =>
  simp only [toL,add,ih]
  rw [List.zipWith_append (by rw [Xab,Xab])]
theorem Xb4 (k : Nat) (a : El k) : toL k (neg k a)=(toL k a).map (- ·):=by
 induction k with
 | zero=>rfl
 | succ k ih=>simp only [toL,neg,ih,W1u]
theorem Xbo (k : Nat) : toL k (zero k)=List.replicate (2 ^ k) 0:=by
 induction k with
 | zero=>rfl
 | succ k ih =>
  simp only [toL,zero,ih]
  rw [W4t,W0s]
  congr 1
  omega
theorem Xcu (k : Nat) (x : Rat) : toL k (rat k x)=x::List.replicate (2 ^ k - 1) 0:=by
 induction k with
 | zero=>rfl
 | succ k ih =>
  simp only [toL,rat,ih,Xbo,W4q]
  rw [W4t,W0s]
  congr 2
  have:=W0n k
  omega
theorem Xaq (k : Nat) (a : El k) : a=zero k↔∀ x∈toL k a,x=0:=by
 constructor
 · rintro rfl x hx
   rw [Xbo] at hx
   exact W5o hx
 · intro h
   apply Xhb
   rw [Xbo]
   exact List.eq_replicate_iff.2 ⟨Xab k a,h⟩
theorem Xdl (k : Nat) : rat k 0=zero k:=by
 induction k with
 | zero=>rfl
 | succ k ih=>simp only [rat,zero,ih];rfl
structure Laws {α : Type} (add mul : α→α→α) (neg : α→α) (zero one : α) : Prop where
 ac : ∀ a b,add a b=add b a
 aa : ∀ a b c,add (add a b) c=add a (add b c)
 az : ∀ a,add a zero=a
 an : ∀ a,add a (neg a)=zero
 mc : ∀ a b,mul a b=mul b a
 ma : ∀ a b c,mul (mul a b) c=mul a (mul b c)
 mo : ∀ a,mul a one=a
 md : ∀ a b c,mul a (add b c)=add (mul a b) (mul a c)
section
variable {α : Type} {add mul : α→α→α} {neg : α→α} {zero one : α} (L : Laws add mul neg zero one)
include L
theorem Laws.alc (a b c : α) : add a (add b c)=add b (add a c):=by rw [←L.aa,L.ac a b,L.aa]
theorem Laws.mlc (a b c : α) : mul a (mul b c)=mul b (mul a c):=by rw [←L.ma,L.mc a b,L.ma]
theorem Laws.dm (a b c : α) : mul (add a b) c=add (mul a c) (mul b c):=by rw [L.mc,L.md,L.mc c a,L.mc c b]
theorem Laws.za (a : α) : add zero a=a:=by rw [L.ac,L.az]
theorem Laws.om (a : α) : mul one a=a:=by rw [L.mc,L.mo]
theorem Laws.cancel {a b c : α} (h : add a c=add b c) : a=b:=by
 have : add (add a c) (neg c)=add (add b c) (neg c):=by rw [h]
 rwa [L.aa,L.aa,L.an,L.az,L.az] at this
theorem Laws.mz (a : α) : mul a zero=zero:=by
 refine L.cancel (c:=mul a zero) ?_
 rw [←L.md,L.za,L.za]
theorem Laws.zm (a : α) : mul zero a=zero:=by rw [L.mc,L.mz]
theorem Laws.na (a : α) : add (neg a) a=zero:=by rw [L.ac,L.an]
theorem Laws.nu {a b : α} (h : add a b=zero) : b=neg a:=L.cancel (c:=a) (by rw [L.ac,h,L.na])
theorem Laws.mn (a b : α) : mul a (neg b)=neg (mul a b):=L.nu (by rw [←L.md,L.an,L.mz])
theorem Laws.nm (a b : α) : mul (neg a) b=neg (mul a b):=by rw [L.mc,L.mn,L.mc]
theorem Laws.nn (a : α) : neg (neg a)=a:=(L.nu (L.na a)).symm
theorem Laws.nd (a b : α) : neg (add a b)=add (neg a) (neg b):=(L.nu (by
 rw [L.aa,L.alc b,←L.aa,L.an,L.za,L.an])).symm
theorem Laws.nz : neg zero=zero:=(L.nu (L.az zero)).symm
theorem Laws.sub_eq {a b c d : α} (h : add a d=add c b) : add a (neg b)=add c (neg d):=by
 refine L.cancel (c:=add b d) ?_
 have e1 : add (add a (neg b)) (add b d)=add a d:=by rw [L.aa,←L.aa (neg b),L.na,L.za]
 have e2 : add (add c (neg d)) (add b d)=add c b:=by rw [L.aa,L.alc (neg d),L.na,L.az]
 rw [e1,e2,h]
theorem Laws.quad (r : α) : Laws (α:=α × α) (fun x y=>(add x.1 y.1,add x.2 y.2)) (fun x y=>(add (mul x.1 y.1) (mul (mul x.2 y.2) r),add (mul x.1 y.2) (mul x.2 y.1))) (fun x=>(neg x.1,neg x.2)) (zero,zero) (one,zero) where
 ac:=fun a b=>by simp only [L.ac]
 aa:=fun a b c=>by simp only [L.aa]
 az:=fun a=>by simp only [L.az]
 an:=fun a=>by simp only [L.an]
 mc:=fun a b=>by
  refine W2f ?_ ?_
  · simp only [L.mc]
  · simp only [L.mc,L.ac]
 ma:=fun a b c=>by
  refine W2f ?_ ?_
  · simp only [L.md,L.dm,L.ma]
    simp only [L.mc,L.mlc,L.aa,L.ac,L.alc]
  · simp only [L.md,L.dm,L.ma]
    simp only [L.mc,L.mlc,L.aa,L.ac,L.alc]
 mo:=fun a=>by
  refine W2f ?_ ?_
  · simp only [L.mo,L.mz,L.zm,L.az]
  · simp only [L.mo,L.mz,L.za]
 md:=fun a b c=>by
  refine W2f ?_ ?_
  · simp only [L.md,L.dm]
    simp only [L.aa,L.ac,L.alc]
  · simp only [L.md,L.dm]
    simp only [L.aa,L.ac,L.alc]
end
theorem Xay (k : Nat) (t : Tw k) : Laws (add k) (mul k t) (neg k) (zero k) (rat k 1):=by
 induction k with
 | zero=>exact ⟨Rat.add_comm,Rat.add_assoc,W5p,Rat.add_neg_cancel,Rat.mul_comm,Rat.mul_assoc,Rat.mul_one,Rat.mul_add⟩
 | succ k ih=>exact (ih t.1).quad t.2
def norm (k : Nat) (t : Tw (k+1)) (a : El (k+1)) : El k:=add k (mul k t.1 a.1 a.1) (neg k (mul k t.1 (mul k t.1 a.2 a.2) t.2))
def inv : (k : Nat)→Tw k→El k→Option (El k)
 | 0=>fun _ (x : Rat)=>if x=0 then none else some (1 / x : Rat)
 | k+1=>fun t a=>match inv k t.1 (norm k t a) with
  | none=>none
  | some n=>some (mul k t.1 a.1 n,neg k (mul k t.1 a.2 n))
theorem Xp5 (k : Nat) (t : Tw (k+1)) (a b : El (k+1)) : norm k t (mul (k+1) t a b)=mul k t.1 (norm k t a) (norm k t b):=by
 have L:=Xay k t.1
 have h : ∀ x y z w : El k,mul k t.1 (add k x (neg k y)) (add k z (neg k w))=add k (add k (mul k t.1 x z) (mul k t.1 y w)) (neg k (add k (mul k t.1 x w) (mul k t.1 y z))):=by
  intro x y z w
  simp only [L.md,L.dm,L.mn,L.nm,L.nn,L.nd]
  simp only [L.aa,L.ac,L.alc]
 simp only [norm,mul]
 rw [h]
 refine L.sub_eq ?_
 simp only [L.md,L.dm,L.ma]
 simp only [L.mc,L.mlc,L.aa,L.ac,L.alc]
theorem Xc1 {k : Nat} {t : Tw k} {a b : El k} (h : inv k t a=some b) : mul k t b a=rat k 1:=by
 induction k with
 | zero =>
  have h2 : ∀ x b : Rat,(if x=0 then none else some (1 / x))=some b→b*x=1:=by
   intro x b h
   split at h
   · cases h
   · rename_i hx
     injection h with h
     subst h
     exact W5g hx
  exact h2 a b h
 | succ k ih =>
  have L:=Xay k t.1
  simp only [inv] at h
  split at h
  · cases h
  · rename_i n hn
    injection h with h
    subst h
    have:=ih hn
    refine W2f ?_ ?_
    · show add k (mul k t.1 (mul k t.1 a.1 n) a.1) (mul k t.1 (mul k t.1 (neg k (mul k t.1 a.2 n)) a.2) t.2)=rat k 1
      rw [←this,norm]
      simp only [L.md,L.mn,L.nm]
      simp only [L.ma,L.mc,L.mlc]
    · show add k (mul k t.1 (mul k t.1 a.1 n) a.2) (mul k t.1 (neg k (mul k t.1 a.2 n)) a.1)=zero k
      simp only [L.nm]
      rw [show mul k t.1 (mul k t.1 a.2 n) a.1=mul k t.1 (mul k t.1 a.1 n) a.2 from by simp only [L.ma,L.mc,L.mlc],L.an]
def pr {k : Nat} (a b : El k) : El (k+1):=(a,b)
def up (k : Nat) (a : El k) : El (k+1):=(a,zero k)
def root : (k : Nat)→(i : Nat)→El k
 | 0,_=>(0 : Rat)
 | k+1,i=>if i=k then pr (zero k) (rat k 1) else up k (root k i)
theorem Xuj (k : Nat) (t : Tw (k+1)) (a b : El k) : mul (k+1) t (up k a) (up k b)=up k (mul k t.1 a b):=by
 have L:=Xay k t.1
 simp only [mul,up,L.mz,L.zm,L.az];rfl
theorem Xox {k i : Nat} (hi : i<k) : toL k (root k i)=(List.replicate (2 ^ k) 0).set (2 ^ i) 1:=by
 induction k with
 | zero=>omega
 | succ k ih =>
  have hp : 2 ^ (k+1)=2 ^ k+2 ^ k:=by rw [W0s];omega
  rw [hp,←W4t]
  by_cases h : i=k
  · rw [root,if_pos h]
    subst h
    simp only [toL,pr,Xbo,Xcu]
    rw [List.set_append_right _ _ (by simp),W1q,W3f]
    have h0:=W0n i
    obtain ⟨m,hm⟩ : ∃ m,2 ^ i=m+1:=⟨2 ^ i - 1,by omega⟩
    rw [hm]
    rfl
  · have hik : i<k:=by omega
    have hlt : 2 ^ i<2 ^ k:=W3n (by decide) hik
    rw [root,if_neg h]
    simp only [toL,up,Xbo]
    rw [ih hik,List.set_append_left _ _ (by rw [W1q];exact hlt)]
end Go.Tow
namespace Go.Proofs.YtpgcfjpkilabfaaGreatDoor
open Go Go.Num Go.Tow Go.Vm
section
def IsD (d n : Nat) (l : List Rat) : Prop:=∀ x∈l,∃ z : Int,x*(d : Rat)=(z : Rat)∧z.natAbs<n
theorem IsD.mono {d n m : Nat} {l : List Rat} (h : IsD d n l) (hm : n≤m) : IsD d m l:=fun x hx =>
 let ⟨z,h1,h2⟩:=h x hx;⟨z,h1,W0p h2 hm⟩
theorem IsD.scale {d n e : Nat} {l : List Rat} (h : IsD d n l) (he : 0<e) : IsD (d*e) (n*e) l:=fun x hx=>by
 obtain ⟨z,h1,h2⟩:=h x hx
 refine ⟨z*(e : Int),?_,?_⟩
 · rw [W7j,←Rat.mul_assoc,h1,W4n];rfl
 · rw [W4f,W1h]
   exact W3e h2 he
theorem IsD.append {d n : Nat} {l m : List Rat} (h : IsD d n l) (k : IsD d n m) : IsD d n (l++m):=fun x hx=>(W2x.1 hx).elim (h x) (k x)
theorem IsD.left {d n : Nat} {l m : List Rat} (h : IsD d n (l++m)) : IsD d n l:=fun x hx=>h x (W2r _ hx)
theorem IsD.right {d n : Nat} {l m : List Rat} (h : IsD d n (l++m)) : IsD d n m:=fun x hx=>h x (W1p _ hx)
theorem IsD.add {d n m : Nat} : ∀ {l l' : List Rat},IsD d n l→IsD d m l'→IsD d (n+m) (List.zipWith (·+·) l l')
 | [],_,_,_=>fun _ h=>nomatch h
 | _::_,[],_,_=>fun _ h=>nomatch h
 | a::l,b::l',h,k=>fun x hx=>by
  rcases W1k.1 hx with hx | hx
  · obtain ⟨z,h1,h2⟩:=h a (W0t ..)
    obtain ⟨w,k1,k2⟩:=k b (W0t ..)
    refine ⟨z+w,by rw [hx,Rat.add_mul,h1,k1,W4y],?_⟩
    have:=Int.natAbs_add_le z w
    omega
  · exact IsD.add (fun y hy=>h y (W0x _ hy)) (fun y hy=>k y (W0x _ hy)) x hx
theorem IsD.neg {d n : Nat} {l : List Rat} (h : IsD d n l) : IsD d n (l.map (- ·)):=fun x hx=>by
 obtain ⟨y,hy,rfl⟩:=W3r.1 hx
 obtain ⟨z,h1,h2⟩:=h y hy
 exact ⟨-z,by rw [Rat.neg_mul,h1,Rat.intCast_neg],by rw [W3x];exact h2⟩
theorem IsD.mul1 {d n e m : Nat} {x y : Rat} (h : IsD d n [x]) (k : IsD e m [y]) : IsD (d*e) (n*m) [x*y]:=fun u hu=>by
 obtain rfl:=W0e.1 hu
 obtain ⟨z,h1,h2⟩:=h x (W0t ..)
 obtain ⟨w,k1,k2⟩:=k y (W0t ..)
 refine ⟨z*w,?_,?_⟩
 · rw [W7j,W4n,←h1,←k1]
   grind
 · rw [W4f]
   exact W4r h2 k2
theorem Xkd (y : Rat) : y*(y.den : Rat)=(y.num : Rat):=by
 have hd : ((y.den : Nat) : Rat)≠0:=by
  intro h
  have : ((y.den : Nat) : Rat).num=0:=by rw [h];rfl
  rw [Rat.num_natCast] at this
  have:=y.den_nz
  omega
 have e : y=(y.num : Rat) / (y.den : Rat):=by
  conv=>lhs;rw [←Rat.num_divInt_den y,W3b]
  rfl
 conv=>lhs;lhs;rw [e]
 exact W5g hd
def Sz (p : Nat) (l : List Rat) : Prop:=∃ d : Nat,0<d∧d<2 ^ p∧IsD d (2 ^ p) l
theorem Sz.mono {p q : Nat} {l : List Rat} (h : Sz p l) (hp : p≤q) : Sz q l:=by
 obtain ⟨d,h0,h1,h2⟩:=h
 have:=W0k (n:=2) (by decide) hp
 exact ⟨d,h0,by omega,h2.mono this⟩
theorem Sz.sub {p : Nat} {l m : List Rat} (h : Sz p l) (hs : ∀ x∈m,x∈l) : Sz p m:=by
 obtain ⟨d,h0,h1,h2⟩:=h
 exact ⟨d,h0,h1,fun x hx=>h2 x (hs x hx)⟩
theorem Sz.qs {p : Nat} {l : List Rat} (h : Sz p l) {x : Rat} (hx : x∈l) : Qs p x:=by
 obtain ⟨d,h0,h1,h2⟩:=h
 obtain ⟨z,h3,h4⟩:=h2 x hx
 have hd : ((d : Nat) : Rat)≠0:=by
  intro h
  have : (d : Rat).num=0:=by rw [h];rfl
  rw [Rat.num_natCast] at this
  omega
 have e : x=Rat.divInt z (d : Int):=by
  rw [W3b,←h3]
  exact (Rat.mul_div_cancel hd).symm
 rw [e]
 exact Qs.divInt h4 (by unfold Zs;rw [W1h];exact h1) (by omega)
theorem Sz.nil : Sz 1 []:=⟨1,by decide,by decide,fun _ h=>nomatch h⟩
theorem _root_.Go.Num.Qs.isD {p : Nat} {x : Rat} (h : Qs p x) : IsD x.den (2 ^ p) [x]:=fun y hy=>by
 obtain rfl:=W0e.1 hy
 exact ⟨y.num,Xkd y,h.n⟩
theorem Sz.one {p : Nat} {x : Rat} (h : Qs p x) : Sz p [x]:=⟨x.den,W2h x.den_nz,by have:=h.d;unfold Zs at this;rwa [W1h] at this,h.isD⟩
theorem Sz.append {p q : Nat} {l m : List Rat} (h : Sz p l) (k : Sz q m) : Sz (p+q) (l++m):=by
 obtain ⟨d,h0,h1,h2⟩:=h
 obtain ⟨e,k0,k1,k2⟩:=k
 have hp:=W0n p
 have hq:=W0n q
 refine ⟨d*e,W1j h0 k0,by rw [W0u];exact W4r h1 k1,?_⟩
 refine IsD.append ((h2.scale k0).mono ?_) ?_
 · rw [W0u];exact W0m _ (W1z k1)
 · rw [W1d d e]
   refine (k2.scale h0).mono ?_
   rw [W0u,W1d]
   exact W0y _ (W1z h1)
theorem Sz.cons {p q : Nat} {x : Rat} {m : List Rat} (h : Qs p x) (k : Sz q m) : Sz (p+q) (x::m):=(Sz.one h).append k
theorem Sz.all {p : Nat} : ∀ {l : List Rat},(∀ x∈l,Qs p x)→Sz (p*l.length+1) l
 | [],_=>Sz.nil.mono (by omega)
 | x::l,h=>(Sz.cons (h x (W0t ..)) (Sz.all fun y hy=>h y (W0x _ hy))).mono (by rw [W0o,Nat.mul_succ];omega)
theorem Sz.add {p q : Nat} {l m : List Rat} (h : Sz p l) (k : Sz q m) : Sz (p+q+1) (List.zipWith (·+·) l m):=by
 obtain ⟨d,h0,h1,h2⟩:=h
 obtain ⟨e,k0,k1,k2⟩:=k
 have e1:=W4r h1 k1
 rw [←W0u] at e1
 refine ⟨d*e,W1j h0 k0,by rw [W0s];omega,?_⟩
 have a1 : IsD (d*e) (2 ^ (p+q)) l:=(h2.scale k0).mono (by rw [W0u];exact W0m _ (W1z k1))
 have a2 : IsD (d*e) (2 ^ (p+q)) m:=by
  rw [W1d d e]
  exact (k2.scale h0).mono (by rw [W0u,W1d];exact W0y _ (W1z h1))
 exact (a1.add a2).mono (by rw [W0s];omega)
theorem Sz.neg {p : Nat} {l : List Rat} (h : Sz p l) : Sz p (l.map (- ·)):=by
 obtain ⟨d,h0,h1,h2⟩:=h
 exact ⟨d,h0,h1,h2.neg⟩
theorem Sz.left {p : Nat} {l m : List Rat} (h : Sz p (l++m)) : Sz p l:=h.sub fun _=>W2r _
theorem Sz.right {p : Nat} {l m : List Rat} (h : Sz p (l++m)) : Sz p m:=h.sub fun _=>W1p _
def TS (r : Nat) : (k : Nat)→Tw k→Prop
 | 0,_=>True
 | k+1,t=>TS r k t.1∧Sz r (toL k t.2)
def cB (r : Nat) : Nat→Nat
 | 0=>0
 | k+1=>2*cB r k+r+1
theorem Yl1 (r k : Nat) : cB r k≤cB r (k+1):=by show _≤2*cB r k+r+1;omega
theorem Xkc {r k : Nat} {t : Tw k} (ht : TS r k t) : ∃ E,0<E∧E≤2 ^ cB r k∧∀ a b d e n m,0<d→0<e→IsD d n (toL k a)→IsD e m (toL k b)→IsD (d*e*E) (n*m*2 ^ cB r k) (toL k (mul k t a b)):=by
 induction k with
 | zero =>
  refine ⟨1,by decide,W0c 1,fun a b d e n m _ _ h h'=>?_⟩
  rw [W3q,show 2 ^ cB r 0=1 from rfl,W3q]
  exact h.mul1 h'
 | succ k ih =>
  obtain ⟨E,h0,h1,h2⟩:=ih ht.1
  obtain ⟨g,g0,g1,g2⟩:=ht.2
  have hC:=W0n (cB r k)
  have hR:=W0n r
  refine ⟨E*(E*g),W1j h0 (W1j h0 g0),?_,fun a b d e n m hd he h h'=>?_⟩
  · have e1 : E*(E*g)≤2 ^ cB r k*(2 ^ cB r k*2 ^ r):=W1t h1 (W1t h1 (W1z g1))
    rw [←W0u,←W0u] at e1
    exact W0h e1 (W0k (by decide) (by show _≤2*cB r k+r+1;omega))
  · have hg : E*g≤2 ^ cB r k*2 ^ r:=W1t h1 (W1z g1)
    have hEg : 0<E*g:=W1j h0 g0
    have hc : n*m*2 ^ cB r (k+1)=n*m*2 ^ cB r k*(2 ^ cB r k*2 ^ r)+n*m*2 ^ cB r k*(2 ^ cB r k*2 ^ r):=by
     rw [show cB r (k+1)=cB r k+(cB r k+r)+1 from by show 2*cB r k+r+1=_;omega,W0s,W0u,W0u]
     rw [←Nat.mul_two,W0q (n*m),W0q (n*m)]
    have scale : ∀ u v : El k,IsD d n (toL k u)→IsD e m (toL k v)→IsD (d*e*(E*(E*g))) (n*m*2 ^ cB r k*(2 ^ cB r k*2 ^ r)) (toL k (mul k t.1 u v)):=by
     intro u v hu hv
     have:=(h2 u v d e n m hd he hu hv).scale hEg
     rw [W0q (d*e)] at this
     exact this.mono (W0m _ hg)
    show IsD _ _ (toL k (add k _ _)++toL k (add k _ _))
    rw [Xat,Xat,hc]
    refine IsD.append (IsD.add (scale _ _ h.left h'.left) ?_) (IsD.add (scale _ _ h.left h'.right) (scale _ _ h.right h'.left))
    have:=h2 _ _ (d*e*E) g _ _ (W1j (W1j hd he) h0) g0 (h2 _ _ d e n m hd he h.right h'.right) g2
    rw [show d*e*E*g*E=d*e*(E*(E*g)) from by rw [W0q (d*e),W0q (d*e),W0q E g E,W1d g E]] at this
    rw [show n*m*2 ^ cB r k*2 ^ r*2 ^ cB r k=n*m*2 ^ cB r k*(2 ^ cB r k*2 ^ r) from by rw [W0q (n*m*2 ^ cB r k),W1d (2 ^ r)]] at this
    exact this
theorem Sz.mul {r k p q : Nat} {t : Tw k} {a b : El k} (ht : TS r k t) (h : Sz p (toL k a)) (h' : Sz q (toL k b)) : Sz (p+q+cB r k) (toL k (mul k t a b)):=by
 obtain ⟨E,e0,e1,e2⟩:=Xkc ht
 obtain ⟨d,h0,h1,h2⟩:=h
 obtain ⟨e,k0,k1,k2⟩:=h'
 have:=e2 a b d e _ _ h0 k0 h2 k2
 rw [←W0u,←W0u] at this
 refine ⟨_,W1j (W1j h0 k0) e0,?_,this⟩
 rw [W0u,W0u]
 have h3:=W4r h1 k1
 exact W0p (W3e h3 e0) (W0m _ e1)
def nB (r k p : Nat) : Nat:=4*p+3*cB r k+r+1
theorem Sz.norm {r k p : Nat} {t : Tw (k+1)} {a : El (k+1)} (ht : TS r (k+1) t) (h : Sz p (toL (k+1) a)) : Sz (nB r k p) (toL k (Tow.norm k t a)):=by
 have hx : Sz p (toL k a.1):=Sz.left h
 have hy : Sz p (toL k a.2):=Sz.right h
 have h1:=Sz.mul ht.1 hx hx
 have h2:=Sz.mul ht.1 (Sz.mul ht.1 hy hy) ht.2
 rw [Tow.norm,Xat,Xb4]
 exact (h1.add h2.neg).mono (by unfold nB;omega)
def iB (r : Nat) : Nat→Nat→Nat
 | 0,p=>p+1
 | k+1,p=>2*(p+iB r k (nB r k p)+cB r k)
theorem _root_.Go.Num.Qs.inv1 {p : Nat} {x : Rat} (h : Qs p x) : Qs (p+1) (1 / x):=by
 by_cases h0 : x=0
 · rw [h0,show (1 / 0 : Rat)=((0 : Int) : Rat) from by rw [W5x,Rat.inv_zero,Rat.mul_zero];rfl]
   exact Qs.int Zs.zero (by omega)
 · rw [Xi9 _ _ h0]
   refine Qs.divInt ?_ ?_ ?_
   · rw [show (1 : Rat).num=1 from rfl,W3y];exact h.d.mono (by omega)
   · rw [show ((1 : Rat).den : Int)=1 from rfl,W3y];exact h.n.mono (by omega)
   · rw [show ((1 : Rat).den : Int)=1 from rfl,W3y]
     exact fun e=>h0 (W5v.1 e)
theorem Sz.inv {r k p : Nat} {t : Tw k} {a b : El k} (ht : TS r k t) (h : Sz p (toL k a)) (hb : Tow.inv k t a=some b) : Sz (iB r k p) (toL k b):=by
 induction k generalizing p with
 | zero =>
  have h2 : ∀ x b : Rat,(if x=0 then none else some (1 / x))=some b→Qs p x→Sz (p+1) [b]:=by
   intro x b h hq
   split at h
   · cases h
   · injection h with h
     subst h
     exact Sz.one hq.inv1
  exact h2 a b hb (h.qs (W0e.2 rfl))
 | succ k ih =>
  simp only [Tow.inv] at hb
  split at hb
  · cases hb
  · rename_i n hn
    injection hb with hb
    subst hb
    have h1:=ih ht.1 (h.norm ht) hn
    have h2:=Sz.mul ht.1 (Sz.left h : Sz p (toL k a.1)) h1
    have h3:=Sz.mul ht.1 (Sz.right h : Sz p (toL k a.2)) h1
    show Sz _ (toL k _++toL k (Tow.neg k _))
    rw [Xb4]
    exact (h2.append h3.neg).mono (by show _≤2*(p+iB r k (nB r k p)+cB r k);omega)
theorem Xyq (r k p : Nat) : p≤iB r k p:=by
 cases k with
 | zero=>show p≤p+1;omega
 | succ k=>show p≤2*_;omega
theorem Xui (r k p : Nat) : p≤nB r k p:=by unfold nB;omega
theorem Sz.zero (k : Nat) : Sz 1 (toL k (Tow.zero k)):=by
 rw [Xbo]
 refine ⟨1,by decide,by decide,fun x hx=>?_⟩
 rw [W5o hx]
 exact ⟨0,by rw [W5f];rfl,by decide⟩
theorem Sz.rat {p : Nat} (k : Nat) {x : Rat} (h : Qs p x) : Sz (p+1) (toL k (Tow.rat k x)):=by
 rw [Xcu]
 refine Sz.cons h ?_
 refine ⟨1,by decide,by decide,fun x hx=>?_⟩
 rw [W5o hx]
 exact ⟨0,by rw [W5f];rfl,by decide⟩
end
section
def dqs (l : List Rat) : D:=.sl 4 (l.map dq)
def dts (t : List (List Rat)) : D:=.sl 1 (t.map dqs)
def fl (xs : List D) (z : D) (k : Nat) : List D:=xs.take k++List.replicate (xs.length - k) z
theorem Xh4 {xs : List D} {z : D} {n : Nat} (h : xs.length=n) : List.replicate n z=fl xs z 0:=by simp [fl,h]
theorem Xmb {xs : List D} {z : D} {k : Nat} (h : xs.length≤k) : fl xs z k=xs:=by rw [fl,W0a h,show xs.length - k=0 by omega];simp
theorem Xi5 {xs : List D} {z : D} {k : Nat} (h : k≤xs.length) : (fl xs z k).length=xs.length:=by simp [fl];omega
theorem Xma {xs : List D} {z u : D} {k : Nat} (h : xs[k]?=some u) : (fl xs z k).set k u=fl xs z (k+1):=by
 have hk:=(W2s.1 h).1
 rw [fl,fl,List.set_append_right _ _ (by simp;omega),show k - (xs.take k).length=0 by simp;omega,show xs.length - k=(xs.length - (k+1))+1 by omega,W3z,List.set_cons_zero,W0z,h]
 simp
theorem lq (l : List Rat) : (l.map dq).length=l.length:=W0i ..
theorem lt' (l : List (List Rat)) : (l.map dqs).length=l.length:=W0i ..
theorem qat {l : List Rat} {k : Nat} (h : k<l.length) : ∃ x,l[k]?=some x:=⟨_,W0b h⟩
def Yb3 (f : FuncId) (l : List Rat) (φ : Rat→Prop) : Prop:=∀ x∈l,C0 f [.d (dq x)] (·=.b (dc (φ x)))
abbrev fnD (f : FuncId) : D:=.raw (.func (.func f) #[] #[])
theorem Xm1 {f : FuncId} {l : List Rat} {φ : Rat→Prop} (hf : Yb3 f l φ) (hl : l.length≤1099511627776) : C0 337 [.d (dqs l),.d (fnD f)] fun v=>∃ i : Int,v=.d (.int .i64 i)∧(i ≥ 0↔∃ x∈l,φ x):=by
 refine En Tryz.func337 fun _ _ _=>?_
 refine Lo (fun k : Nat=>[(0,.d (dqs l)),(1,.d (fnD f)),(7,.d (.int .i64 l.length)),(8,.d (.int .i64 k))]) (fun _=>[]) (fun k=>k≤l.length∧∀ x∈l.take k,¬ φ x) (fun k=>l.length - k) 0 [] rfl ⟨by omega,by simp⟩ (fun k ⟨hk,hn⟩=>?_) (by exact ⟨by simp only [lq];rfl,rfl,rfl,rfl,rfl⟩)
 refine By rfl (fun h=>?_) fun h=>?_
 · obtain ⟨x,hx⟩:=qat (l:=l) (k:=k) (by omega)
   have hm:=W0r hx
   refine Ix k rfl (mp hx) ?_
   refine Ce rfl (hf x hm) ?_
   refine By rfl (fun h1=>?_) fun h1=>?_
   · exact Rt rfl (.one (.rf rfl) rfl rfl) ⟨k,rfl,⟨fun _=>⟨x,hm,h1⟩,fun _=>by omega⟩⟩
   · refine Ar (k+1 : Nat) rfl ?_
     refine Bk (k+1) [] rfl ⟨by omega,fun y hy=>?_⟩ (by show l.length - (k+1)<l.length - k;omega)
     rw [W0z,hx] at hy
     rcases W2x.1 hy with hy | hy
     · exact hn y hy
     · simp at hy;rw [hy];exact h1
 · refine Rt rfl (.one (.rf rfl) rfl rfl) ⟨-1,rfl,⟨fun h=>absurd h (by decide),fun ⟨x,hx,h1⟩=>?_⟩⟩
   rw [W0a (by omega)] at hn
   exact absurd h1 (hn x hx)
theorem Xea {f : FuncId} {l : List Rat} {φ : Rat→Prop} (hf : Yb3 f l φ) (hl : l.length≤1099511627776) : C0 293 [.d (dqs l),.d (fnD f)] (·=.b (dc (∃ x∈l,φ x))):=by
 refine En Tryz.func293 fun _ _ _=>?_
 refine Ca rfl (Xm1 hf hl) fun v hv=>?_
 obtain ⟨i,rfl,hi⟩:=hv
 exact R1 rfl (.bp (Xan.trans hi))
theorem Xs3 {x : Rat} {p : Nat} (hx : Qs p x) (hp : p≤8796093022208) : C0 374 [.d (dq x)] (·=.b (dc (x≠0))):=by
 refine En Tryz.func374 fun _ _ _=>?_
 refine Ce rfl (Xff hx hp) ?_
 refine R1 rfl (.bp ?_)
 have h0:=@W5v x
 rw [Xan]
 rcases Xau x.num 0 with ⟨g1,g2⟩ | ⟨g1,g2⟩ | ⟨g1,g2⟩ <;> rw [g2,ne_eq,ne_eq,←h0] <;> omega
def Ps (p : Nat) (l : List Rat) : Prop:=∀ x∈l,Qs p x
theorem Xbb {p : Prop} : (!dc p)=dc (¬ p):=by rw [W3t,W1s,W4j,ne_eq,Xan,Xan]
theorem Xee {l : List Rat} {p : Nat} (hx : Ps p l) (hp : p≤8796093022208) (hl : l.length≤1099511627776) : C0 333 [.d (dqs l)] (·=.b (dc (∀ x∈l,x=0))):=by
 refine En Tryz.func333 fun _ _ _=>?_
 refine Ce rfl (Xea (φ:=(·≠0)) (fun x hx'=>Xs3 (hx x hx') hp) hl) ?_
 exact R1 rfl (.bp (by rw [Xbb,Xan];simp))
theorem Xns {x : Rat} {p : Nat} (hx : Qs p x) (hp : p≤8796093022208) : C0 294 [.d (dq x)] (·=.b (dc False)):=by
 refine En Tryz.func294 fun _ _ _=>?_
 refine Ce rfl (Xls hx hp) ?_
 exact R1 rfl (.bp (by simp [Xan]))
theorem Xf5 {l : List Rat} {p n : Nat} (hx : Ps p l) (hp : p≤8796093022208) (hl : l.length≤1099511627776) (hn : l.length=n) : C0 218 [.d (dqs l),.d (.int .i64 n)] (·=.b true):=by
 refine En Tryz.func218 fun _ _ _=>?_
 refine Yes rfl (by simp only [lq,hn]) ?_
 refine Ce rfl (Xea (φ:=fun _=>False) (fun x hx'=>Xns (hx x hx') hp) hl) ?_
 exact R1 rfl (by exact (show (!dc (∃ x∈l,False))=true by rw [Xbb,Xan];simp) ▸ .rf rfl)
theorem Xbl {k : Nat} (hk : k≤40) : arB .shl .i64 1 k (2 ^ k : Nat):=by
 have h1 : 2 ^ k≤2 ^ 40:=W0k (by decide) hk
 obtain ⟨m,hm⟩ : ∃ m,m=2 ^ k:=⟨_,rfl⟩
 rw [←hm] at h1 ⊢
 refine ⟨by omega,?_⟩
 rw [W6x,W2c (by show k≤64;omega),show (1 : Int)*2 ^ k=(m : Int) by rw [hm,W7g];simp]
 exact wI (by omega)
def Pt (p : Nat) (t : List (List Rat)) : Prop:=∀ i r,t[i]?=some r→r.length=2 ^ i∧Ps p r
theorem Ydf {k m : Nat} (h : k≤m) : 2 ^ k≤2 ^ m:=W0k (by decide) h
theorem Xdz {t : List (List Rat)} {p : Nat} (ht : Pt p t) (hp : p≤8796093022208) (hl : t.length≤40) : C0 217 [.d (dts t)] (·=.b true):=by
 refine En Tryz.func217 fun _ _ _=>?_
 refine Lo (fun k : Nat=>[(0,.d (dts t)),(5,.d (dts t)),(6,.d (.int .i64 t.length)),(7,.d (.int .i64 k))]) (fun _=>[]) (fun k=>k≤t.length) (fun k=>t.length - k) 0 [] rfl (by omega) (fun k hk=>?_) (by exact ⟨by simp only [lt'];rfl,rfl,rfl,rfl,rfl⟩)
 refine By rfl (fun h=>?_) fun h=>?_
 · obtain ⟨r,hr⟩ : ∃ r,t[k]?=some r:=⟨_,W0b (by omega)⟩
   obtain ⟨h1,h2⟩:=ht k r hr
   have:=Ydf (show k≤40 by omega)
   refine Ix k rfl (mp hr) ?_
   refine Ar (2 ^ k : Nat) rfl ?_ (Xbl (by omega))
   refine Ce rfl (Xf5 h2 hp (by omega) h1) ?_
   refine No rfl (by simp) ?_
   refine Ar (k+1 : Nat) rfl ?_
   exact Bk (k+1) [] rfl (show k+1≤t.length by omega) (by show t.length - (k+1)<t.length - k;omega)
 · exact R0
theorem Xir {t : List (List Rat)} {l : List Rat} {p q : Nat} (ht : Pt p t) (hp : p≤8796093022208) (hx : Ps q l) (hq : q≤8796093022208) (hl : t.length≤39) (hn : l.length=2 ^ t.length) : C0 127 [.d (dts t),.d (dqs l)] (·=.b true):=by
 have:=Ydf (show t.length≤39 by omega)
 refine En Tryz.func127 fun _ _ _=>?_
 refine Ce rfl (Xdz ht hp (by omega)) ?_
 refine Yes rfl rfl ?_
 refine Ar (2 ^ t.length : Nat) rfl ?_ (by simp only [lt'];exact Xbl (by omega))
 refine Ce rfl (Xf5 hx hq (by omega) hn) ?_
 exact R0
theorem Xri {t : List (List Rat)} {l m : List Rat} {p q r : Nat} (ht : Pt p t) (hp : p≤8796093022208) (hx : Ps q l) (hq : q≤8796093022208) (hy : Ps r m) (hr : r≤8796093022208) (hl : t.length≤39) (hn : l.length=2 ^ t.length) (hm : m.length=2 ^ t.length) : C0 284 [.d (dts t),.d (dqs l),.d (dqs m)] (·=.b true):=by
 have:=Ydf (show t.length≤39 by omega)
 refine En Tryz.func284 fun _ _ _=>?_
 refine Ce rfl (Xir ht hp hx hq hl hn) ?_
 refine Yes rfl rfl ?_
 refine Ar (2 ^ t.length : Nat) rfl ?_ (by simp only [lt'];exact Xbl (by omega))
 refine Ce rfl (Xf5 hy hr (by omega) hm) ?_
 exact R0
theorem Xjh {n : Nat} (hn : n≤1073741824) : CA0 302 [.d (.int .i64 n)] 4 ((List.replicate n (0 : Rat)).map dq):=by
 obtain ⟨xs,hxs⟩ : ∃ xs,xs=(List.replicate n (0 : Rat)).map dq:=⟨_,rfl⟩
 have hlen : xs.length=n:=by rw [hxs];simp
 rw [←hxs]
 refine EnW Tryz.func302 fun _ _ _ _=>?_
 refine Mk n rfl (by omega) ?_
 refine Lo (fun k : Nat=>[(3,.own 6 4 0 n),(8,.d (.int .i64 n)),(9,.d (.int .i64 k))]) (fun k=>[(6,.arr 4 (fl xs rz k))]) (fun k=>k≤n) (fun k=>n - k) 0 [] rfl (by omega) (fun k hk=>?_) (by exact ⟨rfl,by rw [←Xh4 hlen];rfl,rfl,rfl,rfl⟩)
 refine By rfl (fun h=>?_) fun h=>?_
 · refine Ce rfl (Xa0 (z:=0) (by decide)) ?_
   refine Eo k rfl (by omega) ?_
   refine Sto rfl (by rw [Xi5 (by omega)];omega) (Xma (u:=dq 0) (by rw [hxs,W1f,W5a,if_pos (by omega)];rfl)) ?_
   refine Ar (k+1 : Nat) rfl ?_
   exact Bk (k+1) [] rfl (show k+1≤n by omega) (by show n - (k+1)<n - k;omega)
 · exact Rw [(6,1000000)] [(1000000,.arr 4 xs)] rfl (.one (.rf rfl) rfl rfl) ⟨_,rfl,by rw [hlen];rfl,rfl⟩ (by rw [Xmb (by omega)];rfl)
end
section
theorem Xna {xs ys : List Rat} {p q : Nat} (hl : xs.length=ys.length) (hn : xs.length≤1073741824) (hx : Ps p xs) (hy : Ps q ys) (hp : p+q+1≤8796093022208) : CA0 285 [.d (dqs xs),.d (dqs ys)] 4 ((List.zipWith (·+·) xs ys).map dq):=by
 obtain ⟨zs,hzs⟩ : ∃ zs,zs=(List.zipWith (·+·) xs ys).map dq:=⟨_,rfl⟩
 have hlen : zs.length=xs.length:=by rw [hzs];simp;omega
 rw [←hzs]
 refine EnW Tryz.func285 fun _ _ _ _=>?_
 refine Mk xs.length rfl (by simp only [lq];omega) ?_ (by simp only [lq])
 refine Lo (fun k : Nat=>[(0,.d (dqs xs)),(1,.d (dqs ys)),(5,.own 9 4 0 xs.length),(11,.d (.int .i64 xs.length)),(12,.d (.int .i64 k))]) (fun k=>[(9,.arr 4 (fl zs rz k))]) (fun k=>k≤xs.length) (fun k=>xs.length - k) 0 [] rfl (by omega) (fun k hk=>?_) (by exact ⟨rfl,by rw [←Xh4 hlen];rfl,rfl,rfl,rfl⟩)
 refine By rfl (fun h=>?_) fun h=>?_
 · obtain ⟨x,hx'⟩:=qat (l:=xs) (k:=k) (by omega)
   obtain ⟨y,hy'⟩:=qat (l:=ys) (k:=k) (by omega)
   refine Dw rfl ?_
   refine Ix k rfl (mp hx') ?_
   refine Ix k rfl (mp hy') ?_
   refine Ce rfl (Xd0 (hx x (W0r hx')) (hy y (W0r hy')) hp) ?_
   refine Eo k rfl (by omega) ?_
   refine Sto rfl (by rw [Xi5 (by omega)];omega) (Xma (u:=dq (x+y)) (by rw [hzs,W1f,W6f,hx',hy'];rfl)) ?_
   refine Ar (k+1 : Nat) rfl ?_
   exact Bk (k+1) [] rfl (show k+1≤xs.length by omega) (by show xs.length - (k+1)<xs.length - k;omega)
 · exact Rw [(9,1000000)] [(1000000,.arr 4 zs)] rfl (.one (.rf rfl) rfl rfl) ⟨_,rfl,by rw [hlen];rfl,rfl⟩ (by rw [Xmb (by omega)];rfl)
theorem Ycl {xs : List Rat} {p : Nat} (hn : xs.length≤1073741824) (hx : Ps p xs) (hp : p≤8796093022208) : CA0 128 [.d (dqs xs)] 4 ((xs.map (- ·)).map dq):=by
 obtain ⟨zs,hzs⟩ : ∃ zs,zs=(xs.map (- ·)).map dq:=⟨_,rfl⟩
 have hlen : zs.length=xs.length:=by rw [hzs];simp
 rw [←hzs]
 refine EnW Tryz.func128 fun _ _ _ _=>?_
 refine Mk xs.length rfl (by simp only [lq];omega) ?_ (by simp only [lq])
 refine Lo (fun k : Nat=>[(3,.own 8 4 0 xs.length),(9,.d (dqs xs)),(10,.d (.int .i64 xs.length)),(11,.d (.int .i64 k))]) (fun k=>[(8,.arr 4 (fl zs rz k))]) (fun k=>k≤xs.length) (fun k=>xs.length - k) 0 [] rfl (by omega) (fun k hk=>?_) (by exact ⟨by simp only [lq];rfl,by rw [←Xh4 hlen];rfl,rfl,rfl,rfl⟩)
 refine By rfl (fun h=>?_) fun h=>?_
 · obtain ⟨x,hx'⟩:=qat (l:=xs) (k:=k) (by omega)
   refine Ix k rfl (mp hx') ?_
   refine Ce rfl (Xj6 (hx x (W0r hx')) hp) ?_
   refine Eo k rfl (by omega) ?_
   refine Sto rfl (by rw [Xi5 (by omega)];omega) (Xma (u:=dq (-x)) (by rw [hzs,W1f,W1f,hx'];rfl)) ?_
   refine Ar (k+1 : Nat) rfl ?_
   exact Bk (k+1) [] rfl (show k+1≤xs.length by omega) (by show xs.length - (k+1)<xs.length - k;omega)
 · exact Rw [(8,1000000)] [(1000000,.arr 4 zs)] rfl (.one (.rf rfl) rfl rfl) ⟨_,rfl,by rw [hlen];rfl,rfl⟩ (by rw [Xmb (by omega)];rfl)
theorem Yj7 {m h : Nat} (e : m=2*h) (hh : h≤1073741824) : arB .quo .i64 m 2 h:=show _∧_ from ⟨by decide,by rw [show Int.tdiv (m : Int) 2=((m / 2 : Nat) : Int) from rfl,show m / 2=h by omega];exact wI (by omega)⟩
theorem Xh0 {l m : List Rat} (h : l.length=m.length) (hl : l.length≤1073741824) : C0 341 [.d (dqs (l++m))] (·=.tup (.pr (.d (dqs l)) (.d (dqs m)))):=by
 have e : ((l++m).map dq).length=2*l.length:=by rw [lq,W0d];omega
 refine En Tryz.func341 fun _ _ _=>?_
 refine Dw rfl ?_
 refine Ar l.length rfl ?_ (Yj7 e hl)
 refine Tk l.length (l.map dq) rfl rfl (by omega) (by rw [←W2w,W6v]) ?_
 refine Ar l.length rfl ?_ (Yj7 e hl)
 refine Dp l.length (m.map dq) rfl rfl (by omega) (by rw [←List.map_drop,W7p]) ?_
 exact R0t
theorem Xo8 {t : List (List Rat)} {r : List Rat} (hl : t.length≤1073741824) : C0 340 [.d (dts (t++[r]))] (·=.tup (.pr (.d (dts t)) (.d (dqs r)))):=by
 have e : ((t++[r]).map dqs).length=t.length+1:=by rw [lt',W0d];rfl
 refine En Tryz.func340 fun _ _ _=>?_
 refine Dw rfl ?_
 refine Ar t.length rfl ?_ (wr (by omega) (by simp only [inK];omega))
 refine Tk t.length (t.map dqs) rfl rfl (by omega) (by rw [←W2w,W6v]) ?_
 refine Ar t.length rfl ?_ (wr (by omega) (by simp only [inK];omega))
 refine Ix t.length rfl (u:=dqs r) (mp (by simp)) ?_
 exact R0t
end
section
abbrev de {k : Nat} (a : El k) : D:=dqs (toL k a)
abbrev dt {k : Nat} (t : Tw k) : D:=dts (toT k t)
theorem _root_.Go.Proofs.YtpgcfjpkilabfaaGreatDoor.Sz.ps {p : Nat} {l : List Rat} (h : Sz p l) : Ps p l:=fun _ hx=>h.qs hx
theorem Xsk {k : Nat} {t : Tw k} {a b : El k} (h : (∀ x∈toL k a,x=0)∨(∀ x∈toL k b,x=0)) : toL k (mul k t a b)=List.replicate (2 ^ k) 0:=by
 have L:=Xay k t
 rcases h with h | h
 · rw [(Xaq k a).2 h,L.zm,Xbo]
 · rw [(Xaq k b).2 h,L.mz,Xbo]
theorem p16 {k : Nat} (h : k≤16) : 2 ^ k≤65536:=Ydf h
def Yoj (k : Nat) (xs : List D) (v : AV) (H' : Hpl) : Prop:=(k=0∧v=.lit 4 xs∧H'=[])∨(v=.own 1000000 4 0 xs.length∧H'=[(1000000,.arr 4 xs)])
theorem Xoz : ∀ {k : Nat} {r s s' : Nat} {t : Tw k} {a b : El k},TS r k t→Sz s (toL k a)→Sz s' (toL k b)→k≤16→s+s'+cB r k≤4398046511104→CW0 296 [.d (dt t),.d (de a),.d (de b)] [] (Yoj k ((toL k (mul k t a b)).map dq)):=by
 intro k
 induction k with
 | zero =>
  intro r s s' t a b hT ha hb hk hs
  refine EnW Tryz.func296 fun _ _ _ _=>?_
  refine Yes rfl rfl ?_
  refine Dw rfl ?_
  refine Ix 0 rfl (u:=dq a) rfl ?_
  refine Ix 0 rfl (u:=dq b) rfl ?_
  refine Ce rfl (Xho (ha.qs (W0e.2 rfl)) (hb.qs (W0e.2 rfl)) (by omega)) ?_
  exact Rw [] [] rfl (.one (.rf rfl) rfl rfl) (.inl ⟨rfl,rfl,rfl⟩)
 | succ k ih =>
  intro r s s' t a b hT ha hb hk hs
  have hp:=p16 hk
  have hp1 : 2 ^ (k+1)=2*2 ^ k:=by rw [W0s];omega
  have hcB : cB r (k+1)=2*cB r k+r+1:=rfl
  have hax : Sz s (toL k a.1):=Sz.left ha
  have hay : Sz s (toL k a.2):=Sz.right ha
  have hbx : Sz s' (toL k b.1):=Sz.left hb
  have hby : Sz s' (toL k b.2):=Sz.right hb
  have hlen:=Xab k
  have ihd : ∀ {p q : Nat} {x y : El k},Sz p (toL k x)→Sz q (toL k y)→p+q+cB r k≤4398046511104→C0 296 [.d (dt t.1),.d (de x),.d (de y)] (·=.d (de (mul k t.1 x y))):=fun hx hy h =>
   CW.data (ih hT.1 hx hy (by omega) h) rfl fun v H' hv=>by
    rcases hv with ⟨_,rfl,rfl⟩ | ⟨rfl,rfl⟩
    · exact ⟨_,.one (.lit rfl) rfl rfl,rfl⟩
    · exact ⟨_,.one (.own rfl (by simp) (by rw [W1b,W2b])) rfl rfl,rfl⟩
  refine EnW Tryz.func296 fun _ _ _ _=>?_
  refine No rfl (by simp only [lt',Xaa];omega) ?_
  refine Cu (some 3) (fun (b' : Bool)=>[(0,.d (dt t)),(1,.d (de a)),(2,.d (de b)),(26,.b b')]) (fun _=>[]) (fun b'=>b'=true→(∀ x∈toL (k+1) a,x=0)∨(∀ x∈toL (k+1) b,x=0)) rfl ?_ fun b' hb'=>?_
  · refine Ce rfl (Xee ha.ps (by omega) (by rw [Xab];omega)) ?_
    refine By rfl (fun h=>?_) fun h=>?_
    · exact Jn true [] rfl fun _=>.inl h
    · refine Ce rfl (Xee hb.ps (by omega) (by rw [Xab];omega)) ?_
      exact Jn (dc _) [] rfl fun e=>.inr (Xan.1 e)
  refine By rfl (fun h=>?_) fun h=>?_
  · have hz:=Xsk (t:=t) (hb' h)
    refine Cr (sz:=4) (xs:=(List.replicate (2 ^ (k+1)) (0 : Rat)).map dq) rfl (by
     simp only [lq,Xab]
     exact Xjh (by omega)) ?_
    exact Rw [(35,1000000)] [(1000000,.arr 4 _)] rfl (.one (.rf rfl) rfl rfl) (.inr ⟨by rw [hz];rfl,by rw [hz]⟩)
  refine Ce rfl (Xo8 (t:=toT k t.1) (r:=toL k t.2) (by rw [Xaa];omega)) ?_
  refine Ce rfl (Xh0 (l:=toL k a.1) (m:=toL k a.2) (by rw [hlen,hlen]) (by rw [hlen];omega)) ?_
  refine Ce rfl (Xh0 (l:=toL k b.1) (m:=toL k b.2) (by rw [hlen,hlen]) (by rw [hlen];omega)) ?_
  refine Ce rfl (ihd hax hbx (by omega)) ?_
  refine Ce rfl (ihd hay hby (by omega)) ?_
  refine Ce rfl (ihd (hay.mul hT.1 hby) hT.2 (by omega)) ?_
  refine Cr rfl (Xna (by rw [hlen,hlen]) (by rw [hlen];omega) (hax.mul hT.1 hbx).ps ((hay.mul hT.1 hby).mul hT.1 hT.2).ps (by omega)) ?_
  refine Ce rfl (ihd hax hby (by omega)) ?_
  refine Ce rfl (ihd hay hbx (by omega)) ?_
  refine Ce rfl (CA.data (Xna (by rw [hlen,hlen]) (by rw [hlen];omega) (hax.mul hT.1 hby).ps (hay.mul hT.1 hbx).ps (by omega))) ?_
  refine ApO ((toL (k+1) (mul (k+1) t a b)).map dq) rfl rfl rfl (by
   rw [←W1u,←Xat,←Xat];rfl) (by rw [lq,Xab];omega) ?_
  exact Rw [(73,1000000)] [(1000000,.arr 4 _)] rfl (.one (.rf rfl) rfl rfl) (.inr ⟨rfl,rfl⟩)
end
section
theorem Xfx {k : Nat} {r s s' : Nat} {t : Tw k} {a b : Tow.El k} (hT : TS r k t) (ha : Sz s (toL k a)) (hb : Sz s' (toL k b)) (hk : k≤16) (hs : s+s'+cB r k≤4398046511104) : C0 296 [.d (dt t),.d (de a),.d (de b)] (·=.d (de (mul k t a b))) :=
 CW.data (Xoz hT ha hb hk hs) rfl fun v H' hv=>by
  rcases hv with ⟨_,rfl,rfl⟩ | ⟨rfl,rfl⟩
  · exact ⟨_,.one (.lit rfl) rfl rfl,rfl⟩
  · exact ⟨_,.one (.own rfl (by simp) (by rw [W1b,W2b])) rfl rfl,rfl⟩
theorem Xnb {k p q : Nat} {a b : Tow.El k} (hk : k≤16) (ha : Ps p (toL k a)) (hb : Ps q (toL k b)) (hp : p+q+1≤8796093022208) : C0 285 [.d (de a),.d (de b)] (·=.d (de (Tow.add k a b))):=by
 have:=CA.data (Xna (by rw [Xab,Xab]) (by rw [Xab];have:=p16 hk;omega) ha hb hp)
 rwa [←Xat] at this
theorem Xhc {k p : Nat} {a : Tow.El k} (hk : k≤16) (ha : Ps p (toL k a)) (hp : p≤8796093022208) : C0 128 [.d (de a)] (·=.d (de (Tow.neg k a))):=by
 have:=CA.data (Ycl (by rw [Xab];have:=p16 hk;omega) ha hp)
 rwa [←Xb4] at this
theorem Xo9 {k : Nat} {t : Tw (k+1)} (hk : k≤16) : C0 340 [.d (dt t)] (·=.tup (.pr (.d (dt t.1)) (.d (de t.2)))):=Xo8 (by rw [Xaa];omega)
theorem Xl6 {k : Nat} {a : Tow.El (k+1)} (hk : k≤16) : C0 341 [.d (de a)] (·=.tup (.pr (.d (de a.1)) (.d (de a.2)))):=Xh0 (by rw [Xab,Xab]) (by rw [Xab];have:=p16 hk;omega)
theorem Xgj {k p : Nat} {a : Tow.El k} (h : Sz p (toL k a)) : Sz p (toL k (Tow.neg k a)):=by rw [Xb4];exact h.neg
theorem Xoy {k r s : Nat} {t : Tw (k+1)} {a : Tow.El (k+1)} (hT : TS r (k+1) t) (ha : Sz s (toL (k+1) a)) (hk : k+1≤16) (hs : nB r k s≤4398046511104) : C0 396 [.d (dt t),.d (de a)] (·=.d (de (Tow.norm k t a))):=by
 have hn : nB r k s=4*s+3*cB r k+r+1:=rfl
 have hx : Sz s (toL k a.1):=Sz.left ha
 have hy : Sz s (toL k a.2):=Sz.right ha
 refine En Tryz.func396 fun _ _ _=>?_
 refine Ce rfl (Xo9 (by omega)) ?_
 refine Ce rfl (Xl6 (by omega)) ?_
 refine Ce rfl (Xfx hT.1 hx hx (by omega) (by omega)) ?_
 refine Ce rfl (Xfx hT.1 hy hy (by omega) (by omega)) ?_
 refine Ce rfl (Xfx hT.1 (hy.mul hT.1 hy) hT.2 (by omega) (by omega)) ?_
 refine Ce rfl (Xhc (by omega) ((hy.mul hT.1 hy).mul hT.1 hT.2).ps (by omega)) ?_
 refine Ce rfl (Xnb (by omega) (hx.mul hT.1 hx).ps (Xgj ((hy.mul hT.1 hy).mul hT.1 hT.2)).ps (by omega)) ?_
 exact R0
theorem Xvd {r k p q : Nat} (h : iB r (k+1) p≤q) : nB r k p≤q∧p+iB r k (nB r k p)+cB r k≤q:=by
 have h1:=Xyq r k (nB r k p)
 have h2 : iB r (k+1) p=2*(p+iB r k (nB r k p)+cB r k):=rfl
 omega
theorem Ylk (x : Rat) : Tow.inv 0 () x=if x=0 then none else some (1 / x : Rat):=rfl
theorem Xqi (y : Rat) : (∃ x,Tow.inv 0 () y=some x)↔y≠0:=by
 rw [Ylk]
 by_cases h : y=0
 · rw [if_pos h];exact ⟨(fun ⟨x,h⟩=>nomatch h),fun h2=>absurd h h2⟩
 · rw [if_neg h];exact ⟨fun _=>h,fun _=>⟨_,rfl⟩⟩
theorem Ykt {y : Rat} {s : Nat} (hq : Qs s y) (hs : s+1≤8796093022208) : C0 395 [.d (dts []),.d (dqs [y])] fun v=>∃ w : D,v=.tup (.pr (.d w) (.b (dc (y≠0))))∧(y≠0→w=dqs [1 / y]):=by
 have h1 : Qs 1 (1 : Rat):=Qs.int (z:=1) (Zs.one (W0c 1)) (W0c 1)
 refine En Tryz.func395 fun _ _ _=>?_
 refine Yes rfl rfl ?_
 refine Dw rfl ?_
 refine Ce rfl (Xa0 (z:=1) (by decide)) ?_
 refine Ix 0 rfl (u:=dq y) rfl ?_
 by_cases h0 : y=0
 · refine Ce rfl (Xx7 h0) ?_
   exact Rt rfl (.tup (.cons (.lit rfl) (.one (by exact .bp ⟨fun h=>absurd (Xan.1 h) (by decide),fun h=>absurd h0 h⟩) (fun _ _ e=>by cases e) (fun _ _ e=>by cases e)))) ⟨_,rfl,fun h=>absurd h0 h⟩
 · refine Ce rfl (Yc9 h1 hq (by omega) h0) ?_
   exact Rt rfl (.tup (.cons (.lit rfl) (.one (by exact .bp ⟨fun _=>h0,fun _=>Xan.2 rfl⟩) (fun _ _ e=>by cases e) (fun _ _ e=>by cases e)))) ⟨_,rfl,fun _=>rfl⟩
theorem Xm9 : ∀ {k : Nat} {r s : Nat} {t : Tw k} {a : Tow.El k},TS r k t→Sz s (toL k a)→k≤16→iB r k s≤4398046511104→C0 395 [.d (dt t),.d (de a)] fun v=>∃ w : D,v=.tup (.pr (.d w) (.b (dc (∃ x,Tow.inv k t a=some x))))∧∀ x,Tow.inv k t a=some x→w=de x:=by
 intro k
 induction k with
 | zero =>
  intro r s t a hT ha hk hs
  have hb : iB r 0 s=s+1:=rfl
  have key : ∀ y : Rat,Qs s y→C0 395 [.d (dts []),.d (dqs [y])] fun v=>∃ w : D,v=.tup (.pr (.d w) (.b (dc (∃ x,Tow.inv 0 () y=some x))))∧∀ x : Rat,Tow.inv 0 () y=some x→w=dqs [x]:=fun y hq=>by
   refine C.mono (Ykt hq (by omega)) fun v ⟨w,e,h⟩=>⟨w,by rw [e];congr 4;exact propext (Xqi y).symm,fun x hx=>?_⟩
   have h0:=(Xqi y).1 ⟨x,hx⟩
   rw [h h0]
   rw [Ylk,if_neg h0] at hx
   injection hx with hx
   rw [←hx]
  exact key a (ha.qs (W0e.2 rfl))
 | succ k ih =>
  intro r s t a hT ha hk hs
  have hx : Sz s (toL k a.1):=Sz.left ha
  have hy : Sz s (toL k a.2):=Sz.right ha
  obtain ⟨hi1,hi2⟩:=Xvd hs
  have hN:=ha.norm hT
  have hge:=Xyq r k (nB r k s)
  have hinv : Tow.inv (k+1) t a=match Tow.inv k t.1 (Tow.norm k t a) with | none=>none | some x=>some (mul k t.1 a.1 x,Tow.neg k (mul k t.1 a.2 x)):=rfl
  refine En Tryz.func395 fun _ _ _=>?_
  refine No rfl (by simp only [lt',Xaa];omega) ?_
  refine Ce rfl (Xo9 (by omega)) ?_
  refine Ce rfl (Xoy hT ha hk (by omega)) ?_
  refine Ca rfl (ih hT.1 hN (by omega) (by omega)) fun v hv=>?_
  obtain ⟨w,rfl,hw⟩:=hv
  refine By rfl (fun h=>?_) fun h=>?_
  · have h : ¬ ∃ x,Tow.inv k t.1 (Tow.norm k t a)=some x:=by simpa [Xbb,Xan] using h
    have e0 : Tow.inv (k+1) t a=none:=by
     rw [hinv]
     cases hh : Tow.inv k t.1 (Tow.norm k t a) with
     | none=>rfl
     | some x=>exact absurd ⟨x,hh⟩ h
    exact Rt rfl (.tup (.cons (.nil (sz:=4) rfl) (.one (by exact .bp (c:=false) (p:=∃ x,Tow.inv (k+1) t a=some x) ⟨nofun,fun ⟨x,h⟩=>by rw [e0] at h;cases h⟩) (fun _ _ e=>by cases e) (fun _ _ e=>by cases e)))) ⟨_,rfl,fun x h=>by rw [e0] at h;cases h⟩
  · obtain ⟨x,hx'⟩ : ∃ x,Tow.inv k t.1 (Tow.norm k t a)=some x:=by simpa [Xbb,Xan] using h
    obtain rfl:=hw x hx'
    rw [hx'] at hinv
    have hzx:=hN.inv hT.1 hx'
    have hpk:=p16 (show k≤16 by omega)
    refine Ce rfl (Xl6 (by omega)) ?_
    refine Cw [] rfl (Xoz hT.1 hx hzx (by omega) (by omega)) fun v H' _ hv=>?_
    have fin : ∀ {zs : List D},zs=(toL k (mul k t.1 a.1 x)).map dq++(toL k (Tow.neg k (mul k t.1 a.2 x))).map dq→zs=(toL (k+1) (mul k t.1 a.1 x,Tow.neg k (mul k t.1 a.2 x))).map dq:=fun h=>by rw [h,←W1u];rfl
    have hb : (true=true↔∃ x,Tow.inv (k+1) t a=some x):=⟨fun _=>⟨_,hinv⟩,fun _=>rfl⟩
    rcases hv with ⟨hk0,rfl,rfl⟩ | ⟨rfl,rfl⟩
    · refine Ce rfl (Xfx hT.1 hy hzx (by omega) (by omega)) ?_
      refine Ce rfl (Xhc (by omega) (hy.mul hT.1 hzx).ps (by omega)) ?_
      refine ApL _ rfl rfl (by rw [lq,Xab];exact W0n k) (by rw [W0d,lq,lq,Xab,Xab];omega) ?_
      exact Rt rfl (.tup (.cons (.own rfl (by rw [W1n];exact W0c _) rfl) (.one (by exact .bp (c:=true) hb) (fun _ _ e=>by cases e) (fun _ _ e=>by cases e)))) ⟨_,rfl,fun y h=>by rw [hinv] at h;injection h with h;rw [←h,W1b,W2b,fin rfl];rfl⟩
    · refine Ce rfl (Xfx hT.1 hy hzx (by omega) (by omega)) ?_
      refine Ce rfl (Xhc (by omega) (hy.mul hT.1 hzx).ps (by omega)) ?_
      refine ApO _ rfl rfl rfl rfl (by rw [W0d,lq,lq,Xab,Xab];omega) ?_
      exact Rt rfl (.tup (.cons (.own rfl (by rw [W1n];exact W0c _) rfl) (.one (by exact .bp (c:=true) hb) (fun _ _ e=>by cases e) (fun _ _ e=>by cases e)))) ⟨_,rfl,fun y h=>by rw [hinv] at h;injection h with h;rw [←h,W1b,W2b,fin rfl];rfl⟩
end
section
theorem Xjr : ∀ {k : Nat} {t : Tw k} {r : Nat},TS r k t→∀ {i : Nat} {l : List Rat},(toT k t)[i]?=some l→l.length=2 ^ i∧Sz r l
 | 0,_,_,_,_,_,h=>by simp [toT] at h
 | k+1,t,r,hT,i,l,h=>by
  by_cases hi : i<k
  · rw [toT,W1a (by rw [Xaa];exact hi)] at h
    exact Xjr hT.1 h
  · have:=(W2s.1 h).1
    rw [Xaa] at this
    have hik : i=k:=by omega
    subst hik
    rw [toT,W0v (by rw [Xaa];exact W0c _),Xaa,W3f] at h
    simp at h
    rw [←h]
    exact ⟨Xab _ _,hT.2⟩
theorem TS.pt {k r : Nat} {t : Tw k} (h : TS r k t) : Pt r (toT k t):=fun i l hl=>⟨(Xjr h hl).1,(Xjr h hl).2.ps⟩
theorem Yfo {k : Nat} (t : Tw k) (a : Tow.El k) : (toL k a).length=2 ^ (toT k t).length:=by rw [Xab,Xaa]
section
variable {k r s s' : Nat} {t : Tw k} {a b : Tow.El k}
theorem Xb5 (hT : TS r k t) (ha : Sz s (toL k a)) (hk : k≤16) (hs : s≤4398046511104) (hr : r≤4398046511104) : C0 127 [.d (dt t),.d (de a)] (·=.b true):=Xir (TS.pt hT) (by omega) ha.ps (by omega) (by rw [Xaa];omega) (Yfo t a)
theorem Xfy (hT : TS r k t) (ha : Sz s (toL k a)) (hb : Sz s' (toL k b)) (hk : k≤16) (hs : s+s'≤4398046511104) (hr : r≤4398046511104) : C0 284 [.d (dt t),.d (de a),.d (de b)] (·=.b true):=Xri (TS.pt hT) (by omega) ha.ps (by omega) hb.ps (by omega) (by rw [Xaa];omega) (Yfo t a) (Yfo t b)
theorem Xhd (hT : TS r k t) (ha : Sz s (toL k a)) (hb : Sz s' (toL k b)) (hk : k≤16) (hs : s+s'≤4398046511104) (hr : r≤4398046511104) : C0 205 [.d (dt t),.d (de a),.d (de b)] (·=.d (de (Tow.add k a b))):=by
 refine En Tryz.func205 fun _ _ _=>?_
 refine Ce rfl (Xfy hT ha hb hk hs hr) ?_
 refine No rfl (by simp) ?_
 refine Ce rfl (Xnb hk ha.ps hb.ps (by omega)) ?_
 exact R0
theorem Xs4 (hT : TS r k t) (ha : Sz s (toL k a)) (hk : k≤16) (hs : s≤4398046511104) (hr : r≤4398046511104) : C0 59 [.d (dt t),.d (de a)] (·=.d (de (Tow.neg k a))):=by
 refine En Tryz.func59 fun _ _ _=>?_
 refine Ce rfl (Xb5 hT ha hk hs hr) ?_
 refine No rfl (by simp) ?_
 refine Ce rfl (Xhc hk ha.ps (by omega)) ?_
 exact R0
theorem Xju (hT : TS r k t) (ha : Sz s (toL k a)) (hb : Sz s' (toL k b)) (hk : k≤16) (hs : s+s'≤4398046511104) (hr : r≤4398046511104) : C0 225 [.d (dt t),.d (de a),.d (de b)] (·=.d (de (Tow.add k a (Tow.neg k b)))):=by
 refine En Tryz.func225 fun _ _ _=>?_
 refine Ce rfl (Xfy hT ha hb hk hs hr) ?_
 refine No rfl (by simp) ?_
 refine Ce rfl (Xhc hk hb.ps (by omega)) ?_
 refine Ce rfl (Xnb hk ha.ps (Xgj hb).ps (by omega)) ?_
 exact R0
theorem Xdi (hT : TS r k t) (ha : Sz s (toL k a)) (hb : Sz s' (toL k b)) (hk : k≤16) (hs : s+s'+cB r k≤4398046511104) (hr : r≤4398046511104) : C0 220 [.d (dt t),.d (de a),.d (de b)] (·=.d (de (mul k t a b))):=by
 refine En Tryz.func220 fun _ _ _=>?_
 refine Ce rfl (Xfy hT ha hb hk (by omega) hr) ?_
 refine No rfl (by simp) ?_
 refine Ce rfl (Xfx hT ha hb hk hs) ?_
 exact R0
theorem Xs5 (hT : TS r k t) (ha : Sz s (toL k a)) (hk : k≤16) (hs : iB r k s≤4398046511104) (hr : r≤4398046511104) {x : Tow.El k} (hx : Tow.inv k t a=some x) : C0 377 [.d (dt t),.d (de a)] (·=.tup (.pr (.d (de x)) (.d (.int .i64 0)))):=by
 have hge:=Xyq r k s
 refine En Tryz.func377 fun _ _ _=>?_
 refine Ce rfl (Xb5 hT ha hk (by omega) hr) ?_
 refine No rfl (by simp) ?_
 refine Ca rfl (Xm9 hT ha hk hs) fun v hv=>?_
 obtain ⟨w,rfl,hw⟩:=hv
 obtain rfl:=hw x hx
 refine No rfl (by simp [Xbb,Xan,hx]) ?_
 exact R0t
theorem Xxn {i : Nat} (hT : TS r k t) (hk : k≤16) (hr : r≤4398046511104) (hi : i<k) : C0 283 [.d (dt t),.d (.int .i64 i)] (·=.d (de (root k i))):=by
 have hp:=p16 hk
 have hpi : 2 ^ i<2 ^ k:=W3n (by decide) hi
 refine En Tryz.func283 fun _ _ _=>?_
 refine Ce rfl (Xdz (TS.pt hT) (by omega) (by rw [Xaa];omega)) ?_
 refine No rfl (by simp) ?_
 refine No rfl (by omega) ?_
 refine No rfl (by simp only [lt',Xaa];omega) ?_
 refine Ar (2 ^ k : Nat) rfl ?_ (by simp only [lt',Xaa];exact Xbl (by omega))
 refine Cr rfl (Xjh (n:=2 ^ k) (by omega)) ?_
 refine Dw rfl ?_
 refine Ar (2 ^ i : Nat) rfl ?_ (Xbl (by omega))
 refine Ce rfl (Xa0 (z:=1) (by decide)) ?_
 refine Eo (2 ^ i) rfl (by simp only [lq,W1q];omega) ?_
 refine Sto rfl (by simp only [lq,W1q];omega) (ms (f:=dq) (u:=1)) ?_
 refine R1 rfl (.own rfl (by simp) ?_)
 rw [W1b,←Xox hi]
 exact W0a (by simp [Xab])
theorem Xcg {x : Rat} {p : Nat} (hT : TS r k t) (hk : k≤16) (hr : r≤4398046511104) (hx : Qs p x) (hp : p≤4398046511104) : C0 226 [.d (dt t),.d (dq x)] (·=.d (de (rat k x))):=by
 have hpk:=p16 hk
 have h0:=W0n k
 refine En Tryz.func226 fun _ _ _=>?_
 refine Ce rfl (Xdz (TS.pt hT) (by omega) (by rw [Xaa];omega)) ?_
 refine No rfl (by simp) ?_
 refine Ce rfl (Xls hx (by omega)) ?_
 refine No rfl (by simp) ?_
 refine Ar (2 ^ k : Nat) rfl ?_ (by simp only [lt',Xaa];exact Xbl (by omega))
 refine Cr rfl (Xjh (n:=2 ^ k) (by omega)) ?_
 refine Eo 0 rfl (by simp only [lq,W1q];omega) ?_
 refine Sto rfl (by simp only [lq,W1q];omega) (ms (f:=dq) (u:=x)) ?_
 refine R1 rfl (.own rfl (by simp) ?_)
 rw [W1b,Xcu]
 rw [W0a (by simp),show 2 ^ k=2 ^ k - 1+1 by omega,W3z,List.set_cons_zero]
 rfl
theorem Xxo {k r s : Nat} {t : Tw (k+1)} {a : Tow.El (k+1)} (hT : TS r (k+1) t) (ha : Sz s (toL (k+1) a)) (hk : k+1≤16) (hs : nB r k s≤4398046511104) (hr : r≤4398046511104) : C0 378 [.d (dt t),.d (de a)] (·=.d (de (Tow.norm k t a))):=by
 have hn : nB r k s=4*s+3*cB r k+r+1:=rfl
 refine En Tryz.func378 fun _ _ _=>?_
 refine Ce rfl (Xb5 hT ha hk (by omega) hr) ?_
 refine No rfl (by simp) ?_
 refine No rfl (by simp only [lt',Xaa];omega) ?_
 refine Ce rfl (Xoy hT ha hk hs) ?_
 exact R0
end
end
end Go.Proofs.YtpgcfjpkilabfaaGreatDoor
namespace Go.Proofs.YtpgcfjpkilabfaaGreatDoor.R6
open Go Go.Vm Go.Num Go.Tow Go.Proofs.YtpgcfjpkilabfaaGreatDoor
theorem Xg1 {l : List Rat} {p n : Nat} (hx : Ps p l) (hp : p≤8796093022208) (hl : l.length≤1099511627776) (hn : l.length=n) : C0 359 [.d (dqs l),.d (.int .i64 n)] (·=.b true):=by
 refine En Tryz.func359 fun _ _ _=>?_
 refine Lo (fun k : Nat=>[(0,.d (dqs l)),(1,.d (.int .i64 n)),(5,.d (.int .i64 k))]) (fun _=>[]) (fun k=>k≤l.length) (fun k=>l.length - k) 0 [] rfl (by omega) (fun k hk=>?_)
 refine By rfl (fun h=>?_) fun h=>?_ <;> simp only [lq] at h
 · obtain ⟨x,hx'⟩:=qat (l:=l) (k:=k) (by omega)
   refine Ix k rfl (mp hx') ?_
   refine Ce rfl (R2.Valid_ok (hx x (W0r hx')) hp) ?_
   refine No rfl (by simp) ?_
   refine Ar (k+1 : Nat) rfl ?_
   exact Bk (k+1) [] rfl (show k+1≤l.length by omega) (by show l.length - (k+1)<l.length - k;omega)
 · exact R1 rfl (by exact (show dc (((l.map dq).length : Int)=n)=true by rw [Xan,lq,hn]) ▸ .rf rfl)
theorem Tower_ok {t : List (List Rat)} {p : Nat} (ht : Pt p t) (hp : p≤8796093022208) (hl : t.length≤40) : C0 358 [.d (dts t)] (·=.b true):=by
 refine En Tryz.func358 fun _ _ _=>?_
 refine Lo (fun k : Nat=>[(0,.d (dts t)),(3,.d (.int .i64 k))]) (fun _=>[]) (fun k=>k≤t.length) (fun k=>t.length - k) 0 [] rfl (by omega) (fun k hk=>?_)
 refine By rfl (fun h=>?_) fun h=>?_ <;> simp only [lt'] at h
 · obtain ⟨r,hr⟩ : ∃ r,t[k]?=some r:=⟨_,W0b (by omega)⟩
   obtain ⟨h1,h2⟩:=ht k r hr
   have:=Ydf (show k≤40 by omega)
   refine Dw rfl ?_
   refine Ix k rfl (mp hr) ?_
   refine Ar (2 ^ k : Nat) rfl ?_ (Xbl (by omega))
   refine Ce rfl (Xg1 h2 hp (by omega) h1) ?_
   refine No rfl (by simp) ?_
   refine Ar (k+1 : Nat) rfl ?_
   exact Bk (k+1) [] rfl (show k+1≤t.length by omega) (by show t.length - (k+1)<t.length - k;omega)
 · exact R0
theorem Formed_ok {t : List (List Rat)} {l : List Rat} {p q : Nat} (ht : Pt p t) (hp : p≤8796093022208) (hx : Ps q l) (hq : q≤8796093022208) (hl : t.length≤39) (hn : l.length=2 ^ t.length) : C0 308 [.d (dts t),.d (dqs l)] (·=.b true):=by
 have:=Ydf (show t.length≤39 by omega)
 refine En Tryz.func308 fun _ _ _=>?_
 refine Ce rfl (Tower_ok ht hp (by omega)) ?_
 refine Yes rfl rfl ?_
 refine Ar (2 ^ t.length : Nat) rfl ?_ (by simp only [lt'];exact Xbl (by omega))
 refine Ce rfl (Xg1 hx hq (by omega) hn) ?_
 exact R0
theorem Zero_ok {l : List Rat} (hl : l.length≤1099511627776) : C0 325 [.d (dqs l)] (·=.b (dc (∀ x∈l,x=0))):=by
 refine En Tryz.func325 fun _ _ _=>?_
 refine Lo (fun k : Nat=>[(0,.d (dqs l)),(3,.d (.int .i64 k))]) (fun _=>[]) (fun k=>k≤l.length∧∀ x∈l.take k,x=0) (fun k=>l.length - k) 0 [] rfl ⟨by omega,by simp⟩ (fun k ⟨hk,hz⟩=>?_)
 refine By rfl (fun h=>?_) fun h=>?_ <;> simp only [lq] at h
 · obtain ⟨x,hx⟩:=qat (l:=l) (k:=k) (by omega)
   refine Ix k rfl (mp hx) ?_
   refine By rfl (fun h1=>?_) fun h1=>?_
   · exact R1 rfl (.bp ⟨nofun,fun e=>by
      rw [e x (W0r hx),lw] at h1
      simp [Xai] at h1⟩)
   · refine Ar (k+1 : Nat) rfl ?_
     refine Bk (k+1) [] rfl ⟨by omega,fun y hy=>?_⟩ (by show l.length - (k+1)<l.length - k;omega)
     rw [W0z,hx] at hy
     rcases W2x.1 hy with hy | hy
     · exact hz y hy
     · simp at hy;rw [hy];exact R2.zero_of (by omega)
 · rw [W0a (by omega)] at hz
   exact R1 rfl (.bp ⟨fun _=>hz,fun _=>rfl⟩)
theorem Neg_ok {T : List (List Rat)} {xs : List Rat} {p : Nat} (hn : xs.length≤1073741824) (hx : Ps p xs) (hp : p≤8796093022208) : CG0 77 [.d (dts T),.d (dqs xs)] 4 ((xs.map (- ·)).map dq):=by
 refine EnW Tryz.func77 fun _ _ _ _=>?_
 refine Nl 5 5 4 rfl ?_
 refine Lo (fun k : Nat=>[(1,.d (dqs xs)),(5,.gr 5 4 (((xs.take k).map (- ·)).map dq)),(6,.d (.int .i64 k))]) (fun k=>[(5,.tok (((xs.take k).map (- ·)).map dq).length 4)]) (fun k=>k≤xs.length) (fun k=>xs.length - k) 0 [] rfl (by omega) (fun k hk=>?_)
 refine By rfl (fun h=>?_) fun h=>?_ <;> simp only [lq] at h
 · obtain ⟨x,hx'⟩:=qat (l:=xs) (k:=k) (by omega)
   refine Ix k rfl (mp hx') ?_
   refine Ce rfl (R2.Neg_ok (hx x (W0r hx')) hp) ?_
   refine ApG (((xs.take (k+1)).map (- ·)).map dq) rfl (by rw [W0z,hx'];simp) (by simp;omega) ?_
   refine Ar (k+1 : Nat) rfl ?_
   exact Bk (k+1) [(20,5)] rfl (show k+1≤xs.length by omega) (by show xs.length - (k+1)<xs.length - k;omega)
 · exact Rw [(5,1000000)] [(1000000,.tok ((xs.map (- ·)).map dq).length 4)] rfl (.one (.rf rfl) rfl rfl) ⟨_,rfl,by rw [W0a (by omega)];rfl,rfl⟩ (by rw [W0a (by omega)];rfl)
theorem Neg_el {T : List (List Rat)} {k p : Nat} {a : Tow.El k} (hk : k≤16) (ha : Ps p (toL k a)) (hp : p≤8796093022208) : C0 77 [.d (dts T),.d (de a)] (·=.d (de (Tow.neg k a))):=by
 have:=CG.data (Neg_ok (T:=T) (by rw [Xab];have:=p16 hk;omega) ha hp)
 rwa [←Xb4] at this
theorem Add_ok {T : List (List Rat)} {xs ys : List Rat} {p q : Nat} (hl : xs.length=ys.length) (hn : xs.length≤1073741824) (hx : Ps p xs) (hy : Ps q ys) (hp : p+q+1≤8796093022208) : CG0 251 [.d (dts T),.d (dqs xs),.d (dqs ys)] 4 ((List.zipWith (·+·) xs ys).map dq):=by
 have hz : (List.zipWith (·+·) xs ys).length=xs.length:=by simp;omega
 refine EnW Tryz.func251 fun _ _ _ _=>?_
 refine Nl 7 7 4 rfl ?_
 refine Lo (fun k : Nat=>[(1,.d (dqs xs)),(2,.d (dqs ys)),(7,.gr 7 4 (((List.zipWith (·+·) xs ys).take k).map dq)),(8,.d (.int .i64 k))]) (fun k=>[(7,.tok (((List.zipWith (·+·) xs ys).take k).map dq).length 4)]) (fun k=>k≤xs.length) (fun k=>xs.length - k) 0 [] rfl (by omega) (fun k hk=>?_)
 refine By rfl (fun h=>?_) fun h=>?_ <;> simp only [lq] at h
 · obtain ⟨x,hx'⟩:=qat (l:=xs) (k:=k) (by omega)
   obtain ⟨y,hy'⟩:=qat (l:=ys) (k:=k) (by omega)
   refine Dw rfl ?_
   refine Ix k rfl (mp hx') ?_
   refine Ix k rfl (mp hy') ?_
   refine Ce rfl (R2.Add_ok (hx x (W0r hx')) (hy y (W0r hy')) hp) ?_
   refine ApG (((List.zipWith (·+·) xs ys).take (k+1)).map dq) rfl (by rw [W0z,W6f,hx',hy'];simp) (by simp;omega) ?_
   refine Ar (k+1 : Nat) rfl ?_
   exact Bk (k+1) [(26,7)] rfl (show k+1≤xs.length by omega) (by show xs.length - (k+1)<xs.length - k;omega)
 · exact Rw [(7,1000000)] [(1000000,.tok ((List.zipWith (·+·) xs ys).map dq).length 4)] rfl (.one (.rf rfl) rfl rfl) ⟨_,rfl,by rw [W0a (by omega)];rfl,rfl⟩ (by rw [W0a (by omega)];rfl)
theorem Add_el {T : List (List Rat)} {k p q : Nat} {a b : Tow.El k} (hk : k≤16) (ha : Ps p (toL k a)) (hb : Ps q (toL k b)) (hp : p+q+1≤8796093022208) : C0 251 [.d (dts T),.d (de a),.d (de b)] (·=.d (de (Tow.add k a b))):=by
 have:=CG.data (Add_ok (T:=T) (by rw [Xab,Xab]) (by rw [Xab];have:=p16 hk;omega) ha hb hp)
 rwa [←Xat] at this
theorem Sub_el {T : List (List Rat)} {k p q : Nat} {a b : Tow.El k} (hk : k≤16) (ha : Ps p (toL k a)) (hb : Sz q (toL k b)) (hp : p+q+1≤8796093022208) : C0 155 [.d (dts T),.d (de a),.d (de b)] (·=.d (de (Tow.add k a (Tow.neg k b)))):=by
 refine En Tryz.func155 fun _ _ _=>?_
 refine Ce rfl (Neg_el hk hb.ps (by omega)) ?_
 refine Ce rfl (Add_el hk ha (Xgj hb).ps hp) ?_
 exact R0
theorem Xih {t : List (List Rat)} {x : Rat} (ht : t.length≤16) (h1 : 1≤t.length) : CA0 156 [.d (dts t),.d (dq x)] 4 ((x::List.replicate (2 ^ t.length - 1) 0).map dq):=by
 have hp:=p16 ht
 have h2 : 2 ^ 1≤2 ^ t.length:=Ydf h1
 obtain ⟨n,hn⟩ : ∃ n,n=2 ^ t.length:=⟨_,rfl⟩
 rw [←hn] at hp h2 ⊢
 refine EnW Tryz.func156 fun _ _ _ _=>?_
 refine Lo (fun k : Nat=>[(0,.d (dts t)),(3,.ptr 3 0),(5,match k with | 0=>.lit 4 [dq x] | k+1=>.own 5 4 0 (k+2))]) (fun k=>match k with | 0=>[(3,.var (.d (dq x)))] | k+1=>[(5,.arr 4 ((x::List.replicate (k+1) (0 : Rat)).map dq)),(3,.var (.d (dq x)))]) (fun k=>k+1≤n) (fun k=>n - k) 0 [] rfl (by omega) (fun k hk=>?_)
 cases k with
 | zero =>
  refine Ar n rfl ?_ (by rw [hn];simp only [lt'];exact Xbl (by omega))
  refine Yes rfl (by simp only [W0o,W3s];omega) ?_
  refine Ce rfl (R2.FromInt_ok (z:=0) (by decide)) ?_
  refine ApL ((x::List.replicate 1 0).map dq) rfl rfl (by decide) (by simp) ?_
  exact Bk 1 [(17,5)] rfl (show 1+1≤n by omega) (by show n - 1<n - 0;omega)
 | succ k =>
  refine Ar n rfl ?_ (by rw [hn];simp only [lt'];exact Xbl (by omega))
  refine By rfl (fun h=>?_) fun h=>?_
  · refine Ce rfl (R2.FromInt_ok (z:=0) (by decide)) ?_
    refine ApO ((x::List.replicate (k+1+1) 0).map dq) rfl rfl (by simp) (by rw [W6h (n:=k+1)];simp) (by simp;omega) ?_
    exact Bk (k+1+1) [(17,5)] rfl (show k+1+1+1≤n by omega) (by show n - (k+1+1)<n - (k+1);omega) (by exact ⟨by simp only [W0i,W0o,W1q];rfl,rfl,rfl,rfl,rfl⟩)
  · have e : n - 1=k+1:=by omega
    exact Rw [(5,1000000)] [(1000000,.arr 4 ((x::List.replicate (n - 1) (0 : Rat)).map dq))] rfl (.one (.rf rfl) rfl rfl) ⟨_,rfl,by rw [e];simp;rfl,rfl⟩ (by rw [e];rfl)
theorem Xon {x : Rat} : C0 156 [.d (dts []),.d (dq x)] (·=.lit 4 [dq x]):=by
 refine En Tryz.func156 fun _ _ _=>?_
 refine Lo (fun _ : Unit=>[(0,.d (dts [])),(5,.lit 4 [dq x])]) (fun _=>[]) (fun _=>True) (fun _=>0) () [] rfl trivial fun _ _=>?_
 refine Ar (1 : Nat) rfl ?_ (Xbl (k:=0) (by decide))
 refine No rfl (by simp only [W0o,W3s];omega) ?_
 exact R0
theorem _root_.Go.Vm.C.lit {P : Program} [Gb P] {f : FuncId} {vs0 : List AV} {sz : Nat} {xs : List D} (h : C P f vs0 (·=.lit sz xs)) : C P f vs0 (·=.d (.sl sz xs)):=⟨h.1,fun W vs hg ha=>(h.2 W vs hg ha).mono fun e w' ⟨W',v,u,h1,h2,h3,h4,h5,h6⟩=>⟨W',_,u,h1,h2,h3,Xg5 (h6 ▸ h4),fun _ h=>h.elim,rfl⟩⟩
theorem FromRat_ok {t : List (List Rat)} {x : Rat} (ht : t.length≤16) : C0 156 [.d (dts t),.d (dq x)] (·=.d (dqs (x::List.replicate (2 ^ t.length - 1) 0))):=by
 cases t with
 | nil=>exact C.lit Xon
 | cons r t=>exact CA.data (Xih ht (by simp))
end Go.Proofs.YtpgcfjpkilabfaaGreatDoor.R6
namespace Go.Vm
open Go
def GW.pub (W : GW) (b m : Nat) : GW:=⟨W.w,fun b' i=>(b'=b→m≤i)∧W.A b' i,fun b' i k=>W.hA b' i k.2⟩
theorem Xt7 (W : GW) (b m : Nat) : LeF W (W.pub b m):=fun _ _ _ k=>⟨k.1,fun hA=>k.2 hA.2⟩
theorem Stp.pub {N : Nat→Prop} {W : GW} {θ : Loc} {g : Hp} (h : Obs W θ N g) {o b sz : Nat} {xs : List D} (ho : g o=some (.arr sz xs)) (hb : (θ o).1=some b) :
 Stp N W (W.pub b (xs.length*sz)) θ θ g (upd g o (.tok xs.length sz)) where
 os:=_root_.rfl
 out:=_root_.rfl
 tape:=_root_.rfl
 size:=W0c _
 same:=fun _ _ _=>_root_.rfl
 A:=fun b' _ hn i=>⟨fun k=>k.2,fun k=>⟨fun e=>by subst e;exact absurd (h.new o _ _ ho _root_.rfl hb) hn,k⟩⟩
 le:=Xt7 W b _
 th:=fun _ _ _=>_root_.rfl
 hi:=fun _ _=>_root_.rfl
 obs:={
  r:=fun o' z hz=>by
   rcases Xae hz with ⟨e1,e2⟩ | ⟨e1,e2⟩
   · subst e1;subst e2
     obtain ⟨b',cs,T',r1,r2,r3,r4,r5,r6,r7⟩:=h.r _ _ ho
     rw [hb] at r1;injection r1 with r1;subst r1
     exact ⟨r5,r4,.inr ⟨b,cs,T',hb,r2,r3,fun i hi=>⟨fun _=>hi,r7 i⟩⟩⟩
   · exact (h.r o' z e2).keep (Xt7 W b _) _root_.rfl (fun _ _=>_root_.rfl) fun hl b' hb'=>⟨_root_.rfl,fun i hA=>⟨fun e=>by
      subst e
      exact absurd (h.dis o' o z _ _ e2 ho hl _root_.rfl hb' hb) e1,hA⟩⟩
  new:=fun o' z b2 hz hl hb2=>by
   rcases Xae hz with ⟨e1,e2⟩ | ⟨e1,e2⟩
   · subst e1;exact h.new _ _ b2 ho _root_.rfl hb2
   · exact h.new o' z b2 e2 hl hb2
  dis:=fun o1 o2 y1 y2 b h1 h2 l1 l2 b1 b2=>by
   rcases Xae h1 with ⟨e1,f1⟩ | ⟨e1,f1⟩ <;> rcases Xae h2 with ⟨e2,f2⟩ | ⟨e2,f2⟩
   · rw [e1,e2]
   · subst e1;exact h.dis _ _ _ _ b ho f2 _root_.rfl l2 b1 b2
   · subst e2;exact h.dis _ _ _ _ b f1 ho l1 _root_.rfl b1 b2
   · exact h.dis o1 o2 y1 y2 b f1 f2 l1 l2 b1 b2
  ids:=fun o' z i hz hzi=>by
   have : ∃ w,g i=some w:=by
    rcases Xae hz with ⟨e1,e2⟩ | ⟨e1,e2⟩
    · subst e2;exact hzi.elim
    · exact h.ids o' z i e2 hzi
   obtain ⟨w,hw⟩:=this
   by_cases e : i=o
   · subst e;exact ⟨_,Xaj _ _ _⟩
   · exact ⟨w,by rw [Xam e];exact hw⟩ }
 dom:=fun i y hy=>by
  by_cases e : i=o
  · subst e;exact ⟨_,Xaj _ _ _⟩
  · exact ⟨y,by rw [Xam e];exact hy⟩
section
variable {c : Cx} {s : St}
noncomputable def Ymv (tb : Nat→Option TI) (n t : Nat) (s : St) : Option (List Kt × Env × Hpl × Nat × Nat × Nat × List D):=match runN tb n 1000 s with
 | .j _ K E H=>match look E t with
  | some (.own o sz 0 n)=>match look H o with
   | some (.arr sz' xs)=>match Nat.beq sz sz' with
    | true=>some (K,E,H,o,sz,n,xs)
    | false=>none
   | _=>none
  | _=>none
 | _=>none
theorem Og (t : Nat) {K : List Kt} {E : Env} {H : Hpl} {o sz n : Nat} {xs : List D} (h : Ymv c.tb c.n t s=some (K,E,H,o,sz,n,xs)) (hn : n=xs.length) (k : StP c (.j [] K ((t,.gr o sz xs)::E) ((o,.tok xs.length sz)::H))) : StP c s:=by
 unfold Ymv at h
 split at h <;> try cases h
 rename_i hr
 split at h <;> try cases h
 rename_i he
 split at h <;> try cases h
 rename_i ho
 split at h <;> cases h
 rename_i hz
 have hz:=W0f hz
 subst hz;subst hn
 refine go 1000 hr ?_
 rintro a w ⟨s0,W,θ,hw,hs,hθ,rfl⟩
 obtain ⟨b,bs,T',r1,r2,r3,r4,r5,r6,r7⟩:=hs.obs.r _ _ ho
 have st:=Stp.pub hs.obs ho r1
 have h1:=hs.step0 st
 refine k a w ⟨_,W.pub b (xs.length*sz),θ,hw,?_,hθ,rfl⟩
 rw [show sem ((t,AV.gr o sz xs)::E) ((o,Ob.tok xs.length sz)::H)=(upd (look E) t (.gr o sz xs),upd (look H) o (.tok xs.length sz)) from by rw [Xa5,Xa5]]
 refine ⟨h1.fm,⟨h1.rel.defers,h1.rel.size,fun q v hq=>?_⟩,h1.obs,fun q v i hq hi=>?_⟩
 · rcases Xae hq with ⟨e1,e2⟩ | ⟨e1,e2⟩
   · subst e1;subst e2
     have hv:=hs.rel.has q _ he
     obtain ⟨b1,p,v1,v2,v3,e,v5⟩:=Xk2 hv
     rw [r1] at v1;injection v1 with v1;subst v1
     rw [e]
     rw [W6r]
     refine Yd3 rfl rfl (.inr (by rw [v5 (.inl rfl),W4v,r1];rfl)) r5 r4 (.inr ⟨b,r1,?_⟩)
     have hlen : ∀ q u,(bs.take (xs.length*sz))[q]?=some u→q<xs.length*sz∧bs[q]?=some u:=fun q u hu=>by
      rw [W1i] at hu
      split at hu
      · exact ⟨by assumption,hu⟩
      · cases hu
     refine (AtL.mono (Xt7 W b _) (sz:=sz) (xs:=xs) (cs:=bs.take (xs.length*sz)) (AtL.ext r6 fun q v hq hv=>by rw [W1i,if_pos hq];exact hv)).row fun q u hq hu=>?_
     rw [W1n]
     exact ⟨show W.w.cell? _=_ by rw [Xba r2];exact (hlen q u hu).2,fun hA=>by have:=hA.1 rfl;omega⟩
   · exact h1.rel.has q v e2
 · rcases Xae hq with ⟨e1,e2⟩ | ⟨e1,e2⟩
   · subst e2
     have hi : i=o:=hi
     subst hi
     exact ⟨_,Xaj _ _ _⟩
   · exact h1.ids q v i e2 hi
end
end Go.Vm
namespace Go.Proofs.YtpgcfjpkilabfaaGreatDoor.R6
open Go Go.Vm Go.Num Go.Tow Go.Proofs.YtpgcfjpkilabfaaGreatDoor
theorem Yfi {x y : Rat} {p q : Nat} (hx : Qs p x) (hy : Qs q y) (h : p+q+1≤8796093022208) : C0 255 [.d (dts []),.d (dqs [x]),.d (dqs [y])] (·=.lit 4 [dq (x*y)]):=by
 refine En Tryz.func255 fun _ _ _=>?_
 refine Yes rfl rfl ?_
 refine Dw rfl ?_
 refine Ix 0 rfl (u:=dq x) rfl ?_
 refine Ix 0 rfl (u:=dq y) rfl ?_
 refine Ce rfl (R2.Mul_ok hx hy h) ?_
 exact R0
theorem Xzz {k : Nat} (muld : ∀ {r s s' : Nat} {t : Tw k} {a b : Tow.El k},TS r k t→Sz s (toL k a)→Sz s' (toL k b)→k≤16→s+s'+cB r k≤4398046511104→C0 255 [.d (dt t),.d (de a),.d (de b)] (·=.d (de (mul k t a b))))
 (ihk : ∀ {r s s' : Nat} {t : Tw k} {a b : Tow.El k},TS r k t→Sz s (toL k a)→Sz s' (toL k b)→k≤16→s+s'+cB r k≤4398046511104→C0 255 [.d (dt t),.d (de a),.d (de b)] (·=.lit 4 ((toL k (mul k t a b)).map dq))∨CG0 255 [.d (dt t),.d (de a),.d (de b)] 4 ((toL k (mul k t a b)).map dq))
 {r s s' : Nat} {t : Tw (k+1)} {a b : Tow.El (k+1)} (hT : TS r (k+1) t) (ha : Sz s (toL (k+1) a)) (hb : Sz s' (toL (k+1) b)) (hk : k+1≤16) (hs : s+s'+cB r (k+1)≤4398046511104) : CG0 255 [.d (dt t),.d (de a),.d (de b)] 4 ((toL (k+1) (mul (k+1) t a b)).map dq):=by
 have hp:=p16 hk
 have hp1 : 2 ^ (k+1)=2*2 ^ k:=by rw [W0s];omega
 have h0:=W0n k
 have hcB : cB r (k+1)=2*cB r k+r+1:=rfl
 have hax : Sz s (toL k a.1):=Sz.left ha
 have hay : Sz s (toL k a.2):=Sz.right ha
 have hbx : Sz s' (toL k b.1):=Sz.left hb
 have hby : Sz s' (toL k b.2):=Sz.right hb
 have hlen:=Xab k
 have L:=Xay k t.1
 have m1 : a.2=zero k→toL (k+1) (mul (k+1) t a b)=toL k (mul k t.1 a.1 b.1)++toL k (mul k t.1 a.1 b.2):=fun e=>by
  show toL k (Tow.add k _ (mul k t.1 (mul k t.1 a.2 b.2) t.2))++toL k (Tow.add k _ (mul k t.1 a.2 b.1))=_
  rw [e,L.zm,L.zm,L.zm,L.az,L.az]
 have m2 : b.2=zero k→toL (k+1) (mul (k+1) t a b)=toL k (mul k t.1 a.1 b.1)++toL k (mul k t.1 a.2 b.1):=fun e=>by
  show toL k (Tow.add k _ (mul k t.1 (mul k t.1 a.2 b.2) t.2))++toL k (Tow.add k (mul k t.1 a.1 b.2) _)=_
  rw [e,L.mz,L.zm,L.mz,L.az,L.za]
 have m12 : a.2=zero k→b.2=zero k→toL (k+1) (mul (k+1) t a b)=toL k (mul k t.1 a.1 b.1)++toL k (zero k):=fun e e2=>by rw [m1 e,e2,L.mz]
 have la : ((toL k a.1++toL k a.2).map dq).length=2*2 ^ k:=by rw [lq,W0d,hlen,hlen];omega
 have lb : ((toL k b.1++toL k b.2).map dq).length=2*2 ^ k:=by rw [lq,W0d,hlen,hlen];omega
 have ta : ((toL k a.1++toL k a.2).map dq).take (2 ^ k)=(toL k a.1).map dq:=by rw [←W2w,←hlen a.1,W6v]
 have da : ((toL k a.1++toL k a.2).map dq).drop (2 ^ k)=(toL k a.2).map dq:=by rw [←List.map_drop,←hlen a.1,W7p]
 have tb : ((toL k b.1++toL k b.2).map dq).take (2 ^ k)=(toL k b.1).map dq:=by rw [←W2w,←hlen b.1,W6v]
 have db : ((toL k b.1++toL k b.2).map dq).drop (2 ^ k)=(toL k b.2).map dq:=by rw [←List.map_drop,←hlen b.1,W7p]
 have lt2 : ((toT k t.1++[toL k t.2]).map dqs).length=k+1:=by rw [lt',W0d,Xaa];rfl
 have tt : ((toT k t.1++[toL k t.2]).map dqs).take k=(toT k t.1).map dqs:=by rw [←W2w,W6p (Xaa k t.1)]
 have tu : ((toT k t.1++[toL k t.2]).map dqs)[k]?=some (de t.2):=by rw [W1f,W0v (by rw [Xaa];exact W0c _),Xaa,W3f];rfl
 refine EnW Tryz.func255 fun _ _ _ _=>?_
 refine No rfl (by show ¬ ((((toT k t.1++[toL k t.2]).map dqs).length : Nat) : Int)=0;omega) ?_
 refine Ar (2 ^ k : Nat) rfl ?_ (Yj7 la (by omega))
 refine Dw rfl ?_
 refine Ar k rfl ?_ (wr (by show ((((toT k t.1++[toL k t.2]).map dqs).length : Nat) : Int) - 1=k;omega) (by simp only [inK];omega))
 refine Tk k ((toT k t.1).map dqs) rfl rfl (by show k≤((toT k t.1++[toL k t.2]).map dqs).length;omega) tt ?_
 refine Ar k rfl ?_ (wr (by show ((((toT k t.1++[toL k t.2]).map dqs).length : Nat) : Int) - 1=k;omega) (by simp only [inK];omega))
 refine Ix k rfl tu ?_
 refine Dw rfl ?_
 refine Dp (2 ^ k) ((toL k a.2).map dq) rfl rfl (by show _≤((toL k a.1++toL k a.2).map dq).length;omega) da ?_
 refine Ce rfl (Zero_ok (l:=toL k a.2) (by rw [hlen];omega)) ?_
 refine Dp (2 ^ k) ((toL k b.2).map dq) rfl rfl (by show _≤((toL k b.1++toL k b.2).map dq).length;omega) db ?_
 refine Ce rfl (Zero_ok (l:=toL k b.2) (by rw [hlen];omega)) ?_
 refine Dw rfl ?_
 refine Tk (2 ^ k) ((toL k a.1).map dq) rfl rfl (by show _≤((toL k a.1++toL k a.2).map dq).length;omega) ta ?_
 refine Tk (2 ^ k) ((toL k b.1).map dq) rfl rfl (by show _≤((toL k b.1++toL k b.2).map dq).length;omega) tb ?_
 rcases ihk hT.1 hax hbx (by omega) (by omega) with hc | hc
 · refine Ce rfl hc ?_
   refine By rfl (fun h1=>?_) fun h1=>?_
   · have ea:=(Xaq k a.2).2 h1
     refine By rfl (fun h2=>?_) fun h2=>?_
     · have eb:=(Xaq k b.2).2 h2
       refine Ce rfl (R2.FromInt_ok (z:=0) (by decide)) ?_
       refine Ce rfl (FromRat_ok (t:=toT k t.1) (x:=0) (by rw [Xaa];omega)) ?_
       refine ApL ((toL (k+1) (mul (k+1) t a b)).map dq) rfl (by rw [m12 ea eb,←W1u,Xaa];congr 2;rw [Xbo,←W3z,show 2 ^ k - 1+1=2 ^ k by omega]) (by simp only [lq,W0o,W1q,hlen];omega) (by rw [lq,Xab];omega) ?_
       refine Og 6 rfl rfl ?_
       exact Rw [(62,1000000)] [(1000000,.tok ((toL (k+1) (mul (k+1) t a b)).map dq).length 4)] rfl (.one (.rf rfl) rfl rfl) ⟨_,rfl,rfl,rfl⟩
     · refine Yes rfl h1 ?_
       refine Dw rfl ?_
       refine Tk (2 ^ k) ((toL k a.1).map dq) rfl rfl (by show _≤((toL k a.1++toL k a.2).map dq).length;omega) ta ?_
       refine Dp (2 ^ k) ((toL k b.2).map dq) rfl rfl (by show _≤((toL k b.1++toL k b.2).map dq).length;omega) db ?_
       refine Ce rfl (muld hT.1 hax hby (by omega) (by omega)) ?_
       refine ApL ((toL (k+1) (mul (k+1) t a b)).map dq) rfl (by rw [m1 ea,←W1u]) (by simp only [lq,W0o,W1q,hlen];omega) (by rw [lq,Xab];omega) ?_
       refine Og 6 rfl rfl ?_
       exact Rw [(73,1000000)] [(1000000,.tok ((toL (k+1) (mul (k+1) t a b)).map dq).length 4)] rfl (.one (.rf rfl) rfl rfl) ⟨_,rfl,rfl,rfl⟩
   · refine No rfl h1 ?_
     refine By rfl (fun h2=>?_) fun h2=>?_
     · have eb:=(Xaq k b.2).2 h2
       refine Dw rfl ?_
       refine Dp (2 ^ k) ((toL k a.2).map dq) rfl rfl (by show _≤((toL k a.1++toL k a.2).map dq).length;omega) da ?_
       refine Tk (2 ^ k) ((toL k b.1).map dq) rfl rfl (by show _≤((toL k b.1++toL k b.2).map dq).length;omega) tb ?_
       refine Ce rfl (muld hT.1 hay hbx (by omega) (by omega)) ?_
       refine ApL ((toL (k+1) (mul (k+1) t a b)).map dq) rfl (by rw [m2 eb,←W1u]) (by simp only [lq,W0o,W1q,hlen];omega) (by rw [lq,Xab];omega) ?_
       refine Og 6 rfl rfl ?_
       exact Rw [(84,1000000)] [(1000000,.tok ((toL (k+1) (mul (k+1) t a b)).map dq).length 4)] rfl (.one (.rf rfl) rfl rfl) ⟨_,rfl,rfl,rfl⟩
     · refine Dw rfl ?_
       refine Dp (2 ^ k) ((toL k a.2).map dq) rfl rfl (by show _≤((toL k a.1++toL k a.2).map dq).length;omega) da ?_
       refine Dp (2 ^ k) ((toL k b.2).map dq) rfl rfl (by show _≤((toL k b.1++toL k b.2).map dq).length;omega) db ?_
       refine Ce rfl (muld hT.1 hay hby (by omega) (by omega)) ?_
       refine Ce rfl (muld hT.1 (hay.mul hT.1 hby) hT.2 (by omega) (by omega)) ?_
       refine Cg rfl (Add_ok (by rw [hlen,hlen]) (by rw [hlen];omega) (hax.mul hT.1 hbx).ps ((hay.mul hT.1 hby).mul hT.1 hT.2).ps (by omega)) ?_
       refine Dw rfl ?_
       refine Tk (2 ^ k) ((toL k a.1).map dq) rfl rfl (by show _≤((toL k a.1++toL k a.2).map dq).length;omega) ta ?_
       refine Dp (2 ^ k) ((toL k b.2).map dq) rfl rfl (by show _≤((toL k b.1++toL k b.2).map dq).length;omega) db ?_
       refine Ce rfl (muld hT.1 hax hby (by omega) (by omega)) ?_
       refine Dp (2 ^ k) ((toL k a.2).map dq) rfl rfl (by show _≤((toL k a.1++toL k a.2).map dq).length;omega) da ?_
       refine Tk (2 ^ k) ((toL k b.1).map dq) rfl rfl (by show _≤((toL k b.1++toL k b.2).map dq).length;omega) tb ?_
       refine Ce rfl (muld hT.1 hay hbx (by omega) (by omega)) ?_
       refine Ce rfl (Add_el (by omega) (hax.mul hT.1 hby).ps (hay.mul hT.1 hbx).ps (by omega)) ?_
       refine ApG ((toL (k+1) (mul (k+1) t a b)).map dq) rfl (by rw [←W1u,←Xat];rfl) (by rw [lq,Xab];omega) ?_
       exact Rw [(118,1000000)] [(1000000,.tok ((toL (k+1) (mul (k+1) t a b)).map dq).length 4)] rfl (.one (.rf rfl) rfl rfl) ⟨_,rfl,rfl,rfl⟩
 · refine Cg rfl hc ?_
   refine By rfl (fun h1=>?_) fun h1=>?_
   · have ea:=(Xaq k a.2).2 h1
     refine By rfl (fun h2=>?_) fun h2=>?_
     · have eb:=(Xaq k b.2).2 h2
       refine Ce rfl (R2.FromInt_ok (z:=0) (by decide)) ?_
       refine Ce rfl (FromRat_ok (t:=toT k t.1) (x:=0) (by rw [Xaa];omega)) ?_
       refine ApG ((toL (k+1) (mul (k+1) t a b)).map dq) rfl (by rw [m12 ea eb,←W1u,Xaa];congr 2;rw [Xbo,←W3z,show 2 ^ k - 1+1=2 ^ k by omega]) (by rw [lq,Xab];omega) ?_
       exact Rw [(62,1000000)] [(1000000,.tok ((toL (k+1) (mul (k+1) t a b)).map dq).length 4)] rfl (.one (.rf rfl) rfl rfl) ⟨_,rfl,rfl,rfl⟩
     · refine Yes rfl h1 ?_
       refine Dw rfl ?_
       refine Tk (2 ^ k) ((toL k a.1).map dq) rfl rfl (by show _≤((toL k a.1++toL k a.2).map dq).length;omega) ta ?_
       refine Dp (2 ^ k) ((toL k b.2).map dq) rfl rfl (by show _≤((toL k b.1++toL k b.2).map dq).length;omega) db ?_
       refine Ce rfl (muld hT.1 hax hby (by omega) (by omega)) ?_
       refine ApG ((toL (k+1) (mul (k+1) t a b)).map dq) rfl (by rw [m1 ea,←W1u]) (by rw [lq,Xab];omega) ?_
       exact Rw [(73,1000000)] [(1000000,.tok ((toL (k+1) (mul (k+1) t a b)).map dq).length 4)] rfl (.one (.rf rfl) rfl rfl) ⟨_,rfl,rfl,rfl⟩
   · refine No rfl h1 ?_
     refine By rfl (fun h2=>?_) fun h2=>?_
     · have eb:=(Xaq k b.2).2 h2
       refine Dw rfl ?_
       refine Dp (2 ^ k) ((toL k a.2).map dq) rfl rfl (by show _≤((toL k a.1++toL k a.2).map dq).length;omega) da ?_
       refine Tk (2 ^ k) ((toL k b.1).map dq) rfl rfl (by show _≤((toL k b.1++toL k b.2).map dq).length;omega) tb ?_
       refine Ce rfl (muld hT.1 hay hbx (by omega) (by omega)) ?_
       refine ApG ((toL (k+1) (mul (k+1) t a b)).map dq) rfl (by rw [m2 eb,←W1u]) (by rw [lq,Xab];omega) ?_
       exact Rw [(84,1000000)] [(1000000,.tok ((toL (k+1) (mul (k+1) t a b)).map dq).length 4)] rfl (.one (.rf rfl) rfl rfl) ⟨_,rfl,rfl,rfl⟩
     · refine Dw rfl ?_
       refine Dp (2 ^ k) ((toL k a.2).map dq) rfl rfl (by show _≤((toL k a.1++toL k a.2).map dq).length;omega) da ?_
       refine Dp (2 ^ k) ((toL k b.2).map dq) rfl rfl (by show _≤((toL k b.1++toL k b.2).map dq).length;omega) db ?_
       refine Ce rfl (muld hT.1 hay hby (by omega) (by omega)) ?_
       refine Ce rfl (muld hT.1 (hay.mul hT.1 hby) hT.2 (by omega) (by omega)) ?_
       refine Cg rfl (Add_ok (by rw [hlen,hlen]) (by rw [hlen];omega) (hax.mul hT.1 hbx).ps ((hay.mul hT.1 hby).mul hT.1 hT.2).ps (by omega)) ?_
       refine Dw rfl ?_
       refine Tk (2 ^ k) ((toL k a.1).map dq) rfl rfl (by show _≤((toL k a.1++toL k a.2).map dq).length;omega) ta ?_
       refine Dp (2 ^ k) ((toL k b.2).map dq) rfl rfl (by show _≤((toL k b.1++toL k b.2).map dq).length;omega) db ?_
       refine Ce rfl (muld hT.1 hax hby (by omega) (by omega)) ?_
       refine Dp (2 ^ k) ((toL k a.2).map dq) rfl rfl (by show _≤((toL k a.1++toL k a.2).map dq).length;omega) da ?_
       refine Tk (2 ^ k) ((toL k b.1).map dq) rfl rfl (by show _≤((toL k b.1++toL k b.2).map dq).length;omega) tb ?_
       refine Ce rfl (muld hT.1 hay hbx (by omega) (by omega)) ?_
       refine Ce rfl (Add_el (by omega) (hax.mul hT.1 hby).ps (hay.mul hT.1 hbx).ps (by omega)) ?_
       refine ApG ((toL (k+1) (mul (k+1) t a b)).map dq) rfl (by rw [←W1u,←Xat];rfl) (by rw [lq,Xab];omega) ?_
       exact Rw [(118,1000000)] [(1000000,.tok ((toL (k+1) (mul (k+1) t a b)).map dq).length 4)] rfl (.one (.rf rfl) rfl rfl) ⟨_,rfl,rfl,rfl⟩
theorem Xrb : ∀ {k : Nat} {r s s' : Nat} {t : Tw k} {a b : Tow.El k},TS r k t→Sz s (toL k a)→Sz s' (toL k b)→k≤16→s+s'+cB r k≤4398046511104→C0 255 [.d (dt t),.d (de a),.d (de b)] (·=.lit 4 ((toL k (mul k t a b)).map dq))∨CG0 255 [.d (dt t),.d (de a),.d (de b)] 4 ((toL k (mul k t a b)).map dq):=by
 intro k
 induction k with
 | zero=>intro r s s' t a b hT ha hb hk hs;exact .inl (Yfi (ha.qs (W0e.2 rfl)) (hb.qs (W0e.2 rfl)) (by omega))
 | succ k ih=>intro r s s' t a b hT ha hb hk hs;exact .inr (Xzz (fun hT ha hb hk hs=>(ih hT ha hb hk hs).elim C.lit (fun h=>CG.data h)) ih hT ha hb hk hs)
theorem Mul_el {k r s s' : Nat} {t : Tw k} {a b : Tow.El k} (hT : TS r k t) (ha : Sz s (toL k a)) (hb : Sz s' (toL k b)) (hk : k≤16) (hs : s+s'+cB r k≤4398046511104) : C0 255 [.d (dt t),.d (de a),.d (de b)] (·=.d (de (mul k t a b))):=(Xrb hT ha hb hk hs).elim C.lit (fun h=>CG.data h)
end Go.Proofs.YtpgcfjpkilabfaaGreatDoor.R6
namespace Go.Tow
section
inductive Pe where
 | v (i : Nat)
 | z
 | o
 | add (a b : Pe)
 | mul (a b : Pe)
 | neg (a : Pe)
abbrev Xom:=List (Bool × List Nat)
def ltM : List Nat→List Nat→Bool
 | [],[]=>false
 | [],_::_=>true
 | _::_,[]=>false
 | a::r,b::s=>match Nat.blt a b with
  | true=>true
  | false=>match Nat.beq a b with
   | true=>ltM r s
   | false=>false
def Yh5 (i : Nat) : List Nat→List Nat
 | []=>[i]
 | j::r=>match Nat.ble i j with
  | true=>i::j::r
  | false=>j::Yh5 i r
def Ydz (t : Bool × List Nat) : Xom→Xom
 | []=>[t]
 | h::r=>if t.2=h.2 then (if t.1=h.1 then t::h::r else r) else match ltM t.2 h.2 with
  | true=>t::h::r
  | false=>h::Ydz t r
def Ydp (m n : List Nat) : List Nat:=m.foldr Yh5 n
def Yjm (p q : Xom) : Xom:=p.foldr Ydz q
def Yfp (t : Bool × List Nat) (q acc : Xom) : Xom:=q.foldr (fun u a=>Ydz (t.1 != u.1,Ydp t.2 u.2) a) acc
def Yhp (p q : Xom) : Xom:=p.foldr (fun t acc=>Yfp t q acc) []
def nrm : Pe→Xom
 | .v i=>[(false,[i])]
 | .z=>[]
 | .o=>[(false,[])]
 | .add a b=>Yjm (nrm a) (nrm b)
 | .mul a b=>Yhp (nrm a) (nrm b)
 | .neg a=>(nrm a).map fun t=>(!t.1,t.2)
def Laws.ev {α : Type} {add mul : α→α→α} {neg : α→α} {zero one : α} (L : Laws add mul neg zero one) (xs : List α) : Pe→α
 | .v i=>xs.getD i zero
 | .z=>zero
 | .o=>one
 | .add a b=>add (Laws.ev L xs a) (Laws.ev L xs b)
 | .mul a b=>mul (Laws.ev L xs a) (Laws.ev L xs b)
 | .neg a=>neg (Laws.ev L xs a)
def Laws.eM {α : Type} {add mul : α→α→α} {neg : α→α} {zero one : α} (L : Laws add mul neg zero one) (xs : List α) : List Nat→α
 | []=>one
 | i::r=>mul (xs.getD i zero) (Laws.eM L xs r)
def Laws.eT {α : Type} {add mul : α→α→α} {neg : α→α} {zero one : α} (L : Laws add mul neg zero one) (xs : List α) (t : Bool × List Nat) : α:=match t.1 with
 | true=>neg (L.eM xs t.2)
 | false=>L.eM xs t.2
def Laws.eP {α : Type} {add mul : α→α→α} {neg : α→α} {zero one : α} (L : Laws add mul neg zero one) (xs : List α) : Xom→α
 | []=>zero
 | t::r=>add (L.eT xs t) (Laws.eP L xs r)
section
variable {α : Type} {add mul : α→α→α} {neg : α→α} {zero one : α} (L : Laws add mul neg zero one) (xs : List α)
include L
theorem Laws.eM_ins (i : Nat) (m : List Nat) : L.eM xs (Yh5 i m)=mul (xs.getD i zero) (L.eM xs m):=by
 induction m with
 | nil=>rfl
 | cons j r ih =>
  simp only [Yh5]
  split
  · rfl
  · simp only [eM];rw [ih,L.mlc]
theorem Laws.eM_mul (m n : List Nat) : L.eM xs (Ydp m n)=mul (L.eM xs m) (L.eM xs n):=by
 induction m with
 | nil=>simp only [Ydp,W7q,eM,L.om]
 | cons i m ih =>
  have : Ydp (i::m) n=Yh5 i (Ydp m n):=rfl
  rw [this,L.eM_ins,ih,←L.ma];rfl
theorem Laws.eP_ins (t : Bool × List Nat) (p : Xom) : L.eP xs (Ydz t p)=add (L.eT xs t) (L.eP xs p):=by
 induction p with
 | nil=>rfl
 | cons h r ih =>
  simp only [Ydz]
  split
  · rename_i h1
    split
    · rfl
    · rename_i h2
      obtain ⟨s,m⟩:=t
      obtain ⟨s',m'⟩:=h
      have h1' : m=m':=h1
      subst h1'
      cases s <;> cases s' <;> first | exact absurd rfl h2 | skip
      · simp only [eP,eT];rw [←L.aa,L.an,L.za]
      · simp only [eP,eT];rw [←L.aa,L.na,L.za]
  · split
    · rfl
    · simp only [eP];rw [ih,L.alc]
theorem Laws.eP_add (p q : Xom) : L.eP xs (Yjm p q)=add (L.eP xs p) (L.eP xs q):=by
 induction p with
 | nil=>simp only [Yjm,W7q,eP,L.za]
 | cons t p ih =>
  have : Yjm (t::p) q=Ydz t (Yjm p q):=rfl
  rw [this,L.eP_ins,ih];simp only [eP];rw [L.aa]
theorem Laws.eT_mul (t u : Bool × List Nat) : L.eT xs (t.1 != u.1,Ydp t.2 u.2)=mul (L.eT xs t) (L.eT xs u):=by
 obtain ⟨s,m⟩:=t
 obtain ⟨s',m'⟩:=u
 cases s <;> cases s' <;> simp [eT,L.eM_mul,L.mn,L.nm,L.nn]
theorem Laws.eP_mulT (t : Bool × List Nat) (q acc : Xom) : L.eP xs (Yfp t q acc)=add (mul (L.eT xs t) (L.eP xs q)) (L.eP xs acc):=by
 induction q with
 | nil=>simp only [Yfp,W7q,eP,L.mz,L.za]
 | cons u q ih =>
  have : Yfp t (u::q) acc=Ydz (t.1 != u.1,Ydp t.2 u.2) (Yfp t q acc):=rfl
  rw [this,L.eP_ins,ih,L.eT_mul];simp only [eP];rw [L.md,L.aa]
theorem Laws.eP_mul (p q : Xom) : L.eP xs (Yhp p q)=mul (L.eP xs p) (L.eP xs q):=by
 induction p with
 | nil=>simp only [Yhp,W7q,eP,L.zm]
 | cons t p ih =>
  have : Yhp (t::p) q=Yfp t q (Yhp p q):=rfl
  rw [this,L.eP_mulT,ih];simp only [eP];rw [L.dm]
theorem Laws.eP_neg (p : Xom) : L.eP xs (p.map fun t=>(!t.1,t.2))=neg (L.eP xs p):=by
 induction p with
 | nil=>simp only [List.map_nil,eP,L.nz]
 | cons t p ih =>
  obtain ⟨s,m⟩:=t
  simp only [W3k,eP,L.nd,ih]
  cases s <;> simp [eT,L.nn]
theorem Laws.ev_nrm (e : Pe) : L.ev xs e=L.eP xs (nrm e):=by
 induction e with
 | v i=>simp only [nrm,ev,eP,eT,eM,L.mo,L.az]
 | z=>rfl
 | o=>simp only [nrm,ev,eP,eT,eM,L.az]
 | add a b ha hb=>simp only [nrm,ev,L.eP_add,ha,hb]
 | mul a b ha hb=>simp only [nrm,ev,L.eP_mul,ha,hb]
 | neg a ha=>simp only [nrm,ev,L.eP_neg,ha]
theorem Laws.req (a b : Pe) (h : nrm a=nrm b) : L.ev xs a=L.ev xs b:=by rw [L.ev_nrm,L.ev_nrm,h]
end
end
section
structure Sgn {α : Type} (add mul : α→α→α) (neg : α→α) (one : α) (σ : α→Int) : Prop where
 tri : ∀ a,σ a=1∨σ a=0∨σ a=-1
 sn : ∀ a,σ (neg a)=- σ a
 sm : ∀ a b,σ (mul a b)=σ a*σ b
 sa : ∀ a b,0≤σ a→0≤σ b→0≤σ (add a b)
 sp : ∀ a b,σ a=1→0≤σ b→σ (add a b)=1
 s1 : σ one=1
theorem Xdr {X : Int} (h : X=1∨X=0∨X=-1) : 0≤X*X∧(X≠0→X*X=1)∧(X=0→X*X=0):=by
 rcases h with rfl | rfl | rfl <;> decide
section
variable {α : Type} {add mul : α→α→α} {neg : α→α} {zero one : α} {σ : α→Int} (L : Laws add mul neg zero one) (S : Sgn add mul neg one σ)
include L S
theorem Sgn.s0 : σ zero=0:=by
 have:=S.sn zero
 rw [L.nz] at this
 omega
theorem Sgn.add0 {a b : α} (ha : σ a=0) : σ (add a b)=σ b:=by
 rcases S.tri b with hb | hb | hb
 · rw [hb,L.ac];exact S.sp b a hb (by omega)
 · have h1:=S.sa a b (by omega) (by omega)
   have h2:=S.sa (neg a) (neg b) (by rw [S.sn];omega) (by rw [S.sn];omega)
   rw [←L.nd,S.sn] at h2
   omega
 · have h2:=S.sp (neg b) (neg a) (by rw [S.sn];omega) (by rw [S.sn];omega)
   rw [L.ac,←L.nd,S.sn] at h2
   omega
theorem Sgn.add0' {a b : α} (hb : σ b=0) : σ (add a b)=σ a:=by rw [L.ac,S.add0 L hb]
theorem Sgn.np {a b : α} (ha : σ a=-1) (hb : σ b≤0) : σ (add a b)=-1:=by
 have h2:=S.sp (neg a) (neg b) (by rw [S.sn];omega) (by rw [S.sn];omega)
 rw [←L.nd,S.sn] at h2
 omega
theorem Sgn.same {a b : α} (h : σ a=σ b) : σ (add a b)=σ a:=by
 rcases S.tri a with ha | ha | ha
 · rw [ha];exact S.sp a b ha (by omega)
 · rw [S.add0 L ha,←h]
 · rw [ha];exact S.np L ha (by omega)
theorem Sgn.eqv {a b : α} (h : σ (add a (neg b))=0) : σ a=σ b:=by
 have e : a=add (add a (neg b)) b:=(Laws.req L [a,b] (.v 0) (.add (.add (.v 0) (.neg (.v 1))) (.v 1)) (by decide +kernel))
 rw [e,S.add0 L h]
theorem Sgn.dom {a b : α} (h : σ (add (mul a a) (neg (mul b b)))=1) : σ (add a b)=σ a:=by
 have e : add (mul a a) (neg (mul b b))=mul (add a b) (add a (neg b)):=(Laws.req L [a,b] (.add (.mul (.v 0) (.v 0)) (.neg (.mul (.v 1) (.v 1)))) (.mul (.add (.v 0) (.v 1)) (.add (.v 0) (.neg (.v 1)))) (by decide +kernel))
 have e2 : add a a=add (add a b) (add a (neg b)):=(Laws.req L [a,b] (.add (.v 0) (.v 0)) (.add (.add (.v 0) (.v 1)) (.add (.v 0) (.neg (.v 1)))) (by decide +kernel))
 rw [e,S.sm] at h
 have h2 : σ (add a a)=σ a:=S.same L rfl
 rw [e2] at h2
 rcases S.tri (add a b) with h3 | h3 | h3 <;> rcases S.tri (add a (neg b)) with h4 | h4 | h4 <;> rw [h3,h4] at h <;> first | (exact absurd h (by decide)) | skip
 · rw [←h2,h3];exact (S.sp _ _ h3 (by omega)).symm
 · rw [←h2,h3];exact (S.np L h3 (by omega)).symm
theorem Sgn.dom0 {a b : α} (h : σ (add (mul a a) (neg (mul b b)))=0) : σ (add a b)=Int.sign (σ a+σ b):=by
 have e : add (mul a a) (neg (mul b b))=mul (add a b) (add a (neg b)):=(Laws.req L [a,b] (.add (.mul (.v 0) (.v 0)) (.neg (.mul (.v 1) (.v 1)))) (.mul (.add (.v 0) (.v 1)) (.add (.v 0) (.neg (.v 1)))) (by decide +kernel))
 rw [e,S.sm] at h
 rcases W7k.1 h with h1 | h1
 · have e2 : a=add (add a b) (neg b):=(Laws.req L [a,b] (.v 0) (.add (.add (.v 0) (.v 1)) (.neg (.v 1))) (by decide +kernel))
   have h2 : σ a=- σ b:=by
    conv=>lhs;rw [e2]
    rw [S.add0 L h1,S.sn]
   rw [h1,h2,show -σ b+σ b=0 from by omega];rfl
 · have h2:=S.eqv L h1
   rw [S.same L h2,←h2]
   rcases S.tri a with ha | ha | ha <;> rw [ha] <;> rfl
end
def Laws.nP {α : Type} {add mul : α→α→α} {neg : α→α} {zero one : α} (L : Laws add mul neg zero one) (d : α) (p : α × α) : α:=add (mul p.1 p.1) (neg (mul (mul p.2 p.2) d))
def Laws.mQ {α : Type} {add mul : α→α→α} {neg : α→α} {zero one : α} (L : Laws add mul neg zero one) (d : α) (p q : α × α) : α × α:=(add (mul p.1 q.1) (mul (mul p.2 q.2) d),add (mul p.1 q.2) (mul p.2 q.1))
def Laws.aQ {α : Type} {add mul : α→α→α} {neg : α→α} {zero one : α} (L : Laws add mul neg zero one) (p q : α × α) : α × α:=(add p.1 q.1,add p.2 q.2)
def Laws.gQ {α : Type} {add mul : α→α→α} {neg : α→α} {zero one : α} (L : Laws add mul neg zero one) (p : α × α) : α × α:=(neg p.1,neg p.2)
def Laws.sx {α : Type} {add mul : α→α→α} {neg : α→α} {zero one : α} (L : Laws add mul neg zero one) (d : α) (σ : α→Int) (p : α × α) : Int :=
 if σ p.2=0∨σ p.1=σ p.2 then σ p.1 else if σ p.1=0 then σ p.2 else σ p.1*σ (L.nP d p)
theorem Ygg {X Y ν : Int} (h1 : X=1∨X=0∨X=-1) (h2 : Y=1∨Y=0∨Y=-1) (h3 : ν=1∨ν=0∨ν=-1) (hx : X=0→ν=-(Y*Y)) (hy : Y=0→ν=X*X) :
 (if Y=0∨X=Y then X else if X=0 then Y else X*ν)=if ν=1 then X else if ν=-1 then Y else Int.sign (X+Y):=by
 rcases h1 with rfl | rfl | rfl <;> rcases h2 with rfl | rfl | rfl <;> rcases h3 with rfl | rfl | rfl <;>
  first | rfl | (exact absurd (hx rfl) (by decide)) | (exact absurd (hy rfl) (by decide)) | decide
section
variable {α : Type} {add mul : α→α→α} {neg : α→α} {zero one d : α} {σ : α→Int} (L : Laws add mul neg zero one) (S : Sgn add mul neg one σ) (hd : σ d=1)
include L S hd
theorem Sgn.n0x {p : α × α} (h : σ p.1=0) : σ (L.nP d p)=-(σ p.2*σ p.2):=by
 unfold Laws.nP
 rw [S.add0 L (by rw [S.sm,h];rfl),S.sn,S.sm,S.sm,hd,W4u]
theorem Sgn.n0y {p : α × α} (h : σ p.2=0) : σ (L.nP d p)=σ p.1*σ p.1:=by
 have _u:=hd
 unfold Laws.nP
 rw [S.add0' L (by rw [S.sn,S.sm,S.sm,h];simp),S.sm]
theorem Sgn.sx_eq (p : α × α) : L.sx d σ p=if σ (L.nP d p)=1 then σ p.1 else if σ (L.nP d p)=-1 then σ p.2 else Int.sign (σ p.1+σ p.2) :=
 Ygg (S.tri _) (S.tri _) (S.tri _) (S.n0x L hd) (S.n0y L hd)
theorem Sgn.sx1 {p : α × α} (h : σ (L.nP d p)=1) : L.sx d σ p=σ p.1∧σ p.1≠0:=by
 refine ⟨by rw [S.sx_eq L hd,if_pos h],fun h0=>?_⟩
 have h1:=S.n0x L hd h0
 have:=(Xdr (S.tri p.2)).1
 omega
theorem Sgn.sxm {p : α × α} (h : σ (L.nP d p)=-1) : L.sx d σ p=σ p.2∧σ p.2≠0:=by
 refine ⟨by rw [S.sx_eq L hd,if_neg (by omega),if_pos h],fun h0=>?_⟩
 have h1:=S.n0y L hd h0
 have:=(Xdr (S.tri p.1)).1
 omega
theorem Sgn.sxz {p : α × α} (h : σ (L.nP d p)=0) : L.sx d σ p=Int.sign (σ p.1+σ p.2)∧(σ p.1=0↔σ p.2=0):=by
 refine ⟨by rw [S.sx_eq L hd,if_neg (by omega),if_neg (by omega)],fun h0=>?_,fun h0=>?_⟩
 · have h1:=S.n0x L hd h0
   have h2:=(Xdr (S.tri p.2)).2.1
   exact W1e fun h3=>by have:=h2 h3;omega
 · have h1:=S.n0y L hd h0
   have h2:=(Xdr (S.tri p.1)).2.1
   exact W1e fun h3=>by have:=h2 h3;omega
theorem Sgn.sd (z : α) : σ (mul d z)=σ z:=by
 have _u:=L
 rw [S.sm,hd,W3y]
theorem Sgn.mul_core (p q : α × α) (h : σ (L.nP d q)=0→σ (L.nP d p)=0) : L.sx d σ (L.mQ d p q)=L.sx d σ p*L.sx d σ q:=by
 obtain ⟨a1,b1⟩:=p
 obtain ⟨a2,b2⟩:=q
 have hN : σ (L.nP d (L.mQ d (a1,b1) (a2,b2)))=σ (L.nP d (a1,b1))*σ (L.nP d (a2,b2)):=by
  rw [←S.sm];congr 1
  exact (Laws.req L [a1,b1,a2,b2,d] (.add (.mul (.add (.mul (.v 0) (.v 2)) (.mul (.mul (.v 1) (.v 3)) (.v 4))) (.add (.mul (.v 0) (.v 2)) (.mul (.mul (.v 1) (.v 3)) (.v 4)))) (.neg (.mul (.mul (.add (.mul (.v 0) (.v 3)) (.mul (.v 1) (.v 2))) (.add (.mul (.v 0) (.v 3)) (.mul (.v 1) (.v 2)))) (.v 4)))) (.mul (.add (.mul (.v 0) (.v 0)) (.neg (.mul (.mul (.v 1) (.v 1)) (.v 4)))) (.add (.mul (.v 2) (.v 2)) (.neg (.mul (.mul (.v 3) (.v 3)) (.v 4))))) (by decide +kernel))
 have eX : ∀ n1 n2,n1=L.nP d (a1,b1)→n2=L.nP d (a2,b2)→add (mul (mul a1 a2) (mul a1 a2)) (neg (mul (mul (mul b1 b2) d) (mul (mul b1 b2) d)))=add (add (mul (mul a1 a1) n2) (mul (mul a2 a2) n1)) (neg (mul n1 n2)):=by
  rintro _ _ rfl rfl
  exact (Laws.req L [a1,b1,a2,b2,d] (.add (.mul (.mul (.v 0) (.v 2)) (.mul (.v 0) (.v 2))) (.neg (.mul (.mul (.mul (.v 1) (.v 3)) (.v 4)) (.mul (.mul (.v 1) (.v 3)) (.v 4))))) (.add (.add (.mul (.mul (.v 0) (.v 0)) (.add (.mul (.v 2) (.v 2)) (.neg (.mul (.mul (.v 3) (.v 3)) (.v 4))))) (.mul (.mul (.v 2) (.v 2)) (.add (.mul (.v 0) (.v 0)) (.neg (.mul (.mul (.v 1) (.v 1)) (.v 4)))))) (.neg (.mul (.add (.mul (.v 0) (.v 0)) (.neg (.mul (.mul (.v 1) (.v 1)) (.v 4)))) (.add (.mul (.v 2) (.v 2)) (.neg (.mul (.mul (.v 3) (.v 3)) (.v 4))))))) (by decide +kernel))
 have eX2 : ∀ n1 n2,n1=L.nP d (a1,b1)→n2=L.nP d (a2,b2)→add (mul (mul a1 a2) (mul a1 a2)) (neg (mul (mul (mul b1 b2) d) (mul (mul b1 b2) d)))=add (mul (mul a1 a1) n2) (mul (mul d (mul b2 b2)) n1):=by
  rintro _ _ rfl rfl
  exact (Laws.req L [a1,b1,a2,b2,d] (.add (.mul (.mul (.v 0) (.v 2)) (.mul (.v 0) (.v 2))) (.neg (.mul (.mul (.mul (.v 1) (.v 3)) (.v 4)) (.mul (.mul (.v 1) (.v 3)) (.v 4))))) (.add (.mul (.mul (.v 0) (.v 0)) (.add (.mul (.v 2) (.v 2)) (.neg (.mul (.mul (.v 3) (.v 3)) (.v 4))))) (.mul (.mul (.v 4) (.mul (.v 3) (.v 3))) (.add (.mul (.v 0) (.v 0)) (.neg (.mul (.mul (.v 1) (.v 1)) (.v 4)))))) (by decide +kernel))
 have eXr : ∀ n1 n2,n1=L.nP d (a1,b1)→n2=L.nP d (a2,b2)→add (mul (mul (mul b1 b2) d) (mul (mul b1 b2) d)) (neg (mul (mul a1 a2) (mul a1 a2)))=add (add (neg (mul (mul a1 a1) n2)) (neg (mul (mul a2 a2) n1))) (mul n1 n2):=by
  rintro _ _ rfl rfl
  exact (Laws.req L [a1,b1,a2,b2,d] (.add (.mul (.mul (.mul (.v 1) (.v 3)) (.v 4)) (.mul (.mul (.v 1) (.v 3)) (.v 4))) (.neg (.mul (.mul (.v 0) (.v 2)) (.mul (.v 0) (.v 2))))) (.add (.add (.neg (.mul (.mul (.v 0) (.v 0)) (.add (.mul (.v 2) (.v 2)) (.neg (.mul (.mul (.v 3) (.v 3)) (.v 4)))))) (.neg (.mul (.mul (.v 2) (.v 2)) (.add (.mul (.v 0) (.v 0)) (.neg (.mul (.mul (.v 1) (.v 1)) (.v 4))))))) (.mul (.add (.mul (.v 0) (.v 0)) (.neg (.mul (.mul (.v 1) (.v 1)) (.v 4)))) (.add (.mul (.v 2) (.v 2)) (.neg (.mul (.mul (.v 3) (.v 3)) (.v 4)))))) (by decide +kernel))
 have eY : ∀ n1 n2,n1=L.nP d (a1,b1)→n2=L.nP d (a2,b2)→mul d (add (mul (mul a1 b2) (mul a1 b2)) (neg (mul (mul b1 a2) (mul b1 a2))))=add (neg (mul (mul a1 a1) n2)) (mul (mul a2 a2) n1):=by
  rintro _ _ rfl rfl
  exact (Laws.req L [a1,b1,a2,b2,d] (.mul (.v 4) (.add (.mul (.mul (.v 0) (.v 3)) (.mul (.v 0) (.v 3))) (.neg (.mul (.mul (.v 1) (.v 2)) (.mul (.v 1) (.v 2)))))) (.add (.neg (.mul (.mul (.v 0) (.v 0)) (.add (.mul (.v 2) (.v 2)) (.neg (.mul (.mul (.v 3) (.v 3)) (.v 4)))))) (.mul (.mul (.v 2) (.v 2)) (.add (.mul (.v 0) (.v 0)) (.neg (.mul (.mul (.v 1) (.v 1)) (.v 4)))))) (by decide +kernel))
 have eYr : ∀ n1 n2,n1=L.nP d (a1,b1)→n2=L.nP d (a2,b2)→mul d (add (mul (mul b1 a2) (mul b1 a2)) (neg (mul (mul a1 b2) (mul a1 b2))))=add (neg (mul (mul a2 a2) n1)) (mul (mul a1 a1) n2):=by
  rintro _ _ rfl rfl
  exact (Laws.req L [a1,b1,a2,b2,d] (.mul (.v 4) (.add (.mul (.mul (.v 1) (.v 2)) (.mul (.v 1) (.v 2))) (.neg (.mul (.mul (.v 0) (.v 3)) (.mul (.v 0) (.v 3)))))) (.add (.neg (.mul (.mul (.v 2) (.v 2)) (.add (.mul (.v 0) (.v 0)) (.neg (.mul (.mul (.v 1) (.v 1)) (.v 4)))))) (.mul (.mul (.v 0) (.v 0)) (.add (.mul (.v 2) (.v 2)) (.neg (.mul (.mul (.v 3) (.v 3)) (.v 4)))))) (by decide +kernel))
 have eX:=eX _ _ rfl rfl
 have eX2:=eX2 _ _ rfl rfl
 have eXr:=eXr _ _ rfl rfl
 have eY:=eY _ _ rfl rfl
 have eYr:=eYr _ _ rfl rfl
 have Sx:=@Sgn.sx1 _ _ _ _ _ _ d σ L S hd
 have Sm:=@Sgn.sxm _ _ _ _ _ _ d σ L S hd
 have Sz:=@Sgn.sxz _ _ _ _ _ _ d σ L S hd
 have ta1:=S.tri a1
 have tb1:=S.tri b1
 have ta2:=S.tri a2
 have tb2:=S.tri b2
 have sA : σ (mul (mul a1 a1) (L.nP d (a2,b2)))=σ a1*σ a1*σ (L.nP d (a2,b2)):=by rw [S.sm,S.sm]
 have sB : σ (mul (mul a2 a2) (L.nP d (a1,b1)))=σ a2*σ a2*σ (L.nP d (a1,b1)):=by rw [S.sm,S.sm]
 have sC : σ (mul (L.nP d (a1,b1)) (L.nP d (a2,b2)))=σ (L.nP d (a1,b1))*σ (L.nP d (a2,b2)):=S.sm _ _
 have sD : σ (mul (mul d (mul b2 b2)) (L.nP d (a1,b1)))=σ b2*σ b2*σ (L.nP d (a1,b1)):=by rw [S.sm,S.sd L hd,S.sm]
 have sb : σ (mul (mul b1 b2) d)=σ b1*σ b2:=by rw [S.sm,S.sm,hd,W4u]
 have qa1:=Xdr ta1
 have qa2:=Xdr ta2
 have qb2:=Xdr tb2
 rcases S.tri (L.nP d (a1,b1)) with h1 | h1 | h1 <;> rcases S.tri (L.nP d (a2,b2)) with h2 | h2 | h2 <;> simp only [h1,h2,W4u,Int.mul_zero,Int.mul_neg] at sA sB sC sD hN
 · obtain ⟨k1,z1⟩:=Sx h1
   obtain ⟨k2,z2⟩:=Sx h2
   have z1 : σ a1≠0:=z1
   have:=S.dom L (a:=mul a1 a2) (b:=mul (mul b1 b2) d) (by rw [eX2];exact S.sp _ _ (by rw [sA,qa1.2.1 z1]) (by rw [sD];exact qb2.1))
   rw [(Sx hN).1,k1,k2]
   show σ (add (mul a1 a2) (mul (mul b1 b2) d))=σ a1*σ a2
   rw [this,S.sm]
 · exact absurd (h h2) (by omega)
 · obtain ⟨k1,z1⟩:=Sx h1
   obtain ⟨k2,z2⟩:=Sm h2
   have z1 : σ a1≠0:=z1
   have z2 : σ b2≠0:=z2
   have:=S.dom L (a:=mul a1 b2) (b:=mul b1 a2) (by rw [←S.sd L hd,eY];exact S.sp _ _ (by rw [S.sn,sA,qa1.2.1 z1];rfl) (by rw [sB];exact qa2.1))
   rw [(Sm hN).1,k1,k2]
   show σ (add (mul a1 b2) (mul b1 a2))=σ a1*σ b2
   rw [this,S.sm]
 · obtain ⟨k1,e1⟩:=Sz h1
   obtain ⟨k2,z2⟩:=Sx h2
   have z2 : σ a2≠0:=z2
   have e1 : σ a1=0↔σ b1=0:=e1
   rw [(Sz hN).1,k1,k2]
   show Int.sign (σ (add (mul a1 a2) (mul (mul b1 b2) d))+σ (add (mul a1 b2) (mul b1 a2)))=Int.sign (σ a1+σ b1)*σ a2
   by_cases z1 : σ a1=0
   · have zb:=e1.1 z1
     rw [S.add0 L (by rw [S.sm,z1,W4x]),S.add0 L (by rw [S.sm,z1,W4x]),sb,S.sm,z1,zb,W4x,W4x];simp
   · have g1:=S.dom L (a:=mul a1 a2) (b:=mul (mul b1 b2) d) (by rw [eX];exact S.sp _ _ (S.sp _ _ (by rw [sA,qa1.2.1 z1]) (by rw [sB];exact W7s _)) (by rw [S.sn,sC];decide))
     have g2:=S.dom L (a:=mul b1 a2) (b:=mul a1 b2) (by rw [←S.sd L hd,eYr,L.ac];exact S.sp _ _ (by rw [sA,qa1.2.1 z1]) (by rw [S.sn,sB];decide))
     rw [g1,L.ac (mul a1 b2),g2,S.sm,S.sm]
     have zb : σ b1≠0:=fun h=>z1 (e1.2 h)
     revert z1 z2 zb
     rcases ta1 with h | h | h <;> rcases tb1 with h' | h' | h' <;> rcases ta2 with h'' | h'' | h'' <;> rw [h,h',h''] <;> decide
 · obtain ⟨k1,e1⟩:=Sz h1
   obtain ⟨k2,e2⟩:=Sz h2
   have e1 : σ a1=0↔σ b1=0:=e1
   have e2 : σ a2=0↔σ b2=0:=e2
   rw [(Sz hN).1,k1,k2]
   show Int.sign (σ (add (mul a1 a2) (mul (mul b1 b2) d))+σ (add (mul a1 b2) (mul b1 a2)))=Int.sign (σ a1+σ b1)*Int.sign (σ a2+σ b2)
   have g1:=S.dom0 L (a:=mul a1 a2) (b:=mul (mul b1 b2) d) (by rw [eX,S.add0' L (by rw [S.sn,sC];rfl),S.add0 L sA,sB])
   have g2:=S.dom0 L (a:=mul a1 b2) (b:=mul b1 a2) (by rw [←S.sd L hd,eY,S.add0 L (by rw [S.sn,sA];rfl),sB])
   rw [g1,g2,sb,S.sm,S.sm,S.sm]
   revert e1 e2
   rcases ta1 with h | h | h <;> rcases tb1 with h' | h' | h' <;> rcases ta2 with h'' | h'' | h'' <;> rcases tb2 with g | g | g <;> rw [h,h',h'',g] <;> decide
 · obtain ⟨k1,e1⟩:=Sz h1
   obtain ⟨k2,z2⟩:=Sm h2
   have z2 : σ b2≠0:=z2
   have e1 : σ a1=0↔σ b1=0:=e1
   rw [(Sz hN).1,k1,k2]
   show Int.sign (σ (add (mul a1 a2) (mul (mul b1 b2) d))+σ (add (mul a1 b2) (mul b1 a2)))=Int.sign (σ a1+σ b1)*σ b2
   by_cases z1 : σ a1=0
   · have zb:=e1.1 z1
     rw [S.add0 L (by rw [S.sm,z1,W4x]),S.add0 L (by rw [S.sm,z1,W4x]),sb,S.sm,z1,zb,W4x,W4x];simp
   · have g1:=S.dom L (a:=mul (mul b1 b2) d) (b:=mul a1 a2) (by rw [eXr];exact S.sp _ _ (S.sp _ _ (by rw [S.sn,sA,qa1.2.1 z1];rfl) (by rw [S.sn,sB];decide)) (by rw [sC];decide))
     have g2:=S.dom L (a:=mul a1 b2) (b:=mul b1 a2) (by rw [←S.sd L hd,eY];exact S.sp _ _ (by rw [S.sn,sA,qa1.2.1 z1];rfl) (by rw [sB];exact W7s _))
     rw [L.ac (mul a1 a2),g1,g2,sb,S.sm]
     have zb : σ b1≠0:=fun h=>z1 (e1.2 h)
     revert z1 z2 zb
     rcases ta1 with h | h | h <;> rcases tb1 with h' | h' | h' <;> rcases tb2 with h'' | h'' | h'' <;> rw [h,h',h''] <;> decide
 · obtain ⟨k1,z1⟩:=Sm h1
   obtain ⟨k2,z2⟩:=Sx h2
   have z2 : σ a2≠0:=z2
   have:=S.dom L (a:=mul b1 a2) (b:=mul a1 b2) (by rw [←S.sd L hd,eYr];exact S.sp _ _ (by rw [S.sn,sB,qa2.2.1 z2];rfl) (by rw [sA];exact qa1.1))
   rw [(Sm hN).1,k1,k2]
   show σ (add (mul a1 b2) (mul b1 a2))=σ b1*σ a2
   rw [L.ac,this,S.sm]
 · exact absurd (h h2) (by omega)
 · obtain ⟨k1,z1⟩:=Sm h1
   obtain ⟨k2,z2⟩:=Sm h2
   have:=S.dom L (a:=mul (mul b1 b2) d) (b:=mul a1 a2) (by rw [eXr,L.ac];exact S.sp _ _ (by rw [sC];rfl) (S.sa _ _ (by rw [S.sn,sA];have:=qa1.1;omega) (by rw [S.sn,sB];have:=qa2.1;omega)))
   rw [(Sx hN).1,k1,k2]
   show σ (add (mul a1 a2) (mul (mul b1 b2) d))=σ b1*σ b2
   rw [L.ac,this,sb]
theorem Sgn.smul (p q : α × α) : L.sx d σ (L.mQ d p q)=L.sx d σ p*L.sx d σ q:=by
 by_cases h : σ (L.nP d q)=0→σ (L.nP d p)=0
 · exact S.mul_core L hd p q h
 · have h1 : σ (L.nP d q)=0:=W1e fun h2=>h fun h3=>absurd h3 h2
   have e : L.mQ d p q=L.mQ d q p:=by
    obtain ⟨a1,b1⟩:=p
    obtain ⟨a2,b2⟩:=q
    exact W2f (Laws.req L [a1,b1,a2,b2,d] (.add (.mul (.v 0) (.v 2)) (.mul (.mul (.v 1) (.v 3)) (.v 4))) (.add (.mul (.v 2) (.v 0)) (.mul (.mul (.v 3) (.v 1)) (.v 4))) (by decide +kernel)) (Laws.req L [a1,b1,a2,b2,d] (.add (.mul (.v 0) (.v 3)) (.mul (.v 1) (.v 2))) (.add (.mul (.v 2) (.v 1)) (.mul (.v 3) (.v 0))) (by decide +kernel))
   rw [e,S.mul_core L hd q p fun _=>h1,Int.mul_comm]
theorem Sgn.sneg (p : α × α) : L.sx d σ (L.gQ p)=- L.sx d σ p:=by
 have e : L.nP d (L.gQ p)=L.nP d p:=by
  obtain ⟨a,b⟩:=p
  exact (Laws.req L [a,b,d] (.add (.mul (.neg (.v 0)) (.neg (.v 0))) (.neg (.mul (.mul (.neg (.v 1)) (.neg (.v 1))) (.v 2)))) (.add (.mul (.v 0) (.v 0)) (.neg (.mul (.mul (.v 1) (.v 1)) (.v 2)))) (by decide +kernel))
 rw [S.sx_eq L hd,S.sx_eq L hd,e]
 show (if σ (L.nP d p)=1 then σ (neg p.1) else if σ (L.nP d p)=-1 then σ (neg p.2) else Int.sign (σ (neg p.1)+σ (neg p.2)))=_
 rw [S.sn,S.sn]
 split
 · rfl
 · split
   · rfl
   · rw [←Int.neg_add,Int.sign_neg]
def Laws.Rt {α : Type} {add mul : α→α→α} {neg : α→α} {zero one : α} (L : Laws add mul neg zero one) (d : α) (σ : α→Int) (p q : α) : Prop:=σ p=1∧σ q=1∧σ (add (mul p p) (neg (mul d (mul q q))))=0
theorem Sgn.sx_rt {p q : α} (h : L.Rt d σ p q) (x : α × α) : L.sx d σ x=σ (add (mul x.1 q) (mul x.2 p)):=by
 obtain ⟨hp,hq,h0⟩:=h
 obtain ⟨a,b⟩:=x
 show L.sx d σ (a,b)=σ (add (mul a q) (mul b p))
 have e1 : ∀ n,n=L.nP d (a,b)→mul n (mul q q)=add (mul (mul b b) (add (mul p p) (neg (mul d (mul q q))))) (mul (add (mul a q) (mul b p)) (add (mul a q) (neg (mul b p)))):=by
  rintro _ rfl
  exact (Laws.req L [a,b,p,q,d] (.mul (.add (.mul (.v 0) (.v 0)) (.neg (.mul (.mul (.v 1) (.v 1)) (.v 4)))) (.mul (.v 3) (.v 3))) (.add (.mul (.mul (.v 1) (.v 1)) (.add (.mul (.v 2) (.v 2)) (.neg (.mul (.v 4) (.mul (.v 3) (.v 3)))))) (.mul (.add (.mul (.v 0) (.v 3)) (.mul (.v 1) (.v 2))) (.add (.mul (.v 0) (.v 3)) (.neg (.mul (.v 1) (.v 2)))))) (by decide +kernel))
 have e1:=e1 _ rfl
 have hN : σ (L.nP d (a,b))=σ (add (mul a q) (mul b p))*σ (add (mul a q) (neg (mul b p))):=by
  have e4:=congrArg σ e1
  rw [S.add0 L (a:=mul (mul b b) (add (mul p p) (neg (mul d (mul q q))))) (by rw [S.sm,h0,Int.mul_zero]),S.sm,S.sm,hq,W4u,W4u,S.sm] at e4
  exact e4
 have e2 : add (mul a q) (mul a q)=add (add (mul a q) (mul b p)) (add (mul a q) (neg (mul b p))):=(Laws.req L [a,b,p,q] (.add (.mul (.v 0) (.v 3)) (.mul (.v 0) (.v 3))) (.add (.add (.mul (.v 0) (.v 3)) (.mul (.v 1) (.v 2))) (.add (.mul (.v 0) (.v 3)) (.neg (.mul (.v 1) (.v 2))))) (by decide +kernel))
 have e3 : add (mul b p) (mul b p)=add (add (mul a q) (mul b p)) (neg (add (mul a q) (neg (mul b p)))):=(Laws.req L [a,b,p,q] (.add (.mul (.v 1) (.v 2)) (.mul (.v 1) (.v 2))) (.add (.add (.mul (.v 0) (.v 3)) (.mul (.v 1) (.v 2))) (.neg (.add (.mul (.v 0) (.v 3)) (.neg (.mul (.v 1) (.v 2)))))) (by decide +kernel))
 have hX : σ a=σ (add (add (mul a q) (mul b p)) (add (mul a q) (neg (mul b p)))):=by
  rw [←e2,S.same L rfl,S.sm,hq,W4u]
 have hY : σ b=σ (add (add (mul a q) (mul b p)) (neg (add (mul a q) (neg (mul b p))))):=by
  rw [←e3,S.same L rfl,S.sm,hp,W4u]
 generalize add (mul a q) (mul b p)=A at *
 generalize add (mul a q) (neg (mul b p))=B at *
 rw [S.sx_eq L hd]
 show (if σ (L.nP d (a,b))=1 then σ a else if σ (L.nP d (a,b))=-1 then σ b else Int.sign (σ a+σ b))=σ A
 rw [hN]
 rcases S.tri A with h | h | h <;> rcases S.tri B with h' | h' | h'
 · rw [h,h',if_pos (by decide),hX,S.same L (by omega),h]
 · rw [h,h',if_neg (by decide),if_neg (by decide),hX,hY,S.add0' L h',S.add0' L (by rw [S.sn];omega),h];rfl
 · rw [h,h',if_neg (by decide),if_pos (by decide),hY,S.same L (by rw [S.sn];omega),h]
 · rw [h,h',if_neg (by decide),if_neg (by decide),hX,hY,S.add0 L h,S.add0 L h,S.sn,h'];rfl
 · rw [h,h',if_neg (by decide),if_neg (by decide),hX,hY,S.add0 L h,S.add0 L h,S.sn,h'];rfl
 · rw [h,h',if_neg (by decide),if_neg (by decide),hX,hY,S.add0 L h,S.add0 L h,S.sn,h'];rfl
 · rw [h,h',if_neg (by decide),if_pos (by decide),hY,S.same L (by rw [S.sn];omega),h]
 · rw [h,h',if_neg (by decide),if_neg (by decide),hX,hY,S.add0' L h',S.add0' L (by rw [S.sn];omega),h];rfl
 · rw [h,h',if_pos (by decide),hX,S.same L (by omega),h]
theorem Sgn.no_rt (hE : ∀ p q,¬ L.Rt d σ p q) {x : α × α} (h : σ (L.nP d x)=0) : σ x.1=0∧σ x.2=0:=by
 obtain ⟨a,b⟩:=x
 have h0:=(S.sxz L hd h).2
 have h0 : σ a=0↔σ b=0:=h0
 have e : ∀ n,n=L.nP d (a,b)→add (mul a a) (neg (mul d (mul b b)))=n∧add (mul (neg a) (neg a)) (neg (mul d (mul b b)))=n∧add (mul a a) (neg (mul d (mul (neg b) (neg b))))=n∧add (mul (neg a) (neg a)) (neg (mul d (mul (neg b) (neg b))))=n:=by
  rintro _ rfl
  exact ⟨(Laws.req L [a,b,d] (.add (.mul (.v 0) (.v 0)) (.neg (.mul (.v 2) (.mul (.v 1) (.v 1))))) (.add (.mul (.v 0) (.v 0)) (.neg (.mul (.mul (.v 1) (.v 1)) (.v 2)))) (by decide +kernel)),(Laws.req L [a,b,d] (.add (.mul (.neg (.v 0)) (.neg (.v 0))) (.neg (.mul (.v 2) (.mul (.v 1) (.v 1))))) (.add (.mul (.v 0) (.v 0)) (.neg (.mul (.mul (.v 1) (.v 1)) (.v 2)))) (by decide +kernel)),(Laws.req L [a,b,d] (.add (.mul (.v 0) (.v 0)) (.neg (.mul (.v 2) (.mul (.neg (.v 1)) (.neg (.v 1)))))) (.add (.mul (.v 0) (.v 0)) (.neg (.mul (.mul (.v 1) (.v 1)) (.v 2)))) (by decide +kernel)),(Laws.req L [a,b,d] (.add (.mul (.neg (.v 0)) (.neg (.v 0))) (.neg (.mul (.v 2) (.mul (.neg (.v 1)) (.neg (.v 1)))))) (.add (.mul (.v 0) (.v 0)) (.neg (.mul (.mul (.v 1) (.v 1)) (.v 2)))) (by decide +kernel))⟩
 obtain ⟨e1,e2,e3,e4⟩:=e _ rfl
 show σ a=0∧σ b=0
 rcases S.tri a with h1 | h1 | h1
 · rcases S.tri b with h2 | h2 | h2
   · exact absurd ⟨h1,h2,by rw [e1];exact h⟩ (hE a b)
   · omega
   · exact absurd ⟨h1,by rw [S.sn];omega,by rw [e3];exact h⟩ (hE a (neg b))
 · exact ⟨h1,h0.1 h1⟩
 · rcases S.tri b with h2 | h2 | h2
   · exact absurd ⟨by rw [S.sn];omega,h2,by rw [e2];exact h⟩ (hE (neg a) b)
   · omega
   · exact absurd ⟨by rw [S.sn];omega,by rw [S.sn];omega,by rw [e4];exact h⟩ (hE (neg a) (neg b))
theorem Sgn.sx_n (hE : ∀ p q,¬ L.Rt d σ p q) {n a b : α} (hn : σ n=1) (h : 0≤L.sx d σ (a,b)) : L.sx d σ (add a n,b)=1:=by
 have Sx:=@Sgn.sx1 _ _ _ _ _ _ d σ L S hd
 have Sm:=@Sgn.sxm _ _ _ _ _ _ d σ L S hd
 rcases S.tri (L.nP d (a,b)) with h1 | h1 | h1
 · obtain ⟨k1,z1⟩:=Sx h1
   have k1 : L.sx d σ (a,b)=σ a:=k1
   have z1 : σ a≠0:=z1
   have ha : σ a=1:=by rcases S.tri a with h | h | h <;> omega
   have hN : σ (L.nP d (add a n,b))=1:=by
    have e : ∀ m,m=L.nP d (a,b)→L.nP d (add a n,b)=add m (mul n (add (add a a) n)):=by
     rintro _ rfl
     exact (Laws.req L [a,b,n,d] (.add (.mul (.add (.v 0) (.v 2)) (.add (.v 0) (.v 2))) (.neg (.mul (.mul (.v 1) (.v 1)) (.v 3)))) (.add (.add (.mul (.v 0) (.v 0)) (.neg (.mul (.mul (.v 1) (.v 1)) (.v 3)))) (.mul (.v 2) (.add (.add (.v 0) (.v 0)) (.v 2)))) (by decide +kernel))
    rw [e _ rfl]
    exact S.sp _ _ h1 (by rw [S.sm,hn,S.sp _ _ (S.sp _ _ ha (by omega)) (by omega)];decide)
   rw [(Sx hN).1]
   exact S.sp _ _ ha (by omega)
 · obtain ⟨k1,k2⟩:=S.no_rt L hd hE h1
   have k1 : σ a=0:=k1
   have k2 : σ b=0:=k2
   have : σ (add a n)=1:=by rw [S.add0 L k1,hn]
   unfold Laws.sx
   rw [if_pos (.inl k2)];exact this
 · obtain ⟨k1,z1⟩:=Sm h1
   have k1 : L.sx d σ (a,b)=σ b:=k1
   have z1 : σ b≠0:=z1
   have hb : σ b=1:=by rcases S.tri b with h | h | h <;> omega
   rcases S.tri (L.nP d (add a n,b)) with h2 | h2 | h2
   · obtain ⟨k3,z3⟩:=Sx h2
     rw [k3]
     show σ (add a n)=1
     have z3 : σ (add a n)≠0:=z3
     rcases S.tri (add a n) with h | h | h
     · exact h
     · omega
     · exfalso
       have e : ∀ m,m=L.nP d (add a n,b)→L.nP d (a,b)=add m (mul n (add (neg (add a n)) (add (neg (add a n)) n))):=by
        rintro _ rfl
        exact (Laws.req L [a,b,n,d] (.add (.mul (.v 0) (.v 0)) (.neg (.mul (.mul (.v 1) (.v 1)) (.v 3)))) (.add (.add (.mul (.add (.v 0) (.v 2)) (.add (.v 0) (.v 2))) (.neg (.mul (.mul (.v 1) (.v 1)) (.v 3)))) (.mul (.v 2) (.add (.neg (.add (.v 0) (.v 2))) (.add (.neg (.add (.v 0) (.v 2))) (.v 2))))) (by decide +kernel))
       have g1 : σ (neg (add a n))=1:=by rw [S.sn];omega
       rw [e _ rfl,S.sp _ _ h2 (by rw [S.sm,hn,S.sp _ _ g1 (by rw [S.sp _ _ g1 (by omega)];decide)];decide)] at h1
       omega
   · have:=(S.no_rt L hd hE h2).2
     have : σ b=0:=this
     omega
   · rw [(Sm h2).1];exact hb
theorem Sgn.ext : Sgn L.aQ (L.mQ d) L.gQ (one,zero) (L.sx d σ):=by
 have tri : ∀ p,L.sx d σ p=1∨L.sx d σ p=0∨L.sx d σ p=-1:=by
  intro p
  rw [S.sx_eq L hd]
  split
  · exact S.tri _
  · split
    · exact S.tri _
    · rcases S.tri p.1 with h | h | h <;> rcases S.tri p.2 with h' | h' | h' <;> rw [h,h'] <;> decide
 have low : ∀ a b,σ b=0→L.sx d σ (a,b)=σ a:=by
  intro a b h
  unfold Laws.sx
  rw [if_pos (.inl h)]
 by_cases hE : ∃ p q,L.Rt d σ p q
 · obtain ⟨p,q,h⟩:=hE
   have hadd : ∀ x y : α × α,add (mul (L.aQ x y).1 q) (mul (L.aQ x y).2 p)=add (add (mul x.1 q) (mul x.2 p)) (add (mul y.1 q) (mul y.2 p)):=by
    rintro ⟨a,b⟩ ⟨a2,b2⟩
    exact (Laws.req L [a,b,a2,b2,p,q] (.add (.mul (.add (.v 0) (.v 2)) (.v 5)) (.mul (.add (.v 1) (.v 3)) (.v 4))) (.add (.add (.mul (.v 0) (.v 5)) (.mul (.v 1) (.v 4))) (.add (.mul (.v 2) (.v 5)) (.mul (.v 3) (.v 4)))) (by decide +kernel))
   refine ⟨tri,S.sneg L hd,S.smul L hd,fun x y hx hy=>?_,fun x y hx hy=>?_,by rw [low _ _ (S.s0 L),S.s1]⟩
   · rw [S.sx_rt L hd h] at hx hy ⊢
     rw [hadd];exact S.sa _ _ hx hy
   · rw [S.sx_rt L hd h] at hx hy ⊢
     rw [hadd];exact S.sp _ _ hx hy
 · have hE : ∀ p q,¬ L.Rt d σ p q:=fun p q h=>hE ⟨p,q,h⟩
   have pos : ∀ x y : α × α,L.sx d σ x=1→0≤L.sx d σ y→L.sx d σ (L.aQ x y)=1:=by
    intro x y hx hy
    have hN : σ (L.nP d x)≠0:=fun h0=>by
     have h1:=(S.sxz L hd h0).1
     have h2:=S.no_rt L hd hE h0
     rw [h2.1,h2.2] at h1
     rw [h1] at hx
     exact absurd hx (by decide)
    have ex : L.mQ d x (x.1,neg x.2)=(L.nP d x,zero):=by
     obtain ⟨a,b⟩:=x
     exact W2f (Laws.req L [a,b,d] (.add (.mul (.v 0) (.v 0)) (.mul (.mul (.v 1) (.neg (.v 1))) (.v 2))) (.add (.mul (.v 0) (.v 0)) (.neg (.mul (.mul (.v 1) (.v 1)) (.v 2)))) (by decide +kernel)) (Laws.req L [a,b] (.add (.mul (.v 0) (.neg (.v 1))) (.mul (.v 1) (.v 0))) .z (by decide +kernel))
    have ey : L.mQ d (L.aQ x y) (x.1,neg x.2)=(add (L.mQ d y (x.1,neg x.2)).1 (L.nP d x),(L.mQ d y (x.1,neg x.2)).2):=by
     obtain ⟨a,b⟩:=x
     obtain ⟨a2,b2⟩:=y
     exact W2f (Laws.req L [a,b,a2,b2,d] (.add (.mul (.add (.v 0) (.v 2)) (.v 0)) (.mul (.mul (.add (.v 1) (.v 3)) (.neg (.v 1))) (.v 4))) (.add (.add (.mul (.v 2) (.v 0)) (.mul (.mul (.v 3) (.neg (.v 1))) (.v 4))) (.add (.mul (.v 0) (.v 0)) (.neg (.mul (.mul (.v 1) (.v 1)) (.v 4))))) (by decide +kernel)) (Laws.req L [a,b,a2,b2,d] (.add (.mul (.add (.v 0) (.v 2)) (.neg (.v 1))) (.mul (.add (.v 1) (.v 3)) (.v 0))) (.add (.mul (.v 2) (.neg (.v 1))) (.mul (.v 3) (.v 0))) (by decide +kernel))
    have hc : L.sx d σ (x.1,neg x.2)=σ (L.nP d x):=by
     have:=S.smul L hd x (x.1,neg x.2)
     rw [ex,low _ _ (S.s0 L),hx,W3y] at this
     exact this.symm
    have hyc:=S.smul L hd y (x.1,neg x.2)
    have hxy:=S.smul L hd (L.aQ x y) (x.1,neg x.2)
    rw [hc] at hyc hxy
    rcases S.tri (L.nP d x) with h1 | h1 | h1
    · rw [h1,W4u] at hyc hxy
      rw [←hxy,ey]
      exact S.sx_n L hd hE h1 (by rw [←hyc] at hy;exact hy)
    · exact absurd h1 hN
    · rw [h1] at hyc hxy
      have hg:=S.sneg L hd (L.mQ d (L.aQ x y) (x.1,neg x.2))
      have eg : L.gQ (L.mQ d (L.aQ x y) (x.1,neg x.2))=(add (L.gQ (L.mQ d y (x.1,neg x.2))).1 (neg (L.nP d x)),(L.gQ (L.mQ d y (x.1,neg x.2))).2):=by
       rw [ey]
       exact W2f (L.nd _ _) rfl
      have h2:=S.sx_n L hd hE (n:=neg (L.nP d x)) (a:=(L.gQ (L.mQ d y (x.1,neg x.2))).1) (b:=(L.gQ (L.mQ d y (x.1,neg x.2))).2) (by rw [S.sn];omega) (by
       show 0≤L.sx d σ (L.gQ (L.mQ d y (x.1,neg x.2)))
       rw [S.sneg L hd,hyc];omega)
      rw [←eg] at h2
      omega
   refine ⟨tri,S.sneg L hd,S.smul L hd,fun x y hx hy=>?_,pos,by rw [low _ _ (S.s0 L),S.s1]⟩
   rcases tri x with h | h | h
   · rw [pos x y h hy];decide
   · rcases tri y with h' | h' | h'
     · have e : L.aQ x y=L.aQ y x:=W2f (L.ac _ _) (L.ac _ _)
       rw [e,pos y x h' hx];decide
     · have zz : ∀ p,L.sx d σ p=0→σ p.1=0∧σ p.2=0:=by
        intro p hp
        rcases S.tri (L.nP d p) with g | g | g
        · have:=S.sx1 L hd g;omega
        · exact S.no_rt L hd hE g
        · have:=S.sxm L hd g;omega
       have z1:=zz x h
       have z2:=zz y h'
       have : L.sx d σ (L.aQ x y)=0:=by
        rw [show L.aQ x y=(add x.1 y.1,add x.2 y.2) from rfl,low _ _ (by rw [S.add0 L z1.2,z2.2]),S.add0 L z1.1,z2.1]
       omega
     · omega
   · omega
end
end
section
def Xew (x : Rat) : Int:=if 0<x then 1 else if x<0 then -1 else 0
theorem Xax (x : Rat) : (0<x∧Xew x=1)∨(x=0∧Xew x=0)∨(x<0∧Xew x=-1):=by
 unfold Xew
 by_cases h : 0<x
 · left;exact ⟨h,if_pos h⟩
 · by_cases h2 : x<0
   · right;right;exact ⟨h2,by rw [if_neg h,if_pos h2]⟩
   · right;left;exact ⟨by grind,by rw [if_neg h,if_neg h2]⟩
theorem Xby {x : Rat} (h : 0<x) : Xew x=1:=if_pos h
theorem Xdj {x : Rat} (h : x<0) : Xew x=-1:=by unfold Xew;rw [if_neg (by grind),if_pos h]
theorem Xhv {x y : Rat} (h : x<0) (k : 0<y) : x*y<0:=by
 have:=W4c (show 0 < -x by grind) k
 grind
theorem Xnu {x y : Rat} (h : x<0) (k : y<0) : 0<x*y:=by
 have:=W4c (show 0 < -x by grind) (show 0 < -y by grind)
 grind
theorem Ycv : Sgn (α:=Rat) (fun x y=>x+y) (fun x y=>x*y) (fun x=>-x) 1 Xew:=by
 refine ⟨fun a=>?_,fun a=>?_,fun a b=>?_,fun a b ha hb=>?_,fun a b ha hb=>?_,by decide⟩
 · rcases Xax a with h | h | h <;> simp [h.2]
 · rcases Xax a with h | h | h
   · rw [h.2,Xdj (by grind)]
   · rw [h.1,Rat.neg_zero];rfl
   · rw [h.2,Xby (by grind)];rfl
 · rcases Xax a with h | h | h <;> rcases Xax b with k | k | k <;> rw [h.2,k.2]
   · exact Xby (W4c h.1 k.1)
   · rw [k.1,Rat.mul_zero];rfl
   · rw [Rat.mul_comm];exact Xdj (Xhv k.1 h.1)
   · rw [h.1,W5f];rfl
   · rw [h.1,W5f];rfl
   · rw [h.1,W5f];rfl
   · exact Xdj (Xhv h.1 k.1)
   · rw [k.1,Rat.mul_zero];rfl
   · exact Xby (Xnu h.1 k.1)
 · rcases Xax a with h | h | h <;> rcases Xax b with k | k | k <;> rw [h.2] at ha <;> rw [k.2] at hb <;> first | (exact absurd ha (by decide)) | (exact absurd hb (by decide)) | skip
   · rw [Xby (by grind)];decide
   · rw [Xby (by grind)];decide
   · rw [Xby (by grind)];decide
   · rw [h.1,k.1,W5p];decide
 · rcases Xax a with h | h | h <;> rcases Xax b with k | k | k <;> rw [h.2] at ha <;> rw [k.2] at hb <;> first | (exact absurd ha (by decide)) | (exact absurd hb (by decide)) | exact Xby (by grind)
def sgn : (k : Nat)→Tw k→El k→Int
 | 0=>fun _ (x : Rat)=>Xew x
 | k+1=>fun t a=>(Xay k t.1).sx t.2 (sgn k t.1) a
def Xbu : (k : Nat)→Tw k→Prop
 | 0=>fun _=>True
 | k+1=>fun t=>Xbu k t.1∧sgn k t.1 t.2=1
theorem Xas : ∀ {k : Nat} {t : Tw k},Xbu k t→Sgn (add k) (mul k t) (neg k) (rat k 1) (sgn k t)
 | 0,_,_=>Ycv
 | k+1,t,h=>(Xas h.1).ext (Xay k t.1) h.2
section
variable {k : Nat} {t : Tw k}
theorem Xti {t : Tw (k+1)} (a : El k) (h : Xbu k t.1) : sgn (k+1) t (up k a)=sgn k t.1 a:=by
 have hz:=(Xas h).s0 (Xay k t.1)
 show (Xay k t.1).sx t.2 (sgn k t.1) (a,zero k)=_
 unfold Laws.sx
 rw [if_pos (.inl hz)]
theorem Xf2 {x : Rat} (h : Xbu k t) : sgn k t (rat k x)=Xew x:=by
 induction k with
 | zero=>rfl
 | succ k ih=>rw [show rat (k+1) x=up k (rat k x) from rfl,Xti _ h.1,ih h.1]
theorem Xcw : ∀ {k : Nat} (t : Tw k) (a : El k),sgn k t a=1∨sgn k t a=0∨sgn k t a=-1
 | 0,_,a=>by
  rcases Xax a with h | h | h
  · exact .inl h.2
  · exact .inr (.inl h.2)
  · exact .inr (.inr h.2)
 | k+1,t,a=>by
  show (Xay k t.1).sx t.2 (sgn k t.1) a=1∨(Xay k t.1).sx t.2 (sgn k t.1) a=0∨(Xay k t.1).sx t.2 (sgn k t.1) a=-1
  unfold Laws.sx
  split
  · exact Xcw _ _
  · split
    · exact Xcw _ _
    · rcases Xcw t.1 a.1 with h | h | h <;> rcases Xcw t.1 ((Xay k t.1).nP t.2 a) with g | g | g <;> rw [h,g] <;> decide
def le (k : Nat) (t : Tw k) (a b : El k) : Prop:=0≤sgn k t (add k b (neg k a))
end
end
section
section
variable {α : Type} {add mul : α→α→α} {neg : α→α} {zero one : α} {σ : α→Int} (L : Laws add mul neg zero one) (S : Sgn add mul neg one σ)
include L S
theorem Sgn.le_rf (a : α) : 0≤σ (add a (neg a)):=by rw [L.an,S.s0 L];exact W7s _
theorem Sgn.le_tr {a b c : α} (h : 0≤σ (add b (neg a))) (k : 0≤σ (add c (neg b))) : 0≤σ (add c (neg a)):=by
 have e : add c (neg a)=add (add c (neg b)) (add b (neg a)):=(Laws.req L [a,b,c] (.add (.v 2) (.neg (.v 0))) (.add (.add (.v 2) (.neg (.v 1))) (.add (.v 1) (.neg (.v 0)))) (by decide +kernel))
 rw [e];exact S.sa _ _ k h
theorem Sgn.le_ad {a b c d : α} (h : 0≤σ (add b (neg a))) (k : 0≤σ (add d (neg c))) : 0≤σ (add (add b d) (neg (add a c))):=by
 have e : add (add b d) (neg (add a c))=add (add b (neg a)) (add d (neg c)):=(Laws.req L [a,b,c,d] (.add (.add (.v 1) (.v 3)) (.neg (.add (.v 0) (.v 2)))) (.add (.add (.v 1) (.neg (.v 0))) (.add (.v 3) (.neg (.v 2)))) (by decide +kernel))
 rw [e];exact S.sa _ _ h k
theorem Sgn.le_ml {a b c : α} (h : 0≤σ (add b (neg a))) (hc : 0≤σ c) : 0≤σ (add (mul c b) (neg (mul c a))):=by
 have e : add (mul c b) (neg (mul c a))=mul c (add b (neg a)):=(Laws.req L [a,b,c] (.add (.mul (.v 2) (.v 1)) (.neg (.mul (.v 2) (.v 0)))) (.mul (.v 2) (.add (.v 1) (.neg (.v 0)))) (by decide +kernel))
 rw [e,S.sm];exact Int.mul_nonneg hc h
theorem Sgn.le_mn {a b c : α} (h : 0≤σ (add b (neg a))) (hc : σ c≤0) : 0≤σ (add (mul c a) (neg (mul c b))):=by
 have e : add (mul c a) (neg (mul c b))=mul (neg c) (add b (neg a)):=(Laws.req L [a,b,c] (.add (.mul (.v 2) (.v 0)) (.neg (.mul (.v 2) (.v 1)))) (.mul (.neg (.v 2)) (.add (.v 1) (.neg (.v 0)))) (by decide +kernel))
 rw [e,S.sm,S.sn];exact Int.mul_nonneg (by omega) h
theorem Sgn.le_sq {x y : α} (hx : 0≤σ x) (hy : 0≤σ y) (h : 0≤σ (add (mul y y) (neg (mul x x)))) : 0≤σ (add y (neg x)):=by
 have e : add (mul y y) (neg (mul x x))=mul (add y (neg x)) (add y x):=(Laws.req L [x,y] (.add (.mul (.v 1) (.v 1)) (.neg (.mul (.v 0) (.v 0)))) (.mul (.add (.v 1) (.neg (.v 0))) (.add (.v 1) (.v 0))) (by decide +kernel))
 rw [e,S.sm] at h
 rcases S.tri (add y (neg x)) with h1 | h1 | h1
 · omega
 · omega
 · have h2 : σ (add x (neg y))=1:=by
    have e2 : add x (neg y)=neg (add y (neg x)):=(Laws.req L [x,y] (.add (.v 0) (.neg (.v 1))) (.neg (.add (.v 1) (.neg (.v 0)))) (by decide +kernel))
    rw [e2,S.sn,h1];rfl
   have h3:=S.sp _ (add y y) h2 (S.sa _ _ hy hy)
   have e3 : add (add x (neg y)) (add y y)=add y x:=(Laws.req L [x,y] (.add (.add (.v 0) (.neg (.v 1))) (.add (.v 1) (.v 1))) (.add (.v 1) (.v 0)) (by decide +kernel))
   rw [e3] at h3
   rw [h1,h3] at h
   exact absurd h (by decide)
end
def tw0 : (k : Nat)→Tw k
 | 0=>()
 | k+1=>(tw0 k,zero k)
theorem Xdm : ∀ (k : Nat) (x y : Rat),rat k (x+y)=add k (rat k x) (rat k y)
 | 0,_,_=>rfl
 | k+1,x,y=>by
  show (rat k (x+y),zero k)=(add k (rat k x) (rat k y),add k (zero k) (zero k))
  rw [Xdm k,(Xay k (tw0 k)).az]
theorem Xhn : ∀ (k : Nat) (x : Rat),rat k (-x)=neg k (rat k x)
 | 0,_=>rfl
 | k+1,x=>by
  show (rat k (-x),zero k)=(neg k (rat k x),neg k (zero k))
  rw [Xhn k,(Xay k (tw0 k)).nz]
theorem Xcy : ∀ (k : Nat) (t : Tw k) (x y : Rat),rat k (x*y)=mul k t (rat k x) (rat k y)
 | 0,_,_,_=>rfl
 | k+1,t,x,y=>by
  show up k (rat k (x*y))=mul (k+1) t (up k (rat k x)) (up k (rat k y))
  rw [Xuj,Xcy k t.1]
section
variable {k : Nat} {t : Tw k}
theorem Xa2 (h : Xbu k t) {x y : Rat} : le k t (rat k x) (rat k y)↔x≤y:=by
 unfold le
 rw [←Xhn,←Xdm,Xf2 h]
 rcases Xax (y+-x) with ⟨h1,e⟩ | ⟨h1,e⟩ | ⟨h1,e⟩ <;> rw [e]
 · exact ⟨fun _=>by grind,fun _=>by decide⟩
 · exact ⟨fun _=>by grind,fun _=>by decide⟩
 · exact ⟨fun h=>absurd h (by decide),fun h=>absurd h (by grind)⟩
theorem le_tr (h : Xbu k t) {a b c : El k} (h1 : le k t a b) (h2 : le k t b c) : le k t a c:=(Xas h).le_tr (Xay k t) h1 h2
theorem Xhu (h : Xbu k t) {a : El k} : le k t (rat k 0) a↔0≤sgn k t a:=by
 unfold le
 rw [Xdl,(Xay k t).nz,(Xay k t).az]
def inI (k : Nat) (t : Tw k) (a : El k) (x y : Rat) : Prop:=le k t (rat k x) a∧le k t a (rat k y)
theorem Xqj (h : Xbu k t) {a : El k} {x y x' y' : Rat} (i : inI k t a x y) (hx : x'≤x) (hy : y≤y') : inI k t a x' y' :=
 ⟨le_tr h ((Xa2 h).2 hx) i.1,le_tr h i.2 ((Xa2 h).2 hy)⟩
theorem Ybl (h : Xbu k t) {a : El k} {x y : Rat} (i : inI k t a x y) : x≤y:=(Xa2 h).1 (le_tr h i.1 i.2)
theorem Xu6 (h : Xbu k t) {a b : El k} {x y x' y' : Rat} (i : inI k t a x y) (j : inI k t b x' y') : inI k t (add k a b) (x+x') (y+y'):=by
 refine ⟨?_,?_⟩
 · rw [Xdm];exact (Xas h).le_ad (Xay k t) i.1 j.1
 · rw [Xdm];exact (Xas h).le_ad (Xay k t) i.2 j.2
theorem Xu5 (h : Xbu k t) {v s : El k} {a b c d m M : Rat} (i : inI k t v a b) (j : inI k t s c d) (hc : 0≤c) (h1 : m≤a*c) (h2 : m≤a*d) (h3 : b*c≤M) (h4 : b*d≤M) : inI k t (mul k t v s) m M:=by
 have S:=Xas h
 have L:=Xay k t
 have hs : 0≤sgn k t s:=(Xhu h).1 (le_tr h ((Xa2 h).2 hc) j.1)
 have hsr : ∀ x : Rat,sgn k t (rat k x)=Xew x:=fun x=>Xf2 h
 refine ⟨?_,?_⟩
 · have e1 : le k t (mul k t (rat k a) s) (mul k t v s):=by
    rw [L.mc _ s,L.mc _ s];exact S.le_ml L i.1 hs
   refine le_tr h ?_ e1
   by_cases ha : 0≤a
   · refine le_tr h ((Xa2 h).2 h1) ?_
     rw [Xcy k t]
     exact S.le_ml L j.1 (by rw [hsr];rcases Xax a with ⟨g,e⟩ | ⟨g,e⟩ | ⟨g,e⟩ <;> rw [e] <;> first | decide | grind)
   · refine le_tr h ((Xa2 h).2 h2) ?_
     rw [Xcy k t]
     exact S.le_mn L j.2 (by rw [hsr,Xdj (by grind)];decide)
 · have e1 : le k t (mul k t v s) (mul k t (rat k b) s):=by
    rw [L.mc _ s,L.mc _ s];exact S.le_ml L i.2 hs
   refine le_tr h e1 ?_
   by_cases hb : 0≤b
   · refine le_tr h ?_ ((Xa2 h).2 h4)
     rw [Xcy k t]
     exact S.le_ml L j.2 (by rw [hsr];rcases Xax b with ⟨g,e⟩ | ⟨g,e⟩ | ⟨g,e⟩ <;> rw [e] <;> first | decide | grind)
   · refine le_tr h ?_ ((Xa2 h).2 h3)
     rw [Xcy k t]
     exact S.le_mn L j.1 (by rw [hsr,Xdj (by grind)];decide)
end
section
variable {k : Nat} {t : Tw (k+1)}
theorem Xl5 (h : Xbu k t.1) {a : El k} {x y : Rat} (i : inI k t.1 a x y) : inI (k+1) t (up k a) x y:=by
 have e : ∀ a b : El k,add (k+1) (up k b) (neg (k+1) (up k a))=up k (add k b (neg k a)):=by
  intro a b
  show (add k b (neg k a),add k (zero k) (neg k (zero k)))=(add k b (neg k a),zero k)
  rw [(Xay k t.1).an]
 refine ⟨?_,?_⟩
 · show 0≤sgn (k+1) t (add (k+1) (up k a) (neg (k+1) (up k (rat k x))))
   rw [e,Xti _ h];exact i.1
 · show 0≤sgn (k+1) t (add (k+1) (up k (rat k y)) (neg (k+1) (up k a)))
   rw [e,Xti _ h];exact i.2
def rt1 (k : Nat) : El (k+1):=(zero k,rat k 1)
theorem Ya1 : mul (k+1) t (rt1 k) (rt1 k)=up k t.2:=by
 have L:=Xay k t.1
 simp only [mul,up,rt1,L.mz,L.zm,L.az,L.za,L.mo,L.om];rfl
theorem Xtj (h : Xbu k t.1) : sgn (k+1) t (rt1 k)=1:=by
 have S:=Xas h
 have h1 : sgn k t.1 (rat k 1)=1:=S.s1
 have h0 : sgn k t.1 (zero k)=0:=S.s0 (Xay k t.1)
 show (Xay k t.1).sx t.2 (sgn k t.1) (zero k,rat k 1)=1
 unfold Laws.sx
 rw [if_neg (by rw [h1,h0];decide),if_pos h0,h1]
theorem Xqv (a : El (k+1)) : a=add (k+1) (up k a.1) (mul (k+1) t (up k a.2) (rt1 k)):=by
 have L:=Xay k t.1
 obtain ⟨a,b⟩:=a
 simp only [add,mul,up,rt1,L.mz,L.zm,L.az,L.za,L.mo,L.om];rfl
theorem Xu4 (h : Xbu (k+1) t) {r1 r2 c d : Rat} (i : inI k t.1 t.2 r1 r2) (hc : 0≤c) (hd : 0≤d) (h1 : c*c≤r1∨c=0) (h2 : r2≤d*d) : inI (k+1) t (rt1 k) c d:=by
 have S:=Xas h
 have L:=Xay (k+1) t
 have hr:=Xtj (t:=t) h.1
 have iu:=Xl5 h.1 i
 have hsr : ∀ x : Rat,0≤x→0≤sgn (k+1) t (rat (k+1) x):=fun x hx=>by
  rw [Xf2 h];rcases Xax x with ⟨g,e⟩ | ⟨g,e⟩ | ⟨g,e⟩ <;> rw [e] <;> first | decide | grind
 refine ⟨?_,?_⟩
 · rcases h1 with h1 | rfl
   · refine S.le_sq L (hsr c hc) (by omega) ?_
     rw [←Xcy,Ya1]
     exact le_tr h ((Xa2 h).2 h1) iu.1
   · exact (Xhu h).2 (by omega)
 · refine S.le_sq L (by omega) (hsr d hd) ?_
   rw [←Xcy,Ya1]
   exact le_tr h iu.2 ((Xa2 h).2 h2)
end
end
section
section
variable {k : Nat} {w : Tw k} {x : El k}
def tsn {k : Nat} (w : Tw k) (y : El k) : Tw (k+1):=(w,y)
end
end
section
def Xb6 (k : Nat) (t : Tw k) (a : El k) : Prop:=∃ w,mul k t w w=a
def red : (k : Nat)→Tw k→Prop
 | 0=>fun _=>True
 | k+1=>fun t=>red k t.1∧sgn k t.1 t.2=1∧¬ Xb6 k t.1 t.2
theorem Xag : ∀ {k : Nat} {t : Tw k},red k t→Xbu k t
 | 0,_,_=>trivial
 | k+1,t,h=>⟨Xag h.1,h.2.1⟩
section
variable {α : Type} {add mul : α→α→α} {neg : α→α} {zero one : α} (L : Laws add mul neg zero one)
include L
theorem Laws.sub0 {a b : α} (h : add a (neg b)=zero) : a=b:=by
 have e : a=add (add a (neg b)) b:=(Laws.req L [a,b] (.v 0) (.add (.add (.v 0) (.neg (.v 1))) (.v 1)) (by decide +kernel))
 rw [e,h,L.za]
theorem Laws.sb {a b : α} (h : a=b) : add a (neg b)=zero:=by rw [h,L.an]
theorem Laws.hi {h i m r u v x : α} (hh : add h h=one) (hx : mul x x=mul h (add u m)) (hm : mul m m=add (mul u u) (neg (mul (mul v v) r))) (hi : mul i (add x x)=one) :
 add (mul x x) (mul (mul (mul v i) (mul v i)) r)=u∧add (mul x (mul v i)) (mul (mul v i) x)=v:=by
 have e1 : mul (mul v v) r=mul (add u (neg m)) (add u m):=by
  have : mul (mul v v) r=add (mul u u) (neg (mul m m)):=by
   rw [hm];exact (Laws.req L [u,v,r] (.mul (.mul (.v 1) (.v 1)) (.v 2)) (.add (.mul (.v 0) (.v 0)) (.neg (.add (.mul (.v 0) (.v 0)) (.neg (.mul (.mul (.v 1) (.v 1)) (.v 2)))))) (by decide +kernel))
  rw [this];exact (Laws.req L [u,m] (.add (.mul (.v 0) (.v 0)) (.neg (.mul (.v 1) (.v 1)))) (.mul (.add (.v 0) (.neg (.v 1))) (.add (.v 0) (.v 1))) (by decide +kernel))
 have e2 : add u m=add (mul x x) (mul x x):=by
  rw [hx,←L.dm,hh,L.om]
 have e3 : mul (mul i i) (add (mul x x) (mul x x))=h:=by
  have : mul (mul i i) (add (mul x x) (mul x x))=mul h (mul (mul i (add x x)) (mul i (add x x))):=by
   have e4 : mul h (mul (mul i (add x x)) (mul i (add x x)))=mul (add h h) (mul (mul i i) (add (mul x x) (mul x x))):=(Laws.req L [h,i,x] (.mul (.v 0) (.mul (.mul (.v 1) (.add (.v 2) (.v 2))) (.mul (.v 1) (.add (.v 2) (.v 2))))) (.mul (.add (.v 0) (.v 0)) (.mul (.mul (.v 1) (.v 1)) (.add (.mul (.v 2) (.v 2)) (.mul (.v 2) (.v 2))))) (by decide +kernel))
   rw [e4,hh,L.om]
  rw [this,hi,L.mo,L.mo]
 constructor
 · have e5 : mul (mul (mul v i) (mul v i)) r=mul (add u (neg m)) h:=by
    have : mul (mul (mul v i) (mul v i)) r=mul (mul i i) (mul (mul v v) r):=(Laws.req L [v,i,r] (.mul (.mul (.mul (.v 0) (.v 1)) (.mul (.v 0) (.v 1))) (.v 2)) (.mul (.mul (.v 1) (.v 1)) (.mul (.mul (.v 0) (.v 0)) (.v 2))) (by decide +kernel))
    rw [this,e1]
    have : mul (mul i i) (mul (add u (neg m)) (add u m))=mul (add u (neg m)) (mul (mul i i) (add u m)):=(Laws.req L [u,m,i] (.mul (.mul (.v 2) (.v 2)) (.mul (.add (.v 0) (.neg (.v 1))) (.add (.v 0) (.v 1)))) (.mul (.add (.v 0) (.neg (.v 1))) (.mul (.mul (.v 2) (.v 2)) (.add (.v 0) (.v 1)))) (by decide +kernel))
    rw [this,e2,e3]
   rw [e5,hx]
   have : add (mul h (add u m)) (mul (add u (neg m)) h)=mul (add h h) u:=(Laws.req L [h,u,m] (.add (.mul (.v 0) (.add (.v 1) (.v 2))) (.mul (.add (.v 1) (.neg (.v 2))) (.v 0))) (.mul (.add (.v 0) (.v 0)) (.v 1)) (by decide +kernel))
   rw [this,hh,L.om]
 · have : add (mul x (mul v i)) (mul (mul v i) x)=mul v (mul i (add x x)):=(Laws.req L [x,v,i] (.add (.mul (.v 0) (.mul (.v 1) (.v 2))) (.mul (.mul (.v 1) (.v 2)) (.v 0))) (.mul (.v 1) (.mul (.v 2) (.add (.v 0) (.v 0)))) (by decide +kernel))
   rw [this,hi,L.mo]
end
section
variable {k : Nat} {t : Tw k}
theorem Xpd (h : Xbu k t) {a b : El k} (e : mul k t a b=zero k) : sgn k t a=0∨sgn k t b=0:=by
 have:=(Xas h).sm a b
 rw [e,(Xas h).s0 (Xay k t)] at this
 exact W7k.1 this.symm
theorem Xdy : ∀ {k : Nat} {t : Tw k},red k t→(∀ a,sgn k t a=0→a=zero k)∧(∀ a,a≠zero k→∃ b,inv k t a=some b)
 | 0,_,_=>by
  refine ⟨fun a h=>?_,fun a h=>?_⟩
  · rcases Xax a with ⟨h1,e⟩ | ⟨h1,e⟩ | ⟨h1,e⟩
    · exact absurd (show Xew a=0 from h) (by rw [e];decide)
    · exact h1
    · exact absurd (show Xew a=0 from h) (by rw [e];decide)
  · have h2 : ∀ x : Rat,¬ x=0→∃ b,(if x=0 then none else some (1 / x))=some b:=fun x h=>⟨1 / x,if_neg h⟩
    exact h2 a h
 | k+1,t,h=>by
  obtain ⟨f1,f2⟩:=Xdy h.1
  have R:=Xag h.1
  have L:=Xay k t.1
  have S:=Xas R
  have key : ∀ x y : El k,norm k t (x,y)=zero k→x=zero k∧y=zero k:=by
   intro x y hn
   have hn : add k (mul k t.1 x x) (neg k (mul k t.1 (mul k t.1 y y) t.2))=zero k:=hn
   by_cases hy : y=zero k
   · subst hy
     rw [L.mz,L.zm,L.nz,L.az] at hn
     refine ⟨f1 x ?_,rfl⟩
     rcases Xpd R hn with e | e <;> exact e
   · exfalso
     obtain ⟨b,hb⟩:=f2 y hy
     have hb:=Xc1 hb
     refine h.2.2 ⟨mul k t.1 x b,?_⟩
     have e:=L.sub0 hn
     have e1 : mul k t.1 (mul k t.1 x b) (mul k t.1 x b)=mul k t.1 (mul k t.1 b b) (mul k t.1 x x):=(Laws.req L [x,b] (.mul (.mul (.v 0) (.v 1)) (.mul (.v 0) (.v 1))) (.mul (.mul (.v 1) (.v 1)) (.mul (.v 0) (.v 0))) (by decide +kernel))
     have e2 : mul k t.1 (mul k t.1 b b) (mul k t.1 (mul k t.1 y y) t.2)=mul k t.1 (mul k t.1 (mul k t.1 b y) (mul k t.1 b y)) t.2:=(Laws.req L [b,y,t.2] (.mul (.mul (.v 0) (.v 0)) (.mul (.mul (.v 1) (.v 1)) (.v 2))) (.mul (.mul (.mul (.v 0) (.v 1)) (.mul (.v 0) (.v 1))) (.v 2)) (by decide +kernel))
     rw [e1,e,e2,hb,L.mo,L.om]
  refine ⟨fun a ha=>?_,fun a ha=>?_⟩
  · obtain ⟨x,y⟩:=a
    have ha : L.sx t.2 (sgn k t.1) (x,y)=0:=ha
    have hz : x=zero k∧y=zero k:=by
     unfold Laws.sx at ha
     split at ha
     · rename_i h1
       have h1 : sgn k t.1 y=0∨sgn k t.1 x=sgn k t.1 y:=h1
       have ha : sgn k t.1 x=0:=ha
       exact ⟨f1 _ ha,f1 _ (by omega)⟩
     · rename_i h1
       have h1 : ¬ (sgn k t.1 y=0∨sgn k t.1 x=sgn k t.1 y):=h1
       split at ha
       · have ha : sgn k t.1 y=0:=ha
         omega
       · rename_i h2
         have h2 : ¬ sgn k t.1 x=0:=h2
         rcases W7k.1 ha with e | e
         · exact absurd e h2
         · exact key x y (f1 _ e)
    rw [hz.1,hz.2];rfl
  · have hn : norm k t a≠zero k:=fun e=>ha (by
     obtain ⟨x,y⟩:=a
     obtain ⟨e1,e2⟩:=key x y e
     rw [e1,e2];rfl)
    obtain ⟨b,hb⟩:=f2 _ hn
    refine ⟨(mul k t.1 a.1 b,neg k (mul k t.1 a.2 b)),?_⟩
    show (match inv k t.1 (norm k t a) with | none=>none | some n=>some (mul k t.1 a.1 n,neg k (mul k t.1 a.2 n)))=_
    rw [hb];rfl
theorem Xbz (h : red k t) {a : El k} : sgn k t a=0↔a=zero k :=
 ⟨(Xdy h).1 a,fun e=>by rw [e];exact (Xas (Xag h)).s0 (Xay k t)⟩
theorem Xg2 (h : red k t) {a b : El k} (e : mul k t a b=zero k) : a=zero k∨b=zero k :=
 (Xpd (Xag h) e).imp (Xbz h).1 (Xbz h).1
theorem Xs8 (h : red k t) {a b : El k} (e : mul k t a a=mul k t b b) : a=b∨a=neg k b:=by
 have L:=Xay k t
 have e1 : mul k t (add k a (neg k b)) (add k a b)=add k (mul k t a a) (neg k (mul k t b b)):=(Laws.req L [a,b] (.mul (.add (.v 0) (.neg (.v 1))) (.add (.v 0) (.v 1))) (.add (.mul (.v 0) (.v 0)) (.neg (.mul (.v 1) (.v 1)))) (by decide +kernel))
 rw [L.sb e] at e1
 rcases Xg2 h e1 with e2 | e2
 · exact .inl (L.sub0 e2)
 · right
   rw [L.ac] at e2
   exact L.nu e2
theorem Xo6 (h : red k t) {a b : El k} (e : mul k t a a=mul k t b b) (ha : 0≤sgn k t a) (hb : 0≤sgn k t b) : a=b:=by
 rcases Xs8 h e with e1 | e1
 · exact e1
 · rw [e1,(Xas (Xag h)).sn] at ha
   have hb0 : b=zero k:=(Xbz h).1 (by omega)
   rw [e1,hb0,(Xay k t).nz]
theorem Ykx (h : Xbu k t) {a : El k} (e : Xb6 k t a) : 0≤sgn k t a:=by
 obtain ⟨w,rfl⟩:=e
 rw [(Xas h).sm]
 exact (Xdr (Xcw t w)).1
theorem Yoe (h : red k t) {a : El k} (e : add k a a=zero k) : a=zero k:=by
 rw [←Xbz h] at e ⊢
 rwa [(Xas (Xag h)).same (Xay k t) rfl] at e
theorem Xfm : add k (rat k (1 / 2)) (rat k (1 / 2))=rat k 1:=by
 rw [←Xdm];congr 1;grind
end
section
variable {k : Nat} {t : Tw (k+1)}
theorem Ygm {w u : El k} (e : mul k t.1 w w=u) : mul (k+1) t (up k w) (up k w)=up k u:=by rw [Xuj,e]
theorem Xta {w u i : El k} (hi : mul k t.1 i t.2=rat k 1) (e : mul k t.1 w w=mul k t.1 u i) : mul (k+1) t (zero k,w) (zero k,w)=up k u:=by
 have L:=Xay k t.1
 have hi:=hi
 refine W2f ?_ ?_
 · show add k (mul k t.1 (zero k) (zero k)) (mul k t.1 (mul k t.1 w w) t.2)=u
   rw [e,L.mz,L.za,L.ma,hi,L.mo]
 · show add k (mul k t.1 (zero k) w) (mul k t.1 w (zero k))=zero k
   rw [L.mz,L.zm,L.az]
theorem Xle (h : red k t.1) {u i : El k} (hi : mul k t.1 i t.2=rat k 1) (h1 : ¬ Xb6 k t.1 u) (h2 : ¬ Xb6 k t.1 (mul k t.1 u i)) : ¬ Xb6 (k+1) t (up k u):=by
 rintro ⟨⟨p,q⟩,e⟩
 have L:=Xay k t.1
 have e1 : add k (mul k t.1 p p) (mul k t.1 (mul k t.1 q q) t.2)=u:=congrArg Prod.fst e
 have e2 : add k (mul k t.1 p q) (mul k t.1 q p)=zero k:=congrArg Prod.snd e
 rw [L.mc q p] at e2
 rcases Xg2 h (Yoe h e2) with e3 | e3
 · refine h2 ⟨q,?_⟩
   rw [←e1,e3,L.mz,L.za]
   have : mul k t.1 (mul k t.1 (mul k t.1 q q) t.2) i=mul k t.1 (mul k t.1 q q) (mul k t.1 i t.2):=(Laws.req L [q,t.2,i] (.mul (.mul (.mul (.v 0) (.v 0)) (.v 1)) (.v 2)) (.mul (.mul (.v 0) (.v 0)) (.mul (.v 2) (.v 1))) (by decide +kernel))
   rw [this,hi,L.mo]
 · exact h1 ⟨p,by rw [←e1,e3,L.mz,L.zm,L.az]⟩
theorem Ygo {u v m w i : El k} (hm : mul k t.1 m m=norm k t (u,v)) (hw : mul k t.1 w w=mul k t.1 (rat k (1 / 2)) (add k u m)) (hi : mul k t.1 i (add k w w)=rat k 1) :
 mul (k+1) t (w,mul k t.1 v i) (w,mul k t.1 v i)=(u,v):=by
 obtain ⟨e1,e2⟩:=(Xay k t.1).hi Xfm hw hm hi
 exact W2f e1 e2
theorem Xs9 {a : El (k+1)} (h : Xb6 (k+1) t a) : Xb6 k t.1 (norm k t a):=by
 obtain ⟨w,rfl⟩:=h
 exact ⟨norm k t w,by rw [Xp5]⟩
theorem Xo7 (h : red k t.1) {u v m : El k} (hv : v≠zero k) (hm : mul k t.1 m m=norm k t (u,v)) (hs : Xb6 (k+1) t (u,v)) :
 ∃ p,p≠zero k∧(mul k t.1 p p=mul k t.1 (rat k (1 / 2)) (add k u m)∨mul k t.1 p p=mul k t.1 (rat k (1 / 2)) (add k u (neg k m))):=by
 obtain ⟨⟨p,q⟩,e⟩:=hs
 have L:=Xay k t.1
 have e1 : add k (mul k t.1 p p) (mul k t.1 (mul k t.1 q q) t.2)=u:=congrArg Prod.fst e
 have e2 : add k (mul k t.1 p q) (mul k t.1 q p)=v:=congrArg Prod.snd e
 have hh : add k (rat k (1 / 2)) (rat k (1 / 2))=rat k 1:=Xfm
 refine ⟨p,fun e0=>hv (by rw [←e2,e0,L.mz,L.zm,L.az]),?_⟩
 have key : mul k t.1 p p=mul k t.1 (rat k (1 / 2)) (add k u (norm k t (p,q))):=by
  rw [←e1]
  show _=mul k t.1 (rat k (1 / 2)) (add k _ (add k (mul k t.1 p p) (neg k (mul k t.1 (mul k t.1 q q) t.2))))
  generalize rat k (1 / 2)=c at hh ⊢
  have e4 : mul k t.1 c (add k (add k (mul k t.1 p p) (mul k t.1 (mul k t.1 q q) t.2)) (add k (mul k t.1 p p) (neg k (mul k t.1 (mul k t.1 q q) t.2))))=mul k t.1 (add k c c) (mul k t.1 p p):=(Laws.req L [c,p,q,t.2] (.mul (.v 0) (.add (.add (.mul (.v 1) (.v 1)) (.mul (.mul (.v 2) (.v 2)) (.v 3))) (.add (.mul (.v 1) (.v 1)) (.neg (.mul (.mul (.v 2) (.v 2)) (.v 3)))))) (.mul (.add (.v 0) (.v 0)) (.mul (.v 1) (.v 1))) (by decide +kernel))
  rw [e4,hh,L.om]
 have e3 : mul k t.1 m m=mul k t.1 (norm k t (p,q)) (norm k t (p,q)):=by
  rw [hm,←e]
  exact Xp5 k t (pr p q) (pr p q)
 rcases Xs8 h e3 with e5 | e5
 · left;rw [e5];exact key
 · right;rw [e5,L.nn];exact key
end
theorem Xym {k : Nat} {t : Tw k} {a b b' : El k} (h : mul k t b a=rat k 1) (h' : mul k t b' a=rat k 1) : b=b':=by
 have L:=Xay k t
 have e : mul k t b (mul k t b' a)=mul k t b' (mul k t b a):=(Laws.req L [a,b,b'] (.mul (.v 1) (.mul (.v 2) (.v 0))) (.mul (.v 2) (.mul (.v 1) (.v 0))) (by decide +kernel))
 rw [h,h',L.mo,L.mo] at e
 exact e
theorem Xys {k : Nat} {t : Tw k} {w i : El k} (h : mul k t i w=rat k 1) : mul k t (mul k t (rat k (1 / 2)) i) (add k w w)=rat k 1:=by
 have L:=Xay k t
 have hh : add k (rat k (1 / 2)) (rat k (1 / 2))=rat k 1:=Xfm
 generalize rat k (1 / 2)=c at hh ⊢
 have e : mul k t (mul k t c i) (add k w w)=mul k t (add k c c) (mul k t i w):=(Laws.req L [c,i,w] (.mul (.mul (.v 0) (.v 1)) (.add (.v 2) (.v 2))) (.mul (.add (.v 0) (.v 0)) (.mul (.v 1) (.v 2))) (by decide +kernel))
 rw [e,h,L.mo,hh]
theorem Ygl {k : Nat} {t : Tw (k+1)} (h : red (k+1) t) {u v m w : El k} (hv : v≠zero k) (hm : mul k t.1 m m=norm k t (u,v)) (hw : mul k t.1 w w=mul k t.1 (rat k (1 / 2)) (add k u m)) : w≠zero k:=by
 intro e
 have L:=Xay k t.1
 have hh : add k (rat k (1 / 2)) (rat k (1 / 2))=rat k 1:=Xfm
 generalize rat k (1 / 2)=c at hh hw
 rw [e,L.mz] at hw
 have e1 : add k u m=add k (mul k t.1 c (add k u m)) (mul k t.1 c (add k u m)):=by rw [←L.dm,hh,L.om]
 rw [←hw,L.az] at e1
 have hm' : mul k t.1 m m=add k (mul k t.1 u u) (neg k (mul k t.1 (mul k t.1 v v) t.2)):=hm
 have e2 : mul k t.1 (mul k t.1 v v) t.2=add k (mul k t.1 u u) (neg k (mul k t.1 m m)):=by
  rw [hm'];exact (Laws.req L [u,v,t.2] (.mul (.mul (.v 1) (.v 1)) (.v 2)) (.add (.mul (.v 0) (.v 0)) (.neg (.add (.mul (.v 0) (.v 0)) (.neg (.mul (.mul (.v 1) (.v 1)) (.v 2)))))) (by decide +kernel))
 have e3 : add k (mul k t.1 u u) (neg k (mul k t.1 m m))=mul k t.1 (add k u (neg k m)) (add k u m):=(Laws.req L [u,m] (.add (.mul (.v 0) (.v 0)) (.neg (.mul (.v 1) (.v 1)))) (.mul (.add (.v 0) (.neg (.v 1))) (.add (.v 0) (.v 1))) (by decide +kernel))
 rw [e3,e1,L.mz] at e2
 have S:=Xas (Xag h.1)
 rcases Xg2 h.1 e2 with e4 | e4
 · rcases Xg2 h.1 e4 with e5 | e5 <;> exact hv e5
 · have:=h.2.1
   rw [e4,S.s0 L] at this
   cases this
end
end Go.Tow

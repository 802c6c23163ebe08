/- part 3 -/
import Derived.Test.YtclgppjdhndgiaaGreatDoorXB
import Derived.RangeFuncBox
import Derived.RangeFuncLeaves
import Derived.Shelf.Abstract
import Derived.WalkKit
import Derived.OwnWalkIn
import Derived.TacticsInMore
import Derived.LoopNIn
import Derived.LoopIn
set_option linter.unusedVariables false
set_option linter.unusedSimpArgs false
set_option maxRecDepth 10000
namespace Go.Proofs.YtclgppjdhndgiaaGreatDoor
open Go Go.Vm Go.Num Go.Proofs
section
abbrev C0:=C Tryz.prog
abbrev CG0:=CG Tryz.prog
abbrev CA0:=CA Tryz.prog
abbrev CO0:=CO Tryz.prog
abbrev CN0:=CN Tryz.prog
abbrev CW0:=CW Tryz.prog
def wd(n:Nat): D:=.int .u32 n
def ws(l:List Nat): D:=.sl 1 (l.map wd)
def dS(b:Bool)(l:List Nat): D:=.st (.pr (.bool b) (ws l))
theorem mp{α:Type}{l:List α}{f:α->D}{j:Nat}{u:α}(h:l[j]?=some u): (l.map f)[j]?=some (f u):=by simp[h]
theorem ms{α:Type}{l:List α}{f:α->D}{j:Nat}{u:α}: (l.map f).set j (f u)=(l.set j u).map f:=by simp
theorem Xaz{l:List Nat}(hw:Xan l)(hl:l.length<=1099511627776): C0 116 [.d (ws l)] (·=.d (ws (dig (val l)))):=by
 refine En Tryz.func116 λ_ _ _=>?_
 refine Lo (λk=>[(0,.d (ws (l.take k)))]) (λ_=>[]) (λk=>k<=l.length/\val (l.take k)=val l) id l.length [] rfl ⟨W0c _,by rw[W1x]⟩ (λk ⟨hk,hv⟩=>?_) (hf:=⟨by simp only[W1x];rfl,rfl,rfl,rfl,rfl⟩)
 refine By rfl (λh=>?_) λh=>?_<;>simp only[W0i,W0j,W2b hk] at h
 . have hl:((l.take k).map wd).length=k:=by simp;omega
   refine Ar (k-1:Nat) rfl ?_
   have hx:=W0a (l:=l) (i:=k-1) (by omega)
   refine Ix (k-1) rfl (u:=wd l[k-1]) (mp (by rw[W1j,if_pos (by omega),hx])) ?_
   have hs:=Xac hx
   rw[show k-1+1=k by omega,hv] at hs
   refine By rfl (λh0=>?_) λh0=>?_
   . refine Ar (k-1:Nat) rfl ?_
     refine Tk (k-1) ((l.take (k-1)).map wd) rfl rfl (by simp;omega) (by rw[<-W3e,List.take_take,W2b (by omega)]) ?_
     exact Bk (k-1) [] rfl ⟨by omega,by rw[hs,show l[k-1]=0 by omega,W3h,W2o]⟩ (show k-1<k by omega)
   . exact R1 rfl (.eq (by rw[<-hv,Xdc (hw.take k) (.inr ⟨l[k-1],by rw[W0j,W2b hk,W1j,if_pos (by omega),hx],λe=>h0 (by rw[e];rfl)⟩)]))
 . refine R1 rfl (.eq ?_)
   rw[show k=0 by omega] at hv |-
   rw[<-hv,W8e,val,Xak]
theorem Xb6{n:Nat}(h:n<18446744073709551616): C0 205 [.d (.int .u64 n)] (·=.d (ws (dig n))):=by
 refine En Tryz.func205 λ_ _ _=>?_
 refine Go.Vm.Cv (n%4294967296:Nat) rfl ?_ (hr:=by rw[wWm];omega)
 refine Ar (n/4294967296:Nat) rfl ?_ (hr:=show _/\_ from⟨by omega,Yib n⟩)
 refine Go.Vm.Cv (n/4294967296:Nat) rfl ?_
 refine Ce rfl (Xaz (l:=[n%4294967296,n/4294967296]) (.cons (by omega) (.cons (by omega) .nil)) (by simp)) ?_
 exact R1 rfl (.eq (by rw[show val [n%4294967296,n/4294967296]=n by simp only[val];omega]))
theorem trim_dig_ok{n:Nat}(h:(dig n).length<=1099511627776): C0 116 [.d (ws (dig n))] (·=.d (ws (dig n))):=by
 have:=Xaz (Xad n) h
 rwa[Xaf] at this
theorem Xt1{b:Bool}{n:Nat}(h:(dig n).length<=1099511627776): C0 120 [.d (.bool b),.d (ws (dig n))] (·=.d (dS (b&&n != 0) (dig n))):=by
 refine En Tryz.func120 λ_ _ _=>?_
 refine Ce rfl (trim_dig_ok h) ?_
 refine By rfl (λh=>?_) λh=>?_<;>simp only[W0i] at h
 . have:n=0:=Xsl.1 (W0n (by omega))
   subst this
   exact R1 rfl (by exact .sd (.pd (.bd (by simp)) (.nil (by rw[Xak];rfl))))
 . have:n≠0:=λe=>h (by rw[e,Xak];rfl)
   rw[show (b&&n != 0)=b by simp[this]]
   exact R0
def dz(z:Int): D:=dS (decide (z<0)) (dig z.natAbs)
def sg(neg:Bool)(n:Nat): Int:=if neg then -(n:Int) else (n:Int)
theorem Xw9{p:Prop}[Decidable p]: dc p=decide p:=by rw[W3p,Xal,decide_eq_true_iff]
instance {p:Prop} [Decidable p]:Dc (decide p) p:=⟨decide_eq_true_iff⟩
theorem Yki{b:Bool}{n:Nat}: dS (b&&n != 0) (dig n)=dz (sg b n):=by
 unfold dz sg
 cases b with
 | true =>
  rw[if_pos rfl,W4t,W1l]
  congr 1
  rw[W3p];simp;omega
 | false=>rw[if_neg (by decide),W1l];congr 1
theorem Xaj{b:Bool}{n:Nat}(h:(dig n).length<=1099511627776): C0 120 [.d (.bool b),.d (ws (dig n))] (·=.d (dz (sg b n))):=by
 have:=Xt1 (b:=b) h
 rwa[Yki] at this
theorem Xp5(z:Int): sg (decide (z<0)) z.natAbs=z:=by
 unfold sg;by_cases h:z<0
 . rw[if_pos (decide_eq_true h)];omega
 . rw[if_neg (by rw[decide_eq_true_eq];exact h)];omega
theorem FromInt_ok{z:Int}(h:-9223372036854775808<=z/\z<9223372036854775808): C0 118 [.d (.int .i64 z)] (·=.d (dz z)):=by
 have hl:(dig z.natAbs).length<=2:=Xaq (by omega)
 refine En Tryz.func118 λ_ _ _=>?_
 refine Go.Vm.Cv (z%18446744073709551616) rfl ?_ (hr:=wUm _)
 refine By rfl (λh=>?_) λh=>?_
 . refine Ne (z.natAbs:Int) rfl ?_ (hr:=by rw[wUm];omega)
   refine Ce rfl (Xb6 (n:=z.natAbs) (by omega)) ?_
   refine Ce rfl (Xaj (n:=z.natAbs) (by omega)) ?_
   exact R1 rfl (.eq (by rw[Xw9,Xp5]))
 . refine Ce (r:=.d (ws (dig z.natAbs))) rfl (by have:=Xb6 (n:=z.natAbs) (by omega);rwa[show ((z.natAbs:Nat):Int)=z%18446744073709551616 by omega] at this) ?_
   refine Ce rfl (Xaj (n:=z.natAbs) (by omega)) ?_
   exact R1 rfl (.eq (by rw[Xw9,Xp5]))
end
section
theorem ww{l:List Nat}{j:Nat}{u:Nat}(h:l[j]?=some u)(hw:Xan l): u<4294967296:=hw u (W0h h)
theorem xat{l:List Nat}{k:Nat}(h:k<l.length): ∃x,l[k]?=some x:=⟨_,W0a h⟩
theorem Xhv{k:IntKind}{s n:Nat}(hn:n<=k.bits): arB .shr k s n (s/2^n:Nat):=by
 refine⟨by omega,?_⟩
 rw[W7j,W2b hn,show (2:Int)^n=((2^n:Nat):Int) by rw[W7t];rfl,W1w _ (W5j _)]
 rfl
theorem Xh7{x y:Nat}(hx:(dig x).length<=1099511627775)(hy:(dig y).length<=1099511627775): C0 239 [.d (ws (dig x)),.d (ws (dig y))] (·=.d (ws (dig (x+y)))):=by
 refine En Tryz.func239 λ_ _ _=>?_
 refine Cu none (λ(a,b)=>[(0,.d (ws (dig a))),(1,.d (ws (dig b)))]) (λ_=>[]) (λ(a,b)=>a+b=x+y/\(dig b).length<=(dig a).length/\(dig a).length<=1099511627775) rfl ?_ λ⟨a,b⟩ ⟨hs,hle,hbig⟩=>?_
 . refine By rfl (λh=>?_) λh=>?_<;>simp only[W0i] at h
   . exact Jn (y,x) [] rfl ⟨Nat.add_comm _ _,by omega,hy⟩
   . exact Jn (x,y) [] rfl ⟨rfl,by omega,hx⟩
 refine Ar ((dig a).length+1) rfl ?_ (wr (by simp) (by simp only[inK];omega))
 refine Mk 0 rfl (by omega) ?_
 refine Lo (λ(k,lo,cr)=>[(1,.d (ws (dig b))),(5,.own 19 1 0 k),(6,.d (.int .u64 (cr:Nat))),(20,.d (ws (dig a))),(21,.d (.int .i64 (dig a).length)),(22,.d (.int .i64 (k:Nat)))]) (λ(_,lo,_)=>[(19,.arr 1 (lo.map wd))])
  (λ(k,lo,cr)=>k<=(dig a).length/\lo.length=k/\Xan lo/\cr<=1/\val lo+4294967296^k*cr=val ((dig a).take k)+val ((dig b).take k)) (λ(k,_,_)=>(dig a).length-k) (0,[],0) [] rfl ⟨by omega,rfl,.nil,by omega,by simp[val]⟩ ?_ (by exact⟨by simp only[ws,W0i];rfl,rfl,rfl,rfl,rfl⟩)
 rintro⟨k,lo,cr⟩ ⟨hk,hl,hw,hcr,hval⟩
 refine By rfl (λh=>?_) λh=>?_
 . obtain⟨u,hu⟩:=xat (l:=dig a) (k:=k) (by omega)
   have hub:=ww hu (Xad a)
   refine Ix k rfl (mp hu) ?_
   refine Go.Vm.Cv u rfl ?_
   refine Ar (cr+u:Nat) rfl ?_
   refine Cu none (λ(s:Nat)=>[(1,.d (ws (dig b))),(5,.own 19 1 0 k),(6,.d (.int .u64 s)),(20,.d (ws (dig a))),(21,.d (.int .i64 (dig a).length)),(22,.d (.int .i64 k))]) (λ_=>[(19,.arr 1 (lo.map wd))])
    (λs=>s<8589934592/\4294967296^k*s+val lo=val ((dig a).take (k+1))+val ((dig b).take (k+1))) rfl ?_ λs ⟨hs8,hsv⟩=>?_
   . refine By rfl (λh2=>?_) λh2=>?_<;>simp only[W0i] at h2
     . obtain⟨u2,hu2⟩:=xat (l:=dig b) (k:=k) (by omega)
       have hub2:=ww hu2 (Xad b)
       refine Ix k rfl (mp hu2) ?_
       refine Go.Vm.Cv u2 rfl ?_
       refine Ar (cr+u+u2:Nat) rfl ?_
       exact Jn (cr+u+u2) [] rfl ⟨by omega,by rw[Xac hu,Xac hu2,W0y,W0y];omega⟩
     . exact Jn (cr+u) [] rfl ⟨by omega,by rw[Xac hu,Xf9 (l:=dig b) (by omega),W0y];omega⟩
   refine Go.Vm.Cv (s%4294967296:Nat) rfl ?_ (by rw[wWm];omega)
   refine ApO ((lo++[s%4294967296]).map wd) rfl rfl (by simp[hl]) (by simp;rfl) (by simp;omega) ?_
   refine Ar (s/4294967296:Nat) rfl ?_ (Xhv (n:=32) (by decide))
   refine Ar (k+1:Nat) rfl ?_
   refine Bk (k+1,lo++[s%4294967296],s/4294967296) [(46,19)] rfl ⟨by show k+1<=_;omega,by simp[hl],hw.app (.cons (by omega) .nil),by show s/4294967296<=1;omega,?_⟩ (by show _-(k+1)<_-k;omega) (by exact⟨by simp[hl];rfl,rfl,rfl,rfl,rfl⟩)
   rw[Xck,hl,<-hsv,W0q,W0r]
   have e2:4294967296^k*s=4294967296^k*(s%4294967296)+4294967296^k*(4294967296*(s/4294967296)):=by rw[<-W0y];congr 1;omega
   simp only[val,W3h,W2o]
   omega
 . have hkn:k=(dig a).length:=by omega
   have hfin:val lo+4294967296^k*cr=x+y:=by rw[hval,W0b (by omega),W0b (by omega),Xaf,Xaf,hs]
   refine By rfl (λh=>?_) λh=>?_
   . refine Go.Vm.Cv cr rfl ?_
     refine ApO ((lo++[cr]).map wd) rfl rfl (by simp[hl]) (by simp;rfl) (by simp;omega) ?_
     refine R1 rfl (.own rfl (by simp) ?_)
     have e:val (lo++[cr])=val lo+4294967296^k*cr:=by rw[Xck,hl];simp[val]
     rw[W1a,W1x,<-hfin,<-e,Xdc (hw.app (.cons (by omega) .nil)) (.inr ⟨cr,by simp,by omega⟩)]
   . have hc0:cr=0:=by omega
     subst hc0
     refine R1 rfl (.own rfl (by simp[hl]) ?_)
     rw[W1a,W0b (by simp[hl]),<-hfin,W3h,W2o,Xdc hw]
     rcases W2u k with hk0 | hk0
     . exact .inl (W0n (by rw[hl];exact hk0))
     . have ha:a≠0:=λhh=>by rw[hh,Xak] at hkn;simp at hkn;omega
       have hlb:=Xm3 ha
       refine Xfi hw (by omega) ?_
       rw[hl,hkn]
       have hab:a<=x+y:=by omega
       rw[<-hkn] at hlb |-
       omega
theorem oa{l:List Nat}{n:Nat}(h:l.length=n): ((l.map wd).drop 0).take n=l.map wd:=by rw[W1a,W0b (by simp[h])]
theorem lw(l:List Nat): (l.map wd).length=l.length:=W0i ..
theorem Xdt{x y:Nat}(hx:(dig x).length<=1099511627776)(hle:y<=x): C0 240 [.d (ws (dig x)),.d (ws (dig y))] (·=.d (ws (dig (x-y)))):=by
 have hll:=Xap hle
 refine En Tryz.func240 λ_ _ _=>?_
 refine Mk (dig x).length rfl (by simp only[lw];omega) ?_ (by simp only[lw])
 refine Lo (λ(k,lo,br)=>[(1,.d (ws (dig y))),(5,.own 12 1 0 (dig x).length),(6,.d (.int .u64 (br:Nat))),(13,.d (ws (dig x))),(14,.d (.int .i64 (dig x).length)),(15,.d (.int .i64 (k:Nat)))]) (λ(_,lo,_)=>[(12,.arr 1 (lo.map wd))])
  (λ(k,lo,br)=>k<=(dig x).length/\lo.length=(dig x).length/\Xan lo/\br<=1/\val (lo.take k)+val ((dig y).take k)+4294967296^k*0=val ((dig x).take k)+4294967296^k*br) (λ(k,_,_)=>(dig x).length-k) (0,List.replicate (dig x).length 0,0) [] rfl
  ⟨by omega,by simp,λ_ h=>by rw[(W6f.1 h).2];omega,by omega,by simp[val]⟩ ?_ (by exact⟨by simp only[lw,ws];rfl,by simp only[W2g];rfl,rfl,rfl,rfl⟩)
 rintro⟨k,lo,br⟩ ⟨hk,hl,hw,hbr,hval⟩
 rw[W3h,W2o] at hval
 refine By rfl (λh=>?_) λh=>?_
 . obtain⟨u,hu⟩:=xat (l:=dig x) (k:=k) (by omega)
   have hub:=ww hu (Xad x)
   refine Ix k rfl (mp hu) ?_
   refine Go.Vm.Cv u rfl ?_
   refine Ar ((u+18446744073709551616-br)%18446744073709551616:Nat) rfl ?_ (by show _=_;rw[wUm];omega)
   refine Cu none (λ(s:Nat)=>[(1,.d (ws (dig y))),(5,.own 12 1 0 (dig x).length),(7,.d (.int .i64 k)),(9,.d (.int .u64 s)),(13,.d (ws (dig x))),(14,.d (.int .i64 (dig x).length)),(15,.d (.int .i64 k))]) (λ_=>[(12,.arr 1 (lo.map wd))])
    (λs=>s<18446744073709551616/\s/9223372036854775808<=1/\∃v,s%4294967296+v+br=u+4294967296*(s/9223372036854775808)/\val ((dig y).take (k+1))=val ((dig y).take k)+4294967296^k*v) rfl ?_ λs ⟨hs,hs2,v,hsv,hyv⟩=>?_
   . refine By rfl (λh2=>?_) λh2=>?_<;>simp only[lw] at h2
     . obtain⟨u2,hu2⟩:=xat (l:=dig y) (k:=k) (by omega)
       have hub2:=ww hu2 (Xad y)
       refine Ix k rfl (mp hu2) ?_
       refine Go.Vm.Cv u2 rfl ?_
       refine Ar ((u+18446744073709551616-br+18446744073709551616-u2)%18446744073709551616:Nat) rfl ?_ (by show _=_;rw[wUm];omega)
       exact Jn ((u+18446744073709551616-br+18446744073709551616-u2)%18446744073709551616) [] rfl ⟨by omega,by omega,u2,by omega,Xac hu2⟩
     . exact Jn ((u+18446744073709551616-br)%18446744073709551616) [] rfl ⟨by omega,by omega,0,by omega,by rw[Xf9 (by omega)];rfl⟩
   refine Go.Vm.Cv (s%4294967296:Nat) rfl ?_ (by rw[wWm];omega)
   refine Eo k rfl (by omega) ?_
   refine Sto rfl (by simp only[lw];omega) ms ?_
   refine Ar (s/9223372036854775808:Nat) rfl ?_ (Xhv (n:=63) (by decide))
   refine Ar (k+1:Nat) rfl ?_
   refine Bk (k+1,lo.set k (s%4294967296),s/9223372036854775808) [] rfl ⟨by omega,by simp[hl],λx hx=>(W5b hx).elim (hw x) λe=>by rw[e];omega,by omega,?_⟩ (by show _-(k+1)<_-k;omega)
   rw[W3h,W2o,Xbb (by omega),hyv,Xac hu,W0q,W0r]
   have e:4294967296^k*(s%4294967296+v+br)=4294967296^k*(u+4294967296*(s/9223372036854775808)):=by rw[hsv]
   simp only[W0y] at e
   omega
 . have hkn:k=(dig x).length:=by omega
   rw[hkn,W0b (by omega),W0b (by omega),W0b (by omega),Xaf,Xaf] at hval
   have hvl:=Xbw hw
   rw[hl] at hvl
   have hbr0:br=0:=by
    rcases W2u br with h0 | h0
    . exact h0
    . have h1:4294967296^(dig x).length*1<=4294967296^(dig x).length*br:=W0p _ h0
      omega
   rw[hbr0,W3h] at hval
   refine Fz 12 5 (lo.map wd) rfl (by simp only[lw];omega) (oa hl) ?_
   refine Ce rfl (Xaz hw (by omega)) ?_
   exact R1 rfl (.eq (by rw[show val lo=x-y by omega]))
theorem Xdz{a:Int}: C0 202 [.d (.int .i64 a)] (·=.b false):=by
 refine En Tryz.func202 λ_ _ _=>?_
 exact R1 rfl (by exact(show dc (a≠a)=false by rw[W2m];intro h;exact Xal.1 h rfl) ▸ .rf rfl)
theorem Xdy{a:Int}: C0 291 [.d (.int .u32 a)] (·=.b false):=by
 refine En Tryz.func291 λ_ _ _=>?_
 exact R1 rfl (by exact(show dc (a≠a)=false by rw[W2m];intro h;exact Xal.1 h rfl) ▸ .rf rfl)
theorem Xc1{a b:Int}: C0 114 [.d (.int .i64 a),.d (.int .i64 b)] (·=.d (.int .i64 (Xa5 a b))):=by
 refine En Tryz.func114 λ_ _ _=>?_
 refine Ce rfl Xdz ?_
 refine Ce rfl Xdz ?_
 refine No rfl nofun ?_
 refine No rfl nofun ?_
 refine By rfl (λh=>?_) λh=>?_
 . exact R1 rfl (.eq (by rw[Xa5,if_pos h]))
 . refine By rfl (λh1=>?_) λh1=>?_
   . exact R1 rfl (.eq (by rw[Xa5,if_neg h,if_pos h1]))
   . exact R1 rfl (.eq (by rw[Xa5,if_neg h,if_neg h1]))
theorem Xf1{a b:Int}: C0 203 [.d (.int .u32 a),.d (.int .u32 b)] (·=.d (.int .i64 (Xa5 a b))):=by
 refine En Tryz.func203 λ_ _ _=>?_
 refine Ce rfl Xdy ?_
 refine Ce rfl Xdy ?_
 refine No rfl nofun ?_
 refine No rfl nofun ?_
 refine By rfl (λh=>?_) λh=>?_
 . exact R1 rfl (.eq (by rw[Xa5,if_pos h]))
 . refine By rfl (λh1=>?_) λh1=>?_
   . exact R1 rfl (.eq (by rw[Xa5,if_neg h,if_pos h1]))
   . exact R1 rfl (.eq (by rw[Xa5,if_neg h,if_neg h1]))
theorem Xby{x y:Nat}(hx:(dig x).length<=1099511627776): C0 115 [.d (ws (dig x)),.d (ws (dig y))] (·=.d (.int .i64 (Xa5 x y))):=by
 refine En Tryz.func115 λ_ _ _=>?_
 refine By rfl (λh=>?_) λh=>?_<;>simp only[lw] at h
 . refine Ce rfl Xc1 ?_
   refine R1 rfl (.eq ?_)
   simp only[lw]
   congr 1
   have hne:(dig x).length≠(dig y).length:=by omega
   rcases W6z hne with hl | hl
   . have:=Xdh hl
     rw[Xa5,Xa5,if_pos (by omega),if_pos (by omega)]
   . have:=Xdh hl
     rw[Xa5,Xa5,if_neg (by omega),if_pos (by omega),if_neg (by omega),if_pos (by omega)]
 . refine Ar ((dig x).length-1:Int) rfl ?_ (wr (by simp only[lw]) (by simp only[inK];omega))
   refine Lo (λ(k:Nat)=>[(0,.d (ws (dig x))),(1,.d (ws (dig y))),(5,.d (.int .i64 ((k:Int)-1)))]) (λ_=>[]) (λk=>k<=(dig x).length/\(dig x).drop k=(dig y).drop k) (λk=>k) (dig x).length [] rfl ⟨by omega,by rw[W1m (by omega),W1m (by omega)]⟩ λk ⟨hk,hd⟩=>?_
   refine By rfl (λh1=>?_) λh1=>?_
   . obtain⟨u,hu⟩:=xat (l:=dig x) (k:=k-1) (by omega)
     obtain⟨v,hv⟩:=xat (l:=dig y) (k:=k-1) (by omega)
     refine Dw rfl ?_
     refine Ix (k-1) rfl (mp hu) ?_
     refine Ix (k-1) rfl (mp hv) ?_
     refine By rfl (λh2=>?_) λh2=>?_
     . refine Dw rfl ?_
       refine Ix (k-1) rfl (mp hu) ?_
       refine Ix (k-1) rfl (mp hv) ?_
       refine Ce rfl Xf1 ?_
       refine R1 rfl (.eq ?_)
       congr 1
       have hne:u≠v:=by omega
       have hd':(dig x).drop (k-1+1)=(dig y).drop (k-1+1):=by rw[show k-1+1=k by omega];exact hd
       rcases W6z hne with hl | hl
       . have:=Xjq (Xad x) (by omega) (by omega) hu hv hd' hl
         rw[Xaf,Xaf] at this
         rw[Xa5,Xa5,if_pos (by omega),if_pos (by omega)]
       . have:=Xjq (Xad y) (by omega) (by omega) hv hu hd'.symm hl
         rw[Xaf,Xaf] at this
         rw[Xa5,Xa5,if_neg (by omega),if_pos (by omega),if_neg (by omega),if_pos (by omega)]
     . refine Ar ((k-1:Nat)-1:Int) rfl ?_
       refine Bk (k-1) [] rfl ⟨by omega,?_⟩ (by show k-1<k;omega)
       have huv:u=v:=by omega
       rw[W3i (l:=dig x) (i:=k-1) (by omega),W3i (l:=dig y) (i:=k-1) (by omega),show k-1+1=k by omega,hd]
       rw[W0a (by omega)] at hu hv
       injection hu with hu
       injection hv with hv
       rw[hu,hv,huv]
   . have hk0:k=0:=by omega
     rw[hk0,W1a,W1a] at hd
     have hxy:x=y:=by rw[<-Xaf x,hd,Xaf]
     exact R1 rfl (.eq (by rw[hxy,Xa5,if_neg (by omega),if_neg (by omega)]))
end
section
theorem Yn4{a b n:Nat}(ha:a<2^n)(hb:b<2^n): (BitVec.ofInt n (a:Int)|||BitVec.ofInt n (b:Int)).toNat=a|||b:=by
 simp[BitVec.toNat_or,BitVec.toNat_ofInt]
 rw[W3y ha,W3y hb]
theorem Ylz{a b r:Nat}(ha:a<4294967296)(hb:b<4294967296)(h:a|||b=r)(hr:r<4294967296): arB .or .u32 a b r:=by
 show IntKind.u32.wrap _=_
 rw[show IntKind.bits .u32=32 from rfl,Yn4 ha hb,h]
 exact wW (by omega)
theorem Ycl{a b r:Nat}(ha:a<18446744073709551616)(hb:b<18446744073709551616)(h:a|||b=r)(hr:r<18446744073709551616): arB .or .u64 a b r:=by
 show IntKind.u64.wrap _=_
 rw[show IntKind.bits .u64=64 from rfl,Yn4 ha hb,h]
 exact wU (by omega)
theorem Xhw{u n r:Nat}(h:u*2^n=r)(hr:r<18446744073709551616)(hn:n<=64): arB .shl .u64 u n r:=⟨by omega,by subst h;exact Yic hr hn⟩
theorem Xbm{l:List Nat}(hl:l.length<=1099511627776): C0 121 [.d (ws l)] (·=.d (ws l)):=by
 refine En Tryz.func121 λ_ _ _=>?_
 refine Ub rfl (λh=>?_) ?_
 . exact R1 rfl (.nil h)
 . by_cases h:l=[]
   . subst h
     refine ApE rfl rfl (by decide) ?_
     exact R1 rfl (.lit rfl)
   . have h0:=W4n.2 h
     refine ApL (l.map wd) rfl rfl (by simpa using h0) (by simpa using hl) ?_
     exact R1 rfl (.own rfl (by simp) (by simp only[W1a];exact W0b (by simp)))
theorem Xki{x y:Nat}(hx:(dig x).length<=549755813888)(hy:(dig y).length<=549755813888): C0 241 [.d (ws (dig x)),.d (ws (dig y))] (·=.d (ws (dig (x*y)))):=by
 have hz:∀ {x:Nat},(dig x).length=0->x=0:=λh=>Xsl.1 (W0n h)
 refine En Tryz.func241 λ_ _ _=>?_
 refine By rfl (λh=>?_) λh=>?_<;>simp only[lw] at h
 . exact R1 rfl (.nil (by rw[hz (by omega:(dig x).length=0),W4x,Xak];rfl))
 refine By rfl (λh=>?_) λh=>?_<;>simp only[lw] at h
 . exact R1 rfl (.nil (by rw[hz (by omega:(dig y).length=0),W3h,Xak];rfl))
 refine Ar ((dig x).length+(dig y).length:Nat) rfl ?_ (wr (by simp only[lw];omega) (by simp only[inK];omega))
 refine Mk ((dig x).length+(dig y).length) rfl (by omega) ?_
 refine Lo (λ(i,lo)=>[(1,.d (ws (dig y))),(5,.own 24 1 0 ((dig x).length+(dig y).length)),(25,.d (ws (dig x))),(26,.d (.int .i64 (dig x).length)),(27,.d (.int .i64 (i:Nat)))]) (λ(_,lo)=>[(24,.arr 1 (lo.map wd))])
  (λ(i,lo)=>i<=(dig x).length/\lo.length=(dig x).length+(dig y).length/\Xan lo/\val (lo.take (i+(dig y).length))=val ((dig x).take i)*y/\∀j,i+(dig y).length<=j->j<(dig x).length+(dig y).length->lo[j]?=some 0) (λ(i,_)=>(dig x).length-i)
  (0,List.replicate ((dig x).length+(dig y).length) 0) [] rfl ⟨by omega,by simp,λ_ h=>by rw[(W6f.1 h).2];omega,by rw[W5h,Xbq];simp[val],λj _ h=>by rw[W5g,if_pos h]⟩ ?_ (by exact⟨by simp only[lw,ws];rfl,by simp only[W2g];rfl,rfl,rfl,rfl⟩)
 rintro⟨i,lo0⟩ ⟨hi,hl0,hw0,hval,hz0⟩
 refine By rfl (λh=>?_) λh=>?_
 . obtain⟨u,hu⟩:=xat (l:=dig x) (k:=i) (by omega)
   have hub:=ww hu (Xad x)
   refine Ix i rfl (mp hu) ?_
   refine Lo (λ(k,lo,cr)=>[(1,.d (ws (dig y))),(5,.own 24 1 0 ((dig x).length+(dig y).length)),(6,.d (.int .i64 i)),(7,.d (.int .u32 u)),(8,.d (.int .u64 (cr:Nat))),(25,.d (ws (dig x))),(26,.d (.int .i64 (dig x).length)),(27,.d (.int .i64 i)),(32,.d (ws (dig y))),(33,.d (.int .i64 (dig y).length)),(34,.d (.int .i64 (k:Nat)))]) (λ(_,lo,_)=>[(24,.arr 1 (lo.map wd))])
    (λ(k,lo,cr)=>k<=(dig y).length/\lo.length=(dig x).length+(dig y).length/\Xan lo/\cr<4294967296/\(∀j,i+k<=j->lo[j]?=lo0[j]?)/\val (lo.take (i+k))+4294967296^(i+k)*cr=val (lo0.take (i+k))+4294967296^i*(u*val ((dig y).take k))) (λ(k,_,_)=>(dig y).length-k)
    (0,lo0,0) [] rfl ⟨by omega,hl0,hw0,by omega,λ_ _=>rfl,by simp[val]⟩ ?_ (by exact⟨by simp only[lw,ws];rfl,rfl,rfl,rfl,rfl⟩)
   rintro⟨k,lo,cr⟩ ⟨hk,hl,hw,hcr,hrest,hval2⟩
   refine By rfl (λh=>?_) λh=>?_
   . obtain⟨v,hv⟩:=xat (l:=dig y) (k:=k) (by omega)
     have hvb:=ww hv (Xad y)
     obtain⟨w,hw1⟩:=xat (l:=lo) (k:=i+k) (by omega)
     have hwb:=ww hw1 hw
     have huv:u*v<=4294967295*4294967295:=W1z (by omega) (by omega)
     refine Ix k rfl (mp hv) ?_
     refine Go.Vm.Cv u rfl ?_
     refine Go.Vm.Cv v rfl ?_
     refine Ar (u*v:Nat) rfl ?_ (wr (W2z ..).symm (by simp only[inK];omega))
     refine Ar (i+k:Nat) rfl ?_
     refine Eo (i+k) rfl (by omega) ?_
     refine Ld (wd w) rfl (mp hw1) ?_
     refine Go.Vm.Cv w rfl ?_
     refine Ar (u*v+w:Nat) rfl ?_
     obtain⟨s,hs⟩:∃s,s=cr+(u*v+w):=⟨_,rfl⟩
     have hs2:s<18446744073709551616:=by omega
     refine Ar (s:Nat) rfl ?_
     refine Ar (i+k:Nat) rfl ?_
     refine Go.Vm.Cv (s%4294967296:Nat) rfl ?_ (by rw[wWm];omega)
     refine Eo (i+k) rfl (by omega) ?_
     refine Sto rfl (by simp only[lw];omega) ms ?_
     refine Ar (s/4294967296:Nat) rfl ?_ (Xhv (n:=32) (by decide))
     refine Ar (k+1:Nat) rfl ?_
     refine Bk (k+1,lo.set (i+k) (s%4294967296),s/4294967296) [] rfl ⟨by omega,by simp[hl],λx hx=>(W5b hx).elim (hw x) λe=>by rw[e];omega,by omega,λj hj=>by rw[W1u (by omega)];exact hrest j (by omega),?_⟩ (by show _-(k+1)<_-k;omega)
     have hw0':lo0[i+k]?=some w:=by rw[<-hrest (i+k) (W0c _)];exact hw1
     rw[<-W4p,Xbb (by omega),Xac hw0',Xac hv,W0q,W0r,W0y u,W0y (4294967296^i)]
     have e:4294967296^(i+k)*s=4294967296^(i+k)*(s%4294967296)+4294967296^(i+k)*(4294967296*(s/4294967296)):=by rw[<-W0y];congr 1;omega
     have e2:4294967296^(i+k)*s=4294967296^(i+k)*cr+4294967296^i*(u*(4294967296^k*v))+4294967296^(i+k)*w:=by
      rw[hs,W0y,W0y,W0z]
      have:4294967296^i*4294967296^k*(u*v)=4294967296^i*(u*(4294967296^k*v)):=by
       rw[W0r,W4c (4294967296^k) u v]
      omega
     omega
   . have hkm:k=(dig y).length:=by omega
     subst hkm
     refine Ar (i+(dig y).length:Nat) rfl ?_ (wr (by simp only[lw];omega) (by simp only[inK];omega))
     refine Go.Vm.Cv cr rfl ?_
     refine Eo (i+(dig y).length) rfl (by omega) ?_
     refine Sto rfl (by simp only[lw];omega) ms ?_
     refine Ar (i+1:Nat) rfl ?_
     refine Bk (i+1,lo.set (i+(dig y).length) cr) [] rfl ⟨by omega,by simp[hl],λx hx=>(W5b hx).elim (hw x) λe=>by rw[e];omega,?_,λj h1 h2=>by rw[W1u (by omega),hrest j (by omega)];exact hz0 j (by omega) h2⟩ (by show _-(i+1)<_-i;omega)
     rw[show i+1+(dig y).length=i+(dig y).length+1 by omega,Xbb (by omega),Xac hu,hval2,hval,W0b (l:=dig y) (by omega),Xaf,W1h,W0r]
 . have him:i=(dig x).length:=by omega
   rw[him,W0b (by omega),W0b (by omega),Xaf] at hval
   refine Fz 17 5 (lo0.map wd) rfl (by simp only[lw];omega) (oa hl0) ?_
   refine Ce rfl (Xaz hw0 (by omega)) ?_
   exact R1 rfl (.eq (by rw[hval]))
end
section
theorem Xgo{l:List Nat}{k d:Nat}(h:Xan l)(hd:d<4294967296): Xan (l.set k d):=λx hx=>(W5b hx).elim (h x) λe=>by rw[e];exact hd
theorem Xfd(n:Nat): Xan (List.replicate n 0):=λ_ h=>by rw[(W6f.1 h).2];omega
theorem Yb1{u n:Nat}(hu:u<4294967296)(hn:n<32): u*2^n<9223372036854775808:=by
 have h1:2^n<=2^31:=W0m (by decide) (by omega)
 have h2:u*2^n<=4294967295*2^31:=W1z (by omega) h1
 omega
theorem Xly{u v n:Nat}(hu:u<4294967296)(hn:n<32): (u/2^n)|||(v*2^(32-n)%4294967296)=u/2^n+(v%2^n)*2^(32-n)/\u/2^n+(v%2^n)*2^(32-n)<4294967296:=by
 have h1:=Xds v (32-n) (by omega)
 rw[show 32-(32-n)=n by omega] at h1
 have hd:u/2^n<2^(32-n):=by
  rw[W2t (W0u n),<-W0z,show 32-n+n=32 by omega]
  exact hu
 rw[h1,Nat.or_comm,Xdg _ _ _ hd,Nat.add_comm]
 refine⟨rfl,?_⟩
 have h2:v%2^n+1<=2^n:=W2d _ (W0u _)
 have h3:=W0v (2^(32-n)) h2
 rw[<-W0z,show n+(32-n)=32 by omega,W3c] at h3
 omega
theorem Xp1{a b u v n m P:Nat}(hn:n<32)(h:a*2^n+b=P+4294967296^m*(u%2^n)):
 (a+4294967296^m*(u/2^n+(v%2^n)*2^(32-n)))*2^n+b=P+4294967296^m*u+4294967296^(m+1)*(v%2^n):=by
 have hB:4294967296^(m+1)=4294967296^m*4294967296:=W0q ..
 have e2:v%2^n*2^(32-n)*2^n=4294967296*(v%2^n):=by
  rw[W0r,<-W0z,show 32-n+n=32 by omega,W1f]
 rw[W1h,W0r (4294967296^m),W1h (u/2^n),e2,hB,W0r (4294967296^m),W0y (4294967296^m)]
 have e:4294967296^m*u=4294967296^m*(u/2^n*2^n)+4294967296^m*(u%2^n):=by
  rw[<-W0y];congr 1;rw[W1f (u/2^n)];exact(W2p ..).symm
 omega
theorem Xgq{n x:Nat}(hx:(dig x).length<=549755813888)(hn32:n<32): CO0 378 [.d (ws (dig x)),.d (.int .i64 n)] λv ob=>∃l,l.length=(dig x).length+1/\Xan l/\val l=x*2^n/\v=.own 1000000 1 0 l.length/\ob=.arr 1 (l.map wd):=by
 have hp:=W0u n
 have hp32:2^n<=2147483648:=by have:2^n<=2^31:=W0m (by decide) (by omega);omega
 refine EnW Tryz.func378 λ_ _ _ _=>?_
 refine Ar ((dig x).length+1:Nat) rfl ?_ (wr (by simp only[lw];omega) (by simp only[inK];omega))
 refine Mk ((dig x).length+1) rfl (by omega) ?_
 refine Lo (λ(i,lo)=>[(1,.d (.int .i64 n)),(5,.own 12 1 0 ((dig x).length+1)),(13,.d (ws (dig x))),(14,.d (.int .i64 (dig x).length)),(15,.d (.int .i64 (i:Nat)))]) (λ(_,lo)=>[(12,.arr 1 (lo.map wd))])
  (λ(i,lo)=>i<=(dig x).length/\lo.length=(dig x).length+1/\Xan lo/\val (lo.take (i+1))=val ((dig x).take i)*2^n/\∃w,lo[i]?=some w/\w<2^n) (λ(i,_)=>(dig x).length-i) (0,List.replicate ((dig x).length+1) 0) [] rfl
  ⟨by omega,by simp,Xfd _,by rw[W5h,Xbq];simp[val],0,by simp,hp⟩ ?_ (by exact⟨by simp only[lw,ws];rfl,by simp only[W2g];rfl,rfl,rfl,rfl⟩)
 rintro⟨i,lo⟩ ⟨hi,hl,hwo,hval,w,hw,hwn⟩
 refine By rfl (λh=>?_) λh=>?_
 . obtain⟨u,hu⟩:=xat (l:=dig x) (k:=i) (by omega)
   have hub:=ww hu (Xad x)
   have hs1:=Yb1 hub hn32
   have hs2:=Xds u n (by omega)
   obtain⟨s,hs⟩:∃s,s=u*2^n:=⟨_,rfl⟩
   have hshl:=Xhw hs.symm (by omega) (by omega:n<=64)
   rw[<-hs] at hs1 hs2
   have hor:w|||s%4294967296=s%4294967296+w:=by rw[Nat.or_comm,hs2];exact Xdg _ _ _ hwn
   have hlt:s%4294967296+w<4294967296:=by
    rw[hs2]
    have h1:u%2^(32-n)+1<=2^(32-n):=W2d _ (W0u _)
    have h2:=W0v (2^n) h1
    rw[<-W0z,show 32-n+n=32 by omega,W3c] at h2
    omega
   refine Ix i rfl (mp hu) ?_
   refine Go.Vm.Cv u rfl ?_
   refine Ar s rfl ?_ hshl
   refine Eo i rfl (by omega) ?_
   refine Ld (wd w) rfl (mp hw) ?_
   refine Go.Vm.Cv (s%4294967296:Nat) rfl ?_ (by rw[wWm];omega)
   refine Ar (s%4294967296+w:Nat) rfl ?_ (Ylz (by omega) (by omega) hor hlt)
   refine Eo i rfl (by omega) ?_
   refine Sto rfl (by simp only[lw];omega) ms ?_
   refine Ar (i+1:Nat) rfl ?_
   refine Ar (s/4294967296:Nat) rfl ?_ (Xhv (n:=32) (by decide))
   refine Go.Vm.Cv (s/4294967296:Nat) rfl ?_
   refine Eo (i+1) rfl (by omega) ?_
   refine Sto rfl (by simp only[W0i,W3q];omega) ms ?_
   refine Ar (i+1:Nat) rfl ?_
   refine Bk (i+1,(lo.set i (s%4294967296+w)).set (i+1) (s/4294967296)) [] rfl ⟨by omega,by simp[hl],Xgo (Xgo hwo hlt) (by omega),?_,s/4294967296,by rw[W2l (by rw[W3q];omega)],?_⟩ (by show _-(i+1)<_-i;omega)
   . rw[Xbb (by rw[W3q];omega),Xbb (by omega),Xac hu,W1h,<-hval,Xac hw,W0r,<-hs,W0q,W0y,W0r]
     have e:4294967296^i*s=4294967296^i*(s%4294967296)+4294967296^i*(4294967296*(s/4294967296)):=by rw[<-W0y];congr 1;omega
     omega
   . rw[W2t (by decide),hs,W1f]
     exact Nat.mul_lt_mul_of_pos_left hub hp
 . have him:i=(dig x).length:=by omega
   rw[him,W0b (by omega),W0b (by omega),Xaf] at hval
   exact Rw [(12,1000000)] [(1000000,.arr 1 (lo.map wd))] rfl (.one (.rf rfl) rfl rfl) ⟨_,rfl,lo,hl,hwo,hval,by rw[hl];rfl,rfl⟩
theorem Xfl{n:Nat}{l:List Nat}(hw:Xan l)(hx:l.length<=549755813888)(hn32:n<32): C0 381 [.d (ws l),.d (.int .i64 n)] λv=>∃l',val l'=val l/2^n/\Xan l'/\l'.length=l.length/\v=.d (ws l'):=by
 have hp:=W0u n
 have hp32:2^n<=2147483648:=by have:2^n<=2^31:=W0m (by decide) (by omega);omega
 refine En Tryz.func381 λ_ _ _=>?_
 refine Mk l.length rfl (by simp only[lw];omega) ?_ (by simp only[lw])
 refine Lo (λ(i,lo)=>[(0,.d (ws l)),(1,.d (.int .i64 n)),(5,.own 10 1 0 l.length),(11,.d (ws l)),(12,.d (.int .i64 l.length)),(13,.d (.int .i64 (i:Nat)))]) (λ(_,lo)=>[(10,.arr 1 (lo.map wd))])
  (λ(i,lo)=>i<=l.length/\lo.length=l.length/\Xan lo/\val (lo.take i)*2^n+val l%2^n=val (l.take i)+4294967296^i*(l.getD i 0%2^n)) (λ(i,_)=>l.length-i) (0,List.replicate l.length 0) [] rfl
  ⟨by omega,by simp,Xfd _,by simp[val,Xhl l n (by omega)]⟩ ?_ (by exact⟨by simp only[lw,ws];rfl,by simp only[W2g];rfl,rfl,rfl,rfl⟩)
 rintro⟨i,lo⟩ ⟨hi,hl,hwo,hval⟩
 refine By rfl (λh=>?_) λh=>?_
 . obtain⟨u,hu⟩:=xat (l:=l) (k:=i) (by omega)
   have hub:=ww hu hw
   have hdu:u/2^n<4294967296:=W1y (W4h ..) hub
   have hgu:l.getD i 0=u:=by rw[W2x,hu];rfl
   rw[hgu] at hval
   refine Ix i rfl (mp hu) ?_
   refine Ar (u/2^n:Nat) rfl ?_ (Xhv (show n<=32 by omega))
   refine Eo i rfl (by omega) ?_
   refine Sto rfl (by simp only[lw];omega) ms ?_
   refine Ar (i+1:Nat) rfl ?_
   refine Cu none (λlo':List Nat=>[(0,.d (ws l)),(1,.d (.int .i64 n)),(5,.own 10 1 0 l.length),(11,.d (ws l)),(12,.d (.int .i64 l.length)),(13,.d (.int .i64 i))]) (λlo'=>[(10,.arr 1 (lo'.map wd))])
    (λlo'=>∃v,l.getD (i+1) 0=v/\lo'=lo.set i (u/2^n+(v%2^n)*2^(32-n))/\u/2^n+(v%2^n)*2^(32-n)<4294967296) rfl ?_ ?_
   . refine By rfl (λh2=>?_) λh2=>?_<;>simp only[lw] at h2
     . obtain⟨v,hv⟩:=xat (l:=l) (k:=i+1) (by omega)
       have hvb:=ww hv hw
       have hsd:=Xly (v:=v) hub hn32
       have hv64:v*2^(32-n)<18446744073709551616:=by
        have h1:2^(32-n)<=2^32:=W0m (by decide) (by omega)
        have h2:v*2^(32-n)<=4294967295*2^32:=W1z (by omega) h1
        omega
       obtain⟨s,hs⟩:∃s,s=v*2^(32-n):=⟨_,rfl⟩
       have hshl:=Xhw hs.symm (by omega) (by omega:32-n<=64)
       rw[<-hs] at hsd hv64
       refine Dw rfl ?_
       refine Eo i rfl (by omega) ?_
       refine Ld (wd (u/2^n)) rfl (mp (W2l (by omega))) ?_
       refine Ar (i+1:Nat) rfl ?_
       refine Ix (i+1) rfl (mp hv) ?_
       refine Go.Vm.Cv v rfl ?_
       refine Ar (32-n:Nat) rfl ?_
       refine Ar s rfl ?_ hshl
       refine Go.Vm.Cv (s%4294967296:Nat) rfl ?_ (by rw[wWm];omega)
       refine Ar (u/2^n+(v%2^n)*2^(32-n):Nat) rfl ?_ (Ylz hdu (by omega) hsd.1 hsd.2)
       refine Eo i rfl (by omega) ?_
       refine Sto rfl (by simp only[W0i,W3q];omega) ms ?_
       exact Jn (lo.set i (u/2^n+(v%2^n)*2^(32-n))) [] rfl ⟨v,by rw[W2x,hv];rfl,rfl,hsd.2⟩ (by exact⟨rfl,by rw[List.set_set];rfl,rfl,rfl,rfl⟩)
     . exact Jn (lo.set i (u/2^n)) [] rfl ⟨0,by rw[W2x,W2e (by omega)];rfl,by simp,by simp;exact hdu⟩
   rintro lo' ⟨v,hv,rfl,hlt⟩
   refine Ar (i+1:Nat) rfl ?_
   refine Bk (i+1,lo.set i (u/2^n+(v%2^n)*2^(32-n))) [] rfl ⟨by omega,by simp[hl],Xgo hwo hlt,?_⟩ (by show _-(i+1)<_-i;omega)
   rw[Xbb (by omega),Xac hu,hv]
   exact Xp1 hn32 hval
 . have him:i=l.length:=by omega
   rw[him,W0b (by omega),W0b (by omega),W2x,W2e (by omega)] at hval
   refine Rt rfl (.one (.own rfl (by simp only[lw];omega) (oa hl)) rfl rfl) ⟨lo,?_,hwo,hl,rfl⟩
   simp at hval
   have:=W2p (val l) (2^n)
   rw[W1f] at this
   exact Nat.eq_of_mul_eq_mul_right hp (by omega)
theorem Xle{x y:Nat}(hx:(dig x).length<=549755813888)(hy:y<4294967296)(hy0:y≠0): C0 376 [.d (ws (dig x)),.d (.int .u32 y)] (·=.tup (.pr (.d (ws (dig (x/y)))) (.d (ws (dig (x%y)))))):=by
 refine En Tryz.func376 λ_ _ _=>?_
 refine Mk (dig x).length rfl (by simp only[lw];omega) ?_ (by simp only[lw])
 refine Ar ((dig x).length-1:Int) rfl ?_ (wr (by simp only[lw]) (by simp only[inK];omega))
 refine Lo (λ(k,lo,r)=>[(0,.d (ws (dig x))),(1,.d (.int .u32 y)),(6,.own 11 1 0 (dig x).length),(7,.d (.int .u64 (r:Nat))),(8,.d (.int .i64 ((k:Nat)-1:Int)))]) (λ(_,lo,_)=>[(11,.arr 1 (lo.map wd))])
  (λ(k,lo,r)=>k<=(dig x).length/\lo.length=(dig x).length/\Xan lo/\r<y/\val (lo.drop k)*y+r=val ((dig x).drop k)) (λ(k,_,_)=>k) ((dig x).length,List.replicate (dig x).length 0,0) [] rfl
  ⟨by omega,by simp,Xfd _,by omega,by rw[W1m (by simp),W1m (by omega)];simp[val]⟩ ?_ (by exact⟨rfl,by simp only[W2g];rfl,rfl,rfl,rfl⟩)
 rintro⟨k,lo,r⟩ ⟨hk,hl,hwo,hr,hval⟩
 refine By rfl (λh=>?_) λh=>?_
 . obtain⟨u,hu⟩:=xat (l:=dig x) (k:=k-1) (by omega)
   have hub:=ww hu (Xad x)
   obtain⟨s,hs⟩:∃s,s=r*2^32+u:=⟨_,rfl⟩
   have hs64:s<18446744073709551616:=by omega
   have hsy:s/y<4294967296:=by
    rw[W2t (by omega)]
    have:=W0v 4294967296 (show r+1<=y by omega)
    omega
   have hsm:s%y<y:=W2d _ (by omega)
   have hq0:0<=s/y:=W0x _
   refine Ar (r*2^32:Nat) rfl ?_ (Xhw (n:=32) rfl (by omega) (by decide))
   refine Ix (k-1) rfl (mp hu) ?_
   refine Go.Vm.Cv u rfl ?_
   refine Ar s rfl ?_ (Ycl (by omega) (by omega) (by rw[Xdg u r 32 (by omega),<-hs]) hs64)
   refine Go.Vm.Cv y rfl ?_
   refine Ar (s/y:Nat) rfl ?_ (show _/\_ from⟨by omega,Ydv s y hs64⟩)
   refine Go.Vm.Cv (s/y:Nat) rfl ?_ (wW ⟨W5j _,W7b.2 hsy⟩)
   refine Eo (k-1) rfl (by omega) ?_
   refine Sto rfl (by simp only[lw];omega) ms ?_
   refine Go.Vm.Cv y rfl ?_
   refine Ar (s%y:Nat) rfl ?_ (show _/\_ from⟨by omega,Xte s y⟩)
   refine Ar ((k-1:Nat)-1:Int) rfl ?_
   refine Bk (k-1,lo.set (k-1) (s/y),s%y) [] rfl ⟨by omega,by simp[hl],Xgo hwo hsy,hsm,?_⟩ (by show k-1<k;omega)
   rw[Xbr hu,show k-1+1=k by omega,<-hval,drop_set (by omega),val,show k-1+1=k by omega]
   have e:=W2p s y
   rw[W1f] at e
   rw[W1h,W0y,W0r]
   omega
 . have hk0:k=0:=by omega
   subst hk0
   rw[W1a,W1a,Xaf] at hval
   have hq:x/y=val lo:=by rw[<-hval,W1f,Nat.mul_add_div (by omega),W5i hr,W2o]
   have hm:x%y=r:=by rw[<-hval,W1f,Nat.mul_add_mod,W3y hr]
   refine Fz 9 6 (lo.map wd) rfl (by simp only[lw];omega) (oa hl) ?_
   refine Ce rfl (Xaz hwo (by omega)) ?_
   refine Ce rfl (Xb6 (n:=r) (by omega)) ?_
   subst hm
   exact RTt rfl (.cons (.eq (by rw[hq])) (.one (.rf rfl) (λ_ _ e=>by cases e) (λ_ _ e=>by cases e)))
theorem Xr1{x:Nat}(hx:x<4294967296): C0 418 [.d (.int .u32 x)] (·=.d (.int .i64 (bl x))):=by
 refine En Tryz.func418 λ_ _ _=>?_
 refine Cu none (λ((x1,n1):Nat×Nat)=>[(0,.d (.int .u32 x1)),(2,.d (.int .i64 n1))]) (λ_=>[]) (λ(x1,n1)=>x1<65536/\bl x=bl x1+n1/\n1<=16) rfl ?_ λ⟨x1,n1⟩ ⟨hx1,hb1,hn1⟩=>?_
 . refine By rfl (λh=>?_) λh=>?_
   . refine Ar (x/2^16:Nat) rfl ?_ (Xhv (n:=16) (by decide))
     exact Jn (x/2^16,16) [] rfl ⟨by omega,Xeq (by omega),W0c _⟩
   . exact Jn (x,0) [] rfl ⟨by omega,rfl,by omega⟩
 refine Cu none (λ((x1,n1):Nat×Nat)=>[(0,.d (.int .u32 x1)),(2,.d (.int .i64 n1))]) (λ_=>[]) (λ(x1,n1)=>x1<256/\bl x=bl x1+n1/\n1<=24) rfl ?_ λ⟨x2,n2⟩ ⟨hx2,hb2,hn2⟩=>?_
 . refine By rfl (λh=>?_) λh=>?_
   . refine Ar (x1/2^8:Nat) rfl ?_ (Xhv (n:=8) (by decide))
     refine Ar (n1+8:Nat) rfl ?_
     exact Jn (x1/2^8,n1+8) [] rfl ⟨by omega,by rw[hb1,Xeq (n:=x1) (k:=8) (by omega)];omega,by omega⟩
   . exact Jn (x1,n1) [] rfl ⟨by omega,hb1,by omega⟩
 have hbl:bl x2<256:=W0s (Yc8 (p:=λj=>bl j<10) (by decide +kernel) x2 hx2) (by decide)
 refine Go.Vm.Cv x2 rfl ?_
 refine Yx x2 (UInt8.ofNat (bl x2)) rfl (by revert hx2;generalize x2=j;revert j;decide +kernel) ?_
 refine Go.Vm.Cv (bl x2:Nat) rfl ?_ ((wI ⟨by omega,by rw[Xyp hbl];omega⟩).trans (Xyp hbl))
 refine Ar (bl x:Nat) rfl ?_
 exact R0
theorem Xgn{x:Nat}(hx:x<4294967296)(h0:x≠0): C0 377 [.d (.int .u32 x)] λv=>∃n:Nat,v=.d (.int .i64 n)/\n<32/\2147483648<=x*2^n/\x*2^n<4294967296:=by
 obtain⟨b1,b2,b3⟩:=Xcg h0
 have hb32:bl x<=32:=by
  have:2^(bl x-1)<2^32:=W1y b1 hx
  have:=(W2w (by decide:1<2)).1 this
  omega
 refine En Tryz.func377 λ_ _ _=>?_
 refine Ce rfl (Xr1 hx) ?_
 refine Ar (32-bl x:Nat) rfl ?_
 refine Rt rfl (.one (.rf rfl) rfl rfl) ⟨32-bl x,rfl,by omega,?_,?_⟩
 . have h1:=W0v (2^(32-bl x)) b1
   rw[<-W0z,show bl x-1+(32-bl x)=31 by omega] at h1
   exact h1
 . have h1:=W3k b2 (W0u (32-bl x))
   rw[<-W0z,show bl x+(32-bl x)=32 by omega] at h1
   exact h1
end
section
open Go.RowKit Go.Shelf
attribute [local go_sem] Oper.semAt_some
abbrev Wd:={ x:Nat // x<4294967296 }
def bk(zs:List Wd)(k:Nat): List (Nat×Wd):=(List.range k).map λj=>(zs.length-1-j,zs[zs.length-1-j]?.getD ⟨0,by decide⟩)
theorem Ygk(zs:List Wd)(k:Nat): bk zs (k+1)=bk zs k++[(zs.length-1-k,zs[zs.length-1-k]?.getD ⟨0,by decide⟩)]:=by simp[bk,W7u]
theorem Xxq(zs:List Wd)(k:Nat): (bk zs k).length=k:=by simp[bk]
structure Kq (n₀ Bs:Nat) (A B:World):Prop where
 a:Below n₀ A B
 b:B.heap[Bs]?=A.heap[Bs]?
theorem Kq.refl(n₀ Bs:Nat)(A:World): Kq n₀ Bs A A:=⟨Below.refl _ _,rfl⟩
theorem Kq.trans{n₀ Bs:Nat}{A B C:World}(h:Kq n₀ Bs A B)(k:Kq n₀ Bs B C): Kq n₀ Bs A C:=⟨h.a.trans k.a,k.b.trans h.b⟩
set_option maxRecDepth 100000 in
set_option maxHeartbeats 2000000 in
theorem Ya2(F:Fence)(n:Nat)(h8:F.fn 268)(hro:F.round=none)(hn:1<=n)(l Bs n₀ b off cap:Nat)(zs:List Wd)(hreach:zs.length*4<=140737488351232)(hb:b<n₀)(J Jx:List (Nat×Wd)->World->Prop)
 (hY:∀pre x W,J pre W->pre.length<zs.length->YieldAt F (n-1) Tryz.prog l #[.int .i64 (x.1:Int),.int .u32 (x.2.1:Int)] W λe W' =>
  (e=.returned (.bool true)/\J (pre++[x]) W'/\Kq n₀ Bs W W')\/(e=.returned (.bool false)/\Jx (pre++[x]) W'))
 (W:World) (hBs:W.cell? ⟨Bs,0,none⟩=some (.slice (some ⟨b,off,none⟩) zs.length cap)) (hc:∀j,j<zs.length->W.cell? ⟨b,off+j,none⟩=some (.int .u32 ((zs[j]?.getD ⟨0,by decide⟩).1:Int))) (h0:J [] W) :
 CallsIn F n Tryz.prog 268 #[.func (.yield l) #[] #[],.pointer (some ⟨Bs,0,none⟩)] W λe W'=>(∃v,e=.returned v) /\
  ((∃ys,ys=bk zs zs.length/\J ys W')\/(∃pre,True/\Jx pre W')):=by
 refine callsIn_of_wp Tryz.func268 rfl h8 ?_ hro
 simp only[Tryz.ntmps268,W6j,W0k,W3l,Nat.reduceAdd,Nat.reduceSub,W5u,W5v,W6k,W6b,W4g,W3r]
 gi_wp2
 gi_loopw [3] (λi wr=>∃k:Nat,k<=zs.length/\i=.int .i64 ((zs.length:Int)-1-k)/\J (bk zs k) wr/\Kq n₀ Bs W wr)
  (λi _=>(intOf i+1).toNat)
 case atStart=>exact⟨0,W0x _,by simp,h0,Kq.refl _ _ _⟩
 case round =>
  obtain⟨k,hk,rfl,hJs,hnx⟩:=hrel
  have hBs':=(World.cell?_of_block hnx.b).trans hBs
  by_cases hlt:k<zs.length
  . obtain⟨q,hq⟩:∃q,q+(k+1)=zs.length:=⟨zs.length-1-k,by omega⟩
    have hqi:((zs.length:Int)-1-k)=(q:Int):=by omega
    have hcx:=(hnx.a.cell (p:=⟨b,off+q,none⟩) hb).trans (hc q (by omega))
    obtain⟨fn,tmps,assign,body,hy,hR⟩:=hY _ (q,zs[q]?.getD ⟨0,by decide⟩) wr hJs (by rw[Xxq];exact hlt)
    dsimp only at hy
    rw[hqi]
    gi_wp2
    refine hR.mono ?_
    rintro e W3 (⟨rfl,hJ3,hk3⟩ | ⟨rfl,hJx3⟩)
    . gi_wp2
      go_roundw
      case rel=>exact⟨k+1,by omega,by congr 1;omega,by rw[Ygk,show zs.length-1-k=q by omega];exact hJ3,hnx.trans hk3⟩
      case measure=>simp[intOf]
    . gi_wp2
      refine bodyPost_ret (results_none rfl _ _ _) rfl ?_
      exact⟨⟨_,rfl⟩,.inr ⟨_,trivial,hJx3⟩⟩
  . obtain rfl:k=zs.length:=by omega
    rw[show ((zs.length:Int)-1-(zs.length:Int))=-1 by omega]
    gi_wp2
    go_end0
    exact⟨⟨_,rfl⟩,.inl ⟨_,rfl,hJs⟩⟩
set_option maxRecDepth 100000 in
set_option maxHeartbeats 1000000 in
theorem Xnf(F:Fence)(n:Nat)(h8:F.fn 268)(hro:F.round=none)(l Bs:Nat)(J:List (Nat×Wd)->World->Prop)(W:World){p:Option Addr}{c:Nat}(hBs:W.cell? ⟨Bs,0,none⟩=some (.slice p 0 c))(h0:J [] W):
 CallsIn F n Tryz.prog 268 #[.func (.yield l) #[] #[],.pointer (some ⟨Bs,0,none⟩)] W λe W'=>(∃v,e=.returned v)/\J [] W':=by
 refine callsIn_of_wp Tryz.func268 rfl h8 ?_ hro
 simp only[Tryz.ntmps268,W6j,W0k,W3l,Nat.reduceAdd,Nat.reduceSub,W5u,W5v,W6k,W6b,W4g,W3r]
 gi_wp2
 gi_loopw [3] (λi wr=>i=.int .i64 (-1)/\J [] wr) (λ_ _=>0)
 case atStart=>exact⟨rfl,h0⟩
 case round =>
  obtain⟨rfl,hJs⟩:=hrel
  gi_wp2
  go_end0
  exact⟨⟨_,rfl⟩,hJs⟩
set_option maxHeartbeats 1000000 in
theorem Xo1(F:Fence)(n:Nat)(h6:F.fn 184)(hro:F.round=none)(a:Option Addr)(len cap:Nat)(w:World):
 CallsIn F n Tryz.prog 184 #[.slice a len cap] w λe w'=>e=.returned (.func (.func 268) #[] #[.pointer (some ⟨w.heap.size,0,none⟩)])/\w'=w.alloc (.cells #[.slice a len cap] 49):=by
 refine callsIn_of_wp Tryz.func184 rfl h6 ?_ hro
 simp only[Tryz.ntmps184,W6j,W0k,W3l,Nat.reduceAdd,Nat.reduceSub,W5u,W5v,W6k,W6b,W4g,W3r]
 gi_wp2
 go_ret
 exact⟨rfl,rfl⟩
theorem Xsq(F:Fence)(n:Nat)(h8:F.fn 268)(hro:F.round=none)(hn:1<=n)(Bs n₀:Nat)(p:Option Addr)(cap:Nat)(zs:List Wd)(hreach:zs.length*4<=140737488351232)(w:World)(hBs:Bs<w.heap.size)(hn₀:n₀<=w.heap.size)
 (hc:w.cell? ⟨Bs,0,none⟩=some (.slice p zs.length cap)) (hI:zs=[]\/∃b off,p=some ⟨b,off,none⟩/\b<n₀/\∀j,j<zs.length->w.cell? ⟨b,off+j,none⟩=some (.int .u32 ((zs[j]?.getD ⟨0,by decide⟩).1:Int))) :
 SeqStopsK F n Tryz.prog 268 #[.pointer (some ⟨Bs,0,none⟩)] (λx:Nat×Wd=>#[Value.int .i64 (x.1:Int),Value.int .u32 (x.2.1:Int)]) (Kq n₀ Bs) (λys=>ys=bk zs zs.length)
  (λ_=>True) zs.length w:=λl J Jx W hW _ _ hY h0=>by
 have hc':=(hW.cell (p:=⟨Bs,0,none⟩) hBs).trans hc
 rcases hI with rfl | ⟨b,off,rfl,hb,hcs⟩
 . exact(Xnf F n h8 hro l Bs J W hc' h0).mono λe W' ⟨he,hj⟩=>⟨he,.inl ⟨_,rfl,hj⟩⟩
 . exact Ya2 F n h8 hro hn l Bs n₀ b off cap zs hreach hb J Jx hY W hc' (λj hj=>(hW.cell (p:=⟨b,off+j,none⟩) (W0s hb hn₀)).trans (hcs j hj)) h0
def acc: List (Nat×Wd)->Nat:=List.foldl (λa x=>(a*4294967296)%18446744073709551616+x.2.1) 0
theorem Ya7(pre:List (Nat×Wd))(x:Nat×Wd): acc (pre++[x])=(acc pre*4294967296)%18446744073709551616+x.2.1:=by simp[acc]
theorem Ygl{p q:Nat}(hp:p<18446744073709551616)(hq:q<18446744073709551616): bits .or .u64 (p:Int) (q:Int)=IntKind.u64.wrap ((p|||q:Nat):Int):=by
 show IntKind.u64.wrap _=_
 congr 2
 exact Yn4 hp hq
theorem Ylg{a x:Nat}(hx:x<4294967296): bits .or .u64 (IntKind.u64.wrap ((a:Int)*4294967296)) (IntKind.u64.wrap (x:Int))=(((a*4294967296)%18446744073709551616+x:Nat):Int):=by
 have e1:IntKind.u64.wrap ((a:Int)*4294967296)=(((a*4294967296)%18446744073709551616:Nat):Int):=(wUm _).trans (by omega)
 have e2:a*4294967296%18446744073709551616=(a%4294967296)*2^32:=by omega
 rw[e1,wU (x:=(x:Int)) (by omega),Ygl (by omega) (by omega),e2,Xdg x (a%4294967296) 32 (by omega),wU (by omega)]
theorem Xvq{n₀ Bs N:Nat}(W:World)(l:Nat)(o:Obj)(hl:N<=l)(hn:n₀<=N)(hB:Bs<N)(h:W.heap[l]?=some o)(o':Obj): Kq n₀ Bs W (W.putObj l o') :=
 ⟨(Below.refl n₀ W).grown (grownBy_putObj' W l o') (by have:=(W3t.1 h).1;omega) (λk e=>by cases e;omega),World.putObj_heap_other (by omega)⟩
set_option maxRecDepth 100000 in
set_option maxHeartbeats 2000000 in
theorem Xtf(F:Fence)(n:Nat)(h3:F.fn 332)(h5:F.fn 184)(h7:F.fn 268)(hro:F.round=none)(hn:3<=n)(p:Option Addr)(cap:Nat)(zs:List Wd)(hreach:zs.length*4<=140737488351232)(w:World)
 (hI:zs=[]\/∃b off,p=some ⟨b,off,none⟩/\b<w.heap.size/\∀j,j<zs.length->w.cell? ⟨b,off+j,none⟩=some (.int .u32 ((zs[j]?.getD ⟨0,by decide⟩).1:Int))) :
 CallsIn F n Tryz.prog 332 #[.slice p zs.length cap] w λe W'=>e=.returned (.int .u64 (acc (bk zs zs.length):Int))/\Below w.heap.size w W':=by
 have h1:1<=n:=by omega
 refine callsIn_of_wp_marks Tryz.func332 rfl h3 ?_ hro
 simp only[Tryz.ntmps332,W6j,W0k,W3l,Nat.reduceAdd,Nat.reduceSub,W5u,W5v,W6k,W6b,W4g,W3r]
 gi_wp2_with (gi_at_call 184;refine(Xo1 F (n-1) h5 hro _ _ _ _).mono ?_;rintro e w' ⟨rfl,rfl⟩)
 have bS:=Boxed.new w 180 (.int .u64 0)
 have bN:=Boxed.new (w.alloc (.cells #[.int .u64 0] 180)) 49 (.slice p zs.length cap)
 rw[World.size_alloc] at bN
 have hB0:Below w.heap.size w ((w.alloc (.cells #[.int .u64 0] 180)).alloc (.cells #[.slice p zs.length cap] 49)):=((Below.refl _ w).alloc (W0c _) _).alloc (by simp) _
 refine wpIn_rangeFunc_ownG hro h1 (gf:=268) (lb:=#[.pointer (some ⟨w.heap.size+1,0,none⟩)]) rfl h7 (enters_of Tryz.func268 (by kernel_rfl) rfl)
  (Xsq F (n-1) h7 hro (by omega) (w.heap.size+1) w.heap.size p cap zs hreach _ (by simp) (by simp;omega) bN.cell (hI.imp_right λ⟨b,off,h1,h2,h3⟩=>⟨b,off,h1,h2,λj hj=>(hB0.cell (p:=⟨b,off+j,none⟩) h2).trans (h3 j hj)⟩)) Kq.trans (λW l o o' hl h _ _=>Xvq W l o hl (by simp;omega) (by simp) h o') (Below.refl _ _) (λ_=>rfl)
  (λpre W=>(W.cell? ⟨w.heap.size,0,none⟩=some (.int .u64 (acc pre:Int))/\W.frozen? ⟨w.heap.size,0,none⟩=false)/\Below w.heap.size w W)
  (λ_ _ _=>False)
  (OwnFrom.and (Own.from (λs A B row hs hg hr=>⟨cell_kept hs.1 hg hr,(frozen_kept hs.1 hg hr).trans hs.2⟩) _) (ownFrom_below (W0c _) (by simp;omega)))
  (λ_ _ _ _ _ hs _ _=>hs)
  ⟨⟨(bS.alloc _).cell,(bS.alloc _).frozen⟩,hB0⟩
  (λx=>{ tmps:=#[.slice p zs.length cap,undef,.int .u64 0,.pointer (some ⟨w.heap.size,0,none⟩),undef,.int .u32 (x.2.1:Int),.slice p zs.length cap,.func (.func 268) #[] #[.pointer (some ⟨w.heap.size+1,0,none⟩)],.int .i64 (x.1:Int),.int .u32 (x.2.1:Int),undef,undef,undef,undef,undef,undef],defers:=[] }) ?assign ?body ?done ?stop
 case assign =>
  intro l x W K hK
  gi_wp2
  exact hK
 case body =>
  rintro l pre x W ⟨⟨hc,hf⟩,hB⟩ _
  gi_wp2
  rw[Ylg x.2.2,<-Ya7]
  exact⟨(KeepsOthers.setCell _ _ _).from _,⟨(Below.refl w.heap.size W).setCell (p:=⟨w.heap.size,0,none⟩) (W0c _) _,Below.heap_setCell _ _ _ _ (by simp)⟩,⟨World.cell?_setCell_same' _ _ _ (by rw[hc];rfl),by rw[World.frozen?_setCell];exact hf⟩,hB.setCell (p:=⟨w.heap.size,0,none⟩) (W0c _) _⟩
 case done =>
  rintro D ys W hD rfl ⟨⟨hc,_⟩,hB⟩ hK
  gi_wp2
  refine⟨by simp,.inl ⟨_,_,rfl,run_takeDeferred hK,?_⟩⟩
  exact⟨_,results_tmp rfl _ _ _,rfl,hB.trans (belowK_b (w:=w) (W0c _) W D _ _ (by simp at hD;omega) hK rfl rfl)⟩
 case stop =>
  rintro D c pre W _ _ h _
  exact h.elim
theorem wds{l:List Nat}(h:Xan l): ∃zs:List Wd,zs.map (·.1)=l :=
 by
 induction l with
 | nil=>exact⟨[],rfl⟩
 | cons a l ih =>
  obtain⟨zs,hz⟩:=ih λx hx=>h x (W1e _ hx)
  exact⟨⟨a,h a (W0w ..)⟩::zs,by rw[W3s,hz]⟩
theorem Ygu{zs:List Wd}{x:Nat}(h:zs.map (·.1)=dig x)(hx:x<18446744073709551616): acc (bk zs zs.length)=x:=by
 have hl:(dig x).length<=2:=Xaq (by omega)
 have hv:=Xaf x
 rw[<-h] at hl hv
 match zs,hl with
 | [],_=>simpa [bk,acc,val] using hv
 | [a],_ =>
  have ha:=a.2
  simp[val] at hv
  simp[bk,acc,W7u]
  omega
 | [a,b],_ =>
  have ha:=a.2
  have hb:=b.2
  simp[val] at hv
  simp[bk,acc,W7u]
  omega
theorem Xhc{W:Vm.GW}{w':World}(h:Below W.w.heap.size W.w w'): ∃W':Vm.GW,W'.w=w'/\Vm.Fm W W' (λ_=>False) :=
 ⟨⟨w', W.A, λb i k => W0s (W.hA b i k) h.size⟩, rfl,
   { os := h.os, out := h.output, tape := h.tape, size := h.size, same := λb hb _ => h.block b hb, A := λ_ _ _ _ => W4a
     le:=λb i v hv=>⟨by
      have hb:b<W.w.heap.size:=by
       apply W1g
       intro hn
       have:=hv.1
       simp only[World.cell?] at this
       rw[W3w (by omega)] at this
       cases this
      exact(World.cell?_of_block (h.block b hb)).trans hv.1,hv.2⟩ }⟩
theorem Xfj{x:Nat}(hx:x<18446744073709551616): C0 332 [.d (ws (dig x))] (·=.d (.int .u64 x)):=by
 obtain⟨zs,hz⟩:=wds (Xad x)
 have hl:(dig x).length<=2:=Xaq (by omega)
 refine⟨⟨_,Tryz.func332,rfl,rfl⟩,λW vs _ ha=>?_⟩
 match vs,ha with
 | [v],ha =>
  obtain⟨p,c,rfl,hc1,hc2,hrow⟩:=Vm.V_sl ha.1
  have hm:((dig x).map wd).length=zs.length:=by rw[<-hz];simp
  rw[hm]
  refine(callsIn_wide (n:=3)).1 ((Xtf Fence.wide 3 trivial trivial trivial rfl (W0c _) p c zs (by rw[<-hz,W0i] at hl;omega) W.w ?_).mono ?_)
  . rcases hrow with h0 | ⟨b,off,hp,hr⟩
    . left
      have:=congrArg List.length h0
      rw[hm] at this
      exact W0n (by simpa using this)
    . have hcell:∀j,j<zs.length->W.w.cell? ⟨b,off+j,none⟩=some (.int .u32 ((zs[j]?.getD ⟨0,by decide⟩).1:Int)):=λj hj=>by
       obtain⟨z,hzj⟩:∃z,zs[j]?=some z:=⟨_,W0a hj⟩
       obtain⟨e,h1,h2,h3⟩:=Vm.D.row_get hr (i:=j) (x:=wd z.1) (by rw[<-hz];simp[hzj])
       have h1:e=[.int .u32 z.1]:=h1.1
       have:=(h3 0 (.int .u32 z.1) (by rw[h1];rfl)).1
       rw[hzj]
       simpa using this
      by_cases h0:zs=[]
      . exact .inl h0
      . refine .inr ⟨b,off,hp,?_,hcell⟩
        have h1:=hcell 0 (W4n.2 h0)
        apply W1g
        intro hn
        simp only[World.cell?] at h1
        rw[W3w (by omega)] at h1
        cases h1
  . rintro e w' ⟨rfl,hB⟩
    obtain⟨W',hw,hE⟩:=Xhc hB
    refine⟨W',.d (.int .u64 x),_,rfl,hw,hE,?_,λ_ h=>h,rfl⟩
    rw[Ygu hz hx]
    exact Vm.int_V (by show IntKind.u64.wrap _=_;exact wU (by omega))
end
section
theorem Ynb{a b:Nat}(ha:a<4294967296)(hb:b<4294967296): a*b<=18446744065119617025:=by
 have:=W1z (show a<=4294967295 by omega) (show b<=4294967295 by omega)
 omega
theorem Xnu{q k y d:Nat}{l:List Nat}(hw:Xan l)(hq:q+(k+1)<=l.length)(hk:(dig y).length=k)(hd:d<4294967296)(hk40:k<=1099511627776):
 CW0 379 [.own 1000001 1 q (k+1),.d (ws (dig y)),.d (.int .u64 d)] [(1000001,.arr 1 (l.map wd))] λv H'=>∃(c:Nat) (l':List Nat),c<=1/\v=.b (dc (c=1))/\H'=[(1000001,.arr 1 (l'.map wd))]/\l'.length=l.length/\Xan l' /\
  (∀j,(j<q\/q+(k+1)<=j)->l'[j]?=l[j]?)/\val ((l'.drop q).take (k+1))+y*d=val ((l.drop q).take (k+1))+4294967296^(k+1)*c:=by
 refine EnW Tryz.func379 λ_ _ _ _=>?_
 refine Lo (λ(i,lo,br)=>[(0,.own 1000001 1 q (k+1)),(1,.d (ws (dig y))),(2,.d (.int .u64 d)),(7,.d (.int .u64 (br:Nat))),(13,.d (ws (dig y))),(14,.d (.int .i64 k)),(15,.d (.int .i64 (i:Nat)))]) (λ(_,lo,_)=>[(1000001,.arr 1 (lo.map wd))])
  (λ(i,lo,br)=>i<=k/\lo.length=l.length/\Xan lo/\br<4294967296/\(∀j,(j<q\/q+i<=j)->lo[j]?=l[j]?)/\val ((lo.drop q).take i)+val ((dig y).take i)*d=val ((l.drop q).take i)+4294967296^i*br) (λ(i,_,_)=>k-i) (0,l,0) [] rfl
  ⟨by omega,rfl,hw,by omega,λ_ _=>rfl,by simp[val]⟩ ?_ (by exact⟨by simp only[lw,ws,hk];rfl,rfl,rfl,rfl,rfl⟩)
 rintro⟨i,lo,br⟩ ⟨hi,hl,hwo,hbr,hrest,hval⟩
 refine By rfl (λh=>?_) λh=>?_
 . obtain⟨w,hw1⟩:=xat (l:=dig y) (k:=i) (by omega)
   have hwb:=ww hw1 (Xad y)
   obtain⟨u,hu⟩:=xat (l:=lo) (k:=q+i) (by omega)
   have hub:=ww hu hwo
   have hwd:=Ynb hwb hd
   obtain⟨s,hs⟩:∃s,s=w*d+br:=⟨_,rfl⟩
   obtain⟨t,ht⟩:∃t,t=(u+18446744073709551616-s%4294967296)%18446744073709551616:=⟨_,rfl⟩
   refine Ix i rfl (mp hw1) ?_
   refine Go.Vm.Cv w rfl ?_
   refine Ar (w*d:Nat) rfl ?_ (wr (W2z ..).symm (by simp only[inK];omega))
   refine Ar s rfl ?_
   refine El i rfl (by omega) ?_
   refine Ld (wd u) rfl (mp hu) ?_
   refine Go.Vm.Cv u rfl ?_
   refine Go.Vm.Cv (s%4294967296:Nat) rfl ?_ (by rw[wWm];omega)
   refine Go.Vm.Cv (s%4294967296:Nat) rfl ?_
   refine Ar t rfl ?_ (by show _=_;rw[wUm];omega)
   refine Go.Vm.Cv (t%4294967296:Nat) rfl ?_ (by rw[wWm];omega)
   refine El i rfl (by omega) ?_
   refine Sto rfl (by simp only[lw];omega) ms ?_
   refine Ar (s/4294967296:Nat) rfl ?_ (Xhv (n:=32) (by decide))
   refine Ar (t/9223372036854775808:Nat) rfl ?_ (Xhv (n:=63) (by decide))
   refine Ar (s/4294967296+t/9223372036854775808:Nat) rfl ?_
   refine Ar (i+1:Nat) rfl ?_
   refine Bk (i+1,lo.set (q+i) (t%4294967296),s/4294967296+t/9223372036854775808) [] rfl ⟨by omega,by simp[hl],Xgo hwo (by omega),by omega,λj hj=>by rw[W1u (by omega)];exact hrest j (by omega),?_⟩ (by show k-(i+1)<k-i;omega)
   have hu0:l[q+i]?=some u:=by rw[<-hrest (q+i) (.inr (W0c _))];exact hu
   have hst:t%4294967296+s=u+4294967296*(s/4294967296+t/9223372036854775808):=by omega
   rw[Xff (by omega),Xac hw1,Xb0 hu0,W0q,W0r,W1h,W0r]
   have e:4294967296^i*(t%4294967296+s)=4294967296^i*(u+4294967296*(s/4294967296+t/9223372036854775808)):=by rw[hst]
   have e2:4294967296^i*s=4294967296^i*(w*d)+4294967296^i*br:=by rw[hs,W0y]
   rw[W0y,W0y (4294967296^i) u] at e
   omega
 . have hik:i=k:=by omega
   rw[hik] at hrest hval
   rw[W0b (l:=dig y) (by omega),Xaf] at hval
   obtain⟨u,hu⟩:=xat (l:=lo) (k:=q+k) (by omega)
   have hub:=ww hu hwo
   obtain⟨t,ht⟩:∃t,t=(u+18446744073709551616-br)%18446744073709551616:=⟨_,rfl⟩
   refine El k rfl (by omega) ?_ (by simp only[lw];omega)
   refine Ld (wd u) rfl (mp hu) ?_
   refine Go.Vm.Cv u rfl ?_
   refine Ar t rfl ?_ (by show _=_;rw[wUm];omega)
   refine Go.Vm.Cv (t%4294967296:Nat) rfl ?_ (by rw[wWm];omega)
   refine El k rfl (by omega) ?_ (by simp only[lw];omega)
   refine Sto rfl (by simp only[lw];omega) ms ?_
   refine Ar (t/9223372036854775808:Nat) rfl ?_ (Xhv (n:=63) (by decide))
   have hu0:l[q+k]?=some u:=by rw[<-hrest (q+k) (.inr (W0c _))];exact hu
   refine Rw [] [(1000001,.arr 1 ((lo.set (q+k) (t%4294967296)).map wd))] rfl (.one (.rf rfl) rfl rfl) ⟨t/9223372036854775808,_,by omega,?_,rfl,by simp[hl],Xgo hwo (by omega),λj hj=>by rw[W1u (by omega)];exact hrest j (by omega),?_⟩
   . congr 1;exact congrArg dc (propext (by constructor<;>intro<;>omega))
   . rw[Xff (by omega),Xb0 hu0,W0q,W0r]
     have e:4294967296^k*(t%4294967296+br)=4294967296^k*(u+4294967296*(t/9223372036854775808)):=by congr 1;omega
     rw[W0y,W0y (4294967296^k) u] at e
     omega
theorem Xr9{q k y:Nat}{l:List Nat}(hw:Xan l)(hq:q+(k+1)<=l.length)(hk:(dig y).length=k)(hk40:k<=1099511627776):
 CW0 380 [.own 1000001 1 q (k+1),.d (ws (dig y))] [(1000001,.arr 1 (l.map wd))] λv H'=>∃(e:Nat) (l':List Nat),e<=1/\H'=[(1000001,.arr 1 (l'.map wd))]/\l'.length=l.length/\Xan l' /\
  (∀j,(j<q\/q+(k+1)<=j)->l'[j]?=l[j]?)/\val ((l'.drop q).take (k+1))+4294967296^(k+1)*e=val ((l.drop q).take (k+1))+y:=by
 refine EnW Tryz.func380 λ_ _ _ _=>?_
 refine Lo (λ(i,lo,cr)=>[(0,.own 1000001 1 q (k+1)),(1,.d (ws (dig y))),(4,.d (.int .u64 (cr:Nat))),(7,.d (ws (dig y))),(8,.d (.int .i64 k)),(9,.d (.int .i64 (i:Nat)))]) (λ(_,lo,_)=>[(1000001,.arr 1 (lo.map wd))])
  (λ(i,lo,cr)=>i<=k/\lo.length=l.length/\Xan lo/\cr<=1/\(∀j,(j<q\/q+i<=j)->lo[j]?=l[j]?)/\val ((lo.drop q).take i)+4294967296^i*cr=val ((l.drop q).take i)+val ((dig y).take i)) (λ(i,_,_)=>k-i) (0,l,0) [] rfl
  ⟨by omega,rfl,hw,by omega,λ_ _=>rfl,by simp[val]⟩ ?_ (by exact⟨by simp only[lw,ws,hk];rfl,rfl,rfl,rfl,rfl⟩)
 rintro⟨i,lo,cr⟩ ⟨hi,hl,hwo,hcr,hrest,hval⟩
 refine By rfl (λh=>?_) λh=>?_
 . obtain⟨w,hw1⟩:=xat (l:=dig y) (k:=i) (by omega)
   have hwb:=ww hw1 (Xad y)
   obtain⟨u,hu⟩:=xat (l:=lo) (k:=q+i) (by omega)
   have hub:=ww hu hwo
   obtain⟨s,hs⟩:∃s,s=cr+(u+w):=⟨_,rfl⟩
   refine Ix i rfl (mp hw1) ?_
   refine El i rfl (by omega) ?_
   refine Ld (wd u) rfl (mp hu) ?_
   refine Go.Vm.Cv u rfl ?_
   refine Go.Vm.Cv w rfl ?_
   refine Ar (u+w:Nat) rfl ?_
   refine Ar s rfl ?_
   refine Go.Vm.Cv (s%4294967296:Nat) rfl ?_ (by rw[wWm];omega)
   refine El i rfl (by omega) ?_
   refine Sto rfl (by simp only[lw];omega) ms ?_
   refine Ar (s/4294967296:Nat) rfl ?_ (Xhv (n:=32) (by decide))
   refine Ar (i+1:Nat) rfl ?_
   refine Bk (i+1,lo.set (q+i) (s%4294967296),s/4294967296) [] rfl ⟨by omega,by simp[hl],Xgo hwo (by omega),by omega,λj hj=>by rw[W1u (by omega)];exact hrest j (by omega),?_⟩ (by show k-(i+1)<k-i;omega)
   have hu0:l[q+i]?=some u:=by rw[<-hrest (q+i) (.inr (W0c _))];exact hu
   rw[Xff (by omega),Xac hw1,Xb0 hu0,W0q,W0r]
   have e:4294967296^i*(s%4294967296+4294967296*(s/4294967296))=4294967296^i*(cr+(u+w)):=by congr 1;omega
   simp only[W0y] at e
   omega
 . have hik:i=k:=by omega
   rw[hik] at hrest hval
   rw[W0b (l:=dig y) (by omega),Xaf] at hval
   obtain⟨u,hu⟩:=xat (l:=lo) (k:=q+k) (by omega)
   have hub:=ww hu hwo
   refine El k rfl (by omega) ?_ (by simp only[lw];omega)
   refine Ld (wd u) rfl (mp hu) ?_
   refine Go.Vm.Cv cr rfl ?_
   refine Ar ((u+cr)%4294967296:Nat) rfl ?_ (by show _=_;rw[wWm];omega)
   refine El k rfl (by omega) ?_ (by simp only[lw];omega)
   refine Sto rfl (by simp only[lw];omega) ms ?_
   have hu0:l[q+k]?=some u:=by rw[<-hrest (q+k) (.inr (W0c _))];exact hu
   refine Rw [] [(1000001,.arr 1 ((lo.set (q+k) ((u+cr)%4294967296)).map wd))] rfl (.tup (.one (.rf rfl) (λ_ _ e=>by cases e) (λ_ _ e=>by cases e))) ⟨(u+cr)/4294967296,_,by omega,rfl,by simp[hl],Xgo hwo (by omega),λj hj=>by rw[W1u (by omega)];exact hrest j (by omega),?_⟩
   rw[Xff (by omega),Xb0 hu0,W0q,W0r]
   have e:4294967296^k*((u+cr)%4294967296+4294967296*((u+cr)/4294967296))=4294967296^k*(u+cr):=by congr 1;omega
   simp only[W0y] at e
   omega
theorem Xi7{n x:Nat}(hx:(dig x).length<=549755813888)(hn32:n<32): C0 378 [.d (ws (dig x)),.d (.int .i64 n)] λv=>∃l,l.length=(dig x).length+1/\Xan l/\val l=x*2^n/\v=.d (ws l) :=
 CW.data (Xgq hx hn32) rfl λv H' ⟨ob,e,l,h1,h2,h3,h4,h5⟩=>⟨.d (ws l),by rw[h4,e,h5];exact .one (.own rfl (by simp) (oa rfl)) rfl rfl,l,h1,h2,h3,rfl⟩
theorem Xqx{y n:Nat}(hy:y≠0){t:Nat}(ht:(dig y)[(dig y).length-1]?=some t)(h1:2147483648<=t*2^n)(h2:t*2^n<4294967296):
 (dig (y*2^n)).length=(dig y).length/\∃t',(dig (y*2^n))[(dig y).length-1]?=some t'/\2147483648<=t':=by
 have hl:(dig y).length≠0:=λh=>hy (Xsl.1 (W0n h))
 have hs:=Xac ht
 rw[show (dig y).length-1+1=(dig y).length by omega,W1x,Xaf] at hs
 have hlo:=Xbw ((Xad y).take ((dig y).length-1))
 rw[W0j,W2b (by omega)] at hlo
 generalize hk:(dig y).length-1=k at *
 have hlow:4294967296^k*2147483648<=y*2^n:=by
  rw[hs,W1h,W0r]
  have:=W0p (4294967296^k) h1
  omega
 have hup:y*2^n<4294967296^(k+1):=by
  have e:y+1<=4294967296^k*(t+1):=by rw[hs,W0y];omega
  have e2:t*2^n+2^n<=4294967296:=by
   have hd:2^n ∣ 4294967296:=by
    have hn:n<32:=by
     have:2^n<2^32:=by
      have:=Nat.le_mul_of_pos_left (2^n) (show 0<t by rcases W2u t with h | h;rw[h] at h1;simp at h1;exact h)
      omega
     exact(W2w (by decide:1<2)).1 this
    exact⟨2^(32-n),by rw[<-W0z,show n+(32-n)=32 by omega]⟩
   obtain⟨q,hq⟩:=hd
   rw[hq,W1f t] at h2
   have:=Nat.lt_of_mul_lt_mul_left h2
   rw[hq,W1f t,<-Nat.mul_succ]
   exact W0p _ this
  have e3:=W0v (2^n) e
  rw[W0r,W1h t,W7l] at e3
  have e4:=W0p (4294967296^k) e2
  have hp:=W0u n
  rw[W1h,W7l] at e3
  rw[W0q]
  omega
 have hlen:(dig (y*2^n)).length=(dig y).length:=by
  have h3:=Xaq hup
  have h4:k<(dig (y*2^n)).length:=by
   apply W1g
   intro hn
   have:=Xc0 (y*2^n)
   have h5:4294967296^(dig (y*2^n)).length<=4294967296^k:=W0m (by decide) (by omega)
   have:4294967296^k<=4294967296^k*2147483648:=W4i _ (by decide)
   omega
  omega
 refine⟨hlen,?_⟩
 obtain⟨t',ht'⟩:=xat (l:=dig (y*2^n)) (k:=k) (by omega)
 refine⟨t',ht',?_⟩
 have hs':=Xac ht'
 rw[show k+1=(dig (y*2^n)).length by omega,W1x,Xaf] at hs'
 have hlo':=Xbw ((Xad (y*2^n)).take k)
 rw[W0j,W2b (by omega)] at hlo'
 apply W1g
 intro hn
 have:4294967296^k*(t'+1)<=4294967296^k*2147483648:=W0p _ (by omega)
 rw[W0y] at this
 omega
theorem Ybk{lu:List Nat}{i n:Nat}{Y:Nat}(hw:Xan lu)(hi:i+n<lu.length)(hR:val (lu.drop (i+1))<Y)(hY:Y<=4294967296^n):
 val (lu.drop i)=val ((lu.drop i).take (n+1))/\val (lu.drop i)<4294967296*Y:=by
 obtain⟨u,hu⟩:=xat (l:=lu) (k:=i) (by omega)
 have hub:=hw u (W0h hu)
 have h1:=Xbr hu
 have h2:val (lu.drop i)<4294967296*Y:=by
  rw[h1]
  have:=W0p 4294967296 (show val (lu.drop (i+1))+1<=Y from hR)
  omega
 refine⟨?_,h2⟩
 have h3:=Xbi (lu.drop i) (n+1) (by rw[W1n];omega)
 rw[h3]
 have h4:val (lu.drop i)<4294967296^(n+1):=by
  have:=W0p 4294967296 hY
  rw[W0q,W1f (4294967296^n)]
  omega
 rcases W2u (val ((lu.drop i).drop (n+1))) with h5 | h5
 . rw[h5,W3h,W2o]
 . have:=W4i (4294967296^(n+1)) h5
   omega
theorem Xen{l m:List Nat}{k:Nat}(h:∀j,k<=j->l[j]?=m[j]?): l.drop k=m.drop k:=by
 apply W5s
 intro i
 rw[W2f,W2f]
 exact h _ (by omega)
theorem Yho(M low u0 u1 u2:Nat): low+M*u2+M*4294967296*u1+M*4294967296*4294967296*u0=low+M*(u2+4294967296*(u0*2^32+u1)):=by
 grind
theorem Yau{x y:Nat}: Xa5 (x:Int) (y:Int)<0↔x<y:=by
 unfold Xa5
 split
 . constructor<;>intro<;>omega
 . split
   . constructor<;>intro<;>omega
   . constructor<;>intro<;>omega
theorem Xwz{x y Y s Q R:Nat}(hY:y*2^s=Y)(h:Q*Y+R=x*2^s)(hR:R<Y): Q=x/y/\R=x%y*2^s:=by
 have h1:Q=(x*2^s)/(y*2^s):=by
  rw[hY,<-h,W1f,Nat.mul_add_div (by omega),W5i hR,W2o]
 have h2:R=(x*2^s)%(y*2^s):=by
  rw[hY,<-h,W1f,Nat.mul_add_mod,W3y hR]
 rw[Nat.mul_div_mul_right _ _ (W0u s)] at h1
 rw[Nat.mul_mod_mul_right] at h2
 exact⟨h1,h2⟩
theorem Xw8{U Y M low u2 top vlow tn t' dd r:Nat}(hY0:Y≠0)(hM:0<M)(hUM:U=low+M*(u2+4294967296*top))(hYM:Y=vlow+M*(tn+4294967296*t'))(hUlt:U<4294967296*Y)(hvlow:vlow<M)(htnb:tn<4294967296)(htt:2147483648<=t')
 (hdd:(dd-1)*t'+(r+t')=top) (hr:4294967296<=r+t') (hUq:U/Y<dd):dd-1<4294967296/\U/Y<=dd-1/\dd-1<=U/Y+1:=by
 have hdB:dd-1<4294967296:=by
  apply W1g
  intro hn2
  have h1:=W0v t' (show 4294967296<=dd-1 by omega)
  have h2:top<4294967296*t'+4294967296:=by
   apply W1g
   intro hn3
   have h3:M*(4294967296*(4294967296*t'+4294967296))<=M*(4294967296*top):=W0p _ (W0p _ (by omega))
   have h4:Y<M*(4294967296*t'+4294967296):=by
    rw[hYM]
    have:M*(tn+4294967296*t'+1)<=M*(4294967296*t'+4294967296):=W0p _ (by omega)
    rw[W0y M _ 1,W3z] at this
    omega
   have h5:M*(4294967296*(4294967296*t'+4294967296))=4294967296*(M*(4294967296*t'+4294967296)):=by grind
   have h6:M*(4294967296*top)<=U:=by rw[hUM,W0y];omega
   omega
  omega
 refine⟨hdB,by omega,?_⟩
 rw[hUM,hYM]
 refine Ydb (r:=r+t') hM hvlow hdd ?_ hdB (by omega)
 have h1:=Ynb (a:=dd-1) (b:=tn) hdB htnb
 omega
theorem Xcu{x y:Nat}(hx:(dig x).length<=549755813888)(hy:(dig y).length<=549755813888)(hy0:y≠0): C0 331 [.d (ws (dig x)),.d (ws (dig y))] (·=.tup (.pr (.d (ws (dig (x/y)))) (.d (ws (dig (x%y)))))):=by
 refine En Tryz.func331 λ_ _ _=>?_
 refine Ce rfl (Xby (by omega)) ?_
 refine By rfl (λh=>?_) λh=>?_
 . have hlt:x<y:=Yau.1 h
   refine Ce rfl (Xbm (by omega)) ?_
   exact RTt rfl (.cons (.nil (by rw[W5i hlt,Xak];rfl)) (.one (.eq (by rw[W3y hlt])) (λ_ _ e=>by cases e) (λ_ _ e=>by cases e)))
 have hge:y<=x:=W4k λhlt=>h (Yau.2 hlt)
 have hlenle:=Xap hge
 refine By rfl (λh2=>?_) λh2=>?_<;>simp only[lw] at h2
 . have hx64:x<18446744073709551616:=by
    have:=Xc0 x
    have h1:4294967296^(dig x).length<=4294967296^2:=W0m (by decide) (by omega)
    omega
   refine Ce rfl (Xfj hx64) ?_
   refine Ce rfl (Xfj (by omega)) ?_
   have hq64:x/y<18446744073709551616:=W1y (W4h ..) hx64
   have hr64:x%y<18446744073709551616:=W1y (Nat.mod_le ..) hx64
   refine Dw rfl ?_
   refine Ar (x/y:Nat) rfl ?_ (show _/\_ from⟨by omega,Ydv x y hx64⟩)
   refine Ce rfl (Xb6 hq64) ?_
   refine Ar (x%y:Nat) rfl ?_ (show _/\_ from⟨by omega,Xte x y⟩)
   refine Ce rfl (Xb6 hr64) ?_
   exact R0t
 refine By rfl (λh3=>?_) λh3=>?_<;>simp only[lw] at h3
 . obtain⟨t,ht⟩:=xat (l:=dig y) (k:=0) (by omega)
   have htb:=ww ht (Xad y)
   have hyt:y=t:=by
    have:=Xac ht
    rw[W0b (by omega),Xaf] at this
    simpa [val] using this
   refine Ix 0 rfl (mp ht) ?_
   refine Ce rfl (Xle (y:=t) hx htb (by omega)) ?_
   exact RTt rfl (.cons (.eq (by rw[hyt])) (.one (.eq (by rw[hyt])) (λ_ _ e=>by cases e) (λ_ _ e=>by cases e)))
 have hy2:2<=(dig y).length:=by
  have:(dig y).length≠0:=λh=>hy0 (Xsl.1 (W0n h))
  omega
 obtain⟨t,ht⟩:=xat (l:=dig y) (k:=(dig y).length-1) (by omega)
 have htb:=ww ht (Xad y)
 have ht0:t≠0:=by
  rcases Xg2 y with h | ⟨t2,h2,h3⟩
  . rw[h] at hy2;simp at hy2
  . rw[ht] at h2;injection h2 with h2;rw[h2];exact h3
 refine Ar ((dig y).length-1:Nat) rfl ?_ (wr (by simp only[lw];omega) (by simp only[inK];omega))
 refine Ix ((dig y).length-1) rfl (mp ht) ?_
 refine Ca rfl (Xgn htb ht0) λv hv=>?_
 obtain⟨s,rfl,hs32,hs1,hs2⟩:=hv
 obtain⟨hlen,t',ht',htt⟩:=Xqx hy0 ht hs1 hs2
 refine Co rfl (Xgq hx hs32) λv ob hv=>?_
 obtain⟨lu0,hul,huw,huv,rfl,rfl⟩:=hv
 refine Ca rfl (Xi7 hy hs32) λv hv=>?_
 obtain⟨lv,hvl,hvw,hvv,rfl⟩:=hv
 obtain⟨Y,hY⟩:∃Y,Y=y*2^s:=⟨_,rfl⟩
 rw[<-hY] at hlen ht' hvv
 refine Ce (r:=.d (ws (dig Y))) rfl (by have:=Xaz hvw (by omega);rwa[hvv] at this) ?_
 obtain⟨mv,hmv⟩:∃mv,mv=(dig Y).length:=⟨_,rfl⟩
 have hq0:lu0.length-mv<=549755813889:=by omega
 refine Ar (lu0.length-mv:Nat) rfl ?_ (wr (by simp only[lw];omega) (by simp only[inK];omega))
 refine Mk (lu0.length-mv) rfl (by omega) ?_
 obtain⟨tn,htn⟩:=xat (l:=dig Y) (k:=mv-2) (by omega)
 have htnb:=ww htn (Xad Y)
 have ht1:(dig Y)[mv-1]?=some t':=by rw[hmv,hlen];exact ht'
 have htb1:=ww ht1 (Xad Y)
 refine Dw rfl ?_
 refine Ar (mv-1:Nat) rfl ?_ (wr (by simp only[lw];omega) (by simp only[inK];omega))
 refine Ix (mv-1) rfl (mp ht1) ?_
 refine Go.Vm.Cv t' rfl ?_
 refine Ar (mv-2:Nat) rfl ?_ (wr (by simp only[lw];omega) (by simp only[inK];omega))
 refine Ix (mv-2) rfl (mp htn) ?_
 refine Go.Vm.Cv tn rfl ?_
 refine Ar ((lu0.length-mv:Nat)-1:Int) rfl ?_
 have hY0:Y≠0:=by rw[hY];exact Nat.mul_ne_zero hy0 (W8c.1 (W0u s))
 have hYl:=Xc0 Y
 have hYM:Y=val ((dig Y).take (mv-2))+4294967296^(mv-2)*(tn+4294967296*t'):=by
  have h1:=Xac htn
  have h2:=Xac (k:=mv-2+1) (l:=dig Y) (x:=t') (by rw[show mv-2+1=mv-1 by omega];exact ht1)
  rw[show mv-2+1+1=(dig Y).length by omega,W1x,Xaf,h1,W0q,W0r] at h2
  rw[W0y];omega
 have hvlow:val ((dig Y).take (mv-2))<4294967296^(mv-2):=by
  have:=Xbw ((Xad Y).take (mv-2))
  rwa[W0j,W2b (by omega)] at this
 have hM:0<4294967296^(mv-2):=W6s (by decide)
 have hR0:val (lu0.drop (lu0.length-mv))<Y:=by
  have h1:=Xbi lu0 (lu0.length-mv) (by omega)
  rw[huv] at h1
  have h2:=Xm3 hy0
  have h3:=Xc0 x
  have hp:=W0u s
  apply W1g
  intro hn2
  have h4:4294967296^(lu0.length-mv)*Y<=x*2^s:=by
   rw[h1]
   have:=W0p (4294967296^(lu0.length-mv)) (W4k hn2)
   omega
  rw[hY,<-W0r] at h4
  have h5:=Nat.le_of_mul_le_mul_right h4 hp
  have h6:=W0p (4294967296^(lu0.length-mv)) h2
  rw[<-W0z,show lu0.length-mv+((dig y).length-1)=(dig x).length by omega] at h6
  omega
 refine Lo (λ(k,lu,lq)=>[(8,.d (.int .i64 s)),(9,.own 62 1 0 lu0.length),(10,.d (ws (dig Y))),(11,.d (.int .i64 mv)),(12,.own 73 1 0 (lu0.length-mv)),(13,.d (.int .u64 t')),(14,.d (.int .u64 tn)),(15,.d (.int .i64 ((k:Nat)-1:Int)))]) (λ(_,lu,lq)=>[(62,.arr 1 (lu.map wd)),(73,.arr 1 (lq.map wd))])
  (λ(k,lu,lq)=>k<=lu0.length-mv/\lu.length=lu0.length/\Xan lu/\lq.length=lu0.length-mv/\Xan lq/\(∀j,j<k->lu[j]?=lu0[j]?)/\val (lu.drop k)<Y/\val (lq.drop k)*Y+val (lu.drop k)=val (lu0.drop k)) (λ(k,_,_)=>k) (lu0.length-mv,lu0,List.replicate (lu0.length-mv) 0) [] rfl
  ⟨by omega,rfl,huw,by simp,Xfd _,λ_ _=>rfl,hR0,by rw[W1m (by simp)];simp[val]⟩ ?_ (by exact⟨by simp only[lw,ws,hmv];rfl,by simp only[W2g];rfl,rfl,rfl,rfl⟩)
 rintro⟨k,lu,lq⟩ ⟨hk,hln,hwu,hlq,hwq,hsame,hRlt,hQR⟩
 refine By rfl (λh=>?_) λh=>?_
 . obtain⟨u0,hu0⟩:=xat (l:=lu) (k:=k-1+mv) (by omega)
   obtain⟨u1,hu1⟩:=xat (l:=lu) (k:=k-1+mv-1) (by omega)
   obtain⟨u2,hu2⟩:=xat (l:=lu) (k:=k-1+mv-2) (by omega)
   have hub0:=ww hu0 hwu
   have hub1:=ww hu1 hwu
   have hub2:=ww hu2 hwu
   obtain⟨hwin,hUlt⟩:=Ybk (n:=mv) (i:=k-1) (Y:=Y) hwu (by omega) (by rw[show k-1+1=k by omega];exact hRlt) (by rw[hmv];exact W2c hYl)
   have hUM:val (lu.drop (k-1))=val ((lu.drop (k-1)).take (mv-2))+4294967296^(mv-2)*(u2+4294967296*(u0*2^32+u1)):=by
    have g1:=Xb0 (l:=lu) (q:=k-1) (i:=mv-2) (u:=u2) (by rw[show k-1+(mv-2)=k-1+mv-2 by omega];exact hu2)
    have g2:=Xb0 (l:=lu) (q:=k-1) (i:=mv-2+1) (u:=u1) (by rw[show k-1+(mv-2+1)=k-1+mv-1 by omega];exact hu1)
    have g3:=Xb0 (l:=lu) (q:=k-1) (i:=mv-2+1+1) (u:=u0) (by rw[show k-1+(mv-2+1+1)=k-1+mv by omega];exact hu0)
    rw[show mv-2+1+1+1=mv+1 by omega,g2,g1,<-hwin] at g3
    rw[g3,W0q,W0q]
    exact Yho ..
   have hlow:val ((lu.drop (k-1)).take (mv-2))<4294967296^(mv-2):=by
    have:=Xbw ((hwu.drop (k-1)).take (mv-2))
    rwa[W0j,W1n,W2b (by omega)] at this
   obtain⟨U,hU⟩:∃U,U=val (lu.drop (k-1)):=⟨_,rfl⟩
   obtain⟨low,hlowg⟩:∃low,low=val ((lu.drop (k-1)).take (mv-2)):=⟨_,rfl⟩
   obtain⟨vlow,hvlowg⟩:∃vlow,vlow=val ((dig Y).take (mv-2)):=⟨_,rfl⟩
   obtain⟨M,hMg⟩:∃M,M=4294967296^(mv-2):=⟨_,rfl⟩
   obtain⟨top,htop⟩:∃top,top=u0*2^32+u1:=⟨_,rfl⟩
   have htopb:top<18446744073709551616:=by omega
   rw[<-hU] at hwin hUlt hUM
   rw[<-hMg,<-hlowg,<-htop] at hUM
   rw[<-hMg,<-hvlowg] at hYM
   rw[<-hMg,<-hlowg] at hlow
   rw[<-hMg,<-hvlowg] at hvlow
   rw[<-hMg] at hM
   refine Dw rfl ?_
   refine Ar (k-1+mv:Nat) rfl ?_
   refine Eo (k-1+mv) rfl (by omega) ?_
   refine Ld (wd u0) rfl (mp hu0) ?_
   refine Go.Vm.Cv u0 rfl ?_
   refine Ar (u0*2^32:Nat) rfl ?_ (Xhw (n:=32) rfl (by omega) (by decide))
   refine Ar (k-1+mv:Nat) rfl ?_
   refine Ar (k-1+mv-1:Nat) rfl ?_
   refine Eo (k-1+mv-1) rfl (by omega) ?_
   refine Ld (wd u1) rfl (mp hu1) ?_
   refine Go.Vm.Cv u1 rfl ?_
   refine Ar top rfl ?_ (Ycl (by omega) (by omega) (by rw[Xdg u1 u0 32 (by omega),<-htop]) htopb)
   have hd63:top/t'<9223372036854775808:=by
    rw[W2t (by omega)]
    have:=W0p 9223372036854775808 htt
    omega
   have hr63:top%t'<t':=W2d _ (by omega)
   have hdz:0<=top/t':=W0x _
   refine Dw rfl ?_
   refine Ar (top/t':Nat) rfl ?_ (show _/\_ from⟨by omega,Ydv top t' htopb⟩)
   refine Ar (top%t':Nat) rfl ?_ (show _/\_ from⟨by omega,Xte top t'⟩)
   have hqz:U/Y<=top/t':=by
    apply W4k
    intro hlt
    have h1:(top/t'+1)*Y<=U:=by
     have:=W6u U Y
     exact W0l (W0v _ hlt) this
    have h2:=W2p top t'
    have h4:(top/t'+1)*t'>=top+1:=by rw[W1h,W1f,W7l];omega
    have h5:(top/t'+1)*(M*(4294967296*t'))<=(top/t'+1)*Y:=W0p _ (by rw[hYM,W0y];omega)
    have h6:(top/t'+1)*(M*(4294967296*t'))=M*(4294967296*((top/t'+1)*t')):=by grind
    have h7:M*(4294967296*(top+1))<=M*(4294967296*((top/t'+1)*t')):=W0p _ (W0p _ h4)
    have h8:M*(u2+4294967296*top+1)<=M*(4294967296*(top+1)):=W0p _ (by omega)
    rw[W0y M _ 1,W3z] at h8
    omega
   refine Cu (some 1000003) (λ(dd:Nat)=>[(8,.d (.int .i64 s)),(9,.own 62 1 0 lu0.length),(10,.d (ws (dig Y))),(11,.d (.int .i64 mv)),(12,.own 73 1 0 (lu0.length-mv)),(13,.d (.int .u64 t')),(14,.d (.int .u64 tn)),(15,.d (.int .i64 ((k:Nat)-1:Int))),(17,.d (.int .u64 dd))]) (λ_=>[(62,.arr 1 (lu.map wd)),(73,.arr 1 (lq.map wd))])
    (λdd=>dd<4294967296/\U/Y<=dd/\dd<=U/Y+1) rfl ?_ λdd ⟨hdB,hdq,hdq1⟩=>?_
   . refine Lo (λ(dd,r)=>[(8,.d (.int .i64 s)),(9,.own 62 1 0 lu0.length),(10,.d (ws (dig Y))),(11,.d (.int .i64 mv)),(12,.own 73 1 0 (lu0.length-mv)),(13,.d (.int .u64 t')),(14,.d (.int .u64 tn)),(15,.d (.int .i64 ((k:Nat)-1:Int))),(17,.d (.int .u64 (dd:Nat))),(18,.d (.int .u64 (r:Nat)))]) (λ_=>[(62,.arr 1 (lu.map wd)),(73,.arr 1 (lq.map wd))])
      (λ(dd,r)=>U/Y<=dd/\dd*t'+r=top/\r<4294967296/\dd<9223372036854775808) (λ(dd,_)=>dd) (top/t',top%t') [] rfl ⟨hqz,by rw[W1f];exact W2p ..,by omega,hd63⟩ ?_
     rintro⟨dd,r⟩ ⟨hdq,hdt,hr,hd63⟩
     refine By rfl (λh1=>?_) λh1=>?_
     . have hUq:U/Y<dd:=Ykc hUlt (W2n hY0) (by omega)
       have hdd1:1<=dd:=W1y (W0x _) hUq
       have hdd:(dd-1)*t'+(r+t')=top:=by
        obtain⟨e,rfl⟩:∃e,dd=e+1:=⟨dd-1,by omega⟩
        rw[W3j];rw[W1h,W7l] at hdt;omega
       refine Ar (dd-1:Nat) rfl ?_
       refine Ar (r+t':Nat) rfl ?_
       refine By rfl (λh2=>?_) λh2=>?_
       . exact Jn (dd-1) [] rfl (Xw8 hY0 hM hUM hYM hUlt hvlow htnb htt hdd (by omega) hUq)
       . exact Bk (dd-1,r+t') [] rfl ⟨by omega,hdd,by omega,by omega⟩ (by show dd-1<dd;omega)
     . have htd:dd*tn<18446744073709551616:=by have:=Ynb (a:=dd) (b:=tn) (by omega) htnb;omega
       refine Ar (dd*tn:Nat) rfl ?_ (wr (W2z ..).symm (by simp only[inK];omega))
       refine Ar (r*2^32:Nat) rfl ?_ (Xhw (n:=32) rfl (by omega) (by decide))
       refine Ar (k-1+mv:Nat) rfl ?_
       refine Ar (k-1+mv-2:Nat) rfl ?_
       refine Eo (k-1+mv-2) rfl (by omega) ?_
       refine Ld (wd u2) rfl (mp hu2) ?_
       refine Go.Vm.Cv u2 rfl ?_
       refine Ar (r*2^32+u2:Nat) rfl ?_ (Ycl (by omega) (by omega) (Xdg u2 r 32 (by omega)) (by omega))
       refine By rfl (λh2=>?_) λh2=>?_
       . have hUq:U/Y<dd:=by
          have h1:r*4294967296+u2<dd*tn:=W7b.1 h2
          have h2:=Ykb hlow hM hdt h1 (by rw[<-hYM];exact W2n hY0)
          rwa[<-hUM,<-hYM] at h2
         have hdd1:1<=dd:=W1y (W0x _) hUq
         have hdd:(dd-1)*t'+(r+t')=top:=by
          obtain⟨e,rfl⟩:∃e,dd=e+1:=⟨dd-1,by omega⟩
          rw[W3j];rw[W1h,W7l] at hdt;omega
         refine Ar (dd-1:Nat) rfl ?_
         refine Ar (r+t':Nat) rfl ?_
         refine By rfl (λh2=>?_) λh2=>?_
         . exact Jn (dd-1) [] rfl (Xw8 hY0 hM hUM hYM hUlt hvlow htnb htt hdd (by omega) hUq)
         . exact Bk (dd-1,r+t') [] rfl ⟨by omega,hdd,by omega,by omega⟩ (by show dd-1<dd;omega)
       . exact Jn dd [] rfl ⟨by omega,hdq,by
          rw[hUM,hYM]
          exact Ydb (r:=r) hM hvlow hdt (by have h2:=Int.ofNat_le.1 (Int.not_lt.1 h2);omega) (by omega) (by omega)⟩
   refine Ar (k-1+mv:Nat) rfl ?_
   refine Ar (k-1+mv+1:Nat) rfl ?_
   refine Sw (k-1) (k-1+mv+1) rfl (by omega) (by omega) ?_
   refine Cw (args:=[.own 1000001 1 (k-1) (mv+1),.d (ws (dig Y)),.d (.int .u64 dd)]) [(1000001,62)] rfl (Xnu (l:=lu) hwu (by omega) hmv.symm hdB (by omega)) (λv H' _ hv=>?_) (by exact congrArg (·::_) (by rw[W1k,show k-1+mv+1-(k-1)=mv+1 by omega];rfl))
   obtain⟨cc,lu1,hc1,rfl,rfl,hl1,hw1,hout1,hv1⟩:=hv
   have hwin1:=Xbw ((hw1.drop (k-1)).take (mv+1))
   have hwin0:=Xbw ((hwu.drop (k-1)).take (mv+1))
   rw[W0j,W1n,W2b (by omega)] at hwin1 hwin0
   rw[<-hwin] at hv1 hwin0
   have hstep:=Yd2 (W2n hY0) hdq hdq1 hv1 hc1 hwin1 hwin0
   refine Cu none (λ(lu2:List Nat)=>[(8,.d (.int .i64 s)),(9,.own 62 1 0 lu0.length),(10,.d (ws (dig Y))),(11,.d (.int .i64 mv)),(12,.own 73 1 0 (lu0.length-mv)),(13,.d (.int .u64 t')),(14,.d (.int .u64 tn)),(15,.d (.int .i64 ((k:Nat)-1:Int))),(17,.d (.int .u64 (U/Y:Nat)))]) (λlu2=>[(62,.arr 1 (lu2.map wd)),(73,.arr 1 (lq.map wd))])
    (λlu2=>lu2.length=lu0.length/\Xan lu2/\(∀j,(j<k-1\/k-1+(mv+1)<=j)->lu2[j]?=lu[j]?)/\val ((lu2.drop (k-1)).take (mv+1))=U%Y) rfl ?_ λlu2 ⟨hl2,hw2,hout,hwinv⟩=>?_
   . refine By rfl (λh1=>?_) λh1=>?_
     . obtain⟨hdd1,hrest1⟩:=hstep.2 h1
       refine Ar (U/Y:Nat) rfl ?_ (wr (by rw[hdd1];exact(by omega:((U/Y+1:Nat):Int)-1=((U/Y:Nat):Int))) (by simp only[inK];have:=W0x (U/Y);omega))
       refine Ar (k-1+mv:Nat) rfl ?_
       refine Ar (k-1+mv+1:Nat) rfl ?_
       refine Sw (k-1) (k-1+mv+1) rfl (by omega) (by omega) ?_
       refine Cw (args:=[.own 1000001 1 (k-1) (mv+1),.d (ws (dig Y))]) [(1000001,62)] rfl (Xr9 (l:=lu1) hw1 (by omega) hmv.symm (by omega)) (λv H' _ hv=>?_) (by exact congrArg (·::_) (by rw[W1k,show k-1+mv+1-(k-1)=mv+1 by omega];rfl))
       obtain⟨e',lu2,he1,rfl,hl2,hw2,hout2,hv2⟩:=hv
       have hwin2:=Xbw ((hw2.drop (k-1)).take (mv+1))
       rw[W0j,W1n,W2b (by omega)] at hwin2
       exact Jn lu2 [] rfl ⟨by omega,hw2,λj hj=>(hout2 j hj).trans (hout1 j hj),hrest1 _ e' hwin2 hv2 he1⟩
     . obtain⟨hdd1,hrest1⟩:=hstep.1 (by omega)
       subst hdd1
       exact Jn lu1 [] rfl ⟨by omega,hw1,hout1,hrest1⟩
   have hqB:U/Y<4294967296:=by omega
   have hqz0:0<=U/Y:=W0x _
   refine Go.Vm.Cv (U/Y:Nat) rfl ?_
   refine Eo (k-1) rfl (by omega) ?_
   refine Sto rfl (by simp only[lw];omega) ms ?_
   refine Ar ((k-1:Nat)-1:Int) rfl ?_
   have hY1:0<Y:=W2n hY0
   have hab:val (lu2.drop (k-1))=U%Y:=by
    have g1:=Xbi (lu2.drop (k-1)) (mv+1) (by rw[W1n];omega)
    have g2:=Xbi (lu.drop (k-1)) (mv+1) (by rw[W1n];omega)
    have g3:(lu2.drop (k-1)).drop (mv+1)=(lu.drop (k-1)).drop (mv+1):=by
     rw[W4s,W4s]
     exact Xen λj hj=>hout j (.inr hj)
    rw[<-hU,<-hwin] at g2
    rw[g1,hwinv,g3]
    omega
   refine Bk (k-1,lu2,lq.set (k-1) (U/Y)) [] rfl ⟨by omega,hl2,hw2,by simp[hlq],Xgo hwq hqB,λj hj=>(hout j (.inl hj)).trans (hsame j (by omega)),by rw[hab];exact W2d _ hY1,?_⟩ (by show k-1<k;omega)
   obtain⟨w,hw⟩:=xat (l:=lu) (k:=k-1) (by omega)
   have hw2':lu0[k-1]?=some w:=by rw[<-hsame (k-1) (by omega)];exact hw
   have g1:=Xbr hw
   have g2:=Xbr hw2'
   have g3:=Xbr (l:=lq.set (k-1) (U/Y)) (k:=k-1) (W2l (by omega))
   have g4:(lq.set (k-1) (U/Y)).drop (k-1+1)=lq.drop (k-1+1):=Xen λj hj=>W1u (by omega)
   rw[show k-1+1=k by omega] at g1 g2 g3 g4
   rw[hab,g2,g3,g4,<-hQR,W1h,W0r,W0y]
   have g5:=W2p U Y
   rw[W1f] at g5
   rw[<-hU] at g1
   omega
 . have hk0:k=0:=by omega
   subst hk0
   rw[W1a] at hRlt hQR
   rw[W1a,W1a,huv] at hQR
   obtain⟨hQ,hR⟩:=Xwz hY.symm hQR hRlt
   have htk:val (lu.take mv)=val lu:=by
    have g:=Xbi lu mv (by omega)
    rw[hmv] at g
    rcases W2u (val (lu.drop (dig Y).length)) with h5 | h5
    . rw[h5,W3h] at g;rw[hmv];omega
    . have:=W4i (4294967296^(dig Y).length) h5
      omega
   refine Fz 26 12 (lq.map wd) rfl (by simp only[lw];omega) (oa hlq) ?_
   refine Fz 26 9 (lu.map wd) rfl (by simp only[lw];omega) (oa hln) ?_
   refine Dw rfl ?_
   refine Ce rfl (Xaz hwq (by omega)) ?_
   refine Tk mv (lu.take mv |>.map wd) rfl rfl (by simp only[lw];omega) (W3e ..).symm ?_
   refine Ce rfl (Xaz (hwu.take mv) (by rw[W0j];omega)) ?_
   refine Ca rfl (Xfl (Xad _) (by rw[htk];have:=Xap (W2c hRlt);omega) hs32) λv hv=>?_
   obtain⟨l8,hl8,hw8,hn8,rfl⟩:=hv
   rw[Xaf,htk,hR,Nat.mul_div_cancel _ (W0u s)] at hl8
   refine Ce rfl (Xaz hw8 (by rw[hn8,htk];have:=Xap (W2c hRlt);omega)) ?_
   exact RTt rfl (.cons (.eq (by rw[hQ])) (.one (.eq (by rw[hl8])) (λ_ _ e=>by cases e) (λ_ _ e=>by cases e)))
end
end Go.Proofs.YtclgppjdhndgiaaGreatDoor
namespace Go.Num
def rt: Nat->Nat
 | 0=>0
 | n+1=>if (rt n+1)*(rt n+1)<=n+1 then rt n+1 else rt n
theorem Xc5(n:Nat): rt n*rt n<=n/\n<(rt n+1)*(rt n+1):=by
 induction n with
 | zero=>exact⟨W0c _,by decide⟩
 | succ n ih =>
  obtain⟨h1,h2⟩:=ih
  simp only[rt]
  split
  . rename_i h
    refine⟨h,?_⟩
    have:(rt n+1+1)*(rt n+1+1)=(rt n+1)*(rt n+1)+2*(rt n+1)+1:=by grind
    omega
  . rename_i h
    exact⟨by omega,by omega⟩
theorem Xyv{x y:Nat}(h:x*x<y*y): x<y:=by
 by_cases h1:x<y
 . exact h1
 . have:=W1z (W4k h1) (W4k h1)
   omega
theorem Yii{n s:Nat}(h1:s*s<=n)(h2:n<(s+1)*(s+1)): rt n=s:=by
 obtain⟨g1,g2⟩:=Xc5 n
 have k1:rt n<s+1:=Xyv (by omega)
 have k2:s<rt n+1:=Xyv (by omega)
 omega
theorem Yih{n:Nat}(h:n≠0): 0<rt n:=by
 have:=(Xc5 n).2
 by_cases h0:rt n=0
 . rw[h0] at this;omega
 . omega
theorem Yct{a x:Nat}(hx:0<x): rt a<=(x+a/x)/2:=by
 obtain⟨h1,h2⟩:=Xc5 a
 generalize rt a=s at *
 by_cases h:s<=(x+a/x)/2
 . exact h
 . exfalso
   have h3:x+a/x+1<=2*s:=by omega
   have h4:a<(a/x+1)*x:=by
    have:=W2p a x
    have:=W2d a hx
    rw[W1h,W1f (a/x)];omega
   obtain⟨q,hq⟩:∃q,q=a/x+1:=⟨_,rfl⟩
   rw[<-hq] at h4
   have h5:x+q<=2*s:=by omega
   have h6:q*x<=s*s:=by
    by_cases hxs:x<=s
    . obtain⟨e,rfl⟩:∃e,s=x+e:=⟨s-x,by omega⟩
      have:q<=x+2*e:=by omega
      have h7:=W0v x this
      have:(x+e)*(x+e)=(x+2*e)*x+e*e:=by grind
      omega
    . obtain⟨e,he⟩:∃e,x=s+e:=⟨x-s,by omega⟩
      subst he
      have h8:q+e<=s:=by omega
      obtain⟨f,rfl⟩:∃f,s=q+e+f:=⟨s-q-e,by omega⟩
      have:(q+e+f)*(q+e+f)=q*(q+e+f+e)+(e*e+2*(e*f)+f*q+f*f):=by grind
      omega
   omega
theorem Xse{a x:Nat}(hx:0<x)(h:x<=(x+a/x)/2)(hr:rt a<=x): rt a=x:=by
 have h1:x<=a/x:=by omega
 have h2:x*x<=a:=W0l (W0v x h1) (W6u a x)
 have h3:=(Xc5 a).2
 have h4:x<rt a+1:=Xyv (by omega)
 omega
theorem Xuc{a B n:Nat}(h:a<2^B)(hn:B<=2*n): rt a<2^n:=by
 refine Xyv ?_
 rw[<-W0z,<-Nat.two_mul]
 exact W1y (Xc5 a).1 (W0s h (W0m (by decide) hn))
theorem Xh6(n:Nat): 4294967296^(n/32)*2^(n%32)=2^n:=by
 rw[show (4294967296:Nat)=2^32 from rfl,<-W4y,<-W0z]
 congr 1
 omega
theorem Xou(n:Nat): dig (2^n)=(List.replicate (n/32+1) 0).set (n/32) (2^(n%32)):=by
 have hb:2^(n%32)<4294967296:=W0s (W3u (by decide) (W2d n (by decide))) (by decide)
 have hv:val ((List.replicate (n/32+1) 0).set (n/32) (2^(n%32)))=2^n:=by
  have:=Xbb (l:=List.replicate (n/32+1) 0) (k:=n/32) (d:=2^(n%32)) (by simp)
  rw[W0b (by simp),W5h,Xbq,W1k,Xh6] at this
  exact this
 have hw:Xan ((List.replicate (n/32+1) 0).set (n/32) (2^(n%32))):=by
  intro y hy
  rcases W5b hy with h | h
  . have:=W6a h;omega
  . omega
 rw[<-hv]
 refine Xdc hw (Xfi hw (by simp) ?_)
 rw[hv,W3q,W1v,W3j,<-Xh6 n]
 exact W4i _ (W0u _)
theorem Xat(a b:Int): (a<b/\Xa5 a b=-1)\/(a=b/\Xa5 a b=0)\/(b<a/\Xa5 a b=1):=by
 unfold Xa5
 split
 . left;exact⟨by assumption,rfl⟩
 . split
   . right;right;exact⟨by omega,rfl⟩
   . right;left;exact⟨by omega,rfl⟩
theorem Xfg{l:List Nat}{j x:Nat}(h:l[j]?=some x): val l=val (l.take j)+4294967296^j*(x+4294967296*val (l.drop (j+1))):=by
 have hj:j<l.length:=(W1d.1 h).1
 rw[Xbi l j (by omega),Xbr h]
end Go.Num
namespace Go.Proofs.YtclgppjdhndgiaaGreatDoor
open Go Go.Vm Go.Num
section
theorem Xaw(z:Int): (z<0/\z=-(z.natAbs:Int))\/(¬z<0/\z=(z.natAbs:Int)):=by omega
theorem Yb4(z:Int): sg (!decide (z<0)) z.natAbs=-z:=by
 rcases Xaw z with ⟨h,e⟩ | ⟨h,e⟩<;>simp[sg,h]<;>omega
theorem Yb5(x y:Int): sg (decide (x<0) != decide (y<0)) (x.natAbs*y.natAbs)=x*y:=by
 rcases Xaw x with ⟨h,e⟩ | ⟨h,e⟩<;>rcases Xaw y with ⟨h',e'⟩ | ⟨h',e'⟩ <;>
  (simp only[sg,h,h',decide_true,decide_false]
   generalize x.natAbs=a at *
   generalize y.natAbs=b at *
   subst e
   subst e'
   simp[Int.neg_mul,Int.mul_neg])
theorem Yb6{x y:Int}(h:decide (x<0)=decide (y<0)): sg (decide (x<0)) (x.natAbs+y.natAbs)=x+y:=by
 rcases Xaw x with ⟨h1,e⟩ | ⟨h1,e⟩<;>rcases Xaw y with ⟨h2,e'⟩ | ⟨h2,e'⟩<;>simp[h1,h2] at h<;>simp[sg,h1]<;>omega
theorem Xp4{x y:Int}(h:decide (x<0)≠decide (y<0))(hle:y.natAbs<=x.natAbs): sg (decide (x<0)) (x.natAbs-y.natAbs)=x+y:=by
 rcases Xaw x with ⟨h1,e⟩ | ⟨h1,e⟩<;>rcases Xaw y with ⟨h2,e'⟩ | ⟨h2,e'⟩<;>simp[h1,h2] at h<;>simp[sg,h1]<;>omega
theorem Xw2{n:Nat}(h:(dig n).length<=2): n<18446744073709551616:=by
 have:=Xc0 n
 have h1:4294967296^(dig n).length<=4294967296^2:=W0m (by decide) h
 omega
theorem Xg4(n:Nat): sg false n=(n:Int):=rfl
theorem Yaa{a b:Int}(hb:b≠0)(h:decide (a<0)=decide (b<0)): sg (decide (a<0) != decide (b<0)) (a.natAbs/b.natAbs)=a.fdiv b/\sg (decide (b<0)) (a.natAbs%b.natAbs)=a.fmod b:=by
 rcases Xaw a with ⟨h1,e⟩ | ⟨h1,e⟩<;>rcases Xaw b with ⟨h2,e'⟩ | ⟨h2,e'⟩<;>simp[h1,h2] at h<;>simp only[sg,h1,h2,decide_true,decide_false]
 all_goals
  generalize a.natAbs=x at *
  generalize b.natAbs=y at *
  subst e
  subst e'
  simp[W1w,W5q]
theorem Yft(x y:Nat)(hy:0<y): (-(x:Int)).fdiv y=-((x/y+if 0<x%y then 1 else 0:Nat):Int)/\(-(x:Int)).fmod y=((if 0<x%y then y-x%y else 0:Nat):Int):=by
 rw[W1w _ (by omega),W5q _ (by omega)]
 have h1:=W2p x y
 have h2:=W2d x hy
 refine(W7v (by omega)).2 ?_
 generalize x/y=q at *
 generalize x%y=r at *
 split
 . refine⟨?_,by omega,by omega⟩
   rw[<-h1,Int.natCast_sub (by omega)]
   push_cast
   grind
 . have:r=0:=by omega
   subst this
   refine⟨?_,by omega,by omega⟩
   rw[<-h1]
   push_cast
   grind
theorem Xre{a b:Int}(hb:b≠0)(h:decide (a<0)≠decide (b<0)): sg (decide (a<0) != decide (b<0)) (a.natAbs/b.natAbs+if 0<a.natAbs%b.natAbs then 1 else 0)=a.fdiv b/\sg (decide (b<0)) (if 0<a.natAbs%b.natAbs then b.natAbs-a.natAbs%b.natAbs else 0)=a.fmod b:=by
 rcases Xaw a with ⟨h1,e⟩ | ⟨h1,e⟩<;>rcases Xaw b with ⟨h2,e'⟩ | ⟨h2,e'⟩<;>simp[h1,h2] at h<;>simp only[sg,h1,h2,decide_true,decide_false]
 all_goals
  generalize a.natAbs=x at *
  generalize b.natAbs=y at *
  subst e
  subst e'
  have hf:=Yft x y (by omega)
 . rw[hf.1,hf.2]
   exact⟨rfl,rfl⟩
 . have e1:(x:Int).fdiv (-(y:Int))=(-(x:Int)).fdiv y:=by rw[<-W7o,Int.neg_neg]
   have e2:(x:Int).fmod (-(y:Int))=-((-(x:Int)).fmod y):=by rw[<-Int.neg_fmod_neg,Int.neg_neg]
   rw[e1,e2,hf.1,hf.2]
   exact⟨rfl,rfl⟩
theorem Xm7{a b:Int}(h:Xa5 a 0≠Xa5 b 0): Xa5 (Xa5 a 0) (Xa5 b 0)=Xa5 a b:=by
 rcases Xat a 0 with ⟨h1,e1⟩ | ⟨h1,e1⟩ | ⟨h1,e1⟩<;>rcases Xat b 0 with ⟨h2,e2⟩ | ⟨h2,e2⟩ | ⟨h2,e2⟩<;>rw[e1,e2] at h |- <;>
  first | exact absurd rfl h | (rcases Xat a b with ⟨h3,e3⟩ | ⟨h3,e3⟩ | ⟨h3,e3⟩<;>rw[e3]<;>first | rfl | omega)
theorem Xm8{a b:Int}(h:Xa5 a 0=Xa5 b 0): Xa5 a 0*Xa5 (a.natAbs:Int) (b.natAbs:Int)=Xa5 a b:=by
 rcases Xat a 0 with ⟨h1,e1⟩ | ⟨h1,e1⟩ | ⟨h1,e1⟩<;>rcases Xat b 0 with ⟨h2,e2⟩ | ⟨h2,e2⟩ | ⟨h2,e2⟩<;>rw[e1,e2] at h <;>
  first | (exact absurd h (by decide)) | (rw[e1];rcases Xat a b with ⟨h3,e3⟩ | ⟨h3,e3⟩ | ⟨h3,e3⟩<;>rcases Xat (a.natAbs:Int) (b.natAbs:Int) with ⟨h4,e4⟩ | ⟨h4,e4⟩ | ⟨h4,e4⟩<;>rw[e3,e4]<;>first | rfl | omega)
theorem Xxp{t:Nat}(h:t<4294967296): bl t<=32:=by
 by_cases h0:t=0
 . subst h0;decide
 . have:=(Xcg h0).1
   by_cases h2:bl t<=32
   . exact h2
   . have:2^32<=2^(bl t-1):=W0m (by decide) (by omega)
     omega
theorem Xph{n m t:Nat}(hm:m=(dig n).length)(hm0:0<m)(ht:(dig n)[m-1]?=some t): n<2^(32*(m-1)+bl t):=by
 have h0:=Xfg ht
 have hd:(dig n).drop (m-1+1)=[]:=W1m (by omega)
 rw[Xaf,hd] at h0
 have h1:=Xbw ((Xad n).take (m-1))
 rw[W0j,show min (m-1) (dig n).length=m-1 by omega] at h1
 have e:(4294967296:Nat)^(m-1)=2^(32*(m-1)):=by rw[show (4294967296:Nat)=2^32 from rfl,<-W4y]
 have h2:t<2^bl t:=by
  by_cases ht0:t=0
  . subst ht0;exact W0u _
  . exact(Xcg ht0).2.1
 have h3:=W0p (4294967296^(m-1)) (show t+1<=2^bl t from h2)
 rw[W0y,W3z] at h3
 rw[W0z,<-e]
 simp only[val,W3h,W2o] at h0
 omega
theorem Yen{n:Nat}: 2^(n%32)<4294967296:=W0s (W3u (by decide) (W2d n (by decide))) (by decide)
theorem Xog{n:Nat}: (dig (2^n)).length=n/32+1:=by rw[Xou];simp
theorem f0{g:Hp}{K:Hpl}: Fit g K (.st (.pr (.b false) .nil)) (.d (dz 0)):=.sd (.pd (.bd rfl) (.nil (by rw[Int.natAbs_zero,Xak];rfl)))
theorem f0'{g:Hp}{K:Hpl}{z:Int}(h:z=0): Fit g K (.st (.pr (.b false) .nil)) (.d (dz z)):=h ▸ f0
theorem Ydi{a b:Bool}: dc (¬(a=true↔b=true))=(a != b):=by rw[Xw9];cases a<;>cases b<;>rfl
theorem Yn7{a b:Bool}: (a=true↔b=true)↔a=b:=W3p.symm
theorem Xcb{n:Nat}(h:(dig n).length<=1099511627776): C0 116 [.d (ws (dig n))] (·=.d (ws (dig n))):=trim_dig_ok h
theorem Norm_ok{z:Int}(h:(dig z.natAbs).length<=1099511627776): C0 204 [.d (dz z)] (·=.d (dz z)):=by
 refine En Tryz.func204 λ_ _ _=>?_
 refine Dw rfl ?_
 refine Ce rfl (Xcb h) ?_
 refine Ce rfl (Xbm h) ?_
 refine Ce rfl (Xaj h) ?_
 exact R1 rfl (.eq (by rw[Xp5]))
theorem Neg_ok{z:Int}(h:(dig z.natAbs).length<=1099511627776): C0 42 [.d (dz z)] (·=.d (dz (-z))):=by
 refine En Tryz.func42 λ_ _ _=>?_
 refine Dw rfl ?_
 refine Ce rfl (Xcb h) ?_
 refine Ce rfl (Xbm h) ?_
 refine Ce rfl (Xaj h) ?_
 exact R1 rfl (.eq (by rw[Yb4]))
theorem Sign_ok{z:Int}(h:(dig z.natAbs).length<=1099511627776): C0 113 [.d (dz z)] (·=.d (.int .i64 (Xa5 z 0))):=by
 refine En Tryz.func113 λ_ _ _=>?_
 refine Ce rfl (Xcb h) ?_
 refine By rfl (λh1=>?_) λh1=>?_<;>simp only[lw] at h1
 . have:z=0:=by have:=Xsl.1 (W0n (by omega:(dig z.natAbs).length=0));omega
   exact R1 rfl (.eq (by rw[this];rfl))
 . have h0:z≠0:=λe=>h1 (by rw[e,Int.natAbs_zero,Xak];rfl)
   refine By rfl (λh2=>?_) λh2=>?_
   . exact R1 rfl (.eq (by rw[Xa5,if_pos h2]))
   . exact R1 rfl (.eq (by rw[Xa5,if_neg h2,if_pos (by omega)]))
theorem Cmp_ok{a b:Int}(ha:(dig a.natAbs).length<=1099511627776)(hb:(dig b.natAbs).length<=1099511627776): C0 40 [.d (dz a),.d (dz b)] (·=.d (.int .i64 (Xa5 a b))):=by
 refine En Tryz.func40 λ_ _ _=>?_
 refine Dw rfl ?_
 refine Ce rfl (Sign_ok ha) ?_
 refine Ce rfl (Sign_ok hb) ?_
 refine By rfl (λh1=>?_) λh1=>?_
 . refine Ce rfl Xc1 ?_
   exact R1 rfl (.eq (by rw[Xm7 h1]))
 . have h1:Xa5 a 0=Xa5 b 0:=W2h.1 h1
   refine Dw rfl ?_
   refine Ce rfl (Xcb ha) ?_
   refine Ce rfl (Xcb hb) ?_
   refine Ce rfl (Xby ha) ?_
   refine Ar (Xa5 a b) rfl ?_ (wr (Xm8 h1) (by simp only[inK];rcases Xat a b with ⟨g1,g2⟩ | ⟨g1,g2⟩ | ⟨g1,g2⟩<;>omega))
   exact R0
theorem Mul_ok{a b:Int}(ha:(dig a.natAbs).length<=549755813888)(hb:(dig b.natAbs).length<=549755813888): C0 150 [.d (dz a),.d (dz b)] (·=.d (dz (a*b))):=by
 refine En Tryz.func150 λ_ _ _=>?_
 refine Dw rfl ?_
 refine Ce rfl (Xcb (by omega)) ?_
 refine Ce rfl (Xcb (by omega)) ?_
 refine Ce rfl (Xki ha hb) ?_
 refine Ce rfl (Xaj (W0l (Xk3 ..) (by omega))) ?_
 exact R1 rfl (.eq (by rw[Ydi,Yb5]))
theorem Yn0{x y:Nat}: ¬Xa5 (x:Int) (y:Int)<0↔y<=x:=by rw[Yau];omega
theorem Add_ok{a b:Int}(ha:(dig a.natAbs).length<=549755813888)(hb:(dig b.natAbs).length<=549755813888): C0 148 [.d (dz a),.d (dz b)] (·=.d (dz (a+b))):=by
 refine En Tryz.func148 λ_ _ _=>?_
 refine Dw rfl ?_
 refine Ce rfl (Xcb (by omega)) ?_
 refine Ce rfl (Xcb (by omega)) ?_
 refine By rfl (λh=>?_) λh=>?_<;>rw[Yn7] at h
 . refine Dw rfl ?_
   refine Ce rfl (Xh7 (by omega) (by omega)) ?_
   refine Ce rfl (Xaj (W0l (Xgg ..) (by omega))) ?_
   exact R1 rfl (.eq (by rw[Yb6 h]))
 . refine Ce rfl (Xby (by omega)) ?_
   refine By rfl (λh1=>?_) λh1=>?_
   . have hle:=W2c (Yau.1 h1)
     refine Dw rfl ?_
     refine Ce rfl (Xdt (by omega) hle) ?_
     refine Ce rfl (Xaj (W0l (Xap (Nat.sub_le ..)) (by omega))) ?_
     exact R1 rfl (.eq (by rw[Xp4 (λe=>h e.symm) hle,Int.add_comm]))
   . have hle:=Yn0.1 h1
     refine Dw rfl ?_
     refine Ce rfl (Xdt (by omega) hle) ?_
     refine Ce rfl (Xaj (W0l (Xap (Nat.sub_le ..)) (by omega))) ?_
     exact R1 rfl (.eq (by rw[Xp4 h hle]))
theorem GCD_ok{a b:Int}(ha:(dig a.natAbs).length<=549755813888)(hb:(dig b.natAbs).length<=549755813888): C0 242 [.d (dz a),.d (dz b)] (·=.d (dz (Int.gcd a b))):=by
 have hz:∀ {x:Nat},(dig x).length=0↔x=0:=λ{x}=>⟨λh=>Xsl.1 (W0n h),λh=>by rw[h,Xak];rfl⟩
 refine En Tryz.func242 λ_ _ _=>?_
 refine Dw rfl ?_
 refine Ce rfl (Xcb (by omega)) ?_
 refine Ce rfl (Xcb (by omega)) ?_
 refine Cu (some 1000000) (λ((x,y):Nat×Nat)=>[(4,.ptr 4 0),(5,.d (ws (dig x))),(6,.d (ws (dig y)))]) (λ_=>[(4,.var (.st (.pr (.b false) .nil)))]) (λ(x,y)=>Nat.gcd x y=Int.gcd a b/\(dig x).length<=549755813888/\(dig y).length<=2/\((dig x).length<=2\/y=0)) rfl ?_ λ⟨x,y⟩ ⟨hg,hx,hy,hxy⟩=>?_
 . refine Lo (λ((x,y):Nat×Nat)=>[(4,.ptr 4 0),(5,.d (ws (dig x))),(6,.d (ws (dig y)))]) (λ_=>[(4,.var (.st (.pr (.b false) .nil)))]) (λ(x,y)=>Nat.gcd x y=Int.gcd a b/\(dig x).length<=549755813888/\(dig y).length<=549755813888) (λ(_,y)=>y) (a.natAbs,b.natAbs) [] rfl ⟨rfl,ha,hb⟩ λ⟨x,y⟩ ⟨hg,hx,hy⟩=>?_
   have step:y≠0->Nat.gcd y (x%y)=Int.gcd a b/\(dig y).length<=549755813888/\(dig (x%y)).length<=549755813888/\x%y<y:=λh0=>by
    have hlt:=W2d x (W2n h0)
    exact⟨by rw[<-hg,W7c y,<-Nat.gcd_rec,W7c],hy,W0l (Xap (W2c hlt)) hy,hlt⟩
   refine By rfl (λh1=>?_) λh1=>?_<;>simp only[lw] at h1
   . have h0:y≠0:=λe=>by have:=hz.2 e;omega
     refine Ce rfl (Xcu hx hy h0) ?_
     have h2:=step h0
     exact Bk (y,x%y) [] rfl ⟨h2.1,h2.2.1,h2.2.2.1⟩ h2.2.2.2
   refine By rfl (λh2=>?_) λh2=>?_<;>simp only[lw] at h2
   . refine By rfl (λh3=>?_) λh3=>?_<;>simp only[lw] at h3
     . have h0:y≠0:=λe=>by have:=hz.2 e;omega
       refine Ce rfl (Xcu hx hy h0) ?_
       have h2:=step h0
       exact Bk (y,x%y) [] rfl ⟨h2.1,h2.2.1,h2.2.2.1⟩ h2.2.2.2
     . exact Jn (x,y) [] rfl ⟨hg,hx,by omega,.inr (hz.1 (by omega))⟩
   . exact Jn (x,y) [] rfl ⟨hg,hx,by omega,.inl (by omega)⟩
 refine By rfl (λh=>?_) λh=>?_<;>simp only[lw] at h
 . have h0:y=0:=hz.1 (by omega)
   subst h0
   rw[Nat.gcd_zero_right] at hg
   refine Ce rfl (Xbm (by omega)) ?_
   refine Ce rfl (Xaj (b:=false) (by omega)) ?_
   exact R1 rfl (.eq (by rw[Xg4,hg]))
 . have hlt1:x<18446744073709551616:=Xw2 (by rcases hxy with h | h;exact h;exact absurd (hz.2 h) (by omega))
   have hlt2:y<18446744073709551616:=Xw2 (by omega)
   refine Ce rfl (Xfj hlt1) ?_
   refine Ce rfl (Xfj hlt2) ?_
   refine Lo (λ((x,y):Nat×Nat)=>[(4,.ptr 4 0),(9,.d (.int .u64 x)),(10,.d (.int .u64 y))]) (λ_=>[(4,.var (.st (.pr (.b false) .nil)))]) (λ(x,y)=>x<18446744073709551616/\y<18446744073709551616/\Nat.gcd x y=Int.gcd a b) (λ(_,y)=>y) (x,y) [] rfl ⟨hlt1,hlt2,hg⟩ λ⟨x,y⟩ ⟨hx,hy,hg⟩=>?_
   refine By rfl (λh=>?_) λh=>?_
   . have hy0:y≠0:=by omega
     have hltm:=W2d x (W2n hy0)
     refine Dw rfl ?_
     refine Ar (x%y:Nat) rfl ?_ (show _/\_ from⟨by omega,Xte x y⟩)
     exact Bk (y,x%y) [] rfl ⟨hy,by omega,by rw[<-hg,W7c y,<-Nat.gcd_rec,W7c]⟩ hltm
   . have h0:y=0:=by omega
     subst h0
     rw[Nat.gcd_zero_right] at hg
     refine Ce rfl (Xb6 hx) ?_
     refine Ce rfl (Xaj (b:=false) (W0l (Xaq (k:=2) (by omega)) (by omega))) ?_
     exact R1 rfl (.eq (by rw[Xg4,hg]))
theorem Yhf: dig 1=[1]:=by rw[Xe6 (by decide),show 1/4294967296=0 from rfl,Xak]
theorem Xzj{x:Nat}(hx:(dig x).length<=1099511627775): C0 239 [.d (ws (dig x)),.d (.sl 1 [.int .u32 1])] (·=.d (ws (dig (x+1)))):=by
 have:=Xh7 (y:=1) hx (by rw[Yhf];decide)
 rw[Yhf] at this
 exact this
theorem DivMod_ok{a b:Int}(ha:(dig a.natAbs).length<=549755813888)(hb:(dig b.natAbs).length<=549755813888)(hb0:b≠0): C0 333 [.d (dz a),.d (dz b)] (·=.tup (.pr (.d (dz (a.fdiv b))) (.pr (.d (dz (a.fmod b))) (.d (.int .i64 0))))):=by
 have hz:∀ {x:Nat},(dig x).length=0↔x=0:=λ{x}=>⟨λh=>Xsl.1 (W0n h),λh=>by rw[h,Xak];rfl⟩
 have hq:(dig (a.natAbs/b.natAbs)).length<=549755813888:=W0l (Xap (W4h ..)) ha
 have hr:(dig (a.natAbs%b.natAbs)).length<=549755813888:=W0l (Xap (Nat.mod_le ..)) ha
 have hq1:(dig (a.natAbs/b.natAbs+1)).length<=549755813889:=W0l (Xgg ..) (by rw[Yhf];simp;omega)
 refine En Tryz.func333 λ_ _ _=>?_
 refine Ce rfl (Xcb (by omega)) ?_
 refine By rfl (λh=>?_) λh=>?_<;>simp only[lw] at h
 . exact absurd ((@hz b.natAbs).1 (by omega)) (by omega)
 refine Ce rfl (Xcb (by omega)) ?_
 refine Ce rfl (Xcu ha hb (by omega)) ?_
 refine By rfl (λh1=>?_) λh1=>?_<;>rw[Yn7] at h1
 . refine By rfl (λh2=>?_) λh2=>?_<;>simp only[lw] at h2
   . have hp:0<a.natAbs%b.natAbs:=W2n λe=>by have:=hz.2 e;omega
     have hf:=Xre hb0 h1
     rw[if_pos hp,if_pos hp] at hf
     refine Ce rfl (Xzj (x:=a.natAbs/b.natAbs) (by omega)) ?_
     refine Ce rfl (Xdt (by omega) (W2c (W2d _ (by omega)))) ?_
     refine Dw rfl ?_
     refine Ce rfl (Xaj (by omega)) ?_
     refine Ce rfl (Xaj (W0l (Xap (Nat.sub_le ..)) (by omega))) ?_
     exact RTt rfl (.cons (.eq (by rw[Ydi,hf.1])) (.cons (.eq (by rw[hf.2])) (.one (.rf rfl) (λ_ _ e=>by cases e) (λ_ _ e=>by cases e))))
   . have hp:¬0<a.natAbs%b.natAbs:=λhp=>by have:=mt hz.1 (W8c.1 hp);omega
     have hf:=Xre hb0 h1
     rw[if_neg hp,if_neg hp,W2o] at hf
     refine Dw rfl ?_
     refine Ce rfl (Xaj (by omega)) ?_
     refine Ce rfl (Xaj (by omega)) ?_
     exact RTt rfl (.cons (.eq (by rw[Ydi,hf.1])) (.cons (.eq (by rw[show a.natAbs%b.natAbs=0 by omega,hf.2])) (.one (.rf rfl) (λ_ _ e=>by cases e) (λ_ _ e=>by cases e))))
 . have hf:=Yaa hb0 (W2h.1 h1)
   refine Dw rfl ?_
   refine Ce rfl (Xaj (by omega)) ?_
   refine Ce rfl (Xaj (by omega)) ?_
   exact RTt rfl (.cons (.eq (by rw[Ydi,hf.1])) (.cons (.eq (by rw[hf.2])) (.one (.rf rfl) (λ_ _ e=>by cases e) (λ_ _ e=>by cases e))))
theorem Xom{x:Nat}(hx:(dig x).length<=549755813888): C0 444 [.d (ws (dig x))] (·=.d (ws (dig (x/2)))):=by
 refine En Tryz.func444 λ_ _ _=>?_
 refine Ca rfl (Xfl (n:=1) (Xad x) hx (by decide)) λv hv=>?_
 obtain⟨l,h1,h2,h3,rfl⟩:=hv
 rw[Xaf] at h1
 refine Ce rfl (Xaz h2 (by omega)) ?_
 exact R1 rfl (.eq (by rw[h1]))
theorem Xg3{j:Nat}(h:j<32): arB .shl .u32 1 j (2^j:Nat):=⟨by omega,by
 rw[W7j,show min j (IntKind.bits .u32)=j from W2b (W2c h),W5w,show (2:Int)^j=((2^j:Nat):Int) by rw[W7t];rfl]
 have:2^j<2^32:=W3u (by decide) h
 exact wW ⟨W5j _,W7b.2 this⟩⟩
theorem Xei{n:Nat}(hn:n<=8796093022210): C0 443 [.d (.int .i64 n)] (·=.d (ws (dig (2^n)))):=by
 refine En Tryz.func443 λ_ _ _=>?_
 refine Ar (n/32:Nat) rfl ?_ (show _/\_ from⟨by decide,by rw[show Int.tdiv (n:Int) 32=((n/32:Nat):Int) from rfl];exact wI (by omega)⟩)
 refine Ar (n/32+1:Nat) rfl ?_
 refine Mk (n/32+1) rfl (by omega) ?_
 refine Ar (n/32:Nat) rfl ?_ (show _/\_ from⟨by decide,by rw[show Int.tdiv (n:Int) 32=((n/32:Nat):Int) from rfl];exact wI (by omega)⟩)
 refine Ar (n%32:Nat) rfl ?_ (show _/\_ from⟨by decide,rfl⟩)
 refine Ar (2^(n%32):Nat) rfl ?_ (Xg3 (W2d _ (by decide)))
 refine Eo (n/32) rfl (by omega) ?_
 refine Sto rfl (by simp) rfl ?_
 refine R1 rfl (.own rfl (by simp) ?_)
 rw[Xou,W1a,W0b (by simp),<-ms,W2g]
 rfl
end
section
theorem Xpa{z:Int}(hl:(dig z.natAbs).length<=549755813888)(h0:z≠0): C0 442 [.d (dz z)] λv=>∃B:Nat,v=.d (.int .i64 B)/\z.natAbs<2^B/\B<=32*(dig z.natAbs).length:=by
 refine En Tryz.func442 λ_ _ _=>?_
 refine Ce rfl (Xcb (by omega)) ?_
 refine By rfl (λh=>?_) λh=>?_<;>simp only[lw] at h
 . exact absurd (Xsl.1 (W0n (by omega:(dig z.natAbs).length=0))) (by omega)
 obtain⟨t,ht⟩:=xat (l:=dig z.natAbs) (k:=(dig z.natAbs).length-1) (by omega)
 have htb:=ww ht (Xad _)
 have hb:=Xxp htb
 refine Ar ((dig z.natAbs).length-1:Nat) rfl ?_ (wr (by simp only[lw];omega) (by simp only[inK];omega))
 refine Ar (32*((dig z.natAbs).length-1):Nat) rfl ?_
 refine Ar ((dig z.natAbs).length-1:Nat) rfl ?_ (wr (by simp only[lw];omega) (by simp only[inK];omega))
 refine Ix ((dig z.natAbs).length-1) rfl (mp ht) ?_
 refine Ce rfl (Xr1 htb) ?_
 refine Ar (32*((dig z.natAbs).length-1)+bl t:Nat) rfl ?_
 exact Rt rfl (.one (.rf rfl) rfl rfl) ⟨_,rfl,Xph rfl (by omega) ht,by omega⟩
theorem Sqrt_ok{a:Nat}(hl:(dig a).length<=274877906944): C0 438 [.d (dz (a:Int))] (·=.tup (.pr (.d (dz (rt a:Int))) (.d (.int .i64 0)))):=by
 have hln:(dig (a:Int).natAbs).length<=274877906944:=by rw[W1l];exact hl
 refine En Tryz.func438 λ_ _ _=>?_
 refine Ce rfl (Sign_ok (z:=a) (by omega)) ?_
 refine By rfl (λh=>?_) λh=>?_
 . rcases Xat (a:Int) 0 with ⟨g1,g2⟩ | ⟨g1,g2⟩ | ⟨g1,g2⟩<;>omega
 refine By rfl (λh1=>?_) λh1=>?_
 . have ha0:a=0:=by rcases Xat (a:Int) 0 with ⟨g1,g2⟩ | ⟨g1,g2⟩ | ⟨g1,g2⟩<;>omega
   exact RTt rfl (.cons (f0' (by rw[ha0];rfl)) (.one (.rf rfl) (λ_ _ e=>by cases e) (λ_ _ e=>by cases e)))
 have ha0:a≠0:=by rcases Xat (a:Int) 0 with ⟨g1,g2⟩ | ⟨g1,g2⟩ | ⟨g1,g2⟩<;>omega
 refine Ca rfl (Xpa (z:=a) (by omega) (by omega)) λv hv=>?_
 obtain⟨B,rfl,hB1,hB2⟩:=hv
 rw[W1l] at hB1 hB2
 refine Ar (B/2:Nat) rfl ?_ (show _/\_ from⟨by decide,by rw[show Int.tdiv (B:Int) 2=((B/2:Nat):Int) from rfl];exact wI (by omega)⟩)
 refine Ar (B/2+1:Nat) rfl ?_
 refine Ce rfl (Xei (n:=B/2+1) (by omega)) ?_
 refine Lo (λ(x:Nat)=>[(1,.ptr 1 0),(2,.ptr 2 0),(3,.d (.int .i64 0)),(5,.d (ws (dig x)))]) (λ_=>[(1,.var (.d (dz a))),(2,.var (.st (.pr (.b false) .nil)))]) (λx=>0<x/\rt a<=x/\x<=2^(B/2+1)) (λx=>x) (2^(B/2+1)) [] rfl
  ⟨W0u _,W2c (Xuc hB1 (by omega)),W0c _⟩ λx ⟨hx0,hxr,hxp⟩=>?_
 have hxl:(dig x).length<=549755813000:=W0l (Xap hxp) (by rw[Xog];omega)
 have hql:(dig (a/x)).length<=274877906944:=W0l (Xap (W4h a x)) hl
 refine Ce (r:=.d (ws (dig a))) rfl (Xcb (n:=a) (by omega)) ?_
 refine Ce rfl (Xcu (by omega) (by omega) (by omega)) ?_
 refine Ce rfl (Xh7 (by omega) (by omega)) ?_
 refine Ce rfl (Xom (W0l (Xgg ..) (by omega))) ?_
 refine Ce rfl (Xby (W0l (Xap (W4h ..)) (W0l (Xgg ..) (by omega)))) ?_
 refine By rfl (λh2=>?_) λh2=>?_
 . have hge:x<=(x+a/x)/2:=by rcases Xat (((x+a/x)/2:Nat):Int) (x:Int) with ⟨g1,g2⟩ | ⟨g1,g2⟩ | ⟨g1,g2⟩<;>omega
   refine Ce rfl (Xaj (b:=false) (by omega)) ?_
   exact RTt rfl (.cons (.eq (by rw[Xse hx0 hge hxr];rfl)) (.one (.rf rfl) (λ_ _ e=>by cases e) (λ_ _ e=>by cases e)))
 . have hlt:(x+a/x)/2<x:=by rcases Xat (((x+a/x)/2:Nat):Int) (x:Int) with ⟨g1,g2⟩ | ⟨g1,g2⟩ | ⟨g1,g2⟩<;>omega
   exact Bk ((x+a/x)/2) [] rfl ⟨W0s (Yih ha0) (Yct hx0),Yct hx0,by omega⟩ hlt
end
end Go.Proofs.YtclgppjdhndgiaaGreatDoor
namespace Go.Num
theorem szl{n p:Nat}(h:n<2^p)(hp:p<=8796093022208): (dig n).length<=274877906945:=by
 have h1:n<4294967296^(p/32+1):=by
  rw[show 4294967296=2^32 from rfl,<-W4y]
  exact W0s h (W0m (by decide) (by omega))
 have:=Xaq h1
 omega
def Zs(p:Nat)(z:Int): Prop:=z.natAbs<2^p
theorem Zs.len{p:Nat}{z:Int}(h:Zs p z)(hp:p<=8796093022208): (dig z.natAbs).length<=274877906945:=szl h hp
theorem Zs.mono{p q:Nat}{z:Int}(h:Zs p z)(hp:p<=q): Zs q z:=W0s h (W0m (by decide) hp)
theorem Zs.mul{p q:Nat}{x y:Int}(h:Zs p x)(k:Zs q y): Zs (p+q) (x*y):=by
 unfold Zs at *
 rw[W4m,W0z]
 exact W5a h k
theorem Zs.add{p q:Nat}{x y:Int}(h:Zs p x)(k:Zs q y): Zs (max p q+1) (x+y):=by
 have h1:=h.mono (Nat.le_max_left p q)
 have h2:=k.mono (Nat.le_max_right p q)
 unfold Zs at *
 have:=Int.natAbs_add_le x y
 rw[W0q]
 omega
theorem Zs.neg{p:Nat}{x:Int}(h:Zs p x): Zs p (-x):=by
 unfold Zs at *
 rwa[W4t]
theorem Zs.gcd{p:Nat}{x y:Int}(h:Zs p y)(h0:y≠0): Zs p (Int.gcd x y:Int):=by
 unfold Zs at *
 have:Int.gcd x y<=y.natAbs:=Nat.le_of_dvd (by omega) (Int.gcd_dvd_natAbs_right x y)
 omega
theorem Zs.one{p:Nat}(hp:1<=p): Zs p 1:=W0s (by decide) (W0m (by decide) hp:2^1<=2^p)
theorem Zs.zero{p:Nat}: Zs p 0:=W0u p
structure Qs (p:Nat) (x:Rat):Prop where
 n:Zs p x.num
 d:Zs p (x.den:Int)
theorem Qs.mono{p q:Nat}{x:Rat}(h:Qs p x)(hp:p<=q): Qs q x:=⟨h.n.mono hp,h.d.mono hp⟩
theorem Qs.neg{p:Nat}{x:Rat}(h:Qs p x): Qs p (-x):=⟨by rw[Rat.neg_num];exact h.n.neg,by rw[Rat.neg_den];exact h.d⟩
theorem Yab(a:Int): a.fdiv 1=a:=by rw[W1w _ (by decide),Int.ediv_one]
theorem Xjr{a b:Int}(hb:b≠0): a.fdiv (if b<0 then -(Int.gcd a b:Int) else (Int.gcd a b:Int))=(Rat.divInt a b).num:=by
 rw[Rat.num_divInt,Int.gcd_comm b a]
 split
 . rename_i h
   rw[show a.fdiv (-(Int.gcd a b:Int))=(-a).fdiv (Int.gcd a b:Int) by rw[<-W7o,Int.neg_neg],Int.sign_eq_neg_one_of_neg h,W1w _ (by omega)]
   congr 1
   omega
 . rw[Int.sign_eq_one_of_pos (by omega),W5w,W1w _ (by omega)]
theorem Xjs{a b:Int}(hb:b≠0): b.fdiv (if b<0 then -(Int.gcd a b:Int) else (Int.gcd a b:Int))=((Rat.divInt a b).den:Int):=by
 rw[Rat.den_divInt,if_neg hb,Int.gcd_comm b a,Int.natCast_ediv]
 split
 . rw[show b.fdiv (-(Int.gcd a b:Int))=(-b).fdiv (Int.gcd a b:Int) by rw[<-W7o,Int.neg_neg],W1w _ (by omega)]
   congr 1
   omega
 . rw[W1w _ (by omega)]
   congr 1
   omega
theorem Xwg{a b:Int}(hb:b≠0): Int.gcd a b≠0:=λh=>hb (Int.gcd_eq_zero_iff.1 h).2
theorem Qs.addNum{p q:Nat}{x y:Rat}(h:Qs p x)(k:Qs q y): Zs (p+q+1) (x.num*y.den+y.num*x.den):=by
 have h1:=(h.n.mul k.d).add (k.n.mul h.d)
 exact h1.mono (by omega)
theorem Xj0(a:Int)(b:Nat): Rat.divInt a (b:Int)=mkRat a b:=Rat.divInt_ofNat a b
theorem Xj5(x y:Rat): x+y=Rat.divInt (x.num*y.den+y.num*x.den) ((x.den:Int)*y.den):=by
 rw[Rat.add_def',<-W2z,Xj0]
theorem Xjp(x y:Rat): x*y=Rat.divInt (x.num*y.num) ((x.den:Int)*y.den):=by
 rw[Rat.mul_def',<-W2z,Xj0]
theorem Xjz(x y:Rat)(h:y≠0): x/y=Rat.divInt (x.num*y.den) ((x.den:Int)*y.num):=by
 rw[W5x,Rat.inv_def]
 conv=>lhs;rw[<-Rat.num_divInt_den x]
 rw[Rat.divInt_mul_divInt]
theorem Yl7{x:Rat}(h:(x.den:Int)=1): x=(x.num:Rat):=Rat.ext rfl (by show x.den=1;omega)
theorem Xro{x y:Rat}(h:(x.den:Int)=1)(k:(y.den:Int)=1): x+y=((x.num+y.num:Int):Rat):=by
 conv=>lhs;rw[Yl7 h,Yl7 k]
 norm_cast
theorem Xrn{x y:Rat}(h:(x.den:Int)=1)(k:(y.den:Int)=1): x*y=((x.num*y.num:Int):Rat):=by
 conv=>lhs;rw[Yl7 h,Yl7 k]
 norm_cast
theorem Xb2(x:Rat): (x.den:Int)≠0:=by have:=x.den_nz;omega
theorem Zs.divInt_num{p:Nat}{a b:Int}(ha:Zs p a): Zs p (Rat.divInt a b).num:=by
 unfold Zs at *
 rw[Rat.num_divInt]
 have h1:(b.sign*a).natAbs<=a.natAbs:=by
  rw[W4m]
  have:b.sign.natAbs<=1:=by rw[Int.natAbs_sign];split<;>omega
  have:=W0v a.natAbs this
  omega
 have h2:((b.sign*a)/(Int.gcd b a:Int)).natAbs<=(b.sign*a).natAbs:=by
  by_cases hg:Int.gcd b a=0
  . rw[hg];simp
  . have hd:(Int.gcd b a:Int) ∣ b.sign*a:=Int.dvd_mul_of_dvd_right (Int.gcd_dvd_right b a)
    obtain⟨c,hc⟩:=hd
    rw[hc,Int.mul_ediv_cancel_left _ (by omega),W4m]
    exact Nat.le_mul_of_pos_left _ (W2n (by rw[W1l];exact hg))
 omega
theorem Zs.divInt_den{p:Nat}{a b:Int}(hb:Zs p b)(h0:b≠0): Zs p ((Rat.divInt a b).den:Int):=by
 unfold Zs at *
 rw[Rat.den_divInt,if_neg h0]
 have:=W4h b.natAbs (Int.gcd b a)
 rw[W1l]
 omega
theorem Qs.divInt{p:Nat}{a b:Int}(ha:Zs p a)(hb:Zs p b)(h0:b≠0): Qs p (Rat.divInt a b):=⟨ha.divInt_num,hb.divInt_den h0⟩
theorem Qs.add{p q:Nat}{x y:Rat}(h:Qs p x)(k:Qs q y): Qs (p+q+1) (x+y):=by
 rw[Xj5]
 exact Qs.divInt (h.addNum k) ((h.d.mul k.d).mono (by omega)) (W6x (Xb2 x) (Xb2 y))
theorem Qs.mul{p q:Nat}{x y:Rat}(h:Qs p x)(k:Qs q y): Qs (p+q) (x*y):=by
 rw[Xjp]
 exact Qs.divInt (h.n.mul k.n) (h.d.mul k.d) (W6x (Xb2 x) (Xb2 y))
theorem Qs.int{p:Nat}{z:Int}(h:Zs p z)(hp:1<=p): Qs p (z:Rat):=⟨h,Zs.one hp⟩
theorem Yat{z:Int}: Xa5 z 0>0↔z>0:=by
 unfold Xa5
 split
 . constructor<;>intro<;>omega
 . split
   . constructor<;>intro<;>omega
   . constructor<;>intro<;>omega
def Xnp(x y:Rat): Int:=if x<y then -1 else if y<x then 1 else 0
theorem Xrs(x y:Rat): Xa5 (x.num*y.den) (y.num*x.den)=Xnp x y:=by
 unfold Xa5 Xnp
 simp only[Rat.lt_iff,gt_iff_lt]
theorem Xm6{x y:Rat}(h:Xa5 x.num 0<Xa5 y.num 0): Xnp x y=-1:=by
 unfold Xnp
 rw[if_pos]
 rw[Rat.lt_iff]
 have hx:=x.den_pos
 have hy:=y.den_pos
 rcases Xat x.num 0 with ⟨h1,e1⟩ | ⟨h1,e1⟩ | ⟨h1,e1⟩<;>rcases Xat y.num 0 with ⟨h2,e2⟩ | ⟨h2,e2⟩ | ⟨h2,e2⟩<;>rw[e1,e2] at h<;>first | omega | skip
 . rw[h2,W5d];exact Int.mul_neg_of_neg_of_pos h1 (by omega)
 . have:=Int.mul_neg_of_neg_of_pos h1 (show (0:Int)<y.den by omega)
   have:=Int.mul_pos h2 (show (0:Int)<x.den by omega)
   omega
 . rw[h1,W5d];exact Int.mul_pos h2 (by omega)
theorem Xm5(x y:Rat): Xnp x y=- Xnp y x:=by
 unfold Xnp
 by_cases h1:x<y
 . have:¬y<x:=by grind
   rw[if_pos h1,if_neg this,if_pos h1]
 . rw[if_neg h1]
   by_cases h2:y<x
   . rw[if_pos h2,if_pos h2];rfl
   . rw[if_neg h2,if_neg h2,if_neg h1];rfl
end Go.Num
namespace Go.Proofs.YtclgppjdhndgiaaGreatDoor
open Go Go.Vm Go.Num
def dq(x:Rat): D:=.st (.pr (dz x.num) (dz x.den))
theorem Ypb{n:Nat}: (dig n).length=0↔n=0:=⟨λh=>Xsl.1 (W0n h),λh=>by rw[h,Xak];rfl⟩
theorem fst{g:Hp}{K:Hpl}{a:AV}{x:D}(h:Fit g K a (.d x)): Fit g K (.st a) (.d (.st x)):=.sd h
theorem Xev: C0 149 [] (·=.d (dz 1)):=by
 refine En Tryz.func149 λ_ _ _=>?_
 refine Ce rfl (FromInt_ok (z:=1) (by decide)) ?_
 exact R0
theorem Xuw{z:Int}: (dig z.natAbs=[1]/\¬z<0)↔z=1:=by
 constructor
 . rintro⟨h1,h2⟩
   have:=Xaf z.natAbs
   rw[h1] at this
   simp[val] at this
   omega
 . rintro rfl
   exact⟨Yhf,by decide⟩
theorem Ypa{l:List Nat}{u:Nat}(h:l.length=1)(hu:l[0]?=some u): l=[u]:=by
 match l,h,hu with
 | [a],_,hu=>simp at hu;rw[hu]
theorem Xek{z:Int}: C0 147 [.d (dz z)] (·=.b (dc (z=1))):=by
 refine En Tryz.func147 λ_ _ _=>?_
 refine By rfl (λh=>?_) λh=>?_
 . refine By rfl (λh1=>?_) λh1=>?_<;>simp only[lw] at h1
   . obtain⟨u,hu⟩:=xat (l:=dig z.natAbs) (k:=0) (by omega)
     have hl:=Ypa (by omega) hu
     refine Ix 0 rfl (mp hu) ?_
     refine R1 rfl (.bp ?_)
     refine Xal.trans (Iff.trans ?_ Xuw)
     rw[hl]
     constructor
     . intro e;exact⟨by rw[show u=1 by omega],h⟩
     . rintro⟨e,_⟩;injection e with e;omega
   . exact R1 rfl (.bp ⟨nofun,λe=>absurd (by rw[e];show ((dig 1).length:Int)=1;rw[Yhf];rfl) h1⟩)
 . exact R1 rfl (.bp ⟨nofun,λe=>absurd (by rw[e];decide) h⟩)
theorem Xig{z:Int}: C0 206 [.d (dz z)] (·=.b (dc (z=0))):=by
 refine En Tryz.func206 λ_ _ _=>?_
 refine R1 rfl (.bp ?_)
 simp only[Xal,lw]
 rw[show ((dig z.natAbs).length:Int)=0↔(dig z.natAbs).length=0 by omega,Ypb];omega
theorem Xcc{a b:Int}(ha:(dig a.natAbs).length<=549755813888)(hb:(dig b.natAbs).length<=549755813888)(hb0:b≠0): C0 243 [.d (dz a),.d (dz b)] (·=.d (dz (a.fdiv b))):=by
 refine En Tryz.func243 λ_ _ _=>?_
 refine Ce rfl Xek ?_
 refine By rfl (λh=>?_) λh=>?_
 . exact R1 rfl (.eq (show dz a=dz (a.fdiv b) by rw[h,Yab]))
 . refine Ce rfl (DivMod_ok ha hb hb0) ?_
   exact R0
theorem Xfr{a b:Int}{p:Nat}(ha:Zs p a)(hb:Zs p b)(hp:p<=8796093022208)(hb0:b≠0): C0 151 [.d (dz a),.d (dz b)] (·=.d (dq (Rat.divInt a b))):=by
 have hg:Zs p (Int.gcd a b:Int):=hb.gcd hb0
 have hla:=ha.len hp
 have hlb:=hb.len hp
 have hlg:=hg.len hp
 refine En Tryz.func151 λ_ _ _=>?_
 refine Ce rfl (GCD_ok (by omega) (by omega)) ?_
 have h0:=Xwg (a:=a) hb0
 have key:∀g:Int,g=(if b<0 then -(Int.gcd a b:Int) else (Int.gcd a b:Int))->D.st (.pr (dz (a.fdiv g)) (dz (b.fdiv g)))=dq (Rat.divInt a b):=λg hg=>by rw[hg,Xjr hb0,Xjs hb0];rfl
 refine By rfl (λh=>?_) λh=>?_
 . refine Ce rfl (Neg_ok (by omega)) ?_
   refine Dw rfl ?_
   refine Ce rfl (Xcc (by omega) (by rw[W4t];omega) (by omega)) ?_
   refine Ce rfl (Xcc (by omega) (by rw[W4t];omega) (by omega)) ?_
   exact R1 rfl (.eq (key _ (by rw[if_pos h])))
 . refine Dw rfl ?_
   refine Ce rfl (Xcc (by omega) (by omega) (by omega)) ?_
   refine Ce rfl (Xcc (by omega) (by omega) (by omega)) ?_
   exact R1 rfl (.eq (key _ (by rw[if_neg h])))
theorem Make_ok{a b:Int}{p:Nat}(ha:Zs p a)(hb:Zs p b)(hp:p<=8796093022208)(hb0:b≠0): C0 119 [.d (dz a),.d (dz b)] (·=.tup (.pr (.d (dq (Rat.divInt a b))) (.d (.int .i64 0)))):=by
 have hla:=ha.len hp
 have hlb:=hb.len hp
 refine En Tryz.func119 λ_ _ _=>?_
 refine Dw rfl ?_
 refine Ce rfl (Norm_ok (by omega)) ?_
 refine Ce rfl (Norm_ok (by omega)) ?_
 refine Ce rfl Xig ?_
 refine No rfl hb0 ?_
 refine Ce rfl (Xfr ha hb hp hb0) ?_
 exact R0t
theorem Xa3{z:Int}(h:-9223372036854775808<=z/\z<9223372036854775808): C0 112 [.d (.int .i64 z)] (·=.d (dq z)):=by
 refine En Tryz.func112 λ_ _ _=>?_
 refine Ce rfl (FromInt_ok h) ?_
 refine Ce rfl Xev ?_
 exact R0
theorem Xkt{a b:Int}(ha:-9223372036854775808<=a/\a<9223372036854775808)(hb:0<b/\b<9223372036854775808): C0 64 [.d (.int .i64 a),.d (.int .i64 b)] (·=.d (dq (Rat.divInt a b))):=by
 refine En Tryz.func64 λ_ _ _=>?_
 refine Ce rfl (FromInt_ok ha) ?_
 refine Ce rfl (FromInt_ok (by omega)) ?_
 refine Ce rfl (Make_ok (p:=64) (by unfold Zs;omega) (by unfold Zs;omega) (by decide) (by omega)) ?_
 refine No rfl (by decide) ?_
 exact R0
theorem Xfn{x:Rat}{p:Nat}(hx:Qs p x)(hp:p<=8796093022208): C0 366 [.d (dq x)] (·=.d (.int .i64 (Xa5 x.num 0))):=by
 have:=hx.n.len hp
 refine En Tryz.func366 λ_ _ _=>?_
 refine Ce rfl (Sign_ok (by omega)) ?_
 exact R0
theorem Xks{x:Rat}{p:Nat}(hx:Qs p x)(hp:p<=8796093022208): C0 146 [.d (dq x)] (·=.d (dq (-x))):=by
 have:=hx.n.len hp
 refine En Tryz.func146 λ_ _ _=>?_
 refine Dw rfl ?_
 refine Ce rfl (Neg_ok (by omega)) ?_
 exact R1 rfl (.eq (show D.st (.pr (dz (-x.num)) (dz x.den))=dq (-x) by unfold dq;rw[Rat.neg_num,Rat.neg_den]))
abbrev q0: AV:=.st (.pr (.st (.pr (.b false) .nil)) (.st (.pr (.b false) .nil)))
theorem Xh2{x y:Rat}{p q:Nat}(hx:Qs p x)(hy:Qs q y)(hp:p+q<=8796093022208): C0 326 [.d (dq x),.d (dq y)] (·=.d (dq (x*y))):=by
 have h1:=hx.n.len (by omega)
 have h2:=hx.d.len (by omega)
 have h3:=hy.n.len (by omega)
 have h4:=hy.d.len (by omega)
 refine En Tryz.func326 λ_ _ _=>?_
 refine Cu (some 1) (λ(b:Bool)=>[(2,.ptr 2 0),(3,.ptr 3 0),(4,.ptr 4 0),(12,.b b)]) (λ_=>[(2,.var (.d (dq x))),(3,.var (.d (dq y))),(4,.var q0)]) (λb=>b=true->(x.den:Int)=1/\(y.den:Int)=1) rfl ?_ λb hb=>?_
 . refine Ce rfl Xek ?_
   refine By rfl (λh=>?_) λh=>?_
   . refine Ce rfl Xek ?_
     exact Jn (dc _) [] rfl λe=>⟨h,Xal.1 e⟩
   . exact Jn false [] rfl nofun
 refine By rfl (λh=>?_) λh=>?_
 . obtain⟨d1,d2⟩:=hb h
   refine Ce rfl (Mul_ok (by omega) (by omega)) ?_
   refine Ce rfl Xev ?_
   exact R1 rfl (.eq (show _=dq _ by rw[Xrn d1 d2];rfl))
 . refine Dw rfl ?_
   refine Ce rfl (Mul_ok (by omega) (by omega)) ?_
   refine Ce rfl (Mul_ok (by omega) (by omega)) ?_
   refine Ce rfl (Xfr (hx.n.mul hy.n) (hx.d.mul hy.d) hp (W6x (Xb2 x) (Xb2 y))) ?_
   exact R1 rfl (.eq (by rw[Xjp]))
theorem Xdq{x y:Rat}{p q:Nat}(hx:Qs p x)(hy:Qs q y)(hp:p+q+1<=8796093022208): C0 66 [.d (dq x),.d (dq y)] (·=.d (dq (x+y))):=by
 have h1:=hx.n.len (by omega)
 have h2:=hx.d.len (by omega)
 have h3:=hy.n.len (by omega)
 have h4:=hy.d.len (by omega)
 have h5:=(hx.n.mul hy.d).len (by omega)
 have h6:=(hy.n.mul hx.d).len (by omega)
 refine En Tryz.func66 λ_ _ _=>?_
 refine Cu (some 1) (λ(b:Bool)=>[(2,.ptr 2 0),(3,.ptr 3 0),(4,.ptr 4 0),(13,.b b)]) (λ_=>[(2,.var (.d (dq x))),(3,.var (.d (dq y))),(4,.var q0)]) (λb=>b=true->(x.den:Int)=1/\(y.den:Int)=1) rfl ?_ λb hb=>?_
 . refine Ce rfl Xek ?_
   refine By rfl (λh=>?_) λh=>?_
   . refine Ce rfl Xek ?_
     exact Jn (dc _) [] rfl λe=>⟨h,Xal.1 e⟩
   . exact Jn false [] rfl nofun
 refine By rfl (λh=>?_) λh=>?_
 . obtain⟨d1,d2⟩:=hb h
   refine Ce rfl (Add_ok (by omega) (by omega)) ?_
   refine Ce rfl Xev ?_
   exact R1 rfl (.eq (show _=dq _ by rw[Xro d1 d2];rfl))
 . refine Dw rfl ?_
   refine Ce rfl (Mul_ok (by omega) (by omega)) ?_
   refine Ce rfl (Mul_ok (by omega) (by omega)) ?_
   refine Ce rfl (Add_ok (by omega) (by omega)) ?_
   refine Dw rfl ?_
   refine Ce rfl (Mul_ok (by omega) (by omega)) ?_
   refine Ce rfl (Xfr (p:=p+q+1) (Qs.addNum hx hy) ((hx.d.mul hy.d).mono (by omega)) hp (W6x (Xb2 x) (Xb2 y))) ?_
   exact R1 rfl (.eq (by rw[Xj5]))
theorem Xuo{x y:Rat}{p q:Nat}(hx:Qs p x)(hy:Qs q y)(hp:p+q+1<=8796093022208): C0 65 [.d (dq x),.d (dq y)] (·=.d (dq (x-y))):=by
 refine En Tryz.func65 λ_ _ _=>?_
 refine Dw rfl ?_
 refine Ce rfl (Xks hy (by omega)) ?_
 refine Ce rfl (Xdq hx hy.neg hp) ?_
 exact R1 rfl (.eq (by rw[W5k]))
theorem Yek{x y:Rat}{p q:Nat}(hx:Qs p x)(hy:Qs q y)(hp:p+q<=8796093022208)(h0:y≠0): C0 439 [.d (dq x),.d (dq y)] (·=.tup (.pr (.d (dq (x/y))) (.d (.int .i64 0)))):=by
 have h1:=hx.n.len (by omega)
 have h2:=hx.d.len (by omega)
 have h3:=hy.n.len (by omega)
 have h4:=hy.d.len (by omega)
 have hn:y.num≠0:=λe=>h0 (W5o.1 e)
 refine En Tryz.func439 λ_ _ _=>?_
 refine Ce rfl Xig ?_
 refine No rfl hn ?_
 refine Dw rfl ?_
 refine Ce rfl (Mul_ok (by omega) (by omega)) ?_
 refine Ce rfl (Mul_ok (by omega) (by omega)) ?_
 refine Ce rfl (Xfr (hx.n.mul hy.d) (hx.d.mul hy.n) hp (W6x (Xb2 x) hn)) ?_
 exact RTt rfl (.cons (.eq (by rw[Xjz _ _ h0])) (.one (.rf rfl) (λ_ _ e=>by cases e) (λ_ _ e=>by cases e)))
def rz: D:=.st (.pr (.st (.pr (.bool false) (.sl 1 []))) (.st (.pr (.bool false) (.sl 1 []))))
theorem Yj4{g:Hp}{K:Hpl}: Fit g K q0 (.d rz):=.sd (.pd (.sd (.pd (.bd rfl) (.nil rfl))) (.sd (.pd (.bd rfl) (.nil rfl))))
theorem Xzc{x y:Rat}(h0:y=0): C0 439 [.d (dq x),.d (dq y)] (·=.tup (.pr (.d rz) (.d (.int .i64 6)))):=by
 refine En Tryz.func439 λ_ _ _=>?_
 refine Ce rfl Xig ?_
 refine Yes rfl (by rw[h0];rfl) ?_
 exact RTt rfl (.cons Yj4 (.one (.rf rfl) (λ_ _ e=>by cases e) (λ_ _ e=>by cases e)))
theorem Xh3{x y:Rat}{p q:Nat}(hx:Qs p x)(hy:Qs q y)(hp:p+q<=8796093022208): C0 303 [.d (dq x),.d (dq y)] (·=.d (.int .i64 (Xnp x y))):=by
 have h1:=hx.n.len (by omega)
 have h2:=hx.d.len (by omega)
 have h3:=hy.n.len (by omega)
 have h4:=hy.d.len (by omega)
 have h5:=(hx.n.mul hy.d).len (by omega)
 have h6:=(hy.n.mul hx.d).len (by omega)
 refine En Tryz.func303 λ_ _ _=>?_
 refine Dw rfl ?_
 refine Ce rfl (Xfn hx (by omega)) ?_
 refine Ce rfl (Xfn hy (by omega)) ?_
 refine By rfl (λh=>?_) λh=>?_
 . refine By rfl (λh1=>?_) λh1=>?_
   . exact R1 rfl (.eq (by rw[Xm6 h1]))
   . exact R1 rfl (.eq (by rw[Xm5,Xm6 (by omega)];rfl))
 . refine Dw rfl ?_
   refine Ce rfl (Mul_ok (by omega) (by omega)) ?_
   refine Ce rfl (Mul_ok (by omega) (by omega)) ?_
   refine Ce rfl (Cmp_ok (by omega) (by omega)) ?_
   exact R1 rfl (.eq (by rw[Xrs]))
theorem Xd7{z:Int}(h:(dig z.natAbs).length<=549755813888): C0 403 [.d (dz z)] (·=.b true):=by
 refine En Tryz.func403 λ_ _ _=>?_
 refine By rfl (λh1=>?_) λh1=>?_<;>simp only[lw] at h1
 . have h0:=Ypb.1 (by omega:(dig z.natAbs).length=0)
   refine Yes rfl (show ¬z<0 by omega) ?_
   exact R0
 . refine Yes rfl (by simp only[lw];omega) ?_
   rcases Xg2 z.natAbs with h2 | ⟨t,h2,h3⟩
   . rw[h2] at h1;exact absurd rfl h1
   refine Ar ((dig z.natAbs).length-1:Nat) rfl ?_ (wr (by simp only[lw];omega) (by simp only[inK];omega))
   refine Ix ((dig z.natAbs).length-1) rfl (mp h2) ?_
   refine R1 rfl (by exact(show dc ((t:Int)≠0)=true by rw[Xal];omega) ▸ .rf rfl)
theorem Ynz{z:Int}: Xa5 z 0>0↔z>0:=Yat
theorem Xma{x:Rat}{p:Nat}(hx:Qs p x)(hp:p<=8796093022208): C0 361 [.d (dq x)] (·=.b true):=by
 have h1:=hx.n.len hp
 have h2:=hx.d.len hp
 refine En Tryz.func361 λ_ _ _=>?_
 refine Ce rfl (Xd7 (z:=x.num) (by omega)) ?_
 refine Yes rfl rfl ?_
 refine Ce rfl (Xd7 (z:=x.den) (by omega)) ?_
 refine Yes rfl rfl ?_
 refine Ce rfl (Sign_ok (by omega)) ?_
 refine Yes rfl (Ynz.2 (by have:=x.den_pos;omega)) ?_
 refine Ce rfl (GCD_ok (by omega) (by omega)) ?_
 refine Ce rfl Xek ?_
 refine R1 rfl (by exact(show dc ((Int.gcd x.num x.den:Int)=1)=true by rw[Xal];exact congrArg Nat.cast (show Int.gcd x.num x.den=1 from x.reduced)) ▸ .rf rfl)
end Go.Proofs.YtclgppjdhndgiaaGreatDoor
namespace Go.Proofs.YtclgppjdhndgiaaGreatDoor.R1
open Go Go.Vm Go.Num Go.Proofs.YtclgppjdhndgiaaGreatDoor
section
theorem Xaz{l:List Nat}(hw:Xan l)(hl:l.length<=1099511627776): C0 207 [.d (ws l)] (·=.d (ws (dig (val l)))):=by
 refine En Tryz.func207 λ_ _ _=>?_
 refine Lo (λk=>[(0,.d (ws (l.take k)))]) (λ_=>[]) (λk=>k<=l.length/\val (l.take k)=val l) id l.length [] rfl ⟨W0c _,by rw[W1x]⟩ (λk ⟨hk,hv⟩=>?_) (hf:=⟨by simp only[W1x];rfl,rfl,rfl,rfl,rfl⟩)
 refine By rfl (λh=>?_) λh=>?_<;>simp only[W0i,W0j,W2b hk] at h
 . have hl:((l.take k).map wd).length=k:=by simp;omega
   refine Ar (k-1:Nat) rfl ?_
   have hx:=W0a (l:=l) (i:=k-1) (by omega)
   refine Ix (k-1) rfl (u:=wd l[k-1]) (mp (by rw[W1j,if_pos (by omega),hx])) ?_
   have hs:=Xac hx
   rw[show k-1+1=k by omega,hv] at hs
   refine By rfl (λh0=>?_) λh0=>?_
   . refine Ar (k-1:Nat) rfl ?_
     refine Tk (k-1) ((l.take (k-1)).map wd) rfl rfl (by simp;omega) (by rw[<-W3e,List.take_take,W2b (by omega)]) ?_
     exact Bk (k-1) [] rfl ⟨by omega,by rw[hs,show l[k-1]=0 by omega,W3h,W2o]⟩ (show k-1<k by omega)
   . exact R1 rfl (.eq (by rw[<-hv,Xdc (hw.take k) (.inr ⟨l[k-1],by rw[W0j,W2b hk,W1j,if_pos (by omega),hx],λe=>h0 (by rw[e];rfl)⟩)]))
 . refine R1 rfl (.eq ?_)
   rw[show k=0 by omega] at hv |-
   rw[<-hv,W8e,val,Xak]
theorem trim_dig_ok{n:Nat}(h:(dig n).length<=1099511627776): C0 207 [.d (ws (dig n))] (·=.d (ws (dig n))):=by
 have:=Xaz (Xad n) h
 rwa[Xaf] at this
theorem words_ok{n:Nat}(h:n<18446744073709551616): C0 123 [.d (.int .u64 n)] (·=.d (ws (dig n))):=by
 refine En Tryz.func123 λ_ _ _=>?_
 refine Go.Vm.Cv (n%4294967296:Nat) rfl ?_ (hr:=by rw[wWm];omega)
 refine Ar (n/4294967296:Nat) rfl ?_ (hr:=show _/\_ from⟨by omega,Yib n⟩)
 refine Go.Vm.Cv (n/4294967296:Nat) rfl ?_
 refine Ce rfl (Xaz (l:=[n%4294967296,n/4294967296]) (.cons (by omega) (.cons (by omega) .nil)) (by simp)) ?_
 exact R1 rfl (.eq (by rw[show val [n%4294967296,n/4294967296]=n by simp only[val];omega]))
theorem Xp0{b:Bool}{l:List Nat}(hw:Xan l)(h:l.length<=1099511627776): C0 122 [.d (.bool b),.d (ws l)] (·=.d (dz (sg b (val l)))):=by
 rw[<-Yki]
 refine C.nb (show C0 _ [.b b,.d (ws l)] _ from ?_)
 obtain⟨n,hn⟩:∃n,n=val l:=⟨_,rfl⟩
 refine En Tryz.func122 λ_ _ _=>?_
 refine Ce rfl (Xaz hw h) ?_
 rw[<-hn]
 cases b with
 | true =>
  refine Yes rfl rfl ?_
  exact R1 rfl (by exact .sd (.pd (.bd (by
   rw[W3p,Xal,W0f,bne_iff_ne,lw]
   have:=@Xsl n
   rw[<-W2s] at this
   simp;omega)) (.rf rfl)))
 | false =>
  refine No rfl (by nofun) ?_
  exact R1 rfl (by exact .sd (.pd (.bd rfl) (.rf rfl)))
theorem Xaj{b:Bool}{n:Nat}(h:(dig n).length<=1099511627776): C0 122 [.d (.bool b),.d (ws (dig n))] (·=.d (dz (sg b n))):=by
 have:=Xp0 (b:=b) (Xad n) h
 rwa[Xaf] at this
theorem FromInt_ok{z:Int}(h:-9223372036854775808<=z/\z<9223372036854775808): C0 43 [.d (.int .i64 z)] (·=.d (dz z)):=by
 have hl:(dig z.natAbs).length<=2:=Xaq (by omega)
 refine En Tryz.func43 λ_ _ _=>?_
 refine By rfl (λh=>?_) λh=>?_
 . refine Go.Vm.Cv (z%18446744073709551616) rfl ?_ (hr:=wUm _)
   refine Ne (z.natAbs:Int) rfl ?_ (hr:=by rw[wUm];omega)
   refine Ce rfl (words_ok (n:=z.natAbs) (by omega)) ?_
   refine Ce rfl (Xaj (n:=z.natAbs) (by omega)) ?_
   exact R1 rfl (.eq (by rw[show sg true z.natAbs=z by unfold sg;rw[if_pos rfl];omega]))
 . refine Go.Vm.Cv (z.natAbs:Int) rfl ?_ (hr:=by rw[wUm];omega)
   refine Ce rfl (words_ok (n:=z.natAbs) (by omega)) ?_
   refine Ce rfl (Xaj (n:=z.natAbs) (by omega)) ?_
   exact R1 rfl (.eq (by rw[show sg false z.natAbs=z by unfold sg;rw[if_neg nofun];omega]))
theorem Norm_ok{z:Int}(h:(dig z.natAbs).length<=1099511627776): C0 258 [.d (dz z)] (·=.d (dz z)):=by
 refine En Tryz.func258 λ_ _ _=>?_
 refine Ce rfl (Xaj (n:=z.natAbs) h) ?_
 exact R1 rfl (.eq (by rw[Xp5]))
theorem Sign_ok{z:Int}(h:(dig z.natAbs).length<=1099511627776): C0 252 [.d (dz z)] (·=.d (.int .i64 (Xa5 z 0))):=by
 refine En Tryz.func252 λ_ _ _=>?_
 refine Ce rfl (Norm_ok h) ?_
 refine By rfl (λh=>?_) λh=>?_<;>simp only[lw] at h
 . have:=Xsl.1 (W0n (by omega:(dig z.natAbs).length=0))
   exact R1 rfl (.eq (by rw[show z=0 by omega];rfl))
 . have hz:z≠0:=λe=>h (by rw[e];simp[Xak])
   refine By rfl (λh1=>?_) λh1=>?_
   . exact R1 rfl (.eq (by rw[Xa5,if_pos h1]))
   . exact R1 rfl (.eq (by rw[Xa5,if_neg h1,if_pos (by omega)]))
theorem Xby{x y:Nat}(hx:(dig x).length<=1099511627776): C0 260 [.d (ws (dig x)),.d (ws (dig y))] (·=.d (.int .i64 (Xa5 x y))):=by
 refine En Tryz.func260 λ_ _ _=>?_
 refine By rfl (λh=>?_) λh=>?_<;>simp only[lw] at h
 . refine By rfl (λh1=>?_) λh1=>?_<;>simp only[lw] at h1
   . have:=Xdh (m:=x) (n:=y) (by omega)
     exact R1 rfl (.eq (by rw[Xa5,if_pos (by omega)]))
   . have:=Xdh (m:=y) (n:=x) (by omega)
     exact R1 rfl (.eq (by rw[Xa5,if_neg (by omega),if_pos (by omega)]))
 . refine Ar ((dig x).length-1:Int) rfl ?_ (wr (by simp only[lw]) (by simp only[inK];omega))
   refine Lo (λ(k:Nat)=>[(0,.d (ws (dig x))),(1,.d (ws (dig y))),(5,.d (.int .i64 ((k:Int)-1)))]) (λ_=>[]) (λk=>k<=(dig x).length/\(dig x).drop k=(dig y).drop k) (λk=>k) (dig x).length [] rfl ⟨by omega,by rw[W1m (by omega),W1m (by omega)]⟩ λk ⟨hk,hd⟩=>?_
   refine By rfl (λh1=>?_) λh1=>?_
   . obtain⟨u,hu⟩:=xat (l:=dig x) (k:=k-1) (by omega)
     obtain⟨v,hv⟩:=xat (l:=dig y) (k:=k-1) (by omega)
     have hd':(dig x).drop (k-1+1)=(dig y).drop (k-1+1):=by rw[show k-1+1=k by omega];exact hd
     refine Dw rfl ?_
     refine Ix (k-1) rfl (mp hu) ?_
     refine Ix (k-1) rfl (mp hv) ?_
     refine By rfl (λh2=>?_) λh2=>?_
     . have:=Xjq (Xad x) (by omega) (by omega) hu hv hd' (by omega)
       rw[Xaf,Xaf] at this
       exact R1 rfl (.eq (by rw[Xa5,if_pos (by omega)]))
     . refine Dw rfl ?_
       refine Ix (k-1) rfl (mp hu) ?_
       refine Ix (k-1) rfl (mp hv) ?_
       refine By rfl (λh3=>?_) λh3=>?_
       . have:=Xjq (Xad y) (by omega) (by omega) hv hu hd'.symm (by omega)
         rw[Xaf,Xaf] at this
         exact R1 rfl (.eq (by rw[Xa5,if_neg (by omega),if_pos (by omega)]))
       . refine Ar ((k-1:Nat)-1:Int) rfl ?_
         refine Bk (k-1) [] rfl ⟨by omega,?_⟩ (by show k-1<k;omega)
         have huv:u=v:=by omega
         rw[W3i (l:=dig x) (i:=k-1) (by omega),W3i (l:=dig y) (i:=k-1) (by omega),show k-1+1=k by omega,hd]
         rw[W0a (by omega)] at hu hv
         injection hu with hu
         injection hv with hv
         rw[hu,hv,huv]
   . have hk0:k=0:=by omega
     rw[hk0,W1a,W1a] at hd
     have hxy:x=y:=by rw[<-Xaf x,hd,Xaf]
     exact R1 rfl (.eq (by rw[hxy,Xa5,if_neg (by omega),if_neg (by omega)]))
end
section
theorem dtk{l:List Nat}{q m k:Nat}(h:k<m): ((l.drop q).take m)[k]?=l[q+k]?:=by rw[W1j,if_pos h,W2f]
theorem Xyh{l:List Nat}{q m:Nat}(h:q+m<=l.length): ((l.drop q).take m).length=m:=by rw[W0j,W1n];omega
theorem Xg1{q n:Nat}{l:List Nat}(hw:Xan l)(hq:q+n<=l.length)(hl:n<=1099511627776): CN0 207 [.own 1000001 1 q n] [(1000001,.arr 1 (l.map wd))] λv=>∃k,k<=n/\v=.own 1000001 1 q k/\(l.drop q).take k=dig (val ((l.drop q).take n)):=by
 refine EnW Tryz.func207 λ_ _ _ _=>?_
 refine Lo (λk=>[(0,.own 1000001 1 q k)]) (λ_=>[(1000001,.arr 1 (l.map wd))]) (λk=>k<=n/\val ((l.drop q).take k)=val ((l.drop q).take n)) id n [] rfl ⟨W0c _,rfl⟩ λk ⟨hk,hv⟩=>?_
 have hwk:=(hw.drop q).take k
 refine By rfl (λh=>?_) λh=>?_
 . obtain⟨u,hu⟩:=xat (l:=l) (k:=q+(k-1)) (by omega)
   have hs:=Xac (l:=l.drop q) (k:=k-1) (x:=u) (by rw[W2f];exact hu)
   rw[show k-1+1=k by omega,hv] at hs
   refine Ar (k-1:Nat) rfl ?_
   refine El (k-1) rfl (by omega) ?_
   refine Ld (wd u) rfl (mp hu) ?_
   refine By rfl (λh0=>?_) λh0=>?_
   . refine Ar (k-1:Nat) rfl ?_
     refine Sw 0 (k-1) rfl (by omega) (by omega) ?_
     exact Bk (k-1) [] rfl ⟨by omega,by rw[hs,show u=0 by omega,W3h,W2o]⟩ (show k-1<k by omega)
   . exact Rw [] [(1000001,.arr 1 (l.map wd))] rfl (.one (.rf rfl) rfl rfl) ⟨rfl,k,hk,rfl,by rw[<-hv,Xdc hwk (.inr ⟨u,by rw[Xyh (by omega),dtk (by omega)];exact hu,λe=>h0 (by rw[e];rfl)⟩)]⟩
 . refine Rw [] [(1000001,.arr 1 (l.map wd))] rfl (.one (.rf rfl) rfl rfl) ⟨rfl,k,hk,rfl,?_⟩
   rw[show k=0 by omega] at hv |-
   rw[<-hv,W8e,val,Xak]
theorem Xow{x y q m:Nat}{l:List Nat}(hq:q+m<=l.length)(hl:(l.drop q).take m=dig x)(hx:(dig x).length<=1099511627776): CN0 260 [.own 1000001 1 q m,.d (ws (dig y))] [(1000001,.arr 1 (l.map wd))] (·=.d (.int .i64 (Xa5 x y))):=by
 have hm:(dig x).length=m:=by rw[<-hl,Xyh hq]
 rw[hm] at hx
 have hg:∀ {k u:Nat},(dig x)[k]?=some u->k<m->l[q+k]?=some u:=λh hk=>by rw[<-hl,dtk hk] at h;exact h
 refine EnW Tryz.func260 λ_ _ _ _=>?_
 refine By rfl (λh=>?_) λh=>?_<;>simp only[lw] at h
 . refine By rfl (λh1=>?_) λh1=>?_<;>simp only[lw] at h1
   . have:=Xdh (m:=x) (n:=y) (by omega)
     exact Rw [] [(1000001,.arr 1 (l.map wd))] rfl (.one (.rf rfl) rfl rfl) ⟨rfl,congrArg AV.d (congrArg (D.int .i64) (by rw[Xa5,if_pos (by omega)]))⟩
   . have:=Xdh (m:=y) (n:=x) (by omega)
     exact Rw [] [(1000001,.arr 1 (l.map wd))] rfl (.one (.rf rfl) rfl rfl) ⟨rfl,congrArg AV.d (congrArg (D.int .i64) (by rw[Xa5,if_neg (by omega),if_pos (by omega)]))⟩
 . refine Ar (m-1:Int) rfl ?_
   refine Lo (λ(k:Nat)=>[(0,.own 1000001 1 q m),(1,.d (ws (dig y))),(5,.d (.int .i64 ((k:Int)-1)))]) (λ_=>[(1000001,.arr 1 (l.map wd))]) (λk=>k<=m/\(dig x).drop k=(dig y).drop k) (λk=>k) m [] rfl ⟨by omega,by rw[W1m (by omega),W1m (by omega)]⟩ λk ⟨hk,hd⟩=>?_
   refine By rfl (λh1=>?_) λh1=>?_
   . obtain⟨u,hu⟩:=xat (l:=dig x) (k:=k-1) (by omega)
     obtain⟨v,hv⟩:=xat (l:=dig y) (k:=k-1) (by omega)
     have hd':(dig x).drop (k-1+1)=(dig y).drop (k-1+1):=by rw[show k-1+1=k by omega];exact hd
     refine Dw rfl ?_
     refine El (k-1) rfl (by omega) ?_
     refine Ld (wd u) rfl (mp (hg hu (by omega))) ?_
     refine Ix (k-1) rfl (mp hv) ?_
     refine By rfl (λh2=>?_) λh2=>?_
     . have:=Xjq (Xad x) (by omega) (by omega) hu hv hd' (by omega)
       rw[Xaf,Xaf] at this
       exact Rw [] [(1000001,.arr 1 (l.map wd))] rfl (.one (.rf rfl) rfl rfl) ⟨rfl,congrArg AV.d (congrArg (D.int .i64) (by rw[Xa5,if_pos (by omega)]))⟩
     . refine Dw rfl ?_
       refine El (k-1) rfl (by omega) ?_
       refine Ld (wd u) rfl (mp (hg hu (by omega))) ?_
       refine Ix (k-1) rfl (mp hv) ?_
       refine By rfl (λh3=>?_) λh3=>?_
       . have:=Xjq (Xad y) (by omega) (by omega) hv hu hd'.symm (by omega)
         rw[Xaf,Xaf] at this
         exact Rw [] [(1000001,.arr 1 (l.map wd))] rfl (.one (.rf rfl) rfl rfl) ⟨rfl,congrArg AV.d (congrArg (D.int .i64) (by rw[Xa5,if_neg (by omega),if_pos (by omega)]))⟩
       . refine Ar ((k-1:Nat)-1:Int) rfl ?_
         refine Bk (k-1) [] rfl ⟨by omega,?_⟩ (by show k-1<k;omega)
         have huv:u=v:=by omega
         rw[W3i (l:=dig x) (i:=k-1) (by omega),W3i (l:=dig y) (i:=k-1) (by omega),show k-1+1=k by omega,hd]
         rw[W0a (by omega)] at hu hv
         injection hu with hu
         injection hv with hv
         rw[hu,hv,huv]
   . have hk0:k=0:=by omega
     rw[hk0,W1a,W1a] at hd
     have hxy:x=y:=by rw[<-Xaf x,hd,Xaf]
     exact Rw [] [(1000001,.arr 1 (l.map wd))] rfl (.one (.rf rfl) rfl rfl) ⟨rfl,congrArg AV.d (congrArg (D.int .i64) (by rw[hxy,Xa5,if_neg (by omega),if_neg (by omega)]))⟩
theorem Xvb{x y q m:Nat}{l:List Nat}(hq:q+m<=l.length)(hl:(l.drop q).take m=dig x)(hx:(dig x).length<=1099511627776)(hle:y<=x): CN0 261 [.own 1000001 1 q m,.d (ws (dig y))] [(1000001,.arr 1 (l.map wd))] (·=.d (ws (dig (x-y)))):=by
 have hm:(dig x).length=m:=by rw[<-hl,Xyh hq]
 have hg:∀ {k u:Nat},(dig x)[k]?=some u->k<m->l[q+k]?=some u:=λh hk=>by rw[<-hl,dtk hk] at h;exact h
 rw[hm] at hx
 have hll:=Xap hle
 refine EnW Tryz.func261 λ_ _ _ _=>?_
 refine Mk m rfl (by omega) ?_
 refine Lo (λ(k,lo,br)=>[(0,.own 1000001 1 q m),(1,.d (ws (dig y))),(5,.own 12 1 0 m),(6,.d (.int .u64 (br:Nat))),(7,.d (.int .i64 (k:Nat)))]) (λ(_,lo,_)=>[(12,.arr 1 (lo.map wd)),(1000001,.arr 1 (l.map wd))])
  (λ(k,lo,br)=>k<=m/\lo.length=m/\Xan lo/\br<=1/\val (lo.take k)+val ((dig y).take k)=val ((dig x).take k)+4294967296^k*br) (λ(k,_,_)=>m-k) (0,List.replicate m 0,0) [] rfl
  ⟨by omega,by simp,Xfd _,by omega,by simp[val]⟩ ?_ (by exact⟨rfl,by simp only[W2g];rfl,rfl,rfl,rfl⟩)
 rintro⟨k,lo,br⟩ ⟨hk,hl1,hw,hbr,hval⟩
 refine By rfl (λh=>?_) λh=>?_
 . obtain⟨u,hu⟩:=xat (l:=dig x) (k:=k) (by omega)
   have hub:=ww hu (Xad x)
   refine Cu none (λ(v:Nat)=>[(0,.own 1000001 1 q m),(1,.d (ws (dig y))),(5,.own 12 1 0 m),(6,.d (.int .u64 br)),(7,.d (.int .i64 k)),(8,.d (.int .u64 v))]) (λ_=>[(12,.arr 1 (lo.map wd)),(1000001,.arr 1 (l.map wd))])
    (λv=>v<4294967296/\val ((dig y).take (k+1))=val ((dig y).take k)+4294967296^k*v) rfl ?_ λv ⟨hv,hyv⟩=>?_
   . refine By rfl (λh2=>?_) λh2=>?_<;>simp only[lw] at h2
     . obtain⟨u2,hu2⟩:=xat (l:=dig y) (k:=k) (by omega)
       have hub2:=ww hu2 (Xad y)
       refine Ix k rfl (mp hu2) ?_
       refine Go.Vm.Cv u2 rfl ?_
       exact Jn u2 [] rfl ⟨hub2,Xac hu2⟩
     . exact Jn 0 [] rfl ⟨by omega,by rw[Xf9 (by omega)];rfl⟩
   obtain⟨s,hs⟩:∃s,s=u+4294967296-v-br:=⟨_,rfl⟩
   refine El k rfl (by omega) ?_
   refine Ld (wd u) rfl (mp (hg hu (by omega))) ?_
   refine Go.Vm.Cv u rfl ?_
   refine Ar (u+4294967296:Nat) rfl ?_
   refine Ar (u+4294967296-v:Nat) rfl ?_
   refine Ar s rfl ?_
   refine Go.Vm.Cv (s%4294967296:Nat) rfl ?_ (by rw[wWm];omega)
   refine Eo k rfl (by omega) ?_
   refine Sto rfl (by simp only[lw];omega) ms ?_
   refine Ar (s/4294967296:Nat) rfl ?_ (Xhv (n:=32) (by decide))
   refine Ar (1-s/4294967296:Nat) rfl ?_
   refine Ar (k+1:Nat) rfl ?_
   refine Bk (k+1,lo.set k (s%4294967296),1-s/4294967296) [] rfl ⟨by omega,by simp[hl1],Xgo hw (by omega),by omega,?_⟩ (by show m-(k+1)<m-k;omega)
   rw[Xbb (by omega),hyv,Xac hu,W0q,W0r]
   have e:4294967296^k*(s%4294967296+v+br)=4294967296^k*(u+4294967296*(1-s/4294967296)):=by congr 1;omega
   simp only[W0y] at e
   omega
 . have hkn:k=m:=by omega
   rw[hkn,W0b (by omega),W0b (by omega),W0b (by omega),Xaf,Xaf] at hval
   have hvl:=Xbw hw
   rw[hl1] at hvl
   have hbr0:br=0:=by
    rcases W2u br with h0 | h0
    . exact h0
    . have h1:4294967296^m*1<=4294967296^m*br:=W0p _ h0
      omega
   rw[hbr0,W3h] at hval
   refine Fz 12 5 (lo.map wd) rfl (by simp only[lw];omega) (oa hl1) ?_
   refine Ce rfl (Xaz hw (by omega)) ?_
   exact Rw [] [(1000001,.arr 1 (l.map wd))] rfl (.one (.rf rfl) rfl rfl) ⟨rfl,by rw[show val lo=x-y by omega]⟩
theorem Xdt{x y:Nat}(hx:(dig x).length<=1099511627776)(hle:y<=x): C0 261 [.d (ws (dig x)),.d (ws (dig y))] (·=.d (ws (dig (x-y)))):=by
 obtain⟨m,hm⟩:∃m,(dig x).length=m:=⟨_,rfl⟩
 rw[hm] at hx
 have hll:=Xap hle
 refine En Tryz.func261 λ_ _ _=>?_
 refine Mk m rfl (by simp only[lw];omega) ?_ (by simp only[lw,hm])
 refine Lo (λ(k,lo,br)=>[(0,.d (ws (dig x))),(1,.d (ws (dig y))),(5,.own 12 1 0 m),(6,.d (.int .u64 (br:Nat))),(7,.d (.int .i64 (k:Nat)))]) (λ(_,lo,_)=>[(12,.arr 1 (lo.map wd))])
  (λ(k,lo,br)=>k<=m/\lo.length=m/\Xan lo/\br<=1/\val (lo.take k)+val ((dig y).take k)=val ((dig x).take k)+4294967296^k*br) (λ(k,_,_)=>m-k) (0,List.replicate m 0,0) [] rfl
  ⟨by omega,by simp,Xfd _,by omega,by simp[val]⟩ ?_ (by exact⟨rfl,by simp only[W2g];rfl,rfl,rfl,rfl⟩)
 rintro⟨k,lo,br⟩ ⟨hk,hl1,hw,hbr,hval⟩
 refine By rfl (λh=>?_) λh=>?_<;>simp only[lw] at h
 . obtain⟨u,hu⟩:=xat (l:=dig x) (k:=k) (by omega)
   have hub:=ww hu (Xad x)
   refine Cu none (λ(v:Nat)=>[(0,.d (ws (dig x))),(1,.d (ws (dig y))),(5,.own 12 1 0 m),(6,.d (.int .u64 br)),(7,.d (.int .i64 k)),(8,.d (.int .u64 v))]) (λ_=>[(12,.arr 1 (lo.map wd))])
    (λv=>v<4294967296/\val ((dig y).take (k+1))=val ((dig y).take k)+4294967296^k*v) rfl ?_ λv ⟨hv,hyv⟩=>?_
   . refine By rfl (λh2=>?_) λh2=>?_<;>simp only[lw] at h2
     . obtain⟨u2,hu2⟩:=xat (l:=dig y) (k:=k) (by omega)
       have hub2:=ww hu2 (Xad y)
       refine Ix k rfl (mp hu2) ?_
       refine Go.Vm.Cv u2 rfl ?_
       exact Jn u2 [] rfl ⟨hub2,Xac hu2⟩
     . exact Jn 0 [] rfl ⟨by omega,by rw[Xf9 (by omega)];rfl⟩
   obtain⟨s,hs⟩:∃s,s=u+4294967296-v-br:=⟨_,rfl⟩
   refine Ix k rfl (mp hu) ?_
   refine Go.Vm.Cv u rfl ?_
   refine Ar (u+4294967296:Nat) rfl ?_
   refine Ar (u+4294967296-v:Nat) rfl ?_
   refine Ar s rfl ?_
   refine Go.Vm.Cv (s%4294967296:Nat) rfl ?_ (by rw[wWm];omega)
   refine Eo k rfl (by omega) ?_
   refine Sto rfl (by simp only[lw];omega) ms ?_
   refine Ar (s/4294967296:Nat) rfl ?_ (Xhv (n:=32) (by decide))
   refine Ar (1-s/4294967296:Nat) rfl ?_
   refine Ar (k+1:Nat) rfl ?_
   refine Bk (k+1,lo.set k (s%4294967296),1-s/4294967296) [] rfl ⟨by omega,by simp[hl1],Xgo hw (by omega),by omega,?_⟩ (by show m-(k+1)<m-k;omega)
   rw[Xbb (by omega),hyv,Xac hu,W0q,W0r]
   have e:4294967296^k*(s%4294967296+v+br)=4294967296^k*(u+4294967296*(1-s/4294967296)):=by congr 1;omega
   simp only[W0y] at e
   omega
 . have hkn:k=m:=by omega
   rw[hkn,W0b (by omega),W0b (by omega),W0b (by omega),Xaf,Xaf] at hval
   have hvl:=Xbw hw
   rw[hl1] at hvl
   have hbr0:br=0:=by
    rcases W2u br with h0 | h0
    . exact h0
    . have h1:4294967296^m*1<=4294967296^m*br:=W0p _ h0
      omega
   rw[hbr0,W3h] at hval
   refine Fz 12 5 (lo.map wd) rfl (by simp only[lw];omega) (oa hl1) ?_
   refine Ce rfl (Xaz hw (by omega)) ?_
   exact R1 rfl (.eq (by rw[show val lo=x-y by omega]))
end
section
theorem Xh7{x y:Nat}(hx:(dig x).length<=549755813888)(hy:(dig y).length<=549755813888): C0 259 [.d (ws (dig x)),.d (ws (dig y))] (·=.d (ws (dig (x+y)))):=by
 refine En Tryz.func259 λ_ _ _=>?_
 refine Cu none (λ(a,b)=>[(0,.d (ws (dig a))),(1,.d (ws (dig b)))]) (λ_=>[]) (λ(a,b)=>a+b=x+y/\(dig b).length<=(dig a).length/\(dig a).length<=549755813888) rfl ?_ λ⟨a,b⟩ ⟨hs,hle,hbig⟩=>?_
 . refine By rfl (λh=>?_) λh=>?_<;>simp only[lw] at h
   . exact Jn (y,x) [] rfl ⟨Nat.add_comm _ _,by omega,hy⟩
   . exact Jn (x,y) [] rfl ⟨rfl,by omega,hx⟩
 obtain⟨m,hm⟩:∃m,(dig a).length=m:=⟨_,rfl⟩
 rw[hm] at hle hbig
 refine Ar (m+1:Nat) rfl ?_ (wr (by simp only[lw,hm];omega) (by simp only[inK];omega))
 refine Mk (m+1) rfl (by omega) ?_
 refine Lo (λ(k,lo,cr)=>[(0,.d (ws (dig a))),(1,.d (ws (dig b))),(5,.own 18 1 0 (m+1)),(6,.d (.int .u64 (cr:Nat))),(7,.d (.int .i64 (k:Nat)))]) (λ(_,lo,_)=>[(18,.arr 1 (lo.map wd))])
  (λ(k,lo,cr)=>k<=m/\lo.length=m+1/\Xan lo/\cr<=1/\val (lo.take k)+4294967296^k*cr=val ((dig a).take k)+val ((dig b).take k)) (λ(k,_,_)=>m-k) (0,List.replicate (m+1) 0,0) [] rfl ⟨by omega,by simp,Xfd _,by omega,by simp[val]⟩ ?_ (by exact⟨rfl,by simp only[W2g];rfl,rfl,rfl,rfl⟩)
 rintro⟨k,lo,cr⟩ ⟨hk,hl,hw,hcr,hval⟩
 refine By rfl (λh=>?_) λh=>?_<;>simp only[lw] at h
 . obtain⟨u,hu⟩:=xat (l:=dig a) (k:=k) (by omega)
   have hub:=ww hu (Xad a)
   refine Ix k rfl (mp hu) ?_
   refine Go.Vm.Cv u rfl ?_
   refine Ar (cr+u:Nat) rfl ?_
   refine Cu none (λ(s:Nat)=>[(0,.d (ws (dig a))),(1,.d (ws (dig b))),(5,.own 18 1 0 (m+1)),(6,.d (.int .u64 s)),(7,.d (.int .i64 k))]) (λ_=>[(18,.arr 1 (lo.map wd))])
    (λs=>s<8589934592/\4294967296^k*s+val (lo.take k)=val ((dig a).take (k+1))+val ((dig b).take (k+1))) rfl ?_ λs ⟨hs8,hsv⟩=>?_
   . refine By rfl (λh2=>?_) λh2=>?_<;>simp only[lw] at h2
     . obtain⟨u2,hu2⟩:=xat (l:=dig b) (k:=k) (by omega)
       have hub2:=ww hu2 (Xad b)
       refine Ix k rfl (mp hu2) ?_
       refine Go.Vm.Cv u2 rfl ?_
       refine Ar (cr+u+u2:Nat) rfl ?_
       exact Jn (cr+u+u2) [] rfl ⟨by omega,by rw[Xac hu,Xac hu2,W0y,W0y];omega⟩
     . exact Jn (cr+u) [] rfl ⟨by omega,by rw[Xac hu,Xf9 (l:=dig b) (by omega),W0y];omega⟩
   refine Go.Vm.Cv (s%4294967296:Nat) rfl ?_ (by rw[wWm];omega)
   refine Eo k rfl (by omega) ?_
   refine Sto rfl (by simp only[lw];omega) ms ?_
   refine Ar (s/4294967296:Nat) rfl ?_ (Xhv (n:=32) (by decide))
   refine Ar (k+1:Nat) rfl ?_
   refine Bk (k+1,lo.set k (s%4294967296),s/4294967296) [] rfl ⟨by omega,by simp[hl],Xgo hw (by omega),by show s/4294967296<=1;omega,?_⟩ (by show m-(k+1)<m-k;omega)
   rw[Xbb (by omega),<-hsv,W0q,W0r]
   have e2:4294967296^k*s=4294967296^k*(s%4294967296)+4294967296^k*(4294967296*(s/4294967296)):=by rw[<-W0y];congr 1;omega
   omega
 . have hkn:k=m:=by omega
   subst hkn
   rw[W0b (l:=dig a) (by omega),W0b (l:=dig b) (by omega),Xaf,Xaf,hs] at hval
   have hfin:val (lo.set k cr)=x+y:=by
    have:=Xbb (l:=lo) (k:=k) (d:=cr) (by omega)
    rw[W0b (by rw[W3q];omega)] at this
    rw[this,hval]
   refine Go.Vm.Cv cr rfl ?_
   refine Eo k rfl (by omega) ?_ (by simp only[lw];omega)
   refine Sto rfl (by simp only[lw];omega) ms ?_
   refine Fz 14 5 ((lo.set k cr).map wd) rfl (by simp only[lw,W3q];omega) (oa (by simp[hl])) ?_
   refine Ce rfl (Xaz (Xgo hw (by omega)) (by simp only[W3q];omega)) ?_
   exact R1 rfl (.eq (by rw[hfin]))
theorem Xth{X Y:List Nat}(hX:Xan X)(hY:Xan Y)(hx:X.length<=549755813888)(hy:Y.length<=549755813888): C0 263 [.d (ws X),.d (ws Y)] (·=.d (ws (dig (val X*val Y)))):=by
 obtain⟨n,hn⟩:∃n,X.length=n:=⟨_,rfl⟩
 obtain⟨m,hm⟩:∃m,Y.length=m:=⟨_,rfl⟩
 rw[hm] at hy
 rw[hn] at hx
 refine En Tryz.func263 λ_ _ _=>?_
 refine Ar (n+m:Nat) rfl ?_ (wr (by simp only[lw];omega) (by simp only[inK];omega))
 refine Mk (n+m) rfl (by omega) ?_
 refine Lo (λ(i,lo)=>[(0,.d (ws X)),(1,.d (ws Y)),(5,.own 14 1 0 (n+m)),(6,.d (.int .i64 (i:Nat)))]) (λ(_,lo)=>[(14,.arr 1 (lo.map wd))])
  (λ(i,lo)=>i<=n/\lo.length=n+m/\Xan lo/\val (lo.take (i+m))=val (X.take i)*val Y/\∀j,i+m<=j->j<n+m->lo[j]?=some 0) (λ(i,_)=>n-i)
  (0,List.replicate (n+m) 0) [] rfl ⟨by omega,by simp,Xfd _,by rw[W5h,Xbq];simp[val],λj _ h=>by rw[W5g,if_pos h]⟩ ?_ (by exact⟨rfl,by simp only[W2g];rfl,rfl,rfl,rfl⟩)
 rintro⟨i,lo0⟩ ⟨hi,hl0,hw0,hval,hz0⟩
 refine By rfl (λh=>?_) λh=>?_<;>simp only[lw] at h
 . obtain⟨u,hu⟩:=xat (l:=X) (k:=i) (by omega)
   have hub:=ww hu (hX)
   refine Lo (λ(k,lo,cr)=>[(0,.d (ws X)),(1,.d (ws Y)),(5,.own 14 1 0 (n+m)),(6,.d (.int .i64 i)),(7,.d (.int .u64 (cr:Nat))),(8,.d (.int .i64 (k:Nat)))]) (λ(_,lo,_)=>[(14,.arr 1 (lo.map wd))])
    (λ(k,lo,cr)=>k<=m/\lo.length=n+m/\Xan lo/\cr<4294967296/\(∀j,i+k<=j->lo[j]?=lo0[j]?)/\val (lo.take (i+k))+4294967296^(i+k)*cr=val (lo0.take (i+k))+4294967296^i*(u*val (Y.take k))) (λ(k,_,_)=>m-k)
    (0,lo0,0) [] rfl ⟨by omega,hl0,hw0,by omega,λ_ _=>rfl,by simp[val]⟩ ?_
   rintro⟨k,lo,cr⟩ ⟨hk,hl1,hw,hcr,hrest,hval2⟩
   refine By rfl (λh=>?_) λh=>?_<;>simp only[lw] at h
   . obtain⟨v,hv⟩:=xat (l:=Y) (k:=k) (by omega)
     have hvb:=ww hv (hY)
     obtain⟨w,hw1⟩:=xat (l:=lo) (k:=i+k) (by omega)
     have hwb:=ww hw1 hw
     have huv:u*v<=4294967295*4294967295:=W1z (by omega) (by omega)
     obtain⟨s,hs⟩:∃s,s=cr+w+u*v:=⟨_,rfl⟩
     have hs2:s<18446744073709551616:=by omega
     refine Dw rfl ?_
     refine Ar (i+k:Nat) rfl ?_
     refine Eo (i+k) rfl (by omega) ?_
     refine Ld (wd w) rfl (mp hw1) ?_
     refine Go.Vm.Cv w rfl ?_
     refine Ar (cr+w:Nat) rfl ?_
     refine Ix i rfl (mp hu) ?_
     refine Go.Vm.Cv u rfl ?_
     refine Ix k rfl (mp hv) ?_
     refine Go.Vm.Cv v rfl ?_
     refine Ar (u*v:Nat) rfl ?_ (wr (W2z ..).symm (by simp only[inK];omega))
     refine Ar (s:Nat) rfl ?_
     refine Ar (i+k:Nat) rfl ?_
     refine Go.Vm.Cv (s%4294967296:Nat) rfl ?_ (by rw[wWm];omega)
     refine Eo (i+k) rfl (by omega) ?_
     refine Sto rfl (by simp only[lw];omega) ms ?_
     refine Ar (s/4294967296:Nat) rfl ?_ (Xhv (n:=32) (by decide))
     refine Ar (k+1:Nat) rfl ?_
     refine Bk (k+1,lo.set (i+k) (s%4294967296),s/4294967296) [] rfl ⟨by omega,by simp[hl1],Xgo hw (by omega),by omega,λj hj=>by rw[W1u (by omega)];exact hrest j (by omega),?_⟩ (by show _-(k+1)<_-k;omega)
     have hw0':lo0[i+k]?=some w:=by rw[<-hrest (i+k) (W0c _)];exact hw1
     rw[<-W4p,Xbb (by omega),Xac hw0',Xac hv,W0q,W0r,W0y u,W0y (4294967296^i)]
     have e:4294967296^(i+k)*s=4294967296^(i+k)*(s%4294967296)+4294967296^(i+k)*(4294967296*(s/4294967296)):=by rw[<-W0y];congr 1;omega
     have e2:4294967296^(i+k)*s=4294967296^(i+k)*cr+4294967296^i*(u*(4294967296^k*v))+4294967296^(i+k)*w:=by
      rw[hs,W0y,W0y,W0z]
      have:4294967296^i*4294967296^k*(u*v)=4294967296^i*(u*(4294967296^k*v)):=by
       rw[W0r,W4c (4294967296^k) u v]
      omega
     omega
   . have hkm:k=m:=by omega
     subst hkm
     refine Ar (i+k:Nat) rfl ?_ (wr (by simp only[lw];omega) (by simp only[inK];omega))
     refine Go.Vm.Cv cr rfl ?_
     refine Eo (i+k) rfl (by omega) ?_
     refine Sto rfl (by simp only[lw];omega) ms ?_
     refine Ar (i+1:Nat) rfl ?_
     refine Bk (i+1,lo.set (i+k) cr) [] rfl ⟨by omega,by simp[hl1],Xgo hw hcr,?_,λj h1 h2=>by rw[W1u (by omega),hrest j (by omega)];exact hz0 j (by omega) h2⟩ (by show _-(i+1)<_-i;omega)
     rw[show i+1+k=i+k+1 by omega,Xbb (by omega),Xac hu,hval2,hval,show Y.take k=Y from W0b (by omega),W1h,W0r]
 . have him:i=n:=by omega
   rw[him,W0b (by omega),W0b (by omega)] at hval
   refine Fz 13 5 (lo0.map wd) rfl (by simp only[lw];omega) (oa hl0) ?_
   refine Ce rfl (Xaz hw0 (by omega)) ?_
   exact R1 rfl (.eq (by rw[hval]))
theorem Xki{x y:Nat}(hx:(dig x).length<=549755813888)(hy:(dig y).length<=549755813888): C0 263 [.d (ws (dig x)),.d (ws (dig y))] (·=.d (ws (dig (x*y)))):=by
 have:=Xth (Xad x) (Xad y) hx hy
 rwa[Xaf,Xaf] at this
theorem Xti{x q n:Nat}{l:List Nat}(hq:q+n<=l.length)(hl:(l.drop q).take n=dig x)(hx:(dig x).length<=549755813888): CN0 263 [.own 1000001 1 q n,.own 1000001 1 q n] [(1000001,.arr 1 (l.map wd))] (·=.d (ws (dig (x*x)))):=by
 have hg:∀ {k u:Nat},(dig x)[k]?=some u->k<n->l[q+k]?=some u:=λh hk=>by rw[<-hl,dtk hk] at h;exact h
 have hn:(dig x).length=n:=by rw[<-hl,Xyh hq]
 rw[hn] at hx
 refine EnW Tryz.func263 λ_ _ _ _=>?_
 refine Ar (n+n:Nat) rfl ?_ (wr (by omega) (by simp only[inK];omega))
 refine Mk (n+n) rfl (by omega) ?_
 refine Lo (λ(i,lo)=>[(0,.own 1000001 1 q n),(1,.own 1000001 1 q n),(5,.own 14 1 0 (n+n)),(6,.d (.int .i64 (i:Nat)))]) (λ(_,lo)=>[(14,.arr 1 (lo.map wd)),(1000001,.arr 1 (l.map wd))])
  (λ(i,lo)=>i<=n/\lo.length=n+n/\Xan lo/\val (lo.take (i+n))=val ((dig x).take i)*x/\∀j,i+n<=j->j<n+n->lo[j]?=some 0) (λ(i,_)=>n-i)
  (0,List.replicate (n+n) 0) [] rfl ⟨by omega,by simp,Xfd _,by rw[W5h,Xbq];simp[val],λj _ h=>by rw[W5g,if_pos h]⟩ ?_ (by exact⟨rfl,by simp only[W2g];rfl,rfl,rfl,rfl⟩)
 rintro⟨i,lo0⟩ ⟨hi,hl0,hw0,hval,hz0⟩
 refine By rfl (λh=>?_) λh=>?_
 . obtain⟨u,hu⟩:=xat (l:=dig x) (k:=i) (by omega)
   have hub:=ww hu (Xad x)
   refine Lo (λ(k,lo,cr)=>[(0,.own 1000001 1 q n),(1,.own 1000001 1 q n),(5,.own 14 1 0 (n+n)),(6,.d (.int .i64 i)),(7,.d (.int .u64 (cr:Nat))),(8,.d (.int .i64 (k:Nat)))]) (λ(_,lo,_)=>[(14,.arr 1 (lo.map wd)),(1000001,.arr 1 (l.map wd))])
    (λ(k,lo,cr)=>k<=n/\lo.length=n+n/\Xan lo/\cr<4294967296/\(∀j,i+k<=j->lo[j]?=lo0[j]?)/\val (lo.take (i+k))+4294967296^(i+k)*cr=val (lo0.take (i+k))+4294967296^i*(u*val ((dig x).take k))) (λ(k,_,_)=>n-k)
    (0,lo0,0) [] rfl ⟨by omega,hl0,hw0,by omega,λ_ _=>rfl,by simp[val]⟩ ?_
   rintro⟨k,lo,cr⟩ ⟨hk,hl1,hw,hcr,hrest,hval2⟩
   refine By rfl (λh=>?_) λh=>?_
   . obtain⟨v,hv⟩:=xat (l:=dig x) (k:=k) (by omega)
     have hvb:=ww hv (Xad x)
     obtain⟨w,hw1⟩:=xat (l:=lo) (k:=i+k) (by omega)
     have hwb:=ww hw1 hw
     have huv:u*v<=4294967295*4294967295:=W1z (by omega) (by omega)
     obtain⟨s,hs⟩:∃s,s=cr+w+u*v:=⟨_,rfl⟩
     have hs2:s<18446744073709551616:=by omega
     refine Dw rfl ?_
     refine Ar (i+k:Nat) rfl ?_
     refine Eo (i+k) rfl (by omega) ?_
     refine Ld (wd w) rfl (mp hw1) ?_
     refine Go.Vm.Cv w rfl ?_
     refine Ar (cr+w:Nat) rfl ?_
     refine El i rfl (by omega) ?_
     refine Ld (wd u) rfl (mp (hg hu (by omega))) ?_
     refine Go.Vm.Cv u rfl ?_
     refine El k rfl (by omega) ?_
     refine Ld (wd v) rfl (mp (hg hv (by omega))) ?_
     refine Go.Vm.Cv v rfl ?_
     refine Ar (u*v:Nat) rfl ?_ (wr (W2z ..).symm (by simp only[inK];omega))
     refine Ar (s:Nat) rfl ?_
     refine Ar (i+k:Nat) rfl ?_
     refine Go.Vm.Cv (s%4294967296:Nat) rfl ?_ (by rw[wWm];omega)
     refine Eo (i+k) rfl (by omega) ?_
     refine Sto rfl (by simp only[lw];omega) ms ?_
     refine Ar (s/4294967296:Nat) rfl ?_ (Xhv (n:=32) (by decide))
     refine Ar (k+1:Nat) rfl ?_
     refine Bk (k+1,lo.set (i+k) (s%4294967296),s/4294967296) [] rfl ⟨by omega,by simp[hl1],Xgo hw (by omega),by omega,λj hj=>by rw[W1u (by omega)];exact hrest j (by omega),?_⟩ (by show _-(k+1)<_-k;omega)
     have hw0':lo0[i+k]?=some w:=by rw[<-hrest (i+k) (W0c _)];exact hw1
     rw[<-W4p,Xbb (by omega),Xac hw0',Xac hv,W0q,W0r,W0y u,W0y (4294967296^i)]
     have e:4294967296^(i+k)*s=4294967296^(i+k)*(s%4294967296)+4294967296^(i+k)*(4294967296*(s/4294967296)):=by rw[<-W0y];congr 1;omega
     have e2:4294967296^(i+k)*s=4294967296^(i+k)*cr+4294967296^i*(u*(4294967296^k*v))+4294967296^(i+k)*w:=by
      rw[hs,W0y,W0y,W0z]
      have:4294967296^i*4294967296^k*(u*v)=4294967296^i*(u*(4294967296^k*v)):=by
       rw[W0r,W4c (4294967296^k) u v]
      omega
     omega
   . have hkm:k=n:=by omega
     subst hkm
     refine Ar (i+k:Nat) rfl ?_ (wr (by omega) (by simp only[inK];omega))
     refine Go.Vm.Cv cr rfl ?_
     refine Eo (i+k) rfl (by omega) ?_
     refine Sto rfl (by simp only[lw];omega) ms ?_
     refine Ar (i+1:Nat) rfl ?_
     refine Bk (i+1,lo.set (i+k) cr) [] rfl ⟨by omega,by simp[hl1],Xgo hw hcr,?_,λj h1 h2=>by rw[W1u (by omega),hrest j (by omega)];exact hz0 j (by omega) h2⟩ (by show _-(i+1)<_-i;omega)
     rw[show i+1+k=i+k+1 by omega,Xbb (by omega),Xac hu,hval2,hval,show (dig x).take k=dig x from W0b (by omega),Xaf,W1h,W0r]
 . have him:i=n:=by omega
   rw[him,W0b (by omega),W0b (by omega),Xaf] at hval
   refine Fz 13 5 (lo0.map wd) rfl (by simp only[lw];omega) (oa hl0) ?_
   refine Ce rfl (Xaz hw0 (by omega)) ?_
   exact Rw [] [(1000001,.arr 1 (l.map wd))] rfl (.one (.rf rfl) rfl rfl) ⟨rfl,by rw[hval]⟩
end
section
theorem Neg_ok{z:Int}(h:(dig z.natAbs).length<=1099511627776): C0 251 [.d (dz z)] (·=.d (dz (-z))):=by
 refine En Tryz.func251 λ_ _ _=>?_
 refine Ce rfl (Xaj h) ?_
 exact R1 rfl (.eq (by rw[Yb4]))
theorem Add_ok{a b:Int}(ha:(dig a.natAbs).length<=549755813888)(hb:(dig b.natAbs).length<=549755813888): C0 170 [.d (dz a),.d (dz b)] (·=.d (dz (a+b))):=by
 refine En Tryz.func170 λ_ _ _=>?_
 refine Dw rfl ?_
 refine Ce rfl (Norm_ok (by omega)) ?_
 refine Ce rfl (Norm_ok (by omega)) ?_
 refine By rfl (λh=>?_) λh=>?_<;>rw[Yn7] at h
 . refine Dw rfl ?_
   refine Ce rfl (Xh7 ha hb) ?_
   refine Ce rfl (Xaj (W0l (Xgg ..) (by omega))) ?_
   exact R1 rfl (.eq (by rw[Yb6 h]))
 . refine Ce rfl (Xby (by omega)) ?_
   refine By rfl (λh1=>?_) λh1=>?_
   . have hle:=Yn0.1 (show ¬Xa5 (a.natAbs:Int) (b.natAbs:Int)<0 by omega)
     refine Dw rfl ?_
     refine Ce rfl (Xdt (by omega) hle) ?_
     refine Ce rfl (Xaj (W0l (Xap (Nat.sub_le ..)) (by omega))) ?_
     exact R1 rfl (.eq (by rw[Xp4 h hle]))
   . have hle:=W2c (Yau.1 (show Xa5 (a.natAbs:Int) (b.natAbs:Int)<0 by omega))
     refine Dw rfl ?_
     refine Ce rfl (Xdt (by omega) hle) ?_
     refine Ce rfl (Xaj (W0l (Xap (Nat.sub_le ..)) (by omega))) ?_
     exact R1 rfl (.eq (by rw[Xp4 (λe=>h e.symm) hle,Int.add_comm]))
theorem Sub_ok{a b:Int}(ha:(dig a.natAbs).length<=549755813888)(hb:(dig b.natAbs).length<=549755813888): C0 349 [.d (dz a),.d (dz b)] (·=.d (dz (a-b))):=by
 refine En Tryz.func349 λ_ _ _=>?_
 refine Dw rfl ?_
 refine Ce rfl (Neg_ok (by omega)) ?_
 refine Ce rfl (Add_ok ha (by rw[W4t];exact hb)) ?_
 exact R0
theorem Mul_ok{a b:Int}(ha:(dig a.natAbs).length<=549755813888)(hb:(dig b.natAbs).length<=549755813888): C0 172 [.d (dz a),.d (dz b)] (·=.d (dz (a*b))):=by
 refine En Tryz.func172 λ_ _ _=>?_
 refine Dw rfl ?_
 refine Ce rfl (Norm_ok (by omega)) ?_
 refine Ce rfl (Norm_ok (by omega)) ?_
 refine Dw rfl ?_
 refine Ce rfl (Xki ha hb) ?_
 refine Ce rfl (Xaj (W0l (Xk3 ..) (by omega))) ?_
 exact R1 rfl (.eq (by rw[Ydi,Yb5]))
theorem Xxf(a b:Int): Xa5 (a-b) 0=Xa5 a b:=by
 unfold Xa5;split<;>split<;>(try split)<;>(try split)<;>omega
theorem Cmp_ok{a b:Int}(ha:(dig a.natAbs).length<=549755813888)(hb:(dig b.natAbs).length<=549755813888): C0 441 [.d (dz a),.d (dz b)] (·=.d (.int .i64 (Xa5 a b))):=by
 have hl:=Xgg a.natAbs b.natAbs
 have hl2:=Xap (show (a-b).natAbs<=a.natAbs+b.natAbs by omega)
 refine En Tryz.func441 λ_ _ _=>?_
 refine Ce rfl (Sub_ok ha hb) ?_
 refine Ce rfl (Sign_ok (by omega)) ?_
 exact R1 rfl (.eq (by rw[Xxf]))
theorem Yn2{x y:Nat}(hx:(dig x).length<=549755813888)(hy:y<4294967296)(hy0:y≠0): C0 344 [.d (ws (dig x)),.d (.int .u32 y)] (·=.tup (.pr (.d (ws (dig (x/y)))) (.d (.int .u32 (x%y:Nat))))):=by
 refine En Tryz.func344 λ_ _ _=>?_
 refine Mk (dig x).length rfl (by simp only[lw];omega) ?_ (by simp only[lw])
 refine Ar ((dig x).length-1:Int) rfl ?_ (wr (by simp only[lw]) (by simp only[inK];omega))
 refine Lo (λ(k,lo,r)=>[(0,.d (ws (dig x))),(1,.d (.int .u32 y)),(6,.own 11 1 0 (dig x).length),(7,.d (.int .u64 (r:Nat))),(8,.d (.int .i64 ((k:Nat)-1:Int)))]) (λ(_,lo,_)=>[(11,.arr 1 (lo.map wd))])
  (λ(k,lo,r)=>k<=(dig x).length/\lo.length=(dig x).length/\Xan lo/\r<y/\val (lo.drop k)*y+r=val ((dig x).drop k)) (λ(k,_,_)=>k) ((dig x).length,List.replicate (dig x).length 0,0) [] rfl
  ⟨by omega,by simp,Xfd _,by omega,by rw[W1m (by simp),W1m (by omega)];simp[val]⟩ ?_ (by exact⟨rfl,by simp only[W2g];rfl,rfl,rfl,rfl⟩)
 rintro⟨k,lo,r⟩ ⟨hk,hl,hwo,hr,hval⟩
 refine By rfl (λh=>?_) λh=>?_
 . obtain⟨u,hu⟩:=xat (l:=dig x) (k:=k-1) (by omega)
   have hub:=ww hu (Xad x)
   obtain⟨s,hs⟩:∃s,s=r*2^32+u:=⟨_,rfl⟩
   have hs64:s<18446744073709551616:=by omega
   have hsy:s/y<4294967296:=by
    rw[W2t (by omega)]
    have:=W0v 4294967296 (show r+1<=y by omega)
    omega
   have hsm:s%y<y:=W2d _ (by omega)
   have hq0:0<=s/y:=W0x _
   refine Ar (r*2^32:Nat) rfl ?_ (Xhw (n:=32) rfl (by omega) (by decide))
   refine Ix (k-1) rfl (mp hu) ?_
   refine Go.Vm.Cv u rfl ?_
   refine Ar s rfl ?_ (Ycl (by omega) (by omega) (by rw[Xdg u r 32 (by omega),<-hs]) hs64)
   refine Go.Vm.Cv y rfl ?_
   refine Ar (s/y:Nat) rfl ?_ (show _/\_ from⟨by omega,Ydv s y hs64⟩)
   refine Go.Vm.Cv (s/y:Nat) rfl ?_ (wW ⟨W5j _,W7b.2 hsy⟩)
   refine Eo (k-1) rfl (by omega) ?_
   refine Sto rfl (by simp only[lw];omega) ms ?_
   refine Go.Vm.Cv y rfl ?_
   refine Ar (s%y:Nat) rfl ?_ (show _/\_ from⟨by omega,Xte s y⟩)
   refine Ar ((k-1:Nat)-1:Int) rfl ?_
   refine Bk (k-1,lo.set (k-1) (s/y),s%y) [] rfl ⟨by omega,by simp[hl],Xgo hwo hsy,hsm,?_⟩ (by show k-1<k;omega)
   rw[Xbr hu,show k-1+1=k by omega,<-hval,drop_set (by omega),val,show k-1+1=k by omega]
   have e:=W2p s y
   rw[W1f] at e
   rw[W1h,W0y,W0r]
   omega
 . have hk0:k=0:=by omega
   subst hk0
   rw[W1a,W1a,Xaf] at hval
   have hq:x/y=val lo:=by rw[<-hval,W1f,Nat.mul_add_div (by omega),W5i hr,W2o]
   have hm:x%y=r:=by rw[<-hval,W1f,Nat.mul_add_mod,W3y hr]
   refine Fz 9 6 (lo.map wd) rfl (by simp only[lw];omega) (oa hl) ?_
   refine Ce rfl (Xaz hwo (by omega)) ?_
   refine Go.Vm.Cv (x%y:Nat) rfl ?_ (by rw[hm];exact wW (by omega))
   exact RTt rfl (.cons (.eq (by rw[hq])) (.one (.rf rfl) (λ_ _ e=>by cases e) (λ_ _ e=>by cases e)))
theorem Xp2{x:Nat}(hl:(dig x).length<=2): C0 343 [.d (ws (dig x))] (·=.d (.int .u64 x)):=by
 refine En Tryz.func343 λ_ _ _=>?_
 refine Ar ((dig x).length-1:Int) rfl ?_ (wr (by simp only[lw]) (by simp only[inK];omega))
 refine Lo (λk=>[(0,.d (ws (dig x))),(3,.d (.int .u64 (val ((dig x).drop k)))),(4,.d (.int .i64 ((k:Nat)-1:Int)))]) (λ_=>[]) (λk=>k<=(dig x).length) (λk=>k) (dig x).length [] rfl (W0c _) (λk hk=>?_) (by exact⟨by rw[W1m (W0c _)];rfl,rfl,rfl,rfl,rfl⟩)
 refine By rfl (λh=>?_) λh=>?_
 . obtain⟨u,hu⟩:=xat (l:=dig x) (k:=k-1) (by omega)
   have hub:=ww hu (Xad x)
   have hv:val ((dig x).drop k)<4294967296:=by
    have h1:=Xbw ((Xad x).drop k)
    have h2:4294967296^((dig x).drop k).length<=4294967296^1:=W0m (by decide) (by rw[W1n];omega)
    omega
   have hvd:=Xbr hu
   rw[show k-1+1=k by omega] at hvd
   obtain⟨s,hs⟩:∃s,s=val ((dig x).drop k):=⟨_,rfl⟩
   rw[<-hs] at hv hvd
   refine Ar (s*2^32:Nat) rfl ?_ (by rw[<-hs];exact Xhw (n:=32) rfl (by omega) (by decide))
   refine Ix (k-1) rfl (mp hu) ?_
   refine Go.Vm.Cv u rfl ?_
   refine Ar (val ((dig x).drop (k-1)):Nat) rfl ?_ (Ycl (by omega) (by omega) (by rw[Xdg u s 32 (by omega),hvd];omega) (by omega))
   refine Ar ((k-1:Nat)-1:Int) rfl ?_
   exact Bk (k-1) [] rfl (show k-1<=_ by omega) (by show k-1<k;omega)
 . refine R1 rfl (.eq ?_)
   rw[show k=0 by omega,W1a,Xaf]
theorem Ygj{x:Nat}(h:x≠0): bl x=bl (x/2)+1:=by
 by_cases h2:x/2=0
 . have:x=1:=by omega
   subst this
   decide
 . exact Xeq (n:=x) (k:=1) h2
theorem Xml{x:Nat}(hx:(dig x).length<=1099511627776)(h0:x≠0): C0 345 [.d (ws (dig x))] λv=>∃t,(dig x)[(dig x).length-1]?=some t/\t≠0/\t<4294967296/\v=.d (.int .i64 (32*((dig x).length-1)+bl t:Nat)):=by
 have hm0:(dig x).length≠0:=λe=>h0 (Ypb.1 e)
 obtain⟨t,ht,ht0⟩:∃t,(dig x)[(dig x).length-1]?=some t/\t≠0:=by
  rcases Xg2 x with h1 | h1
  . exact absurd (Xsl.1 h1) h0
  . exact h1
 have htb:=ww ht (Xad x)
 have hbt:bl t<=32:=by
  obtain⟨b1,b2,b3⟩:=Xcg ht0
  have:2^(bl t-1)<2^32:=W1y b1 htb
  have:=(W2w (by decide:1<2)).1 this
  omega
 refine En Tryz.func345 λ_ _ _=>?_
 refine No rfl (by simp only[lw];omega) ?_
 refine Ar ((dig x).length-1:Nat) rfl ?_ (wr (by simp only[lw];omega) (by simp only[inK];omega))
 refine Ix ((dig x).length-1) rfl (mp ht) ?_
 refine Lo (λ(k,i)=>[(0,.d (ws (dig x))),(3,.d (.int .i64 (i:Nat))),(4,.d (.int .u32 (k:Nat)))]) (λ_=>[]) (λ(k,i)=>k<4294967296/\bl k+i=bl t) (λ(k,_)=>k) (t,0) [] rfl ⟨htb,rfl⟩ ?_
 rintro⟨k,i⟩ ⟨hk,hb⟩
 refine By rfl (λh=>?_) λh=>?_
 . have:=Ygj (x:=k) (by omega)
   refine Ar (i+1:Nat) rfl ?_
   refine Ar (k/2:Nat) rfl ?_ (show _/\_ from⟨by decide,by rw[show Int.tdiv (k:Int) 2=((k/2:Nat):Int) from rfl];exact wW (by omega)⟩)
   exact Bk (k/2,i+1) [] rfl ⟨by omega,by omega⟩ (by show k/2<k;omega)
 . have hk0:k=0:=by omega
   subst hk0
   rw[show bl 0=0 from rfl] at hb
   refine Ar ((dig x).length-1:Nat) rfl ?_ (wr (by simp only[lw];omega) (by simp only[inK];omega))
   refine Ar (32*((dig x).length-1):Nat) rfl ?_
   refine Ar (32*((dig x).length-1)+bl t:Nat) rfl ?_
   exact Rt rfl (.one (.rf rfl) rfl rfl) ⟨t,ht,ht0,htb,rfl⟩
theorem Xei{n x:Nat}(hx:(dig x).length<=549755813888)(hn32:n<32): CO0 346 [.d (ws (dig x)),.d (.int .i64 n)] λv ob=>∃l,l.length=(dig x).length+1/\Xan l/\val l=x*2^n/\v=.own 1000000 1 0 l.length/\ob=.arr 1 (l.map wd):=by
 have hp:=W0u n
 have hp32:2^n<=2147483648:=by have:2^n<=2^31:=W0m (by decide) (by omega);omega
 refine EnW Tryz.func346 λ_ _ _ _=>?_
 refine Ar ((dig x).length+1:Nat) rfl ?_ (wr (by simp only[lw];omega) (by simp only[inK];omega))
 refine Mk ((dig x).length+1) rfl (by omega) ?_
 refine Lo (λ(i,lo)=>[(0,.d (ws (dig x))),(1,.d (.int .i64 n)),(5,.own 11 1 0 ((dig x).length+1)),(6,.d (.int .i64 (i:Nat)))]) (λ(_,lo)=>[(11,.arr 1 (lo.map wd))])
  (λ(i,lo)=>i<=(dig x).length/\lo.length=(dig x).length+1/\Xan lo/\val (lo.take (i+1))=val ((dig x).take i)*2^n/\∃w,lo[i]?=some w/\w<2^n) (λ(i,_)=>(dig x).length-i) (0,List.replicate ((dig x).length+1) 0) [] rfl
  ⟨by omega,by simp,Xfd _,by rw[W5h,Xbq];simp[val],0,by simp,hp⟩ ?_ (by exact⟨rfl,by simp only[W2g];rfl,rfl,rfl,rfl⟩)
 rintro⟨i,lo⟩ ⟨hi,hl,hwo,hval,w,hw,hwn⟩
 refine By rfl (λh=>?_) λh=>?_<;>simp only[lw] at h
 . obtain⟨u,hu⟩:=xat (l:=dig x) (k:=i) (by omega)
   have hub:=ww hu (Xad x)
   have hs1:=Yb1 hub hn32
   have hs2:=Xds u n (by omega)
   obtain⟨s,hs⟩:∃s,s=u*2^n:=⟨_,rfl⟩
   have hshl:=Xhw hs.symm (by omega) (by omega:n<=64)
   rw[<-hs] at hs1 hs2
   have hor:w|||s%4294967296=s%4294967296+w:=by rw[Nat.or_comm,hs2];exact Xdg _ _ _ hwn
   have hlt:s%4294967296+w<4294967296:=by
    rw[hs2]
    have h1:u%2^(32-n)+1<=2^(32-n):=W2d _ (W0u _)
    have h2:=W0v (2^n) h1
    rw[<-W0z,show 32-n+n=32 by omega,W3c] at h2
    omega
   refine Ix i rfl (mp hu) ?_
   refine Go.Vm.Cv u rfl ?_
   refine Ar s rfl ?_ hshl
   refine Eo i rfl (by omega) ?_
   refine Ld (wd w) rfl (mp hw) ?_
   refine Go.Vm.Cv (s%4294967296:Nat) rfl ?_ (by rw[wWm];omega)
   refine Ar (s%4294967296+w:Nat) rfl ?_ (Ylz (by omega) (by omega) hor hlt)
   refine Eo i rfl (by omega) ?_
   refine Sto rfl (by simp only[lw];omega) ms ?_
   refine Ar (i+1:Nat) rfl ?_
   refine Ar (s/4294967296:Nat) rfl ?_ (Xhv (n:=32) (by decide))
   refine Go.Vm.Cv (s/4294967296:Nat) rfl ?_
   refine Eo (i+1) rfl (by omega) ?_
   refine Sto rfl (by simp only[W0i,W3q];omega) ms ?_
   refine Ar (i+1:Nat) rfl ?_
   refine Bk (i+1,(lo.set i (s%4294967296+w)).set (i+1) (s/4294967296)) [] rfl ⟨by omega,by simp[hl],Xgo (Xgo hwo hlt) (by omega),?_,s/4294967296,by rw[W2l (by rw[W3q];omega)],?_⟩ (by show _-(i+1)<_-i;omega)
   . rw[Xbb (by rw[W3q];omega),Xbb (by omega),Xac hu,W1h,<-hval,Xac hw,W0r,<-hs,W0q,W0y,W0r]
     have e:4294967296^i*s=4294967296^i*(s%4294967296)+4294967296^i*(4294967296*(s/4294967296)):=by rw[<-W0y];congr 1;omega
     omega
   . rw[W2t (by decide),hs,W1f]
     exact Nat.mul_lt_mul_of_pos_left hub hp
 . have him:i=(dig x).length:=by omega
   rw[him,W0b (by omega),W0b (by omega),Xaf] at hval
   exact Rw [(11,1000000)] [(1000000,.arr 1 (lo.map wd))] rfl (.one (.rf rfl) rfl rfl) ⟨_,rfl,lo,hl,hwo,hval,by rw[hl];rfl,rfl⟩
theorem Xlz{n x:Nat}(hx:(dig x).length<=549755813888)(hn32:n<32): C0 346 [.d (ws (dig x)),.d (.int .i64 n)] λv=>∃l,l.length=(dig x).length+1/\Xan l/\val l=x*2^n/\v=.d (ws l) :=
 CW.data (Xei hx hn32) rfl λv H' ⟨ob,e,l,h1,h2,h3,h4,h5⟩=>⟨.d (ws l),by rw[h4,e,h5];exact .one (.own rfl (by simp) (oa rfl)) rfl rfl,l,h1,h2,h3,rfl⟩
theorem Xsr{u v n:Nat}(hu:u<4294967296)(hn:n<32): (u+v*4294967296)/2^n%4294967296=u/2^n+(v%2^n)*2^(32-n):=by
 have e:v*4294967296=v*2^(32-n)*2^n:=by
  rw[W0r,<-W0z,show 32-n+n=32 by omega]
 rw[e,Nat.add_mul_div_right _ _ (W0u n)]
 have h1:=Xds v (32-n) (by omega)
 rw[show 32-(32-n)=n by omega] at h1
 have h2:=(Xly (v:=v) hu hn).2
 rw[<-h1] at h2 |-
 generalize v*2^(32-n)=X at *
 generalize u/2^n=A at *
 omega
theorem Ygm{n x:Nat}(hx:(dig x).length<=1099511627776)(hn32:n<32): C0 348 [.d (ws (dig x)),.d (.int .i64 n)] (·=.d (ws (dig (x/2^n)))):=by
 have hp:=W0u n
 have hp32:2^n<=2147483648:=by have:2^n<=2^31:=W0m (by decide) (by omega);omega
 obtain⟨m,hm⟩:∃m,(dig x).length=m:=⟨_,rfl⟩
 rw[hm] at hx
 have hvx:=Xaf x
 refine En Tryz.func348 λ_ _ _=>?_
 refine Mk m rfl (by simp only[lw];omega) ?_ (by simp only[lw,hm])
 refine Lo (λ(i,lo)=>[(0,.d (ws (dig x))),(1,.d (.int .i64 n)),(5,.own 10 1 0 m),(6,.d (.int .i64 (i:Nat)))]) (λ(_,lo)=>[(10,.arr 1 (lo.map wd))])
  (λ(i,lo)=>i<=m/\lo.length=m/\Xan lo/\val (lo.take i)*2^n+x%2^n=val ((dig x).take i)+4294967296^i*((dig x).getD i 0%2^n)) (λ(i,_)=>m-i) (0,List.replicate m 0) [] rfl
  ⟨by omega,by simp,Xfd _,by have:=Xhl (dig x) n (by omega);rw[hvx] at this;simp[val,this]⟩ ?_ (by exact⟨rfl,by simp only[W2g];rfl,rfl,rfl,rfl⟩)
 rintro⟨i,lo⟩ ⟨hi,hl,hwo,hval⟩
 refine By rfl (λh=>?_) λh=>?_<;>simp only[lw] at h
 . obtain⟨u,hu⟩:=xat (l:=dig x) (k:=i) (by omega)
   have hub:=ww hu (Xad x)
   have hgu:(dig x).getD i 0=u:=by rw[W2x,hu];rfl
   rw[hgu] at hval
   refine Ix i rfl (mp hu) ?_
   refine Go.Vm.Cv u rfl ?_
   refine Ar (i+1:Nat) rfl ?_
   refine Cu none (λs:Nat=>[(0,.d (ws (dig x))),(1,.d (.int .i64 n)),(5,.own 10 1 0 m),(6,.d (.int .i64 i)),(7,.d (.int .u64 s))]) (λ_=>[(10,.arr 1 (lo.map wd))])
    (λs=>∃v,(dig x).getD (i+1) 0=v/\v<4294967296/\s=u+v*4294967296) rfl ?_ λs ⟨v,hv,hvb,hs⟩=>?_
   . refine By rfl (λh2=>?_) λh2=>?_<;>simp only[lw] at h2
     . obtain⟨v,hv⟩:=xat (l:=dig x) (k:=i+1) (by omega)
       have hvb:=ww hv (Xad x)
       refine Ar (i+1:Nat) rfl ?_
       refine Ix (i+1) rfl (mp hv) ?_
       refine Go.Vm.Cv v rfl ?_
       refine Ar (v*2^32:Nat) rfl ?_ (Xhw (n:=32) rfl (by omega) (by decide))
       refine Ar (u+v*4294967296:Nat) rfl ?_ (Ycl (by omega) (by omega) (by rw[Nat.or_comm,Xdg u v 32 (by omega)];omega) (by omega))
       exact Jn (u+v*4294967296) [] rfl ⟨v,by rw[W2x,hv];rfl,hvb,rfl⟩
     . exact Jn u [] rfl ⟨0,by rw[W2x,W2e (by omega)];rfl,by decide,by omega⟩
   have hbd:=Xsr (v:=v) hub hn32
   rw[<-hs] at hbd
   refine Ar (s/2^n:Nat) rfl ?_ (Xhv (show n<=64 by omega))
   refine Go.Vm.Cv (s/2^n%4294967296:Nat) rfl ?_ (by rw[wWm];omega)
   refine Eo i rfl (by omega) ?_
   refine Sto rfl (by simp only[lw];omega) ms ?_
   refine Ar (i+1:Nat) rfl ?_
   refine Bk (i+1,lo.set i (s/2^n%4294967296)) [] rfl ⟨by omega,by simp[hl],Xgo hwo (by omega),?_⟩ (by show m-(i+1)<m-i;omega)
   rw[Xbb (by omega),Xac hu,hv,hbd]
   exact Xp1 hn32 hval
 . have him:i=m:=by omega
   rw[him,W0b (by omega),W0b (by omega),W2x,W2e (by omega),hvx] at hval
   have hfin:val lo=x/2^n:=by
    simp at hval
    have:=W2p x (2^n)
    rw[W1f] at this
    exact Nat.eq_of_mul_eq_mul_right hp (by omega)
   refine Fz 9 5 (lo.map wd) rfl (by simp only[lw];omega) (oa hl) ?_
   refine Ce rfl (Xaz hwo (by omega)) ?_
   exact R1 rfl (.eq (by rw[hfin]))
end
section
theorem Xw1{q N y V:Nat}{l:List Nat}(hw:Xan l)(hq:q+N<=l.length)(hN:N=(dig y).length+1)(hy0:y≠0)(hn40:N<=1099511627776)(hV:val ((l.drop q).take N)=V)(hlt:V<4294967296*y)(hy:(dig y).length<=549755813888):
 CN0 347 [.own 1000001 1 q N,.d (ws (dig y))] [(1000001,.arr 1 (l.map wd))] (·=.tup (.pr (.d (.int .u32 (V/y:Nat))) (.d (ws (dig (y*(V/y))))))):=by
 obtain⟨n,hn⟩:∃n,n=(dig y).length:=⟨_,rfl⟩
 rw[<-hn] at hN hy
 have hn0:n≠0:=λe=>hy0 (Ypb.1 (by omega))
 obtain⟨t,ht,ht0⟩:∃t,(dig y)[n-1]?=some t/\t≠0:=by
  rcases Xg2 y with h1 | h1
  . exact absurd (Xsl.1 h1) hy0
  . rw[<-hn] at h1;exact h1
 have htb:=ww ht (Xad y)
 obtain⟨u0,hu0⟩:=xat (l:=l) (k:=q+n) (by omega)
 obtain⟨u1,hu1⟩:=xat (l:=l) (k:=q+(n-1)) (by omega)
 have hub0:=ww hu0 hw
 have hub1:=ww hu1 hw
 have hqB:V/y<4294967296:=by rw[W2t (W2n hy0)];exact hlt
 have hq00:=W0x (V/y)
 obtain⟨top,htop⟩:∃top,top=u0*2^32+u1:=⟨_,rfl⟩
 have htopb:top<18446744073709551616:=by omega
 have hest:V/y<=top/t:=by
  have e1:=Xb0 hu1
  rw[show n-1+1=n by omega] at e1
  have e2:=Xb0 hu0
  rw[<-hN,hV,e1] at e2
  have e3:=Xac ht
  rw[show n-1+1=(dig y).length by omega,W1x,Xaf] at e3
  have hlow:=Xbw ((hw.drop q).take (n-1))
  rw[Xyh (by omega)] at hlow
  have hM:4294967296^n=4294967296^(n-1)*4294967296:=by rw[<-W0q];congr 1;omega
  rw[hM] at e2
  generalize 4294967296^(n-1)=M at *
  generalize val ((l.drop q).take (n-1))=low at *
  generalize val ((dig y).take (n-1))=vlow at *
  have h1:V<M*(top+1):=by
   have:M*(u0*2^32+u1+1)=M*u1+M*4294967296*u0+M:=by grind
   rw[htop];omega
  have h2:M*t<=y:=by omega
  have hM0:0<M:=by omega
  have h3:V/y<=V/(M*t):=Nat.div_le_div_left h2 (W1o hM0 (W2n ht0))
  refine W0l h3 ?_
  rw[<-W6h]
  refine Nat.div_le_div_right ?_
  have:=(W2t hM0).2 (by rw[W1f];exact h1)
  omega
 refine EnW Tryz.func347 λ_ _ _ _=>?_
 refine Dw rfl ?_
 refine El n rfl (by omega) ?_ (by simp only[lw];omega)
 refine Ld (wd u0) rfl (mp hu0) ?_
 refine Go.Vm.Cv u0 rfl ?_
 refine Ar (u0*2^32:Nat) rfl ?_ (Xhw (n:=32) rfl (by omega) (by decide))
 refine Ar (n-1:Nat) rfl ?_ (wr (by simp only[lw];omega) (by simp only[inK];omega))
 refine El (n-1) rfl (by omega) ?_
 refine Ld (wd u1) rfl (mp hu1) ?_
 refine Go.Vm.Cv u1 rfl ?_
 refine Ar top rfl ?_ (Ycl (by omega) (by omega) (by rw[Xdg u1 u0 32 (by omega),htop]) htopb)
 refine Ar (n-1:Nat) rfl ?_ (wr (by simp only[lw];omega) (by simp only[inK];omega))
 refine Ix (n-1) rfl (mp ht) ?_
 refine Go.Vm.Cv t rfl ?_
 have htt0:=W0x (top/t)
 have htt1:=W4h top t
 refine Ar (top/t:Nat) rfl ?_ (show _/\_ from⟨by omega,Ydv top t htopb⟩)
 refine Cu none (λg:Nat=>[(0,.own 1000001 1 q N),(1,.d (ws (dig y))),(7,.d (.int .u64 g))]) (λ_=>[(1000001,.arr 1 (l.map wd))]) (λg=>V/y<=g/\g<4294967296) rfl ?_ λg0 ⟨hg0,hgB⟩=>?_
 . refine By rfl (λh=>?_) λh=>?_
   . exact Jn 4294967295 [] rfl ⟨by omega,by decide⟩
   . exact Jn (top/t) [] rfl ⟨hest,by omega⟩
 refine Go.Vm.Cv g0 rfl ?_
 refine Ce (r:=.d (ws (dig (y*g0)))) rfl (by have:=Xth (Xad y) (Y:=[g0]) (.cons hgB .nil) (by omega) (by simp);rwa[Xaf,show val [g0]=g0 by simp[val]] at this) ?_
 refine Lo (λg:Nat=>[(0,.own 1000001 1 q N),(1,.d (ws (dig y))),(7,.d (.int .u64 g)),(8,.d (ws (dig (y*g))))]) (λ_=>[(1000001,.arr 1 (l.map wd))]) (λg=>V/y<=g/\g<4294967296) (λg=>g) g0 [] rfl ⟨hg0,hgB⟩ λg ⟨hg,hgB⟩=>?_
 refine Cn [] rfl (Xg1 hw hq hn40) λv hv=>?_
 obtain⟨k,hk,rfl,hkl⟩:=hv
 rw[hV] at hkl
 refine Cn [] rfl (Xow (by omega) hkl (by rw[<-hkl,Xyh (by omega)];omega)) λv hv=>?_
 obtain rfl:v=_:=hv
 refine By rfl (λh=>?_) λh=>?_
 . have hlt2:V<y*g:=Yau.1 h
   have hg1:V/y<g:=by rw[W2t (W2n hy0),W1f];exact hlt2
   have hyg:y*g-y=y*(g-1):=by rw[Nat.mul_sub_one]
   have hle:y<=y*g:=W4i _ (by omega)
   have hlen:(dig (y*g)).length<=1099511627776:=by
    have h1:=Xk3 y g
    have h2:(dig g).length<=1:=Xaq (by omega)
    omega
   refine Ar (g-1:Nat) rfl ?_
   refine Ce rfl (Xdt hlen hle) ?_
   exact Bk (g-1) [] rfl ⟨by omega,by omega⟩ (by show g-1<g;omega) (by exact⟨by rw[hyg];rfl,rfl,rfl,rfl,rfl⟩)
 . have hge2:y*g<=V:=W4k λhlt=>h (Yau.2 hlt)
   have hg2:g=V/y:=Nat.le_antisymm ((W7r (W2n hy0)).2 (by rw[W1f];exact hge2)) hg
   refine Go.Vm.Cv g rfl ?_
   exact Rw [] [(1000001,.arr 1 (l.map wd))] rfl (.tup (.cons (.rf rfl) (.one (.rf rfl) (λ_ _ e=>by cases e) (λ_ _ e=>by cases e)))) ⟨rfl,by rw[hg2];rfl⟩
theorem Xcu{x y:Nat}(hx:(dig x).length<=549755813888)(hy:(dig y).length<=549755813888)(hy0:y≠0): C0 262 [.d (ws (dig x)),.d (ws (dig y))] (·=.tup (.pr (.d (ws (dig (x/y)))) (.d (ws (dig (x%y)))))):=by
 refine En Tryz.func262 λ_ _ _=>?_
 refine Ce rfl (Xby (by omega)) ?_
 refine By rfl (λh=>?_) λh=>?_
 . have hlt:x<y:=Yau.1 h
   exact RTt rfl (.cons (.nil (by rw[W5i hlt,Xak];rfl)) (.one (.eq (by rw[W3y hlt])) (λ_ _ e=>by cases e) (λ_ _ e=>by cases e)))
 have hge:y<=x:=W4k λhlt=>h (Yau.2 hlt)
 have hlenle:=Xap hge
 refine By rfl (λh2=>?_) λh2=>?_<;>simp only[lw] at h2
 . have hx64:x<18446744073709551616:=by
    have:=Xc0 x
    have h1:4294967296^(dig x).length<=4294967296^2:=W0m (by decide) (by omega)
    omega
   refine Ce rfl (Xp2 (by omega)) ?_
   refine Ce rfl (Xp2 (by omega)) ?_
   have hq64:x/y<18446744073709551616:=W1y (W4h ..) hx64
   have hr64:x%y<18446744073709551616:=W1y (Nat.mod_le ..) hx64
   refine Dw rfl ?_
   refine Ar (x/y:Nat) rfl ?_ (show _/\_ from⟨by omega,Ydv x y hx64⟩)
   refine Ce rfl (words_ok hq64) ?_
   refine Ar (x%y:Nat) rfl ?_ (show _/\_ from⟨by omega,Xte x y⟩)
   refine Ce rfl (words_ok hr64) ?_
   exact R0t
 refine By rfl (λh3=>?_) λh3=>?_<;>simp only[lw] at h3
 . obtain⟨t,ht⟩:=xat (l:=dig y) (k:=0) (by omega)
   have htb:=ww ht (Xad y)
   have hyt:y=t:=by
    have:=Xac ht
    rw[W0b (by omega),Xaf] at this
    simpa [val] using this
   have hrt:x%t<t:=W2d _ (by omega)
   have hr0:=W0x (x%t)
   refine Ix 0 rfl (mp ht) ?_
   refine Ce rfl (Yn2 (y:=t) hx htb (by omega)) ?_
   refine Go.Vm.Cv (x%t:Nat) rfl ?_
   refine Ce rfl (words_ok (n:=x%t) (by omega)) ?_
   exact RTt rfl (.cons (.eq (by rw[hyt])) (.one (.eq (by rw[hyt])) (λ_ _ e=>by cases e) (λ_ _ e=>by cases e)))
 have hy1:1<=(dig y).length:=by
  have:(dig y).length≠0:=λh=>hy0 (Ypb.1 h)
  omega
 refine Ar (32*(dig y).length:Nat) rfl ?_ (wr (by simp only[lw];omega) (by simp only[inK];omega))
 refine Ca rfl (Xml (by omega) hy0) λv hv=>?_
 obtain⟨t,ht,ht0,htb,rfl⟩:=hv
 obtain⟨bb1,bb2,bb3⟩:=Xcg ht0
 have hb32:bl t<=32:=by
  have:2^(bl t-1)<2^32:=W1y bb1 htb
  have:=(W2w (by decide:1<2)).1 this
  omega
 obtain⟨s,hs⟩:∃s,s=32-bl t:=⟨_,rfl⟩
 have hs32:s<32:=by omega
 have hs1:2147483648<=t*2^s:=by
  have h1:=W0v (2^(32-bl t)) bb1
  rw[<-W0z,show bl t-1+(32-bl t)=31 by omega] at h1
  rw[hs];exact h1
 have hs2:t*2^s<4294967296:=by
  have h1:=W3k bb2 (W0u (32-bl t))
  rw[<-W0z,show bl t+(32-bl t)=32 by omega] at h1
  rw[hs];exact h1
 refine Ar s rfl ?_
 obtain⟨hlen,t',ht',htt⟩:=Xqx hy0 ht hs1 hs2
 refine Co rfl (Xei hx hs32) λv ob hv=>?_
 obtain⟨lu0,hul,huw,huv,rfl,rfl⟩:=hv
 refine Ca rfl (Xlz hy hs32) λv hv=>?_
 obtain⟨lv,hvl,hvw,hvv,rfl⟩:=hv
 obtain⟨Y,hY⟩:∃Y,Y=y*2^s:=⟨_,rfl⟩
 rw[<-hY] at hlen hvv
 refine Ce (r:=.d (ws (dig Y))) rfl (by have:=Xaz hvw (by omega);rwa[hvv] at this) ?_
 obtain⟨mv,hmv⟩:∃mv,mv=(dig Y).length:=⟨_,rfl⟩
 obtain⟨m,hm⟩:∃m,m=(dig x).length:=⟨_,rfl⟩
 refine Mk m rfl (by simp only[lw];omega) ?_ (by simp only[lw,hm])
 refine Ar ((lu0.length-mv:Nat)-1:Int) rfl ?_ (wr (by simp only[lw];omega) (by simp only[inK];omega))
 have hY0:Y≠0:=by rw[hY];exact Nat.mul_ne_zero hy0 (W8c.1 (W0u s))
 have hYl:=Xc0 Y
 have hR0:val (lu0.drop (lu0.length-mv))<Y:=by
  have h1:=Xbi lu0 (lu0.length-mv) (by omega)
  rw[huv] at h1
  have h2:=Xm3 hy0
  have h3:=Xc0 x
  have hp:=W0u s
  apply W1g
  intro hn2
  have h4:4294967296^(lu0.length-mv)*Y<=x*2^s:=by
   rw[h1]
   have:=W0p (4294967296^(lu0.length-mv)) (W4k hn2)
   omega
  rw[hY,<-W0r] at h4
  have h5:=Nat.le_of_mul_le_mul_right h4 hp
  have h6:=W0p (4294967296^(lu0.length-mv)) h2
  rw[<-W0z,show lu0.length-mv+((dig y).length-1)=(dig x).length by omega] at h6
  omega
 refine Lo (λ(k,lu,lq)=>[(10,.d (.int .i64 s)),(11,.own 63 1 0 lu0.length),(12,.d (ws (dig Y))),(13,.own 70 1 0 m),(14,.d (.int .i64 ((k:Nat)-1:Int)))]) (λ(_,lu,lq)=>[(63,.arr 1 (lu.map wd)),(70,.arr 1 (lq.map wd))])
  (λ(k,lu,lq)=>k<=lu0.length-mv/\lu.length=lu0.length/\Xan lu/\lq.length=m/\Xan lq/\(∀j,j<k->lu[j]?=lu0[j]?)/\val (lu.drop k)<Y/\val (lq.drop k)*Y+val (lu.drop k)=val (lu0.drop k)) (λ(k,_,_)=>k) (lu0.length-mv,lu0,List.replicate m 0) [] rfl
  ⟨by omega,rfl,huw,by simp,Xfd _,λ_ _=>rfl,hR0,by rw[List.drop_replicate,Xbq];simp⟩ ?_ (by exact⟨rfl,by simp only[W2g];rfl,rfl,rfl,rfl⟩)
 rintro⟨k,lu,lq⟩ ⟨hk,hln,hwu,hlq,hwq,hsame,hRlt,hQR⟩
 refine By rfl (λh=>?_) λh=>?_
 . obtain⟨hwin,hUlt⟩:=Ybk (n:=mv) (i:=k-1) (Y:=Y) hwu (by omega) (by rw[show k-1+1=k by omega];exact hRlt) (by rw[hmv];exact W2c hYl)
   obtain⟨U,hU⟩:∃U,U=val (lu.drop (k-1)):=⟨_,rfl⟩
   rw[<-hU] at hwin hUlt
   have hqB:U/Y<4294967296:=by rw[W2t (W2n hY0)];exact hUlt
   have hqz0:0<=U/Y:=W0x _
   have hUlt2:U%Y<Y:=W2d _ (W2n hY0)
   have eN:k-1+mv+1-(k-1)=mv+1:=by omega
   refine Ar (k-1+mv:Nat) rfl ?_ (wr (by simp only[lw];omega) (by simp only[inK];omega))
   refine Ar (k-1+mv+1:Nat) rfl ?_
   refine Sw (k-1) (k-1+mv+1) rfl (by omega) (by omega) ?_
   have hwin2:val ((lu.drop (0+(k-1))).take (k-1+mv+1-(k-1)))=U:=by rw[W1k,eN];exact hwin.symm
   refine Cn [(1000001,63)] rfl (Xw1 (l:=lu) (q:=0+(k-1)) (N:=k-1+mv+1-(k-1)) (V:=U) hwu (by omega) (by omega) hY0 (by omega) hwin2 hUlt (by omega)) λv hv=>?_
   obtain rfl:v=_:=hv
   refine Eo (k-1) rfl (by omega) ?_
   refine Sto rfl (by simp only[lw];omega) ms ?_
   refine Cn [(1000001,63)] rfl (Xg1 (l:=lu) (q:=0+(k-1)) (n:=k-1+mv+1-(k-1)) hwu (by omega) (by omega)) λv hv=>?_
   obtain⟨k2,hk2,rfl,hkl⟩:=hv
   rw[hwin2] at hkl
   have hUY:Y*(U/Y)<=U:=Nat.mul_div_le U Y
   have hUmod:U-Y*(U/Y)=U%Y:=by have:=W2p U Y;omega
   refine Cn [(1000001,63)] rfl (Xvb (l:=lu) (q:=0+(k-1)) (m:=k2) (by omega) hkl (by rw[<-hkl,Xyh (by omega)];omega) hUY) λv hv=>?_
   rw[hUmod] at hv
   obtain rfl:v=_:=hv
   have hdlen:=Xap (W2c hUlt2)
   refine Lo (λ(i,lo)=>[(10,.d (.int .i64 s)),(11,.own 63 1 0 lu0.length),(12,.d (ws (dig Y))),(13,.own 70 1 0 m),(14,.d (.int .i64 ((k:Nat)-1:Int))),(15,.own 63 1 (0+(k-1)) (k-1+mv+1-(k-1))),(18,.d (ws (dig (U%Y)))),(19,.d (.int .i64 (i:Nat)))]) (λ(_,lo)=>[(63,.arr 1 (lo.map wd)),(70,.arr 1 ((lq.set (k-1) (U/Y)).map wd))])
    (λ(i,lo)=>i<=mv+1/\lo.length=lu0.length/\Xan lo/\(∀j,(j<k-1\/k-1+i<=j)->lo[j]?=lu[j]?)/\val ((lo.drop (k-1)).take i)=val ((dig (U%Y)).take i)) (λ(i,_)=>mv+1-i) (0,lu) [] rfl
    ⟨by omega,hln,hwu,λ_ _=>rfl,rfl⟩ ?_
   rintro⟨i,lo⟩ ⟨hi,hlo,hwo,hsame2,hval2⟩
   refine By rfl (λh1=>?_) λh1=>?_
   . refine El i rfl (by omega) ?_
     refine Sto rfl (by simp only[lw];omega) (ms (f:=wd) (u:=0)) ?_
     have eJ:0+(k-1)+i=k-1+i:=by omega
     refine Cu none (λg:Nat=>[(10,.d (.int .i64 s)),(11,.own 63 1 0 lu0.length),(12,.d (ws (dig Y))),(13,.own 70 1 0 m),(14,.d (.int .i64 ((k:Nat)-1:Int))),(15,.own 63 1 (0+(k-1)) (k-1+mv+1-(k-1))),(18,.d (ws (dig (U%Y)))),(19,.d (.int .i64 i))]) (λg=>[(63,.arr 1 ((lo.set (k-1+i) g).map wd)),(70,.arr 1 ((lq.set (k-1) (U/Y)).map wd))])
      (λg=>g<4294967296/\val ((dig (U%Y)).take (i+1))=val ((dig (U%Y)).take i)+4294967296^i*g) rfl ?_ λg ⟨hgb,hg⟩=>?_
     . refine By rfl (λh2=>?_) λh2=>?_<;>simp only[lw] at h2
       . obtain⟨w,hw⟩:=xat (l:=dig (U%Y)) (k:=i) (by omega)
         have hwb:=ww hw (Xad (U%Y))
         refine Ix i rfl (mp hw) ?_
         refine El i rfl (by omega) ?_
         refine Sto rfl (by simp only[lw,W3q];omega) ms ?_
         exact Jn w [] rfl ⟨hwb,Xac hw⟩ (by exact⟨rfl,by rw[List.set_set,eJ];rfl,rfl,rfl,rfl⟩)
       . exact Jn 0 [] rfl ⟨by decide,by rw[Xf9 (by omega)];rfl⟩ (by exact⟨rfl,by rw[eJ];rfl,rfl,rfl,rfl⟩)
     refine Ar (i+1:Nat) rfl ?_
     exact Bk (i+1,lo.set (k-1+i) g) [] rfl ⟨by omega,by simp[hlo],Xgo hwo hgb,λj hj=>by rw[W1u (by omega)];exact hsame2 j (by omega),by rw[Xff (by omega),hval2,hg]⟩ (by show mv+1-(i+1)<mv+1-i;omega)
   . have hik:i=mv+1:=by omega
     subst hik
     rw[W0b (l:=dig (U%Y)) (by omega),Xaf] at hval2
     have hab:val (lo.drop (k-1))=U%Y:=by
      have g1:=Xbi (lo.drop (k-1)) (mv+1) (by rw[W1n];omega)
      have g2:=Xbi (lu.drop (k-1)) (mv+1) (by rw[W1n];omega)
      have g3:(lo.drop (k-1)).drop (mv+1)=(lu.drop (k-1)).drop (mv+1):=by
       rw[W4s,W4s]
       exact Xen λj hj=>hsame2 j (.inr hj)
      rw[<-hU,<-hwin] at g2
      rw[g1,hval2,g3]
      omega
     obtain⟨w,hw⟩:=xat (l:=lu) (k:=k-1) (by omega)
     have hw2:lu0[k-1]?=some w:=by rw[<-hsame (k-1) (by omega)];exact hw
     have hfin:val ((lq.set (k-1) (U/Y)).drop (k-1))*Y+val (lo.drop (k-1))=val (lu0.drop (k-1)):=by
      have g1:=Xbr hw
      have g2:=Xbr hw2
      have g3:=Xbr (l:=lq.set (k-1) (U/Y)) (k:=k-1) (W2l (by omega))
      have g4:(lq.set (k-1) (U/Y)).drop (k-1+1)=lq.drop (k-1+1):=Xen λj hj=>W1u (by omega)
      rw[show k-1+1=k by omega] at g1 g2 g3 g4
      rw[hab,g2,g3,g4,<-hQR,W1h,W0r,W0y]
      have g5:=W2p U Y
      rw[W1f] at g5
      rw[<-hU] at g1
      omega
     refine Ar ((k-1:Nat)-1:Int) rfl ?_
     exact Bk (k-1,lo,lq.set (k-1) (U/Y)) [] rfl ⟨by omega,hlo,hwo,by simp[hlq],Xgo hwq hqB,λj hj=>(hsame2 j (.inl hj)).trans (hsame j (by omega)),by rw[hab];exact hUlt2,hfin⟩ (by show k-1<k;omega)
 . have hk0:k=0:=by omega
   subst hk0
   rw[W1a] at hRlt hQR
   rw[W1a,W1a,huv] at hQR
   obtain⟨hQ,hR⟩:=Xwz hY.symm hQR hRlt
   refine Fz 25 13 (lq.map wd) rfl (by simp only[lw];omega) (oa hlq) ?_
   refine Fz 25 11 (lu.map wd) rfl (by simp only[lw];omega) (oa hln) ?_
   refine Ce rfl (Xaz hwq (by omega)) ?_
   refine Ce rfl (Xaz hwu (by omega)) ?_
   refine Ce rfl (Ygm (by have:=Xap (W2c hRlt);omega) hs32) ?_
   exact RTt rfl (.cons (.eq (by rw[hQ])) (.one (.eq (by rw[hR,Nat.mul_div_cancel _ (W0u s)])) (λ_ _ e=>by cases e) (λ_ _ e=>by cases e)))
end
section
theorem GCD_ok{a b:Int}(ha:(dig a.natAbs).length<=549755813888)(hb:(dig b.natAbs).length<=549755813888): C0 171 [.d (dz a),.d (dz b)] (·=.d (dz (Int.gcd a b))):=by
 refine En Tryz.func171 λ_ _ _=>?_
 refine Dw rfl ?_
 refine Ce rfl (trim_dig_ok (by omega)) ?_
 refine Ce rfl (trim_dig_ok (by omega)) ?_
 refine Lo (λ((x,y):Nat×Nat)=>[(4,.ptr 4 0),(5,.d (ws (dig x))),(6,.d (ws (dig y)))]) (λ_=>[(4,.var (.st (.pr (.b false) .nil)))]) (λ(x,y)=>Nat.gcd x y=Int.gcd a b/\(dig x).length<=549755813888/\(dig y).length<=549755813888) (λ(_,y)=>y) (a.natAbs,b.natAbs) [] rfl ⟨rfl,ha,hb⟩ λ⟨x,y⟩ ⟨hg,hx,hy⟩=>?_
 refine By rfl (λh1=>?_) λh1=>?_<;>simp only[lw] at h1
 . have h0:y≠0:=λe=>by have:=Ypb.2 e;omega
   have hlt:=W2d x (W2n h0)
   refine Ce rfl (Xcu hx hy h0) ?_
   exact Bk (y,x%y) [] rfl ⟨by rw[<-hg,W7c y,<-Nat.gcd_rec,W7c],hy,W0l (Xap (W2c hlt)) hy⟩ hlt
 . have h0:y=0:=Ypb.1 (by omega)
   subst h0
   rw[Nat.gcd_zero_right] at hg
   refine Ce rfl (Xaj (b:=false) (by omega)) ?_
   exact R1 rfl (.eq (by rw[Xg4,hg]))
theorem Xwm{z b q r:Int}(e:b*q+r=z)(h:(0<=r/\r<b)\/(b<r/\r<=0)): z.fdiv b=q/\z.fmod b=r:=by
 rcases h with ⟨h1,h2⟩ | ⟨h1,h2⟩
 . rw[W1w _ (by omega),W5q _ (by omega)]
   exact(W7v (a:=z) (b:=b) (by omega)).2 ⟨by rw[Int.add_comm];exact e,h1,h2⟩
 . have h3:(-z).fdiv (-b)=q/\(-z).fmod (-b)=-r:=by
    rw[W1w _ (by omega),W5q _ (by omega)]
    exact(W7v (a:=-z) (b:=-b) (by omega)).2 ⟨by rw[<-e,Int.neg_mul];omega,by omega,by omega⟩
   rw[W7o,Int.neg_fmod_neg] at h3
   exact⟨h3.1,by omega⟩
theorem qr0{z b:Int}(hb:b≠0): z-sg (decide (z<0) != decide (b<0)) (z.natAbs/b.natAbs)*b=sg (decide (z<0)) (z.natAbs%b.natAbs):=by
 have e:=W2p z.natAbs b.natAbs
 have hz:z=sg (decide (z<0)) z.natAbs:=by unfold sg;by_cases h:z<0<;>simp[h]<;>omega
 have hb:b=sg (decide (b<0)) b.natAbs:=by unfold sg;by_cases h:b<0<;>simp[h]<;>omega
 generalize decide (z<0)=dz at *
 generalize decide (b<0)=db at *
 generalize z.natAbs=A at *
 generalize b.natAbs=B at *
 generalize A/B=q at *
 generalize A%B=r at *
 have e2:(A:Int)=(B:Int)*q+r:=by rw[<-e];push_cast;rfl
 subst hz
 subst hb
 cases dz<;>cases db<;>simp[sg,e2]<;>grind
theorem Xnx(b:Bool)(n:Nat): (sg b n).natAbs=n:=by cases b<;>simp[sg]
theorem Yc9{z b:Int}(hb:b≠0)(h:Xa5 (sg (decide (z<0)) (z.natAbs%b.natAbs)) 0*Xa5 b 0<0):
 sg (decide (z<0) != decide (b<0)) (z.natAbs/b.natAbs)-1=z.fdiv b/\sg (decide (z<0)) (z.natAbs%b.natAbs)+b=z.fmod b:=by
 have h0:=@qr0 z b hb
 have h1:=Xnx (decide (z<0)) (z.natAbs%b.natAbs)
 have h2:=W2d z.natAbs (y:=b.natAbs) (by omega)
 generalize sg (decide (z<0)) (z.natAbs%b.natAbs)=r at *
 generalize sg (decide (z<0) != decide (b<0)) (z.natAbs/b.natAbs)=q at *
 have:=Xwm (z:=z) (b:=b) (q:=q-1) (r:=r+b) (by rw[<-Int.sub_add_cancel z (q*b),h0];grind) (by
  unfold Xa5 at h
  repeat' split at h
  all_goals first | omega | (left;omega) | (right;omega))
 exact⟨this.1.symm,this.2.symm⟩
theorem Yda{z b:Int}(hb:b≠0)(h:¬Xa5 (sg (decide (z<0)) (z.natAbs%b.natAbs)) 0*Xa5 b 0<0):
 sg (decide (z<0) != decide (b<0)) (z.natAbs/b.natAbs)=z.fdiv b/\sg (decide (z<0)) (z.natAbs%b.natAbs)=z.fmod b:=by
 have h0:=@qr0 z b hb
 have h1:=Xnx (decide (z<0)) (z.natAbs%b.natAbs)
 have h2:=W2d z.natAbs (y:=b.natAbs) (by omega)
 generalize sg (decide (z<0)) (z.natAbs%b.natAbs)=r at *
 generalize sg (decide (z<0) != decide (b<0)) (z.natAbs/b.natAbs)=q at *
 have:=Xwm (z:=z) (b:=b) (q:=q) (r:=r) (by rw[<-Int.sub_add_cancel z (q*b),h0];grind) (by
  unfold Xa5 at h
  repeat' split at h
  all_goals first | omega | (left;omega) | (right;omega))
 exact⟨this.1.symm,this.2.symm⟩
theorem Yav(a b c d:Int): -1<=Xa5 a b*Xa5 c d/\Xa5 a b*Xa5 c d<=1:=by
 unfold Xa5;repeat' split
 all_goals omega
theorem DivMod_ok{a b:Int}(ha:(dig a.natAbs).length<=549755813888)(hb:(dig b.natAbs).length<=549755813888)(hb0:b≠0): C0 264 [.d (dz a),.d (dz b)] (·=.tup (.pr (.d (dz (a.fdiv b))) (.pr (.d (dz (a.fmod b))) (.d (.int .i64 0))))):=by
 have hlq:(dig (a.natAbs/b.natAbs)).length<=549755813888:=W0l (Xap (W4h ..)) ha
 have hlr:(dig (a.natAbs%b.natAbs)).length<=549755813888:=W0l (Xap (Nat.mod_le ..)) ha
 have hlqz:(dig (sg (decide (a<0) != decide (b<0)) (a.natAbs/b.natAbs)*b).natAbs).length<=549755813888:=by
  rw[W4m,Xnx]
  exact W0l (Xap (W6u ..)) ha
 refine En Tryz.func264 λ_ _ _=>?_
 refine Dw rfl ?_
 refine Ce rfl (Norm_ok (by omega)) ?_
 refine Ce rfl (Norm_ok (by omega)) ?_
 refine No rfl (by simp only[lw];have:=@Ypb b.natAbs;omega) ?_
 refine Ce rfl (Xcu ha hb (by omega)) ?_
 refine Ce rfl (Xaj (by omega)) ?_
 refine Dw rfl ?_
 refine Ce (r:=.d (dz (sg (decide (a<0) != decide (b<0)) (a.natAbs/b.natAbs)*b))) rfl (by rw[Ydi];exact Mul_ok (by rw[Xnx];exact hlq) hb) ?_
 refine Ce rfl (Sub_ok ha hlqz) ?_
 have h0:=qr0 (z:=a) hb0
 refine Dw rfl ?_
 refine Ce rfl (Sign_ok (by rw[h0,Xnx];omega)) ?_
 refine Ce rfl (Sign_ok (by omega)) ?_
 have hr:=Yav (sg (decide (a<0)) (a.natAbs%b.natAbs)) 0 b 0
 rw[<-h0] at hr
 refine Ar (Xa5 (a-sg (decide (a<0) != decide (b<0)) (a.natAbs/b.natAbs)*b) 0*Xa5 b 0) rfl ?_
 refine By rfl (λh=>?_) λh=>?_<;>rw[h0] at h
 . refine Dw rfl ?_
   refine Ce rfl (FromInt_ok (z:=1) (by decide)) ?_
   refine Ce (r:=.d (dz (sg (decide (a<0) != decide (b<0)) (a.natAbs/b.natAbs)-1))) rfl (by rw[Ydi];exact Sub_ok (by rw[Xnx];omega) (W0l (@Xaq 1 1 (by decide)) (by decide))) ?_
   refine Ce rfl (Add_ok (by rw[h0,Xnx];omega) hb) ?_
   refine Dz rfl ?_
   exact RTt rfl (.cons (.eq (by rw[(Yc9 hb0 h).1];rfl)) (.cons (.eq (by rw[h0,(Yc9 hb0 h).2];rfl)) (.one (.rf rfl) (λ_ _ e=>by cases e) (λ_ _ e=>by cases e))))
 . refine Dz rfl ?_
   exact RTt rfl (.cons (.eq (by rw[Ydi,(Yda hb0 h).1];rfl)) (.cons (.eq (by rw[h0,(Yda hb0 h).2];rfl)) (.one (.rf rfl) (λ_ _ e=>by cases e) (λ_ _ e=>by cases e))))
theorem Ypo{q:Nat}{z:Int}(h:Zs q z)(n:Nat): Zs (q*n+1) (z^n):=by
 unfold Zs at *
 rw[W7g]
 have h1:z.natAbs^n<=(2^q)^n:=W6c (W2c h) n
 rw[<-W4y] at h1
 rw[W0q]
 have:=W0u (q*n)
 omega
theorem Xqm(z:Int)(n:Nat): z^n=z^(n/2)*z^(n/2)*z^(n%2):=by
 rw[<-W7m,<-W7m]
 congr 1
 omega
theorem Xcy: ∀(n:Nat) {z:Int} {q:Nat},Zs q z->q*n+2<=8796093022208->q<=8796093022208->n<9223372036854775808->C0 253 [.d (dz z),.d (.int .i64 n)] (·=.d (dz (z^n))):=by
 intro n
 induction n using Nat.strongRecOn with
 | _ n ih =>
  intro z q hz hq hq0 hn
  have hq2:q*(n/2)+q*(n/2)<=q*n:=by rw[<-W0y];exact W0p q (by omega)
  have hqh:q*(n/2)+2<=8796093022208:=by omega
  have hzh:=Ypo hz (n/2)
  have hl1:=hzh.len (by omega)
  have hl2:=hz.len (by omega)
  refine En Tryz.func253 λ_ _ _=>?_
  refine By rfl (λh=>?_) λh=>?_
  . refine Ce rfl (FromInt_ok (z:=1) (by decide)) ?_
    exact R1 rfl (.eq (by rw[show n=0 by omega,W7d]))
  refine Ar (n/2:Nat) rfl ?_ (show _/\_ from⟨by decide,by rw[show Int.tdiv (n:Int) 2=((n/2:Nat):Int) from rfl];exact wI (by omega)⟩)
  refine Ce rfl (ih (n/2) (by omega) hz hqh hq0 (by omega)) ?_
  refine Ce rfl (Mul_ok (by omega) (by omega)) ?_
  refine Ar (n%2:Nat) rfl ?_ (show _/\_ from⟨by decide,Xte n 2⟩)
  refine By rfl (λh1=>?_) λh1=>?_
  . refine Ce rfl (Mul_ok (W0l (Zs.len (hzh.mul hzh) (by omega)) (by omega)) (by omega)) ?_
    exact R1 rfl (.eq (by rw[show z^n=z^(n/2)*z^(n/2)*z by rw[Xqm z n,show n%2=1 by omega,Int.pow_succ,W7d,W5w]];rfl))
  . exact R1 rfl (.eq (by rw[show z^n=z^(n/2)*z^(n/2) by rw[Xqm z n,show n%2=0 by omega,W7d,W4w]];rfl))
theorem Pow_ok{n:Nat}{z:Int}{q:Nat}(hz:Zs q z)(hn:n<=4096)(hq:q<=1073741824): C0 165 [.d (dz z),.d (.int .i64 n)] (·=.tup (.pr (.d (dz (z^n))) (.d (.int .i64 0)))):=by
 have hqn:q*n<=1073741824*4096:=W1z hq hn
 refine En Tryz.func165 λ_ _ _=>?_
 refine No rfl (by omega) ?_
 refine No rfl (by omega) ?_
 refine Ce rfl (Xcy n hz (by omega) (by omega) (by omega)) ?_
 exact R0t
theorem Xpa{z:Int}(hl:(dig z.natAbs).length<=549755813888): C0 440 [.d (dz z)] λv=>∃B:Nat,v=.d (.int .i64 B)/\z.natAbs<2^B/\B<=32*(dig z.natAbs).length:=by
 refine En Tryz.func440 λ_ _ _=>?_
 refine Ce rfl (trim_dig_ok (by omega)) ?_
 by_cases h0:z.natAbs=0
 . refine Ce (r:=.d (.int .i64 0)) rfl (by
    rw[h0,Xak]
    refine En Tryz.func345 λ_ _ _=>?_
    refine Yes rfl rfl ?_
    exact R0) ?_
   exact Rt rfl (.one (.rf rfl) rfl rfl) ⟨0,rfl,by rw[h0];decide,W0x _⟩
 . refine Ca rfl (Xml (by omega) h0) λv hv=>?_
   obtain⟨t,ht,_,htw,rfl⟩:=hv
   have h1:=(W1d.1 ht).1
   have h2:=Xxp htw
   exact Rt rfl (.one (.rf rfl) rfl rfl) ⟨_,rfl,Xph rfl (by omega) ht,by omega⟩
theorem Xxr{l:List Nat}{i w:Nat}(hl:Xan l)(hw:l[i/32]?=some w)(h:val l%2^(i+1)=0): w%2^(i%32+1)=0:=by
 have h0:=Xfg hw
 have hj:i/32<l.length:=(W1d.1 hw).1
 have hlow:=Xbw (hl.take (i/32))
 rw[W0j,show min (i/32) l.length=i/32 by omega] at hlow
 have hp:4294967296^(i/32)*2^(i%32+1)=2^(i+1):=by
  rw[show (4294967296:Nat)=2^32 from rfl,<-W4y,<-W0z];congr 1;omega
 obtain⟨c,hc⟩:=W4z h
 rw[<-hp,W0r] at hc
 generalize 4294967296^(i/32)=B at *
 generalize val (l.drop (i/32+1))=R at *
 have e1:w+4294967296*R=2^(i%32+1)*c:=by
  have hB:0<B:=by omega
  have h1:(val (l.take (i/32))+B*(w+4294967296*R))/B=w+4294967296*R:=by
   rw[Nat.add_mul_div_left _ _ hB,W5i hlow,W1k]
  have h2:B*(2^(i%32+1)*c)/B=2^(i%32+1)*c:=W7i _ hB
  rw[<-h1,<-h0,hc,h2]
 have e2:(4294967296:Nat)=2^(i%32+1)*2^(31-i%32):=by
  rw[<-W0z,show i%32+1+(31-i%32)=32 by omega]
 rw[e2,W0r] at e1
 have e3:(w+2^(i%32+1)*(2^(31-i%32)*R))%2^(i%32+1)=0:=by rw[e1,Nat.mul_mod_right]
 rwa[Nat.add_mul_mod_self_left] at e3
theorem Xuv{w s:Nat}(h:w%2^(s+1)=0): w|||2^s=w+2^s:=by
 obtain⟨c,rfl⟩:=W4z h
 rw[W1f]
 exact Xdg (2^s) c (s+1) (W3u (by decide) (Nat.lt_succ_self s))
theorem Ygs{w s:Nat}(h:w%2^(s+1)=0): (w+2^s)&&&2^s=2^s:=by
 obtain⟨c,rfl⟩:=W4z h
 have e:(2^(s+1)*c+2^s)/2^s=2*c+1:=by
  rw[W0q,show 2^s*2*c+2^s=2^s*(2*c+1) by rw[W0y,W0r,W3z]]
  exact W7i _ (W0u s)
 have ht:(2^(s+1)*c+2^s).testBit s=true:=by
  rw[Nat.testBit_eq_decide_div_mod_eq,e]
  simp
 apply Nat.eq_of_testBit_eq
 intro i
 rw[Nat.testBit_and]
 by_cases hi:s=i
 . subst hi;rw[ht,W6q]
 . rw[Nat.testBit_two_pow_of_ne hi,Bool.and_false]
theorem Xsu{w s:Nat}(hw:w<4294967296)(hs:s<32)(h:w%2^(s+1)=0): w+2^s<4294967296:=by
 rw[<-Xuv h]
 exact Nat.or_lt_two_pow (n:=32) hw (W0s (W3u (by decide) hs) (by decide))
theorem Yd7{l:List Nat}{i w x:Nat}(hw:l[i/32]?=some w)(hx:x=w+2^(i%32)): val (l.set (i/32) x)=val l+2^i:=by
 have hj:i/32<l.length:=(W1d.1 hw).1
 have h0:=Xfg hw
 have h1:=Xfg (l:=l.set (i/32) x) (j:=i/32) (x:=x) (by rw[W2l hj])
 rw[h1,h0,List.take_set_of_le (W0c _),List.drop_set_of_lt (by omega),hx,<-Xh6 i]
 grind
theorem Ygf{w s:Nat}(hw:w+2^s<4294967296)(h:w%2^(s+1)=0): arB .andNot .u32 (w+2^s:Nat) (2^s:Nat) w:=by
 have hp:=W0u s
 have e:=Ygs h
 show IntKind.u32.wrap _=_
 have h1:(BitVec.ofInt 32 ((w+2^s:Nat):Int) &&& ~~~BitVec.ofInt 32 ((2^s:Nat):Int)).toNat=w:=by
  have hx:(BitVec.ofInt 32 ((w+2^s:Nat):Int)).toNat=w+2^s:=by rw[BitVec.toNat_ofInt];omega
  have hy:(BitVec.ofInt 32 ((2^s:Nat):Int)).toNat=2^s:=by rw[BitVec.toNat_ofInt];omega
  apply Nat.eq_of_testBit_eq
  intro i
  rw[BitVec.toNat_and,BitVec.toNat_not,hx,hy,Nat.testBit_and]
  have e1:=congrArg (·.testBit i) e
  simp only[Nat.testBit_and] at e1
  have e2:=Xuv h
  rw[<-e2,Nat.testBit_or]
  have e3:(2^32-1-2^s).testBit i=(decide (i<32) && !(2^s).testBit i):=by
   have:=Nat.testBit_two_pow_sub_succ (x:=2^s) (n:=32) (by omega) i
   rwa[show 2^32-(2^s+1)=2^32-1-2^s by omega] at this
  rw[e3]
  by_cases hi:i<32
  . rw[decide_eq_true hi,W6q]
    by_cases his:s=i
    . subst his
      rw[<-e2,Nat.testBit_or] at e1
      have hws:w.testBit s=false:=by
       obtain⟨c,rfl⟩:=W4z h
       rw[Nat.testBit_eq_decide_div_mod_eq,W0q,W0r,W7i _ hp]
       simp
      rw[hws,Nat.testBit_two_pow_self];rfl
    . rw[Nat.testBit_two_pow_of_ne his];simp
  . rw[decide_eq_false hi]
    have:w.testBit i=false:=Nat.testBit_lt_two_pow (W0s (by omega:w<2^32) (W0m (by decide) (by omega)))
    rw[this];simp
 rw[show IntKind.bits .u32=32 from rfl,h1]
 exact wW (by omega)
theorem Sqrt_ok{a:Nat}(hl:(dig a).length<=274877906944): C0 435 [.d (dz (a:Int))] (·=.tup (.pr (.d (dz (rt a:Int))) (.d (.int .i64 0)))):=by
 have ha:dz (a:Int)=.st (.pr (.bool (decide ((a:Int)<0))) (ws (dig a))):=rfl
 have hbits:=λ(B n:Nat) (hB:a<2^B) (hn:B<=2*n)=>W0s hB (W0m (by decide) hn:2^B<=2^(2*n))
 refine En Tryz.func435 λ_ _ _=>?_
 refine Ce rfl (Norm_ok (by simp only[W1l];omega)) ?_
 refine No rfl (by omega) ?_
 refine Ca rfl (Xpa (z:=(a:Int)) (by simp only[W1l];omega)) λv hv=>?_
 obtain⟨B,rfl,hB1,hB2⟩:=hv
 simp only[W1l] at hB1 hB2
 obtain⟨n,hn⟩:∃n,n=(B+1)/2:=⟨_,rfl⟩
 refine Ar (B+1:Nat) rfl ?_
 refine Ar n rfl ?_ (show _/\_ from⟨by decide,by rw[show Int.tdiv ((B+1:Nat):Int) 2=(((B+1)/2:Nat):Int) from rfl,<-hn];exact wI (by omega)⟩)
 refine Ar (n/32:Nat) rfl ?_ (show _/\_ from⟨by decide,by rw[show Int.tdiv (n:Int) 32=((n/32:Nat):Int) from rfl];exact wI (by omega)⟩)
 refine Ar (n/32+1:Nat) rfl ?_
 refine Mk (n/32+1) rfl (by omega) ?_
 refine Ar (n-1:Int) rfl ?_
 refine Lo (λ(k,lo)=>[(1,.ptr 1 0),(2,.ptr 2 0),(5,.own 19 1 0 (n/32+1)),(6,.d (.int .i64 ((k:Nat)-1:Int)))]) (λ(_,lo)=>[(1,.var (.d (dz (a:Int)))),(2,.var (.st (.pr (.b false) .nil))),(19,.arr 1 (lo.map wd))])
  (λ(k,lo)=>k<=n/\lo.length=n/32+1/\Xan lo/\val lo%2^k=0/\val lo*val lo<=a/\a<(val lo+2^k)*(val lo+2^k)) (λ(k,_)=>k) (n,List.replicate (n/32+1) 0) [] rfl
  ⟨by omega,by simp,Xfd _,by rw[Xbq];simp,by rw[Xbq];omega,by rw[Xbq,W1k,<-W0z,<-Nat.two_mul];exact hbits B n hB1 (by omega)⟩ ?_ (by exact⟨rfl,by simp only[W2g];rfl,rfl,rfl,rfl⟩)
 rintro⟨k,lo⟩ ⟨hk,hlo,hwl,hmod,hsq1,hsq2⟩
 refine By rfl (λh=>?_) λh=>?_
 . obtain⟨i,rfl⟩:∃i,k=i+1:=⟨k-1,by omega⟩
   obtain⟨w,hw⟩:=xat (l:=lo) (k:=i/32) (by omega)
   have hww:=ww hw hwl
   have hwc:=Xxr hwl hw hmod
   have hwb:=Xsu hww (by omega) hwc
   have hv1:=Yd7 hw rfl
   have hw1:=Xgo (k:=i/32) hwl hwb
   obtain⟨lo1,hlo1⟩:∃lo1,lo1=lo.set (i/32) (w+2^(i%32)):=⟨_,rfl⟩
   rw[<-hlo1] at hv1 hw1
   have hl1:lo1.length=n/32+1:=by rw[hlo1,W3q,hlo]
   have hlen1:(dig (val lo1)).length<=549755813888:=by
    have h1:=Xaq (Xbw hw1)
    omega
   have hq32:arB .quo .i64 (((i+1:Nat):Int)-1) 32 (i/32:Nat):=show _/\_ from⟨by decide,by rw[show (((i+1:Nat):Int)-1)=(i:Int) by omega,show Int.tdiv (i:Int) 32=((i/32:Nat):Int) from rfl];exact wI (by omega)⟩
   have hr32:arB .rem .i64 (((i+1:Nat):Int)-1) 32 (i%32:Nat):=show _/\_ from⟨by decide,by rw[show (((i+1:Nat):Int)-1)=(i:Int) by omega];exact Xte i 32⟩
   refine Dw rfl ?_
   refine Ar (i/32:Nat) rfl ?_ hq32
   refine Ar (i/32:Nat) rfl ?_ hq32
   refine Eo (i/32) rfl (by omega) ?_
   refine Ld (wd w) rfl (mp hw) ?_
   refine Ar (i%32:Nat) rfl ?_ hr32
   refine Ar (2^(i%32):Nat) rfl ?_ (Xg3 (by omega))
   refine Ar (w+2^(i%32):Nat) rfl ?_ (Ylz hww Yen (Xuv hwc) hwb)
   refine Eo (i/32) rfl (by omega) ?_
   refine Sto rfl (by simp only[lw];omega) ms ?_
   refine Cu none (λ_:Unit=>[(1,.ptr 1 0),(2,.ptr 2 0),(5,.own 19 1 0 (n/32+1)),(6,.d (.int .i64 (((i+1:Nat):Int)-1))),(47,.b (dc (a<val lo1*val lo1)))]) (λ_=>[(1,.var (.d (dz (a:Int)))),(2,.var (.st (.pr (.b false) .nil))),(19,.arr 1 (lo1.map wd))]) (λ_=>True) rfl ?_ λ_ _=>?_
   . refine Dw rfl ?_
     refine Cn [(1000001,19)] rfl (Xg1 (l:=lo1) (q:=0) (n:=n/32+1) hw1 (by omega) (by omega)) (λv hv=>?_) rfl (by rw[hlo1];rfl)
     obtain⟨k1,hk1,rfl,hkl⟩:=hv
     refine Cn [(1000001,19)] rfl (Xg1 (l:=lo1) (q:=0) (n:=n/32+1) hw1 (by omega) (by omega)) (λv hv=>?_) rfl (by rw[hlo1];rfl)
     obtain⟨k2,hk2,rfl,hkl2⟩:=hv
     rw[show (lo1.drop 0).take (n/32+1)=lo1 from W0b (by simp[hl1])] at hkl hkl2
     obtain rfl:k2=k1:=by
      have e1:=congrArg List.length hkl
      have e2:=congrArg List.length hkl2
      rw[Xyh (by omega)] at e1 e2
      omega
     refine Cn [(1000001,19)] rfl (Xti (l:=lo1) (q:=0) (n:=k2) (by omega) hkl hlen1) (λv hv=>?_) rfl (by rw[hlo1];rfl)
     obtain rfl:v=_:=hv
     refine Ce rfl (Xby (y:=a) (W0l (Xk3 ..) (by omega))) ?_
     refine Jn () [] rfl trivial (by exact⟨by
      rw[show (Xa5 ((val lo1*val lo1:Nat):Int) (a:Int)>0)=(a<val lo1*val lo1) from propext (by
       rcases Xat ((val lo1*val lo1:Nat):Int) (a:Int) with ⟨g1,g2⟩ | ⟨g1,g2⟩ | ⟨g1,g2⟩<;>rw[g2]<;>omega)]
      rfl,by rw[hlo1];rfl,rfl,rfl,rfl⟩)
   refine By rfl (λh1=>?_) λh1=>?_
   . have hw2:lo1[i/32]?=some (w+2^(i%32)):=by rw[hlo1,W2l (by omega)]
     have hback:lo1.set (i/32) w=lo:=by
      rw[hlo1,List.set_set]
      apply W5s
      intro q
      by_cases hq:i/32=q
      . subst hq;rw[W2l (by omega),hw]
      . rw[W1u hq]
     have hm2:val lo%2^i=0:=by
      obtain⟨c,hc⟩:=W4z hmod
      rw[hc,W0q,W0r];exact Nat.mul_mod_right _ _
     refine Dw rfl ?_
     refine Ar (i/32:Nat) rfl ?_ hq32
     refine Ar (i/32:Nat) rfl ?_ hq32
     refine Eo (i/32) rfl (by omega) ?_
     refine Ld (wd (w+2^(i%32))) rfl (mp hw2) ?_
     refine Ar (i%32:Nat) rfl ?_ hr32
     refine Ar (2^(i%32):Nat) rfl ?_ (Xg3 (by omega))
     refine Ar w rfl ?_ (Ygf hwb hwc)
     refine Eo (i/32) rfl (by omega) ?_
     refine Sto rfl (by simp only[lw];omega) ms ?_
     refine Ar (i-1:Int) rfl ?_
     exact Bk (i,lo) [] rfl ⟨by omega,hlo,hwl,hm2,hsq1,by rw[<-hv1];exact h1⟩ (by show i<i+1;omega) (by exact⟨rfl,by rw[hback];rfl,rfl,rfl,rfl⟩)
   . have hm2:val lo1%2^i=0:=by
      rw[hv1]
      obtain⟨c,hc⟩:=W4z hmod
      rw[hc,W0q,W0r,Nat.add_mod_right];exact Nat.mul_mod_right _ _
     refine Ar (i-1:Int) rfl ?_
     exact Bk (i,lo1) [] rfl ⟨by omega,hl1,hw1,hm2,W4k h1,by rw[hv1,W4p,<-Nat.two_mul,W1f 2,<-W0q];exact hsq2⟩ (by show i<i+1;omega)
 . have hk0:k=0:=by omega
   subst hk0
   have hrt:rt a=val lo:=Yii hsq1 (by simpa using hsq2)
   refine Fz 12 5 (lo.map wd) rfl (by simp only[lw];omega) (oa hlo) ?_
   refine Ce (r:=.d (dz (sg false (val lo)))) rfl (by
    have:=Xp0 (b:=false) hwl (by omega)
    exact this) ?_
   exact RTt rfl (.cons (.eq (by rw[Xg4,hrt])) (.one (.rf rfl) (λ_ _ e=>by cases e) (λ_ _ e=>by cases e)))
end
end Go.Proofs.YtclgppjdhndgiaaGreatDoor.R1
namespace Go.Num
theorem Zs.fdv{p:Nat}{z g:Int}(h:Zs p z)(hg:0<g): Zs p (z.fdiv g):=by
 unfold Zs at *
 rw[W1w _ (by omega)]
 have:(z/g).natAbs<=z.natAbs:=Int.natAbs_ediv_le_natAbs ..
 omega
end Go.Num
namespace Go.Proofs.YtclgppjdhndgiaaGreatDoor.R2
open Go Go.Vm Go.Num Go.Proofs.YtclgppjdhndgiaaGreatDoor
theorem Yfu{a g:Int}(h:g ∣ a)(hg:0<=g): a.fdiv g=a.tdiv g:=by
 rw[W1w _ hg,Int.tdiv_eq_ediv_of_dvd h]
theorem Xmy(a g:Nat): (a:Int).fdiv g=((a/g:Nat):Int):=by
 rw[W1w _ (by omega),Int.natCast_ediv]
theorem Xzn(x y:Rat): (x*y).num=x.num.fdiv (Int.gcd x.num y.den:Int)*y.num.fdiv (Int.gcd y.num x.den:Int):=by
 show (Rat.mul x y).num=_
 delta Rat.mul
 simp only[Int.divExact_eq_tdiv]
 rw[Yfu (Int.gcd_dvd_left ..) (by omega),Yfu (Int.gcd_dvd_left ..) (by omega)]
 rfl
theorem Yan(x y:Rat): ((x*y).den:Int)=(x.den:Int).fdiv (Int.gcd y.num x.den:Int)*(y.den:Int).fdiv (Int.gcd x.num y.den:Int):=by
 show ((Rat.mul x y).den:Int)=_
 delta Rat.mul
 simp only[Nat.divExact_eq_div]
 rw[Xmy,Xmy]
 rfl
theorem Xqt{x y:Rat}(h:(Int.gcd x.den y.den:Int)=1): (x+y).num=x.num*y.den+y.num*x.den/\(x+y).den=x.den*y.den:=by
 have hg:x.den.gcd y.den=1:=by have:(x.den.gcd y.den:Int)=1:=h;omega
 show (Rat.add x y).num=_/\(Rat.add x y).den=_
 delta Rat.add
 simp only[hg]
 exact⟨rfl,rfl⟩
theorem Xqs{x y:Rat}(h:¬(Int.gcd x.den y.den:Int)=1): (x+y).num=(x.num*(y.den:Int).fdiv (Int.gcd x.den y.den:Int)+y.num*(x.den:Int).fdiv (Int.gcd x.den y.den:Int)).fdiv (Int.gcd (x.num*(y.den:Int).fdiv (Int.gcd x.den y.den:Int)+y.num*(x.den:Int).fdiv (Int.gcd x.den y.den:Int)) (Int.gcd x.den y.den:Int):Int) /\
 ((x+y).den:Int)=(x.den:Int).fdiv (Int.gcd x.den y.den:Int)*(y.den:Int).fdiv (Int.gcd (x.num*(y.den:Int).fdiv (Int.gcd x.den y.den:Int)+y.num*(x.den:Int).fdiv (Int.gcd x.den y.den:Int)) (Int.gcd x.den y.den:Int):Int):=by
 have hg:¬x.den.gcd y.den=1:=λe=>h (by show ((x.den.gcd y.den:Nat):Int)=1;rw[e];rfl)
 have eg:Int.gcd (x.den:Int) (y.den:Int)=x.den.gcd y.den:=rfl
 rw[eg,Xmy,Xmy]
 generalize hn:x.num*((y.den/x.den.gcd y.den:Nat):Int)+y.num*((x.den/x.den.gcd y.den:Nat):Int)=n
 have et:Int.gcd n ((x.den.gcd y.den:Nat):Int)=n.natAbs.gcd (x.den.gcd y.den):=rfl
 have htd:n.natAbs.gcd (x.den.gcd y.den) ∣ y.den:=Nat.dvd_trans (Nat.gcd_dvd_right ..) (Nat.gcd_dvd_right ..)
 rw[Yfu (Int.gcd_dvd_left ..) (by omega),et,Xmy]
 have e:Rat.add x y=x+y:=rfl
 delta Rat.add at e
 simp only[hg,hn,dif_neg,not_false_eq_true,Rat.maybeNormalize_eq] at e
 rw[<-e]
 refine⟨by simp only[Int.divExact_eq_tdiv],?_⟩
 simp only[Nat.divExact_eq_div]
 rw[<-W2z,Nat.mul_div_assoc _ htd]
theorem Xk8{a b:Int}(h:b≠0): (Int.gcd a b:Int)≠0:=by have:=@Xwg a b h;omega
theorem Xd7{z:Int}(h:(dig z.natAbs).length<=1099511627776): C0 436 [.d (dz z)] (·=.b true):=by
 refine En Tryz.func436 λ_ _ _=>?_
 refine Dw rfl ?_
 refine Ce rfl (R1.trim_dig_ok h) ?_
 refine Yes rfl rfl ?_
 refine By rfl (λh1=>?_) λh1=>?_
 . exact R0
 . have:(dig z.natAbs).length≠0:=λe=>by have:=Ypb.1 e;omega
   exact R1 rfl (by exact(show dc (((List.map wd (dig z.natAbs)).length:Int)>0)=true by rw[Xal,lw];omega) ▸ .rf rfl)
theorem Xev{z:Int}: C0 169 [.d (dz z)] (·=.b (dc (z=1))):=by
 refine En Tryz.func169 λ_ _ _=>?_
 refine By rfl (λh1=>?_) λh1=>?_<;>simp only[lw] at h1
 . obtain⟨u,hu⟩:=xat (l:=dig z.natAbs) (k:=0) (by omega)
   have hl:=Ypa (by omega) hu
   refine Ix 0 rfl (mp hu) ?_
   refine By rfl (λh2=>?_) λh2=>?_
   . refine R1 rfl (.bp ?_)
     rw[<-Xuw,hl]
     simp only[W1t,decide_eq_false_iff_not]
     exact⟨λh=>⟨by rw[show u=1 by omega],h⟩,λh=>h.2⟩
   . refine R1 rfl (.bp ⟨nofun,λe=>?_⟩)
     have:=(Xuw.2 e).1
     rw[hl] at this;injection this with this;omega
 . exact R1 rfl (.bp ⟨nofun,λe=>absurd (by rw[e];show ((dig 1).length:Int)=1;rw[Yhf];rfl) h1⟩)
theorem Xcc{a b:Int}(ha:(dig a.natAbs).length<=549755813888)(hb:(dig b.natAbs).length<=549755813888)(hb0:b≠0): C0 173 [.d (dz a),.d (dz b)] (·=.d (dz (a.fdiv b))):=by
 refine En Tryz.func173 λ_ _ _=>?_
 refine Ce rfl (R1.DivMod_ok ha hb hb0) ?_
 exact R0
theorem FromInt_ok{z:Int}(h:-9223372036854775808<=z/\z<9223372036854775808): C0 16 [.d (.int .i64 z)] (·=.d (dq z)):=by
 refine En Tryz.func16 λ_ _ _=>?_
 refine Ce rfl (R1.FromInt_ok h) ?_
 refine Ce rfl (R1.FromInt_ok (z:=1) (by decide)) ?_
 exact R0
theorem Make_ok{a b:Int}{p:Nat}(ha:Zs p a)(hb:Zs p b)(hp:p<=8796093022208)(hb0:b≠0): C0 164 [.d (dz a),.d (dz b)] (·=.d (dq (Rat.divInt a b))):=by
 have hla:=ha.len hp
 have hlb:=hb.len hp
 have hlg:=(hb.gcd (x:=a) hb0).len hp
 have h0:=Xwg (a:=a) hb0
 have key:∀g:Int,g=(if b<0 then -(Int.gcd a b:Int) else (Int.gcd a b:Int))->D.st (.pr (dz (a.fdiv g)) (dz (b.fdiv g)))=dq (Rat.divInt a b):=λg hg=>by rw[hg,Xjr hb0,Xjs hb0];rfl
 have hs:Xa5 b 0<0↔b<0:=by rcases Xat b 0 with ⟨g1,g2⟩ | ⟨g1,g2⟩ | ⟨g1,g2⟩<;>omega
 refine En Tryz.func164 λ_ _ _=>?_
 refine Ce rfl (R1.GCD_ok (by omega) (by omega)) ?_
 refine Ce rfl (R1.Sign_ok (by omega)) ?_
 refine By rfl (λh=>?_) λh=>?_
 . refine Ce rfl (R1.Neg_ok (by omega)) ?_
   refine Dw rfl ?_
   refine Ce rfl (Xcc (by omega) (by rw[W4t];omega) (by omega)) ?_
   refine Ce rfl (Xcc (by omega) (by rw[W4t];omega) (by omega)) ?_
   exact R1 rfl (.eq (key _ (by rw[if_pos (hs.1 h)])))
 . refine Dw rfl ?_
   refine Ce rfl (Xcc (by omega) (by omega) (by omega)) ?_
   refine Ce rfl (Xcc (by omega) (by omega) (by omega)) ?_
   exact R1 rfl (.eq (key _ (by rw[if_neg (mt hs.2 h)])))
theorem Frac_ok{a b:Int}(ha:-9223372036854775808<=a/\a<9223372036854775808)(hb:-9223372036854775808<=b/\b<9223372036854775808)(hb0:b≠0): C0 83 [.d (.int .i64 a),.d (.int .i64 b)] (·=.d (dq (Rat.divInt a b))):=by
 refine En Tryz.func83 λ_ _ _=>?_
 refine No rfl hb0 ?_
 refine Ce rfl (R1.FromInt_ok ha) ?_
 refine Ce rfl (R1.FromInt_ok hb) ?_
 refine Ce rfl (Make_ok (p:=64) (by unfold Zs;omega) (by unfold Zs;omega) (by decide) hb0) ?_
 exact R0
theorem Valid_ok{x:Rat}{p:Nat}(hx:Qs p x)(hp:p<=8796093022208): C0 423 [.d (dq x)] (·=.b true):=by
 have h1:=hx.n.len hp
 have h2:=hx.d.len hp
 refine En Tryz.func423 λ_ _ _=>?_
 refine Ce rfl (Xd7 (z:=x.num) (by omega)) ?_
 refine Yes rfl rfl ?_
 refine Ce rfl (Xd7 (z:=x.den) (by omega)) ?_
 refine Yes rfl rfl ?_
 refine Ce rfl (R1.Sign_ok (by omega)) ?_
 refine Yes rfl (Ynz.2 (by have:=x.den_pos;omega)) ?_
 refine Ce rfl (R1.GCD_ok (by omega) (by omega)) ?_
 refine Ce rfl Xev ?_
 refine R1 rfl (by exact(show dc ((Int.gcd x.num x.den:Int)=1)=true by rw[Xal];exact congrArg Nat.cast (show Int.gcd x.num x.den=1 from x.reduced)) ▸ .rf rfl)
theorem Sign_ok{x:Rat}{p:Nat}(hx:Qs p x)(hp:p<=8796093022208): C0 254 [.d (dq x)] (·=.d (.int .i64 (Xa5 x.num 0))):=by
 have:=hx.n.len hp
 refine En Tryz.func254 λ_ _ _=>?_
 refine Ce rfl (R1.Sign_ok (by omega)) ?_
 exact R0
theorem Neg_ok{x:Rat}{p:Nat}(hx:Qs p x)(hp:p<=8796093022208): C0 162 [.d (dq x)] (·=.d (dq (-x))):=by
 have:=hx.n.len hp
 refine En Tryz.func162 λ_ _ _=>?_
 refine Dw rfl ?_
 refine Ce rfl (R1.Neg_ok (by omega)) ?_
 exact R1 rfl (.eq (show D.st (.pr (dz (-x.num)) (dz x.den))=dq (-x) by unfold dq;rw[Rat.neg_num,Rat.neg_den]))
theorem zero_of{x:Rat}(h:((List.map wd (dig x.num.natAbs)).length:Int)=0): x=0:=by
 simp only[lw] at h
 have:=Ypb.1 (by omega:(dig x.num.natAbs).length=0)
 exact W5o.1 (by omega)
theorem Mul_ok{x y:Rat}{p q:Nat}(hx:Qs p x)(hy:Qs q y)(hp:p+q+1<=8796093022208): C0 161 [.d (dq x),.d (dq y)] (·=.d (dq (x*y))):=by
 have h1:=hx.n.len (by omega)
 have h2:=hx.d.len (by omega)
 have h3:=hy.n.len (by omega)
 have h4:=hy.d.len (by omega)
 have g1:=hy.d.gcd (x:=x.num) (Xb2 y)
 have g2:=hx.d.gcd (x:=y.num) (Xb2 x)
 have l1:=g1.len (by omega)
 have l2:=g2.len (by omega)
 have k1:=@Xk8 x.num y.den (Xb2 y)
 have k2:=@Xk8 y.num x.den (Xb2 x)
 have q1:=(hx.n.fdv (g:=(Int.gcd x.num y.den:Int)) (by omega)).len (by omega)
 have q2:=(hy.n.fdv (g:=(Int.gcd y.num x.den:Int)) (by omega)).len (by omega)
 have q3:=(hx.d.fdv (g:=(Int.gcd y.num x.den:Int)) (by omega)).len (by omega)
 have q4:=(hy.d.fdv (g:=(Int.gcd x.num y.den:Int)) (by omega)).len (by omega)
 refine En Tryz.func161 λ_ _ _=>?_
 refine Cu (some 1) (λ(b:Bool)=>[(2,.ptr 2 0),(3,.ptr 3 0),(4,.ptr 4 0),(18,.b b)]) (λ_=>[(2,.var (.d (dq x))),(3,.var (.d (dq y))),(4,.var q0)]) (λb=>b=true->x*y=0) rfl ?_ λb hb=>?_
 . refine By rfl (λh=>?_) λh=>?_
   . exact Jn true [] rfl λ_=>by rw[zero_of h,W5l]
   . exact Jn (dc _) [] rfl λe=>by rw[zero_of (x:=y) (Xal.1 e),Rat.mul_zero]
 refine By rfl (λh=>?_) λh=>?_
 . refine Ce rfl (FromInt_ok (z:=0) (by decide)) ?_
   exact R1 rfl (.eq (show dq _=dq _ by rw[hb h];rfl))
 refine Cu (some 3) (λ(b:Bool)=>[(2,.ptr 2 0),(3,.ptr 3 0),(4,.ptr 4 0),(27,.b b)]) (λ_=>[(2,.var (.d (dq x))),(3,.var (.d (dq y))),(4,.var q0)]) (λb=>b=true->(x.den:Int)=1/\(y.den:Int)=1) rfl ?_ λb hb=>?_
 . refine Ce rfl Xev ?_
   refine By rfl (λh=>?_) λh=>?_
   . refine Ce rfl Xev ?_
     exact Jn (dc _) [] rfl λe=>⟨h,Xal.1 e⟩
   . exact Jn false [] rfl nofun
 refine By rfl (λh=>?_) λh=>?_
 . obtain⟨d1,d2⟩:=hb h
   refine Dw rfl ?_
   refine Ce rfl (R1.Mul_ok (by omega) (by omega)) ?_
   exact R1 rfl (.eq (show D.st (.pr (dz (x.num*y.num)) (dz x.den))=dq _ by rw[Xrn d1 d2,d1];rfl))
 . refine Dw rfl ?_
   refine Ce rfl (R1.GCD_ok (by omega) (by omega)) ?_
   refine Ce rfl (R1.GCD_ok (by omega) (by omega)) ?_
   refine Dw rfl ?_
   refine Ce rfl (Xcc (by omega) (by omega) k1) ?_
   refine Ce rfl (Xcc (by omega) (by omega) k2) ?_
   refine Ce rfl (R1.Mul_ok (by omega) (by omega)) ?_
   refine Ce rfl (Xcc (by omega) (by omega) k2) ?_
   refine Ce rfl (Xcc (by omega) (by omega) k1) ?_
   refine Ce rfl (R1.Mul_ok (by omega) (by omega)) ?_
   exact R1 rfl (.eq (show D.st (.pr (dz _) (dz _))=dq (x*y) by unfold dq;rw[Xzn,Yan]))
theorem Add_ok{x y:Rat}{p q:Nat}(hx:Qs p x)(hy:Qs q y)(hp:p+q+1<=8796093022208): C0 88 [.d (dq x),.d (dq y)] (·=.d (dq (x+y))):=by
 have h1:=hx.n.len (by omega)
 have h2:=hx.d.len (by omega)
 have h3:=hy.n.len (by omega)
 have h4:=hy.d.len (by omega)
 have h5:=(hx.n.mul hy.d).len (by omega)
 have h6:=(hy.n.mul hx.d).len (by omega)
 have hg:=hy.d.gcd (x:=(x.den:Int)) (Xb2 y)
 have k:=@Xk8 (x.den:Int) y.den (Xb2 y)
 have hdx:=hx.d.fdv (g:=(Int.gcd x.den y.den:Int)) (by omega)
 have hdy:=hy.d.fdv (g:=(Int.gcd x.den y.den:Int)) (by omega)
 have hn:Zs (p+q+1) (x.num*(y.den:Int).fdiv (Int.gcd x.den y.den:Int)+y.num*(x.den:Int).fdiv (Int.gcd x.den y.den:Int)):=((hx.n.mul hdy).add (hy.n.mul hdx)).mono (by omega)
 have ht:=hg.gcd (x:=x.num*(y.den:Int).fdiv (Int.gcd x.den y.den:Int)+y.num*(x.den:Int).fdiv (Int.gcd x.den y.den:Int)) k
 have kt:=@Xk8 (x.num*(y.den:Int).fdiv (Int.gcd x.den y.den:Int)+y.num*(x.den:Int).fdiv (Int.gcd x.den y.den:Int)) _ k
 have l1:=hg.len (by omega)
 have l2:=hdx.len (by omega)
 have l3:=hdy.len (by omega)
 have l4:=hn.len (by omega)
 have l5:=ht.len (by omega)
 have l6:=(hx.n.mul hdy).len (by omega)
 have l7:=(hy.n.mul hdx).len (by omega)
 have l8:=(hy.d.fdv (g:=(Int.gcd (x.num*(y.den:Int).fdiv (Int.gcd x.den y.den:Int)+y.num*(x.den:Int).fdiv (Int.gcd x.den y.den:Int)) (Int.gcd x.den y.den:Int):Int)) (by omega)).len (by omega)
 refine En Tryz.func88 λ_ _ _=>?_
 refine By rfl (λh=>?_) λh=>?_
 . exact R1 rfl (.eq (by rw[zero_of h,Rat.zero_add];rfl))
 refine By rfl (λh=>?_) λh=>?_
 . exact R1 rfl (.eq (by rw[zero_of h,W7w];rfl))
 refine Cu (some 5) (λ(b:Bool)=>[(2,.ptr 2 0),(3,.ptr 3 0),(4,.ptr 4 0),(30,.b b)]) (λ_=>[(2,.var (.d (dq x))),(3,.var (.d (dq y))),(4,.var q0)]) (λb=>b=true->(x.den:Int)=1/\(y.den:Int)=1) rfl ?_ λb hb=>?_
 . refine Ce rfl Xev ?_
   refine By rfl (λh=>?_) λh=>?_
   . refine Ce rfl Xev ?_
     exact Jn (dc _) [] rfl λe=>⟨h,Xal.1 e⟩
   . exact Jn false [] rfl nofun
 refine By rfl (λh=>?_) λh=>?_
 . obtain⟨d1,d2⟩:=hb h
   refine Dw rfl ?_
   refine Ce rfl (R1.Add_ok (by omega) (by omega)) ?_
   exact R1 rfl (.eq (show D.st (.pr (dz (x.num+y.num)) (dz x.den))=dq _ by rw[Xro d1 d2,d1];rfl))
 refine Ce rfl (R1.GCD_ok (by omega) (by omega)) ?_
 refine Ce rfl Xev ?_
 refine By rfl (λh=>?_) λh=>?_
 . refine Dw rfl ?_
   refine Ce rfl (R1.Mul_ok (by omega) (by omega)) ?_
   refine Ce rfl (R1.Mul_ok (by omega) (by omega)) ?_
   refine Ce rfl (R1.Add_ok (by omega) (by omega)) ?_
   refine Dw rfl ?_
   refine Ce rfl (R1.Mul_ok (by omega) (by omega)) ?_
   exact R1 rfl (.eq (show D.st (.pr (dz _) (dz _))=dq (x+y) by unfold dq;rw[(Xqt h).1,(Xqt h).2,W2z]))
 . refine Dw rfl ?_
   refine Ce rfl (Xcc (by omega) (by omega) k) ?_
   refine Ce rfl (Xcc (by omega) (by omega) k) ?_
   refine Dw rfl ?_
   refine Ce rfl (R1.Mul_ok (by omega) (by omega)) ?_
   refine Ce rfl (R1.Mul_ok (by omega) (by omega)) ?_
   refine Ce rfl (R1.Add_ok (by omega) (by omega)) ?_
   refine Ce rfl (R1.GCD_ok (by omega) (by omega)) ?_
   refine Dw rfl ?_
   refine Ce rfl (Xcc (by omega) (by omega) kt) ?_
   refine Ce rfl (Xcc (by omega) (by omega) kt) ?_
   refine Ce rfl (R1.Mul_ok (by omega) (by omega)) ?_
   exact R1 rfl (.eq (show D.st (.pr (dz _) (dz _))=dq (x+y) by unfold dq;rw[(Xqs h).1,(Xqs h).2]))
theorem Sub_ok{x y:Rat}{p q:Nat}(hx:Qs p x)(hy:Qs q y)(hp:p+q+1<=8796093022208): C0 87 [.d (dq x),.d (dq y)] (·=.d (dq (x-y))):=by
 refine En Tryz.func87 λ_ _ _=>?_
 refine Dw rfl ?_
 refine Ce rfl (Neg_ok hy (by omega)) ?_
 refine Ce rfl (Add_ok hx hy.neg hp) ?_
 exact R1 rfl (.eq (by rw[W5k]))
theorem Yjp{x:Rat}(h0:x≠0): dq x⁻¹=if x.num<0 then D.st (.pr (dz (-x.den)) (dz (-x.num))) else D.st (.pr (dz x.den) (dz x.num)):=by
 have hn:x.num≠0:=λe=>h0 (W5o.1 e)
 unfold dq
 rw[Rat.num_inv,Rat.den_inv,if_neg hn]
 split
 . rename_i h
   rw[Int.sign_eq_neg_one_of_neg h,show (-1*(x.den:Int))=-x.den by omega,show ((x.num.natAbs:Nat):Int)=-x.num by omega]
 . rename_i h
   rw[Int.sign_eq_one_of_pos (by omega),show (1*(x.den:Int))=x.den by omega,show ((x.num.natAbs:Nat):Int)=x.num by omega]
theorem Qs.inv{x:Rat}{p:Nat}(hx:Qs p x)(h0:x≠0): Qs p x⁻¹:=by
 have hn:x.num≠0:=λe=>h0 (W5o.1 e)
 have h1:=hx.n
 have h2:=hx.d
 unfold Zs at h1 h2
 rw[W1l] at h2
 constructor<;>unfold Zs
 . rw[Rat.num_inv,W4m,Int.natAbs_sign_of_ne_zero hn,W1l];omega
 . rw[Rat.den_inv,if_neg hn,W1l];exact h1
theorem Inv_ok{x:Rat}{p:Nat}(hx:Qs p x)(hp:p<=8796093022208)(h0:x≠0): C0 163 [.d (dq x)] (·=.d (dq x⁻¹)):=by
 have h1:=hx.n.len hp
 have h2:=hx.d.len hp
 have e:=Yjp h0
 refine En Tryz.func163 λ_ _ _=>?_
 refine By rfl (λh=>?_) λh=>?_
 . rw[if_pos h] at e
   refine Dw rfl ?_
   refine Ce rfl (R1.Neg_ok (by omega)) ?_
   refine Ce rfl (R1.Neg_ok (by omega)) ?_
   exact R1 rfl (.eq e.symm)
 . rw[if_neg h] at e
   exact R1 rfl (.eq e.symm)
theorem Div_ok{x y:Rat}{p q:Nat}(hx:Qs p x)(hy:Qs q y)(hp:p+q+1<=8796093022208)(h0:y≠0): C0 82 [.d (dq x),.d (dq y)] (·=.tup (.pr (.d (dq (x/y))) (.d (.int .i64 0)))):=by
 refine En Tryz.func82 λ_ _ _=>?_
 refine No rfl (λh=>h0 (zero_of h)) ?_
 refine Dw rfl ?_
 refine Ce rfl (Inv_ok hy (by omega) h0) ?_
 refine Ce rfl (Mul_ok hx (Qs.inv hy h0) hp) ?_
 exact RTt rfl (.cons (.eq (by rw[W5x])) (.one (.rf rfl) (λ_ _ e=>by cases e) (λ_ _ e=>by cases e)))
theorem Cmp_ok{x y:Rat}{p q:Nat}(hx:Qs p x)(hy:Qs q y)(hp:p+q<=8796093022208): C0 437 [.d (dq x),.d (dq y)] (·=.d (.int .i64 (Xnp x y))):=by
 have h1:=hx.n.len (by omega)
 have h2:=hx.d.len (by omega)
 have h3:=hy.n.len (by omega)
 have h4:=hy.d.len (by omega)
 have h5:=(hx.n.mul hy.d).len (by omega)
 have h6:=(hy.n.mul hx.d).len (by omega)
 refine En Tryz.func437 λ_ _ _=>?_
 refine Dw rfl ?_
 refine Ce rfl (R1.Mul_ok (by omega) (by omega)) ?_
 refine Ce rfl (R1.Mul_ok (by omega) (by omega)) ?_
 refine Ce rfl (R1.Cmp_ok (by omega) (by omega)) ?_
 exact R1 rfl (.eq (by rw[Xrs]))
theorem SameInt_ok{z w:Int}(hz:(dig z.natAbs).length<=549755813888): C0 124 [.d (dz z),.d (dz w)] (·=.b (dc (z=w))):=by
 refine En Tryz.func124 λ_ _ _=>?_
 refine By rfl (λh=>?_) λh=>?_
 . exact R1 rfl (.bp ⟨nofun,λe=>absurd (by rw[e]) h⟩)
 have h:(z<0↔w<0):=by simpa using h
 refine By rfl (λh1=>?_) λh1=>?_<;>simp only[lw] at h1
 . exact R1 rfl (.bp ⟨nofun,λe=>absurd (by rw[e]) h1⟩)
 refine Lo (λk:Nat=>[(2,.ptr 2 0),(3,.ptr 3 0),(5,.d (.int .i64 k))]) (λ_=>[(2,.var (.d (dz z))),(3,.var (.d (dz w)))]) (λk=>k<=(dig z.natAbs).length/\(dig z.natAbs).take k=(dig w.natAbs).take k) (λk=>(dig z.natAbs).length-k) 0 [] rfl ⟨by omega,rfl⟩ λk ⟨hk,ht⟩=>?_
 refine By rfl (λh2=>?_) λh2=>?_<;>simp only[lw] at h2
 . obtain⟨u,hu⟩:=xat (l:=dig z.natAbs) (k:=k) (by omega)
   obtain⟨v,hv⟩:=xat (l:=dig w.natAbs) (k:=k) (by omega)
   refine Dw rfl ?_
   refine Ix k rfl (mp hu) ?_
   refine Ix k rfl (mp hv) ?_
   refine By rfl (λh3=>?_) λh3=>?_
   . exact R1 rfl (.bp ⟨nofun,λe=>by subst e;rw[hu] at hv;injection hv with hv;omega⟩)
   . refine Ar (k+1:Nat) rfl ?_
     refine Bk (k+1) [] rfl ⟨by omega,?_⟩ (by show _-(k+1)<_-k;omega)
     have h1:=(W1d.1 hu).1
     have h2:=(W1d.1 hv).1
     rw[W1c,W1c,hu,hv,ht,show u=v by omega]
 . refine R1 rfl (.bp ⟨λ_=>?_,λ_=>rfl⟩)
   rw[W0b (by omega),W0b (by omega)] at ht
   have:=Xaf z.natAbs
   rw[ht,Xaf] at this
   omega
end Go.Proofs.YtclgppjdhndgiaaGreatDoor.R2
namespace Go.Tow
def El: Nat->Type
 | 0=>Rat
 | k+1=>El k×El k
def Tw: Nat->Type
 | 0=>Unit
 | k+1=>Tw k×El k
def toL: (k:Nat)->El k->List Rat
 | 0,x=>[x]
 | k+1,x=>toL k x.1++toL k x.2
def toT: (k:Nat)->Tw k->List (List Rat)
 | 0,_=>[]
 | k+1,t=>toT k t.1++[toL k t.2]
def zero: (k:Nat)->El k
 | 0=>(0:Rat)
 | k+1=>(zero k,zero k)
def rat: (k:Nat)->Rat->El k
 | 0,x=>x
 | k+1,x=>(rat k x,zero k)
def add: (k:Nat)->El k->El k->El k
 | 0=>λ(x y:Rat)=>x+y
 | k+1=>λx y=>(add k x.1 y.1,add k x.2 y.2)
def neg: (k:Nat)->El k->El k
 | 0=>λ(x:Rat)=>-x
 | k+1=>λx=>(neg k x.1,neg k x.2)
def mul: (k:Nat)->Tw k->El k->El k->El k
 | 0=>λ_ (x y:Rat)=>x*y
 | k+1=>λt x y=>(add k (mul k t.1 x.1 y.1) (mul k t.1 (mul k t.1 x.2 y.2) t.2),add k (mul k t.1 x.1 y.2) (mul k t.1 x.2 y.1))
instance decEl:(k:Nat)->DecidableEq (El k)
 | 0=>inferInstanceAs (DecidableEq Rat)
 | k+1=>@instDecidableEqProd _ _ (decEl k) (decEl k)
theorem Xab(k:Nat)(a:El k): (toL k a).length=2^k:=by
 induction k with
 | zero=>rfl
 | succ k ih=>simp only[toL,W0d,ih,W0q];omega
theorem Xaa(k:Nat)(t:Tw k): (toT k t).length=k:=by
 induction k with
 | zero=>rfl
 | succ k ih=>simp only[toT,W0d,ih,W4f]
theorem Xfb{α:Type}{a b c d:List α}(h:a.length=c.length)(e:a++b=c++d): a=c/\b=d:=List.append_inj e h
theorem Xhp{k:Nat}{a b:El k}(h:toL k a=toL k b): a=b:=by
 induction k with
 | zero=>exact(List.cons.inj h).1
 | succ k ih =>
  obtain⟨h1,h2⟩:=Xfb (by rw[Xab,Xab]) h
  exact W3a (ih h1) (ih h2)
theorem exE(k:Nat)(l:List Rat)(h:l.length=2^k): ∃a:El k,toL k a=l:=by
 induction k generalizing l with
 | zero =>
  match l,h with
  | [x],_=>exact⟨x,rfl⟩
 | succ k ih =>
  obtain⟨a,ha⟩:=ih (l.take (2^k)) (by rw[W0j,h,W0q];omega)
  obtain⟨b,hb⟩:=ih (l.drop (2^k)) (by rw[W1n,h,W0q];omega)
  exact⟨(a,b),by show toL k a++toL k b=l;rw[ha,hb,W4d]⟩
theorem Xas(k:Nat)(a b:El k): toL k (add k a b)=List.zipWith (·+·) (toL k a) (toL k b):=by
 induction k with
 | zero=>rfl
 | succ k ih =>
  simp only[toL,add,ih]
  rw[List.zipWith_append (by rw[Xab,Xab])]
theorem Xbo(k:Nat)(a:El k): toL k (neg k a)=(toL k a).map (- ·):=by
 induction k with
 | zero=>rfl
 | succ k ih=>simp only[toL,neg,ih,W1p]
theorem Xbs(k:Nat): toL k (zero k)=List.replicate (2^k) 0:=by
 induction k with
 | zero=>rfl
 | succ k ih =>
  simp only[toL,zero,ih]
  rw[W5c,W0q]
  congr 1
  omega
theorem Xex(k:Nat)(x:Rat): toL k (rat k x)=x::List.replicate (2^k-1) 0:=by
 induction k with
 | zero=>rfl
 | succ k ih =>
  simp only[toL,rat,ih,Xbs,W3r]
  rw[W5c,W0q]
  congr 2
  have:=W0u k
  omega
theorem Xar(k:Nat)(a:El k): a=zero k↔∀x∈toL k a,x=0:=by
 constructor
 . rintro rfl x hx
   rw[Xbs] at hx
   exact W6a hx
 . intro h
   apply Xhp
   rw[Xbs]
   exact List.eq_replicate_iff.2 ⟨Xab k a,h⟩
theorem Xg9(k:Nat): rat k 0=zero k:=by
 induction k with
 | zero=>rfl
 | succ k ih=>simp only[rat,zero,ih];rfl
structure Laws {α:Type} (add mul:α->α->α) (neg:α->α) (zero one:α):Prop where
 ac:∀a b,add a b=add b a
 aa:∀a b c,add (add a b) c=add a (add b c)
 az:∀a,add a zero=a
 an:∀a,add a (neg a)=zero
 mc:∀a b,mul a b=mul b a
 ma:∀a b c,mul (mul a b) c=mul a (mul b c)
 mo:∀a,mul a one=a
 md:∀a b c,mul a (add b c)=add (mul a b) (mul a c)
section
variable{α:Type}{add mul:α->α->α}{neg:α->α}{zero one:α}(L:Laws add mul neg zero one)
include L
theorem Laws.alc(a b c:α): add a (add b c)=add b (add a c):=by rw[<-L.aa,L.ac a b,L.aa]
theorem Laws.mlc(a b c:α): mul a (mul b c)=mul b (mul a c):=by rw[<-L.ma,L.mc a b,L.ma]
theorem Laws.dm(a b c:α): mul (add a b) c=add (mul a c) (mul b c):=by rw[L.mc,L.md,L.mc c a,L.mc c b]
theorem Laws.za(a:α): add zero a=a:=by rw[L.ac,L.az]
theorem Laws.om(a:α): mul one a=a:=by rw[L.mc,L.mo]
theorem Laws.cancel{a b c:α}(h:add a c=add b c): a=b:=by
 have:add (add a c) (neg c)=add (add b c) (neg c):=by rw[h]
 rwa[L.aa,L.aa,L.an,L.az,L.az] at this
theorem Laws.mz(a:α): mul a zero=zero:=by
 refine L.cancel (c:=mul a zero) ?_
 rw[<-L.md,L.za,L.za]
theorem Laws.zm(a:α): mul zero a=zero:=by rw[L.mc,L.mz]
theorem Laws.na(a:α): add (neg a) a=zero:=by rw[L.ac,L.an]
theorem Laws.nu{a b:α}(h:add a b=zero): b=neg a:=L.cancel (c:=a) (by rw[L.ac,h,L.na])
theorem Laws.mn(a b:α): mul a (neg b)=neg (mul a b):=L.nu (by rw[<-L.md,L.an,L.mz])
theorem Laws.nm(a b:α): mul (neg a) b=neg (mul a b):=by rw[L.mc,L.mn,L.mc]
theorem Laws.nn(a:α): neg (neg a)=a:=(L.nu (L.na a)).symm
theorem Laws.nd(a b:α): neg (add a b)=add (neg a) (neg b):=(L.nu (by
 rw[L.aa,L.alc b,<-L.aa,L.an,L.za,L.an])).symm
theorem Laws.nz: neg zero=zero:=(L.nu (L.az zero)).symm
theorem Laws.sub_eq{a b c d:α}(h:add a d=add c b): add a (neg b)=add c (neg d):=by
 refine L.cancel (c:=add b d) ?_
 have e1:add (add a (neg b)) (add b d)=add a d:=by rw[L.aa,<-L.aa (neg b),L.na,L.za]
 have e2:add (add c (neg d)) (add b d)=add c b:=by rw[L.aa,L.alc (neg d),L.na,L.az]
 rw[e1,e2,h]
theorem Laws.quad(r:α): Laws (α:=α×α) (λx y=>(add x.1 y.1,add x.2 y.2)) (λx y=>(add (mul x.1 y.1) (mul (mul x.2 y.2) r),add (mul x.1 y.2) (mul x.2 y.1))) (λx=>(neg x.1,neg x.2)) (zero,zero) (one,zero) where
 ac:=λa b=>by simp only[L.ac]
 aa:=λa b c=>by simp only[L.aa]
 az:=λa=>by simp only[L.az]
 an:=λa=>by simp only[L.an]
 mc:=λa b=>by
  refine W3a ?_ ?_
  . simp only[L.mc]
  . simp only[L.mc,L.ac]
 ma:=λa b c=>by
  refine W3a ?_ ?_
  . simp only[L.md,L.dm,L.ma]
    simp only[L.mc,L.mlc,L.aa,L.ac,L.alc]
  . simp only[L.md,L.dm,L.ma]
    simp only[L.mc,L.mlc,L.aa,L.ac,L.alc]
 mo:=λa=>by
  refine W3a ?_ ?_
  . simp only[L.mo,L.mz,L.zm,L.az]
  . simp only[L.mo,L.mz,L.za]
 md:=λa b c=>by
  refine W3a ?_ ?_
  . simp only[L.md,L.dm]
    simp only[L.aa,L.ac,L.alc]
  . simp only[L.md,L.dm]
    simp only[L.aa,L.ac,L.alc]
end
theorem Xbc(k:Nat)(t:Tw k): Laws (add k) (mul k t) (neg k) (zero k) (rat k 1):=by
 induction k with
 | zero=>exact⟨Rat.add_comm,Rat.add_assoc,W7w,Rat.add_neg_cancel,Rat.mul_comm,Rat.mul_assoc,Rat.mul_one,Rat.mul_add⟩
 | succ k ih=>exact(ih t.1).quad t.2
def norm(k:Nat)(t:Tw (k+1))(a:El (k+1)): El k:=add k (mul k t.1 a.1 a.1) (neg k (mul k t.1 (mul k t.1 a.2 a.2) t.2))
def inv: (k:Nat)->Tw k->El k->Option (El k)
 | 0=>λ_ (x:Rat)=>if x=0 then none else some (1/x:Rat)
 | k+1=>λt a=>match inv k t.1 (norm k t a) with
  | none=>none
  | some n=>some (mul k t.1 a.1 n,neg k (mul k t.1 a.2 n))
theorem Xqw(k:Nat)(t:Tw (k+1))(a b:El (k+1)): norm k t (mul (k+1) t a b)=mul k t.1 (norm k t a) (norm k t b):=by
 have L:=Xbc k t.1
 have h:∀x y z w:El k,mul k t.1 (add k x (neg k y)) (add k z (neg k w))=add k (add k (mul k t.1 x z) (mul k t.1 y w)) (neg k (add k (mul k t.1 x w) (mul k t.1 y z))):=by
  intro x y z w
  simp only[L.md,L.dm,L.mn,L.nm,L.nn,L.nd]
  simp only[L.aa,L.ac,L.alc]
 simp only[norm,mul]
 rw[h]
 refine L.sub_eq ?_
 simp only[L.md,L.dm,L.ma]
 simp only[L.mc,L.mlc,L.aa,L.ac,L.alc]
theorem Xdv{k:Nat}{t:Tw k}{a b:El k}(h:inv k t a=some b): mul k t b a=rat k 1:=by
 induction k with
 | zero =>
  have h2:∀x b:Rat,(if x=0 then none else some (1/x))=some b->b*x=1:=by
   intro x b h
   split at h
   . cases h
   . rename_i hx
     injection h with h
     subst h
     exact W5m hx
  exact h2 a b h
 | succ k ih =>
  have L:=Xbc k t.1
  simp only[inv] at h
  split at h
  . cases h
  . rename_i n hn
    injection h with h
    subst h
    have:=ih hn
    refine W3a ?_ ?_
    . show add k (mul k t.1 (mul k t.1 a.1 n) a.1) (mul k t.1 (mul k t.1 (neg k (mul k t.1 a.2 n)) a.2) t.2)=rat k 1
      rw[<-this,norm]
      simp only[L.md,L.mn,L.nm]
      simp only[L.ma,L.mc,L.mlc]
    . show add k (mul k t.1 (mul k t.1 a.1 n) a.2) (mul k t.1 (neg k (mul k t.1 a.2 n)) a.1)=zero k
      simp only[L.nm]
      rw[show mul k t.1 (mul k t.1 a.2 n) a.1=mul k t.1 (mul k t.1 a.1 n) a.2 by simp only[L.ma,L.mc,L.mlc],L.an]
def pr{k:Nat}(a b:El k): El (k+1):=(a,b)
def up(k:Nat)(a:El k): El (k+1):=(a,zero k)
def Xf3: (k:Nat)->(i:Nat)->El k
 | 0,_=>(0:Rat)
 | k+1,i=>if i=k then pr (zero k) (rat k 1) else up k (Xf3 k i)
theorem Xu5(k:Nat)(t:Tw (k+1))(a b:El k): mul (k+1) t (up k a) (up k b)=up k (mul k t.1 a b):=by
 have L:=Xbc k t.1
 simp only[mul,up,L.mz,L.zm,L.az];rfl
theorem Xpj{k i:Nat}(hi:i<k): toL k (Xf3 k i)=(List.replicate (2^k) 0).set (2^i) 1:=by
 induction k with
 | zero=>omega
 | succ k ih =>
  have hp:2^(k+1)=2^k+2^k:=by rw[W0q];omega
  rw[hp,<-W5c]
  by_cases h:i=k
  . rw[Xf3,if_pos h]
    subst h
    simp only[toL,pr,Xbs,Xex]
    rw[W6l _ _ (by simp),W1v,W2v]
    have h0:=W0u i
    obtain⟨m,hm⟩:∃m,2^i=m+1:=⟨2^i-1,by omega⟩
    rw[hm]
    rfl
  . have hik:i<k:=by omega
    have hlt:2^i<2^k:=W3u (by decide) hik
    rw[Xf3,if_neg h]
    simp only[toL,up,Xbs]
    rw[ih hik,List.set_append_left _ _ (by rw[W1v];exact hlt)]
end Go.Tow
namespace Go.Proofs.YtclgppjdhndgiaaGreatDoor
open Go Go.Num Go.Tow Go.Vm
section
def IsD(d n:Nat)(l:List Rat): Prop:=∀x∈l,∃z:Int,x*(d:Rat)=(z:Rat)/\z.natAbs<n
theorem IsD.mono{d n m:Nat}{l:List Rat}(h:IsD d n l)(hm:n<=m): IsD d m l:=λx hx =>
 let ⟨z,h1,h2⟩:=h x hx;⟨z,h1,W0s h2 hm⟩
theorem IsD.scale{d n e:Nat}{l:List Rat}(h:IsD d n l)(he:0<e): IsD (d*e) (n*e) l:=λx hx=>by
 obtain⟨z,h1,h2⟩:=h x hx
 refine⟨z*(e:Int),?_,?_⟩
 . rw[W7x,<-Rat.mul_assoc,h1,W3v];rfl
 . rw[W4m,W1l]
   exact W3k h2 he
theorem IsD.append{d n:Nat}{l m:List Rat}(h:IsD d n l)(k:IsD d n m): IsD d n (l++m):=λx hx=>(W2j.1 hx).elim (h x) (k x)
theorem IsD.left{d n:Nat}{l m:List Rat}(h:IsD d n (l++m)): IsD d n l:=λx hx=>h x (W2q _ hx)
theorem IsD.right{d n:Nat}{l m:List Rat}(h:IsD d n (l++m)): IsD d n m:=λx hx=>h x (W1r _ hx)
theorem IsD.add{d n m:Nat}: ∀ {l l':List Rat},IsD d n l->IsD d m l'->IsD d (n+m) (List.zipWith (·+·) l l')
 | [],_,_,_=>λ_ h=>nomatch h
 | _::_,[],_,_=>λ_ h=>nomatch h
 | a::l,b::l',h,k=>λx hx=>by
  rcases W1i.1 hx with hx | hx
  . obtain⟨z,h1,h2⟩:=h a (W0w ..)
    obtain⟨w,k1,k2⟩:=k b (W0w ..)
    refine⟨z+w,by rw[hx,Rat.add_mul,h1,k1,W5p],?_⟩
    have:=Int.natAbs_add_le z w
    omega
  . exact IsD.add (λy hy=>h y (W1e _ hy)) (λy hy=>k y (W1e _ hy)) x hx
theorem IsD.neg{d n:Nat}{l:List Rat}(h:IsD d n l): IsD d n (l.map (- ·)):=λx hx=>by
 obtain⟨y,hy,rfl⟩:=W4e.1 hx
 obtain⟨z,h1,h2⟩:=h y hy
 exact⟨-z,by rw[Rat.neg_mul,h1,Rat.intCast_neg],by rw[W4t];exact h2⟩
theorem IsD.mul1{d n e m:Nat}{x y:Rat}(h:IsD d n [x])(k:IsD e m [y]): IsD (d*e) (n*m) [x*y]:=λu hu=>by
 obtain rfl:=W0g.1 hu
 obtain⟨z,h1,h2⟩:=h x (W0w ..)
 obtain⟨w,k1,k2⟩:=k y (W0w ..)
 refine⟨z*w,?_,?_⟩
 . rw[W7x,W3v,<-h1,<-k1]
   grind
 . rw[W4m]
   exact W5a h2 k2
theorem Xk1(y:Rat): y*(y.den:Rat)=(y.num:Rat):=by
 have hd:((y.den:Nat):Rat)≠0:=by
  intro h
  have:((y.den:Nat):Rat).num=0:=by rw[h];rfl
  rw[Rat.num_natCast] at this
  have:=y.den_nz
  omega
 have e:y=(y.num:Rat)/(y.den:Rat):=by
  conv=>lhs;rw[<-Rat.num_divInt_den y,W3b]
  rfl
 conv=>lhs;lhs;rw[e]
 exact W5m hd
def Sz(p:Nat)(l:List Rat): Prop:=∃d:Nat,0<d/\d<2^p/\IsD d (2^p) l
theorem Sz.mono{p q:Nat}{l:List Rat}(h:Sz p l)(hp:p<=q): Sz q l:=by
 obtain⟨d,h0,h1,h2⟩:=h
 have:=W0m (n:=2) (by decide) hp
 exact⟨d,h0,by omega,h2.mono this⟩
theorem Sz.sub{p:Nat}{l m:List Rat}(h:Sz p l)(hs:∀x∈m,x∈l): Sz p m:=by
 obtain⟨d,h0,h1,h2⟩:=h
 exact⟨d,h0,h1,λx hx=>h2 x (hs x hx)⟩
theorem Sz.qs{p:Nat}{l:List Rat}(h:Sz p l){x:Rat}(hx:x∈l): Qs p x:=by
 obtain⟨d,h0,h1,h2⟩:=h
 obtain⟨z,h3,h4⟩:=h2 x hx
 have hd:((d:Nat):Rat)≠0:=by
  intro h
  have:(d:Rat).num=0:=by rw[h];rfl
  rw[Rat.num_natCast] at this
  omega
 have e:x=Rat.divInt z (d:Int):=by
  rw[W3b,<-h3]
  exact(Rat.mul_div_cancel hd).symm
 rw[e]
 exact Qs.divInt h4 (by unfold Zs;rw[W1l];exact h1) (by omega)
theorem Sz.nil: Sz 1 []:=⟨1,by decide,by decide,λ_ h=>nomatch h⟩
theorem _root_.Go.Num.Qs.isD{p:Nat}{x:Rat}(h:Qs p x): IsD x.den (2^p) [x]:=λy hy=>by
 obtain rfl:=W0g.1 hy
 exact⟨y.num,Xk1 y,h.n⟩
theorem Sz.one{p:Nat}{x:Rat}(h:Qs p x): Sz p [x]:=⟨x.den,W2n x.den_nz,by have:=h.d;unfold Zs at this;rwa[W1l] at this,h.isD⟩
theorem Sz.append{p q:Nat}{l m:List Rat}(h:Sz p l)(k:Sz q m): Sz (p+q) (l++m):=by
 obtain⟨d,h0,h1,h2⟩:=h
 obtain⟨e,k0,k1,k2⟩:=k
 have hp:=W0u p
 have hq:=W0u q
 refine⟨d*e,W1o h0 k0,by rw[W0z];exact W5a h1 k1,?_⟩
 refine IsD.append ((h2.scale k0).mono ?_) ?_
 . rw[W0z];exact W0p _ (W2c k1)
 . rw[W1f d e]
   refine(k2.scale h0).mono ?_
   rw[W0z,W1f]
   exact W0v _ (W2c h1)
theorem Sz.cons{p q:Nat}{x:Rat}{m:List Rat}(h:Qs p x)(k:Sz q m): Sz (p+q) (x::m):=(Sz.one h).append k
theorem Sz.all{p:Nat}: ∀ {l:List Rat},(∀x∈l,Qs p x)->Sz (p*l.length+1) l
 | [],_=>Sz.nil.mono (by omega)
 | x::l,h=>(Sz.cons (h x (W0w ..)) (Sz.all λy hy=>h y (W1e _ hy))).mono (by rw[W0k,Nat.mul_succ];omega)
theorem Sz.add{p q:Nat}{l m:List Rat}(h:Sz p l)(k:Sz q m): Sz (p+q+1) (List.zipWith (·+·) l m):=by
 obtain⟨d,h0,h1,h2⟩:=h
 obtain⟨e,k0,k1,k2⟩:=k
 have e1:=W5a h1 k1
 rw[<-W0z] at e1
 refine⟨d*e,W1o h0 k0,by rw[W0q];omega,?_⟩
 have a1:IsD (d*e) (2^(p+q)) l:=(h2.scale k0).mono (by rw[W0z];exact W0p _ (W2c k1))
 have a2:IsD (d*e) (2^(p+q)) m:=by
  rw[W1f d e]
  exact(k2.scale h0).mono (by rw[W0z,W1f];exact W0v _ (W2c h1))
 exact(a1.add a2).mono (by rw[W0q];omega)
theorem Sz.neg{p:Nat}{l:List Rat}(h:Sz p l): Sz p (l.map (- ·)):=by
 obtain⟨d,h0,h1,h2⟩:=h
 exact⟨d,h0,h1,h2.neg⟩
theorem Sz.left{p:Nat}{l m:List Rat}(h:Sz p (l++m)): Sz p l:=h.sub λ_=>W2q _
theorem Sz.right{p:Nat}{l m:List Rat}(h:Sz p (l++m)): Sz p m:=h.sub λ_=>W1r _
def TS(r:Nat): (k:Nat)->Tw k->Prop
 | 0,_=>True
 | k+1,t=>TS r k t.1/\Sz r (toL k t.2)
def cB(r:Nat): Nat->Nat
 | 0=>0
 | k+1=>2*cB r k+r+1
theorem Yn1(r k:Nat): cB r k<=cB r (k+1):=by show _<=2*cB r k+r+1;omega
theorem Xk0{r k:Nat}{t:Tw k}(ht:TS r k t): ∃E,0<E/\E<=2^cB r k/\∀a b d e n m,0<d->0<e->IsD d n (toL k a)->IsD e m (toL k b)->IsD (d*e*E) (n*m*2^cB r k) (toL k (mul k t a b)):=by
 induction k with
 | zero =>
  refine⟨1,by decide,W0c 1,λa b d e n m _ _ h h'=>?_⟩
  rw[W3z,show 2^cB r 0=1 from rfl,W3z]
  exact h.mul1 h'
 | succ k ih =>
  obtain⟨E,h0,h1,h2⟩:=ih ht.1
  obtain⟨g,g0,g1,g2⟩:=ht.2
  have hC:=W0u (cB r k)
  have hR:=W0u r
  refine⟨E*(E*g),W1o h0 (W1o h0 g0),?_,λa b d e n m hd he h h'=>?_⟩
  . have e1:E*(E*g)<=2^cB r k*(2^cB r k*2^r):=W1z h1 (W1z h1 (W2c g1))
    rw[<-W0z,<-W0z] at e1
    exact W0l e1 (W0m (by decide) (by show _<=2*cB r k+r+1;omega))
  . have hg:E*g<=2^cB r k*2^r:=W1z h1 (W2c g1)
    have hEg:0<E*g:=W1o h0 g0
    have hc:n*m*2^cB r (k+1)=n*m*2^cB r k*(2^cB r k*2^r)+n*m*2^cB r k*(2^cB r k*2^r):=by
     rw[show cB r (k+1)=cB r k+(cB r k+r)+1 by show 2*cB r k+r+1=_;omega,W0q,W0z,W0z]
     rw[<-Nat.mul_two,W0r (n*m),W0r (n*m)]
    have scale:∀u v:El k,IsD d n (toL k u)->IsD e m (toL k v)->IsD (d*e*(E*(E*g))) (n*m*2^cB r k*(2^cB r k*2^r)) (toL k (mul k t.1 u v)):=by
     intro u v hu hv
     have:=(h2 u v d e n m hd he hu hv).scale hEg
     rw[W0r (d*e)] at this
     exact this.mono (W0p _ hg)
    show IsD _ _ (toL k (add k _ _)++toL k (add k _ _))
    rw[Xas,Xas,hc]
    refine IsD.append (IsD.add (scale _ _ h.left h'.left) ?_) (IsD.add (scale _ _ h.left h'.right) (scale _ _ h.right h'.left))
    have:=h2 _ _ (d*e*E) g _ _ (W1o (W1o hd he) h0) g0 (h2 _ _ d e n m hd he h.right h'.right) g2
    rw[show d*e*E*g*E=d*e*(E*(E*g)) by rw[W0r (d*e),W0r (d*e),W0r E g E,W1f g E]] at this
    rw[show n*m*2^cB r k*2^r*2^cB r k=n*m*2^cB r k*(2^cB r k*2^r) by rw[W0r (n*m*2^cB r k),W1f (2^r)]] at this
    exact this
theorem Sz.mul{r k p q:Nat}{t:Tw k}{a b:El k}(ht:TS r k t)(h:Sz p (toL k a))(h':Sz q (toL k b)): Sz (p+q+cB r k) (toL k (mul k t a b)):=by
 obtain⟨E,e0,e1,e2⟩:=Xk0 ht
 obtain⟨d,h0,h1,h2⟩:=h
 obtain⟨e,k0,k1,k2⟩:=h'
 have:=e2 a b d e _ _ h0 k0 h2 k2
 rw[<-W0z,<-W0z] at this
 refine⟨_,W1o (W1o h0 k0) e0,?_,this⟩
 rw[W0z,W0z]
 have h3:=W5a h1 k1
 exact W0s (W3k h3 e0) (W0p _ e1)
def nB(r k p:Nat): Nat:=4*p+3*cB r k+r+1
theorem Sz.norm{r k p:Nat}{t:Tw (k+1)}{a:El (k+1)}(ht:TS r (k+1) t)(h:Sz p (toL (k+1) a)): Sz (nB r k p) (toL k (Tow.norm k t a)):=by
 have hx:Sz p (toL k a.1):=Sz.left h
 have hy:Sz p (toL k a.2):=Sz.right h
 have h1:=Sz.mul ht.1 hx hx
 have h2:=Sz.mul ht.1 (Sz.mul ht.1 hy hy) ht.2
 rw[Tow.norm,Xas,Xbo]
 exact(h1.add h2.neg).mono (by unfold nB;omega)
def iB(r:Nat): Nat->Nat->Nat
 | 0,p=>p+1
 | k+1,p=>2*(p+iB r k (nB r k p)+cB r k)
theorem _root_.Go.Num.Qs.inv1{p:Nat}{x:Rat}(h:Qs p x): Qs (p+1) (1/x):=by
 by_cases h0:x=0
 . rw[h0,show (1/0:Rat)=((0:Int):Rat) by rw[W5x,Rat.inv_zero,Rat.mul_zero];rfl]
   exact Qs.int Zs.zero (by omega)
 . rw[Xjz _ _ h0]
   refine Qs.divInt ?_ ?_ ?_
   . rw[show (1:Rat).num=1 from rfl,W5w];exact h.d.mono (by omega)
   . rw[show ((1:Rat).den:Int)=1 from rfl,W5w];exact h.n.mono (by omega)
   . rw[show ((1:Rat).den:Int)=1 from rfl,W5w]
     exact λe=>h0 (W5o.1 e)
theorem Sz.inv{r k p:Nat}{t:Tw k}{a b:El k}(ht:TS r k t)(h:Sz p (toL k a))(hb:Tow.inv k t a=some b): Sz (iB r k p) (toL k b):=by
 induction k generalizing p with
 | zero =>
  have h2:∀x b:Rat,(if x=0 then none else some (1/x))=some b->Qs p x->Sz (p+1) [b]:=by
   intro x b h hq
   split at h
   . cases h
   . injection h with h
     subst h
     exact Sz.one hq.inv1
  exact h2 a b hb (h.qs (W0g.2 rfl))
 | succ k ih =>
  simp only[Tow.inv] at hb
  split at hb
  . cases hb
  . rename_i n hn
    injection hb with hb
    subst hb
    have h1:=ih ht.1 (h.norm ht) hn
    have h2:=Sz.mul ht.1 (Sz.left h:Sz p (toL k a.1)) h1
    have h3:=Sz.mul ht.1 (Sz.right h:Sz p (toL k a.2)) h1
    show Sz _ (toL k _++toL k (Tow.neg k _))
    rw[Xbo]
    exact(h2.append h3.neg).mono (by show _<=2*(p+iB r k (nB r k p)+cB r k);omega)
theorem Xz0(r k p:Nat): p<=iB r k p:=by
 cases k with
 | zero=>show p<=p+1;omega
 | succ k=>show p<=2*_;omega
theorem Xu4(r k p:Nat): p<=nB r k p:=by unfold nB;omega
theorem Sz.zero(k:Nat): Sz 1 (toL k (Tow.zero k)):=by
 rw[Xbs]
 refine⟨1,by decide,by decide,λx hx=>?_⟩
 rw[W6a hx]
 exact⟨0,by rw[W5l];rfl,by decide⟩
theorem Sz.rat{p:Nat}(k:Nat){x:Rat}(h:Qs p x): Sz (p+1) (toL k (Tow.rat k x)):=by
 rw[Xex]
 refine Sz.cons h ?_
 refine⟨1,by decide,by decide,λx hx=>?_⟩
 rw[W6a hx]
 exact⟨0,by rw[W5l];rfl,by decide⟩
end
section
def dqs(l:List Rat): D:=.sl 4 (l.map dq)
def dts(t:List (List Rat)): D:=.sl 1 (t.map dqs)
def fl(xs:List D)(z:D)(k:Nat): List D:=xs.take k++List.replicate (xs.length-k) z
theorem Xin{xs:List D}{z:D}{n:Nat}(h:xs.length=n): List.replicate n z=fl xs z 0:=by simp[fl,h]
theorem Xmw{xs:List D}{z:D}{k:Nat}(h:xs.length<=k): fl xs z k=xs:=by rw[fl,W0b h,show xs.length-k=0 by omega];simp
theorem Xju{xs:List D}{z:D}{k:Nat}(h:k<=xs.length): (fl xs z k).length=xs.length:=by simp[fl];omega
theorem Xmv{xs:List D}{z u:D}{k:Nat}(h:xs[k]?=some u): (fl xs z k).set k u=fl xs z (k+1):=by
 have hk:=(W1d.1 h).1
 rw[fl,fl,W6l _ _ (by simp;omega),show k-(xs.take k).length=0 by simp;omega,show xs.length-k=(xs.length-(k+1))+1 by omega,W4b,List.set_cons_zero,W1c,h]
 simp
theorem lq(l:List Rat): (l.map dq).length=l.length:=W0i ..
theorem lt'(l:List (List Rat)): (l.map dqs).length=l.length:=W0i ..
theorem qat{l:List Rat}{k:Nat}(h:k<l.length): ∃x,l[k]?=some x:=⟨_,W0a h⟩
def Ydj(f:FuncId)(l:List Rat)(φ:Rat->Prop): Prop:=∀x∈l,C0 f [.d (dq x)] (·=.b (dc (φ x)))
abbrev fnD(f:FuncId): D:=.raw (.func (.func f) #[] #[])
theorem Xnk{f:FuncId}{l:List Rat}{φ:Rat->Prop}(hf:Ydj f l φ)(hl:l.length<=1099511627776): C0 402 [.d (dqs l),.d (fnD f)] λv=>∃i:Int,v=.d (.int .i64 i)/\(i>=0↔∃x∈l,φ x):=by
 refine En Tryz.func402 λ_ _ _=>?_
 refine Lo (λk:Nat=>[(0,.d (dqs l)),(1,.d (fnD f)),(7,.d (.int .i64 l.length)),(8,.d (.int .i64 k))]) (λ_=>[]) (λk=>k<=l.length/\∀x∈l.take k,¬φ x) (λk=>l.length-k) 0 [] rfl ⟨by omega,by simp⟩ (λk ⟨hk,hn⟩=>?_) (by exact⟨by simp only[lq];rfl,rfl,rfl,rfl,rfl⟩)
 refine By rfl (λh=>?_) λh=>?_
 . obtain⟨x,hx⟩:=qat (l:=l) (k:=k) (by omega)
   have hm:=W0h hx
   refine Ix k rfl (mp hx) ?_
   refine Ce rfl (hf x hm) ?_
   refine By rfl (λh1=>?_) λh1=>?_
   . exact Rt rfl (.one (.rf rfl) rfl rfl) ⟨k,rfl,⟨λ_=>⟨x,hm,h1⟩,λ_=>by omega⟩⟩
   . refine Ar (k+1:Nat) rfl ?_
     refine Bk (k+1) [] rfl ⟨by omega,λy hy=>?_⟩ (by show l.length-(k+1)<l.length-k;omega)
     rw[W1c,hx] at hy
     rcases W2j.1 hy with hy | hy
     . exact hn y hy
     . simp at hy;rw[hy];exact h1
 . refine Rt rfl (.one (.rf rfl) rfl rfl) ⟨-1,rfl,⟨λh=>absurd h (by decide),λ⟨x,hx,h1⟩=>?_⟩⟩
   rw[W0b (by omega)] at hn
   exact absurd h1 (hn x hx)
theorem Xee{f:FuncId}{l:List Rat}{φ:Rat->Prop}(hf:Ydj f l φ)(hl:l.length<=1099511627776): C0 359 [.d (dqs l),.d (fnD f)] (·=.b (dc (∃x∈l,φ x))):=by
 refine En Tryz.func359 λ_ _ _=>?_
 refine Ca rfl (Xnk hf hl) λv hv=>?_
 obtain⟨i,rfl,hi⟩:=hv
 exact R1 rfl (.bp (Xal.trans hi))
theorem Xtm{x:Rat}{p:Nat}(hx:Qs p x)(hp:p<=8796093022208): C0 375 [.d (dq x)] (·=.b (dc (x≠0))):=by
 refine En Tryz.func375 λ_ _ _=>?_
 refine Ce rfl (Xfn hx hp) ?_
 refine R1 rfl (.bp ?_)
 have h0:=@W5o x
 rw[Xal]
 rcases Xat x.num 0 with ⟨g1,g2⟩ | ⟨g1,g2⟩ | ⟨g1,g2⟩<;>rw[g2,ne_eq,ne_eq,<-h0]<;>omega
def Ps(p:Nat)(l:List Rat): Prop:=∀x∈l,Qs p x
theorem Xa4{p:Prop}: (!dc p)=dc (¬p):=by rw[W3p,W1t,W2m,ne_eq,Xal,Xal]
theorem Xeg{l:List Rat}{p:Nat}(hx:Ps p l)(hp:p<=8796093022208)(hl:l.length<=1099511627776): C0 327 [.d (dqs l)] (·=.b (dc (∀x∈l,x=0))):=by
 refine En Tryz.func327 λ_ _ _=>?_
 refine Ce rfl (Xee (φ:=(·≠0)) (λx hx'=>Xtm (hx x hx') hp) hl) ?_
 exact R1 rfl (.bp (by rw[Xa4,Xal];simp))
theorem Xob{x:Rat}{p:Nat}(hx:Qs p x)(hp:p<=8796093022208): C0 360 [.d (dq x)] (·=.b (dc False)):=by
 refine En Tryz.func360 λ_ _ _=>?_
 refine Ce rfl (Xma hx hp) ?_
 exact R1 rfl (.bp (by simp[Xal]))
theorem Xb4{l:List Rat}{p n:Nat}(hx:Ps p l)(hp:p<=8796093022208)(hl:l.length<=1099511627776)(hn:l.length=n): C0 284 [.d (dqs l),.d (.int .i64 n)] (·=.b true):=by
 refine En Tryz.func284 λ_ _ _=>?_
 refine Yes rfl (by simp only[lq,hn]) ?_
 refine Ce rfl (Xee (φ:=λ_=>False) (λx hx'=>Xob (hx x hx') hp) hl) ?_
 exact R1 rfl (by exact(show (!dc (∃x∈l,False))=true by rw[Xa4,Xal];simp) ▸ .rf rfl)
theorem Xbp{k:Nat}(hk:k<=40): arB .shl .i64 1 k (2^k:Nat):=by
 have h1:2^k<=2^40:=W0m (by decide) hk
 obtain⟨m,hm⟩:∃m,m=2^k:=⟨_,rfl⟩
 rw[<-hm] at h1 |-
 refine⟨by omega,?_⟩
 rw[W7j,W2b (by show k<=64;omega),show (1:Int)*2^k=(m:Int) by rw[hm,W7t];simp]
 exact wI (by omega)
def Pt(p:Nat)(t:List (List Rat)): Prop:=∀i r,t[i]?=some r->r.length=2^i/\Ps p r
theorem Yeq{k m:Nat}(h:k<=m): 2^k<=2^m:=W0m (by decide) h
theorem Xd4{t:List (List Rat)}{p:Nat}(ht:Pt p t)(hp:p<=8796093022208)(hl:t.length<=40): C0 283 [.d (dts t)] (·=.b true):=by
 refine En Tryz.func283 λ_ _ _=>?_
 refine Lo (λk:Nat=>[(0,.d (dts t)),(5,.d (dts t)),(6,.d (.int .i64 t.length)),(7,.d (.int .i64 k))]) (λ_=>[]) (λk=>k<=t.length) (λk=>t.length-k) 0 [] rfl (by omega) (λk hk=>?_) (by exact⟨by simp only[lt'];rfl,rfl,rfl,rfl,rfl⟩)
 refine By rfl (λh=>?_) λh=>?_
 . obtain⟨r,hr⟩:∃r,t[k]?=some r:=⟨_,W0a (by omega)⟩
   obtain⟨h1,h2⟩:=ht k r hr
   have:=Yeq (show k<=40 by omega)
   refine Ix k rfl (mp hr) ?_
   refine Ar (2^k:Nat) rfl ?_ (Xbp (by omega))
   refine Ce rfl (Xb4 h2 hp (by omega) h1) ?_
   refine No rfl (by simp) ?_
   refine Ar (k+1:Nat) rfl ?_
   exact Bk (k+1) [] rfl (show k+1<=t.length by omega) (by show t.length-(k+1)<t.length-k;omega)
 . exact R0
theorem Xji{t:List (List Rat)}{l:List Rat}{p q:Nat}(ht:Pt p t)(hp:p<=8796093022208)(hx:Ps q l)(hq:q<=8796093022208)(hl:t.length<=39)(hn:l.length=2^t.length): C0 199 [.d (dts t),.d (dqs l)] (·=.b true):=by
 have:=Yeq (show t.length<=39 by omega)
 refine En Tryz.func199 λ_ _ _=>?_
 refine Ce rfl (Xd4 ht hp (by omega)) ?_
 refine Yes rfl rfl ?_
 refine Ar (2^t.length:Nat) rfl ?_ (by simp only[lt'];exact Xbp (by omega))
 refine Ce rfl (Xb4 hx hq (by omega) hn) ?_
 exact R0
theorem Xr5{t:List (List Rat)}{l m:List Rat}{p q r:Nat}(ht:Pt p t)(hp:p<=8796093022208)(hx:Ps q l)(hq:q<=8796093022208)(hy:Ps r m)(hr:r<=8796093022208)(hl:t.length<=39)(hn:l.length=2^t.length)(hm:m.length=2^t.length): C0 237 [.d (dts t),.d (dqs l),.d (dqs m)] (·=.b true):=by
 have:=Yeq (show t.length<=39 by omega)
 refine En Tryz.func237 λ_ _ _=>?_
 refine Ce rfl (Xji ht hp hx hq hl hn) ?_
 refine Yes rfl rfl ?_
 refine Ar (2^t.length:Nat) rfl ?_ (by simp only[lt'];exact Xbp (by omega))
 refine Ce rfl (Xb4 hy hr (by omega) hm) ?_
 exact R0
theorem Xj7{n:Nat}(hn:n<=1073741824): CA0 328 [.d (.int .i64 n)] 4 ((List.replicate n (0:Rat)).map dq):=by
 obtain⟨xs,hxs⟩:∃xs,xs=(List.replicate n (0:Rat)).map dq:=⟨_,rfl⟩
 have hlen:xs.length=n:=by rw[hxs];simp
 rw[<-hxs]
 refine EnW Tryz.func328 λ_ _ _ _=>?_
 refine Mk n rfl (by omega) ?_
 refine Lo (λk:Nat=>[(3,.own 6 4 0 n),(8,.d (.int .i64 n)),(9,.d (.int .i64 k))]) (λk=>[(6,.arr 4 (fl xs rz k))]) (λk=>k<=n) (λk=>n-k) 0 [] rfl (by omega) (λk hk=>?_) (by exact⟨rfl,by rw[<-Xin hlen];rfl,rfl,rfl,rfl⟩)
 refine By rfl (λh=>?_) λh=>?_
 . refine Ce rfl (Xa3 (z:=0) (by decide)) ?_
   refine Eo k rfl (by omega) ?_
   refine Sto rfl (by rw[Xju (by omega)];omega) (Xmv (u:=dq 0) (by rw[hxs,W0t,W5g,if_pos (by omega)];rfl)) ?_
   refine Ar (k+1:Nat) rfl ?_
   exact Bk (k+1) [] rfl (show k+1<=n by omega) (by show n-(k+1)<n-k;omega)
 . exact Rw [(6,1000000)] [(1000000,.arr 4 xs)] rfl (.one (.rf rfl) rfl rfl) ⟨_,rfl,by rw[hlen];rfl,rfl⟩ (by rw[Xmw (by omega)];rfl)
end
section
theorem Xns{xs ys:List Rat}{p q:Nat}(hl:xs.length=ys.length)(hn:xs.length<=1073741824)(hx:Ps p xs)(hy:Ps q ys)(hp:p+q+1<=8796093022208): CA0 313 [.d (dqs xs),.d (dqs ys)] 4 ((List.zipWith (·+·) xs ys).map dq):=by
 obtain⟨zs,hzs⟩:∃zs,zs=(List.zipWith (·+·) xs ys).map dq:=⟨_,rfl⟩
 have hlen:zs.length=xs.length:=by rw[hzs];simp;omega
 rw[<-hzs]
 refine EnW Tryz.func313 λ_ _ _ _=>?_
 refine Mk xs.length rfl (by simp only[lq];omega) ?_ (by simp only[lq])
 refine Lo (λk:Nat=>[(0,.d (dqs xs)),(1,.d (dqs ys)),(5,.own 9 4 0 xs.length),(11,.d (.int .i64 xs.length)),(12,.d (.int .i64 k))]) (λk=>[(9,.arr 4 (fl zs rz k))]) (λk=>k<=xs.length) (λk=>xs.length-k) 0 [] rfl (by omega) (λk hk=>?_) (by exact⟨rfl,by rw[<-Xin hlen];rfl,rfl,rfl,rfl⟩)
 refine By rfl (λh=>?_) λh=>?_
 . obtain⟨x,hx'⟩:=qat (l:=xs) (k:=k) (by omega)
   obtain⟨y,hy'⟩:=qat (l:=ys) (k:=k) (by omega)
   refine Dw rfl ?_
   refine Ix k rfl (mp hx') ?_
   refine Ix k rfl (mp hy') ?_
   refine Ce rfl (Xdq (hx x (W0h hx')) (hy y (W0h hy')) hp) ?_
   refine Eo k rfl (by omega) ?_
   refine Sto rfl (by rw[Xju (by omega)];omega) (Xmv (u:=dq (x+y)) (by rw[hzs,W0t,W6m,hx',hy'];rfl)) ?_
   refine Ar (k+1:Nat) rfl ?_
   exact Bk (k+1) [] rfl (show k+1<=xs.length by omega) (by show xs.length-(k+1)<xs.length-k;omega)
 . exact Rw [(9,1000000)] [(1000000,.arr 4 zs)] rfl (.one (.rf rfl) rfl rfl) ⟨_,rfl,by rw[hlen];rfl,rfl⟩ (by rw[Xmw (by omega)];rfl)
theorem Ydx{xs:List Rat}{p:Nat}(hn:xs.length<=1073741824)(hx:Ps p xs)(hp:p<=8796093022208): CA0 200 [.d (dqs xs)] 4 ((xs.map (- ·)).map dq):=by
 obtain⟨zs,hzs⟩:∃zs,zs=(xs.map (- ·)).map dq:=⟨_,rfl⟩
 have hlen:zs.length=xs.length:=by rw[hzs];simp
 rw[<-hzs]
 refine EnW Tryz.func200 λ_ _ _ _=>?_
 refine Mk xs.length rfl (by simp only[lq];omega) ?_ (by simp only[lq])
 refine Lo (λk:Nat=>[(3,.own 8 4 0 xs.length),(9,.d (dqs xs)),(10,.d (.int .i64 xs.length)),(11,.d (.int .i64 k))]) (λk=>[(8,.arr 4 (fl zs rz k))]) (λk=>k<=xs.length) (λk=>xs.length-k) 0 [] rfl (by omega) (λk hk=>?_) (by exact⟨by simp only[lq];rfl,by rw[<-Xin hlen];rfl,rfl,rfl,rfl⟩)
 refine By rfl (λh=>?_) λh=>?_
 . obtain⟨x,hx'⟩:=qat (l:=xs) (k:=k) (by omega)
   refine Ix k rfl (mp hx') ?_
   refine Ce rfl (Xks (hx x (W0h hx')) hp) ?_
   refine Eo k rfl (by omega) ?_
   refine Sto rfl (by rw[Xju (by omega)];omega) (Xmv (u:=dq (-x)) (by rw[hzs,W0t,W0t,hx'];rfl)) ?_
   refine Ar (k+1:Nat) rfl ?_
   exact Bk (k+1) [] rfl (show k+1<=xs.length by omega) (by show xs.length-(k+1)<xs.length-k;omega)
 . exact Rw [(8,1000000)] [(1000000,.arr 4 zs)] rfl (.one (.rf rfl) rfl rfl) ⟨_,rfl,by rw[hlen];rfl,rfl⟩ (by rw[Xmw (by omega)];rfl)
theorem Yly{m h:Nat}(e:m=2*h)(hh:h<=1073741824): arB .quo .i64 m 2 h:=show _/\_ from⟨by decide,by rw[show Int.tdiv (m:Int) 2=((m/2:Nat):Int) from rfl,show m/2=h by omega];exact wI (by omega)⟩
theorem Xij{l m:List Rat}(h:l.length=m.length)(hl:l.length<=1073741824): C0 330 [.d (dqs (l++m))] (·=.tup (.pr (.d (dqs l)) (.d (dqs m)))):=by
 have e:((l++m).map dq).length=2*l.length:=by rw[lq,W0d];omega
 refine En Tryz.func330 λ_ _ _=>?_
 refine Dw rfl ?_
 refine Ar l.length rfl ?_ (Yly e hl)
 refine Tk l.length (l.map dq) rfl rfl (by omega) (by rw[<-W3e,W7h]) ?_
 refine Ar l.length rfl ?_ (Yly e hl)
 refine Dp l.length (m.map dq) rfl rfl (by omega) (by rw[<-List.map_drop,W8f]) ?_
 exact R0t
theorem Xpv{t:List (List Rat)}{r:List Rat}(hl:t.length<=1073741824): C0 329 [.d (dts (t++[r]))] (·=.tup (.pr (.d (dts t)) (.d (dqs r)))):=by
 have e:((t++[r]).map dqs).length=t.length+1:=by rw[lt',W0d];rfl
 refine En Tryz.func329 λ_ _ _=>?_
 refine Dw rfl ?_
 refine Ar t.length rfl ?_ (wr (by omega) (by simp only[inK];omega))
 refine Tk t.length (t.map dqs) rfl rfl (by omega) (by rw[<-W3e,W7h]) ?_
 refine Ar t.length rfl ?_ (wr (by omega) (by simp only[inK];omega))
 refine Ix t.length rfl (u:=dqs r) (mp (by simp)) ?_
 exact R0t
end
section
abbrev de{k:Nat}(a:El k): D:=dqs (toL k a)
abbrev dt{k:Nat}(t:Tw k): D:=dts (toT k t)
theorem _root_.Go.Proofs.YtclgppjdhndgiaaGreatDoor.Sz.ps{p:Nat}{l:List Rat}(h:Sz p l): Ps p l:=λ_ hx=>h.qs hx
theorem Xs4{k:Nat}{t:Tw k}{a b:El k}(h:(∀x∈toL k a,x=0)\/(∀x∈toL k b,x=0)): toL k (mul k t a b)=List.replicate (2^k) 0:=by
 have L:=Xbc k t
 rcases h with h | h
 . rw[(Xar k a).2 h,L.zm,Xbs]
 . rw[(Xar k b).2 h,L.mz,Xbs]
theorem p16{k:Nat}(h:k<=16): 2^k<=65536:=Yeq h
def Yqo(k:Nat)(xs:List D)(v:AV)(H':Hpl): Prop:=(k=0/\v=.lit 4 xs/\H'=[])\/(v=.own 1000000 4 0 xs.length/\H'=[(1000000,.arr 4 xs)])
theorem Xpl: ∀ {k:Nat} {r s s':Nat} {t:Tw k} {a b:El k},TS r k t->Sz s (toL k a)->Sz s' (toL k b)->k<=16->s+s'+cB r k<=4398046511104->CW0 238 [.d (dt t),.d (de a),.d (de b)] [] (Yqo k ((toL k (mul k t a b)).map dq)):=by
 intro k
 induction k with
 | zero =>
  intro r s s' t a b hT ha hb hk hs
  refine EnW Tryz.func238 λ_ _ _ _=>?_
  refine Yes rfl rfl ?_
  refine Dw rfl ?_
  refine Ix 0 rfl (u:=dq a) rfl ?_
  refine Ix 0 rfl (u:=dq b) rfl ?_
  refine Ce rfl (Xh2 (ha.qs (W0g.2 rfl)) (hb.qs (W0g.2 rfl)) (by omega)) ?_
  exact Rw [] [] rfl (.one (.rf rfl) rfl rfl) (.inl ⟨rfl,rfl,rfl⟩)
 | succ k ih =>
  intro r s s' t a b hT ha hb hk hs
  have hp:=p16 hk
  have hp1:2^(k+1)=2*2^k:=by rw[W0q];omega
  have hcB:cB r (k+1)=2*cB r k+r+1:=rfl
  have hax:Sz s (toL k a.1):=Sz.left ha
  have hay:Sz s (toL k a.2):=Sz.right ha
  have hbx:Sz s' (toL k b.1):=Sz.left hb
  have hby:Sz s' (toL k b.2):=Sz.right hb
  have hlen:=Xab k
  have ihd:∀ {p q:Nat} {x y:El k},Sz p (toL k x)->Sz q (toL k y)->p+q+cB r k<=4398046511104->C0 238 [.d (dt t.1),.d (de x),.d (de y)] (·=.d (de (mul k t.1 x y))):=λhx hy h =>
   CW.data (ih hT.1 hx hy (by omega) h) rfl λv H' hv=>by
    rcases hv with ⟨_,rfl,rfl⟩ | ⟨rfl,rfl⟩
    . exact⟨_,.one (.lit rfl) rfl rfl,rfl⟩
    . exact⟨_,.one (.own rfl (by simp) (by rw[W1a,W1x])) rfl rfl,rfl⟩
  refine EnW Tryz.func238 λ_ _ _ _=>?_
  refine No rfl (by simp only[lt',Xaa];omega) ?_
  refine Cu (some 3) (λ(b':Bool)=>[(0,.d (dt t)),(1,.d (de a)),(2,.d (de b)),(26,.b b')]) (λ_=>[]) (λb'=>b'=true->(∀x∈toL (k+1) a,x=0)\/(∀x∈toL (k+1) b,x=0)) rfl ?_ λb' hb'=>?_
  . refine Ce rfl (Xeg ha.ps (by omega) (by rw[Xab];omega)) ?_
    refine By rfl (λh=>?_) λh=>?_
    . exact Jn true [] rfl λ_=>.inl h
    . refine Ce rfl (Xeg hb.ps (by omega) (by rw[Xab];omega)) ?_
      exact Jn (dc _) [] rfl λe=>.inr (Xal.1 e)
  refine By rfl (λh=>?_) λh=>?_
  . have hz:=Xs4 (t:=t) (hb' h)
    refine Cr (sz:=4) (xs:=(List.replicate (2^(k+1)) (0:Rat)).map dq) rfl (by
     simp only[lq,Xab]
     exact Xj7 (by omega)) ?_
    exact Rw [(35,1000000)] [(1000000,.arr 4 _)] rfl (.one (.rf rfl) rfl rfl) (.inr ⟨by rw[hz];rfl,by rw[hz]⟩)
  refine Ce rfl (Xpv (t:=toT k t.1) (r:=toL k t.2) (by rw[Xaa];omega)) ?_
  refine Ce rfl (Xij (l:=toL k a.1) (m:=toL k a.2) (by rw[hlen,hlen]) (by rw[hlen];omega)) ?_
  refine Ce rfl (Xij (l:=toL k b.1) (m:=toL k b.2) (by rw[hlen,hlen]) (by rw[hlen];omega)) ?_
  refine Ce rfl (ihd hax hbx (by omega)) ?_
  refine Ce rfl (ihd hay hby (by omega)) ?_
  refine Ce rfl (ihd (hay.mul hT.1 hby) hT.2 (by omega)) ?_
  refine Cr rfl (Xns (by rw[hlen,hlen]) (by rw[hlen];omega) (hax.mul hT.1 hbx).ps ((hay.mul hT.1 hby).mul hT.1 hT.2).ps (by omega)) ?_
  refine Ce rfl (ihd hax hby (by omega)) ?_
  refine Ce rfl (ihd hay hbx (by omega)) ?_
  refine Ce rfl (CA.data (Xns (by rw[hlen,hlen]) (by rw[hlen];omega) (hax.mul hT.1 hby).ps (hay.mul hT.1 hbx).ps (by omega))) ?_
  refine ApO ((toL (k+1) (mul (k+1) t a b)).map dq) rfl rfl rfl (by
   rw[<-W1p,<-Xas,<-Xas];rfl) (by rw[lq,Xab];omega) ?_
  exact Rw [(73,1000000)] [(1000000,.arr 4 _)] rfl (.one (.rf rfl) rfl rfl) (.inr ⟨rfl,rfl⟩)
end
section
theorem Xf6{k:Nat}{r s s':Nat}{t:Tw k}{a b:Tow.El k}(hT:TS r k t)(ha:Sz s (toL k a))(hb:Sz s' (toL k b))(hk:k<=16)(hs:s+s'+cB r k<=4398046511104): C0 238 [.d (dt t),.d (de a),.d (de b)] (·=.d (de (mul k t a b))) :=
 CW.data (Xpl hT ha hb hk hs) rfl λv H' hv=>by
  rcases hv with ⟨_,rfl,rfl⟩ | ⟨rfl,rfl⟩
  . exact⟨_,.one (.lit rfl) rfl rfl,rfl⟩
  . exact⟨_,.one (.own rfl (by simp) (by rw[W1a,W1x])) rfl rfl,rfl⟩
theorem Xnt{k p q:Nat}{a b:Tow.El k}(hk:k<=16)(ha:Ps p (toL k a))(hb:Ps q (toL k b))(hp:p+q+1<=8796093022208): C0 313 [.d (de a),.d (de b)] (·=.d (de (Tow.add k a b))):=by
 have:=CA.data (Xns (by rw[Xab,Xab]) (by rw[Xab];have:=p16 hk;omega) ha hb hp)
 rwa[<-Xas] at this
theorem Xhq{k p:Nat}{a:Tow.El k}(hk:k<=16)(ha:Ps p (toL k a))(hp:p<=8796093022208): C0 200 [.d (de a)] (·=.d (de (Tow.neg k a))):=by
 have:=CA.data (Ydx (by rw[Xab];have:=p16 hk;omega) ha hp)
 rwa[<-Xbo] at this
theorem Xpw{k:Nat}{t:Tw (k+1)}(hk:k<=16): C0 329 [.d (dt t)] (·=.tup (.pr (.d (dt t.1)) (.d (de t.2)))):=Xpv (by rw[Xaa];omega)
theorem Xmr{k:Nat}{a:Tow.El (k+1)}(hk:k<=16): C0 330 [.d (de a)] (·=.tup (.pr (.d (de a.1)) (.d (de a.2)))):=Xij (by rw[Xab,Xab]) (by rw[Xab];have:=p16 hk;omega)
theorem Xgu{k p:Nat}{a:Tow.El k}(h:Sz p (toL k a)): Sz p (toL k (Tow.neg k a)):=by rw[Xbo];exact h.neg
theorem Xpk{k r s:Nat}{t:Tw (k+1)}{a:Tow.El (k+1)}(hT:TS r (k+1) t)(ha:Sz s (toL (k+1) a))(hk:k+1<=16)(hs:nB r k s<=4398046511104): C0 434 [.d (dt t),.d (de a)] (·=.d (de (Tow.norm k t a))):=by
 have hn:nB r k s=4*s+3*cB r k+r+1:=rfl
 have hx:Sz s (toL k a.1):=Sz.left ha
 have hy:Sz s (toL k a.2):=Sz.right ha
 refine En Tryz.func434 λ_ _ _=>?_
 refine Ce rfl (Xpw (by omega)) ?_
 refine Ce rfl (Xmr (by omega)) ?_
 refine Ce rfl (Xf6 hT.1 hx hx (by omega) (by omega)) ?_
 refine Ce rfl (Xf6 hT.1 hy hy (by omega) (by omega)) ?_
 refine Ce rfl (Xf6 hT.1 (hy.mul hT.1 hy) hT.2 (by omega) (by omega)) ?_
 refine Ce rfl (Xhq (by omega) ((hy.mul hT.1 hy).mul hT.1 hT.2).ps (by omega)) ?_
 refine Ce rfl (Xnt (by omega) (hx.mul hT.1 hx).ps (Xgu ((hy.mul hT.1 hy).mul hT.1 hT.2)).ps (by omega)) ?_
 exact R0
theorem Xv8{r k p q:Nat}(h:iB r (k+1) p<=q): nB r k p<=q/\p+iB r k (nB r k p)+cB r k<=q:=by
 have h1:=Xz0 r k (nB r k p)
 have h2:iB r (k+1) p=2*(p+iB r k (nB r k p)+cB r k):=rfl
 omega
theorem Ynj(x:Rat): Tow.inv 0 () x=if x=0 then none else some (1/x:Rat):=rfl
theorem Xq5(y:Rat): (∃x,Tow.inv 0 () y=some x)↔y≠0:=by
 rw[Ynj]
 by_cases h:y=0
 . rw[if_pos h];exact⟨(λ⟨x,h⟩=>nomatch h),λh2=>absurd h h2⟩
 . rw[if_neg h];exact⟨λ_=>h,λ_=>⟨_,rfl⟩⟩
theorem Yms{y:Rat}{s:Nat}(hq:Qs s y)(hs:s+1<=8796093022208): C0 433 [.d (dts []),.d (dqs [y])] λv=>∃w:D,v=.tup (.pr (.d w) (.b (dc (y≠0))))/\(y≠0->w=dqs [1/y]):=by
 have h1:Qs 1 (1:Rat):=Qs.int (z:=1) (Zs.one (W0c 1)) (W0c 1)
 refine En Tryz.func433 λ_ _ _=>?_
 refine Yes rfl rfl ?_
 refine Dw rfl ?_
 refine Ce rfl (Xa3 (z:=1) (by decide)) ?_
 refine Ix 0 rfl (u:=dq y) rfl ?_
 by_cases h0:y=0
 . refine Ce rfl (Xzc h0) ?_
   exact Rt rfl (.tup (.cons (.lit rfl) (.one (by exact .bp ⟨λh=>absurd (Xal.1 h) (by decide),λh=>absurd h0 h⟩) (λ_ _ e=>by cases e) (λ_ _ e=>by cases e)))) ⟨_,rfl,λh=>absurd h0 h⟩
 . refine Ce rfl (Yek h1 hq (by omega) h0) ?_
   exact Rt rfl (.tup (.cons (.lit rfl) (.one (by exact .bp ⟨λ_=>h0,λ_=>Xal.2 rfl⟩) (λ_ _ e=>by cases e) (λ_ _ e=>by cases e)))) ⟨_,rfl,λ_=>rfl⟩
theorem Xnr: ∀ {k:Nat} {r s:Nat} {t:Tw k} {a:Tow.El k},TS r k t->Sz s (toL k a)->k<=16->iB r k s<=4398046511104->C0 433 [.d (dt t),.d (de a)] λv=>∃w:D,v=.tup (.pr (.d w) (.b (dc (∃x,Tow.inv k t a=some x))))/\∀x,Tow.inv k t a=some x->w=de x:=by
 intro k
 induction k with
 | zero =>
  intro r s t a hT ha hk hs
  have hb:iB r 0 s=s+1:=rfl
  have key:∀y:Rat,Qs s y->C0 433 [.d (dts []),.d (dqs [y])] λv=>∃w:D,v=.tup (.pr (.d w) (.b (dc (∃x,Tow.inv 0 () y=some x))))/\∀x:Rat,Tow.inv 0 () y=some x->w=dqs [x]:=λy hq=>by
   refine C.mono (Yms hq (by omega)) λv ⟨w,e,h⟩=>⟨w,by rw[e];congr 4;exact propext (Xq5 y).symm,λx hx=>?_⟩
   have h0:=(Xq5 y).1 ⟨x,hx⟩
   rw[h h0]
   rw[Ynj,if_neg h0] at hx
   injection hx with hx
   rw[<-hx]
  exact key a (ha.qs (W0g.2 rfl))
 | succ k ih =>
  intro r s t a hT ha hk hs
  have hx:Sz s (toL k a.1):=Sz.left ha
  have hy:Sz s (toL k a.2):=Sz.right ha
  obtain⟨hi1,hi2⟩:=Xv8 hs
  have hN:=ha.norm hT
  have hge:=Xz0 r k (nB r k s)
  have hinv:Tow.inv (k+1) t a=match Tow.inv k t.1 (Tow.norm k t a) with | none=>none | some x=>some (mul k t.1 a.1 x,Tow.neg k (mul k t.1 a.2 x)):=rfl
  refine En Tryz.func433 λ_ _ _=>?_
  refine No rfl (by simp only[lt',Xaa];omega) ?_
  refine Ce rfl (Xpw (by omega)) ?_
  refine Ce rfl (Xpk hT ha hk (by omega)) ?_
  refine Ca rfl (ih hT.1 hN (by omega) (by omega)) λv hv=>?_
  obtain⟨w,rfl,hw⟩:=hv
  refine By rfl (λh=>?_) λh=>?_
  . have h:¬ ∃x,Tow.inv k t.1 (Tow.norm k t a)=some x:=by simpa [Xa4,Xal] using h
    have e0:Tow.inv (k+1) t a=none:=by
     rw[hinv]
     cases hh:Tow.inv k t.1 (Tow.norm k t a) with
     | none=>rfl
     | some x=>exact absurd ⟨x,hh⟩ h
    exact Rt rfl (.tup (.cons (.nil (sz:=4) rfl) (.one (by exact .bp (c:=false) (p:=∃x,Tow.inv (k+1) t a=some x) ⟨nofun,λ⟨x,h⟩=>by rw[e0] at h;cases h⟩) (λ_ _ e=>by cases e) (λ_ _ e=>by cases e)))) ⟨_,rfl,λx h=>by rw[e0] at h;cases h⟩
  . obtain⟨x,hx'⟩:∃x,Tow.inv k t.1 (Tow.norm k t a)=some x:=by simpa [Xa4,Xal] using h
    obtain rfl:=hw x hx'
    rw[hx'] at hinv
    have hzx:=hN.inv hT.1 hx'
    have hpk:=p16 (show k<=16 by omega)
    refine Ce rfl (Xmr (by omega)) ?_
    refine Cw [] rfl (Xpl hT.1 hx hzx (by omega) (by omega)) λv H' _ hv=>?_
    have fin:∀ {zs:List D},zs=(toL k (mul k t.1 a.1 x)).map dq++(toL k (Tow.neg k (mul k t.1 a.2 x))).map dq->zs=(toL (k+1) (mul k t.1 a.1 x,Tow.neg k (mul k t.1 a.2 x))).map dq:=λh=>by rw[h,<-W1p];rfl
    have hb:(true=true↔∃x,Tow.inv (k+1) t a=some x):=⟨λ_=>⟨_,hinv⟩,λ_=>rfl⟩
    rcases hv with ⟨hk0,rfl,rfl⟩ | ⟨rfl,rfl⟩
    . refine Ce rfl (Xf6 hT.1 hy hzx (by omega) (by omega)) ?_
      refine Ce rfl (Xhq (by omega) (hy.mul hT.1 hzx).ps (by omega)) ?_
      refine ApL _ rfl rfl (by rw[lq,Xab];exact W0u k) (by rw[W0d,lq,lq,Xab,Xab];omega) ?_
      exact Rt rfl (.tup (.cons (.own rfl (by rw[W1k];exact W0c _) rfl) (.one (by exact .bp (c:=true) hb) (λ_ _ e=>by cases e) (λ_ _ e=>by cases e)))) ⟨_,rfl,λy h=>by rw[hinv] at h;injection h with h;rw[<-h,W1a,W1x,fin rfl];rfl⟩
    . refine Ce rfl (Xf6 hT.1 hy hzx (by omega) (by omega)) ?_
      refine Ce rfl (Xhq (by omega) (hy.mul hT.1 hzx).ps (by omega)) ?_
      refine ApO _ rfl rfl rfl rfl (by rw[W0d,lq,lq,Xab,Xab];omega) ?_
      exact Rt rfl (.tup (.cons (.own rfl (by rw[W1k];exact W0c _) rfl) (.one (by exact .bp (c:=true) hb) (λ_ _ e=>by cases e) (λ_ _ e=>by cases e)))) ⟨_,rfl,λy h=>by rw[hinv] at h;injection h with h;rw[<-h,W1a,W1x,fin rfl];rfl⟩
end
section
theorem Xkg: ∀ {k:Nat} {t:Tw k} {r:Nat},TS r k t->∀ {i:Nat} {l:List Rat},(toT k t)[i]?=some l->l.length=2^i/\Sz r l
 | 0,_,_,_,_,_,h=>by simp[toT] at h
 | k+1,t,r,hT,i,l,h=>by
  by_cases hi:i<k
  . rw[toT,W1b (by rw[Xaa];exact hi)] at h
    exact Xkg hT.1 h
  . have:=(W1d.1 h).1
    rw[Xaa] at this
    have hik:i=k:=by omega
    subst hik
    rw[toT,W0o (by rw[Xaa];exact W0c _),Xaa,W2v] at h
    simp at h
    rw[<-h]
    exact⟨Xab _ _,hT.2⟩
theorem TS.pt{k r:Nat}{t:Tw k}(h:TS r k t): Pt r (toT k t):=λi l hl=>⟨(Xkg h hl).1,(Xkg h hl).2.ps⟩
theorem Yha{k:Nat}(t:Tw k)(a:Tow.El k): (toL k a).length=2^(toT k t).length:=by rw[Xab,Xaa]
section
variable{k r s s':Nat}{t:Tw k}{a b:Tow.El k}
theorem Xb3(hT:TS r k t)(ha:Sz s (toL k a))(hk:k<=16)(hs:s<=4398046511104)(hr:r<=4398046511104): C0 199 [.d (dt t),.d (de a)] (·=.b true):=Xji (TS.pt hT) (by omega) ha.ps (by omega) (by rw[Xaa];omega) (Yha t a)
theorem Xf7(hT:TS r k t)(ha:Sz s (toL k a))(hb:Sz s' (toL k b))(hk:k<=16)(hs:s+s'<=4398046511104)(hr:r<=4398046511104): C0 237 [.d (dt t),.d (de a),.d (de b)] (·=.b true):=Xr5 (TS.pt hT) (by omega) ha.ps (by omega) hb.ps (by omega) (by rw[Xaa];omega) (Yha t a) (Yha t b)
theorem Xhr(hT:TS r k t)(ha:Sz s (toL k a))(hb:Sz s' (toL k b))(hk:k<=16)(hs:s+s'<=4398046511104)(hr:r<=4398046511104): C0 222 [.d (dt t),.d (de a),.d (de b)] (·=.d (de (Tow.add k a b))):=by
 refine En Tryz.func222 λ_ _ _=>?_
 refine Ce rfl (Xf7 hT ha hb hk hs hr) ?_
 refine No rfl (by simp) ?_
 refine Ce rfl (Xnt hk ha.ps hb.ps (by omega)) ?_
 exact R0
theorem Xtn(hT:TS r k t)(ha:Sz s (toL k a))(hk:k<=16)(hs:s<=4398046511104)(hr:r<=4398046511104): C0 110 [.d (dt t),.d (de a)] (·=.d (de (Tow.neg k a))):=by
 refine En Tryz.func110 λ_ _ _=>?_
 refine Ce rfl (Xb3 hT ha hk hs hr) ?_
 refine No rfl (by simp) ?_
 refine Ce rfl (Xhq hk ha.ps (by omega)) ?_
 exact R0
theorem Xga(hT:TS r k t)(ha:Sz s (toL k a))(hb:Sz s' (toL k b))(hk:k<=16)(hs:s+s'<=4398046511104)(hr:r<=4398046511104): C0 221 [.d (dt t),.d (de a),.d (de b)] (·=.d (de (Tow.add k a (Tow.neg k b)))):=by
 refine En Tryz.func221 λ_ _ _=>?_
 refine Ce rfl (Xf7 hT ha hb hk hs hr) ?_
 refine No rfl (by simp) ?_
 refine Ce rfl (Xhq hk hb.ps (by omega)) ?_
 refine Ce rfl (Xnt hk ha.ps (Xgu hb).ps (by omega)) ?_
 exact R0
theorem Xdn(hT:TS r k t)(ha:Sz s (toL k a))(hb:Sz s' (toL k b))(hk:k<=16)(hs:s+s'+cB r k<=4398046511104)(hr:r<=4398046511104): C0 144 [.d (dt t),.d (de a),.d (de b)] (·=.d (de (mul k t a b))):=by
 refine En Tryz.func144 λ_ _ _=>?_
 refine Ce rfl (Xf7 hT ha hb hk (by omega) hr) ?_
 refine No rfl (by simp) ?_
 refine Ce rfl (Xf6 hT ha hb hk hs) ?_
 exact R0
theorem Xto(hT:TS r k t)(ha:Sz s (toL k a))(hk:k<=16)(hs:iB r k s<=4398046511104)(hr:r<=4398046511104){x:Tow.El k}(hx:Tow.inv k t a=some x): C0 412 [.d (dt t),.d (de a)] (·=.tup (.pr (.d (de x)) (.d (.int .i64 0)))):=by
 have hge:=Xz0 r k s
 refine En Tryz.func412 λ_ _ _=>?_
 refine Ce rfl (Xb3 hT ha hk (by omega) hr) ?_
 refine No rfl (by simp) ?_
 refine Ca rfl (Xnr hT ha hk hs) λv hv=>?_
 obtain⟨w,rfl,hw⟩:=hv
 obtain rfl:=hw x hx
 refine No rfl (by simp[Xa4,Xal,hx]) ?_
 exact R0t
theorem Xyr{i:Nat}(hT:TS r k t)(hk:k<=16)(hr:r<=4398046511104)(hi:i<k): C0 312 [.d (dt t),.d (.int .i64 i)] (·=.d (de (Xf3 k i))):=by
 have hp:=p16 hk
 have hpi:2^i<2^k:=W3u (by decide) hi
 refine En Tryz.func312 λ_ _ _=>?_
 refine Ce rfl (Xd4 (TS.pt hT) (by omega) (by rw[Xaa];omega)) ?_
 refine No rfl (by simp) ?_
 refine No rfl (by omega) ?_
 refine No rfl (by simp only[lt',Xaa];omega) ?_
 refine Ar (2^k:Nat) rfl ?_ (by simp only[lt',Xaa];exact Xbp (by omega))
 refine Cr rfl (Xj7 (n:=2^k) (by omega)) ?_
 refine Dw rfl ?_
 refine Ar (2^i:Nat) rfl ?_ (Xbp (by omega))
 refine Ce rfl (Xa3 (z:=1) (by decide)) ?_
 refine Eo (2^i) rfl (by simp only[lq,W1v];omega) ?_
 refine Sto rfl (by simp only[lq,W1v];omega) (ms (f:=dq) (u:=1)) ?_
 refine R1 rfl (.own rfl (by simp) ?_)
 rw[W1a,<-Xpj hi]
 exact W0b (by simp[Xab])
theorem Xcn{x:Rat}{p:Nat}(hT:TS r k t)(hk:k<=16)(hr:r<=4398046511104)(hx:Qs p x)(hp:p<=4398046511104): C0 289 [.d (dt t),.d (dq x)] (·=.d (de (rat k x))):=by
 have hpk:=p16 hk
 have h0:=W0u k
 refine En Tryz.func289 λ_ _ _=>?_
 refine Ce rfl (Xd4 (TS.pt hT) (by omega) (by rw[Xaa];omega)) ?_
 refine No rfl (by simp) ?_
 refine Ce rfl (Xma hx (by omega)) ?_
 refine No rfl (by simp) ?_
 refine Ar (2^k:Nat) rfl ?_ (by simp only[lt',Xaa];exact Xbp (by omega))
 refine Cr rfl (Xj7 (n:=2^k) (by omega)) ?_
 refine Eo 0 rfl (by simp only[lq,W1v];omega) ?_
 refine Sto rfl (by simp only[lq,W1v];omega) (ms (f:=dq) (u:=x)) ?_
 refine R1 rfl (.own rfl (by simp) ?_)
 rw[W1a,Xex]
 rw[W0b (by simp),show 2^k=2^k-1+1 by omega,W4b,List.set_cons_zero]
 rfl
theorem Xys{k r s:Nat}{t:Tw (k+1)}{a:Tow.El (k+1)}(hT:TS r (k+1) t)(ha:Sz s (toL (k+1) a))(hk:k+1<=16)(hs:nB r k s<=4398046511104)(hr:r<=4398046511104): C0 413 [.d (dt t),.d (de a)] (·=.d (de (Tow.norm k t a))):=by
 have hn:nB r k s=4*s+3*cB r k+r+1:=rfl
 refine En Tryz.func413 λ_ _ _=>?_
 refine Ce rfl (Xb3 hT ha hk (by omega) hr) ?_
 refine No rfl (by simp) ?_
 refine No rfl (by simp only[lt',Xaa];omega) ?_
 refine Ce rfl (Xpk hT ha hk hs) ?_
 exact R0
end
end
end Go.Proofs.YtclgppjdhndgiaaGreatDoor
namespace Go.Proofs.YtclgppjdhndgiaaGreatDoor.R6
open Go Go.Vm Go.Num Go.Tow Go.Proofs.YtclgppjdhndgiaaGreatDoor
theorem Xg7{l:List Rat}{p n:Nat}(hx:Ps p l)(hp:p<=8796093022208)(hl:l.length<=1099511627776)(hn:l.length=n): C0 385 [.d (dqs l),.d (.int .i64 n)] (·=.b true):=by
 refine En Tryz.func385 λ_ _ _=>?_
 refine Lo (λk:Nat=>[(0,.d (dqs l)),(1,.d (.int .i64 n)),(5,.d (.int .i64 k))]) (λ_=>[]) (λk=>k<=l.length) (λk=>l.length-k) 0 [] rfl (by omega) (λk hk=>?_)
 refine By rfl (λh=>?_) λh=>?_<;>simp only[lq] at h
 . obtain⟨x,hx'⟩:=qat (l:=l) (k:=k) (by omega)
   refine Ix k rfl (mp hx') ?_
   refine Ce rfl (R2.Valid_ok (hx x (W0h hx')) hp) ?_
   refine No rfl (by simp) ?_
   refine Ar (k+1:Nat) rfl ?_
   exact Bk (k+1) [] rfl (show k+1<=l.length by omega) (by show l.length-(k+1)<l.length-k;omega)
 . exact R1 rfl (by exact(show dc (((l.map dq).length:Int)=n)=true by rw[Xal,lq,hn]) ▸ .rf rfl)
theorem Tower_ok{t:List (List Rat)}{p:Nat}(ht:Pt p t)(hp:p<=8796093022208)(hl:t.length<=40): C0 384 [.d (dts t)] (·=.b true):=by
 refine En Tryz.func384 λ_ _ _=>?_
 refine Lo (λk:Nat=>[(0,.d (dts t)),(3,.d (.int .i64 k))]) (λ_=>[]) (λk=>k<=t.length) (λk=>t.length-k) 0 [] rfl (by omega) (λk hk=>?_)
 refine By rfl (λh=>?_) λh=>?_<;>simp only[lt'] at h
 . obtain⟨r,hr⟩:∃r,t[k]?=some r:=⟨_,W0a (by omega)⟩
   obtain⟨h1,h2⟩:=ht k r hr
   have:=Yeq (show k<=40 by omega)
   refine Dw rfl ?_
   refine Ix k rfl (mp hr) ?_
   refine Ar (2^k:Nat) rfl ?_ (Xbp (by omega))
   refine Ce rfl (Xg7 h2 hp (by omega) h1) ?_
   refine No rfl (by simp) ?_
   refine Ar (k+1:Nat) rfl ?_
   exact Bk (k+1) [] rfl (show k+1<=t.length by omega) (by show t.length-(k+1)<t.length-k;omega)
 . exact R0
theorem Formed_ok{t:List (List Rat)}{l:List Rat}{p q:Nat}(ht:Pt p t)(hp:p<=8796093022208)(hx:Ps q l)(hq:q<=8796093022208)(hl:t.length<=39)(hn:l.length=2^t.length): C0 335 [.d (dts t),.d (dqs l)] (·=.b true):=by
 have:=Yeq (show t.length<=39 by omega)
 refine En Tryz.func335 λ_ _ _=>?_
 refine Ce rfl (Tower_ok ht hp (by omega)) ?_
 refine Yes rfl rfl ?_
 refine Ar (2^t.length:Nat) rfl ?_ (by simp only[lt'];exact Xbp (by omega))
 refine Ce rfl (Xg7 hx hq (by omega) hn) ?_
 exact R0
theorem Zero_ok{l:List Rat}(hl:l.length<=1099511627776): C0 388 [.d (dqs l)] (·=.b (dc (∀x∈l,x=0))):=by
 refine En Tryz.func388 λ_ _ _=>?_
 refine Lo (λk:Nat=>[(0,.d (dqs l)),(3,.d (.int .i64 k))]) (λ_=>[]) (λk=>k<=l.length/\∀x∈l.take k,x=0) (λk=>l.length-k) 0 [] rfl ⟨by omega,by simp⟩ (λk ⟨hk,hz⟩=>?_)
 refine By rfl (λh=>?_) λh=>?_<;>simp only[lq] at h
 . obtain⟨x,hx⟩:=qat (l:=l) (k:=k) (by omega)
   refine Ix k rfl (mp hx) ?_
   refine By rfl (λh1=>?_) λh1=>?_
   . exact R1 rfl (.bp ⟨nofun,λe=>by
      rw[e x (W0h hx),lw] at h1
      simp[Xak] at h1⟩)
   . refine Ar (k+1:Nat) rfl ?_
     refine Bk (k+1) [] rfl ⟨by omega,λy hy=>?_⟩ (by show l.length-(k+1)<l.length-k;omega)
     rw[W1c,hx] at hy
     rcases W2j.1 hy with hy | hy
     . exact hz y hy
     . simp at hy;rw[hy];exact R2.zero_of (by omega)
 . rw[W0b (by omega)] at hz
   exact R1 rfl (.bp ⟨λ_=>hz,λ_=>rfl⟩)
theorem Neg_ok{T:List (List Rat)}{xs:List Rat}{p:Nat}(hn:xs.length<=1073741824)(hx:Ps p xs)(hp:p<=8796093022208): CG0 257 [.d (dts T),.d (dqs xs)] 4 ((xs.map (- ·)).map dq):=by
 refine EnW Tryz.func257 λ_ _ _ _=>?_
 refine Nl 5 5 4 rfl ?_
 refine Lo (λk:Nat=>[(1,.d (dqs xs)),(5,.gr 5 4 (((xs.take k).map (- ·)).map dq)),(6,.d (.int .i64 k))]) (λk=>[(5,.tok (((xs.take k).map (- ·)).map dq).length 4)]) (λk=>k<=xs.length) (λk=>xs.length-k) 0 [] rfl (by omega) (λk hk=>?_)
 refine By rfl (λh=>?_) λh=>?_<;>simp only[lq] at h
 . obtain⟨x,hx'⟩:=qat (l:=xs) (k:=k) (by omega)
   refine Ix k rfl (mp hx') ?_
   refine Ce rfl (R2.Neg_ok (hx x (W0h hx')) hp) ?_
   refine ApG (((xs.take (k+1)).map (- ·)).map dq) rfl (by rw[W1c,hx'];simp) (by simp;omega) ?_
   refine Ar (k+1:Nat) rfl ?_
   exact Bk (k+1) [(20,5)] rfl (show k+1<=xs.length by omega) (by show xs.length-(k+1)<xs.length-k;omega)
 . exact Rw [(5,1000000)] [(1000000,.tok ((xs.map (- ·)).map dq).length 4)] rfl (.one (.rf rfl) rfl rfl) ⟨_,rfl,by rw[W0b (by omega)];rfl,rfl⟩ (by rw[W0b (by omega)];rfl)
theorem Neg_el{T:List (List Rat)}{k p:Nat}{a:Tow.El k}(hk:k<=16)(ha:Ps p (toL k a))(hp:p<=8796093022208): C0 257 [.d (dts T),.d (de a)] (·=.d (de (Tow.neg k a))):=by
 have:=CG.data (Neg_ok (T:=T) (by rw[Xab];have:=p16 hk;omega) ha hp)
 rwa[<-Xbo] at this
theorem Add_ok{T:List (List Rat)}{xs ys:List Rat}{p q:Nat}(hl:xs.length=ys.length)(hn:xs.length<=1073741824)(hx:Ps p xs)(hy:Ps q ys)(hp:p+q+1<=8796093022208): CG0 256 [.d (dts T),.d (dqs xs),.d (dqs ys)] 4 ((List.zipWith (·+·) xs ys).map dq):=by
 have hz:(List.zipWith (·+·) xs ys).length=xs.length:=by simp;omega
 refine EnW Tryz.func256 λ_ _ _ _=>?_
 refine Nl 7 7 4 rfl ?_
 refine Lo (λk:Nat=>[(1,.d (dqs xs)),(2,.d (dqs ys)),(7,.gr 7 4 (((List.zipWith (·+·) xs ys).take k).map dq)),(8,.d (.int .i64 k))]) (λk=>[(7,.tok (((List.zipWith (·+·) xs ys).take k).map dq).length 4)]) (λk=>k<=xs.length) (λk=>xs.length-k) 0 [] rfl (by omega) (λk hk=>?_)
 refine By rfl (λh=>?_) λh=>?_<;>simp only[lq] at h
 . obtain⟨x,hx'⟩:=qat (l:=xs) (k:=k) (by omega)
   obtain⟨y,hy'⟩:=qat (l:=ys) (k:=k) (by omega)
   refine Dw rfl ?_
   refine Ix k rfl (mp hx') ?_
   refine Ix k rfl (mp hy') ?_
   refine Ce rfl (R2.Add_ok (hx x (W0h hx')) (hy y (W0h hy')) hp) ?_
   refine ApG (((List.zipWith (·+·) xs ys).take (k+1)).map dq) rfl (by rw[W1c,W6m,hx',hy'];simp) (by simp;omega) ?_
   refine Ar (k+1:Nat) rfl ?_
   exact Bk (k+1) [(26,7)] rfl (show k+1<=xs.length by omega) (by show xs.length-(k+1)<xs.length-k;omega)
 . exact Rw [(7,1000000)] [(1000000,.tok ((List.zipWith (·+·) xs ys).map dq).length 4)] rfl (.one (.rf rfl) rfl rfl) ⟨_,rfl,by rw[W0b (by omega)];rfl,rfl⟩ (by rw[W0b (by omega)];rfl)
theorem Add_el{T:List (List Rat)}{k p q:Nat}{a b:Tow.El k}(hk:k<=16)(ha:Ps p (toL k a))(hb:Ps q (toL k b))(hp:p+q+1<=8796093022208): C0 256 [.d (dts T),.d (de a),.d (de b)] (·=.d (de (Tow.add k a b))):=by
 have:=CG.data (Add_ok (T:=T) (by rw[Xab,Xab]) (by rw[Xab];have:=p16 hk;omega) ha hb hp)
 rwa[<-Xas] at this
theorem Sub_el{T:List (List Rat)}{k p q:Nat}{a b:Tow.El k}(hk:k<=16)(ha:Ps p (toL k a))(hb:Sz q (toL k b))(hp:p+q+1<=8796093022208): C0 168 [.d (dts T),.d (de a),.d (de b)] (·=.d (de (Tow.add k a (Tow.neg k b)))):=by
 refine En Tryz.func168 λ_ _ _=>?_
 refine Ce rfl (Neg_el hk hb.ps (by omega)) ?_
 refine Ce rfl (Add_el hk ha (Xgu hb).ps hp) ?_
 exact R0
theorem Xi4{t:List (List Rat)}{x:Rat}(ht:t.length<=16)(h1:1<=t.length): CA0 166 [.d (dts t),.d (dq x)] 4 ((x::List.replicate (2^t.length-1) 0).map dq):=by
 have hp:=p16 ht
 have h2:2^1<=2^t.length:=Yeq h1
 obtain⟨n,hn⟩:∃n,n=2^t.length:=⟨_,rfl⟩
 rw[<-hn] at hp h2 |-
 refine EnW Tryz.func166 λ_ _ _ _=>?_
 refine Lo (λk:Nat=>[(0,.d (dts t)),(3,.ptr 3 0),(5,match k with | 0=>.lit 4 [dq x] | k+1=>.own 5 4 0 (k+2))]) (λk=>match k with | 0=>[(3,.var (.d (dq x)))] | k+1=>[(5,.arr 4 ((x::List.replicate (k+1) (0:Rat)).map dq)),(3,.var (.d (dq x)))]) (λk=>k+1<=n) (λk=>n-k) 0 [] rfl (by omega) (λk hk=>?_)
 cases k with
 | zero =>
  refine Ar n rfl ?_ (by rw[hn];simp only[lt'];exact Xbp (by omega))
  refine Yes rfl (by simp only[W0k,W3l];omega) ?_
  refine Ce rfl (R2.FromInt_ok (z:=0) (by decide)) ?_
  refine ApL ((x::List.replicate 1 0).map dq) rfl rfl (by decide) (by simp) ?_
  exact Bk 1 [(17,5)] rfl (show 1+1<=n by omega) (by show n-1<n-0;omega)
 | succ k =>
  refine Ar n rfl ?_ (by rw[hn];simp only[lt'];exact Xbp (by omega))
  refine By rfl (λh=>?_) λh=>?_
  . refine Ce rfl (R2.FromInt_ok (z:=0) (by decide)) ?_
    refine ApO ((x::List.replicate (k+1+1) 0).map dq) rfl rfl (by simp) (by rw[W6p (n:=k+1)];simp) (by simp;omega) ?_
    exact Bk (k+1+1) [(17,5)] rfl (show k+1+1+1<=n by omega) (by show n-(k+1+1)<n-(k+1);omega) (by exact⟨by simp only[W0i,W0k,W1v];rfl,rfl,rfl,rfl,rfl⟩)
  . have e:n-1=k+1:=by omega
    exact Rw [(5,1000000)] [(1000000,.arr 4 ((x::List.replicate (n-1) (0:Rat)).map dq))] rfl (.one (.rf rfl) rfl rfl) ⟨_,rfl,by rw[e];simp;rfl,rfl⟩ (by rw[e];rfl)
theorem Xo7{x:Rat}: C0 166 [.d (dts []),.d (dq x)] (·=.lit 4 [dq x]):=by
 refine En Tryz.func166 λ_ _ _=>?_
 refine Lo (λ_:Unit=>[(0,.d (dts [])),(5,.lit 4 [dq x])]) (λ_=>[]) (λ_=>True) (λ_=>0) () [] rfl trivial λ_ _=>?_
 refine Ar (1:Nat) rfl ?_ (Xbp (k:=0) (by decide))
 refine No rfl (by simp only[W0k,W3l];omega) ?_
 exact R0
theorem _root_.Go.Vm.C.lit{P:Program}[Gb P]{f:FuncId}{vs0:List AV}{sz:Nat}{xs:List D}(h:C P f vs0 (·=.lit sz xs)): C P f vs0 (·=.d (.sl sz xs)):=⟨h.1,λW vs hg ha=>(h.2 W vs hg ha).mono λe w' ⟨W',v,u,h1,h2,h3,h4,h5,h6⟩=>⟨W',_,u,h1,h2,h3,Xhf (h6 ▸ h4),λ_ h=>h.elim,rfl⟩⟩
theorem FromRat_ok{t:List (List Rat)}{x:Rat}(ht:t.length<=16): C0 166 [.d (dts t),.d (dq x)] (·=.d (dqs (x::List.replicate (2^t.length-1) 0))):=by
 cases t with
 | nil=>exact C.lit Xo7
 | cons r t=>exact CA.data (Xi4 ht (by simp))
end Go.Proofs.YtclgppjdhndgiaaGreatDoor.R6

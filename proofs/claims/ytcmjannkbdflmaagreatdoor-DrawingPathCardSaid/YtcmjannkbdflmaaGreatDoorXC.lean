/- part 3 -/
import Derived.Test.YtcmjannkbdflmaaGreatDoorXB
import Derived.RangeFuncBox
import Derived.RangeFuncLeaves
import Derived.Shelf.Abstract
import Derived.WalkKit
import Derived.OwnWalkIn
import Derived.TacticsInMore
import Derived.LoopNIn
import Derived.LoopIn
set_option linter.unusedVariables false
set_option linter.unusedSimpArgs false
set_option maxRecDepth 10000
namespace Go.Proofs.YtcmjannkbdflmaaGreatDoor
open Go Go.Vm Go.Num Go.Proofs
section
abbrev C0:=C Tryz.prog
abbrev CG0:=CG Tryz.prog
abbrev CA0:=CA Tryz.prog
abbrev CO0:=CO Tryz.prog
abbrev CN0:=CN Tryz.prog
abbrev CW0:=CW Tryz.prog
def wd(n:Nat): D:=.int .u32 n
def ws(l:List Nat): D:=.sl 1 (l.map wd)
def dS(b:Bool)(l:List Nat): D:=.st (.pr (.bool b) (ws l))
theorem mp{α:Type}{l:List α}{f:α->D}{j:Nat}{u:α}(h:l[j]?=some u): (l.map f)[j]?=some (f u):=by simp[h]
theorem ms{α:Type}{l:List α}{f:α->D}{j:Nat}{u:α}: (l.map f).set j (f u)=(l.set j u).map f:=by simp
theorem Xaz{l:List Nat}(B:Xao l)(I:l.length<=1099511627776): C0 116 [.d (ws l)] (·=.d (ws (dig (val l)))):=by
 refine En Tryz.func116 λ_ _ _=>?_
 refine Lo (λk=>[(0,.d (ws (l.take k)))]) (λ_=>[]) (λk=>k<=l.length/\val (l.take k)=val l) id l.length [] rfl ⟨W0c _,by rw[W1x]⟩ (λk ⟨A,j⟩=>?_) (hf:=⟨by simp only[W1x];rfl,rfl,rfl,rfl,rfl⟩)
 refine By rfl (λh=>?_) λh=>?_<;>simp only[W0i,W0k,W2d A] at h
 . have I:((l.take k).map wd).length=k:=by simp;omega
   refine Ar (k-1:Nat) rfl ?_
   have o:=W0a (l:=l) (i:=k-1) (by omega)
   refine Ix (k-1) rfl (u:=wd l[k-1]) (mp (by rw[W1l,if_pos (by omega),o])) ?_
   have hs:=Xac o
   rw[show k-1+1=k by omega,j] at hs
   refine By rfl (λh0=>?_) λh0=>?_
   . refine Ar (k-1:Nat) rfl ?_
     refine Tk (k-1) ((l.take (k-1)).map wd) rfl rfl (by simp;omega) (by rw[<-W3d,List.take_take,W2d (by omega)]) ?_
     exact Bk (k-1) [] rfl ⟨by omega,by rw[hs,show l[k-1]=0 by omega,W3i,W2r]⟩ (show k-1<k by omega)
   . exact R1 rfl (.eq (by rw[<-j,Xdg (B.take k) (.inr ⟨l[k-1],by rw[W0k,W2d A,W1l,if_pos (by omega),o],λe=>h0 (by rw[e];rfl)⟩)]))
 . refine R1 rfl (.eq ?_)
   rw[show k=0 by omega] at j |-
   rw[<-j,W8i,val,Xaj]
theorem Xce{n:Nat}(h:n<18446744073709551616): C0 200 [.d (.int .u64 n)] (·=.d (ws (dig n))):=by
 refine En Tryz.func200 λ_ _ _=>?_
 refine Go.Vm.Cv (n%4294967296:Nat) rfl ?_ (hr:=by rw[wWm];omega)
 refine Ar (n/4294967296:Nat) rfl ?_ (hr:=show _/\_ from⟨by omega,Yje n⟩)
 refine Go.Vm.Cv (n/4294967296:Nat) rfl ?_
 exact Ce rfl (Xaz (l:=[n%4294967296,n/4294967296]) (.cons (by omega) (.cons (by omega) .nil)) (by simp))<|R1 rfl (.eq (by rw[show val [n%4294967296,n/4294967296]=n by simp only[val];omega]))
theorem trim_dig_ok{n:Nat}(h:(dig n).length<=1099511627776): C0 116 [.d (ws (dig n))] (·=.d (ws (dig n))):=by
 have:=Xaz (Xad n) h
 rwa[Xaf] at this
theorem Xu7{b:Bool}{n:Nat}(h:(dig n).length<=1099511627776): C0 120 [.d (.bool b),.d (ws (dig n))] (·=.d (dS (b&&n != 0) (dig n))):=by
 refine En Tryz.func120 λ_ _ _=>?_
 refine Ce rfl (trim_dig_ok h)<|By rfl (λh=>?_) λh=>?_<;>simp only[W0i] at h
 . have:n=0:=Xtv.1 (W0n (by omega))
   subst this
   exact R1 rfl (by exact .sd (.pd (.bd (by simp)) (.nil (by rw[Xaj];rfl))))
 . have:n≠0:=λe=>h (by rw[e,Xaj];rfl)
   rw[show (b&&n != 0)=b by simp[this]]
   exact R0
def dz(z:Int): D:=dS (decide (z<0)) (dig z.natAbs)
def sg(neg:Bool)(n:Nat): Int:=if neg then -(n:Int) else (n:Int)
theorem Xx5{p:Prop}[Decidable p]: dc p=decide p:=by rw[W4h,Xal,decide_eq_true_iff]
instance {p:Prop} [Decidable p]:Dc (decide p) p:=⟨decide_eq_true_iff⟩
theorem Ylp{b:Bool}{n:Nat}: dS (b&&n != 0) (dig n)=dz (sg b n):=by
 unfold dz sg
 cases b with
 | true =>
  rw[if_pos rfl,W4v,W1m]
  congr 1
  rw[W4h];simp;omega
 | false=>rw[if_neg (by decide),W1m];congr 1
theorem Xak{b:Bool}{n:Nat}(h:(dig n).length<=1099511627776): C0 120 [.d (.bool b),.d (ws (dig n))] (·=.d (dz (sg b n))):=by
 have:=Xu7 (b:=b) h
 rwa[Ylp] at this
theorem Xra(z:Int): sg (decide (z<0)) z.natAbs=z:=by
 unfold sg;by_cases h:z<0
 . rw[if_pos (decide_eq_true h)];omega
 . rw[if_neg (by rw[decide_eq_true_eq];exact h)];omega
theorem FromInt_ok{z:Int}(h:-9223372036854775808<=z/\z<9223372036854775808): C0 118 [.d (.int .i64 z)] (·=.d (dz z)):=by
 have i:(dig z.natAbs).length<=2:=Xaq (by omega)
 refine En Tryz.func118 λ_ _ _=>?_
 refine Go.Vm.Cv (z%18446744073709551616) rfl ?_ (hr:=wUm _)
 refine By rfl (λh=>?_) λh=>?_
 . refine Ne (z.natAbs:Int) rfl ?_ (hr:=by rw[wUm];omega)
   exact Ce rfl (Xce (n:=z.natAbs) (by omega))<|Ce rfl (Xak (n:=z.natAbs) (by omega))<|R1 rfl (.eq (by rw[Xx5,Xra]))
 . exact Ce (r:=.d (ws (dig z.natAbs))) rfl (by have:=Xce (n:=z.natAbs) (by omega);rwa[show ((z.natAbs:Nat):Int)=z%18446744073709551616 by omega] at this)<|Ce rfl (Xak (n:=z.natAbs) (by omega))<|R1 rfl (.eq (by rw[Xx5,Xra]))
end
section
theorem ww{l:List Nat}{j:Nat}{u:Nat}(h:l[j]?=some u)(i:Xao l): u<4294967296:=i u (W0e h)
theorem xat{l:List Nat}{k:Nat}(h:k<l.length): ∃x,l[k]?=some x:=⟨_,W0a h⟩
theorem Xh2{k:IntKind}{s n:Nat}(h:n<=k.bits): arB .shr k s n (s/2^n:Nat):=by
 refine⟨by omega,?_⟩
 rw[W7m,W2d h,show (2:Int)^n=((2^n:Nat):Int) by rw[W7v];rfl,W1s _ (W5n _)]
 rfl
theorem Xif{x y:Nat}(hx:(dig x).length<=1099511627775)(hy:(dig y).length<=1099511627775): C0 263 [.d (ws (dig x)),.d (ws (dig y))] (·=.d (ws (dig (x+y)))):=by
 refine En Tryz.func263 λ_ _ _=>?_
 refine Cu none (λ(a,b)=>[(0,.d (ws (dig a))),(1,.d (ws (dig b)))]) (λ_=>[]) (λ(a,b)=>a+b=x+y/\(dig b).length<=(dig a).length/\(dig a).length<=1099511627775) rfl ?_ λ⟨a,b⟩ ⟨hs,hle,Z⟩=>?_
 . refine By rfl (λh=>?_) λh=>?_<;>simp only[W0i] at h
   . exact Jn (y,x) [] rfl ⟨Nat.add_comm _ _,by omega,hy⟩
   . exact Jn (x,y) [] rfl ⟨rfl,by omega,hx⟩
 refine Ar ((dig a).length+1) rfl ?_ (wr (by simp) (by simp only[inK];omega))
 refine Mk 0 rfl (by omega) ?_
 refine Lo (λ(k,lo,i)=>[(1,.d (ws (dig b))),(5,.own 19 1 0 k),(6,.d (.int .u64 (i:Nat))),(20,.d (ws (dig a))),(21,.d (.int .i64 (dig a).length)),(22,.d (.int .i64 (k:Nat)))]) (λ(_,lo,_)=>[(19,.arr 1 (lo.map wd))])
  (λ(k,lo,i)=>k<=(dig a).length/\lo.length=k/\Xao lo/\i<=1/\val lo+4294967296^k*i=val ((dig a).take k)+val ((dig b).take k)) (λ(k,_,_)=>(dig a).length-k) (0,[],0) [] rfl ⟨by omega,rfl,.nil,by omega,by simp[val]⟩ ?_ (by exact⟨by simp only[ws,W0i];rfl,rfl,rfl,rfl,rfl⟩)
 rintro⟨k,lo,i⟩ ⟨hk,j,O,hcr,I⟩
 refine By rfl (λh=>?_) λh=>?_
 . obtain⟨u,Q⟩:=xat (l:=dig a) (k:=k) (by omega)
   have hub:=ww Q (Xad a)
   refine Ix k rfl (mp Q)<|Go.Vm.Cv u rfl ?_
   refine Ar (i+u:Nat) rfl ?_
   refine Cu none (λ(s:Nat)=>[(1,.d (ws (dig b))),(5,.own 19 1 0 k),(6,.d (.int .u64 s)),(20,.d (ws (dig a))),(21,.d (.int .i64 (dig a).length)),(22,.d (.int .i64 k))]) (λ_=>[(19,.arr 1 (lo.map wd))])
    (λs=>s<8589934592/\4294967296^k*s+val lo=val ((dig a).take (k+1))+val ((dig b).take (k+1))) rfl ?_ λs ⟨hs8,T⟩=>?_
   . refine By rfl (λh2=>?_) λh2=>?_<;>simp only[W0i] at h2
     . obtain⟨U,B⟩:=xat (l:=dig b) (k:=k) (by omega)
       have hub2:=ww B (Xad b)
       refine Ix k rfl (mp B)<|Go.Vm.Cv U rfl ?_
       refine Ar (i+u+U:Nat) rfl ?_
       exact Jn (i+u+U) [] rfl ⟨by omega,by rw[Xac Q,Xac B,W0z,W0z];omega⟩
     . exact Jn (i+u) [] rfl ⟨by omega,by rw[Xac Q,Xgf (l:=dig b) (by omega),W0z];omega⟩
   refine Go.Vm.Cv (s%4294967296:Nat) rfl ?_ (by rw[wWm];omega)
   refine ApO ((lo++[s%4294967296]).map wd) rfl rfl (by simp[j]) (by simp;rfl) (by simp;omega) ?_
   refine Ar (s/4294967296:Nat) rfl ?_ (Xh2 (n:=32) (by decide))
   refine Ar (k+1:Nat) rfl ?_
   refine Bk (k+1,lo++[s%4294967296],s/4294967296) [(46,19)] rfl ⟨by show k+1<=_;omega,by simp[j],O.app (.cons (by omega) .nil),by show s/4294967296<=1;omega,?_⟩ (by show _-(k+1)<_-k;omega) (by exact⟨by simp[j];rfl,rfl,rfl,rfl,rfl⟩)
   rw[Xcm,j,<-T,W0q,W0t]
   have e2:4294967296^k*s=4294967296^k*(s%4294967296)+4294967296^k*(4294967296*(s/4294967296)):=by rw[<-W0z];congr 1;omega
   simp only[val,W3i,W2r]
   omega
 . have o:k=(dig a).length:=by omega
   have A:val lo+4294967296^k*i=x+y:=by rw[I,W0b (by omega),W0b (by omega),Xaf,Xaf,hs]
   refine By rfl (λh=>?_) λh=>?_
   . refine Go.Vm.Cv i rfl ?_
     refine ApO ((lo++[i]).map wd) rfl rfl (by simp[j]) (by simp;rfl) (by simp;omega) ?_
     refine R1 rfl (.own rfl (by simp) ?_)
     have e:val (lo++[i])=val lo+4294967296^k*i:=by rw[Xcm,j];simp[val]
     rw[W0y,W1x,<-A,<-e,Xdg (O.app (.cons (by omega) .nil)) (.inr ⟨i,by simp,by omega⟩)]
   . have V:i=0:=by omega
     subst V
     refine R1 rfl (.own rfl (by simp[j]) ?_)
     rw[W0y,W0b (by simp[j]),<-A,W3i,W2r,Xdg O]
     rcases W2o k with M | M
     . exact .inl (W0n (by rw[j];exact M))
     . have ha:a≠0:=λhh=>by rw[hh,Xaj] at o;simp at o;omega
       have Y:=Xn0 ha
       refine Xfp O (by omega) ?_
       rw[j,o]
       have hab:a<=x+y:=by omega
       rw[<-o] at Y |-
       omega
theorem oa{l:List Nat}{n:Nat}(h:l.length=n): ((l.map wd).drop 0).take n=l.map wd:=by rw[W0y,W0b (by simp[h])]
theorem lw(l:List Nat): (l.map wd).length=l.length:=W0i ..
theorem Xdz{x y:Nat}(Z:(dig x).length<=1099511627776)(I:y<=x): C0 264 [.d (ws (dig x)),.d (ws (dig y))] (·=.d (ws (dig (x-y)))):=by
 have hll:=Xan I
 refine En Tryz.func264 λ_ _ _=>?_
 refine Mk (dig x).length rfl (by simp only[lw];omega) ?_ (by simp only[lw])
 refine Lo (λ(k,lo,i)=>[(1,.d (ws (dig y))),(5,.own 12 1 0 (dig x).length),(6,.d (.int .u64 (i:Nat))),(13,.d (ws (dig x))),(14,.d (.int .i64 (dig x).length)),(15,.d (.int .i64 (k:Nat)))]) (λ(_,lo,_)=>[(12,.arr 1 (lo.map wd))])
  (λ(k,lo,i)=>k<=(dig x).length/\lo.length=(dig x).length/\Xao lo/\i<=1/\val (lo.take k)+val ((dig y).take k)+4294967296^k*0=val ((dig x).take k)+4294967296^k*i) (λ(k,_,_)=>(dig x).length-k) (0,List.replicate (dig x).length 0,0) [] rfl
  ⟨by omega,by simp,λ_ h=>by rw[(W5o.1 h).2];omega,by omega,by simp[val]⟩ ?_ (by exact⟨by simp only[lw,ws];rfl,by simp only[W2i];rfl,rfl,rfl,rfl⟩)
 rintro⟨k,lo,i⟩ ⟨hk,M,O,hbr,j⟩
 rw[W3i,W2r] at j
 refine By rfl (λh=>?_) λh=>?_
 . obtain⟨u,Q⟩:=xat (l:=dig x) (k:=k) (by omega)
   have hub:=ww Q (Xad x)
   refine Ix k rfl (mp Q)<|Go.Vm.Cv u rfl ?_
   refine Ar ((u+18446744073709551616-i)%18446744073709551616:Nat) rfl ?_ (by show _=_;rw[wUm];omega)
   refine Cu none (λ(s:Nat)=>[(1,.d (ws (dig y))),(5,.own 12 1 0 (dig x).length),(7,.d (.int .i64 k)),(9,.d (.int .u64 s)),(13,.d (ws (dig x))),(14,.d (.int .i64 (dig x).length)),(15,.d (.int .i64 k))]) (λ_=>[(12,.arr 1 (lo.map wd))])
    (λs=>s<18446744073709551616/\s/9223372036854775808<=1/\∃v,s%4294967296+v+i=u+4294967296*(s/9223372036854775808)/\val ((dig y).take (k+1))=val ((dig y).take k)+4294967296^k*v) rfl ?_ λs ⟨hs,hs2,v,T,U⟩=>?_
   . refine By rfl (λh2=>?_) λh2=>?_<;>simp only[lw] at h2
     . obtain⟨B,o⟩:=xat (l:=dig y) (k:=k) (by omega)
       have hub2:=ww o (Xad y)
       refine Ix k rfl (mp o)<|Go.Vm.Cv B rfl ?_
       refine Ar ((u+18446744073709551616-i+18446744073709551616-B)%18446744073709551616:Nat) rfl ?_ (by show _=_;rw[wUm];omega)
       exact Jn ((u+18446744073709551616-i+18446744073709551616-B)%18446744073709551616) [] rfl ⟨by omega,by omega,B,by omega,Xac o⟩
     . exact Jn ((u+18446744073709551616-i)%18446744073709551616) [] rfl ⟨by omega,by omega,0,by omega,by rw[Xgf (by omega)];rfl⟩
   refine Go.Vm.Cv (s%4294967296:Nat) rfl ?_ (by rw[wWm];omega)
   refine Eo k rfl (by omega)<|Sto rfl (by simp only[lw];omega) ms ?_
   refine Ar (s/9223372036854775808:Nat) rfl ?_ (Xh2 (n:=63) (by decide))
   refine Ar (k+1:Nat) rfl ?_
   refine Bk (k+1,lo.set k (s%4294967296),s/9223372036854775808) [] rfl ⟨by omega,by simp[M],λx Z=>(W4d Z).elim (O x) λe=>by rw[e];omega,by omega,?_⟩ (by show _-(k+1)<_-k;omega)
   rw[W3i,W2r,Xbd (by omega),U,Xac Q,W0q,W0t]
   have e:4294967296^k*(s%4294967296+v+i)=4294967296^k*(u+4294967296*(s/9223372036854775808)):=by rw[T]
   simp only[W0z] at e
   omega
 . have V:k=(dig x).length:=by omega
   rw[V,W0b (by omega),W0b (by omega),W0b (by omega),Xaf,Xaf] at j
   have Y:=Xbx O
   rw[M] at Y
   have A:i=0:=by
    rcases W2o i with h0 | h0
    . exact h0
    . have h1:4294967296^(dig x).length*1<=4294967296^(dig x).length*i:=W0p _ h0
      omega
   rw[A,W3i] at j
   refine Fz 12 5 (lo.map wd) rfl (by simp only[lw];omega) (oa M) ?_
   exact Ce rfl (Xaz O (by omega))<|R1 rfl (.eq (by rw[show val lo=x-y by omega]))
theorem Xd6{a:Int}: C0 197 [.d (.int .i64 a)] (·=.b false):=by
 refine En Tryz.func197 λ_ _ _=>?_
 exact R1 rfl (by exact(show dc (a≠a)=false by rw[W2p];intro h;exact Xal.1 h rfl) ▸ .rf rfl)
theorem Xd5{a:Int}: C0 290 [.d (.int .u32 a)] (·=.b false):=by
 refine En Tryz.func290 λ_ _ _=>?_
 exact R1 rfl (by exact(show dc (a≠a)=false by rw[W2p];intro h;exact Xal.1 h rfl) ▸ .rf rfl)
theorem Xc2{a b:Int}: C0 114 [.d (.int .i64 a),.d (.int .i64 b)] (·=.d (.int .i64 (Xa5 a b))):=by
 refine En Tryz.func114 λ_ _ _=>?_
 refine Ce rfl Xd6<|Ce rfl Xd6<|No rfl nofun<|No rfl nofun<|By rfl (λh=>?_) λh=>?_
 . exact R1 rfl (.eq (by rw[Xa5,if_pos h]))
 . refine By rfl (λi=>?_) λi=>?_
   . exact R1 rfl (.eq (by rw[Xa5,if_neg h,if_pos i]))
   . exact R1 rfl (.eq (by rw[Xa5,if_neg h,if_neg i]))
theorem Xf7{a b:Int}: C0 198 [.d (.int .u32 a),.d (.int .u32 b)] (·=.d (.int .i64 (Xa5 a b))):=by
 refine En Tryz.func198 λ_ _ _=>?_
 refine Ce rfl Xd5<|Ce rfl Xd5<|No rfl nofun<|No rfl nofun<|By rfl (λh=>?_) λh=>?_
 . exact R1 rfl (.eq (by rw[Xa5,if_pos h]))
 . refine By rfl (λi=>?_) λi=>?_
   . exact R1 rfl (.eq (by rw[Xa5,if_neg h,if_pos i]))
   . exact R1 rfl (.eq (by rw[Xa5,if_neg h,if_neg i]))
theorem Xb0{x y:Nat}(V:(dig x).length<=1099511627776): C0 115 [.d (ws (dig x)),.d (ws (dig y))] (·=.d (.int .i64 (Xa5 x y))):=by
 refine En Tryz.func115 λ_ _ _=>?_
 refine By rfl (λh=>?_) λh=>?_<;>simp only[lw] at h
 . refine Ce rfl Xc2<|R1 rfl (.eq ?_)
   simp only[lw]
   congr 1
   have A:(dig x).length≠(dig y).length:=by omega
   rcases W7b A with B | B
   . have:=Xdn B
     rw[Xa5,Xa5,if_pos (by omega),if_pos (by omega)]
   . have:=Xdn B
     rw[Xa5,Xa5,if_neg (by omega),if_pos (by omega),if_neg (by omega),if_pos (by omega)]
 . refine Ar ((dig x).length-1:Int) rfl ?_ (wr (by simp only[lw]) (by simp only[inK];omega))
   refine Lo (λ(k:Nat)=>[(0,.d (ws (dig x))),(1,.d (ws (dig y))),(5,.d (.int .i64 ((k:Int)-1)))]) (λ_=>[]) (λk=>k<=(dig x).length/\(dig x).drop k=(dig y).drop k) (λk=>k) (dig x).length [] rfl ⟨by omega,by rw[W1o (by omega),W1o (by omega)]⟩ λk ⟨Y,hd⟩=>?_
   refine By rfl (λT=>?_) λT=>?_
   . obtain⟨u,j⟩:=xat (l:=dig x) (k:=k-1) (by omega)
     obtain⟨v,o⟩:=xat (l:=dig y) (k:=k-1) (by omega)
     refine Dw rfl<|Ix (k-1) rfl (mp j)<|Ix (k-1) rfl (mp o)<|By rfl (λU=>?_) λU=>?_
     . refine Dw rfl<|Ix (k-1) rfl (mp j)<|Ix (k-1) rfl (mp o)<|Ce rfl Xf7<|R1 rfl (.eq ?_)
       congr 1
       have A:u≠v:=by omega
       have I:(dig x).drop (k-1+1)=(dig y).drop (k-1+1):=by rw[show k-1+1=k by omega];exact hd
       rcases W7b A with B | B
       . have:=Xj1 (Xad x) (by omega) (by omega) j o I B
         rw[Xaf,Xaf] at this
         rw[Xa5,Xa5,if_pos (by omega),if_pos (by omega)]
       . have:=Xj1 (Xad y) (by omega) (by omega) o j I.symm B
         rw[Xaf,Xaf] at this
         rw[Xa5,Xa5,if_neg (by omega),if_pos (by omega),if_neg (by omega),if_pos (by omega)]
     . refine Ar ((k-1:Nat)-1:Int) rfl ?_
       refine Bk (k-1) [] rfl ⟨by omega,?_⟩ (by show k-1<k;omega)
       have M:u=v:=by omega
       rw[W3k (l:=dig x) (i:=k-1) (by omega),W3k (l:=dig y) (i:=k-1) (by omega),show k-1+1=k by omega,hd]
       rw[W0a (by omega)] at j o
       injection j with j
       injection o with o
       rw[j,o,M]
   . have O:k=0:=by omega
     rw[O,W0y,W0y] at hd
     have Q:x=y:=by rw[<-Xaf x,hd,Xaf]
     exact R1 rfl (.eq (by rw[Q,Xa5,if_neg (by omega),if_neg (by omega)]))
end
section
theorem Ype{a b n:Nat}(ha:a<2^n)(hb:b<2^n): (BitVec.ofInt n (a:Int)|||BitVec.ofInt n (b:Int)).toNat=a|||b:=by
 simp[BitVec.toNat_or,BitVec.toNat_ofInt]
 rw[W3v ha,W3v hb]
theorem Ync{a b r:Nat}(ha:a<4294967296)(hb:b<4294967296)(h:a|||b=r)(hr:r<4294967296): arB .or .u32 a b r:=by
 show IntKind.u32.wrap _=_
 rw[show IntKind.bits .u32=32 from rfl,Ype ha hb,h]
 exact wW (by omega)
theorem Ydj{a b r:Nat}(ha:a<18446744073709551616)(hb:b<18446744073709551616)(h:a|||b=r)(hr:r<18446744073709551616): arB .or .u64 a b r:=by
 show IntKind.u64.wrap _=_
 rw[show IntKind.bits .u64=64 from rfl,Ype ha hb,h]
 exact wU (by omega)
theorem Xh3{u n r:Nat}(h:u*2^n=r)(hr:r<18446744073709551616)(i:n<=64): arB .shl .u64 u n r:=⟨by omega,by subst h;exact Yjf hr i⟩
theorem Xbl{l:List Nat}(i:l.length<=1099511627776): C0 121 [.d (ws l)] (·=.d (ws l)):=by
 refine En Tryz.func121 λ_ _ _=>?_
 refine Ub rfl (λh=>?_) ?_
 . exact R1 rfl (.nil h)
 . by_cases h:l=[]
   . subst h
     refine ApE rfl rfl (by decide) ?_
     exact R1 rfl (.lit rfl)
   . have h0:=W4o.2 h
     refine ApL (l.map wd) rfl rfl (by simpa using h0) (by simpa using i) ?_
     exact R1 rfl (.own rfl (by simp) (by simp only[W0y];exact W0b (by simp)))
theorem Xkw{x y:Nat}(V:(dig x).length<=549755813888)(hy:(dig y).length<=549755813888): C0 265 [.d (ws (dig x)),.d (ws (dig y))] (·=.d (ws (dig (x*y)))):=by
 have hz:∀ {x:Nat},(dig x).length=0->x=0:=λh=>Xtv.1 (W0n h)
 refine En Tryz.func265 λ_ _ _=>?_
 refine By rfl (λh=>?_) λh=>?_<;>simp only[lw] at h
 . exact R1 rfl (.nil (by rw[hz (by omega:(dig x).length=0),W4q,Xaj];rfl))
 refine By rfl (λh=>?_) λh=>?_<;>simp only[lw] at h
 . exact R1 rfl (.nil (by rw[hz (by omega:(dig y).length=0),W3i,Xaj];rfl))
 refine Ar ((dig x).length+(dig y).length:Nat) rfl ?_ (wr (by simp only[lw];omega) (by simp only[inK];omega))
 refine Mk ((dig x).length+(dig y).length) rfl (by omega) ?_
 refine Lo (λ(i,lo)=>[(1,.d (ws (dig y))),(5,.own 24 1 0 ((dig x).length+(dig y).length)),(25,.d (ws (dig x))),(26,.d (.int .i64 (dig x).length)),(27,.d (.int .i64 (i:Nat)))]) (λ(_,lo)=>[(24,.arr 1 (lo.map wd))])
  (λ(i,lo)=>i<=(dig x).length/\lo.length=(dig x).length+(dig y).length/\Xao lo/\val (lo.take (i+(dig y).length))=val ((dig x).take i)*y/\∀j,i+(dig y).length<=j->j<(dig x).length+(dig y).length->lo[j]?=some 0) (λ(i,_)=>(dig x).length-i)
  (0,List.replicate ((dig x).length+(dig y).length) 0) [] rfl ⟨by omega,by simp,λ_ h=>by rw[(W5o.1 h).2];omega,by rw[W5l,Xbq];simp[val],λj _ h=>by rw[W5k,if_pos h]⟩ ?_ (by exact⟨by simp only[lw,ws];rfl,by simp only[W2i];rfl,rfl,rfl,rfl⟩)
 rintro⟨i,A⟩ ⟨hi,Q,T,B,Y⟩
 refine By rfl (λh=>?_) λh=>?_
 . obtain⟨u,Z⟩:=xat (l:=dig x) (k:=i) (by omega)
   have hub:=ww Z (Xad x)
   refine Ix i rfl (mp Z)<|Lo (λ(k,lo,I)=>[(1,.d (ws (dig y))),(5,.own 24 1 0 ((dig x).length+(dig y).length)),(6,.d (.int .i64 i)),(7,.d (.int .u32 u)),(8,.d (.int .u64 (I:Nat))),(25,.d (ws (dig x))),(26,.d (.int .i64 (dig x).length)),(27,.d (.int .i64 i)),(32,.d (ws (dig y))),(33,.d (.int .i64 (dig y).length)),(34,.d (.int .i64 (k:Nat)))]) (λ(_,lo,_)=>[(24,.arr 1 (lo.map wd))])
    (λ(k,lo,I)=>k<=(dig y).length/\lo.length=(dig x).length+(dig y).length/\Xao lo/\I<4294967296/\(∀j,i+k<=j->lo[j]?=A[j]?)/\val (lo.take (i+k))+4294967296^(i+k)*I=val (A.take (i+k))+4294967296^i*(u*val ((dig y).take k))) (λ(k,_,_)=>(dig y).length-k)
    (0,A,0) [] rfl ⟨by omega,Q,T,by omega,λ_ _=>rfl,by simp[val]⟩ ?_ (by exact⟨by simp only[lw,ws];rfl,rfl,rfl,rfl,rfl⟩)
   rintro⟨k,lo,I⟩ ⟨hk,hl,hw,hcr,o,M⟩
   refine By rfl (λh=>?_) λh=>?_
   . obtain⟨v,hv⟩:=xat (l:=dig y) (k:=k) (by omega)
     have hvb:=ww hv (Xad y)
     obtain⟨w,O⟩:=xat (l:=lo) (k:=i+k) (by omega)
     have hwb:=ww O hw
     have huv:u*v<=4294967295*4294967295:=W1z (by omega) (by omega)
     refine Ix k rfl (mp hv)<|Go.Vm.Cv u rfl ?_
     refine Go.Vm.Cv v rfl ?_
     refine Ar (u*v:Nat) rfl ?_ (wr (W2z ..).symm (by simp only[inK];omega))
     refine Ar (i+k:Nat) rfl ?_
     refine Eo (i+k) rfl (by omega)<|Ld (wd w) rfl (mp O) ?_
     refine Go.Vm.Cv w rfl ?_
     refine Ar (u*v+w:Nat) rfl ?_
     obtain⟨s,hs⟩:∃s,s=I+(u*v+w):=⟨_,rfl⟩
     have hs2:s<18446744073709551616:=by omega
     refine Ar (s:Nat) rfl ?_
     refine Ar (i+k:Nat) rfl ?_
     refine Go.Vm.Cv (s%4294967296:Nat) rfl ?_ (by rw[wWm];omega)
     refine Eo (i+k) rfl (by omega)<|Sto rfl (by simp only[lw];omega) ms ?_
     refine Ar (s/4294967296:Nat) rfl ?_ (Xh2 (n:=32) (by decide))
     refine Ar (k+1:Nat) rfl ?_
     refine Bk (k+1,lo.set (i+k) (s%4294967296),s/4294967296) [] rfl ⟨by omega,by simp[hl],λx V=>(W4d V).elim (hw x) λe=>by rw[e];omega,by omega,λj hj=>by rw[W1v (by omega)];exact o j (by omega),?_⟩ (by show _-(k+1)<_-k;omega)
     have U:A[i+k]?=some w:=by rw[<-o (i+k) (W0c _)];exact O
     rw[<-W4r,Xbd (by omega),Xac U,Xac hv,W0q,W0t,W0z u,W0z (4294967296^i)]
     have e:4294967296^(i+k)*s=4294967296^(i+k)*(s%4294967296)+4294967296^(i+k)*(4294967296*(s/4294967296)):=by rw[<-W0z];congr 1;omega
     have e2:4294967296^(i+k)*s=4294967296^(i+k)*I+4294967296^i*(u*(4294967296^k*v))+4294967296^(i+k)*w:=by
      rw[hs,W0z,W0z,W1a]
      have:4294967296^i*4294967296^k*(u*v)=4294967296^i*(u*(4294967296^k*v)):=by
       rw[W0t,W4e (4294967296^k) u v]
      omega
     omega
   . have hkm:k=(dig y).length:=by omega
     subst hkm
     refine Ar (i+(dig y).length:Nat) rfl ?_ (wr (by simp only[lw];omega) (by simp only[inK];omega))
     refine Go.Vm.Cv I rfl ?_
     refine Eo (i+(dig y).length) rfl (by omega)<|Sto rfl (by simp only[lw];omega) ms ?_
     refine Ar (i+1:Nat) rfl ?_
     refine Bk (i+1,lo.set (i+(dig y).length) I) [] rfl ⟨by omega,by simp[hl],λx V=>(W4d V).elim (hw x) λe=>by rw[e];omega,?_,λj h1 h2=>by rw[W1v (by omega),o j (by omega)];exact Y j (by omega) h2⟩ (by show _-(i+1)<_-i;omega)
     rw[show i+1+(dig y).length=i+(dig y).length+1 by omega,Xbd (by omega),Xac Z,M,B,W0b (l:=dig y) (by omega),Xaf,W1i,W0t]
 . have him:i=(dig x).length:=by omega
   rw[him,W0b (by omega),W0b (by omega),Xaf] at B
   refine Fz 17 5 (A.map wd) rfl (by simp only[lw];omega) (oa Q) ?_
   exact Ce rfl (Xaz T (by omega))<|R1 rfl (.eq (by rw[B]))
end
section
theorem Xgv{l:List Nat}{k d:Nat}(h:Xao l)(hd:d<4294967296): Xao (l.set k d):=λx i=>(W4d i).elim (h x) λe=>by rw[e];exact hd
theorem Xfk(n:Nat): Xao (List.replicate n 0):=λ_ h=>by rw[(W5o.1 h).2];omega
theorem Ycy{u n:Nat}(i:u<4294967296)(j:n<32): u*2^n<9223372036854775808:=by
 have h:2^n<=2^31:=W0m (by decide) (by omega)
 have o:u*2^n<=4294967295*2^31:=W1z (by omega) h
 omega
theorem Xmx{u v n:Nat}(i:u<4294967296)(A:n<32): (u/2^n)|||(v*2^(32-n)%4294967296)=u/2^n+(v%2^n)*2^(32-n)/\u/2^n+(v%2^n)*2^(32-n)<4294967296:=by
 have h:=Xdy v (32-n) (by omega)
 rw[show 32-(32-n)=n by omega] at h
 have hd:u/2^n<2^(32-n):=by
  rw[W2u (W0r n),<-W1a,show 32-n+n=32 by omega]
  exact i
 rw[h,Nat.or_comm,Xdm _ _ _ hd,Nat.add_comm]
 refine⟨rfl,?_⟩
 have j:v%2^n+1<=2^n:=W2b _ (W0r _)
 have o:=W0x (2^(32-n)) j
 rw[<-W1a,show n+(32-n)=32 by omega,W3b] at o
 omega
theorem Xq6{a b u v n m P:Nat}(o:n<32)(h:a*2^n+b=P+4294967296^m*(u%2^n)):
 (a+4294967296^m*(u/2^n+(v%2^n)*2^(32-n)))*2^n+b=P+4294967296^m*u+4294967296^(m+1)*(v%2^n):=by
 have i:4294967296^(m+1)=4294967296^m*4294967296:=W0q ..
 have j:v%2^n*2^(32-n)*2^n=4294967296*(v%2^n):=by
  rw[W0t,<-W1a,show 32-n+n=32 by omega,W1f]
 rw[W1i,W0t (4294967296^m),W1i (u/2^n),j,i,W0t (4294967296^m),W0z (4294967296^m)]
 have e:4294967296^m*u=4294967296^m*(u/2^n*2^n)+4294967296^m*(u%2^n):=by
  rw[<-W0z];congr 1;rw[W1f (u/2^n)];exact(W2s ..).symm
 omega
theorem Xgw{n x:Nat}(hx:(dig x).length<=549755813888)(A:n<32): CO0 417 [.d (ws (dig x)),.d (.int .i64 n)] λv ob=>∃l,l.length=(dig x).length+1/\Xao l/\val l=x*2^n/\v=.own 1000000 1 0 l.length/\ob=.arr 1 (l.map wd):=by
 have hp:=W0r n
 have hp32:2^n<=2147483648:=by have:2^n<=2^31:=W0m (by decide) (by omega);omega
 refine EnW Tryz.func417 λ_ _ _ _=>?_
 refine Ar ((dig x).length+1:Nat) rfl ?_ (wr (by simp only[lw];omega) (by simp only[inK];omega))
 refine Mk ((dig x).length+1) rfl (by omega) ?_
 refine Lo (λ(i,lo)=>[(1,.d (.int .i64 n)),(5,.own 12 1 0 ((dig x).length+1)),(13,.d (ws (dig x))),(14,.d (.int .i64 (dig x).length)),(15,.d (.int .i64 (i:Nat)))]) (λ(_,lo)=>[(12,.arr 1 (lo.map wd))])
  (λ(i,lo)=>i<=(dig x).length/\lo.length=(dig x).length+1/\Xao lo/\val (lo.take (i+1))=val ((dig x).take i)*2^n/\∃w,lo[i]?=some w/\w<2^n) (λ(i,_)=>(dig x).length-i) (0,List.replicate ((dig x).length+1) 0) [] rfl
  ⟨by omega,by simp,Xfk _,by rw[W5l,Xbq];simp[val],0,by simp,hp⟩ ?_ (by exact⟨by simp only[lw,ws];rfl,by simp only[W2i];rfl,rfl,rfl,rfl⟩)
 rintro⟨i,lo⟩ ⟨hi,Q,B,j,w,hw,T⟩
 refine By rfl (λh=>?_) λh=>?_
 . obtain⟨u,U⟩:=xat (l:=dig x) (k:=i) (by omega)
   have I:=ww U (Xad x)
   have V:=Ycy I A
   have o:=Xdy u n (by omega)
   obtain⟨s,hs⟩:∃s,s=u*2^n:=⟨_,rfl⟩
   have M:=Xh3 hs.symm (by omega) (by omega:n<=64)
   rw[<-hs] at V o
   have Y:w|||s%4294967296=s%4294967296+w:=by rw[Nat.or_comm,o];exact Xdm _ _ _ T
   have O:s%4294967296+w<4294967296:=by
    rw[o]
    have h1:u%2^(32-n)+1<=2^(32-n):=W2b _ (W0r _)
    have h2:=W0x (2^n) h1
    rw[<-W1a,show 32-n+n=32 by omega,W3b] at h2
    omega
   refine Ix i rfl (mp U)<|Go.Vm.Cv u rfl ?_
   refine Ar s rfl ?_ M
   refine Eo i rfl (by omega)<|Ld (wd w) rfl (mp hw) ?_
   refine Go.Vm.Cv (s%4294967296:Nat) rfl ?_ (by rw[wWm];omega)
   refine Ar (s%4294967296+w:Nat) rfl ?_ (Ync (by omega) (by omega) Y O)
   refine Eo i rfl (by omega)<|Sto rfl (by simp only[lw];omega) ms ?_
   refine Ar (i+1:Nat) rfl ?_
   refine Ar (s/4294967296:Nat) rfl ?_ (Xh2 (n:=32) (by decide))
   refine Go.Vm.Cv (s/4294967296:Nat) rfl ?_
   refine Eo (i+1) rfl (by omega)<|Sto rfl (by simp only[W0i,W3o];omega) ms ?_
   refine Ar (i+1:Nat) rfl ?_
   refine Bk (i+1,(lo.set i (s%4294967296+w)).set (i+1) (s/4294967296)) [] rfl ⟨by omega,by simp[Q],Xgv (Xgv B O) (by omega),?_,s/4294967296,by rw[W2n (by rw[W3o];omega)],?_⟩ (by show _-(i+1)<_-i;omega)
   . rw[Xbd (by rw[W3o];omega),Xbd (by omega),Xac U,W1i,<-j,Xac hw,W0t,<-hs,W0q,W0z,W0t]
     have e:4294967296^i*s=4294967296^i*(s%4294967296)+4294967296^i*(4294967296*(s/4294967296)):=by rw[<-W0z];congr 1;omega
     omega
   . rw[W2u (by decide),hs,W1f]
     exact Nat.mul_lt_mul_of_pos_left I hp
 . have Z:i=(dig x).length:=by omega
   rw[Z,W0b (by omega),W0b (by omega),Xaf] at j
   exact Rw [(12,1000000)] [(1000000,.arr 1 (lo.map wd))] rfl (.one (.rf rfl) rfl rfl) ⟨_,rfl,lo,Q,B,j,by rw[Q];rfl,rfl⟩
theorem Xfs{n:Nat}{l:List Nat}(hw:Xao l)(hx:l.length<=549755813888)(B:n<32): C0 420 [.d (ws l),.d (.int .i64 n)] λv=>∃V,val V=val l/2^n/\Xao V/\V.length=l.length/\v=.d (ws V):=by
 have hp:=W0r n
 have hp32:2^n<=2147483648:=by have:2^n<=2^31:=W0m (by decide) (by omega);omega
 refine En Tryz.func420 λ_ _ _=>?_
 refine Mk l.length rfl (by simp only[lw];omega) ?_ (by simp only[lw])
 refine Lo (λ(i,lo)=>[(0,.d (ws l)),(1,.d (.int .i64 n)),(5,.own 10 1 0 l.length),(11,.d (ws l)),(12,.d (.int .i64 l.length)),(13,.d (.int .i64 (i:Nat)))]) (λ(_,lo)=>[(10,.arr 1 (lo.map wd))])
  (λ(i,lo)=>i<=l.length/\lo.length=l.length/\Xao lo/\val (lo.take i)*2^n+val l%2^n=val (l.take i)+4294967296^i*(l.getD i 0%2^n)) (λ(i,_)=>l.length-i) (0,List.replicate l.length 0) [] rfl
  ⟨by omega,by simp,Xfk _,by simp[val,Xhr l n (by omega)]⟩ ?_ (by exact⟨by simp only[lw,ws];rfl,by simp only[W2i];rfl,rfl,rfl,rfl⟩)
 rintro⟨i,lo⟩ ⟨hi,Z,I,j⟩
 refine By rfl (λh=>?_) λh=>?_
 . obtain⟨u,Y⟩:=xat (l:=l) (k:=i) (by omega)
   have M:=ww Y hw
   have O:u/2^n<4294967296:=W1y (W4j ..) M
   have hgu:l.getD i 0=u:=by rw[W2x,Y];rfl
   rw[hgu] at j
   refine Ix i rfl (mp Y)<|Ar (u/2^n:Nat) rfl ?_ (Xh2 (show n<=32 by omega))
   refine Eo i rfl (by omega)<|Sto rfl (by simp only[lw];omega) ms ?_
   refine Ar (i+1:Nat) rfl ?_
   refine Cu none (λo:List Nat=>[(0,.d (ws l)),(1,.d (.int .i64 n)),(5,.own 10 1 0 l.length),(11,.d (ws l)),(12,.d (.int .i64 l.length)),(13,.d (.int .i64 i))]) (λo=>[(10,.arr 1 (o.map wd))])
    (λo=>∃v,l.getD (i+1) 0=v/\o=lo.set i (u/2^n+(v%2^n)*2^(32-n))/\u/2^n+(v%2^n)*2^(32-n)<4294967296) rfl ?_ ?_
   . refine By rfl (λh2=>?_) λh2=>?_<;>simp only[lw] at h2
     . obtain⟨v,Q⟩:=xat (l:=l) (k:=i+1) (by omega)
       have hvb:=ww Q hw
       have A:=Xmx (v:=v) M B
       have T:v*2^(32-n)<18446744073709551616:=by
        have h1:2^(32-n)<=2^32:=W0m (by decide) (by omega)
        have h2:v*2^(32-n)<=4294967295*2^32:=W1z (by omega) h1
        omega
       obtain⟨s,hs⟩:∃s,s=v*2^(32-n):=⟨_,rfl⟩
       have U:=Xh3 hs.symm (by omega) (by omega:32-n<=64)
       rw[<-hs] at A T
       refine Dw rfl<|Eo i rfl (by omega)<|Ld (wd (u/2^n)) rfl (mp (W2n (by omega))) ?_
       refine Ar (i+1:Nat) rfl ?_
       refine Ix (i+1) rfl (mp Q)<|Go.Vm.Cv v rfl ?_
       refine Ar (32-n:Nat) rfl ?_
       refine Ar s rfl ?_ U
       refine Go.Vm.Cv (s%4294967296:Nat) rfl ?_ (by rw[wWm];omega)
       refine Ar (u/2^n+(v%2^n)*2^(32-n):Nat) rfl ?_ (Ync O (by omega) A.1 A.2)
       refine Eo i rfl (by omega)<|Sto rfl (by simp only[W0i,W3o];omega) ms ?_
       exact Jn (lo.set i (u/2^n+(v%2^n)*2^(32-n))) [] rfl ⟨v,by rw[W2x,Q];rfl,rfl,A.2⟩ (by exact⟨rfl,by rw[List.set_set];rfl,rfl,rfl,rfl⟩)
     . exact Jn (lo.set i (u/2^n)) [] rfl ⟨0,by rw[W2x,W2f (by omega)];rfl,by simp,by simp;exact O⟩
   rintro o ⟨v,Q,rfl,hlt⟩
   refine Ar (i+1:Nat) rfl ?_
   refine Bk (i+1,lo.set i (u/2^n+(v%2^n)*2^(32-n))) [] rfl ⟨by omega,by simp[Z],Xgv I hlt,?_⟩ (by show _-(i+1)<_-i;omega)
   rw[Xbd (by omega),Xac Y,Q]
   exact Xq6 B j
 . have him:i=l.length:=by omega
   rw[him,W0b (by omega),W0b (by omega),W2x,W2f (by omega)] at j
   refine Rt rfl (.one (.own rfl (by simp only[lw];omega) (oa Z)) rfl rfl) ⟨lo,?_,I,Z,rfl⟩
   simp at j
   have:=W2s (val l) (2^n)
   rw[W1f] at this
   exact Nat.eq_of_mul_eq_mul_right hp (by omega)
theorem Xl5{x y:Nat}(Z:(dig x).length<=549755813888)(hy:y<4294967296)(T:y≠0): C0 415 [.d (ws (dig x)),.d (.int .u32 y)] (·=.tup (.pr (.d (ws (dig (x/y)))) (.d (ws (dig (x%y)))))):=by
 refine En Tryz.func415 λ_ _ _=>?_
 refine Mk (dig x).length rfl (by simp only[lw];omega) ?_ (by simp only[lw])
 refine Ar ((dig x).length-1:Int) rfl ?_ (wr (by simp only[lw]) (by simp only[inK];omega))
 refine Lo (λ(k,lo,r)=>[(0,.d (ws (dig x))),(1,.d (.int .u32 y)),(6,.own 11 1 0 (dig x).length),(7,.d (.int .u64 (r:Nat))),(8,.d (.int .i64 ((k:Nat)-1:Int)))]) (λ(_,lo,_)=>[(11,.arr 1 (lo.map wd))])
  (λ(k,lo,r)=>k<=(dig x).length/\lo.length=(dig x).length/\Xao lo/\r<y/\val (lo.drop k)*y+r=val ((dig x).drop k)) (λ(k,_,_)=>k) ((dig x).length,List.replicate (dig x).length 0,0) [] rfl
  ⟨by omega,by simp,Xfk _,by omega,by rw[W1o (by simp),W1o (by omega)];simp[val]⟩ ?_ (by exact⟨rfl,by simp only[W2i];rfl,rfl,rfl,rfl⟩)
 rintro⟨k,lo,r⟩ ⟨hk,O,o,Q,i⟩
 refine By rfl (λh=>?_) λh=>?_
 . obtain⟨u,B⟩:=xat (l:=dig x) (k:=k-1) (by omega)
   have U:=ww B (Xad x)
   obtain⟨s,hs⟩:∃s,s=r*2^32+u:=⟨_,rfl⟩
   have j:s<18446744073709551616:=by omega
   have A:s/y<4294967296:=by
    rw[W2u (by omega)]
    have:=W0x 4294967296 (show r+1<=y by omega)
    omega
   have I:s%y<y:=W2b _ (by omega)
   have V:0<=s/y:=W0s _
   refine Ar (r*2^32:Nat) rfl ?_ (Xh3 (n:=32) rfl (by omega) (by decide))
   refine Ix (k-1) rfl (mp B)<|Go.Vm.Cv u rfl ?_
   refine Ar s rfl ?_ (Ydj (by omega) (by omega) (by rw[Xdm u r 32 (by omega),<-hs]) j)
   refine Go.Vm.Cv y rfl ?_
   refine Ar (s/y:Nat) rfl ?_ (show _/\_ from⟨by omega,Yeu s y j⟩)
   refine Go.Vm.Cv (s/y:Nat) rfl ?_ (wW ⟨W5n _,W7d.2 A⟩)
   refine Eo (k-1) rfl (by omega)<|Sto rfl (by simp only[lw];omega) ms ?_
   refine Go.Vm.Cv y rfl ?_
   refine Ar (s%y:Nat) rfl ?_ (show _/\_ from⟨by omega,Xuo s y⟩)
   refine Ar ((k-1:Nat)-1:Int) rfl ?_
   refine Bk (k-1,lo.set (k-1) (s/y),s%y) [] rfl ⟨by omega,by simp[O],Xgv o A,I,?_⟩ (by show k-1<k;omega)
   rw[Xbs B,show k-1+1=k by omega,<-i,drop_set (by omega),val,show k-1+1=k by omega]
   have e:=W2s s y
   rw[W1f] at e
   rw[W1i,W0z,W0t]
   omega
 . have M:k=0:=by omega
   subst M
   rw[W0y,W0y,Xaf] at i
   have hq:x/y=val lo:=by rw[<-i,W1f,Nat.mul_add_div (by omega),W5m Q,W2r]
   have Y:x%y=r:=by rw[<-i,W1f,Nat.mul_add_mod,W3v Q]
   refine Fz 9 6 (lo.map wd) rfl (by simp only[lw];omega) (oa O) ?_
   refine Ce rfl (Xaz o (by omega))<|Ce rfl (Xce (n:=r) (by omega)) ?_
   subst Y
   exact RTt rfl (.cons (.eq (by rw[hq])) (.one (.rf rfl) (λ_ _ e=>by cases e) (λ_ _ e=>by cases e)))
theorem Xta{x:Nat}(U:x<4294967296): C0 449 [.d (.int .u32 x)] (·=.d (.int .i64 (bl x))):=by
 refine En Tryz.func449 λ_ _ _=>?_
 refine Cu none (λ((i,n1):Nat×Nat)=>[(0,.d (.int .u32 i)),(2,.d (.int .i64 n1))]) (λ_=>[]) (λ(i,n1)=>i<65536/\bl x=bl i+n1/\n1<=16) rfl ?_ λ⟨i,n1⟩ ⟨M,A,O⟩=>?_
 . refine By rfl (λh=>?_) λh=>?_
   . refine Ar (x/2^16:Nat) rfl ?_ (Xh2 (n:=16) (by decide))
     exact Jn (x/2^16,16) [] rfl ⟨by omega,Xe0 (by omega),W0c _⟩
   . exact Jn (x,0) [] rfl ⟨by omega,rfl,by omega⟩
 refine Cu none (λ((i,n1):Nat×Nat)=>[(0,.d (.int .u32 i)),(2,.d (.int .i64 n1))]) (λ_=>[]) (λ(i,n1)=>i<256/\bl x=bl i+n1/\n1<=24) rfl ?_ λ⟨o,V⟩ ⟨B,Q,T⟩=>?_
 . refine By rfl (λh=>?_) λh=>?_
   . refine Ar (i/2^8:Nat) rfl ?_ (Xh2 (n:=8) (by decide))
     refine Ar (n1+8:Nat) rfl ?_
     exact Jn (i/2^8,n1+8) [] rfl ⟨by omega,by rw[A,Xe0 (n:=i) (k:=8) (by omega)];omega,by omega⟩
   . exact Jn (i,n1) [] rfl ⟨by omega,A,by omega⟩
 have I:bl o<256:=W0u (Yd4 (p:=λj=>bl j<10) (by decide +kernel) o B) (by decide)
 refine Go.Vm.Cv o rfl ?_
 refine Yx o (UInt8.ofNat (bl o)) rfl (by revert B;generalize o=j;revert j;decide +kernel) ?_
 refine Go.Vm.Cv (bl o:Nat) rfl ?_ ((wI ⟨by omega,by rw[Xzn I];omega⟩).trans (Xzn I))
 refine Ar (bl x:Nat) rfl ?_
 exact R0
theorem Xgu{x:Nat}(i:x<4294967296)(h0:x≠0): C0 416 [.d (.int .u32 x)] λv=>∃n:Nat,v=.d (.int .i64 n)/\n<32/\2147483648<=x*2^n/\x*2^n<4294967296:=by
 obtain⟨j,A,B⟩:=Xck h0
 have o:bl x<=32:=by
  have:2^(bl x-1)<2^32:=W1y j i
  have:=(W2w (by decide:1<2)).1 this
  omega
 refine En Tryz.func416 λ_ _ _=>?_
 refine Ce rfl (Xta i)<|Ar (32-bl x:Nat) rfl ?_
 refine Rt rfl (.one (.rf rfl) rfl rfl) ⟨32-bl x,rfl,by omega,?_,?_⟩
 . have h:=W0x (2^(32-bl x)) j
   rw[<-W1a,show bl x-1+(32-bl x)=31 by omega] at h
   exact h
 . have h:=W3n A (W0r (32-bl x))
   rw[<-W1a,show bl x+(32-bl x)=32 by omega] at h
   exact h
end
section
open Go.RowKit Go.Shelf
attribute [local go_sem] Oper.semAt_some
abbrev Wd:={ x:Nat // x<4294967296 }
def bk(zs:List Wd)(k:Nat): List (Nat×Wd):=(List.range k).map λj=>(zs.length-1-j,zs[zs.length-1-j]?.getD ⟨0,by decide⟩)
theorem Yhm(zs:List Wd)(k:Nat): bk zs (k+1)=bk zs k++[(zs.length-1-k,zs[zs.length-1-k]?.getD ⟨0,by decide⟩)]:=by simp[bk,W7w]
theorem Xyo(zs:List Wd)(k:Nat): (bk zs k).length=k:=by simp[bk]
structure Kq (n₀ Bs:Nat) (A B:World):Prop where
 a:Below n₀ A B
 b:B.heap[Bs]?=A.heap[Bs]?
theorem Kq.refl(h Bs:Nat)(A:World): Kq h Bs A A:=⟨Below.refl _ _,rfl⟩
theorem Kq.trans{i Bs:Nat}{A B C:World}(h:Kq i Bs A B)(k:Kq i Bs B C): Kq i Bs A C:=⟨h.a.trans k.a,k.b.trans h.b⟩
set_option maxRecDepth 100000 in
set_option maxHeartbeats 2000000 in
theorem Yb3(F:Fence)(n:Nat)(h8:F.fn 219)(hro:F.round=none)(hn:1<=n)(l Bs n₀ b off cap:Nat)(zs:List Wd)(hreach:zs.length*4<=140737488351232)(hb:b<n₀)(J Jx:List (Nat×Wd)->World->Prop)
 (hY:∀pre x W,J pre W->pre.length<zs.length->YieldAt F (n-1) Tryz.prog l #[.int .i64 (x.1:Int),.int .u32 (x.2.1:Int)] W λe W' =>
  (e=.returned (.bool true)/\J (pre++[x]) W'/\Kq n₀ Bs W W')\/(e=.returned (.bool false)/\Jx (pre++[x]) W'))
 (W:World) (hBs:W.cell? ⟨Bs,0,none⟩=some (.slice (some ⟨b,off,none⟩) zs.length cap)) (hc:∀j,j<zs.length->W.cell? ⟨b,off+j,none⟩=some (.int .u32 ((zs[j]?.getD ⟨0,by decide⟩).1:Int))) (h0:J [] W) :
 CallsIn F n Tryz.prog 219 #[.func (.yield l) #[] #[],.pointer (some ⟨Bs,0,none⟩)] W λe W'=>(∃v,e=.returned v) /\
  ((∃ys,ys=bk zs zs.length/\J ys W')\/(∃pre,True/\Jx pre W')):=by
 refine callsIn_of_wp Tryz.func219 rfl h8 ?_ hro
 simp only[Tryz.ntmps219,W6m,W0j,W3e,Nat.reduceAdd,Nat.reduceSub,W5v,W5w,W6n,W6e,W4i,W3q]
 gi_wp2
 gi_loopw [3] (λi wr=>∃k:Nat,k<=zs.length/\i=.int .i64 ((zs.length:Int)-1-k)/\J (bk zs k) wr/\Kq n₀ Bs W wr)
  (λi _=>(intOf i+1).toNat)
 case atStart=>exact⟨0,W0s _,by simp,h0,Kq.refl _ _ _⟩
 case round =>
  obtain⟨k,hk,rfl,hJs,hnx⟩:=hrel
  have hBs':=(World.cell?_of_block hnx.b).trans hBs
  by_cases hlt:k<zs.length
  . obtain⟨q,hq⟩:∃q,q+(k+1)=zs.length:=⟨zs.length-1-k,by omega⟩
    have hqi:((zs.length:Int)-1-k)=(q:Int):=by omega
    have hcx:=(hnx.a.cell (p:=⟨b,off+q,none⟩) hb).trans (hc q (by omega))
    obtain⟨fn,tmps,assign,body,hy,hR⟩:=hY _ (q,zs[q]?.getD ⟨0,by decide⟩) wr hJs (by rw[Xyo];exact hlt)
    dsimp only at hy
    rw[hqi]
    gi_wp2
    refine hR.mono ?_
    rintro e W3 (⟨rfl,hJ3,hk3⟩ | ⟨rfl,hJx3⟩)
    . gi_wp2
      go_roundw
      case rel=>exact⟨k+1,by omega,by congr 1;omega,by rw[Yhm,show zs.length-1-k=q by omega];exact hJ3,hnx.trans hk3⟩
      case measure=>simp[intOf]
    . gi_wp2
      refine bodyPost_ret (results_none rfl _ _ _) rfl ?_
      exact⟨⟨_,rfl⟩,.inr ⟨_,trivial,hJx3⟩⟩
  . obtain rfl:k=zs.length:=by omega
    rw[show ((zs.length:Int)-1-(zs.length:Int))=-1 by omega]
    gi_wp2
    go_end0
    exact⟨⟨_,rfl⟩,.inl ⟨_,rfl,hJs⟩⟩
set_option maxRecDepth 100000 in
set_option maxHeartbeats 1000000 in
theorem Xoe(F:Fence)(n:Nat)(h8:F.fn 219)(hro:F.round=none)(l Bs:Nat)(J:List (Nat×Wd)->World->Prop)(W:World){p:Option Addr}{c:Nat}(hBs:W.cell? ⟨Bs,0,none⟩=some (.slice p 0 c))(h0:J [] W):
 CallsIn F n Tryz.prog 219 #[.func (.yield l) #[] #[],.pointer (some ⟨Bs,0,none⟩)] W λe W'=>(∃v,e=.returned v)/\J [] W':=by
 refine callsIn_of_wp Tryz.func219 rfl h8 ?_ hro
 simp only[Tryz.ntmps219,W6m,W0j,W3e,Nat.reduceAdd,Nat.reduceSub,W5v,W5w,W6n,W6e,W4i,W3q]
 gi_wp2
 gi_loopw [3] (λi wr=>i=.int .i64 (-1)/\J [] wr) (λ_ _=>0)
 case atStart=>exact⟨rfl,h0⟩
 case round =>
  obtain⟨rfl,hJs⟩:=hrel
  gi_wp2
  go_end0
  exact⟨⟨_,rfl⟩,hJs⟩
set_option maxHeartbeats 1000000 in
theorem Xp2(F:Fence)(n:Nat)(h6:F.fn 135)(hro:F.round=none)(a:Option Addr)(len cap:Nat)(w:World):
 CallsIn F n Tryz.prog 135 #[.slice a len cap] w λe w'=>e=.returned (.func (.func 219) #[] #[.pointer (some ⟨w.heap.size,0,none⟩)])/\w'=w.alloc (.cells #[.slice a len cap] 53):=by
 refine callsIn_of_wp Tryz.func135 rfl h6 ?_ hro
 simp only[Tryz.ntmps135,W6m,W0j,W3e,Nat.reduceAdd,Nat.reduceSub,W5v,W5w,W6n,W6e,W4i,W3q]
 gi_wp2
 go_ret
 exact⟨rfl,rfl⟩
theorem Xt0(F:Fence)(n:Nat)(Q:F.fn 219)(A:F.round=none)(U:1<=n)(Bs h:Nat)(p:Option Addr)(cap:Nat)(zs:List Wd)(i:zs.length*4<=140737488351232)(w:World)(I:Bs<w.heap.size)(o:h<=w.heap.size)
 (V:w.cell? ⟨Bs,0,none⟩=some (.slice p zs.length cap)) (Y:zs=[]\/∃b off,p=some ⟨b,off,none⟩/\b<h/\∀j,j<zs.length->w.cell? ⟨b,off+j,none⟩=some (.int .u32 ((zs[j]?.getD ⟨0,by decide⟩).1:Int))) :
 SeqStopsK F n Tryz.prog 219 #[.pointer (some ⟨Bs,0,none⟩)] (λx:Nat×Wd=>#[Value.int .i64 (x.1:Int),Value.int .u32 (x.2.1:Int)]) (Kq h Bs) (λys=>ys=bk zs zs.length)
  (λ_=>True) zs.length w:=λl J Jx W T _ _ Z h0=>by
 have B:=(T.cell (p:=⟨Bs,0,none⟩) I).trans V
 rcases Y with rfl | ⟨b,off,rfl,hb,M⟩
 . exact(Xoe F n Q A l Bs J W B h0).mono λe W' ⟨he,O⟩=>⟨he,.inl ⟨_,rfl,O⟩⟩
 . exact Yb3 F n Q A U l Bs h b off cap zs i hb J Jx Z W B (λj O=>(T.cell (p:=⟨b,off+j,none⟩) (W0u hb o)).trans (M j O)) h0
def acc: List (Nat×Wd)->Nat:=List.foldl (λa x=>(a*4294967296)%18446744073709551616+x.2.1) 0
theorem Yb8(pre:List (Nat×Wd))(x:Nat×Wd): acc (pre++[x])=(acc pre*4294967296)%18446744073709551616+x.2.1:=by simp[acc]
theorem Yhn{p q:Nat}(hp:p<18446744073709551616)(hq:q<18446744073709551616): bits .or .u64 (p:Int) (q:Int)=IntKind.u64.wrap ((p|||q:Nat):Int):=by
 show IntKind.u64.wrap _=_
 congr 2
 exact Ype hp hq
theorem Ymq{a x:Nat}(j:x<4294967296): bits .or .u64 (IntKind.u64.wrap ((a:Int)*4294967296)) (IntKind.u64.wrap (x:Int))=(((a*4294967296)%18446744073709551616+x:Nat):Int):=by
 have h:IntKind.u64.wrap ((a:Int)*4294967296)=(((a*4294967296)%18446744073709551616:Nat):Int):=(wUm _).trans (by omega)
 have i:a*4294967296%18446744073709551616=(a%4294967296)*2^32:=by omega
 rw[h,wU (x:=(x:Int)) (by omega),Yhn (by omega) (by omega),i,Xdm x (a%4294967296) 32 (by omega),wU (by omega)]
theorem Xws{i Bs N:Nat}(W:World)(l:Nat)(o:Obj)(A:N<=l)(B:i<=N)(I:Bs<N)(h:W.heap[l]?=some o)(j:Obj): Kq i Bs W (W.putObj l j) :=
 ⟨(Below.refl i W).grown (grownBy_putObj' W l j) (by have:=(W3x.1 h).1;omega) (λk e=>by cases e;omega),World.putObj_heap_other (by omega)⟩
set_option maxRecDepth 100000 in
set_option maxHeartbeats 2000000 in
theorem Xup(F:Fence)(n:Nat)(h3:F.fn 362)(h5:F.fn 135)(h7:F.fn 219)(hro:F.round=none)(hn:3<=n)(p:Option Addr)(cap:Nat)(zs:List Wd)(hreach:zs.length*4<=140737488351232)(w:World)
 (hI:zs=[]\/∃b off,p=some ⟨b,off,none⟩/\b<w.heap.size/\∀j,j<zs.length->w.cell? ⟨b,off+j,none⟩=some (.int .u32 ((zs[j]?.getD ⟨0,by decide⟩).1:Int))) :
 CallsIn F n Tryz.prog 362 #[.slice p zs.length cap] w λe W'=>e=.returned (.int .u64 (acc (bk zs zs.length):Int))/\Below w.heap.size w W':=by
 have h1:1<=n:=by omega
 refine callsIn_of_wp_marks Tryz.func362 rfl h3 ?_ hro
 simp only[Tryz.ntmps362,W6m,W0j,W3e,Nat.reduceAdd,Nat.reduceSub,W5v,W5w,W6n,W6e,W4i,W3q]
 gi_wp2_with (gi_at_call 135;refine(Xp2 F (n-1) h5 hro _ _ _ _).mono ?_;rintro e w' ⟨rfl,rfl⟩)
 have bS:=Boxed.new w 181 (.int .u64 0)
 have bN:=Boxed.new (w.alloc (.cells #[.int .u64 0] 181)) 53 (.slice p zs.length cap)
 rw[World.size_alloc] at bN
 have hB0:Below w.heap.size w ((w.alloc (.cells #[.int .u64 0] 181)).alloc (.cells #[.slice p zs.length cap] 53)):=((Below.refl _ w).alloc (W0c _) _).alloc (by simp) _
 refine wpIn_rangeFunc_ownG hro h1 (gf:=219) (lb:=#[.pointer (some ⟨w.heap.size+1,0,none⟩)]) rfl h7 (enters_of Tryz.func219 (by kernel_rfl) rfl)
  (Xt0 F (n-1) h7 hro (by omega) (w.heap.size+1) w.heap.size p cap zs hreach _ (by simp) (by simp;omega) bN.cell (hI.imp_right λ⟨b,off,h1,h2,h3⟩=>⟨b,off,h1,h2,λj hj=>(hB0.cell (p:=⟨b,off+j,none⟩) h2).trans (h3 j hj)⟩)) Kq.trans (λW l o o' hl h _ _=>Xws W l o hl (by simp;omega) (by simp) h o') (Below.refl _ _) (λ_=>rfl)
  (λpre W=>(W.cell? ⟨w.heap.size,0,none⟩=some (.int .u64 (acc pre:Int))/\W.frozen? ⟨w.heap.size,0,none⟩=false)/\Below w.heap.size w W)
  (λ_ _ _=>False)
  (OwnFrom.and (Own.from (λs A B row hs hg hr=>⟨cell_kept hs.1 hg hr,(frozen_kept hs.1 hg hr).trans hs.2⟩) _) (ownFrom_below (W0c _) (by simp;omega)))
  (λ_ _ _ _ _ hs _ _=>hs)
  ⟨⟨(bS.alloc _).cell,(bS.alloc _).frozen⟩,hB0⟩
  (λx=>{ tmps:=#[.slice p zs.length cap,undef,.int .u64 0,.pointer (some ⟨w.heap.size,0,none⟩),undef,.int .u32 (x.2.1:Int),.slice p zs.length cap,.func (.func 219) #[] #[.pointer (some ⟨w.heap.size+1,0,none⟩)],.int .i64 (x.1:Int),.int .u32 (x.2.1:Int),undef,undef,undef,undef,undef,undef],defers:=[] }) ?assign ?body ?done ?stop
 case assign =>
  intro l x W K hK
  gi_wp2
  exact hK
 case body =>
  rintro l pre x W ⟨⟨hc,hf⟩,hB⟩ _
  gi_wp2
  rw[Ymq x.2.2,<-Yb8]
  exact⟨(KeepsOthers.setCell _ _ _).from _,⟨(Below.refl w.heap.size W).setCell (p:=⟨w.heap.size,0,none⟩) (W0c _) _,Below.heap_setCell _ _ _ _ (by simp)⟩,⟨World.cell?_setCell_same' _ _ _ (by rw[hc];rfl),by rw[World.frozen?_setCell];exact hf⟩,hB.setCell (p:=⟨w.heap.size,0,none⟩) (W0c _) _⟩
 case done =>
  rintro D ys W hD rfl ⟨⟨hc,_⟩,hB⟩ hK
  gi_wp2
  refine⟨by simp,.inl ⟨_,_,rfl,run_takeDeferred hK,?_⟩⟩
  exact⟨_,results_tmp rfl _ _ _,rfl,hB.trans (belowK_b (w:=w) (W0c _) W D _ _ (by simp at hD;omega) hK rfl rfl)⟩
 case stop =>
  rintro D c pre W _ _ h _
  exact h.elim
theorem wds{l:List Nat}(h:Xao l): ∃zs:List Wd,zs.map (·.1)=l :=
 by
 induction l with
 | nil=>exact⟨[],rfl⟩
 | cons a l i =>
  obtain⟨zs,j⟩:=i λx o=>h x (W1b _ o)
  exact⟨⟨a,h a (W0v ..)⟩::zs,by rw[W3t,j]⟩
theorem Yhw{zs:List Wd}{x:Nat}(h:zs.map (·.1)=dig x)(o:x<18446744073709551616): acc (bk zs zs.length)=x:=by
 have j:(dig x).length<=2:=Xaq (by omega)
 have i:=Xaf x
 rw[<-h] at j i
 match zs,j with
 | [],_=>simpa [bk,acc,val] using i
 | [a],_ =>
  have ha:=a.2
  simp[val] at i
  simp[bk,acc,W7w]
  omega
 | [a,b],_ =>
  have ha:=a.2
  have hb:=b.2
  simp[val] at i
  simp[bk,acc,W7w]
  omega
theorem Xhj{W:Vm.GW}{w':World}(h:Below W.w.heap.size W.w w'): ∃W':Vm.GW,W'.w=w'/\Vm.Fm W W' (λ_=>False) :=
 ⟨⟨w', W.A, λb i k => W0u (W.hA b i k) h.size⟩, rfl,
   { os := h.os, out := h.output, tape := h.tape, size := h.size, same := λb hb _ => h.block b hb, A := λ_ _ _ _ => W4f
     le:=λb i v j=>⟨by
      have hb:b<W.w.heap.size:=by
       apply W1g
       intro o
       have:=j.1
       simp only[World.cell?] at this
       rw[W4b (by omega)] at this
       cases this
      exact(World.cell?_of_block (h.block b hb)).trans j.1,j.2⟩ }⟩
theorem Xfq{x:Nat}(Q:x<18446744073709551616): C0 362 [.d (ws (dig x))] (·=.d (.int .u64 x)):=by
 obtain⟨zs,M⟩:=wds (Xad x)
 have T:(dig x).length<=2:=Xaq (by omega)
 refine⟨⟨_,Tryz.func362,rfl,rfl⟩,λW U _ ha=>?_⟩
 match U,ha with
 | [v],ha =>
  obtain⟨p,c,rfl,V,Y,B⟩:=Vm.V_sl ha.1
  have O:((dig x).map wd).length=zs.length:=by rw[<-M];simp
  rw[O]
  refine(callsIn_wide (n:=3)).1 ((Xup Fence.wide 3 trivial trivial trivial rfl (W0c _) p c zs (by rw[<-M,W0i] at T;omega) W.w ?_).mono ?_)
  . rcases B with h0 | ⟨b,off,hp,Z⟩
    . left
      have:=congrArg List.length h0
      rw[O] at this
      exact W0n (by simpa using this)
    . have o:∀j,j<zs.length->W.w.cell? ⟨b,off+j,none⟩=some (.int .u32 ((zs[j]?.getD ⟨0,by decide⟩).1:Int)):=λj hj=>by
       obtain⟨z,I⟩:∃z,zs[j]?=some z:=⟨_,W0a hj⟩
       obtain⟨e,A,h2,h3⟩:=Vm.D.row_get Z (i:=j) (x:=wd z.1) (by rw[<-M];simp[I])
       have A:e=[.int .u32 z.1]:=A.1
       have:=(h3 0 (.int .u32 z.1) (by rw[A];rfl)).1
       rw[I]
       simpa using this
      by_cases h0:zs=[]
      . exact .inl h0
      . refine .inr ⟨b,off,hp,?_,o⟩
        have A:=o 0 (W4o.2 h0)
        apply W1g
        intro hn
        simp only[World.cell?] at A
        rw[W4b (by omega)] at A
        cases A
  . rintro e w' ⟨rfl,hB⟩
    obtain⟨W',hw,hE⟩:=Xhj hB
    refine⟨W',.d (.int .u64 x),_,rfl,hw,hE,?_,λ_ h=>h,rfl⟩
    rw[Yhw M Q]
    exact Vm.int_V (by show IntKind.u64.wrap _=_;exact wU (by omega))
end
section
theorem Yom{a b:Nat}(ha:a<4294967296)(hb:b<4294967296): a*b<=18446744065119617025:=by
 have:=W1z (show a<=4294967295 by omega) (show b<=4294967295 by omega)
 omega
theorem Xou{q k y d:Nat}{l:List Nat}(hw:Xao l)(hq:q+(k+1)<=l.length)(hk:(dig y).length=k)(hd:d<4294967296)(hk40:k<=1099511627776):
 CW0 418 [.own 1000001 1 q (k+1),.d (ws (dig y)),.d (.int .u64 d)] [(1000001,.arr 1 (l.map wd))] λv H'=>∃(c:Nat) (T:List Nat),c<=1/\v=.b (dc (c=1))/\H'=[(1000001,.arr 1 (T.map wd))]/\T.length=l.length/\Xao T /\
  (∀j,(j<q\/q+(k+1)<=j)->T[j]?=l[j]?)/\val ((T.drop q).take (k+1))+y*d=val ((l.drop q).take (k+1))+4294967296^(k+1)*c:=by
 refine EnW Tryz.func418 λ_ _ _ _=>?_
 refine Lo (λ(i,lo,A)=>[(0,.own 1000001 1 q (k+1)),(1,.d (ws (dig y))),(2,.d (.int .u64 d)),(7,.d (.int .u64 (A:Nat))),(13,.d (ws (dig y))),(14,.d (.int .i64 k)),(15,.d (.int .i64 (i:Nat)))]) (λ(_,lo,_)=>[(1000001,.arr 1 (lo.map wd))])
  (λ(i,lo,A)=>i<=k/\lo.length=l.length/\Xao lo/\A<4294967296/\(∀j,(j<q\/q+i<=j)->lo[j]?=l[j]?)/\val ((lo.drop q).take i)+val ((dig y).take i)*d=val ((l.drop q).take i)+4294967296^i*A) (λ(i,_,_)=>k-i) (0,l,0) [] rfl
  ⟨by omega,rfl,hw,by omega,λ_ _=>rfl,by simp[val]⟩ ?_ (by exact⟨by simp only[lw,ws,hk];rfl,rfl,rfl,rfl,rfl⟩)
 rintro⟨i,lo,A⟩ ⟨hi,hl,B,hbr,o,I⟩
 refine By rfl (λh=>?_) λh=>?_
 . obtain⟨w,M⟩:=xat (l:=dig y) (k:=i) (by omega)
   have U:=ww M (Xad y)
   obtain⟨u,O⟩:=xat (l:=lo) (k:=q+i) (by omega)
   have V:=ww O B
   have hwd:=Yom U hd
   obtain⟨s,hs⟩:∃s,s=w*d+A:=⟨_,rfl⟩
   obtain⟨t,ht⟩:∃t,t=(u+18446744073709551616-s%4294967296)%18446744073709551616:=⟨_,rfl⟩
   refine Ix i rfl (mp M)<|Go.Vm.Cv w rfl ?_
   refine Ar (w*d:Nat) rfl ?_ (wr (W2z ..).symm (by simp only[inK];omega))
   refine Ar s rfl ?_
   refine El i rfl (by omega) ?_
   refine Ld (wd u) rfl (mp O) ?_
   refine Go.Vm.Cv u rfl ?_
   refine Go.Vm.Cv (s%4294967296:Nat) rfl ?_ (by rw[wWm];omega)
   refine Go.Vm.Cv (s%4294967296:Nat) rfl ?_
   refine Ar t rfl ?_ (by show _=_;rw[wUm];omega)
   refine Go.Vm.Cv (t%4294967296:Nat) rfl ?_ (by rw[wWm];omega)
   refine El i rfl (by omega) ?_
   refine Sto rfl (by simp only[lw];omega) ms ?_
   refine Ar (s/4294967296:Nat) rfl ?_ (Xh2 (n:=32) (by decide))
   refine Ar (t/9223372036854775808:Nat) rfl ?_ (Xh2 (n:=63) (by decide))
   refine Ar (s/4294967296+t/9223372036854775808:Nat) rfl ?_
   refine Ar (i+1:Nat) rfl ?_
   refine Bk (i+1,lo.set (q+i) (t%4294967296),s/4294967296+t/9223372036854775808) [] rfl ⟨by omega,by simp[hl],Xgv B (by omega),by omega,λj hj=>by rw[W1v (by omega)];exact o j (by omega),?_⟩ (by show k-(i+1)<k-i;omega)
   have Q:l[q+i]?=some u:=by rw[<-o (q+i) (.inr (W0c _))];exact O
   have Y:t%4294967296+s=u+4294967296*(s/4294967296+t/9223372036854775808):=by omega
   rw[Xfm (by omega),Xac M,Xb2 Q,W0q,W0t,W1i,W0t]
   have e:4294967296^i*(t%4294967296+s)=4294967296^i*(u+4294967296*(s/4294967296+t/9223372036854775808)):=by rw[Y]
   have e2:4294967296^i*s=4294967296^i*(w*d)+4294967296^i*A:=by rw[hs,W0z]
   rw[W0z,W0z (4294967296^i) u] at e
   omega
 . have Z:i=k:=by omega
   rw[Z] at o I
   rw[W0b (l:=dig y) (by omega),Xaf] at I
   obtain⟨u,O⟩:=xat (l:=lo) (k:=q+k) (by omega)
   have V:=ww O B
   obtain⟨t,ht⟩:∃t,t=(u+18446744073709551616-A)%18446744073709551616:=⟨_,rfl⟩
   refine El k rfl (by omega) ?_ (by simp only[lw];omega)
   refine Ld (wd u) rfl (mp O) ?_
   refine Go.Vm.Cv u rfl ?_
   refine Ar t rfl ?_ (by show _=_;rw[wUm];omega)
   refine Go.Vm.Cv (t%4294967296:Nat) rfl ?_ (by rw[wWm];omega)
   refine El k rfl (by omega) ?_ (by simp only[lw];omega)
   refine Sto rfl (by simp only[lw];omega) ms ?_
   refine Ar (t/9223372036854775808:Nat) rfl ?_ (Xh2 (n:=63) (by decide))
   have Q:l[q+k]?=some u:=by rw[<-o (q+k) (.inr (W0c _))];exact O
   refine Rw [] [(1000001,.arr 1 ((lo.set (q+k) (t%4294967296)).map wd))] rfl (.one (.rf rfl) rfl rfl) ⟨t/9223372036854775808,_,by omega,?_,rfl,by simp[hl],Xgv B (by omega),λj hj=>by rw[W1v (by omega)];exact o j (by omega),?_⟩
   . congr 1;exact congrArg dc (propext (by constructor<;>intro<;>omega))
   . rw[Xfm (by omega),Xb2 Q,W0q,W0t]
     have e:4294967296^k*(t%4294967296+A)=4294967296^k*(u+4294967296*(t/9223372036854775808)):=by congr 1;omega
     rw[W0z,W0z (4294967296^k) u] at e
     omega
theorem Xtj{q k y:Nat}{l:List Nat}(hw:Xao l)(hq:q+(k+1)<=l.length)(hk:(dig y).length=k)(Y:k<=1099511627776):
 CW0 419 [.own 1000001 1 q (k+1),.d (ws (dig y))] [(1000001,.arr 1 (l.map wd))] λv H'=>∃(e:Nat) (T:List Nat),e<=1/\H'=[(1000001,.arr 1 (T.map wd))]/\T.length=l.length/\Xao T /\
  (∀j,(j<q\/q+(k+1)<=j)->T[j]?=l[j]?)/\val ((T.drop q).take (k+1))+4294967296^(k+1)*e=val ((l.drop q).take (k+1))+y:=by
 refine EnW Tryz.func419 λ_ _ _ _=>?_
 refine Lo (λ(i,lo,A)=>[(0,.own 1000001 1 q (k+1)),(1,.d (ws (dig y))),(4,.d (.int .u64 (A:Nat))),(7,.d (ws (dig y))),(8,.d (.int .i64 k)),(9,.d (.int .i64 (i:Nat)))]) (λ(_,lo,_)=>[(1000001,.arr 1 (lo.map wd))])
  (λ(i,lo,A)=>i<=k/\lo.length=l.length/\Xao lo/\A<=1/\(∀j,(j<q\/q+i<=j)->lo[j]?=l[j]?)/\val ((lo.drop q).take i)+4294967296^i*A=val ((l.drop q).take i)+val ((dig y).take i)) (λ(i,_,_)=>k-i) (0,l,0) [] rfl
  ⟨by omega,rfl,hw,by omega,λ_ _=>rfl,by simp[val]⟩ ?_ (by exact⟨by simp only[lw,ws,hk];rfl,rfl,rfl,rfl,rfl⟩)
 rintro⟨i,lo,A⟩ ⟨hi,Z,B,hcr,o,I⟩
 refine By rfl (λh=>?_) λh=>?_
 . obtain⟨w,M⟩:=xat (l:=dig y) (k:=i) (by omega)
   have hwb:=ww M (Xad y)
   obtain⟨u,O⟩:=xat (l:=lo) (k:=q+i) (by omega)
   have U:=ww O B
   obtain⟨s,hs⟩:∃s,s=A+(u+w):=⟨_,rfl⟩
   refine Ix i rfl (mp M)<|El i rfl (by omega) ?_
   refine Ld (wd u) rfl (mp O) ?_
   refine Go.Vm.Cv u rfl ?_
   refine Go.Vm.Cv w rfl ?_
   refine Ar (u+w:Nat) rfl ?_
   refine Ar s rfl ?_
   refine Go.Vm.Cv (s%4294967296:Nat) rfl ?_ (by rw[wWm];omega)
   refine El i rfl (by omega) ?_
   refine Sto rfl (by simp only[lw];omega) ms ?_
   refine Ar (s/4294967296:Nat) rfl ?_ (Xh2 (n:=32) (by decide))
   refine Ar (i+1:Nat) rfl ?_
   refine Bk (i+1,lo.set (q+i) (s%4294967296),s/4294967296) [] rfl ⟨by omega,by simp[Z],Xgv B (by omega),by omega,λj hj=>by rw[W1v (by omega)];exact o j (by omega),?_⟩ (by show k-(i+1)<k-i;omega)
   have Q:l[q+i]?=some u:=by rw[<-o (q+i) (.inr (W0c _))];exact O
   rw[Xfm (by omega),Xac M,Xb2 Q,W0q,W0t]
   have e:4294967296^i*(s%4294967296+4294967296*(s/4294967296))=4294967296^i*(A+(u+w)):=by congr 1;omega
   simp only[W0z] at e
   omega
 . have V:i=k:=by omega
   rw[V] at o I
   rw[W0b (l:=dig y) (by omega),Xaf] at I
   obtain⟨u,O⟩:=xat (l:=lo) (k:=q+k) (by omega)
   have U:=ww O B
   refine El k rfl (by omega) ?_ (by simp only[lw];omega)
   refine Ld (wd u) rfl (mp O) ?_
   refine Go.Vm.Cv A rfl ?_
   refine Ar ((u+A)%4294967296:Nat) rfl ?_ (by show _=_;rw[wWm];omega)
   refine El k rfl (by omega) ?_ (by simp only[lw];omega)
   refine Sto rfl (by simp only[lw];omega) ms ?_
   have Q:l[q+k]?=some u:=by rw[<-o (q+k) (.inr (W0c _))];exact O
   refine Rw [] [(1000001,.arr 1 ((lo.set (q+k) ((u+A)%4294967296)).map wd))] rfl (.tup (.one (.rf rfl) (λ_ _ e=>by cases e) (λ_ _ e=>by cases e))) ⟨(u+A)/4294967296,_,by omega,rfl,by simp[Z],Xgv B (by omega),λj hj=>by rw[W1v (by omega)];exact o j (by omega),?_⟩
   rw[Xfm (by omega),Xb2 Q,W0q,W0t]
   have e:4294967296^k*((u+A)%4294967296+4294967296*((u+A)/4294967296))=4294967296^k*(u+A):=by congr 1;omega
   simp only[W0z] at e
   omega
theorem Xji{n x:Nat}(i:(dig x).length<=549755813888)(h:n<32): C0 417 [.d (ws (dig x)),.d (.int .i64 n)] λv=>∃l,l.length=(dig x).length+1/\Xao l/\val l=x*2^n/\v=.d (ws l) :=
 CW.data (Xgw i h) rfl λv H' ⟨M,e,l,j,o,A,B,I⟩=>⟨.d (ws l),by rw[B,e,I];exact .one (.own rfl (by simp) (oa rfl)) rfl rfl,l,j,o,A,rfl⟩
theorem Xr3{y n:Nat}(Y:y≠0){t:Nat}(Z:(dig y)[(dig y).length-1]?=some t)(B:2147483648<=t*2^n)(Q:t*2^n<4294967296):
 (dig (y*2^n)).length=(dig y).length/\∃i,(dig (y*2^n))[(dig y).length-1]?=some i/\2147483648<=i:=by
 have hl:(dig y).length≠0:=λh=>Y (Xtv.1 (W0n h))
 have hs:=Xac Z
 rw[show (dig y).length-1+1=(dig y).length by omega,W1x,Xaf] at hs
 have I:=Xbx ((Xad y).take ((dig y).length-1))
 rw[W0k,W2d (by omega)] at I
 generalize hk:(dig y).length-1=k at *
 have T:4294967296^k*2147483648<=y*2^n:=by
  rw[hs,W1i,W0t]
  have:=W0p (4294967296^k) B
  omega
 have M:y*2^n<4294967296^(k+1):=by
  have e:y+1<=4294967296^k*(t+1):=by rw[hs,W0z];omega
  have e2:t*2^n+2^n<=4294967296:=by
   have hd:2^n ∣ 4294967296:=by
    have U:n<32:=by
     have:2^n<2^32:=by
      have:=Nat.le_mul_of_pos_left (2^n) (show 0<t by rcases W2o t with h | h;rw[h] at B;simp at B;exact h)
      omega
     exact(W2w (by decide:1<2)).1 this
    exact⟨2^(32-n),by rw[<-W1a,show n+(32-n)=32 by omega]⟩
   obtain⟨q,hq⟩:=hd
   rw[hq,W1f t] at Q
   have:=Nat.lt_of_mul_lt_mul_left Q
   rw[hq,W1f t,<-Nat.mul_succ]
   exact W0p _ this
  have V:=W0x (2^n) e
  rw[W0t,W1i t,W7o] at V
  have e4:=W0p (4294967296^k) e2
  have hp:=W0r n
  rw[W1i,W7o] at V
  rw[W0q]
  omega
 have j:(dig (y*2^n)).length=(dig y).length:=by
  have h3:=Xaq M
  have h4:k<(dig (y*2^n)).length:=by
   apply W1g
   intro U
   have:=Xc1 (y*2^n)
   have h5:4294967296^(dig (y*2^n)).length<=4294967296^k:=W0m (by decide) (by omega)
   have:4294967296^k<=4294967296^k*2147483648:=W4k _ (by decide)
   omega
  omega
 refine⟨j,?_⟩
 obtain⟨i,o⟩:=xat (l:=dig (y*2^n)) (k:=k) (by omega)
 refine⟨i,o,?_⟩
 have O:=Xac o
 rw[show k+1=(dig (y*2^n)).length by omega,W1x,Xaf] at O
 have A:=Xbx ((Xad (y*2^n)).take k)
 rw[W0k,W2d (by omega)] at A
 apply W1g
 intro U
 have:4294967296^k*(i+1)<=4294967296^k*2147483648:=W0p _ (by omega)
 rw[W0z] at this
 omega
theorem Ycj{h:List Nat}{i n:Nat}{Y:Nat}(A:Xao h)(hi:i+n<h.length)(B:val (h.drop (i+1))<Y)(I:Y<=4294967296^n):
 val (h.drop i)=val ((h.drop i).take (n+1))/\val (h.drop i)<4294967296*Y:=by
 obtain⟨u,o⟩:=xat (l:=h) (k:=i) (by omega)
 have M:=A u (W0e o)
 have O:=Xbs o
 have Q:val (h.drop i)<4294967296*Y:=by
  rw[O]
  have:=W0p 4294967296 (show val (h.drop (i+1))+1<=Y from B)
  omega
 refine⟨?_,Q⟩
 have T:=Xbi (h.drop i) (n+1) (by rw[W1n];omega)
 rw[T]
 have U:val (h.drop i)<4294967296^(n+1):=by
  have:=W0p 4294967296 I
  rw[W0q,W1f (4294967296^n)]
  omega
 rcases W2o (val ((h.drop i).drop (n+1))) with j | j
 . rw[j,W3i,W2r]
 . have:=W4k (4294967296^(n+1)) j
   omega
theorem Xew{l m:List Nat}{k:Nat}(h:∀j,k<=j->l[j]?=m[j]?): l.drop k=m.drop k:=by
 apply W5u
 intro i
 rw[W2h,W2h]
 exact h _ (by omega)
theorem Yis(M low h i j:Nat): low+M*j+M*4294967296*i+M*4294967296*4294967296*h=low+M*(j+4294967296*(h*2^32+i)):=by
 grind
theorem Ybv{x y:Nat}: Xa5 (x:Int) (y:Int)<0↔x<y:=by
 unfold Xa5
 split
 . constructor<;>intro<;>omega
 . split
   . constructor<;>intro<;>omega
   . constructor<;>intro<;>omega
theorem Xxx{x y Y s Q R:Nat}(i:y*2^s=Y)(h:Q*Y+R=x*2^s)(j:R<Y): Q=x/y/\R=x%y*2^s:=by
 have o:Q=(x*2^s)/(y*2^s):=by
  rw[i,<-h,W1f,Nat.mul_add_div (by omega),W5m j,W2r]
 have A:R=(x*2^s)%(y*2^s):=by
  rw[i,<-h,W1f,Nat.mul_add_mod,W3v j]
 rw[Nat.mul_div_mul_right _ _ (W0r s)] at o
 rw[Nat.mul_mod_mul_right] at A
 exact⟨o,A⟩
theorem Xx4{U Y M low Z i j Q h dd r:Nat}(hY0:Y≠0)(hM:0<M)(B:U=low+M*(Z+4294967296*i))(I:Y=j+M*(Q+4294967296*h))(V:U<4294967296*Y)(o:j<M)(O:Q<4294967296)(htt:2147483648<=h)
 (T:(dd-1)*h+(r+h)=i) (hr:4294967296<=r+h) (hUq:U/Y<dd):dd-1<4294967296/\U/Y<=dd-1/\dd-1<=U/Y+1:=by
 have A:dd-1<4294967296:=by
  apply W1g
  intro hn2
  have h1:=W0x h (show 4294967296<=dd-1 by omega)
  have h2:i<4294967296*h+4294967296:=by
   apply W1g
   intro hn3
   have h3:M*(4294967296*(4294967296*h+4294967296))<=M*(4294967296*i):=W0p _ (W0p _ (by omega))
   have h4:Y<M*(4294967296*h+4294967296):=by
    rw[I]
    have:M*(Q+4294967296*h+1)<=M*(4294967296*h+4294967296):=W0p _ (by omega)
    rw[W0z M _ 1,W4c] at this
    omega
   have h5:M*(4294967296*(4294967296*h+4294967296))=4294967296*(M*(4294967296*h+4294967296)):=by grind
   have h6:M*(4294967296*i)<=U:=by rw[B,W0z];omega
   omega
  omega
 refine⟨A,by omega,?_⟩
 rw[B,I]
 refine Yd7 (r:=r+h) hM o T ?_ A (by omega)
 have h1:=Yom (a:=dd-1) (b:=Q) A O
 omega
theorem Xcu{x y:Nat}(hx:(dig x).length<=549755813888)(hy:(dig y).length<=549755813888)(hy0:y≠0): C0 361 [.d (ws (dig x)),.d (ws (dig y))] (·=.tup (.pr (.d (ws (dig (x/y)))) (.d (ws (dig (x%y)))))):=by
 refine En Tryz.func361 λ_ _ _=>?_
 refine Ce rfl (Xb0 (by omega))<|By rfl (λh=>?_) λh=>?_
 . have hlt:x<y:=Ybv.1 h
   exact Ce rfl (Xbl (by omega))<|RTt rfl (.cons (.nil (by rw[W5m hlt,Xaj];rfl)) (.one (.eq (by rw[W3v hlt])) (λ_ _ e=>by cases e) (λ_ _ e=>by cases e)))
 have hge:y<=x:=W4m λhlt=>h (Ybv.2 hlt)
 have hlenle:=Xan hge
 refine By rfl (λQ=>?_) λQ=>?_<;>simp only[lw] at Q
 . have hx64:x<18446744073709551616:=by
    have:=Xc1 x
    have h1:4294967296^(dig x).length<=4294967296^2:=W0m (by decide) (by omega)
    omega
   refine Ce rfl (Xfq hx64)<|Ce rfl (Xfq (by omega)) ?_
   have hq64:x/y<18446744073709551616:=W1y (W4j ..) hx64
   have hr64:x%y<18446744073709551616:=W1y (Nat.mod_le ..) hx64
   refine Dw rfl<|Ar (x/y:Nat) rfl ?_ (show _/\_ from⟨by omega,Yeu x y hx64⟩)
   refine Ce rfl (Xce hq64)<|Ar (x%y:Nat) rfl ?_ (show _/\_ from⟨by omega,Xuo x y⟩)
   exact Ce rfl (Xce hr64)<|R0t
 refine By rfl (λh3=>?_) λh3=>?_<;>simp only[lw] at h3
 . obtain⟨t,ht⟩:=xat (l:=dig y) (k:=0) (by omega)
   have htb:=ww ht (Xad y)
   have hyt:y=t:=by
    have:=Xac ht
    rw[W0b (by omega),Xaf] at this
    simpa [val] using this
   exact Ix 0 rfl (mp ht)<|Ce rfl (Xl5 (y:=t) hx htb (by omega))<|RTt rfl (.cons (.eq (by rw[hyt])) (.one (.eq (by rw[hyt])) (λ_ _ e=>by cases e) (λ_ _ e=>by cases e)))
 have hy2:2<=(dig y).length:=by
  have:(dig y).length≠0:=λh=>hy0 (Xtv.1 (W0n h))
  omega
 obtain⟨t,ht⟩:=xat (l:=dig y) (k:=(dig y).length-1) (by omega)
 have htb:=ww ht (Xad y)
 have ht0:t≠0:=by
  rcases Xg9 y with h | ⟨t2,Q,h3⟩
  . rw[h] at hy2;simp at hy2
  . rw[ht] at Q;injection Q with Q;rw[Q];exact h3
 refine Ar ((dig y).length-1:Nat) rfl ?_ (wr (by simp only[lw];omega) (by simp only[inK];omega))
 refine Ix ((dig y).length-1) rfl (mp ht)<|Ca rfl (Xgu htb ht0) λv hv=>?_
 obtain⟨s,rfl,hs32,hs1,hs2⟩:=hv
 obtain⟨hlen,B,ht',htt⟩:=Xr3 hy0 ht hs1 hs2
 refine Co rfl (Xgw hx hs32) λv ob hv=>?_
 obtain⟨o,hul,huw,huv,rfl,rfl⟩:=hv
 refine Ca rfl (Xji hy hs32) λv hv=>?_
 obtain⟨lv,hvl,hvw,hvv,rfl⟩:=hv
 obtain⟨Y,hY⟩:∃Y,Y=y*2^s:=⟨_,rfl⟩
 rw[<-hY] at hlen ht' hvv
 refine Ce (r:=.d (ws (dig Y))) rfl (by have:=Xaz hvw (by omega);rwa[hvv] at this) ?_
 obtain⟨mv,hmv⟩:∃mv,mv=(dig Y).length:=⟨_,rfl⟩
 have hq0:o.length-mv<=549755813889:=by omega
 refine Ar (o.length-mv:Nat) rfl ?_ (wr (by simp only[lw];omega) (by simp only[inK];omega))
 refine Mk (o.length-mv) rfl (by omega) ?_
 obtain⟨tn,htn⟩:=xat (l:=dig Y) (k:=mv-2) (by omega)
 have htnb:=ww htn (Xad Y)
 have ht1:(dig Y)[mv-1]?=some B:=by rw[hmv,hlen];exact ht'
 have htb1:=ww ht1 (Xad Y)
 refine Dw rfl<|Ar (mv-1:Nat) rfl ?_ (wr (by simp only[lw];omega) (by simp only[inK];omega))
 refine Ix (mv-1) rfl (mp ht1)<|Go.Vm.Cv B rfl ?_
 refine Ar (mv-2:Nat) rfl ?_ (wr (by simp only[lw];omega) (by simp only[inK];omega))
 refine Ix (mv-2) rfl (mp htn)<|Go.Vm.Cv tn rfl ?_
 refine Ar ((o.length-mv:Nat)-1:Int) rfl ?_
 have hY0:Y≠0:=by rw[hY];exact Nat.mul_ne_zero hy0 (W8f.1 (W0r s))
 have hYl:=Xc1 Y
 have hYM:Y=val ((dig Y).take (mv-2))+4294967296^(mv-2)*(tn+4294967296*B):=by
  have h1:=Xac htn
  have Q:=Xac (k:=mv-2+1) (l:=dig Y) (x:=B) (by rw[show mv-2+1=mv-1 by omega];exact ht1)
  rw[show mv-2+1+1=(dig Y).length by omega,W1x,Xaf,h1,W0q,W0t] at Q
  rw[W0z];omega
 have T:val ((dig Y).take (mv-2))<4294967296^(mv-2):=by
  have:=Xbx ((Xad Y).take (mv-2))
  rwa[W0k,W2d (by omega)] at this
 have hM:0<4294967296^(mv-2):=W6u (by decide)
 have hR0:val (o.drop (o.length-mv))<Y:=by
  have h1:=Xbi o (o.length-mv) (by omega)
  rw[huv] at h1
  have Q:=Xn0 hy0
  have h3:=Xc1 x
  have hp:=W0r s
  apply W1g
  intro hn2
  have h4:4294967296^(o.length-mv)*Y<=x*2^s:=by
   rw[h1]
   have:=W0p (4294967296^(o.length-mv)) (W4m hn2)
   omega
  rw[hY,<-W0t] at h4
  have h5:=Nat.le_of_mul_le_mul_right h4 hp
  have h6:=W0p (4294967296^(o.length-mv)) Q
  rw[<-W1a,show o.length-mv+((dig y).length-1)=(dig x).length by omega] at h6
  omega
 refine Lo (λ(k,I,lq)=>[(8,.d (.int .i64 s)),(9,.own 62 1 0 o.length),(10,.d (ws (dig Y))),(11,.d (.int .i64 mv)),(12,.own 73 1 0 (o.length-mv)),(13,.d (.int .u64 B)),(14,.d (.int .u64 tn)),(15,.d (.int .i64 ((k:Nat)-1:Int)))]) (λ(_,I,lq)=>[(62,.arr 1 (I.map wd)),(73,.arr 1 (lq.map wd))])
  (λ(k,I,lq)=>k<=o.length-mv/\I.length=o.length/\Xao I/\lq.length=o.length-mv/\Xao lq/\(∀j,j<k->I[j]?=o[j]?)/\val (I.drop k)<Y/\val (lq.drop k)*Y+val (I.drop k)=val (o.drop k)) (λ(k,_,_)=>k) (o.length-mv,o,List.replicate (o.length-mv) 0) [] rfl
  ⟨by omega,rfl,huw,by simp,Xfk _,λ_ _=>rfl,hR0,by rw[W1o (by simp)];simp[val]⟩ ?_ (by exact⟨by simp only[lw,ws,hmv];rfl,by simp only[W2i];rfl,rfl,rfl,rfl⟩)
 rintro⟨k,I,lq⟩ ⟨hk,hln,Z,hlq,hwq,hsame,hRlt,hQR⟩
 refine By rfl (λh=>?_) λh=>?_
 . obtain⟨u0,hu0⟩:=xat (l:=I) (k:=k-1+mv) (by omega)
   obtain⟨u1,hu1⟩:=xat (l:=I) (k:=k-1+mv-1) (by omega)
   obtain⟨u2,hu2⟩:=xat (l:=I) (k:=k-1+mv-2) (by omega)
   have hub0:=ww hu0 Z
   have hub1:=ww hu1 Z
   have hub2:=ww hu2 Z
   obtain⟨hwin,hUlt⟩:=Ycj (n:=mv) (i:=k-1) (Y:=Y) Z (by omega) (by rw[show k-1+1=k by omega];exact hRlt) (by rw[hmv];exact W2e hYl)
   have hUM:val (I.drop (k-1))=val ((I.drop (k-1)).take (mv-2))+4294967296^(mv-2)*(u2+4294967296*(u0*2^32+u1)):=by
    have g1:=Xb2 (l:=I) (q:=k-1) (i:=mv-2) (u:=u2) (by rw[show k-1+(mv-2)=k-1+mv-2 by omega];exact hu2)
    have g2:=Xb2 (l:=I) (q:=k-1) (i:=mv-2+1) (u:=u1) (by rw[show k-1+(mv-2+1)=k-1+mv-1 by omega];exact hu1)
    have g3:=Xb2 (l:=I) (q:=k-1) (i:=mv-2+1+1) (u:=u0) (by rw[show k-1+(mv-2+1+1)=k-1+mv by omega];exact hu0)
    rw[show mv-2+1+1+1=mv+1 by omega,g2,g1,<-hwin] at g3
    rw[g3,W0q,W0q]
    exact Yis ..
   have hlow:val ((I.drop (k-1)).take (mv-2))<4294967296^(mv-2):=by
    have:=Xbx ((Z.drop (k-1)).take (mv-2))
    rwa[W0k,W1n,W2d (by omega)] at this
   obtain⟨U,hU⟩:∃U,U=val (I.drop (k-1)):=⟨_,rfl⟩
   obtain⟨low,hlowg⟩:∃low,low=val ((I.drop (k-1)).take (mv-2)):=⟨_,rfl⟩
   obtain⟨vlow,hvlowg⟩:∃vlow,vlow=val ((dig Y).take (mv-2)):=⟨_,rfl⟩
   obtain⟨M,hMg⟩:∃M,M=4294967296^(mv-2):=⟨_,rfl⟩
   obtain⟨A,htop⟩:∃A,A=u0*2^32+u1:=⟨_,rfl⟩
   have htopb:A<18446744073709551616:=by omega
   rw[<-hU] at hwin hUlt hUM
   rw[<-hMg,<-hlowg,<-htop] at hUM
   rw[<-hMg,<-hvlowg] at hYM
   rw[<-hMg,<-hlowg] at hlow
   rw[<-hMg,<-hvlowg] at T
   rw[<-hMg] at hM
   refine Dw rfl<|Ar (k-1+mv:Nat) rfl ?_
   refine Eo (k-1+mv) rfl (by omega)<|Ld (wd u0) rfl (mp hu0) ?_
   refine Go.Vm.Cv u0 rfl ?_
   refine Ar (u0*2^32:Nat) rfl ?_ (Xh3 (n:=32) rfl (by omega) (by decide))
   refine Ar (k-1+mv:Nat) rfl ?_
   refine Ar (k-1+mv-1:Nat) rfl ?_
   refine Eo (k-1+mv-1) rfl (by omega)<|Ld (wd u1) rfl (mp hu1) ?_
   refine Go.Vm.Cv u1 rfl ?_
   refine Ar A rfl ?_ (Ydj (by omega) (by omega) (by rw[Xdm u1 u0 32 (by omega),<-htop]) htopb)
   have hd63:A/B<9223372036854775808:=by
    rw[W2u (by omega)]
    have:=W0p 9223372036854775808 htt
    omega
   have hr63:A%B<B:=W2b _ (by omega)
   have hdz:0<=A/B:=W0s _
   refine Dw rfl<|Ar (A/B:Nat) rfl ?_ (show _/\_ from⟨by omega,Yeu A B htopb⟩)
   refine Ar (A%B:Nat) rfl ?_ (show _/\_ from⟨by omega,Xuo A B⟩)
   have hqz:U/Y<=A/B:=by
    apply W4m
    intro hlt
    have h1:(A/B+1)*Y<=U:=by
     have:=W6w U Y
     exact W0l (W0x _ hlt) this
    have Q:=W2s A B
    have h4:(A/B+1)*B>=A+1:=by rw[W1i,W1f,W7o];omega
    have h5:(A/B+1)*(M*(4294967296*B))<=(A/B+1)*Y:=W0p _ (by rw[hYM,W0z];omega)
    have h6:(A/B+1)*(M*(4294967296*B))=M*(4294967296*((A/B+1)*B)):=by grind
    have h7:M*(4294967296*(A+1))<=M*(4294967296*((A/B+1)*B)):=W0p _ (W0p _ h4)
    have h8:M*(u2+4294967296*A+1)<=M*(4294967296*(A+1)):=W0p _ (by omega)
    rw[W0z M _ 1,W4c] at h8
    omega
   refine Cu (some 1000003) (λ(dd:Nat)=>[(8,.d (.int .i64 s)),(9,.own 62 1 0 o.length),(10,.d (ws (dig Y))),(11,.d (.int .i64 mv)),(12,.own 73 1 0 (o.length-mv)),(13,.d (.int .u64 B)),(14,.d (.int .u64 tn)),(15,.d (.int .i64 ((k:Nat)-1:Int))),(17,.d (.int .u64 dd))]) (λ_=>[(62,.arr 1 (I.map wd)),(73,.arr 1 (lq.map wd))])
    (λdd=>dd<4294967296/\U/Y<=dd/\dd<=U/Y+1) rfl ?_ λdd ⟨hdB,hdq,hdq1⟩=>?_
   . refine Lo (λ(dd,r)=>[(8,.d (.int .i64 s)),(9,.own 62 1 0 o.length),(10,.d (ws (dig Y))),(11,.d (.int .i64 mv)),(12,.own 73 1 0 (o.length-mv)),(13,.d (.int .u64 B)),(14,.d (.int .u64 tn)),(15,.d (.int .i64 ((k:Nat)-1:Int))),(17,.d (.int .u64 (dd:Nat))),(18,.d (.int .u64 (r:Nat)))]) (λ_=>[(62,.arr 1 (I.map wd)),(73,.arr 1 (lq.map wd))])
      (λ(dd,r)=>U/Y<=dd/\dd*B+r=A/\r<4294967296/\dd<9223372036854775808) (λ(dd,_)=>dd) (A/B,A%B) [] rfl ⟨hqz,by rw[W1f];exact W2s ..,by omega,hd63⟩ ?_
     rintro⟨dd,r⟩ ⟨hdq,hdt,hr,hd63⟩
     refine By rfl (λh1=>?_) λh1=>?_
     . have hUq:U/Y<dd:=Ylj hUlt (W2q hY0) (by omega)
       have hdd1:1<=dd:=W1y (W0s _) hUq
       have hdd:(dd-1)*B+(r+B)=A:=by
        obtain⟨e,rfl⟩:∃e,dd=e+1:=⟨dd-1,by omega⟩
        rw[W3m];rw[W1i,W7o] at hdt;omega
       refine Ar (dd-1:Nat) rfl ?_
       refine Ar (r+B:Nat) rfl ?_
       refine By rfl (λQ=>?_) λQ=>?_
       . exact Jn (dd-1) [] rfl (Xx4 hY0 hM hUM hYM hUlt T htnb htt hdd (by omega) hUq)
       . exact Bk (dd-1,r+B) [] rfl ⟨by omega,hdd,by omega,by omega⟩ (by show dd-1<dd;omega)
     . have htd:dd*tn<18446744073709551616:=by have:=Yom (a:=dd) (b:=tn) (by omega) htnb;omega
       refine Ar (dd*tn:Nat) rfl ?_ (wr (W2z ..).symm (by simp only[inK];omega))
       refine Ar (r*2^32:Nat) rfl ?_ (Xh3 (n:=32) rfl (by omega) (by decide))
       refine Ar (k-1+mv:Nat) rfl ?_
       refine Ar (k-1+mv-2:Nat) rfl ?_
       refine Eo (k-1+mv-2) rfl (by omega)<|Ld (wd u2) rfl (mp hu2) ?_
       refine Go.Vm.Cv u2 rfl ?_
       refine Ar (r*2^32+u2:Nat) rfl ?_ (Ydj (by omega) (by omega) (Xdm u2 r 32 (by omega)) (by omega))
       refine By rfl (λQ=>?_) λQ=>?_
       . have hUq:U/Y<dd:=by
          have h1:r*4294967296+u2<dd*tn:=W7d.1 Q
          have Q:=Yli hlow hM hdt h1 (by rw[<-hYM];exact W2q hY0)
          rwa[<-hUM,<-hYM] at Q
         have hdd1:1<=dd:=W1y (W0s _) hUq
         have hdd:(dd-1)*B+(r+B)=A:=by
          obtain⟨e,rfl⟩:∃e,dd=e+1:=⟨dd-1,by omega⟩
          rw[W3m];rw[W1i,W7o] at hdt;omega
         refine Ar (dd-1:Nat) rfl ?_
         refine Ar (r+B:Nat) rfl ?_
         refine By rfl (λQ=>?_) λQ=>?_
         . exact Jn (dd-1) [] rfl (Xx4 hY0 hM hUM hYM hUlt T htnb htt hdd (by omega) hUq)
         . exact Bk (dd-1,r+B) [] rfl ⟨by omega,hdd,by omega,by omega⟩ (by show dd-1<dd;omega)
       . exact Jn dd [] rfl ⟨by omega,hdq,by
          rw[hUM,hYM]
          exact Yd7 (r:=r) hM T hdt (by have Q:=Int.ofNat_le.1 (Int.not_lt.1 Q);omega) (by omega) (by omega)⟩
   refine Ar (k-1+mv:Nat) rfl ?_
   refine Ar (k-1+mv+1:Nat) rfl ?_
   refine Sw (k-1) (k-1+mv+1) rfl (by omega) (by omega) ?_
   refine Cw (args:=[.own 1000001 1 (k-1) (mv+1),.d (ws (dig Y)),.d (.int .u64 dd)]) [(1000001,62)] rfl (Xou (l:=I) Z (by omega) hmv.symm hdB (by omega)) (λv H' _ hv=>?_) (by exact congrArg (·::_) (by rw[W1j,show k-1+mv+1-(k-1)=mv+1 by omega];rfl))
   obtain⟨cc,lu1,hc1,rfl,rfl,hl1,hw1,hout1,hv1⟩:=hv
   have hwin1:=Xbx ((hw1.drop (k-1)).take (mv+1))
   have hwin0:=Xbx ((Z.drop (k-1)).take (mv+1))
   rw[W0k,W1n,W2d (by omega)] at hwin1 hwin0
   rw[<-hwin] at hv1 hwin0
   have hstep:=Ye3 (W2q hY0) hdq hdq1 hv1 hc1 hwin1 hwin0
   refine Cu none (λ(O:List Nat)=>[(8,.d (.int .i64 s)),(9,.own 62 1 0 o.length),(10,.d (ws (dig Y))),(11,.d (.int .i64 mv)),(12,.own 73 1 0 (o.length-mv)),(13,.d (.int .u64 B)),(14,.d (.int .u64 tn)),(15,.d (.int .i64 ((k:Nat)-1:Int))),(17,.d (.int .u64 (U/Y:Nat)))]) (λO=>[(62,.arr 1 (O.map wd)),(73,.arr 1 (lq.map wd))])
    (λO=>O.length=o.length/\Xao O/\(∀j,(j<k-1\/k-1+(mv+1)<=j)->O[j]?=I[j]?)/\val ((O.drop (k-1)).take (mv+1))=U%Y) rfl ?_ λO ⟨hl2,hw2,hout,hwinv⟩=>?_
   . refine By rfl (λh1=>?_) λh1=>?_
     . obtain⟨hdd1,V⟩:=hstep.2 h1
       refine Ar (U/Y:Nat) rfl ?_ (wr (by rw[hdd1];exact(by omega:((U/Y+1:Nat):Int)-1=((U/Y:Nat):Int))) (by simp only[inK];have:=W0s (U/Y);omega))
       refine Ar (k-1+mv:Nat) rfl ?_
       refine Ar (k-1+mv+1:Nat) rfl ?_
       refine Sw (k-1) (k-1+mv+1) rfl (by omega) (by omega) ?_
       refine Cw (args:=[.own 1000001 1 (k-1) (mv+1),.d (ws (dig Y))]) [(1000001,62)] rfl (Xtj (l:=lu1) hw1 (by omega) hmv.symm (by omega)) (λv H' _ hv=>?_) (by exact congrArg (·::_) (by rw[W1j,show k-1+mv+1-(k-1)=mv+1 by omega];rfl))
       obtain⟨e',O,he1,rfl,hl2,hw2,hout2,hv2⟩:=hv
       have hwin2:=Xbx ((hw2.drop (k-1)).take (mv+1))
       rw[W0k,W1n,W2d (by omega)] at hwin2
       exact Jn O [] rfl ⟨by omega,hw2,λj hj=>(hout2 j hj).trans (hout1 j hj),V _ e' hwin2 hv2 he1⟩
     . obtain⟨hdd1,V⟩:=hstep.1 (by omega)
       subst hdd1
       exact Jn lu1 [] rfl ⟨by omega,hw1,hout1,V⟩
   have hqB:U/Y<4294967296:=by omega
   have hqz0:0<=U/Y:=W0s _
   refine Go.Vm.Cv (U/Y:Nat) rfl ?_
   refine Eo (k-1) rfl (by omega)<|Sto rfl (by simp only[lw];omega) ms ?_
   refine Ar ((k-1:Nat)-1:Int) rfl ?_
   have hY1:0<Y:=W2q hY0
   have hab:val (O.drop (k-1))=U%Y:=by
    have g1:=Xbi (O.drop (k-1)) (mv+1) (by rw[W1n];omega)
    have g2:=Xbi (I.drop (k-1)) (mv+1) (by rw[W1n];omega)
    have g3:(O.drop (k-1)).drop (mv+1)=(I.drop (k-1)).drop (mv+1):=by
     rw[W4u,W4u]
     exact Xew λj hj=>hout j (.inr hj)
    rw[<-hU,<-hwin] at g2
    rw[g1,hwinv,g3]
    omega
   refine Bk (k-1,O,lq.set (k-1) (U/Y)) [] rfl ⟨by omega,hl2,hw2,by simp[hlq],Xgv hwq hqB,λj hj=>(hout j (.inl hj)).trans (hsame j (by omega)),by rw[hab];exact W2b _ hY1,?_⟩ (by show k-1<k;omega)
   obtain⟨w,hw⟩:=xat (l:=I) (k:=k-1) (by omega)
   have hw2':o[k-1]?=some w:=by rw[<-hsame (k-1) (by omega)];exact hw
   have g1:=Xbs hw
   have g2:=Xbs hw2'
   have g3:=Xbs (l:=lq.set (k-1) (U/Y)) (k:=k-1) (W2n (by omega))
   have g4:(lq.set (k-1) (U/Y)).drop (k-1+1)=lq.drop (k-1+1):=Xew λj hj=>W1v (by omega)
   rw[show k-1+1=k by omega] at g1 g2 g3 g4
   rw[hab,g2,g3,g4,<-hQR,W1i,W0t,W0z]
   have g5:=W2s U Y
   rw[W1f] at g5
   rw[<-hU] at g1
   omega
 . have hk0:k=0:=by omega
   subst hk0
   rw[W0y] at hRlt hQR
   rw[W0y,W0y,huv] at hQR
   obtain⟨hQ,hR⟩:=Xxx hY.symm hQR hRlt
   have htk:val (I.take mv)=val I:=by
    have g:=Xbi I mv (by omega)
    rw[hmv] at g
    rcases W2o (val (I.drop (dig Y).length)) with h5 | h5
    . rw[h5,W3i] at g;rw[hmv];omega
    . have:=W4k (4294967296^(dig Y).length) h5
      omega
   refine Fz 26 12 (lq.map wd) rfl (by simp only[lw];omega) (oa hlq) ?_
   refine Fz 26 9 (I.map wd) rfl (by simp only[lw];omega) (oa hln) ?_
   refine Dw rfl<|Ce rfl (Xaz hwq (by omega))<|Tk mv (I.take mv |>.map wd) rfl rfl (by simp only[lw];omega) (W3d ..).symm ?_
   refine Ce rfl (Xaz (Z.take mv) (by rw[W0k];omega))<|Ca rfl (Xfs (Xad _) (by rw[htk];have:=Xan (W2e hRlt);omega) hs32) λv hv=>?_
   obtain⟨l8,hl8,hw8,hn8,rfl⟩:=hv
   rw[Xaf,htk,hR,Nat.mul_div_cancel _ (W0r s)] at hl8
   exact Ce rfl (Xaz hw8 (by rw[hn8,htk];have:=Xan (W2e hRlt);omega))<|RTt rfl (.cons (.eq (by rw[hQ])) (.one (.eq (by rw[hl8])) (λ_ _ e=>by cases e) (λ_ _ e=>by cases e)))
end
end Go.Proofs.YtcmjannkbdflmaaGreatDoor
namespace Go.Num
def rt: Nat->Nat
 | 0=>0
 | n+1=>if (rt n+1)*(rt n+1)<=n+1 then rt n+1 else rt n
theorem Xc7(n:Nat): rt n*rt n<=n/\n<(rt n+1)*(rt n+1):=by
 induction n with
 | zero=>exact⟨W0c _,by decide⟩
 | succ n i =>
  obtain⟨j,o⟩:=i
  simp only[rt]
  split
  . rename_i h
    refine⟨h,?_⟩
    have:(rt n+1+1)*(rt n+1+1)=(rt n+1)*(rt n+1)+2*(rt n+1)+1:=by grind
    omega
  . rename_i h
    exact⟨by omega,by omega⟩
theorem Xzt{x y:Nat}(h:x*x<y*y): x<y:=by
 by_cases i:x<y
 . exact i
 . have:=W1z (W4m i) (W4m i)
   omega
theorem Yjl{n s:Nat}(h:s*s<=n)(i:n<(s+1)*(s+1)): rt n=s:=by
 obtain⟨j,o⟩:=Xc7 n
 have A:rt n<s+1:=Xzt (by omega)
 have B:s<rt n+1:=Xzt (by omega)
 omega
theorem Yjk{n:Nat}(h:n≠0): 0<rt n:=by
 have:=(Xc7 n).2
 by_cases h0:rt n=0
 . rw[h0] at this;omega
 . omega
theorem Yds{a x:Nat}(i:0<x): rt a<=(x+a/x)/2:=by
 obtain⟨B,I⟩:=Xc7 a
 generalize rt a=s at *
 by_cases h:s<=(x+a/x)/2
 . exact h
 . exfalso
   have M:x+a/x+1<=2*s:=by omega
   have j:a<(a/x+1)*x:=by
    have:=W2s a x
    have:=W2b a i
    rw[W1i,W1f (a/x)];omega
   obtain⟨q,hq⟩:∃q,q=a/x+1:=⟨_,rfl⟩
   rw[<-hq] at j
   have O:x+q<=2*s:=by omega
   have Q:q*x<=s*s:=by
    by_cases o:x<=s
    . obtain⟨e,rfl⟩:∃e,s=x+e:=⟨s-x,by omega⟩
      have:q<=x+2*e:=by omega
      have T:=W0x x this
      have:(x+e)*(x+e)=(x+2*e)*x+e*e:=by grind
      omega
    . obtain⟨e,A⟩:∃e,x=s+e:=⟨x-s,by omega⟩
      subst A
      have U:q+e<=s:=by omega
      obtain⟨f,rfl⟩:∃f,s=q+e+f:=⟨s-q-e,by omega⟩
      have:(q+e+f)*(q+e+f)=q*(q+e+f+e)+(e*e+2*(e*f)+f*q+f*f):=by grind
      omega
   omega
theorem Xto{a x:Nat}(j:0<x)(h:x<=(x+a/x)/2)(hr:rt a<=x): rt a=x:=by
 have i:x<=a/x:=by omega
 have o:x*x<=a:=W0l (W0x x i) (W6w a x)
 have A:=(Xc7 a).2
 have B:x<rt a+1:=Xzt (by omega)
 omega
theorem Xvi{a B n:Nat}(h:a<2^B)(i:B<=2*n): rt a<2^n:=by
 refine Xzt ?_
 rw[<-W1a,<-Nat.two_mul]
 exact W1y (Xc7 a).1 (W0u h (W0m (by decide) i))
theorem Xie(n:Nat): 4294967296^(n/32)*2^(n%32)=2^n:=by
 rw[show (4294967296:Nat)=2^32 from rfl,<-W5a,<-W1a]
 congr 1
 omega
theorem Xpw(n:Nat): dig (2^n)=(List.replicate (n/32+1) 0).set (n/32) (2^(n%32)):=by
 have hb:2^(n%32)<4294967296:=W0u (W3y (by decide) (W2b n (by decide))) (by decide)
 have i:val ((List.replicate (n/32+1) 0).set (n/32) (2^(n%32)))=2^n:=by
  have:=Xbd (l:=List.replicate (n/32+1) 0) (k:=n/32) (d:=2^(n%32)) (by simp)
  rw[W0b (by simp),W5l,Xbq,W1j,Xie] at this
  exact this
 have j:Xao ((List.replicate (n/32+1) 0).set (n/32) (2^(n%32))):=by
  intro y o
  rcases W4d o with h | h
  . have:=W6c h;omega
  . omega
 rw[<-i]
 refine Xdg j (Xfp j (by simp) ?_)
 rw[i,W3o,W1w,W3m,<-Xie n]
 exact W4k _ (W0r _)
theorem Xat(a b:Int): (a<b/\Xa5 a b=-1)\/(a=b/\Xa5 a b=0)\/(b<a/\Xa5 a b=1):=by
 unfold Xa5
 split
 . left;exact⟨by assumption,rfl⟩
 . split
   . right;right;exact⟨by omega,rfl⟩
   . right;left;exact⟨by omega,rfl⟩
theorem Xfn{l:List Nat}{j x:Nat}(h:l[j]?=some x): val l=val (l.take j)+4294967296^j*(x+4294967296*val (l.drop (j+1))):=by
 have i:j<l.length:=(W1e.1 h).1
 rw[Xbi l j (by omega),Xbs h]
end Go.Num
namespace Go.Proofs.YtcmjannkbdflmaaGreatDoor
open Go Go.Vm Go.Num
section
theorem Xax(z:Int): (z<0/\z=-(z.natAbs:Int))\/(¬z<0/\z=(z.natAbs:Int)):=by omega
theorem Yc1(z:Int): sg (!decide (z<0)) z.natAbs=-z:=by
 rcases Xax z with ⟨h,e⟩ | ⟨h,e⟩<;>simp[sg,h]<;>omega
theorem Yc2(x y:Int): sg (decide (x<0) != decide (y<0)) (x.natAbs*y.natAbs)=x*y:=by
 rcases Xax x with ⟨h,e⟩ | ⟨h,e⟩<;>rcases Xax y with ⟨i,j⟩ | ⟨i,j⟩ <;>
  (simp only[sg,h,i,decide_true,decide_false]
   generalize x.natAbs=a at *
   generalize y.natAbs=b at *
   subst e
   subst j
   simp[Int.neg_mul,Int.mul_neg])
theorem Yc3{x y:Int}(h:decide (x<0)=decide (y<0)): sg (decide (x<0)) (x.natAbs+y.natAbs)=x+y:=by
 rcases Xax x with ⟨i,e⟩ | ⟨i,e⟩<;>rcases Xax y with ⟨j,o⟩ | ⟨j,o⟩<;>simp[i,j] at h<;>simp[sg,i]<;>omega
theorem Xq9{x y:Int}(h:decide (x<0)≠decide (y<0))(o:y.natAbs<=x.natAbs): sg (decide (x<0)) (x.natAbs-y.natAbs)=x+y:=by
 rcases Xax x with ⟨i,e⟩ | ⟨i,e⟩<;>rcases Xax y with ⟨j,A⟩ | ⟨j,A⟩<;>simp[i,j] at h<;>simp[sg,i]<;>omega
theorem Xxz{n:Nat}(h:(dig n).length<=2): n<18446744073709551616:=by
 have:=Xc1 n
 have i:4294967296^(dig n).length<=4294967296^2:=W0m (by decide) h
 omega
theorem Xhb(n:Nat): sg false n=(n:Int):=rfl
theorem Ya6{a b:Int}(hb:b≠0)(h:decide (a<0)=decide (b<0)): sg (decide (a<0) != decide (b<0)) (a.natAbs/b.natAbs)=a.fdiv b/\sg (decide (b<0)) (a.natAbs%b.natAbs)=a.fmod b:=by
 rcases Xax a with ⟨i,e⟩ | ⟨i,e⟩<;>rcases Xax b with ⟨j,o⟩ | ⟨j,o⟩<;>simp[i,j] at h<;>simp only[sg,i,j,decide_true,decide_false]
 all_goals
  generalize a.natAbs=x at *
  generalize b.natAbs=y at *
  subst e
  subst o
  simp[W1s,W5t]
theorem Ygu(x y:Nat)(i:0<y): (-(x:Int)).fdiv y=-((x/y+if 0<x%y then 1 else 0:Nat):Int)/\(-(x:Int)).fmod y=((if 0<x%y then y-x%y else 0:Nat):Int):=by
 rw[W1s _ (by omega),W5t _ (by omega)]
 have h:=W2s x y
 have j:=W2b x i
 refine(W7x (by omega)).2 ?_
 generalize x/y=q at *
 generalize x%y=r at *
 split
 . refine⟨?_,by omega,by omega⟩
   rw[<-h,Int.natCast_sub (by omega)]
   push_cast
   grind
 . have:r=0:=by omega
   subst this
   refine⟨?_,by omega,by omega⟩
   rw[<-h]
   push_cast
   grind
theorem Xsp{a b:Int}(hb:b≠0)(h:decide (a<0)≠decide (b<0)): sg (decide (a<0) != decide (b<0)) (a.natAbs/b.natAbs+if 0<a.natAbs%b.natAbs then 1 else 0)=a.fdiv b/\sg (decide (b<0)) (if 0<a.natAbs%b.natAbs then b.natAbs-a.natAbs%b.natAbs else 0)=a.fmod b:=by
 rcases Xax a with ⟨i,e⟩ | ⟨i,e⟩<;>rcases Xax b with ⟨j,o⟩ | ⟨j,o⟩<;>simp[i,j] at h<;>simp only[sg,i,j,decide_true,decide_false]
 all_goals
  generalize a.natAbs=x at *
  generalize b.natAbs=y at *
  subst e
  subst o
  have hf:=Ygu x y (by omega)
 . rw[hf.1,hf.2]
   exact⟨rfl,rfl⟩
 . have A:(x:Int).fdiv (-(y:Int))=(-(x:Int)).fdiv y:=by rw[<-W7r,Int.neg_neg]
   have B:(x:Int).fmod (-(y:Int))=-((-(x:Int)).fmod y):=by rw[<-Int.neg_fmod_neg,Int.neg_neg]
   rw[A,B,hf.1,hf.2]
   exact⟨rfl,rfl⟩
theorem Xn6{a b:Int}(h:Xa5 a 0≠Xa5 b 0): Xa5 (Xa5 a 0) (Xa5 b 0)=Xa5 a b:=by
 rcases Xat a 0 with ⟨A,i⟩ | ⟨A,i⟩ | ⟨A,i⟩<;>rcases Xat b 0 with ⟨B,j⟩ | ⟨B,j⟩ | ⟨B,j⟩<;>rw[i,j] at h |- <;>
  first | exact absurd rfl h | (rcases Xat a b with ⟨I,o⟩ | ⟨I,o⟩ | ⟨I,o⟩<;>rw[o]<;>first | rfl | omega)
theorem Xn7{a b:Int}(h:Xa5 a 0=Xa5 b 0): Xa5 a 0*Xa5 (a.natAbs:Int) (b.natAbs:Int)=Xa5 a b:=by
 rcases Xat a 0 with ⟨B,i⟩ | ⟨B,i⟩ | ⟨B,i⟩<;>rcases Xat b 0 with ⟨I,j⟩ | ⟨I,j⟩ | ⟨I,j⟩<;>rw[i,j] at h <;>
  first | (exact absurd h (by decide)) | (rw[i];rcases Xat a b with ⟨M,o⟩ | ⟨M,o⟩ | ⟨M,o⟩<;>rcases Xat (a.natAbs:Int) (b.natAbs:Int) with ⟨O,A⟩ | ⟨O,A⟩ | ⟨O,A⟩<;>rw[o,A]<;>first | rfl | omega)
theorem Xyn{t:Nat}(h:t<4294967296): bl t<=32:=by
 by_cases h0:t=0
 . subst h0;decide
 . have:=(Xck h0).1
   by_cases i:bl t<=32
   . exact i
   . have:2^32<=2^(bl t-1):=W0m (by decide) (by omega)
     omega
theorem Xql{n m t:Nat}(I:m=(dig n).length)(i:0<m)(j:(dig n)[m-1]?=some t): n<2^(32*(m-1)+bl t):=by
 have h0:=Xfn j
 have hd:(dig n).drop (m-1+1)=[]:=W1o (by omega)
 rw[Xaf,hd] at h0
 have o:=Xbx ((Xad n).take (m-1))
 rw[W0k,show min (m-1) (dig n).length=m-1 by omega] at o
 have e:(4294967296:Nat)^(m-1)=2^(32*(m-1)):=by rw[show (4294967296:Nat)=2^32 from rfl,<-W5a]
 have A:t<2^bl t:=by
  by_cases h:t=0
  . subst h;exact W0r _
  . exact(Xck h).2.1
 have B:=W0p (4294967296^(m-1)) (show t+1<=2^bl t from A)
 rw[W0z,W4c] at B
 rw[W1a,<-e]
 simp only[val,W3i,W2r] at h0
 omega
theorem Yft{n:Nat}: 2^(n%32)<4294967296:=W0u (W3y (by decide) (W2b n (by decide))) (by decide)
theorem Xpi{n:Nat}: (dig (2^n)).length=n/32+1:=by rw[Xpw];simp
theorem f0{g:Hp}{K:Hpl}: Fit g K (.st (.pr (.b false) .nil)) (.d (dz 0)):=.sd (.pd (.bd rfl) (.nil (by rw[Int.natAbs_zero,Xaj];rfl)))
theorem f0'{g:Hp}{K:Hpl}{z:Int}(h:z=0): Fit g K (.st (.pr (.b false) .nil)) (.d (dz z)):=h ▸ f0
theorem Yee{a b:Bool}: dc (¬(a=true↔b=true))=(a != b):=by rw[Xx5];cases a<;>cases b<;>rfl
theorem Yph{a b:Bool}: (a=true↔b=true)↔a=b:=W4h.symm
theorem Xch{n:Nat}(h:(dig n).length<=1099511627776): C0 116 [.d (ws (dig n))] (·=.d (ws (dig n))):=trim_dig_ok h
theorem Norm_ok{z:Int}(h:(dig z.natAbs).length<=1099511627776): C0 199 [.d (dz z)] (·=.d (dz z)):=by
 refine En Tryz.func199 λ_ _ _=>?_
 exact Dw rfl<|Ce rfl (Xch h)<|Ce rfl (Xbl h)<|Ce rfl (Xak h)<|R1 rfl (.eq (by rw[Xra]))
theorem Neg_ok{z:Int}(h:(dig z.natAbs).length<=1099511627776): C0 50 [.d (dz z)] (·=.d (dz (-z))):=by
 refine En Tryz.func50 λ_ _ _=>?_
 exact Dw rfl<|Ce rfl (Xch h)<|Ce rfl (Xbl h)<|Ce rfl (Xak h)<|R1 rfl (.eq (by rw[Yc1]))
theorem Sign_ok{z:Int}(h:(dig z.natAbs).length<=1099511627776): C0 113 [.d (dz z)] (·=.d (.int .i64 (Xa5 z 0))):=by
 refine En Tryz.func113 λ_ _ _=>?_
 refine Ce rfl (Xch h)<|By rfl (λi=>?_) λi=>?_<;>simp only[lw] at i
 . have:z=0:=by have:=Xtv.1 (W0n (by omega:(dig z.natAbs).length=0));omega
   exact R1 rfl (.eq (by rw[this];rfl))
 . have h0:z≠0:=λe=>i (by rw[e,Int.natAbs_zero,Xaj];rfl)
   refine By rfl (λj=>?_) λj=>?_
   . exact R1 rfl (.eq (by rw[Xa5,if_pos j]))
   . exact R1 rfl (.eq (by rw[Xa5,if_neg j,if_pos (by omega)]))
theorem Cmp_ok{a b:Int}(ha:(dig a.natAbs).length<=1099511627776)(hb:(dig b.natAbs).length<=1099511627776): C0 48 [.d (dz a),.d (dz b)] (·=.d (.int .i64 (Xa5 a b))):=by
 refine En Tryz.func48 λ_ _ _=>?_
 refine Dw rfl<|Ce rfl (Sign_ok ha)<|Ce rfl (Sign_ok hb)<|By rfl (λh=>?_) λh=>?_
 . exact Ce rfl Xc2<|R1 rfl (.eq (by rw[Xn6 h]))
 . have h:Xa5 a 0=Xa5 b 0:=W3g.1 h
   refine Dw rfl<|Ce rfl (Xch ha)<|Ce rfl (Xch hb)<|Ce rfl (Xb0 ha)<|Ar (Xa5 a b) rfl ?_ (wr (Xn7 h) (by simp only[inK];rcases Xat a b with ⟨i,j⟩ | ⟨i,j⟩ | ⟨i,j⟩<;>omega))
   exact R0
theorem Mul_ok{a b:Int}(ha:(dig a.natAbs).length<=549755813888)(hb:(dig b.natAbs).length<=549755813888): C0 175 [.d (dz a),.d (dz b)] (·=.d (dz (a*b))):=by
 refine En Tryz.func175 λ_ _ _=>?_
 exact Dw rfl<|Ce rfl (Xch (by omega))<|Ce rfl (Xch (by omega))<|Ce rfl (Xkw ha hb)<|Ce rfl (Xak (W0l (Xlp ..) (by omega)))<|R1 rfl (.eq (by rw[Yee,Yc2]))
theorem Ypb{x y:Nat}: ¬Xa5 (x:Int) (y:Int)<0↔y<=x:=by rw[Ybv];omega
theorem Add_ok{a b:Int}(ha:(dig a.natAbs).length<=549755813888)(hb:(dig b.natAbs).length<=549755813888): C0 173 [.d (dz a),.d (dz b)] (·=.d (dz (a+b))):=by
 refine En Tryz.func173 λ_ _ _=>?_
 refine Dw rfl<|Ce rfl (Xch (by omega))<|Ce rfl (Xch (by omega))<|By rfl (λh=>?_) λh=>?_<;>rw[Yph] at h
 . exact Dw rfl<|Ce rfl (Xif (by omega) (by omega))<|Ce rfl (Xak (W0l (Xgn ..) (by omega)))<|R1 rfl (.eq (by rw[Yc3 h]))
 . refine Ce rfl (Xb0 (by omega))<|By rfl (λj=>?_) λj=>?_
   . have i:=W2e (Ybv.1 j)
     exact Dw rfl<|Ce rfl (Xdz (by omega) i)<|Ce rfl (Xak (W0l (Xan (Nat.sub_le ..)) (by omega)))<|R1 rfl (.eq (by rw[Xq9 (λe=>h e.symm) i,Int.add_comm]))
   . have i:=Ypb.1 j
     exact Dw rfl<|Ce rfl (Xdz (by omega) i)<|Ce rfl (Xak (W0l (Xan (Nat.sub_le ..)) (by omega)))<|R1 rfl (.eq (by rw[Xq9 h i]))
theorem GCD_ok{a b:Int}(ha:(dig a.natAbs).length<=549755813888)(hb:(dig b.natAbs).length<=549755813888): C0 266 [.d (dz a),.d (dz b)] (·=.d (dz (Int.gcd a b))):=by
 have M:∀ {x:Nat},(dig x).length=0↔x=0:=λ{x}=>⟨λh=>Xtv.1 (W0n h),λh=>by rw[h,Xaj];rfl⟩
 refine En Tryz.func266 λ_ _ _=>?_
 refine Dw rfl<|Ce rfl (Xch (by omega))<|Ce rfl (Xch (by omega))<|Cu (some 1000000) (λ((x,y):Nat×Nat)=>[(4,.ptr 4 0),(5,.d (ws (dig x))),(6,.d (ws (dig y)))]) (λ_=>[(4,.var (.st (.pr (.b false) .nil)))]) (λ(x,y)=>Nat.gcd x y=Int.gcd a b/\(dig x).length<=549755813888/\(dig y).length<=2/\((dig x).length<=2\/y=0)) rfl ?_ λ⟨x,y⟩ ⟨j,B,I,T⟩=>?_
 . refine Lo (λ((x,y):Nat×Nat)=>[(4,.ptr 4 0),(5,.d (ws (dig x))),(6,.d (ws (dig y)))]) (λ_=>[(4,.var (.st (.pr (.b false) .nil)))]) (λ(x,y)=>Nat.gcd x y=Int.gcd a b/\(dig x).length<=549755813888/\(dig y).length<=549755813888) (λ(_,y)=>y) (a.natAbs,b.natAbs) [] rfl ⟨rfl,ha,hb⟩ λ⟨x,y⟩ ⟨j,B,I⟩=>?_
   have step:y≠0->Nat.gcd y (x%y)=Int.gcd a b/\(dig y).length<=549755813888/\(dig (x%y)).length<=549755813888/\x%y<y:=λh0=>by
    have O:=W2b x (W2q h0)
    exact⟨by rw[<-j,W7e y,<-Nat.gcd_rec,W7e],I,W0l (Xan (W2e O)) I,O⟩
   refine By rfl (λV=>?_) λV=>?_<;>simp only[lw] at V
   . have h0:y≠0:=λe=>by have:=M.2 e;omega
     refine Ce rfl (Xcu B I h0) ?_
     have i:=step h0
     exact Bk (y,x%y) [] rfl ⟨i.1,i.2.1,i.2.2.1⟩ i.2.2.2
   refine By rfl (λi=>?_) λi=>?_<;>simp only[lw] at i
   . refine By rfl (λY=>?_) λY=>?_<;>simp only[lw] at Y
     . have h0:y≠0:=λe=>by have:=M.2 e;omega
       refine Ce rfl (Xcu B I h0) ?_
       have i:=step h0
       exact Bk (y,x%y) [] rfl ⟨i.1,i.2.1,i.2.2.1⟩ i.2.2.2
     . exact Jn (x,y) [] rfl ⟨j,B,by omega,.inr (M.1 (by omega))⟩
   . exact Jn (x,y) [] rfl ⟨j,B,by omega,.inl (by omega)⟩
 refine By rfl (λh=>?_) λh=>?_<;>simp only[lw] at h
 . have h0:y=0:=M.1 (by omega)
   subst h0
   rw[Nat.gcd_zero_right] at j
   exact Ce rfl (Xbl (by omega))<|Ce rfl (Xak (b:=false) (by omega))<|R1 rfl (.eq (by rw[Xhb,j]))
 . have o:x<18446744073709551616:=Xxz (by rcases T with h | h;exact h;exact absurd (M.2 h) (by omega))
   have A:y<18446744073709551616:=Xxz (by omega)
   refine Ce rfl (Xfq o)<|Ce rfl (Xfq A)<|Lo (λ((x,y):Nat×Nat)=>[(4,.ptr 4 0),(9,.d (.int .u64 x)),(10,.d (.int .u64 y))]) (λ_=>[(4,.var (.st (.pr (.b false) .nil)))]) (λ(x,y)=>x<18446744073709551616/\y<18446744073709551616/\Nat.gcd x y=Int.gcd a b) (λ(_,y)=>y) (x,y) [] rfl ⟨o,A,j⟩ λ⟨x,y⟩ ⟨B,I,j⟩=>?_
   refine By rfl (λh=>?_) λh=>?_
   . have U:y≠0:=by omega
     have Q:=W2b x (W2q U)
     refine Dw rfl<|Ar (x%y:Nat) rfl ?_ (show _/\_ from⟨by omega,Xuo x y⟩)
     exact Bk (y,x%y) [] rfl ⟨I,by omega,by rw[<-j,W7e y,<-Nat.gcd_rec,W7e]⟩ Q
   . have h0:y=0:=by omega
     subst h0
     rw[Nat.gcd_zero_right] at j
     exact Ce rfl (Xce B)<|Ce rfl (Xak (b:=false) (W0l (Xaq (k:=2) (by omega)) (by omega)))<|R1 rfl (.eq (by rw[Xhb,j]))
theorem Yij: dig 1=[1]:=by rw[Xfe (by decide),show 1/4294967296=0 from rfl,Xaj]
theorem Yag{x:Nat}(h:(dig x).length<=1099511627775): C0 263 [.d (ws (dig x)),.d (.sl 1 [.int .u32 1])] (·=.d (ws (dig (x+1)))):=by
 have:=Xif (y:=1) h (by rw[Yij];decide)
 rw[Yij] at this
 exact this
theorem DivMod_ok{a b:Int}(ha:(dig a.natAbs).length<=549755813888)(hb:(dig b.natAbs).length<=549755813888)(i:b≠0): C0 363 [.d (dz a),.d (dz b)] (·=.tup (.pr (.d (dz (a.fdiv b))) (.pr (.d (dz (a.fmod b))) (.d (.int .i64 0))))):=by
 have o:∀ {x:Nat},(dig x).length=0↔x=0:=λ{x}=>⟨λh=>Xtv.1 (W0n h),λh=>by rw[h,Xaj];rfl⟩
 have hq:(dig (a.natAbs/b.natAbs)).length<=549755813888:=W0l (Xan (W4j ..)) ha
 have I:(dig (a.natAbs%b.natAbs)).length<=549755813888:=W0l (Xan (Nat.mod_le ..)) ha
 have B:(dig (a.natAbs/b.natAbs+1)).length<=549755813889:=W0l (Xgn ..) (by rw[Yij];simp;omega)
 refine En Tryz.func363 λ_ _ _=>?_
 refine Ce rfl (Xch (by omega))<|By rfl (λh=>?_) λh=>?_<;>simp only[lw] at h
 . exact absurd ((@o b.natAbs).1 (by omega)) (by omega)
 refine Ce rfl (Xch (by omega))<|Ce rfl (Xcu ha hb (by omega))<|By rfl (λj=>?_) λj=>?_<;>rw[Yph] at j
 . refine By rfl (λA=>?_) λA=>?_<;>simp only[lw] at A
   . have hp:0<a.natAbs%b.natAbs:=W2q λe=>by have:=o.2 e;omega
     have hf:=Xsp i j
     rw[if_pos hp,if_pos hp] at hf
     exact Ce rfl (Yag (x:=a.natAbs/b.natAbs) (by omega))<|Ce rfl (Xdz (by omega) (W2e (W2b _ (by omega))))<|Dw rfl<|Ce rfl (Xak (by omega))<|Ce rfl (Xak (W0l (Xan (Nat.sub_le ..)) (by omega)))<|RTt rfl (.cons (.eq (by rw[Yee,hf.1])) (.cons (.eq (by rw[hf.2])) (.one (.rf rfl) (λ_ _ e=>by cases e) (λ_ _ e=>by cases e))))
   . have hp:¬0<a.natAbs%b.natAbs:=λhp=>by have:=mt o.1 (W8f.1 hp);omega
     have hf:=Xsp i j
     rw[if_neg hp,if_neg hp,W2r] at hf
     exact Dw rfl<|Ce rfl (Xak (by omega))<|Ce rfl (Xak (by omega))<|RTt rfl (.cons (.eq (by rw[Yee,hf.1])) (.cons (.eq (by rw[show a.natAbs%b.natAbs=0 by omega,hf.2])) (.one (.rf rfl) (λ_ _ e=>by cases e) (λ_ _ e=>by cases e))))
 . have hf:=Ya6 i (W3g.1 j)
   exact Dw rfl<|Ce rfl (Xak (by omega))<|Ce rfl (Xak (by omega))<|RTt rfl (.cons (.eq (by rw[Yee,hf.1])) (.cons (.eq (by rw[hf.2])) (.one (.rf rfl) (λ_ _ e=>by cases e) (λ_ _ e=>by cases e))))
theorem Xpo{x:Nat}(i:(dig x).length<=549755813888): C0 463 [.d (ws (dig x))] (·=.d (ws (dig (x/2)))):=by
 refine En Tryz.func463 λ_ _ _=>?_
 refine Ca rfl (Xfs (n:=1) (Xad x) i (by decide)) λv j=>?_
 obtain⟨l,h,o,A,rfl⟩:=j
 rw[Xaf] at h
 exact Ce rfl (Xaz o (by omega))<|R1 rfl (.eq (by rw[h]))
theorem Xha{j:Nat}(h:j<32): arB .shl .u32 1 j (2^j:Nat):=⟨by omega,by
 rw[W7m,show min j (IntKind.bits .u32)=j from W2d (W2e h),W5y,show (2:Int)^j=((2^j:Nat):Int) by rw[W7v];rfl]
 have:2^j<2^32:=W3y (by decide) h
 exact wW ⟨W5n _,W7d.2 this⟩⟩
theorem Xer{n:Nat}(h:n<=8796093022210): C0 462 [.d (.int .i64 n)] (·=.d (ws (dig (2^n)))):=by
 refine En Tryz.func462 λ_ _ _=>?_
 refine Ar (n/32:Nat) rfl ?_ (show _/\_ from⟨by decide,by rw[show Int.tdiv (n:Int) 32=((n/32:Nat):Int) from rfl];exact wI (by omega)⟩)
 refine Ar (n/32+1:Nat) rfl ?_
 refine Mk (n/32+1) rfl (by omega) ?_
 refine Ar (n/32:Nat) rfl ?_ (show _/\_ from⟨by decide,by rw[show Int.tdiv (n:Int) 32=((n/32:Nat):Int) from rfl];exact wI (by omega)⟩)
 refine Ar (n%32:Nat) rfl ?_ (show _/\_ from⟨by decide,rfl⟩)
 refine Ar (2^(n%32):Nat) rfl ?_ (Xha (W2b _ (by decide)))
 refine Eo (n/32) rfl (by omega)<|Sto rfl (by simp) rfl ?_
 refine R1 rfl (.own rfl (by simp) ?_)
 rw[Xpw,W0y,W0b (by simp),<-ms,W2i]
 rfl
end
section
theorem Xqd{z:Int}(o:(dig z.natAbs).length<=549755813888)(h0:z≠0): C0 461 [.d (dz z)] λv=>∃B:Nat,v=.d (.int .i64 B)/\z.natAbs<2^B/\B<=32*(dig z.natAbs).length:=by
 refine En Tryz.func461 λ_ _ _=>?_
 refine Ce rfl (Xch (by omega))<|By rfl (λh=>?_) λh=>?_<;>simp only[lw] at h
 . exact absurd (Xtv.1 (W0n (by omega:(dig z.natAbs).length=0))) (by omega)
 obtain⟨t,j⟩:=xat (l:=dig z.natAbs) (k:=(dig z.natAbs).length-1) (by omega)
 have i:=ww j (Xad _)
 have hb:=Xyn i
 refine Ar ((dig z.natAbs).length-1:Nat) rfl ?_ (wr (by simp only[lw];omega) (by simp only[inK];omega))
 refine Ar (32*((dig z.natAbs).length-1):Nat) rfl ?_
 refine Ar ((dig z.natAbs).length-1:Nat) rfl ?_ (wr (by simp only[lw];omega) (by simp only[inK];omega))
 refine Ix ((dig z.natAbs).length-1) rfl (mp j)<|Ce rfl (Xta i)<|Ar (32*((dig z.natAbs).length-1)+bl t:Nat) rfl ?_
 exact Rt rfl (.one (.rf rfl) rfl rfl) ⟨_,rfl,Xql rfl (by omega) j,by omega⟩
theorem Sqrt_ok{a:Nat}(V:(dig a).length<=274877906944): C0 459 [.d (dz (a:Int))] (·=.tup (.pr (.d (dz (rt a:Int))) (.d (.int .i64 0)))):=by
 have Y:(dig (a:Int).natAbs).length<=274877906944:=by rw[W1m];exact V
 refine En Tryz.func459 λ_ _ _=>?_
 refine Ce rfl (Sign_ok (z:=a) (by omega))<|By rfl (λh=>?_) λh=>?_
 . rcases Xat (a:Int) 0 with ⟨i,j⟩ | ⟨i,j⟩ | ⟨i,j⟩<;>omega
 refine By rfl (λZ=>?_) λZ=>?_
 . have o:a=0:=by rcases Xat (a:Int) 0 with ⟨i,j⟩ | ⟨i,j⟩ | ⟨i,j⟩<;>omega
   exact RTt rfl (.cons (f0' (by rw[o];rfl)) (.one (.rf rfl) (λ_ _ e=>by cases e) (λ_ _ e=>by cases e)))
 have o:a≠0:=by rcases Xat (a:Int) 0 with ⟨i,j⟩ | ⟨i,j⟩ | ⟨i,j⟩<;>omega
 refine Ca rfl (Xqd (z:=a) (by omega) (by omega)) λv hv=>?_
 obtain⟨B,rfl,I,M⟩:=hv
 rw[W1m] at I M
 refine Ar (B/2:Nat) rfl ?_ (show _/\_ from⟨by decide,by rw[show Int.tdiv (B:Int) 2=((B/2:Nat):Int) from rfl];exact wI (by omega)⟩)
 refine Ar (B/2+1:Nat) rfl ?_
 refine Ce rfl (Xer (n:=B/2+1) (by omega))<|Lo (λ(x:Nat)=>[(1,.ptr 1 0),(2,.ptr 2 0),(3,.d (.int .i64 0)),(5,.d (ws (dig x)))]) (λ_=>[(1,.var (.d (dz a))),(2,.var (.st (.pr (.b false) .nil)))]) (λx=>0<x/\rt a<=x/\x<=2^(B/2+1)) (λx=>x) (2^(B/2+1)) [] rfl
  ⟨W0r _,W2e (Xvi I (by omega)),W0c _⟩ λx ⟨A,O,Q⟩=>?_
 have hxl:(dig x).length<=549755813000:=W0l (Xan Q) (by rw[Xpi];omega)
 have hql:(dig (a/x)).length<=274877906944:=W0l (Xan (W4j a x)) V
 refine Ce (r:=.d (ws (dig a))) rfl (Xch (n:=a) (by omega))<|Ce rfl (Xcu (by omega) (by omega) (by omega))<|Ce rfl (Xif (by omega) (by omega))<|Ce rfl (Xpo (W0l (Xgn ..) (by omega)))<|Ce rfl (Xb0 (W0l (Xan (W4j ..)) (W0l (Xgn ..) (by omega))))<|By rfl (λh2=>?_) λh2=>?_
 . have T:x<=(x+a/x)/2:=by rcases Xat (((x+a/x)/2:Nat):Int) (x:Int) with ⟨i,j⟩ | ⟨i,j⟩ | ⟨i,j⟩<;>omega
   exact Ce rfl (Xak (b:=false) (by omega))<|RTt rfl (.cons (.eq (by rw[Xto A T O];rfl)) (.one (.rf rfl) (λ_ _ e=>by cases e) (λ_ _ e=>by cases e)))
 . have U:(x+a/x)/2<x:=by rcases Xat (((x+a/x)/2:Nat):Int) (x:Int) with ⟨i,j⟩ | ⟨i,j⟩ | ⟨i,j⟩<;>omega
   exact Bk ((x+a/x)/2) [] rfl ⟨W0u (Yjk o) (Yds A),Yds A,by omega⟩ U
end
end Go.Proofs.YtcmjannkbdflmaaGreatDoor
namespace Go.Num
theorem szl{n p:Nat}(h:n<2^p)(hp:p<=8796093022208): (dig n).length<=274877906945:=by
 have i:n<4294967296^(p/32+1):=by
  rw[show 4294967296=2^32 from rfl,<-W5a]
  exact W0u h (W0m (by decide) (by omega))
 have:=Xaq i
 omega
def Zs(p:Nat)(z:Int): Prop:=z.natAbs<2^p
theorem Zs.len{p:Nat}{z:Int}(h:Zs p z)(hp:p<=8796093022208): (dig z.natAbs).length<=274877906945:=szl h hp
theorem Zs.mono{p q:Nat}{z:Int}(h:Zs p z)(hp:p<=q): Zs q z:=W0u h (W0m (by decide) hp)
theorem Zs.mul{p q:Nat}{x y:Int}(h:Zs p x)(k:Zs q y): Zs (p+q) (x*y):=by
 unfold Zs at *
 rw[W4n,W1a]
 exact W5d h k
theorem Zs.add{p q:Nat}{x y:Int}(h:Zs p x)(k:Zs q y): Zs (max p q+1) (x+y):=by
 have i:=h.mono (Nat.le_max_left p q)
 have j:=k.mono (Nat.le_max_right p q)
 unfold Zs at *
 have:=Int.natAbs_add_le x y
 rw[W0q]
 omega
theorem Zs.neg{p:Nat}{x:Int}(h:Zs p x): Zs p (-x):=by
 unfold Zs at *
 rwa[W4v]
theorem Zs.gcd{p:Nat}{x y:Int}(h:Zs p y)(h0:y≠0): Zs p (Int.gcd x y:Int):=by
 unfold Zs at *
 have:Int.gcd x y<=y.natAbs:=Nat.le_of_dvd (by omega) (Int.gcd_dvd_natAbs_right x y)
 omega
theorem Zs.one{p:Nat}(hp:1<=p): Zs p 1:=W0u (by decide) (W0m (by decide) hp:2^1<=2^p)
theorem Zs.zero{p:Nat}: Zs p 0:=W0r p
structure Qs (p:Nat) (x:Rat):Prop where
 n:Zs p x.num
 d:Zs p (x.den:Int)
theorem Qs.mono{p q:Nat}{x:Rat}(h:Qs p x)(hp:p<=q): Qs q x:=⟨h.n.mono hp,h.d.mono hp⟩
theorem Qs.neg{p:Nat}{x:Rat}(h:Qs p x): Qs p (-x):=⟨by rw[Rat.neg_num];exact h.n.neg,by rw[Rat.neg_den];exact h.d⟩
theorem Ya7(a:Int): a.fdiv 1=a:=by rw[W1s _ (by decide),Int.ediv_one]
theorem Xj2{a b:Int}(hb:b≠0): a.fdiv (if b<0 then -(Int.gcd a b:Int) else (Int.gcd a b:Int))=(Rat.divInt a b).num:=by
 rw[Rat.num_divInt,Int.gcd_comm b a]
 split
 . rename_i h
   rw[show a.fdiv (-(Int.gcd a b:Int))=(-a).fdiv (Int.gcd a b:Int) by rw[<-W7r,Int.neg_neg],Int.sign_eq_neg_one_of_neg h,W1s _ (by omega)]
   congr 1
   omega
 . rw[Int.sign_eq_one_of_pos (by omega),W5y,W1s _ (by omega)]
theorem Xj3{a b:Int}(hb:b≠0): b.fdiv (if b<0 then -(Int.gcd a b:Int) else (Int.gcd a b:Int))=((Rat.divInt a b).den:Int):=by
 rw[Rat.den_divInt,if_neg hb,Int.gcd_comm b a,Int.natCast_ediv]
 split
 . rw[show b.fdiv (-(Int.gcd a b:Int))=(-b).fdiv (Int.gcd a b:Int) by rw[<-W7r,Int.neg_neg],W1s _ (by omega)]
   congr 1
   omega
 . rw[W1s _ (by omega)]
   congr 1
   omega
theorem Xxi{a b:Int}(hb:b≠0): Int.gcd a b≠0:=λh=>hb (Int.gcd_eq_zero_iff.1 h).2
theorem Qs.addNum{p q:Nat}{x y:Rat}(h:Qs p x)(k:Qs q y): Zs (p+q+1) (x.num*y.den+y.num*x.den):=by
 have i:=(h.n.mul k.d).add (k.n.mul h.d)
 exact i.mono (by omega)
theorem Xke(a:Int)(b:Nat): Rat.divInt a (b:Int)=mkRat a b:=Rat.divInt_ofNat a b
theorem Xkj(x y:Rat): x+y=Rat.divInt (x.num*y.den+y.num*x.den) ((x.den:Int)*y.den):=by
 rw[Rat.add_def',<-W2z,Xke]
theorem Xj0(x y:Rat): x*y=Rat.divInt (x.num*y.num) ((x.den:Int)*y.den):=by
 rw[Rat.mul_def',<-W2z,Xke]
theorem Xkd(x y:Rat)(h:y≠0): x/y=Rat.divInt (x.num*y.den) ((x.den:Int)*y.num):=by
 rw[W5z,Rat.inv_def]
 conv=>lhs;rw[<-Rat.num_divInt_den x]
 rw[Rat.divInt_mul_divInt]
theorem Ynk{x:Rat}(h:(x.den:Int)=1): x=(x.num:Rat):=Rat.ext rfl (by show x.den=1;omega)
theorem Xsy{x y:Rat}(h:(x.den:Int)=1)(k:(y.den:Int)=1): x+y=((x.num+y.num:Int):Rat):=by
 conv=>lhs;rw[Ynk h,Ynk k]
 norm_cast
theorem Xsx{x y:Rat}(h:(x.den:Int)=1)(k:(y.den:Int)=1): x*y=((x.num*y.num:Int):Rat):=by
 conv=>lhs;rw[Ynk h,Ynk k]
 norm_cast
theorem Xbz(x:Rat): (x.den:Int)≠0:=by have:=x.den_nz;omega
theorem Zs.divInt_num{p:Nat}{a b:Int}(ha:Zs p a): Zs p (Rat.divInt a b).num:=by
 unfold Zs at *
 rw[Rat.num_divInt]
 have j:(b.sign*a).natAbs<=a.natAbs:=by
  rw[W4n]
  have:b.sign.natAbs<=1:=by rw[Int.natAbs_sign];split<;>omega
  have:=W0x a.natAbs this
  omega
 have o:((b.sign*a)/(Int.gcd b a:Int)).natAbs<=(b.sign*a).natAbs:=by
  by_cases h:Int.gcd b a=0
  . rw[h];simp
  . have hd:(Int.gcd b a:Int) ∣ b.sign*a:=Int.dvd_mul_of_dvd_right (Int.gcd_dvd_right b a)
    obtain⟨c,i⟩:=hd
    rw[i,Int.mul_ediv_cancel_left _ (by omega),W4n]
    exact Nat.le_mul_of_pos_left _ (W2q (by rw[W1m];exact h))
 omega
theorem Zs.divInt_den{p:Nat}{a b:Int}(hb:Zs p b)(h0:b≠0): Zs p ((Rat.divInt a b).den:Int):=by
 unfold Zs at *
 rw[Rat.den_divInt,if_neg h0]
 have:=W4j b.natAbs (Int.gcd b a)
 rw[W1m]
 omega
theorem Qs.divInt{p:Nat}{a b:Int}(ha:Zs p a)(hb:Zs p b)(h0:b≠0): Qs p (Rat.divInt a b):=⟨ha.divInt_num,hb.divInt_den h0⟩
theorem Qs.add{p q:Nat}{x y:Rat}(h:Qs p x)(k:Qs q y): Qs (p+q+1) (x+y):=by
 rw[Xkj]
 exact Qs.divInt (h.addNum k) ((h.d.mul k.d).mono (by omega)) (W6z (Xbz x) (Xbz y))
theorem Qs.mul{p q:Nat}{x y:Rat}(h:Qs p x)(k:Qs q y): Qs (p+q) (x*y):=by
 rw[Xj0]
 exact Qs.divInt (h.n.mul k.n) (h.d.mul k.d) (W6z (Xbz x) (Xbz y))
theorem Qs.int{p:Nat}{z:Int}(h:Zs p z)(hp:1<=p): Qs p (z:Rat):=⟨h,Zs.one hp⟩
theorem Ybu{z:Int}: Xa5 z 0>0↔z>0:=by
 unfold Xa5
 split
 . constructor<;>intro<;>omega
 . split
   . constructor<;>intro<;>omega
   . constructor<;>intro<;>omega
def Xn5(x y:Rat): Int:=if x<y then -1 else if y<x then 1 else 0
theorem Xs2(x y:Rat): Xa5 (x.num*y.den) (y.num*x.den)=Xn5 x y:=by
 unfold Xa5 Xn5
 simp only[Rat.lt_iff,gt_iff_lt]
theorem Xn4{x y:Rat}(h:Xa5 x.num 0<Xa5 y.num 0): Xn5 x y=-1:=by
 unfold Xn5
 rw[if_pos]
 rw[Rat.lt_iff]
 have B:=x.den_pos
 have I:=y.den_pos
 rcases Xat x.num 0 with ⟨i,o⟩ | ⟨i,o⟩ | ⟨i,o⟩<;>rcases Xat y.num 0 with ⟨j,A⟩ | ⟨j,A⟩ | ⟨j,A⟩<;>rw[o,A] at h<;>first | omega | skip
 . rw[j,W5g];exact Int.mul_neg_of_neg_of_pos i (by omega)
 . have:=Int.mul_neg_of_neg_of_pos i (show (0:Int)<y.den by omega)
   have:=Int.mul_pos j (show (0:Int)<x.den by omega)
   omega
 . rw[i,W5g];exact Int.mul_pos j (by omega)
theorem Xn3(x y:Rat): Xn5 x y=- Xn5 y x:=by
 unfold Xn5
 by_cases h:x<y
 . have:¬y<x:=by grind
   rw[if_pos h,if_neg this,if_pos h]
 . rw[if_neg h]
   by_cases i:y<x
   . rw[if_pos i,if_pos i];rfl
   . rw[if_neg i,if_neg i,if_neg h];rfl
end Go.Num
namespace Go.Proofs.YtcmjannkbdflmaaGreatDoor
open Go Go.Vm Go.Num
def dq(x:Rat): D:=.st (.pr (dz x.num) (dz x.den))
theorem Yql{n:Nat}: (dig n).length=0↔n=0:=⟨λh=>Xtv.1 (W0n h),λh=>by rw[h,Xaj];rfl⟩
theorem fst{g:Hp}{K:Hpl}{a:AV}{x:D}(h:Fit g K a (.d x)): Fit g K (.st a) (.d (.st x)):=.sd h
theorem Xe5: C0 174 [] (·=.d (dz 1)):=by
 refine En Tryz.func174 λ_ _ _=>?_
 exact Ce rfl (FromInt_ok (z:=1) (by decide))<|R0
theorem Xv1{z:Int}: (dig z.natAbs=[1]/\¬z<0)↔z=1:=by
 constructor
 . rintro⟨h,i⟩
   have:=Xaf z.natAbs
   rw[h] at this
   simp[val] at this
   omega
 . rintro rfl
   exact⟨Yij,by decide⟩
theorem Yqk{l:List Nat}{u:Nat}(h:l.length=1)(i:l[0]?=some u): l=[u]:=by
 match l,h,i with
 | [a],_,i=>simp at i;rw[i]
theorem Xet{z:Int}: C0 172 [.d (dz z)] (·=.b (dc (z=1))):=by
 refine En Tryz.func172 λ_ _ _=>?_
 refine By rfl (λh=>?_) λh=>?_
 . refine By rfl (λi=>?_) λi=>?_<;>simp only[lw] at i
   . obtain⟨u,j⟩:=xat (l:=dig z.natAbs) (k:=0) (by omega)
     have o:=Yqk (by omega) j
     refine Ix 0 rfl (mp j)<|R1 rfl (.bp ?_)
     refine Xal.trans (Iff.trans ?_ Xv1)
     rw[o]
     constructor
     . intro e;exact⟨by rw[show u=1 by omega],h⟩
     . rintro⟨e,_⟩;injection e with e;omega
   . exact R1 rfl (.bp ⟨nofun,λe=>absurd (by rw[e];show ((dig 1).length:Int)=1;rw[Yij];rfl) i⟩)
 . exact R1 rfl (.bp ⟨nofun,λe=>absurd (by rw[e];decide) h⟩)
theorem Xim{z:Int}: C0 201 [.d (dz z)] (·=.b (dc (z=0))):=by
 refine En Tryz.func201 λ_ _ _=>?_
 refine R1 rfl (.bp ?_)
 simp only[Xal,lw]
 rw[show ((dig z.natAbs).length:Int)=0↔(dig z.natAbs).length=0 by omega,Yql];omega
theorem Xb8{a b:Int}(ha:(dig a.natAbs).length<=549755813888)(hb:(dig b.natAbs).length<=549755813888)(i:b≠0): C0 267 [.d (dz a),.d (dz b)] (·=.d (dz (a.fdiv b))):=by
 refine En Tryz.func267 λ_ _ _=>?_
 refine Ce rfl Xet<|By rfl (λh=>?_) λh=>?_
 . exact R1 rfl (.eq (show dz a=dz (a.fdiv b) by rw[h,Ya7]))
 . exact Ce rfl (DivMod_ok ha hb i)<|R0
theorem Xfx{a b:Int}{p:Nat}(ha:Zs p a)(hb:Zs p b)(hp:p<=8796093022208)(i:b≠0): C0 176 [.d (dz a),.d (dz b)] (·=.d (dq (Rat.divInt a b))):=by
 have o:Zs p (Int.gcd a b:Int):=hb.gcd i
 have A:=ha.len hp
 have B:=hb.len hp
 have I:=o.len hp
 refine En Tryz.func176 λ_ _ _=>?_
 refine Ce rfl (GCD_ok (by omega) (by omega)) ?_
 have h0:=Xxi (a:=a) i
 have j:∀g:Int,g=(if b<0 then -(Int.gcd a b:Int) else (Int.gcd a b:Int))->D.st (.pr (dz (a.fdiv g)) (dz (b.fdiv g)))=dq (Rat.divInt a b):=λg o=>by rw[o,Xj2 i,Xj3 i];rfl
 refine By rfl (λh=>?_) λh=>?_
 . exact Ce rfl (Neg_ok (by omega))<|Dw rfl<|Ce rfl (Xb8 (by omega) (by rw[W4v];omega) (by omega))<|Ce rfl (Xb8 (by omega) (by rw[W4v];omega) (by omega))<|R1 rfl (.eq (j _ (by rw[if_pos h])))
 . exact Dw rfl<|Ce rfl (Xb8 (by omega) (by omega) (by omega))<|Ce rfl (Xb8 (by omega) (by omega) (by omega))<|R1 rfl (.eq (j _ (by rw[if_neg h])))
theorem Make_ok{a b:Int}{p:Nat}(ha:Zs p a)(hb:Zs p b)(hp:p<=8796093022208)(h:b≠0): C0 119 [.d (dz a),.d (dz b)] (·=.tup (.pr (.d (dq (Rat.divInt a b))) (.d (.int .i64 0)))):=by
 have i:=ha.len hp
 have j:=hb.len hp
 refine En Tryz.func119 λ_ _ _=>?_
 exact Dw rfl<|Ce rfl (Norm_ok (by omega))<|Ce rfl (Norm_ok (by omega))<|Ce rfl Xim<|No rfl h<|Ce rfl (Xfx ha hb hp h)<|R0t
theorem Xa4{z:Int}(h:-9223372036854775808<=z/\z<9223372036854775808): C0 112 [.d (.int .i64 z)] (·=.d (dq z)):=by
 refine En Tryz.func112 λ_ _ _=>?_
 exact Ce rfl (FromInt_ok h)<|Ce rfl Xe5<|R0
theorem Xk9{a b:Int}(ha:-9223372036854775808<=a/\a<9223372036854775808)(hb:0<b/\b<9223372036854775808): C0 91 [.d (.int .i64 a),.d (.int .i64 b)] (·=.d (dq (Rat.divInt a b))):=by
 refine En Tryz.func91 λ_ _ _=>?_
 exact Ce rfl (FromInt_ok ha)<|Ce rfl (FromInt_ok (by omega))<|Ce rfl (Make_ok (p:=64) (by unfold Zs;omega) (by unfold Zs;omega) (by decide) (by omega))<|No rfl (by decide)<|R0
theorem Xft{x:Rat}{p:Nat}(h:Qs p x)(hp:p<=8796093022208): C0 376 [.d (dq x)] (·=.d (.int .i64 (Xa5 x.num 0))):=by
 have:=h.n.len hp
 refine En Tryz.func376 λ_ _ _=>?_
 exact Ce rfl (Sign_ok (by omega))<|R0
theorem Xk8{x:Rat}{p:Nat}(h:Qs p x)(hp:p<=8796093022208): C0 171 [.d (dq x)] (·=.d (dq (-x))):=by
 have:=h.n.len hp
 refine En Tryz.func171 λ_ _ _=>?_
 exact Dw rfl<|Ce rfl (Neg_ok (by omega))<|R1 rfl (.eq (show D.st (.pr (dz (-x.num)) (dz x.den))=dq (-x) by unfold dq;rw[Rat.neg_num,Rat.neg_den]))
abbrev q0: AV:=.st (.pr (.st (.pr (.b false) .nil)) (.st (.pr (.b false) .nil)))
theorem Xia{x y:Rat}{p q:Nat}(i:Qs p x)(j:Qs q y)(hp:p+q<=8796093022208): C0 356 [.d (dq x),.d (dq y)] (·=.d (dq (x*y))):=by
 have A:=i.n.len (by omega)
 have B:=i.d.len (by omega)
 have I:=j.n.len (by omega)
 have M:=j.d.len (by omega)
 refine En Tryz.func356 λ_ _ _=>?_
 refine Cu (some 1) (λ(b:Bool)=>[(2,.ptr 2 0),(3,.ptr 3 0),(4,.ptr 4 0),(12,.b b)]) (λ_=>[(2,.var (.d (dq x))),(3,.var (.d (dq y))),(4,.var q0)]) (λb=>b=true->(x.den:Int)=1/\(y.den:Int)=1) rfl ?_ λb hb=>?_
 . refine Ce rfl Xet<|By rfl (λh=>?_) λh=>?_
   . exact Ce rfl Xet<|Jn (dc _) [] rfl λe=>⟨h,Xal.1 e⟩
   . exact Jn false [] rfl nofun
 refine By rfl (λh=>?_) λh=>?_
 . obtain⟨o,d2⟩:=hb h
   exact Ce rfl (Mul_ok (by omega) (by omega))<|Ce rfl Xe5<|R1 rfl (.eq (show _=dq _ by rw[Xsx o d2];rfl))
 . exact Dw rfl<|Ce rfl (Mul_ok (by omega) (by omega))<|Ce rfl (Mul_ok (by omega) (by omega))<|Ce rfl (Xfx (i.n.mul j.n) (i.d.mul j.d) hp (W6z (Xbz x) (Xbz y)))<|R1 rfl (.eq (by rw[Xj0]))
theorem Xdw{x y:Rat}{p q:Nat}(i:Qs p x)(j:Qs q y)(hp:p+q+1<=8796093022208): C0 93 [.d (dq x),.d (dq y)] (·=.d (dq (x+y))):=by
 have A:=i.n.len (by omega)
 have B:=i.d.len (by omega)
 have I:=j.n.len (by omega)
 have M:=j.d.len (by omega)
 have O:=(i.n.mul j.d).len (by omega)
 have Q:=(j.n.mul i.d).len (by omega)
 refine En Tryz.func93 λ_ _ _=>?_
 refine Cu (some 1) (λ(b:Bool)=>[(2,.ptr 2 0),(3,.ptr 3 0),(4,.ptr 4 0),(13,.b b)]) (λ_=>[(2,.var (.d (dq x))),(3,.var (.d (dq y))),(4,.var q0)]) (λb=>b=true->(x.den:Int)=1/\(y.den:Int)=1) rfl ?_ λb hb=>?_
 . refine Ce rfl Xet<|By rfl (λh=>?_) λh=>?_
   . exact Ce rfl Xet<|Jn (dc _) [] rfl λe=>⟨h,Xal.1 e⟩
   . exact Jn false [] rfl nofun
 refine By rfl (λh=>?_) λh=>?_
 . obtain⟨o,d2⟩:=hb h
   exact Ce rfl (Add_ok (by omega) (by omega))<|Ce rfl Xe5<|R1 rfl (.eq (show _=dq _ by rw[Xsy o d2];rfl))
 . exact Dw rfl<|Ce rfl (Mul_ok (by omega) (by omega))<|Ce rfl (Mul_ok (by omega) (by omega))<|Ce rfl (Add_ok (by omega) (by omega))<|Dw rfl<|Ce rfl (Mul_ok (by omega) (by omega))<|Ce rfl (Xfx (p:=p+q+1) (Qs.addNum i j) ((i.d.mul j.d).mono (by omega)) hp (W6z (Xbz x) (Xbz y)))<|R1 rfl (.eq (by rw[Xkj]))
theorem Xvt{x y:Rat}{p q:Nat}(i:Qs p x)(h:Qs q y)(hp:p+q+1<=8796093022208): C0 92 [.d (dq x),.d (dq y)] (·=.d (dq (x-y))):=by
 refine En Tryz.func92 λ_ _ _=>?_
 exact Dw rfl<|Ce rfl (Xk8 h (by omega))<|Ce rfl (Xdw i h.neg hp)<|R1 rfl (.eq (by rw[W5p]))
theorem Yfo{x y:Rat}{p q:Nat}(h:Qs p x)(i:Qs q y)(hp:p+q<=8796093022208)(h0:y≠0): C0 460 [.d (dq x),.d (dq y)] (·=.tup (.pr (.d (dq (x/y))) (.d (.int .i64 0)))):=by
 have o:=h.n.len (by omega)
 have A:=h.d.len (by omega)
 have B:=i.n.len (by omega)
 have I:=i.d.len (by omega)
 have j:y.num≠0:=λe=>h0 (W5s.1 e)
 refine En Tryz.func460 λ_ _ _=>?_
 exact Ce rfl Xim<|No rfl j<|Dw rfl<|Ce rfl (Mul_ok (by omega) (by omega))<|Ce rfl (Mul_ok (by omega) (by omega))<|Ce rfl (Xfx (h.n.mul i.d) (h.d.mul i.n) hp (W6z (Xbz x) j))<|RTt rfl (.cons (.eq (by rw[Xkd _ _ h0])) (.one (.rf rfl) (λ_ _ e=>by cases e) (λ_ _ e=>by cases e)))
def rz: D:=.st (.pr (.st (.pr (.bool false) (.sl 1 []))) (.st (.pr (.bool false) (.sl 1 []))))
theorem Ylc{g:Hp}{K:Hpl}: Fit g K q0 (.d rz):=.sd (.pd (.sd (.pd (.bd rfl) (.nil rfl))) (.sd (.pd (.bd rfl) (.nil rfl))))
theorem Yaa{x y:Rat}(h0:y=0): C0 460 [.d (dq x),.d (dq y)] (·=.tup (.pr (.d rz) (.d (.int .i64 6)))):=by
 refine En Tryz.func460 λ_ _ _=>?_
 exact Ce rfl Xim<|Yes rfl (by rw[h0];rfl)<|RTt rfl (.cons Ylc (.one (.rf rfl) (λ_ _ e=>by cases e) (λ_ _ e=>by cases e)))
theorem Xib{x y:Rat}{p q:Nat}(i:Qs p x)(j:Qs q y)(hp:p+q<=8796093022208): C0 302 [.d (dq x),.d (dq y)] (·=.d (.int .i64 (Xn5 x y))):=by
 have o:=i.n.len (by omega)
 have A:=i.d.len (by omega)
 have B:=j.n.len (by omega)
 have I:=j.d.len (by omega)
 have M:=(i.n.mul j.d).len (by omega)
 have O:=(j.n.mul i.d).len (by omega)
 refine En Tryz.func302 λ_ _ _=>?_
 refine Dw rfl<|Ce rfl (Xft i (by omega))<|Ce rfl (Xft j (by omega))<|By rfl (λh=>?_) λh=>?_
 . refine By rfl (λo=>?_) λo=>?_
   . exact R1 rfl (.eq (by rw[Xn4 o]))
   . exact R1 rfl (.eq (by rw[Xn3,Xn4 (by omega)];rfl))
 . exact Dw rfl<|Ce rfl (Mul_ok (by omega) (by omega))<|Ce rfl (Mul_ok (by omega) (by omega))<|Ce rfl (Cmp_ok (by omega) (by omega))<|R1 rfl (.eq (by rw[Xs2]))
theorem Xeh{z:Int}(h:(dig z.natAbs).length<=549755813888): C0 426 [.d (dz z)] (·=.b true):=by
 refine En Tryz.func426 λ_ _ _=>?_
 refine By rfl (λi=>?_) λi=>?_<;>simp only[lw] at i
 . have h0:=Yql.1 (by omega:(dig z.natAbs).length=0)
   exact Yes rfl (show ¬z<0 by omega)<|R0
 . refine Yes rfl (by simp only[lw];omega) ?_
   rcases Xg9 z.natAbs with j | ⟨t,j,o⟩
   . rw[j] at i;exact absurd rfl i
   refine Ar ((dig z.natAbs).length-1:Nat) rfl ?_ (wr (by simp only[lw];omega) (by simp only[inK];omega))
   refine Ix ((dig z.natAbs).length-1) rfl (mp j)<|R1 rfl (by exact(show dc ((t:Int)≠0)=true by rw[Xal];omega) ▸ .rf rfl)
theorem Ypa{z:Int}: Xa5 z 0>0↔z>0:=Ybu
theorem Xm8{x:Rat}{p:Nat}(h:Qs p x)(hp:p<=8796093022208): C0 371 [.d (dq x)] (·=.b true):=by
 have i:=h.n.len hp
 have j:=h.d.len hp
 refine En Tryz.func371 λ_ _ _=>?_
 refine Ce rfl (Xeh (z:=x.num) (by omega))<|Yes rfl rfl<|Ce rfl (Xeh (z:=x.den) (by omega))<|Yes rfl rfl<|Ce rfl (Sign_ok (by omega))<|Yes rfl (Ypa.2 (by have:=x.den_pos;omega))<|Ce rfl (GCD_ok (by omega) (by omega))<|Ce rfl Xet<|R1 rfl (by exact(show dc ((Int.gcd x.num x.den:Int)=1)=true by rw[Xal];exact congrArg Nat.cast (show Int.gcd x.num x.den=1 from x.reduced)) ▸ .rf rfl)
end Go.Proofs.YtcmjannkbdflmaaGreatDoor
namespace Go.Proofs.YtcmjannkbdflmaaGreatDoor.R1
open Go Go.Vm Go.Num Go.Proofs.YtcmjannkbdflmaaGreatDoor
section
theorem Xaz{l:List Nat}(B:Xao l)(I:l.length<=1099511627776): C0 202 [.d (ws l)] (·=.d (ws (dig (val l)))):=by
 refine En Tryz.func202 λ_ _ _=>?_
 refine Lo (λk=>[(0,.d (ws (l.take k)))]) (λ_=>[]) (λk=>k<=l.length/\val (l.take k)=val l) id l.length [] rfl ⟨W0c _,by rw[W1x]⟩ (λk ⟨A,j⟩=>?_) (hf:=⟨by simp only[W1x];rfl,rfl,rfl,rfl,rfl⟩)
 refine By rfl (λh=>?_) λh=>?_<;>simp only[W0i,W0k,W2d A] at h
 . have I:((l.take k).map wd).length=k:=by simp;omega
   refine Ar (k-1:Nat) rfl ?_
   have o:=W0a (l:=l) (i:=k-1) (by omega)
   refine Ix (k-1) rfl (u:=wd l[k-1]) (mp (by rw[W1l,if_pos (by omega),o])) ?_
   have hs:=Xac o
   rw[show k-1+1=k by omega,j] at hs
   refine By rfl (λh0=>?_) λh0=>?_
   . refine Ar (k-1:Nat) rfl ?_
     refine Tk (k-1) ((l.take (k-1)).map wd) rfl rfl (by simp;omega) (by rw[<-W3d,List.take_take,W2d (by omega)]) ?_
     exact Bk (k-1) [] rfl ⟨by omega,by rw[hs,show l[k-1]=0 by omega,W3i,W2r]⟩ (show k-1<k by omega)
   . exact R1 rfl (.eq (by rw[<-j,Xdg (B.take k) (.inr ⟨l[k-1],by rw[W0k,W2d A,W1l,if_pos (by omega),o],λe=>h0 (by rw[e];rfl)⟩)]))
 . refine R1 rfl (.eq ?_)
   rw[show k=0 by omega] at j |-
   rw[<-j,W8i,val,Xaj]
theorem trim_dig_ok{n:Nat}(h:(dig n).length<=1099511627776): C0 202 [.d (ws (dig n))] (·=.d (ws (dig n))):=by
 have:=Xaz (Xad n) h
 rwa[Xaf] at this
theorem words_ok{n:Nat}(h:n<18446744073709551616): C0 123 [.d (.int .u64 n)] (·=.d (ws (dig n))):=by
 refine En Tryz.func123 λ_ _ _=>?_
 refine Go.Vm.Cv (n%4294967296:Nat) rfl ?_ (hr:=by rw[wWm];omega)
 refine Ar (n/4294967296:Nat) rfl ?_ (hr:=show _/\_ from⟨by omega,Yje n⟩)
 refine Go.Vm.Cv (n/4294967296:Nat) rfl ?_
 exact Ce rfl (Xaz (l:=[n%4294967296,n/4294967296]) (.cons (by omega) (.cons (by omega) .nil)) (by simp))<|R1 rfl (.eq (by rw[show val [n%4294967296,n/4294967296]=n by simp only[val];omega]))
theorem Xq5{b:Bool}{l:List Nat}(i:Xao l)(h:l.length<=1099511627776): C0 122 [.d (.bool b),.d (ws l)] (·=.d (dz (sg b (val l)))):=by
 rw[<-Ylp]
 refine C.nb (show C0 _ [.b b,.d (ws l)] _ from ?_)
 obtain⟨n,j⟩:∃n,n=val l:=⟨_,rfl⟩
 refine En Tryz.func122 λ_ _ _=>?_
 refine Ce rfl (Xaz i h) ?_
 rw[<-j]
 cases b with
 | true =>
  exact Yes rfl rfl<|R1 rfl (by exact .sd (.pd (.bd (by
   rw[W4h,Xal,W0h,bne_iff_ne,lw]
   have:=@Xtv n
   rw[<-W2k] at this
   simp;omega)) (.rf rfl)))
 | false =>
  exact No rfl (by nofun)<|R1 rfl (by exact .sd (.pd (.bd rfl) (.rf rfl)))
theorem Xak{b:Bool}{n:Nat}(h:(dig n).length<=1099511627776): C0 122 [.d (.bool b),.d (ws (dig n))] (·=.d (dz (sg b n))):=by
 have:=Xq5 (b:=b) (Xad n) h
 rwa[Xaf] at this
theorem FromInt_ok{z:Int}(h:-9223372036854775808<=z/\z<9223372036854775808): C0 51 [.d (.int .i64 z)] (·=.d (dz z)):=by
 have i:(dig z.natAbs).length<=2:=Xaq (by omega)
 refine En Tryz.func51 λ_ _ _=>?_
 refine By rfl (λh=>?_) λh=>?_
 . refine Go.Vm.Cv (z%18446744073709551616) rfl ?_ (hr:=wUm _)
   refine Ne (z.natAbs:Int) rfl ?_ (hr:=by rw[wUm];omega)
   exact Ce rfl (words_ok (n:=z.natAbs) (by omega))<|Ce rfl (Xak (n:=z.natAbs) (by omega))<|R1 rfl (.eq (by rw[show sg true z.natAbs=z by unfold sg;rw[if_pos rfl];omega]))
 . refine Go.Vm.Cv (z.natAbs:Int) rfl ?_ (hr:=by rw[wUm];omega)
   exact Ce rfl (words_ok (n:=z.natAbs) (by omega))<|Ce rfl (Xak (n:=z.natAbs) (by omega))<|R1 rfl (.eq (by rw[show sg false z.natAbs=z by unfold sg;rw[if_neg nofun];omega]))
theorem Norm_ok{z:Int}(h:(dig z.natAbs).length<=1099511627776): C0 239 [.d (dz z)] (·=.d (dz z)):=by
 refine En Tryz.func239 λ_ _ _=>?_
 exact Ce rfl (Xak (n:=z.natAbs) h)<|R1 rfl (.eq (by rw[Xra]))
theorem Sign_ok{z:Int}(h:(dig z.natAbs).length<=1099511627776): C0 343 [.d (dz z)] (·=.d (.int .i64 (Xa5 z 0))):=by
 refine En Tryz.func343 λ_ _ _=>?_
 refine Ce rfl (Norm_ok h)<|By rfl (λh=>?_) λh=>?_<;>simp only[lw] at h
 . have:=Xtv.1 (W0n (by omega:(dig z.natAbs).length=0))
   exact R1 rfl (.eq (by rw[show z=0 by omega];rfl))
 . have j:z≠0:=λe=>h (by rw[e];simp[Xaj])
   refine By rfl (λi=>?_) λi=>?_
   . exact R1 rfl (.eq (by rw[Xa5,if_pos i]))
   . exact R1 rfl (.eq (by rw[Xa5,if_neg i,if_pos (by omega)]))
theorem Xb0{x y:Nat}(U:(dig x).length<=1099511627776): C0 340 [.d (ws (dig x)),.d (ws (dig y))] (·=.d (.int .i64 (Xa5 x y))):=by
 refine En Tryz.func340 λ_ _ _=>?_
 refine By rfl (λh=>?_) λh=>?_<;>simp only[lw] at h
 . refine By rfl (λB=>?_) λB=>?_<;>simp only[lw] at B
   . have:=Xdn (m:=x) (n:=y) (by omega)
     exact R1 rfl (.eq (by rw[Xa5,if_pos (by omega)]))
   . have:=Xdn (m:=y) (n:=x) (by omega)
     exact R1 rfl (.eq (by rw[Xa5,if_neg (by omega),if_pos (by omega)]))
 . refine Ar ((dig x).length-1:Int) rfl ?_ (wr (by simp only[lw]) (by simp only[inK];omega))
   refine Lo (λ(k:Nat)=>[(0,.d (ws (dig x))),(1,.d (ws (dig y))),(5,.d (.int .i64 ((k:Int)-1)))]) (λ_=>[]) (λk=>k<=(dig x).length/\(dig x).drop k=(dig y).drop k) (λk=>k) (dig x).length [] rfl ⟨by omega,by rw[W1o (by omega),W1o (by omega)]⟩ λk ⟨V,hd⟩=>?_
   refine By rfl (λB=>?_) λB=>?_
   . obtain⟨u,j⟩:=xat (l:=dig x) (k:=k-1) (by omega)
     obtain⟨v,o⟩:=xat (l:=dig y) (k:=k-1) (by omega)
     have A:(dig x).drop (k-1+1)=(dig y).drop (k-1+1):=by rw[show k-1+1=k by omega];exact hd
     refine Dw rfl<|Ix (k-1) rfl (mp j)<|Ix (k-1) rfl (mp o)<|By rfl (λQ=>?_) λQ=>?_
     . have:=Xj1 (Xad x) (by omega) (by omega) j o A (by omega)
       rw[Xaf,Xaf] at this
       exact R1 rfl (.eq (by rw[Xa5,if_pos (by omega)]))
     . refine Dw rfl<|Ix (k-1) rfl (mp j)<|Ix (k-1) rfl (mp o)<|By rfl (λT=>?_) λT=>?_
       . have:=Xj1 (Xad y) (by omega) (by omega) o j A.symm (by omega)
         rw[Xaf,Xaf] at this
         exact R1 rfl (.eq (by rw[Xa5,if_neg (by omega),if_pos (by omega)]))
       . refine Ar ((k-1:Nat)-1:Int) rfl ?_
         refine Bk (k-1) [] rfl ⟨by omega,?_⟩ (by show k-1<k;omega)
         have I:u=v:=by omega
         rw[W3k (l:=dig x) (i:=k-1) (by omega),W3k (l:=dig y) (i:=k-1) (by omega),show k-1+1=k by omega,hd]
         rw[W0a (by omega)] at j o
         injection j with j
         injection o with o
         rw[j,o,I]
   . have M:k=0:=by omega
     rw[M,W0y,W0y] at hd
     have O:x=y:=by rw[<-Xaf x,hd,Xaf]
     exact R1 rfl (.eq (by rw[O,Xa5,if_neg (by omega),if_neg (by omega)]))
end
section
theorem dtk{l:List Nat}{q m k:Nat}(h:k<m): ((l.drop q).take m)[k]?=l[q+k]?:=by rw[W1l,if_pos h,W2h]
theorem Xze{l:List Nat}{q m:Nat}(h:q+m<=l.length): ((l.drop q).take m).length=m:=by rw[W0k,W1n];omega
theorem Xg8{q n:Nat}{l:List Nat}(B:Xao l)(hq:q+n<=l.length)(I:n<=1099511627776): CN0 202 [.own 1000001 1 q n] [(1000001,.arr 1 (l.map wd))] λv=>∃k,k<=n/\v=.own 1000001 1 q k/\(l.drop q).take k=dig (val ((l.drop q).take n)):=by
 refine EnW Tryz.func202 λ_ _ _ _=>?_
 refine Lo (λk=>[(0,.own 1000001 1 q k)]) (λ_=>[(1000001,.arr 1 (l.map wd))]) (λk=>k<=n/\val ((l.drop q).take k)=val ((l.drop q).take n)) id n [] rfl ⟨W0c _,rfl⟩ λk ⟨A,i⟩=>?_
 have j:=(B.drop q).take k
 refine By rfl (λh=>?_) λh=>?_
 . obtain⟨u,o⟩:=xat (l:=l) (k:=q+(k-1)) (by omega)
   have hs:=Xac (l:=l.drop q) (k:=k-1) (x:=u) (by rw[W2h];exact o)
   rw[show k-1+1=k by omega,i] at hs
   refine Ar (k-1:Nat) rfl ?_
   refine El (k-1) rfl (by omega) ?_
   refine Ld (wd u) rfl (mp o) ?_
   refine By rfl (λh0=>?_) λh0=>?_
   . refine Ar (k-1:Nat) rfl ?_
     refine Sw 0 (k-1) rfl (by omega) (by omega) ?_
     exact Bk (k-1) [] rfl ⟨by omega,by rw[hs,show u=0 by omega,W3i,W2r]⟩ (show k-1<k by omega)
   . exact Rw [] [(1000001,.arr 1 (l.map wd))] rfl (.one (.rf rfl) rfl rfl) ⟨rfl,k,A,rfl,by rw[<-i,Xdg j (.inr ⟨u,by rw[Xze (by omega),dtk (by omega)];exact o,λe=>h0 (by rw[e];rfl)⟩)]⟩
 . refine Rw [] [(1000001,.arr 1 (l.map wd))] rfl (.one (.rf rfl) rfl rfl) ⟨rfl,k,A,rfl,?_⟩
   rw[show k=0 by omega] at i |-
   rw[<-i,W8i,val,Xaj]
theorem Xpx{x y q m:Nat}{l:List Nat}(hq:q+m<=l.length)(Q:(l.drop q).take m=dig x)(V:(dig x).length<=1099511627776): CN0 340 [.own 1000001 1 q m,.d (ws (dig y))] [(1000001,.arr 1 (l.map wd))] (·=.d (.int .i64 (Xa5 x y))):=by
 have Y:(dig x).length=m:=by rw[<-Q,Xze hq]
 rw[Y] at V
 have T:∀ {k u:Nat},(dig x)[k]?=some u->k<m->l[q+k]?=some u:=λh U=>by rw[<-Q,dtk U] at h;exact h
 refine EnW Tryz.func340 λ_ _ _ _=>?_
 refine By rfl (λh=>?_) λh=>?_<;>simp only[lw] at h
 . refine By rfl (λB=>?_) λB=>?_<;>simp only[lw] at B
   . have:=Xdn (m:=x) (n:=y) (by omega)
     exact Rw [] [(1000001,.arr 1 (l.map wd))] rfl (.one (.rf rfl) rfl rfl) ⟨rfl,congrArg AV.d (congrArg (D.int .i64) (by rw[Xa5,if_pos (by omega)]))⟩
   . have:=Xdn (m:=y) (n:=x) (by omega)
     exact Rw [] [(1000001,.arr 1 (l.map wd))] rfl (.one (.rf rfl) rfl rfl) ⟨rfl,congrArg AV.d (congrArg (D.int .i64) (by rw[Xa5,if_neg (by omega),if_pos (by omega)]))⟩
 . refine Ar (m-1:Int) rfl ?_
   refine Lo (λ(k:Nat)=>[(0,.own 1000001 1 q m),(1,.d (ws (dig y))),(5,.d (.int .i64 ((k:Int)-1)))]) (λ_=>[(1000001,.arr 1 (l.map wd))]) (λk=>k<=m/\(dig x).drop k=(dig y).drop k) (λk=>k) m [] rfl ⟨by omega,by rw[W1o (by omega),W1o (by omega)]⟩ λk ⟨U,hd⟩=>?_
   refine By rfl (λB=>?_) λB=>?_
   . obtain⟨u,j⟩:=xat (l:=dig x) (k:=k-1) (by omega)
     obtain⟨v,o⟩:=xat (l:=dig y) (k:=k-1) (by omega)
     have A:(dig x).drop (k-1+1)=(dig y).drop (k-1+1):=by rw[show k-1+1=k by omega];exact hd
     refine Dw rfl<|El (k-1) rfl (by omega) ?_
     refine Ld (wd u) rfl (mp (T j (by omega))) ?_
     refine Ix (k-1) rfl (mp o)<|By rfl (λZ=>?_) λZ=>?_
     . have:=Xj1 (Xad x) (by omega) (by omega) j o A (by omega)
       rw[Xaf,Xaf] at this
       exact Rw [] [(1000001,.arr 1 (l.map wd))] rfl (.one (.rf rfl) rfl rfl) ⟨rfl,congrArg AV.d (congrArg (D.int .i64) (by rw[Xa5,if_pos (by omega)]))⟩
     . refine Dw rfl<|El (k-1) rfl (by omega) ?_
       refine Ld (wd u) rfl (mp (T j (by omega))) ?_
       refine Ix (k-1) rfl (mp o)<|By rfl (λh3=>?_) λh3=>?_
       . have:=Xj1 (Xad y) (by omega) (by omega) o j A.symm (by omega)
         rw[Xaf,Xaf] at this
         exact Rw [] [(1000001,.arr 1 (l.map wd))] rfl (.one (.rf rfl) rfl rfl) ⟨rfl,congrArg AV.d (congrArg (D.int .i64) (by rw[Xa5,if_neg (by omega),if_pos (by omega)]))⟩
       . refine Ar ((k-1:Nat)-1:Int) rfl ?_
         refine Bk (k-1) [] rfl ⟨by omega,?_⟩ (by show k-1<k;omega)
         have I:u=v:=by omega
         rw[W3k (l:=dig x) (i:=k-1) (by omega),W3k (l:=dig y) (i:=k-1) (by omega),show k-1+1=k by omega,hd]
         rw[W0a (by omega)] at j o
         injection j with j
         injection o with o
         rw[j,o,I]
   . have M:k=0:=by omega
     rw[M,W0y,W0y] at hd
     have O:x=y:=by rw[<-Xaf x,hd,Xaf]
     exact Rw [] [(1000001,.arr 1 (l.map wd))] rfl (.one (.rf rfl) rfl rfl) ⟨rfl,congrArg AV.d (congrArg (D.int .i64) (by rw[O,Xa5,if_neg (by omega),if_neg (by omega)]))⟩
theorem Xwh{x y q m:Nat}{l:List Nat}(hq:q+m<=l.length)(Y:(l.drop q).take m=dig x)(hx:(dig x).length<=1099511627776)(M:y<=x): CN0 341 [.own 1000001 1 q m,.d (ws (dig y))] [(1000001,.arr 1 (l.map wd))] (·=.d (ws (dig (x-y)))):=by
 have hm:(dig x).length=m:=by rw[<-Y,Xze hq]
 have hg:∀ {k u:Nat},(dig x)[k]?=some u->k<m->l[q+k]?=some u:=λh Z=>by rw[<-Y,dtk Z] at h;exact h
 rw[hm] at hx
 have hll:=Xan M
 refine EnW Tryz.func341 λ_ _ _ _=>?_
 refine Mk m rfl (by omega) ?_
 refine Lo (λ(k,lo,i)=>[(0,.own 1000001 1 q m),(1,.d (ws (dig y))),(5,.own 12 1 0 m),(6,.d (.int .u64 (i:Nat))),(7,.d (.int .i64 (k:Nat)))]) (λ(_,lo,_)=>[(12,.arr 1 (lo.map wd)),(1000001,.arr 1 (l.map wd))])
  (λ(k,lo,i)=>k<=m/\lo.length=m/\Xao lo/\i<=1/\val (lo.take k)+val ((dig y).take k)=val ((dig x).take k)+4294967296^k*i) (λ(k,_,_)=>m-k) (0,List.replicate m 0,0) [] rfl
  ⟨by omega,by simp,Xfk _,by omega,by simp[val]⟩ ?_ (by exact⟨rfl,by simp only[W2i];rfl,rfl,rfl,rfl⟩)
 rintro⟨k,lo,i⟩ ⟨Z,o,O,hbr,j⟩
 refine By rfl (λh=>?_) λh=>?_
 . obtain⟨u,Q⟩:=xat (l:=dig x) (k:=k) (by omega)
   have hub:=ww Q (Xad x)
   refine Cu none (λ(v:Nat)=>[(0,.own 1000001 1 q m),(1,.d (ws (dig y))),(5,.own 12 1 0 m),(6,.d (.int .u64 i)),(7,.d (.int .i64 k)),(8,.d (.int .u64 v))]) (λ_=>[(12,.arr 1 (lo.map wd)),(1000001,.arr 1 (l.map wd))])
    (λv=>v<4294967296/\val ((dig y).take (k+1))=val ((dig y).take k)+4294967296^k*v) rfl ?_ λv ⟨hv,T⟩=>?_
   . refine By rfl (λh2=>?_) λh2=>?_<;>simp only[lw] at h2
     . obtain⟨u2,A⟩:=xat (l:=dig y) (k:=k) (by omega)
       have B:=ww A (Xad y)
       refine Ix k rfl (mp A)<|Go.Vm.Cv u2 rfl ?_
       exact Jn u2 [] rfl ⟨B,Xac A⟩
     . exact Jn 0 [] rfl ⟨by omega,by rw[Xgf (by omega)];rfl⟩
   obtain⟨s,hs⟩:∃s,s=u+4294967296-v-i:=⟨_,rfl⟩
   refine El k rfl (by omega) ?_
   refine Ld (wd u) rfl (mp (hg Q (by omega))) ?_
   refine Go.Vm.Cv u rfl ?_
   refine Ar (u+4294967296:Nat) rfl ?_
   refine Ar (u+4294967296-v:Nat) rfl ?_
   refine Ar s rfl ?_
   refine Go.Vm.Cv (s%4294967296:Nat) rfl ?_ (by rw[wWm];omega)
   refine Eo k rfl (by omega)<|Sto rfl (by simp only[lw];omega) ms ?_
   refine Ar (s/4294967296:Nat) rfl ?_ (Xh2 (n:=32) (by decide))
   refine Ar (1-s/4294967296:Nat) rfl ?_
   refine Ar (k+1:Nat) rfl ?_
   refine Bk (k+1,lo.set k (s%4294967296),1-s/4294967296) [] rfl ⟨by omega,by simp[o],Xgv O (by omega),by omega,?_⟩ (by show m-(k+1)<m-k;omega)
   rw[Xbd (by omega),T,Xac Q,W0q,W0t]
   have e:4294967296^k*(s%4294967296+v+i)=4294967296^k*(u+4294967296*(1-s/4294967296)):=by congr 1;omega
   simp only[W0z] at e
   omega
 . have U:k=m:=by omega
   rw[U,W0b (by omega),W0b (by omega),W0b (by omega),Xaf,Xaf] at j
   have V:=Xbx O
   rw[o] at V
   have I:i=0:=by
    rcases W2o i with h0 | h0
    . exact h0
    . have h1:4294967296^m*1<=4294967296^m*i:=W0p _ h0
      omega
   rw[I,W3i] at j
   refine Fz 12 5 (lo.map wd) rfl (by simp only[lw];omega) (oa o) ?_
   exact Ce rfl (Xaz O (by omega))<|Rw [] [(1000001,.arr 1 (l.map wd))] rfl (.one (.rf rfl) rfl rfl) ⟨rfl,by rw[show val lo=x-y by omega]⟩
theorem Xdz{x y:Nat}(hx:(dig x).length<=1099511627776)(M:y<=x): C0 341 [.d (ws (dig x)),.d (ws (dig y))] (·=.d (ws (dig (x-y)))):=by
 obtain⟨m,Y⟩:∃m,(dig x).length=m:=⟨_,rfl⟩
 rw[Y] at hx
 have hll:=Xan M
 refine En Tryz.func341 λ_ _ _=>?_
 refine Mk m rfl (by simp only[lw];omega) ?_ (by simp only[lw,Y])
 refine Lo (λ(k,lo,i)=>[(0,.d (ws (dig x))),(1,.d (ws (dig y))),(5,.own 12 1 0 m),(6,.d (.int .u64 (i:Nat))),(7,.d (.int .i64 (k:Nat)))]) (λ(_,lo,_)=>[(12,.arr 1 (lo.map wd))])
  (λ(k,lo,i)=>k<=m/\lo.length=m/\Xao lo/\i<=1/\val (lo.take k)+val ((dig y).take k)=val ((dig x).take k)+4294967296^k*i) (λ(k,_,_)=>m-k) (0,List.replicate m 0,0) [] rfl
  ⟨by omega,by simp,Xfk _,by omega,by simp[val]⟩ ?_ (by exact⟨rfl,by simp only[W2i];rfl,rfl,rfl,rfl⟩)
 rintro⟨k,lo,i⟩ ⟨hk,o,O,hbr,j⟩
 refine By rfl (λh=>?_) λh=>?_<;>simp only[lw] at h
 . obtain⟨u,Q⟩:=xat (l:=dig x) (k:=k) (by omega)
   have hub:=ww Q (Xad x)
   refine Cu none (λ(v:Nat)=>[(0,.d (ws (dig x))),(1,.d (ws (dig y))),(5,.own 12 1 0 m),(6,.d (.int .u64 i)),(7,.d (.int .i64 k)),(8,.d (.int .u64 v))]) (λ_=>[(12,.arr 1 (lo.map wd))])
    (λv=>v<4294967296/\val ((dig y).take (k+1))=val ((dig y).take k)+4294967296^k*v) rfl ?_ λv ⟨hv,T⟩=>?_
   . refine By rfl (λZ=>?_) λZ=>?_<;>simp only[lw] at Z
     . obtain⟨u2,A⟩:=xat (l:=dig y) (k:=k) (by omega)
       have B:=ww A (Xad y)
       refine Ix k rfl (mp A)<|Go.Vm.Cv u2 rfl ?_
       exact Jn u2 [] rfl ⟨B,Xac A⟩
     . exact Jn 0 [] rfl ⟨by omega,by rw[Xgf (by omega)];rfl⟩
   obtain⟨s,hs⟩:∃s,s=u+4294967296-v-i:=⟨_,rfl⟩
   refine Ix k rfl (mp Q)<|Go.Vm.Cv u rfl ?_
   refine Ar (u+4294967296:Nat) rfl ?_
   refine Ar (u+4294967296-v:Nat) rfl ?_
   refine Ar s rfl ?_
   refine Go.Vm.Cv (s%4294967296:Nat) rfl ?_ (by rw[wWm];omega)
   refine Eo k rfl (by omega)<|Sto rfl (by simp only[lw];omega) ms ?_
   refine Ar (s/4294967296:Nat) rfl ?_ (Xh2 (n:=32) (by decide))
   refine Ar (1-s/4294967296:Nat) rfl ?_
   refine Ar (k+1:Nat) rfl ?_
   refine Bk (k+1,lo.set k (s%4294967296),1-s/4294967296) [] rfl ⟨by omega,by simp[o],Xgv O (by omega),by omega,?_⟩ (by show m-(k+1)<m-k;omega)
   rw[Xbd (by omega),T,Xac Q,W0q,W0t]
   have e:4294967296^k*(s%4294967296+v+i)=4294967296^k*(u+4294967296*(1-s/4294967296)):=by congr 1;omega
   simp only[W0z] at e
   omega
 . have U:k=m:=by omega
   rw[U,W0b (by omega),W0b (by omega),W0b (by omega),Xaf,Xaf] at j
   have V:=Xbx O
   rw[o] at V
   have I:i=0:=by
    rcases W2o i with h0 | h0
    . exact h0
    . have h1:4294967296^m*1<=4294967296^m*i:=W0p _ h0
      omega
   rw[I,W3i] at j
   refine Fz 12 5 (lo.map wd) rfl (by simp only[lw];omega) (oa o) ?_
   exact Ce rfl (Xaz O (by omega))<|R1 rfl (.eq (by rw[show val lo=x-y by omega]))
end
section
theorem Xif{x y:Nat}(hx:(dig x).length<=549755813888)(hy:(dig y).length<=549755813888): C0 339 [.d (ws (dig x)),.d (ws (dig y))] (·=.d (ws (dig (x+y)))):=by
 refine En Tryz.func339 λ_ _ _=>?_
 refine Cu none (λ(a,b)=>[(0,.d (ws (dig a))),(1,.d (ws (dig b)))]) (λ_=>[]) (λ(a,b)=>a+b=x+y/\(dig b).length<=(dig a).length/\(dig a).length<=549755813888) rfl ?_ λ⟨a,b⟩ ⟨hs,M,A⟩=>?_
 . refine By rfl (λh=>?_) λh=>?_<;>simp only[lw] at h
   . exact Jn (y,x) [] rfl ⟨Nat.add_comm _ _,by omega,hy⟩
   . exact Jn (x,y) [] rfl ⟨rfl,by omega,hx⟩
 obtain⟨m,U⟩:∃m,(dig a).length=m:=⟨_,rfl⟩
 rw[U] at M A
 refine Ar (m+1:Nat) rfl ?_ (wr (by simp only[lw,U];omega) (by simp only[inK];omega))
 refine Mk (m+1) rfl (by omega) ?_
 refine Lo (λ(k,lo,i)=>[(0,.d (ws (dig a))),(1,.d (ws (dig b))),(5,.own 18 1 0 (m+1)),(6,.d (.int .u64 (i:Nat))),(7,.d (.int .i64 (k:Nat)))]) (λ(_,lo,_)=>[(18,.arr 1 (lo.map wd))])
  (λ(k,lo,i)=>k<=m/\lo.length=m+1/\Xao lo/\i<=1/\val (lo.take k)+4294967296^k*i=val ((dig a).take k)+val ((dig b).take k)) (λ(k,_,_)=>m-k) (0,List.replicate (m+1) 0,0) [] rfl ⟨by omega,by simp,Xfk _,by omega,by simp[val]⟩ ?_ (by exact⟨rfl,by simp only[W2i];rfl,rfl,rfl,rfl⟩)
 rintro⟨k,lo,i⟩ ⟨hk,V,Y,hcr,j⟩
 refine By rfl (λh=>?_) λh=>?_<;>simp only[lw] at h
 . obtain⟨u,I⟩:=xat (l:=dig a) (k:=k) (by omega)
   have hub:=ww I (Xad a)
   refine Ix k rfl (mp I)<|Go.Vm.Cv u rfl ?_
   refine Ar (i+u:Nat) rfl ?_
   refine Cu none (λ(s:Nat)=>[(0,.d (ws (dig a))),(1,.d (ws (dig b))),(5,.own 18 1 0 (m+1)),(6,.d (.int .u64 s)),(7,.d (.int .i64 k))]) (λ_=>[(18,.arr 1 (lo.map wd))])
    (λs=>s<8589934592/\4294967296^k*s+val (lo.take k)=val ((dig a).take (k+1))+val ((dig b).take (k+1))) rfl ?_ λs ⟨hs8,O⟩=>?_
   . refine By rfl (λZ=>?_) λZ=>?_<;>simp only[lw] at Z
     . obtain⟨Q,o⟩:=xat (l:=dig b) (k:=k) (by omega)
       have hub2:=ww o (Xad b)
       refine Ix k rfl (mp o)<|Go.Vm.Cv Q rfl ?_
       refine Ar (i+u+Q:Nat) rfl ?_
       exact Jn (i+u+Q) [] rfl ⟨by omega,by rw[Xac I,Xac o,W0z,W0z];omega⟩
     . exact Jn (i+u) [] rfl ⟨by omega,by rw[Xac I,Xgf (l:=dig b) (by omega),W0z];omega⟩
   refine Go.Vm.Cv (s%4294967296:Nat) rfl ?_ (by rw[wWm];omega)
   refine Eo k rfl (by omega)<|Sto rfl (by simp only[lw];omega) ms ?_
   refine Ar (s/4294967296:Nat) rfl ?_ (Xh2 (n:=32) (by decide))
   refine Ar (k+1:Nat) rfl ?_
   refine Bk (k+1,lo.set k (s%4294967296),s/4294967296) [] rfl ⟨by omega,by simp[V],Xgv Y (by omega),by show s/4294967296<=1;omega,?_⟩ (by show m-(k+1)<m-k;omega)
   rw[Xbd (by omega),<-O,W0q,W0t]
   have e2:4294967296^k*s=4294967296^k*(s%4294967296)+4294967296^k*(4294967296*(s/4294967296)):=by rw[<-W0z];congr 1;omega
   omega
 . have T:k=m:=by omega
   subst T
   rw[W0b (l:=dig a) (by omega),W0b (l:=dig b) (by omega),Xaf,Xaf,hs] at j
   have B:val (lo.set k i)=x+y:=by
    have:=Xbd (l:=lo) (k:=k) (d:=i) (by omega)
    rw[W0b (by rw[W3o];omega)] at this
    rw[this,j]
   refine Go.Vm.Cv i rfl ?_
   refine Eo k rfl (by omega) ?_ (by simp only[lw];omega)
   refine Sto rfl (by simp only[lw];omega) ms ?_
   refine Fz 14 5 ((lo.set k i).map wd) rfl (by simp only[lw,W3o];omega) (oa (by simp[V])) ?_
   exact Ce rfl (Xaz (Xgv Y (by omega)) (by simp only[W3o];omega))<|R1 rfl (.eq (by rw[B]))
theorem Xuq{X Y:List Nat}(hX:Xao X)(hY:Xao Y)(hx:X.length<=549755813888)(hy:Y.length<=549755813888): C0 350 [.d (ws X),.d (ws Y)] (·=.d (ws (dig (val X*val Y)))):=by
 obtain⟨n,hn⟩:∃n,X.length=n:=⟨_,rfl⟩
 obtain⟨m,hm⟩:∃m,Y.length=m:=⟨_,rfl⟩
 rw[hm] at hy
 rw[hn] at hx
 refine En Tryz.func350 λ_ _ _=>?_
 refine Ar (n+m:Nat) rfl ?_ (wr (by simp only[lw];omega) (by simp only[inK];omega))
 refine Mk (n+m) rfl (by omega) ?_
 refine Lo (λ(i,lo)=>[(0,.d (ws X)),(1,.d (ws Y)),(5,.own 14 1 0 (n+m)),(6,.d (.int .i64 (i:Nat)))]) (λ(_,lo)=>[(14,.arr 1 (lo.map wd))])
  (λ(i,lo)=>i<=n/\lo.length=n+m/\Xao lo/\val (lo.take (i+m))=val (X.take i)*val Y/\∀j,i+m<=j->j<n+m->lo[j]?=some 0) (λ(i,_)=>n-i)
  (0,List.replicate (n+m) 0) [] rfl ⟨by omega,by simp,Xfk _,by rw[W5l,Xbq];simp[val],λj _ h=>by rw[W5k,if_pos h]⟩ ?_ (by exact⟨rfl,by simp only[W2i];rfl,rfl,rfl,rfl⟩)
 rintro⟨i,A⟩ ⟨hi,Q,T,B,Z⟩
 refine By rfl (λh=>?_) λh=>?_<;>simp only[lw] at h
 . obtain⟨u,hu⟩:=xat (l:=X) (k:=i) (by omega)
   have hub:=ww hu (hX)
   refine Lo (λ(k,lo,I)=>[(0,.d (ws X)),(1,.d (ws Y)),(5,.own 14 1 0 (n+m)),(6,.d (.int .i64 i)),(7,.d (.int .u64 (I:Nat))),(8,.d (.int .i64 (k:Nat)))]) (λ(_,lo,_)=>[(14,.arr 1 (lo.map wd))])
    (λ(k,lo,I)=>k<=m/\lo.length=n+m/\Xao lo/\I<4294967296/\(∀j,i+k<=j->lo[j]?=A[j]?)/\val (lo.take (i+k))+4294967296^(i+k)*I=val (A.take (i+k))+4294967296^i*(u*val (Y.take k))) (λ(k,_,_)=>m-k)
    (0,A,0) [] rfl ⟨by omega,Q,T,by omega,λ_ _=>rfl,by simp[val]⟩ ?_
   rintro⟨k,lo,I⟩ ⟨hk,U,hw,hcr,o,M⟩
   refine By rfl (λh=>?_) λh=>?_<;>simp only[lw] at h
   . obtain⟨v,hv⟩:=xat (l:=Y) (k:=k) (by omega)
     have hvb:=ww hv (hY)
     obtain⟨w,O⟩:=xat (l:=lo) (k:=i+k) (by omega)
     have hwb:=ww O hw
     have huv:u*v<=4294967295*4294967295:=W1z (by omega) (by omega)
     obtain⟨s,hs⟩:∃s,s=I+w+u*v:=⟨_,rfl⟩
     have hs2:s<18446744073709551616:=by omega
     refine Dw rfl<|Ar (i+k:Nat) rfl ?_
     refine Eo (i+k) rfl (by omega)<|Ld (wd w) rfl (mp O) ?_
     refine Go.Vm.Cv w rfl ?_
     refine Ar (I+w:Nat) rfl ?_
     refine Ix i rfl (mp hu)<|Go.Vm.Cv u rfl ?_
     refine Ix k rfl (mp hv)<|Go.Vm.Cv v rfl ?_
     refine Ar (u*v:Nat) rfl ?_ (wr (W2z ..).symm (by simp only[inK];omega))
     refine Ar (s:Nat) rfl ?_
     refine Ar (i+k:Nat) rfl ?_
     refine Go.Vm.Cv (s%4294967296:Nat) rfl ?_ (by rw[wWm];omega)
     refine Eo (i+k) rfl (by omega)<|Sto rfl (by simp only[lw];omega) ms ?_
     refine Ar (s/4294967296:Nat) rfl ?_ (Xh2 (n:=32) (by decide))
     refine Ar (k+1:Nat) rfl ?_
     refine Bk (k+1,lo.set (i+k) (s%4294967296),s/4294967296) [] rfl ⟨by omega,by simp[U],Xgv hw (by omega),by omega,λj hj=>by rw[W1v (by omega)];exact o j (by omega),?_⟩ (by show _-(k+1)<_-k;omega)
     have V:A[i+k]?=some w:=by rw[<-o (i+k) (W0c _)];exact O
     rw[<-W4r,Xbd (by omega),Xac V,Xac hv,W0q,W0t,W0z u,W0z (4294967296^i)]
     have e:4294967296^(i+k)*s=4294967296^(i+k)*(s%4294967296)+4294967296^(i+k)*(4294967296*(s/4294967296)):=by rw[<-W0z];congr 1;omega
     have e2:4294967296^(i+k)*s=4294967296^(i+k)*I+4294967296^i*(u*(4294967296^k*v))+4294967296^(i+k)*w:=by
      rw[hs,W0z,W0z,W1a]
      have:4294967296^i*4294967296^k*(u*v)=4294967296^i*(u*(4294967296^k*v)):=by
       rw[W0t,W4e (4294967296^k) u v]
      omega
     omega
   . have hkm:k=m:=by omega
     subst hkm
     refine Ar (i+k:Nat) rfl ?_ (wr (by simp only[lw];omega) (by simp only[inK];omega))
     refine Go.Vm.Cv I rfl ?_
     refine Eo (i+k) rfl (by omega)<|Sto rfl (by simp only[lw];omega) ms ?_
     refine Ar (i+1:Nat) rfl ?_
     refine Bk (i+1,lo.set (i+k) I) [] rfl ⟨by omega,by simp[U],Xgv hw hcr,?_,λj h1 h2=>by rw[W1v (by omega),o j (by omega)];exact Z j (by omega) h2⟩ (by show _-(i+1)<_-i;omega)
     rw[show i+1+k=i+k+1 by omega,Xbd (by omega),Xac hu,M,B,show Y.take k=Y from W0b (by omega),W1i,W0t]
 . have him:i=n:=by omega
   rw[him,W0b (by omega),W0b (by omega)] at B
   refine Fz 13 5 (A.map wd) rfl (by simp only[lw];omega) (oa Q) ?_
   exact Ce rfl (Xaz T (by omega))<|R1 rfl (.eq (by rw[B]))
theorem Xkw{x y:Nat}(h:(dig x).length<=549755813888)(i:(dig y).length<=549755813888): C0 350 [.d (ws (dig x)),.d (ws (dig y))] (·=.d (ws (dig (x*y)))):=by
 have:=Xuq (Xad x) (Xad y) h i
 rwa[Xaf,Xaf] at this
theorem Xur{x q n:Nat}{l:List Nat}(hq:q+n<=l.length)(hl:(l.drop q).take n=dig x)(hx:(dig x).length<=549755813888): CN0 350 [.own 1000001 1 q n,.own 1000001 1 q n] [(1000001,.arr 1 (l.map wd))] (·=.d (ws (dig (x*x)))):=by
 have hg:∀ {k u:Nat},(dig x)[k]?=some u->k<n->l[q+k]?=some u:=λh hk=>by rw[<-hl,dtk hk] at h;exact h
 have hn:(dig x).length=n:=by rw[<-hl,Xze hq]
 rw[hn] at hx
 refine EnW Tryz.func350 λ_ _ _ _=>?_
 refine Ar (n+n:Nat) rfl ?_ (wr (by omega) (by simp only[inK];omega))
 refine Mk (n+n) rfl (by omega) ?_
 refine Lo (λ(i,lo)=>[(0,.own 1000001 1 q n),(1,.own 1000001 1 q n),(5,.own 14 1 0 (n+n)),(6,.d (.int .i64 (i:Nat)))]) (λ(_,lo)=>[(14,.arr 1 (lo.map wd)),(1000001,.arr 1 (l.map wd))])
  (λ(i,lo)=>i<=n/\lo.length=n+n/\Xao lo/\val (lo.take (i+n))=val ((dig x).take i)*x/\∀j,i+n<=j->j<n+n->lo[j]?=some 0) (λ(i,_)=>n-i)
  (0,List.replicate (n+n) 0) [] rfl ⟨by omega,by simp,Xfk _,by rw[W5l,Xbq];simp[val],λj _ h=>by rw[W5k,if_pos h]⟩ ?_ (by exact⟨rfl,by simp only[W2i];rfl,rfl,rfl,rfl⟩)
 rintro⟨i,A⟩ ⟨hi,Q,T,B,Y⟩
 refine By rfl (λh=>?_) λh=>?_
 . obtain⟨u,Z⟩:=xat (l:=dig x) (k:=i) (by omega)
   have hub:=ww Z (Xad x)
   refine Lo (λ(k,lo,I)=>[(0,.own 1000001 1 q n),(1,.own 1000001 1 q n),(5,.own 14 1 0 (n+n)),(6,.d (.int .i64 i)),(7,.d (.int .u64 (I:Nat))),(8,.d (.int .i64 (k:Nat)))]) (λ(_,lo,_)=>[(14,.arr 1 (lo.map wd)),(1000001,.arr 1 (l.map wd))])
    (λ(k,lo,I)=>k<=n/\lo.length=n+n/\Xao lo/\I<4294967296/\(∀j,i+k<=j->lo[j]?=A[j]?)/\val (lo.take (i+k))+4294967296^(i+k)*I=val (A.take (i+k))+4294967296^i*(u*val ((dig x).take k))) (λ(k,_,_)=>n-k)
    (0,A,0) [] rfl ⟨by omega,Q,T,by omega,λ_ _=>rfl,by simp[val]⟩ ?_
   rintro⟨k,lo,I⟩ ⟨hk,U,hw,hcr,o,M⟩
   refine By rfl (λh=>?_) λh=>?_
   . obtain⟨v,hv⟩:=xat (l:=dig x) (k:=k) (by omega)
     have hvb:=ww hv (Xad x)
     obtain⟨w,O⟩:=xat (l:=lo) (k:=i+k) (by omega)
     have hwb:=ww O hw
     have huv:u*v<=4294967295*4294967295:=W1z (by omega) (by omega)
     obtain⟨s,hs⟩:∃s,s=I+w+u*v:=⟨_,rfl⟩
     have hs2:s<18446744073709551616:=by omega
     refine Dw rfl<|Ar (i+k:Nat) rfl ?_
     refine Eo (i+k) rfl (by omega)<|Ld (wd w) rfl (mp O) ?_
     refine Go.Vm.Cv w rfl ?_
     refine Ar (I+w:Nat) rfl ?_
     refine El i rfl (by omega) ?_
     refine Ld (wd u) rfl (mp (hg Z (by omega))) ?_
     refine Go.Vm.Cv u rfl ?_
     refine El k rfl (by omega) ?_
     refine Ld (wd v) rfl (mp (hg hv (by omega))) ?_
     refine Go.Vm.Cv v rfl ?_
     refine Ar (u*v:Nat) rfl ?_ (wr (W2z ..).symm (by simp only[inK];omega))
     refine Ar (s:Nat) rfl ?_
     refine Ar (i+k:Nat) rfl ?_
     refine Go.Vm.Cv (s%4294967296:Nat) rfl ?_ (by rw[wWm];omega)
     refine Eo (i+k) rfl (by omega)<|Sto rfl (by simp only[lw];omega) ms ?_
     refine Ar (s/4294967296:Nat) rfl ?_ (Xh2 (n:=32) (by decide))
     refine Ar (k+1:Nat) rfl ?_
     refine Bk (k+1,lo.set (i+k) (s%4294967296),s/4294967296) [] rfl ⟨by omega,by simp[U],Xgv hw (by omega),by omega,λj hj=>by rw[W1v (by omega)];exact o j (by omega),?_⟩ (by show _-(k+1)<_-k;omega)
     have V:A[i+k]?=some w:=by rw[<-o (i+k) (W0c _)];exact O
     rw[<-W4r,Xbd (by omega),Xac V,Xac hv,W0q,W0t,W0z u,W0z (4294967296^i)]
     have e:4294967296^(i+k)*s=4294967296^(i+k)*(s%4294967296)+4294967296^(i+k)*(4294967296*(s/4294967296)):=by rw[<-W0z];congr 1;omega
     have e2:4294967296^(i+k)*s=4294967296^(i+k)*I+4294967296^i*(u*(4294967296^k*v))+4294967296^(i+k)*w:=by
      rw[hs,W0z,W0z,W1a]
      have:4294967296^i*4294967296^k*(u*v)=4294967296^i*(u*(4294967296^k*v)):=by
       rw[W0t,W4e (4294967296^k) u v]
      omega
     omega
   . have hkm:k=n:=by omega
     subst hkm
     refine Ar (i+k:Nat) rfl ?_ (wr (by omega) (by simp only[inK];omega))
     refine Go.Vm.Cv I rfl ?_
     refine Eo (i+k) rfl (by omega)<|Sto rfl (by simp only[lw];omega) ms ?_
     refine Ar (i+1:Nat) rfl ?_
     refine Bk (i+1,lo.set (i+k) I) [] rfl ⟨by omega,by simp[U],Xgv hw hcr,?_,λj h1 h2=>by rw[W1v (by omega),o j (by omega)];exact Y j (by omega) h2⟩ (by show _-(i+1)<_-i;omega)
     rw[show i+1+k=i+k+1 by omega,Xbd (by omega),Xac Z,M,B,show (dig x).take k=dig x from W0b (by omega),Xaf,W1i,W0t]
 . have him:i=n:=by omega
   rw[him,W0b (by omega),W0b (by omega),Xaf] at B
   refine Fz 13 5 (A.map wd) rfl (by simp only[lw];omega) (oa Q) ?_
   exact Ce rfl (Xaz T (by omega))<|Rw [] [(1000001,.arr 1 (l.map wd))] rfl (.one (.rf rfl) rfl rfl) ⟨rfl,by rw[B]⟩
end
section
theorem Neg_ok{z:Int}(h:(dig z.natAbs).length<=1099511627776): C0 252 [.d (dz z)] (·=.d (dz (-z))):=by
 refine En Tryz.func252 λ_ _ _=>?_
 exact Ce rfl (Xak h)<|R1 rfl (.eq (by rw[Yc1]))
theorem Add_ok{a b:Int}(ha:(dig a.natAbs).length<=549755813888)(hb:(dig b.natAbs).length<=549755813888): C0 234 [.d (dz a),.d (dz b)] (·=.d (dz (a+b))):=by
 refine En Tryz.func234 λ_ _ _=>?_
 refine Dw rfl<|Ce rfl (Norm_ok (by omega))<|Ce rfl (Norm_ok (by omega))<|By rfl (λh=>?_) λh=>?_<;>rw[Yph] at h
 . exact Dw rfl<|Ce rfl (Xif ha hb)<|Ce rfl (Xak (W0l (Xgn ..) (by omega)))<|R1 rfl (.eq (by rw[Yc3 h]))
 . refine Ce rfl (Xb0 (by omega))<|By rfl (λj=>?_) λj=>?_
   . have i:=Ypb.1 (show ¬Xa5 (a.natAbs:Int) (b.natAbs:Int)<0 by omega)
     exact Dw rfl<|Ce rfl (Xdz (by omega) i)<|Ce rfl (Xak (W0l (Xan (Nat.sub_le ..)) (by omega)))<|R1 rfl (.eq (by rw[Xq9 h i]))
   . have i:=W2e (Ybv.1 (show Xa5 (a.natAbs:Int) (b.natAbs:Int)<0 by omega))
     exact Dw rfl<|Ce rfl (Xdz (by omega) i)<|Ce rfl (Xak (W0l (Xan (Nat.sub_le ..)) (by omega)))<|R1 rfl (.eq (by rw[Xq9 (λe=>h e.symm) i,Int.add_comm]))
theorem Sub_ok{a b:Int}(ha:(dig a.natAbs).length<=549755813888)(hb:(dig b.natAbs).length<=549755813888): C0 411 [.d (dz a),.d (dz b)] (·=.d (dz (a-b))):=by
 refine En Tryz.func411 λ_ _ _=>?_
 exact Dw rfl<|Ce rfl (Neg_ok (by omega))<|Ce rfl (Add_ok ha (by rw[W4v];exact hb))<|R0
theorem Mul_ok{a b:Int}(ha:(dig a.natAbs).length<=549755813888)(hb:(dig b.natAbs).length<=549755813888): C0 248 [.d (dz a),.d (dz b)] (·=.d (dz (a*b))):=by
 refine En Tryz.func248 λ_ _ _=>?_
 exact Dw rfl<|Ce rfl (Norm_ok (by omega))<|Ce rfl (Norm_ok (by omega))<|Dw rfl<|Ce rfl (Xkw ha hb)<|Ce rfl (Xak (W0l (Xlp ..) (by omega)))<|R1 rfl (.eq (by rw[Yee,Yc2]))
theorem Xyc(a b:Int): Xa5 (a-b) 0=Xa5 a b:=by
 unfold Xa5;split<;>split<;>(try split)<;>(try split)<;>omega
theorem Cmp_ok{a b:Int}(ha:(dig a.natAbs).length<=549755813888)(hb:(dig b.natAbs).length<=549755813888): C0 403 [.d (dz a),.d (dz b)] (·=.d (.int .i64 (Xa5 a b))):=by
 have i:=Xgn a.natAbs b.natAbs
 have h:=Xan (show (a-b).natAbs<=a.natAbs+b.natAbs by omega)
 refine En Tryz.func403 λ_ _ _=>?_
 exact Ce rfl (Sub_ok ha hb)<|Ce rfl (Sign_ok (by omega))<|R1 rfl (.eq (by rw[Xyc]))
theorem Yl6{x y:Nat}(Z:(dig x).length<=549755813888)(hy:y<4294967296)(T:y≠0): C0 240 [.d (ws (dig x)),.d (.int .u32 y)] (·=.tup (.pr (.d (ws (dig (x/y)))) (.d (.int .u32 (x%y:Nat))))):=by
 refine En Tryz.func240 λ_ _ _=>?_
 refine Mk (dig x).length rfl (by simp only[lw];omega) ?_ (by simp only[lw])
 refine Ar ((dig x).length-1:Int) rfl ?_ (wr (by simp only[lw]) (by simp only[inK];omega))
 refine Lo (λ(k,lo,r)=>[(0,.d (ws (dig x))),(1,.d (.int .u32 y)),(6,.own 11 1 0 (dig x).length),(7,.d (.int .u64 (r:Nat))),(8,.d (.int .i64 ((k:Nat)-1:Int)))]) (λ(_,lo,_)=>[(11,.arr 1 (lo.map wd))])
  (λ(k,lo,r)=>k<=(dig x).length/\lo.length=(dig x).length/\Xao lo/\r<y/\val (lo.drop k)*y+r=val ((dig x).drop k)) (λ(k,_,_)=>k) ((dig x).length,List.replicate (dig x).length 0,0) [] rfl
  ⟨by omega,by simp,Xfk _,by omega,by rw[W1o (by simp),W1o (by omega)];simp[val]⟩ ?_ (by exact⟨rfl,by simp only[W2i];rfl,rfl,rfl,rfl⟩)
 rintro⟨k,lo,r⟩ ⟨hk,O,o,Q,i⟩
 refine By rfl (λh=>?_) λh=>?_
 . obtain⟨u,B⟩:=xat (l:=dig x) (k:=k-1) (by omega)
   have U:=ww B (Xad x)
   obtain⟨s,hs⟩:∃s,s=r*2^32+u:=⟨_,rfl⟩
   have j:s<18446744073709551616:=by omega
   have A:s/y<4294967296:=by
    rw[W2u (by omega)]
    have:=W0x 4294967296 (show r+1<=y by omega)
    omega
   have I:s%y<y:=W2b _ (by omega)
   have V:0<=s/y:=W0s _
   refine Ar (r*2^32:Nat) rfl ?_ (Xh3 (n:=32) rfl (by omega) (by decide))
   refine Ix (k-1) rfl (mp B)<|Go.Vm.Cv u rfl ?_
   refine Ar s rfl ?_ (Ydj (by omega) (by omega) (by rw[Xdm u r 32 (by omega),<-hs]) j)
   refine Go.Vm.Cv y rfl ?_
   refine Ar (s/y:Nat) rfl ?_ (show _/\_ from⟨by omega,Yeu s y j⟩)
   refine Go.Vm.Cv (s/y:Nat) rfl ?_ (wW ⟨W5n _,W7d.2 A⟩)
   refine Eo (k-1) rfl (by omega)<|Sto rfl (by simp only[lw];omega) ms ?_
   refine Go.Vm.Cv y rfl ?_
   refine Ar (s%y:Nat) rfl ?_ (show _/\_ from⟨by omega,Xuo s y⟩)
   refine Ar ((k-1:Nat)-1:Int) rfl ?_
   refine Bk (k-1,lo.set (k-1) (s/y),s%y) [] rfl ⟨by omega,by simp[O],Xgv o A,I,?_⟩ (by show k-1<k;omega)
   rw[Xbs B,show k-1+1=k by omega,<-i,drop_set (by omega),val,show k-1+1=k by omega]
   have e:=W2s s y
   rw[W1f] at e
   rw[W1i,W0z,W0t]
   omega
 . have M:k=0:=by omega
   subst M
   rw[W0y,W0y,Xaf] at i
   have hq:x/y=val lo:=by rw[<-i,W1f,Nat.mul_add_div (by omega),W5m Q,W2r]
   have Y:x%y=r:=by rw[<-i,W1f,Nat.mul_add_mod,W3v Q]
   refine Fz 9 6 (lo.map wd) rfl (by simp only[lw];omega) (oa O) ?_
   refine Ce rfl (Xaz o (by omega))<|Go.Vm.Cv (x%y:Nat) rfl ?_ (by rw[Y];exact wW (by omega))
   exact RTt rfl (.cons (.eq (by rw[hq])) (.one (.rf rfl) (λ_ _ e=>by cases e) (λ_ _ e=>by cases e)))
theorem Xq7{x:Nat}(B:(dig x).length<=2): C0 406 [.d (ws (dig x))] (·=.d (.int .u64 x)):=by
 refine En Tryz.func406 λ_ _ _=>?_
 refine Ar ((dig x).length-1:Int) rfl ?_ (wr (by simp only[lw]) (by simp only[inK];omega))
 refine Lo (λk=>[(0,.d (ws (dig x))),(3,.d (.int .u64 (val ((dig x).drop k)))),(4,.d (.int .i64 ((k:Nat)-1:Int)))]) (λ_=>[]) (λk=>k<=(dig x).length) (λk=>k) (dig x).length [] rfl (W0c _) (λk I=>?_) (by exact⟨by rw[W1o (W0c _)];rfl,rfl,rfl,rfl,rfl⟩)
 refine By rfl (λh=>?_) λh=>?_
 . obtain⟨u,j⟩:=xat (l:=dig x) (k:=k-1) (by omega)
   have o:=ww j (Xad x)
   have A:val ((dig x).drop k)<4294967296:=by
    have M:=Xbx ((Xad x).drop k)
    have O:4294967296^((dig x).drop k).length<=4294967296^1:=W0m (by decide) (by rw[W1n];omega)
    omega
   have i:=Xbs j
   rw[show k-1+1=k by omega] at i
   obtain⟨s,hs⟩:∃s,s=val ((dig x).drop k):=⟨_,rfl⟩
   rw[<-hs] at A i
   refine Ar (s*2^32:Nat) rfl ?_ (by rw[<-hs];exact Xh3 (n:=32) rfl (by omega) (by decide))
   refine Ix (k-1) rfl (mp j)<|Go.Vm.Cv u rfl ?_
   refine Ar (val ((dig x).drop (k-1)):Nat) rfl ?_ (Ydj (by omega) (by omega) (by rw[Xdm u s 32 (by omega),i];omega) (by omega))
   refine Ar ((k-1:Nat)-1:Int) rfl ?_
   exact Bk (k-1) [] rfl (show k-1<=_ by omega) (by show k-1<k;omega)
 . refine R1 rfl (.eq ?_)
   rw[show k=0 by omega,W0y,Xaf]
theorem Yhl{x:Nat}(h:x≠0): bl x=bl (x/2)+1:=by
 by_cases i:x/2=0
 . have:x=1:=by omega
   subst this
   decide
 . exact Xe0 (n:=x) (k:=1) i
theorem Xnj{x:Nat}(T:(dig x).length<=1099511627776)(h0:x≠0): C0 407 [.d (ws (dig x))] λv=>∃t,(dig x)[(dig x).length-1]?=some t/\t≠0/\t<4294967296/\v=.d (.int .i64 (32*((dig x).length-1)+bl t:Nat)):=by
 have M:(dig x).length≠0:=λe=>h0 (Yql.1 e)
 obtain⟨t,A,o⟩:∃t,(dig x)[(dig x).length-1]?=some t/\t≠0:=by
  rcases Xg9 x with B | B
  . exact absurd (Xtv.1 B) h0
  . exact B
 have j:=ww A (Xad x)
 have O:bl t<=32:=by
  obtain⟨Q,U,V⟩:=Xck o
  have:2^(bl t-1)<2^32:=W1y Q j
  have:=(W2w (by decide:1<2)).1 this
  omega
 refine En Tryz.func407 λ_ _ _=>?_
 refine No rfl (by simp only[lw];omega)<|Ar ((dig x).length-1:Nat) rfl ?_ (wr (by simp only[lw];omega) (by simp only[inK];omega))
 refine Ix ((dig x).length-1) rfl (mp A)<|Lo (λ(k,i)=>[(0,.d (ws (dig x))),(3,.d (.int .i64 (i:Nat))),(4,.d (.int .u32 (k:Nat)))]) (λ_=>[]) (λ(k,i)=>k<4294967296/\bl k+i=bl t) (λ(k,_)=>k) (t,0) [] rfl ⟨j,rfl⟩ ?_
 rintro⟨k,i⟩ ⟨Y,hb⟩
 refine By rfl (λh=>?_) λh=>?_
 . have:=Yhl (x:=k) (by omega)
   refine Ar (i+1:Nat) rfl ?_
   refine Ar (k/2:Nat) rfl ?_ (show _/\_ from⟨by decide,by rw[show Int.tdiv (k:Int) 2=((k/2:Nat):Int) from rfl];exact wW (by omega)⟩)
   exact Bk (k/2,i+1) [] rfl ⟨by omega,by omega⟩ (by show k/2<k;omega)
 . have I:k=0:=by omega
   subst I
   rw[show bl 0=0 from rfl] at hb
   refine Ar ((dig x).length-1:Nat) rfl ?_ (wr (by simp only[lw];omega) (by simp only[inK];omega))
   refine Ar (32*((dig x).length-1):Nat) rfl ?_
   refine Ar (32*((dig x).length-1)+bl t:Nat) rfl ?_
   exact Rt rfl (.one (.rf rfl) rfl rfl) ⟨t,A,o,j,rfl⟩
theorem Xer{n x:Nat}(hx:(dig x).length<=549755813888)(A:n<32): CO0 408 [.d (ws (dig x)),.d (.int .i64 n)] λv ob=>∃l,l.length=(dig x).length+1/\Xao l/\val l=x*2^n/\v=.own 1000000 1 0 l.length/\ob=.arr 1 (l.map wd):=by
 have hp:=W0r n
 have hp32:2^n<=2147483648:=by have:2^n<=2^31:=W0m (by decide) (by omega);omega
 refine EnW Tryz.func408 λ_ _ _ _=>?_
 refine Ar ((dig x).length+1:Nat) rfl ?_ (wr (by simp only[lw];omega) (by simp only[inK];omega))
 refine Mk ((dig x).length+1) rfl (by omega) ?_
 refine Lo (λ(i,lo)=>[(0,.d (ws (dig x))),(1,.d (.int .i64 n)),(5,.own 11 1 0 ((dig x).length+1)),(6,.d (.int .i64 (i:Nat)))]) (λ(_,lo)=>[(11,.arr 1 (lo.map wd))])
  (λ(i,lo)=>i<=(dig x).length/\lo.length=(dig x).length+1/\Xao lo/\val (lo.take (i+1))=val ((dig x).take i)*2^n/\∃w,lo[i]?=some w/\w<2^n) (λ(i,_)=>(dig x).length-i) (0,List.replicate ((dig x).length+1) 0) [] rfl
  ⟨by omega,by simp,Xfk _,by rw[W5l,Xbq];simp[val],0,by simp,hp⟩ ?_ (by exact⟨rfl,by simp only[W2i];rfl,rfl,rfl,rfl⟩)
 rintro⟨i,lo⟩ ⟨hi,Q,B,j,w,hw,T⟩
 refine By rfl (λh=>?_) λh=>?_<;>simp only[lw] at h
 . obtain⟨u,U⟩:=xat (l:=dig x) (k:=i) (by omega)
   have I:=ww U (Xad x)
   have V:=Ycy I A
   have o:=Xdy u n (by omega)
   obtain⟨s,hs⟩:∃s,s=u*2^n:=⟨_,rfl⟩
   have M:=Xh3 hs.symm (by omega) (by omega:n<=64)
   rw[<-hs] at V o
   have Y:w|||s%4294967296=s%4294967296+w:=by rw[Nat.or_comm,o];exact Xdm _ _ _ T
   have O:s%4294967296+w<4294967296:=by
    rw[o]
    have h1:u%2^(32-n)+1<=2^(32-n):=W2b _ (W0r _)
    have h2:=W0x (2^n) h1
    rw[<-W1a,show 32-n+n=32 by omega,W3b] at h2
    omega
   refine Ix i rfl (mp U)<|Go.Vm.Cv u rfl ?_
   refine Ar s rfl ?_ M
   refine Eo i rfl (by omega)<|Ld (wd w) rfl (mp hw) ?_
   refine Go.Vm.Cv (s%4294967296:Nat) rfl ?_ (by rw[wWm];omega)
   refine Ar (s%4294967296+w:Nat) rfl ?_ (Ync (by omega) (by omega) Y O)
   refine Eo i rfl (by omega)<|Sto rfl (by simp only[lw];omega) ms ?_
   refine Ar (i+1:Nat) rfl ?_
   refine Ar (s/4294967296:Nat) rfl ?_ (Xh2 (n:=32) (by decide))
   refine Go.Vm.Cv (s/4294967296:Nat) rfl ?_
   refine Eo (i+1) rfl (by omega)<|Sto rfl (by simp only[W0i,W3o];omega) ms ?_
   refine Ar (i+1:Nat) rfl ?_
   refine Bk (i+1,(lo.set i (s%4294967296+w)).set (i+1) (s/4294967296)) [] rfl ⟨by omega,by simp[Q],Xgv (Xgv B O) (by omega),?_,s/4294967296,by rw[W2n (by rw[W3o];omega)],?_⟩ (by show _-(i+1)<_-i;omega)
   . rw[Xbd (by rw[W3o];omega),Xbd (by omega),Xac U,W1i,<-j,Xac hw,W0t,<-hs,W0q,W0z,W0t]
     have e:4294967296^i*s=4294967296^i*(s%4294967296)+4294967296^i*(4294967296*(s/4294967296)):=by rw[<-W0z];congr 1;omega
     omega
   . rw[W2u (by decide),hs,W1f]
     exact Nat.mul_lt_mul_of_pos_left I hp
 . have Z:i=(dig x).length:=by omega
   rw[Z,W0b (by omega),W0b (by omega),Xaf] at j
   exact Rw [(11,1000000)] [(1000000,.arr 1 (lo.map wd))] rfl (.one (.rf rfl) rfl rfl) ⟨_,rfl,lo,Q,B,j,by rw[Q];rfl,rfl⟩
theorem Xmy{n x:Nat}(i:(dig x).length<=549755813888)(h:n<32): C0 408 [.d (ws (dig x)),.d (.int .i64 n)] λv=>∃l,l.length=(dig x).length+1/\Xao l/\val l=x*2^n/\v=.d (ws l) :=
 CW.data (Xer i h) rfl λv H' ⟨M,e,l,j,o,A,B,I⟩=>⟨.d (ws l),by rw[B,e,I];exact .one (.own rfl (by simp) (oa rfl)) rfl rfl,l,j,o,A,rfl⟩
theorem Xt1{u v n:Nat}(i:u<4294967296)(j:n<32): (u+v*4294967296)/2^n%4294967296=u/2^n+(v%2^n)*2^(32-n):=by
 have e:v*4294967296=v*2^(32-n)*2^n:=by
  rw[W0t,<-W1a,show 32-n+n=32 by omega]
 rw[e,Nat.add_mul_div_right _ _ (W0r n)]
 have h:=Xdy v (32-n) (by omega)
 rw[show 32-(32-n)=n by omega] at h
 have o:=(Xmx (v:=v) i j).2
 rw[<-h] at o |-
 generalize v*2^(32-n)=X at *
 generalize u/2^n=A at *
 omega
theorem Yho{n x:Nat}(hx:(dig x).length<=1099511627776)(o:n<32): C0 410 [.d (ws (dig x)),.d (.int .i64 n)] (·=.d (ws (dig (x/2^n)))):=by
 have hp:=W0r n
 have Z:2^n<=2147483648:=by have:2^n<=2^31:=W0m (by decide) (by omega);omega
 obtain⟨m,hm⟩:∃m,(dig x).length=m:=⟨_,rfl⟩
 rw[hm] at hx
 have A:=Xaf x
 refine En Tryz.func410 λ_ _ _=>?_
 refine Mk m rfl (by simp only[lw];omega) ?_ (by simp only[lw,hm])
 refine Lo (λ(i,lo)=>[(0,.d (ws (dig x))),(1,.d (.int .i64 n)),(5,.own 10 1 0 m),(6,.d (.int .i64 (i:Nat)))]) (λ(_,lo)=>[(10,.arr 1 (lo.map wd))])
  (λ(i,lo)=>i<=m/\lo.length=m/\Xao lo/\val (lo.take i)*2^n+x%2^n=val ((dig x).take i)+4294967296^i*((dig x).getD i 0%2^n)) (λ(i,_)=>m-i) (0,List.replicate m 0) [] rfl
  ⟨by omega,by simp,Xfk _,by have:=Xhr (dig x) n (by omega);rw[A] at this;simp[val,this]⟩ ?_ (by exact⟨rfl,by simp only[W2i];rfl,rfl,rfl,rfl⟩)
 rintro⟨i,lo⟩ ⟨hi,hl,B,j⟩
 refine By rfl (λh=>?_) λh=>?_<;>simp only[lw] at h
 . obtain⟨u,T⟩:=xat (l:=dig x) (k:=i) (by omega)
   have U:=ww T (Xad x)
   have V:(dig x).getD i 0=u:=by rw[W2x,T];rfl
   rw[V] at j
   refine Ix i rfl (mp T)<|Go.Vm.Cv u rfl ?_
   refine Ar (i+1:Nat) rfl ?_
   refine Cu none (λs:Nat=>[(0,.d (ws (dig x))),(1,.d (.int .i64 n)),(5,.own 10 1 0 m),(6,.d (.int .i64 i)),(7,.d (.int .u64 s))]) (λ_=>[(10,.arr 1 (lo.map wd))])
    (λs=>∃v,(dig x).getD (i+1) 0=v/\v<4294967296/\s=u+v*4294967296) rfl ?_ λs ⟨v,I,M,hs⟩=>?_
   . refine By rfl (λh2=>?_) λh2=>?_<;>simp only[lw] at h2
     . obtain⟨v,I⟩:=xat (l:=dig x) (k:=i+1) (by omega)
       have M:=ww I (Xad x)
       refine Ar (i+1:Nat) rfl ?_
       refine Ix (i+1) rfl (mp I)<|Go.Vm.Cv v rfl ?_
       refine Ar (v*2^32:Nat) rfl ?_ (Xh3 (n:=32) rfl (by omega) (by decide))
       refine Ar (u+v*4294967296:Nat) rfl ?_ (Ydj (by omega) (by omega) (by rw[Nat.or_comm,Xdm u v 32 (by omega)];omega) (by omega))
       exact Jn (u+v*4294967296) [] rfl ⟨v,by rw[W2x,I];rfl,M,rfl⟩
     . exact Jn u [] rfl ⟨0,by rw[W2x,W2f (by omega)];rfl,by decide,by omega⟩
   have O:=Xt1 (v:=v) U o
   rw[<-hs] at O
   refine Ar (s/2^n:Nat) rfl ?_ (Xh2 (show n<=64 by omega))
   refine Go.Vm.Cv (s/2^n%4294967296:Nat) rfl ?_ (by rw[wWm];omega)
   refine Eo i rfl (by omega)<|Sto rfl (by simp only[lw];omega) ms ?_
   refine Ar (i+1:Nat) rfl ?_
   refine Bk (i+1,lo.set i (s/2^n%4294967296)) [] rfl ⟨by omega,by simp[hl],Xgv B (by omega),?_⟩ (by show m-(i+1)<m-i;omega)
   rw[Xbd (by omega),Xac T,I,O]
   exact Xq6 o j
 . have Y:i=m:=by omega
   rw[Y,W0b (by omega),W0b (by omega),W2x,W2f (by omega),A] at j
   have Q:val lo=x/2^n:=by
    simp at j
    have:=W2s x (2^n)
    rw[W1f] at this
    exact Nat.eq_of_mul_eq_mul_right hp (by omega)
   refine Fz 9 5 (lo.map wd) rfl (by simp only[lw];omega) (oa hl) ?_
   exact Ce rfl (Xaz B (by omega))<|R1 rfl (.eq (by rw[Q]))
end
section
theorem Xxy{q N y V:Nat}{l:List Nat}(hw:Xao l)(hq:q+N<=l.length)(hN:N=(dig y).length+1)(j:y≠0)(hn40:N<=1099511627776)(hV:val ((l.drop q).take N)=V)(B:V<4294967296*y)(hy:(dig y).length<=549755813888):
 CN0 409 [.own 1000001 1 q N,.d (ws (dig y))] [(1000001,.arr 1 (l.map wd))] (·=.tup (.pr (.d (.int .u32 (V/y:Nat))) (.d (ws (dig (y*(V/y))))))):=by
 obtain⟨n,hn⟩:∃n,n=(dig y).length:=⟨_,rfl⟩
 rw[<-hn] at hN hy
 have hn0:n≠0:=λe=>j (Yql.1 (by omega))
 obtain⟨t,ht,ht0⟩:∃t,(dig y)[n-1]?=some t/\t≠0:=by
  rcases Xg9 y with I | I
  . exact absurd (Xtv.1 I) j
  . rw[<-hn] at I;exact I
 have htb:=ww ht (Xad y)
 obtain⟨O,Q⟩:=xat (l:=l) (k:=q+n) (by omega)
 obtain⟨u1,T⟩:=xat (l:=l) (k:=q+(n-1)) (by omega)
 have hub0:=ww Q hw
 have hub1:=ww T hw
 have hqB:V/y<4294967296:=by rw[W2u (W2q j)];exact B
 have hq00:=W0s (V/y)
 obtain⟨i,A⟩:∃i,i=O*2^32+u1:=⟨_,rfl⟩
 have o:i<18446744073709551616:=by omega
 have hest:V/y<=i/t:=by
  have e1:=Xb2 T
  rw[show n-1+1=n by omega] at e1
  have e2:=Xb2 Q
  rw[<-hN,hV,e1] at e2
  have e3:=Xac ht
  rw[show n-1+1=(dig y).length by omega,W1x,Xaf] at e3
  have hlow:=Xbx ((hw.drop q).take (n-1))
  rw[Xze (by omega)] at hlow
  have hM:4294967296^n=4294967296^(n-1)*4294967296:=by rw[<-W0q];congr 1;omega
  rw[hM] at e2
  generalize 4294967296^(n-1)=M at *
  generalize val ((l.drop q).take (n-1))=low at *
  generalize val ((dig y).take (n-1))=vlow at *
  have I:V<M*(i+1):=by
   have:M*(O*2^32+u1+1)=M*u1+M*4294967296*O+M:=by grind
   rw[A];omega
  have h2:M*t<=y:=by omega
  have hM0:0<M:=by omega
  have h3:V/y<=V/(M*t):=Nat.div_le_div_left h2 (W1p hM0 (W2q ht0))
  refine W0l h3 ?_
  rw[<-W6k]
  refine Nat.div_le_div_right ?_
  have:=(W2u hM0).2 (by rw[W1f];exact I)
  omega
 refine EnW Tryz.func409 λ_ _ _ _=>?_
 refine Dw rfl<|El n rfl (by omega) ?_ (by simp only[lw];omega)
 refine Ld (wd O) rfl (mp Q) ?_
 refine Go.Vm.Cv O rfl ?_
 refine Ar (O*2^32:Nat) rfl ?_ (Xh3 (n:=32) rfl (by omega) (by decide))
 refine Ar (n-1:Nat) rfl ?_ (wr (by simp only[lw];omega) (by simp only[inK];omega))
 refine El (n-1) rfl (by omega) ?_
 refine Ld (wd u1) rfl (mp T) ?_
 refine Go.Vm.Cv u1 rfl ?_
 refine Ar i rfl ?_ (Ydj (by omega) (by omega) (by rw[Xdm u1 O 32 (by omega),A]) o)
 refine Ar (n-1:Nat) rfl ?_ (wr (by simp only[lw];omega) (by simp only[inK];omega))
 refine Ix (n-1) rfl (mp ht)<|Go.Vm.Cv t rfl ?_
 have htt0:=W0s (i/t)
 have htt1:=W4j i t
 refine Ar (i/t:Nat) rfl ?_ (show _/\_ from⟨by omega,Yeu i t o⟩)
 refine Cu none (λg:Nat=>[(0,.own 1000001 1 q N),(1,.d (ws (dig y))),(7,.d (.int .u64 g))]) (λ_=>[(1000001,.arr 1 (l.map wd))]) (λg=>V/y<=g/\g<4294967296) rfl ?_ λg0 ⟨hg0,U⟩=>?_
 . refine By rfl (λh=>?_) λh=>?_
   . exact Jn 4294967295 [] rfl ⟨by omega,by decide⟩
   . exact Jn (i/t) [] rfl ⟨hest,by omega⟩
 refine Go.Vm.Cv g0 rfl ?_
 refine Ce (r:=.d (ws (dig (y*g0)))) rfl (by have:=Xuq (Xad y) (Y:=[g0]) (.cons U .nil) (by omega) (by simp);rwa[Xaf,show val [g0]=g0 by simp[val]] at this)<|Lo (λg:Nat=>[(0,.own 1000001 1 q N),(1,.d (ws (dig y))),(7,.d (.int .u64 g)),(8,.d (ws (dig (y*g))))]) (λ_=>[(1000001,.arr 1 (l.map wd))]) (λg=>V/y<=g/\g<4294967296) (λg=>g) g0 [] rfl ⟨hg0,U⟩ λg ⟨hg,U⟩=>?_
 refine Cn [] rfl (Xg8 hw hq hn40) λv hv=>?_
 obtain⟨k,hk,rfl,Z⟩:=hv
 rw[hV] at Z
 refine Cn [] rfl (Xpx (by omega) Z (by rw[<-Z,Xze (by omega)];omega)) λv hv=>?_
 obtain rfl:v=_:=hv
 refine By rfl (λh=>?_) λh=>?_
 . have hlt2:V<y*g:=Ybv.1 h
   have hg1:V/y<g:=by rw[W2u (W2q j),W1f];exact hlt2
   have hyg:y*g-y=y*(g-1):=by rw[Nat.mul_sub_one]
   have hle:y<=y*g:=W4k _ (by omega)
   have hlen:(dig (y*g)).length<=1099511627776:=by
    have I:=Xlp y g
    have h2:(dig g).length<=1:=Xaq (by omega)
    omega
   refine Ar (g-1:Nat) rfl ?_
   exact Ce rfl (Xdz hlen hle)<|Bk (g-1) [] rfl ⟨by omega,by omega⟩ (by show g-1<g;omega) (by exact⟨by rw[hyg];rfl,rfl,rfl,rfl,rfl⟩)
 . have hge2:y*g<=V:=W4m λB=>h (Ybv.2 B)
   have hg2:g=V/y:=Nat.le_antisymm ((W7t (W2q j)).2 (by rw[W1f];exact hge2)) hg
   refine Go.Vm.Cv g rfl ?_
   exact Rw [] [(1000001,.arr 1 (l.map wd))] rfl (.tup (.cons (.rf rfl) (.one (.rf rfl) (λ_ _ e=>by cases e) (λ_ _ e=>by cases e)))) ⟨rfl,by rw[hg2];rfl⟩
theorem Xcu{x y:Nat}(hx:(dig x).length<=549755813888)(hy:(dig y).length<=549755813888)(Q:y≠0): C0 349 [.d (ws (dig x)),.d (ws (dig y))] (·=.tup (.pr (.d (ws (dig (x/y)))) (.d (ws (dig (x%y)))))):=by
 refine En Tryz.func349 λ_ _ _=>?_
 refine Ce rfl (Xb0 (by omega))<|By rfl (λh=>?_) λh=>?_
 . have hlt:x<y:=Ybv.1 h
   exact RTt rfl (.cons (.nil (by rw[W5m hlt,Xaj];rfl)) (.one (.eq (by rw[W3v hlt])) (λ_ _ e=>by cases e) (λ_ _ e=>by cases e)))
 have hge:y<=x:=W4m λhlt=>h (Ybv.2 hlt)
 have hlenle:=Xan hge
 refine By rfl (λh2=>?_) λh2=>?_<;>simp only[lw] at h2
 . have T:x<18446744073709551616:=by
    have:=Xc1 x
    have Z:4294967296^(dig x).length<=4294967296^2:=W0m (by decide) (by omega)
    omega
   refine Ce rfl (Xq7 (by omega))<|Ce rfl (Xq7 (by omega)) ?_
   have hq64:x/y<18446744073709551616:=W1y (W4j ..) T
   have hr64:x%y<18446744073709551616:=W1y (Nat.mod_le ..) T
   refine Dw rfl<|Ar (x/y:Nat) rfl ?_ (show _/\_ from⟨by omega,Yeu x y T⟩)
   refine Ce rfl (words_ok hq64)<|Ar (x%y:Nat) rfl ?_ (show _/\_ from⟨by omega,Xuo x y⟩)
   exact Ce rfl (words_ok hr64)<|R0t
 refine By rfl (λh3=>?_) λh3=>?_<;>simp only[lw] at h3
 . obtain⟨t,ht⟩:=xat (l:=dig y) (k:=0) (by omega)
   have htb:=ww ht (Xad y)
   have hyt:y=t:=by
    have:=Xac ht
    rw[W0b (by omega),Xaf] at this
    simpa [val] using this
   have hrt:x%t<t:=W2b _ (by omega)
   have hr0:=W0s (x%t)
   refine Ix 0 rfl (mp ht)<|Ce rfl (Yl6 (y:=t) hx htb (by omega))<|Go.Vm.Cv (x%t:Nat) rfl ?_
   exact Ce rfl (words_ok (n:=x%t) (by omega))<|RTt rfl (.cons (.eq (by rw[hyt])) (.one (.eq (by rw[hyt])) (λ_ _ e=>by cases e) (λ_ _ e=>by cases e)))
 have hy1:1<=(dig y).length:=by
  have:(dig y).length≠0:=λh=>Q (Yql.1 h)
  omega
 refine Ar (32*(dig y).length:Nat) rfl ?_ (wr (by simp only[lw];omega) (by simp only[inK];omega))
 refine Ca rfl (Xnj (by omega) Q) λv O=>?_
 obtain⟨t,ht,ht0,htb,rfl⟩:=O
 obtain⟨bb1,bb2,bb3⟩:=Xck ht0
 have hb32:bl t<=32:=by
  have:2^(bl t-1)<2^32:=W1y bb1 htb
  have:=(W2w (by decide:1<2)).1 this
  omega
 obtain⟨s,hs⟩:∃s,s=32-bl t:=⟨_,rfl⟩
 have hs32:s<32:=by omega
 have hs1:2147483648<=t*2^s:=by
  have Z:=W0x (2^(32-bl t)) bb1
  rw[<-W1a,show bl t-1+(32-bl t)=31 by omega] at Z
  rw[hs];exact Z
 have hs2:t*2^s<4294967296:=by
  have Z:=W3n bb2 (W0r (32-bl t))
  rw[<-W1a,show bl t+(32-bl t)=32 by omega] at Z
  rw[hs];exact Z
 refine Ar s rfl ?_
 obtain⟨hlen,t',ht',htt⟩:=Xr3 Q ht hs1 hs2
 refine Co rfl (Xer hx hs32) λv ob O=>?_
 obtain⟨o,hul,huw,huv,rfl,rfl⟩:=O
 refine Ca rfl (Xmy hy hs32) λv O=>?_
 obtain⟨lv,hvl,hvw,hvv,rfl⟩:=O
 obtain⟨Y,hY⟩:∃Y,Y=y*2^s:=⟨_,rfl⟩
 rw[<-hY] at hlen hvv
 refine Ce (r:=.d (ws (dig Y))) rfl (by have:=Xaz hvw (by omega);rwa[hvv] at this) ?_
 obtain⟨mv,hmv⟩:∃mv,mv=(dig Y).length:=⟨_,rfl⟩
 obtain⟨m,hm⟩:∃m,m=(dig x).length:=⟨_,rfl⟩
 refine Mk m rfl (by simp only[lw];omega) ?_ (by simp only[lw,hm])
 refine Ar ((o.length-mv:Nat)-1:Int) rfl ?_ (wr (by simp only[lw];omega) (by simp only[inK];omega))
 have hY0:Y≠0:=by rw[hY];exact Nat.mul_ne_zero Q (W8f.1 (W0r s))
 have hYl:=Xc1 Y
 have hR0:val (o.drop (o.length-mv))<Y:=by
  have Z:=Xbi o (o.length-mv) (by omega)
  rw[huv] at Z
  have h2:=Xn0 Q
  have h3:=Xc1 x
  have hp:=W0r s
  apply W1g
  intro hn2
  have h4:4294967296^(o.length-mv)*Y<=x*2^s:=by
   rw[Z]
   have:=W0p (4294967296^(o.length-mv)) (W4m hn2)
   omega
  rw[hY,<-W0t] at h4
  have h5:=Nat.le_of_mul_le_mul_right h4 hp
  have h6:=W0p (4294967296^(o.length-mv)) h2
  rw[<-W1a,show o.length-mv+((dig y).length-1)=(dig x).length by omega] at h6
  omega
 refine Lo (λ(k,A,lq)=>[(10,.d (.int .i64 s)),(11,.own 63 1 0 o.length),(12,.d (ws (dig Y))),(13,.own 70 1 0 m),(14,.d (.int .i64 ((k:Nat)-1:Int)))]) (λ(_,A,lq)=>[(63,.arr 1 (A.map wd)),(70,.arr 1 (lq.map wd))])
  (λ(k,A,lq)=>k<=o.length-mv/\A.length=o.length/\Xao A/\lq.length=m/\Xao lq/\(∀j,j<k->A[j]?=o[j]?)/\val (A.drop k)<Y/\val (lq.drop k)*Y+val (A.drop k)=val (o.drop k)) (λ(k,_,_)=>k) (o.length-mv,o,List.replicate m 0) [] rfl
  ⟨by omega,rfl,huw,by simp,Xfk _,λ_ _=>rfl,hR0,by rw[List.drop_replicate,Xbq];simp⟩ ?_ (by exact⟨rfl,by simp only[W2i];rfl,rfl,rfl,rfl⟩)
 rintro⟨k,A,lq⟩ ⟨hk,hln,hwu,hlq,hwq,hsame,M,hQR⟩
 refine By rfl (λh=>?_) λh=>?_
 . obtain⟨hwin,hUlt⟩:=Ycj (n:=mv) (i:=k-1) (Y:=Y) hwu (by omega) (by rw[show k-1+1=k by omega];exact M) (by rw[hmv];exact W2e hYl)
   obtain⟨U,hU⟩:∃U,U=val (A.drop (k-1)):=⟨_,rfl⟩
   rw[<-hU] at hwin hUlt
   have hqB:U/Y<4294967296:=by rw[W2u (W2q hY0)];exact hUlt
   have hqz0:0<=U/Y:=W0s _
   have hUlt2:U%Y<Y:=W2b _ (W2q hY0)
   have eN:k-1+mv+1-(k-1)=mv+1:=by omega
   refine Ar (k-1+mv:Nat) rfl ?_ (wr (by simp only[lw];omega) (by simp only[inK];omega))
   refine Ar (k-1+mv+1:Nat) rfl ?_
   refine Sw (k-1) (k-1+mv+1) rfl (by omega) (by omega) ?_
   have hwin2:val ((A.drop (0+(k-1))).take (k-1+mv+1-(k-1)))=U:=by rw[W1j,eN];exact hwin.symm
   refine Cn [(1000001,63)] rfl (Xxy (l:=A) (q:=0+(k-1)) (N:=k-1+mv+1-(k-1)) (V:=U) hwu (by omega) (by omega) hY0 (by omega) hwin2 hUlt (by omega)) λv O=>?_
   obtain rfl:v=_:=O
   refine Eo (k-1) rfl (by omega)<|Sto rfl (by simp only[lw];omega) ms ?_
   refine Cn [(1000001,63)] rfl (Xg8 (l:=A) (q:=0+(k-1)) (n:=k-1+mv+1-(k-1)) hwu (by omega) (by omega)) λv O=>?_
   obtain⟨k2,hk2,rfl,hkl⟩:=O
   rw[hwin2] at hkl
   have hUY:Y*(U/Y)<=U:=Nat.mul_div_le U Y
   have hUmod:U-Y*(U/Y)=U%Y:=by have:=W2s U Y;omega
   refine Cn [(1000001,63)] rfl (Xwh (l:=A) (q:=0+(k-1)) (m:=k2) (by omega) hkl (by rw[<-hkl,Xze (by omega)];omega) hUY) λv O=>?_
   rw[hUmod] at O
   obtain rfl:v=_:=O
   have hdlen:=Xan (W2e hUlt2)
   refine Lo (λ(i,lo)=>[(10,.d (.int .i64 s)),(11,.own 63 1 0 o.length),(12,.d (ws (dig Y))),(13,.own 70 1 0 m),(14,.d (.int .i64 ((k:Nat)-1:Int))),(15,.own 63 1 (0+(k-1)) (k-1+mv+1-(k-1))),(18,.d (ws (dig (U%Y)))),(19,.d (.int .i64 (i:Nat)))]) (λ(_,lo)=>[(63,.arr 1 (lo.map wd)),(70,.arr 1 ((lq.set (k-1) (U/Y)).map wd))])
    (λ(i,lo)=>i<=mv+1/\lo.length=o.length/\Xao lo/\(∀j,(j<k-1\/k-1+i<=j)->lo[j]?=A[j]?)/\val ((lo.drop (k-1)).take i)=val ((dig (U%Y)).take i)) (λ(i,_)=>mv+1-i) (0,A) [] rfl
    ⟨by omega,hln,hwu,λ_ _=>rfl,rfl⟩ ?_
   rintro⟨i,lo⟩ ⟨hi,hlo,hwo,B,I⟩
   refine By rfl (λZ=>?_) λZ=>?_
   . refine El i rfl (by omega) ?_
     refine Sto rfl (by simp only[lw];omega) (ms (f:=wd) (u:=0)) ?_
     have eJ:0+(k-1)+i=k-1+i:=by omega
     refine Cu none (λg:Nat=>[(10,.d (.int .i64 s)),(11,.own 63 1 0 o.length),(12,.d (ws (dig Y))),(13,.own 70 1 0 m),(14,.d (.int .i64 ((k:Nat)-1:Int))),(15,.own 63 1 (0+(k-1)) (k-1+mv+1-(k-1))),(18,.d (ws (dig (U%Y)))),(19,.d (.int .i64 i))]) (λg=>[(63,.arr 1 ((lo.set (k-1+i) g).map wd)),(70,.arr 1 ((lq.set (k-1) (U/Y)).map wd))])
      (λg=>g<4294967296/\val ((dig (U%Y)).take (i+1))=val ((dig (U%Y)).take i)+4294967296^i*g) rfl ?_ λg ⟨hgb,hg⟩=>?_
     . refine By rfl (λh2=>?_) λh2=>?_<;>simp only[lw] at h2
       . obtain⟨w,hw⟩:=xat (l:=dig (U%Y)) (k:=i) (by omega)
         have hwb:=ww hw (Xad (U%Y))
         refine Ix i rfl (mp hw)<|El i rfl (by omega) ?_
         refine Sto rfl (by simp only[lw,W3o];omega) ms ?_
         exact Jn w [] rfl ⟨hwb,Xac hw⟩ (by exact⟨rfl,by rw[List.set_set,eJ];rfl,rfl,rfl,rfl⟩)
       . exact Jn 0 [] rfl ⟨by decide,by rw[Xgf (by omega)];rfl⟩ (by exact⟨rfl,by rw[eJ];rfl,rfl,rfl,rfl⟩)
     refine Ar (i+1:Nat) rfl ?_
     exact Bk (i+1,lo.set (k-1+i) g) [] rfl ⟨by omega,by simp[hlo],Xgv hwo hgb,λj hj=>by rw[W1v (by omega)];exact B j (by omega),by rw[Xfm (by omega),I,hg]⟩ (by show mv+1-(i+1)<mv+1-i;omega)
   . have hik:i=mv+1:=by omega
     subst hik
     rw[W0b (l:=dig (U%Y)) (by omega),Xaf] at I
     have hab:val (lo.drop (k-1))=U%Y:=by
      have g1:=Xbi (lo.drop (k-1)) (mv+1) (by rw[W1n];omega)
      have g2:=Xbi (A.drop (k-1)) (mv+1) (by rw[W1n];omega)
      have g3:(lo.drop (k-1)).drop (mv+1)=(A.drop (k-1)).drop (mv+1):=by
       rw[W4u,W4u]
       exact Xew λj hj=>B j (.inr hj)
      rw[<-hU,<-hwin] at g2
      rw[g1,I,g3]
      omega
     obtain⟨w,hw⟩:=xat (l:=A) (k:=k-1) (by omega)
     have hw2:o[k-1]?=some w:=by rw[<-hsame (k-1) (by omega)];exact hw
     have hfin:val ((lq.set (k-1) (U/Y)).drop (k-1))*Y+val (lo.drop (k-1))=val (o.drop (k-1)):=by
      have g1:=Xbs hw
      have g2:=Xbs hw2
      have g3:=Xbs (l:=lq.set (k-1) (U/Y)) (k:=k-1) (W2n (by omega))
      have g4:(lq.set (k-1) (U/Y)).drop (k-1+1)=lq.drop (k-1+1):=Xew λj hj=>W1v (by omega)
      rw[show k-1+1=k by omega] at g1 g2 g3 g4
      rw[hab,g2,g3,g4,<-hQR,W1i,W0t,W0z]
      have g5:=W2s U Y
      rw[W1f] at g5
      rw[<-hU] at g1
      omega
     refine Ar ((k-1:Nat)-1:Int) rfl ?_
     exact Bk (k-1,lo,lq.set (k-1) (U/Y)) [] rfl ⟨by omega,hlo,hwo,by simp[hlq],Xgv hwq hqB,λj hj=>(B j (.inl hj)).trans (hsame j (by omega)),by rw[hab];exact hUlt2,hfin⟩ (by show k-1<k;omega)
 . have hk0:k=0:=by omega
   subst hk0
   rw[W0y] at M hQR
   rw[W0y,W0y,huv] at hQR
   obtain⟨hQ,hR⟩:=Xxx hY.symm hQR M
   refine Fz 25 13 (lq.map wd) rfl (by simp only[lw];omega) (oa hlq) ?_
   refine Fz 25 11 (A.map wd) rfl (by simp only[lw];omega) (oa hln) ?_
   exact Ce rfl (Xaz hwq (by omega))<|Ce rfl (Xaz hwu (by omega))<|Ce rfl (Yho (by have:=Xan (W2e M);omega) hs32)<|RTt rfl (.cons (.eq (by rw[hQ])) (.one (.eq (by rw[hR,Nat.mul_div_cancel _ (W0r s)])) (λ_ _ e=>by cases e) (λ_ _ e=>by cases e)))
end
section
theorem GCD_ok{a b:Int}(ha:(dig a.natAbs).length<=549755813888)(hb:(dig b.natAbs).length<=549755813888): C0 247 [.d (dz a),.d (dz b)] (·=.d (dz (Int.gcd a b))):=by
 refine En Tryz.func247 λ_ _ _=>?_
 refine Dw rfl<|Ce rfl (trim_dig_ok (by omega))<|Ce rfl (trim_dig_ok (by omega))<|Lo (λ((x,y):Nat×Nat)=>[(4,.ptr 4 0),(5,.d (ws (dig x))),(6,.d (ws (dig y)))]) (λ_=>[(4,.var (.st (.pr (.b false) .nil)))]) (λ(x,y)=>Nat.gcd x y=Int.gcd a b/\(dig x).length<=549755813888/\(dig y).length<=549755813888) (λ(_,y)=>y) (a.natAbs,b.natAbs) [] rfl ⟨rfl,ha,hb⟩ λ⟨x,y⟩ ⟨i,A,j⟩=>?_
 refine By rfl (λo=>?_) λo=>?_<;>simp only[lw] at o
 . have h0:y≠0:=λe=>by have:=Yql.2 e;omega
   have h:=W2b x (W2q h0)
   exact Ce rfl (Xcu A j h0)<|Bk (y,x%y) [] rfl ⟨by rw[<-i,W7e y,<-Nat.gcd_rec,W7e],j,W0l (Xan (W2e h)) j⟩ h
 . have h0:y=0:=Yql.1 (by omega)
   subst h0
   rw[Nat.gcd_zero_right] at i
   exact Ce rfl (Xak (b:=false) (by omega))<|R1 rfl (.eq (by rw[Xhb,i]))
theorem Xxo{z b q r:Int}(e:b*q+r=z)(h:(0<=r/\r<b)\/(b<r/\r<=0)): z.fdiv b=q/\z.fmod b=r:=by
 rcases h with ⟨i,j⟩ | ⟨i,j⟩
 . rw[W1s _ (by omega),W5t _ (by omega)]
   exact(W7x (a:=z) (b:=b) (by omega)).2 ⟨by rw[Int.add_comm];exact e,i,j⟩
 . have o:(-z).fdiv (-b)=q/\(-z).fmod (-b)=-r:=by
    rw[W1s _ (by omega),W5t _ (by omega)]
    exact(W7x (a:=-z) (b:=-b) (by omega)).2 ⟨by rw[<-e,Int.neg_mul];omega,by omega,by omega⟩
   rw[W7r,Int.neg_fmod_neg] at o
   exact⟨o.1,by omega⟩
theorem qr0{z b:Int}(hb:b≠0): z-sg (decide (z<0) != decide (b<0)) (z.natAbs/b.natAbs)*b=sg (decide (z<0)) (z.natAbs%b.natAbs):=by
 have e:=W2s z.natAbs b.natAbs
 have i:z=sg (decide (z<0)) z.natAbs:=by unfold sg;by_cases h:z<0<;>simp[h]<;>omega
 have hb:b=sg (decide (b<0)) b.natAbs:=by unfold sg;by_cases h:b<0<;>simp[h]<;>omega
 generalize decide (z<0)=dz at *
 generalize decide (b<0)=j at *
 generalize z.natAbs=A at *
 generalize b.natAbs=B at *
 generalize A/B=q at *
 generalize A%B=r at *
 have o:(A:Int)=(B:Int)*q+r:=by rw[<-e];push_cast;rfl
 subst i
 subst hb
 cases dz<;>cases j<;>simp[sg,o]<;>grind
theorem Xox(b:Bool)(n:Nat): (sg b n).natAbs=n:=by cases b<;>simp[sg]
theorem Yd5{z b:Int}(hb:b≠0)(h:Xa5 (sg (decide (z<0)) (z.natAbs%b.natAbs)) 0*Xa5 b 0<0):
 sg (decide (z<0) != decide (b<0)) (z.natAbs/b.natAbs)-1=z.fdiv b/\sg (decide (z<0)) (z.natAbs%b.natAbs)+b=z.fmod b:=by
 have h0:=@qr0 z b hb
 have i:=Xox (decide (z<0)) (z.natAbs%b.natAbs)
 have j:=W2b z.natAbs (y:=b.natAbs) (by omega)
 generalize sg (decide (z<0)) (z.natAbs%b.natAbs)=r at *
 generalize sg (decide (z<0) != decide (b<0)) (z.natAbs/b.natAbs)=q at *
 have:=Xxo (z:=z) (b:=b) (q:=q-1) (r:=r+b) (by rw[<-Int.sub_add_cancel z (q*b),h0];grind) (by
  unfold Xa5 at h
  repeat' split at h
  all_goals first | omega | (left;omega) | (right;omega))
 exact⟨this.1.symm,this.2.symm⟩
theorem Yd6{z b:Int}(hb:b≠0)(h:¬Xa5 (sg (decide (z<0)) (z.natAbs%b.natAbs)) 0*Xa5 b 0<0):
 sg (decide (z<0) != decide (b<0)) (z.natAbs/b.natAbs)=z.fdiv b/\sg (decide (z<0)) (z.natAbs%b.natAbs)=z.fmod b:=by
 have h0:=@qr0 z b hb
 have i:=Xox (decide (z<0)) (z.natAbs%b.natAbs)
 have j:=W2b z.natAbs (y:=b.natAbs) (by omega)
 generalize sg (decide (z<0)) (z.natAbs%b.natAbs)=r at *
 generalize sg (decide (z<0) != decide (b<0)) (z.natAbs/b.natAbs)=q at *
 have:=Xxo (z:=z) (b:=b) (q:=q) (r:=r) (by rw[<-Int.sub_add_cancel z (q*b),h0];grind) (by
  unfold Xa5 at h
  repeat' split at h
  all_goals first | omega | (left;omega) | (right;omega))
 exact⟨this.1.symm,this.2.symm⟩
theorem Ybw(a b c d:Int): -1<=Xa5 a b*Xa5 c d/\Xa5 a b*Xa5 c d<=1:=by
 unfold Xa5;repeat' split
 all_goals omega
theorem DivMod_ok{a b:Int}(ha:(dig a.natAbs).length<=549755813888)(hb:(dig b.natAbs).length<=549755813888)(i:b≠0): C0 351 [.d (dz a),.d (dz b)] (·=.tup (.pr (.d (dz (a.fdiv b))) (.pr (.d (dz (a.fmod b))) (.d (.int .i64 0))))):=by
 have o:(dig (a.natAbs/b.natAbs)).length<=549755813888:=W0l (Xan (W4j ..)) ha
 have A:(dig (a.natAbs%b.natAbs)).length<=549755813888:=W0l (Xan (Nat.mod_le ..)) ha
 have j:(dig (sg (decide (a<0) != decide (b<0)) (a.natAbs/b.natAbs)*b).natAbs).length<=549755813888:=by
  rw[W4n,Xox]
  exact W0l (Xan (W6w ..)) ha
 refine En Tryz.func351 λ_ _ _=>?_
 refine Dw rfl<|Ce rfl (Norm_ok (by omega))<|Ce rfl (Norm_ok (by omega))<|No rfl (by simp only[lw];have:=@Yql b.natAbs;omega)<|Ce rfl (Xcu ha hb (by omega))<|Ce rfl (Xak (by omega))<|Dw rfl<|Ce (r:=.d (dz (sg (decide (a<0) != decide (b<0)) (a.natAbs/b.natAbs)*b))) rfl (by rw[Yee];exact Mul_ok (by rw[Xox];exact o) hb)<|Ce rfl (Sub_ok ha j) ?_
 have h0:=qr0 (z:=a) i
 refine Dw rfl<|Ce rfl (Sign_ok (by rw[h0,Xox];omega))<|Ce rfl (Sign_ok (by omega)) ?_
 have B:=Ybw (sg (decide (a<0)) (a.natAbs%b.natAbs)) 0 b 0
 rw[<-h0] at B
 refine Ar (Xa5 (a-sg (decide (a<0) != decide (b<0)) (a.natAbs/b.natAbs)*b) 0*Xa5 b 0) rfl ?_
 refine By rfl (λh=>?_) λh=>?_<;>rw[h0] at h
 . refine Dw rfl<|Ce rfl (FromInt_ok (z:=1) (by decide))<|Ce (r:=.d (dz (sg (decide (a<0) != decide (b<0)) (a.natAbs/b.natAbs)-1))) rfl (by rw[Yee];exact Sub_ok (by rw[Xox];omega) (W0l (@Xaq 1 1 (by decide)) (by decide)))<|Ce rfl (Add_ok (by rw[h0,Xox];omega) hb)<|Dz rfl ?_
   exact RTt rfl (.cons (.eq (by rw[(Yd5 i h).1];rfl)) (.cons (.eq (by rw[h0,(Yd5 i h).2];rfl)) (.one (.rf rfl) (λ_ _ e=>by cases e) (λ_ _ e=>by cases e))))
 . refine Dz rfl ?_
   exact RTt rfl (.cons (.eq (by rw[Yee,(Yd6 i h).1];rfl)) (.cons (.eq (by rw[h0,(Yd6 i h).2];rfl)) (.one (.rf rfl) (λ_ _ e=>by cases e) (λ_ _ e=>by cases e))))
theorem Yqy{q:Nat}{z:Int}(h:Zs q z)(n:Nat): Zs (q*n+1) (z^n):=by
 unfold Zs at *
 rw[W7j]
 have i:z.natAbs^n<=(2^q)^n:=W6f (W2e h) n
 rw[<-W5a] at i
 rw[W0q]
 have:=W0r (q*n)
 omega
theorem Xrr(z:Int)(n:Nat): z^n=z^(n/2)*z^(n/2)*z^(n%2):=by
 rw[<-W7p,<-W7p]
 congr 1
 omega
theorem Xcz: ∀(n:Nat) {z:Int} {q:Nat},Zs q z->q*n+2<=8796093022208->q<=8796093022208->n<9223372036854775808->C0 352 [.d (dz z),.d (.int .i64 n)] (·=.d (dz (z^n))):=by
 intro n
 induction n using Nat.strongRecOn with
 | _ n B =>
  intro z q j hq o T
  have I:q*(n/2)+q*(n/2)<=q*n:=by rw[<-W0z];exact W0p q (by omega)
  have A:q*(n/2)+2<=8796093022208:=by omega
  have i:=Yqy j (n/2)
  have M:=i.len (by omega)
  have O:=j.len (by omega)
  refine En Tryz.func352 λ_ _ _=>?_
  refine By rfl (λh=>?_) λh=>?_
  . exact Ce rfl (FromInt_ok (z:=1) (by decide))<|R1 rfl (.eq (by rw[show n=0 by omega,W7f]))
  refine Ar (n/2:Nat) rfl ?_ (show _/\_ from⟨by decide,by rw[show Int.tdiv (n:Int) 2=((n/2:Nat):Int) from rfl];exact wI (by omega)⟩)
  refine Ce rfl (B (n/2) (by omega) j A o (by omega))<|Ce rfl (Mul_ok (by omega) (by omega))<|Ar (n%2:Nat) rfl ?_ (show _/\_ from⟨by decide,Xuo n 2⟩)
  refine By rfl (λQ=>?_) λQ=>?_
  . exact Ce rfl (Mul_ok (W0l (Zs.len (i.mul i) (by omega)) (by omega)) (by omega))<|R1 rfl (.eq (by rw[show z^n=z^(n/2)*z^(n/2)*z by rw[Xrr z n,show n%2=1 by omega,Int.pow_succ,W7f,W5y]];rfl))
  . exact R1 rfl (.eq (by rw[show z^n=z^(n/2)*z^(n/2) by rw[Xrr z n,show n%2=0 by omega,W7f,W4z]];rfl))
theorem Pow_ok{n:Nat}{z:Int}{q:Nat}(h:Zs q z)(i:n<=4096)(hq:q<=1073741824): C0 251 [.d (dz z),.d (.int .i64 n)] (·=.tup (.pr (.d (dz (z^n))) (.d (.int .i64 0)))):=by
 have j:q*n<=1073741824*4096:=W1z hq i
 refine En Tryz.func251 λ_ _ _=>?_
 exact No rfl (by omega)<|No rfl (by omega)<|Ce rfl (Xcz n h (by omega) (by omega) (by omega))<|R0t
theorem Xqd{z:Int}(o:(dig z.natAbs).length<=549755813888): C0 445 [.d (dz z)] λv=>∃B:Nat,v=.d (.int .i64 B)/\z.natAbs<2^B/\B<=32*(dig z.natAbs).length:=by
 refine En Tryz.func445 λ_ _ _=>?_
 refine Ce rfl (trim_dig_ok (by omega)) ?_
 by_cases h0:z.natAbs=0
 . refine Ce (r:=.d (.int .i64 0)) rfl (by
    rw[h0,Xaj]
    refine En Tryz.func407 λ_ _ _=>?_
    exact Yes rfl rfl<|R0) ?_
   exact Rt rfl (.one (.rf rfl) rfl rfl) ⟨0,rfl,by rw[h0];decide,W0s _⟩
 . refine Ca rfl (Xnj (by omega) h0) λv j=>?_
   obtain⟨t,i,_,h,rfl⟩:=j
   have A:=(W1e.1 i).1
   have I:=Xyn h
   exact Rt rfl (.one (.rf rfl) rfl rfl) ⟨_,rfl,Xql rfl (by omega) i,by omega⟩
theorem Xyp{l:List Nat}{i w:Nat}(O:Xao l)(o:l[i/32]?=some w)(h:val l%2^(i+1)=0): w%2^(i%32+1)=0:=by
 have h0:=Xfn o
 have Y:i/32<l.length:=(W1e.1 o).1
 have j:=Xbx (O.take (i/32))
 rw[W0k,show min (i/32) l.length=i/32 by omega] at j
 have hp:4294967296^(i/32)*2^(i%32+1)=2^(i+1):=by
  rw[show (4294967296:Nat)=2^32 from rfl,<-W5a,<-W1a];congr 1;omega
 obtain⟨c,A⟩:=W5b h
 rw[<-hp,W0t] at A
 generalize 4294967296^(i/32)=B at *
 generalize val (l.drop (i/32+1))=R at *
 have I:w+4294967296*R=2^(i%32+1)*c:=by
  have M:0<B:=by omega
  have Q:(val (l.take (i/32))+B*(w+4294967296*R))/B=w+4294967296*R:=by
   rw[Nat.add_mul_div_left _ _ M,W5m j,W1j]
  have T:B*(2^(i%32+1)*c)/B=2^(i%32+1)*c:=W7l _ M
  rw[<-Q,<-h0,A,T]
 have U:(4294967296:Nat)=2^(i%32+1)*2^(31-i%32):=by
  rw[<-W1a,show i%32+1+(31-i%32)=32 by omega]
 rw[U,W0t] at I
 have V:(w+2^(i%32+1)*(2^(31-i%32)*R))%2^(i%32+1)=0:=by rw[I,Nat.mul_mod_right]
 rwa[Nat.add_mul_mod_self_left] at V
theorem Xv0{w s:Nat}(h:w%2^(s+1)=0): w|||2^s=w+2^s:=by
 obtain⟨c,rfl⟩:=W5b h
 rw[W1f]
 exact Xdm (2^s) c (s+1) (W3y (by decide) (Nat.lt_succ_self s))
theorem Yhu{w s:Nat}(h:w%2^(s+1)=0): (w+2^s)&&&2^s=2^s:=by
 obtain⟨c,rfl⟩:=W5b h
 have e:(2^(s+1)*c+2^s)/2^s=2*c+1:=by
  rw[W0q,show 2^s*2*c+2^s=2^s*(2*c+1) by rw[W0z,W0t,W4c]]
  exact W7l _ (W0r s)
 have j:(2^(s+1)*c+2^s).testBit s=true:=by
  rw[Nat.testBit_eq_decide_div_mod_eq,e]
  simp
 apply Nat.eq_of_testBit_eq
 intro i
 rw[Nat.testBit_and]
 by_cases hi:s=i
 . subst hi;rw[j,W6h]
 . rw[Nat.testBit_two_pow_of_ne hi,Bool.and_false]
theorem Xt4{w s:Nat}(i:w<4294967296)(hs:s<32)(h:w%2^(s+1)=0): w+2^s<4294967296:=by
 rw[<-Xv0 h]
 exact Nat.or_lt_two_pow (n:=32) i (W0u (W3y (by decide) hs) (by decide))
theorem Ye9{l:List Nat}{i w x:Nat}(h:l[i/32]?=some w)(o:x=w+2^(i%32)): val (l.set (i/32) x)=val l+2^i:=by
 have A:i/32<l.length:=(W1e.1 h).1
 have h0:=Xfn h
 have B:=Xfn (l:=l.set (i/32) x) (j:=i/32) (x:=x) (by rw[W2n A])
 rw[B,h0,List.take_set_of_le (W0c _),List.drop_set_of_lt (by omega),o,<-Xie i]
 grind
theorem Yhg{w s:Nat}(T:w+2^s<4294967296)(h:w%2^(s+1)=0): arB .andNot .u32 (w+2^s:Nat) (2^s:Nat) w:=by
 have hp:=W0r s
 have e:=Yhu h
 show IntKind.u32.wrap _=_
 have I:(BitVec.ofInt 32 ((w+2^s:Nat):Int) &&& ~~~BitVec.ofInt 32 ((2^s:Nat):Int)).toNat=w:=by
  have M:(BitVec.ofInt 32 ((w+2^s:Nat):Int)).toNat=w+2^s:=by rw[BitVec.toNat_ofInt];omega
  have O:(BitVec.ofInt 32 ((2^s:Nat):Int)).toNat=2^s:=by rw[BitVec.toNat_ofInt];omega
  apply Nat.eq_of_testBit_eq
  intro i
  rw[BitVec.toNat_and,BitVec.toNat_not,M,O,Nat.testBit_and]
  have A:=congrArg (·.testBit i) e
  simp only[Nat.testBit_and] at A
  have B:=Xv0 h
  rw[<-B,Nat.testBit_or]
  have Q:(2^32-1-2^s).testBit i=(decide (i<32) && !(2^s).testBit i):=by
   have:=Nat.testBit_two_pow_sub_succ (x:=2^s) (n:=32) (by omega) i
   rwa[show 2^32-(2^s+1)=2^32-1-2^s by omega] at this
  rw[Q]
  by_cases hi:i<32
  . rw[decide_eq_true hi,W6h]
    by_cases j:s=i
    . subst j
      rw[<-B,Nat.testBit_or] at A
      have o:w.testBit s=false:=by
       obtain⟨c,rfl⟩:=W5b h
       rw[Nat.testBit_eq_decide_div_mod_eq,W0q,W0t,W7l _ hp]
       simp
      rw[o,Nat.testBit_two_pow_self];rfl
    . rw[Nat.testBit_two_pow_of_ne j];simp
  . rw[decide_eq_false hi]
    have:w.testBit i=false:=Nat.testBit_lt_two_pow (W0u (by omega:w<2^32) (W0m (by decide) (by omega)))
    rw[this];simp
 rw[show IntKind.bits .u32=32 from rfl,I]
 exact wW (by omega)
theorem Sqrt_ok{a:Nat}(hl:(dig a).length<=274877906944): C0 397 [.d (dz (a:Int))] (·=.tup (.pr (.d (dz (rt a:Int))) (.d (.int .i64 0)))):=by
 have ha:dz (a:Int)=.st (.pr (.bool (decide ((a:Int)<0))) (ws (dig a))):=rfl
 have Z:=λ(B n:Nat) (hB:a<2^B) (hn:B<=2*n)=>W0u hB (W0m (by decide) hn:2^B<=2^(2*n))
 refine En Tryz.func397 λ_ _ _=>?_
 refine Ce rfl (Norm_ok (by simp only[W1m];omega))<|No rfl (by omega)<|Ca rfl (Xqd (z:=(a:Int)) (by simp only[W1m];omega)) λv hv=>?_
 obtain⟨B,rfl,hB1,hB2⟩:=hv
 simp only[W1m] at hB1 hB2
 obtain⟨n,hn⟩:∃n,n=(B+1)/2:=⟨_,rfl⟩
 refine Ar (B+1:Nat) rfl ?_
 refine Ar n rfl ?_ (show _/\_ from⟨by decide,by rw[show Int.tdiv ((B+1:Nat):Int) 2=(((B+1)/2:Nat):Int) from rfl,<-hn];exact wI (by omega)⟩)
 refine Ar (n/32:Nat) rfl ?_ (show _/\_ from⟨by decide,by rw[show Int.tdiv (n:Int) 32=((n/32:Nat):Int) from rfl];exact wI (by omega)⟩)
 refine Ar (n/32+1:Nat) rfl ?_
 refine Mk (n/32+1) rfl (by omega) ?_
 refine Ar (n-1:Int) rfl ?_
 refine Lo (λ(k,lo)=>[(1,.ptr 1 0),(2,.ptr 2 0),(5,.own 19 1 0 (n/32+1)),(6,.d (.int .i64 ((k:Nat)-1:Int)))]) (λ(_,lo)=>[(1,.var (.d (dz (a:Int)))),(2,.var (.st (.pr (.b false) .nil))),(19,.arr 1 (lo.map wd))])
  (λ(k,lo)=>k<=n/\lo.length=n/32+1/\Xao lo/\val lo%2^k=0/\val lo*val lo<=a/\a<(val lo+2^k)*(val lo+2^k)) (λ(k,_)=>k) (n,List.replicate (n/32+1) 0) [] rfl
  ⟨by omega,by simp,Xfk _,by rw[Xbq];simp,by rw[Xbq];omega,by rw[Xbq,W1j,<-W1a,<-Nat.two_mul];exact Z B n hB1 (by omega)⟩ ?_ (by exact⟨rfl,by simp only[W2i];rfl,rfl,rfl,rfl⟩)
 rintro⟨k,lo⟩ ⟨hk,hlo,I,M,T,U⟩
 refine By rfl (λh=>?_) λh=>?_
 . obtain⟨i,rfl⟩:∃i,k=i+1:=⟨k-1,by omega⟩
   obtain⟨w,hw⟩:=xat (l:=lo) (k:=i/32) (by omega)
   have hww:=ww hw I
   have hwc:=Xyp I hw M
   have hwb:=Xt4 hww (by omega) hwc
   have Q:=Ye9 hw rfl
   have O:=Xgv (k:=i/32) I hwb
   obtain⟨j,o⟩:∃j,j=lo.set (i/32) (w+2^(i%32)):=⟨_,rfl⟩
   rw[<-o] at Q O
   have hl1:j.length=n/32+1:=by rw[o,W3o,hlo]
   have hlen1:(dig (val j)).length<=549755813888:=by
    have h1:=Xaq (Xbx O)
    omega
   have A:arB .quo .i64 (((i+1:Nat):Int)-1) 32 (i/32:Nat):=show _/\_ from⟨by decide,by rw[show (((i+1:Nat):Int)-1)=(i:Int) by omega,show Int.tdiv (i:Int) 32=((i/32:Nat):Int) from rfl];exact wI (by omega)⟩
   have V:arB .rem .i64 (((i+1:Nat):Int)-1) 32 (i%32:Nat):=show _/\_ from⟨by decide,by rw[show (((i+1:Nat):Int)-1)=(i:Int) by omega];exact Xuo i 32⟩
   refine Dw rfl<|Ar (i/32:Nat) rfl ?_ A
   refine Ar (i/32:Nat) rfl ?_ A
   refine Eo (i/32) rfl (by omega)<|Ld (wd w) rfl (mp hw) ?_
   refine Ar (i%32:Nat) rfl ?_ V
   refine Ar (2^(i%32):Nat) rfl ?_ (Xha (by omega))
   refine Ar (w+2^(i%32):Nat) rfl ?_ (Ync hww Yft (Xv0 hwc) hwb)
   refine Eo (i/32) rfl (by omega)<|Sto rfl (by simp only[lw];omega) ms ?_
   refine Cu none (λ_:Unit=>[(1,.ptr 1 0),(2,.ptr 2 0),(5,.own 19 1 0 (n/32+1)),(6,.d (.int .i64 (((i+1:Nat):Int)-1))),(47,.b (dc (a<val j*val j)))]) (λ_=>[(1,.var (.d (dz (a:Int)))),(2,.var (.st (.pr (.b false) .nil))),(19,.arr 1 (j.map wd))]) (λ_=>True) rfl ?_ λ_ _=>?_
   . refine Dw rfl<|Cn [(1000001,19)] rfl (Xg8 (l:=j) (q:=0) (n:=n/32+1) O (by omega) (by omega)) (λv hv=>?_) rfl (by rw[o];rfl)
     obtain⟨k1,hk1,rfl,hkl⟩:=hv
     refine Cn [(1000001,19)] rfl (Xg8 (l:=j) (q:=0) (n:=n/32+1) O (by omega) (by omega)) (λv hv=>?_) rfl (by rw[o];rfl)
     obtain⟨k2,hk2,rfl,Y⟩:=hv
     rw[show (j.drop 0).take (n/32+1)=j from W0b (by simp[hl1])] at hkl Y
     obtain rfl:k2=k1:=by
      have e1:=congrArg List.length hkl
      have e2:=congrArg List.length Y
      rw[Xze (by omega)] at e1 e2
      omega
     refine Cn [(1000001,19)] rfl (Xur (l:=j) (q:=0) (n:=k2) (by omega) hkl hlen1) (λv hv=>?_) rfl (by rw[o];rfl)
     obtain rfl:v=_:=hv
     refine Ce rfl (Xb0 (y:=a) (W0l (Xlp ..) (by omega)))<|Jn () [] rfl trivial (by exact⟨by
      rw[show (Xa5 ((val j*val j:Nat):Int) (a:Int)>0)=(a<val j*val j) from propext (by
       rcases Xat ((val j*val j:Nat):Int) (a:Int) with ⟨g1,g2⟩ | ⟨g1,g2⟩ | ⟨g1,g2⟩<;>rw[g2]<;>omega)]
      rfl,by rw[o];rfl,rfl,rfl,rfl⟩)
   refine By rfl (λh1=>?_) λh1=>?_
   . have hw2:j[i/32]?=some (w+2^(i%32)):=by rw[o,W2n (by omega)]
     have hback:j.set (i/32) w=lo:=by
      rw[o,List.set_set]
      apply W5u
      intro q
      by_cases hq:i/32=q
      . subst hq;rw[W2n (by omega),hw]
      . rw[W1v hq]
     have hm2:val lo%2^i=0:=by
      obtain⟨c,hc⟩:=W5b M
      rw[hc,W0q,W0t];exact Nat.mul_mod_right _ _
     refine Dw rfl<|Ar (i/32:Nat) rfl ?_ A
     refine Ar (i/32:Nat) rfl ?_ A
     refine Eo (i/32) rfl (by omega)<|Ld (wd (w+2^(i%32))) rfl (mp hw2) ?_
     refine Ar (i%32:Nat) rfl ?_ V
     refine Ar (2^(i%32):Nat) rfl ?_ (Xha (by omega))
     refine Ar w rfl ?_ (Yhg hwb hwc)
     refine Eo (i/32) rfl (by omega)<|Sto rfl (by simp only[lw];omega) ms ?_
     refine Ar (i-1:Int) rfl ?_
     exact Bk (i,lo) [] rfl ⟨by omega,hlo,I,hm2,T,by rw[<-Q];exact h1⟩ (by show i<i+1;omega) (by exact⟨rfl,by rw[hback];rfl,rfl,rfl,rfl⟩)
   . have hm2:val j%2^i=0:=by
      rw[Q]
      obtain⟨c,hc⟩:=W5b M
      rw[hc,W0q,W0t,Nat.add_mod_right];exact Nat.mul_mod_right _ _
     refine Ar (i-1:Int) rfl ?_
     exact Bk (i,j) [] rfl ⟨by omega,hl1,O,hm2,W4m h1,by rw[Q,W4r,<-Nat.two_mul,W1f 2,<-W0q];exact U⟩ (by show i<i+1;omega)
 . have hk0:k=0:=by omega
   subst hk0
   have hrt:rt a=val lo:=Yjl T (by simpa using U)
   refine Fz 12 5 (lo.map wd) rfl (by simp only[lw];omega) (oa hlo) ?_
   refine Ce (r:=.d (dz (sg false (val lo)))) rfl (by
    have:=Xq5 (b:=false) I (by omega)
    exact this) ?_
   exact RTt rfl (.cons (.eq (by rw[Xhb,hrt])) (.one (.rf rfl) (λ_ _ e=>by cases e) (λ_ _ e=>by cases e)))
end
end Go.Proofs.YtcmjannkbdflmaaGreatDoor.R1
namespace Go.Num
theorem Zs.fdv{p:Nat}{z g:Int}(h:Zs p z)(i:0<g): Zs p (z.fdiv g):=by
 unfold Zs at *
 rw[W1s _ (by omega)]
 have:(z/g).natAbs<=z.natAbs:=Int.natAbs_ediv_le_natAbs ..
 omega
end Go.Num
namespace Go.Proofs.YtcmjannkbdflmaaGreatDoor.R2
open Go Go.Vm Go.Num Go.Proofs.YtcmjannkbdflmaaGreatDoor
theorem Ygv{a g:Int}(h:g ∣ a)(i:0<=g): a.fdiv g=a.tdiv g:=by
 rw[W1s _ i,Int.tdiv_eq_ediv_of_dvd h]
theorem Xnv(a g:Nat): (a:Int).fdiv g=((a/g:Nat):Int):=by
 rw[W1s _ (by omega),Int.natCast_ediv]
theorem Yal(x y:Rat): (x*y).num=x.num.fdiv (Int.gcd x.num y.den:Int)*y.num.fdiv (Int.gcd y.num x.den:Int):=by
 show (Rat.mul x y).num=_
 delta Rat.mul
 simp only[Int.divExact_eq_tdiv]
 rw[Ygv (Int.gcd_dvd_left ..) (by omega),Ygv (Int.gcd_dvd_left ..) (by omega)]
 rfl
theorem Ybo(x y:Rat): ((x*y).den:Int)=(x.den:Int).fdiv (Int.gcd y.num x.den:Int)*(y.den:Int).fdiv (Int.gcd x.num y.den:Int):=by
 show ((Rat.mul x y).den:Int)=_
 delta Rat.mul
 simp only[Nat.divExact_eq_div]
 rw[Xnv,Xnv]
 rfl
theorem Xrz{x y:Rat}(h:(Int.gcd x.den y.den:Int)=1): (x+y).num=x.num*y.den+y.num*x.den/\(x+y).den=x.den*y.den:=by
 have i:x.den.gcd y.den=1:=by have:(x.den.gcd y.den:Int)=1:=h;omega
 show (Rat.add x y).num=_/\(Rat.add x y).den=_
 delta Rat.add
 simp only[i]
 exact⟨rfl,rfl⟩
theorem Xry{x y:Rat}(h:¬(Int.gcd x.den y.den:Int)=1): (x+y).num=(x.num*(y.den:Int).fdiv (Int.gcd x.den y.den:Int)+y.num*(x.den:Int).fdiv (Int.gcd x.den y.den:Int)).fdiv (Int.gcd (x.num*(y.den:Int).fdiv (Int.gcd x.den y.den:Int)+y.num*(x.den:Int).fdiv (Int.gcd x.den y.den:Int)) (Int.gcd x.den y.den:Int):Int) /\
 ((x+y).den:Int)=(x.den:Int).fdiv (Int.gcd x.den y.den:Int)*(y.den:Int).fdiv (Int.gcd (x.num*(y.den:Int).fdiv (Int.gcd x.den y.den:Int)+y.num*(x.den:Int).fdiv (Int.gcd x.den y.den:Int)) (Int.gcd x.den y.den:Int):Int):=by
 have j:¬x.den.gcd y.den=1:=λe=>h (by show ((x.den.gcd y.den:Nat):Int)=1;rw[e];rfl)
 have o:Int.gcd (x.den:Int) (y.den:Int)=x.den.gcd y.den:=rfl
 rw[o,Xnv,Xnv]
 generalize A:x.num*((y.den/x.den.gcd y.den:Nat):Int)+y.num*((x.den/x.den.gcd y.den:Nat):Int)=n
 have B:Int.gcd n ((x.den.gcd y.den:Nat):Int)=n.natAbs.gcd (x.den.gcd y.den):=rfl
 have i:n.natAbs.gcd (x.den.gcd y.den) ∣ y.den:=Nat.dvd_trans (Nat.gcd_dvd_right ..) (Nat.gcd_dvd_right ..)
 rw[Ygv (Int.gcd_dvd_left ..) (by omega),B,Xnv]
 have e:Rat.add x y=x+y:=rfl
 delta Rat.add at e
 simp only[j,A,dif_neg,not_false_eq_true,Rat.maybeNormalize_eq] at e
 rw[<-e]
 refine⟨by simp only[Int.divExact_eq_tdiv],?_⟩
 simp only[Nat.divExact_eq_div]
 rw[<-W2z,Nat.mul_div_assoc _ i]
theorem Xlx{a b:Int}(h:b≠0): (Int.gcd a b:Int)≠0:=by have:=@Xxi a b h;omega
theorem Xeh{z:Int}(h:(dig z.natAbs).length<=1099511627776): C0 446 [.d (dz z)] (·=.b true):=by
 refine En Tryz.func446 λ_ _ _=>?_
 refine Dw rfl<|Ce rfl (R1.trim_dig_ok h)<|Yes rfl rfl<|By rfl (λi=>?_) λi=>?_
 . exact R0
 . have:(dig z.natAbs).length≠0:=λe=>by have:=Yql.1 e;omega
   exact R1 rfl (by exact(show dc (((List.map wd (dig z.natAbs)).length:Int)>0)=true by rw[Xal,lw];omega) ▸ .rf rfl)
theorem Xe5{z:Int}: C0 246 [.d (dz z)] (·=.b (dc (z=1))):=by
 refine En Tryz.func246 λ_ _ _=>?_
 refine By rfl (λi=>?_) λi=>?_<;>simp only[lw] at i
 . obtain⟨u,j⟩:=xat (l:=dig z.natAbs) (k:=0) (by omega)
   have o:=Yqk (by omega) j
   refine Ix 0 rfl (mp j)<|By rfl (λA=>?_) λA=>?_
   . refine R1 rfl (.bp ?_)
     rw[<-Xv1,o]
     simp only[W1u,decide_eq_false_iff_not]
     exact⟨λh=>⟨by rw[show u=1 by omega],h⟩,λh=>h.2⟩
   . refine R1 rfl (.bp ⟨nofun,λe=>?_⟩)
     have:=(Xv1.2 e).1
     rw[o] at this;injection this with this;omega
 . exact R1 rfl (.bp ⟨nofun,λe=>absurd (by rw[e];show ((dig 1).length:Int)=1;rw[Yij];rfl) i⟩)
theorem Xb8{a b:Int}(ha:(dig a.natAbs).length<=549755813888)(hb:(dig b.natAbs).length<=549755813888)(h:b≠0): C0 249 [.d (dz a),.d (dz b)] (·=.d (dz (a.fdiv b))):=by
 refine En Tryz.func249 λ_ _ _=>?_
 exact Ce rfl (R1.DivMod_ok ha hb h)<|R0
theorem FromInt_ok{z:Int}(h:-9223372036854775808<=z/\z<9223372036854775808): C0 19 [.d (.int .i64 z)] (·=.d (dq z)):=by
 refine En Tryz.func19 λ_ _ _=>?_
 exact Ce rfl (R1.FromInt_ok h)<|Ce rfl (R1.FromInt_ok (z:=1) (by decide))<|R0
theorem Make_ok{a b:Int}{p:Nat}(ha:Zs p a)(hb:Zs p b)(hp:p<=8796093022208)(i:b≠0): C0 238 [.d (dz a),.d (dz b)] (·=.d (dq (Rat.divInt a b))):=by
 have B:=ha.len hp
 have I:=hb.len hp
 have M:=(hb.gcd (x:=a) i).len hp
 have h0:=Xxi (a:=a) i
 have j:∀g:Int,g=(if b<0 then -(Int.gcd a b:Int) else (Int.gcd a b:Int))->D.st (.pr (dz (a.fdiv g)) (dz (b.fdiv g)))=dq (Rat.divInt a b):=λg O=>by rw[O,Xj2 i,Xj3 i];rfl
 have hs:Xa5 b 0<0↔b<0:=by rcases Xat b 0 with ⟨o,A⟩ | ⟨o,A⟩ | ⟨o,A⟩<;>omega
 refine En Tryz.func238 λ_ _ _=>?_
 refine Ce rfl (R1.GCD_ok (by omega) (by omega))<|Ce rfl (R1.Sign_ok (by omega))<|By rfl (λh=>?_) λh=>?_
 . exact Ce rfl (R1.Neg_ok (by omega))<|Dw rfl<|Ce rfl (Xb8 (by omega) (by rw[W4v];omega) (by omega))<|Ce rfl (Xb8 (by omega) (by rw[W4v];omega) (by omega))<|R1 rfl (.eq (j _ (by rw[if_pos (hs.1 h)])))
 . exact Dw rfl<|Ce rfl (Xb8 (by omega) (by omega) (by omega))<|Ce rfl (Xb8 (by omega) (by omega) (by omega))<|R1 rfl (.eq (j _ (by rw[if_neg (mt hs.2 h)])))
theorem Frac_ok{a b:Int}(ha:-9223372036854775808<=a/\a<9223372036854775808)(hb:-9223372036854775808<=b/\b<9223372036854775808)(h:b≠0): C0 152 [.d (.int .i64 a),.d (.int .i64 b)] (·=.d (dq (Rat.divInt a b))):=by
 refine En Tryz.func152 λ_ _ _=>?_
 exact No rfl h<|Ce rfl (R1.FromInt_ok ha)<|Ce rfl (R1.FromInt_ok hb)<|Ce rfl (Make_ok (p:=64) (by unfold Zs;omega) (by unfold Zs;omega) (by decide) h)<|R0
theorem Valid_ok{x:Rat}{p:Nat}(h:Qs p x)(hp:p<=8796093022208): C0 402 [.d (dq x)] (·=.b true):=by
 have i:=h.n.len hp
 have j:=h.d.len hp
 refine En Tryz.func402 λ_ _ _=>?_
 refine Ce rfl (Xeh (z:=x.num) (by omega))<|Yes rfl rfl<|Ce rfl (Xeh (z:=x.den) (by omega))<|Yes rfl rfl<|Ce rfl (R1.Sign_ok (by omega))<|Yes rfl (Ypa.2 (by have:=x.den_pos;omega))<|Ce rfl (R1.GCD_ok (by omega) (by omega))<|Ce rfl Xe5<|R1 rfl (by exact(show dc ((Int.gcd x.num x.den:Int)=1)=true by rw[Xal];exact congrArg Nat.cast (show Int.gcd x.num x.den=1 from x.reduced)) ▸ .rf rfl)
theorem Sign_ok{x:Rat}{p:Nat}(h:Qs p x)(hp:p<=8796093022208): C0 330 [.d (dq x)] (·=.d (.int .i64 (Xa5 x.num 0))):=by
 have:=h.n.len hp
 refine En Tryz.func330 λ_ _ _=>?_
 exact Ce rfl (R1.Sign_ok (by omega))<|R0
theorem Neg_ok{x:Rat}{p:Nat}(h:Qs p x)(hp:p<=8796093022208): C0 163 [.d (dq x)] (·=.d (dq (-x))):=by
 have:=h.n.len hp
 refine En Tryz.func163 λ_ _ _=>?_
 exact Dw rfl<|Ce rfl (R1.Neg_ok (by omega))<|R1 rfl (.eq (show D.st (.pr (dz (-x.num)) (dz x.den))=dq (-x) by unfold dq;rw[Rat.neg_num,Rat.neg_den]))
theorem zero_of{x:Rat}(h:((List.map wd (dig x.num.natAbs)).length:Int)=0): x=0:=by
 simp only[lw] at h
 have:=Yql.1 (by omega:(dig x.num.natAbs).length=0)
 exact W5s.1 (by omega)
theorem Mul_ok{x y:Rat}{p q:Nat}(i:Qs p x)(j:Qs q y)(hp:p+q+1<=8796093022208): C0 160 [.d (dq x),.d (dq y)] (·=.d (dq (x*y))):=by
 have O:=i.n.len (by omega)
 have Q:=i.d.len (by omega)
 have T:=j.n.len (by omega)
 have U:=j.d.len (by omega)
 have I:=j.d.gcd (x:=x.num) (Xbz y)
 have M:=i.d.gcd (x:=y.num) (Xbz x)
 have l1:=I.len (by omega)
 have V:=M.len (by omega)
 have o:=@Xlx x.num y.den (Xbz y)
 have A:=@Xlx y.num x.den (Xbz x)
 have q1:=(i.n.fdv (g:=(Int.gcd x.num y.den:Int)) (by omega)).len (by omega)
 have q2:=(j.n.fdv (g:=(Int.gcd y.num x.den:Int)) (by omega)).len (by omega)
 have Y:=(i.d.fdv (g:=(Int.gcd y.num x.den:Int)) (by omega)).len (by omega)
 have Z:=(j.d.fdv (g:=(Int.gcd x.num y.den:Int)) (by omega)).len (by omega)
 refine En Tryz.func160 λ_ _ _=>?_
 refine Cu (some 1) (λ(b:Bool)=>[(2,.ptr 2 0),(3,.ptr 3 0),(4,.ptr 4 0),(18,.b b)]) (λ_=>[(2,.var (.d (dq x))),(3,.var (.d (dq y))),(4,.var q0)]) (λb=>b=true->x*y=0) rfl ?_ λb hb=>?_
 . refine By rfl (λh=>?_) λh=>?_
   . exact Jn true [] rfl λ_=>by rw[zero_of h,W5q]
   . exact Jn (dc _) [] rfl λe=>by rw[zero_of (x:=y) (Xal.1 e),Rat.mul_zero]
 refine By rfl (λh=>?_) λh=>?_
 . exact Ce rfl (FromInt_ok (z:=0) (by decide))<|R1 rfl (.eq (show dq _=dq _ by rw[hb h];rfl))
 refine Cu (some 3) (λ(b:Bool)=>[(2,.ptr 2 0),(3,.ptr 3 0),(4,.ptr 4 0),(27,.b b)]) (λ_=>[(2,.var (.d (dq x))),(3,.var (.d (dq y))),(4,.var q0)]) (λb=>b=true->(x.den:Int)=1/\(y.den:Int)=1) rfl ?_ λb hb=>?_
 . refine Ce rfl Xe5<|By rfl (λh=>?_) λh=>?_
   . exact Ce rfl Xe5<|Jn (dc _) [] rfl λe=>⟨h,Xal.1 e⟩
   . exact Jn false [] rfl nofun
 refine By rfl (λh=>?_) λh=>?_
 . obtain⟨B,d2⟩:=hb h
   exact Dw rfl<|Ce rfl (R1.Mul_ok (by omega) (by omega))<|R1 rfl (.eq (show D.st (.pr (dz (x.num*y.num)) (dz x.den))=dq _ by rw[Xsx B d2,B];rfl))
 . exact Dw rfl<|Ce rfl (R1.GCD_ok (by omega) (by omega))<|Ce rfl (R1.GCD_ok (by omega) (by omega))<|Dw rfl<|Ce rfl (Xb8 (by omega) (by omega) o)<|Ce rfl (Xb8 (by omega) (by omega) A)<|Ce rfl (R1.Mul_ok (by omega) (by omega))<|Ce rfl (Xb8 (by omega) (by omega) A)<|Ce rfl (Xb8 (by omega) (by omega) o)<|Ce rfl (R1.Mul_ok (by omega) (by omega))<|R1 rfl (.eq (show D.st (.pr (dz _) (dz _))=dq (x*y) by unfold dq;rw[Yal,Ybo]))
theorem Add_ok{x y:Rat}{p q:Nat}(j:Qs p x)(i:Qs q y)(hp:p+q+1<=8796093022208): C0 159 [.d (dq x),.d (dq y)] (·=.d (dq (x+y))):=by
 have T:=j.n.len (by omega)
 have U:=j.d.len (by omega)
 have V:=i.n.len (by omega)
 have Y:=i.d.len (by omega)
 have Z:=(j.n.mul i.d).len (by omega)
 have h6:=(i.n.mul j.d).len (by omega)
 have B:=i.d.gcd (x:=(x.den:Int)) (Xbz y)
 have k:=@Xlx (x.den:Int) y.den (Xbz y)
 have o:=j.d.fdv (g:=(Int.gcd x.den y.den:Int)) (by omega)
 have A:=i.d.fdv (g:=(Int.gcd x.den y.den:Int)) (by omega)
 have O:Zs (p+q+1) (x.num*(y.den:Int).fdiv (Int.gcd x.den y.den:Int)+y.num*(x.den:Int).fdiv (Int.gcd x.den y.den:Int)):=((j.n.mul A).add (i.n.mul o)).mono (by omega)
 have Q:=B.gcd (x:=x.num*(y.den:Int).fdiv (Int.gcd x.den y.den:Int)+y.num*(x.den:Int).fdiv (Int.gcd x.den y.den:Int)) k
 have I:=@Xlx (x.num*(y.den:Int).fdiv (Int.gcd x.den y.den:Int)+y.num*(x.den:Int).fdiv (Int.gcd x.den y.den:Int)) _ k
 have l1:=B.len (by omega)
 have l2:=o.len (by omega)
 have l3:=A.len (by omega)
 have l4:=O.len (by omega)
 have l5:=Q.len (by omega)
 have l6:=(j.n.mul A).len (by omega)
 have l7:=(i.n.mul o).len (by omega)
 have l8:=(i.d.fdv (g:=(Int.gcd (x.num*(y.den:Int).fdiv (Int.gcd x.den y.den:Int)+y.num*(x.den:Int).fdiv (Int.gcd x.den y.den:Int)) (Int.gcd x.den y.den:Int):Int)) (by omega)).len (by omega)
 refine En Tryz.func159 λ_ _ _=>?_
 refine By rfl (λh=>?_) λh=>?_
 . exact R1 rfl (.eq (by rw[zero_of h,Rat.zero_add];rfl))
 refine By rfl (λh=>?_) λh=>?_
 . exact R1 rfl (.eq (by rw[zero_of h,W7g];rfl))
 refine Cu (some 5) (λ(b:Bool)=>[(2,.ptr 2 0),(3,.ptr 3 0),(4,.ptr 4 0),(30,.b b)]) (λ_=>[(2,.var (.d (dq x))),(3,.var (.d (dq y))),(4,.var q0)]) (λb=>b=true->(x.den:Int)=1/\(y.den:Int)=1) rfl ?_ λb hb=>?_
 . refine Ce rfl Xe5<|By rfl (λh=>?_) λh=>?_
   . exact Ce rfl Xe5<|Jn (dc _) [] rfl λe=>⟨h,Xal.1 e⟩
   . exact Jn false [] rfl nofun
 refine By rfl (λh=>?_) λh=>?_
 . obtain⟨M,d2⟩:=hb h
   exact Dw rfl<|Ce rfl (R1.Add_ok (by omega) (by omega))<|R1 rfl (.eq (show D.st (.pr (dz (x.num+y.num)) (dz x.den))=dq _ by rw[Xsy M d2,M];rfl))
 refine Ce rfl (R1.GCD_ok (by omega) (by omega))<|Ce rfl Xe5<|By rfl (λh=>?_) λh=>?_
 . exact Dw rfl<|Ce rfl (R1.Mul_ok (by omega) (by omega))<|Ce rfl (R1.Mul_ok (by omega) (by omega))<|Ce rfl (R1.Add_ok (by omega) (by omega))<|Dw rfl<|Ce rfl (R1.Mul_ok (by omega) (by omega))<|R1 rfl (.eq (show D.st (.pr (dz _) (dz _))=dq (x+y) by unfold dq;rw[(Xrz h).1,(Xrz h).2,W2z]))
 . exact Dw rfl<|Ce rfl (Xb8 (by omega) (by omega) k)<|Ce rfl (Xb8 (by omega) (by omega) k)<|Dw rfl<|Ce rfl (R1.Mul_ok (by omega) (by omega))<|Ce rfl (R1.Mul_ok (by omega) (by omega))<|Ce rfl (R1.Add_ok (by omega) (by omega))<|Ce rfl (R1.GCD_ok (by omega) (by omega))<|Dw rfl<|Ce rfl (Xb8 (by omega) (by omega) I)<|Ce rfl (Xb8 (by omega) (by omega) I)<|Ce rfl (R1.Mul_ok (by omega) (by omega))<|R1 rfl (.eq (show D.st (.pr (dz _) (dz _))=dq (x+y) by unfold dq;rw[(Xry h).1,(Xry h).2]))
theorem Sub_ok{x y:Rat}{p q:Nat}(i:Qs p x)(h:Qs q y)(hp:p+q+1<=8796093022208): C0 337 [.d (dq x),.d (dq y)] (·=.d (dq (x-y))):=by
 refine En Tryz.func337 λ_ _ _=>?_
 exact Dw rfl<|Ce rfl (Neg_ok h (by omega))<|Ce rfl (Add_ok i h.neg hp)<|R1 rfl (.eq (by rw[W5p]))
theorem Ykx{x:Rat}(h0:x≠0): dq x⁻¹=if x.num<0 then D.st (.pr (dz (-x.den)) (dz (-x.num))) else D.st (.pr (dz x.den) (dz x.num)):=by
 have i:x.num≠0:=λe=>h0 (W5s.1 e)
 unfold dq
 rw[Rat.num_inv,Rat.den_inv,if_neg i]
 split
 . rename_i h
   rw[Int.sign_eq_neg_one_of_neg h,show (-1*(x.den:Int))=-x.den by omega,show ((x.num.natAbs:Nat):Int)=-x.num by omega]
 . rename_i h
   rw[Int.sign_eq_one_of_pos (by omega),show (1*(x.den:Int))=x.den by omega,show ((x.num.natAbs:Nat):Int)=x.num by omega]
theorem Qs.inv{x:Rat}{p:Nat}(h:Qs p x)(h0:x≠0): Qs p x⁻¹:=by
 have i:x.num≠0:=λe=>h0 (W5s.1 e)
 have j:=h.n
 have o:=h.d
 unfold Zs at j o
 rw[W1m] at o
 constructor<;>unfold Zs
 . rw[Rat.num_inv,W4n,Int.natAbs_sign_of_ne_zero i,W1m];omega
 . rw[Rat.den_inv,if_neg i,W1m];exact j
theorem Inv_ok{x:Rat}{p:Nat}(i:Qs p x)(hp:p<=8796093022208)(h0:x≠0): C0 250 [.d (dq x)] (·=.d (dq x⁻¹)):=by
 have j:=i.n.len hp
 have o:=i.d.len hp
 have e:=Ykx h0
 refine En Tryz.func250 λ_ _ _=>?_
 refine By rfl (λh=>?_) λh=>?_
 . rw[if_pos h] at e
   exact Dw rfl<|Ce rfl (R1.Neg_ok (by omega))<|Ce rfl (R1.Neg_ok (by omega))<|R1 rfl (.eq e.symm)
 . rw[if_neg h] at e
   exact R1 rfl (.eq e.symm)
theorem Div_ok{x y:Rat}{p q:Nat}(j:Qs p x)(i:Qs q y)(hp:p+q+1<=8796093022208)(h0:y≠0): C0 161 [.d (dq x),.d (dq y)] (·=.tup (.pr (.d (dq (x/y))) (.d (.int .i64 0)))):=by
 refine En Tryz.func161 λ_ _ _=>?_
 exact No rfl (λh=>h0 (zero_of h))<|Dw rfl<|Ce rfl (Inv_ok i (by omega) h0)<|Ce rfl (Mul_ok j (Qs.inv i h0) hp)<|RTt rfl (.cons (.eq (by rw[W5z])) (.one (.rf rfl) (λ_ _ e=>by cases e) (λ_ _ e=>by cases e)))
theorem Cmp_ok{x y:Rat}{p q:Nat}(h:Qs p x)(i:Qs q y)(hp:p+q<=8796093022208): C0 336 [.d (dq x),.d (dq y)] (·=.d (.int .i64 (Xn5 x y))):=by
 have j:=h.n.len (by omega)
 have o:=h.d.len (by omega)
 have A:=i.n.len (by omega)
 have B:=i.d.len (by omega)
 have I:=(h.n.mul i.d).len (by omega)
 have M:=(i.n.mul h.d).len (by omega)
 refine En Tryz.func336 λ_ _ _=>?_
 exact Dw rfl<|Ce rfl (R1.Mul_ok (by omega) (by omega))<|Ce rfl (R1.Mul_ok (by omega) (by omega))<|Ce rfl (R1.Cmp_ok (by omega) (by omega))<|R1 rfl (.eq (by rw[Xs2]))
theorem Floor_ok{x:Rat}{p:Nat}(h:Qs p x)(hp:p<=8796093022208): C0 233 [.d (dq x)] (·=.d (dz x.floor)):=by
 have i:=h.n.len hp
 have j:=h.d.len hp
 refine En Tryz.func233 λ_ _ _=>?_
 exact Ce rfl (Xb8 (by omega) (by omega) (Xbz x))<|R1 rfl (.eq (show dz _=dz _ by rw[Rat.floor_def,W1s _ (by omega)]))
theorem SameInt_ok{z w:Int}(M:(dig z.natAbs).length<=549755813888): C0 95 [.d (dz z),.d (dz w)] (·=.b (dc (z=w))):=by
 refine En Tryz.func95 λ_ _ _=>?_
 refine By rfl (λh=>?_) λh=>?_
 . exact R1 rfl (.bp ⟨nofun,λe=>absurd (by rw[e]) h⟩)
 have h:(z<0↔w<0):=by simpa using h
 refine By rfl (λj=>?_) λj=>?_<;>simp only[lw] at j
 . exact R1 rfl (.bp ⟨nofun,λe=>absurd (by rw[e]) j⟩)
 refine Lo (λk:Nat=>[(2,.ptr 2 0),(3,.ptr 3 0),(5,.d (.int .i64 k))]) (λ_=>[(2,.var (.d (dz z))),(3,.var (.d (dz w)))]) (λk=>k<=(dig z.natAbs).length/\(dig z.natAbs).take k=(dig w.natAbs).take k) (λk=>(dig z.natAbs).length-k) 0 [] rfl ⟨by omega,rfl⟩ λk ⟨O,A⟩=>?_
 refine By rfl (λB=>?_) λB=>?_<;>simp only[lw] at B
 . obtain⟨u,o⟩:=xat (l:=dig z.natAbs) (k:=k) (by omega)
   obtain⟨v,i⟩:=xat (l:=dig w.natAbs) (k:=k) (by omega)
   refine Dw rfl<|Ix k rfl (mp o)<|Ix k rfl (mp i)<|By rfl (λI=>?_) λI=>?_
   . exact R1 rfl (.bp ⟨nofun,λe=>by subst e;rw[o] at i;injection i with i;omega⟩)
   . refine Ar (k+1:Nat) rfl ?_
     refine Bk (k+1) [] rfl ⟨by omega,?_⟩ (by show _-(k+1)<_-k;omega)
     have j:=(W1e.1 o).1
     have B:=(W1e.1 i).1
     rw[W1c,W1c,o,i,A,show u=v by omega]
 . refine R1 rfl (.bp ⟨λ_=>?_,λ_=>rfl⟩)
   rw[W0b (by omega),W0b (by omega)] at A
   have:=Xaf z.natAbs
   rw[A,Xaf] at this
   omega
end Go.Proofs.YtcmjannkbdflmaaGreatDoor.R2
namespace Go.Tow
def El: Nat->Type
 | 0=>Rat
 | k+1=>El k×El k
def Tw: Nat->Type
 | 0=>Unit
 | k+1=>Tw k×El k
def toL: (k:Nat)->El k->List Rat
 | 0,x=>[x]
 | k+1,x=>toL k x.1++toL k x.2
def toT: (k:Nat)->Tw k->List (List Rat)
 | 0,_=>[]
 | k+1,t=>toT k t.1++[toL k t.2]
def zero: (k:Nat)->El k
 | 0=>(0:Rat)
 | k+1=>(zero k,zero k)
def rat: (k:Nat)->Rat->El k
 | 0,x=>x
 | k+1,x=>(rat k x,zero k)
def add: (k:Nat)->El k->El k->El k
 | 0=>λ(x y:Rat)=>x+y
 | k+1=>λx y=>(add k x.1 y.1,add k x.2 y.2)
def neg: (k:Nat)->El k->El k
 | 0=>λ(x:Rat)=>-x
 | k+1=>λx=>(neg k x.1,neg k x.2)
def mul: (k:Nat)->Tw k->El k->El k->El k
 | 0=>λ_ (x y:Rat)=>x*y
 | k+1=>λt x y=>(add k (mul k t.1 x.1 y.1) (mul k t.1 (mul k t.1 x.2 y.2) t.2),add k (mul k t.1 x.1 y.2) (mul k t.1 x.2 y.1))
instance decEl:(k:Nat)->DecidableEq (El k)
 | 0=>inferInstanceAs (DecidableEq Rat)
 | k+1=>@instDecidableEqProd _ _ (decEl k) (decEl k)
theorem Xab(k:Nat)(a:El k): (toL k a).length=2^k:=by
 induction k with
 | zero=>rfl
 | succ k h=>simp only[toL,W0d,h,W0q];omega
theorem Xaa(k:Nat)(t:Tw k): (toT k t).length=k:=by
 induction k with
 | zero=>rfl
 | succ k h=>simp only[toT,W0d,h,W4g]
theorem Xfi{α:Type}{a b c d:List α}(h:a.length=c.length)(e:a++b=c++d): a=c/\b=d:=List.append_inj e h
theorem Xhv{k:Nat}{a b:El k}(h:toL k a=toL k b): a=b:=by
 induction k with
 | zero=>exact(List.cons.inj h).1
 | succ k i =>
  obtain⟨j,o⟩:=Xfi (by rw[Xab,Xab]) h
  exact W3a (i j) (i o)
theorem exE(k:Nat)(l:List Rat)(h:l.length=2^k): ∃a:El k,toL k a=l:=by
 induction k generalizing l with
 | zero =>
  match l,h with
  | [x],_=>exact⟨x,rfl⟩
 | succ k i =>
  obtain⟨a,ha⟩:=i (l.take (2^k)) (by rw[W0k,h,W0q];omega)
  obtain⟨b,hb⟩:=i (l.drop (2^k)) (by rw[W1n,h,W0q];omega)
  exact⟨(a,b),by show toL k a++toL k b=l;rw[ha,hb,W3w]⟩
theorem Xas(k:Nat)(a b:El k): toL k (add k a b)=List.zipWith (·+·) (toL k a) (toL k b):=by
 induction k with
 | zero=>rfl
 | succ k h =>
  simp only[toL,add,h]
  rw[List.zipWith_append (by rw[Xab,Xab])]
theorem Xbw(k:Nat)(a:El k): toL k (neg k a)=(toL k a).map (- ·):=by
 induction k with
 | zero=>rfl
 | succ k h=>simp only[toL,neg,h,W1k]
theorem Xbt(k:Nat): toL k (zero k)=List.replicate (2^k) 0:=by
 induction k with
 | zero=>rfl
 | succ k h =>
  simp only[toL,zero,h]
  rw[W5e,W0q]
  congr 1
  omega
theorem Xd7(k:Nat)(x:Rat): toL k (rat k x)=x::List.replicate (2^k-1) 0:=by
 induction k with
 | zero=>rfl
 | succ k h =>
  simp only[toL,rat,h,Xbt,W3q]
  rw[W5e,W0q]
  congr 2
  have:=W0r k
  omega
theorem Xar(k:Nat)(a:El k): a=zero k↔∀x∈toL k a,x=0:=by
 constructor
 . rintro rfl x i
   rw[Xbt] at i
   exact W6c i
 . intro h
   apply Xhv
   rw[Xbt]
   exact List.eq_replicate_iff.2 ⟨Xab k a,h⟩
theorem Xhg(k:Nat): rat k 0=zero k:=by
 induction k with
 | zero=>rfl
 | succ k h=>simp only[rat,zero,h];rfl
structure Laws {α:Type} (add mul:α->α->α) (neg:α->α) (zero one:α):Prop where
 ac:∀a b,add a b=add b a
 aa:∀a b c,add (add a b) c=add a (add b c)
 az:∀a,add a zero=a
 an:∀a,add a (neg a)=zero
 mc:∀a b,mul a b=mul b a
 ma:∀a b c,mul (mul a b) c=mul a (mul b c)
 mo:∀a,mul a one=a
 md:∀a b c,mul a (add b c)=add (mul a b) (mul a c)
section
variable{α:Type}{add mul:α->α->α}{neg:α->α}{zero one:α}(L:Laws add mul neg zero one)
include L
theorem Laws.alc(a b c:α): add a (add b c)=add b (add a c):=by rw[<-L.aa,L.ac a b,L.aa]
theorem Laws.mlc(a b c:α): mul a (mul b c)=mul b (mul a c):=by rw[<-L.ma,L.mc a b,L.ma]
theorem Laws.dm(a b c:α): mul (add a b) c=add (mul a c) (mul b c):=by rw[L.mc,L.md,L.mc c a,L.mc c b]
theorem Laws.za(a:α): add zero a=a:=by rw[L.ac,L.az]
theorem Laws.om(a:α): mul one a=a:=by rw[L.mc,L.mo]
theorem Laws.cancel{a b c:α}(h:add a c=add b c): a=b:=by
 have:add (add a c) (neg c)=add (add b c) (neg c):=by rw[h]
 rwa[L.aa,L.aa,L.an,L.az,L.az] at this
theorem Laws.mz(a:α): mul a zero=zero:=by
 refine L.cancel (c:=mul a zero) ?_
 rw[<-L.md,L.za,L.za]
theorem Laws.zm(a:α): mul zero a=zero:=by rw[L.mc,L.mz]
theorem Laws.na(a:α): add (neg a) a=zero:=by rw[L.ac,L.an]
theorem Laws.nu{a b:α}(h:add a b=zero): b=neg a:=L.cancel (c:=a) (by rw[L.ac,h,L.na])
theorem Laws.mn(a b:α): mul a (neg b)=neg (mul a b):=L.nu (by rw[<-L.md,L.an,L.mz])
theorem Laws.nm(a b:α): mul (neg a) b=neg (mul a b):=by rw[L.mc,L.mn,L.mc]
theorem Laws.nn(a:α): neg (neg a)=a:=(L.nu (L.na a)).symm
theorem Laws.nd(a b:α): neg (add a b)=add (neg a) (neg b):=(L.nu (by
 rw[L.aa,L.alc b,<-L.aa,L.an,L.za,L.an])).symm
theorem Laws.nz: neg zero=zero:=(L.nu (L.az zero)).symm
theorem Laws.sub_eq{a b c d:α}(h:add a d=add c b): add a (neg b)=add c (neg d):=by
 refine L.cancel (c:=add b d) ?_
 have i:add (add a (neg b)) (add b d)=add a d:=by rw[L.aa,<-L.aa (neg b),L.na,L.za]
 have j:add (add c (neg d)) (add b d)=add c b:=by rw[L.aa,L.alc (neg d),L.na,L.az]
 rw[i,j,h]
theorem Laws.quad(r:α): Laws (α:=α×α) (λx y=>(add x.1 y.1,add x.2 y.2)) (λx y=>(add (mul x.1 y.1) (mul (mul x.2 y.2) r),add (mul x.1 y.2) (mul x.2 y.1))) (λx=>(neg x.1,neg x.2)) (zero,zero) (one,zero) where
 ac:=λa b=>by simp only[L.ac]
 aa:=λa b c=>by simp only[L.aa]
 az:=λa=>by simp only[L.az]
 an:=λa=>by simp only[L.an]
 mc:=λa b=>by
  refine W3a ?_ ?_
  . simp only[L.mc]
  . simp only[L.mc,L.ac]
 ma:=λa b c=>by
  refine W3a ?_ ?_
  . simp only[L.md,L.dm,L.ma]
    simp only[L.mc,L.mlc,L.aa,L.ac,L.alc]
  . simp only[L.md,L.dm,L.ma]
    simp only[L.mc,L.mlc,L.aa,L.ac,L.alc]
 mo:=λa=>by
  refine W3a ?_ ?_
  . simp only[L.mo,L.mz,L.zm,L.az]
  . simp only[L.mo,L.mz,L.za]
 md:=λa b c=>by
  refine W3a ?_ ?_
  . simp only[L.md,L.dm]
    simp only[L.aa,L.ac,L.alc]
  . simp only[L.md,L.dm]
    simp only[L.aa,L.ac,L.alc]
end
theorem Xba(k:Nat)(t:Tw k): Laws (add k) (mul k t) (neg k) (zero k) (rat k 1):=by
 induction k with
 | zero=>exact⟨Rat.add_comm,Rat.add_assoc,W7g,Rat.add_neg_cancel,Rat.mul_comm,Rat.mul_assoc,Rat.mul_one,Rat.mul_add⟩
 | succ k h=>exact(h t.1).quad t.2
def norm(k:Nat)(t:Tw (k+1))(a:El (k+1)): El k:=add k (mul k t.1 a.1 a.1) (neg k (mul k t.1 (mul k t.1 a.2 a.2) t.2))
def inv: (k:Nat)->Tw k->El k->Option (El k)
 | 0=>λ_ (x:Rat)=>if x=0 then none else some (1/x:Rat)
 | k+1=>λt a=>match inv k t.1 (norm k t a) with
  | none=>none
  | some n=>some (mul k t.1 a.1 n,neg k (mul k t.1 a.2 n))
theorem Xr2(k:Nat)(t:Tw (k+1))(a b:El (k+1)): norm k t (mul (k+1) t a b)=mul k t.1 (norm k t a) (norm k t b):=by
 have L:=Xba k t.1
 have h:∀x y z w:El k,mul k t.1 (add k x (neg k y)) (add k z (neg k w))=add k (add k (mul k t.1 x z) (mul k t.1 y w)) (neg k (add k (mul k t.1 x w) (mul k t.1 y z))):=by
  intro x y z w
  simp only[L.md,L.dm,L.mn,L.nm,L.nn,L.nd]
  simp only[L.aa,L.ac,L.alc]
 simp only[norm,mul]
 rw[h]
 refine L.sub_eq ?_
 simp only[L.md,L.dm,L.ma]
 simp only[L.mc,L.mlc,L.aa,L.ac,L.alc]
theorem Xdb{k:Nat}{t:Tw k}{a b:El k}(h:inv k t a=some b): mul k t b a=rat k 1:=by
 induction k with
 | zero =>
  have i:∀x b:Rat,(if x=0 then none else some (1/x))=some b->b*x=1:=by
   intro x b h
   split at h
   . cases h
   . rename_i j
     injection h with h
     subst h
     exact W5r j
  exact i a b h
 | succ k o =>
  have L:=Xba k t.1
  simp only[inv] at h
  split at h
  . cases h
  . rename_i n A
    injection h with h
    subst h
    have:=o A
    refine W3a ?_ ?_
    . show add k (mul k t.1 (mul k t.1 a.1 n) a.1) (mul k t.1 (mul k t.1 (neg k (mul k t.1 a.2 n)) a.2) t.2)=rat k 1
      rw[<-this,norm]
      simp only[L.md,L.mn,L.nm]
      simp only[L.ma,L.mc,L.mlc]
    . show add k (mul k t.1 (mul k t.1 a.1 n) a.2) (mul k t.1 (neg k (mul k t.1 a.2 n)) a.1)=zero k
      simp only[L.nm]
      rw[show mul k t.1 (mul k t.1 a.2 n) a.1=mul k t.1 (mul k t.1 a.1 n) a.2 by simp only[L.ma,L.mc,L.mlc],L.an]
def pr{k:Nat}(a b:El k): El (k+1):=(a,b)
def up(k:Nat)(a:El k): El (k+1):=(a,zero k)
def Xf9: (k:Nat)->(i:Nat)->El k
 | 0,_=>(0:Rat)
 | k+1,i=>if i=k then pr (zero k) (rat k 1) else up k (Xf9 k i)
theorem Xwc(k:Nat)(t:Tw (k+1))(a b:El k): mul (k+1) t (up k a) (up k b)=up k (mul k t.1 a b):=by
 have L:=Xba k t.1
 simp only[mul,up,L.mz,L.zm,L.az];rfl
theorem Xqn{k i:Nat}(hi:i<k): toL k (Xf9 k i)=(List.replicate (2^k) 0).set (2^i) 1:=by
 induction k with
 | zero=>omega
 | succ k A =>
  have hp:2^(k+1)=2^k+2^k:=by rw[W0q];omega
  rw[hp,<-W5e]
  by_cases h:i=k
  . rw[Xf9,if_pos h]
    subst h
    simp only[toL,pr,Xbt,Xd7]
    rw[W6o _ _ (by simp),W1w,W2v]
    have h0:=W0r i
    obtain⟨m,B⟩:∃m,2^i=m+1:=⟨2^i-1,by omega⟩
    rw[B]
    rfl
  . have j:i<k:=by omega
    have o:2^i<2^k:=W3y (by decide) j
    rw[Xf9,if_neg h]
    simp only[toL,up,Xbt]
    rw[A j,List.set_append_left _ _ (by rw[W1w];exact o)]
end Go.Tow
namespace Go.Proofs.YtcmjannkbdflmaaGreatDoor
open Go Go.Num Go.Tow Go.Vm
section
def IsD(d n:Nat)(l:List Rat): Prop:=∀x∈l,∃z:Int,x*(d:Rat)=(z:Rat)/\z.natAbs<n
theorem IsD.mono{d n m:Nat}{l:List Rat}(h:IsD d n l)(i:n<=m): IsD d m l:=λx j =>
 let ⟨z,o,A⟩:=h x j;⟨z,o,W0u A i⟩
theorem IsD.scale{d n e:Nat}{l:List Rat}(h:IsD d n l)(i:0<e): IsD (d*e) (n*e) l:=λx j=>by
 obtain⟨z,o,A⟩:=h x j
 refine⟨z*(e:Int),?_,?_⟩
 . rw[W7y,<-Rat.mul_assoc,o,W3z];rfl
 . rw[W4n,W1m]
   exact W3n A i
theorem IsD.append{d n:Nat}{l m:List Rat}(h:IsD d n l)(k:IsD d n m): IsD d n (l++m):=λx i=>(W2c.1 i).elim (h x) (k x)
theorem IsD.left{d n:Nat}{l m:List Rat}(h:IsD d n (l++m)): IsD d n l:=λx i=>h x (W2l _ i)
theorem IsD.right{d n:Nat}{l m:List Rat}(h:IsD d n (l++m)): IsD d n m:=λx i=>h x (W1r _ i)
theorem IsD.add{d n m:Nat}: ∀ {l j:List Rat},IsD d n l->IsD d m j->IsD d (n+m) (List.zipWith (·+·) l j)
 | [],_,_,_=>λ_ h=>nomatch h
 | _::_,[],_,_=>λ_ h=>nomatch h
 | a::l,b::j,h,k=>λx i=>by
  rcases W1h.1 i with i | i
  . obtain⟨z,A,I⟩:=h a (W0v ..)
    obtain⟨w,B,M⟩:=k b (W0v ..)
    refine⟨z+w,by rw[i,Rat.add_mul,A,B,W4a],?_⟩
    have:=Int.natAbs_add_le z w
    omega
  . exact IsD.add (λy o=>h y (W1b _ o)) (λy o=>k y (W1b _ o)) x i
theorem IsD.neg{d n:Nat}{l:List Rat}(h:IsD d n l): IsD d n (l.map (- ·)):=λx i=>by
 obtain⟨y,j,rfl⟩:=W3l.1 i
 obtain⟨z,o,A⟩:=h y j
 exact⟨-z,by rw[Rat.neg_mul,o,W7z],by rw[W4v];exact A⟩
theorem IsD.mul1{d n e m:Nat}{x y:Rat}(h:IsD d n [x])(k:IsD e m [y]): IsD (d*e) (n*m) [x*y]:=λu i=>by
 obtain rfl:=W0f.1 i
 obtain⟨z,j,o⟩:=h x (W0v ..)
 obtain⟨w,A,B⟩:=k y (W0v ..)
 refine⟨z*w,?_,?_⟩
 . rw[W7y,W3z,<-j,<-A]
   grind
 . rw[W4n]
   exact W5d o B
theorem Xll(y:Rat): y*(y.den:Rat)=(y.num:Rat):=by
 have hd:((y.den:Nat):Rat)≠0:=by
  intro h
  have:((y.den:Nat):Rat).num=0:=by rw[h];rfl
  rw[Rat.num_natCast] at this
  have:=y.den_nz
  omega
 have e:y=(y.num:Rat)/(y.den:Rat):=by
  conv=>lhs;rw[<-Rat.num_divInt_den y,W3j]
  rfl
 conv=>lhs;lhs;rw[e]
 exact W5r hd
def Sz(p:Nat)(l:List Rat): Prop:=∃d:Nat,0<d/\d<2^p/\IsD d (2^p) l
theorem Sz.mono{p q:Nat}{l:List Rat}(h:Sz p l)(hp:p<=q): Sz q l:=by
 obtain⟨d,h0,j,i⟩:=h
 have:=W0m (n:=2) (by decide) hp
 exact⟨d,h0,by omega,i.mono this⟩
theorem Sz.sub{p:Nat}{l m:List Rat}(h:Sz p l)(hs:∀x∈m,x∈l): Sz p m:=by
 obtain⟨d,h0,i,j⟩:=h
 exact⟨d,h0,i,λx o=>j x (hs x o)⟩
theorem Sz.qs{p:Nat}{l:List Rat}(h:Sz p l){x:Rat}(i:x∈l): Qs p x:=by
 obtain⟨d,h0,j,o⟩:=h
 obtain⟨z,A,B⟩:=o x i
 have hd:((d:Nat):Rat)≠0:=by
  intro h
  have:(d:Rat).num=0:=by rw[h];rfl
  rw[Rat.num_natCast] at this
  omega
 have e:x=Rat.divInt z (d:Int):=by
  rw[W3j,<-A]
  exact(Rat.mul_div_cancel hd).symm
 rw[e]
 exact Qs.divInt B (by unfold Zs;rw[W1m];exact j) (by omega)
theorem Sz.nil: Sz 1 []:=⟨1,by decide,by decide,λ_ h=>nomatch h⟩
theorem _root_.Go.Num.Qs.isD{p:Nat}{x:Rat}(h:Qs p x): IsD x.den (2^p) [x]:=λy i=>by
 obtain rfl:=W0f.1 i
 exact⟨y.num,Xll y,h.n⟩
theorem Sz.one{p:Nat}{x:Rat}(h:Qs p x): Sz p [x]:=⟨x.den,W2q x.den_nz,by have:=h.d;unfold Zs at this;rwa[W1m] at this,h.isD⟩
theorem Sz.append{p q:Nat}{l m:List Rat}(h:Sz p l)(k:Sz q m): Sz (p+q) (l++m):=by
 obtain⟨d,h0,i,A⟩:=h
 obtain⟨e,j,o,B⟩:=k
 have hp:=W0r p
 have hq:=W0r q
 refine⟨d*e,W1p h0 j,by rw[W1a];exact W5d i o,?_⟩
 refine IsD.append ((A.scale j).mono ?_) ?_
 . rw[W1a];exact W0p _ (W2e o)
 . rw[W1f d e]
   refine(B.scale h0).mono ?_
   rw[W1a,W1f]
   exact W0x _ (W2e i)
theorem Sz.cons{p q:Nat}{x:Rat}{m:List Rat}(h:Qs p x)(k:Sz q m): Sz (p+q) (x::m):=(Sz.one h).append k
theorem Sz.all{p:Nat}: ∀ {l:List Rat},(∀x∈l,Qs p x)->Sz (p*l.length+1) l
 | [],_=>Sz.nil.mono (by omega)
 | x::l,h=>(Sz.cons (h x (W0v ..)) (Sz.all λy i=>h y (W1b _ i))).mono (by rw[W0j,Nat.mul_succ];omega)
theorem Sz.add{p q:Nat}{l m:List Rat}(h:Sz p l)(k:Sz q m): Sz (p+q+1) (List.zipWith (·+·) l m):=by
 obtain⟨d,h0,i,A⟩:=h
 obtain⟨e,j,o,B⟩:=k
 have I:=W5d i o
 rw[<-W1a] at I
 refine⟨d*e,W1p h0 j,by rw[W0q];omega,?_⟩
 have a1:IsD (d*e) (2^(p+q)) l:=(A.scale j).mono (by rw[W1a];exact W0p _ (W2e o))
 have M:IsD (d*e) (2^(p+q)) m:=by
  rw[W1f d e]
  exact(B.scale h0).mono (by rw[W1a,W1f];exact W0x _ (W2e i))
 exact(a1.add M).mono (by rw[W0q];omega)
theorem Sz.neg{p:Nat}{l:List Rat}(h:Sz p l): Sz p (l.map (- ·)):=by
 obtain⟨d,h0,i,j⟩:=h
 exact⟨d,h0,i,j.neg⟩
theorem Sz.left{p:Nat}{l m:List Rat}(h:Sz p (l++m)): Sz p l:=h.sub λ_=>W2l _
theorem Sz.right{p:Nat}{l m:List Rat}(h:Sz p (l++m)): Sz p m:=h.sub λ_=>W1r _
def TS(r:Nat): (k:Nat)->Tw k->Prop
 | 0,_=>True
 | k+1,t=>TS r k t.1/\Sz r (toL k t.2)
def cB(r:Nat): Nat->Nat
 | 0=>0
 | k+1=>2*cB r k+r+1
theorem Ypc(r k:Nat): cB r k<=cB r (k+1):=by show _<=2*cB r k+r+1;omega
theorem Xlk{r k:Nat}{t:Tw k}(I:TS r k t): ∃E,0<E/\E<=2^cB r k/\∀a b d e n m,0<d->0<e->IsD d n (toL k a)->IsD e m (toL k b)->IsD (d*e*E) (n*m*2^cB r k) (toL k (mul k t a b)):=by
 induction k with
 | zero =>
  refine⟨1,by decide,W0c 1,λa b d e n m _ _ h i=>?_⟩
  rw[W4c,show 2^cB r 0=1 from rfl,W4c]
  exact h.mul1 i
 | succ k Q =>
  obtain⟨E,h0,j,o⟩:=Q I.1
  obtain⟨g,g0,M,T⟩:=I.2
  have hC:=W0r (cB r k)
  have hR:=W0r r
  refine⟨E*(E*g),W1p h0 (W1p h0 g0),?_,λa b d e n m hd A h i=>?_⟩
  . have O:E*(E*g)<=2^cB r k*(2^cB r k*2^r):=W1z j (W1z j (W2e M))
    rw[<-W1a,<-W1a] at O
    exact W0l O (W0m (by decide) (by show _<=2*cB r k+r+1;omega))
  . have U:E*g<=2^cB r k*2^r:=W1z j (W2e M)
    have B:0<E*g:=W1p h0 g0
    have V:n*m*2^cB r (k+1)=n*m*2^cB r k*(2^cB r k*2^r)+n*m*2^cB r k*(2^cB r k*2^r):=by
     rw[show cB r (k+1)=cB r k+(cB r k+r)+1 by show 2*cB r k+r+1=_;omega,W0q,W1a,W1a]
     rw[<-Nat.mul_two,W0t (n*m),W0t (n*m)]
    have scale:∀u v:El k,IsD d n (toL k u)->IsD e m (toL k v)->IsD (d*e*(E*(E*g))) (n*m*2^cB r k*(2^cB r k*2^r)) (toL k (mul k t.1 u v)):=by
     intro u v Y Z
     have:=(o u v d e n m hd A Y Z).scale B
     rw[W0t (d*e)] at this
     exact this.mono (W0p _ U)
    show IsD _ _ (toL k (add k _ _)++toL k (add k _ _))
    rw[Xas,Xas,V]
    refine IsD.append (IsD.add (scale _ _ h.left i.left) ?_) (IsD.add (scale _ _ h.left i.right) (scale _ _ h.right i.left))
    have:=o _ _ (d*e*E) g _ _ (W1p (W1p hd A) h0) g0 (o _ _ d e n m hd A h.right i.right) T
    rw[show d*e*E*g*E=d*e*(E*(E*g)) by rw[W0t (d*e),W0t (d*e),W0t E g E,W1f g E]] at this
    rw[show n*m*2^cB r k*2^r*2^cB r k=n*m*2^cB r k*(2^cB r k*2^r) by rw[W0t (n*m*2^cB r k),W1f (2^r)]] at this
    exact this
theorem Sz.mul{r k p q:Nat}{t:Tw k}{a b:El k}(o:TS r k t)(h:Sz p (toL k a))(A:Sz q (toL k b)): Sz (p+q+cB r k) (toL k (mul k t a b)):=by
 obtain⟨E,i,B,I⟩:=Xlk o
 obtain⟨d,h0,M,O⟩:=h
 obtain⟨e,j,Q,T⟩:=A
 have:=I a b d e _ _ h0 j O T
 rw[<-W1a,<-W1a] at this
 refine⟨_,W1p (W1p h0 j) i,?_,this⟩
 rw[W1a,W1a]
 have U:=W5d M Q
 exact W0u (W3n U i) (W0p _ B)
def nB(r k p:Nat): Nat:=4*p+3*cB r k+r+1
theorem Sz.norm{r k p:Nat}{t:Tw (k+1)}{a:El (k+1)}(i:TS r (k+1) t)(h:Sz p (toL (k+1) a)): Sz (nB r k p) (toL k (Tow.norm k t a)):=by
 have j:Sz p (toL k a.1):=Sz.left h
 have o:Sz p (toL k a.2):=Sz.right h
 have A:=Sz.mul i.1 j j
 have B:=Sz.mul i.1 (Sz.mul i.1 o o) i.2
 rw[Tow.norm,Xas,Xbw]
 exact(A.add B.neg).mono (by unfold nB;omega)
def iB(r:Nat): Nat->Nat->Nat
 | 0,p=>p+1
 | k+1,p=>2*(p+iB r k (nB r k p)+cB r k)
theorem _root_.Go.Num.Qs.inv1{p:Nat}{x:Rat}(h:Qs p x): Qs (p+1) (1/x):=by
 by_cases h0:x=0
 . rw[h0,show (1/0:Rat)=((0:Int):Rat) by rw[W5z,Rat.inv_zero,Rat.mul_zero];rfl]
   exact Qs.int Zs.zero (by omega)
 . rw[Xkd _ _ h0]
   refine Qs.divInt ?_ ?_ ?_
   . rw[show (1:Rat).num=1 from rfl,W5y];exact h.d.mono (by omega)
   . rw[show ((1:Rat).den:Int)=1 from rfl,W5y];exact h.n.mono (by omega)
   . rw[show ((1:Rat).den:Int)=1 from rfl,W5y]
     exact λe=>h0 (W5s.1 e)
theorem Sz.inv{r k p:Nat}{t:Tw k}{a b:El k}(i:TS r k t)(h:Sz p (toL k a))(hb:Tow.inv k t a=some b): Sz (iB r k p) (toL k b):=by
 induction k generalizing p with
 | zero =>
  have j:∀x b:Rat,(if x=0 then none else some (1/x))=some b->Qs p x->Sz (p+1) [b]:=by
   intro x b h hq
   split at h
   . cases h
   . injection h with h
     subst h
     exact Sz.one hq.inv1
  exact j a b hb (h.qs (W0f.2 rfl))
 | succ k A =>
  simp only[Tow.inv] at hb
  split at hb
  . cases hb
  . rename_i n B
    injection hb with hb
    subst hb
    have o:=A i.1 (h.norm i) B
    have j:=Sz.mul i.1 (Sz.left h:Sz p (toL k a.1)) o
    have I:=Sz.mul i.1 (Sz.right h:Sz p (toL k a.2)) o
    show Sz _ (toL k _++toL k (Tow.neg k _))
    rw[Xbw]
    exact(j.append I.neg).mono (by show _<=2*(p+iB r k (nB r k p)+cB r k);omega)
theorem Yaw(r k p:Nat): p<=iB r k p:=by
 cases k with
 | zero=>show p<=p+1;omega
 | succ k=>show p<=2*_;omega
theorem Xwb(r k p:Nat): p<=nB r k p:=by unfold nB;omega
theorem Sz.zero(k:Nat): Sz 1 (toL k (Tow.zero k)):=by
 rw[Xbt]
 refine⟨1,by decide,by decide,λx h=>?_⟩
 rw[W6c h]
 exact⟨0,by rw[W5q];rfl,by decide⟩
theorem Sz.rat{p:Nat}(k:Nat){x:Rat}(h:Qs p x): Sz (p+1) (toL k (Tow.rat k x)):=by
 rw[Xd7]
 refine Sz.cons h ?_
 refine⟨1,by decide,by decide,λx i=>?_⟩
 rw[W6c i]
 exact⟨0,by rw[W5q];rfl,by decide⟩
end
section
def dqs(l:List Rat): D:=.sl 4 (l.map dq)
def dts(t:List (List Rat)): D:=.sl 1 (t.map dqs)
def fl(xs:List D)(z:D)(k:Nat): List D:=xs.take k++List.replicate (xs.length-k) z
theorem Xit{xs:List D}{z:D}{n:Nat}(h:xs.length=n): List.replicate n z=fl xs z 0:=by simp[fl,h]
theorem Xnt{xs:List D}{z:D}{k:Nat}(h:xs.length<=k): fl xs z k=xs:=by rw[fl,W0b h,show xs.length-k=0 by omega];simp
theorem Xj7{xs:List D}{z:D}{k:Nat}(h:k<=xs.length): (fl xs z k).length=xs.length:=by simp[fl];omega
theorem Xns{xs:List D}{z u:D}{k:Nat}(h:xs[k]?=some u): (fl xs z k).set k u=fl xs z (k+1):=by
 have i:=(W1e.1 h).1
 rw[fl,fl,W6o _ _ (by simp;omega),show k-(xs.take k).length=0 by simp;omega,show xs.length-k=(xs.length-(k+1))+1 by omega,W3p,W7h,W1c,h]
 simp
theorem lq(l:List Rat): (l.map dq).length=l.length:=W0i ..
theorem lt'(l:List (List Rat)): (l.map dqs).length=l.length:=W0i ..
theorem qat{l:List Rat}{k:Nat}(h:k<l.length): ∃x,l[k]?=some x:=⟨_,W0a h⟩
def Yeg(f:FuncId)(l:List Rat)(φ:Rat->Prop): Prop:=∀x∈l,C0 f [.d (dq x)] (·=.b (dc (φ x)))
abbrev fnD(f:FuncId): D:=.raw (.func (.func f) #[] #[])
theorem Xok{f:FuncId}{l:List Rat}{φ:Rat->Prop}(hf:Yeg f l φ)(M:l.length<=1099511627776): C0 425 [.d (dqs l),.d (fnD f)] λv=>∃i:Int,v=.d (.int .i64 i)/\(i>=0↔∃x∈l,φ x):=by
 refine En Tryz.func425 λ_ _ _=>?_
 refine Lo (λk:Nat=>[(0,.d (dqs l)),(1,.d (fnD f)),(7,.d (.int .i64 l.length)),(8,.d (.int .i64 k))]) (λ_=>[]) (λk=>k<=l.length/\∀x∈l.take k,¬φ x) (λk=>l.length-k) 0 [] rfl ⟨by omega,by simp⟩ (λk ⟨O,B⟩=>?_) (by exact⟨by simp only[lq];rfl,rfl,rfl,rfl,rfl⟩)
 refine By rfl (λh=>?_) λh=>?_
 . obtain⟨x,o⟩:=qat (l:=l) (k:=k) (by omega)
   have I:=W0e o
   refine Ix k rfl (mp o)<|Ce rfl (hf x I)<|By rfl (λA=>?_) λA=>?_
   . exact Rt rfl (.one (.rf rfl) rfl rfl) ⟨k,rfl,⟨λ_=>⟨x,I,A⟩,λ_=>by omega⟩⟩
   . refine Ar (k+1:Nat) rfl ?_
     refine Bk (k+1) [] rfl ⟨by omega,λy j=>?_⟩ (by show l.length-(k+1)<l.length-k;omega)
     rw[W1c,o] at j
     rcases W2c.1 j with j | j
     . exact B y j
     . simp at j;rw[j];exact A
 . refine Rt rfl (.one (.rf rfl) rfl rfl) ⟨-1,rfl,⟨λh=>absurd h (by decide),λ⟨x,o,A⟩=>?_⟩⟩
   rw[W0b (by omega)] at B
   exact absurd A (B x o)
theorem Xen{f:FuncId}{l:List Rat}{φ:Rat->Prop}(hf:Yeg f l φ)(h:l.length<=1099511627776): C0 369 [.d (dqs l),.d (fnD f)] (·=.b (dc (∃x∈l,φ x))):=by
 refine En Tryz.func369 λ_ _ _=>?_
 refine Ca rfl (Xok hf h) λv j=>?_
 obtain⟨i,rfl,hi⟩:=j
 exact R1 rfl (.bp (Xal.trans hi))
theorem Xut{x:Rat}{p:Nat}(j:Qs p x)(hp:p<=8796093022208): C0 414 [.d (dq x)] (·=.b (dc (x≠0))):=by
 refine En Tryz.func414 λ_ _ _=>?_
 refine Ce rfl (Xft j hp)<|R1 rfl (.bp ?_)
 have h0:=@W5s x
 rw[Xal]
 rcases Xat x.num 0 with ⟨i,h⟩ | ⟨i,h⟩ | ⟨i,h⟩<;>rw[h,ne_eq,ne_eq,<-h0]<;>omega
def Ps(p:Nat)(l:List Rat): Prop:=∀x∈l,Qs p x
theorem Xa9{p:Prop}: (!dc p)=dc (¬p):=by rw[W4h,W1u,W2p,ne_eq,Xal,Xal]
theorem Xep{l:List Rat}{p:Nat}(i:Ps p l)(hp:p<=8796093022208)(j:l.length<=1099511627776): C0 357 [.d (dqs l)] (·=.b (dc (∀x∈l,x=0))):=by
 refine En Tryz.func357 λ_ _ _=>?_
 exact Ce rfl (Xen (φ:=(·≠0)) (λx h=>Xut (i x h) hp) j)<|R1 rfl (.bp (by rw[Xa9,Xal];simp))
theorem Xpd{x:Rat}{p:Nat}(h:Qs p x)(hp:p<=8796093022208): C0 370 [.d (dq x)] (·=.b (dc False)):=by
 refine En Tryz.func370 λ_ _ _=>?_
 exact Ce rfl (Xm8 h hp)<|R1 rfl (.bp (by simp[Xal]))
theorem Xcb{l:List Rat}{p n:Nat}(i:Ps p l)(hp:p<=8796093022208)(j:l.length<=1099511627776)(o:l.length=n): C0 283 [.d (dqs l),.d (.int .i64 n)] (·=.b true):=by
 refine En Tryz.func283 λ_ _ _=>?_
 exact Yes rfl (by simp only[lq,o])<|Ce rfl (Xen (φ:=λ_=>False) (λx h=>Xpd (i x h) hp) j)<|R1 rfl (by exact(show (!dc (∃x∈l,False))=true by rw[Xa9,Xal];simp) ▸ .rf rfl)
theorem Xbo{k:Nat}(i:k<=40): arB .shl .i64 1 k (2^k:Nat):=by
 have j:2^k<=2^40:=W0m (by decide) i
 obtain⟨m,h⟩:∃m,m=2^k:=⟨_,rfl⟩
 rw[<-h] at j |-
 refine⟨by omega,?_⟩
 rw[W7m,W2d (by show k<=64;omega),show (1:Int)*2^k=(m:Int) by rw[h,W7v];simp]
 exact wI (by omega)
def Pt(p:Nat)(t:List (List Rat)): Prop:=∀i r,t[i]?=some r->r.length=2^i/\Ps p r
theorem Yfv{k m:Nat}(h:k<=m): 2^k<=2^m:=W0m (by decide) h
theorem Xed{t:List (List Rat)}{p:Nat}(j:Pt p t)(hp:p<=8796093022208)(B:t.length<=40): C0 282 [.d (dts t)] (·=.b true):=by
 refine En Tryz.func282 λ_ _ _=>?_
 refine Lo (λk:Nat=>[(0,.d (dts t)),(5,.d (dts t)),(6,.d (.int .i64 t.length)),(7,.d (.int .i64 k))]) (λ_=>[]) (λk=>k<=t.length) (λk=>t.length-k) 0 [] rfl (by omega) (λk I=>?_) (by exact⟨by simp only[lt'];rfl,rfl,rfl,rfl,rfl⟩)
 refine By rfl (λh=>?_) λh=>?_
 . obtain⟨r,i⟩:∃r,t[k]?=some r:=⟨_,W0a (by omega)⟩
   obtain⟨o,A⟩:=j k r i
   have:=Yfv (show k<=40 by omega)
   refine Ix k rfl (mp i)<|Ar (2^k:Nat) rfl ?_ (Xbo (by omega))
   refine Ce rfl (Xcb A hp (by omega) o)<|No rfl (by simp)<|Ar (k+1:Nat) rfl ?_
   exact Bk (k+1) [] rfl (show k+1<=t.length by omega) (by show t.length-(k+1)<t.length-k;omega)
 . exact R0
theorem Xjr{t:List (List Rat)}{l:List Rat}{p q:Nat}(h:Pt p t)(hp:p<=8796093022208)(i:Ps q l)(hq:q<=8796093022208)(o:t.length<=39)(j:l.length=2^t.length): C0 194 [.d (dts t),.d (dqs l)] (·=.b true):=by
 have:=Yfv (show t.length<=39 by omega)
 refine En Tryz.func194 λ_ _ _=>?_
 refine Ce rfl (Xed h hp (by omega))<|Yes rfl rfl<|Ar (2^t.length:Nat) rfl ?_ (by simp only[lt'];exact Xbo (by omega))
 exact Ce rfl (Xcb i hq (by omega) j)<|R0
theorem Xte{t:List (List Rat)}{l m:List Rat}{p q r:Nat}(h:Pt p t)(hp:p<=8796093022208)(i:Ps q l)(hq:q<=8796093022208)(j:Ps r m)(hr:r<=8796093022208)(o:t.length<=39)(A:l.length=2^t.length)(B:m.length=2^t.length): C0 261 [.d (dts t),.d (dqs l),.d (dqs m)] (·=.b true):=by
 have:=Yfv (show t.length<=39 by omega)
 refine En Tryz.func261 λ_ _ _=>?_
 refine Ce rfl (Xjr h hp i hq o A)<|Yes rfl rfl<|Ar (2^t.length:Nat) rfl ?_ (by simp only[lt'];exact Xbo (by omega))
 exact Ce rfl (Xcb j hr (by omega) B)<|R0
theorem Xkl{n:Nat}(o:n<=1073741824): CA0 358 [.d (.int .i64 n)] 4 ((List.replicate n (0:Rat)).map dq):=by
 obtain⟨xs,j⟩:∃xs,xs=(List.replicate n (0:Rat)).map dq:=⟨_,rfl⟩
 have i:xs.length=n:=by rw[j];simp
 rw[<-j]
 refine EnW Tryz.func358 λ_ _ _ _=>?_
 refine Mk n rfl (by omega) ?_
 refine Lo (λk:Nat=>[(3,.own 6 4 0 n),(8,.d (.int .i64 n)),(9,.d (.int .i64 k))]) (λk=>[(6,.arr 4 (fl xs rz k))]) (λk=>k<=n) (λk=>n-k) 0 [] rfl (by omega) (λk A=>?_) (by exact⟨rfl,by rw[<-Xit i];rfl,rfl,rfl,rfl⟩)
 refine By rfl (λh=>?_) λh=>?_
 . refine Ce rfl (Xa4 (z:=0) (by decide))<|Eo k rfl (by omega)<|Sto rfl (by rw[Xj7 (by omega)];omega) (Xns (u:=dq 0) (by rw[j,W0w,W5k,if_pos (by omega)];rfl)) ?_
   refine Ar (k+1:Nat) rfl ?_
   exact Bk (k+1) [] rfl (show k+1<=n by omega) (by show n-(k+1)<n-k;omega)
 . exact Rw [(6,1000000)] [(1000000,.arr 4 xs)] rfl (.one (.rf rfl) rfl rfl) ⟨_,rfl,by rw[i];rfl,rfl⟩ (by rw[Xnt (by omega)];rfl)
end
section
theorem Xos{xs ys:List Rat}{p q:Nat}(M:xs.length=ys.length)(O:xs.length<=1073741824)(B:Ps p xs)(I:Ps q ys)(hp:p+q+1<=8796093022208): CA0 311 [.d (dqs xs),.d (dqs ys)] 4 ((List.zipWith (·+·) xs ys).map dq):=by
 obtain⟨zs,j⟩:∃zs,zs=(List.zipWith (·+·) xs ys).map dq:=⟨_,rfl⟩
 have i:zs.length=xs.length:=by rw[j];simp;omega
 rw[<-j]
 refine EnW Tryz.func311 λ_ _ _ _=>?_
 refine Mk xs.length rfl (by simp only[lq];omega) ?_ (by simp only[lq])
 refine Lo (λk:Nat=>[(0,.d (dqs xs)),(1,.d (dqs ys)),(5,.own 9 4 0 xs.length),(11,.d (.int .i64 xs.length)),(12,.d (.int .i64 k))]) (λk=>[(9,.arr 4 (fl zs rz k))]) (λk=>k<=xs.length) (λk=>xs.length-k) 0 [] rfl (by omega) (λk Q=>?_) (by exact⟨rfl,by rw[<-Xit i];rfl,rfl,rfl,rfl⟩)
 refine By rfl (λh=>?_) λh=>?_
 . obtain⟨x,o⟩:=qat (l:=xs) (k:=k) (by omega)
   obtain⟨y,A⟩:=qat (l:=ys) (k:=k) (by omega)
   refine Dw rfl<|Ix k rfl (mp o)<|Ix k rfl (mp A)<|Ce rfl (Xdw (B x (W0e o)) (I y (W0e A)) hp)<|Eo k rfl (by omega)<|Sto rfl (by rw[Xj7 (by omega)];omega) (Xns (u:=dq (x+y)) (by rw[j,W0w,W6p,o,A];rfl)) ?_
   refine Ar (k+1:Nat) rfl ?_
   exact Bk (k+1) [] rfl (show k+1<=xs.length by omega) (by show xs.length-(k+1)<xs.length-k;omega)
 . exact Rw [(9,1000000)] [(1000000,.arr 4 zs)] rfl (.one (.rf rfl) rfl rfl) ⟨_,rfl,by rw[i];rfl,rfl⟩ (by rw[Xnt (by omega)];rfl)
theorem Yex{xs:List Rat}{p:Nat}(B:xs.length<=1073741824)(A:Ps p xs)(hp:p<=8796093022208): CA0 195 [.d (dqs xs)] 4 ((xs.map (- ·)).map dq):=by
 obtain⟨zs,j⟩:∃zs,zs=(xs.map (- ·)).map dq:=⟨_,rfl⟩
 have i:zs.length=xs.length:=by rw[j];simp
 rw[<-j]
 refine EnW Tryz.func195 λ_ _ _ _=>?_
 refine Mk xs.length rfl (by simp only[lq];omega) ?_ (by simp only[lq])
 refine Lo (λk:Nat=>[(3,.own 8 4 0 xs.length),(9,.d (dqs xs)),(10,.d (.int .i64 xs.length)),(11,.d (.int .i64 k))]) (λk=>[(8,.arr 4 (fl zs rz k))]) (λk=>k<=xs.length) (λk=>xs.length-k) 0 [] rfl (by omega) (λk I=>?_) (by exact⟨by simp only[lq];rfl,by rw[<-Xit i];rfl,rfl,rfl,rfl⟩)
 refine By rfl (λh=>?_) λh=>?_
 . obtain⟨x,o⟩:=qat (l:=xs) (k:=k) (by omega)
   refine Ix k rfl (mp o)<|Ce rfl (Xk8 (A x (W0e o)) hp)<|Eo k rfl (by omega)<|Sto rfl (by rw[Xj7 (by omega)];omega) (Xns (u:=dq (-x)) (by rw[j,W0w,W0w,o];rfl)) ?_
   refine Ar (k+1:Nat) rfl ?_
   exact Bk (k+1) [] rfl (show k+1<=xs.length by omega) (by show xs.length-(k+1)<xs.length-k;omega)
 . exact Rw [(8,1000000)] [(1000000,.arr 4 zs)] rfl (.one (.rf rfl) rfl rfl) ⟨_,rfl,by rw[i];rfl,rfl⟩ (by rw[Xnt (by omega)];rfl)
theorem Ynb{m h:Nat}(e:m=2*h)(i:h<=1073741824): arB .quo .i64 m 2 h:=show _/\_ from⟨by decide,by rw[show Int.tdiv (m:Int) 2=((m/2:Nat):Int) from rfl,show m/2=h by omega];exact wI (by omega)⟩
theorem Xip{l m:List Rat}(h:l.length=m.length)(i:l.length<=1073741824): C0 360 [.d (dqs (l++m))] (·=.tup (.pr (.d (dqs l)) (.d (dqs m)))):=by
 have e:((l++m).map dq).length=2*l.length:=by rw[lq,W0d];omega
 refine En Tryz.func360 λ_ _ _=>?_
 refine Dw rfl<|Ar l.length rfl ?_ (Ynb e i)
 refine Tk l.length (l.map dq) rfl rfl (by omega) (by rw[<-W3d,W7k]) ?_
 refine Ar l.length rfl ?_ (Ynb e i)
 refine Dp l.length (m.map dq) rfl rfl (by omega) (by rw[<-List.map_drop,W8j]) ?_
 exact R0t
theorem Xq0{t:List (List Rat)}{r:List Rat}(h:t.length<=1073741824): C0 359 [.d (dts (t++[r]))] (·=.tup (.pr (.d (dts t)) (.d (dqs r)))):=by
 have e:((t++[r]).map dqs).length=t.length+1:=by rw[lt',W0d];rfl
 refine En Tryz.func359 λ_ _ _=>?_
 refine Dw rfl<|Ar t.length rfl ?_ (wr (by omega) (by simp only[inK];omega))
 refine Tk t.length (t.map dqs) rfl rfl (by omega) (by rw[<-W3d,W7k]) ?_
 refine Ar t.length rfl ?_ (wr (by omega) (by simp only[inK];omega))
 exact Ix t.length rfl (u:=dqs r) (mp (by simp))<|R0t
end
section
abbrev de{k:Nat}(a:El k): D:=dqs (toL k a)
abbrev dt{k:Nat}(t:Tw k): D:=dts (toT k t)
theorem _root_.Go.Proofs.YtcmjannkbdflmaaGreatDoor.Sz.ps{p:Nat}{l:List Rat}(h:Sz p l): Ps p l:=λ_ i=>h.qs i
theorem Xud{k:Nat}{t:Tw k}{a b:El k}(h:(∀x∈toL k a,x=0)\/(∀x∈toL k b,x=0)): toL k (mul k t a b)=List.replicate (2^k) 0:=by
 have L:=Xba k t
 rcases h with h | h
 . rw[(Xar k a).2 h,L.zm,Xbt]
 . rw[(Xar k b).2 h,L.mz,Xbt]
theorem p16{k:Nat}(h:k<=16): 2^k<=65536:=Yfv h
def Yry(k:Nat)(xs:List D)(v:AV)(H':Hpl): Prop:=(k=0/\v=.lit 4 xs/\H'=[])\/(v=.own 1000000 4 0 xs.length/\H'=[(1000000,.arr 4 xs)])
theorem Xqp: ∀ {k:Nat} {r s s':Nat} {t:Tw k} {a b:El k},TS r k t->Sz s (toL k a)->Sz s' (toL k b)->k<=16->s+s'+cB r k<=4398046511104->CW0 262 [.d (dt t),.d (de a),.d (de b)] [] (Yry k ((toL k (mul k t a b)).map dq)):=by
 intro k
 induction k with
 | zero =>
  intro r s s' t a b B ha hb T hs
  refine EnW Tryz.func262 λ_ _ _ _=>?_
  exact Yes rfl rfl<|Dw rfl<|Ix 0 rfl (u:=dq a) rfl<|Ix 0 rfl (u:=dq b) rfl<|Ce rfl (Xia (ha.qs (W0f.2 rfl)) (hb.qs (W0f.2 rfl)) (by omega))<|Rw [] [] rfl (.one (.rf rfl) rfl rfl) (.inl ⟨rfl,rfl,rfl⟩)
 | succ k V =>
  intro r s s' t a b B ha hb T hs
  have hp:=p16 T
  have Y:2^(k+1)=2*2^k:=by rw[W0q];omega
  have Z:cB r (k+1)=2*cB r k+r+1:=rfl
  have I:Sz s (toL k a.1):=Sz.left ha
  have j:Sz s (toL k a.2):=Sz.right ha
  have M:Sz s' (toL k b.1):=Sz.left hb
  have o:Sz s' (toL k b.2):=Sz.right hb
  have i:=Xab k
  have A:∀ {p q:Nat} {x y:El k},Sz p (toL k x)->Sz q (toL k y)->p+q+cB r k<=4398046511104->C0 262 [.d (dt t.1),.d (de x),.d (de y)] (·=.d (de (mul k t.1 x y))):=λhx hy h =>
   CW.data (V B.1 hx hy (by omega) h) rfl λv H' hv=>by
    rcases hv with ⟨_,rfl,rfl⟩ | ⟨rfl,rfl⟩
    . exact⟨_,.one (.lit rfl) rfl rfl,rfl⟩
    . exact⟨_,.one (.own rfl (by simp) (by rw[W0y,W1x])) rfl rfl,rfl⟩
  refine EnW Tryz.func262 λ_ _ _ _=>?_
  refine No rfl (by simp only[lt',Xaa];omega)<|Cu (some 3) (λ(O:Bool)=>[(0,.d (dt t)),(1,.d (de a)),(2,.d (de b)),(26,.b O)]) (λ_=>[]) (λO=>O=true->(∀x∈toL (k+1) a,x=0)\/(∀x∈toL (k+1) b,x=0)) rfl ?_ λO Q=>?_
  . refine Ce rfl (Xep ha.ps (by omega) (by rw[Xab];omega))<|By rfl (λh=>?_) λh=>?_
    . exact Jn true [] rfl λ_=>.inl h
    . exact Ce rfl (Xep hb.ps (by omega) (by rw[Xab];omega))<|Jn (dc _) [] rfl λe=>.inr (Xal.1 e)
  refine By rfl (λh=>?_) λh=>?_
  . have U:=Xud (t:=t) (Q h)
    refine Cr (sz:=4) (xs:=(List.replicate (2^(k+1)) (0:Rat)).map dq) rfl (by
     simp only[lq,Xab]
     exact Xkl (by omega)) ?_
    exact Rw [(35,1000000)] [(1000000,.arr 4 _)] rfl (.one (.rf rfl) rfl rfl) (.inr ⟨by rw[U];rfl,by rw[U]⟩)
  refine Ce rfl (Xq0 (t:=toT k t.1) (r:=toL k t.2) (by rw[Xaa];omega))<|Ce rfl (Xip (l:=toL k a.1) (m:=toL k a.2) (by rw[i,i]) (by rw[i];omega))<|Ce rfl (Xip (l:=toL k b.1) (m:=toL k b.2) (by rw[i,i]) (by rw[i];omega))<|Ce rfl (A I M (by omega))<|Ce rfl (A j o (by omega))<|Ce rfl (A (j.mul B.1 o) B.2 (by omega))<|Cr rfl (Xos (by rw[i,i]) (by rw[i];omega) (I.mul B.1 M).ps ((j.mul B.1 o).mul B.1 B.2).ps (by omega)) ?_
  refine Ce rfl (A I o (by omega))<|Ce rfl (A j M (by omega))<|Ce rfl (CA.data (Xos (by rw[i,i]) (by rw[i];omega) (I.mul B.1 o).ps (j.mul B.1 M).ps (by omega)))<|ApO ((toL (k+1) (mul (k+1) t a b)).map dq) rfl rfl rfl (by
   rw[<-W1k,<-Xas,<-Xas];rfl) (by rw[lq,Xab];omega) ?_
  exact Rw [(73,1000000)] [(1000000,.arr 4 _)] rfl (.one (.rf rfl) rfl rfl) (.inr ⟨rfl,rfl⟩)
end
section
theorem Xgc{k:Nat}{r s s':Nat}{t:Tw k}{a b:Tow.El k}(h:TS r k t)(ha:Sz s (toL k a))(hb:Sz s' (toL k b))(i:k<=16)(hs:s+s'+cB r k<=4398046511104): C0 262 [.d (dt t),.d (de a),.d (de b)] (·=.d (de (mul k t a b))) :=
 CW.data (Xqp h ha hb i hs) rfl λv H' j=>by
  rcases j with ⟨_,rfl,rfl⟩ | ⟨rfl,rfl⟩
  . exact⟨_,.one (.lit rfl) rfl rfl,rfl⟩
  . exact⟨_,.one (.own rfl (by simp) (by rw[W0y,W1x])) rfl rfl,rfl⟩
theorem Xot{k p q:Nat}{a b:Tow.El k}(h:k<=16)(ha:Ps p (toL k a))(hb:Ps q (toL k b))(hp:p+q+1<=8796093022208): C0 311 [.d (de a),.d (de b)] (·=.d (de (Tow.add k a b))):=by
 have:=CA.data (Xos (by rw[Xab,Xab]) (by rw[Xab];have:=p16 h;omega) ha hb hp)
 rwa[<-Xas] at this
theorem Xhw{k p:Nat}{a:Tow.El k}(h:k<=16)(ha:Ps p (toL k a))(hp:p<=8796093022208): C0 195 [.d (de a)] (·=.d (de (Tow.neg k a))):=by
 have:=CA.data (Yex (by rw[Xab];have:=p16 h;omega) ha hp)
 rwa[<-Xbw] at this
theorem Xq1{k:Nat}{t:Tw (k+1)}(h:k<=16): C0 359 [.d (dt t)] (·=.tup (.pr (.d (dt t.1)) (.d (de t.2)))):=Xq0 (by rw[Xaa];omega)
theorem Xnp{k:Nat}{a:Tow.El (k+1)}(h:k<=16): C0 360 [.d (de a)] (·=.tup (.pr (.d (de a.1)) (.d (de a.2)))):=Xip (by rw[Xab,Xab]) (by rw[Xab];have:=p16 h;omega)
theorem Xg0{k p:Nat}{a:Tow.El k}(h:Sz p (toL k a)): Sz p (toL k (Tow.neg k a)):=by rw[Xbw];exact h.neg
theorem Xqo{k r s:Nat}{t:Tw (k+1)}{a:Tow.El (k+1)}(h:TS r (k+1) t)(ha:Sz s (toL (k+1) a))(o:k+1<=16)(hs:nB r k s<=4398046511104): C0 458 [.d (dt t),.d (de a)] (·=.d (de (Tow.norm k t a))):=by
 have A:nB r k s=4*s+3*cB r k+r+1:=rfl
 have j:Sz s (toL k a.1):=Sz.left ha
 have i:Sz s (toL k a.2):=Sz.right ha
 refine En Tryz.func458 λ_ _ _=>?_
 exact Ce rfl (Xq1 (by omega))<|Ce rfl (Xnp (by omega))<|Ce rfl (Xgc h.1 j j (by omega) (by omega))<|Ce rfl (Xgc h.1 i i (by omega) (by omega))<|Ce rfl (Xgc h.1 (i.mul h.1 i) h.2 (by omega) (by omega))<|Ce rfl (Xhw (by omega) ((i.mul h.1 i).mul h.1 h.2).ps (by omega))<|Ce rfl (Xot (by omega) (j.mul h.1 j).ps (Xg0 ((i.mul h.1 i).mul h.1 h.2)).ps (by omega))<|R0
theorem Xxc{r k p q:Nat}(h:iB r (k+1) p<=q): nB r k p<=q/\p+iB r k (nB r k p)+cB r k<=q:=by
 have i:=Yaw r k (nB r k p)
 have j:iB r (k+1) p=2*(p+iB r k (nB r k p)+cB r k):=rfl
 omega
theorem Yot(x:Rat): Tow.inv 0 () x=if x=0 then none else some (1/x:Rat):=rfl
theorem Xsf(y:Rat): (∃x,Tow.inv 0 () y=some x)↔y≠0:=by
 rw[Yot]
 by_cases h:y=0
 . rw[if_pos h];exact⟨(λ⟨x,h⟩=>nomatch h),λi=>absurd h i⟩
 . rw[if_neg h];exact⟨λ_=>h,λ_=>⟨_,rfl⟩⟩
theorem Yn3{y:Rat}{s:Nat}(hq:Qs s y)(hs:s+1<=8796093022208): C0 457 [.d (dts []),.d (dqs [y])] λv=>∃w:D,v=.tup (.pr (.d w) (.b (dc (y≠0))))/\(y≠0->w=dqs [1/y]):=by
 have i:Qs 1 (1:Rat):=Qs.int (z:=1) (Zs.one (W0c 1)) (W0c 1)
 refine En Tryz.func457 λ_ _ _=>?_
 refine Yes rfl rfl<|Dw rfl<|Ce rfl (Xa4 (z:=1) (by decide))<|Ix 0 rfl (u:=dq y) rfl ?_
 by_cases h0:y=0
 . exact Ce rfl (Yaa h0)<|Rt rfl (.tup (.cons (.lit rfl) (.one (by exact .bp ⟨λh=>absurd (Xal.1 h) (by decide),λh=>absurd h0 h⟩) (λ_ _ e=>by cases e) (λ_ _ e=>by cases e)))) ⟨_,rfl,λh=>absurd h0 h⟩
 . exact Ce rfl (Yfo i hq (by omega) h0)<|Rt rfl (.tup (.cons (.lit rfl) (.one (by exact .bp ⟨λ_=>h0,λ_=>Xal.2 rfl⟩) (λ_ _ e=>by cases e) (λ_ _ e=>by cases e)))) ⟨_,rfl,λ_=>rfl⟩
theorem Xor: ∀ {k:Nat} {r s:Nat} {t:Tw k} {a:Tow.El k},TS r k t->Sz s (toL k a)->k<=16->iB r k s<=4398046511104->C0 457 [.d (dt t),.d (de a)] λv=>∃w:D,v=.tup (.pr (.d w) (.b (dc (∃x,Tow.inv k t a=some x))))/\∀x,Tow.inv k t a=some x->w=de x:=by
 intro k
 induction k with
 | zero =>
  intro r s t a o ha T hs
  have hb:iB r 0 s=s+1:=rfl
  have O:∀y:Rat,Qs s y->C0 457 [.d (dts []),.d (dqs [y])] λv=>∃w:D,v=.tup (.pr (.d w) (.b (dc (∃x,Tow.inv 0 () y=some x))))/\∀x:Rat,Tow.inv 0 () y=some x->w=dqs [x]:=λy hq=>by
   refine C.mono (Yn3 hq (by omega)) λv ⟨w,e,h⟩=>⟨w,by rw[e];congr 4;exact propext (Xsf y).symm,λx A=>?_⟩
   have h0:=(Xsf y).1 ⟨x,A⟩
   rw[h h0]
   rw[Yot,if_neg h0] at A
   injection A with A
   rw[<-A]
  exact O a (ha.qs (W0f.2 rfl))
 | succ k Y =>
  intro r s t a o ha T hs
  have A:Sz s (toL k a.1):=Sz.left ha
  have M:Sz s (toL k a.2):=Sz.right ha
  obtain⟨Z,hi2⟩:=Xxc hs
  have U:=ha.norm o
  have hge:=Yaw r k (nB r k s)
  have i:Tow.inv (k+1) t a=match Tow.inv k t.1 (Tow.norm k t a) with | none=>none | some x=>some (mul k t.1 a.1 x,Tow.neg k (mul k t.1 a.2 x)):=rfl
  refine En Tryz.func457 λ_ _ _=>?_
  refine No rfl (by simp only[lt',Xaa];omega)<|Ce rfl (Xq1 (by omega))<|Ce rfl (Xqo o ha T (by omega))<|Ca rfl (Y o.1 U (by omega) (by omega)) λv Q=>?_
  obtain⟨w,rfl,hw⟩:=Q
  refine By rfl (λh=>?_) λh=>?_
  . have h:¬ ∃x,Tow.inv k t.1 (Tow.norm k t a)=some x:=by simpa [Xa9,Xal] using h
    have V:Tow.inv (k+1) t a=none:=by
     rw[i]
     cases hh:Tow.inv k t.1 (Tow.norm k t a) with
     | none=>rfl
     | some x=>exact absurd ⟨x,hh⟩ h
    exact Rt rfl (.tup (.cons (.nil (sz:=4) rfl) (.one (by exact .bp (c:=false) (p:=∃x,Tow.inv (k+1) t a=some x) ⟨nofun,λ⟨x,h⟩=>by rw[V] at h;cases h⟩) (λ_ _ e=>by cases e) (λ_ _ e=>by cases e)))) ⟨_,rfl,λx h=>by rw[V] at h;cases h⟩
  . obtain⟨x,B⟩:∃x,Tow.inv k t.1 (Tow.norm k t a)=some x:=by simpa [Xa9,Xal] using h
    obtain rfl:=hw x B
    rw[B] at i
    have j:=U.inv o.1 B
    have hpk:=p16 (show k<=16 by omega)
    refine Ce rfl (Xnp (by omega))<|Cw [] rfl (Xqp o.1 A j (by omega) (by omega)) λv H' _ Q=>?_
    have I:∀ {zs:List D},zs=(toL k (mul k t.1 a.1 x)).map dq++(toL k (Tow.neg k (mul k t.1 a.2 x))).map dq->zs=(toL (k+1) (mul k t.1 a.1 x,Tow.neg k (mul k t.1 a.2 x))).map dq:=λh=>by rw[h,<-W1k];rfl
    have hb:(true=true↔∃x,Tow.inv (k+1) t a=some x):=⟨λ_=>⟨_,i⟩,λ_=>rfl⟩
    rcases Q with ⟨hk0,rfl,rfl⟩ | ⟨rfl,rfl⟩
    . refine Ce rfl (Xgc o.1 M j (by omega) (by omega))<|Ce rfl (Xhw (by omega) (M.mul o.1 j).ps (by omega))<|ApL _ rfl rfl (by rw[lq,Xab];exact W0r k) (by rw[W0d,lq,lq,Xab,Xab];omega) ?_
      exact Rt rfl (.tup (.cons (.own rfl (by rw[W1j];exact W0c _) rfl) (.one (by exact .bp (c:=true) hb) (λ_ _ e=>by cases e) (λ_ _ e=>by cases e)))) ⟨_,rfl,λy h=>by rw[i] at h;injection h with h;rw[<-h,W0y,W1x,I rfl];rfl⟩
    . refine Ce rfl (Xgc o.1 M j (by omega) (by omega))<|Ce rfl (Xhw (by omega) (M.mul o.1 j).ps (by omega))<|ApO _ rfl rfl rfl rfl (by rw[W0d,lq,lq,Xab,Xab];omega) ?_
      exact Rt rfl (.tup (.cons (.own rfl (by rw[W1j];exact W0c _) rfl) (.one (by exact .bp (c:=true) hb) (λ_ _ e=>by cases e) (λ_ _ e=>by cases e)))) ⟨_,rfl,λy h=>by rw[i] at h;injection h with h;rw[<-h,W0y,W1x,I rfl];rfl⟩
end
section
theorem Xku: ∀ {k:Nat} {t:Tw k} {r:Nat},TS r k t->∀ {i:Nat} {l:List Rat},(toT k t)[i]?=some l->l.length=2^i/\Sz r l
 | 0,_,_,_,_,_,h=>by simp[toT] at h
 | k+1,t,r,o,i,l,h=>by
  by_cases hi:i<k
  . rw[toT,W1d (by rw[Xaa];exact hi)] at h
    exact Xku o.1 h
  . have:=(W1e.1 h).1
    rw[Xaa] at this
    have j:i=k:=by omega
    subst j
    rw[toT,W0o (by rw[Xaa];exact W0c _),Xaa,W2v] at h
    simp at h
    rw[<-h]
    exact⟨Xab _ _,o.2⟩
theorem TS.pt{k r:Nat}{t:Tw k}(h:TS r k t): Pt r (toT k t):=λi l j=>⟨(Xku h j).1,(Xku h j).2.ps⟩
theorem Yie{k:Nat}(t:Tw k)(a:Tow.El k): (toL k a).length=2^(toT k t).length:=by rw[Xab,Xaa]
section
variable{k r s s':Nat}{t:Tw k}{a b:Tow.El k}
theorem Xca(h:TS r k t)(ha:Sz s (toL k a))(i:k<=16)(hs:s<=4398046511104)(hr:r<=4398046511104): C0 194 [.d (dt t),.d (de a)] (·=.b true):=Xjr (TS.pt h) (by omega) ha.ps (by omega) (by rw[Xaa];omega) (Yie t a)
theorem Xgd(h:TS r k t)(ha:Sz s (toL k a))(hb:Sz s' (toL k b))(i:k<=16)(hs:s+s'<=4398046511104)(hr:r<=4398046511104): C0 261 [.d (dt t),.d (de a),.d (de b)] (·=.b true):=Xte (TS.pt h) (by omega) ha.ps (by omega) hb.ps (by omega) (by rw[Xaa];omega) (Yie t a) (Yie t b)
theorem Xhx(i:TS r k t)(ha:Sz s (toL k a))(hb:Sz s' (toL k b))(h:k<=16)(hs:s+s'<=4398046511104)(hr:r<=4398046511104): C0 215 [.d (dt t),.d (de a),.d (de b)] (·=.d (de (Tow.add k a b))):=by
 refine En Tryz.func215 λ_ _ _=>?_
 exact Ce rfl (Xgd i ha hb h hs hr)<|No rfl (by simp)<|Ce rfl (Xot h ha.ps hb.ps (by omega))<|R0
theorem Xuu(i:TS r k t)(ha:Sz s (toL k a))(h:k<=16)(hs:s<=4398046511104)(hr:r<=4398046511104): C0 110 [.d (dt t),.d (de a)] (·=.d (de (Tow.neg k a))):=by
 refine En Tryz.func110 λ_ _ _=>?_
 exact Ce rfl (Xca i ha h hs hr)<|No rfl (by simp)<|Ce rfl (Xhw h ha.ps (by omega))<|R0
theorem Xgg(i:TS r k t)(ha:Sz s (toL k a))(hb:Sz s' (toL k b))(h:k<=16)(hs:s+s'<=4398046511104)(hr:r<=4398046511104): C0 214 [.d (dt t),.d (de a),.d (de b)] (·=.d (de (Tow.add k a (Tow.neg k b)))):=by
 refine En Tryz.func214 λ_ _ _=>?_
 exact Ce rfl (Xgd i ha hb h hs hr)<|No rfl (by simp)<|Ce rfl (Xhw h hb.ps (by omega))<|Ce rfl (Xot h ha.ps (Xg0 hb).ps (by omega))<|R0
theorem Xds(h:TS r k t)(ha:Sz s (toL k a))(hb:Sz s' (toL k b))(i:k<=16)(hs:s+s'+cB r k<=4398046511104)(hr:r<=4398046511104): C0 169 [.d (dt t),.d (de a),.d (de b)] (·=.d (de (mul k t a b))):=by
 refine En Tryz.func169 λ_ _ _=>?_
 exact Ce rfl (Xgd h ha hb i (by omega) hr)<|No rfl (by simp)<|Ce rfl (Xgc h ha hb i hs)<|R0
theorem Xuv(h:TS r k t)(ha:Sz s (toL k a))(i:k<=16)(hs:iB r k s<=4398046511104)(hr:r<=4398046511104){x:Tow.El k}(j:Tow.inv k t a=some x): C0 435 [.d (dt t),.d (de a)] (·=.tup (.pr (.d (de x)) (.d (.int .i64 0)))):=by
 have o:=Yaw r k s
 refine En Tryz.func435 λ_ _ _=>?_
 refine Ce rfl (Xca h ha i (by omega) hr)<|No rfl (by simp)<|Ca rfl (Xor h ha i hs) λv A=>?_
 obtain⟨w,rfl,B⟩:=A
 obtain rfl:=B x j
 exact No rfl (by simp[Xa9,Xal,j])<|R0t
theorem Xzp{i:Nat}(h:TS r k t)(j:k<=16)(hr:r<=4398046511104)(hi:i<k): C0 310 [.d (dt t),.d (.int .i64 i)] (·=.d (de (Xf9 k i))):=by
 have hp:=p16 j
 have o:2^i<2^k:=W3y (by decide) hi
 refine En Tryz.func310 λ_ _ _=>?_
 refine Ce rfl (Xed (TS.pt h) (by omega) (by rw[Xaa];omega))<|No rfl (by simp)<|No rfl (by omega)<|No rfl (by simp only[lt',Xaa];omega)<|Ar (2^k:Nat) rfl ?_ (by simp only[lt',Xaa];exact Xbo (by omega))
 refine Cr rfl (Xkl (n:=2^k) (by omega)) ?_
 refine Dw rfl<|Ar (2^i:Nat) rfl ?_ (Xbo (by omega))
 refine Ce rfl (Xa4 (z:=1) (by decide))<|Eo (2^i) rfl (by simp only[lq,W1w];omega)<|Sto rfl (by simp only[lq,W1w];omega) (ms (f:=dq) (u:=1)) ?_
 refine R1 rfl (.own rfl (by simp) ?_)
 rw[W0y,<-Xqn hi]
 exact W0b (by simp[Xab])
theorem Xcn{x:Rat}{p:Nat}(h:TS r k t)(i:k<=16)(hr:r<=4398046511104)(j:Qs p x)(hp:p<=4398046511104): C0 288 [.d (dt t),.d (dq x)] (·=.d (de (rat k x))):=by
 have o:=p16 i
 have h0:=W0r k
 refine En Tryz.func288 λ_ _ _=>?_
 refine Ce rfl (Xed (TS.pt h) (by omega) (by rw[Xaa];omega))<|No rfl (by simp)<|Ce rfl (Xm8 j (by omega))<|No rfl (by simp)<|Ar (2^k:Nat) rfl ?_ (by simp only[lt',Xaa];exact Xbo (by omega))
 refine Cr rfl (Xkl (n:=2^k) (by omega)) ?_
 refine Eo 0 rfl (by simp only[lq,W1w];omega)<|Sto rfl (by simp only[lq,W1w];omega) (ms (f:=dq) (u:=x)) ?_
 refine R1 rfl (.own rfl (by simp) ?_)
 rw[W0y,Xd7]
 rw[W0b (by simp),show 2^k=2^k-1+1 by omega,W3p,W7h]
 rfl
theorem Xzq{k r s:Nat}{t:Tw (k+1)}{a:Tow.El (k+1)}(h:TS r (k+1) t)(ha:Sz s (toL (k+1) a))(i:k+1<=16)(hs:nB r k s<=4398046511104)(hr:r<=4398046511104): C0 436 [.d (dt t),.d (de a)] (·=.d (de (Tow.norm k t a))):=by
 have j:nB r k s=4*s+3*cB r k+r+1:=rfl
 refine En Tryz.func436 λ_ _ _=>?_
 exact Ce rfl (Xca h ha i (by omega) hr)<|No rfl (by simp)<|No rfl (by simp only[lt',Xaa];omega)<|Ce rfl (Xqo h ha i hs)<|R0
end
end
end Go.Proofs.YtcmjannkbdflmaaGreatDoor
namespace Go.Proofs.YtcmjannkbdflmaaGreatDoor.R6
open Go Go.Vm Go.Num Go.Tow Go.Proofs.YtcmjannkbdflmaaGreatDoor
theorem Xhe{l:List Rat}{p n:Nat}(j:Ps p l)(hp:p<=8796093022208)(A:l.length<=1099511627776)(o:l.length=n): C0 389 [.d (dqs l),.d (.int .i64 n)] (·=.b true):=by
 refine En Tryz.func389 λ_ _ _=>?_
 refine Lo (λk:Nat=>[(0,.d (dqs l)),(1,.d (.int .i64 n)),(5,.d (.int .i64 k))]) (λ_=>[]) (λk=>k<=l.length) (λk=>l.length-k) 0 [] rfl (by omega) (λk B=>?_)
 refine By rfl (λh=>?_) λh=>?_<;>simp only[lq] at h
 . obtain⟨x,i⟩:=qat (l:=l) (k:=k) (by omega)
   refine Ix k rfl (mp i)<|Ce rfl (R2.Valid_ok (j x (W0e i)) hp)<|No rfl (by simp)<|Ar (k+1:Nat) rfl ?_
   exact Bk (k+1) [] rfl (show k+1<=l.length by omega) (by show l.length-(k+1)<l.length-k;omega)
 . exact R1 rfl (by exact(show dc (((l.map dq).length:Int)=n)=true by rw[Xal,lq,o]) ▸ .rf rfl)
theorem Tower_ok{t:List (List Rat)}{p:Nat}(j:Pt p t)(hp:p<=8796093022208)(B:t.length<=40): C0 388 [.d (dts t)] (·=.b true):=by
 refine En Tryz.func388 λ_ _ _=>?_
 refine Lo (λk:Nat=>[(0,.d (dts t)),(3,.d (.int .i64 k))]) (λ_=>[]) (λk=>k<=t.length) (λk=>t.length-k) 0 [] rfl (by omega) (λk I=>?_)
 refine By rfl (λh=>?_) λh=>?_<;>simp only[lt'] at h
 . obtain⟨r,i⟩:∃r,t[k]?=some r:=⟨_,W0a (by omega)⟩
   obtain⟨o,A⟩:=j k r i
   have:=Yfv (show k<=40 by omega)
   refine Dw rfl<|Ix k rfl (mp i)<|Ar (2^k:Nat) rfl ?_ (Xbo (by omega))
   refine Ce rfl (Xhe A hp (by omega) o)<|No rfl (by simp)<|Ar (k+1:Nat) rfl ?_
   exact Bk (k+1) [] rfl (show k+1<=t.length by omega) (by show t.length-(k+1)<t.length-k;omega)
 . exact R0
theorem Formed_ok{t:List (List Rat)}{l:List Rat}{p q:Nat}(h:Pt p t)(hp:p<=8796093022208)(i:Ps q l)(hq:q<=8796093022208)(o:t.length<=39)(j:l.length=2^t.length): C0 321 [.d (dts t),.d (dqs l)] (·=.b true):=by
 have:=Yfv (show t.length<=39 by omega)
 refine En Tryz.func321 λ_ _ _=>?_
 refine Ce rfl (Tower_ok h hp (by omega))<|Yes rfl rfl<|Ar (2^t.length:Nat) rfl ?_ (by simp only[lt'];exact Xbo (by omega))
 exact Ce rfl (Xhe i hq (by omega) j)<|R0
theorem Zero_ok{l:List Rat}(B:l.length<=1099511627776): C0 392 [.d (dqs l)] (·=.b (dc (∀x∈l,x=0))):=by
 refine En Tryz.func392 λ_ _ _=>?_
 refine Lo (λk:Nat=>[(0,.d (dqs l)),(3,.d (.int .i64 k))]) (λ_=>[]) (λk=>k<=l.length/\∀x∈l.take k,x=0) (λk=>l.length-k) 0 [] rfl ⟨by omega,by simp⟩ (λk ⟨I,j⟩=>?_)
 refine By rfl (λh=>?_) λh=>?_<;>simp only[lq] at h
 . obtain⟨x,o⟩:=qat (l:=l) (k:=k) (by omega)
   refine Ix k rfl (mp o)<|By rfl (λA=>?_) λA=>?_
   . exact R1 rfl (.bp ⟨nofun,λe=>by
      rw[e x (W0e o),lw] at A
      simp[Xaj] at A⟩)
   . refine Ar (k+1:Nat) rfl ?_
     refine Bk (k+1) [] rfl ⟨by omega,λy i=>?_⟩ (by show l.length-(k+1)<l.length-k;omega)
     rw[W1c,o] at i
     rcases W2c.1 i with i | i
     . exact j y i
     . simp at i;rw[i];exact R2.zero_of (by omega)
 . rw[W0b (by omega)] at j
   exact R1 rfl (.bp ⟨λ_=>j,λ_=>rfl⟩)
theorem Neg_ok{T:List (List Rat)}{xs:List Rat}{p:Nat}(o:xs.length<=1073741824)(j:Ps p xs)(hp:p<=8796093022208): CG0 269 [.d (dts T),.d (dqs xs)] 4 ((xs.map (- ·)).map dq):=by
 refine EnW Tryz.func269 λ_ _ _ _=>?_
 refine Nl 5 5 4 rfl ?_
 refine Lo (λk:Nat=>[(1,.d (dqs xs)),(5,.gr 5 4 (((xs.take k).map (- ·)).map dq)),(6,.d (.int .i64 k))]) (λk=>[(5,.tok (((xs.take k).map (- ·)).map dq).length 4)]) (λk=>k<=xs.length) (λk=>xs.length-k) 0 [] rfl (by omega) (λk A=>?_)
 refine By rfl (λh=>?_) λh=>?_<;>simp only[lq] at h
 . obtain⟨x,i⟩:=qat (l:=xs) (k:=k) (by omega)
   refine Ix k rfl (mp i)<|Ce rfl (R2.Neg_ok (j x (W0e i)) hp)<|ApG (((xs.take (k+1)).map (- ·)).map dq) rfl (by rw[W1c,i];simp) (by simp;omega) ?_
   refine Ar (k+1:Nat) rfl ?_
   exact Bk (k+1) [(20,5)] rfl (show k+1<=xs.length by omega) (by show xs.length-(k+1)<xs.length-k;omega)
 . exact Rw [(5,1000000)] [(1000000,.tok ((xs.map (- ·)).map dq).length 4)] rfl (.one (.rf rfl) rfl rfl) ⟨_,rfl,by rw[W0b (by omega)];rfl,rfl⟩ (by rw[W0b (by omega)];rfl)
theorem Neg_el{T:List (List Rat)}{k p:Nat}{a:Tow.El k}(h:k<=16)(ha:Ps p (toL k a))(hp:p<=8796093022208): C0 269 [.d (dts T),.d (de a)] (·=.d (de (Tow.neg k a))):=by
 have:=CG.data (Neg_ok (T:=T) (by rw[Xab];have:=p16 h;omega) ha hp)
 rwa[<-Xbw] at this
theorem Add_ok{T:List (List Rat)}{xs ys:List Rat}{p q:Nat}(B:xs.length=ys.length)(I:xs.length<=1073741824)(o:Ps p xs)(A:Ps q ys)(hp:p+q+1<=8796093022208): CG0 272 [.d (dts T),.d (dqs xs),.d (dqs ys)] 4 ((List.zipWith (·+·) xs ys).map dq):=by
 have M:(List.zipWith (·+·) xs ys).length=xs.length:=by simp;omega
 refine EnW Tryz.func272 λ_ _ _ _=>?_
 refine Nl 7 7 4 rfl ?_
 refine Lo (λk:Nat=>[(1,.d (dqs xs)),(2,.d (dqs ys)),(7,.gr 7 4 (((List.zipWith (·+·) xs ys).take k).map dq)),(8,.d (.int .i64 k))]) (λk=>[(7,.tok (((List.zipWith (·+·) xs ys).take k).map dq).length 4)]) (λk=>k<=xs.length) (λk=>xs.length-k) 0 [] rfl (by omega) (λk O=>?_)
 refine By rfl (λh=>?_) λh=>?_<;>simp only[lq] at h
 . obtain⟨x,i⟩:=qat (l:=xs) (k:=k) (by omega)
   obtain⟨y,j⟩:=qat (l:=ys) (k:=k) (by omega)
   refine Dw rfl<|Ix k rfl (mp i)<|Ix k rfl (mp j)<|Ce rfl (R2.Add_ok (o x (W0e i)) (A y (W0e j)) hp)<|ApG (((List.zipWith (·+·) xs ys).take (k+1)).map dq) rfl (by rw[W1c,W6p,i,j];simp) (by simp;omega) ?_
   refine Ar (k+1:Nat) rfl ?_
   exact Bk (k+1) [(26,7)] rfl (show k+1<=xs.length by omega) (by show xs.length-(k+1)<xs.length-k;omega)
 . exact Rw [(7,1000000)] [(1000000,.tok ((List.zipWith (·+·) xs ys).map dq).length 4)] rfl (.one (.rf rfl) rfl rfl) ⟨_,rfl,by rw[W0b (by omega)];rfl,rfl⟩ (by rw[W0b (by omega)];rfl)
theorem Add_el{T:List (List Rat)}{k p q:Nat}{a b:Tow.El k}(h:k<=16)(ha:Ps p (toL k a))(hb:Ps q (toL k b))(hp:p+q+1<=8796093022208): C0 272 [.d (dts T),.d (de a),.d (de b)] (·=.d (de (Tow.add k a b))):=by
 have:=CG.data (Add_ok (T:=T) (by rw[Xab,Xab]) (by rw[Xab];have:=p16 h;omega) ha hb hp)
 rwa[<-Xas] at this
theorem Sub_el{T:List (List Rat)}{k p q:Nat}{a b:Tow.El k}(h:k<=16)(ha:Ps p (toL k a))(hb:Sz q (toL k b))(hp:p+q+1<=8796093022208): C0 236 [.d (dts T),.d (de a),.d (de b)] (·=.d (de (Tow.add k a (Tow.neg k b)))):=by
 refine En Tryz.func236 λ_ _ _=>?_
 exact Ce rfl (Neg_el h hb.ps (by omega))<|Ce rfl (Add_el h ha (Xg0 hb).ps hp)<|R0
theorem Xjf{t:List (List Rat)}{x:Rat}(j:t.length<=16)(o:1<=t.length): CA0 237 [.d (dts t),.d (dq x)] 4 ((x::List.replicate (2^t.length-1) 0).map dq):=by
 have hp:=p16 j
 have A:2^1<=2^t.length:=Yfv o
 obtain⟨n,i⟩:∃n,n=2^t.length:=⟨_,rfl⟩
 rw[<-i] at hp A |-
 refine EnW Tryz.func237 λ_ _ _ _=>?_
 refine Lo (λk:Nat=>[(0,.d (dts t)),(3,.ptr 3 0),(5,match k with | 0=>.lit 4 [dq x] | k+1=>.own 5 4 0 (k+2))]) (λk=>match k with | 0=>[(3,.var (.d (dq x)))] | k+1=>[(5,.arr 4 ((x::List.replicate (k+1) (0:Rat)).map dq)),(3,.var (.d (dq x)))]) (λk=>k+1<=n) (λk=>n-k) 0 [] rfl (by omega) (λk B=>?_)
 cases k with
 | zero =>
  refine Ar n rfl ?_ (by rw[i];simp only[lt'];exact Xbo (by omega))
  refine Yes rfl (by simp only[W0j,W3e];omega)<|Ce rfl (R2.FromInt_ok (z:=0) (by decide))<|ApL ((x::List.replicate 1 0).map dq) rfl rfl (by decide) (by simp) ?_
  exact Bk 1 [(17,5)] rfl (show 1+1<=n by omega) (by show n-1<n-0;omega)
 | succ k =>
  refine Ar n rfl ?_ (by rw[i];simp only[lt'];exact Xbo (by omega))
  refine By rfl (λh=>?_) λh=>?_
  . refine Ce rfl (R2.FromInt_ok (z:=0) (by decide))<|ApO ((x::List.replicate (k+1+1) 0).map dq) rfl rfl (by simp) (by rw[W6t (n:=k+1)];simp) (by simp;omega) ?_
    exact Bk (k+1+1) [(17,5)] rfl (show k+1+1+1<=n by omega) (by show n-(k+1+1)<n-(k+1);omega) (by exact⟨by simp only[W0i,W0j,W1w];rfl,rfl,rfl,rfl,rfl⟩)
  . have e:n-1=k+1:=by omega
    exact Rw [(5,1000000)] [(1000000,.arr 4 ((x::List.replicate (n-1) (0:Rat)).map dq))] rfl (.one (.rf rfl) rfl rfl) ⟨_,rfl,by rw[e];simp;rfl,rfl⟩ (by rw[e];rfl)
theorem Xp9{x:Rat}: C0 237 [.d (dts []),.d (dq x)] (·=.lit 4 [dq x]):=by
 refine En Tryz.func237 λ_ _ _=>?_
 refine Lo (λ_:Unit=>[(0,.d (dts [])),(5,.lit 4 [dq x])]) (λ_=>[]) (λ_=>True) (λ_=>0) () [] rfl trivial λ_ _=>?_
 refine Ar (1:Nat) rfl ?_ (Xbo (k:=0) (by decide))
 exact No rfl (by simp only[W0j,W3e];omega)<|R0
theorem _root_.Go.Vm.C.lit{P:Program}[Gb P]{f:FuncId}{i:List AV}{sz:Nat}{xs:List D}(h:C P f i (·=.lit sz xs)): C P f i (·=.d (.sl sz xs)):=⟨h.1,λW j o ha=>(h.2 W j o ha).mono λe Q ⟨W',v,u,A,B,I,M,T,O⟩=>⟨W',_,u,A,B,I,Xhk (O ▸ M),λ_ h=>h.elim,rfl⟩⟩
theorem FromRat_ok{t:List (List Rat)}{x:Rat}(h:t.length<=16): C0 237 [.d (dts t),.d (dq x)] (·=.d (dqs (x::List.replicate (2^t.length-1) 0))):=by
 cases t with
 | nil=>exact C.lit Xp9
 | cons r t=>exact CA.data (Xjf h (by simp))
end Go.Proofs.YtcmjannkbdflmaaGreatDoor.R6

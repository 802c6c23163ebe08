/- part 3 -/
import Derived.Test.YtclmecgphleeeaaGreatDoorXB
import Derived.RangeFuncBox
import Derived.RangeFuncLeaves
import Derived.Shelf.Abstract
import Derived.WalkKit
import Derived.OwnWalkIn
import Derived.TacticsInMore
import Derived.LoopNIn
import Derived.LoopIn
set_option linter.unusedVariables false
set_option linter.unusedSimpArgs false
set_option maxRecDepth 10000
namespace Go.Proofs.YtclmecgphleeeaaGreatDoor
open Go Go.Vm Go.Num Go.Proofs
section
abbrev C0:=C Tryz.prog
abbrev CG0:=CG Tryz.prog
abbrev CA0:=CA Tryz.prog
abbrev CO0:=CO Tryz.prog
abbrev CN0:=CN Tryz.prog
abbrev CW0:=CW Tryz.prog
def wd (n : Nat) : D:=.int .u32 n
def ws (l : List Nat) : D:=.sl 1 (l.map wd)
def dS (b : Bool) (l : List Nat) : D:=.st (.pr (.bool b) (ws l))
theorem mp {α : Type} {l : List α} {f : α→D} {j : Nat} {u : α} (h : l[j]?=some u) : (l.map f)[j]?=some (f u):=by simp [h]
theorem ms {α : Type} {l : List α} {f : α→D} {j : Nat} {u : α} : (l.map f).set j (f u)=(l.set j u).map f:=by simp
theorem Xay {l : List Nat} (hw : Xao l) (hl : l.length≤1099511627776) : C0 68 [.d (ws l)] (·=.d (ws (dig (val l)))):=by
 refine En Tryz.func68 fun _ _ _=>?_
 refine Lo (fun k=>[(0,.d (ws (l.take k)))]) (fun _=>[]) (fun k=>k≤l.length∧val (l.take k)=val l) id l.length [] rfl ⟨W0a _,by rw [W2r]⟩ (fun k ⟨hk,hv⟩=>?_) (hf:=⟨by simp only [W2r];rfl,rfl,rfl,rfl,rfl⟩)
 refine By rfl (fun h=>?_) fun h=>?_ <;> simp only [W0n,W0j,W1q hk] at h
 · have hl : ((l.take k).map wd).length=k:=by simp;omega
   refine Ar (k - 1 : Nat) rfl ?_
   have hx:=W0d (l:=l) (i:=k - 1) (by omega)
   refine Ix (k - 1) rfl (u:=wd l[k - 1]) (mp (by rw [W1c,if_pos (by omega),hx])) ?_
   have hs:=Xac hx
   rw [show k - 1+1=k by omega,hv] at hs
   refine By rfl (fun h0=>?_) fun h0=>?_
   · refine Ar (k - 1 : Nat) rfl ?_
     refine Tk (k - 1) ((l.take (k - 1)).map wd) rfl rfl (by simp;omega) (by rw [←W2g,List.take_take,W1q (by omega)]) ?_
     exact Bk (k - 1) [] rfl ⟨by omega,by rw [hs,show l[k - 1]=0 by omega,W2x,W2i]⟩ (show k - 1<k by omega)
   · exact R1 rfl (.eq (by rw [←hv,Xcz (hw.take k) (.inr ⟨l[k - 1],by rw [W0j,W1q hk,W1c,if_pos (by omega),hx],fun e=>h0 (by rw [e];rfl)⟩)]))
 · refine R1 rfl (.eq ?_)
   rw [show k=0 by omega] at hv ⊢
   rw [←hv,W4y,val,Xaj]
theorem Xb4 {n : Nat} (h : n<18446744073709551616) : C0 113 [.d (.int .u64 n)] (·=.d (ws (dig n))):=by
 refine En Tryz.func113 fun _ _ _=>?_
 refine Go.Vm.Cv (n % 4294967296 : Nat) rfl ?_ (hr:=by rw [wWm];omega)
 refine Ar (n / 4294967296 : Nat) rfl ?_ (hr:=show _∧_ from ⟨by omega,Yev n⟩)
 refine Go.Vm.Cv (n / 4294967296 : Nat) rfl ?_
 refine Ce rfl (Xay (l:=[n % 4294967296,n / 4294967296]) (.cons (by omega) (.cons (by omega) .nil)) (by simp)) ?_
 exact R1 rfl (.eq (by rw [show val [n % 4294967296,n / 4294967296]=n by simp only [val];omega]))
theorem trim_dig_ok {n : Nat} (h : (dig n).length≤1099511627776) : C0 68 [.d (ws (dig n))] (·=.d (ws (dig n))):=by
 have:=Xay (Xad n) h
 rwa [Xaf] at this
theorem Xr4 {b : Bool} {n : Nat} (h : (dig n).length≤1099511627776) : C0 112 [.d (.bool b),.d (ws (dig n))] (·=.d (dS (b && n != 0) (dig n))):=by
 refine En Tryz.func112 fun _ _ _=>?_
 refine Ce rfl (trim_dig_ok h) ?_
 refine By rfl (fun h=>?_) fun h=>?_ <;> simp only [W0n] at h
 · have : n=0:=Xqt.1 (W0k (by omega))
   subst this
   exact R1 rfl (by exact .sd (.pd (.bd (by simp)) (.nil (by rw [Xaj];rfl))))
 · have : n≠0:=fun e=>h (by rw [e,Xaj];rfl)
   rw [show (b && n != 0)=b by simp [this]]
   exact R0
def dz (z : Int) : D:=dS (decide (z<0)) (dig z.natAbs)
def sg (neg : Bool) (n : Nat) : Int:=if neg then -(n : Int) else (n : Int)
theorem Xuy {p : Prop} [Decidable p] : dc p=decide p:=by rw [W5e,Xaw,decide_eq_true_iff]
instance {p : Prop} [Decidable p] : Dc (decide p) p:=⟨decide_eq_true_iff⟩
theorem Yg1 {b : Bool} {n : Nat} : dS (b && n != 0) (dig n)=dz (sg b n):=by
 unfold dz sg
 cases b with
 | true =>
  rw [if_pos rfl,W4s,W1j]
  congr 1
  rw [W5e];simp;omega
 | false=>rw [if_neg (by decide),W1j];congr 1
theorem Xai {b : Bool} {n : Nat} (h : (dig n).length≤1099511627776) : C0 112 [.d (.bool b),.d (ws (dig n))] (·=.d (dz (sg b n))):=by
 have:=Xr4 (b:=b) h
 rwa [Yg1] at this
theorem Xok (z : Int) : sg (decide (z<0)) z.natAbs=z:=by
 unfold sg;by_cases h : z<0
 · rw [if_pos (decide_eq_true h)];omega
 · rw [if_neg (by rw [decide_eq_true_eq];exact h)];omega
theorem FromInt_ok {z : Int} (h : -9223372036854775808≤z∧z<9223372036854775808) : C0 52 [.d (.int .i64 z)] (·=.d (dz z)):=by
 have hl : (dig z.natAbs).length≤2:=Xan (by omega)
 refine En Tryz.func52 fun _ _ _=>?_
 refine Go.Vm.Cv (z % 18446744073709551616) rfl ?_ (hr:=wUm _)
 refine By rfl (fun h=>?_) fun h=>?_
 · refine Ne (z.natAbs : Int) rfl ?_ (hr:=by rw [wUm];omega)
   refine Ce rfl (Xb4 (n:=z.natAbs) (by omega)) ?_
   refine Ce rfl (Xai (n:=z.natAbs) (by omega)) ?_
   exact R1 rfl (.eq (by rw [Xuy,Xok]))
 · refine Ce (r:=.d (ws (dig z.natAbs))) rfl (by have:=Xb4 (n:=z.natAbs) (by omega);rwa [show ((z.natAbs : Nat) : Int)=z % 18446744073709551616 by omega] at this) ?_
   refine Ce rfl (Xai (n:=z.natAbs) (by omega)) ?_
   exact R1 rfl (.eq (by rw [Xuy,Xok]))
end
section
theorem ww {l : List Nat} {j : Nat} {u : Nat} (h : l[j]?=some u) (hw : Xao l) : u<4294967296:=hw u (W0l h)
theorem xat {l : List Nat} {k : Nat} (h : k<l.length) : ∃ x,l[k]?=some x:=⟨_,W0d h⟩
theorem Xgy {k : IntKind} {s n : Nat} (hn : n≤k.bits) : arB .shr k s n (s / 2 ^ n : Nat):=by
 refine ⟨by omega,?_⟩
 rw [W7f,W1q hn,show (2 : Int) ^ n=((2 ^ n : Nat) : Int) by rw [W7o];rfl,W1n _ (W5p _)]
 rfl
theorem Xg8 {x y : Nat} (hx : (dig x).length≤1099511627775) (hy : (dig y).length≤1099511627775) : C0 151 [.d (ws (dig x)),.d (ws (dig y))] (·=.d (ws (dig (x+y)))):=by
 refine En Tryz.func151 fun _ _ _=>?_
 refine Cu none (fun (a,b)=>[(0,.d (ws (dig a))),(1,.d (ws (dig b)))]) (fun _=>[]) (fun (a,b)=>a+b=x+y∧(dig b).length≤(dig a).length∧(dig a).length≤1099511627775) rfl ?_ fun ⟨a,b⟩ ⟨hs,hle,hbig⟩=>?_
 · refine By rfl (fun h=>?_) fun h=>?_ <;> simp only [W0n] at h
   · exact Jn (y,x) [] rfl ⟨Nat.add_comm _ _,by omega,hy⟩
   · exact Jn (x,y) [] rfl ⟨rfl,by omega,hx⟩
 refine Ar ((dig a).length+1) rfl ?_ (wr (by simp) (by simp only [inK];omega))
 refine Mk 0 rfl (by omega) ?_
 refine Lo (fun (k,lo,cr)=>[(1,.d (ws (dig b))),(5,.own 19 1 0 k),(6,.d (.int .u64 (cr : Nat))),(20,.d (ws (dig a))),(21,.d (.int .i64 (dig a).length)),(22,.d (.int .i64 (k : Nat)))]) (fun (_,lo,_)=>[(19,.arr 1 (lo.map wd))])
  (fun (k,lo,cr)=>k≤(dig a).length∧lo.length=k∧Xao lo∧cr≤1∧val lo+4294967296 ^ k*cr=val ((dig a).take k)+val ((dig b).take k)) (fun (k,_,_)=>(dig a).length - k) (0,[],0) [] rfl ⟨by omega,rfl,.nil,by omega,by simp [val]⟩ ?_ (by exact ⟨by simp only [ws,W0n];rfl,rfl,rfl,rfl,rfl⟩)
 rintro ⟨k,lo,cr⟩ ⟨hk,hl,hw,hcr,hval⟩
 refine By rfl (fun h=>?_) fun h=>?_
 · obtain ⟨u,hu⟩:=xat (l:=dig a) (k:=k) (by omega)
   have hub:=ww hu (Xad a)
   refine Ix k rfl (mp hu) ?_
   refine Go.Vm.Cv u rfl ?_
   refine Ar (cr+u : Nat) rfl ?_
   refine Cu none (fun (s : Nat)=>[(1,.d (ws (dig b))),(5,.own 19 1 0 k),(6,.d (.int .u64 s)),(20,.d (ws (dig a))),(21,.d (.int .i64 (dig a).length)),(22,.d (.int .i64 k))]) (fun _=>[(19,.arr 1 (lo.map wd))])
    (fun s=>s<8589934592∧4294967296 ^ k*s+val lo=val ((dig a).take (k+1))+val ((dig b).take (k+1))) rfl ?_ fun s ⟨hs8,hsv⟩=>?_
   · refine By rfl (fun h2=>?_) fun h2=>?_ <;> simp only [W0n] at h2
     · obtain ⟨u2,hu2⟩:=xat (l:=dig b) (k:=k) (by omega)
       have hub2:=ww hu2 (Xad b)
       refine Ix k rfl (mp hu2) ?_
       refine Go.Vm.Cv u2 rfl ?_
       refine Ar (cr+u+u2 : Nat) rfl ?_
       exact Jn (cr+u+u2) [] rfl ⟨by omega,by rw [Xac hu,Xac hu2,W0w,W0w];omega⟩
     · exact Jn (cr+u) [] rfl ⟨by omega,by rw [Xac hu,Xfj (l:=dig b) (by omega),W0w];omega⟩
   refine Go.Vm.Cv (s % 4294967296 : Nat) rfl ?_ (by rw [wWm];omega)
   refine ApO ((lo++[s % 4294967296]).map wd) rfl rfl (by simp [hl]) (by simp;rfl) (by simp;omega) ?_
   refine Ar (s / 4294967296 : Nat) rfl ?_ (Xgy (n:=32) (by decide))
   refine Ar (k+1 : Nat) rfl ?_
   refine Bk (k+1,lo++[s % 4294967296],s / 4294967296) [(46,19)] rfl ⟨by show k+1≤_;omega,by simp [hl],hw.app (.cons (by omega) .nil),by show s / 4294967296≤1;omega,?_⟩ (by show _ - (k+1)<_ - k;omega) (by exact ⟨by simp [hl];rfl,rfl,rfl,rfl,rfl⟩)
   rw [Xcd,hl,←hsv,W0p,W0o]
   have e2 : 4294967296 ^ k*s=4294967296 ^ k*(s % 4294967296)+4294967296 ^ k*(4294967296*(s / 4294967296)):=by rw [←W0w];congr 1;omega
   simp only [val,W2x,W2i]
   omega
 · have hkn : k=(dig a).length:=by omega
   have hfin : val lo+4294967296 ^ k*cr=x+y:=by rw [hval,W0b (by omega),W0b (by omega),Xaf,Xaf,hs]
   refine By rfl (fun h=>?_) fun h=>?_
   · refine Go.Vm.Cv cr rfl ?_
     refine ApO ((lo++[cr]).map wd) rfl rfl (by simp [hl]) (by simp;rfl) (by simp;omega) ?_
     refine R1 rfl (.own rfl (by simp) ?_)
     have e : val (lo++[cr])=val lo+4294967296 ^ k*cr:=by rw [Xcd,hl];simp [val]
     rw [W1f,W2r,←hfin,←e,Xcz (hw.app (.cons (by omega) .nil)) (.inr ⟨cr,by simp,by omega⟩)]
   · have hc0 : cr=0:=by omega
     subst hc0
     refine R1 rfl (.own rfl (by simp [hl]) ?_)
     rw [W1f,W0b (by simp [hl]),←hfin,W2x,W2i,Xcz hw]
     rcases W2n k with hk0 | hk0
     · exact .inl (W0k (by rw [hl];exact hk0))
     · have ha : a≠0:=fun hh=>by rw [hh,Xaj] at hkn;simp at hkn;omega
       have hlb:=Xlq ha
       refine Xew hw (by omega) ?_
       rw [hl,hkn]
       have hab : a≤x+y:=by omega
       rw [←hkn] at hlb ⊢
       omega
theorem oa {l : List Nat} {n : Nat} (h : l.length=n) : ((l.map wd).drop 0).take n=l.map wd:=by rw [W1f,W0b (by simp [h])]
theorem lw (l : List Nat) : (l.map wd).length=l.length:=W0n ..
theorem Xdh {x y : Nat} (hx : (dig x).length≤1099511627776) (hle : y≤x) : C0 153 [.d (ws (dig x)),.d (ws (dig y))] (·=.d (ws (dig (x - y)))):=by
 have hll:=Xar hle
 refine En Tryz.func153 fun _ _ _=>?_
 refine Mk (dig x).length rfl (by simp only [lw];omega) ?_ (by simp only [lw])
 refine Lo (fun (k,lo,br)=>[(1,.d (ws (dig y))),(5,.own 12 1 0 (dig x).length),(6,.d (.int .u64 (br : Nat))),(13,.d (ws (dig x))),(14,.d (.int .i64 (dig x).length)),(15,.d (.int .i64 (k : Nat)))]) (fun (_,lo,_)=>[(12,.arr 1 (lo.map wd))])
  (fun (k,lo,br)=>k≤(dig x).length∧lo.length=(dig x).length∧Xao lo∧br≤1∧val (lo.take k)+val ((dig y).take k)+4294967296 ^ k*0=val ((dig x).take k)+4294967296 ^ k*br) (fun (k,_,_)=>(dig x).length - k) (0,List.replicate (dig x).length 0,0) [] rfl
  ⟨by omega,by simp,fun _ h=>by rw [(W5q.1 h).2];omega,by omega,by simp [val]⟩ ?_ (by exact ⟨by simp only [lw,ws];rfl,by simp only [W2e];rfl,rfl,rfl,rfl⟩)
 rintro ⟨k,lo,br⟩ ⟨hk,hl,hw,hbr,hval⟩
 rw [W2x,W2i] at hval
 refine By rfl (fun h=>?_) fun h=>?_
 · obtain ⟨u,hu⟩:=xat (l:=dig x) (k:=k) (by omega)
   have hub:=ww hu (Xad x)
   refine Ix k rfl (mp hu) ?_
   refine Go.Vm.Cv u rfl ?_
   refine Ar ((u+18446744073709551616 - br) % 18446744073709551616 : Nat) rfl ?_ (by show _=_;rw [wUm];omega)
   refine Cu none (fun (s : Nat)=>[(1,.d (ws (dig y))),(5,.own 12 1 0 (dig x).length),(7,.d (.int .i64 k)),(9,.d (.int .u64 s)),(13,.d (ws (dig x))),(14,.d (.int .i64 (dig x).length)),(15,.d (.int .i64 k))]) (fun _=>[(12,.arr 1 (lo.map wd))])
    (fun s=>s<18446744073709551616∧s / 9223372036854775808≤1∧∃ v,s % 4294967296+v+br=u+4294967296*(s / 9223372036854775808)∧val ((dig y).take (k+1))=val ((dig y).take k)+4294967296 ^ k*v) rfl ?_ fun s ⟨hs,hs2,v,hsv,hyv⟩=>?_
   · refine By rfl (fun h2=>?_) fun h2=>?_ <;> simp only [lw] at h2
     · obtain ⟨u2,hu2⟩:=xat (l:=dig y) (k:=k) (by omega)
       have hub2:=ww hu2 (Xad y)
       refine Ix k rfl (mp hu2) ?_
       refine Go.Vm.Cv u2 rfl ?_
       refine Ar ((u+18446744073709551616 - br+18446744073709551616 - u2) % 18446744073709551616 : Nat) rfl ?_ (by show _=_;rw [wUm];omega)
       exact Jn ((u+18446744073709551616 - br+18446744073709551616 - u2) % 18446744073709551616) [] rfl ⟨by omega,by omega,u2,by omega,Xac hu2⟩
     · exact Jn ((u+18446744073709551616 - br) % 18446744073709551616) [] rfl ⟨by omega,by omega,0,by omega,by rw [Xfj (by omega)];rfl⟩
   refine Go.Vm.Cv (s % 4294967296 : Nat) rfl ?_ (by rw [wWm];omega)
   refine Eo k rfl (by omega) ?_
   refine Sto rfl (by simp only [lw];omega) ms ?_
   refine Ar (s / 9223372036854775808 : Nat) rfl ?_ (Xgy (n:=63) (by decide))
   refine Ar (k+1 : Nat) rfl ?_
   refine Bk (k+1,lo.set k (s % 4294967296),s / 9223372036854775808) [] rfl ⟨by omega,by simp [hl],fun x hx=>(W5c hx).elim (hw x) fun e=>by rw [e];omega,by omega,?_⟩ (by show _ - (k+1)<_ - k;omega)
   rw [W2x,W2i,Xa8 (by omega),hyv,Xac hu,W0p,W0o]
   have e : 4294967296 ^ k*(s % 4294967296+v+br)=4294967296 ^ k*(u+4294967296*(s / 9223372036854775808)):=by rw [hsv]
   simp only [W0w] at e
   omega
 · have hkn : k=(dig x).length:=by omega
   rw [hkn,W0b (by omega),W0b (by omega),W0b (by omega),Xaf,Xaf] at hval
   have hvl:=Xbq hw
   rw [hl] at hvl
   have hbr0 : br=0:=by
    rcases W2n br with h0 | h0
    · exact h0
    · have h1 : 4294967296 ^ (dig x).length*1≤4294967296 ^ (dig x).length*br:=W0m _ h0
      omega
   rw [hbr0,W2x] at hval
   refine Fz 12 5 (lo.map wd) rfl (by simp only [lw];omega) (oa hl) ?_
   refine Ce rfl (Xay hw (by omega)) ?_
   exact R1 rfl (.eq (by rw [show val lo=x - y by omega]))
theorem Xdn {a : Int} : C0 252 [.d (.int .i64 a)] (·=.b false):=by
 refine En Tryz.func252 fun _ _ _=>?_
 exact R1 rfl (by exact (show dc (a≠a)=false by rw [W6k];intro h;exact Xaw.1 h rfl) ▸ .rf rfl)
theorem Xdm {a : Int} : C0 253 [.d (.int .u32 a)] (·=.b false):=by
 refine En Tryz.func253 fun _ _ _=>?_
 exact R1 rfl (by exact (show dc (a≠a)=false by rw [W6k];intro h;exact Xaw.1 h rfl) ▸ .rf rfl)
theorem Xcs {a b : Int} : C0 208 [.d (.int .i64 a),.d (.int .i64 b)] (·=.d (.int .i64 (Xa1 a b))):=by
 refine En Tryz.func208 fun _ _ _=>?_
 refine Ce rfl Xdn ?_
 refine Ce rfl Xdn ?_
 refine No rfl nofun ?_
 refine No rfl nofun ?_
 refine By rfl (fun h=>?_) fun h=>?_
 · exact R1 rfl (.eq (by rw [Xa1,if_pos h]))
 · refine By rfl (fun h1=>?_) fun h1=>?_
   · exact R1 rfl (.eq (by rw [Xa1,if_neg h,if_pos h1]))
   · exact R1 rfl (.eq (by rw [Xa1,if_neg h,if_neg h1]))
theorem Xfc {a b : Int} : C0 209 [.d (.int .u32 a),.d (.int .u32 b)] (·=.d (.int .i64 (Xa1 a b))):=by
 refine En Tryz.func209 fun _ _ _=>?_
 refine Ce rfl Xdm ?_
 refine Ce rfl Xdm ?_
 refine No rfl nofun ?_
 refine No rfl nofun ?_
 refine By rfl (fun h=>?_) fun h=>?_
 · exact R1 rfl (.eq (by rw [Xa1,if_pos h]))
 · refine By rfl (fun h1=>?_) fun h1=>?_
   · exact R1 rfl (.eq (by rw [Xa1,if_neg h,if_pos h1]))
   · exact R1 rfl (.eq (by rw [Xa1,if_neg h,if_neg h1]))
theorem Xbv {x y : Nat} (hx : (dig x).length≤1099511627776) : C0 152 [.d (ws (dig x)),.d (ws (dig y))] (·=.d (.int .i64 (Xa1 x y))):=by
 refine En Tryz.func152 fun _ _ _=>?_
 refine By rfl (fun h=>?_) fun h=>?_ <;> simp only [lw] at h
 · refine Ce rfl Xcs ?_
   refine R1 rfl (.eq ?_)
   simp only [lw]
   congr 1
   have hne : (dig x).length≠(dig y).length:=by omega
   rcases Nat.lt_or_gt_of_ne hne with hl | hl
   · have:=Xc4 hl
     rw [Xa1,Xa1,if_pos (by omega),if_pos (by omega)]
   · have:=Xc4 hl
     rw [Xa1,Xa1,if_neg (by omega),if_pos (by omega),if_neg (by omega),if_pos (by omega)]
 · refine Ar ((dig x).length - 1 : Int) rfl ?_ (wr (by simp only [lw]) (by simp only [inK];omega))
   refine Lo (fun (k : Nat)=>[(0,.d (ws (dig x))),(1,.d (ws (dig y))),(5,.d (.int .i64 ((k : Int) - 1)))]) (fun _=>[]) (fun k=>k≤(dig x).length∧(dig x).drop k=(dig y).drop k) (fun k=>k) (dig x).length [] rfl ⟨by omega,by rw [W1z (by omega),W1z (by omega)]⟩ fun k ⟨hk,hd⟩=>?_
   refine By rfl (fun h1=>?_) fun h1=>?_
   · obtain ⟨u,hu⟩:=xat (l:=dig x) (k:=k - 1) (by omega)
     obtain ⟨v,hv⟩:=xat (l:=dig y) (k:=k - 1) (by omega)
     refine Dw rfl ?_
     refine Ix (k - 1) rfl (mp hu) ?_
     refine Ix (k - 1) rfl (mp hv) ?_
     refine By rfl (fun h2=>?_) fun h2=>?_
     · refine Dw rfl ?_
       refine Ix (k - 1) rfl (mp hu) ?_
       refine Ix (k - 1) rfl (mp hv) ?_
       refine Ce rfl Xfc ?_
       refine R1 rfl (.eq ?_)
       congr 1
       have hne : u≠v:=by omega
       have hd' : (dig x).drop (k - 1+1)=(dig y).drop (k - 1+1):=by rw [show k - 1+1=k from by omega];exact hd
       rcases Nat.lt_or_gt_of_ne hne with hl | hl
       · have:=Xim (Xad x) (by omega) (by omega) hu hv hd' hl
         rw [Xaf,Xaf] at this
         rw [Xa1,Xa1,if_pos (by omega),if_pos (by omega)]
       · have:=Xim (Xad y) (by omega) (by omega) hv hu hd'.symm hl
         rw [Xaf,Xaf] at this
         rw [Xa1,Xa1,if_neg (by omega),if_pos (by omega),if_neg (by omega),if_pos (by omega)]
     · refine Ar ((k - 1 : Nat) - 1 : Int) rfl ?_
       refine Bk (k - 1) [] rfl ⟨by omega,?_⟩ (by show k - 1<k;omega)
       have huv : u=v:=by omega
       rw [W3c (l:=dig x) (i:=k - 1) (by omega),W3c (l:=dig y) (i:=k - 1) (by omega),show k - 1+1=k from by omega,hd]
       rw [W0d (by omega)] at hu hv
       injection hu with hu
       injection hv with hv
       rw [hu,hv,huv]
   · have hk0 : k=0:=by omega
     rw [hk0,W1f,W1f] at hd
     have hxy : x=y:=by rw [←Xaf x,hd,Xaf]
     exact R1 rfl (.eq (by rw [hxy,Xa1,if_neg (by omega),if_neg (by omega)]))
end
section
theorem Yj9 {a b n : Nat} (ha : a<2 ^ n) (hb : b<2 ^ n) : (BitVec.ofInt n (a : Int) ||| BitVec.ofInt n (b : Int)).toNat=a ||| b:=by
 simp [BitVec.toNat_or,BitVec.toNat_ofInt]
 rw [W3u ha,W3u hb]
theorem Yh9 {a b r : Nat} (ha : a<4294967296) (hb : b<4294967296) (h : a ||| b=r) (hr : r<4294967296) : arB .or .u32 a b r:=by
 show IntKind.u32.wrap _=_
 rw [show IntKind.bits .u32=32 from rfl,Yj9 ha hb,h]
 exact wW (by omega)
theorem Xzi {a b r : Nat} (ha : a<18446744073709551616) (hb : b<18446744073709551616) (h : a ||| b=r) (hr : r<18446744073709551616) : arB .or .u64 a b r:=by
 show IntKind.u64.wrap _=_
 rw [show IntKind.bits .u64=64 from rfl,Yj9 ha hb,h]
 exact wU (by omega)
theorem Xgz {u n r : Nat} (h : u*2 ^ n=r) (hr : r<18446744073709551616) (hn : n≤64) : arB .shl .u64 u n r:=⟨by omega,by subst h;exact Yew hr hn⟩
theorem Xbk {l : List Nat} (hl : l.length≤1099511627776) : C0 67 [.d (ws l)] (·=.d (ws l)):=by
 refine En Tryz.func67 fun _ _ _=>?_
 refine Ub rfl (fun h=>?_) ?_
 · exact R1 rfl (.nil h)
 · by_cases h : l=[]
   · subst h
     refine ApE rfl rfl (by decide) ?_
     exact R1 rfl (.lit rfl)
   · have h0:=W5k.2 h
     refine ApL (l.map wd) rfl rfl (by simpa using h0) (by simpa using hl) ?_
     exact R1 rfl (.own rfl (by simp) (by simp only [W1f];exact W0b (by simp)))
theorem Xi9 {x y : Nat} (hx : (dig x).length≤549755813888) (hy : (dig y).length≤549755813888) : C0 154 [.d (ws (dig x)),.d (ws (dig y))] (·=.d (ws (dig (x*y)))):=by
 have hz : ∀ {x : Nat},(dig x).length=0→x=0:=fun h=>Xqt.1 (W0k h)
 refine En Tryz.func154 fun _ _ _=>?_
 refine By rfl (fun h=>?_) fun h=>?_ <;> simp only [lw] at h
 · exact R1 rfl (.nil (by rw [hz (by omega : (dig x).length=0),W4v,Xaj];rfl))
 refine By rfl (fun h=>?_) fun h=>?_ <;> simp only [lw] at h
 · exact R1 rfl (.nil (by rw [hz (by omega : (dig y).length=0),W2x,Xaj];rfl))
 refine Ar ((dig x).length+(dig y).length : Nat) rfl ?_ (wr (by simp only [lw];omega) (by simp only [inK];omega))
 refine Mk ((dig x).length+(dig y).length) rfl (by omega) ?_
 refine Lo (fun (i,lo)=>[(1,.d (ws (dig y))),(5,.own 24 1 0 ((dig x).length+(dig y).length)),(25,.d (ws (dig x))),(26,.d (.int .i64 (dig x).length)),(27,.d (.int .i64 (i : Nat)))]) (fun (_,lo)=>[(24,.arr 1 (lo.map wd))])
  (fun (i,lo)=>i≤(dig x).length∧lo.length=(dig x).length+(dig y).length∧Xao lo∧val (lo.take (i+(dig y).length))=val ((dig x).take i)*y∧∀ j,i+(dig y).length≤j→j<(dig x).length+(dig y).length→lo[j]?=some 0) (fun (i,_)=>(dig x).length - i)
  (0,List.replicate ((dig x).length+(dig y).length) 0) [] rfl ⟨by omega,by simp,fun _ h=>by rw [(W5q.1 h).2];omega,by rw [W5l,Xbp];simp [val],fun j _ h=>by rw [W4t,if_pos h]⟩ ?_ (by exact ⟨by simp only [lw,ws];rfl,by simp only [W2e];rfl,rfl,rfl,rfl⟩)
 rintro ⟨i,lo0⟩ ⟨hi,hl0,hw0,hval,hz0⟩
 refine By rfl (fun h=>?_) fun h=>?_
 · obtain ⟨u,hu⟩:=xat (l:=dig x) (k:=i) (by omega)
   have hub:=ww hu (Xad x)
   refine Ix i rfl (mp hu) ?_
   refine Lo (fun (k,lo,cr)=>[(1,.d (ws (dig y))),(5,.own 24 1 0 ((dig x).length+(dig y).length)),(6,.d (.int .i64 i)),(7,.d (.int .u32 u)),(8,.d (.int .u64 (cr : Nat))),(25,.d (ws (dig x))),(26,.d (.int .i64 (dig x).length)),(27,.d (.int .i64 i)),(32,.d (ws (dig y))),(33,.d (.int .i64 (dig y).length)),(34,.d (.int .i64 (k : Nat)))]) (fun (_,lo,_)=>[(24,.arr 1 (lo.map wd))])
    (fun (k,lo,cr)=>k≤(dig y).length∧lo.length=(dig x).length+(dig y).length∧Xao lo∧cr<4294967296∧(∀ j,i+k≤j→lo[j]?=lo0[j]?)∧val (lo.take (i+k))+4294967296 ^ (i+k)*cr=val (lo0.take (i+k))+4294967296 ^ i*(u*val ((dig y).take k))) (fun (k,_,_)=>(dig y).length - k)
    (0,lo0,0) [] rfl ⟨by omega,hl0,hw0,by omega,fun _ _=>rfl,by simp [val]⟩ ?_ (by exact ⟨by simp only [lw,ws];rfl,rfl,rfl,rfl,rfl⟩)
   rintro ⟨k,lo,cr⟩ ⟨hk,hl,hw,hcr,hrest,hval2⟩
   refine By rfl (fun h=>?_) fun h=>?_
   · obtain ⟨v,hv⟩:=xat (l:=dig y) (k:=k) (by omega)
     have hvb:=ww hv (Xad y)
     obtain ⟨w,hw1⟩:=xat (l:=lo) (k:=i+k) (by omega)
     have hwb:=ww hw1 hw
     have huv : u*v≤4294967295*4294967295:=W2a (by omega) (by omega)
     refine Ix k rfl (mp hv) ?_
     refine Go.Vm.Cv u rfl ?_
     refine Go.Vm.Cv v rfl ?_
     refine Ar (u*v : Nat) rfl ?_ (wr (W3b ..).symm (by simp only [inK];omega))
     refine Ar (i+k : Nat) rfl ?_
     refine Eo (i+k) rfl (by omega) ?_
     refine Ld (wd w) rfl (mp hw1) ?_
     refine Go.Vm.Cv w rfl ?_
     refine Ar (u*v+w : Nat) rfl ?_
     obtain ⟨s,hs⟩ : ∃ s,s=cr+(u*v+w):=⟨_,rfl⟩
     have hs2 : s<18446744073709551616:=by omega
     refine Ar (s : Nat) rfl ?_
     refine Ar (i+k : Nat) rfl ?_
     refine Go.Vm.Cv (s % 4294967296 : Nat) rfl ?_ (by rw [wWm];omega)
     refine Eo (i+k) rfl (by omega) ?_
     refine Sto rfl (by simp only [lw];omega) ms ?_
     refine Ar (s / 4294967296 : Nat) rfl ?_ (Xgy (n:=32) (by decide))
     refine Ar (k+1 : Nat) rfl ?_
     refine Bk (k+1,lo.set (i+k) (s % 4294967296),s / 4294967296) [] rfl ⟨by omega,by simp [hl],fun x hx=>(W5c hx).elim (hw x) fun e=>by rw [e];omega,by omega,fun j hj=>by rw [W1v (by omega)];exact hrest j (by omega),?_⟩ (by show _ - (k+1)<_ - k;omega)
     have hw0' : lo0[i+k]?=some w:=by rw [←hrest (i+k) (W0a _)];exact hw1
     rw [←W4p,Xa8 (by omega),Xac hw0',Xac hv,W0p,W0o,W0w u,W0w (4294967296 ^ i)]
     have e : 4294967296 ^ (i+k)*s=4294967296 ^ (i+k)*(s % 4294967296)+4294967296 ^ (i+k)*(4294967296*(s / 4294967296)):=by rw [←W0w];congr 1;omega
     have e2 : 4294967296 ^ (i+k)*s=4294967296 ^ (i+k)*cr+4294967296 ^ i*(u*(4294967296 ^ k*v))+4294967296 ^ (i+k)*w:=by
      rw [hs,W0w,W0w,W0v]
      have : 4294967296 ^ i*4294967296 ^ k*(u*v)=4294967296 ^ i*(u*(4294967296 ^ k*v)):=by
       rw [W0o,W4l (4294967296 ^ k) u v]
      omega
     omega
   · have hkm : k=(dig y).length:=by omega
     subst hkm
     refine Ar (i+(dig y).length : Nat) rfl ?_ (wr (by simp only [lw];omega) (by simp only [inK];omega))
     refine Go.Vm.Cv cr rfl ?_
     refine Eo (i+(dig y).length) rfl (by omega) ?_
     refine Sto rfl (by simp only [lw];omega) ms ?_
     refine Ar (i+1 : Nat) rfl ?_
     refine Bk (i+1,lo.set (i+(dig y).length) cr) [] rfl ⟨by omega,by simp [hl],fun x hx=>(W5c hx).elim (hw x) fun e=>by rw [e];omega,?_,fun j h1 h2=>by rw [W1v (by omega),hrest j (by omega)];exact hz0 j (by omega) h2⟩ (by show _ - (i+1)<_ - i;omega)
     rw [show i+1+(dig y).length=i+(dig y).length+1 from by omega,Xa8 (by omega),Xac hu,hval2,hval,W0b (l:=dig y) (by omega),Xaf,W1g,W0o]
 · have him : i=(dig x).length:=by omega
   rw [him,W0b (by omega),W0b (by omega),Xaf] at hval
   refine Fz 17 5 (lo0.map wd) rfl (by simp only [lw];omega) (oa hl0) ?_
   refine Ce rfl (Xay hw0 (by omega)) ?_
   exact R1 rfl (.eq (by rw [hval]))
end
section
theorem Xfs {l : List Nat} {k d : Nat} (h : Xao l) (hd : d<4294967296) : Xao (l.set k d):=fun x hx=>(W5c hx).elim (h x) fun e=>by rw [e];exact hd
theorem Xer (n : Nat) : Xao (List.replicate n 0):=fun _ h=>by rw [(W5q.1 h).2];omega
theorem Xy3 {u n : Nat} (hu : u<4294967296) (hn : n<32) : u*2 ^ n<9223372036854775808:=by
 have h1 : 2 ^ n≤2 ^ 31:=W0h (by decide) (by omega)
 have h2 : u*2 ^ n≤4294967295*2 ^ 31:=W2a (by omega) h1
 omega
theorem Xku {u v n : Nat} (hu : u<4294967296) (hn : n<32) : (u / 2 ^ n) ||| (v*2 ^ (32 - n) % 4294967296)=u / 2 ^ n+(v % 2 ^ n)*2 ^ (32 - n)∧u / 2 ^ n+(v % 2 ^ n)*2 ^ (32 - n)<4294967296:=by
 have h1:=Xdg v (32 - n) (by omega)
 rw [show 32 - (32 - n)=n from by omega] at h1
 have hd : u / 2 ^ n<2 ^ (32 - n):=by
  rw [W2m (W0t n),←W0v,show 32 - n+n=32 from by omega]
  exact hu
 rw [h1,Nat.or_comm,Xc2 _ _ _ hd,Nat.add_comm]
 refine ⟨rfl,?_⟩
 have h2 : v % 2 ^ n+1≤2 ^ n:=W1r _ (W0t _)
 have h3:=W1b (2 ^ (32 - n)) h2
 rw [←W0v,show n+(32 - n)=32 from by omega,W3a] at h3
 omega
theorem Xoe {a b u v n m P : Nat} (hn : n<32) (h : a*2 ^ n+b=P+4294967296 ^ m*(u % 2 ^ n)) :
 (a+4294967296 ^ m*(u / 2 ^ n+(v % 2 ^ n)*2 ^ (32 - n)))*2 ^ n+b=P+4294967296 ^ m*u+4294967296 ^ (m+1)*(v % 2 ^ n):=by
 have hB : 4294967296 ^ (m+1)=4294967296 ^ m*4294967296:=W0p ..
 have e2 : v % 2 ^ n*2 ^ (32 - n)*2 ^ n=4294967296*(v % 2 ^ n):=by
  rw [W0o,←W0v,show 32 - n+n=32 from by omega,W1e]
 rw [W1g,W0o (4294967296 ^ m),W1g (u / 2 ^ n),e2,hB,W0o (4294967296 ^ m),W0w (4294967296 ^ m)]
 have e : 4294967296 ^ m*u=4294967296 ^ m*(u / 2 ^ n*2 ^ n)+4294967296 ^ m*(u % 2 ^ n):=by
  rw [←W0w];congr 1;rw [W1e (u / 2 ^ n)];exact (W2j ..).symm
 omega
theorem Xfv {n x : Nat} (hx : (dig x).length≤549755813888) (hn32 : n<32) : CO0 256 [.d (ws (dig x)),.d (.int .i64 n)] fun v ob=>∃ l,l.length=(dig x).length+1∧Xao l∧val l=x*2 ^ n∧v=.own 1000000 1 0 l.length∧ob=.arr 1 (l.map wd):=by
 have hp:=W0t n
 have hp32 : 2 ^ n≤2147483648:=by have : 2 ^ n≤2 ^ 31:=W0h (by decide) (by omega);omega
 refine EnW Tryz.func256 fun _ _ _ _=>?_
 refine Ar ((dig x).length+1 : Nat) rfl ?_ (wr (by simp only [lw];omega) (by simp only [inK];omega))
 refine Mk ((dig x).length+1) rfl (by omega) ?_
 refine Lo (fun (i,lo)=>[(1,.d (.int .i64 n)),(5,.own 12 1 0 ((dig x).length+1)),(13,.d (ws (dig x))),(14,.d (.int .i64 (dig x).length)),(15,.d (.int .i64 (i : Nat)))]) (fun (_,lo)=>[(12,.arr 1 (lo.map wd))])
  (fun (i,lo)=>i≤(dig x).length∧lo.length=(dig x).length+1∧Xao lo∧val (lo.take (i+1))=val ((dig x).take i)*2 ^ n∧∃ w,lo[i]?=some w∧w<2 ^ n) (fun (i,_)=>(dig x).length - i) (0,List.replicate ((dig x).length+1) 0) [] rfl
  ⟨by omega,by simp,Xer _,by rw [W5l,Xbp];simp [val],0,by simp,hp⟩ ?_ (by exact ⟨by simp only [lw,ws];rfl,by simp only [W2e];rfl,rfl,rfl,rfl⟩)
 rintro ⟨i,lo⟩ ⟨hi,hl,hwo,hval,w,hw,hwn⟩
 refine By rfl (fun h=>?_) fun h=>?_
 · obtain ⟨u,hu⟩:=xat (l:=dig x) (k:=i) (by omega)
   have hub:=ww hu (Xad x)
   have hs1:=Xy3 hub hn32
   have hs2:=Xdg u n (by omega)
   obtain ⟨s,hs⟩ : ∃ s,s=u*2 ^ n:=⟨_,rfl⟩
   have hshl:=Xgz hs.symm (by omega) (by omega : n≤64)
   rw [←hs] at hs1 hs2
   have hor : w ||| s % 4294967296=s % 4294967296+w:=by rw [Nat.or_comm,hs2];exact Xc2 _ _ _ hwn
   have hlt : s % 4294967296+w<4294967296:=by
    rw [hs2]
    have h1 : u % 2 ^ (32 - n)+1≤2 ^ (32 - n):=W1r _ (W0t _)
    have h2:=W1b (2 ^ n) h1
    rw [←W0v,show 32 - n+n=32 from by omega,W3a] at h2
    omega
   refine Ix i rfl (mp hu) ?_
   refine Go.Vm.Cv u rfl ?_
   refine Ar s rfl ?_ hshl
   refine Eo i rfl (by omega) ?_
   refine Ld (wd w) rfl (mp hw) ?_
   refine Go.Vm.Cv (s % 4294967296 : Nat) rfl ?_ (by rw [wWm];omega)
   refine Ar (s % 4294967296+w : Nat) rfl ?_ (Yh9 (by omega) (by omega) hor hlt)
   refine Eo i rfl (by omega) ?_
   refine Sto rfl (by simp only [lw];omega) ms ?_
   refine Ar (i+1 : Nat) rfl ?_
   refine Ar (s / 4294967296 : Nat) rfl ?_ (Xgy (n:=32) (by decide))
   refine Go.Vm.Cv (s / 4294967296 : Nat) rfl ?_
   refine Eo (i+1) rfl (by omega) ?_
   refine Sto rfl (by simp only [W0n,W3k];omega) ms ?_
   refine Ar (i+1 : Nat) rfl ?_
   refine Bk (i+1,(lo.set i (s % 4294967296+w)).set (i+1) (s / 4294967296)) [] rfl ⟨by omega,by simp [hl],Xfs (Xfs hwo hlt) (by omega),?_,s / 4294967296,by rw [W2s (by rw [W3k];omega)],?_⟩ (by show _ - (i+1)<_ - i;omega)
   · rw [Xa8 (by rw [W3k];omega),Xa8 (by omega),Xac hu,W1g,←hval,Xac hw,W0o,←hs,W0p,W0w,W0o]
     have e : 4294967296 ^ i*s=4294967296 ^ i*(s % 4294967296)+4294967296 ^ i*(4294967296*(s / 4294967296)):=by rw [←W0w];congr 1;omega
     omega
   · rw [W2m (by decide),hs,W1e]
     exact Nat.mul_lt_mul_of_pos_left hub hp
 · have him : i=(dig x).length:=by omega
   rw [him,W0b (by omega),W0b (by omega),Xaf] at hval
   exact Rw [(12,1000000)] [(1000000,.arr 1 (lo.map wd))] rfl (.one (.rf rfl) rfl rfl) ⟨_,rfl,lo,hl,hwo,hval,by rw [hl];rfl,rfl⟩
theorem Xe0 {n : Nat} {l : List Nat} (hw : Xao l) (hx : l.length≤549755813888) (hn32 : n<32) : C0 259 [.d (ws l),.d (.int .i64 n)] fun v=>∃ l',val l'=val l / 2 ^ n∧Xao l'∧l'.length=l.length∧v=.d (ws l'):=by
 have hp:=W0t n
 have hp32 : 2 ^ n≤2147483648:=by have : 2 ^ n≤2 ^ 31:=W0h (by decide) (by omega);omega
 refine En Tryz.func259 fun _ _ _=>?_
 refine Mk l.length rfl (by simp only [lw];omega) ?_ (by simp only [lw])
 refine Lo (fun (i,lo)=>[(0,.d (ws l)),(1,.d (.int .i64 n)),(5,.own 10 1 0 l.length),(11,.d (ws l)),(12,.d (.int .i64 l.length)),(13,.d (.int .i64 (i : Nat)))]) (fun (_,lo)=>[(10,.arr 1 (lo.map wd))])
  (fun (i,lo)=>i≤l.length∧lo.length=l.length∧Xao lo∧val (lo.take i)*2 ^ n+val l % 2 ^ n=val (l.take i)+4294967296 ^ i*(l.getD i 0 % 2 ^ n)) (fun (i,_)=>l.length - i) (0,List.replicate l.length 0) [] rfl
  ⟨by omega,by simp,Xer _,by simp [val,Xgq l n (by omega)]⟩ ?_ (by exact ⟨by simp only [lw,ws];rfl,by simp only [W2e];rfl,rfl,rfl,rfl⟩)
 rintro ⟨i,lo⟩ ⟨hi,hl,hwo,hval⟩
 refine By rfl (fun h=>?_) fun h=>?_
 · obtain ⟨u,hu⟩:=xat (l:=l) (k:=i) (by omega)
   have hub:=ww hu hw
   have hdu : u / 2 ^ n<4294967296:=W1m (W3j ..) hub
   have hgu : l.getD i 0=u:=by rw [W2o,hu];rfl
   rw [hgu] at hval
   refine Ix i rfl (mp hu) ?_
   refine Ar (u / 2 ^ n : Nat) rfl ?_ (Xgy (show n≤32 by omega))
   refine Eo i rfl (by omega) ?_
   refine Sto rfl (by simp only [lw];omega) ms ?_
   refine Ar (i+1 : Nat) rfl ?_
   refine Cu none (fun lo' : List Nat=>[(0,.d (ws l)),(1,.d (.int .i64 n)),(5,.own 10 1 0 l.length),(11,.d (ws l)),(12,.d (.int .i64 l.length)),(13,.d (.int .i64 i))]) (fun lo'=>[(10,.arr 1 (lo'.map wd))])
    (fun lo'=>∃ v,l.getD (i+1) 0=v∧lo'=lo.set i (u / 2 ^ n+(v % 2 ^ n)*2 ^ (32 - n))∧u / 2 ^ n+(v % 2 ^ n)*2 ^ (32 - n)<4294967296) rfl ?_ ?_
   · refine By rfl (fun h2=>?_) fun h2=>?_ <;> simp only [lw] at h2
     · obtain ⟨v,hv⟩:=xat (l:=l) (k:=i+1) (by omega)
       have hvb:=ww hv hw
       have hsd:=Xku (v:=v) hub hn32
       have hv64 : v*2 ^ (32 - n)<18446744073709551616:=by
        have h1 : 2 ^ (32 - n)≤2 ^ 32:=W0h (by decide) (by omega)
        have h2 : v*2 ^ (32 - n)≤4294967295*2 ^ 32:=W2a (by omega) h1
        omega
       obtain ⟨s,hs⟩ : ∃ s,s=v*2 ^ (32 - n):=⟨_,rfl⟩
       have hshl:=Xgz hs.symm (by omega) (by omega : 32 - n≤64)
       rw [←hs] at hsd hv64
       refine Dw rfl ?_
       refine Eo i rfl (by omega) ?_
       refine Ld (wd (u / 2 ^ n)) rfl (mp (W2s (by omega))) ?_
       refine Ar (i+1 : Nat) rfl ?_
       refine Ix (i+1) rfl (mp hv) ?_
       refine Go.Vm.Cv v rfl ?_
       refine Ar (32 - n : Nat) rfl ?_
       refine Ar s rfl ?_ hshl
       refine Go.Vm.Cv (s % 4294967296 : Nat) rfl ?_ (by rw [wWm];omega)
       refine Ar (u / 2 ^ n+(v % 2 ^ n)*2 ^ (32 - n) : Nat) rfl ?_ (Yh9 hdu (by omega) hsd.1 hsd.2)
       refine Eo i rfl (by omega) ?_
       refine Sto rfl (by simp only [W0n,W3k];omega) ms ?_
       exact Jn (lo.set i (u / 2 ^ n+(v % 2 ^ n)*2 ^ (32 - n))) [] rfl ⟨v,by rw [W2o,hv];rfl,rfl,hsd.2⟩ (by exact ⟨rfl,by rw [List.set_set];rfl,rfl,rfl,rfl⟩)
     · exact Jn (lo.set i (u / 2 ^ n)) [] rfl ⟨0,by rw [W2o,W1x (by omega)];rfl,by simp,by simp;exact hdu⟩
   rintro lo' ⟨v,hv,rfl,hlt⟩
   refine Ar (i+1 : Nat) rfl ?_
   refine Bk (i+1,lo.set i (u / 2 ^ n+(v % 2 ^ n)*2 ^ (32 - n))) [] rfl ⟨by omega,by simp [hl],Xfs hwo hlt,?_⟩ (by show _ - (i+1)<_ - i;omega)
   rw [Xa8 (by omega),Xac hu,hv]
   exact Xoe hn32 hval
 · have him : i=l.length:=by omega
   rw [him,W0b (by omega),W0b (by omega),W2o,W1x (by omega)] at hval
   refine Rt rfl (.one (.own rfl (by simp only [lw];omega) (oa hl)) rfl rfl) ⟨lo,?_,hwo,hl,rfl⟩
   simp at hval
   have:=W2j (val l) (2 ^ n)
   rw [W1e] at this
   exact Nat.eq_of_mul_eq_mul_right hp (by omega)
theorem Xkb {x y : Nat} (hx : (dig x).length≤549755813888) (hy : y<4294967296) (hy0 : y≠0) : C0 254 [.d (ws (dig x)),.d (.int .u32 y)] (·=.tup (.pr (.d (ws (dig (x / y)))) (.d (ws (dig (x % y)))))):=by
 refine En Tryz.func254 fun _ _ _=>?_
 refine Mk (dig x).length rfl (by simp only [lw];omega) ?_ (by simp only [lw])
 refine Ar ((dig x).length - 1 : Int) rfl ?_ (wr (by simp only [lw]) (by simp only [inK];omega))
 refine Lo (fun (k,lo,r)=>[(0,.d (ws (dig x))),(1,.d (.int .u32 y)),(6,.own 11 1 0 (dig x).length),(7,.d (.int .u64 (r : Nat))),(8,.d (.int .i64 ((k : Nat) - 1 : Int)))]) (fun (_,lo,_)=>[(11,.arr 1 (lo.map wd))])
  (fun (k,lo,r)=>k≤(dig x).length∧lo.length=(dig x).length∧Xao lo∧r<y∧val (lo.drop k)*y+r=val ((dig x).drop k)) (fun (k,_,_)=>k) ((dig x).length,List.replicate (dig x).length 0,0) [] rfl
  ⟨by omega,by simp,Xer _,by omega,by rw [W1z (by simp),W1z (by omega)];simp [val]⟩ ?_ (by exact ⟨rfl,by simp only [W2e];rfl,rfl,rfl,rfl⟩)
 rintro ⟨k,lo,r⟩ ⟨hk,hl,hwo,hr,hval⟩
 refine By rfl (fun h=>?_) fun h=>?_
 · obtain ⟨u,hu⟩:=xat (l:=dig x) (k:=k - 1) (by omega)
   have hub:=ww hu (Xad x)
   obtain ⟨s,hs⟩ : ∃ s,s=r*2 ^ 32+u:=⟨_,rfl⟩
   have hs64 : s<18446744073709551616:=by omega
   have hsy : s / y<4294967296:=by
    rw [W2m (by omega)]
    have:=W1b 4294967296 (show r+1≤y by omega)
    omega
   have hsm : s % y<y:=W1r _ (by omega)
   have hq0 : 0≤s / y:=W1d _
   refine Ar (r*2 ^ 32 : Nat) rfl ?_ (Xgz (n:=32) rfl (by omega) (by decide))
   refine Ix (k - 1) rfl (mp hu) ?_
   refine Go.Vm.Cv u rfl ?_
   refine Ar s rfl ?_ (Xzi (by omega) (by omega) (by rw [Xc2 u r 32 (by omega),←hs]) hs64)
   refine Go.Vm.Cv y rfl ?_
   refine Ar (s / y : Nat) rfl ?_ (show _∧_ from ⟨by omega,Yaq s y hs64⟩)
   refine Go.Vm.Cv (s / y : Nat) rfl ?_ (wW ⟨W5p _,W6y.2 hsy⟩)
   refine Eo (k - 1) rfl (by omega) ?_
   refine Sto rfl (by simp only [lw];omega) ms ?_
   refine Go.Vm.Cv y rfl ?_
   refine Ar (s % y : Nat) rfl ?_ (show _∧_ from ⟨by omega,Xq6 s y⟩)
   refine Ar ((k - 1 : Nat) - 1 : Int) rfl ?_
   refine Bk (k - 1,lo.set (k - 1) (s / y),s % y) [] rfl ⟨by omega,by simp [hl],Xfs hwo hsy,hsm,?_⟩ (by show k - 1<k;omega)
   rw [Xbr hu,show k - 1+1=k from by omega,←hval,drop_set (by omega),val,show k - 1+1=k from by omega]
   have e:=W2j s y
   rw [W1e] at e
   rw [W1g,W0w,W0o]
   omega
 · have hk0 : k=0:=by omega
   subst hk0
   rw [W1f,W1f,Xaf] at hval
   have hq : x / y=val lo:=by rw [←hval,W1e,Nat.mul_add_div (by omega),W4h hr,W2i]
   have hm : x % y=r:=by rw [←hval,W1e,Nat.mul_add_mod,W3u hr]
   refine Fz 9 6 (lo.map wd) rfl (by simp only [lw];omega) (oa hl) ?_
   refine Ce rfl (Xay hwo (by omega)) ?_
   refine Ce rfl (Xb4 (n:=r) (by omega)) ?_
   subst hm
   exact RTt rfl (.cons (.eq (by rw [hq])) (.one (.rf rfl) (fun _ _ e=>by cases e) (fun _ _ e=>by cases e)))
theorem Xqa {x : Nat} (hx : x<4294967296) : C0 279 [.d (.int .u32 x)] (·=.d (.int .i64 (bl x))):=by
 refine En Tryz.func279 fun _ _ _=>?_
 refine Cu none (fun ((x1,n1) : Nat × Nat)=>[(0,.d (.int .u32 x1)),(2,.d (.int .i64 n1))]) (fun _=>[]) (fun (x1,n1)=>x1<65536∧bl x=bl x1+n1∧n1≤16) rfl ?_ fun ⟨x1,n1⟩ ⟨hx1,hb1,hn1⟩=>?_
 · refine By rfl (fun h=>?_) fun h=>?_
   · refine Ar (x / 2 ^ 16 : Nat) rfl ?_ (Xgy (n:=16) (by decide))
     exact Jn (x / 2 ^ 16,16) [] rfl ⟨by omega,Xea (by omega),W0a _⟩
   · exact Jn (x,0) [] rfl ⟨by omega,rfl,by omega⟩
 refine Cu none (fun ((x1,n1) : Nat × Nat)=>[(0,.d (.int .u32 x1)),(2,.d (.int .i64 n1))]) (fun _=>[]) (fun (x1,n1)=>x1<256∧bl x=bl x1+n1∧n1≤24) rfl ?_ fun ⟨x2,n2⟩ ⟨hx2,hb2,hn2⟩=>?_
 · refine By rfl (fun h=>?_) fun h=>?_
   · refine Ar (x1 / 2 ^ 8 : Nat) rfl ?_ (Xgy (n:=8) (by decide))
     refine Ar (n1+8 : Nat) rfl ?_
     exact Jn (x1 / 2 ^ 8,n1+8) [] rfl ⟨by omega,by rw [hb1,Xea (n:=x1) (k:=8) (by omega)];omega,by omega⟩
   · exact Jn (x1,n1) [] rfl ⟨by omega,hb1,by omega⟩
 have hbl : bl x2<256:=W0r (Xz4 (p:=fun j=>bl j<10) (by decide +kernel) x2 hx2) (by decide)
 refine Go.Vm.Cv x2 rfl ?_
 refine Yx x2 (UInt8.ofNat (bl x2)) rfl (by revert hx2;generalize x2=j;revert j;decide +kernel) ?_
 refine Go.Vm.Cv (bl x2 : Nat) rfl ?_ ((wI ⟨by omega,by rw [Xv2 hbl];omega⟩).trans (Xv2 hbl))
 refine Ar (bl x : Nat) rfl ?_
 exact R0
theorem Xfr {x : Nat} (hx : x<4294967296) (h0 : x≠0) : C0 255 [.d (.int .u32 x)] fun v=>∃ n : Nat,v=.d (.int .i64 n)∧n<32∧2147483648≤x*2 ^ n∧x*2 ^ n<4294967296:=by
 obtain ⟨b1,b2,b3⟩:=Xca h0
 have hb32 : bl x≤32:=by
  have : 2 ^ (bl x - 1)<2 ^ 32:=W1m b1 hx
  have:=(W2y (by decide : 1<2)).1 this
  omega
 refine En Tryz.func255 fun _ _ _=>?_
 refine Ce rfl (Xqa hx) ?_
 refine Ar (32 - bl x : Nat) rfl ?_
 refine Rt rfl (.one (.rf rfl) rfl rfl) ⟨32 - bl x,rfl,by omega,?_,?_⟩
 · have h1:=W1b (2 ^ (32 - bl x)) b1
   rw [←W0v,show bl x - 1+(32 - bl x)=31 from by omega] at h1
   exact h1
 · have h1:=W3f b2 (W0t (32 - bl x))
   rw [←W0v,show bl x+(32 - bl x)=32 from by omega] at h1
   exact h1
end
section
open Go.RowKit Go.Shelf
attribute [local go_sem] Oper.semAt_some
abbrev Wd:={ x : Nat // x<4294967296 }
def bk (zs : List Wd) (k : Nat) : List (Nat × Wd):=(List.range k).map fun j=>(zs.length - 1 - j,zs[zs.length - 1 - j]?.getD ⟨0,by decide⟩)
theorem Ydd (zs : List Wd) (k : Nat) : bk zs (k+1)=bk zs k++[(zs.length - 1 - k,zs[zs.length - 1 - k]?.getD ⟨0,by decide⟩)]:=by simp [bk,W6u]
theorem Xva (zs : List Wd) (k : Nat) : (bk zs k).length=k:=by simp [bk]
structure Kq (n₀ Bs : Nat) (A B : World) : Prop where
 a : Below n₀ A B
 b : B.heap[Bs]?=A.heap[Bs]?
theorem Kq.refl (n₀ Bs : Nat) (A : World) : Kq n₀ Bs A A:=⟨Below.refl _ _,rfl⟩
theorem Kq.trans {n₀ Bs : Nat} {A B C : World} (h : Kq n₀ Bs A B) (k : Kq n₀ Bs B C) : Kq n₀ Bs A C:=⟨h.a.trans k.a,k.b.trans h.b⟩
set_option maxRecDepth 100000 in
set_option maxHeartbeats 2000000 in
theorem Xx9 (F : Fence) (n : Nat) (h8 : F.fn 132) (hro : F.round=none) (hn : 1≤n) (l Bs n₀ b off cap : Nat) (zs : List Wd) (hreach : zs.length*4≤140737488351232) (hb : b<n₀) (J Jx : List (Nat × Wd)→World→Prop)
 (hY : ∀ pre x W,J pre W→pre.length<zs.length→YieldAt F (n - 1) Tryz.prog l #[.int .i64 (x.1 : Int),.int .u32 (x.2.1 : Int)] W fun e W' =>
  (e=.returned (.bool true)∧J (pre++[x]) W'∧Kq n₀ Bs W W')∨(e=.returned (.bool false)∧Jx (pre++[x]) W'))
 (W : World) (hBs : W.cell? ⟨Bs,0,none⟩=some (.slice (some ⟨b,off,none⟩) zs.length cap)) (hc : ∀ j,j<zs.length→W.cell? ⟨b,off+j,none⟩=some (.int .u32 ((zs[j]?.getD ⟨0,by decide⟩).1 : Int))) (h0 : J [] W) :
 CallsIn F n Tryz.prog 132 #[.func (.yield l) #[] #[],.pointer (some ⟨Bs,0,none⟩)] W fun e W'=>(∃ v,e=.returned v) ∧
  ((∃ ys,ys=bk zs zs.length∧J ys W')∨(∃ pre,True∧Jx pre W')):=by
 refine callsIn_of_wp Tryz.func132 rfl h8 ?_ hro
 simp only [Tryz.ntmps132,W6l,W0s,W4n,Nat.reduceAdd,Nat.reduceSub,W5x,W5y,W6m,W6b,W4b,W3t]
 gi_wp2
 gi_loopw [3] (fun i wr=>∃ k : Nat,k≤zs.length∧i=.int .i64 ((zs.length : Int) - 1 - k)∧J (bk zs k) wr∧Kq n₀ Bs W wr)
  (fun i _=>(intOf i+1).toNat)
 case atStart=>exact ⟨0,W1d _,by simp,h0,Kq.refl _ _ _⟩
 case round =>
  obtain ⟨k,hk,rfl,hJs,hnx⟩:=hrel
  have hBs':=(World.cell?_of_block hnx.b).trans hBs
  by_cases hlt : k<zs.length
  · obtain ⟨q,hq⟩ : ∃ q,q+(k+1)=zs.length:=⟨zs.length - 1 - k,by omega⟩
    have hqi : ((zs.length : Int) - 1 - k)=(q : Int):=by omega
    have hcx:=(hnx.a.cell (p:=⟨b,off+q,none⟩) hb).trans (hc q (by omega))
    obtain ⟨fn,tmps,assign,body,hy,hR⟩:=hY _ (q,zs[q]?.getD ⟨0,by decide⟩) wr hJs (by rw [Xva];exact hlt)
    dsimp only at hy
    rw [hqi]
    gi_wp2
    refine hR.mono ?_
    rintro e W3 (⟨rfl,hJ3,hk3⟩ | ⟨rfl,hJx3⟩)
    · gi_wp2
      go_roundw
      case rel=>exact ⟨k+1,by omega,by congr 1;omega,by rw [Ydd,show zs.length - 1 - k=q from by omega];exact hJ3,hnx.trans hk3⟩
      case measure=>simp [intOf]
    · gi_wp2
      refine bodyPost_ret (results_none rfl _ _ _) rfl ?_
      exact ⟨⟨_,rfl⟩,.inr ⟨_,trivial,hJx3⟩⟩
  · obtain rfl : k=zs.length:=by omega
    rw [show ((zs.length : Int) - 1 - (zs.length : Int))=-1 from by omega]
    gi_wp2
    go_end0
    exact ⟨⟨_,rfl⟩,.inl ⟨_,rfl,hJs⟩⟩
set_option maxRecDepth 100000 in
set_option maxHeartbeats 1000000 in
theorem Xl1 (F : Fence) (n : Nat) (h8 : F.fn 132) (hro : F.round=none) (l Bs : Nat) (J : List (Nat × Wd)→World→Prop) (W : World) {p : Option Addr} {c : Nat} (hBs : W.cell? ⟨Bs,0,none⟩=some (.slice p 0 c)) (h0 : J [] W) :
 CallsIn F n Tryz.prog 132 #[.func (.yield l) #[] #[],.pointer (some ⟨Bs,0,none⟩)] W fun e W'=>(∃ v,e=.returned v)∧J [] W':=by
 refine callsIn_of_wp Tryz.func132 rfl h8 ?_ hro
 simp only [Tryz.ntmps132,W6l,W0s,W4n,Nat.reduceAdd,Nat.reduceSub,W5x,W5y,W6m,W6b,W4b,W3t]
 gi_wp2
 gi_loopw [3] (fun i wr=>i=.int .i64 (-1)∧J [] wr) (fun _ _=>0)
 case atStart=>exact ⟨rfl,h0⟩
 case round =>
  obtain ⟨rfl,hJs⟩:=hrel
  gi_wp2
  go_end0
  exact ⟨⟨_,rfl⟩,hJs⟩
set_option maxHeartbeats 1000000 in
theorem Xnq (F : Fence) (n : Nat) (h6 : F.fn 70) (hro : F.round=none) (a : Option Addr) (len cap : Nat) (w : World) :
 CallsIn F n Tryz.prog 70 #[.slice a len cap] w fun e w'=>e=.returned (.func (.func 132) #[] #[.pointer (some ⟨w.heap.size,0,none⟩)])∧w'=w.alloc (.cells #[.slice a len cap] 35):=by
 refine callsIn_of_wp Tryz.func70 rfl h6 ?_ hro
 simp only [Tryz.ntmps70,W6l,W0s,W4n,Nat.reduceAdd,Nat.reduceSub,W5x,W5y,W6m,W6b,W4b,W3t]
 gi_wp2
 go_ret
 exact ⟨rfl,rfl⟩
theorem Xqx (F : Fence) (n : Nat) (h8 : F.fn 132) (hro : F.round=none) (hn : 1≤n) (Bs n₀ : Nat) (p : Option Addr) (cap : Nat) (zs : List Wd) (hreach : zs.length*4≤140737488351232) (w : World) (hBs : Bs<w.heap.size) (hn₀ : n₀≤w.heap.size)
 (hc : w.cell? ⟨Bs,0,none⟩=some (.slice p zs.length cap)) (hI : zs=[]∨∃ b off,p=some ⟨b,off,none⟩∧b<n₀∧∀ j,j<zs.length→w.cell? ⟨b,off+j,none⟩=some (.int .u32 ((zs[j]?.getD ⟨0,by decide⟩).1 : Int))) :
 SeqStopsK F n Tryz.prog 132 #[.pointer (some ⟨Bs,0,none⟩)] (fun x : Nat × Wd=>#[Value.int .i64 (x.1 : Int),Value.int .u32 (x.2.1 : Int)]) (Kq n₀ Bs) (fun ys=>ys=bk zs zs.length)
  (fun _=>True) zs.length w:=fun l J Jx W hW _ _ hY h0=>by
 have hc':=(hW.cell (p:=⟨Bs,0,none⟩) hBs).trans hc
 rcases hI with rfl | ⟨b,off,rfl,hb,hcs⟩
 · exact (Xl1 F n h8 hro l Bs J W hc' h0).mono fun e W' ⟨he,hj⟩=>⟨he,.inl ⟨_,rfl,hj⟩⟩
 · exact Xx9 F n h8 hro hn l Bs n₀ b off cap zs hreach hb J Jx hY W hc' (fun j hj=>(hW.cell (p:=⟨b,off+j,none⟩) (W0r hb hn₀)).trans (hcs j hj)) h0
def acc : List (Nat × Wd)→Nat:=List.foldl (fun a x=>(a*4294967296) % 18446744073709551616+x.2.1) 0
theorem Xye (pre : List (Nat × Wd)) (x : Nat × Wd) : acc (pre++[x])=(acc pre*4294967296) % 18446744073709551616+x.2.1:=by simp [acc]
theorem Yde {p q : Nat} (hp : p<18446744073709551616) (hq : q<18446744073709551616) : bits .or .u64 (p : Int) (q : Int)=IntKind.u64.wrap ((p ||| q : Nat) : Int):=by
 show IntKind.u64.wrap _=_
 congr 2
 exact Yj9 hp hq
theorem Yhq {a x : Nat} (hx : x<4294967296) : bits .or .u64 (IntKind.u64.wrap ((a : Int)*4294967296)) (IntKind.u64.wrap (x : Int))=(((a*4294967296) % 18446744073709551616+x : Nat) : Int):=by
 have e1 : IntKind.u64.wrap ((a : Int)*4294967296)=(((a*4294967296) % 18446744073709551616 : Nat) : Int):=(wUm _).trans (by omega)
 have e2 : a*4294967296 % 18446744073709551616=(a % 4294967296)*2 ^ 32:=by omega
 rw [e1,wU (x:=(x : Int)) (by omega),Yde (by omega) (by omega),e2,Xc2 x (a % 4294967296) 32 (by omega),wU (by omega)]
theorem Xtp {n₀ Bs N : Nat} (W : World) (l : Nat) (o : Obj) (hl : N≤l) (hn : n₀≤N) (hB : Bs<N) (h : W.heap[l]?=some o) (o' : Obj) : Kq n₀ Bs W (W.putObj l o') :=
 ⟨(Below.refl n₀ W).grown (grownBy_putObj' W l o') (by have:=(W3n.1 h).1;omega) (fun k e=>by cases e;omega),World.putObj_heap_other (by omega)⟩
set_option maxRecDepth 100000 in
set_option maxHeartbeats 2000000 in
theorem Xrn (F : Fence) (n : Nat) (h3 : F.fn 211) (h5 : F.fn 70) (h7 : F.fn 132) (hro : F.round=none) (hn : 3≤n) (p : Option Addr) (cap : Nat) (zs : List Wd) (hreach : zs.length*4≤140737488351232) (w : World)
 (hI : zs=[]∨∃ b off,p=some ⟨b,off,none⟩∧b<w.heap.size∧∀ j,j<zs.length→w.cell? ⟨b,off+j,none⟩=some (.int .u32 ((zs[j]?.getD ⟨0,by decide⟩).1 : Int))) :
 CallsIn F n Tryz.prog 211 #[.slice p zs.length cap] w fun e W'=>e=.returned (.int .u64 (acc (bk zs zs.length) : Int))∧Below w.heap.size w W':=by
 have h1 : 1≤n:=by omega
 refine callsIn_of_wp_marks Tryz.func211 rfl h3 ?_ hro
 simp only [Tryz.ntmps211,W6l,W0s,W4n,Nat.reduceAdd,Nat.reduceSub,W5x,W5y,W6m,W6b,W4b,W3t]
 gi_wp2_with (gi_at_call 70;refine (Xnq F (n - 1) h5 hro _ _ _ _).mono ?_;rintro e w' ⟨rfl,rfl⟩)
 have bS:=Boxed.new w 97 (.int .u64 0)
 have bN:=Boxed.new (w.alloc (.cells #[.int .u64 0] 97)) 35 (.slice p zs.length cap)
 rw [World.size_alloc] at bN
 have hB0 : Below w.heap.size w ((w.alloc (.cells #[.int .u64 0] 97)).alloc (.cells #[.slice p zs.length cap] 35)):=((Below.refl _ w).alloc (W0a _) _).alloc (by simp) _
 refine wpIn_rangeFunc_ownG hro h1 (gf:=132) (lb:=#[.pointer (some ⟨w.heap.size+1,0,none⟩)]) rfl h7 (enters_of Tryz.func132 (by kernel_rfl) rfl)
  (Xqx F (n - 1) h7 hro (by omega) (w.heap.size+1) w.heap.size p cap zs hreach _ (by simp) (by simp;omega) bN.cell (hI.imp_right fun ⟨b,off,h1,h2,h3⟩=>⟨b,off,h1,h2,fun j hj=>(hB0.cell (p:=⟨b,off+j,none⟩) h2).trans (h3 j hj)⟩)) Kq.trans (fun W l o o' hl h _ _=>Xtp W l o hl (by simp;omega) (by simp) h o') (Below.refl _ _) (fun _=>rfl)
  (fun pre W=>(W.cell? ⟨w.heap.size,0,none⟩=some (.int .u64 (acc pre : Int))∧W.frozen? ⟨w.heap.size,0,none⟩=false)∧Below w.heap.size w W)
  (fun _ _ _=>False)
  (OwnFrom.and (Own.from (fun s A B row hs hg hr=>⟨cell_kept hs.1 hg hr,(frozen_kept hs.1 hg hr).trans hs.2⟩) _) (ownFrom_below (W0a _) (by simp;omega)))
  (fun _ _ _ _ _ hs _ _=>hs)
  ⟨⟨(bS.alloc _).cell,(bS.alloc _).frozen⟩,hB0⟩
  (fun x=>{ tmps:=#[.slice p zs.length cap,undef,.int .u64 0,.pointer (some ⟨w.heap.size,0,none⟩),undef,.int .u32 (x.2.1 : Int),.slice p zs.length cap,.func (.func 132) #[] #[.pointer (some ⟨w.heap.size+1,0,none⟩)],.int .i64 (x.1 : Int),.int .u32 (x.2.1 : Int),undef,undef,undef,undef,undef,undef],defers:=[] }) ?assign ?body ?done ?stop
 case assign =>
  intro l x W K hK
  gi_wp2
  exact hK
 case body =>
  rintro l pre x W ⟨⟨hc,hf⟩,hB⟩ _
  gi_wp2
  rw [Yhq x.2.2,←Xye]
  exact ⟨(KeepsOthers.setCell _ _ _).from _,⟨(Below.refl w.heap.size W).setCell (p:=⟨w.heap.size,0,none⟩) (W0a _) _,Below.heap_setCell _ _ _ _ (by simp)⟩,⟨World.cell?_setCell_same' _ _ _ (by rw [hc];rfl),by rw [World.frozen?_setCell];exact hf⟩,hB.setCell (p:=⟨w.heap.size,0,none⟩) (W0a _) _⟩
 case done =>
  rintro D ys W hD rfl ⟨⟨hc,_⟩,hB⟩ hK
  gi_wp2
  refine ⟨by simp,.inl ⟨_,_,rfl,run_takeDeferred hK,?_⟩⟩
  exact ⟨_,results_tmp rfl _ _ _,rfl,hB.trans (belowK_b (w:=w) (W0a _) W D _ _ (by simp at hD;omega) hK rfl rfl)⟩
 case stop =>
  rintro D c pre W _ _ h _
  exact h.elim
theorem wds {l : List Nat} (h : Xao l) : ∃ zs : List Wd,zs.map (·.1)=l :=
 by
 induction l with
 | nil=>exact ⟨[],rfl⟩
 | cons a l ih =>
  obtain ⟨zs,hz⟩:=ih fun x hx=>h x (W0z _ hx)
  exact ⟨⟨a,h a (W0q ..)⟩::zs,by rw [W4k,hz]⟩
theorem Ydm {zs : List Wd} {x : Nat} (h : zs.map (·.1)=dig x) (hx : x<18446744073709551616) : acc (bk zs zs.length)=x:=by
 have hl : (dig x).length≤2:=Xan (by omega)
 have hv:=Xaf x
 rw [←h] at hl hv
 match zs,hl with
 | [],_=>simpa [bk,acc,val] using hv
 | [a],_ =>
  have ha:=a.2
  simp [val] at hv
  simp [bk,acc,W6u]
  omega
 | [a,b],_ =>
  have ha:=a.2
  have hb:=b.2
  simp [val] at hv
  simp [bk,acc,W6u]
  omega
theorem Xj4 {W : Vm.GW} {w' : World} (h : Below W.w.heap.size W.w w') : ∃ W' : Vm.GW,W'.w=w'∧Vm.Fm W W' (fun _=>False) :=
 ⟨⟨w', W.A, fun b i k => W0r (W.hA b i k) h.size⟩, rfl,
   { os := h.os, out := h.output, tape := h.tape, size := h.size, same := fun b hb _ => h.block b hb, A := fun _ _ _ _ => W4d
     le:=fun b i v hv=>⟨by
      have hb : b<W.w.heap.size:=by
       apply W0y
       intro hn
       have:=hv.1
       simp only [World.cell?] at this
       rw [W3r (by omega)] at this
       cases this
      exact (World.cell?_of_block (h.block b hb)).trans hv.1,hv.2⟩ }⟩
theorem Xex {x : Nat} (hx : x<18446744073709551616) : C0 211 [.d (ws (dig x))] (·=.d (.int .u64 x)):=by
 obtain ⟨zs,hz⟩:=wds (Xad x)
 have hl : (dig x).length≤2:=Xan (by omega)
 refine ⟨⟨_,Tryz.func211,rfl,rfl⟩,fun W vs _ ha=>?_⟩
 match vs,ha with
 | [v],ha =>
  obtain ⟨p,c,rfl,hc1,hc2,hrow⟩:=Vm.V_sl ha.1
  have hm : ((dig x).map wd).length=zs.length:=by rw [←hz];simp
  rw [hm]
  refine (callsIn_wide (n:=3)).1 ((Xrn Fence.wide 3 trivial trivial trivial rfl (W0a _) p c zs (by rw [←hz,W0n] at hl;omega) W.w ?_).mono ?_)
  · rcases hrow with h0 | ⟨b,off,hp,hr⟩
    · left
      have:=congrArg List.length h0
      rw [hm] at this
      exact W0k (by simpa using this)
    · have hcell : ∀ j,j<zs.length→W.w.cell? ⟨b,off+j,none⟩=some (.int .u32 ((zs[j]?.getD ⟨0,by decide⟩).1 : Int)):=fun j hj=>by
       obtain ⟨z,hzj⟩ : ∃ z,zs[j]?=some z:=⟨_,W0d hj⟩
       obtain ⟨e,h1,h2,h3⟩:=Vm.D.row_get hr (i:=j) (x:=wd z.1) (by rw [←hz];simp [hzj])
       have h1 : e=[.int .u32 z.1]:=h1.1
       have:=(h3 0 (.int .u32 z.1) (by rw [h1];rfl)).1
       rw [hzj]
       simpa using this
      by_cases h0 : zs=[]
      · exact .inl h0
      · refine .inr ⟨b,off,hp,?_,hcell⟩
        have h1:=hcell 0 (W5k.2 h0)
        apply W0y
        intro hn
        simp only [World.cell?] at h1
        rw [W3r (by omega)] at h1
        cases h1
  · rintro e w' ⟨rfl,hB⟩
    obtain ⟨W',hw,hE⟩:=Xj4 hB
    refine ⟨W',.d (.int .u64 x),_,rfl,hw,hE,?_,fun _ h=>h,rfl⟩
    rw [Ydm hz hx]
    exact Vm.int_V (by show IntKind.u64.wrap _=_;exact wU (by omega))
end
section
theorem Yjm {a b : Nat} (ha : a<4294967296) (hb : b<4294967296) : a*b≤18446744065119617025:=by
 have:=W2a (show a≤4294967295 by omega) (show b≤4294967295 by omega)
 omega
theorem Xmk {q k y d : Nat} {l : List Nat} (hw : Xao l) (hq : q+(k+1)≤l.length) (hk : (dig y).length=k) (hd : d<4294967296) (hk40 : k≤1099511627776) :
 CW0 257 [.own 1000001 1 q (k+1),.d (ws (dig y)),.d (.int .u64 d)] [(1000001,.arr 1 (l.map wd))] fun v H'=>∃ (c : Nat) (l' : List Nat),c≤1∧v=.b (dc (c=1))∧H'=[(1000001,.arr 1 (l'.map wd))]∧l'.length=l.length∧Xao l' ∧
  (∀ j,(j<q∨q+(k+1)≤j)→l'[j]?=l[j]?)∧val ((l'.drop q).take (k+1))+y*d=val ((l.drop q).take (k+1))+4294967296 ^ (k+1)*c:=by
 refine EnW Tryz.func257 fun _ _ _ _=>?_
 refine Lo (fun (i,lo,br)=>[(0,.own 1000001 1 q (k+1)),(1,.d (ws (dig y))),(2,.d (.int .u64 d)),(7,.d (.int .u64 (br : Nat))),(13,.d (ws (dig y))),(14,.d (.int .i64 k)),(15,.d (.int .i64 (i : Nat)))]) (fun (_,lo,_)=>[(1000001,.arr 1 (lo.map wd))])
  (fun (i,lo,br)=>i≤k∧lo.length=l.length∧Xao lo∧br<4294967296∧(∀ j,(j<q∨q+i≤j)→lo[j]?=l[j]?)∧val ((lo.drop q).take i)+val ((dig y).take i)*d=val ((l.drop q).take i)+4294967296 ^ i*br) (fun (i,_,_)=>k - i) (0,l,0) [] rfl
  ⟨by omega,rfl,hw,by omega,fun _ _=>rfl,by simp [val]⟩ ?_ (by exact ⟨by simp only [lw,ws,hk];rfl,rfl,rfl,rfl,rfl⟩)
 rintro ⟨i,lo,br⟩ ⟨hi,hl,hwo,hbr,hrest,hval⟩
 refine By rfl (fun h=>?_) fun h=>?_
 · obtain ⟨w,hw1⟩:=xat (l:=dig y) (k:=i) (by omega)
   have hwb:=ww hw1 (Xad y)
   obtain ⟨u,hu⟩:=xat (l:=lo) (k:=q+i) (by omega)
   have hub:=ww hu hwo
   have hwd:=Yjm hwb hd
   obtain ⟨s,hs⟩ : ∃ s,s=w*d+br:=⟨_,rfl⟩
   obtain ⟨t,ht⟩ : ∃ t,t=(u+18446744073709551616 - s % 4294967296) % 18446744073709551616:=⟨_,rfl⟩
   refine Ix i rfl (mp hw1) ?_
   refine Go.Vm.Cv w rfl ?_
   refine Ar (w*d : Nat) rfl ?_ (wr (W3b ..).symm (by simp only [inK];omega))
   refine Ar s rfl ?_
   refine El i rfl (by omega) ?_
   refine Ld (wd u) rfl (mp hu) ?_
   refine Go.Vm.Cv u rfl ?_
   refine Go.Vm.Cv (s % 4294967296 : Nat) rfl ?_ (by rw [wWm];omega)
   refine Go.Vm.Cv (s % 4294967296 : Nat) rfl ?_
   refine Ar t rfl ?_ (by show _=_;rw [wUm];omega)
   refine Go.Vm.Cv (t % 4294967296 : Nat) rfl ?_ (by rw [wWm];omega)
   refine El i rfl (by omega) ?_
   refine Sto rfl (by simp only [lw];omega) ms ?_
   refine Ar (s / 4294967296 : Nat) rfl ?_ (Xgy (n:=32) (by decide))
   refine Ar (t / 9223372036854775808 : Nat) rfl ?_ (Xgy (n:=63) (by decide))
   refine Ar (s / 4294967296+t / 9223372036854775808 : Nat) rfl ?_
   refine Ar (i+1 : Nat) rfl ?_
   refine Bk (i+1,lo.set (q+i) (t % 4294967296),s / 4294967296+t / 9223372036854775808) [] rfl ⟨by omega,by simp [hl],Xfs hwo (by omega),by omega,fun j hj=>by rw [W1v (by omega)];exact hrest j (by omega),?_⟩ (by show k - (i+1)<k - i;omega)
   have hu0 : l[q+i]?=some u:=by rw [←hrest (q+i) (.inr (W0a _))];exact hu
   have hst : t % 4294967296+s=u+4294967296*(s / 4294967296+t / 9223372036854775808):=by omega
   rw [Xeu (by omega),Xac hw1,Xbw hu0,W0p,W0o,W1g,W0o]
   have e : 4294967296 ^ i*(t % 4294967296+s)=4294967296 ^ i*(u+4294967296*(s / 4294967296+t / 9223372036854775808)):=by rw [hst]
   have e2 : 4294967296 ^ i*s=4294967296 ^ i*(w*d)+4294967296 ^ i*br:=by rw [hs,W0w]
   rw [W0w,W0w (4294967296 ^ i) u] at e
   omega
 · have hik : i=k:=by omega
   rw [hik] at hrest hval
   rw [W0b (l:=dig y) (by omega),Xaf] at hval
   obtain ⟨u,hu⟩:=xat (l:=lo) (k:=q+k) (by omega)
   have hub:=ww hu hwo
   obtain ⟨t,ht⟩ : ∃ t,t=(u+18446744073709551616 - br) % 18446744073709551616:=⟨_,rfl⟩
   refine El k rfl (by omega) ?_ (by simp only [lw];omega)
   refine Ld (wd u) rfl (mp hu) ?_
   refine Go.Vm.Cv u rfl ?_
   refine Ar t rfl ?_ (by show _=_;rw [wUm];omega)
   refine Go.Vm.Cv (t % 4294967296 : Nat) rfl ?_ (by rw [wWm];omega)
   refine El k rfl (by omega) ?_ (by simp only [lw];omega)
   refine Sto rfl (by simp only [lw];omega) ms ?_
   refine Ar (t / 9223372036854775808 : Nat) rfl ?_ (Xgy (n:=63) (by decide))
   have hu0 : l[q+k]?=some u:=by rw [←hrest (q+k) (.inr (W0a _))];exact hu
   refine Rw [] [(1000001,.arr 1 ((lo.set (q+k) (t % 4294967296)).map wd))] rfl (.one (.rf rfl) rfl rfl) ⟨t / 9223372036854775808,_,by omega,?_,rfl,by simp [hl],Xfs hwo (by omega),fun j hj=>by rw [W1v (by omega)];exact hrest j (by omega),?_⟩
   · congr 1;exact congrArg dc (propext (by constructor <;> intro <;> omega))
   · rw [Xeu (by omega),Xbw hu0,W0p,W0o]
     have e : 4294967296 ^ k*(t % 4294967296+br)=4294967296 ^ k*(u+4294967296*(t / 9223372036854775808)):=by congr 1;omega
     rw [W0w,W0w (4294967296 ^ k) u] at e
     omega
theorem Xqh {q k y : Nat} {l : List Nat} (hw : Xao l) (hq : q+(k+1)≤l.length) (hk : (dig y).length=k) (hk40 : k≤1099511627776) :
 CW0 258 [.own 1000001 1 q (k+1),.d (ws (dig y))] [(1000001,.arr 1 (l.map wd))] fun v H'=>∃ (e : Nat) (l' : List Nat),e≤1∧H'=[(1000001,.arr 1 (l'.map wd))]∧l'.length=l.length∧Xao l' ∧
  (∀ j,(j<q∨q+(k+1)≤j)→l'[j]?=l[j]?)∧val ((l'.drop q).take (k+1))+4294967296 ^ (k+1)*e=val ((l.drop q).take (k+1))+y:=by
 refine EnW Tryz.func258 fun _ _ _ _=>?_
 refine Lo (fun (i,lo,cr)=>[(0,.own 1000001 1 q (k+1)),(1,.d (ws (dig y))),(4,.d (.int .u64 (cr : Nat))),(7,.d (ws (dig y))),(8,.d (.int .i64 k)),(9,.d (.int .i64 (i : Nat)))]) (fun (_,lo,_)=>[(1000001,.arr 1 (lo.map wd))])
  (fun (i,lo,cr)=>i≤k∧lo.length=l.length∧Xao lo∧cr≤1∧(∀ j,(j<q∨q+i≤j)→lo[j]?=l[j]?)∧val ((lo.drop q).take i)+4294967296 ^ i*cr=val ((l.drop q).take i)+val ((dig y).take i)) (fun (i,_,_)=>k - i) (0,l,0) [] rfl
  ⟨by omega,rfl,hw,by omega,fun _ _=>rfl,by simp [val]⟩ ?_ (by exact ⟨by simp only [lw,ws,hk];rfl,rfl,rfl,rfl,rfl⟩)
 rintro ⟨i,lo,cr⟩ ⟨hi,hl,hwo,hcr,hrest,hval⟩
 refine By rfl (fun h=>?_) fun h=>?_
 · obtain ⟨w,hw1⟩:=xat (l:=dig y) (k:=i) (by omega)
   have hwb:=ww hw1 (Xad y)
   obtain ⟨u,hu⟩:=xat (l:=lo) (k:=q+i) (by omega)
   have hub:=ww hu hwo
   obtain ⟨s,hs⟩ : ∃ s,s=cr+(u+w):=⟨_,rfl⟩
   refine Ix i rfl (mp hw1) ?_
   refine El i rfl (by omega) ?_
   refine Ld (wd u) rfl (mp hu) ?_
   refine Go.Vm.Cv u rfl ?_
   refine Go.Vm.Cv w rfl ?_
   refine Ar (u+w : Nat) rfl ?_
   refine Ar s rfl ?_
   refine Go.Vm.Cv (s % 4294967296 : Nat) rfl ?_ (by rw [wWm];omega)
   refine El i rfl (by omega) ?_
   refine Sto rfl (by simp only [lw];omega) ms ?_
   refine Ar (s / 4294967296 : Nat) rfl ?_ (Xgy (n:=32) (by decide))
   refine Ar (i+1 : Nat) rfl ?_
   refine Bk (i+1,lo.set (q+i) (s % 4294967296),s / 4294967296) [] rfl ⟨by omega,by simp [hl],Xfs hwo (by omega),by omega,fun j hj=>by rw [W1v (by omega)];exact hrest j (by omega),?_⟩ (by show k - (i+1)<k - i;omega)
   have hu0 : l[q+i]?=some u:=by rw [←hrest (q+i) (.inr (W0a _))];exact hu
   rw [Xeu (by omega),Xac hw1,Xbw hu0,W0p,W0o]
   have e : 4294967296 ^ i*(s % 4294967296+4294967296*(s / 4294967296))=4294967296 ^ i*(cr+(u+w)):=by congr 1;omega
   simp only [W0w] at e
   omega
 · have hik : i=k:=by omega
   rw [hik] at hrest hval
   rw [W0b (l:=dig y) (by omega),Xaf] at hval
   obtain ⟨u,hu⟩:=xat (l:=lo) (k:=q+k) (by omega)
   have hub:=ww hu hwo
   refine El k rfl (by omega) ?_ (by simp only [lw];omega)
   refine Ld (wd u) rfl (mp hu) ?_
   refine Go.Vm.Cv cr rfl ?_
   refine Ar ((u+cr) % 4294967296 : Nat) rfl ?_ (by show _=_;rw [wWm];omega)
   refine El k rfl (by omega) ?_ (by simp only [lw];omega)
   refine Sto rfl (by simp only [lw];omega) ms ?_
   have hu0 : l[q+k]?=some u:=by rw [←hrest (q+k) (.inr (W0a _))];exact hu
   refine Rw [] [(1000001,.arr 1 ((lo.set (q+k) ((u+cr) % 4294967296)).map wd))] rfl (.tup (.one (.rf rfl) (fun _ _ e=>by cases e) (fun _ _ e=>by cases e))) ⟨(u+cr) / 4294967296,_,by omega,rfl,by simp [hl],Xfs hwo (by omega),fun j hj=>by rw [W1v (by omega)];exact hrest j (by omega),?_⟩
   rw [Xeu (by omega),Xbw hu0,W0p,W0o]
   have e : 4294967296 ^ k*((u+cr) % 4294967296+4294967296*((u+cr) / 4294967296))=4294967296 ^ k*(u+cr):=by congr 1;omega
   simp only [W0w] at e
   omega
theorem Xh1 {n x : Nat} (hx : (dig x).length≤549755813888) (hn32 : n<32) : C0 256 [.d (ws (dig x)),.d (.int .i64 n)] fun v=>∃ l,l.length=(dig x).length+1∧Xao l∧val l=x*2 ^ n∧v=.d (ws l) :=
 CW.data (Xfv hx hn32) rfl fun v H' ⟨ob,e,l,h1,h2,h3,h4,h5⟩=>⟨.d (ws l),by rw [h4,e,h5];exact .one (.own rfl (by simp) (oa rfl)) rfl rfl,l,h1,h2,h3,rfl⟩
theorem Xpe {y n : Nat} (hy : y≠0) {t : Nat} (ht : (dig y)[(dig y).length - 1]?=some t) (h1 : 2147483648≤t*2 ^ n) (h2 : t*2 ^ n<4294967296) :
 (dig (y*2 ^ n)).length=(dig y).length∧∃ t',(dig (y*2 ^ n))[(dig y).length - 1]?=some t'∧2147483648≤t':=by
 have hl : (dig y).length≠0:=fun h=>hy (Xqt.1 (W0k h))
 have hs:=Xac ht
 rw [show (dig y).length - 1+1=(dig y).length from by omega,W2r,Xaf] at hs
 have hlo:=Xbq ((Xad y).take ((dig y).length - 1))
 rw [W0j,W1q (by omega)] at hlo
 generalize hk : (dig y).length - 1=k at *
 have hlow : 4294967296 ^ k*2147483648≤y*2 ^ n:=by
  rw [hs,W1g,W0o]
  have:=W0m (4294967296 ^ k) h1
  omega
 have hup : y*2 ^ n<4294967296 ^ (k+1):=by
  have e : y+1≤4294967296 ^ k*(t+1):=by rw [hs,W0w];omega
  have e2 : t*2 ^ n+2 ^ n≤4294967296:=by
   have hd : 2 ^ n ∣ 4294967296:=by
    have hn : n<32:=by
     have : 2 ^ n<2 ^ 32:=by
      have:=Nat.le_mul_of_pos_left (2 ^ n) (show 0<t from by rcases W2n t with h | h;rw [h] at h1;simp at h1;exact h)
      omega
     exact (W2y (by decide : 1<2)).1 this
    exact ⟨2 ^ (32 - n),by rw [←W0v,show n+(32 - n)=32 from by omega]⟩
   obtain ⟨q,hq⟩:=hd
   rw [hq,W1e t] at h2
   have:=Nat.lt_of_mul_lt_mul_left h2
   rw [hq,W1e t,←Nat.mul_succ]
   exact W0m _ this
  have e3:=W1b (2 ^ n) e
  rw [W0o,W1g t,W7h] at e3
  have e4:=W0m (4294967296 ^ k) e2
  have hp:=W0t n
  rw [W1g,W7h] at e3
  rw [W0p]
  omega
 have hlen : (dig (y*2 ^ n)).length=(dig y).length:=by
  have h3:=Xan hup
  have h4 : k<(dig (y*2 ^ n)).length:=by
   apply W0y
   intro hn
   have:=Xc8 (y*2 ^ n)
   have h5 : 4294967296 ^ (dig (y*2 ^ n)).length≤4294967296 ^ k:=W0h (by decide) (by omega)
   have : 4294967296 ^ k≤4294967296 ^ k*2147483648:=W4e _ (by decide)
   omega
  omega
 refine ⟨hlen,?_⟩
 obtain ⟨t',ht'⟩:=xat (l:=dig (y*2 ^ n)) (k:=k) (by omega)
 refine ⟨t',ht',?_⟩
 have hs':=Xac ht'
 rw [show k+1=(dig (y*2 ^ n)).length from by omega,W2r,Xaf] at hs'
 have hlo':=Xbq ((Xad (y*2 ^ n)).take k)
 rw [W0j,W1q (by omega)] at hlo'
 apply W0y
 intro hn
 have : 4294967296 ^ k*(t'+1)≤4294967296 ^ k*2147483648:=W0m _ (by omega)
 rw [W0w] at this
 omega
theorem Xyr {lu : List Nat} {i n : Nat} {Y : Nat} (hw : Xao lu) (hi : i+n<lu.length) (hR : val (lu.drop (i+1))<Y) (hY : Y≤4294967296 ^ n) :
 val (lu.drop i)=val ((lu.drop i).take (n+1))∧val (lu.drop i)<4294967296*Y:=by
 obtain ⟨u,hu⟩:=xat (l:=lu) (k:=i) (by omega)
 have hub:=hw u (W0l hu)
 have h1:=Xbr hu
 have h2 : val (lu.drop i)<4294967296*Y:=by
  rw [h1]
  have:=W0m 4294967296 (show val (lu.drop (i+1))+1≤Y from hR)
  omega
 refine ⟨?_,h2⟩
 have h3:=Xbh (lu.drop i) (n+1) (by rw [W1p];omega)
 rw [h3]
 have h4 : val (lu.drop i)<4294967296 ^ (n+1):=by
  have:=W0m 4294967296 hY
  rw [W0p,W1e (4294967296 ^ n)]
  omega
 rcases W2n (val ((lu.drop i).drop (n+1))) with h5 | h5
 · rw [h5,W2x,W2i]
 · have:=W4e (4294967296 ^ (n+1)) h5
   omega
theorem Xd7 {l m : List Nat} {k : Nat} (h : ∀ j,k≤j→l[j]?=m[j]?) : l.drop k=m.drop k:=by
 apply W3w
 intro i
 rw [W2d,W2d]
 exact h _ (by omega)
theorem Yd7 (M low u0 u1 u2 : Nat) : low+M*u2+M*4294967296*u1+M*4294967296*4294967296*u0=low+M*(u2+4294967296*(u0*2 ^ 32+u1)):=by
 grind
theorem Xx3 {x y : Nat} : Xa1 (x : Int) (y : Int)<0↔x<y:=by
 unfold Xa1
 split
 · constructor <;> intro <;> omega
 · split
   · constructor <;> intro <;> omega
   · constructor <;> intro <;> omega
theorem Xup {x y Y s Q R : Nat} (hY : y*2 ^ s=Y) (h : Q*Y+R=x*2 ^ s) (hR : R<Y) : Q=x / y∧R=x % y*2 ^ s:=by
 have h1 : Q=(x*2 ^ s) / (y*2 ^ s):=by
  rw [hY,←h,W1e,Nat.mul_add_div (by omega),W4h hR,W2i]
 have h2 : R=(x*2 ^ s) % (y*2 ^ s):=by
  rw [hY,←h,W1e,Nat.mul_add_mod,W3u hR]
 rw [Nat.mul_div_mul_right _ _ (W0t s)] at h1
 rw [Nat.mul_mod_mul_right] at h2
 exact ⟨h1,h2⟩
theorem Xux {U Y M low u2 top vlow tn t' dd r : Nat} (hY0 : Y≠0) (hM : 0<M) (hUM : U=low+M*(u2+4294967296*top)) (hYM : Y=vlow+M*(tn+4294967296*t')) (hUlt : U<4294967296*Y) (hvlow : vlow<M) (htnb : tn<4294967296) (htt : 2147483648≤t')
 (hdd : (dd - 1)*t'+(r+t')=top) (hr : 4294967296≤r+t') (hUq : U / Y<dd) : dd - 1<4294967296∧U / Y≤dd - 1∧dd - 1≤U / Y+1:=by
 have hdB : dd - 1<4294967296:=by
  apply W0y
  intro hn2
  have h1:=W1b t' (show 4294967296≤dd - 1 by omega)
  have h2 : top<4294967296*t'+4294967296:=by
   apply W0y
   intro hn3
   have h3 : M*(4294967296*(4294967296*t'+4294967296))≤M*(4294967296*top):=W0m _ (W0m _ (by omega))
   have h4 : Y<M*(4294967296*t'+4294967296):=by
    rw [hYM]
    have : M*(tn+4294967296*t'+1)≤M*(4294967296*t'+4294967296):=W0m _ (by omega)
    rw [W0w M _ 1,W4c] at this
    omega
   have h5 : M*(4294967296*(4294967296*t'+4294967296))=4294967296*(M*(4294967296*t'+4294967296)):=by grind
   have h6 : M*(4294967296*top)≤U:=by rw [hUM,W0w];omega
   omega
  omega
 refine ⟨hdB,by omega,?_⟩
 rw [hUM,hYM]
 refine Xz7 (r:=r+t') hM hvlow hdd ?_ hdB (by omega)
 have h1:=Yjm (a:=dd - 1) (b:=tn) hdB htnb
 omega
theorem Xcm {x y : Nat} (hx : (dig x).length≤549755813888) (hy : (dig y).length≤549755813888) (hy0 : y≠0) : C0 210 [.d (ws (dig x)),.d (ws (dig y))] (·=.tup (.pr (.d (ws (dig (x / y)))) (.d (ws (dig (x % y)))))):=by
 refine En Tryz.func210 fun _ _ _=>?_
 refine Ce rfl (Xbv (by omega)) ?_
 refine By rfl (fun h=>?_) fun h=>?_
 · have hlt : x<y:=Xx3.1 h
   refine Ce rfl (Xbk (by omega)) ?_
   exact RTt rfl (.cons (.nil (by rw [W4h hlt,Xaj];rfl)) (.one (.eq (by rw [W3u hlt])) (fun _ _ e=>by cases e) (fun _ _ e=>by cases e)))
 have hge : y≤x:=W4g fun hlt=>h (Xx3.2 hlt)
 have hlenle:=Xar hge
 refine By rfl (fun h2=>?_) fun h2=>?_ <;> simp only [lw] at h2
 · have hx64 : x<18446744073709551616:=by
    have:=Xc8 x
    have h1 : 4294967296 ^ (dig x).length≤4294967296 ^ 2:=W0h (by decide) (by omega)
    omega
   refine Ce rfl (Xex hx64) ?_
   refine Ce rfl (Xex (by omega)) ?_
   have hq64 : x / y<18446744073709551616:=W1m (W3j ..) hx64
   have hr64 : x % y<18446744073709551616:=W1m (Nat.mod_le ..) hx64
   refine Dw rfl ?_
   refine Ar (x / y : Nat) rfl ?_ (show _∧_ from ⟨by omega,Yaq x y hx64⟩)
   refine Ce rfl (Xb4 hq64) ?_
   refine Ar (x % y : Nat) rfl ?_ (show _∧_ from ⟨by omega,Xq6 x y⟩)
   refine Ce rfl (Xb4 hr64) ?_
   exact R0t
 refine By rfl (fun h3=>?_) fun h3=>?_ <;> simp only [lw] at h3
 · obtain ⟨t,ht⟩:=xat (l:=dig y) (k:=0) (by omega)
   have htb:=ww ht (Xad y)
   have hyt : y=t:=by
    have:=Xac ht
    rw [W0b (by omega),Xaf] at this
    simpa [val] using this
   refine Ix 0 rfl (mp ht) ?_
   refine Ce rfl (Xkb (y:=t) hx htb (by omega)) ?_
   exact RTt rfl (.cons (.eq (by rw [hyt])) (.one (.eq (by rw [hyt])) (fun _ _ e=>by cases e) (fun _ _ e=>by cases e)))
 have hy2 : 2≤(dig y).length:=by
  have : (dig y).length≠0:=fun h=>hy0 (Xqt.1 (W0k h))
  omega
 obtain ⟨t,ht⟩:=xat (l:=dig y) (k:=(dig y).length - 1) (by omega)
 have htb:=ww ht (Xad y)
 have ht0 : t≠0:=by
  rcases Xf9 y with h | ⟨t2,h2,h3⟩
  · rw [h] at hy2;simp at hy2
  · rw [ht] at h2;injection h2 with h2;rw [h2];exact h3
 refine Ar ((dig y).length - 1 : Nat) rfl ?_ (wr (by simp only [lw];omega) (by simp only [inK];omega))
 refine Ix ((dig y).length - 1) rfl (mp ht) ?_
 refine Ca rfl (Xfr htb ht0) fun v hv=>?_
 obtain ⟨s,rfl,hs32,hs1,hs2⟩:=hv
 obtain ⟨hlen,t',ht',htt⟩:=Xpe hy0 ht hs1 hs2
 refine Co rfl (Xfv hx hs32) fun v ob hv=>?_
 obtain ⟨lu0,hul,huw,huv,rfl,rfl⟩:=hv
 refine Ca rfl (Xh1 hy hs32) fun v hv=>?_
 obtain ⟨lv,hvl,hvw,hvv,rfl⟩:=hv
 obtain ⟨Y,hY⟩ : ∃ Y,Y=y*2 ^ s:=⟨_,rfl⟩
 rw [←hY] at hlen ht' hvv
 refine Ce (r:=.d (ws (dig Y))) rfl (by have:=Xay hvw (by omega);rwa [hvv] at this) ?_
 obtain ⟨mv,hmv⟩ : ∃ mv,mv=(dig Y).length:=⟨_,rfl⟩
 have hq0 : lu0.length - mv≤549755813889:=by omega
 refine Ar (lu0.length - mv : Nat) rfl ?_ (wr (by simp only [lw];omega) (by simp only [inK];omega))
 refine Mk (lu0.length - mv) rfl (by omega) ?_
 obtain ⟨tn,htn⟩:=xat (l:=dig Y) (k:=mv - 2) (by omega)
 have htnb:=ww htn (Xad Y)
 have ht1 : (dig Y)[mv - 1]?=some t':=by rw [hmv,hlen];exact ht'
 have htb1:=ww ht1 (Xad Y)
 refine Dw rfl ?_
 refine Ar (mv - 1 : Nat) rfl ?_ (wr (by simp only [lw];omega) (by simp only [inK];omega))
 refine Ix (mv - 1) rfl (mp ht1) ?_
 refine Go.Vm.Cv t' rfl ?_
 refine Ar (mv - 2 : Nat) rfl ?_ (wr (by simp only [lw];omega) (by simp only [inK];omega))
 refine Ix (mv - 2) rfl (mp htn) ?_
 refine Go.Vm.Cv tn rfl ?_
 refine Ar ((lu0.length - mv : Nat) - 1 : Int) rfl ?_
 have hY0 : Y≠0:=by rw [hY];exact Nat.mul_ne_zero hy0 (W7s.1 (W0t s))
 have hYl:=Xc8 Y
 have hYM : Y=val ((dig Y).take (mv - 2))+4294967296 ^ (mv - 2)*(tn+4294967296*t'):=by
  have h1:=Xac htn
  have h2:=Xac (k:=mv - 2+1) (l:=dig Y) (x:=t') (by rw [show mv - 2+1=mv - 1 from by omega];exact ht1)
  rw [show mv - 2+1+1=(dig Y).length from by omega,W2r,Xaf,h1,W0p,W0o] at h2
  rw [W0w];omega
 have hvlow : val ((dig Y).take (mv - 2))<4294967296 ^ (mv - 2):=by
  have:=Xbq ((Xad Y).take (mv - 2))
  rwa [W0j,W1q (by omega)] at this
 have hM : 0<4294967296 ^ (mv - 2):=W6o (by decide)
 have hR0 : val (lu0.drop (lu0.length - mv))<Y:=by
  have h1:=Xbh lu0 (lu0.length - mv) (by omega)
  rw [huv] at h1
  have h2:=Xlq hy0
  have h3:=Xc8 x
  have hp:=W0t s
  apply W0y
  intro hn2
  have h4 : 4294967296 ^ (lu0.length - mv)*Y≤x*2 ^ s:=by
   rw [h1]
   have:=W0m (4294967296 ^ (lu0.length - mv)) (W4g hn2)
   omega
  rw [hY,←W0o] at h4
  have h5:=Nat.le_of_mul_le_mul_right h4 hp
  have h6:=W0m (4294967296 ^ (lu0.length - mv)) h2
  rw [←W0v,show lu0.length - mv+((dig y).length - 1)=(dig x).length from by omega] at h6
  omega
 refine Lo (fun (k,lu,lq)=>[(8,.d (.int .i64 s)),(9,.own 62 1 0 lu0.length),(10,.d (ws (dig Y))),(11,.d (.int .i64 mv)),(12,.own 73 1 0 (lu0.length - mv)),(13,.d (.int .u64 t')),(14,.d (.int .u64 tn)),(15,.d (.int .i64 ((k : Nat) - 1 : Int)))]) (fun (_,lu,lq)=>[(62,.arr 1 (lu.map wd)),(73,.arr 1 (lq.map wd))])
  (fun (k,lu,lq)=>k≤lu0.length - mv∧lu.length=lu0.length∧Xao lu∧lq.length=lu0.length - mv∧Xao lq∧(∀ j,j<k→lu[j]?=lu0[j]?)∧val (lu.drop k)<Y∧val (lq.drop k)*Y+val (lu.drop k)=val (lu0.drop k)) (fun (k,_,_)=>k) (lu0.length - mv,lu0,List.replicate (lu0.length - mv) 0) [] rfl
  ⟨by omega,rfl,huw,by simp,Xer _,fun _ _=>rfl,hR0,by rw [W1z (by simp)];simp [val]⟩ ?_ (by exact ⟨by simp only [lw,ws,hmv];rfl,by simp only [W2e];rfl,rfl,rfl,rfl⟩)
 rintro ⟨k,lu,lq⟩ ⟨hk,hln,hwu,hlq,hwq,hsame,hRlt,hQR⟩
 refine By rfl (fun h=>?_) fun h=>?_
 · obtain ⟨u0,hu0⟩:=xat (l:=lu) (k:=k - 1+mv) (by omega)
   obtain ⟨u1,hu1⟩:=xat (l:=lu) (k:=k - 1+mv - 1) (by omega)
   obtain ⟨u2,hu2⟩:=xat (l:=lu) (k:=k - 1+mv - 2) (by omega)
   have hub0:=ww hu0 hwu
   have hub1:=ww hu1 hwu
   have hub2:=ww hu2 hwu
   obtain ⟨hwin,hUlt⟩:=Xyr (n:=mv) (i:=k - 1) (Y:=Y) hwu (by omega) (by rw [show k - 1+1=k from by omega];exact hRlt) (by rw [hmv];exact W2c hYl)
   have hUM : val (lu.drop (k - 1))=val ((lu.drop (k - 1)).take (mv - 2))+4294967296 ^ (mv - 2)*(u2+4294967296*(u0*2 ^ 32+u1)):=by
    have g1:=Xbw (l:=lu) (q:=k - 1) (i:=mv - 2) (u:=u2) (by rw [show k - 1+(mv - 2)=k - 1+mv - 2 from by omega];exact hu2)
    have g2:=Xbw (l:=lu) (q:=k - 1) (i:=mv - 2+1) (u:=u1) (by rw [show k - 1+(mv - 2+1)=k - 1+mv - 1 from by omega];exact hu1)
    have g3:=Xbw (l:=lu) (q:=k - 1) (i:=mv - 2+1+1) (u:=u0) (by rw [show k - 1+(mv - 2+1+1)=k - 1+mv from by omega];exact hu0)
    rw [show mv - 2+1+1+1=mv+1 from by omega,g2,g1,←hwin] at g3
    rw [g3,W0p,W0p]
    exact Yd7 ..
   have hlow : val ((lu.drop (k - 1)).take (mv - 2))<4294967296 ^ (mv - 2):=by
    have:=Xbq ((hwu.drop (k - 1)).take (mv - 2))
    rwa [W0j,W1p,W1q (by omega)] at this
   obtain ⟨U,hU⟩ : ∃ U,U=val (lu.drop (k - 1)):=⟨_,rfl⟩
   obtain ⟨low,hlowg⟩ : ∃ low,low=val ((lu.drop (k - 1)).take (mv - 2)):=⟨_,rfl⟩
   obtain ⟨vlow,hvlowg⟩ : ∃ vlow,vlow=val ((dig Y).take (mv - 2)):=⟨_,rfl⟩
   obtain ⟨M,hMg⟩ : ∃ M,M=4294967296 ^ (mv - 2):=⟨_,rfl⟩
   obtain ⟨top,htop⟩ : ∃ top,top=u0*2 ^ 32+u1:=⟨_,rfl⟩
   have htopb : top<18446744073709551616:=by omega
   rw [←hU] at hwin hUlt hUM
   rw [←hMg,←hlowg,←htop] at hUM
   rw [←hMg,←hvlowg] at hYM
   rw [←hMg,←hlowg] at hlow
   rw [←hMg,←hvlowg] at hvlow
   rw [←hMg] at hM
   refine Dw rfl ?_
   refine Ar (k - 1+mv : Nat) rfl ?_
   refine Eo (k - 1+mv) rfl (by omega) ?_
   refine Ld (wd u0) rfl (mp hu0) ?_
   refine Go.Vm.Cv u0 rfl ?_
   refine Ar (u0*2 ^ 32 : Nat) rfl ?_ (Xgz (n:=32) rfl (by omega) (by decide))
   refine Ar (k - 1+mv : Nat) rfl ?_
   refine Ar (k - 1+mv - 1 : Nat) rfl ?_
   refine Eo (k - 1+mv - 1) rfl (by omega) ?_
   refine Ld (wd u1) rfl (mp hu1) ?_
   refine Go.Vm.Cv u1 rfl ?_
   refine Ar top rfl ?_ (Xzi (by omega) (by omega) (by rw [Xc2 u1 u0 32 (by omega),←htop]) htopb)
   have hd63 : top / t'<9223372036854775808:=by
    rw [W2m (by omega)]
    have:=W0m 9223372036854775808 htt
    omega
   have hr63 : top % t'<t':=W1r _ (by omega)
   have hdz : 0≤top / t':=W1d _
   refine Dw rfl ?_
   refine Ar (top / t' : Nat) rfl ?_ (show _∧_ from ⟨by omega,Yaq top t' htopb⟩)
   refine Ar (top % t' : Nat) rfl ?_ (show _∧_ from ⟨by omega,Xq6 top t'⟩)
   have hqz : U / Y≤top / t':=by
    apply W4g
    intro hlt
    have h1 : (top / t'+1)*Y≤U:=by
     have:=W6q U Y
     exact W0i (W1b _ hlt) this
    have h2:=W2j top t'
    have h4 : (top / t'+1)*t' ≥ top+1:=by rw [W1g,W1e,W7h];omega
    have h5 : (top / t'+1)*(M*(4294967296*t'))≤(top / t'+1)*Y:=W0m _ (by rw [hYM,W0w];omega)
    have h6 : (top / t'+1)*(M*(4294967296*t'))=M*(4294967296*((top / t'+1)*t')):=by grind
    have h7 : M*(4294967296*(top+1))≤M*(4294967296*((top / t'+1)*t')):=W0m _ (W0m _ h4)
    have h8 : M*(u2+4294967296*top+1)≤M*(4294967296*(top+1)):=W0m _ (by omega)
    rw [W0w M _ 1,W4c] at h8
    omega
   refine Cu (some 1000003) (fun (dd : Nat)=>[(8,.d (.int .i64 s)),(9,.own 62 1 0 lu0.length),(10,.d (ws (dig Y))),(11,.d (.int .i64 mv)),(12,.own 73 1 0 (lu0.length - mv)),(13,.d (.int .u64 t')),(14,.d (.int .u64 tn)),(15,.d (.int .i64 ((k : Nat) - 1 : Int))),(17,.d (.int .u64 dd))]) (fun _=>[(62,.arr 1 (lu.map wd)),(73,.arr 1 (lq.map wd))])
    (fun dd=>dd<4294967296∧U / Y≤dd∧dd≤U / Y+1) rfl ?_ fun dd ⟨hdB,hdq,hdq1⟩=>?_
   · refine Lo (fun (dd,r)=>[(8,.d (.int .i64 s)),(9,.own 62 1 0 lu0.length),(10,.d (ws (dig Y))),(11,.d (.int .i64 mv)),(12,.own 73 1 0 (lu0.length - mv)),(13,.d (.int .u64 t')),(14,.d (.int .u64 tn)),(15,.d (.int .i64 ((k : Nat) - 1 : Int))),(17,.d (.int .u64 (dd : Nat))),(18,.d (.int .u64 (r : Nat)))]) (fun _=>[(62,.arr 1 (lu.map wd)),(73,.arr 1 (lq.map wd))])
      (fun (dd,r)=>U / Y≤dd∧dd*t'+r=top∧r<4294967296∧dd<9223372036854775808) (fun (dd,_)=>dd) (top / t',top % t') [] rfl ⟨hqz,by rw [W1e];exact W2j ..,by omega,hd63⟩ ?_
     rintro ⟨dd,r⟩ ⟨hdq,hdt,hr,hd63⟩
     refine By rfl (fun h1=>?_) fun h1=>?_
     · have hUq : U / Y<dd:=Ygv hUlt (W2h hY0) (by omega)
       have hdd1 : 1≤dd:=W1m (W1d _) hUq
       have hdd : (dd - 1)*t'+(r+t')=top:=by
        obtain ⟨e,rfl⟩ : ∃ e,dd=e+1:=⟨dd - 1,by omega⟩
        rw [W3g];rw [W1g,W7h] at hdt;omega
       refine Ar (dd - 1 : Nat) rfl ?_
       refine Ar (r+t' : Nat) rfl ?_
       refine By rfl (fun h2=>?_) fun h2=>?_
       · exact Jn (dd - 1) [] rfl (Xux hY0 hM hUM hYM hUlt hvlow htnb htt hdd (by omega) hUq)
       · exact Bk (dd - 1,r+t') [] rfl ⟨by omega,hdd,by omega,by omega⟩ (by show dd - 1<dd;omega)
     · have htd : dd*tn<18446744073709551616:=by have:=Yjm (a:=dd) (b:=tn) (by omega) htnb;omega
       refine Ar (dd*tn : Nat) rfl ?_ (wr (W3b ..).symm (by simp only [inK];omega))
       refine Ar (r*2 ^ 32 : Nat) rfl ?_ (Xgz (n:=32) rfl (by omega) (by decide))
       refine Ar (k - 1+mv : Nat) rfl ?_
       refine Ar (k - 1+mv - 2 : Nat) rfl ?_
       refine Eo (k - 1+mv - 2) rfl (by omega) ?_
       refine Ld (wd u2) rfl (mp hu2) ?_
       refine Go.Vm.Cv u2 rfl ?_
       refine Ar (r*2 ^ 32+u2 : Nat) rfl ?_ (Xzi (by omega) (by omega) (Xc2 u2 r 32 (by omega)) (by omega))
       refine By rfl (fun h2=>?_) fun h2=>?_
       · have hUq : U / Y<dd:=by
          have h1 : r*4294967296+u2<dd*tn:=W6y.1 h2
          have h2:=Ygu hlow hM hdt h1 (by rw [←hYM];exact W2h hY0)
          rwa [←hUM,←hYM] at h2
         have hdd1 : 1≤dd:=W1m (W1d _) hUq
         have hdd : (dd - 1)*t'+(r+t')=top:=by
          obtain ⟨e,rfl⟩ : ∃ e,dd=e+1:=⟨dd - 1,by omega⟩
          rw [W3g];rw [W1g,W7h] at hdt;omega
         refine Ar (dd - 1 : Nat) rfl ?_
         refine Ar (r+t' : Nat) rfl ?_
         refine By rfl (fun h2=>?_) fun h2=>?_
         · exact Jn (dd - 1) [] rfl (Xux hY0 hM hUM hYM hUlt hvlow htnb htt hdd (by omega) hUq)
         · exact Bk (dd - 1,r+t') [] rfl ⟨by omega,hdd,by omega,by omega⟩ (by show dd - 1<dd;omega)
       · exact Jn dd [] rfl ⟨by omega,hdq,by
          rw [hUM,hYM]
          exact Xz7 (r:=r) hM hvlow hdt (by have h2:=Int.ofNat_le.1 (Int.not_lt.1 h2);omega) (by omega) (by omega)⟩
   refine Ar (k - 1+mv : Nat) rfl ?_
   refine Ar (k - 1+mv+1 : Nat) rfl ?_
   refine Sw (k - 1) (k - 1+mv+1) rfl (by omega) (by omega) ?_
   refine Cw (args:=[.own 1000001 1 (k - 1) (mv+1),.d (ws (dig Y)),.d (.int .u64 dd)]) [(1000001,62)] rfl (Xmk (l:=lu) hwu (by omega) hmv.symm hdB (by omega)) (fun v H' _ hv=>?_) (by exact congrArg (·::_) (by rw [W1i,show k - 1+mv+1 - (k - 1)=mv+1 by omega];rfl))
   obtain ⟨cc,lu1,hc1,rfl,rfl,hl1,hw1,hout1,hv1⟩:=hv
   have hwin1:=Xbq ((hw1.drop (k - 1)).take (mv+1))
   have hwin0:=Xbq ((hwu.drop (k - 1)).take (mv+1))
   rw [W0j,W1p,W1q (by omega)] at hwin1 hwin0
   rw [←hwin] at hv1 hwin0
   have hstep:=Ya0 (W2h hY0) hdq hdq1 hv1 hc1 hwin1 hwin0
   refine Cu none (fun (lu2 : List Nat)=>[(8,.d (.int .i64 s)),(9,.own 62 1 0 lu0.length),(10,.d (ws (dig Y))),(11,.d (.int .i64 mv)),(12,.own 73 1 0 (lu0.length - mv)),(13,.d (.int .u64 t')),(14,.d (.int .u64 tn)),(15,.d (.int .i64 ((k : Nat) - 1 : Int))),(17,.d (.int .u64 (U / Y : Nat)))]) (fun lu2=>[(62,.arr 1 (lu2.map wd)),(73,.arr 1 (lq.map wd))])
    (fun lu2=>lu2.length=lu0.length∧Xao lu2∧(∀ j,(j<k - 1∨k - 1+(mv+1)≤j)→lu2[j]?=lu[j]?)∧val ((lu2.drop (k - 1)).take (mv+1))=U % Y) rfl ?_ fun lu2 ⟨hl2,hw2,hout,hwinv⟩=>?_
   · refine By rfl (fun h1=>?_) fun h1=>?_
     · obtain ⟨hdd1,hrest1⟩:=hstep.2 h1
       refine Ar (U / Y : Nat) rfl ?_ (wr (by rw [hdd1];exact (by omega : ((U / Y+1 : Nat) : Int) - 1=((U / Y : Nat) : Int))) (by simp only [inK];have:=W1d (U / Y);omega))
       refine Ar (k - 1+mv : Nat) rfl ?_
       refine Ar (k - 1+mv+1 : Nat) rfl ?_
       refine Sw (k - 1) (k - 1+mv+1) rfl (by omega) (by omega) ?_
       refine Cw (args:=[.own 1000001 1 (k - 1) (mv+1),.d (ws (dig Y))]) [(1000001,62)] rfl (Xqh (l:=lu1) hw1 (by omega) hmv.symm (by omega)) (fun v H' _ hv=>?_) (by exact congrArg (·::_) (by rw [W1i,show k - 1+mv+1 - (k - 1)=mv+1 by omega];rfl))
       obtain ⟨e',lu2,he1,rfl,hl2,hw2,hout2,hv2⟩:=hv
       have hwin2:=Xbq ((hw2.drop (k - 1)).take (mv+1))
       rw [W0j,W1p,W1q (by omega)] at hwin2
       exact Jn lu2 [] rfl ⟨by omega,hw2,fun j hj=>(hout2 j hj).trans (hout1 j hj),hrest1 _ e' hwin2 hv2 he1⟩
     · obtain ⟨hdd1,hrest1⟩:=hstep.1 (by omega)
       subst hdd1
       exact Jn lu1 [] rfl ⟨by omega,hw1,hout1,hrest1⟩
   have hqB : U / Y<4294967296:=by omega
   have hqz0 : 0≤U / Y:=W1d _
   refine Go.Vm.Cv (U / Y : Nat) rfl ?_
   refine Eo (k - 1) rfl (by omega) ?_
   refine Sto rfl (by simp only [lw];omega) ms ?_
   refine Ar ((k - 1 : Nat) - 1 : Int) rfl ?_
   have hY1 : 0<Y:=W2h hY0
   have hab : val (lu2.drop (k - 1))=U % Y:=by
    have g1:=Xbh (lu2.drop (k - 1)) (mv+1) (by rw [W1p];omega)
    have g2:=Xbh (lu.drop (k - 1)) (mv+1) (by rw [W1p];omega)
    have g3 : (lu2.drop (k - 1)).drop (mv+1)=(lu.drop (k - 1)).drop (mv+1):=by
     rw [W5m,W5m]
     exact Xd7 fun j hj=>hout j (.inr hj)
    rw [←hU,←hwin] at g2
    rw [g1,hwinv,g3]
    omega
   refine Bk (k - 1,lu2,lq.set (k - 1) (U / Y)) [] rfl ⟨by omega,hl2,hw2,by simp [hlq],Xfs hwq hqB,fun j hj=>(hout j (.inl hj)).trans (hsame j (by omega)),by rw [hab];exact W1r _ hY1,?_⟩ (by show k - 1<k;omega)
   obtain ⟨w,hw⟩:=xat (l:=lu) (k:=k - 1) (by omega)
   have hw2' : lu0[k - 1]?=some w:=by rw [←hsame (k - 1) (by omega)];exact hw
   have g1:=Xbr hw
   have g2:=Xbr hw2'
   have g3:=Xbr (l:=lq.set (k - 1) (U / Y)) (k:=k - 1) (W2s (by omega))
   have g4 : (lq.set (k - 1) (U / Y)).drop (k - 1+1)=lq.drop (k - 1+1):=Xd7 fun j hj=>W1v (by omega)
   rw [show k - 1+1=k from by omega] at g1 g2 g3 g4
   rw [hab,g2,g3,g4,←hQR,W1g,W0o,W0w]
   have g5:=W2j U Y
   rw [W1e] at g5
   rw [←hU] at g1
   omega
 · have hk0 : k=0:=by omega
   subst hk0
   rw [W1f] at hRlt hQR
   rw [W1f,W1f,huv] at hQR
   obtain ⟨hQ,hR⟩:=Xup hY.symm hQR hRlt
   have htk : val (lu.take mv)=val lu:=by
    have g:=Xbh lu mv (by omega)
    rw [hmv] at g
    rcases W2n (val (lu.drop (dig Y).length)) with h5 | h5
    · rw [h5,W2x] at g;rw [hmv];omega
    · have:=W4e (4294967296 ^ (dig Y).length) h5
      omega
   refine Fz 26 12 (lq.map wd) rfl (by simp only [lw];omega) (oa hlq) ?_
   refine Fz 26 9 (lu.map wd) rfl (by simp only [lw];omega) (oa hln) ?_
   refine Dw rfl ?_
   refine Ce rfl (Xay hwq (by omega)) ?_
   refine Tk mv (lu.take mv |>.map wd) rfl rfl (by simp only [lw];omega) (W2g ..).symm ?_
   refine Ce rfl (Xay (hwu.take mv) (by rw [W0j];omega)) ?_
   refine Ca rfl (Xe0 (Xad _) (by rw [htk];have:=Xar (W2c hRlt);omega) hs32) fun v hv=>?_
   obtain ⟨l8,hl8,hw8,hn8,rfl⟩:=hv
   rw [Xaf,htk,hR,Nat.mul_div_cancel _ (W0t s)] at hl8
   refine Ce rfl (Xay hw8 (by rw [hn8,htk];have:=Xar (W2c hRlt);omega)) ?_
   exact RTt rfl (.cons (.eq (by rw [hQ])) (.one (.eq (by rw [hl8])) (fun _ _ e=>by cases e) (fun _ _ e=>by cases e)))
end
end Go.Proofs.YtclmecgphleeeaaGreatDoor
namespace Go.Num
def rt : Nat→Nat
 | 0=>0
 | n+1=>if (rt n+1)*(rt n+1)≤n+1 then rt n+1 else rt n
theorem Xdb (n : Nat) : rt n*rt n≤n∧n<(rt n+1)*(rt n+1):=by
 induction n with
 | zero=>exact ⟨W0a _,by decide⟩
 | succ n ih =>
  obtain ⟨h1,h2⟩:=ih
  simp only [rt]
  split
  · rename_i h
    refine ⟨h,?_⟩
    have : (rt n+1+1)*(rt n+1+1)=(rt n+1)*(rt n+1)+2*(rt n+1)+1:=by grind
    omega
  · rename_i h
    exact ⟨by omega,by omega⟩
theorem Xv8 {x y : Nat} (h : x*x<y*y) : x<y:=by
 by_cases h1 : x<y
 · exact h1
 · have:=W2a (W4g h1) (W4g h1)
   omega
theorem Ye3 {n s : Nat} (h1 : s*s≤n) (h2 : n<(s+1)*(s+1)) : rt n=s:=by
 obtain ⟨g1,g2⟩:=Xdb n
 have k1 : rt n<s+1:=Xv8 (by omega)
 have k2 : s<rt n+1:=Xv8 (by omega)
 omega
theorem Ye2 {n : Nat} (h : n≠0) : 0<rt n:=by
 have:=(Xdb n).2
 by_cases h0 : rt n=0
 · rw [h0] at this;omega
 · omega
theorem Xzq {a x : Nat} (hx : 0<x) : rt a≤(x+a / x) / 2:=by
 obtain ⟨h1,h2⟩:=Xdb a
 generalize rt a=s at *
 by_cases h : s≤(x+a / x) / 2
 · exact h
 · exfalso
   have h3 : x+a / x+1≤2*s:=by omega
   have h4 : a<(a / x+1)*x:=by
    have:=W2j a x
    have:=W1r a hx
    rw [W1g,W1e (a / x)];omega
   obtain ⟨q,hq⟩ : ∃ q,q=a / x+1:=⟨_,rfl⟩
   rw [←hq] at h4
   have h5 : x+q≤2*s:=by omega
   have h6 : q*x≤s*s:=by
    by_cases hxs : x≤s
    · obtain ⟨e,rfl⟩ : ∃ e,s=x+e:=⟨s - x,by omega⟩
      have : q≤x+2*e:=by omega
      have h7:=W1b x this
      have : (x+e)*(x+e)=(x+2*e)*x+e*e:=by grind
      omega
    · obtain ⟨e,he⟩ : ∃ e,x=s+e:=⟨x - s,by omega⟩
      subst he
      have h8 : q+e≤s:=by omega
      obtain ⟨f,rfl⟩ : ∃ f,s=q+e+f:=⟨s - q - e,by omega⟩
      have : (q+e+f)*(q+e+f)=q*(q+e+f+e)+(e*e+2*(e*f)+f*q+f*f):=by grind
      omega
   omega
theorem Xqn {a x : Nat} (hx : 0<x) (h : x≤(x+a / x) / 2) (hr : rt a≤x) : rt a=x:=by
 have h1 : x≤a / x:=by omega
 have h2 : x*x≤a:=W0i (W1b x h1) (W6q a x)
 have h3:=(Xdb a).2
 have h4 : x<rt a+1:=Xv8 (by omega)
 omega
theorem Xsd {a B n : Nat} (h : a<2 ^ B) (hn : B≤2*n) : rt a<2 ^ n:=by
 refine Xv8 ?_
 rw [←W0v,←Nat.two_mul]
 exact W1m (Xdb a).1 (W0r h (W0h (by decide) hn))
theorem Xg7 (n : Nat) : 4294967296 ^ (n / 32)*2 ^ (n % 32)=2 ^ n:=by
 rw [show (4294967296 : Nat)=2 ^ 32 from rfl,←W5n,←W0v]
 congr 1
 omega
theorem Xnj (n : Nat) : dig (2 ^ n)=(List.replicate (n / 32+1) 0).set (n / 32) (2 ^ (n % 32)):=by
 have hb : 2 ^ (n % 32)<4294967296:=W0r (W4i (by decide) (W1r n (by decide))) (by decide)
 have hv : val ((List.replicate (n / 32+1) 0).set (n / 32) (2 ^ (n % 32)))=2 ^ n:=by
  have:=Xa8 (l:=List.replicate (n / 32+1) 0) (k:=n / 32) (d:=2 ^ (n % 32)) (by simp)
  rw [W0b (by simp),W5l,Xbp,W1i,Xg7] at this
  exact this
 have hw : Xao ((List.replicate (n / 32+1) 0).set (n / 32) (2 ^ (n % 32))):=by
  intro y hy
  rcases W5c hy with h | h
  · have:=W6a h;omega
  · omega
 rw [←hv]
 refine Xcz hw (Xew hw (by simp) ?_)
 rw [hv,W3k,W1y,W3g,←Xg7 n]
 exact W4e _ (W0t _)
theorem Xas (a b : Int) : (a<b∧Xa1 a b=-1)∨(a=b∧Xa1 a b=0)∨(b<a∧Xa1 a b=1):=by
 unfold Xa1
 split
 · left;exact ⟨by assumption,rfl⟩
 · split
   · right;right;exact ⟨by omega,rfl⟩
   · right;left;exact ⟨by omega,rfl⟩
theorem Xev {l : List Nat} {j x : Nat} (h : l[j]?=some x) : val l=val (l.take j)+4294967296 ^ j*(x+4294967296*val (l.drop (j+1))):=by
 have hj : j<l.length:=(W1a.1 h).1
 rw [Xbh l j (by omega),Xbr h]
end Go.Num
namespace Go.Proofs.YtclmecgphleeeaaGreatDoor
open Go Go.Vm Go.Num
section
theorem Xau (z : Int) : (z<0∧z=-(z.natAbs : Int))∨(¬ z<0∧z=(z.natAbs : Int)):=by omega
theorem Xy6 (z : Int) : sg (!decide (z<0)) z.natAbs=-z:=by
 rcases Xau z with ⟨h,e⟩ | ⟨h,e⟩ <;> simp [sg,h] <;> omega
theorem Xy7 (x y : Int) : sg (decide (x<0) != decide (y<0)) (x.natAbs*y.natAbs)=x*y:=by
 rcases Xau x with ⟨h,e⟩ | ⟨h,e⟩ <;> rcases Xau y with ⟨h',e'⟩ | ⟨h',e'⟩ <;>
  (simp only [sg,h,h',decide_true,decide_false]
   generalize x.natAbs=a at *
   generalize y.natAbs=b at *
   subst e
   subst e'
   simp [Int.neg_mul,Int.mul_neg])
theorem Xy8 {x y : Int} (h : decide (x<0)=decide (y<0)) : sg (decide (x<0)) (x.natAbs+y.natAbs)=x+y:=by
 rcases Xau x with ⟨h1,e⟩ | ⟨h1,e⟩ <;> rcases Xau y with ⟨h2,e'⟩ | ⟨h2,e'⟩ <;> simp [h1,h2] at h <;> simp [sg,h1] <;> omega
theorem Xoj {x y : Int} (h : decide (x<0)≠decide (y<0)) (hle : y.natAbs≤x.natAbs) : sg (decide (x<0)) (x.natAbs - y.natAbs)=x+y:=by
 rcases Xau x with ⟨h1,e⟩ | ⟨h1,e⟩ <;> rcases Xau y with ⟨h2,e'⟩ | ⟨h2,e'⟩ <;> simp [h1,h2] at h <;> simp [sg,h1] <;> omega
theorem Xur {n : Nat} (h : (dig n).length≤2) : n<18446744073709551616:=by
 have:=Xc8 n
 have h1 : 4294967296 ^ (dig n).length≤4294967296 ^ 2:=W0h (by decide) h
 omega
theorem Xge (n : Nat) : sg false n=(n : Int):=rfl
theorem Xxk {a b : Int} (hb : b≠0) (h : decide (a<0)=decide (b<0)) : sg (decide (a<0) != decide (b<0)) (a.natAbs / b.natAbs)=a.fdiv b∧sg (decide (b<0)) (a.natAbs % b.natAbs)=a.fmod b:=by
 rcases Xau a with ⟨h1,e⟩ | ⟨h1,e⟩ <;> rcases Xau b with ⟨h2,e'⟩ | ⟨h2,e'⟩ <;> simp [h1,h2] at h <;> simp only [sg,h1,h2,decide_true,decide_false]
 all_goals
  generalize a.natAbs=x at *
  generalize b.natAbs=y at *
  subst e
  subst e'
  simp [W1n,W5t]
theorem Ycq (x y : Nat) (hy : 0<y) : (-(x : Int)).fdiv y=-((x / y+if 0<x % y then 1 else 0 : Nat) : Int)∧(-(x : Int)).fmod y=((if 0<x % y then y - x % y else 0 : Nat) : Int):=by
 rw [W1n _ (by omega),W5t _ (by omega)]
 have h1:=W2j x y
 have h2:=W1r x hy
 refine (W7p (by omega)).2 ?_
 generalize x / y=q at *
 generalize x % y=r at *
 split
 · refine ⟨?_,by omega,by omega⟩
   rw [←h1,Int.natCast_sub (by omega)]
   push_cast
   grind
 · have : r=0:=by omega
   subst this
   refine ⟨?_,by omega,by omega⟩
   rw [←h1]
   push_cast
   grind
theorem Xpu {a b : Int} (hb : b≠0) (h : decide (a<0)≠decide (b<0)) : sg (decide (a<0) != decide (b<0)) (a.natAbs / b.natAbs+if 0<a.natAbs % b.natAbs then 1 else 0)=a.fdiv b∧sg (decide (b<0)) (if 0<a.natAbs % b.natAbs then b.natAbs - a.natAbs % b.natAbs else 0)=a.fmod b:=by
 rcases Xau a with ⟨h1,e⟩ | ⟨h1,e⟩ <;> rcases Xau b with ⟨h2,e'⟩ | ⟨h2,e'⟩ <;> simp [h1,h2] at h <;> simp only [sg,h1,h2,decide_true,decide_false]
 all_goals
  generalize a.natAbs=x at *
  generalize b.natAbs=y at *
  subst e
  subst e'
  have hf:=Ycq x y (by omega)
 · rw [hf.1,hf.2]
   exact ⟨rfl,rfl⟩
 · have e1 : (x : Int).fdiv (-(y : Int))=(-(x : Int)).fdiv y:=by rw [←W7l,Int.neg_neg]
   have e2 : (x : Int).fmod (-(y : Int))=-((-(x : Int)).fmod y):=by rw [←Int.neg_fmod_neg,Int.neg_neg]
   rw [e1,e2,hf.1,hf.2]
   exact ⟨rfl,rfl⟩
theorem Xlt {a b : Int} (h : Xa1 a 0≠Xa1 b 0) : Xa1 (Xa1 a 0) (Xa1 b 0)=Xa1 a b:=by
 rcases Xas a 0 with ⟨h1,e1⟩ | ⟨h1,e1⟩ | ⟨h1,e1⟩ <;> rcases Xas b 0 with ⟨h2,e2⟩ | ⟨h2,e2⟩ | ⟨h2,e2⟩ <;> rw [e1,e2] at h ⊢ <;>
  first | exact absurd rfl h | (rcases Xas a b with ⟨h3,e3⟩ | ⟨h3,e3⟩ | ⟨h3,e3⟩ <;> rw [e3] <;> first | rfl | omega)
theorem Xlu {a b : Int} (h : Xa1 a 0=Xa1 b 0) : Xa1 a 0*Xa1 (a.natAbs : Int) (b.natAbs : Int)=Xa1 a b:=by
 rcases Xas a 0 with ⟨h1,e1⟩ | ⟨h1,e1⟩ | ⟨h1,e1⟩ <;> rcases Xas b 0 with ⟨h2,e2⟩ | ⟨h2,e2⟩ | ⟨h2,e2⟩ <;> rw [e1,e2] at h <;>
  first | (exact absurd h (by decide)) | (rw [e1];rcases Xas a b with ⟨h3,e3⟩ | ⟨h3,e3⟩ | ⟨h3,e3⟩ <;> rcases Xas (a.natAbs : Int) (b.natAbs : Int) with ⟨h4,e4⟩ | ⟨h4,e4⟩ | ⟨h4,e4⟩ <;> rw [e3,e4] <;> first | rfl | omega)
theorem Xu9 {t : Nat} (h : t<4294967296) : bl t≤32:=by
 by_cases h0 : t=0
 · subst h0;decide
 · have:=(Xca h0).1
   by_cases h2 : bl t≤32
   · exact h2
   · have : 2 ^ 32≤2 ^ (bl t - 1):=W0h (by decide) (by omega)
     omega
theorem Xn6 {n m t : Nat} (hm : m=(dig n).length) (hm0 : 0<m) (ht : (dig n)[m - 1]?=some t) : n<2 ^ (32*(m - 1)+bl t):=by
 have h0:=Xev ht
 have hd : (dig n).drop (m - 1+1)=[]:=W1z (by omega)
 rw [Xaf,hd] at h0
 have h1:=Xbq ((Xad n).take (m - 1))
 rw [W0j,show min (m - 1) (dig n).length=m - 1 from by omega] at h1
 have e : (4294967296 : Nat) ^ (m - 1)=2 ^ (32*(m - 1)):=by rw [show (4294967296 : Nat)=2 ^ 32 from rfl,←W5n]
 have h2 : t<2 ^ bl t:=by
  by_cases ht0 : t=0
  · subst ht0;exact W0t _
  · exact (Xca ht0).2.1
 have h3:=W0m (4294967296 ^ (m - 1)) (show t+1≤2 ^ bl t from h2)
 rw [W0w,W4c] at h3
 rw [W0v,←e]
 simp only [val,W2x,W2i] at h0
 omega
theorem Ybk {n : Nat} : 2 ^ (n % 32)<4294967296:=W0r (W4i (by decide) (W1r n (by decide))) (by decide)
theorem Xm5 {n : Nat} : (dig (2 ^ n)).length=n / 32+1:=by rw [Xnj];simp
theorem f0 {g : Hp} {K : Hpl} : Fit g K (.st (.pr (.b false) .nil)) (.d (dz 0)):=.sd (.pd (.bd rfl) (.nil (by rw [Int.natAbs_zero,Xaj];rfl)))
theorem f0' {g : Hp} {K : Hpl} {z : Int} (h : z=0) : Fit g K (.st (.pr (.b false) .nil)) (.d (dz z)):=h ▸ f0
theorem Yad {a b : Bool} : dc (¬ (a=true↔b=true))=(a != b):=by rw [Xuy];cases a <;> cases b <;> rfl
theorem Ykc {a b : Bool} : (a=true↔b=true)↔a=b:=W5e.symm
theorem Xb7 {n : Nat} (h : (dig n).length≤1099511627776) : C0 68 [.d (ws (dig n))] (·=.d (ws (dig n))):=trim_dig_ok h
theorem Norm_ok {z : Int} (h : (dig z.natAbs).length≤1099511627776) : C0 110 [.d (dz z)] (·=.d (dz z)):=by
 refine En Tryz.func110 fun _ _ _=>?_
 refine Dw rfl ?_
 refine Ce rfl (Xb7 h) ?_
 refine Ce rfl (Xbk h) ?_
 refine Ce rfl (Xai h) ?_
 exact R1 rfl (.eq (by rw [Xok]))
theorem Neg_ok {z : Int} (h : (dig z.natAbs).length≤1099511627776) : C0 89 [.d (dz z)] (·=.d (dz (-z))):=by
 refine En Tryz.func89 fun _ _ _=>?_
 refine Dw rfl ?_
 refine Ce rfl (Xb7 h) ?_
 refine Ce rfl (Xbk h) ?_
 refine Ce rfl (Xai h) ?_
 exact R1 rfl (.eq (by rw [Xy6]))
theorem Sign_ok {z : Int} (h : (dig z.natAbs).length≤1099511627776) : C0 218 [.d (dz z)] (·=.d (.int .i64 (Xa1 z 0))):=by
 refine En Tryz.func218 fun _ _ _=>?_
 refine Ce rfl (Xb7 h) ?_
 refine By rfl (fun h1=>?_) fun h1=>?_ <;> simp only [lw] at h1
 · have : z=0:=by have:=Xqt.1 (W0k (by omega : (dig z.natAbs).length=0));omega
   exact R1 rfl (.eq (by rw [this];rfl))
 · have h0 : z≠0:=fun e=>h1 (by rw [e,Int.natAbs_zero,Xaj];rfl)
   refine By rfl (fun h2=>?_) fun h2=>?_
   · exact R1 rfl (.eq (by rw [Xa1,if_pos h2]))
   · exact R1 rfl (.eq (by rw [Xa1,if_neg h2,if_pos (by omega)]))
theorem Cmp_ok {a b : Int} (ha : (dig a.natAbs).length≤1099511627776) (hb : (dig b.natAbs).length≤1099511627776) : C0 217 [.d (dz a),.d (dz b)] (·=.d (.int .i64 (Xa1 a b))):=by
 refine En Tryz.func217 fun _ _ _=>?_
 refine Dw rfl ?_
 refine Ce rfl (Sign_ok ha) ?_
 refine Ce rfl (Sign_ok hb) ?_
 refine By rfl (fun h1=>?_) fun h1=>?_
 · refine Ce rfl Xcs ?_
   exact R1 rfl (.eq (by rw [Xlt h1]))
 · have h1 : Xa1 a 0=Xa1 b 0:=W3x.1 h1
   refine Dw rfl ?_
   refine Ce rfl (Xb7 ha) ?_
   refine Ce rfl (Xb7 hb) ?_
   refine Ce rfl (Xbv ha) ?_
   refine Ar (Xa1 a b) rfl ?_ (wr (Xlu h1) (by simp only [inK];rcases Xas a b with ⟨g1,g2⟩ | ⟨g1,g2⟩ | ⟨g1,g2⟩ <;> omega))
   exact R0
theorem Mul_ok {a b : Int} (ha : (dig a.natAbs).length≤549755813888) (hb : (dig b.natAbs).length≤549755813888) : C0 97 [.d (dz a),.d (dz b)] (·=.d (dz (a*b))):=by
 refine En Tryz.func97 fun _ _ _=>?_
 refine Dw rfl ?_
 refine Ce rfl (Xb7 (by omega)) ?_
 refine Ce rfl (Xb7 (by omega)) ?_
 refine Ce rfl (Xi9 ha hb) ?_
 refine Ce rfl (Xai (W0i (Xjy ..) (by omega))) ?_
 exact R1 rfl (.eq (by rw [Yad,Xy7]))
theorem Yj5 {x y : Nat} : ¬ Xa1 (x : Int) (y : Int)<0↔y≤x:=by rw [Xx3];omega
theorem Add_ok {a b : Int} (ha : (dig a.natAbs).length≤549755813888) (hb : (dig b.natAbs).length≤549755813888) : C0 96 [.d (dz a),.d (dz b)] (·=.d (dz (a+b))):=by
 refine En Tryz.func96 fun _ _ _=>?_
 refine Dw rfl ?_
 refine Ce rfl (Xb7 (by omega)) ?_
 refine Ce rfl (Xb7 (by omega)) ?_
 refine By rfl (fun h=>?_) fun h=>?_ <;> rw [Ykc] at h
 · refine Dw rfl ?_
   refine Ce rfl (Xg8 (by omega) (by omega)) ?_
   refine Ce rfl (Xai (W0i (Xfo ..) (by omega))) ?_
   exact R1 rfl (.eq (by rw [Xy8 h]))
 · refine Ce rfl (Xbv (by omega)) ?_
   refine By rfl (fun h1=>?_) fun h1=>?_
   · have hle:=W2c (Xx3.1 h1)
     refine Dw rfl ?_
     refine Ce rfl (Xdh (by omega) hle) ?_
     refine Ce rfl (Xai (W0i (Xar (Nat.sub_le ..)) (by omega))) ?_
     exact R1 rfl (.eq (by rw [Xoj (fun e=>h e.symm) hle,Int.add_comm]))
   · have hle:=Yj5.1 h1
     refine Dw rfl ?_
     refine Ce rfl (Xdh (by omega) hle) ?_
     refine Ce rfl (Xai (W0i (Xar (Nat.sub_le ..)) (by omega))) ?_
     exact R1 rfl (.eq (by rw [Xoj h hle]))
theorem GCD_ok {a b : Int} (ha : (dig a.natAbs).length≤549755813888) (hb : (dig b.natAbs).length≤549755813888) : C0 155 [.d (dz a),.d (dz b)] (·=.d (dz (Int.gcd a b))):=by
 have hz : ∀ {x : Nat},(dig x).length=0↔x=0:=fun {x}=>⟨fun h=>Xqt.1 (W0k h),fun h=>by rw [h,Xaj];rfl⟩
 refine En Tryz.func155 fun _ _ _=>?_
 refine Dw rfl ?_
 refine Ce rfl (Xb7 (by omega)) ?_
 refine Ce rfl (Xb7 (by omega)) ?_
 refine Cu (some 1000000) (fun ((x,y) : Nat × Nat)=>[(4,.ptr 4 0),(5,.d (ws (dig x))),(6,.d (ws (dig y)))]) (fun _=>[(4,.var (.st (.pr (.b false) .nil)))]) (fun (x,y)=>Nat.gcd x y=Int.gcd a b∧(dig x).length≤549755813888∧(dig y).length≤2∧((dig x).length≤2∨y=0)) rfl ?_ fun ⟨x,y⟩ ⟨hg,hx,hy,hxy⟩=>?_
 · refine Lo (fun ((x,y) : Nat × Nat)=>[(4,.ptr 4 0),(5,.d (ws (dig x))),(6,.d (ws (dig y)))]) (fun _=>[(4,.var (.st (.pr (.b false) .nil)))]) (fun (x,y)=>Nat.gcd x y=Int.gcd a b∧(dig x).length≤549755813888∧(dig y).length≤549755813888) (fun (_,y)=>y) (a.natAbs,b.natAbs) [] rfl ⟨rfl,ha,hb⟩ fun ⟨x,y⟩ ⟨hg,hx,hy⟩=>?_
   have step : y≠0→Nat.gcd y (x % y)=Int.gcd a b∧(dig y).length≤549755813888∧(dig (x % y)).length≤549755813888∧x % y<y:=fun h0=>by
    have hlt:=W1r x (W2h h0)
    exact ⟨by rw [←hg,W6z y,←Nat.gcd_rec,W6z],hy,W0i (Xar (W2c hlt)) hy,hlt⟩
   refine By rfl (fun h1=>?_) fun h1=>?_ <;> simp only [lw] at h1
   · have h0 : y≠0:=fun e=>by have:=hz.2 e;omega
     refine Ce rfl (Xcm hx hy h0) ?_
     have h2:=step h0
     exact Bk (y,x % y) [] rfl ⟨h2.1,h2.2.1,h2.2.2.1⟩ h2.2.2.2
   refine By rfl (fun h2=>?_) fun h2=>?_ <;> simp only [lw] at h2
   · refine By rfl (fun h3=>?_) fun h3=>?_ <;> simp only [lw] at h3
     · have h0 : y≠0:=fun e=>by have:=hz.2 e;omega
       refine Ce rfl (Xcm hx hy h0) ?_
       have h2:=step h0
       exact Bk (y,x % y) [] rfl ⟨h2.1,h2.2.1,h2.2.2.1⟩ h2.2.2.2
     · exact Jn (x,y) [] rfl ⟨hg,hx,by omega,.inr (hz.1 (by omega))⟩
   · exact Jn (x,y) [] rfl ⟨hg,hx,by omega,.inl (by omega)⟩
 refine By rfl (fun h=>?_) fun h=>?_ <;> simp only [lw] at h
 · have h0 : y=0:=hz.1 (by omega)
   subst h0
   rw [Nat.gcd_zero_right] at hg
   refine Ce rfl (Xbk (by omega)) ?_
   refine Ce rfl (Xai (b:=false) (by omega)) ?_
   exact R1 rfl (.eq (by rw [Xge,hg]))
 · have hlt1 : x<18446744073709551616:=Xur (by rcases hxy with h | h;exact h;exact absurd (hz.2 h) (by omega))
   have hlt2 : y<18446744073709551616:=Xur (by omega)
   refine Ce rfl (Xex hlt1) ?_
   refine Ce rfl (Xex hlt2) ?_
   refine Lo (fun ((x,y) : Nat × Nat)=>[(4,.ptr 4 0),(9,.d (.int .u64 x)),(10,.d (.int .u64 y))]) (fun _=>[(4,.var (.st (.pr (.b false) .nil)))]) (fun (x,y)=>x<18446744073709551616∧y<18446744073709551616∧Nat.gcd x y=Int.gcd a b) (fun (_,y)=>y) (x,y) [] rfl ⟨hlt1,hlt2,hg⟩ fun ⟨x,y⟩ ⟨hx,hy,hg⟩=>?_
   refine By rfl (fun h=>?_) fun h=>?_
   · have hy0 : y≠0:=by omega
     have hltm:=W1r x (W2h hy0)
     refine Dw rfl ?_
     refine Ar (x % y : Nat) rfl ?_ (show _∧_ from ⟨by omega,Xq6 x y⟩)
     exact Bk (y,x % y) [] rfl ⟨hy,by omega,by rw [←hg,W6z y,←Nat.gcd_rec,W6z]⟩ hltm
   · have h0 : y=0:=by omega
     subst h0
     rw [Nat.gcd_zero_right] at hg
     refine Ce rfl (Xb4 hx) ?_
     refine Ce rfl (Xai (b:=false) (W0i (Xan (k:=2) (by omega)) (by omega))) ?_
     exact R1 rfl (.eq (by rw [Xge,hg]))
theorem Yd2 : dig 1=[1]:=by rw [Xel (by decide),show 1 / 4294967296=0 from rfl,Xaj]
theorem Xwu {x : Nat} (hx : (dig x).length≤1099511627775) : C0 151 [.d (ws (dig x)),.d (.sl 1 [.int .u32 1])] (·=.d (ws (dig (x+1)))):=by
 have:=Xg8 (y:=1) hx (by rw [Yd2];decide)
 rw [Yd2] at this
 exact this
theorem DivMod_ok {a b : Int} (ha : (dig a.natAbs).length≤549755813888) (hb : (dig b.natAbs).length≤549755813888) (hb0 : b≠0) : C0 161 [.d (dz a),.d (dz b)] (·=.tup (.pr (.d (dz (a.fdiv b))) (.pr (.d (dz (a.fmod b))) (.d (.int .i64 0))))):=by
 have hz : ∀ {x : Nat},(dig x).length=0↔x=0:=fun {x}=>⟨fun h=>Xqt.1 (W0k h),fun h=>by rw [h,Xaj];rfl⟩
 have hq : (dig (a.natAbs / b.natAbs)).length≤549755813888:=W0i (Xar (W3j ..)) ha
 have hr : (dig (a.natAbs % b.natAbs)).length≤549755813888:=W0i (Xar (Nat.mod_le ..)) ha
 have hq1 : (dig (a.natAbs / b.natAbs+1)).length≤549755813889:=W0i (Xfo ..) (by rw [Yd2];simp;omega)
 refine En Tryz.func161 fun _ _ _=>?_
 refine Ce rfl (Xb7 (by omega)) ?_
 refine By rfl (fun h=>?_) fun h=>?_ <;> simp only [lw] at h
 · exact absurd ((@hz b.natAbs).1 (by omega)) (by omega)
 refine Ce rfl (Xb7 (by omega)) ?_
 refine Ce rfl (Xcm ha hb (by omega)) ?_
 refine By rfl (fun h1=>?_) fun h1=>?_ <;> rw [Ykc] at h1
 · refine By rfl (fun h2=>?_) fun h2=>?_ <;> simp only [lw] at h2
   · have hp : 0<a.natAbs % b.natAbs:=W2h fun e=>by have:=hz.2 e;omega
     have hf:=Xpu hb0 h1
     rw [if_pos hp,if_pos hp] at hf
     refine Ce rfl (Xwu (x:=a.natAbs / b.natAbs) (by omega)) ?_
     refine Ce rfl (Xdh (by omega) (W2c (W1r _ (by omega)))) ?_
     refine Dw rfl ?_
     refine Ce rfl (Xai (by omega)) ?_
     refine Ce rfl (Xai (W0i (Xar (Nat.sub_le ..)) (by omega))) ?_
     exact RTt rfl (.cons (.eq (by rw [Yad,hf.1])) (.cons (.eq (by rw [hf.2])) (.one (.rf rfl) (fun _ _ e=>by cases e) (fun _ _ e=>by cases e))))
   · have hp : ¬ 0<a.natAbs % b.natAbs:=fun hp=>by have:=mt hz.1 (W7s.1 hp);omega
     have hf:=Xpu hb0 h1
     rw [if_neg hp,if_neg hp,W2i] at hf
     refine Dw rfl ?_
     refine Ce rfl (Xai (by omega)) ?_
     refine Ce rfl (Xai (by omega)) ?_
     exact RTt rfl (.cons (.eq (by rw [Yad,hf.1])) (.cons (.eq (by rw [show a.natAbs % b.natAbs=0 by omega,hf.2])) (.one (.rf rfl) (fun _ _ e=>by cases e) (fun _ _ e=>by cases e))))
 · have hf:=Xxk hb0 (W3x.1 h1)
   refine Dw rfl ?_
   refine Ce rfl (Xai (by omega)) ?_
   refine Ce rfl (Xai (by omega)) ?_
   exact RTt rfl (.cons (.eq (by rw [Yad,hf.1])) (.cons (.eq (by rw [hf.2])) (.one (.rf rfl) (fun _ _ e=>by cases e) (fun _ _ e=>by cases e))))
theorem Yci {x : Nat} (hx : (dig x).length≤549755813888) : C0 286 [.d (ws (dig x))] (·=.d (ws (dig (x / 2)))):=by
 refine En Tryz.func286 fun _ _ _=>?_
 refine Ca rfl (Xe0 (n:=1) (Xad x) hx (by decide)) fun v hv=>?_
 obtain ⟨l,h1,h2,h3,rfl⟩:=hv
 rw [Xaf] at h1
 refine Ce rfl (Xay h2 (by omega)) ?_
 exact R1 rfl (.eq (by rw [h1]))
theorem Xgb {j : Nat} (h : j<32) : arB .shl .u32 1 j (2 ^ j : Nat):=⟨by omega,by
 rw [W7f,show min j (IntKind.bits .u32)=j from W1q (W2c h),W5o,show (2 : Int) ^ j=((2 ^ j : Nat) : Int) by rw [W7o];rfl]
 have : 2 ^ j<2 ^ 32:=W4i (by decide) h
 exact wW ⟨W5p _,W6y.2 this⟩⟩
theorem Xd1 {n : Nat} (hn : n≤8796093022210) : C0 285 [.d (.int .i64 n)] (·=.d (ws (dig (2 ^ n)))):=by
 refine En Tryz.func285 fun _ _ _=>?_
 refine Ar (n / 32 : Nat) rfl ?_ (show _∧_ from ⟨by decide,by rw [show Int.tdiv (n : Int) 32=((n / 32 : Nat) : Int) from rfl];exact wI (by omega)⟩)
 refine Ar (n / 32+1 : Nat) rfl ?_
 refine Mk (n / 32+1) rfl (by omega) ?_
 refine Ar (n / 32 : Nat) rfl ?_ (show _∧_ from ⟨by decide,by rw [show Int.tdiv (n : Int) 32=((n / 32 : Nat) : Int) from rfl];exact wI (by omega)⟩)
 refine Ar (n % 32 : Nat) rfl ?_ (show _∧_ from ⟨by decide,rfl⟩)
 refine Ar (2 ^ (n % 32) : Nat) rfl ?_ (Xgb (W1r _ (by decide)))
 refine Eo (n / 32) rfl (by omega) ?_
 refine Sto rfl (by simp) rfl ?_
 refine R1 rfl (.own rfl (by simp) ?_)
 rw [Xnj,W1f,W0b (by simp),←ms,W2e]
 rfl
end
section
theorem Xnz {z : Int} (hl : (dig z.natAbs).length≤549755813888) (h0 : z≠0) : C0 284 [.d (dz z)] fun v=>∃ B : Nat,v=.d (.int .i64 B)∧z.natAbs<2 ^ B∧B≤32*(dig z.natAbs).length:=by
 refine En Tryz.func284 fun _ _ _=>?_
 refine Ce rfl (Xb7 (by omega)) ?_
 refine By rfl (fun h=>?_) fun h=>?_ <;> simp only [lw] at h
 · exact absurd (Xqt.1 (W0k (by omega : (dig z.natAbs).length=0))) (by omega)
 obtain ⟨t,ht⟩:=xat (l:=dig z.natAbs) (k:=(dig z.natAbs).length - 1) (by omega)
 have htb:=ww ht (Xad _)
 have hb:=Xu9 htb
 refine Ar ((dig z.natAbs).length - 1 : Nat) rfl ?_ (wr (by simp only [lw];omega) (by simp only [inK];omega))
 refine Ar (32*((dig z.natAbs).length - 1) : Nat) rfl ?_
 refine Ar ((dig z.natAbs).length - 1 : Nat) rfl ?_ (wr (by simp only [lw];omega) (by simp only [inK];omega))
 refine Ix ((dig z.natAbs).length - 1) rfl (mp ht) ?_
 refine Ce rfl (Xqa htb) ?_
 refine Ar (32*((dig z.natAbs).length - 1)+bl t : Nat) rfl ?_
 exact Rt rfl (.one (.rf rfl) rfl rfl) ⟨_,rfl,Xn6 rfl (by omega) ht,by omega⟩
theorem Sqrt_ok {a : Nat} (hl : (dig a).length≤274877906944) : C0 280 [.d (dz (a : Int))] (·=.tup (.pr (.d (dz (rt a : Int))) (.d (.int .i64 0)))):=by
 have hln : (dig (a : Int).natAbs).length≤274877906944:=by rw [W1j];exact hl
 refine En Tryz.func280 fun _ _ _=>?_
 refine Ce rfl (Sign_ok (z:=a) (by omega)) ?_
 refine By rfl (fun h=>?_) fun h=>?_
 · rcases Xas (a : Int) 0 with ⟨g1,g2⟩ | ⟨g1,g2⟩ | ⟨g1,g2⟩ <;> omega
 refine By rfl (fun h1=>?_) fun h1=>?_
 · have ha0 : a=0:=by rcases Xas (a : Int) 0 with ⟨g1,g2⟩ | ⟨g1,g2⟩ | ⟨g1,g2⟩ <;> omega
   exact RTt rfl (.cons (f0' (by rw [ha0];rfl)) (.one (.rf rfl) (fun _ _ e=>by cases e) (fun _ _ e=>by cases e)))
 have ha0 : a≠0:=by rcases Xas (a : Int) 0 with ⟨g1,g2⟩ | ⟨g1,g2⟩ | ⟨g1,g2⟩ <;> omega
 refine Ca rfl (Xnz (z:=a) (by omega) (by omega)) fun v hv=>?_
 obtain ⟨B,rfl,hB1,hB2⟩:=hv
 rw [W1j] at hB1 hB2
 refine Ar (B / 2 : Nat) rfl ?_ (show _∧_ from ⟨by decide,by rw [show Int.tdiv (B : Int) 2=((B / 2 : Nat) : Int) from rfl];exact wI (by omega)⟩)
 refine Ar (B / 2+1 : Nat) rfl ?_
 refine Ce rfl (Xd1 (n:=B / 2+1) (by omega)) ?_
 refine Lo (fun (x : Nat)=>[(1,.ptr 1 0),(2,.ptr 2 0),(3,.d (.int .i64 0)),(5,.d (ws (dig x)))]) (fun _=>[(1,.var (.d (dz a))),(2,.var (.st (.pr (.b false) .nil)))]) (fun x=>0<x∧rt a≤x∧x≤2 ^ (B / 2+1)) (fun x=>x) (2 ^ (B / 2+1)) [] rfl
  ⟨W0t _,W2c (Xsd hB1 (by omega)),W0a _⟩ fun x ⟨hx0,hxr,hxp⟩=>?_
 have hxl : (dig x).length≤549755813000:=W0i (Xar hxp) (by rw [Xm5];omega)
 have hql : (dig (a / x)).length≤274877906944:=W0i (Xar (W3j a x)) hl
 refine Ce (r:=.d (ws (dig a))) rfl (Xb7 (n:=a) (by omega)) ?_
 refine Ce rfl (Xcm (by omega) (by omega) (by omega)) ?_
 refine Ce rfl (Xg8 (by omega) (by omega)) ?_
 refine Ce rfl (Yci (W0i (Xfo ..) (by omega))) ?_
 refine Ce rfl (Xbv (W0i (Xar (W3j ..)) (W0i (Xfo ..) (by omega)))) ?_
 refine By rfl (fun h2=>?_) fun h2=>?_
 · have hge : x≤(x+a / x) / 2:=by rcases Xas (((x+a / x) / 2 : Nat) : Int) (x : Int) with ⟨g1,g2⟩ | ⟨g1,g2⟩ | ⟨g1,g2⟩ <;> omega
   refine Ce rfl (Xai (b:=false) (by omega)) ?_
   exact RTt rfl (.cons (.eq (by rw [Xqn hx0 hge hxr];rfl)) (.one (.rf rfl) (fun _ _ e=>by cases e) (fun _ _ e=>by cases e)))
 · have hlt : (x+a / x) / 2<x:=by rcases Xas (((x+a / x) / 2 : Nat) : Int) (x : Int) with ⟨g1,g2⟩ | ⟨g1,g2⟩ | ⟨g1,g2⟩ <;> omega
   exact Bk ((x+a / x) / 2) [] rfl ⟨W0r (Ye2 ha0) (Xzq hx0),Xzq hx0,by omega⟩ hlt
end
end Go.Proofs.YtclmecgphleeeaaGreatDoor
namespace Go.Num
theorem szl {n p : Nat} (h : n<2 ^ p) (hp : p≤8796093022208) : (dig n).length≤274877906945:=by
 have h1 : n<4294967296 ^ (p / 32+1):=by
  rw [show 4294967296=2 ^ 32 from rfl,←W5n]
  exact W0r h (W0h (by decide) (by omega))
 have:=Xan h1
 omega
def Zs (p : Nat) (z : Int) : Prop:=z.natAbs<2 ^ p
theorem Zs.len {p : Nat} {z : Int} (h : Zs p z) (hp : p≤8796093022208) : (dig z.natAbs).length≤274877906945:=szl h hp
theorem Zs.mono {p q : Nat} {z : Int} (h : Zs p z) (hp : p≤q) : Zs q z:=W0r h (W0h (by decide) hp)
theorem Zs.mul {p q : Nat} {x y : Int} (h : Zs p x) (k : Zs q y) : Zs (p+q) (x*y):=by
 unfold Zs at *
 rw [W4a,W0v]
 exact W3l h k
theorem Zs.add {p q : Nat} {x y : Int} (h : Zs p x) (k : Zs q y) : Zs (max p q+1) (x+y):=by
 have h1:=h.mono (Nat.le_max_left p q)
 have h2:=k.mono (Nat.le_max_right p q)
 unfold Zs at *
 have:=Int.natAbs_add_le x y
 rw [W0p]
 omega
theorem Zs.neg {p : Nat} {x : Int} (h : Zs p x) : Zs p (-x):=by
 unfold Zs at *
 rwa [W4s]
theorem Zs.gcd {p : Nat} {x y : Int} (h : Zs p y) (h0 : y≠0) : Zs p (Int.gcd x y : Int):=by
 unfold Zs at *
 have : Int.gcd x y≤y.natAbs:=Nat.le_of_dvd (by omega) (Int.gcd_dvd_natAbs_right x y)
 omega
theorem Zs.one {p : Nat} (hp : 1≤p) : Zs p 1:=W0r (by decide) (W0h (by decide) hp : 2 ^ 1≤2 ^ p)
theorem Zs.zero {p : Nat} : Zs p 0:=W0t p
structure Qs (p : Nat) (x : Rat) : Prop where
 n : Zs p x.num
 d : Zs p (x.den : Int)
theorem Qs.mono {p q : Nat} {x : Rat} (h : Qs p x) (hp : p≤q) : Qs q x:=⟨h.n.mono hp,h.d.mono hp⟩
theorem Qs.neg {p : Nat} {x : Rat} (h : Qs p x) : Qs p (-x):=⟨by rw [Rat.neg_num];exact h.n.neg,by rw [Rat.neg_den];exact h.d⟩
theorem Xxl (a : Int) : a.fdiv 1=a:=by rw [W1n _ (by decide),Int.ediv_one]
theorem Xin {a b : Int} (hb : b≠0) : a.fdiv (if b<0 then -(Int.gcd a b : Int) else (Int.gcd a b : Int))=(Rat.divInt a b).num:=by
 rw [Rat.num_divInt,Int.gcd_comm b a]
 split
 · rename_i h
   rw [show a.fdiv (-(Int.gcd a b : Int))=(-a).fdiv (Int.gcd a b : Int) from by rw [←W7l,Int.neg_neg],Int.sign_eq_neg_one_of_neg h,W1n _ (by omega)]
   congr 1
   omega
 · rw [W6h (by omega),W5o,W1n _ (by omega)]
theorem Xio {a b : Int} (hb : b≠0) : b.fdiv (if b<0 then -(Int.gcd a b : Int) else (Int.gcd a b : Int))=((Rat.divInt a b).den : Int):=by
 rw [Rat.den_divInt,if_neg hb,Int.gcd_comm b a,Int.natCast_ediv]
 split
 · rw [show b.fdiv (-(Int.gcd a b : Int))=(-b).fdiv (Int.gcd a b : Int) from by rw [←W7l,Int.neg_neg],W1n _ (by omega)]
   congr 1
   omega
 · rw [W1n _ (by omega)]
   congr 1
   omega
theorem Xt8 {a b : Int} (hb : b≠0) : Int.gcd a b≠0:=fun h=>hb (Int.gcd_eq_zero_iff.1 h).2
theorem Qs.addNum {p q : Nat} {x y : Rat} (h : Qs p x) (k : Qs q y) : Zs (p+q+1) (x.num*y.den+y.num*x.den):=by
 have h1:=(h.n.mul k.d).add (k.n.mul h.d)
 exact h1.mono (by omega)
theorem Xit (a : Int) (b : Nat) : Rat.divInt a (b : Int)=mkRat a b:=Rat.divInt_ofNat a b
theorem Xix (x y : Rat) : x+y=Rat.divInt (x.num*y.den+y.num*x.den) ((x.den : Int)*y.den):=by
 rw [Rat.add_def',←W3b,Xit]
theorem Xil (x y : Rat) : x*y=Rat.divInt (x.num*y.num) ((x.den : Int)*y.den):=by
 rw [Rat.mul_def',←W3b,Xit]
theorem Xqs (x y : Rat) (h : y≠0) : x / y=Rat.divInt (x.num*y.den) ((x.den : Int)*y.num):=by
 rw [W7w,Rat.inv_def]
 conv=>lhs;rw [←Rat.num_divInt_den x]
 rw [Rat.divInt_mul_divInt]
theorem Yik {x : Rat} (h : (x.den : Int)=1) : x=(x.num : Rat):=Rat.ext rfl (by show x.den=1;omega)
theorem Xp2 {x y : Rat} (h : (x.den : Int)=1) (k : (y.den : Int)=1) : x+y=((x.num+y.num : Int) : Rat):=by
 conv=>lhs;rw [Yik h,Yik k]
 norm_cast
theorem Xp1 {x y : Rat} (h : (x.den : Int)=1) (k : (y.den : Int)=1) : x*y=((x.num*y.num : Int) : Rat):=by
 conv=>lhs;rw [Yik h,Yik k]
 norm_cast
theorem Xbz (x : Rat) : (x.den : Int)≠0:=by have:=x.den_nz;omega
theorem Zs.divInt_num {p : Nat} {a b : Int} (ha : Zs p a) : Zs p (Rat.divInt a b).num:=by
 unfold Zs at *
 rw [Rat.num_divInt]
 have h1 : (b.sign*a).natAbs≤a.natAbs:=by
  rw [W4a]
  have : b.sign.natAbs≤1:=by rw [Int.natAbs_sign];split <;> omega
  have:=W1b a.natAbs this
  omega
 have h2 : ((b.sign*a) / (Int.gcd b a : Int)).natAbs≤(b.sign*a).natAbs:=by
  by_cases hg : Int.gcd b a=0
  · rw [hg];simp
  · have hd : (Int.gcd b a : Int) ∣ b.sign*a:=Int.dvd_mul_of_dvd_right (Int.gcd_dvd_right b a)
    obtain ⟨c,hc⟩:=hd
    rw [hc,Int.mul_ediv_cancel_left _ (by omega),W4a]
    exact Nat.le_mul_of_pos_left _ (W2h (by rw [W1j];exact hg))
 omega
theorem Zs.divInt_den {p : Nat} {a b : Int} (hb : Zs p b) (h0 : b≠0) : Zs p ((Rat.divInt a b).den : Int):=by
 unfold Zs at *
 rw [Rat.den_divInt,if_neg h0]
 have:=W3j b.natAbs (Int.gcd b a)
 rw [W1j]
 omega
theorem Qs.divInt {p : Nat} {a b : Int} (ha : Zs p a) (hb : Zs p b) (h0 : b≠0) : Qs p (Rat.divInt a b):=⟨ha.divInt_num,hb.divInt_den h0⟩
theorem Qs.add {p q : Nat} {x y : Rat} (h : Qs p x) (k : Qs q y) : Qs (p+q+1) (x+y):=by
 rw [Xix]
 exact Qs.divInt (h.addNum k) ((h.d.mul k.d).mono (by omega)) (W7q (Xbz x) (Xbz y))
theorem Qs.mul {p q : Nat} {x y : Rat} (h : Qs p x) (k : Qs q y) : Qs (p+q) (x*y):=by
 rw [Xil]
 exact Qs.divInt (h.n.mul k.n) (h.d.mul k.d) (W7q (Xbz x) (Xbz y))
theorem Qs.int {p : Nat} {z : Int} (h : Zs p z) (hp : 1≤p) : Qs p (z : Rat):=⟨h,Zs.one hp⟩
theorem Xx2 {z : Int} : Xa1 z 0 > 0↔z > 0:=by
 unfold Xa1
 split
 · constructor <;> intro <;> omega
 · split
   · constructor <;> intro <;> omega
   · constructor <;> intro <;> omega
def Xmd (x y : Rat) : Int:=if x<y then -1 else if y<x then 1 else 0
theorem Xp4 (x y : Rat) : Xa1 (x.num*y.den) (y.num*x.den)=Xmd x y:=by
 unfold Xa1 Xmd
 simp only [Rat.lt_iff,gt_iff_lt]
theorem Xls {x y : Rat} (h : Xa1 x.num 0<Xa1 y.num 0) : Xmd x y=-1:=by
 unfold Xmd
 rw [if_pos]
 rw [Rat.lt_iff]
 have hx:=x.den_pos
 have hy:=y.den_pos
 rcases Xas x.num 0 with ⟨h1,e1⟩ | ⟨h1,e1⟩ | ⟨h1,e1⟩ <;> rcases Xas y.num 0 with ⟨h2,e2⟩ | ⟨h2,e2⟩ | ⟨h2,e2⟩ <;> rw [e1,e2] at h <;> first | omega | skip
 · rw [h2,W5g];exact Int.mul_neg_of_neg_of_pos h1 (by omega)
 · have:=Int.mul_neg_of_neg_of_pos h1 (show (0 : Int)<y.den by omega)
   have:=Int.mul_pos h2 (show (0 : Int)<x.den by omega)
   omega
 · rw [h1,W5g];exact Int.mul_pos h2 (by omega)
theorem Xlr (x y : Rat) : Xmd x y=- Xmd y x:=by
 unfold Xmd
 by_cases h1 : x<y
 · have : ¬ y<x:=by grind
   rw [if_pos h1,if_neg this,if_pos h1]
 · rw [if_neg h1]
   by_cases h2 : y<x
   · rw [if_pos h2,if_pos h2];rfl
   · rw [if_neg h2,if_neg h2,if_neg h1];rfl
end Go.Num
namespace Go.Proofs.YtclmecgphleeeaaGreatDoor
open Go Go.Vm Go.Num
def dq (x : Rat) : D:=.st (.pr (dz x.num) (dz x.den))
theorem Yli {n : Nat} : (dig n).length=0↔n=0:=⟨fun h=>Xqt.1 (W0k h),fun h=>by rw [h,Xaj];rfl⟩
theorem fst {g : Hp} {K : Hpl} {a : AV} {x : D} (h : Fit g K a (.d x)) : Fit g K (.st a) (.d (.st x)):=.sd h
theorem Xec : C0 53 [] (·=.d (dz 1)):=by
 refine En Tryz.func53 fun _ _ _=>?_
 refine Ce rfl (FromInt_ok (z:=1) (by decide)) ?_
 exact R0
theorem Xsx {z : Int} : (dig z.natAbs=[1]∧¬ z<0)↔z=1:=by
 constructor
 · rintro ⟨h1,h2⟩
   have:=Xaf z.natAbs
   rw [h1] at this
   simp [val] at this
   omega
 · rintro rfl
   exact ⟨Yd2,by decide⟩
theorem Ylh {l : List Nat} {u : Nat} (h : l.length=1) (hu : l[0]?=some u) : l=[u]:=by
 match l,h,hu with
 | [a],_,hu=>simp at hu;rw [hu]
theorem Xd4 {z : Int} : C0 95 [.d (dz z)] (·=.b (dc (z=1))):=by
 refine En Tryz.func95 fun _ _ _=>?_
 refine By rfl (fun h=>?_) fun h=>?_
 · refine By rfl (fun h1=>?_) fun h1=>?_ <;> simp only [lw] at h1
   · obtain ⟨u,hu⟩:=xat (l:=dig z.natAbs) (k:=0) (by omega)
     have hl:=Ylh (by omega) hu
     refine Ix 0 rfl (mp hu) ?_
     refine R1 rfl (.bp ?_)
     refine Xaw.trans (Iff.trans ?_ Xsx)
     rw [hl]
     constructor
     · intro e;exact ⟨by rw [show u=1 by omega],h⟩
     · rintro ⟨e,_⟩;injection e with e;omega
   · exact R1 rfl (.bp ⟨nofun,fun e=>absurd (by rw [e];show ((dig 1).length : Int)=1;rw [Yd2];rfl) h1⟩)
 · exact R1 rfl (.bp ⟨nofun,fun e=>absurd (by rw [e];decide) h⟩)
theorem Xts {z : Int} : C0 111 [.d (dz z)] (·=.b (dc (z=0))):=by
 refine En Tryz.func111 fun _ _ _=>?_
 refine R1 rfl (.bp ?_)
 simp only [Xaw,lw]
 rw [show ((dig z.natAbs).length : Int)=0↔(dig z.natAbs).length=0 by omega,Yli];omega
theorem Xb8 {a b : Int} (ha : (dig a.natAbs).length≤549755813888) (hb : (dig b.natAbs).length≤549755813888) (hb0 : b≠0) : C0 156 [.d (dz a),.d (dz b)] (·=.d (dz (a.fdiv b))):=by
 refine En Tryz.func156 fun _ _ _=>?_
 refine Ce rfl Xd4 ?_
 refine By rfl (fun h=>?_) fun h=>?_
 · exact R1 rfl (.eq (show dz a=dz (a.fdiv b) by rw [h,Xxl]))
 · refine Ce rfl (DivMod_ok ha hb hb0) ?_
   exact R0
theorem Xhg {a b : Int} {p : Nat} (ha : Zs p a) (hb : Zs p b) (hp : p≤8796093022208) (hb0 : b≠0) : C0 98 [.d (dz a),.d (dz b)] (·=.d (dq (Rat.divInt a b))):=by
 have hg : Zs p (Int.gcd a b : Int):=hb.gcd hb0
 have hla:=ha.len hp
 have hlb:=hb.len hp
 have hlg:=hg.len hp
 refine En Tryz.func98 fun _ _ _=>?_
 refine Ce rfl (GCD_ok (by omega) (by omega)) ?_
 have h0:=Xt8 (a:=a) hb0
 have key : ∀ g : Int,g=(if b<0 then -(Int.gcd a b : Int) else (Int.gcd a b : Int))→D.st (.pr (dz (a.fdiv g)) (dz (b.fdiv g)))=dq (Rat.divInt a b):=fun g hg=>by rw [hg,Xin hb0,Xio hb0];rfl
 refine By rfl (fun h=>?_) fun h=>?_
 · refine Ce rfl (Neg_ok (by omega)) ?_
   refine Dw rfl ?_
   refine Ce rfl (Xb8 (by omega) (by rw [W4s];omega) (by omega)) ?_
   refine Ce rfl (Xb8 (by omega) (by rw [W4s];omega) (by omega)) ?_
   exact R1 rfl (.eq (key _ (by rw [if_pos h])))
 · refine Dw rfl ?_
   refine Ce rfl (Xb8 (by omega) (by omega) (by omega)) ?_
   refine Ce rfl (Xb8 (by omega) (by omega) (by omega)) ?_
   exact R1 rfl (.eq (key _ (by rw [if_neg h])))
theorem Xdj {a b : Int} {p : Nat} (ha : Zs p a) (hb : Zs p b) (hp : p≤8796093022208) (hb0 : b≠0) : C0 51 [.d (dz a),.d (dz b)] (·=.tup (.pr (.d (dq (Rat.divInt a b))) (.d (.int .i64 0)))):=by
 have hla:=ha.len hp
 have hlb:=hb.len hp
 refine En Tryz.func51 fun _ _ _=>?_
 refine Dw rfl ?_
 refine Ce rfl (Norm_ok (by omega)) ?_
 refine Ce rfl (Norm_ok (by omega)) ?_
 refine Ce rfl Xts ?_
 refine No rfl hb0 ?_
 refine Ce rfl (Xhg ha hb hp hb0) ?_
 exact R0t
theorem Xb2 {z : Int} (h : -9223372036854775808≤z∧z<9223372036854775808) : C0 21 [.d (.int .i64 z)] (·=.d (dq z)):=by
 refine En Tryz.func21 fun _ _ _=>?_
 refine Ce rfl (FromInt_ok h) ?_
 refine Ce rfl Xec ?_
 exact R0
theorem Xoy {a b : Int} (ha : -9223372036854775808≤a∧a<9223372036854775808) (hb : 0<b∧b<9223372036854775808) : C0 20 [.d (.int .i64 a),.d (.int .i64 b)] (·=.d (dq (Rat.divInt a b))):=by
 refine En Tryz.func20 fun _ _ _=>?_
 refine Ce rfl (FromInt_ok ha) ?_
 refine Ce rfl (FromInt_ok (by omega)) ?_
 refine Ce rfl (Xdj (p:=64) (by unfold Zs;omega) (by unfold Zs;omega) (by decide) (by omega)) ?_
 refine No rfl (by decide) ?_
 exact R0
theorem Xe2 {x : Rat} {p : Nat} (hx : Qs p x) (hp : p≤8796093022208) : C0 166 [.d (dq x)] (·=.d (.int .i64 (Xa1 x.num 0))):=by
 have:=hx.n.len hp
 refine En Tryz.func166 fun _ _ _=>?_
 refine Ce rfl (Sign_ok (by omega)) ?_
 exact R0
theorem Xjm {x : Rat} {p : Nat} (hx : Qs p x) (hp : p≤8796093022208) : C0 94 [.d (dq x)] (·=.d (dq (-x))):=by
 have:=hx.n.len hp
 refine En Tryz.func94 fun _ _ _=>?_
 refine Dw rfl ?_
 refine Ce rfl (Neg_ok (by omega)) ?_
 exact R1 rfl (.eq (show D.st (.pr (dz (-x.num)) (dz x.den))=dq (-x) by unfold dq;rw [Rat.neg_num,Rat.neg_den]))
abbrev q0 : AV:=.st (.pr (.st (.pr (.b false) .nil)) (.st (.pr (.b false) .nil)))
theorem Xg4 {x y : Rat} {p q : Nat} (hx : Qs p x) (hy : Qs q y) (hp : p+q≤8796093022208) : C0 204 [.d (dq x),.d (dq y)] (·=.d (dq (x*y))):=by
 have h1:=hx.n.len (by omega)
 have h2:=hx.d.len (by omega)
 have h3:=hy.n.len (by omega)
 have h4:=hy.d.len (by omega)
 refine En Tryz.func204 fun _ _ _=>?_
 refine Cu (some 1) (fun (b : Bool)=>[(2,.ptr 2 0),(3,.ptr 3 0),(4,.ptr 4 0),(12,.b b)]) (fun _=>[(2,.var (.d (dq x))),(3,.var (.d (dq y))),(4,.var q0)]) (fun b=>b=true→(x.den : Int)=1∧(y.den : Int)=1) rfl ?_ fun b hb=>?_
 · refine Ce rfl Xd4 ?_
   refine By rfl (fun h=>?_) fun h=>?_
   · refine Ce rfl Xd4 ?_
     exact Jn (dc _) [] rfl fun e=>⟨h,Xaw.1 e⟩
   · exact Jn false [] rfl nofun
 refine By rfl (fun h=>?_) fun h=>?_
 · obtain ⟨d1,d2⟩:=hb h
   refine Ce rfl (Mul_ok (by omega) (by omega)) ?_
   refine Ce rfl Xec ?_
   exact R1 rfl (.eq (show _=dq _ by rw [Xp1 d1 d2];rfl))
 · refine Dw rfl ?_
   refine Ce rfl (Mul_ok (by omega) (by omega)) ?_
   refine Ce rfl (Mul_ok (by omega) (by omega)) ?_
   refine Ce rfl (Xhg (hx.n.mul hy.n) (hx.d.mul hy.d) hp (W7q (Xbz x) (Xbz y))) ?_
   exact R1 rfl (.eq (by rw [Xil]))
theorem Xdf {x y : Rat} {p q : Nat} (hx : Qs p x) (hy : Qs q y) (hp : p+q+1≤8796093022208) : C0 46 [.d (dq x),.d (dq y)] (·=.d (dq (x+y))):=by
 have h1:=hx.n.len (by omega)
 have h2:=hx.d.len (by omega)
 have h3:=hy.n.len (by omega)
 have h4:=hy.d.len (by omega)
 have h5:=(hx.n.mul hy.d).len (by omega)
 have h6:=(hy.n.mul hx.d).len (by omega)
 refine En Tryz.func46 fun _ _ _=>?_
 refine Cu (some 1) (fun (b : Bool)=>[(2,.ptr 2 0),(3,.ptr 3 0),(4,.ptr 4 0),(13,.b b)]) (fun _=>[(2,.var (.d (dq x))),(3,.var (.d (dq y))),(4,.var q0)]) (fun b=>b=true→(x.den : Int)=1∧(y.den : Int)=1) rfl ?_ fun b hb=>?_
 · refine Ce rfl Xd4 ?_
   refine By rfl (fun h=>?_) fun h=>?_
   · refine Ce rfl Xd4 ?_
     exact Jn (dc _) [] rfl fun e=>⟨h,Xaw.1 e⟩
   · exact Jn false [] rfl nofun
 refine By rfl (fun h=>?_) fun h=>?_
 · obtain ⟨d1,d2⟩:=hb h
   refine Ce rfl (Add_ok (by omega) (by omega)) ?_
   refine Ce rfl Xec ?_
   exact R1 rfl (.eq (show _=dq _ by rw [Xp2 d1 d2];rfl))
 · refine Dw rfl ?_
   refine Ce rfl (Mul_ok (by omega) (by omega)) ?_
   refine Ce rfl (Mul_ok (by omega) (by omega)) ?_
   refine Ce rfl (Add_ok (by omega) (by omega)) ?_
   refine Dw rfl ?_
   refine Ce rfl (Mul_ok (by omega) (by omega)) ?_
   refine Ce rfl (Xhg (p:=p+q+1) (Qs.addNum hx hy) ((hx.d.mul hy.d).mono (by omega)) hp (W7q (Xbz x) (Xbz y))) ?_
   exact R1 rfl (.eq (by rw [Xix]))
theorem Xso {x y : Rat} {p q : Nat} (hx : Qs p x) (hy : Qs q y) (hp : p+q+1≤8796093022208) : C0 45 [.d (dq x),.d (dq y)] (·=.d (dq (x - y))):=by
 refine En Tryz.func45 fun _ _ _=>?_
 refine Dw rfl ?_
 refine Ce rfl (Xjm hy (by omega)) ?_
 refine Ce rfl (Xdf hx hy.neg hp) ?_
 exact R1 rfl (.eq (by rw [W7a]))
def rz : D:=.st (.pr (.st (.pr (.bool false) (.sl 1 []))) (.st (.pr (.bool false) (.sl 1 []))))
theorem Xg5 {x y : Rat} {p q : Nat} (hx : Qs p x) (hy : Qs q y) (hp : p+q≤8796093022208) : C0 164 [.d (dq x),.d (dq y)] (·=.d (.int .i64 (Xmd x y))):=by
 have h1:=hx.n.len (by omega)
 have h2:=hx.d.len (by omega)
 have h3:=hy.n.len (by omega)
 have h4:=hy.d.len (by omega)
 have h5:=(hx.n.mul hy.d).len (by omega)
 have h6:=(hy.n.mul hx.d).len (by omega)
 refine En Tryz.func164 fun _ _ _=>?_
 refine Dw rfl ?_
 refine Ce rfl (Xe2 hx (by omega)) ?_
 refine Ce rfl (Xe2 hy (by omega)) ?_
 refine By rfl (fun h=>?_) fun h=>?_
 · refine By rfl (fun h1=>?_) fun h1=>?_
   · exact R1 rfl (.eq (by rw [Xls h1]))
   · exact R1 rfl (.eq (by rw [Xlr,Xls (by omega)];rfl))
 · refine Dw rfl ?_
   refine Ce rfl (Mul_ok (by omega) (by omega)) ?_
   refine Ce rfl (Mul_ok (by omega) (by omega)) ?_
   refine Ce rfl (Cmp_ok (by omega) (by omega)) ?_
   exact R1 rfl (.eq (by rw [Xp4]))
theorem Xdt {z : Int} (h : (dig z.natAbs).length≤549755813888) : C0 219 [.d (dz z)] (·=.b true):=by
 refine En Tryz.func219 fun _ _ _=>?_
 refine By rfl (fun h1=>?_) fun h1=>?_ <;> simp only [lw] at h1
 · have h0:=Yli.1 (by omega : (dig z.natAbs).length=0)
   refine Yes rfl (show ¬ z<0 by omega) ?_
   exact R0
 · refine Yes rfl (by simp only [lw];omega) ?_
   rcases Xf9 z.natAbs with h2 | ⟨t,h2,h3⟩
   · rw [h2] at h1;exact absurd rfl h1
   refine Ar ((dig z.natAbs).length - 1 : Nat) rfl ?_ (wr (by simp only [lw];omega) (by simp only [inK];omega))
   refine Ix ((dig z.natAbs).length - 1) rfl (mp h2) ?_
   refine R1 rfl (by exact (show dc ((t : Int)≠0)=true by rw [Xaw];omega) ▸ .rf rfl)
theorem Yj4 {z : Int} : Xa1 z 0 > 0↔z > 0:=Xx2
theorem Xk3 {x : Rat} {p : Nat} (hx : Qs p x) (hp : p≤8796093022208) : C0 169 [.d (dq x)] (·=.b true):=by
 have h1:=hx.n.len hp
 have h2:=hx.d.len hp
 refine En Tryz.func169 fun _ _ _=>?_
 refine Ce rfl (Xdt (z:=x.num) (by omega)) ?_
 refine Yes rfl rfl ?_
 refine Ce rfl (Xdt (z:=x.den) (by omega)) ?_
 refine Yes rfl rfl ?_
 refine Ce rfl (Sign_ok (by omega)) ?_
 refine Yes rfl (Yj4.2 (by have:=x.den_pos;omega)) ?_
 refine Ce rfl (GCD_ok (by omega) (by omega)) ?_
 refine Ce rfl Xd4 ?_
 refine R1 rfl (by exact (show dc ((Int.gcd x.num x.den : Int)=1)=true by rw [Xaw];exact congrArg Nat.cast (show Int.gcd x.num x.den=1 from x.reduced)) ▸ .rf rfl)
end Go.Proofs.YtclmecgphleeeaaGreatDoor
namespace Go.Proofs.YtclmecgphleeeaaGreatDoor.R1
open Go Go.Vm Go.Num Go.Proofs.YtclmecgphleeeaaGreatDoor
section
theorem Xay {l : List Nat} (hw : Xao l) (hl : l.length≤1099511627776) : C0 171 [.d (ws l)] (·=.d (ws (dig (val l)))):=by
 refine En Tryz.func171 fun _ _ _=>?_
 refine Lo (fun k=>[(0,.d (ws (l.take k)))]) (fun _=>[]) (fun k=>k≤l.length∧val (l.take k)=val l) id l.length [] rfl ⟨W0a _,by rw [W2r]⟩ (fun k ⟨hk,hv⟩=>?_) (hf:=⟨by simp only [W2r];rfl,rfl,rfl,rfl,rfl⟩)
 refine By rfl (fun h=>?_) fun h=>?_ <;> simp only [W0n,W0j,W1q hk] at h
 · have hl : ((l.take k).map wd).length=k:=by simp;omega
   refine Ar (k - 1 : Nat) rfl ?_
   have hx:=W0d (l:=l) (i:=k - 1) (by omega)
   refine Ix (k - 1) rfl (u:=wd l[k - 1]) (mp (by rw [W1c,if_pos (by omega),hx])) ?_
   have hs:=Xac hx
   rw [show k - 1+1=k by omega,hv] at hs
   refine By rfl (fun h0=>?_) fun h0=>?_
   · refine Ar (k - 1 : Nat) rfl ?_
     refine Tk (k - 1) ((l.take (k - 1)).map wd) rfl rfl (by simp;omega) (by rw [←W2g,List.take_take,W1q (by omega)]) ?_
     exact Bk (k - 1) [] rfl ⟨by omega,by rw [hs,show l[k - 1]=0 by omega,W2x,W2i]⟩ (show k - 1<k by omega)
   · exact R1 rfl (.eq (by rw [←hv,Xcz (hw.take k) (.inr ⟨l[k - 1],by rw [W0j,W1q hk,W1c,if_pos (by omega),hx],fun e=>h0 (by rw [e];rfl)⟩)]))
 · refine R1 rfl (.eq ?_)
   rw [show k=0 by omega] at hv ⊢
   rw [←hv,W4y,val,Xaj]
theorem trim_dig_ok {n : Nat} (h : (dig n).length≤1099511627776) : C0 171 [.d (ws (dig n))] (·=.d (ws (dig n))):=by
 have:=Xay (Xad n) h
 rwa [Xaf] at this
theorem Xes {n : Nat} (h : n<18446744073709551616) : C0 139 [.d (.int .u64 n)] (·=.d (ws (dig n))):=by
 refine En Tryz.func139 fun _ _ _=>?_
 refine Go.Vm.Cv (n % 4294967296 : Nat) rfl ?_ (hr:=by rw [wWm];omega)
 refine Ar (n / 4294967296 : Nat) rfl ?_ (hr:=show _∧_ from ⟨by omega,Yev n⟩)
 refine Go.Vm.Cv (n / 4294967296 : Nat) rfl ?_
 refine Ce rfl (Xay (l:=[n % 4294967296,n / 4294967296]) (.cons (by omega) (.cons (by omega) .nil)) (by simp)) ?_
 exact R1 rfl (.eq (by rw [show val [n % 4294967296,n / 4294967296]=n by simp only [val];omega]))
theorem Xod {b : Bool} {l : List Nat} (hw : Xao l) (h : l.length≤1099511627776) : C0 114 [.d (.bool b),.d (ws l)] (·=.d (dz (sg b (val l)))):=by
 rw [←Yg1]
 refine C.nb (show C0 _ [.b b,.d (ws l)] _ from ?_)
 obtain ⟨n,hn⟩ : ∃ n,n=val l:=⟨_,rfl⟩
 refine En Tryz.func114 fun _ _ _=>?_
 refine Ce rfl (Xay hw h) ?_
 rw [←hn]
 cases b with
 | true =>
  refine Yes rfl rfl ?_
  exact R1 rfl (by exact .sd (.pd (.bd (by
   rw [W5e,Xaw,W0f,bne_iff_ne,lw]
   have:=@Xqt n
   rw [←W2q] at this
   simp;omega)) (.rf rfl)))
 | false =>
  refine No rfl (by nofun) ?_
  exact R1 rfl (by exact .sd (.pd (.bd rfl) (.rf rfl)))
theorem Xai {b : Bool} {n : Nat} (h : (dig n).length≤1099511627776) : C0 114 [.d (.bool b),.d (ws (dig n))] (·=.d (dz (sg b n))):=by
 have:=Xod (b:=b) (Xad n) h
 rwa [Xaf] at this
theorem FromInt_ok {z : Int} (h : -9223372036854775808≤z∧z<9223372036854775808) : C0 79 [.d (.int .i64 z)] (·=.d (dz z)):=by
 have hl : (dig z.natAbs).length≤2:=Xan (by omega)
 refine En Tryz.func79 fun _ _ _=>?_
 refine By rfl (fun h=>?_) fun h=>?_
 · refine Go.Vm.Cv (z % 18446744073709551616) rfl ?_ (hr:=wUm _)
   refine Ne (z.natAbs : Int) rfl ?_ (hr:=by rw [wUm];omega)
   refine Ce rfl (Xes (n:=z.natAbs) (by omega)) ?_
   refine Ce rfl (Xai (n:=z.natAbs) (by omega)) ?_
   exact R1 rfl (.eq (by rw [show sg true z.natAbs=z by unfold sg;rw [if_pos rfl];omega]))
 · refine Go.Vm.Cv (z.natAbs : Int) rfl ?_ (hr:=by rw [wUm];omega)
   refine Ce rfl (Xes (n:=z.natAbs) (by omega)) ?_
   refine Ce rfl (Xai (n:=z.natAbs) (by omega)) ?_
   exact R1 rfl (.eq (by rw [show sg false z.natAbs=z by unfold sg;rw [if_neg nofun];omega]))
theorem Norm_ok {z : Int} (h : (dig z.natAbs).length≤1099511627776) : C0 54 [.d (dz z)] (·=.d (dz z)):=by
 refine En Tryz.func54 fun _ _ _=>?_
 refine Ce rfl (Xai (n:=z.natAbs) h) ?_
 exact R1 rfl (.eq (by rw [Xok]))
theorem Sign_ok {z : Int} (h : (dig z.natAbs).length≤1099511627776) : C0 22 [.d (dz z)] (·=.d (.int .i64 (Xa1 z 0))):=by
 refine En Tryz.func22 fun _ _ _=>?_
 refine Ce rfl (Norm_ok h) ?_
 refine By rfl (fun h=>?_) fun h=>?_ <;> simp only [lw] at h
 · have:=Xqt.1 (W0k (by omega : (dig z.natAbs).length=0))
   exact R1 rfl (.eq (by rw [show z=0 by omega];rfl))
 · have hz : z≠0:=fun e=>h (by rw [e];simp [Xaj])
   refine By rfl (fun h1=>?_) fun h1=>?_
   · exact R1 rfl (.eq (by rw [Xa1,if_pos h1]))
   · exact R1 rfl (.eq (by rw [Xa1,if_neg h1,if_pos (by omega)]))
theorem Xbv {x y : Nat} (hx : (dig x).length≤1099511627776) : C0 116 [.d (ws (dig x)),.d (ws (dig y))] (·=.d (.int .i64 (Xa1 x y))):=by
 refine En Tryz.func116 fun _ _ _=>?_
 refine By rfl (fun h=>?_) fun h=>?_ <;> simp only [lw] at h
 · refine By rfl (fun h1=>?_) fun h1=>?_ <;> simp only [lw] at h1
   · have:=Xc4 (m:=x) (n:=y) (by omega)
     exact R1 rfl (.eq (by rw [Xa1,if_pos (by omega)]))
   · have:=Xc4 (m:=y) (n:=x) (by omega)
     exact R1 rfl (.eq (by rw [Xa1,if_neg (by omega),if_pos (by omega)]))
 · refine Ar ((dig x).length - 1 : Int) rfl ?_ (wr (by simp only [lw]) (by simp only [inK];omega))
   refine Lo (fun (k : Nat)=>[(0,.d (ws (dig x))),(1,.d (ws (dig y))),(5,.d (.int .i64 ((k : Int) - 1)))]) (fun _=>[]) (fun k=>k≤(dig x).length∧(dig x).drop k=(dig y).drop k) (fun k=>k) (dig x).length [] rfl ⟨by omega,by rw [W1z (by omega),W1z (by omega)]⟩ fun k ⟨hk,hd⟩=>?_
   refine By rfl (fun h1=>?_) fun h1=>?_
   · obtain ⟨u,hu⟩:=xat (l:=dig x) (k:=k - 1) (by omega)
     obtain ⟨v,hv⟩:=xat (l:=dig y) (k:=k - 1) (by omega)
     have hd' : (dig x).drop (k - 1+1)=(dig y).drop (k - 1+1):=by rw [show k - 1+1=k from by omega];exact hd
     refine Dw rfl ?_
     refine Ix (k - 1) rfl (mp hu) ?_
     refine Ix (k - 1) rfl (mp hv) ?_
     refine By rfl (fun h2=>?_) fun h2=>?_
     · have:=Xim (Xad x) (by omega) (by omega) hu hv hd' (by omega)
       rw [Xaf,Xaf] at this
       exact R1 rfl (.eq (by rw [Xa1,if_pos (by omega)]))
     · refine Dw rfl ?_
       refine Ix (k - 1) rfl (mp hu) ?_
       refine Ix (k - 1) rfl (mp hv) ?_
       refine By rfl (fun h3=>?_) fun h3=>?_
       · have:=Xim (Xad y) (by omega) (by omega) hv hu hd'.symm (by omega)
         rw [Xaf,Xaf] at this
         exact R1 rfl (.eq (by rw [Xa1,if_neg (by omega),if_pos (by omega)]))
       · refine Ar ((k - 1 : Nat) - 1 : Int) rfl ?_
         refine Bk (k - 1) [] rfl ⟨by omega,?_⟩ (by show k - 1<k;omega)
         have huv : u=v:=by omega
         rw [W3c (l:=dig x) (i:=k - 1) (by omega),W3c (l:=dig y) (i:=k - 1) (by omega),show k - 1+1=k from by omega,hd]
         rw [W0d (by omega)] at hu hv
         injection hu with hu
         injection hv with hv
         rw [hu,hv,huv]
   · have hk0 : k=0:=by omega
     rw [hk0,W1f,W1f] at hd
     have hxy : x=y:=by rw [←Xaf x,hd,Xaf]
     exact R1 rfl (.eq (by rw [hxy,Xa1,if_neg (by omega),if_neg (by omega)]))
end
section
theorem dtk {l : List Nat} {q m k : Nat} (h : k<m) : ((l.drop q).take m)[k]?=l[q+k]?:=by rw [W1c,if_pos h,W2d]
theorem Xvv {l : List Nat} {q m : Nat} (h : q+m≤l.length) : ((l.drop q).take m).length=m:=by rw [W0j,W1p];omega
theorem Xf8 {q n : Nat} {l : List Nat} (hw : Xao l) (hq : q+n≤l.length) (hl : n≤1099511627776) : CN0 171 [.own 1000001 1 q n] [(1000001,.arr 1 (l.map wd))] fun v=>∃ k,k≤n∧v=.own 1000001 1 q k∧(l.drop q).take k=dig (val ((l.drop q).take n)):=by
 refine EnW Tryz.func171 fun _ _ _ _=>?_
 refine Lo (fun k=>[(0,.own 1000001 1 q k)]) (fun _=>[(1000001,.arr 1 (l.map wd))]) (fun k=>k≤n∧val ((l.drop q).take k)=val ((l.drop q).take n)) id n [] rfl ⟨W0a _,rfl⟩ fun k ⟨hk,hv⟩=>?_
 have hwk:=(hw.drop q).take k
 refine By rfl (fun h=>?_) fun h=>?_
 · obtain ⟨u,hu⟩:=xat (l:=l) (k:=q+(k - 1)) (by omega)
   have hs:=Xac (l:=l.drop q) (k:=k - 1) (x:=u) (by rw [W2d];exact hu)
   rw [show k - 1+1=k by omega,hv] at hs
   refine Ar (k - 1 : Nat) rfl ?_
   refine El (k - 1) rfl (by omega) ?_
   refine Ld (wd u) rfl (mp hu) ?_
   refine By rfl (fun h0=>?_) fun h0=>?_
   · refine Ar (k - 1 : Nat) rfl ?_
     refine Sw 0 (k - 1) rfl (by omega) (by omega) ?_
     exact Bk (k - 1) [] rfl ⟨by omega,by rw [hs,show u=0 by omega,W2x,W2i]⟩ (show k - 1<k by omega)
   · exact Rw [] [(1000001,.arr 1 (l.map wd))] rfl (.one (.rf rfl) rfl rfl) ⟨rfl,k,hk,rfl,by rw [←hv,Xcz hwk (.inr ⟨u,by rw [Xvv (by omega),dtk (by omega)];exact hu,fun e=>h0 (by rw [e];rfl)⟩)]⟩
 · refine Rw [] [(1000001,.arr 1 (l.map wd))] rfl (.one (.rf rfl) rfl rfl) ⟨rfl,k,hk,rfl,?_⟩
   rw [show k=0 by omega] at hv ⊢
   rw [←hv,W4y,val,Xaj]
theorem Xnl {x y q m : Nat} {l : List Nat} (hq : q+m≤l.length) (hl : (l.drop q).take m=dig x) (hx : (dig x).length≤1099511627776) : CN0 116 [.own 1000001 1 q m,.d (ws (dig y))] [(1000001,.arr 1 (l.map wd))] (·=.d (.int .i64 (Xa1 x y))):=by
 have hm : (dig x).length=m:=by rw [←hl,Xvv hq]
 rw [hm] at hx
 have hg : ∀ {k u : Nat},(dig x)[k]?=some u→k<m→l[q+k]?=some u:=fun h hk=>by rw [←hl,dtk hk] at h;exact h
 refine EnW Tryz.func116 fun _ _ _ _=>?_
 refine By rfl (fun h=>?_) fun h=>?_ <;> simp only [lw] at h
 · refine By rfl (fun h1=>?_) fun h1=>?_ <;> simp only [lw] at h1
   · have:=Xc4 (m:=x) (n:=y) (by omega)
     exact Rw [] [(1000001,.arr 1 (l.map wd))] rfl (.one (.rf rfl) rfl rfl) ⟨rfl,congrArg AV.d (congrArg (D.int .i64) (by rw [Xa1,if_pos (by omega)]))⟩
   · have:=Xc4 (m:=y) (n:=x) (by omega)
     exact Rw [] [(1000001,.arr 1 (l.map wd))] rfl (.one (.rf rfl) rfl rfl) ⟨rfl,congrArg AV.d (congrArg (D.int .i64) (by rw [Xa1,if_neg (by omega),if_pos (by omega)]))⟩
 · refine Ar (m - 1 : Int) rfl ?_
   refine Lo (fun (k : Nat)=>[(0,.own 1000001 1 q m),(1,.d (ws (dig y))),(5,.d (.int .i64 ((k : Int) - 1)))]) (fun _=>[(1000001,.arr 1 (l.map wd))]) (fun k=>k≤m∧(dig x).drop k=(dig y).drop k) (fun k=>k) m [] rfl ⟨by omega,by rw [W1z (by omega),W1z (by omega)]⟩ fun k ⟨hk,hd⟩=>?_
   refine By rfl (fun h1=>?_) fun h1=>?_
   · obtain ⟨u,hu⟩:=xat (l:=dig x) (k:=k - 1) (by omega)
     obtain ⟨v,hv⟩:=xat (l:=dig y) (k:=k - 1) (by omega)
     have hd' : (dig x).drop (k - 1+1)=(dig y).drop (k - 1+1):=by rw [show k - 1+1=k from by omega];exact hd
     refine Dw rfl ?_
     refine El (k - 1) rfl (by omega) ?_
     refine Ld (wd u) rfl (mp (hg hu (by omega))) ?_
     refine Ix (k - 1) rfl (mp hv) ?_
     refine By rfl (fun h2=>?_) fun h2=>?_
     · have:=Xim (Xad x) (by omega) (by omega) hu hv hd' (by omega)
       rw [Xaf,Xaf] at this
       exact Rw [] [(1000001,.arr 1 (l.map wd))] rfl (.one (.rf rfl) rfl rfl) ⟨rfl,congrArg AV.d (congrArg (D.int .i64) (by rw [Xa1,if_pos (by omega)]))⟩
     · refine Dw rfl ?_
       refine El (k - 1) rfl (by omega) ?_
       refine Ld (wd u) rfl (mp (hg hu (by omega))) ?_
       refine Ix (k - 1) rfl (mp hv) ?_
       refine By rfl (fun h3=>?_) fun h3=>?_
       · have:=Xim (Xad y) (by omega) (by omega) hv hu hd'.symm (by omega)
         rw [Xaf,Xaf] at this
         exact Rw [] [(1000001,.arr 1 (l.map wd))] rfl (.one (.rf rfl) rfl rfl) ⟨rfl,congrArg AV.d (congrArg (D.int .i64) (by rw [Xa1,if_neg (by omega),if_pos (by omega)]))⟩
       · refine Ar ((k - 1 : Nat) - 1 : Int) rfl ?_
         refine Bk (k - 1) [] rfl ⟨by omega,?_⟩ (by show k - 1<k;omega)
         have huv : u=v:=by omega
         rw [W3c (l:=dig x) (i:=k - 1) (by omega),W3c (l:=dig y) (i:=k - 1) (by omega),show k - 1+1=k from by omega,hd]
         rw [W0d (by omega)] at hu hv
         injection hu with hu
         injection hv with hv
         rw [hu,hv,huv]
   · have hk0 : k=0:=by omega
     rw [hk0,W1f,W1f] at hd
     have hxy : x=y:=by rw [←Xaf x,hd,Xaf]
     exact Rw [] [(1000001,.arr 1 (l.map wd))] rfl (.one (.rf rfl) rfl rfl) ⟨rfl,congrArg AV.d (congrArg (D.int .i64) (by rw [hxy,Xa1,if_neg (by omega),if_neg (by omega)]))⟩
theorem Xtc {x y q m : Nat} {l : List Nat} (hq : q+m≤l.length) (hl : (l.drop q).take m=dig x) (hx : (dig x).length≤1099511627776) (hle : y≤x) : CN0 117 [.own 1000001 1 q m,.d (ws (dig y))] [(1000001,.arr 1 (l.map wd))] (·=.d (ws (dig (x - y)))):=by
 have hm : (dig x).length=m:=by rw [←hl,Xvv hq]
 have hg : ∀ {k u : Nat},(dig x)[k]?=some u→k<m→l[q+k]?=some u:=fun h hk=>by rw [←hl,dtk hk] at h;exact h
 rw [hm] at hx
 have hll:=Xar hle
 refine EnW Tryz.func117 fun _ _ _ _=>?_
 refine Mk m rfl (by omega) ?_
 refine Lo (fun (k,lo,br)=>[(0,.own 1000001 1 q m),(1,.d (ws (dig y))),(5,.own 12 1 0 m),(6,.d (.int .u64 (br : Nat))),(7,.d (.int .i64 (k : Nat)))]) (fun (_,lo,_)=>[(12,.arr 1 (lo.map wd)),(1000001,.arr 1 (l.map wd))])
  (fun (k,lo,br)=>k≤m∧lo.length=m∧Xao lo∧br≤1∧val (lo.take k)+val ((dig y).take k)=val ((dig x).take k)+4294967296 ^ k*br) (fun (k,_,_)=>m - k) (0,List.replicate m 0,0) [] rfl
  ⟨by omega,by simp,Xer _,by omega,by simp [val]⟩ ?_ (by exact ⟨rfl,by simp only [W2e];rfl,rfl,rfl,rfl⟩)
 rintro ⟨k,lo,br⟩ ⟨hk,hl1,hw,hbr,hval⟩
 refine By rfl (fun h=>?_) fun h=>?_
 · obtain ⟨u,hu⟩:=xat (l:=dig x) (k:=k) (by omega)
   have hub:=ww hu (Xad x)
   refine Cu none (fun (v : Nat)=>[(0,.own 1000001 1 q m),(1,.d (ws (dig y))),(5,.own 12 1 0 m),(6,.d (.int .u64 br)),(7,.d (.int .i64 k)),(8,.d (.int .u64 v))]) (fun _=>[(12,.arr 1 (lo.map wd)),(1000001,.arr 1 (l.map wd))])
    (fun v=>v<4294967296∧val ((dig y).take (k+1))=val ((dig y).take k)+4294967296 ^ k*v) rfl ?_ fun v ⟨hv,hyv⟩=>?_
   · refine By rfl (fun h2=>?_) fun h2=>?_ <;> simp only [lw] at h2
     · obtain ⟨u2,hu2⟩:=xat (l:=dig y) (k:=k) (by omega)
       have hub2:=ww hu2 (Xad y)
       refine Ix k rfl (mp hu2) ?_
       refine Go.Vm.Cv u2 rfl ?_
       exact Jn u2 [] rfl ⟨hub2,Xac hu2⟩
     · exact Jn 0 [] rfl ⟨by omega,by rw [Xfj (by omega)];rfl⟩
   obtain ⟨s,hs⟩ : ∃ s,s=u+4294967296 - v - br:=⟨_,rfl⟩
   refine El k rfl (by omega) ?_
   refine Ld (wd u) rfl (mp (hg hu (by omega))) ?_
   refine Go.Vm.Cv u rfl ?_
   refine Ar (u+4294967296 : Nat) rfl ?_
   refine Ar (u+4294967296 - v : Nat) rfl ?_
   refine Ar s rfl ?_
   refine Go.Vm.Cv (s % 4294967296 : Nat) rfl ?_ (by rw [wWm];omega)
   refine Eo k rfl (by omega) ?_
   refine Sto rfl (by simp only [lw];omega) ms ?_
   refine Ar (s / 4294967296 : Nat) rfl ?_ (Xgy (n:=32) (by decide))
   refine Ar (1 - s / 4294967296 : Nat) rfl ?_
   refine Ar (k+1 : Nat) rfl ?_
   refine Bk (k+1,lo.set k (s % 4294967296),1 - s / 4294967296) [] rfl ⟨by omega,by simp [hl1],Xfs hw (by omega),by omega,?_⟩ (by show m - (k+1)<m - k;omega)
   rw [Xa8 (by omega),hyv,Xac hu,W0p,W0o]
   have e : 4294967296 ^ k*(s % 4294967296+v+br)=4294967296 ^ k*(u+4294967296*(1 - s / 4294967296)):=by congr 1;omega
   simp only [W0w] at e
   omega
 · have hkn : k=m:=by omega
   rw [hkn,W0b (by omega),W0b (by omega),W0b (by omega),Xaf,Xaf] at hval
   have hvl:=Xbq hw
   rw [hl1] at hvl
   have hbr0 : br=0:=by
    rcases W2n br with h0 | h0
    · exact h0
    · have h1 : 4294967296 ^ m*1≤4294967296 ^ m*br:=W0m _ h0
      omega
   rw [hbr0,W2x] at hval
   refine Fz 12 5 (lo.map wd) rfl (by simp only [lw];omega) (oa hl1) ?_
   refine Ce rfl (Xay hw (by omega)) ?_
   exact Rw [] [(1000001,.arr 1 (l.map wd))] rfl (.one (.rf rfl) rfl rfl) ⟨rfl,by rw [show val lo=x - y by omega]⟩
theorem Xdh {x y : Nat} (hx : (dig x).length≤1099511627776) (hle : y≤x) : C0 117 [.d (ws (dig x)),.d (ws (dig y))] (·=.d (ws (dig (x - y)))):=by
 obtain ⟨m,hm⟩ : ∃ m,(dig x).length=m:=⟨_,rfl⟩
 rw [hm] at hx
 have hll:=Xar hle
 refine En Tryz.func117 fun _ _ _=>?_
 refine Mk m rfl (by simp only [lw];omega) ?_ (by simp only [lw,hm])
 refine Lo (fun (k,lo,br)=>[(0,.d (ws (dig x))),(1,.d (ws (dig y))),(5,.own 12 1 0 m),(6,.d (.int .u64 (br : Nat))),(7,.d (.int .i64 (k : Nat)))]) (fun (_,lo,_)=>[(12,.arr 1 (lo.map wd))])
  (fun (k,lo,br)=>k≤m∧lo.length=m∧Xao lo∧br≤1∧val (lo.take k)+val ((dig y).take k)=val ((dig x).take k)+4294967296 ^ k*br) (fun (k,_,_)=>m - k) (0,List.replicate m 0,0) [] rfl
  ⟨by omega,by simp,Xer _,by omega,by simp [val]⟩ ?_ (by exact ⟨rfl,by simp only [W2e];rfl,rfl,rfl,rfl⟩)
 rintro ⟨k,lo,br⟩ ⟨hk,hl1,hw,hbr,hval⟩
 refine By rfl (fun h=>?_) fun h=>?_ <;> simp only [lw] at h
 · obtain ⟨u,hu⟩:=xat (l:=dig x) (k:=k) (by omega)
   have hub:=ww hu (Xad x)
   refine Cu none (fun (v : Nat)=>[(0,.d (ws (dig x))),(1,.d (ws (dig y))),(5,.own 12 1 0 m),(6,.d (.int .u64 br)),(7,.d (.int .i64 k)),(8,.d (.int .u64 v))]) (fun _=>[(12,.arr 1 (lo.map wd))])
    (fun v=>v<4294967296∧val ((dig y).take (k+1))=val ((dig y).take k)+4294967296 ^ k*v) rfl ?_ fun v ⟨hv,hyv⟩=>?_
   · refine By rfl (fun h2=>?_) fun h2=>?_ <;> simp only [lw] at h2
     · obtain ⟨u2,hu2⟩:=xat (l:=dig y) (k:=k) (by omega)
       have hub2:=ww hu2 (Xad y)
       refine Ix k rfl (mp hu2) ?_
       refine Go.Vm.Cv u2 rfl ?_
       exact Jn u2 [] rfl ⟨hub2,Xac hu2⟩
     · exact Jn 0 [] rfl ⟨by omega,by rw [Xfj (by omega)];rfl⟩
   obtain ⟨s,hs⟩ : ∃ s,s=u+4294967296 - v - br:=⟨_,rfl⟩
   refine Ix k rfl (mp hu) ?_
   refine Go.Vm.Cv u rfl ?_
   refine Ar (u+4294967296 : Nat) rfl ?_
   refine Ar (u+4294967296 - v : Nat) rfl ?_
   refine Ar s rfl ?_
   refine Go.Vm.Cv (s % 4294967296 : Nat) rfl ?_ (by rw [wWm];omega)
   refine Eo k rfl (by omega) ?_
   refine Sto rfl (by simp only [lw];omega) ms ?_
   refine Ar (s / 4294967296 : Nat) rfl ?_ (Xgy (n:=32) (by decide))
   refine Ar (1 - s / 4294967296 : Nat) rfl ?_
   refine Ar (k+1 : Nat) rfl ?_
   refine Bk (k+1,lo.set k (s % 4294967296),1 - s / 4294967296) [] rfl ⟨by omega,by simp [hl1],Xfs hw (by omega),by omega,?_⟩ (by show m - (k+1)<m - k;omega)
   rw [Xa8 (by omega),hyv,Xac hu,W0p,W0o]
   have e : 4294967296 ^ k*(s % 4294967296+v+br)=4294967296 ^ k*(u+4294967296*(1 - s / 4294967296)):=by congr 1;omega
   simp only [W0w] at e
   omega
 · have hkn : k=m:=by omega
   rw [hkn,W0b (by omega),W0b (by omega),W0b (by omega),Xaf,Xaf] at hval
   have hvl:=Xbq hw
   rw [hl1] at hvl
   have hbr0 : br=0:=by
    rcases W2n br with h0 | h0
    · exact h0
    · have h1 : 4294967296 ^ m*1≤4294967296 ^ m*br:=W0m _ h0
      omega
   rw [hbr0,W2x] at hval
   refine Fz 12 5 (lo.map wd) rfl (by simp only [lw];omega) (oa hl1) ?_
   refine Ce rfl (Xay hw (by omega)) ?_
   exact R1 rfl (.eq (by rw [show val lo=x - y by omega]))
end
section
theorem Xg8 {x y : Nat} (hx : (dig x).length≤549755813888) (hy : (dig y).length≤549755813888) : C0 115 [.d (ws (dig x)),.d (ws (dig y))] (·=.d (ws (dig (x+y)))):=by
 refine En Tryz.func115 fun _ _ _=>?_
 refine Cu none (fun (a,b)=>[(0,.d (ws (dig a))),(1,.d (ws (dig b)))]) (fun _=>[]) (fun (a,b)=>a+b=x+y∧(dig b).length≤(dig a).length∧(dig a).length≤549755813888) rfl ?_ fun ⟨a,b⟩ ⟨hs,hle,hbig⟩=>?_
 · refine By rfl (fun h=>?_) fun h=>?_ <;> simp only [lw] at h
   · exact Jn (y,x) [] rfl ⟨Nat.add_comm _ _,by omega,hy⟩
   · exact Jn (x,y) [] rfl ⟨rfl,by omega,hx⟩
 obtain ⟨m,hm⟩ : ∃ m,(dig a).length=m:=⟨_,rfl⟩
 rw [hm] at hle hbig
 refine Ar (m+1 : Nat) rfl ?_ (wr (by simp only [lw,hm];omega) (by simp only [inK];omega))
 refine Mk (m+1) rfl (by omega) ?_
 refine Lo (fun (k,lo,cr)=>[(0,.d (ws (dig a))),(1,.d (ws (dig b))),(5,.own 18 1 0 (m+1)),(6,.d (.int .u64 (cr : Nat))),(7,.d (.int .i64 (k : Nat)))]) (fun (_,lo,_)=>[(18,.arr 1 (lo.map wd))])
  (fun (k,lo,cr)=>k≤m∧lo.length=m+1∧Xao lo∧cr≤1∧val (lo.take k)+4294967296 ^ k*cr=val ((dig a).take k)+val ((dig b).take k)) (fun (k,_,_)=>m - k) (0,List.replicate (m+1) 0,0) [] rfl ⟨by omega,by simp,Xer _,by omega,by simp [val]⟩ ?_ (by exact ⟨rfl,by simp only [W2e];rfl,rfl,rfl,rfl⟩)
 rintro ⟨k,lo,cr⟩ ⟨hk,hl,hw,hcr,hval⟩
 refine By rfl (fun h=>?_) fun h=>?_ <;> simp only [lw] at h
 · obtain ⟨u,hu⟩:=xat (l:=dig a) (k:=k) (by omega)
   have hub:=ww hu (Xad a)
   refine Ix k rfl (mp hu) ?_
   refine Go.Vm.Cv u rfl ?_
   refine Ar (cr+u : Nat) rfl ?_
   refine Cu none (fun (s : Nat)=>[(0,.d (ws (dig a))),(1,.d (ws (dig b))),(5,.own 18 1 0 (m+1)),(6,.d (.int .u64 s)),(7,.d (.int .i64 k))]) (fun _=>[(18,.arr 1 (lo.map wd))])
    (fun s=>s<8589934592∧4294967296 ^ k*s+val (lo.take k)=val ((dig a).take (k+1))+val ((dig b).take (k+1))) rfl ?_ fun s ⟨hs8,hsv⟩=>?_
   · refine By rfl (fun h2=>?_) fun h2=>?_ <;> simp only [lw] at h2
     · obtain ⟨u2,hu2⟩:=xat (l:=dig b) (k:=k) (by omega)
       have hub2:=ww hu2 (Xad b)
       refine Ix k rfl (mp hu2) ?_
       refine Go.Vm.Cv u2 rfl ?_
       refine Ar (cr+u+u2 : Nat) rfl ?_
       exact Jn (cr+u+u2) [] rfl ⟨by omega,by rw [Xac hu,Xac hu2,W0w,W0w];omega⟩
     · exact Jn (cr+u) [] rfl ⟨by omega,by rw [Xac hu,Xfj (l:=dig b) (by omega),W0w];omega⟩
   refine Go.Vm.Cv (s % 4294967296 : Nat) rfl ?_ (by rw [wWm];omega)
   refine Eo k rfl (by omega) ?_
   refine Sto rfl (by simp only [lw];omega) ms ?_
   refine Ar (s / 4294967296 : Nat) rfl ?_ (Xgy (n:=32) (by decide))
   refine Ar (k+1 : Nat) rfl ?_
   refine Bk (k+1,lo.set k (s % 4294967296),s / 4294967296) [] rfl ⟨by omega,by simp [hl],Xfs hw (by omega),by show s / 4294967296≤1;omega,?_⟩ (by show m - (k+1)<m - k;omega)
   rw [Xa8 (by omega),←hsv,W0p,W0o]
   have e2 : 4294967296 ^ k*s=4294967296 ^ k*(s % 4294967296)+4294967296 ^ k*(4294967296*(s / 4294967296)):=by rw [←W0w];congr 1;omega
   omega
 · have hkn : k=m:=by omega
   subst hkn
   rw [W0b (l:=dig a) (by omega),W0b (l:=dig b) (by omega),Xaf,Xaf,hs] at hval
   have hfin : val (lo.set k cr)=x+y:=by
    have:=Xa8 (l:=lo) (k:=k) (d:=cr) (by omega)
    rw [W0b (by rw [W3k];omega)] at this
    rw [this,hval]
   refine Go.Vm.Cv cr rfl ?_
   refine Eo k rfl (by omega) ?_ (by simp only [lw];omega)
   refine Sto rfl (by simp only [lw];omega) ms ?_
   refine Fz 14 5 ((lo.set k cr).map wd) rfl (by simp only [lw,W3k];omega) (oa (by simp [hl])) ?_
   refine Ce rfl (Xay (Xfs hw (by omega)) (by simp only [W3k];omega)) ?_
   exact R1 rfl (.eq (by rw [hfin]))
theorem Xrp {X Y : List Nat} (hX : Xao X) (hY : Xao Y) (hx : X.length≤549755813888) (hy : Y.length≤549755813888) : C0 221 [.d (ws X),.d (ws Y)] (·=.d (ws (dig (val X*val Y)))):=by
 obtain ⟨n,hn⟩ : ∃ n,X.length=n:=⟨_,rfl⟩
 obtain ⟨m,hm⟩ : ∃ m,Y.length=m:=⟨_,rfl⟩
 rw [hm] at hy
 rw [hn] at hx
 refine En Tryz.func221 fun _ _ _=>?_
 refine Ar (n+m : Nat) rfl ?_ (wr (by simp only [lw];omega) (by simp only [inK];omega))
 refine Mk (n+m) rfl (by omega) ?_
 refine Lo (fun (i,lo)=>[(0,.d (ws X)),(1,.d (ws Y)),(5,.own 14 1 0 (n+m)),(6,.d (.int .i64 (i : Nat)))]) (fun (_,lo)=>[(14,.arr 1 (lo.map wd))])
  (fun (i,lo)=>i≤n∧lo.length=n+m∧Xao lo∧val (lo.take (i+m))=val (X.take i)*val Y∧∀ j,i+m≤j→j<n+m→lo[j]?=some 0) (fun (i,_)=>n - i)
  (0,List.replicate (n+m) 0) [] rfl ⟨by omega,by simp,Xer _,by rw [W5l,Xbp];simp [val],fun j _ h=>by rw [W4t,if_pos h]⟩ ?_ (by exact ⟨rfl,by simp only [W2e];rfl,rfl,rfl,rfl⟩)
 rintro ⟨i,lo0⟩ ⟨hi,hl0,hw0,hval,hz0⟩
 refine By rfl (fun h=>?_) fun h=>?_ <;> simp only [lw] at h
 · obtain ⟨u,hu⟩:=xat (l:=X) (k:=i) (by omega)
   have hub:=ww hu (hX)
   refine Lo (fun (k,lo,cr)=>[(0,.d (ws X)),(1,.d (ws Y)),(5,.own 14 1 0 (n+m)),(6,.d (.int .i64 i)),(7,.d (.int .u64 (cr : Nat))),(8,.d (.int .i64 (k : Nat)))]) (fun (_,lo,_)=>[(14,.arr 1 (lo.map wd))])
    (fun (k,lo,cr)=>k≤m∧lo.length=n+m∧Xao lo∧cr<4294967296∧(∀ j,i+k≤j→lo[j]?=lo0[j]?)∧val (lo.take (i+k))+4294967296 ^ (i+k)*cr=val (lo0.take (i+k))+4294967296 ^ i*(u*val (Y.take k))) (fun (k,_,_)=>m - k)
    (0,lo0,0) [] rfl ⟨by omega,hl0,hw0,by omega,fun _ _=>rfl,by simp [val]⟩ ?_
   rintro ⟨k,lo,cr⟩ ⟨hk,hl1,hw,hcr,hrest,hval2⟩
   refine By rfl (fun h=>?_) fun h=>?_ <;> simp only [lw] at h
   · obtain ⟨v,hv⟩:=xat (l:=Y) (k:=k) (by omega)
     have hvb:=ww hv (hY)
     obtain ⟨w,hw1⟩:=xat (l:=lo) (k:=i+k) (by omega)
     have hwb:=ww hw1 hw
     have huv : u*v≤4294967295*4294967295:=W2a (by omega) (by omega)
     obtain ⟨s,hs⟩ : ∃ s,s=cr+w+u*v:=⟨_,rfl⟩
     have hs2 : s<18446744073709551616:=by omega
     refine Dw rfl ?_
     refine Ar (i+k : Nat) rfl ?_
     refine Eo (i+k) rfl (by omega) ?_
     refine Ld (wd w) rfl (mp hw1) ?_
     refine Go.Vm.Cv w rfl ?_
     refine Ar (cr+w : Nat) rfl ?_
     refine Ix i rfl (mp hu) ?_
     refine Go.Vm.Cv u rfl ?_
     refine Ix k rfl (mp hv) ?_
     refine Go.Vm.Cv v rfl ?_
     refine Ar (u*v : Nat) rfl ?_ (wr (W3b ..).symm (by simp only [inK];omega))
     refine Ar (s : Nat) rfl ?_
     refine Ar (i+k : Nat) rfl ?_
     refine Go.Vm.Cv (s % 4294967296 : Nat) rfl ?_ (by rw [wWm];omega)
     refine Eo (i+k) rfl (by omega) ?_
     refine Sto rfl (by simp only [lw];omega) ms ?_
     refine Ar (s / 4294967296 : Nat) rfl ?_ (Xgy (n:=32) (by decide))
     refine Ar (k+1 : Nat) rfl ?_
     refine Bk (k+1,lo.set (i+k) (s % 4294967296),s / 4294967296) [] rfl ⟨by omega,by simp [hl1],Xfs hw (by omega),by omega,fun j hj=>by rw [W1v (by omega)];exact hrest j (by omega),?_⟩ (by show _ - (k+1)<_ - k;omega)
     have hw0' : lo0[i+k]?=some w:=by rw [←hrest (i+k) (W0a _)];exact hw1
     rw [←W4p,Xa8 (by omega),Xac hw0',Xac hv,W0p,W0o,W0w u,W0w (4294967296 ^ i)]
     have e : 4294967296 ^ (i+k)*s=4294967296 ^ (i+k)*(s % 4294967296)+4294967296 ^ (i+k)*(4294967296*(s / 4294967296)):=by rw [←W0w];congr 1;omega
     have e2 : 4294967296 ^ (i+k)*s=4294967296 ^ (i+k)*cr+4294967296 ^ i*(u*(4294967296 ^ k*v))+4294967296 ^ (i+k)*w:=by
      rw [hs,W0w,W0w,W0v]
      have : 4294967296 ^ i*4294967296 ^ k*(u*v)=4294967296 ^ i*(u*(4294967296 ^ k*v)):=by
       rw [W0o,W4l (4294967296 ^ k) u v]
      omega
     omega
   · have hkm : k=m:=by omega
     subst hkm
     refine Ar (i+k : Nat) rfl ?_ (wr (by simp only [lw];omega) (by simp only [inK];omega))
     refine Go.Vm.Cv cr rfl ?_
     refine Eo (i+k) rfl (by omega) ?_
     refine Sto rfl (by simp only [lw];omega) ms ?_
     refine Ar (i+1 : Nat) rfl ?_
     refine Bk (i+1,lo.set (i+k) cr) [] rfl ⟨by omega,by simp [hl1],Xfs hw hcr,?_,fun j h1 h2=>by rw [W1v (by omega),hrest j (by omega)];exact hz0 j (by omega) h2⟩ (by show _ - (i+1)<_ - i;omega)
     rw [show i+1+k=i+k+1 from by omega,Xa8 (by omega),Xac hu,hval2,hval,show Y.take k=Y from W0b (by omega),W1g,W0o]
 · have him : i=n:=by omega
   rw [him,W0b (by omega),W0b (by omega)] at hval
   refine Fz 13 5 (lo0.map wd) rfl (by simp only [lw];omega) (oa hl0) ?_
   refine Ce rfl (Xay hw0 (by omega)) ?_
   exact R1 rfl (.eq (by rw [hval]))
theorem Xi9 {x y : Nat} (hx : (dig x).length≤549755813888) (hy : (dig y).length≤549755813888) : C0 221 [.d (ws (dig x)),.d (ws (dig y))] (·=.d (ws (dig (x*y)))):=by
 have:=Xrp (Xad x) (Xad y) hx hy
 rwa [Xaf,Xaf] at this
theorem Xrq {x q n : Nat} {l : List Nat} (hq : q+n≤l.length) (hl : (l.drop q).take n=dig x) (hx : (dig x).length≤549755813888) : CN0 221 [.own 1000001 1 q n,.own 1000001 1 q n] [(1000001,.arr 1 (l.map wd))] (·=.d (ws (dig (x*x)))):=by
 have hg : ∀ {k u : Nat},(dig x)[k]?=some u→k<n→l[q+k]?=some u:=fun h hk=>by rw [←hl,dtk hk] at h;exact h
 have hn : (dig x).length=n:=by rw [←hl,Xvv hq]
 rw [hn] at hx
 refine EnW Tryz.func221 fun _ _ _ _=>?_
 refine Ar (n+n : Nat) rfl ?_ (wr (by omega) (by simp only [inK];omega))
 refine Mk (n+n) rfl (by omega) ?_
 refine Lo (fun (i,lo)=>[(0,.own 1000001 1 q n),(1,.own 1000001 1 q n),(5,.own 14 1 0 (n+n)),(6,.d (.int .i64 (i : Nat)))]) (fun (_,lo)=>[(14,.arr 1 (lo.map wd)),(1000001,.arr 1 (l.map wd))])
  (fun (i,lo)=>i≤n∧lo.length=n+n∧Xao lo∧val (lo.take (i+n))=val ((dig x).take i)*x∧∀ j,i+n≤j→j<n+n→lo[j]?=some 0) (fun (i,_)=>n - i)
  (0,List.replicate (n+n) 0) [] rfl ⟨by omega,by simp,Xer _,by rw [W5l,Xbp];simp [val],fun j _ h=>by rw [W4t,if_pos h]⟩ ?_ (by exact ⟨rfl,by simp only [W2e];rfl,rfl,rfl,rfl⟩)
 rintro ⟨i,lo0⟩ ⟨hi,hl0,hw0,hval,hz0⟩
 refine By rfl (fun h=>?_) fun h=>?_
 · obtain ⟨u,hu⟩:=xat (l:=dig x) (k:=i) (by omega)
   have hub:=ww hu (Xad x)
   refine Lo (fun (k,lo,cr)=>[(0,.own 1000001 1 q n),(1,.own 1000001 1 q n),(5,.own 14 1 0 (n+n)),(6,.d (.int .i64 i)),(7,.d (.int .u64 (cr : Nat))),(8,.d (.int .i64 (k : Nat)))]) (fun (_,lo,_)=>[(14,.arr 1 (lo.map wd)),(1000001,.arr 1 (l.map wd))])
    (fun (k,lo,cr)=>k≤n∧lo.length=n+n∧Xao lo∧cr<4294967296∧(∀ j,i+k≤j→lo[j]?=lo0[j]?)∧val (lo.take (i+k))+4294967296 ^ (i+k)*cr=val (lo0.take (i+k))+4294967296 ^ i*(u*val ((dig x).take k))) (fun (k,_,_)=>n - k)
    (0,lo0,0) [] rfl ⟨by omega,hl0,hw0,by omega,fun _ _=>rfl,by simp [val]⟩ ?_
   rintro ⟨k,lo,cr⟩ ⟨hk,hl1,hw,hcr,hrest,hval2⟩
   refine By rfl (fun h=>?_) fun h=>?_
   · obtain ⟨v,hv⟩:=xat (l:=dig x) (k:=k) (by omega)
     have hvb:=ww hv (Xad x)
     obtain ⟨w,hw1⟩:=xat (l:=lo) (k:=i+k) (by omega)
     have hwb:=ww hw1 hw
     have huv : u*v≤4294967295*4294967295:=W2a (by omega) (by omega)
     obtain ⟨s,hs⟩ : ∃ s,s=cr+w+u*v:=⟨_,rfl⟩
     have hs2 : s<18446744073709551616:=by omega
     refine Dw rfl ?_
     refine Ar (i+k : Nat) rfl ?_
     refine Eo (i+k) rfl (by omega) ?_
     refine Ld (wd w) rfl (mp hw1) ?_
     refine Go.Vm.Cv w rfl ?_
     refine Ar (cr+w : Nat) rfl ?_
     refine El i rfl (by omega) ?_
     refine Ld (wd u) rfl (mp (hg hu (by omega))) ?_
     refine Go.Vm.Cv u rfl ?_
     refine El k rfl (by omega) ?_
     refine Ld (wd v) rfl (mp (hg hv (by omega))) ?_
     refine Go.Vm.Cv v rfl ?_
     refine Ar (u*v : Nat) rfl ?_ (wr (W3b ..).symm (by simp only [inK];omega))
     refine Ar (s : Nat) rfl ?_
     refine Ar (i+k : Nat) rfl ?_
     refine Go.Vm.Cv (s % 4294967296 : Nat) rfl ?_ (by rw [wWm];omega)
     refine Eo (i+k) rfl (by omega) ?_
     refine Sto rfl (by simp only [lw];omega) ms ?_
     refine Ar (s / 4294967296 : Nat) rfl ?_ (Xgy (n:=32) (by decide))
     refine Ar (k+1 : Nat) rfl ?_
     refine Bk (k+1,lo.set (i+k) (s % 4294967296),s / 4294967296) [] rfl ⟨by omega,by simp [hl1],Xfs hw (by omega),by omega,fun j hj=>by rw [W1v (by omega)];exact hrest j (by omega),?_⟩ (by show _ - (k+1)<_ - k;omega)
     have hw0' : lo0[i+k]?=some w:=by rw [←hrest (i+k) (W0a _)];exact hw1
     rw [←W4p,Xa8 (by omega),Xac hw0',Xac hv,W0p,W0o,W0w u,W0w (4294967296 ^ i)]
     have e : 4294967296 ^ (i+k)*s=4294967296 ^ (i+k)*(s % 4294967296)+4294967296 ^ (i+k)*(4294967296*(s / 4294967296)):=by rw [←W0w];congr 1;omega
     have e2 : 4294967296 ^ (i+k)*s=4294967296 ^ (i+k)*cr+4294967296 ^ i*(u*(4294967296 ^ k*v))+4294967296 ^ (i+k)*w:=by
      rw [hs,W0w,W0w,W0v]
      have : 4294967296 ^ i*4294967296 ^ k*(u*v)=4294967296 ^ i*(u*(4294967296 ^ k*v)):=by
       rw [W0o,W4l (4294967296 ^ k) u v]
      omega
     omega
   · have hkm : k=n:=by omega
     subst hkm
     refine Ar (i+k : Nat) rfl ?_ (wr (by omega) (by simp only [inK];omega))
     refine Go.Vm.Cv cr rfl ?_
     refine Eo (i+k) rfl (by omega) ?_
     refine Sto rfl (by simp only [lw];omega) ms ?_
     refine Ar (i+1 : Nat) rfl ?_
     refine Bk (i+1,lo.set (i+k) cr) [] rfl ⟨by omega,by simp [hl1],Xfs hw hcr,?_,fun j h1 h2=>by rw [W1v (by omega),hrest j (by omega)];exact hz0 j (by omega) h2⟩ (by show _ - (i+1)<_ - i;omega)
     rw [show i+1+k=i+k+1 from by omega,Xa8 (by omega),Xac hu,hval2,hval,show (dig x).take k=dig x from W0b (by omega),Xaf,W1g,W0o]
 · have him : i=n:=by omega
   rw [him,W0b (by omega),W0b (by omega),Xaf] at hval
   refine Fz 13 5 (lo0.map wd) rfl (by simp only [lw];omega) (oa hl0) ?_
   refine Ce rfl (Xay hw0 (by omega)) ?_
   exact Rw [] [(1000001,.arr 1 (l.map wd))] rfl (.one (.rf rfl) rfl rfl) ⟨rfl,by rw [hval]⟩
end
section
theorem Neg_ok {z : Int} (h : (dig z.natAbs).length≤1099511627776) : C0 56 [.d (dz z)] (·=.d (dz (-z))):=by
 refine En Tryz.func56 fun _ _ _=>?_
 refine Ce rfl (Xai h) ?_
 exact R1 rfl (.eq (by rw [Xy6]))
theorem Add_ok {a b : Int} (ha : (dig a.natAbs).length≤549755813888) (hb : (dig b.natAbs).length≤549755813888) : C0 55 [.d (dz a),.d (dz b)] (·=.d (dz (a+b))):=by
 refine En Tryz.func55 fun _ _ _=>?_
 refine Dw rfl ?_
 refine Ce rfl (Norm_ok (by omega)) ?_
 refine Ce rfl (Norm_ok (by omega)) ?_
 refine By rfl (fun h=>?_) fun h=>?_ <;> rw [Ykc] at h
 · refine Dw rfl ?_
   refine Ce rfl (Xg8 ha hb) ?_
   refine Ce rfl (Xai (W0i (Xfo ..) (by omega))) ?_
   exact R1 rfl (.eq (by rw [Xy8 h]))
 · refine Ce rfl (Xbv (by omega)) ?_
   refine By rfl (fun h1=>?_) fun h1=>?_
   · have hle:=Yj5.1 (show ¬ Xa1 (a.natAbs : Int) (b.natAbs : Int)<0 by omega)
     refine Dw rfl ?_
     refine Ce rfl (Xdh (by omega) hle) ?_
     refine Ce rfl (Xai (W0i (Xar (Nat.sub_le ..)) (by omega))) ?_
     exact R1 rfl (.eq (by rw [Xoj h hle]))
   · have hle:=W2c (Xx3.1 (show Xa1 (a.natAbs : Int) (b.natAbs : Int)<0 by omega))
     refine Dw rfl ?_
     refine Ce rfl (Xdh (by omega) hle) ?_
     refine Ce rfl (Xai (W0i (Xar (Nat.sub_le ..)) (by omega))) ?_
     exact R1 rfl (.eq (by rw [Xoj (fun e=>h e.symm) hle,Int.add_comm]))
theorem Sub_ok {a b : Int} (ha : (dig a.natAbs).length≤549755813888) (hb : (dig b.natAbs).length≤549755813888) : C0 23 [.d (dz a),.d (dz b)] (·=.d (dz (a - b))):=by
 refine En Tryz.func23 fun _ _ _=>?_
 refine Dw rfl ?_
 refine Ce rfl (Neg_ok (by omega)) ?_
 refine Ce rfl (Add_ok ha (by rw [W4s];exact hb)) ?_
 exact R0
theorem Mul_ok {a b : Int} (ha : (dig a.natAbs).length≤549755813888) (hb : (dig b.natAbs).length≤549755813888) : C0 177 [.d (dz a),.d (dz b)] (·=.d (dz (a*b))):=by
 refine En Tryz.func177 fun _ _ _=>?_
 refine Dw rfl ?_
 refine Ce rfl (Norm_ok (by omega)) ?_
 refine Ce rfl (Norm_ok (by omega)) ?_
 refine Dw rfl ?_
 refine Ce rfl (Xi9 ha hb) ?_
 refine Ce rfl (Xai (W0i (Xjy ..) (by omega))) ?_
 exact R1 rfl (.eq (by rw [Yad,Xy7]))
theorem Xu2 (a b : Int) : Xa1 (a - b) 0=Xa1 a b:=by
 unfold Xa1;split <;> split <;> (try split) <;> (try split) <;> omega
theorem Cmp_ok {a b : Int} (ha : (dig a.natAbs).length≤549755813888) (hb : (dig b.natAbs).length≤549755813888) : C0 9 [.d (dz a),.d (dz b)] (·=.d (.int .i64 (Xa1 a b))):=by
 have hl:=Xfo a.natAbs b.natAbs
 have hl2:=Xar (show (a - b).natAbs≤a.natAbs+b.natAbs by omega)
 refine En Tryz.func9 fun _ _ _=>?_
 refine Ce rfl (Sub_ok ha hb) ?_
 refine Ce rfl (Sign_ok (by omega)) ?_
 exact R1 rfl (.eq (by rw [Xu2]))
theorem Yj7 {x y : Nat} (hx : (dig x).length≤549755813888) (hy : y<4294967296) (hy0 : y≠0) : C0 232 [.d (ws (dig x)),.d (.int .u32 y)] (·=.tup (.pr (.d (ws (dig (x / y)))) (.d (.int .u32 (x % y : Nat))))):=by
 refine En Tryz.func232 fun _ _ _=>?_
 refine Mk (dig x).length rfl (by simp only [lw];omega) ?_ (by simp only [lw])
 refine Ar ((dig x).length - 1 : Int) rfl ?_ (wr (by simp only [lw]) (by simp only [inK];omega))
 refine Lo (fun (k,lo,r)=>[(0,.d (ws (dig x))),(1,.d (.int .u32 y)),(6,.own 11 1 0 (dig x).length),(7,.d (.int .u64 (r : Nat))),(8,.d (.int .i64 ((k : Nat) - 1 : Int)))]) (fun (_,lo,_)=>[(11,.arr 1 (lo.map wd))])
  (fun (k,lo,r)=>k≤(dig x).length∧lo.length=(dig x).length∧Xao lo∧r<y∧val (lo.drop k)*y+r=val ((dig x).drop k)) (fun (k,_,_)=>k) ((dig x).length,List.replicate (dig x).length 0,0) [] rfl
  ⟨by omega,by simp,Xer _,by omega,by rw [W1z (by simp),W1z (by omega)];simp [val]⟩ ?_ (by exact ⟨rfl,by simp only [W2e];rfl,rfl,rfl,rfl⟩)
 rintro ⟨k,lo,r⟩ ⟨hk,hl,hwo,hr,hval⟩
 refine By rfl (fun h=>?_) fun h=>?_
 · obtain ⟨u,hu⟩:=xat (l:=dig x) (k:=k - 1) (by omega)
   have hub:=ww hu (Xad x)
   obtain ⟨s,hs⟩ : ∃ s,s=r*2 ^ 32+u:=⟨_,rfl⟩
   have hs64 : s<18446744073709551616:=by omega
   have hsy : s / y<4294967296:=by
    rw [W2m (by omega)]
    have:=W1b 4294967296 (show r+1≤y by omega)
    omega
   have hsm : s % y<y:=W1r _ (by omega)
   have hq0 : 0≤s / y:=W1d _
   refine Ar (r*2 ^ 32 : Nat) rfl ?_ (Xgz (n:=32) rfl (by omega) (by decide))
   refine Ix (k - 1) rfl (mp hu) ?_
   refine Go.Vm.Cv u rfl ?_
   refine Ar s rfl ?_ (Xzi (by omega) (by omega) (by rw [Xc2 u r 32 (by omega),←hs]) hs64)
   refine Go.Vm.Cv y rfl ?_
   refine Ar (s / y : Nat) rfl ?_ (show _∧_ from ⟨by omega,Yaq s y hs64⟩)
   refine Go.Vm.Cv (s / y : Nat) rfl ?_ (wW ⟨W5p _,W6y.2 hsy⟩)
   refine Eo (k - 1) rfl (by omega) ?_
   refine Sto rfl (by simp only [lw];omega) ms ?_
   refine Go.Vm.Cv y rfl ?_
   refine Ar (s % y : Nat) rfl ?_ (show _∧_ from ⟨by omega,Xq6 s y⟩)
   refine Ar ((k - 1 : Nat) - 1 : Int) rfl ?_
   refine Bk (k - 1,lo.set (k - 1) (s / y),s % y) [] rfl ⟨by omega,by simp [hl],Xfs hwo hsy,hsm,?_⟩ (by show k - 1<k;omega)
   rw [Xbr hu,show k - 1+1=k from by omega,←hval,drop_set (by omega),val,show k - 1+1=k from by omega]
   have e:=W2j s y
   rw [W1e] at e
   rw [W1g,W0w,W0o]
   omega
 · have hk0 : k=0:=by omega
   subst hk0
   rw [W1f,W1f,Xaf] at hval
   have hq : x / y=val lo:=by rw [←hval,W1e,Nat.mul_add_div (by omega),W4h hr,W2i]
   have hm : x % y=r:=by rw [←hval,W1e,Nat.mul_add_mod,W3u hr]
   refine Fz 9 6 (lo.map wd) rfl (by simp only [lw];omega) (oa hl) ?_
   refine Ce rfl (Xay hwo (by omega)) ?_
   refine Go.Vm.Cv (x % y : Nat) rfl ?_ (by rw [hm];exact wW (by omega))
   exact RTt rfl (.cons (.eq (by rw [hq])) (.one (.rf rfl) (fun _ _ e=>by cases e) (fun _ _ e=>by cases e)))
theorem Xog {x : Nat} (hl : (dig x).length≤2) : C0 231 [.d (ws (dig x))] (·=.d (.int .u64 x)):=by
 refine En Tryz.func231 fun _ _ _=>?_
 refine Ar ((dig x).length - 1 : Int) rfl ?_ (wr (by simp only [lw]) (by simp only [inK];omega))
 refine Lo (fun k=>[(0,.d (ws (dig x))),(3,.d (.int .u64 (val ((dig x).drop k)))),(4,.d (.int .i64 ((k : Nat) - 1 : Int)))]) (fun _=>[]) (fun k=>k≤(dig x).length) (fun k=>k) (dig x).length [] rfl (W0a _) (fun k hk=>?_) (by exact ⟨by rw [W1z (W0a _)];rfl,rfl,rfl,rfl,rfl⟩)
 refine By rfl (fun h=>?_) fun h=>?_
 · obtain ⟨u,hu⟩:=xat (l:=dig x) (k:=k - 1) (by omega)
   have hub:=ww hu (Xad x)
   have hv : val ((dig x).drop k)<4294967296:=by
    have h1:=Xbq ((Xad x).drop k)
    have h2 : 4294967296 ^ ((dig x).drop k).length≤4294967296 ^ 1:=W0h (by decide) (by rw [W1p];omega)
    omega
   have hvd:=Xbr hu
   rw [show k - 1+1=k from by omega] at hvd
   obtain ⟨s,hs⟩ : ∃ s,s=val ((dig x).drop k):=⟨_,rfl⟩
   rw [←hs] at hv hvd
   refine Ar (s*2 ^ 32 : Nat) rfl ?_ (by rw [←hs];exact Xgz (n:=32) rfl (by omega) (by decide))
   refine Ix (k - 1) rfl (mp hu) ?_
   refine Go.Vm.Cv u rfl ?_
   refine Ar (val ((dig x).drop (k - 1)) : Nat) rfl ?_ (Xzi (by omega) (by omega) (by rw [Xc2 u s 32 (by omega),hvd];omega) (by omega))
   refine Ar ((k - 1 : Nat) - 1 : Int) rfl ?_
   exact Bk (k - 1) [] rfl (show k - 1≤_ by omega) (by show k - 1<k;omega)
 · refine R1 rfl (.eq ?_)
   rw [show k=0 by omega,W1f,Xaf]
theorem Ydc {x : Nat} (h : x≠0) : bl x=bl (x / 2)+1:=by
 by_cases h2 : x / 2=0
 · have : x=1:=by omega
   subst this
   decide
 · exact Xea (n:=x) (k:=1) h2
theorem Xla {x : Nat} (hx : (dig x).length≤1099511627776) (h0 : x≠0) : C0 233 [.d (ws (dig x))] fun v=>∃ t,(dig x)[(dig x).length - 1]?=some t∧t≠0∧t<4294967296∧v=.d (.int .i64 (32*((dig x).length - 1)+bl t : Nat)):=by
 have hm0 : (dig x).length≠0:=fun e=>h0 (Yli.1 e)
 obtain ⟨t,ht,ht0⟩ : ∃ t,(dig x)[(dig x).length - 1]?=some t∧t≠0:=by
  rcases Xf9 x with h1 | h1
  · exact absurd (Xqt.1 h1) h0
  · exact h1
 have htb:=ww ht (Xad x)
 have hbt : bl t≤32:=by
  obtain ⟨b1,b2,b3⟩:=Xca ht0
  have : 2 ^ (bl t - 1)<2 ^ 32:=W1m b1 htb
  have:=(W2y (by decide : 1<2)).1 this
  omega
 refine En Tryz.func233 fun _ _ _=>?_
 refine No rfl (by simp only [lw];omega) ?_
 refine Ar ((dig x).length - 1 : Nat) rfl ?_ (wr (by simp only [lw];omega) (by simp only [inK];omega))
 refine Ix ((dig x).length - 1) rfl (mp ht) ?_
 refine Lo (fun (k,i)=>[(0,.d (ws (dig x))),(3,.d (.int .i64 (i : Nat))),(4,.d (.int .u32 (k : Nat)))]) (fun _=>[]) (fun (k,i)=>k<4294967296∧bl k+i=bl t) (fun (k,_)=>k) (t,0) [] rfl ⟨htb,rfl⟩ ?_
 rintro ⟨k,i⟩ ⟨hk,hb⟩
 refine By rfl (fun h=>?_) fun h=>?_
 · have:=Ydc (x:=k) (by omega)
   refine Ar (i+1 : Nat) rfl ?_
   refine Ar (k / 2 : Nat) rfl ?_ (show _∧_ from ⟨by decide,by rw [show Int.tdiv (k : Int) 2=((k / 2 : Nat) : Int) from rfl];exact wW (by omega)⟩)
   exact Bk (k / 2,i+1) [] rfl ⟨by omega,by omega⟩ (by show k / 2<k;omega)
 · have hk0 : k=0:=by omega
   subst hk0
   rw [show bl 0=0 from rfl] at hb
   refine Ar ((dig x).length - 1 : Nat) rfl ?_ (wr (by simp only [lw];omega) (by simp only [inK];omega))
   refine Ar (32*((dig x).length - 1) : Nat) rfl ?_
   refine Ar (32*((dig x).length - 1)+bl t : Nat) rfl ?_
   exact Rt rfl (.one (.rf rfl) rfl rfl) ⟨t,ht,ht0,htb,rfl⟩
theorem Xd1 {n x : Nat} (hx : (dig x).length≤549755813888) (hn32 : n<32) : CO0 234 [.d (ws (dig x)),.d (.int .i64 n)] fun v ob=>∃ l,l.length=(dig x).length+1∧Xao l∧val l=x*2 ^ n∧v=.own 1000000 1 0 l.length∧ob=.arr 1 (l.map wd):=by
 have hp:=W0t n
 have hp32 : 2 ^ n≤2147483648:=by have : 2 ^ n≤2 ^ 31:=W0h (by decide) (by omega);omega
 refine EnW Tryz.func234 fun _ _ _ _=>?_
 refine Ar ((dig x).length+1 : Nat) rfl ?_ (wr (by simp only [lw];omega) (by simp only [inK];omega))
 refine Mk ((dig x).length+1) rfl (by omega) ?_
 refine Lo (fun (i,lo)=>[(0,.d (ws (dig x))),(1,.d (.int .i64 n)),(5,.own 11 1 0 ((dig x).length+1)),(6,.d (.int .i64 (i : Nat)))]) (fun (_,lo)=>[(11,.arr 1 (lo.map wd))])
  (fun (i,lo)=>i≤(dig x).length∧lo.length=(dig x).length+1∧Xao lo∧val (lo.take (i+1))=val ((dig x).take i)*2 ^ n∧∃ w,lo[i]?=some w∧w<2 ^ n) (fun (i,_)=>(dig x).length - i) (0,List.replicate ((dig x).length+1) 0) [] rfl
  ⟨by omega,by simp,Xer _,by rw [W5l,Xbp];simp [val],0,by simp,hp⟩ ?_ (by exact ⟨rfl,by simp only [W2e];rfl,rfl,rfl,rfl⟩)
 rintro ⟨i,lo⟩ ⟨hi,hl,hwo,hval,w,hw,hwn⟩
 refine By rfl (fun h=>?_) fun h=>?_ <;> simp only [lw] at h
 · obtain ⟨u,hu⟩:=xat (l:=dig x) (k:=i) (by omega)
   have hub:=ww hu (Xad x)
   have hs1:=Xy3 hub hn32
   have hs2:=Xdg u n (by omega)
   obtain ⟨s,hs⟩ : ∃ s,s=u*2 ^ n:=⟨_,rfl⟩
   have hshl:=Xgz hs.symm (by omega) (by omega : n≤64)
   rw [←hs] at hs1 hs2
   have hor : w ||| s % 4294967296=s % 4294967296+w:=by rw [Nat.or_comm,hs2];exact Xc2 _ _ _ hwn
   have hlt : s % 4294967296+w<4294967296:=by
    rw [hs2]
    have h1 : u % 2 ^ (32 - n)+1≤2 ^ (32 - n):=W1r _ (W0t _)
    have h2:=W1b (2 ^ n) h1
    rw [←W0v,show 32 - n+n=32 from by omega,W3a] at h2
    omega
   refine Ix i rfl (mp hu) ?_
   refine Go.Vm.Cv u rfl ?_
   refine Ar s rfl ?_ hshl
   refine Eo i rfl (by omega) ?_
   refine Ld (wd w) rfl (mp hw) ?_
   refine Go.Vm.Cv (s % 4294967296 : Nat) rfl ?_ (by rw [wWm];omega)
   refine Ar (s % 4294967296+w : Nat) rfl ?_ (Yh9 (by omega) (by omega) hor hlt)
   refine Eo i rfl (by omega) ?_
   refine Sto rfl (by simp only [lw];omega) ms ?_
   refine Ar (i+1 : Nat) rfl ?_
   refine Ar (s / 4294967296 : Nat) rfl ?_ (Xgy (n:=32) (by decide))
   refine Go.Vm.Cv (s / 4294967296 : Nat) rfl ?_
   refine Eo (i+1) rfl (by omega) ?_
   refine Sto rfl (by simp only [W0n,W3k];omega) ms ?_
   refine Ar (i+1 : Nat) rfl ?_
   refine Bk (i+1,(lo.set i (s % 4294967296+w)).set (i+1) (s / 4294967296)) [] rfl ⟨by omega,by simp [hl],Xfs (Xfs hwo hlt) (by omega),?_,s / 4294967296,by rw [W2s (by rw [W3k];omega)],?_⟩ (by show _ - (i+1)<_ - i;omega)
   · rw [Xa8 (by rw [W3k];omega),Xa8 (by omega),Xac hu,W1g,←hval,Xac hw,W0o,←hs,W0p,W0w,W0o]
     have e : 4294967296 ^ i*s=4294967296 ^ i*(s % 4294967296)+4294967296 ^ i*(4294967296*(s / 4294967296)):=by rw [←W0w];congr 1;omega
     omega
   · rw [W2m (by decide),hs,W1e]
     exact Nat.mul_lt_mul_of_pos_left hub hp
 · have him : i=(dig x).length:=by omega
   rw [him,W0b (by omega),W0b (by omega),Xaf] at hval
   exact Rw [(11,1000000)] [(1000000,.arr 1 (lo.map wd))] rfl (.one (.rf rfl) rfl rfl) ⟨_,rfl,lo,hl,hwo,hval,by rw [hl];rfl,rfl⟩
theorem Xkv {n x : Nat} (hx : (dig x).length≤549755813888) (hn32 : n<32) : C0 234 [.d (ws (dig x)),.d (.int .i64 n)] fun v=>∃ l,l.length=(dig x).length+1∧Xao l∧val l=x*2 ^ n∧v=.d (ws l) :=
 CW.data (Xd1 hx hn32) rfl fun v H' ⟨ob,e,l,h1,h2,h3,h4,h5⟩=>⟨.d (ws l),by rw [h4,e,h5];exact .one (.own rfl (by simp) (oa rfl)) rfl rfl,l,h1,h2,h3,rfl⟩
theorem Xqy {u v n : Nat} (hu : u<4294967296) (hn : n<32) : (u+v*4294967296) / 2 ^ n % 4294967296=u / 2 ^ n+(v % 2 ^ n)*2 ^ (32 - n):=by
 have e : v*4294967296=v*2 ^ (32 - n)*2 ^ n:=by
  rw [W0o,←W0v,show 32 - n+n=32 from by omega]
 rw [e,Nat.add_mul_div_right _ _ (W0t n)]
 have h1:=Xdg v (32 - n) (by omega)
 rw [show 32 - (32 - n)=n from by omega] at h1
 have h2:=(Xku (v:=v) hu hn).2
 rw [←h1] at h2 ⊢
 generalize v*2 ^ (32 - n)=X at *
 generalize u / 2 ^ n=A at *
 omega
theorem Ydf {n x : Nat} (hx : (dig x).length≤1099511627776) (hn32 : n<32) : C0 236 [.d (ws (dig x)),.d (.int .i64 n)] (·=.d (ws (dig (x / 2 ^ n)))):=by
 have hp:=W0t n
 have hp32 : 2 ^ n≤2147483648:=by have : 2 ^ n≤2 ^ 31:=W0h (by decide) (by omega);omega
 obtain ⟨m,hm⟩ : ∃ m,(dig x).length=m:=⟨_,rfl⟩
 rw [hm] at hx
 have hvx:=Xaf x
 refine En Tryz.func236 fun _ _ _=>?_
 refine Mk m rfl (by simp only [lw];omega) ?_ (by simp only [lw,hm])
 refine Lo (fun (i,lo)=>[(0,.d (ws (dig x))),(1,.d (.int .i64 n)),(5,.own 10 1 0 m),(6,.d (.int .i64 (i : Nat)))]) (fun (_,lo)=>[(10,.arr 1 (lo.map wd))])
  (fun (i,lo)=>i≤m∧lo.length=m∧Xao lo∧val (lo.take i)*2 ^ n+x % 2 ^ n=val ((dig x).take i)+4294967296 ^ i*((dig x).getD i 0 % 2 ^ n)) (fun (i,_)=>m - i) (0,List.replicate m 0) [] rfl
  ⟨by omega,by simp,Xer _,by have:=Xgq (dig x) n (by omega);rw [hvx] at this;simp [val,this]⟩ ?_ (by exact ⟨rfl,by simp only [W2e];rfl,rfl,rfl,rfl⟩)
 rintro ⟨i,lo⟩ ⟨hi,hl,hwo,hval⟩
 refine By rfl (fun h=>?_) fun h=>?_ <;> simp only [lw] at h
 · obtain ⟨u,hu⟩:=xat (l:=dig x) (k:=i) (by omega)
   have hub:=ww hu (Xad x)
   have hgu : (dig x).getD i 0=u:=by rw [W2o,hu];rfl
   rw [hgu] at hval
   refine Ix i rfl (mp hu) ?_
   refine Go.Vm.Cv u rfl ?_
   refine Ar (i+1 : Nat) rfl ?_
   refine Cu none (fun s : Nat=>[(0,.d (ws (dig x))),(1,.d (.int .i64 n)),(5,.own 10 1 0 m),(6,.d (.int .i64 i)),(7,.d (.int .u64 s))]) (fun _=>[(10,.arr 1 (lo.map wd))])
    (fun s=>∃ v,(dig x).getD (i+1) 0=v∧v<4294967296∧s=u+v*4294967296) rfl ?_ fun s ⟨v,hv,hvb,hs⟩=>?_
   · refine By rfl (fun h2=>?_) fun h2=>?_ <;> simp only [lw] at h2
     · obtain ⟨v,hv⟩:=xat (l:=dig x) (k:=i+1) (by omega)
       have hvb:=ww hv (Xad x)
       refine Ar (i+1 : Nat) rfl ?_
       refine Ix (i+1) rfl (mp hv) ?_
       refine Go.Vm.Cv v rfl ?_
       refine Ar (v*2 ^ 32 : Nat) rfl ?_ (Xgz (n:=32) rfl (by omega) (by decide))
       refine Ar (u+v*4294967296 : Nat) rfl ?_ (Xzi (by omega) (by omega) (by rw [Nat.or_comm,Xc2 u v 32 (by omega)];omega) (by omega))
       exact Jn (u+v*4294967296) [] rfl ⟨v,by rw [W2o,hv];rfl,hvb,rfl⟩
     · exact Jn u [] rfl ⟨0,by rw [W2o,W1x (by omega)];rfl,by decide,by omega⟩
   have hbd:=Xqy (v:=v) hub hn32
   rw [←hs] at hbd
   refine Ar (s / 2 ^ n : Nat) rfl ?_ (Xgy (show n≤64 by omega))
   refine Go.Vm.Cv (s / 2 ^ n % 4294967296 : Nat) rfl ?_ (by rw [wWm];omega)
   refine Eo i rfl (by omega) ?_
   refine Sto rfl (by simp only [lw];omega) ms ?_
   refine Ar (i+1 : Nat) rfl ?_
   refine Bk (i+1,lo.set i (s / 2 ^ n % 4294967296)) [] rfl ⟨by omega,by simp [hl],Xfs hwo (by omega),?_⟩ (by show m - (i+1)<m - i;omega)
   rw [Xa8 (by omega),Xac hu,hv,hbd]
   exact Xoe hn32 hval
 · have him : i=m:=by omega
   rw [him,W0b (by omega),W0b (by omega),W2o,W1x (by omega),hvx] at hval
   have hfin : val lo=x / 2 ^ n:=by
    simp at hval
    have:=W2j x (2 ^ n)
    rw [W1e] at this
    exact Nat.eq_of_mul_eq_mul_right hp (by omega)
   refine Fz 9 5 (lo.map wd) rfl (by simp only [lw];omega) (oa hl) ?_
   refine Ce rfl (Xay hwo (by omega)) ?_
   exact R1 rfl (.eq (by rw [hfin]))
end
section
theorem Xuq {q N y V : Nat} {l : List Nat} (hw : Xao l) (hq : q+N≤l.length) (hN : N=(dig y).length+1) (hy0 : y≠0) (hn40 : N≤1099511627776) (hV : val ((l.drop q).take N)=V) (hlt : V<4294967296*y) (hy : (dig y).length≤549755813888) :
 CN0 235 [.own 1000001 1 q N,.d (ws (dig y))] [(1000001,.arr 1 (l.map wd))] (·=.tup (.pr (.d (.int .u32 (V / y : Nat))) (.d (ws (dig (y*(V / y))))))):=by
 obtain ⟨n,hn⟩ : ∃ n,n=(dig y).length:=⟨_,rfl⟩
 rw [←hn] at hN hy
 have hn0 : n≠0:=fun e=>hy0 (Yli.1 (by omega))
 obtain ⟨t,ht,ht0⟩ : ∃ t,(dig y)[n - 1]?=some t∧t≠0:=by
  rcases Xf9 y with h1 | h1
  · exact absurd (Xqt.1 h1) hy0
  · rw [←hn] at h1;exact h1
 have htb:=ww ht (Xad y)
 obtain ⟨u0,hu0⟩:=xat (l:=l) (k:=q+n) (by omega)
 obtain ⟨u1,hu1⟩:=xat (l:=l) (k:=q+(n - 1)) (by omega)
 have hub0:=ww hu0 hw
 have hub1:=ww hu1 hw
 have hqB : V / y<4294967296:=by rw [W2m (W2h hy0)];exact hlt
 have hq00:=W1d (V / y)
 obtain ⟨top,htop⟩ : ∃ top,top=u0*2 ^ 32+u1:=⟨_,rfl⟩
 have htopb : top<18446744073709551616:=by omega
 have hest : V / y≤top / t:=by
  have e1:=Xbw hu1
  rw [show n - 1+1=n from by omega] at e1
  have e2:=Xbw hu0
  rw [←hN,hV,e1] at e2
  have e3:=Xac ht
  rw [show n - 1+1=(dig y).length from by omega,W2r,Xaf] at e3
  have hlow:=Xbq ((hw.drop q).take (n - 1))
  rw [Xvv (by omega)] at hlow
  have hM : 4294967296 ^ n=4294967296 ^ (n - 1)*4294967296:=by rw [←W0p];congr 1;omega
  rw [hM] at e2
  generalize 4294967296 ^ (n - 1)=M at *
  generalize val ((l.drop q).take (n - 1))=low at *
  generalize val ((dig y).take (n - 1))=vlow at *
  have h1 : V<M*(top+1):=by
   have : M*(u0*2 ^ 32+u1+1)=M*u1+M*4294967296*u0+M:=by grind
   rw [htop];omega
  have h2 : M*t≤y:=by omega
  have hM0 : 0<M:=by omega
  have h3 : V / y≤V / (M*t):=Nat.div_le_div_left h2 (W1h hM0 (W2h ht0))
  refine W0i h3 ?_
  rw [←W6i]
  refine Nat.div_le_div_right ?_
  have:=(W2m hM0).2 (by rw [W1e];exact h1)
  omega
 refine EnW Tryz.func235 fun _ _ _ _=>?_
 refine Dw rfl ?_
 refine El n rfl (by omega) ?_ (by simp only [lw];omega)
 refine Ld (wd u0) rfl (mp hu0) ?_
 refine Go.Vm.Cv u0 rfl ?_
 refine Ar (u0*2 ^ 32 : Nat) rfl ?_ (Xgz (n:=32) rfl (by omega) (by decide))
 refine Ar (n - 1 : Nat) rfl ?_ (wr (by simp only [lw];omega) (by simp only [inK];omega))
 refine El (n - 1) rfl (by omega) ?_
 refine Ld (wd u1) rfl (mp hu1) ?_
 refine Go.Vm.Cv u1 rfl ?_
 refine Ar top rfl ?_ (Xzi (by omega) (by omega) (by rw [Xc2 u1 u0 32 (by omega),htop]) htopb)
 refine Ar (n - 1 : Nat) rfl ?_ (wr (by simp only [lw];omega) (by simp only [inK];omega))
 refine Ix (n - 1) rfl (mp ht) ?_
 refine Go.Vm.Cv t rfl ?_
 have htt0:=W1d (top / t)
 have htt1:=W3j top t
 refine Ar (top / t : Nat) rfl ?_ (show _∧_ from ⟨by omega,Yaq top t htopb⟩)
 refine Cu none (fun g : Nat=>[(0,.own 1000001 1 q N),(1,.d (ws (dig y))),(7,.d (.int .u64 g))]) (fun _=>[(1000001,.arr 1 (l.map wd))]) (fun g=>V / y≤g∧g<4294967296) rfl ?_ fun g0 ⟨hg0,hgB⟩=>?_
 · refine By rfl (fun h=>?_) fun h=>?_
   · exact Jn 4294967295 [] rfl ⟨by omega,by decide⟩
   · exact Jn (top / t) [] rfl ⟨hest,by omega⟩
 refine Go.Vm.Cv g0 rfl ?_
 refine Ce (r:=.d (ws (dig (y*g0)))) rfl (by have:=Xrp (Xad y) (Y:=[g0]) (.cons hgB .nil) (by omega) (by simp);rwa [Xaf,show val [g0]=g0 from by simp [val]] at this) ?_
 refine Lo (fun g : Nat=>[(0,.own 1000001 1 q N),(1,.d (ws (dig y))),(7,.d (.int .u64 g)),(8,.d (ws (dig (y*g))))]) (fun _=>[(1000001,.arr 1 (l.map wd))]) (fun g=>V / y≤g∧g<4294967296) (fun g=>g) g0 [] rfl ⟨hg0,hgB⟩ fun g ⟨hg,hgB⟩=>?_
 refine Cn [] rfl (Xf8 hw hq hn40) fun v hv=>?_
 obtain ⟨k,hk,rfl,hkl⟩:=hv
 rw [hV] at hkl
 refine Cn [] rfl (Xnl (by omega) hkl (by rw [←hkl,Xvv (by omega)];omega)) fun v hv=>?_
 obtain rfl : v=_:=hv
 refine By rfl (fun h=>?_) fun h=>?_
 · have hlt2 : V<y*g:=Xx3.1 h
   have hg1 : V / y<g:=by rw [W2m (W2h hy0),W1e];exact hlt2
   have hyg : y*g - y=y*(g - 1):=by rw [Nat.mul_sub_one]
   have hle : y≤y*g:=W4e _ (by omega)
   have hlen : (dig (y*g)).length≤1099511627776:=by
    have h1:=Xjy y g
    have h2 : (dig g).length≤1:=Xan (by omega)
    omega
   refine Ar (g - 1 : Nat) rfl ?_
   refine Ce rfl (Xdh hlen hle) ?_
   exact Bk (g - 1) [] rfl ⟨by omega,by omega⟩ (by show g - 1<g;omega) (by exact ⟨by rw [hyg];rfl,rfl,rfl,rfl,rfl⟩)
 · have hge2 : y*g≤V:=W4g fun hlt=>h (Xx3.2 hlt)
   have hg2 : g=V / y:=Nat.le_antisymm ((W7n (W2h hy0)).2 (by rw [W1e];exact hge2)) hg
   refine Go.Vm.Cv g rfl ?_
   exact Rw [] [(1000001,.arr 1 (l.map wd))] rfl (.tup (.cons (.rf rfl) (.one (.rf rfl) (fun _ _ e=>by cases e) (fun _ _ e=>by cases e)))) ⟨rfl,by rw [hg2];rfl⟩
theorem Xcm {x y : Nat} (hx : (dig x).length≤549755813888) (hy : (dig y).length≤549755813888) (hy0 : y≠0) : C0 191 [.d (ws (dig x)),.d (ws (dig y))] (·=.tup (.pr (.d (ws (dig (x / y)))) (.d (ws (dig (x % y)))))):=by
 refine En Tryz.func191 fun _ _ _=>?_
 refine Ce rfl (Xbv (by omega)) ?_
 refine By rfl (fun h=>?_) fun h=>?_
 · have hlt : x<y:=Xx3.1 h
   exact RTt rfl (.cons (.nil (by rw [W4h hlt,Xaj];rfl)) (.one (.eq (by rw [W3u hlt])) (fun _ _ e=>by cases e) (fun _ _ e=>by cases e)))
 have hge : y≤x:=W4g fun hlt=>h (Xx3.2 hlt)
 have hlenle:=Xar hge
 refine By rfl (fun h2=>?_) fun h2=>?_ <;> simp only [lw] at h2
 · have hx64 : x<18446744073709551616:=by
    have:=Xc8 x
    have h1 : 4294967296 ^ (dig x).length≤4294967296 ^ 2:=W0h (by decide) (by omega)
    omega
   refine Ce rfl (Xog (by omega)) ?_
   refine Ce rfl (Xog (by omega)) ?_
   have hq64 : x / y<18446744073709551616:=W1m (W3j ..) hx64
   have hr64 : x % y<18446744073709551616:=W1m (Nat.mod_le ..) hx64
   refine Dw rfl ?_
   refine Ar (x / y : Nat) rfl ?_ (show _∧_ from ⟨by omega,Yaq x y hx64⟩)
   refine Ce rfl (Xes hq64) ?_
   refine Ar (x % y : Nat) rfl ?_ (show _∧_ from ⟨by omega,Xq6 x y⟩)
   refine Ce rfl (Xes hr64) ?_
   exact R0t
 refine By rfl (fun h3=>?_) fun h3=>?_ <;> simp only [lw] at h3
 · obtain ⟨t,ht⟩:=xat (l:=dig y) (k:=0) (by omega)
   have htb:=ww ht (Xad y)
   have hyt : y=t:=by
    have:=Xac ht
    rw [W0b (by omega),Xaf] at this
    simpa [val] using this
   have hrt : x % t<t:=W1r _ (by omega)
   have hr0:=W1d (x % t)
   refine Ix 0 rfl (mp ht) ?_
   refine Ce rfl (Yj7 (y:=t) hx htb (by omega)) ?_
   refine Go.Vm.Cv (x % t : Nat) rfl ?_
   refine Ce rfl (Xes (n:=x % t) (by omega)) ?_
   exact RTt rfl (.cons (.eq (by rw [hyt])) (.one (.eq (by rw [hyt])) (fun _ _ e=>by cases e) (fun _ _ e=>by cases e)))
 have hy1 : 1≤(dig y).length:=by
  have : (dig y).length≠0:=fun h=>hy0 (Yli.1 h)
  omega
 refine Ar (32*(dig y).length : Nat) rfl ?_ (wr (by simp only [lw];omega) (by simp only [inK];omega))
 refine Ca rfl (Xla (by omega) hy0) fun v hv=>?_
 obtain ⟨t,ht,ht0,htb,rfl⟩:=hv
 obtain ⟨bb1,bb2,bb3⟩:=Xca ht0
 have hb32 : bl t≤32:=by
  have : 2 ^ (bl t - 1)<2 ^ 32:=W1m bb1 htb
  have:=(W2y (by decide : 1<2)).1 this
  omega
 obtain ⟨s,hs⟩ : ∃ s,s=32 - bl t:=⟨_,rfl⟩
 have hs32 : s<32:=by omega
 have hs1 : 2147483648≤t*2 ^ s:=by
  have h1:=W1b (2 ^ (32 - bl t)) bb1
  rw [←W0v,show bl t - 1+(32 - bl t)=31 from by omega] at h1
  rw [hs];exact h1
 have hs2 : t*2 ^ s<4294967296:=by
  have h1:=W3f bb2 (W0t (32 - bl t))
  rw [←W0v,show bl t+(32 - bl t)=32 from by omega] at h1
  rw [hs];exact h1
 refine Ar s rfl ?_
 obtain ⟨hlen,t',ht',htt⟩:=Xpe hy0 ht hs1 hs2
 refine Co rfl (Xd1 hx hs32) fun v ob hv=>?_
 obtain ⟨lu0,hul,huw,huv,rfl,rfl⟩:=hv
 refine Ca rfl (Xkv hy hs32) fun v hv=>?_
 obtain ⟨lv,hvl,hvw,hvv,rfl⟩:=hv
 obtain ⟨Y,hY⟩ : ∃ Y,Y=y*2 ^ s:=⟨_,rfl⟩
 rw [←hY] at hlen hvv
 refine Ce (r:=.d (ws (dig Y))) rfl (by have:=Xay hvw (by omega);rwa [hvv] at this) ?_
 obtain ⟨mv,hmv⟩ : ∃ mv,mv=(dig Y).length:=⟨_,rfl⟩
 obtain ⟨m,hm⟩ : ∃ m,m=(dig x).length:=⟨_,rfl⟩
 refine Mk m rfl (by simp only [lw];omega) ?_ (by simp only [lw,hm])
 refine Ar ((lu0.length - mv : Nat) - 1 : Int) rfl ?_ (wr (by simp only [lw];omega) (by simp only [inK];omega))
 have hY0 : Y≠0:=by rw [hY];exact Nat.mul_ne_zero hy0 (W7s.1 (W0t s))
 have hYl:=Xc8 Y
 have hR0 : val (lu0.drop (lu0.length - mv))<Y:=by
  have h1:=Xbh lu0 (lu0.length - mv) (by omega)
  rw [huv] at h1
  have h2:=Xlq hy0
  have h3:=Xc8 x
  have hp:=W0t s
  apply W0y
  intro hn2
  have h4 : 4294967296 ^ (lu0.length - mv)*Y≤x*2 ^ s:=by
   rw [h1]
   have:=W0m (4294967296 ^ (lu0.length - mv)) (W4g hn2)
   omega
  rw [hY,←W0o] at h4
  have h5:=Nat.le_of_mul_le_mul_right h4 hp
  have h6:=W0m (4294967296 ^ (lu0.length - mv)) h2
  rw [←W0v,show lu0.length - mv+((dig y).length - 1)=(dig x).length from by omega] at h6
  omega
 refine Lo (fun (k,lu,lq)=>[(10,.d (.int .i64 s)),(11,.own 63 1 0 lu0.length),(12,.d (ws (dig Y))),(13,.own 70 1 0 m),(14,.d (.int .i64 ((k : Nat) - 1 : Int)))]) (fun (_,lu,lq)=>[(63,.arr 1 (lu.map wd)),(70,.arr 1 (lq.map wd))])
  (fun (k,lu,lq)=>k≤lu0.length - mv∧lu.length=lu0.length∧Xao lu∧lq.length=m∧Xao lq∧(∀ j,j<k→lu[j]?=lu0[j]?)∧val (lu.drop k)<Y∧val (lq.drop k)*Y+val (lu.drop k)=val (lu0.drop k)) (fun (k,_,_)=>k) (lu0.length - mv,lu0,List.replicate m 0) [] rfl
  ⟨by omega,rfl,huw,by simp,Xer _,fun _ _=>rfl,hR0,by rw [List.drop_replicate,Xbp];simp⟩ ?_ (by exact ⟨rfl,by simp only [W2e];rfl,rfl,rfl,rfl⟩)
 rintro ⟨k,lu,lq⟩ ⟨hk,hln,hwu,hlq,hwq,hsame,hRlt,hQR⟩
 refine By rfl (fun h=>?_) fun h=>?_
 · obtain ⟨hwin,hUlt⟩:=Xyr (n:=mv) (i:=k - 1) (Y:=Y) hwu (by omega) (by rw [show k - 1+1=k from by omega];exact hRlt) (by rw [hmv];exact W2c hYl)
   obtain ⟨U,hU⟩ : ∃ U,U=val (lu.drop (k - 1)):=⟨_,rfl⟩
   rw [←hU] at hwin hUlt
   have hqB : U / Y<4294967296:=by rw [W2m (W2h hY0)];exact hUlt
   have hqz0 : 0≤U / Y:=W1d _
   have hUlt2 : U % Y<Y:=W1r _ (W2h hY0)
   have eN : k - 1+mv+1 - (k - 1)=mv+1:=by omega
   refine Ar (k - 1+mv : Nat) rfl ?_ (wr (by simp only [lw];omega) (by simp only [inK];omega))
   refine Ar (k - 1+mv+1 : Nat) rfl ?_
   refine Sw (k - 1) (k - 1+mv+1) rfl (by omega) (by omega) ?_
   have hwin2 : val ((lu.drop (0+(k - 1))).take (k - 1+mv+1 - (k - 1)))=U:=by rw [W1i,eN];exact hwin.symm
   refine Cn [(1000001,63)] rfl (Xuq (l:=lu) (q:=0+(k - 1)) (N:=k - 1+mv+1 - (k - 1)) (V:=U) hwu (by omega) (by omega) hY0 (by omega) hwin2 hUlt (by omega)) fun v hv=>?_
   obtain rfl : v=_:=hv
   refine Eo (k - 1) rfl (by omega) ?_
   refine Sto rfl (by simp only [lw];omega) ms ?_
   refine Cn [(1000001,63)] rfl (Xf8 (l:=lu) (q:=0+(k - 1)) (n:=k - 1+mv+1 - (k - 1)) hwu (by omega) (by omega)) fun v hv=>?_
   obtain ⟨k2,hk2,rfl,hkl⟩:=hv
   rw [hwin2] at hkl
   have hUY : Y*(U / Y)≤U:=Nat.mul_div_le U Y
   have hUmod : U - Y*(U / Y)=U % Y:=by have:=W2j U Y;omega
   refine Cn [(1000001,63)] rfl (Xtc (l:=lu) (q:=0+(k - 1)) (m:=k2) (by omega) hkl (by rw [←hkl,Xvv (by omega)];omega) hUY) fun v hv=>?_
   rw [hUmod] at hv
   obtain rfl : v=_:=hv
   have hdlen:=Xar (W2c hUlt2)
   refine Lo (fun (i,lo)=>[(10,.d (.int .i64 s)),(11,.own 63 1 0 lu0.length),(12,.d (ws (dig Y))),(13,.own 70 1 0 m),(14,.d (.int .i64 ((k : Nat) - 1 : Int))),(15,.own 63 1 (0+(k - 1)) (k - 1+mv+1 - (k - 1))),(18,.d (ws (dig (U % Y)))),(19,.d (.int .i64 (i : Nat)))]) (fun (_,lo)=>[(63,.arr 1 (lo.map wd)),(70,.arr 1 ((lq.set (k - 1) (U / Y)).map wd))])
    (fun (i,lo)=>i≤mv+1∧lo.length=lu0.length∧Xao lo∧(∀ j,(j<k - 1∨k - 1+i≤j)→lo[j]?=lu[j]?)∧val ((lo.drop (k - 1)).take i)=val ((dig (U % Y)).take i)) (fun (i,_)=>mv+1 - i) (0,lu) [] rfl
    ⟨by omega,hln,hwu,fun _ _=>rfl,rfl⟩ ?_
   rintro ⟨i,lo⟩ ⟨hi,hlo,hwo,hsame2,hval2⟩
   refine By rfl (fun h1=>?_) fun h1=>?_
   · refine El i rfl (by omega) ?_
     refine Sto rfl (by simp only [lw];omega) (ms (f:=wd) (u:=0)) ?_
     have eJ : 0+(k - 1)+i=k - 1+i:=by omega
     refine Cu none (fun g : Nat=>[(10,.d (.int .i64 s)),(11,.own 63 1 0 lu0.length),(12,.d (ws (dig Y))),(13,.own 70 1 0 m),(14,.d (.int .i64 ((k : Nat) - 1 : Int))),(15,.own 63 1 (0+(k - 1)) (k - 1+mv+1 - (k - 1))),(18,.d (ws (dig (U % Y)))),(19,.d (.int .i64 i))]) (fun g=>[(63,.arr 1 ((lo.set (k - 1+i) g).map wd)),(70,.arr 1 ((lq.set (k - 1) (U / Y)).map wd))])
      (fun g=>g<4294967296∧val ((dig (U % Y)).take (i+1))=val ((dig (U % Y)).take i)+4294967296 ^ i*g) rfl ?_ fun g ⟨hgb,hg⟩=>?_
     · refine By rfl (fun h2=>?_) fun h2=>?_ <;> simp only [lw] at h2
       · obtain ⟨w,hw⟩:=xat (l:=dig (U % Y)) (k:=i) (by omega)
         have hwb:=ww hw (Xad (U % Y))
         refine Ix i rfl (mp hw) ?_
         refine El i rfl (by omega) ?_
         refine Sto rfl (by simp only [lw,W3k];omega) ms ?_
         exact Jn w [] rfl ⟨hwb,Xac hw⟩ (by exact ⟨rfl,by rw [List.set_set,eJ];rfl,rfl,rfl,rfl⟩)
       · exact Jn 0 [] rfl ⟨by decide,by rw [Xfj (by omega)];rfl⟩ (by exact ⟨rfl,by rw [eJ];rfl,rfl,rfl,rfl⟩)
     refine Ar (i+1 : Nat) rfl ?_
     exact Bk (i+1,lo.set (k - 1+i) g) [] rfl ⟨by omega,by simp [hlo],Xfs hwo hgb,fun j hj=>by rw [W1v (by omega)];exact hsame2 j (by omega),by rw [Xeu (by omega),hval2,hg]⟩ (by show mv+1 - (i+1)<mv+1 - i;omega)
   · have hik : i=mv+1:=by omega
     subst hik
     rw [W0b (l:=dig (U % Y)) (by omega),Xaf] at hval2
     have hab : val (lo.drop (k - 1))=U % Y:=by
      have g1:=Xbh (lo.drop (k - 1)) (mv+1) (by rw [W1p];omega)
      have g2:=Xbh (lu.drop (k - 1)) (mv+1) (by rw [W1p];omega)
      have g3 : (lo.drop (k - 1)).drop (mv+1)=(lu.drop (k - 1)).drop (mv+1):=by
       rw [W5m,W5m]
       exact Xd7 fun j hj=>hsame2 j (.inr hj)
      rw [←hU,←hwin] at g2
      rw [g1,hval2,g3]
      omega
     obtain ⟨w,hw⟩:=xat (l:=lu) (k:=k - 1) (by omega)
     have hw2 : lu0[k - 1]?=some w:=by rw [←hsame (k - 1) (by omega)];exact hw
     have hfin : val ((lq.set (k - 1) (U / Y)).drop (k - 1))*Y+val (lo.drop (k - 1))=val (lu0.drop (k - 1)):=by
      have g1:=Xbr hw
      have g2:=Xbr hw2
      have g3:=Xbr (l:=lq.set (k - 1) (U / Y)) (k:=k - 1) (W2s (by omega))
      have g4 : (lq.set (k - 1) (U / Y)).drop (k - 1+1)=lq.drop (k - 1+1):=Xd7 fun j hj=>W1v (by omega)
      rw [show k - 1+1=k from by omega] at g1 g2 g3 g4
      rw [hab,g2,g3,g4,←hQR,W1g,W0o,W0w]
      have g5:=W2j U Y
      rw [W1e] at g5
      rw [←hU] at g1
      omega
     refine Ar ((k - 1 : Nat) - 1 : Int) rfl ?_
     exact Bk (k - 1,lo,lq.set (k - 1) (U / Y)) [] rfl ⟨by omega,hlo,hwo,by simp [hlq],Xfs hwq hqB,fun j hj=>(hsame2 j (.inl hj)).trans (hsame j (by omega)),by rw [hab];exact hUlt2,hfin⟩ (by show k - 1<k;omega)
 · have hk0 : k=0:=by omega
   subst hk0
   rw [W1f] at hRlt hQR
   rw [W1f,W1f,huv] at hQR
   obtain ⟨hQ,hR⟩:=Xup hY.symm hQR hRlt
   refine Fz 25 13 (lq.map wd) rfl (by simp only [lw];omega) (oa hlq) ?_
   refine Fz 25 11 (lu.map wd) rfl (by simp only [lw];omega) (oa hln) ?_
   refine Ce rfl (Xay hwq (by omega)) ?_
   refine Ce rfl (Xay hwu (by omega)) ?_
   refine Ce rfl (Ydf (by have:=Xar (W2c hRlt);omega) hs32) ?_
   exact RTt rfl (.cons (.eq (by rw [hQ])) (.one (.eq (by rw [hR,Nat.mul_div_cancel _ (W0t s)])) (fun _ _ e=>by cases e) (fun _ _ e=>by cases e)))
end
section
theorem GCD_ok {a b : Int} (ha : (dig a.natAbs).length≤549755813888) (hb : (dig b.natAbs).length≤549755813888) : C0 137 [.d (dz a),.d (dz b)] (·=.d (dz (Int.gcd a b))):=by
 refine En Tryz.func137 fun _ _ _=>?_
 refine Dw rfl ?_
 refine Ce rfl (trim_dig_ok (by omega)) ?_
 refine Ce rfl (trim_dig_ok (by omega)) ?_
 refine Lo (fun ((x,y) : Nat × Nat)=>[(4,.ptr 4 0),(5,.d (ws (dig x))),(6,.d (ws (dig y)))]) (fun _=>[(4,.var (.st (.pr (.b false) .nil)))]) (fun (x,y)=>Nat.gcd x y=Int.gcd a b∧(dig x).length≤549755813888∧(dig y).length≤549755813888) (fun (_,y)=>y) (a.natAbs,b.natAbs) [] rfl ⟨rfl,ha,hb⟩ fun ⟨x,y⟩ ⟨hg,hx,hy⟩=>?_
 refine By rfl (fun h1=>?_) fun h1=>?_ <;> simp only [lw] at h1
 · have h0 : y≠0:=fun e=>by have:=Yli.2 e;omega
   have hlt:=W1r x (W2h h0)
   refine Ce rfl (Xcm hx hy h0) ?_
   exact Bk (y,x % y) [] rfl ⟨by rw [←hg,W6z y,←Nat.gcd_rec,W6z],hy,W0i (Xar (W2c hlt)) hy⟩ hlt
 · have h0 : y=0:=Yli.1 (by omega)
   subst h0
   rw [Nat.gcd_zero_right] at hg
   refine Ce rfl (Xai (b:=false) (by omega)) ?_
   exact R1 rfl (.eq (by rw [Xge,hg]))
theorem Xud {z b q r : Int} (e : b*q+r=z) (h : (0≤r∧r<b)∨(b<r∧r≤0)) : z.fdiv b=q∧z.fmod b=r:=by
 rcases h with ⟨h1,h2⟩ | ⟨h1,h2⟩
 · rw [W1n _ (by omega),W5t _ (by omega)]
   exact (W7p (a:=z) (b:=b) (by omega)).2 ⟨by rw [Int.add_comm];exact e,h1,h2⟩
 · have h3 : (-z).fdiv (-b)=q∧(-z).fmod (-b)=-r:=by
    rw [W1n _ (by omega),W5t _ (by omega)]
    exact (W7p (a:=-z) (b:=-b) (by omega)).2 ⟨by rw [←e,Int.neg_mul];omega,by omega,by omega⟩
   rw [W7l,Int.neg_fmod_neg] at h3
   exact ⟨h3.1,by omega⟩
theorem qr0 {z b : Int} (hb : b≠0) : z - sg (decide (z<0) != decide (b<0)) (z.natAbs / b.natAbs)*b=sg (decide (z<0)) (z.natAbs % b.natAbs):=by
 have e:=W2j z.natAbs b.natAbs
 have hz : z=sg (decide (z<0)) z.natAbs:=by unfold sg;by_cases h : z<0 <;> simp [h] <;> omega
 have hb : b=sg (decide (b<0)) b.natAbs:=by unfold sg;by_cases h : b<0 <;> simp [h] <;> omega
 generalize decide (z<0)=dz at *
 generalize decide (b<0)=db at *
 generalize z.natAbs=A at *
 generalize b.natAbs=B at *
 generalize A / B=q at *
 generalize A % B=r at *
 have e2 : (A : Int)=(B : Int)*q+r:=by rw [←e];push_cast;rfl
 subst hz
 subst hb
 cases dz <;> cases db <;> simp [sg,e2] <;> grind
theorem Xmr (b : Bool) (n : Nat) : (sg b n).natAbs=n:=by cases b <;> simp [sg]
theorem Xz5 {z b : Int} (hb : b≠0) (h : Xa1 (sg (decide (z<0)) (z.natAbs % b.natAbs)) 0*Xa1 b 0<0) :
 sg (decide (z<0) != decide (b<0)) (z.natAbs / b.natAbs) - 1=z.fdiv b∧sg (decide (z<0)) (z.natAbs % b.natAbs)+b=z.fmod b:=by
 have h0:=@qr0 z b hb
 have h1:=Xmr (decide (z<0)) (z.natAbs % b.natAbs)
 have h2:=W1r z.natAbs (y:=b.natAbs) (by omega)
 generalize sg (decide (z<0)) (z.natAbs % b.natAbs)=r at *
 generalize sg (decide (z<0) != decide (b<0)) (z.natAbs / b.natAbs)=q at *
 have:=Xud (z:=z) (b:=b) (q:=q - 1) (r:=r+b) (by rw [←Int.sub_add_cancel z (q*b),h0];grind) (by
  unfold Xa1 at h
  repeat' split at h
  all_goals first | omega | (left;omega) | (right;omega))
 exact ⟨this.1.symm,this.2.symm⟩
theorem Xz6 {z b : Int} (hb : b≠0) (h : ¬ Xa1 (sg (decide (z<0)) (z.natAbs % b.natAbs)) 0*Xa1 b 0<0) :
 sg (decide (z<0) != decide (b<0)) (z.natAbs / b.natAbs)=z.fdiv b∧sg (decide (z<0)) (z.natAbs % b.natAbs)=z.fmod b:=by
 have h0:=@qr0 z b hb
 have h1:=Xmr (decide (z<0)) (z.natAbs % b.natAbs)
 have h2:=W1r z.natAbs (y:=b.natAbs) (by omega)
 generalize sg (decide (z<0)) (z.natAbs % b.natAbs)=r at *
 generalize sg (decide (z<0) != decide (b<0)) (z.natAbs / b.natAbs)=q at *
 have:=Xud (z:=z) (b:=b) (q:=q) (r:=r) (by rw [←Int.sub_add_cancel z (q*b),h0];grind) (by
  unfold Xa1 at h
  repeat' split at h
  all_goals first | omega | (left;omega) | (right;omega))
 exact ⟨this.1.symm,this.2.symm⟩
theorem Xx4 (a b c d : Int) : -1≤Xa1 a b*Xa1 c d∧Xa1 a b*Xa1 c d≤1:=by
 unfold Xa1;repeat' split
 all_goals omega
theorem DivMod_ok {a b : Int} (ha : (dig a.natAbs).length≤549755813888) (hb : (dig b.natAbs).length≤549755813888) (hb0 : b≠0) : C0 192 [.d (dz a),.d (dz b)] (·=.tup (.pr (.d (dz (a.fdiv b))) (.pr (.d (dz (a.fmod b))) (.d (.int .i64 0))))):=by
 have hlq : (dig (a.natAbs / b.natAbs)).length≤549755813888:=W0i (Xar (W3j ..)) ha
 have hlr : (dig (a.natAbs % b.natAbs)).length≤549755813888:=W0i (Xar (Nat.mod_le ..)) ha
 have hlqz : (dig (sg (decide (a<0) != decide (b<0)) (a.natAbs / b.natAbs)*b).natAbs).length≤549755813888:=by
  rw [W4a,Xmr]
  exact W0i (Xar (W6q ..)) ha
 refine En Tryz.func192 fun _ _ _=>?_
 refine Dw rfl ?_
 refine Ce rfl (Norm_ok (by omega)) ?_
 refine Ce rfl (Norm_ok (by omega)) ?_
 refine No rfl (by simp only [lw];have:=@Yli b.natAbs;omega) ?_
 refine Ce rfl (Xcm ha hb (by omega)) ?_
 refine Ce rfl (Xai (by omega)) ?_
 refine Dw rfl ?_
 refine Ce (r:=.d (dz (sg (decide (a<0) != decide (b<0)) (a.natAbs / b.natAbs)*b))) rfl (by rw [Yad];exact Mul_ok (by rw [Xmr];exact hlq) hb) ?_
 refine Ce rfl (Sub_ok ha hlqz) ?_
 have h0:=qr0 (z:=a) hb0
 refine Dw rfl ?_
 refine Ce rfl (Sign_ok (by rw [h0,Xmr];omega)) ?_
 refine Ce rfl (Sign_ok (by omega)) ?_
 have hr:=Xx4 (sg (decide (a<0)) (a.natAbs % b.natAbs)) 0 b 0
 rw [←h0] at hr
 refine Ar (Xa1 (a - sg (decide (a<0) != decide (b<0)) (a.natAbs / b.natAbs)*b) 0*Xa1 b 0) rfl ?_
 refine By rfl (fun h=>?_) fun h=>?_ <;> rw [h0] at h
 · refine Dw rfl ?_
   refine Ce rfl (FromInt_ok (z:=1) (by decide)) ?_
   refine Ce (r:=.d (dz (sg (decide (a<0) != decide (b<0)) (a.natAbs / b.natAbs) - 1))) rfl (by rw [Yad];exact Sub_ok (by rw [Xmr];omega) (W0i (@Xan 1 1 (by decide)) (by decide))) ?_
   refine Ce rfl (Add_ok (by rw [h0,Xmr];omega) hb) ?_
   refine Dz rfl ?_
   exact RTt rfl (.cons (.eq (by rw [(Xz5 hb0 h).1];rfl)) (.cons (.eq (by rw [h0,(Xz5 hb0 h).2];rfl)) (.one (.rf rfl) (fun _ _ e=>by cases e) (fun _ _ e=>by cases e))))
 · refine Dz rfl ?_
   exact RTt rfl (.cons (.eq (by rw [Yad,(Xz6 hb0 h).1];rfl)) (.cons (.eq (by rw [h0,(Xz6 hb0 h).2];rfl)) (.one (.rf rfl) (fun _ _ e=>by cases e) (fun _ _ e=>by cases e))))
theorem Xnz {z : Int} (hl : (dig z.natAbs).length≤549755813888) : C0 281 [.d (dz z)] fun v=>∃ B : Nat,v=.d (.int .i64 B)∧z.natAbs<2 ^ B∧B≤32*(dig z.natAbs).length:=by
 refine En Tryz.func281 fun _ _ _=>?_
 refine Ce rfl (trim_dig_ok (by omega)) ?_
 by_cases h0 : z.natAbs=0
 · refine Ce (r:=.d (.int .i64 0)) rfl (by
    rw [h0,Xaj]
    refine En Tryz.func233 fun _ _ _=>?_
    refine Yes rfl rfl ?_
    exact R0) ?_
   exact Rt rfl (.one (.rf rfl) rfl rfl) ⟨0,rfl,by rw [h0];decide,W1d _⟩
 · refine Ca rfl (Xla (by omega) h0) fun v hv=>?_
   obtain ⟨t,ht,_,htw,rfl⟩:=hv
   have h1:=(W1a.1 ht).1
   have h2:=Xu9 htw
   exact Rt rfl (.one (.rf rfl) rfl rfl) ⟨_,rfl,Xn6 rfl (by omega) ht,by omega⟩
theorem Xvb {l : List Nat} {i w : Nat} (hl : Xao l) (hw : l[i / 32]?=some w) (h : val l % 2 ^ (i+1)=0) : w % 2 ^ (i % 32+1)=0:=by
 have h0:=Xev hw
 have hj : i / 32<l.length:=(W1a.1 hw).1
 have hlow:=Xbq (hl.take (i / 32))
 rw [W0j,show min (i / 32) l.length=i / 32 from by omega] at hlow
 have hp : 4294967296 ^ (i / 32)*2 ^ (i % 32+1)=2 ^ (i+1):=by
  rw [show (4294967296 : Nat)=2 ^ 32 from rfl,←W5n,←W0v];congr 1;omega
 obtain ⟨c,hc⟩:=W4w h
 rw [←hp,W0o] at hc
 generalize 4294967296 ^ (i / 32)=B at *
 generalize val (l.drop (i / 32+1))=R at *
 have e1 : w+4294967296*R=2 ^ (i % 32+1)*c:=by
  have hB : 0<B:=by omega
  have h1 : (val (l.take (i / 32))+B*(w+4294967296*R)) / B=w+4294967296*R:=by
   rw [W6n _ _ hB,W4h hlow,W1i]
  have h2 : B*(2 ^ (i % 32+1)*c) / B=2 ^ (i % 32+1)*c:=W7e _ hB
  rw [←h1,←h0,hc,h2]
 have e2 : (4294967296 : Nat)=2 ^ (i % 32+1)*2 ^ (31 - i % 32):=by
  rw [←W0v,show i % 32+1+(31 - i % 32)=32 from by omega]
 rw [e2,W0o] at e1
 have e3 : (w+2 ^ (i % 32+1)*(2 ^ (31 - i % 32)*R)) % 2 ^ (i % 32+1)=0:=by rw [e1,Nat.mul_mod_right]
 rwa [W5b] at e3
theorem Xsw {w s : Nat} (h : w % 2 ^ (s+1)=0) : w ||| 2 ^ s=w+2 ^ s:=by
 obtain ⟨c,rfl⟩:=W4w h
 rw [W1e]
 exact Xc2 (2 ^ s) c (s+1) (W4i (by decide) (Nat.lt_succ_self s))
theorem Ydk {w s : Nat} (h : w % 2 ^ (s+1)=0) : (w+2 ^ s) &&& 2 ^ s=2 ^ s:=by
 obtain ⟨c,rfl⟩:=W4w h
 have e : (2 ^ (s+1)*c+2 ^ s) / 2 ^ s=2*c+1:=by
  rw [W0p,show 2 ^ s*2*c+2 ^ s=2 ^ s*(2*c+1) from by rw [W0w,W0o,W4c]]
  exact W7e _ (W0t s)
 have ht : (2 ^ (s+1)*c+2 ^ s).testBit s=true:=by
  rw [Nat.testBit_eq_decide_div_mod_eq,e]
  simp
 apply Nat.eq_of_testBit_eq
 intro i
 rw [Nat.testBit_and]
 by_cases hi : s=i
 · subst hi;rw [ht,Bool.true_and]
 · rw [Nat.testBit_two_pow_of_ne hi,Bool.and_false]
theorem Xq0 {w s : Nat} (hw : w<4294967296) (hs : s<32) (h : w % 2 ^ (s+1)=0) : w+2 ^ s<4294967296:=by
 rw [←Xsw h]
 exact Nat.or_lt_two_pow (n:=32) hw (W0r (W4i (by decide) hs) (by decide))
theorem Ya7 {l : List Nat} {i w x : Nat} (hw : l[i / 32]?=some w) (hx : x=w+2 ^ (i % 32)) : val (l.set (i / 32) x)=val l+2 ^ i:=by
 have hj : i / 32<l.length:=(W1a.1 hw).1
 have h0:=Xev hw
 have h1:=Xev (l:=l.set (i / 32) x) (j:=i / 32) (x:=x) (by rw [W2s hj])
 rw [h1,h0,List.take_set_of_le (W0a _),List.drop_set_of_lt (by omega),hx,←Xg7 i]
 grind
theorem Yc8 {w s : Nat} (hw : w+2 ^ s<4294967296) (h : w % 2 ^ (s+1)=0) : arB .andNot .u32 (w+2 ^ s : Nat) (2 ^ s : Nat) w:=by
 have hp:=W0t s
 have e:=Ydk h
 show IntKind.u32.wrap _=_
 have h1 : (BitVec.ofInt 32 ((w+2 ^ s : Nat) : Int) &&& ~~~BitVec.ofInt 32 ((2 ^ s : Nat) : Int)).toNat=w:=by
  have hx : (BitVec.ofInt 32 ((w+2 ^ s : Nat) : Int)).toNat=w+2 ^ s:=by rw [BitVec.toNat_ofInt];omega
  have hy : (BitVec.ofInt 32 ((2 ^ s : Nat) : Int)).toNat=2 ^ s:=by rw [BitVec.toNat_ofInt];omega
  apply Nat.eq_of_testBit_eq
  intro i
  rw [BitVec.toNat_and,BitVec.toNat_not,hx,hy,Nat.testBit_and]
  have e1:=congrArg (·.testBit i) e
  simp only [Nat.testBit_and] at e1
  have e2:=Xsw h
  rw [←e2,Nat.testBit_or]
  have e3 : (2 ^ 32 - 1 - 2 ^ s).testBit i=(decide (i<32) && !(2 ^ s).testBit i):=by
   have:=Nat.testBit_two_pow_sub_succ (x:=2 ^ s) (n:=32) (by omega) i
   rwa [show 2 ^ 32 - (2 ^ s+1)=2 ^ 32 - 1 - 2 ^ s by omega] at this
  rw [e3]
  by_cases hi : i<32
  · rw [decide_eq_true hi,Bool.true_and]
    by_cases his : s=i
    · subst his
      rw [←e2,Nat.testBit_or] at e1
      have hws : w.testBit s=false:=by
       obtain ⟨c,rfl⟩:=W4w h
       rw [Nat.testBit_eq_decide_div_mod_eq,W0p,W0o,W7e _ hp]
       simp
      rw [hws,Nat.testBit_two_pow_self];rfl
    · rw [Nat.testBit_two_pow_of_ne his];simp
  · rw [decide_eq_false hi]
    have : w.testBit i=false:=Nat.testBit_lt_two_pow (W0r (by omega : w<2 ^ 32) (W0h (by decide) (by omega)))
    rw [this];simp
 rw [show IntKind.bits .u32=32 from rfl,h1]
 exact wW (by omega)
theorem Sqrt_ok {a : Nat} (hl : (dig a).length≤274877906944) : C0 265 [.d (dz (a : Int))] (·=.tup (.pr (.d (dz (rt a : Int))) (.d (.int .i64 0)))):=by
 have ha : dz (a : Int)=.st (.pr (.bool (decide ((a : Int)<0))) (ws (dig a))):=rfl
 have hbits:=fun (B n : Nat) (hB : a<2 ^ B) (hn : B≤2*n)=>W0r hB (W0h (by decide) hn : 2 ^ B≤2 ^ (2*n))
 refine En Tryz.func265 fun _ _ _=>?_
 refine Ce rfl (Norm_ok (by simp only [W1j];omega)) ?_
 refine No rfl (by omega) ?_
 refine Ca rfl (Xnz (z:=(a : Int)) (by simp only [W1j];omega)) fun v hv=>?_
 obtain ⟨B,rfl,hB1,hB2⟩:=hv
 simp only [W1j] at hB1 hB2
 obtain ⟨n,hn⟩ : ∃ n,n=(B+1) / 2:=⟨_,rfl⟩
 refine Ar (B+1 : Nat) rfl ?_
 refine Ar n rfl ?_ (show _∧_ from ⟨by decide,by rw [show Int.tdiv ((B+1 : Nat) : Int) 2=(((B+1) / 2 : Nat) : Int) from rfl,←hn];exact wI (by omega)⟩)
 refine Ar (n / 32 : Nat) rfl ?_ (show _∧_ from ⟨by decide,by rw [show Int.tdiv (n : Int) 32=((n / 32 : Nat) : Int) from rfl];exact wI (by omega)⟩)
 refine Ar (n / 32+1 : Nat) rfl ?_
 refine Mk (n / 32+1) rfl (by omega) ?_
 refine Ar (n - 1 : Int) rfl ?_
 refine Lo (fun (k,lo)=>[(1,.ptr 1 0),(2,.ptr 2 0),(5,.own 19 1 0 (n / 32+1)),(6,.d (.int .i64 ((k : Nat) - 1 : Int)))]) (fun (_,lo)=>[(1,.var (.d (dz (a : Int)))),(2,.var (.st (.pr (.b false) .nil))),(19,.arr 1 (lo.map wd))])
  (fun (k,lo)=>k≤n∧lo.length=n / 32+1∧Xao lo∧val lo % 2 ^ k=0∧val lo*val lo≤a∧a<(val lo+2 ^ k)*(val lo+2 ^ k)) (fun (k,_)=>k) (n,List.replicate (n / 32+1) 0) [] rfl
  ⟨by omega,by simp,Xer _,by rw [Xbp];simp,by rw [Xbp];omega,by rw [Xbp,W1i,←W0v,←Nat.two_mul];exact hbits B n hB1 (by omega)⟩ ?_ (by exact ⟨rfl,by simp only [W2e];rfl,rfl,rfl,rfl⟩)
 rintro ⟨k,lo⟩ ⟨hk,hlo,hwl,hmod,hsq1,hsq2⟩
 refine By rfl (fun h=>?_) fun h=>?_
 · obtain ⟨i,rfl⟩ : ∃ i,k=i+1:=⟨k - 1,by omega⟩
   obtain ⟨w,hw⟩:=xat (l:=lo) (k:=i / 32) (by omega)
   have hww:=ww hw hwl
   have hwc:=Xvb hwl hw hmod
   have hwb:=Xq0 hww (by omega) hwc
   have hv1:=Ya7 hw rfl
   have hw1:=Xfs (k:=i / 32) hwl hwb
   obtain ⟨lo1,hlo1⟩ : ∃ lo1,lo1=lo.set (i / 32) (w+2 ^ (i % 32)):=⟨_,rfl⟩
   rw [←hlo1] at hv1 hw1
   have hl1 : lo1.length=n / 32+1:=by rw [hlo1,W3k,hlo]
   have hlen1 : (dig (val lo1)).length≤549755813888:=by
    have h1:=Xan (Xbq hw1)
    omega
   have hq32 : arB .quo .i64 (((i+1 : Nat) : Int) - 1) 32 (i / 32 : Nat):=show _∧_ from ⟨by decide,by rw [show (((i+1 : Nat) : Int) - 1)=(i : Int) by omega,show Int.tdiv (i : Int) 32=((i / 32 : Nat) : Int) from rfl];exact wI (by omega)⟩
   have hr32 : arB .rem .i64 (((i+1 : Nat) : Int) - 1) 32 (i % 32 : Nat):=show _∧_ from ⟨by decide,by rw [show (((i+1 : Nat) : Int) - 1)=(i : Int) by omega];exact Xq6 i 32⟩
   refine Dw rfl ?_
   refine Ar (i / 32 : Nat) rfl ?_ hq32
   refine Ar (i / 32 : Nat) rfl ?_ hq32
   refine Eo (i / 32) rfl (by omega) ?_
   refine Ld (wd w) rfl (mp hw) ?_
   refine Ar (i % 32 : Nat) rfl ?_ hr32
   refine Ar (2 ^ (i % 32) : Nat) rfl ?_ (Xgb (by omega))
   refine Ar (w+2 ^ (i % 32) : Nat) rfl ?_ (Yh9 hww Ybk (Xsw hwc) hwb)
   refine Eo (i / 32) rfl (by omega) ?_
   refine Sto rfl (by simp only [lw];omega) ms ?_
   refine Cu none (fun _ : Unit=>[(1,.ptr 1 0),(2,.ptr 2 0),(5,.own 19 1 0 (n / 32+1)),(6,.d (.int .i64 (((i+1 : Nat) : Int) - 1))),(47,.b (dc (a<val lo1*val lo1)))]) (fun _=>[(1,.var (.d (dz (a : Int)))),(2,.var (.st (.pr (.b false) .nil))),(19,.arr 1 (lo1.map wd))]) (fun _=>True) rfl ?_ fun _ _=>?_
   · refine Dw rfl ?_
     refine Cn [(1000001,19)] rfl (Xf8 (l:=lo1) (q:=0) (n:=n / 32+1) hw1 (by omega) (by omega)) (fun v hv=>?_) rfl (by rw [hlo1];rfl)
     obtain ⟨k1,hk1,rfl,hkl⟩:=hv
     refine Cn [(1000001,19)] rfl (Xf8 (l:=lo1) (q:=0) (n:=n / 32+1) hw1 (by omega) (by omega)) (fun v hv=>?_) rfl (by rw [hlo1];rfl)
     obtain ⟨k2,hk2,rfl,hkl2⟩:=hv
     rw [show (lo1.drop 0).take (n / 32+1)=lo1 from W0b (by simp [hl1])] at hkl hkl2
     obtain rfl : k2=k1:=by
      have e1:=congrArg List.length hkl
      have e2:=congrArg List.length hkl2
      rw [Xvv (by omega)] at e1 e2
      omega
     refine Cn [(1000001,19)] rfl (Xrq (l:=lo1) (q:=0) (n:=k2) (by omega) hkl hlen1) (fun v hv=>?_) rfl (by rw [hlo1];rfl)
     obtain rfl : v=_:=hv
     refine Ce rfl (Xbv (y:=a) (W0i (Xjy ..) (by omega))) ?_
     refine Jn () [] rfl trivial (by exact ⟨by
      rw [show (Xa1 ((val lo1*val lo1 : Nat) : Int) (a : Int) > 0)=(a<val lo1*val lo1) from propext (by
       rcases Xas ((val lo1*val lo1 : Nat) : Int) (a : Int) with ⟨g1,g2⟩ | ⟨g1,g2⟩ | ⟨g1,g2⟩ <;> rw [g2] <;> omega)]
      rfl,by rw [hlo1];rfl,rfl,rfl,rfl⟩)
   refine By rfl (fun h1=>?_) fun h1=>?_
   · have hw2 : lo1[i / 32]?=some (w+2 ^ (i % 32)):=by rw [hlo1,W2s (by omega)]
     have hback : lo1.set (i / 32) w=lo:=by
      rw [hlo1,List.set_set]
      apply W3w
      intro q
      by_cases hq : i / 32=q
      · subst hq;rw [W2s (by omega),hw]
      · rw [W1v hq]
     have hm2 : val lo % 2 ^ i=0:=by
      obtain ⟨c,hc⟩:=W4w hmod
      rw [hc,W0p,W0o];exact Nat.mul_mod_right _ _
     refine Dw rfl ?_
     refine Ar (i / 32 : Nat) rfl ?_ hq32
     refine Ar (i / 32 : Nat) rfl ?_ hq32
     refine Eo (i / 32) rfl (by omega) ?_
     refine Ld (wd (w+2 ^ (i % 32))) rfl (mp hw2) ?_
     refine Ar (i % 32 : Nat) rfl ?_ hr32
     refine Ar (2 ^ (i % 32) : Nat) rfl ?_ (Xgb (by omega))
     refine Ar w rfl ?_ (Yc8 hwb hwc)
     refine Eo (i / 32) rfl (by omega) ?_
     refine Sto rfl (by simp only [lw];omega) ms ?_
     refine Ar (i - 1 : Int) rfl ?_
     exact Bk (i,lo) [] rfl ⟨by omega,hlo,hwl,hm2,hsq1,by rw [←hv1];exact h1⟩ (by show i<i+1;omega) (by exact ⟨rfl,by rw [hback];rfl,rfl,rfl,rfl⟩)
   · have hm2 : val lo1 % 2 ^ i=0:=by
      rw [hv1]
      obtain ⟨c,hc⟩:=W4w hmod
      rw [hc,W0p,W0o,Nat.add_mod_right];exact Nat.mul_mod_right _ _
     refine Ar (i - 1 : Int) rfl ?_
     exact Bk (i,lo1) [] rfl ⟨by omega,hl1,hw1,hm2,W4g h1,by rw [hv1,W4p,←Nat.two_mul,W1e 2,←W0p];exact hsq2⟩ (by show i<i+1;omega)
 · have hk0 : k=0:=by omega
   subst hk0
   have hrt : rt a=val lo:=Ye3 hsq1 (by simpa using hsq2)
   refine Fz 12 5 (lo.map wd) rfl (by simp only [lw];omega) (oa hlo) ?_
   refine Ce (r:=.d (dz (sg false (val lo)))) rfl (by
    have:=Xod (b:=false) hwl (by omega)
    exact this) ?_
   exact RTt rfl (.cons (.eq (by rw [Xge,hrt])) (.one (.rf rfl) (fun _ _ e=>by cases e) (fun _ _ e=>by cases e)))
end
end Go.Proofs.YtclmecgphleeeaaGreatDoor.R1
namespace Go.Num
theorem Zs.fdv {p : Nat} {z g : Int} (h : Zs p z) (hg : 0<g) : Zs p (z.fdiv g):=by
 unfold Zs at *
 rw [W1n _ (by omega)]
 have : (z / g).natAbs≤z.natAbs:=Int.natAbs_ediv_le_natAbs ..
 omega
end Go.Num
namespace Go.Proofs.YtclmecgphleeeaaGreatDoor.R2
open Go Go.Vm Go.Num Go.Proofs.YtclmecgphleeeaaGreatDoor
theorem Ycr {a g : Int} (h : g ∣ a) (hg : 0≤g) : a.fdiv g=a.tdiv g:=by
 rw [W1n _ hg,Int.tdiv_eq_ediv_of_dvd h]
theorem Xlj (a g : Nat) : (a : Int).fdiv g=((a / g : Nat) : Int):=by
 rw [W1n _ (by omega),Int.natCast_ediv]
theorem Xw2 (x y : Rat) : (x*y).num=x.num.fdiv (Int.gcd x.num y.den : Int)*y.num.fdiv (Int.gcd y.num x.den : Int):=by
 show (Rat.mul x y).num=_
 delta Rat.mul
 simp only [Int.divExact_eq_tdiv]
 rw [Ycr (Int.gcd_dvd_left ..) (by omega),Ycr (Int.gcd_dvd_left ..) (by omega)]
 rfl
theorem Xxx (x y : Rat) : ((x*y).den : Int)=(x.den : Int).fdiv (Int.gcd y.num x.den : Int)*(y.den : Int).fdiv (Int.gcd x.num y.den : Int):=by
 show ((Rat.mul x y).den : Int)=_
 delta Rat.mul
 simp only [Nat.divExact_eq_div]
 rw [Xlj,Xlj]
 rfl
theorem Xpa {x y : Rat} (h : (Int.gcd x.den y.den : Int)=1) : (x+y).num=x.num*y.den+y.num*x.den∧(x+y).den=x.den*y.den:=by
 have hg : x.den.gcd y.den=1:=by have : (x.den.gcd y.den : Int)=1:=h;omega
 show (Rat.add x y).num=_∧(Rat.add x y).den=_
 delta Rat.add
 simp only [hg]
 exact ⟨rfl,rfl⟩
theorem Xo9 {x y : Rat} (h : ¬ (Int.gcd x.den y.den : Int)=1) : (x+y).num=(x.num*(y.den : Int).fdiv (Int.gcd x.den y.den : Int)+y.num*(x.den : Int).fdiv (Int.gcd x.den y.den : Int)).fdiv (Int.gcd (x.num*(y.den : Int).fdiv (Int.gcd x.den y.den : Int)+y.num*(x.den : Int).fdiv (Int.gcd x.den y.den : Int)) (Int.gcd x.den y.den : Int) : Int) ∧
 ((x+y).den : Int)=(x.den : Int).fdiv (Int.gcd x.den y.den : Int)*(y.den : Int).fdiv (Int.gcd (x.num*(y.den : Int).fdiv (Int.gcd x.den y.den : Int)+y.num*(x.den : Int).fdiv (Int.gcd x.den y.den : Int)) (Int.gcd x.den y.den : Int) : Int):=by
 have hg : ¬ x.den.gcd y.den=1:=fun e=>h (by show ((x.den.gcd y.den : Nat) : Int)=1;rw [e];rfl)
 have eg : Int.gcd (x.den : Int) (y.den : Int)=x.den.gcd y.den:=rfl
 rw [eg,Xlj,Xlj]
 generalize hn : x.num*((y.den / x.den.gcd y.den : Nat) : Int)+y.num*((x.den / x.den.gcd y.den : Nat) : Int)=n
 have et : Int.gcd n ((x.den.gcd y.den : Nat) : Int)=n.natAbs.gcd (x.den.gcd y.den):=rfl
 have htd : n.natAbs.gcd (x.den.gcd y.den) ∣ y.den:=Nat.dvd_trans (Nat.gcd_dvd_right ..) (Nat.gcd_dvd_right ..)
 rw [Ycr (Int.gcd_dvd_left ..) (by omega),et,Xlj]
 have e : Rat.add x y=x+y:=rfl
 delta Rat.add at e
 simp only [hg,hn,dif_neg,not_false_eq_true,Rat.maybeNormalize_eq] at e
 rw [←e]
 refine ⟨by simp only [Int.divExact_eq_tdiv],?_⟩
 simp only [Nat.divExact_eq_div]
 rw [←W3b,Nat.mul_div_assoc _ htd]
theorem Xj3 {a b : Int} (h : b≠0) : (Int.gcd a b : Int)≠0:=by have:=@Xt8 a b h;omega
theorem Xdt {z : Int} (h : (dig z.natAbs).length≤1099511627776) : C0 267 [.d (dz z)] (·=.b true):=by
 refine En Tryz.func267 fun _ _ _=>?_
 refine Dw rfl ?_
 refine Ce rfl (R1.trim_dig_ok h) ?_
 refine Yes rfl rfl ?_
 refine By rfl (fun h1=>?_) fun h1=>?_
 · exact R0
 · have : (dig z.natAbs).length≠0:=fun e=>by have:=Yli.1 e;omega
   exact R1 rfl (by exact (show dc (((List.map wd (dig z.natAbs)).length : Int) > 0)=true by rw [Xaw,lw];omega) ▸ .rf rfl)
theorem Xec {z : Int} : C0 176 [.d (dz z)] (·=.b (dc (z=1))):=by
 refine En Tryz.func176 fun _ _ _=>?_
 refine By rfl (fun h1=>?_) fun h1=>?_ <;> simp only [lw] at h1
 · obtain ⟨u,hu⟩:=xat (l:=dig z.natAbs) (k:=0) (by omega)
   have hl:=Ylh (by omega) hu
   refine Ix 0 rfl (mp hu) ?_
   refine By rfl (fun h2=>?_) fun h2=>?_
   · refine R1 rfl (.bp ?_)
     rw [←Xsx,hl]
     simp only [W1t,decide_eq_false_iff_not]
     exact ⟨fun h=>⟨by rw [show u=1 by omega],h⟩,fun h=>h.2⟩
   · refine R1 rfl (.bp ⟨nofun,fun e=>?_⟩)
     have:=(Xsx.2 e).1
     rw [hl] at this;injection this with this;omega
 · exact R1 rfl (.bp ⟨nofun,fun e=>absurd (by rw [e];show ((dig 1).length : Int)=1;rw [Yd2];rfl) h1⟩)
theorem Xb8 {a b : Int} (ha : (dig a.natAbs).length≤549755813888) (hb : (dig b.natAbs).length≤549755813888) (hb0 : b≠0) : C0 138 [.d (dz a),.d (dz b)] (·=.d (dz (a.fdiv b))):=by
 refine En Tryz.func138 fun _ _ _=>?_
 refine Ce rfl (R1.DivMod_ok ha hb hb0) ?_
 exact R0
theorem FromInt_ok {z : Int} (h : -9223372036854775808≤z∧z<9223372036854775808) : C0 57 [.d (.int .i64 z)] (·=.d (dq z)):=by
 refine En Tryz.func57 fun _ _ _=>?_
 refine Ce rfl (R1.FromInt_ok h) ?_
 refine Ce rfl (R1.FromInt_ok (z:=1) (by decide)) ?_
 exact R0
theorem Xdj {a b : Int} {p : Nat} (ha : Zs p a) (hb : Zs p b) (hp : p≤8796093022208) (hb0 : b≠0) : C0 78 [.d (dz a),.d (dz b)] (·=.d (dq (Rat.divInt a b))):=by
 have hla:=ha.len hp
 have hlb:=hb.len hp
 have hlg:=(hb.gcd (x:=a) hb0).len hp
 have h0:=Xt8 (a:=a) hb0
 have key : ∀ g : Int,g=(if b<0 then -(Int.gcd a b : Int) else (Int.gcd a b : Int))→D.st (.pr (dz (a.fdiv g)) (dz (b.fdiv g)))=dq (Rat.divInt a b):=fun g hg=>by rw [hg,Xin hb0,Xio hb0];rfl
 have hs : Xa1 b 0<0↔b<0:=by rcases Xas b 0 with ⟨g1,g2⟩ | ⟨g1,g2⟩ | ⟨g1,g2⟩ <;> omega
 refine En Tryz.func78 fun _ _ _=>?_
 refine Ce rfl (R1.GCD_ok (by omega) (by omega)) ?_
 refine Ce rfl (R1.Sign_ok (by omega)) ?_
 refine By rfl (fun h=>?_) fun h=>?_
 · refine Ce rfl (R1.Neg_ok (by omega)) ?_
   refine Dw rfl ?_
   refine Ce rfl (Xb8 (by omega) (by rw [W4s];omega) (by omega)) ?_
   refine Ce rfl (Xb8 (by omega) (by rw [W4s];omega) (by omega)) ?_
   exact R1 rfl (.eq (key _ (by rw [if_pos (hs.1 h)])))
 · refine Dw rfl ?_
   refine Ce rfl (Xb8 (by omega) (by omega) (by omega)) ?_
   refine Ce rfl (Xb8 (by omega) (by omega) (by omega)) ?_
   exact R1 rfl (.eq (key _ (by rw [if_neg (mt hs.2 h)])))
theorem Frac_ok {a b : Int} (ha : -9223372036854775808≤a∧a<9223372036854775808) (hb : -9223372036854775808≤b∧b<9223372036854775808) (hb0 : b≠0) : C0 37 [.d (.int .i64 a),.d (.int .i64 b)] (·=.d (dq (Rat.divInt a b))):=by
 refine En Tryz.func37 fun _ _ _=>?_
 refine No rfl hb0 ?_
 refine Ce rfl (R1.FromInt_ok ha) ?_
 refine Ce rfl (R1.FromInt_ok hb) ?_
 refine Ce rfl (Xdj (p:=64) (by unfold Zs;omega) (by unfold Zs;omega) (by decide) hb0) ?_
 exact R0
theorem Valid_ok {x : Rat} {p : Nat} (hx : Qs p x) (hp : p≤8796093022208) : C0 225 [.d (dq x)] (·=.b true):=by
 have h1:=hx.n.len hp
 have h2:=hx.d.len hp
 refine En Tryz.func225 fun _ _ _=>?_
 refine Ce rfl (Xdt (z:=x.num) (by omega)) ?_
 refine Yes rfl rfl ?_
 refine Ce rfl (Xdt (z:=x.den) (by omega)) ?_
 refine Yes rfl rfl ?_
 refine Ce rfl (R1.Sign_ok (by omega)) ?_
 refine Yes rfl (Yj4.2 (by have:=x.den_pos;omega)) ?_
 refine Ce rfl (R1.GCD_ok (by omega) (by omega)) ?_
 refine Ce rfl Xec ?_
 refine R1 rfl (by exact (show dc ((Int.gcd x.num x.den : Int)=1)=true by rw [Xaw];exact congrArg Nat.cast (show Int.gcd x.num x.den=1 from x.reduced)) ▸ .rf rfl)
theorem Sign_ok {x : Rat} {p : Nat} (hx : Qs p x) (hp : p≤8796093022208) : C0 129 [.d (dq x)] (·=.d (.int .i64 (Xa1 x.num 0))):=by
 have:=hx.n.len hp
 refine En Tryz.func129 fun _ _ _=>?_
 refine Ce rfl (R1.Sign_ok (by omega)) ?_
 exact R0
theorem Neg_ok {x : Rat} {p : Nat} (hx : Qs p x) (hp : p≤8796093022208) : C0 125 [.d (dq x)] (·=.d (dq (-x))):=by
 have:=hx.n.len hp
 refine En Tryz.func125 fun _ _ _=>?_
 refine Dw rfl ?_
 refine Ce rfl (R1.Neg_ok (by omega)) ?_
 exact R1 rfl (.eq (show D.st (.pr (dz (-x.num)) (dz x.den))=dq (-x) by unfold dq;rw [Rat.neg_num,Rat.neg_den]))
theorem zero_of {x : Rat} (h : ((List.map wd (dig x.num.natAbs)).length : Int)=0) : x=0:=by
 simp only [lw] at h
 have:=Yli.1 (by omega : (dig x.num.natAbs).length=0)
 exact W6v.1 (by omega)
theorem Mul_ok {x y : Rat} {p q : Nat} (hx : Qs p x) (hy : Qs q y) (hp : p+q+1≤8796093022208) : C0 120 [.d (dq x),.d (dq y)] (·=.d (dq (x*y))):=by
 have h1:=hx.n.len (by omega)
 have h2:=hx.d.len (by omega)
 have h3:=hy.n.len (by omega)
 have h4:=hy.d.len (by omega)
 have g1:=hy.d.gcd (x:=x.num) (Xbz y)
 have g2:=hx.d.gcd (x:=y.num) (Xbz x)
 have l1:=g1.len (by omega)
 have l2:=g2.len (by omega)
 have k1:=@Xj3 x.num y.den (Xbz y)
 have k2:=@Xj3 y.num x.den (Xbz x)
 have q1:=(hx.n.fdv (g:=(Int.gcd x.num y.den : Int)) (by omega)).len (by omega)
 have q2:=(hy.n.fdv (g:=(Int.gcd y.num x.den : Int)) (by omega)).len (by omega)
 have q3:=(hx.d.fdv (g:=(Int.gcd y.num x.den : Int)) (by omega)).len (by omega)
 have q4:=(hy.d.fdv (g:=(Int.gcd x.num y.den : Int)) (by omega)).len (by omega)
 refine En Tryz.func120 fun _ _ _=>?_
 refine Cu (some 1) (fun (b : Bool)=>[(2,.ptr 2 0),(3,.ptr 3 0),(4,.ptr 4 0),(18,.b b)]) (fun _=>[(2,.var (.d (dq x))),(3,.var (.d (dq y))),(4,.var q0)]) (fun b=>b=true→x*y=0) rfl ?_ fun b hb=>?_
 · refine By rfl (fun h=>?_) fun h=>?_
   · exact Jn true [] rfl fun _=>by rw [zero_of h,W4x]
   · exact Jn (dc _) [] rfl fun e=>by rw [zero_of (x:=y) (Xaw.1 e),Rat.mul_zero]
 refine By rfl (fun h=>?_) fun h=>?_
 · refine Ce rfl (FromInt_ok (z:=0) (by decide)) ?_
   exact R1 rfl (.eq (show dq _=dq _ by rw [hb h];rfl))
 refine Cu (some 3) (fun (b : Bool)=>[(2,.ptr 2 0),(3,.ptr 3 0),(4,.ptr 4 0),(27,.b b)]) (fun _=>[(2,.var (.d (dq x))),(3,.var (.d (dq y))),(4,.var q0)]) (fun b=>b=true→(x.den : Int)=1∧(y.den : Int)=1) rfl ?_ fun b hb=>?_
 · refine Ce rfl Xec ?_
   refine By rfl (fun h=>?_) fun h=>?_
   · refine Ce rfl Xec ?_
     exact Jn (dc _) [] rfl fun e=>⟨h,Xaw.1 e⟩
   · exact Jn false [] rfl nofun
 refine By rfl (fun h=>?_) fun h=>?_
 · obtain ⟨d1,d2⟩:=hb h
   refine Dw rfl ?_
   refine Ce rfl (R1.Mul_ok (by omega) (by omega)) ?_
   exact R1 rfl (.eq (show D.st (.pr (dz (x.num*y.num)) (dz x.den))=dq _ by rw [Xp1 d1 d2,d1];rfl))
 · refine Dw rfl ?_
   refine Ce rfl (R1.GCD_ok (by omega) (by omega)) ?_
   refine Ce rfl (R1.GCD_ok (by omega) (by omega)) ?_
   refine Dw rfl ?_
   refine Ce rfl (Xb8 (by omega) (by omega) k1) ?_
   refine Ce rfl (Xb8 (by omega) (by omega) k2) ?_
   refine Ce rfl (R1.Mul_ok (by omega) (by omega)) ?_
   refine Ce rfl (Xb8 (by omega) (by omega) k2) ?_
   refine Ce rfl (Xb8 (by omega) (by omega) k1) ?_
   refine Ce rfl (R1.Mul_ok (by omega) (by omega)) ?_
   exact R1 rfl (.eq (show D.st (.pr (dz _) (dz _))=dq (x*y) by unfold dq;rw [Xw2,Xxx]))
theorem Add_ok {x y : Rat} {p q : Nat} (hx : Qs p x) (hy : Qs q y) (hp : p+q+1≤8796093022208) : C0 119 [.d (dq x),.d (dq y)] (·=.d (dq (x+y))):=by
 have h1:=hx.n.len (by omega)
 have h2:=hx.d.len (by omega)
 have h3:=hy.n.len (by omega)
 have h4:=hy.d.len (by omega)
 have h5:=(hx.n.mul hy.d).len (by omega)
 have h6:=(hy.n.mul hx.d).len (by omega)
 have hg:=hy.d.gcd (x:=(x.den : Int)) (Xbz y)
 have k:=@Xj3 (x.den : Int) y.den (Xbz y)
 have hdx:=hx.d.fdv (g:=(Int.gcd x.den y.den : Int)) (by omega)
 have hdy:=hy.d.fdv (g:=(Int.gcd x.den y.den : Int)) (by omega)
 have hn : Zs (p+q+1) (x.num*(y.den : Int).fdiv (Int.gcd x.den y.den : Int)+y.num*(x.den : Int).fdiv (Int.gcd x.den y.den : Int)):=((hx.n.mul hdy).add (hy.n.mul hdx)).mono (by omega)
 have ht:=hg.gcd (x:=x.num*(y.den : Int).fdiv (Int.gcd x.den y.den : Int)+y.num*(x.den : Int).fdiv (Int.gcd x.den y.den : Int)) k
 have kt:=@Xj3 (x.num*(y.den : Int).fdiv (Int.gcd x.den y.den : Int)+y.num*(x.den : Int).fdiv (Int.gcd x.den y.den : Int)) _ k
 have l1:=hg.len (by omega)
 have l2:=hdx.len (by omega)
 have l3:=hdy.len (by omega)
 have l4:=hn.len (by omega)
 have l5:=ht.len (by omega)
 have l6:=(hx.n.mul hdy).len (by omega)
 have l7:=(hy.n.mul hdx).len (by omega)
 have l8:=(hy.d.fdv (g:=(Int.gcd (x.num*(y.den : Int).fdiv (Int.gcd x.den y.den : Int)+y.num*(x.den : Int).fdiv (Int.gcd x.den y.den : Int)) (Int.gcd x.den y.den : Int) : Int)) (by omega)).len (by omega)
 refine En Tryz.func119 fun _ _ _=>?_
 refine By rfl (fun h=>?_) fun h=>?_
 · exact R1 rfl (.eq (by rw [zero_of h,Rat.zero_add];rfl))
 refine By rfl (fun h=>?_) fun h=>?_
 · exact R1 rfl (.eq (by rw [zero_of h,W7b];rfl))
 refine Cu (some 5) (fun (b : Bool)=>[(2,.ptr 2 0),(3,.ptr 3 0),(4,.ptr 4 0),(30,.b b)]) (fun _=>[(2,.var (.d (dq x))),(3,.var (.d (dq y))),(4,.var q0)]) (fun b=>b=true→(x.den : Int)=1∧(y.den : Int)=1) rfl ?_ fun b hb=>?_
 · refine Ce rfl Xec ?_
   refine By rfl (fun h=>?_) fun h=>?_
   · refine Ce rfl Xec ?_
     exact Jn (dc _) [] rfl fun e=>⟨h,Xaw.1 e⟩
   · exact Jn false [] rfl nofun
 refine By rfl (fun h=>?_) fun h=>?_
 · obtain ⟨d1,d2⟩:=hb h
   refine Dw rfl ?_
   refine Ce rfl (R1.Add_ok (by omega) (by omega)) ?_
   exact R1 rfl (.eq (show D.st (.pr (dz (x.num+y.num)) (dz x.den))=dq _ by rw [Xp2 d1 d2,d1];rfl))
 refine Ce rfl (R1.GCD_ok (by omega) (by omega)) ?_
 refine Ce rfl Xec ?_
 refine By rfl (fun h=>?_) fun h=>?_
 · refine Dw rfl ?_
   refine Ce rfl (R1.Mul_ok (by omega) (by omega)) ?_
   refine Ce rfl (R1.Mul_ok (by omega) (by omega)) ?_
   refine Ce rfl (R1.Add_ok (by omega) (by omega)) ?_
   refine Dw rfl ?_
   refine Ce rfl (R1.Mul_ok (by omega) (by omega)) ?_
   exact R1 rfl (.eq (show D.st (.pr (dz _) (dz _))=dq (x+y) by unfold dq;rw [(Xpa h).1,(Xpa h).2,W3b]))
 · refine Dw rfl ?_
   refine Ce rfl (Xb8 (by omega) (by omega) k) ?_
   refine Ce rfl (Xb8 (by omega) (by omega) k) ?_
   refine Dw rfl ?_
   refine Ce rfl (R1.Mul_ok (by omega) (by omega)) ?_
   refine Ce rfl (R1.Mul_ok (by omega) (by omega)) ?_
   refine Ce rfl (R1.Add_ok (by omega) (by omega)) ?_
   refine Ce rfl (R1.GCD_ok (by omega) (by omega)) ?_
   refine Dw rfl ?_
   refine Ce rfl (Xb8 (by omega) (by omega) kt) ?_
   refine Ce rfl (Xb8 (by omega) (by omega) kt) ?_
   refine Ce rfl (R1.Mul_ok (by omega) (by omega)) ?_
   exact R1 rfl (.eq (show D.st (.pr (dz _) (dz _))=dq (x+y) by unfold dq;rw [(Xo9 h).1,(Xo9 h).2]))
theorem Ygc {x : Rat} (h0 : x≠0) : dq x⁻¹=if x.num<0 then D.st (.pr (dz (-x.den)) (dz (-x.num))) else D.st (.pr (dz x.den) (dz x.num)):=by
 have hn : x.num≠0:=fun e=>h0 (W6v.1 e)
 unfold dq
 rw [Rat.num_inv,Rat.den_inv,if_neg hn]
 split
 · rename_i h
   rw [Int.sign_eq_neg_one_of_neg h,show (-1*(x.den : Int))=-x.den by omega,show ((x.num.natAbs : Nat) : Int)=-x.num by omega]
 · rename_i h
   rw [W6h (by omega),show (1*(x.den : Int))=x.den by omega,show ((x.num.natAbs : Nat) : Int)=x.num by omega]
theorem Inv_ok {x : Rat} {p : Nat} (hx : Qs p x) (hp : p≤8796093022208) (h0 : x≠0) : C0 123 [.d (dq x)] (·=.d (dq x⁻¹)):=by
 have h1:=hx.n.len hp
 have h2:=hx.d.len hp
 have e:=Ygc h0
 refine En Tryz.func123 fun _ _ _=>?_
 refine By rfl (fun h=>?_) fun h=>?_
 · rw [if_pos h] at e
   refine Dw rfl ?_
   refine Ce rfl (R1.Neg_ok (by omega)) ?_
   refine Ce rfl (R1.Neg_ok (by omega)) ?_
   exact R1 rfl (.eq e.symm)
 · rw [if_neg h] at e
   exact R1 rfl (.eq e.symm)
theorem Cmp_ok {x y : Rat} {p q : Nat} (hx : Qs p x) (hy : Qs q y) (hp : p+q≤8796093022208) : C0 264 [.d (dq x),.d (dq y)] (·=.d (.int .i64 (Xmd x y))):=by
 have h1:=hx.n.len (by omega)
 have h2:=hx.d.len (by omega)
 have h3:=hy.n.len (by omega)
 have h4:=hy.d.len (by omega)
 have h5:=(hx.n.mul hy.d).len (by omega)
 have h6:=(hy.n.mul hx.d).len (by omega)
 refine En Tryz.func264 fun _ _ _=>?_
 refine Dw rfl ?_
 refine Ce rfl (R1.Mul_ok (by omega) (by omega)) ?_
 refine Ce rfl (R1.Mul_ok (by omega) (by omega)) ?_
 refine Ce rfl (R1.Cmp_ok (by omega) (by omega)) ?_
 exact R1 rfl (.eq (by rw [Xp4]))
theorem Xiy {z w : Int} (hz : (dig z.natAbs).length≤549755813888) : C0 266 [.d (dz z),.d (dz w)] (·=.b (dc (z=w))):=by
 refine En Tryz.func266 fun _ _ _=>?_
 refine By rfl (fun h=>?_) fun h=>?_
 · exact R1 rfl (.bp ⟨nofun,fun e=>absurd (by rw [e]) h⟩)
 have h : (z<0↔w<0):=by simpa using h
 refine By rfl (fun h1=>?_) fun h1=>?_ <;> simp only [lw] at h1
 · exact R1 rfl (.bp ⟨nofun,fun e=>absurd (by rw [e]) h1⟩)
 refine Lo (fun k : Nat=>[(2,.ptr 2 0),(3,.ptr 3 0),(5,.d (.int .i64 k))]) (fun _=>[(2,.var (.d (dz z))),(3,.var (.d (dz w)))]) (fun k=>k≤(dig z.natAbs).length∧(dig z.natAbs).take k=(dig w.natAbs).take k) (fun k=>(dig z.natAbs).length - k) 0 [] rfl ⟨by omega,rfl⟩ fun k ⟨hk,ht⟩=>?_
 refine By rfl (fun h2=>?_) fun h2=>?_ <;> simp only [lw] at h2
 · obtain ⟨u,hu⟩:=xat (l:=dig z.natAbs) (k:=k) (by omega)
   obtain ⟨v,hv⟩:=xat (l:=dig w.natAbs) (k:=k) (by omega)
   refine Dw rfl ?_
   refine Ix k rfl (mp hu) ?_
   refine Ix k rfl (mp hv) ?_
   refine By rfl (fun h3=>?_) fun h3=>?_
   · exact R1 rfl (.bp ⟨nofun,fun e=>by subst e;rw [hu] at hv;injection hv with hv;omega⟩)
   · refine Ar (k+1 : Nat) rfl ?_
     refine Bk (k+1) [] rfl ⟨by omega,?_⟩ (by show _ - (k+1)<_ - k;omega)
     have h1:=(W1a.1 hu).1
     have h2:=(W1a.1 hv).1
     rw [W2b,W2b,hu,hv,ht,show u=v by omega]
 · refine R1 rfl (.bp ⟨fun _=>?_,fun _=>rfl⟩)
   rw [W0b (by omega),W0b (by omega)] at ht
   have:=Xaf z.natAbs
   rw [ht,Xaf] at this
   omega
end Go.Proofs.YtclmecgphleeeaaGreatDoor.R2
namespace Go.Tow
def El : Nat→Type
 | 0=>Rat
 | k+1=>El k × El k
def Tw : Nat→Type
 | 0=>Unit
 | k+1=>Tw k × El k
def toL : (k : Nat)→El k→List Rat
 | 0,x=>[x]
 | k+1,x=>toL k x.1++toL k x.2
def toT : (k : Nat)→Tw k→List (List Rat)
 | 0,_=>[]
 | k+1,t=>toT k t.1++[toL k t.2]
def zero : (k : Nat)→El k
 | 0=>(0 : Rat)
 | k+1=>(zero k,zero k)
def rat : (k : Nat)→Rat→El k
 | 0,x=>x
 | k+1,x=>(rat k x,zero k)
def add : (k : Nat)→El k→El k→El k
 | 0=>fun (x y : Rat)=>x+y
 | k+1=>fun x y=>(add k x.1 y.1,add k x.2 y.2)
def neg : (k : Nat)→El k→El k
 | 0=>fun (x : Rat)=>-x
 | k+1=>fun x=>(neg k x.1,neg k x.2)
def mul : (k : Nat)→Tw k→El k→El k→El k
 | 0=>fun _ (x y : Rat)=>x*y
 | k+1=>fun t x y=>(add k (mul k t.1 x.1 y.1) (mul k t.1 (mul k t.1 x.2 y.2) t.2),add k (mul k t.1 x.1 y.2) (mul k t.1 x.2 y.1))
instance decEl : (k : Nat)→DecidableEq (El k)
 | 0=>inferInstanceAs (DecidableEq Rat)
 | k+1=>@instDecidableEqProd _ _ (decEl k) (decEl k)
theorem Xab (k : Nat) (a : El k) : (toL k a).length=2 ^ k:=by
 induction k with
 | zero=>rfl
 | succ k ih=>simp only [toL,W0c,ih,W0p];omega
theorem Xaa (k : Nat) (t : Tw k) : (toT k t).length=k:=by
 induction k with
 | zero=>rfl
 | succ k ih=>simp only [toT,W0c,ih,W4z]
theorem Xep {α : Type} {a b c d : List α} (h : a.length=c.length) (e : a++b=c++d) : a=c∧b=d:=List.append_inj e h
theorem Xgu {k : Nat} {a b : El k} (h : toL k a=toL k b) : a=b:=by
 induction k with
 | zero=>exact (List.cons.inj h).1
 | succ k ih =>
  obtain ⟨h1,h2⟩:=Xep (by rw [Xab,Xab]) h
  exact W4j (ih h1) (ih h2)
theorem exE (k : Nat) (l : List Rat) (h : l.length=2 ^ k) : ∃ a : El k,toL k a=l:=by
 induction k generalizing l with
 | zero =>
  match l,h with
  | [x],_=>exact ⟨x,rfl⟩
 | succ k ih =>
  obtain ⟨a,ha⟩:=ih (l.take (2 ^ k)) (by rw [W0j,h,W0p];omega)
  obtain ⟨b,hb⟩:=ih (l.drop (2 ^ k)) (by rw [W1p,h,W0p];omega)
  exact ⟨(a,b),by show toL k a++toL k b=l;rw [ha,hb,W3z]⟩
theorem Xaz (k : Nat) (a b : El k) : toL k (add k a b)=List.zipWith (·+·) (toL k a) (toL k b):=by
 induction k with
 | zero=>rfl
 | succ k ih =>
  simp only [toL,add,ih]
  rw [List.zipWith_append (by rw [Xab,Xab])]
theorem Xb0 (k : Nat) (a : El k) : toL k (neg k a)=(toL k a).map (- ·):=by
 induction k with
 | zero=>rfl
 | succ k ih=>simp only [toL,neg,ih,W2z]
theorem Xbn (k : Nat) : toL k (zero k)=List.replicate (2 ^ k) 0:=by
 induction k with
 | zero=>rfl
 | succ k ih =>
  simp only [toL,zero,ih]
  rw [W5d,W0p]
  congr 1
  omega
theorem Xce (k : Nat) (x : Rat) : toL k (rat k x)=x::List.replicate (2 ^ k - 1) 0:=by
 induction k with
 | zero=>rfl
 | succ k ih =>
  simp only [toL,rat,ih,Xbn,W3t]
  rw [W5d,W0p]
  congr 2
  have:=W0t k
  omega
theorem Xap (k : Nat) (a : El k) : a=zero k↔∀ x∈toL k a,x=0:=by
 constructor
 · rintro rfl x hx
   rw [Xbn] at hx
   exact W6a hx
 · intro h
   apply Xgu
   rw [Xbn]
   exact List.eq_replicate_iff.2 ⟨Xab k a,h⟩
theorem Xgh (k : Nat) : rat k 0=zero k:=by
 induction k with
 | zero=>rfl
 | succ k ih=>simp only [rat,zero,ih];rfl
structure Laws {α : Type} (add mul : α→α→α) (neg : α→α) (zero one : α) : Prop where
 ac : ∀ a b,add a b=add b a
 aa : ∀ a b c,add (add a b) c=add a (add b c)
 az : ∀ a,add a zero=a
 an : ∀ a,add a (neg a)=zero
 mc : ∀ a b,mul a b=mul b a
 ma : ∀ a b c,mul (mul a b) c=mul a (mul b c)
 mo : ∀ a,mul a one=a
 md : ∀ a b c,mul a (add b c)=add (mul a b) (mul a c)
section
variable {α : Type} {add mul : α→α→α} {neg : α→α} {zero one : α} (L : Laws add mul neg zero one)
include L
theorem Laws.alc (a b c : α) : add a (add b c)=add b (add a c):=by rw [←L.aa,L.ac a b,L.aa]
theorem Laws.mlc (a b c : α) : mul a (mul b c)=mul b (mul a c):=by rw [←L.ma,L.mc a b,L.ma]
theorem Laws.dm (a b c : α) : mul (add a b) c=add (mul a c) (mul b c):=by rw [L.mc,L.md,L.mc c a,L.mc c b]
theorem Laws.za (a : α) : add zero a=a:=by rw [L.ac,L.az]
theorem Laws.om (a : α) : mul one a=a:=by rw [L.mc,L.mo]
theorem Laws.cancel {a b c : α} (h : add a c=add b c) : a=b:=by
 have : add (add a c) (neg c)=add (add b c) (neg c):=by rw [h]
 rwa [L.aa,L.aa,L.an,L.az,L.az] at this
theorem Laws.mz (a : α) : mul a zero=zero:=by
 refine L.cancel (c:=mul a zero) ?_
 rw [←L.md,L.za,L.za]
theorem Laws.zm (a : α) : mul zero a=zero:=by rw [L.mc,L.mz]
theorem Laws.na (a : α) : add (neg a) a=zero:=by rw [L.ac,L.an]
theorem Laws.nu {a b : α} (h : add a b=zero) : b=neg a:=L.cancel (c:=a) (by rw [L.ac,h,L.na])
theorem Laws.mn (a b : α) : mul a (neg b)=neg (mul a b):=L.nu (by rw [←L.md,L.an,L.mz])
theorem Laws.nm (a b : α) : mul (neg a) b=neg (mul a b):=by rw [L.mc,L.mn,L.mc]
theorem Laws.nn (a : α) : neg (neg a)=a:=(L.nu (L.na a)).symm
theorem Laws.nd (a b : α) : neg (add a b)=add (neg a) (neg b):=(L.nu (by
 rw [L.aa,L.alc b,←L.aa,L.an,L.za,L.an])).symm
theorem Laws.nz : neg zero=zero:=(L.nu (L.az zero)).symm
theorem Laws.sub_eq {a b c d : α} (h : add a d=add c b) : add a (neg b)=add c (neg d):=by
 refine L.cancel (c:=add b d) ?_
 have e1 : add (add a (neg b)) (add b d)=add a d:=by rw [L.aa,←L.aa (neg b),L.na,L.za]
 have e2 : add (add c (neg d)) (add b d)=add c b:=by rw [L.aa,L.alc (neg d),L.na,L.az]
 rw [e1,e2,h]
theorem Laws.quad (r : α) : Laws (α:=α × α) (fun x y=>(add x.1 y.1,add x.2 y.2)) (fun x y=>(add (mul x.1 y.1) (mul (mul x.2 y.2) r),add (mul x.1 y.2) (mul x.2 y.1))) (fun x=>(neg x.1,neg x.2)) (zero,zero) (one,zero) where
 ac:=fun a b=>by simp only [L.ac]
 aa:=fun a b c=>by simp only [L.aa]
 az:=fun a=>by simp only [L.az]
 an:=fun a=>by simp only [L.an]
 mc:=fun a b=>by
  refine W4j ?_ ?_
  · simp only [L.mc]
  · simp only [L.mc,L.ac]
 ma:=fun a b c=>by
  refine W4j ?_ ?_
  · simp only [L.md,L.dm,L.ma]
    simp only [L.mc,L.mlc,L.aa,L.ac,L.alc]
  · simp only [L.md,L.dm,L.ma]
    simp only [L.mc,L.mlc,L.aa,L.ac,L.alc]
 mo:=fun a=>by
  refine W4j ?_ ?_
  · simp only [L.mo,L.mz,L.zm,L.az]
  · simp only [L.mo,L.mz,L.za]
 md:=fun a b c=>by
  refine W4j ?_ ?_
  · simp only [L.md,L.dm]
    simp only [L.aa,L.ac,L.alc]
  · simp only [L.md,L.dm]
    simp only [L.aa,L.ac,L.alc]
end
theorem Xa3 (k : Nat) (t : Tw k) : Laws (add k) (mul k t) (neg k) (zero k) (rat k 1):=by
 induction k with
 | zero=>exact ⟨Rat.add_comm,Rat.add_assoc,W7b,Rat.add_neg_cancel,Rat.mul_comm,Rat.mul_assoc,Rat.mul_one,Rat.mul_add⟩
 | succ k ih=>exact (ih t.1).quad t.2
def norm (k : Nat) (t : Tw (k+1)) (a : El (k+1)) : El k:=add k (mul k t.1 a.1 a.1) (neg k (mul k t.1 (mul k t.1 a.2 a.2) t.2))
def inv : (k : Nat)→Tw k→El k→Option (El k)
 | 0=>fun _ (x : Rat)=>if x=0 then none else some (1 / x : Rat)
 | k+1=>fun t a=>match inv k t.1 (norm k t a) with
  | none=>none
  | some n=>some (mul k t.1 a.1 n,neg k (mul k t.1 a.2 n))
theorem Xpd (k : Nat) (t : Tw (k+1)) (a b : El (k+1)) : norm k t (mul (k+1) t a b)=mul k t.1 (norm k t a) (norm k t b):=by
 have L:=Xa3 k t.1
 have h : ∀ x y z w : El k,mul k t.1 (add k x (neg k y)) (add k z (neg k w))=add k (add k (mul k t.1 x z) (mul k t.1 y w)) (neg k (add k (mul k t.1 x w) (mul k t.1 y z))):=by
  intro x y z w
  simp only [L.md,L.dm,L.mn,L.nm,L.nn,L.nd]
  simp only [L.aa,L.ac,L.alc]
 simp only [norm,mul]
 rw [h]
 refine L.sub_eq ?_
 simp only [L.md,L.dm,L.ma]
 simp only [L.mc,L.mlc,L.aa,L.ac,L.alc]
theorem Xds {k : Nat} {t : Tw k} {a b : El k} (h : inv k t a=some b) : mul k t b a=rat k 1:=by
 induction k with
 | zero =>
  have h2 : ∀ x b : Rat,(if x=0 then none else some (1 / x))=some b→b*x=1:=by
   intro x b h
   split at h
   · cases h
   · rename_i hx
     injection h with h
     subst h
     exact W5a hx
  exact h2 a b h
 | succ k ih =>
  have L:=Xa3 k t.1
  simp only [inv] at h
  split at h
  · cases h
  · rename_i n hn
    injection h with h
    subst h
    have:=ih hn
    refine W4j ?_ ?_
    · show add k (mul k t.1 (mul k t.1 a.1 n) a.1) (mul k t.1 (mul k t.1 (neg k (mul k t.1 a.2 n)) a.2) t.2)=rat k 1
      rw [←this,norm]
      simp only [L.md,L.mn,L.nm]
      simp only [L.ma,L.mc,L.mlc]
    · show add k (mul k t.1 (mul k t.1 a.1 n) a.2) (mul k t.1 (neg k (mul k t.1 a.2 n)) a.1)=zero k
      simp only [L.nm]
      rw [show mul k t.1 (mul k t.1 a.2 n) a.1=mul k t.1 (mul k t.1 a.1 n) a.2 from by simp only [L.ma,L.mc,L.mlc],L.an]
def pr {k : Nat} (a b : El k) : El (k+1):=(a,b)
def up (k : Nat) (a : El k) : El (k+1):=(a,zero k)
def Xcg : (k : Nat)→(i : Nat)→El k
 | 0,_=>(0 : Rat)
 | k+1,i=>if i=k then pr (zero k) (rat k 1) else up k (Xcg k i)
theorem Xij (k : Nat) (t : Tw (k+1)) (a b : El k) : mul (k+1) t (up k a) (up k b)=up k (mul k t.1 a b):=by
 have L:=Xa3 k t.1
 simp only [mul,up,L.mz,L.zm,L.az];rfl
theorem Xv4 {k i : Nat} (hi : i<k) : toL k (Xcg k i)=(List.replicate (2 ^ k) 0).set (2 ^ i) 1:=by
 induction k with
 | zero=>omega
 | succ k ih =>
  have hp : 2 ^ (k+1)=2 ^ k+2 ^ k:=by rw [W0p];omega
  rw [hp,←W5d]
  by_cases h : i=k
  · rw [Xcg,if_pos h]
    subst h
    simp only [toL,pr,Xbn,Xce]
    rw [List.set_append_right _ _ (by simp),W1y,W2w]
    have h0:=W0t i
    obtain ⟨m,hm⟩ : ∃ m,2 ^ i=m+1:=⟨2 ^ i - 1,by omega⟩
    rw [hm]
    rfl
  · have hik : i<k:=by omega
    have hlt : 2 ^ i<2 ^ k:=W4i (by decide) hik
    rw [Xcg,if_neg h]
    simp only [toL,up,Xbn]
    rw [ih hik,List.set_append_left _ _ (by rw [W1y];exact hlt)]
end Go.Tow
namespace Go.Proofs.YtclmecgphleeeaaGreatDoor
open Go Go.Num Go.Tow Go.Vm
section
def IsD (d n : Nat) (l : List Rat) : Prop:=∀ x∈l,∃ z : Int,x*(d : Rat)=(z : Rat)∧z.natAbs<n
theorem IsD.mono {d n m : Nat} {l : List Rat} (h : IsD d n l) (hm : n≤m) : IsD d m l:=fun x hx =>
 let ⟨z,h1,h2⟩:=h x hx;⟨z,h1,W0r h2 hm⟩
theorem IsD.scale {d n e : Nat} {l : List Rat} (h : IsD d n l) (he : 0<e) : IsD (d*e) (n*e) l:=fun x hx=>by
 obtain ⟨z,h1,h2⟩:=h x hx
 refine ⟨z*(e : Int),?_,?_⟩
 · rw [W6d,←Rat.mul_assoc,h1,W3q];rfl
 · rw [W4a,W1j]
   exact W3f h2 he
theorem IsD.append {d n : Nat} {l m : List Rat} (h : IsD d n l) (k : IsD d n m) : IsD d n (l++m):=fun x hx=>(W2v.1 hx).elim (h x) (k x)
theorem IsD.left {d n : Nat} {l m : List Rat} (h : IsD d n (l++m)) : IsD d n l:=fun x hx=>h x (W2f _ hx)
theorem IsD.right {d n : Nat} {l m : List Rat} (h : IsD d n (l++m)) : IsD d n m:=fun x hx=>h x (W1l _ hx)
theorem IsD.add {d n m : Nat} : ∀ {l l' : List Rat},IsD d n l→IsD d m l'→IsD d (n+m) (List.zipWith (·+·) l l')
 | [],_,_,_=>fun _ h=>nomatch h
 | _::_,[],_,_=>fun _ h=>nomatch h
 | a::l,b::l',h,k=>fun x hx=>by
  rcases W1o.1 hx with hx | hx
  · obtain ⟨z,h1,h2⟩:=h a (W0q ..)
    obtain ⟨w,k1,k2⟩:=k b (W0q ..)
    refine ⟨z+w,by rw [hx,Rat.add_mul,h1,k1,W6e],?_⟩
    have:=Int.natAbs_add_le z w
    omega
  · exact IsD.add (fun y hy=>h y (W0z _ hy)) (fun y hy=>k y (W0z _ hy)) x hx
theorem IsD.neg {d n : Nat} {l : List Rat} (h : IsD d n l) : IsD d n (l.map (- ·)):=fun x hx=>by
 obtain ⟨y,hy,rfl⟩:=W3p.1 hx
 obtain ⟨z,h1,h2⟩:=h y hy
 exact ⟨-z,by rw [Rat.neg_mul,h1,W6w],by rw [W4s];exact h2⟩
theorem IsD.mul1 {d n e m : Nat} {x y : Rat} (h : IsD d n [x]) (k : IsD e m [y]) : IsD (d*e) (n*m) [x*y]:=fun u hu=>by
 obtain rfl:=W0g.1 hu
 obtain ⟨z,h1,h2⟩:=h x (W0q ..)
 obtain ⟨w,k1,k2⟩:=k y (W0q ..)
 refine ⟨z*w,?_,?_⟩
 · rw [W6d,W3q,←h1,←k1]
   grind
 · rw [W4a]
   exact W3l h2 k2
theorem Xjw (y : Rat) : y*(y.den : Rat)=(y.num : Rat):=by
 have hd : ((y.den : Nat) : Rat)≠0:=by
  intro h
  have : ((y.den : Nat) : Rat).num=0:=by rw [h];rfl
  rw [Rat.num_natCast] at this
  have:=y.den_nz
  omega
 have e : y=(y.num : Rat) / (y.den : Rat):=by
  conv=>lhs;rw [←Rat.num_divInt_den y,W5i]
  rfl
 conv=>lhs;lhs;rw [e]
 exact W5a hd
def Sz (p : Nat) (l : List Rat) : Prop:=∃ d : Nat,0<d∧d<2 ^ p∧IsD d (2 ^ p) l
theorem Sz.mono {p q : Nat} {l : List Rat} (h : Sz p l) (hp : p≤q) : Sz q l:=by
 obtain ⟨d,h0,h1,h2⟩:=h
 have:=W0h (n:=2) (by decide) hp
 exact ⟨d,h0,by omega,h2.mono this⟩
theorem Sz.sub {p : Nat} {l m : List Rat} (h : Sz p l) (hs : ∀ x∈m,x∈l) : Sz p m:=by
 obtain ⟨d,h0,h1,h2⟩:=h
 exact ⟨d,h0,h1,fun x hx=>h2 x (hs x hx)⟩
theorem Sz.qs {p : Nat} {l : List Rat} (h : Sz p l) {x : Rat} (hx : x∈l) : Qs p x:=by
 obtain ⟨d,h0,h1,h2⟩:=h
 obtain ⟨z,h3,h4⟩:=h2 x hx
 have hd : ((d : Nat) : Rat)≠0:=by
  intro h
  have : (d : Rat).num=0:=by rw [h];rfl
  rw [Rat.num_natCast] at this
  omega
 have e : x=Rat.divInt z (d : Int):=by
  rw [W5i,←h3]
  exact (Rat.mul_div_cancel hd).symm
 rw [e]
 exact Qs.divInt h4 (by unfold Zs;rw [W1j];exact h1) (by omega)
theorem Sz.nil : Sz 1 []:=⟨1,by decide,by decide,fun _ h=>nomatch h⟩
theorem _root_.Go.Num.Qs.isD {p : Nat} {x : Rat} (h : Qs p x) : IsD x.den (2 ^ p) [x]:=fun y hy=>by
 obtain rfl:=W0g.1 hy
 exact ⟨y.num,Xjw y,h.n⟩
theorem Sz.one {p : Nat} {x : Rat} (h : Qs p x) : Sz p [x]:=⟨x.den,W2h x.den_nz,by have:=h.d;unfold Zs at this;rwa [W1j] at this,h.isD⟩
theorem Sz.append {p q : Nat} {l m : List Rat} (h : Sz p l) (k : Sz q m) : Sz (p+q) (l++m):=by
 obtain ⟨d,h0,h1,h2⟩:=h
 obtain ⟨e,k0,k1,k2⟩:=k
 have hp:=W0t p
 have hq:=W0t q
 refine ⟨d*e,W1h h0 k0,by rw [W0v];exact W3l h1 k1,?_⟩
 refine IsD.append ((h2.scale k0).mono ?_) ?_
 · rw [W0v];exact W0m _ (W2c k1)
 · rw [W1e d e]
   refine (k2.scale h0).mono ?_
   rw [W0v,W1e]
   exact W1b _ (W2c h1)
theorem Sz.cons {p q : Nat} {x : Rat} {m : List Rat} (h : Qs p x) (k : Sz q m) : Sz (p+q) (x::m):=(Sz.one h).append k
theorem Sz.all {p : Nat} : ∀ {l : List Rat},(∀ x∈l,Qs p x)→Sz (p*l.length+1) l
 | [],_=>Sz.nil.mono (by omega)
 | x::l,h=>(Sz.cons (h x (W0q ..)) (Sz.all fun y hy=>h y (W0z _ hy))).mono (by rw [W0s,Nat.mul_succ];omega)
theorem Sz.add {p q : Nat} {l m : List Rat} (h : Sz p l) (k : Sz q m) : Sz (p+q+1) (List.zipWith (·+·) l m):=by
 obtain ⟨d,h0,h1,h2⟩:=h
 obtain ⟨e,k0,k1,k2⟩:=k
 have e1:=W3l h1 k1
 rw [←W0v] at e1
 refine ⟨d*e,W1h h0 k0,by rw [W0p];omega,?_⟩
 have a1 : IsD (d*e) (2 ^ (p+q)) l:=(h2.scale k0).mono (by rw [W0v];exact W0m _ (W2c k1))
 have a2 : IsD (d*e) (2 ^ (p+q)) m:=by
  rw [W1e d e]
  exact (k2.scale h0).mono (by rw [W0v,W1e];exact W1b _ (W2c h1))
 exact (a1.add a2).mono (by rw [W0p];omega)
theorem Sz.neg {p : Nat} {l : List Rat} (h : Sz p l) : Sz p (l.map (- ·)):=by
 obtain ⟨d,h0,h1,h2⟩:=h
 exact ⟨d,h0,h1,h2.neg⟩
theorem Sz.left {p : Nat} {l m : List Rat} (h : Sz p (l++m)) : Sz p l:=h.sub fun _=>W2f _
theorem Sz.right {p : Nat} {l m : List Rat} (h : Sz p (l++m)) : Sz p m:=h.sub fun _=>W1l _
def TS (r : Nat) : (k : Nat)→Tw k→Prop
 | 0,_=>True
 | k+1,t=>TS r k t.1∧Sz r (toL k t.2)
def cB (r : Nat) : Nat→Nat
 | 0=>0
 | k+1=>2*cB r k+r+1
theorem Yj6 (r k : Nat) : cB r k≤cB r (k+1):=by show _≤2*cB r k+r+1;omega
theorem Xjv {r k : Nat} {t : Tw k} (ht : TS r k t) : ∃ E,0<E∧E≤2 ^ cB r k∧∀ a b d e n m,0<d→0<e→IsD d n (toL k a)→IsD e m (toL k b)→IsD (d*e*E) (n*m*2 ^ cB r k) (toL k (mul k t a b)):=by
 induction k with
 | zero =>
  refine ⟨1,by decide,W0a 1,fun a b d e n m _ _ h h'=>?_⟩
  rw [W4c,show 2 ^ cB r 0=1 from rfl,W4c]
  exact h.mul1 h'
 | succ k ih =>
  obtain ⟨E,h0,h1,h2⟩:=ih ht.1
  obtain ⟨g,g0,g1,g2⟩:=ht.2
  have hC:=W0t (cB r k)
  have hR:=W0t r
  refine ⟨E*(E*g),W1h h0 (W1h h0 g0),?_,fun a b d e n m hd he h h'=>?_⟩
  · have e1 : E*(E*g)≤2 ^ cB r k*(2 ^ cB r k*2 ^ r):=W2a h1 (W2a h1 (W2c g1))
    rw [←W0v,←W0v] at e1
    exact W0i e1 (W0h (by decide) (by show _≤2*cB r k+r+1;omega))
  · have hg : E*g≤2 ^ cB r k*2 ^ r:=W2a h1 (W2c g1)
    have hEg : 0<E*g:=W1h h0 g0
    have hc : n*m*2 ^ cB r (k+1)=n*m*2 ^ cB r k*(2 ^ cB r k*2 ^ r)+n*m*2 ^ cB r k*(2 ^ cB r k*2 ^ r):=by
     rw [show cB r (k+1)=cB r k+(cB r k+r)+1 from by show 2*cB r k+r+1=_;omega,W0p,W0v,W0v]
     rw [←Nat.mul_two,W0o (n*m),W0o (n*m)]
    have scale : ∀ u v : El k,IsD d n (toL k u)→IsD e m (toL k v)→IsD (d*e*(E*(E*g))) (n*m*2 ^ cB r k*(2 ^ cB r k*2 ^ r)) (toL k (mul k t.1 u v)):=by
     intro u v hu hv
     have:=(h2 u v d e n m hd he hu hv).scale hEg
     rw [W0o (d*e)] at this
     exact this.mono (W0m _ hg)
    show IsD _ _ (toL k (add k _ _)++toL k (add k _ _))
    rw [Xaz,Xaz,hc]
    refine IsD.append (IsD.add (scale _ _ h.left h'.left) ?_) (IsD.add (scale _ _ h.left h'.right) (scale _ _ h.right h'.left))
    have:=h2 _ _ (d*e*E) g _ _ (W1h (W1h hd he) h0) g0 (h2 _ _ d e n m hd he h.right h'.right) g2
    rw [show d*e*E*g*E=d*e*(E*(E*g)) from by rw [W0o (d*e),W0o (d*e),W0o E g E,W1e g E]] at this
    rw [show n*m*2 ^ cB r k*2 ^ r*2 ^ cB r k=n*m*2 ^ cB r k*(2 ^ cB r k*2 ^ r) from by rw [W0o (n*m*2 ^ cB r k),W1e (2 ^ r)]] at this
    exact this
theorem Sz.mul {r k p q : Nat} {t : Tw k} {a b : El k} (ht : TS r k t) (h : Sz p (toL k a)) (h' : Sz q (toL k b)) : Sz (p+q+cB r k) (toL k (mul k t a b)):=by
 obtain ⟨E,e0,e1,e2⟩:=Xjv ht
 obtain ⟨d,h0,h1,h2⟩:=h
 obtain ⟨e,k0,k1,k2⟩:=h'
 have:=e2 a b d e _ _ h0 k0 h2 k2
 rw [←W0v,←W0v] at this
 refine ⟨_,W1h (W1h h0 k0) e0,?_,this⟩
 rw [W0v,W0v]
 have h3:=W3l h1 k1
 exact W0r (W3f h3 e0) (W0m _ e1)
def nB (r k p : Nat) : Nat:=4*p+3*cB r k+r+1
theorem Sz.norm {r k p : Nat} {t : Tw (k+1)} {a : El (k+1)} (ht : TS r (k+1) t) (h : Sz p (toL (k+1) a)) : Sz (nB r k p) (toL k (Tow.norm k t a)):=by
 have hx : Sz p (toL k a.1):=Sz.left h
 have hy : Sz p (toL k a.2):=Sz.right h
 have h1:=Sz.mul ht.1 hx hx
 have h2:=Sz.mul ht.1 (Sz.mul ht.1 hy hy) ht.2
 rw [Tow.norm,Xaz,Xb0]
 exact (h1.add h2.neg).mono (by unfold nB;omega)
def iB (r : Nat) : Nat→Nat→Nat
 | 0,p=>p+1
 | k+1,p=>2*(p+iB r k (nB r k p)+cB r k)
theorem _root_.Go.Num.Qs.inv1 {p : Nat} {x : Rat} (h : Qs p x) : Qs (p+1) (1 / x):=by
 by_cases h0 : x=0
 · rw [h0,show (1 / 0 : Rat)=((0 : Int) : Rat) from by rw [W7w,Rat.inv_zero,Rat.mul_zero];rfl]
   exact Qs.int Zs.zero (by omega)
 · rw [Xqs _ _ h0]
   refine Qs.divInt ?_ ?_ ?_
   · rw [show (1 : Rat).num=1 from rfl,W5o];exact h.d.mono (by omega)
   · rw [show ((1 : Rat).den : Int)=1 from rfl,W5o];exact h.n.mono (by omega)
   · rw [show ((1 : Rat).den : Int)=1 from rfl,W5o]
     exact fun e=>h0 (W6v.1 e)
theorem Sz.inv {r k p : Nat} {t : Tw k} {a b : El k} (ht : TS r k t) (h : Sz p (toL k a)) (hb : Tow.inv k t a=some b) : Sz (iB r k p) (toL k b):=by
 induction k generalizing p with
 | zero =>
  have h2 : ∀ x b : Rat,(if x=0 then none else some (1 / x))=some b→Qs p x→Sz (p+1) [b]:=by
   intro x b h hq
   split at h
   · cases h
   · injection h with h
     subst h
     exact Sz.one hq.inv1
  exact h2 a b hb (h.qs (W0g.2 rfl))
 | succ k ih =>
  simp only [Tow.inv] at hb
  split at hb
  · cases hb
  · rename_i n hn
    injection hb with hb
    subst hb
    have h1:=ih ht.1 (h.norm ht) hn
    have h2:=Sz.mul ht.1 (Sz.left h : Sz p (toL k a.1)) h1
    have h3:=Sz.mul ht.1 (Sz.right h : Sz p (toL k a.2)) h1
    show Sz _ (toL k _++toL k (Tow.neg k _))
    rw [Xb0]
    exact (h2.append h3.neg).mono (by show _≤2*(p+iB r k (nB r k p)+cB r k);omega)
theorem Ygh (r k p : Nat) : p≤iB r k p:=by
 cases k with
 | zero=>show p≤p+1;omega
 | succ k=>show p≤2*_;omega
theorem Xqo (r k p : Nat) : p≤nB r k p:=by unfold nB;omega
theorem Sz.zero (k : Nat) : Sz 1 (toL k (Tow.zero k)):=by
 rw [Xbn]
 refine ⟨1,by decide,by decide,fun x hx=>?_⟩
 rw [W6a hx]
 exact ⟨0,by rw [W4x];rfl,by decide⟩
theorem Sz.rat {p : Nat} (k : Nat) {x : Rat} (h : Qs p x) : Sz (p+1) (toL k (Tow.rat k x)):=by
 rw [Xce]
 refine Sz.cons h ?_
 refine ⟨1,by decide,by decide,fun x hx=>?_⟩
 rw [W6a hx]
 exact ⟨0,by rw [W4x];rfl,by decide⟩
end
section
def dqs (l : List Rat) : D:=.sl 4 (l.map dq)
def dts (t : List (List Rat)) : D:=.sl 1 (t.map dqs)
def fl (xs : List D) (z : D) (k : Nat) : List D:=xs.take k++List.replicate (xs.length - k) z
theorem Xj5 {xs : List D} {z : D} {n : Nat} (h : xs.length=n) : List.replicate n z=fl xs z 0:=by simp [fl,h]
theorem Xps {xs : List D} {z : D} {k : Nat} (h : xs.length≤k) : fl xs z k=xs:=by rw [fl,W0b h,show xs.length - k=0 by omega];simp
theorem Xlh {xs : List D} {z : D} {k : Nat} (h : k≤xs.length) : (fl xs z k).length=xs.length:=by simp [fl];omega
theorem Xpr {xs : List D} {z u : D} {k : Nat} (h : xs[k]?=some u) : (fl xs z k).set k u=fl xs z (k+1):=by
 have hk:=(W1a.1 h).1
 rw [fl,fl,List.set_append_right _ _ (by simp;omega),show k - (xs.take k).length=0 by simp;omega,show xs.length - k=(xs.length - (k+1))+1 by omega,W4m,List.set_cons_zero,W2b,h]
 simp
theorem lq (l : List Rat) : (l.map dq).length=l.length:=W0n ..
theorem lt' (l : List (List Rat)) : (l.map dqs).length=l.length:=W0n ..
theorem qat {l : List Rat} {k : Nat} (h : k<l.length) : ∃ x,l[k]?=some x:=⟨_,W0d h⟩
def Yae (f : FuncId) (l : List Rat) (φ : Rat→Prop) : Prop:=∀ x∈l,C0 f [.d (dq x)] (·=.b (dc (φ x)))
abbrev fnD (f : FuncId) : D:=.raw (.func (.func f) #[] #[])
theorem Xl8 {f : FuncId} {l : List Rat} {φ : Rat→Prop} (hf : Yae f l φ) (hl : l.length≤1099511627776) : C0 278 [.d (dqs l),.d (fnD f)] fun v=>∃ i : Int,v=.d (.int .i64 i)∧(i ≥ 0↔∃ x∈l,φ x):=by
 refine En Tryz.func278 fun _ _ _=>?_
 refine Lo (fun k : Nat=>[(0,.d (dqs l)),(1,.d (fnD f)),(7,.d (.int .i64 l.length)),(8,.d (.int .i64 k))]) (fun _=>[]) (fun k=>k≤l.length∧∀ x∈l.take k,¬ φ x) (fun k=>l.length - k) 0 [] rfl ⟨by omega,by simp⟩ (fun k ⟨hk,hn⟩=>?_) (by exact ⟨by simp only [lq];rfl,rfl,rfl,rfl,rfl⟩)
 refine By rfl (fun h=>?_) fun h=>?_
 · obtain ⟨x,hx⟩:=qat (l:=l) (k:=k) (by omega)
   have hm:=W0l hx
   refine Ix k rfl (mp hx) ?_
   refine Ce rfl (hf x hm) ?_
   refine By rfl (fun h1=>?_) fun h1=>?_
   · exact Rt rfl (.one (.rf rfl) rfl rfl) ⟨k,rfl,⟨fun _=>⟨x,hm,h1⟩,fun _=>by omega⟩⟩
   · refine Ar (k+1 : Nat) rfl ?_
     refine Bk (k+1) [] rfl ⟨by omega,fun y hy=>?_⟩ (by show l.length - (k+1)<l.length - k;omega)
     rw [W2b,hx] at hy
     rcases W2v.1 hy with hy | hy
     · exact hn y hy
     · simp at hy;rw [hy];exact h1
 · refine Rt rfl (.one (.rf rfl) rfl rfl) ⟨-1,rfl,⟨fun h=>absurd h (by decide),fun ⟨x,hx,h1⟩=>?_⟩⟩
   rw [W0b (by omega)] at hn
   exact absurd h1 (hn x hx)
theorem Xdz {f : FuncId} {l : List Rat} {φ : Rat→Prop} (hf : Yae f l φ) (hl : l.length≤1099511627776) : C0 249 [.d (dqs l),.d (fnD f)] (·=.b (dc (∃ x∈l,φ x))):=by
 refine En Tryz.func249 fun _ _ _=>?_
 refine Ca rfl (Xl8 hf hl) fun v hv=>?_
 obtain ⟨i,rfl,hi⟩:=hv
 exact R1 rfl (.bp (Xaw.trans hi))
theorem Xrt {x : Rat} {p : Nat} (hx : Qs p x) (hp : p≤8796093022208) : C0 251 [.d (dq x)] (·=.b (dc (x≠0))):=by
 refine En Tryz.func251 fun _ _ _=>?_
 refine Ce rfl (Xe2 hx hp) ?_
 refine R1 rfl (.bp ?_)
 have h0:=@W6v x
 rw [Xaw]
 rcases Xas x.num 0 with ⟨g1,g2⟩ | ⟨g1,g2⟩ | ⟨g1,g2⟩ <;> rw [g2,ne_eq,ne_eq,←h0] <;> omega
def Ps (p : Nat) (l : List Rat) : Prop:=∀ x∈l,Qs p x
theorem Xb9 {p : Prop} : (!dc p)=dc (¬ p):=by rw [W5e,W1t,W6k,ne_eq,Xaw,Xaw]
theorem Xjb {l : List Rat} {p : Nat} (hx : Ps p l) (hp : p≤8796093022208) (hl : l.length≤1099511627776) : C0 205 [.d (dqs l)] (·=.b (dc (∀ x∈l,x=0))):=by
 refine En Tryz.func205 fun _ _ _=>?_
 refine Ce rfl (Xdz (φ:=(·≠0)) (fun x hx'=>Xrt (hx x hx') hp) hl) ?_
 exact R1 rfl (.bp (by rw [Xb9,Xaw];simp))
theorem Xm1 {x : Rat} {p : Nat} (hx : Qs p x) (hp : p≤8796093022208) : C0 250 [.d (dq x)] (·=.b (dc False)):=by
 refine En Tryz.func250 fun _ _ _=>?_
 refine Ce rfl (Xk3 hx hp) ?_
 exact R1 rfl (.bp (by simp [Xaw]))
theorem Xfn {l : List Rat} {p n : Nat} (hx : Ps p l) (hp : p≤8796093022208) (hl : l.length≤1099511627776) (hn : l.length=n) : C0 203 [.d (dqs l),.d (.int .i64 n)] (·=.b true):=by
 refine En Tryz.func203 fun _ _ _=>?_
 refine Yes rfl (by simp only [lq,hn]) ?_
 refine Ce rfl (Xdz (φ:=fun _=>False) (fun x hx'=>Xm1 (hx x hx') hp) hl) ?_
 exact R1 rfl (by exact (show (!dc (∃ x∈l,False))=true by rw [Xb9,Xaw];simp) ▸ .rf rfl)
theorem Xb1 {k : Nat} (hk : k≤40) : arB .shl .i64 1 k (2 ^ k : Nat):=by
 have h1 : 2 ^ k≤2 ^ 40:=W0h (by decide) hk
 obtain ⟨m,hm⟩ : ∃ m,m=2 ^ k:=⟨_,rfl⟩
 rw [←hm] at h1 ⊢
 refine ⟨by omega,?_⟩
 rw [W7f,W1q (by show k≤64;omega),show (1 : Int)*2 ^ k=(m : Int) by rw [hm,W7o];simp]
 exact wI (by omega)
def Pt (p : Nat) (t : List (List Rat)) : Prop:=∀ i r,t[i]?=some r→r.length=2 ^ i∧Ps p r
theorem Ybo {k m : Nat} (h : k≤m) : 2 ^ k≤2 ^ m:=W0h (by decide) h
theorem Xfw {t : List (List Rat)} {p : Nat} (ht : Pt p t) (hp : p≤8796093022208) (hl : t.length≤40) : C0 168 [.d (dts t)] (·=.b true):=by
 refine En Tryz.func168 fun _ _ _=>?_
 refine Lo (fun k : Nat=>[(0,.d (dts t)),(5,.d (dts t)),(6,.d (.int .i64 t.length)),(7,.d (.int .i64 k))]) (fun _=>[]) (fun k=>k≤t.length) (fun k=>t.length - k) 0 [] rfl (by omega) (fun k hk=>?_) (by exact ⟨by simp only [lt'];rfl,rfl,rfl,rfl,rfl⟩)
 refine By rfl (fun h=>?_) fun h=>?_
 · obtain ⟨r,hr⟩ : ∃ r,t[k]?=some r:=⟨_,W0d (by omega)⟩
   obtain ⟨h1,h2⟩:=ht k r hr
   have:=Ybo (show k≤40 by omega)
   refine Ix k rfl (mp hr) ?_
   refine Ar (2 ^ k : Nat) rfl ?_ (Xb1 (by omega))
   refine Ce rfl (Xfn h2 hp (by omega) h1) ?_
   refine No rfl (by simp) ?_
   refine Ar (k+1 : Nat) rfl ?_
   exact Bk (k+1) [] rfl (show k+1≤t.length by omega) (by show t.length - (k+1)<t.length - k;omega)
 · exact R0
theorem Xh9 {t : List (List Rat)} {l : List Rat} {p q : Nat} (ht : Pt p t) (hp : p≤8796093022208) (hx : Ps q l) (hq : q≤8796093022208) (hl : t.length≤39) (hn : l.length=2 ^ t.length) : C0 159 [.d (dts t),.d (dqs l)] (·=.b true):=by
 have:=Ybo (show t.length≤39 by omega)
 refine En Tryz.func159 fun _ _ _=>?_
 refine Ce rfl (Xfw ht hp (by omega)) ?_
 refine Yes rfl rfl ?_
 refine Ar (2 ^ t.length : Nat) rfl ?_ (by simp only [lt'];exact Xb1 (by omega))
 refine Ce rfl (Xfn hx hq (by omega) hn) ?_
 exact R0
theorem Xqd {t : List (List Rat)} {l m : List Rat} {p q r : Nat} (ht : Pt p t) (hp : p≤8796093022208) (hx : Ps q l) (hq : q≤8796093022208) (hy : Ps r m) (hr : r≤8796093022208) (hl : t.length≤39) (hn : l.length=2 ^ t.length) (hm : m.length=2 ^ t.length) : C0 149 [.d (dts t),.d (dqs l),.d (dqs m)] (·=.b true):=by
 have:=Ybo (show t.length≤39 by omega)
 refine En Tryz.func149 fun _ _ _=>?_
 refine Ce rfl (Xh9 ht hp hx hq hl hn) ?_
 refine Yes rfl rfl ?_
 refine Ar (2 ^ t.length : Nat) rfl ?_ (by simp only [lt'];exact Xb1 (by omega))
 refine Ce rfl (Xfn hy hr (by omega) hm) ?_
 exact R0
theorem Xn1 {n : Nat} (hn : n≤1073741824) : CA0 170 [.d (.int .i64 n)] 4 ((List.replicate n (0 : Rat)).map dq):=by
 obtain ⟨xs,hxs⟩ : ∃ xs,xs=(List.replicate n (0 : Rat)).map dq:=⟨_,rfl⟩
 have hlen : xs.length=n:=by rw [hxs];simp
 rw [←hxs]
 refine EnW Tryz.func170 fun _ _ _ _=>?_
 refine Mk n rfl (by omega) ?_
 refine Lo (fun k : Nat=>[(3,.own 6 4 0 n),(8,.d (.int .i64 n)),(9,.d (.int .i64 k))]) (fun k=>[(6,.arr 4 (fl xs rz k))]) (fun k=>k≤n) (fun k=>n - k) 0 [] rfl (by omega) (fun k hk=>?_) (by exact ⟨rfl,by rw [←Xj5 hlen];rfl,rfl,rfl,rfl⟩)
 refine By rfl (fun h=>?_) fun h=>?_
 · refine Ce rfl (Xb2 (z:=0) (by decide)) ?_
   refine Eo k rfl (by omega) ?_
   refine Sto rfl (by rw [Xlh (by omega)];omega) (Xpr (u:=dq 0) (by rw [hxs,W1s,W4t,if_pos (by omega)];rfl)) ?_
   refine Ar (k+1 : Nat) rfl ?_
   exact Bk (k+1) [] rfl (show k+1≤n by omega) (by show n - (k+1)<n - k;omega)
 · exact Rw [(6,1000000)] [(1000000,.arr 4 xs)] rfl (.one (.rf rfl) rfl rfl) ⟨_,rfl,by rw [hlen];rfl,rfl⟩ (by rw [Xps (by omega)];rfl)
end
section
theorem Xmj {xs ys : List Rat} {p q : Nat} (hl : xs.length=ys.length) (hn : xs.length≤1073741824) (hx : Ps p xs) (hy : Ps q ys) (hp : p+q+1≤8796093022208) : CA0 158 [.d (dqs xs),.d (dqs ys)] 4 ((List.zipWith (·+·) xs ys).map dq):=by
 obtain ⟨zs,hzs⟩ : ∃ zs,zs=(List.zipWith (·+·) xs ys).map dq:=⟨_,rfl⟩
 have hlen : zs.length=xs.length:=by rw [hzs];simp;omega
 rw [←hzs]
 refine EnW Tryz.func158 fun _ _ _ _=>?_
 refine Mk xs.length rfl (by simp only [lq];omega) ?_ (by simp only [lq])
 refine Lo (fun k : Nat=>[(0,.d (dqs xs)),(1,.d (dqs ys)),(5,.own 9 4 0 xs.length),(11,.d (.int .i64 xs.length)),(12,.d (.int .i64 k))]) (fun k=>[(9,.arr 4 (fl zs rz k))]) (fun k=>k≤xs.length) (fun k=>xs.length - k) 0 [] rfl (by omega) (fun k hk=>?_) (by exact ⟨rfl,by rw [←Xj5 hlen];rfl,rfl,rfl,rfl⟩)
 refine By rfl (fun h=>?_) fun h=>?_
 · obtain ⟨x,hx'⟩:=qat (l:=xs) (k:=k) (by omega)
   obtain ⟨y,hy'⟩:=qat (l:=ys) (k:=k) (by omega)
   refine Dw rfl ?_
   refine Ix k rfl (mp hx') ?_
   refine Ix k rfl (mp hy') ?_
   refine Ce rfl (Xdf (hx x (W0l hx')) (hy y (W0l hy')) hp) ?_
   refine Eo k rfl (by omega) ?_
   refine Sto rfl (by rw [Xlh (by omega)];omega) (Xpr (u:=dq (x+y)) (by rw [hzs,W1s,W5s,hx',hy'];rfl)) ?_
   refine Ar (k+1 : Nat) rfl ?_
   exact Bk (k+1) [] rfl (show k+1≤xs.length by omega) (by show xs.length - (k+1)<xs.length - k;omega)
 · exact Rw [(9,1000000)] [(1000000,.arr 4 zs)] rfl (.one (.rf rfl) rfl rfl) ⟨_,rfl,by rw [hlen];rfl,rfl⟩ (by rw [Xps (by omega)];rfl)
theorem Yas {xs : List Rat} {p : Nat} (hn : xs.length≤1073741824) (hx : Ps p xs) (hp : p≤8796093022208) : CA0 167 [.d (dqs xs)] 4 ((xs.map (- ·)).map dq):=by
 obtain ⟨zs,hzs⟩ : ∃ zs,zs=(xs.map (- ·)).map dq:=⟨_,rfl⟩
 have hlen : zs.length=xs.length:=by rw [hzs];simp
 rw [←hzs]
 refine EnW Tryz.func167 fun _ _ _ _=>?_
 refine Mk xs.length rfl (by simp only [lq];omega) ?_ (by simp only [lq])
 refine Lo (fun k : Nat=>[(3,.own 8 4 0 xs.length),(9,.d (dqs xs)),(10,.d (.int .i64 xs.length)),(11,.d (.int .i64 k))]) (fun k=>[(8,.arr 4 (fl zs rz k))]) (fun k=>k≤xs.length) (fun k=>xs.length - k) 0 [] rfl (by omega) (fun k hk=>?_) (by exact ⟨by simp only [lq];rfl,by rw [←Xj5 hlen];rfl,rfl,rfl,rfl⟩)
 refine By rfl (fun h=>?_) fun h=>?_
 · obtain ⟨x,hx'⟩:=qat (l:=xs) (k:=k) (by omega)
   refine Ix k rfl (mp hx') ?_
   refine Ce rfl (Xjm (hx x (W0l hx')) hp) ?_
   refine Eo k rfl (by omega) ?_
   refine Sto rfl (by rw [Xlh (by omega)];omega) (Xpr (u:=dq (-x)) (by rw [hzs,W1s,W1s,hx'];rfl)) ?_
   refine Ar (k+1 : Nat) rfl ?_
   exact Bk (k+1) [] rfl (show k+1≤xs.length by omega) (by show xs.length - (k+1)<xs.length - k;omega)
 · exact Rw [(8,1000000)] [(1000000,.arr 4 zs)] rfl (.one (.rf rfl) rfl rfl) ⟨_,rfl,by rw [hlen];rfl,rfl⟩ (by rw [Xps (by omega)];rfl)
theorem Yh8 {m h : Nat} (e : m=2*h) (hh : h≤1073741824) : arB .quo .i64 m 2 h:=show _∧_ from ⟨by decide,by rw [show Int.tdiv (m : Int) 2=((m / 2 : Nat) : Int) from rfl,show m / 2=h by omega];exact wI (by omega)⟩
theorem Xld {l m : List Rat} (h : l.length=m.length) (hl : l.length≤1073741824) : C0 207 [.d (dqs (l++m))] (·=.tup (.pr (.d (dqs l)) (.d (dqs m)))):=by
 have e : ((l++m).map dq).length=2*l.length:=by rw [lq,W0c];omega
 refine En Tryz.func207 fun _ _ _=>?_
 refine Dw rfl ?_
 refine Ar l.length rfl ?_ (Yh8 e hl)
 refine Tk l.length (l.map dq) rfl rfl (by omega) (by rw [←W2g,W7d]) ?_
 refine Ar l.length rfl ?_ (Yh8 e hl)
 refine Dp l.length (m.map dq) rfl rfl (by omega) (by rw [←W5u,W7u]) ?_
 exact R0t
theorem Xwc {t : List (List Rat)} {r : List Rat} (hl : t.length≤1073741824) : C0 206 [.d (dts (t++[r]))] (·=.tup (.pr (.d (dts t)) (.d (dqs r)))):=by
 have e : ((t++[r]).map dqs).length=t.length+1:=by rw [lt',W0c];rfl
 refine En Tryz.func206 fun _ _ _=>?_
 refine Dw rfl ?_
 refine Ar t.length rfl ?_ (wr (by omega) (by simp only [inK];omega))
 refine Tk t.length (t.map dqs) rfl rfl (by omega) (by rw [←W2g,W7d]) ?_
 refine Ar t.length rfl ?_ (wr (by omega) (by simp only [inK];omega))
 refine Ix t.length rfl (u:=dqs r) (mp (by simp)) ?_
 exact R0t
end
section
abbrev de {k : Nat} (a : El k) : D:=dqs (toL k a)
abbrev dt {k : Nat} (t : Tw k) : D:=dts (toT k t)
theorem _root_.Go.Proofs.YtclmecgphleeeaaGreatDoor.Sz.ps {p : Nat} {l : List Rat} (h : Sz p l) : Ps p l:=fun _ hx=>h.qs hx
theorem Xq9 {k : Nat} {t : Tw k} {a b : El k} (h : (∀ x∈toL k a,x=0)∨(∀ x∈toL k b,x=0)) : toL k (mul k t a b)=List.replicate (2 ^ k) 0:=by
 have L:=Xa3 k t
 rcases h with h | h
 · rw [(Xap k a).2 h,L.zm,Xbn]
 · rw [(Xap k b).2 h,L.mz,Xbn]
theorem p16 {k : Nat} (h : k≤16) : 2 ^ k≤65536:=Ybo h
def Ymq (k : Nat) (xs : List D) (v : AV) (H' : Hpl) : Prop:=(k=0∧v=.lit 4 xs∧H'=[])∨(v=.own 1000000 4 0 xs.length∧H'=[(1000000,.arr 4 xs)])
theorem Xv5 : ∀ {k : Nat} {r s s' : Nat} {t : Tw k} {a b : El k},TS r k t→Sz s (toL k a)→Sz s' (toL k b)→k≤16→s+s'+cB r k≤4398046511104→CW0 150 [.d (dt t),.d (de a),.d (de b)] [] (Ymq k ((toL k (mul k t a b)).map dq)):=by
 intro k
 induction k with
 | zero =>
  intro r s s' t a b hT ha hb hk hs
  refine EnW Tryz.func150 fun _ _ _ _=>?_
  refine Yes rfl rfl ?_
  refine Dw rfl ?_
  refine Ix 0 rfl (u:=dq a) rfl ?_
  refine Ix 0 rfl (u:=dq b) rfl ?_
  refine Ce rfl (Xg4 (ha.qs (W0g.2 rfl)) (hb.qs (W0g.2 rfl)) (by omega)) ?_
  exact Rw [] [] rfl (.one (.rf rfl) rfl rfl) (.inl ⟨rfl,rfl,rfl⟩)
 | succ k ih =>
  intro r s s' t a b hT ha hb hk hs
  have hp:=p16 hk
  have hp1 : 2 ^ (k+1)=2*2 ^ k:=by rw [W0p];omega
  have hcB : cB r (k+1)=2*cB r k+r+1:=rfl
  have hax : Sz s (toL k a.1):=Sz.left ha
  have hay : Sz s (toL k a.2):=Sz.right ha
  have hbx : Sz s' (toL k b.1):=Sz.left hb
  have hby : Sz s' (toL k b.2):=Sz.right hb
  have hlen:=Xab k
  have ihd : ∀ {p q : Nat} {x y : El k},Sz p (toL k x)→Sz q (toL k y)→p+q+cB r k≤4398046511104→C0 150 [.d (dt t.1),.d (de x),.d (de y)] (·=.d (de (mul k t.1 x y))):=fun hx hy h =>
   CW.data (ih hT.1 hx hy (by omega) h) rfl fun v H' hv=>by
    rcases hv with ⟨_,rfl,rfl⟩ | ⟨rfl,rfl⟩
    · exact ⟨_,.one (.lit rfl) rfl rfl,rfl⟩
    · exact ⟨_,.one (.own rfl (by simp) (by rw [W1f,W2r])) rfl rfl,rfl⟩
  refine EnW Tryz.func150 fun _ _ _ _=>?_
  refine No rfl (by simp only [lt',Xaa];omega) ?_
  refine Cu (some 3) (fun (b' : Bool)=>[(0,.d (dt t)),(1,.d (de a)),(2,.d (de b)),(26,.b b')]) (fun _=>[]) (fun b'=>b'=true→(∀ x∈toL (k+1) a,x=0)∨(∀ x∈toL (k+1) b,x=0)) rfl ?_ fun b' hb'=>?_
  · refine Ce rfl (Xjb ha.ps (by omega) (by rw [Xab];omega)) ?_
    refine By rfl (fun h=>?_) fun h=>?_
    · exact Jn true [] rfl fun _=>.inl h
    · refine Ce rfl (Xjb hb.ps (by omega) (by rw [Xab];omega)) ?_
      exact Jn (dc _) [] rfl fun e=>.inr (Xaw.1 e)
  refine By rfl (fun h=>?_) fun h=>?_
  · have hz:=Xq9 (t:=t) (hb' h)
    refine Cr (sz:=4) (xs:=(List.replicate (2 ^ (k+1)) (0 : Rat)).map dq) rfl (by
     simp only [lq,Xab]
     exact Xn1 (by omega)) ?_
    exact Rw [(35,1000000)] [(1000000,.arr 4 _)] rfl (.one (.rf rfl) rfl rfl) (.inr ⟨by rw [hz];rfl,by rw [hz]⟩)
  refine Ce rfl (Xwc (t:=toT k t.1) (r:=toL k t.2) (by rw [Xaa];omega)) ?_
  refine Ce rfl (Xld (l:=toL k a.1) (m:=toL k a.2) (by rw [hlen,hlen]) (by rw [hlen];omega)) ?_
  refine Ce rfl (Xld (l:=toL k b.1) (m:=toL k b.2) (by rw [hlen,hlen]) (by rw [hlen];omega)) ?_
  refine Ce rfl (ihd hax hbx (by omega)) ?_
  refine Ce rfl (ihd hay hby (by omega)) ?_
  refine Ce rfl (ihd (hay.mul hT.1 hby) hT.2 (by omega)) ?_
  refine Cr rfl (Xmj (by rw [hlen,hlen]) (by rw [hlen];omega) (hax.mul hT.1 hbx).ps ((hay.mul hT.1 hby).mul hT.1 hT.2).ps (by omega)) ?_
  refine Ce rfl (ihd hax hby (by omega)) ?_
  refine Ce rfl (ihd hay hbx (by omega)) ?_
  refine Ce rfl (CA.data (Xmj (by rw [hlen,hlen]) (by rw [hlen];omega) (hax.mul hT.1 hby).ps (hay.mul hT.1 hbx).ps (by omega))) ?_
  refine ApO ((toL (k+1) (mul (k+1) t a b)).map dq) rfl rfl rfl (by
   rw [←W2z,←Xaz,←Xaz];rfl) (by rw [lq,Xab];omega) ?_
  exact Rw [(73,1000000)] [(1000000,.arr 4 _)] rfl (.one (.rf rfl) rfl rfl) (.inr ⟨rfl,rfl⟩)
end
section
theorem Yau {k : Nat} {r s s' : Nat} {t : Tw k} {a b : Tow.El k} (hT : TS r k t) (ha : Sz s (toL k a)) (hb : Sz s' (toL k b)) (hk : k≤16) (hs : s+s'+cB r k≤4398046511104) : C0 150 [.d (dt t),.d (de a),.d (de b)] (·=.d (de (mul k t a b))) :=
 CW.data (Xv5 hT ha hb hk hs) rfl fun v H' hv=>by
  rcases hv with ⟨_,rfl,rfl⟩ | ⟨rfl,rfl⟩
  · exact ⟨_,.one (.lit rfl) rfl rfl,rfl⟩
  · exact ⟨_,.one (.own rfl (by simp) (by rw [W1f,W2r])) rfl rfl,rfl⟩
theorem Xrr {k p q : Nat} {a b : Tow.El k} (hk : k≤16) (ha : Ps p (toL k a)) (hb : Ps q (toL k b)) (hp : p+q+1≤8796093022208) : C0 158 [.d (de a),.d (de b)] (·=.d (de (Tow.add k a b))):=by
 have:=CA.data (Xmj (by rw [Xab,Xab]) (by rw [Xab];have:=p16 hk;omega) ha hb hp)
 rwa [←Xaz] at this
theorem Yat {k p : Nat} {a : Tow.El k} (hk : k≤16) (ha : Ps p (toL k a)) (hp : p≤8796093022208) : C0 167 [.d (de a)] (·=.d (de (Tow.neg k a))):=by
 have:=CA.data (Yas (by rw [Xab];have:=p16 hk;omega) ha hp)
 rwa [←Xb0] at this
theorem Xk7 {k p : Nat} {a : Tow.El k} (h : Sz p (toL k a)) : Sz p (toL k (Tow.neg k a)):=by rw [Xb0];exact h.neg
theorem Ycf {r k p q : Nat} (h : iB r (k+1) p≤q) : nB r k p≤q∧p+iB r k (nB r k p)+cB r k≤q:=by
 have h1:=Ygh r k (nB r k p)
 have h2 : iB r (k+1) p=2*(p+iB r k (nB r k p)+cB r k):=rfl
 omega
theorem Ymf (x : Rat) : Tow.inv 0 () x=if x=0 then none else some (1 / x : Rat):=rfl
end
section
theorem Xmh : ∀ {k : Nat} {t : Tw k} {r : Nat},TS r k t→∀ {i : Nat} {l : List Rat},(toT k t)[i]?=some l→l.length=2 ^ i∧Sz r l
 | 0,_,_,_,_,_,h=>by simp [toT] at h
 | k+1,t,r,hT,i,l,h=>by
  by_cases hi : i<k
  · rw [toT,W0x (by rw [Xaa];exact hi)] at h
    exact Xmh hT.1 h
  · have:=(W1a.1 h).1
    rw [Xaa] at this
    have hik : i=k:=by omega
    subst hik
    rw [toT,W0u (by rw [Xaa];exact W0a _),Xaa,W2w] at h
    simp at h
    rw [←h]
    exact ⟨Xab _ _,hT.2⟩
theorem TS.pt {k r : Nat} {t : Tw k} (h : TS r k t) : Pt r (toT k t):=fun i l hl=>⟨(Xmh h hl).1,(Xmh h hl).2.ps⟩
theorem Ydx {k : Nat} (t : Tw k) (a : Tow.El k) : (toL k a).length=2 ^ (toT k t).length:=by rw [Xab,Xaa]
section
variable {k r s s' : Nat} {t : Tw k} {a b : Tow.El k}
theorem Xia (hT : TS r k t) (ha : Sz s (toL k a)) (hk : k≤16) (hs : s≤4398046511104) (hr : r≤4398046511104) : C0 159 [.d (dt t),.d (de a)] (·=.b true):=Xh9 (TS.pt hT) (by omega) ha.ps (by omega) (by rw [Xaa];omega) (Ydx t a)
theorem Xfh (hT : TS r k t) (ha : Sz s (toL k a)) (hb : Sz s' (toL k b)) (hk : k≤16) (hs : s+s'≤4398046511104) (hr : r≤4398046511104) : C0 149 [.d (dt t),.d (de a),.d (de b)] (·=.b true):=Xqd (TS.pt hT) (by omega) ha.ps (by omega) hb.ps (by omega) (by rw [Xaa];omega) (Ydx t a) (Ydx t b)
theorem Yax (hT : TS r k t) (ha : Sz s (toL k a)) (hb : Sz s' (toL k b)) (hk : k≤16) (hs : s+s'≤4398046511104) (hr : r≤4398046511104) : C0 102 [.d (dt t),.d (de a),.d (de b)] (·=.d (de (Tow.add k a b))):=by
 refine En Tryz.func102 fun _ _ _=>?_
 refine Ce rfl (Xfh hT ha hb hk hs hr) ?_
 refine No rfl (by simp) ?_
 refine Ce rfl (Xrr hk ha.ps hb.ps (by omega)) ?_
 exact R0
theorem Xjc (hT : TS r k t) (ha : Sz s (toL k a)) (hb : Sz s' (toL k b)) (hk : k≤16) (hs : s+s'≤4398046511104) (hr : r≤4398046511104) : C0 107 [.d (dt t),.d (de a),.d (de b)] (·=.d (de (Tow.add k a (Tow.neg k b)))):=by
 refine En Tryz.func107 fun _ _ _=>?_
 refine Ce rfl (Xfh hT ha hb hk hs hr) ?_
 refine No rfl (by simp) ?_
 refine Ce rfl (Yat hk hb.ps (by omega)) ?_
 refine Ce rfl (Xrr hk ha.ps (Xk7 hb).ps (by omega)) ?_
 exact R0
theorem Xjd (hT : TS r k t) (ha : Sz s (toL k a)) (hb : Sz s' (toL k b)) (hk : k≤16) (hs : s+s'+cB r k≤4398046511104) (hr : r≤4398046511104) : C0 92 [.d (dt t),.d (de a),.d (de b)] (·=.d (de (mul k t a b))):=by
 refine En Tryz.func92 fun _ _ _=>?_
 refine Ce rfl (Xfh hT ha hb hk (by omega) hr) ?_
 refine No rfl (by simp) ?_
 refine Ce rfl (Yau hT ha hb hk hs) ?_
 exact R0
theorem Xgv {x : Rat} {p : Nat} (hT : TS r k t) (hk : k≤16) (hr : r≤4398046511104) (hx : Qs p x) (hp : p≤4398046511104) : C0 108 [.d (dt t),.d (dq x)] (·=.d (de (rat k x))):=by
 have hpk:=p16 hk
 have h0:=W0t k
 refine En Tryz.func108 fun _ _ _=>?_
 refine Ce rfl (Xfw (TS.pt hT) (by omega) (by rw [Xaa];omega)) ?_
 refine No rfl (by simp) ?_
 refine Ce rfl (Xk3 hx (by omega)) ?_
 refine No rfl (by simp) ?_
 refine Ar (2 ^ k : Nat) rfl ?_ (by simp only [lt',Xaa];exact Xb1 (by omega))
 refine Cr rfl (Xn1 (n:=2 ^ k) (by omega)) ?_
 refine Eo 0 rfl (by simp only [lq,W1y];omega) ?_
 refine Sto rfl (by simp only [lq,W1y];omega) (ms (f:=dq) (u:=x)) ?_
 refine R1 rfl (.own rfl (by simp) ?_)
 rw [W1f,Xce]
 rw [W0b (by simp),show 2 ^ k=2 ^ k - 1+1 by omega,W4m,List.set_cons_zero]
 rfl
end
end
end Go.Proofs.YtclmecgphleeeaaGreatDoor
namespace Go.Proofs.YtclmecgphleeeaaGreatDoor.R6
open Go Go.Vm Go.Num Go.Tow Go.Proofs.YtclmecgphleeeaaGreatDoor
theorem Xor {l : List Rat} {p n : Nat} (hx : Ps p l) (hp : p≤8796093022208) (hl : l.length≤1099511627776) (hn : l.length=n) : C0 182 [.d (dqs l),.d (.int .i64 n)] (·=.b true):=by
 refine En Tryz.func182 fun _ _ _=>?_
 refine Lo (fun k : Nat=>[(0,.d (dqs l)),(1,.d (.int .i64 n)),(5,.d (.int .i64 k))]) (fun _=>[]) (fun k=>k≤l.length) (fun k=>l.length - k) 0 [] rfl (by omega) (fun k hk=>?_)
 refine By rfl (fun h=>?_) fun h=>?_ <;> simp only [lq] at h
 · obtain ⟨x,hx'⟩:=qat (l:=l) (k:=k) (by omega)
   refine Ix k rfl (mp hx') ?_
   refine Ce rfl (R2.Valid_ok (hx x (W0l hx')) hp) ?_
   refine No rfl (by simp) ?_
   refine Ar (k+1 : Nat) rfl ?_
   exact Bk (k+1) [] rfl (show k+1≤l.length by omega) (by show l.length - (k+1)<l.length - k;omega)
 · exact R1 rfl (by exact (show dc (((l.map dq).length : Int)=n)=true by rw [Xaw,lq,hn]) ▸ .rf rfl)
theorem Tower_ok {t : List (List Rat)} {p : Nat} (ht : Pt p t) (hp : p≤8796093022208) (hl : t.length≤40) : C0 181 [.d (dts t)] (·=.b true):=by
 refine En Tryz.func181 fun _ _ _=>?_
 refine Lo (fun k : Nat=>[(0,.d (dts t)),(3,.d (.int .i64 k))]) (fun _=>[]) (fun k=>k≤t.length) (fun k=>t.length - k) 0 [] rfl (by omega) (fun k hk=>?_)
 refine By rfl (fun h=>?_) fun h=>?_ <;> simp only [lt'] at h
 · obtain ⟨r,hr⟩ : ∃ r,t[k]?=some r:=⟨_,W0d (by omega)⟩
   obtain ⟨h1,h2⟩:=ht k r hr
   have:=Ybo (show k≤40 by omega)
   refine Dw rfl ?_
   refine Ix k rfl (mp hr) ?_
   refine Ar (2 ^ k : Nat) rfl ?_ (Xb1 (by omega))
   refine Ce rfl (Xor h2 hp (by omega) h1) ?_
   refine No rfl (by simp) ?_
   refine Ar (k+1 : Nat) rfl ?_
   exact Bk (k+1) [] rfl (show k+1≤t.length by omega) (by show t.length - (k+1)<t.length - k;omega)
 · exact R0
theorem Formed_ok {t : List (List Rat)} {l : List Rat} {p q : Nat} (ht : Pt p t) (hp : p≤8796093022208) (hx : Ps q l) (hq : q≤8796093022208) (hl : t.length≤39) (hn : l.length=2 ^ t.length) : C0 127 [.d (dts t),.d (dqs l)] (·=.b true):=by
 have:=Ybo (show t.length≤39 by omega)
 refine En Tryz.func127 fun _ _ _=>?_
 refine Ce rfl (Tower_ok ht hp (by omega)) ?_
 refine Yes rfl rfl ?_
 refine Ar (2 ^ t.length : Nat) rfl ?_ (by simp only [lt'];exact Xb1 (by omega))
 refine Ce rfl (Xor hx hq (by omega) hn) ?_
 exact R0
theorem Zero_ok {l : List Rat} (hl : l.length≤1099511627776) : C0 121 [.d (dqs l)] (·=.b (dc (∀ x∈l,x=0))):=by
 refine En Tryz.func121 fun _ _ _=>?_
 refine Lo (fun k : Nat=>[(0,.d (dqs l)),(3,.d (.int .i64 k))]) (fun _=>[]) (fun k=>k≤l.length∧∀ x∈l.take k,x=0) (fun k=>l.length - k) 0 [] rfl ⟨by omega,by simp⟩ (fun k ⟨hk,hz⟩=>?_)
 refine By rfl (fun h=>?_) fun h=>?_ <;> simp only [lq] at h
 · obtain ⟨x,hx⟩:=qat (l:=l) (k:=k) (by omega)
   refine Ix k rfl (mp hx) ?_
   refine By rfl (fun h1=>?_) fun h1=>?_
   · exact R1 rfl (.bp ⟨nofun,fun e=>by
      rw [e x (W0l hx),lw] at h1
      simp [Xaj] at h1⟩)
   · refine Ar (k+1 : Nat) rfl ?_
     refine Bk (k+1) [] rfl ⟨by omega,fun y hy=>?_⟩ (by show l.length - (k+1)<l.length - k;omega)
     rw [W2b,hx] at hy
     rcases W2v.1 hy with hy | hy
     · exact hz y hy
     · simp at hy;rw [hy];exact R2.zero_of (by omega)
 · rw [W0b (by omega)] at hz
   exact R1 rfl (.bp ⟨fun _=>hz,fun _=>rfl⟩)
theorem Neg_ok {T : List (List Rat)} {xs : List Rat} {p : Nat} (hn : xs.length≤1073741824) (hx : Ps p xs) (hp : p≤8796093022208) : CG0 62 [.d (dts T),.d (dqs xs)] 4 ((xs.map (- ·)).map dq):=by
 refine EnW Tryz.func62 fun _ _ _ _=>?_
 refine Nl 5 5 4 rfl ?_
 refine Lo (fun k : Nat=>[(1,.d (dqs xs)),(5,.gr 5 4 (((xs.take k).map (- ·)).map dq)),(6,.d (.int .i64 k))]) (fun k=>[(5,.tok (((xs.take k).map (- ·)).map dq).length 4)]) (fun k=>k≤xs.length) (fun k=>xs.length - k) 0 [] rfl (by omega) (fun k hk=>?_)
 refine By rfl (fun h=>?_) fun h=>?_ <;> simp only [lq] at h
 · obtain ⟨x,hx'⟩:=qat (l:=xs) (k:=k) (by omega)
   refine Ix k rfl (mp hx') ?_
   refine Ce rfl (R2.Neg_ok (hx x (W0l hx')) hp) ?_
   refine ApG (((xs.take (k+1)).map (- ·)).map dq) rfl (by rw [W2b,hx'];simp) (by simp;omega) ?_
   refine Ar (k+1 : Nat) rfl ?_
   exact Bk (k+1) [(20,5)] rfl (show k+1≤xs.length by omega) (by show xs.length - (k+1)<xs.length - k;omega)
 · exact Rw [(5,1000000)] [(1000000,.tok ((xs.map (- ·)).map dq).length 4)] rfl (.one (.rf rfl) rfl rfl) ⟨_,rfl,by rw [W0b (by omega)];rfl,rfl⟩ (by rw [W0b (by omega)];rfl)
theorem Neg_el {T : List (List Rat)} {k p : Nat} {a : Tow.El k} (hk : k≤16) (ha : Ps p (toL k a)) (hp : p≤8796093022208) : C0 62 [.d (dts T),.d (de a)] (·=.d (de (Tow.neg k a))):=by
 have:=CG.data (Neg_ok (T:=T) (by rw [Xab];have:=p16 hk;omega) ha hp)
 rwa [←Xb0] at this
theorem Add_ok {T : List (List Rat)} {xs ys : List Rat} {p q : Nat} (hl : xs.length=ys.length) (hn : xs.length≤1073741824) (hx : Ps p xs) (hy : Ps q ys) (hp : p+q+1≤8796093022208) : CG0 59 [.d (dts T),.d (dqs xs),.d (dqs ys)] 4 ((List.zipWith (·+·) xs ys).map dq):=by
 have hz : (List.zipWith (·+·) xs ys).length=xs.length:=by simp;omega
 refine EnW Tryz.func59 fun _ _ _ _=>?_
 refine Nl 7 7 4 rfl ?_
 refine Lo (fun k : Nat=>[(1,.d (dqs xs)),(2,.d (dqs ys)),(7,.gr 7 4 (((List.zipWith (·+·) xs ys).take k).map dq)),(8,.d (.int .i64 k))]) (fun k=>[(7,.tok (((List.zipWith (·+·) xs ys).take k).map dq).length 4)]) (fun k=>k≤xs.length) (fun k=>xs.length - k) 0 [] rfl (by omega) (fun k hk=>?_)
 refine By rfl (fun h=>?_) fun h=>?_ <;> simp only [lq] at h
 · obtain ⟨x,hx'⟩:=qat (l:=xs) (k:=k) (by omega)
   obtain ⟨y,hy'⟩:=qat (l:=ys) (k:=k) (by omega)
   refine Dw rfl ?_
   refine Ix k rfl (mp hx') ?_
   refine Ix k rfl (mp hy') ?_
   refine Ce rfl (R2.Add_ok (hx x (W0l hx')) (hy y (W0l hy')) hp) ?_
   refine ApG (((List.zipWith (·+·) xs ys).take (k+1)).map dq) rfl (by rw [W2b,W5s,hx',hy'];simp) (by simp;omega) ?_
   refine Ar (k+1 : Nat) rfl ?_
   exact Bk (k+1) [(26,7)] rfl (show k+1≤xs.length by omega) (by show xs.length - (k+1)<xs.length - k;omega)
 · exact Rw [(7,1000000)] [(1000000,.tok ((List.zipWith (·+·) xs ys).map dq).length 4)] rfl (.one (.rf rfl) rfl rfl) ⟨_,rfl,by rw [W0b (by omega)];rfl,rfl⟩ (by rw [W0b (by omega)];rfl)
theorem Add_el {T : List (List Rat)} {k p q : Nat} {a b : Tow.El k} (hk : k≤16) (ha : Ps p (toL k a)) (hb : Ps q (toL k b)) (hp : p+q+1≤8796093022208) : C0 59 [.d (dts T),.d (de a),.d (de b)] (·=.d (de (Tow.add k a b))):=by
 have:=CG.data (Add_ok (T:=T) (by rw [Xab,Xab]) (by rw [Xab];have:=p16 hk;omega) ha hb hp)
 rwa [←Xaz] at this
theorem Sub_el {T : List (List Rat)} {k p q : Nat} {a b : Tow.El k} (hk : k≤16) (ha : Ps p (toL k a)) (hb : Sz q (toL k b)) (hp : p+q+1≤8796093022208) : C0 178 [.d (dts T),.d (de a),.d (de b)] (·=.d (de (Tow.add k a (Tow.neg k b)))):=by
 refine En Tryz.func178 fun _ _ _=>?_
 refine Ce rfl (Neg_el hk hb.ps (by omega)) ?_
 refine Ce rfl (Add_el hk ha (Xk7 hb).ps hp) ?_
 exact R0
theorem Xhy {t : List (List Rat)} {x : Rat} (ht : t.length≤16) (h1 : 1≤t.length) : CA0 122 [.d (dts t),.d (dq x)] 4 ((x::List.replicate (2 ^ t.length - 1) 0).map dq):=by
 have hp:=p16 ht
 have h2 : 2 ^ 1≤2 ^ t.length:=Ybo h1
 obtain ⟨n,hn⟩ : ∃ n,n=2 ^ t.length:=⟨_,rfl⟩
 rw [←hn] at hp h2 ⊢
 refine EnW Tryz.func122 fun _ _ _ _=>?_
 refine Lo (fun k : Nat=>[(0,.d (dts t)),(3,.ptr 3 0),(5,match k with | 0=>.lit 4 [dq x] | k+1=>.own 5 4 0 (k+2))]) (fun k=>match k with | 0=>[(3,.var (.d (dq x)))] | k+1=>[(5,.arr 4 ((x::List.replicate (k+1) (0 : Rat)).map dq)),(3,.var (.d (dq x)))]) (fun k=>k+1≤n) (fun k=>n - k) 0 [] rfl (by omega) (fun k hk=>?_)
 cases k with
 | zero =>
  refine Ar n rfl ?_ (by rw [hn];simp only [lt'];exact Xb1 (by omega))
  refine Yes rfl (by simp only [W0s,W4n];omega) ?_
  refine Ce rfl (R2.FromInt_ok (z:=0) (by decide)) ?_
  refine ApL ((x::List.replicate 1 0).map dq) rfl rfl (by decide) (by simp) ?_
  exact Bk 1 [(17,5)] rfl (show 1+1≤n by omega) (by show n - 1<n - 0;omega)
 | succ k =>
  refine Ar n rfl ?_ (by rw [hn];simp only [lt'];exact Xb1 (by omega))
  refine By rfl (fun h=>?_) fun h=>?_
  · refine Ce rfl (R2.FromInt_ok (z:=0) (by decide)) ?_
    refine ApO ((x::List.replicate (k+1+1) 0).map dq) rfl rfl (by simp) (by rw [W5z (n:=k+1)];simp) (by simp;omega) ?_
    exact Bk (k+1+1) [(17,5)] rfl (show k+1+1+1≤n by omega) (by show n - (k+1+1)<n - (k+1);omega) (by exact ⟨by simp only [W0n,W0s,W1y];rfl,rfl,rfl,rfl,rfl⟩)
  · have e : n - 1=k+1:=by omega
    exact Rw [(5,1000000)] [(1000000,.arr 4 ((x::List.replicate (n - 1) (0 : Rat)).map dq))] rfl (.one (.rf rfl) rfl rfl) ⟨_,rfl,by rw [e];simp;rfl,rfl⟩ (by rw [e];rfl)
theorem Xnx {x : Rat} : C0 122 [.d (dts []),.d (dq x)] (·=.lit 4 [dq x]):=by
 refine En Tryz.func122 fun _ _ _=>?_
 refine Lo (fun _ : Unit=>[(0,.d (dts [])),(5,.lit 4 [dq x])]) (fun _=>[]) (fun _=>True) (fun _=>0) () [] rfl trivial fun _ _=>?_
 refine Ar (1 : Nat) rfl ?_ (Xb1 (k:=0) (by decide))
 refine No rfl (by simp only [W0s,W4n];omega) ?_
 exact R0
theorem _root_.Go.Vm.C.lit {P : Program} [Gb P] {f : FuncId} {vs0 : List AV} {sz : Nat} {xs : List D} (h : C P f vs0 (·=.lit sz xs)) : C P f vs0 (·=.d (.sl sz xs)):=⟨h.1,fun W vs hg ha=>(h.2 W vs hg ha).mono fun e w' ⟨W',v,u,h1,h2,h3,h4,h5,h6⟩=>⟨W',_,u,h1,h2,h3,Xgn (h6 ▸ h4),fun _ h=>h.elim,rfl⟩⟩
theorem FromRat_ok {t : List (List Rat)} {x : Rat} (ht : t.length≤16) : C0 122 [.d (dts t),.d (dq x)] (·=.d (dqs (x::List.replicate (2 ^ t.length - 1) 0))):=by
 cases t with
 | nil=>exact C.lit Xnx
 | cons r t=>exact CA.data (Xhy ht (by simp))
end Go.Proofs.YtclmecgphleeeaaGreatDoor.R6
namespace Go.Vm
open Go
def GW.pub (W : GW) (b m : Nat) : GW:=⟨W.w,fun b' i=>(b'=b→m≤i)∧W.A b' i,fun b' i k=>W.hA b' i k.2⟩
theorem Xss (W : GW) (b m : Nat) : LeF W (W.pub b m):=fun _ _ _ k=>⟨k.1,fun hA=>k.2 hA.2⟩
theorem Stp.pub {N : Nat→Prop} {W : GW} {θ : Loc} {g : Hp} (h : Obs W θ N g) {o b sz : Nat} {xs : List D} (ho : g o=some (.arr sz xs)) (hb : (θ o).1=some b) :
 Stp N W (W.pub b (xs.length*sz)) θ θ g (upd g o (.tok xs.length sz)) where
 os:=_root_.rfl
 out:=_root_.rfl
 tape:=_root_.rfl
 size:=W0a _
 same:=fun _ _ _=>_root_.rfl
 A:=fun b' _ hn i=>⟨fun k=>k.2,fun k=>⟨fun e=>by subst e;exact absurd (h.new o _ _ ho _root_.rfl hb) hn,k⟩⟩
 le:=Xss W b _
 th:=fun _ _ _=>_root_.rfl
 hi:=fun _ _=>_root_.rfl
 obs:={
  r:=fun o' z hz=>by
   rcases Xae hz with ⟨e1,e2⟩ | ⟨e1,e2⟩
   · subst e1;subst e2
     obtain ⟨b',cs,T',r1,r2,r3,r4,r5,r6,r7⟩:=h.r _ _ ho
     rw [hb] at r1;injection r1 with r1;subst r1
     exact ⟨r5,r4,.inr ⟨b,cs,T',hb,r2,r3,fun i hi=>⟨fun _=>hi,r7 i⟩⟩⟩
   · exact (h.r o' z e2).keep (Xss W b _) _root_.rfl (fun _ _=>_root_.rfl) fun hl b' hb'=>⟨_root_.rfl,fun i hA=>⟨fun e=>by
      subst e
      exact absurd (h.dis o' o z _ _ e2 ho hl _root_.rfl hb' hb) e1,hA⟩⟩
  new:=fun o' z b2 hz hl hb2=>by
   rcases Xae hz with ⟨e1,e2⟩ | ⟨e1,e2⟩
   · subst e1;exact h.new _ _ b2 ho _root_.rfl hb2
   · exact h.new o' z b2 e2 hl hb2
  dis:=fun o1 o2 y1 y2 b h1 h2 l1 l2 b1 b2=>by
   rcases Xae h1 with ⟨e1,f1⟩ | ⟨e1,f1⟩ <;> rcases Xae h2 with ⟨e2,f2⟩ | ⟨e2,f2⟩
   · rw [e1,e2]
   · subst e1;exact h.dis _ _ _ _ b ho f2 _root_.rfl l2 b1 b2
   · subst e2;exact h.dis _ _ _ _ b f1 ho l1 _root_.rfl b1 b2
   · exact h.dis o1 o2 y1 y2 b f1 f2 l1 l2 b1 b2
  ids:=fun o' z i hz hzi=>by
   have : ∃ w,g i=some w:=by
    rcases Xae hz with ⟨e1,e2⟩ | ⟨e1,e2⟩
    · subst e2;exact hzi.elim
    · exact h.ids o' z i e2 hzi
   obtain ⟨w,hw⟩:=this
   by_cases e : i=o
   · subst e;exact ⟨_,Xak _ _ _⟩
   · exact ⟨w,by rw [Xam e];exact hw⟩ }
 dom:=fun i y hy=>by
  by_cases e : i=o
  · subst e;exact ⟨_,Xak _ _ _⟩
  · exact ⟨y,by rw [Xam e];exact hy⟩
section
variable {c : Cx} {s : St}
noncomputable def Yk2 (tb : Nat→Option TI) (n t : Nat) (s : St) : Option (List Kt × Env × Hpl × Nat × Nat × Nat × List D):=match runN tb n 1000 s with
 | .j _ K E H=>match look E t with
  | some (.own o sz 0 n)=>match look H o with
   | some (.arr sz' xs)=>match Nat.beq sz sz' with
    | true=>some (K,E,H,o,sz,n,xs)
    | false=>none
   | _=>none
  | _=>none
 | _=>none
theorem Og (t : Nat) {K : List Kt} {E : Env} {H : Hpl} {o sz n : Nat} {xs : List D} (h : Yk2 c.tb c.n t s=some (K,E,H,o,sz,n,xs)) (hn : n=xs.length) (k : StP c (.j [] K ((t,.gr o sz xs)::E) ((o,.tok xs.length sz)::H))) : StP c s:=by
 unfold Yk2 at h
 split at h <;> try cases h
 rename_i hr
 split at h <;> try cases h
 rename_i he
 split at h <;> try cases h
 rename_i ho
 split at h <;> cases h
 rename_i hz
 have hz:=W0e hz
 subst hz;subst hn
 refine go 1000 hr ?_
 rintro a w ⟨s0,W,θ,hw,hs,hθ,rfl⟩
 obtain ⟨b,bs,T',r1,r2,r3,r4,r5,r6,r7⟩:=hs.obs.r _ _ ho
 have st:=Stp.pub hs.obs ho r1
 have h1:=hs.step0 st
 refine k a w ⟨_,W.pub b (xs.length*sz),θ,hw,?_,hθ,rfl⟩
 rw [show sem ((t,AV.gr o sz xs)::E) ((o,Ob.tok xs.length sz)::H)=(upd (look E) t (.gr o sz xs),upd (look H) o (.tok xs.length sz)) from by rw [Xa6,Xa6]]
 refine ⟨h1.fm,⟨h1.rel.defers,h1.rel.size,fun q v hq=>?_⟩,h1.obs,fun q v i hq hi=>?_⟩
 · rcases Xae hq with ⟨e1,e2⟩ | ⟨e1,e2⟩
   · subst e1;subst e2
     have hv:=hs.rel.has q _ he
     obtain ⟨b1,p,v1,v2,v3,e,v5⟩:=Xkj hv
     rw [r1] at v1;injection v1 with v1;subst v1
     rw [e]
     rw [W6x]
     refine Yck rfl rfl (.inr (by rw [v5 (.inl rfl),W4v,r1];rfl)) r5 r4 (.inr ⟨b,r1,?_⟩)
     have hlen : ∀ q u,(bs.take (xs.length*sz))[q]?=some u→q<xs.length*sz∧bs[q]?=some u:=fun q u hu=>by
      rw [W1c] at hu
      split at hu
      · exact ⟨by assumption,hu⟩
      · cases hu
     refine (AtL.mono (Xss W b _) (sz:=sz) (xs:=xs) (cs:=bs.take (xs.length*sz)) (AtL.ext r6 fun q v hq hv=>by rw [W1c,if_pos hq];exact hv)).row fun q u hq hu=>?_
     rw [W1i]
     exact ⟨show W.w.cell? _=_ by rw [Xa9 r2];exact (hlen q u hu).2,fun hA=>by have:=hA.1 rfl;omega⟩
   · exact h1.rel.has q v e2
 · rcases Xae hq with ⟨e1,e2⟩ | ⟨e1,e2⟩
   · subst e2
     have hi : i=o:=hi
     subst hi
     exact ⟨_,Xak _ _ _⟩
   · exact h1.ids q v i e2 hi
end
end Go.Vm

/- part 7 -/
import Derived.Test.YtnedfplmoojbaaaGreatDoorXF
import Derived.RangeFuncNested
import Derived.RangeFuncCalls
import Derived.Shelf.RegionOpen
set_option linter.unusedVariables false
set_option linter.unusedSimpArgs false
set_option maxRecDepth 10000
set_option maxHeartbeats 2000000
namespace Go.Proofs.YtnedfplmoojbaaaGreatDoor.P5
open Go Go.Vm Go.Num Go.Tow Go.Proofs.YtnedfplmoojbaaaGreatDoor Go.Proofs Go.Shelf Go.RowKit
section
def trm: List Rat->List Rat
 | []=>[]
 | x::l=>match trm l with
  | []=>if x=0 then [] else [x]
  | y::r=>x::y::r
theorem Yex: ∀l:List Rat,trm (l++[0])=trm l
 | []=>rfl
 | x::l=>by
  show (match trm (l++[0]) with | []=>if x=0 then [] else [x] | y::r=>x::y::r)=_
  rw[Yex l];rfl
theorem Yew{x:Rat}(h:x≠0): ∀l:List Rat,trm (l++[x])=l++[x]
 | []=>if_neg h
 | y::l=>by
  show (match trm (l++[x]) with | []=>if y=0 then [] else [y] | z::r=>y::z::r)=_
  rw[Yew h l]
  cases l<;>rfl
theorem Xx7: C0 141 [.d (dqs [])] (·=.d (dqs [])):=by
 refine En Tryz.func141 λ_ _ _=>?_
 refine Ub rfl (λh=>?_) ?_
 exact R1 rfl (.nil rfl)
 refine ApE rfl rfl (by decide) ?_
 exact R1 rfl (.lit rfl)
theorem Xx8{l:List Rat}(i:l.length<=1000): C0 141 [.d (dqs l)] (·=.d (dqs l)):=by
 by_cases h:l=[]
 subst h;exact Xx7
 exact Xhj (W6l.2 h) (by omega)
theorem Xil{l:List Rat}{n:Nat}{x:Rat}(h:l[n]?=some x): l.take (n+1)=l.take n++[x]:=by rw[W1w,h];rfl
theorem sgn0{x:Rat}: Xa9 x.num 0=0↔x=0:=by
 have h:x.num=0↔x=0:=W5g
 rw[<-h]
 rcases Xay x.num 0 with ⟨i,j⟩ | ⟨i,j⟩ | ⟨i,j⟩<;>omega
theorem Xc2{l:List Rat}{s:Nat}(I:l.length<=1000)(hq:∀x∈l,Qs s x)(M:s<=100000): C0 250 [.d (dqs l)] (·=.d (dqs (trm l))):=by
 refine En Tryz.func250 λ_ _ _=>?_
 refine Lo (λn:Nat=>[(0,.d (dqs l)),(3,.d (.int .i64 n))]) (λ_=>[]) (λn=>n<=l.length/\trm (l.take n)=trm l) (λn=>n) (l.map dq).length [] rfl ⟨by simp,by simp⟩ (λn ⟨O,i⟩=>?_)
 cases n with
 | zero =>
  refine No rfl (by decide)<|Tk 0 [] rfl rfl (W0r _) rfl ?_
  exact Ce rfl Xx7<|R1 rfl (.eq (by rw[<-i];rfl))
 | succ n =>
  obtain⟨x,j⟩:=qat (l:=l) (k:=n) (by omega)
  rw[Xil j] at i
  refine Yes rfl (by omega:((n+1:Nat):Int)>0)<|Ar (n:Nat) rfl ?_ (wr (by omega:((n+1:Nat):Int)-1=(n:Int)) (by simp only[inK];omega))
  refine Ix n rfl (mp j)<|Ce rfl (Xbv (hq x (W0h j)) (by omega))<|By rfl (λh=>?_) λh=>?_
  have h0:x=0:=sgn0.1 h
  subst h0
  rw[Yex] at i
  refine Ar (n:Nat) rfl ?_ (wr (by omega:((n+1:Nat):Int)-1=(n:Int)) (by simp only[inK];omega))
  exact Bk n [] rfl ⟨by omega,i⟩ (by show n<n+1;omega)
  have h0:x≠0:=λe=>h (sgn0.2 e)
  rw[Yew h0,<-Xil j] at i
  have o:(l.map dq).take (n+1)=(l.take (n+1)).map dq:=by rw[W2f]
  refine Tk (n+1) ((l.take (n+1)).map dq) rfl rfl (by simp;omega) o ?_
  exact Ce rfl (Xx8 (l:=l.take (n+1)) (by simp;omega))<|R1 rfl (.eq (by rw[i]))
theorem Yb2{l:List Rat}{s:Nat}(h0:trm l≠[])(I:l.length<=1000)(hq:∀x∈l,Qs s x)(M:s<=100000): CA0 250 [.d (dqs l)] 4 ((trm l).map dq):=by
 refine EnW Tryz.func250 λ_ _ _ _=>?_
 refine Lo (λn:Nat=>[(0,.d (dqs l)),(3,.d (.int .i64 n))]) (λ_=>[]) (λn=>n<=l.length/\trm (l.take n)=trm l) (λn=>n) (l.map dq).length [] rfl ⟨by simp,by simp⟩ (λn ⟨O,i⟩=>?_)
 cases n with
 | zero=>exact absurd i.symm h0
 | succ n =>
  obtain⟨x,j⟩:=qat (l:=l) (k:=n) (by omega)
  rw[Xil j] at i
  refine Yes rfl (by omega:((n+1:Nat):Int)>0)<|Ar (n:Nat) rfl ?_ (wr (by omega:((n+1:Nat):Int)-1=(n:Int)) (by simp only[inK];omega))
  refine Ix n rfl (mp j)<|Ce rfl (Xbv (hq x (W0h j)) (by omega))<|By rfl (λh=>?_) λh=>?_
  have h0:x=0:=sgn0.1 h
  subst h0
  rw[Yex] at i
  refine Ar (n:Nat) rfl ?_ (wr (by omega:((n+1:Nat):Int)-1=(n:Int)) (by simp only[inK];omega))
  exact Bk n [] rfl ⟨by omega,i⟩ (by show n<n+1;omega)
  have h0:x≠0:=λe=>h (sgn0.2 e)
  rw[Yew h0,<-Xil j] at i
  have o:(l.map dq).take (n+1)=(l.take (n+1)).map dq:=by rw[W2f]
  refine Tk (n+1) ((l.take (n+1)).map dq) rfl rfl (by simp;omega) o ?_
  refine Cr rfl (Xeg (l:=l.take (n+1)) (by simp;omega) (by simp;omega)) ?_
  rw[i]
  exact Rw [(22,1000000)] [(1000000,.arr 4 ((trm l).map dq))] rfl (.one (.rf rfl) rfl rfl) ⟨_,rfl,rfl,rfl⟩
theorem Xjx{l:List Rat}{s:Nat}(h0:trm l≠[])(h:l.length<=1000)(hq:∀x∈l,Qs s x)(i:s<=100000)(j:(trm l).length<=1000): C0 239 [.d (dqs l)] (·=.d (.int .i64 ((trm l).length-1:Nat))):=by
 have hp:=W6l.2 h0
 refine En Tryz.func239 λ_ _ _=>?_
 refine Ce rfl (Xc2 h hq i)<|Ar ((trm l).length-1:Nat) rfl ?_ (wr (by rw[lq];omega) (by simp only[inK];omega))
 exact R0
theorem Xs3{l:List Rat}{n:Rat}{s:Nat}(O:l.length<=1000)(hq:∀x∈l,Qs s x)(o:Qs s n)(T:s<=10000): C0 243 [.d (dqs l),.d (dq n)] (·=.d (dqs (trm (l.map (·*n))))):=by
 refine En Tryz.func243 λ_ _ _=>?_
 have lm:(l.map dq).length=l.length:=lq l
 refine Mk (l.map dq).length rfl (by omega) ?_
 refine Lo (λ(s:Nat×List D)=>[(3,.ptr 3 0),(5,.own 10 4 0 (l.map dq).length),(11,.d (dqs l)),(12,.d (.int .i64 (l.map dq).length)),(13,.d (.int .i64 s.1))]) (λs=>[(3,.var (.d (dq n))),(10,.arr 4 ((l.take s.1).map (λx=>dq (x*n))++s.2))]) (λs=>s.1+s.2.length=l.length) (λs=>l.length-s.1) (0,List.replicate (l.map dq).length _) [] rfl (by simp) (λ(k,R) j=>?_)
 have j:k+R.length=l.length:=j
 refine By rfl (λh=>?_) λh=>?_
 have h:(k:Int)<((l.map dq).length:Nat):=h
 obtain⟨x,i⟩:=qat (l:=l) (k:=k) (by omega)
 obtain⟨I,R,rfl,U⟩:=Ycg (l:=R) (n:=l.length-k-1) (by omega)
 refine Ix k rfl (mp i)<|Ce rfl (Xby (hq x (W0h i)) o (by omega))<|Eo k rfl (by omega) ?_
 have ml:((l.take k).map λx=>dq (x*n)).length=k:=by simp;omega
 refine Sto (zs:=(l.take (k+1)).map (λx=>dq (x*n))++R) rfl (by simp;omega) ?_ ?_
 show (((l.take k).map λx=>dq (x*n))++I::R).set k _=_
 rw[W6w _ _ (by rw[ml];exact W0a _),ml,W3a,Xil i,W2j,W6u];rfl
 refine Ar (k+1:Nat) rfl ?_ (wr (by omega:(k:Int)+1=((k+1:Nat):Int)) (by simp only[inK];omega))
 exact Bk (k+1,R) [] rfl (by show k+1+R.length=l.length;omega) (by show l.length-(k+1)<l.length-k;omega)
 have h:¬(k:Int)<((l.map dq).length:Nat):=h
 obtain rfl:R=[]:=W0m (by omega)
 obtain rfl:k=l.length:=by simp at j;omega
 refine Fz 7 5 ((l.map (·*n)).map dq) rfl (by simp) (by
  show ((((l.take l.length).map λx=>dq (x*n))++[]).drop 0).take (l.map dq).length=_
  rw[W1i,W4x,W2u,W0b (by simp),List.map_map];rfl) ?_
 exact Ce rfl (Xc2 (l:=l.map (·*n)) (s:=s+s) (by simp;omega) (λy M=>by obtain⟨x,i,rfl⟩:=W4r.1 M;exact(hq x i).mul o) (by omega))<|R0
theorem Yf2{l:List Rat}{s:Nat}(h:trm l=[])(i:l.length<=1000)(hq:∀x∈l,Qs s x)(j:s<=1000): C0 154 [.d (dqs l)] (·=.d (dqs [])):=by
 refine En Tryz.func154 λ_ _ _=>?_
 exact Ce rfl (Xc2 i hq (by omega))<|Yes rfl (by rw[h];rfl)<|R1 rfl (.nil rfl)
theorem Xpm{l t r:List Rat}{y:Rat}{s:Nat}(M:trm l=t)(j:t[t.length-1]?=some y)(h0:y≠0)(hr:trm (t.map (·*(((1:Int):Rat)/y)))=r)(O:l.length<=1000)(hq:∀x∈l,Qs s x)(U:s<=1000)(i:0<t.length/\t.length<=1000)(h:∀x∈t,Qs s x): C0 154 [.d (dqs l)] (·=.d (dqs r)):=by
 have q1:Qs 65 (((1:Int)):Rat):=Qs.int (by unfold Zs;decide) (by decide)
 have o:=h y (W0h j)
 have I:=Xc2 O hq (by omega:s<=100000)
 rw[M] at I
 have qn:Qs (65+s) (((1:Int):Rat)/y):=by rw[W5n];exact q1.mul (R2.Qs.inv o h0)
 refine En Tryz.func154 λ_ _ _=>?_
 refine Ce rfl I<|No rfl (by rw[lq];omega)<|Dw rfl<|Ce rfl (Xah (z:=1) (by decide))<|Ar (t.length-1:Nat) rfl ?_ (wr (by rw[lq];omega) (by simp only[inK];omega))
 refine Ix (t.length-1) rfl (mp j)<|Ce rfl (Xg9 q1 o (by omega) h0)<|Ce rfl (Xs3 (l:=t) (n:=((1:Int):Rat)/y) (s:=65+s) i.2 (λx T=>(h x T).mono (by omega)) qn (by omega)) ?_
 rw[hr]
 exact R0
abbrev pX: List Rat:=[-2,0,1]
abbrev dX: List Rat:=[0,2]
theorem Xlx: ∀x∈pX,Qs 64 x:=by decide +kernel
theorem Xp8: ∀x∈dX,Qs 64 x:=by decide +kernel
theorem Xja: C0 154 [.d (dqs pX)] (·=.d (dqs pX)):=Xpm (t:=pX) (y:=1) (s:=64) (by decide +kernel) rfl (by decide +kernel) (by decide +kernel) (by decide) Xlx (by decide) (by decide) Xlx
theorem Yf1: C0 154 [.d (dqs dX)] (·=.d (dqs [0,1])):=Xpm (t:=dX) (y:=2) (s:=64) (by decide +kernel) rfl (by decide +kernel) (by decide +kernel) (by decide) Xp8 (by decide) (by decide) Xp8
theorem Yf0: C0 154 [.d (dqs [-2])] (·=.d (dqs [1])):=Xpm (t:=[-2]) (y:=-2) (s:=64) (by decide +kernel) rfl (by decide +kernel) (by decide +kernel) (by decide) (by decide +kernel) (by decide) (by decide) (by decide +kernel)
theorem Xyz: C0 241 [.d (dqs pX)] (·=.d (dqs dX)):=by
 refine En Tryz.func241 λ_ _ _=>?_
 refine Nl 3 71 4 rfl ?_
 refine Lo (λ(s:Nat×List Rat)=>[(3,.gr 71 4 (s.2.map dq)),(6,.d (dqs pX)),(7,.d (.int .i64 3)),(8,.d (.int .i64 s.1))]) (λs=>[(71,.tok (s.2.map dq).length 4)]) (λs=>s.1=0/\s.2=[]\/s.1=1/\s.2=[]\/s.1=2/\s.2=[0*((1:Int):Rat)]\/s.1=3/\s.2=[0*((1:Int):Rat),1*((2:Int):Rat)]) (λs=>3-s.1) (0,[]) [] rfl (.inl ⟨rfl,rfl⟩) (λ(k,R) j=>?_)
 rcases j with ⟨h,i⟩ | ⟨h,i⟩ | ⟨h,i⟩ | ⟨h,i⟩<;>obtain rfl:k=_:=h<;>obtain rfl:R=_:=i
 refine Yes rfl (by decide)<|Ix 0 rfl (u:=dq (-2)) rfl<|No rfl (by decide)<|Ar (0+1:Nat) rfl ?_
 exact Bk (0+1,[]) [] rfl (.inr (.inl ⟨rfl,rfl⟩)) (by decide:3-(0+1)<3-0)
 refine Yes rfl (by decide)<|Ix 1 rfl (u:=dq 0) rfl<|Yes rfl (by decide)<|Dw rfl<|Ce rfl (Xah (z:=((1:Nat):Int)) (by decide))<|Ce rfl (Xby (x:=0) (y:=(((1:Nat):Int):Rat)) (p:=64) (q:=64) (by decide +kernel) (by decide +kernel) (by decide))<|ApG ([0*((1:Int):Rat)].map dq) rfl rfl (by decide) ?_
 refine Ar (1+1:Nat) rfl ?_
 exact Bk (1+1,[0*((1:Int):Rat)]) [(21,71)] rfl (.inr (.inr (.inl ⟨rfl,rfl⟩))) (by decide:3-(1+1)<3-1)
 refine Yes rfl (by decide)<|Ix 2 rfl (u:=dq 1) rfl<|Yes rfl (by decide)<|Dw rfl<|Ce rfl (Xah (z:=((2:Nat):Int)) (by decide))<|Ce rfl (Xby (x:=1) (y:=(((2:Nat):Int):Rat)) (p:=64) (q:=64) (by decide +kernel) (by decide +kernel) (by decide))<|ApG ([0*((1:Int):Rat),1*((2:Int):Rat)].map dq) rfl rfl (by decide) ?_
 refine Ar (2+1:Nat) rfl ?_
 exact Bk (2+1,[0*((1:Int):Rat),1*((2:Int):Rat)]) [(21,71)] rfl (.inr (.inr (.inr ⟨rfl,rfl⟩))) (by decide:3-(2+1)<3-2)
 exact No rfl (by decide)<|Ce rfl (Xc2 (l:=[0*((1:Int):Rat),1*((2:Int):Rat)]) (s:=200) (by decide) (by decide +kernel) (by decide))<|R1 rfl (.eq (congrArg dqs (by decide +kernel)))
theorem Xzy{α:Type}{a z:α}{n j c:Nat}(I:c<=j)(M:j+c<=n): (List.replicate j a++List.replicate (n-j) z).take j++((List.replicate j a++List.replicate (n-j) z).drop 0).take c++(List.replicate j a++List.replicate (n-j) z).drop (j+c)=List.replicate (j+c) a++List.replicate (n-(j+c)) z:=by
 have h:(List.replicate j a++List.replicate (n-j) z).take j=List.replicate j a:=by rw[W2s (by simp)];simp
 have i:(List.replicate j a++List.replicate (n-j) z).take c=List.replicate c a:=by rw[W2s (by simp;omega)];simp;omega
 have o:(List.replicate j a++List.replicate (n-j) z).drop (j+c)=List.replicate (n-(j+c)) z:=by
  rw[List.drop_append,W8h,W1o,show j-(j+c)=0 by omega,W8h,show j+c-j=c by omega,show n-j-c=n-(j+c) by omega];rfl
 rw[h,W1i,i,o,W4s]
abbrev zR: D:=.st (.pr (.st (.pr (.bool false) (.sl 1 []))) (.st (.pr (.bool false) (.sl 1 []))))
theorem Yb4{x:Rat}{n:Nat}(o:1<=n)(O:n<=60): CA0 369 [.d (dqs [x]),.d (.int .i64 n)] 4 (List.replicate n (dq x)):=by
 refine EnW Tryz.func369 λ_ _ _ _=>?_
 refine No rfl (by omega)<|Go.Vm.Cv (1:Nat) rfl ?_ (wU (by decide:(0:Int)<=1/\(1:Int)<18446744073709551616))
 refine Go.Vm.Cv n rfl ?_ (wU (by omega))
 refine Ce rfl (Yh0 (n:=n) (by omega))<|No rfl (by decide)<|No rfl (by omega)<|Go.Vm.Cv n rfl ?_ (wI (by omega))
 refine Mk n rfl (by omega) ?_
 refine Cy rfl (W0r _) o (W7r 0) ?_
 refine Lo (λ((j,R):Nat×List D)=>[(7,.own 30 4 0 n),(8,.d (.int .i64 j))]) (λ(j,R)=>[(30,.arr 4 R)]) (λ(j,R)=>(1<=j/\j<=n)/\R=List.replicate j (dq x)++List.replicate (n-j) zR) (λ(j,_)=>n-j) (1,(List.replicate n zR).take 0++[dq x]++(List.replicate n zR).drop (0+1)) [] rfl ⟨⟨W0a _,o⟩,by simp⟩ (λ(j,R) I=>?_)
 obtain⟨⟨o,I⟩,i⟩:(1<=j/\j<=n)/\R=List.replicate j (dq x)++List.replicate (n-j) zR:=I
 have M:R.length=n:=by rw[i];simp;omega
 refine By rfl (λh=>?_) λh=>?_
 have h:(j:Int)<n:=h
 obtain⟨c,T⟩:∃c,c=min j (n-j):=⟨_,rfl⟩
 refine Dw rfl<|Sw j n rfl (by omega) (W0a _) ?_
 refine Sw 0 j rfl (W0r _) (by omega) ?_
 refine Cyo c rfl (by omega) (by omega) (by omega) (by omega) ?_
 refine Ar (j+c:Nat) rfl ?_ (wr (by omega:(j:Int)+(c:Nat)=((j+c:Nat):Int)) (by simp only[inK];omega))
 exact Bk (j+c,R.take (0+j)++(R.drop 0).take c++R.drop (0+j+c)) [] rfl ⟨⟨by omega,by omega⟩,by rw[i,W1l,Xzy (by omega) (by omega)]⟩ (by show n-(j+c)<n-j;omega)
 have h:¬(j:Int)<n:=h
 obtain rfl:j=n:=by omega
 rw[W3a] at i
 have i:R=List.replicate j (dq x):=by rw[i];simp
 exact Rw [(30,1000000)] [(1000000,.arr 4 R)] rfl (.one (.rf rfl) rfl rfl) ⟨_,rfl,by rw[W1o];rfl,by rw[i]⟩
theorem Xf3{n:Nat}(h:1<=n)(i:n<=60): CA0 351 [.d (.int .i64 n)] 4 (List.replicate n (dq ((0:Int):Rat))):=by
 refine EnW Tryz.func351 λ_ _ _ _=>?_
 refine Ce rfl (Xah (z:=0) (by decide))<|Cr rfl (Yb4 (x:=((0:Int):Rat)) h i) ?_
 exact Rw [(6,1000000)] [(1000000,.arr 4 (List.replicate n (dq ((0:Int):Rat))))] rfl (.one (.rf rfl) rfl rfl) ⟨_,rfl,rfl,rfl⟩
def sm1(x:Rat): Bool:=Nat.ble (x.num.natAbs+1) (2^64)&&Nat.ble (x.den+1) (2^64)
theorem Yjd{x:Rat}(h:sm1 x=true): Qs 64 x:=by
 unfold sm1 at h
 simp only[W0d] at h
 obtain⟨i,j⟩:=h
 have i:=W1e i
 have j:=W1e j
 exact⟨i,by show ((x.den:Int)).natAbs<_;rw[W1b];exact j⟩
def inn(b:List Rat)(c:Rat)(i:Nat): Nat->Nat->List Rat->Option (List Rat)
 | 0,_,R=>some R
 | n+1,k,R=>match R[i+k]?,b[k]? with
  | some x,some y=>if sm1 (x-c*y)=true then inn b c i n (k+1) (R.set (i+k) (x-c*y)) else none
  | _,_=>none
def Yj3(b:List Rat): Nat->List Rat->List Rat->Option (List Rat×List Rat)
 | 0,q,R=>some (q,R)
 | m+1,q,R=>match R[m+b.length-1]?,b[b.length-1]? with
  | some x,some y=>if y≠0/\sm1 (x/y)=true then (match inn b (x/y) m b.length 0 R with
   | some R'=>Yj3 b m (q.set m (x/y)) R'
   | none=>none) else none
  | _,_=>none
theorem Ycv{l:List Rat}{i:Nat}{x:Rat}{s:Nat}(h:∀y∈l,Qs s y)(j:Qs s x): ∀y∈l.set i x,Qs s y:=λy o=>(W3x o).elim (h y) λe=>e ▸ j
theorem map_set{l:List Rat}{i:Nat}{x:Rat}: (l.map dq).set i (dq x)=(l.set i x).map dq:=by rw[List.map_set]
theorem Xbk{a b A B qf Rf:List Rat}(hA:trm a=A)(hB:trm b=B)(hl:1<=B.length/\B.length<=A.length/\A.length<=20)(ha:a.length<=1000/\∀x∈a,Qs 64 x)(hb:b.length<=1000/\∀x∈b,Qs 64 x)(qA:∀x∈A,Qs 64 x)(qB:∀x∈B,Qs 64 x)
 (hd:Yj3 B (A.length-B.length+1) (List.replicate (A.length-B.length+1) ((0:Int):Rat)) A=some (qf,Rf)):C0 320 [.d (dqs a),.d (dqs b)] (·=.tup (.pr (.d (dqs (trm qf))) (.d (dqs (trm Rf))))):=by
 have TB:=Xc2 hb.1 hb.2 (by decide)
 have TA:=Yb2 (l:=a) (by rw[hA];intro e;have h:=hl.2.1;rw[e] at h;have h:B.length<=0:=h;omega) ha.1 ha.2 (by decide)
 rw[hB] at TB
 rw[hA] at TA
 have lA:(A.map dq).length=A.length:=lq A
 have lB:(B.map dq).length=B.length:=lq B
 obtain⟨M,hM⟩:∃M,M=A.length-B.length+1:=⟨_,rfl⟩
 rw[<-hM] at hd
 refine En Tryz.func320 λ_ _ _=>?_
 refine Ce rfl TB<|Cr rfl TA ?_
 refine Ar (A.length-B.length:Nat) rfl ?_ (wr (by omega) (by simp only[inK];omega))
 refine Ar M rfl ?_ (wr (by omega) (by simp only[inK];omega))
 refine Mm M rfl ?_ (by show max (0:Int) M=M;omega)
 have hz:=Xf3 (n:=M) (by omega) (by omega)
 rw[<-W2i] at hz
 refine Cr rfl hz ?_
 refine Ar ((M:Int)-1) rfl ?_ (wr (by omega) (by simp only[inK];omega))
 refine Lo (λ((m,q,R):Nat×List Rat×List Rat)=>[(1,.d (dqs B)),(4,.nil),(5,.nil),(6,.own 14 4 0 (A.map dq).length),(7,.own 22 4 0 ((List.replicate M ((0:Int):Rat)).map dq).length),(8,.d (.int .i64 ((m:Int)-1)))]) (λ(m,q,R)=>[(14,.arr 4 (R.map dq)),(22,.arr 4 (q.map dq))]) (λ(m,q,R)=>(Yj3 B m q R=some (qf,Rf)/\m<=M)/\(q.length=M/\R.length=A.length)/\(∀x∈q,Qs 64 x)/\∀x∈R,Qs 64 x) (λ(m,_,_)=>m) (M,List.replicate M ((0:Int):Rat),A) [] rfl ⟨⟨hd,W0a _⟩,⟨by simp,rfl⟩,λx i=>by rw[W5q i];decide +kernel,qA⟩ (λ(m,q,R) hI=>?_)
 obtain⟨⟨hd,hm⟩,⟨hq,j⟩,Qq,QR⟩:(Yj3 B m q R=some (qf,Rf)/\m<=M)/\(q.length=M/\R.length=A.length)/\(∀x∈q,Qs 64 x)/\∀x∈R,Qs 64 x:=hI
 have lz:((List.replicate M ((0:Int):Rat)).map dq).length=M:=by simp
 have lq':(q.map dq).length=M:=by rw[lq,hq]
 have lR:(R.map dq).length=A.length:=by rw[lq,j]
 cases m with
 | zero =>
  injection hd with hd
  injection hd with h1 h2
  subst h1;subst h2
  refine No rfl (by decide)<|Fz 13 7 (q.map dq) rfl (by omega) (by rw[W1i,W0b (by omega)]) ?_
  refine Fz 13 6 (R.map dq) rfl (by omega) (by rw[W1i,W0b (by omega)]) ?_
  exact Ce rfl (Xc2 (l:=q) (by omega) Qq (by decide))<|Ce rfl (Xc2 (l:=R) (by omega) QR (by decide))<|R0t
 | succ m =>
  unfold Yj3 at hd
  cases i:R[m+B.length-1]? with
  | none=>rw[i] at hd;cases hd
  | some x =>
  cases O:B[B.length-1]? with
  | none=>rw[i,O] at hd;cases hd
  | some y =>
  rw[i,O] at hd
  simp only at hd
  split at hd
  rotate_left
  cases hd
  rename_i hc
  obtain⟨T,U⟩:=hc
  have V:=Yjd U
  cases hi:inn B (x/y) m B.length 0 R with
  | none=>rw[hi] at hd;cases hd
  | some R' =>
  rw[hi] at hd
  simp only at hd
  have lx:=(W0s.1 i).1
  refine Yes rfl (by omega:((m+1:Nat):Int)-1>=0)<|Dw rfl<|Ar (m+B.length:Nat) rfl ?_ (wr (by omega) (by simp only[inK];omega))
  refine Ar (m+B.length-1:Nat) rfl ?_ (wr (by omega) (by simp only[inK];omega))
  refine Eo (m+B.length-1) rfl (by omega)<|Ld (dq x) rfl (mp i) ?_
  refine Ar (B.length-1:Nat) rfl ?_ (wr (by omega) (by simp only[inK];omega))
  refine Ix (B.length-1) rfl (mp O)<|Ce rfl (Xg9 (QR x (W0h i)) (qB y (W0h O)) (by decide) T)<|Eo m rfl (by omega) ?_ (by omega)
  refine Sto (zs:=(q.set m (x/y)).map dq) rfl (by omega) map_set ?_
  refine Lo (λ((k,R):Nat×List Rat)=>[(1,.d (dqs B)),(4,.nil),(5,.nil),(6,.own 14 4 0 (A.map dq).length),(7,.own 22 4 0 ((List.replicate M ((0:Int):Rat)).map dq).length),(8,.d (.int .i64 (((m+1:Nat):Int)-1))),(53,.d (dqs B)),(54,.d (.int .i64 (B.map dq).length)),(55,.d (.int .i64 k))]) (λ(k,R)=>[(14,.arr 4 (R.map dq)),(22,.arr 4 ((q.set m (x/y)).map dq))]) (λ(k,R)=>(inn B (x/y) m (B.length-k) k R=some R'/\k<=B.length)/\R.length=A.length/\∀x∈R,Qs 64 x) (λ(k,_)=>B.length-k) (0,R) [] rfl ⟨⟨hi,W0r _⟩,j,QR⟩ (λ(k,R) hI=>?_)
  obtain⟨⟨hi,hk⟩,j,QR⟩:(inn B (x/y) m (B.length-k) k R=some R'/\k<=B.length)/\R.length=A.length/\∀x∈R,Qs 64 x:=hI
  have lR:(R.map dq).length=A.length:=by rw[lq,j]
  have lq2:((q.set m (x/y)).map dq).length=M:=by rw[lq,W3c,hq]
  refine By rfl (λh=>?_) λh=>?_
  . have h:(k:Int)<((B.map dq).length:Nat):=h
    obtain⟨n,hn⟩:∃n,B.length-k=n+1:=⟨B.length-k-1,by omega⟩
    rw[hn] at hi
    unfold inn at hi
    cases o:R[m+k]? with
    | none=>rw[o] at hi;cases hi
    | some u =>
    cases I:B[k]? with
    | none=>rw[o,I] at hi;cases hi
    | some v =>
    rw[o,I] at hi
    simp only at hi
    split at hi
    rotate_left
    cases hi
    rename_i Z
    have lu:=(W0s.1 o).1
    have hm2:(q.set m (x/y))[m]?=some (x/y):=by rw[W2n (by omega)]
    refine Ix k rfl (mp I)<|Dw rfl<|Ar (m+k:Nat) rfl ?_ (wr (by omega) (by simp only[inK];omega))
    refine Ar (m+k:Nat) rfl ?_ (wr (by omega) (by simp only[inK];omega))
    refine Eo (m+k) rfl (by omega)<|Ld (dq u) rfl (mp o) ?_
    refine Eo m rfl (by omega) ?_ (by omega)
    refine Ld (dq (x/y)) rfl (mp hm2) ?_
    refine Ce rfl (Xby V (qB v (W0h I)) (by decide))<|Ce rfl (Xeu (QR u (W0h o)) (V.mul (qB v (W0h I))) (by decide))<|Eo (m+k) rfl (by omega)<|Sto (zs:=(R.set (m+k) (u-x/y*v)).map dq) rfl (by omega) map_set ?_
    refine Ar (k+1:Nat) rfl ?_ (wr (by omega:(k:Int)+1=((k+1:Nat):Int)) (by simp only[inK];omega))
    exact Bk (k+1,R.set (m+k) (u-x/y*v)) [] rfl ⟨⟨by rw[show B.length-(k+1)=n by omega];exact hi,by omega⟩,by rw[W3c];exact j,Ycv QR (Yjd Z)⟩ (by show B.length-(k+1)<B.length-k;omega)
  have h:¬(k:Int)<((B.map dq).length:Nat):=h
  obtain rfl:k=B.length:=by omega
  rw[W3a] at hi
  injection hi with hi
  subst hi
  refine Ar ((m:Int)-1) rfl ?_ (wr (by omega) (by simp only[inK];omega))
  exact Bk (m,q.set m (x/y),R) [] rfl ⟨⟨hd,by omega⟩,⟨by rw[W3c];exact hq,j⟩,Ycv Qq V,QR⟩ (W5v m)
theorem Ypj: C0 320 [.d (dqs pX),.d (dqs [0,1])] (·=.tup (.pr (.d (dqs [0,1])) (.d (dqs [-2])))):=Xbk (A:=pX) (B:=[0,1]) (qf:=[0,1]) (Rf:=[-2,0,0]) (by decide +kernel) (by decide +kernel) (by decide) ⟨by decide,Xlx⟩ ⟨by decide,by decide +kernel⟩ Xlx (by decide +kernel) (by decide +kernel)
theorem Ypi: C0 320 [.d (dqs [0,1]),.d (dqs [1])] (·=.tup (.pr (.d (dqs [0,1])) (.d (dqs [])))):=Xbk (A:=[0,1]) (B:=[1]) (qf:=[0,1]) (Rf:=[0,0]) (by decide +kernel) (by decide +kernel) (by decide) ⟨by decide,by decide +kernel⟩ ⟨by decide,by decide +kernel⟩ (by decide +kernel) (by decide +kernel) (by decide +kernel)
theorem Yph: C0 320 [.d (dqs pX),.d (dqs [1])] (·=.tup (.pr (.d (dqs pX)) (.d (dqs [])))):=Xbk (A:=pX) (B:=[1]) (qf:=pX) (Rf:=[0,0,0]) (by decide +kernel) (by decide +kernel) (by decide) ⟨by decide,Xlx⟩ ⟨by decide,by decide +kernel⟩ Xlx (by decide +kernel) (by decide +kernel)
theorem Ypg: C0 320 [.d (dqs pX),.d (dqs dX)] (·=.tup (.pr (.d (dqs [0,Rat.divInt 1 2])) (.d (dqs [-2])))):=by
 have h:=Xbk (a:=pX) (b:=dX) (A:=pX) (B:=dX) (qf:=[0,Rat.divInt 1 2]) (Rf:=[-2,0,0]) (by decide +kernel) (by decide +kernel) (by decide) ⟨by decide,Xlx⟩ ⟨by decide,Xp8⟩ Xlx Xp8 (by decide +kernel)
 rw[show trm [0,Rat.divInt 1 2]=[0,Rat.divInt 1 2] by decide +kernel,show trm [-2,0,0]=[-2] by decide +kernel] at h
 exact h
theorem Ypf: C0 320 [.d (dqs dX),.d (dqs [2])] (·=.tup (.pr (.d (dqs [0,1])) (.d (dqs [])))):=Xbk (A:=dX) (B:=[2]) (qf:=[0,1]) (Rf:=[0,0]) (by decide +kernel) (by decide +kernel) (by decide) ⟨by decide,Xp8⟩ ⟨by decide,by decide +kernel⟩ Xp8 (by decide +kernel) (by decide +kernel)
theorem Yb8: C0 242 [.d (dqs pX),.d (dqs dX)] (·=.tup (.pr (.d (dqs [0,Rat.divInt 1 2])) (.pr (.d (dqs [-2])) (.d (.int .i64 0))))):=by
 refine En Tryz.func242 λ_ _ _=>?_
 exact Ce rfl (Xjx (l:=dX) (s:=64) (by decide +kernel) (by decide) Xp8 (by decide) (by decide +kernel))<|No rfl (by decide +kernel)<|Ce rfl Ypg<|R0t
theorem Yb7: C0 242 [.d (dqs dX),.d (dqs [2])] (·=.tup (.pr (.d (dqs [0,1])) (.pr (.d (dqs [])) (.d (.int .i64 0))))):=by
 refine En Tryz.func242 λ_ _ _=>?_
 exact Ce rfl (Xjx (l:=[2]) (s:=64) (by decide +kernel) (by decide) (by decide +kernel) (by decide) (by decide +kernel))<|No rfl (by decide +kernel)<|Ce rfl Ypf<|R0t
theorem Yp2: C0 321 [.d (dqs pX),.d (dqs dX)] (·=.d (dqs [1])):=by
 refine En Tryz.func321 λ_ _ _=>?_
 refine Ce rfl Xja<|Ce rfl Yf1<|Lo (λ((k,a,b):Nat×List Rat×List Rat)=>[(0,.d (dqs a)),(1,.d (dqs b))]) (λ_=>[]) (λ(k,a,b)=>k=0/\a=pX/\b=[0,1]\/k=1/\a=[0,1]/\b=[1]\/k=2/\a=[1]/\b=[]) (λ(k,_,_)=>2-k) (0,pX,[0,1]) [] rfl (.inl ⟨rfl,rfl,rfl⟩) (λ(k,a,b) o=>?_)
 rcases o with ⟨h,i,j⟩ | ⟨h,i,j⟩ | ⟨h,i,j⟩<;>obtain rfl:k=_:=h<;>obtain rfl:a=_:=i<;>obtain rfl:b=_:=j
 exact Yes rfl (by decide)<|Ce rfl Ypj<|Ce rfl Yf0<|Bk (1,[0,1],[1]) [] rfl (.inr (.inl ⟨rfl,rfl,rfl⟩)) (by decide)
 exact Yes rfl (by decide)<|Ce rfl Ypi<|Ce rfl (Yf2 (l:=[]) (s:=64) rfl (by decide) nofun (by decide))<|Bk (2,[1],[]) [] rfl (.inr (.inr ⟨rfl,rfl,rfl⟩)) (by decide)
 exact No rfl (by decide)<|R0
theorem Xom: C0 240 [.d (dqs pX)] (·=.d (dqs pX)):=by
 refine En Tryz.func240 λ_ _ _=>?_
 exact Ce rfl Xja<|No rfl (by decide)<|Ce rfl Xyz<|Ce rfl Yp2<|Ce rfl Yph<|Ce rfl Xja<|R0
theorem Yhz: C0 243 [.d (dqs [-2]),.d (dq (((-1:Int)):Rat))] (·=.d (dqs [2])):=by
 have h:=Xs3 (l:=[-2]) (n:=((-1:Int):Rat)) (s:=64) (by decide) (by decide +kernel) (by decide +kernel) (by decide)
 rw[show trm ([-2].map (·*(((-1:Int)):Rat)))=[2] by decide +kernel] at h
 exact h
theorem Yh6: C0 244 [.d (dqs pX)] (·=.d (dq 3)):=by
 refine En Tryz.func244 λ_ _ _=>?_
 refine Ce rfl Xja<|No rfl (by decide)<|Ce rfl (Xah (z:=0) (by decide))<|Ar (2:Nat) rfl ?_ (wr (by rw[lq];decide) (by simp only[inK];decide))
 refine Tk 2 [dq (-2),dq 0] rfl rfl (by decide) rfl ?_
 refine Lo (λ((k,m):Nat×Rat)=>[(2,.ptr 2 0),(3,.ptr 3 0),(17,.d (dqs [-2,0])),(18,.d (.int .i64 2)),(19,.d (.int .i64 k))]) (λ(k,m)=>[(2,.var zq),(3,.var (.d (dq m)))]) (λ(k,m)=>k=0/\m=((0:Int):Rat)\/k=1/\m=2\/k=2/\m=2) (λ(k,_)=>2-k) (0,((0:Int):Rat)) [] rfl (.inl ⟨rfl,rfl⟩) (λ(k,m) j=>?_)
 rcases j with ⟨h,i⟩ | ⟨h,i⟩ | ⟨h,i⟩<;>obtain rfl:k=_:=h<;>obtain rfl:m=_:=i
 refine Yes rfl (by decide)<|Ix 0 rfl (u:=dq (-2)) rfl<|Ce rfl (Xbv (x:=-2) (p:=64) (by decide +kernel) (by decide))<|Yes rfl (by decide +kernel)<|Ce rfl (Xea (x:=-2) (p:=64) (by decide +kernel) (by decide))<|Ce rfl (Xbo (x:=-(-2)) (y:=((0:Int):Rat)) (p:=64) (q:=64) (by decide +kernel) (by decide +kernel) (by decide))<|Yes rfl (by decide +kernel)<|Ar (0+1:Nat) rfl ?_
 exact Bk (0+1,-(-2)) [] rfl (.inr (.inl ⟨rfl,by decide +kernel⟩)) (by decide:2-(0+1)<2-0)
 refine Yes rfl (by decide)<|Ix 1 rfl (u:=dq 0) rfl<|Ce rfl (Xbv (x:=0) (p:=64) (by decide +kernel) (by decide))<|No rfl (by decide +kernel)<|Ce rfl (Xbo (x:=0) (y:=2) (p:=64) (q:=64) (by decide +kernel) (by decide +kernel) (by decide))<|No rfl (by decide +kernel)<|Ar (1+1:Nat) rfl ?_
 exact Bk (1+1,2) [] rfl (.inr (.inr ⟨rfl,rfl⟩)) (by decide:2-(1+1)<2-1)
 exact No rfl (by decide)<|Dw rfl<|Ce rfl (Xah (z:=1) (by decide))<|Ce rfl (Xc0 (x:=2) (y:=((1:Int):Rat)) (p:=64) (q:=64) (by decide +kernel) (by decide +kernel) (by decide))<|R1 rfl (.eq (congrArg dq (by decide +kernel)))
end
section
open Go.RowKit Go.Shelf
attribute [local go_sem] Oper.semAt_some
abbrev C4:=Value×Value×Value×Value
def C4.z: C4:=(undef,undef,undef,undef)
def C4.v(c:C4): Value:=.agg #[c.1,c.2.1,c.2.2.1,c.2.2.2]
def bkq{α:Type}(N:Nat)(el:Nat->α)(k:Nat): List α:=(List.range k).map λj=>el (N-1-j)
theorem Ybo{α:Type}(N:Nat)(el:Nat->α)(k:Nat): bkq N el (k+1)=bkq N el k++[el (N-1-k)]:=by simp[bkq,W7z]
theorem Xtw{α:Type}(N:Nat)(el:Nat->α)(k:Nat): (bkq N el k).length=k:=by simp[bkq]
set_option maxRecDepth 100000 in
set_option maxHeartbeats 2000000 in
theorem Ybp(F:Fence)(n:Nat)(h8:F.fn 352)(hro:F.round=none)(hn:1<=n)(l Bs b off cap N:Nat)(hreach:N<=100){α:Type}(el:Nat->α)(cl:α->C4)(encs:α->Array Value)(henc:∀q,encs (el q)=#[.int .i64 (q:Int),(cl (el q)).v])(Kp:World->World->Prop)(hKt:∀ {A B C:World},Kp A B->Kp B C->Kp A C)(W:World)(hKr:∀V,Kp W V->V.cell? ⟨Bs,0,none⟩=some (.slice (some ⟨b,off,none⟩) N cap))
 (hcs:∀V,Kp W V->∀q,q<N->V.cell? ⟨b,off+q*4,none⟩=some (cl (el q)).1/\V.cell? ⟨b,off+q*4+1,none⟩=some (cl (el q)).2.1/\V.cell? ⟨b,off+q*4+2,none⟩=some (cl (el q)).2.2.1/\V.cell? ⟨b,off+q*4+3,none⟩=some (cl (el q)).2.2.2)
 (hK0:Kp W W) (J Jx:List α->World->Prop)
 (hY:∀pre x W,J pre W->pre.length<N->YieldAt F (n-1) Tryz.prog l (encs x) W λe W' =>
  (e=.returned (.bool true)/\J (pre++[x]) W'/\Kp W W')\/(e=.returned (.bool false)/\Jx (pre++[x]) W'))
 (h0:J [] W) :
 CallsIn F n Tryz.prog 352 #[.func (.yield l) #[] #[],.pointer (some ⟨Bs,0,none⟩)] W λe W'=>(∃v,e=.returned v) /\
  ((∃ys,ys=bkq N el N/\J ys W')\/(∃pre,True/\Jx pre W')):=by
 refine callsIn_of_wp Tryz.func352 rfl h8 ?_ hro
 simp only[Tryz.ntmps352,W5e,W1j,W3r,Nat.reduceAdd,Nat.reduceSub,W4p,W4q,W5f,W4v,W3s,W4g]
 have hBs:=hKr W hK0
 gi_wp2
 gi_loopw [3] (λi wr=>∃k:Nat,k<=N/\i=.int .i64 ((N:Int)-1-k)/\J (bkq N el k) wr/\Kp W wr)
  (λi _=>(intOf i+1).toNat)
 case atStart=>exact⟨0,W0r _,by simp,h0,hK0⟩
 case round =>
  obtain⟨k,hk,rfl,hJs,hnx⟩:=hrel
  have hBs':=hKr wr hnx
  by_cases hlt:k<N
  . obtain⟨q,hq⟩:∃q,q+(k+1)=N:=⟨N-1-k,by omega⟩
    have hqi:((N:Int)-1-k)=(q:Int):=by omega
    obtain⟨fn,tmps,assign,body,hy,hR⟩:=hY _ (el q) wr hJs (by rw[Xtw];exact hlt)
    rw[henc] at hy
    dsimp only[C4.v] at hy
    obtain⟨e0,e1,e2,e3⟩:=hcs wr hnx q (by omega)
    rw[hqi]
    gi_wp2
    refine hR.mono ?_
    rintro e W3 (⟨rfl,hJ3,hk3⟩ | ⟨rfl,hJx3⟩)
    . gi_wp2
      go_roundw
      case rel=>exact⟨k+1,by omega,by congr 1;omega,by rw[Ybo,show N-1-k=q by omega];exact hJ3,hKt hnx hk3⟩
      case measure=>simp[intOf]
    . gi_wp2
      refine bodyPost_ret (results_none rfl _ _ _) rfl ?_
      exact⟨⟨_,rfl⟩,.inr ⟨_,trivial,hJx3⟩⟩
  . obtain rfl:N=k:=by omega
    rw[show ((N:Int)-1-(N:Int))=-1 by omega]
    gi_wp2
    go_end0
    exact⟨⟨_,rfl⟩,.inl ⟨_,rfl,hJs⟩⟩
set_option maxHeartbeats 1000000 in
theorem Xyi(F:Fence)(n:Nat)(h6:F.fn 322)(hro:F.round=none)(a:Option Addr)(len cap:Nat)(w:World):
 CallsIn F n Tryz.prog 322 #[.slice a len cap] w λe w'=>e=.returned (.func (.func 352) #[] #[.pointer (some ⟨w.heap.size,0,none⟩)])/\w'=w.alloc (.cells #[.slice a len cap] 36):=by
 refine callsIn_of_wp Tryz.func322 rfl h6 ?_ hro
 simp only[Tryz.ntmps322,W5e,W1j,W3r,Nat.reduceAdd,Nat.reduceSub,W4p,W4q,W5f,W4v,W3s,W4g]
 gi_wp2
 go_ret
 exact⟨rfl,rfl⟩
structure Kz (Bs b:Nat) (A B:World):Prop where
 s:B.heap[Bs]?=A.heap[Bs]?
 d:B.heap[b]?=A.heap[b]?
theorem Kz.trans{Bs b:Nat}{A B C:World}(h:Kz Bs b A B)(k:Kz Bs b B C): Kz Bs b A C:=⟨k.s.trans h.s,k.d.trans h.d⟩
def QC(W:Vm.GW)(q:Rat)(c:C4): Prop:=Vm.D.At W (dq q) [c.1,c.2.1,c.2.2.1,c.2.2.2]
theorem QC.of{W:Vm.GW}{θ:Vm.Loc}{q:Rat}{v:Value}(h:Vm.AV.V W θ (.d (dq q)) v): ∃c:C4,v=c.v/\QC W q c:=by
 obtain⟨cs,i,j⟩:=h
 have o:cs.length=4:=Vm.D.at_len (dq q) i
 match cs,o with
 | [a,b,c,d],_=>exact⟨(a,b,c,d),j,i⟩
theorem QC.v{W:Vm.GW}{θ:Vm.Loc}{q:Rat}{c:C4}(h:QC W q c): Vm.AV.V W θ (.d (dq q)) c.v:=⟨_,h,rfl⟩
theorem QC.mono{W W':Vm.GW}{q:Rat}{c:C4}(l:Vm.LeF W W')(h:QC W q c): QC W' q c:=Vm.D.mono l _ h
theorem QC.form{W:Vm.GW}{q:Rat}{c:C4}(h:QC W q c): ∃s p n m s' o V I,c=(.bool s,.slice p n m,.bool s',.slice o V I):=by
 obtain⟨u,v,e,⟨Z,v1,e1,i,p,m,h2,_⟩,u2,v2,e2,j,o,I,h4,_⟩:=h
 have i:Z=[.bool _]:=i
 have j:u2=[.bool _]:=j
 subst i;subst h2;subst j;subst h4;subst e1;subst e2
 injection e with M e
 injection e with O e
 injection e with T e
 injection e with U e
 obtain⟨c0,c1,c2,c3⟩:=c
 exact⟨_,_,_,_,_,_,_,_,by simp only at M O T U;rw[M,O,T,U]⟩
theorem Yeb{f:FuncId}{a b r:Rat}(M:C0 f [.d (dq a),.d (dq b)] (·=.d (dq r))){V:Vm.GW}(O:Vm.Gb.g Tryz.prog V){j o:C4}(ha:QC V a j)(hb:QC V b o)(m:Nat): CallsIn Fence.wide m Tryz.prog f #[j.v,o.v] V.w λe I=>∃V':Vm.GW,V'.w=I/\Vm.Fm V V' (λ_=>False)/\∃i:C4,e=.returned i.v/\QC V' r i:=by
 refine(callsIn_wide.2 (M.2 V [j.v,o.v] O ⟨ha.v,hb.v,trivial⟩)).mono ?_
 rintro e I ⟨V',v,u,rfl,rfl,T,U,_,rfl⟩
 obtain⟨i,rfl,h⟩:=QC.of U
 exact⟨V',rfl,T,i,rfl,h⟩
theorem Ymg{V:Vm.GW}(o:Vm.Gb.g Tryz.prog V)(m:Nat): CallsIn Fence.wide m Tryz.prog 42 #[.int .i64 0] V.w λe j=>∃V':Vm.GW,V'.w=j/\Vm.Fm V V' (λ_=>False)/\∃i:C4,e=.returned i.v/\QC V' ((0:Int):Rat) i:=by
 refine(callsIn_wide.2 ((Xah (z:=0) (by decide)).2 V [.int .i64 0] o ⟨Vm.int_V (show IntKind.i64.wrap 0=0 from rfl),trivial⟩)).mono ?_
 rintro e j ⟨V',v,u,rfl,rfl,I,M,_,rfl⟩
 obtain⟨i,rfl,h⟩:=QC.of M
 exact⟨V',rfl,I,i,rfl,h⟩
theorem Xsi{V V':Vm.GW}(h:Vm.Fm V V' (λ_=>False)): Below V.w.heap.size V.w V'.w:={ os:=h.os,output:=h.out,tape:=h.tape,size:=h.size,block:=λb hb=>h.same b hb id }
def gwx(V:Vm.GW)(w:World)(X:Nat->Prop)(h:V.w.heap.size<=w.heap.size)(o:∀i,X i->i<w.heap.size): Vm.GW:=⟨w,λi j=>V.A i j\/X i,λi j k=>k.elim (λk=>W0y (V.hA i j k) h) (o i)⟩
theorem Xem{w:World}{i:Nat}{o:Obj}(h:w.heap[i]?=some o): i<w.heap.size:=(W3k.1 h).1
theorem Xar{w:World}{i:Nat}{cs:Array Value}{ty:TypeId}{f:Nat×Nat}(h:w.heap[i]?=some (.cells cs ty f))(j:Nat): w.cell? ⟨i,j,none⟩=cs[j]?:=by simp[World.cell?,h]
theorem Xhu{w:World}{i:Nat}{cs:Array Value}{ty:TypeId}(h:w.heap[i]?=some (.cells cs ty (0,0)))(j:Nat): w.frozen? ⟨i,j,none⟩=false:=by simp[World.frozen?,h]
theorem Xod{V V':Vm.GW}(h:Vm.Fm V V' (λ_=>False)){i:Nat}{o:Obj}(g:V.w.heap[i]?=some o): V'.w.heap[i]?=some o:=(h.same i (Xem g) id).trans g
theorem Ygv{V:Vm.GW}{i j:Nat}{v:Value}(h:Vm.Fr V i j v): i<V.w.heap.size:=World.block_lt_of_cell? V.w ⟨i,j,none⟩ h.1
def gwd(V:Vm.GW): Vm.GW:=⟨V.w.drew,V.A,V.hA⟩
theorem Xkp(V:Vm.GW): Vm.LeF V (gwd V):=λ_ _ _ h=>h
def gwt(V:Vm.GW)(w:World)(h:V.w.heap.size<=w.heap.size): Vm.GW:=⟨w,V.A,λi j k=>W0y (V.hA i j k) h⟩
theorem Xw6{V:Vm.GW}{w:World}(h:V.w.heap.size<=w.heap.size)(o:∀i j v,Vm.Fr V i j v->w.cell? ⟨i,j,none⟩=some v): Vm.LeF V (gwt V w h):=λi j v k=>⟨o i j v k,k.2⟩
theorem Ydx{W V:Vm.GW}(I:Vm.Fm W V (λ_=>False)){w:World}(h:V.w.heap.size<=w.heap.size)(o:Below W.w.heap.size W.w w)(M:∀i j v,Vm.Fr V i j v->w.cell? ⟨i,j,none⟩=some v): Vm.Fm W (gwt V w h) (λ_=>False) :=
 { os:=o.os,out:=o.output,tape:=o.tape,size:=o.size,same:=λb hb _=>o.block b hb,A:=I.A,le:=I.le.trans (Xw6 h M) }
theorem Yar{V:Vm.GW}{w:World}{row:Option Nat}(M:V.w.grownBy w row)(hr:∀r,row=some r->∃o:Obj,V.w.heap[r]?=some o/\o.isCells=false){i j:Nat}{v:Value}(h:Vm.Fr V i j v): w.cell? ⟨i,j,none⟩=some v:=by
 refine M.cell h.1 λe=>?_
 obtain⟨o,O,T⟩:=hr i e.symm
 have I:=h.1
 simp only[World.cell?,O] at I
 cases o<;>first | (simp[Obj.isCells] at T;done) | (simp at I;done)
theorem Xjr{w j:World}{row:Option Nat}(O:w.grownBy j row)(hr:∀r,row=some r->∃o:Obj,w.heap[r]?=some o/\o.isCells=false){i:Nat}{o:Obj}(h:w.heap[i]?=some o)(T:o.isCells=true): j.heap[i]?=some o:=by
 refine(O.block i (Xem h) λe=>?_).trans h
 obtain⟨U,I,M⟩:=hr i e.symm
 rw[h] at I
 cases I
 rw[T] at M
 cases M
abbrev Ycw(w:World)(i:Nat)(a b c d:Value): World:=(((w.setCell ⟨i,0,none⟩ a).setCell ⟨i,1,none⟩ b).setCell ⟨i,2,none⟩ c).setCell ⟨i,3,none⟩ d
theorem Xge{w:World}{i:Nat}{cs:Array Value}{ty:TypeId}{f:Nat×Nat}(h:w.heap[i]?=some (.cells cs ty f))(j:Nat)(v:Value): (w.setCell ⟨i,j,none⟩ v).heap[i]?=some (.cells (cs.setIfInBounds j v) ty f):=by
 have hi:=Xem h
 obtain⟨hi,e⟩:=W3k.1 h
 show (w.heap.modify i _)[i]?=_
 rw[W6g (by rw[Array.size_modify];exact hi),Array.getElem_modify_self,e]
 rfl
theorem Xvi{w:World}{i:Nat}{j o c2 I:Value}{ty:TypeId}{f:Nat×Nat}(h:w.heap[i]?=some (.cells #[j,o,c2,I] ty f))(a b c d:Value): (Ycw w i a b c d).heap[i]?=some (.cells #[a,b,c,d] ty f):=by
 have M:=Xge (Xge (Xge (Xge h 0 a) 1 b) 2 c) 3 d
 simpa using M
theorem Xkc(w:World)(i:Nat)(a b c d:Value){k:Nat}(h:k≠i): (Ycw w i a b c d).heap[k]?=w.heap[k]? :=
 (Below.heap_setCell _ _ _ _ h).trans ((Below.heap_setCell _ _ _ _ h).trans ((Below.heap_setCell _ _ _ _ h).trans (Below.heap_setCell _ _ _ _ h)))
theorem Xvh(w:World)(i:Nat)(a b c d:Value): (Ycw w i a b c d).heap.size=w.heap.size:=by simp[Ycw,World.setCell]
theorem Xp3{W V U:Vm.GW}(h:Vm.Fm W V (λ_=>False))(k:Vm.Fm V U (λ_=>False)): Vm.Fm W U (λ_=>False) :=
 { os := k.os.trans h.os, out := k.out.trans h.out, tape := k.tape.trans h.tape, size := W0j h.size k.size
   same:=λb hb _=>(k.same b (W0y hb h.size) id).trans (h.same b hb id)
   A:=λb hb _ i=>(k.A b (W0y hb h.size) id i).trans (h.A b hb id i),le:=h.le.trans k.le }
theorem Ydy(V:Vm.GW): Vm.Fm V (gwd V) (λ_=>False) :=
 { os:=rfl,out:=rfl,tape:=rfl,size:=W0a _,same:=λ_ _ _=>rfl,A:=λ_ _ _ _=>W4a,le:=Xkp V }
theorem Xsn{W V V2:Vm.GW}{n5:Nat}(U:W.w.heap.size<=n5)(hF:Vm.Fm W V (λ_=>False))(I:Vm.Fm V V2 (λ_=>False))(hA:∀i,V.A n5 i){c0 c1 c2 c3:Value}{ty:TypeId}(gO:V.w.heap[n5]?=some (.cells #[c0,c1,c2,c3] ty (0,0)))(a b c d:Value):
 ∃V':Vm.GW,V'.w=Ycw V2.w n5 a b c d/\(∀i,V'.A n5 i)/\(∀k i,V2.A k i->V'.A k i)/\Vm.Fm W V' (λ_=>False)/\Vm.LeF V2 V'/\V'.w.heap[n5]?=some (.cells #[a,b,c,d] ty (0,0))/\V.w.heap.size<=V'.w.heap.size/\∀k o,k≠n5->V.w.heap[k]?=some o->V'.w.heap[k]?=some o:=by
 have Z:=Xem gO
 have O:∀i,V2.A n5 i:=λi=>(I.A n5 Z id i).2 (hA i)
 have M:V2.w.heap.size<=(Ycw V2.w n5 a b c d).heap.size:=by rw[Xvh];exact W0a _
 have T:=Xp3 hF I
 have hc:∀i j v,Vm.Fr V2 i j v->(Ycw V2.w n5 a b c d).cell? ⟨i,j,none⟩=some v:=λi j v h=>by
  have hi:i≠n5:=by rintro rfl;exact h.2 (O j)
  exact(World.cell?_of_block (a:=⟨i,j,none⟩) (Xkc _ _ _ _ _ _ hi)).trans h.1
 have hB:Below W.w.heap.size W.w (Ycw V2.w n5 a b c d):=((((Xsi T).setCell (p:=⟨n5,0,none⟩) U a).setCell (p:=⟨n5,1,none⟩) U b).setCell (p:=⟨n5,2,none⟩) U c).setCell (p:=⟨n5,3,none⟩) U d
 refine⟨gwt V2 _ M,rfl,O,λ_ _ h=>h,Ydx T M hB hc,Xw6 M hc,Xvi (Xod I gO) a b c d,W0j I.size M,λk o hk h=>?_⟩
 exact(Xkc _ _ _ _ _ _ hk).trans (Xod I h)
theorem Xjo{W V:Vm.GW}{B:Nat}(M:Vm.Fm W V (λ_=>False)){w:World}{row:Option Nat}(T:W.w.heap.size<=B)(I:V.w.grownBy w row)(hr:∀r,row=some r->B<=r/\∃o:Obj,V.w.heap[r]?=some o/\o.isCells=false):
 ∃V':Vm.GW,V'.w=w/\V'.A=V.A/\Vm.Fm W V' (λ_=>False)/\Vm.LeF V V' :=
 have O:∀i j v,Vm.Fr V i j v->w.cell? ⟨i,j,none⟩=some v:=λi j v h=>Yar I (λr e=>(hr r e).2) h
 ⟨gwt V w I.size,rfl,rfl,Ydx M I.size ((Xsi M).grown I M.size (λk e=>W0j T (hr k e).1)) O,Xw6 I.size O⟩
theorem Ydw{W V:Vm.GW}(I:Vm.Fm W V (λ_=>False)){w:World}(M:Below V.w.heap.size V.w w){X:Nat->Prop}(T:∀i,X i->W.w.heap.size<=i/\i<w.heap.size)(hf:∀i j v,X i->¬Vm.Fr V i j v): Vm.Fm W (gwx V w X M.size λi h=>(T i h).2) (λ_=>False)/\Vm.LeF V (gwx V w X M.size λi h=>(T i h).2):=by
 have O:Vm.LeF V (gwx V w X M.size λi h=>(T i h).2):=λi j v h=>⟨(World.cell?_of_block (a:=⟨i,j,none⟩) (M.block i (Ygv h))).trans h.1,λk=>k.elim h.2 λe=>hf i j v e h⟩
 have o:=(Xsi I).trans (M.mono I.size)
 exact⟨{ os := o.os, out := o.output, tape := o.tape, size := o.size, same := λb hb _ => o.block b hb
         A:=λb hb _ i=>⟨λk=>k.elim (λk=>(I.A b hb id i).1 k) λe=>absurd (T b e).1 (Nat.not_le_of_lt hb),λk=>.inl ((I.A b hb id i).2 k)⟩
         le:=I.le.trans O },O⟩
theorem Yhi{α i:Type}(f:α->i)(l:List i)(d:i)(el:Nat->α)(h:∀q,q<l.length->f (el q)=l.getD q d): (bkq l.length el l.length).map f=l.reverse:=by
 refine W4t λk=>?_
 by_cases j:k<l.length
 rw[List.getElem?_reverse j]
 simp only[bkq,List.map_map,W2c]
 rw[List.getElem?_range j]
 have o:=h (l.length-1-k) (by omega)
 simp only[W3m,Function.comp]
 rw[o,W2g]
 obtain⟨y,I⟩:∃y,l[l.length-1-k]?=some y:=⟨_,W0e (by omega)⟩
 rw[I]
 rfl
 rw[W1y (by simp[bkq];omega),W1y (by simp;omega)]
theorem Xyh{Bs b off cap N:Nat}(hN:N<=100){α:Type}(el:Nat->α)(h:α->C4)(encs:α->Array Value)(j:∀q,encs (el q)=#[.int .i64 (q:Int),(h (el q)).v]){w0:World}{ty:TypeId}(I:w0.heap[Bs]?=some (.cells #[.slice (some ⟨b,off,none⟩) N cap] ty (0,0)))(hb:b<w0.heap.size)
 (o:∀q,q<N->w0.cell? ⟨b,off+q*4,none⟩=some (h (el q)).1/\w0.cell? ⟨b,off+q*4+1,none⟩=some (h (el q)).2.1/\w0.cell? ⟨b,off+q*4+2,none⟩=some (h (el q)).2.2.1/\w0.cell? ⟨b,off+q*4+3,none⟩=some (h (el q)).2.2.2) :
 SeqStopsK Fence.wide 7 Tryz.prog 352 #[.pointer (some ⟨Bs,0,none⟩)] encs (Kz Bs b) (λys=>ys=bkq N el N) (λ_=>True) N w0:=by
 intro T J Jx Wb M hJ U Z h0
 have O:∀V,Kz Bs b Wb V->V.heap[Bs]?=some (.cells #[.slice (some ⟨b,off,none⟩) N cap] ty (0,0))/\V.heap[b]?=w0.heap[b]?:=λV i=>⟨(i.s.trans (M.block _ (Xem I))).trans I,i.d.trans (M.block _ hb)⟩
 refine Ybp Fence.wide 7 trivial rfl (by decide) T Bs b off cap N hN el h encs j (Kz Bs b) Kz.trans Wb ?_ ?_ ⟨rfl,rfl⟩ J Jx Z h0
 intro V i
 rw[Xar (O V i).1];rfl
 intro V i q hq
 obtain⟨e0,e1,e2,e3⟩:=o q hq
 have e:=(O V i).2
 exact⟨(World.cell?_of_block (a:=⟨b,_,none⟩) e).trans e0,(World.cell?_of_block (a:=⟨b,_,none⟩) e).trans e1,(World.cell?_of_block (a:=⟨b,_,none⟩) e).trans e2,(World.cell?_of_block (a:=⟨b,_,none⟩) e).trans e3⟩
end
section
open Go.RowKit Go.Shelf
attribute [local go_sem] Oper.semAt_some
def evl(l:List Rat)(x:Rat): Rat:=l.reverse.foldl (λo c=>o*x+c) ((0:Int):Rat)
set_option maxRecDepth 100000 in
set_option maxHeartbeats 4000000 in
theorem Yh4{l:List Rat}{x:Rat}(h0:l≠[])(hl:l.length<=4)(hq:∀y∈l,Qs 64 y)(hx:Qs 64 x): C0 246 [.d (dqs l),.d (dq x)] (·=.d (dq (evl l x))):=by
 refine⟨⟨_,Tryz.func246,rfl,rfl⟩,λW vs hg ha=>?_⟩
 match vs,ha with
 | [va,vx],ha =>
 obtain⟨p,cp,rfl,hc1,hc2,hrow⟩:=Vm.V_sl ha.1
 obtain⟨cx,rfl,hX⟩:=QC.of ha.2.1
 have hm:(l.map dq).length=l.length:=lq l
 rw[hm] at hc1 |-
 obtain⟨b,off,rfl,hr⟩:=hrow.resolve_left λe=>h0 (List.map_eq_nil_iff.1 e)
 have hel:∀q:Nat,∃c:C4,q<l.length->QC W (l.getD q 0) c/\Vm.Fr W b (off+q*4) c.1/\Vm.Fr W b (off+q*4+1) c.2.1/\Vm.Fr W b (off+q*4+2) c.2.2.1/\Vm.Fr W b (off+q*4+3) c.2.2.2:=λq=>by
  by_cases h:q<l.length
  obtain⟨y,hy⟩:=qat h
  obtain⟨e,h1,h2,h3⟩:=Vm.D.row_get hr (mp hy)
  have hle:e.length=4:=Vm.D.at_len (dq y) h1
  match e,hle with
  | [c0,c1,c2,c3],_ =>
   refine⟨(c0,c1,c2,c3),λ_=>⟨?_,h3 0 _ rfl,h3 1 _ rfl,h3 2 _ rfl,h3 3 _ rfl⟩⟩
   rw[W2g,hy];exact h1
  exact⟨(undef,undef,undef,undef),λk=>absurd k h⟩
 obtain⟨ec,hec⟩:=W6m hel
 refine(callsIn_wide (n:=8)).1 (callsIn_of_wp_marks Tryz.func246 rfl trivial ?_ rfl)
 simp only[Tryz.ntmps246,W5e,W1j,W3r,Nat.reduceAdd,Nat.reduceSub,W4p,W4q,W5f,W4v,W3s,W4g]
 obtain⟨x0,x1,x2,x3⟩:=cx
 simp only[C4.v] at *
 gi_wp2
 obtain⟨n0,hn0⟩:∃n0,n0=W.w.heap.size:=⟨_,rfl⟩
 have hB2:Below W.w.heap.size W.w ((W.w.alloc (.cells #[x0,x1,x2,x3] 60)).alloc (.cells #[.bool false,.slice none 0 0,.bool false,.slice none 0 0] 60)):=((Below.refl _ W.w).alloc (W0a _) _).alloc (by simp) _
 obtain⟨W2,hw2,hA2,hF2⟩:∃W2:Vm.GW,W2.w=((W.w.alloc (.cells #[x0,x1,x2,x3] 60)).alloc (.cells #[.bool false,.slice none 0 0,.bool false,.slice none 0 0] 60))/\(∀i,W2.A (W.w.heap.size+1) i)/\Vm.Fm W W2 (λ_=>False) :=
  ⟨_,rfl,λi=>Or.inr rfl,(Ydw (Vm.Fm.refl W _) hB2 (X:=λi=>i=W.w.heap.size+1) (λi e=>⟨by omega,by rw[e];simp⟩) (λi j v e h=>by have:=Ygv h;omega)).1⟩
 refine⟨trivial,(hw2 ▸ Ymg (Vm.Gb.mono _ _ hF2.le hg) 7).mono ?_⟩
 rintro e w3 ⟨V3,rfl,hF3,co,rfl,hQ0⟩
 obtain⟨s,sp,sn,sm,t,tp,tn,tm,rfl⟩:=hQ0.form
 simp only[C4.v]
 gi_wp2
 refine⟨trivial,(Xyi Fence.wide 7 trivial rfl _ _ _ _).mono ?_⟩
 rintro e w5 ⟨rfl,hw5⟩
 gi_wp2
 have hlen:0<l.length:=W6l.2 h0
 have hlt0:∀ {i j v},W.w.cell? ⟨i,j,none⟩=some v->i<W.w.heap.size:=λ{i j v} h=>by
  apply W0t
  intro hn
  simp only[World.cell?] at h
  rw[W3y (by omega)] at h
  cases h
 have hbn:b<W.w.heap.size:=hlt0 (hec 0 hlen).2.1.1
 have hs2:W2.w.heap.size=W.w.heap.size+2:=by rw[hw2];simp
 have hs3:W.w.heap.size+2<=V3.w.heap.size:=by rw[<-hs2];exact hF3.size
 obtain⟨n5,hn5⟩:∃n5,n5=V3.w.heap.size:=⟨_,rfl⟩
 have hX3:V3.w.heap[W.w.heap.size]?=some (.cells #[x0,x1,x2,x3] 60 (0,0)):=by
  rw[hF3.same _ (by show _<W2.w.heap.size;omega) id,hw2]
  exact(Below.heap_alloc _ _ _ (by simp)).trans (World.alloc_heap_new W.w _)
 have hR3:V3.w.heap[W.w.heap.size+1]?=some (.cells #[.bool false,.slice none 0 0,.bool false,.slice none 0 0] 60 (0,0)):=by
  rw[hF3.same _ (by show _<W2.w.heap.size;omega) id,hw2]
  have:=World.alloc_heap_new (W.w.alloc (.cells #[x0,x1,x2,x3] 60)) (.cells #[.bool false,.slice none 0 0,.bool false,.slice none 0 0] 60)
  rwa[World.size_alloc] at this
 have hB3:Below W.w.heap.size W.w V3.w:=by
  have h:=(Xsi hF3).mono (by omega:W.w.heap.size<=W2.w.heap.size)
  rw[hw2] at h
  exact hB2.trans h
 have hn6:W.w.heap.size+2<=n5:=by omega
 let w5:=(V3.w.alloc (.cells #[.bool s,.slice sp sn sm,.bool t,.slice tp tn tm] 60)).alloc (.cells #[.slice (some ⟨b,off,none⟩) l.length cp] 36)
 have hS5:w5.heap[n5+1]?=some (.cells #[.slice (some ⟨b,off,none⟩) l.length cp] 36 (0,0)):=by
  rw[hn5]
  have:=World.alloc_heap_new (V3.w.alloc (.cells #[.bool s,.slice sp sn sm,.bool t,.slice tp tn tm] 60)) (.cells #[.slice (some ⟨b,off,none⟩) l.length cp] 36)
  rwa[World.size_alloc] at this
 have hW5:w5.heap[b]?=W.w.heap[b]?:=(Below.heap_alloc _ _ _ (by simp;omega)).trans ((Below.heap_alloc _ _ _ (by omega)).trans (hB3.block b hbn))
 have hO5:w5.heap[n5]?=some (.cells #[.bool s,.slice sp sn sm,.bool t,.slice tp tn tm] 60 (0,0)):=by
  rw[hn5]
  exact(Below.heap_alloc _ _ _ (by simp)).trans (World.alloc_heap_new _ _)
 have hb5:b<w5.heap.size:=by simp[w5];omega
 let α:={ y:Nat×C4×Rat // QC W y.2.2 y.2.1/\Qs 64 y.2.2 }
 have hq':∀q,q<l.length->Qs 64 (l.getD q 0):=λq h=>by
  obtain⟨y,hy⟩:=qat h
  rw[W2g,hy]
  exact hq y (W0h hy)
 let el:Nat->α:=λq=>if h:q<l.length then ⟨(q,ec q,l.getD q 0),(hec q h).1,hq' q h⟩ else ⟨(q,ec 0,l.getD 0 0),(hec 0 hlen).1,hq' 0 hlen⟩
 have el1:∀q,(el q).1.1=q:=λq=>by
  simp only[el]
  split<;>rfl
 have el2:∀q,q<l.length->(el q).1.2=(ec q,l.getD q 0):=λq h=>by
  simp only[el]
  rw[dif_pos h]
 have hev:(bkq l.length el l.length).foldl (λo (y:α)=>o*x+y.1.2.2) ((0:Int):Rat)=evl l x:=by
  rw[evl,<-Yhi (λy:α=>y.1.2.2) l 0 el (λq h=>by rw[el2 q h]),List.foldl_map]
 let I:List α->World->Prop:=λpre Wk=>∃V:Vm.GW,V.w=Wk/\(∀i,V.A n5 i/\V.A (W.w.heap.size+1) i)/\Vm.Fm W V (λ_=>False)/\Wk.heap[W.w.heap.size]?=some (.cells #[x0,x1,x2,x3] 60 (0,0))/\Wk.heap[W.w.heap.size+1]?=some (.cells #[.bool false,.slice none 0 0,.bool false,.slice none 0 0] 60 (0,0))/\Wk.heap[n5+1]?=some (.cells #[.slice (some ⟨b,off,none⟩) l.length cp] 36 (0,0))/\Qs (64+129*pre.length) (pre.foldl (λo (y:α)=>o*x+y.1.2.2) ((0:Int):Rat))/\∃co:C4,QC V (pre.foldl (λo (y:α)=>o*x+y.1.2.2) ((0:Int):Rat)) co/\Wk.heap[n5]?=some (.cells #[co.1,co.2.1,co.2.2.1,co.2.2.2] 60 (0,0))
 refine wpIn_rangeFunc_ownH rfl (by decide) (gf:=352) (lb:=#[.pointer (some ⟨V3.w.heap.size+1,0,none⟩)]) rfl trivial (enters_of Tryz.func352 (by kernel_rfl) rfl)
  (α:=α) (encs:=λy=>#[.int .i64 (y.1.1:Int),y.1.2.1.v]) (Kp:=Kz (n5+1) b) (S:=λys=>ys=bkq l.length el l.length) (Sp:=λ_=>True) (N:=l.length) (w0:=w5) ?hseq Kz.trans ?hKb (Below.refl _ _) (λ_=>rfl) I (λ_ _ _=>False) ?hI (λ_ _ _ _ _ hs _ _=>hs) ?h0
  (λy a' W'=>∃B7,a'={ tmps:=#[.slice (some ⟨b,off,none⟩) l.length cp,.agg #[x0,x1,x2,x3],undef,.pointer (some ⟨W.w.heap.size,0,none⟩),.pointer (some ⟨W.w.heap.size+1,0,none⟩),.pointer (some ⟨V3.w.heap.size,0,none⟩),undef,.pointer (some ⟨B7,0,none⟩),.agg #[.bool s,.slice sp sn sm,.bool t,.slice tp tn tm],.slice (some ⟨b,off,none⟩) l.length cp,.func (.func 352) #[] #[.pointer (some ⟨V3.w.heap.size+1,0,none⟩)],.int .i64 (y.1.1:Int),y.1.2.1.v,undef,undef,undef,undef,undef,undef],defers:=[] }/\V3.w.heap.size<B7/\W'.heap[B7]?=some (.cells #[y.1.2.1.1,y.1.2.1.2.1,y.1.2.1.2.2.1,y.1.2.1.2.2.2] 60 (0,0)))
  ?hAx ?assign ?body ?done ?stop
 case hseq =>
  rw[<-hn5]
  exact Xyh (hN:=by omega) el (λy:α=>y.1.2.1) _ (λq=>by simp only[el1]) hS5 hb5 (λq hq=>by
   obtain⟨-,e0,e1,e2,e3⟩:=hec q hq
   rw[show (el q).1.2.1=ec q by rw[el2 q hq]]
   exact⟨(World.cell?_of_block (a:=⟨b,_,none⟩) hW5).trans e0.1,(World.cell?_of_block (a:=⟨b,_,none⟩) hW5).trans e1.1,(World.cell?_of_block (a:=⟨b,_,none⟩) hW5).trans e2.1,(World.cell?_of_block (a:=⟨b,_,none⟩) hW5).trans e3.1⟩)
 case hKb =>
  intro Wb lp o o' hlp ho _ _
  have h1:n5+1<lp:=by have:w5.heap.size<=lp:=hlp;simp[w5] at this;omega
  exact⟨(grownBy_putObj' Wb lp o').block _ (by have:=Xem ho;omega) (by simp;omega),(grownBy_putObj' Wb lp o').block _ (by have:=Xem ho;omega) (by simp;omega)⟩
 case hI =>
  rintro pre Wb W' row ⟨V,rfl,hA,hFm,gX,gR,gS,hqo,co,hco,gO⟩ hg' hr'
  obtain⟨V',hw',hA',hFm',hLe'⟩:=Xjo hFm (B:=w5.heap.size) (by simp[w5];omega) hg' hr'
  have hk:∀(i:Nat) (o:Obj),V.w.heap[i]?=some o->o.isCells=true->W'.heap[i]?=some o:=λi o h ho=>Xjr hg' (λr e=>(hr' r e).2) h ho
  exact⟨V',hw',by rw[hA'];exact hA,hFm',hk _ _ gX rfl,hk _ _ gR rfl,hk _ _ gS rfl,hqo,co,hco.mono hLe',hk _ _ gO rfl⟩
 case h0 =>
  have hB5:Below V3.w.heap.size V3.w w5:=((Below.refl _ V3.w).alloc (W0a _) _).alloc (by simp) _
  have hF5:=Ydw (Xp3 hF2 hF3) hB5 (X:=λi=>i=n5) (λi e=>⟨by omega,by rw[e];exact Xem hO5⟩) (λi j v e h=>by have:=Ygv h;omega)
  have hk:∀i o,V3.w.heap[i]?=some o->w5.heap[i]?=some o:=λi o h=>(hB5.block i (Xem h)).trans h
  refine⟨_,rfl,λi=>⟨Or.inr rfl,Or.inl ((hF3.A _ (by show _<W2.w.heap.size;omega) id i).2 (hA2 i))⟩,hF5.1,hk _ _ hX3,hk _ _ hR3,?_,?_,_,hQ0.mono hF5.2,?_⟩
  exact hS5
  exact qs0.mono (by simp only[W3r];omega)
  exact hO5
 case hAx =>
  rintro y a' _ Wb W' row ⟨B7,rfl,hB7,h7⟩ hg' hr'
  exact⟨B7,rfl,hB7,Xjr hg' (λr e=>(hr' r e).2) h7 rfl⟩
 case assign =>
  rintro lp pre y Wb K ⟨V,rfl,hA,hFm,gX,gR,gS,hqo,co,hco,gO⟩ hK
  obtain⟨⟨yi,yc,yq⟩,hyq,hys⟩:=y
  obtain⟨d0,d1,d2,d3,d4,d5,d6,d7,rfl⟩:=hyq.form
  simp only[C4.v]
  gi_wp2
  obtain⟨V',hw',hA',hFm',hLe'⟩:=Xjo (w:=V.w.alloc (Obj.cells #[Value.bool d0,Value.slice d1 d2 d3,Value.bool d4,Value.slice d5 d6 d7] 60)) hFm (W0a _) (World.grownBy_alloc _ _ none) (λr e=>by cases e)
  have hk:∀i o,V.w.heap[i]?=some o->V'.w.heap[i]?=some o:=λi o h=>by rw[hw'];exact(Below.heap_alloc _ _ _ (Xem h)).trans h
  refine hK _ _ ((KeepsOthers.alloc _ _).from _) ⟨?_,?_⟩ ⟨V',hw',by rw[hA'];exact hA,hFm',hw' ▸ hk _ _ gX,hw' ▸ hk _ _ gR,hw' ▸ hk _ _ gS,hqo,co,hco.mono hLe',hw' ▸ hk _ _ gO⟩ ⟨V.w.heap.size,rfl,?_,World.alloc_heap_new _ _⟩
  exact(hw' ▸ hk _ _ gS).trans gS.symm
  exact Below.heap_alloc _ _ _ (W0y hbn hFm.size)
  have:=Xem gS
  omega
 case body =>
  rintro lp pre y a' Wb _ _ hI ⟨B7,rfl,hB7,h7⟩ hpl
  obtain⟨V,rfl,hA,hFm,gX,gR,gS,hqo,co,hco,gO⟩:=hI
  rw[<-hn5] at *
  obtain⟨⟨yi,yc,yq⟩,hyq,hys⟩:=y
  have hyc:QC V yq yc:=hyq.mono hFm.le
  obtain⟨d0,d1,d2,d3,d4,d5,d6,d7,rfl⟩:=hyc.form
  obtain⟨o0,o1,o2,o3,o4,o5,o6,o7,rfl⟩:=hco.form
  have hX':QC V x (x0,x1,x2,x3):=hX.mono hFm.le
  have cO0:=Xar gO 0
  have cO1:=Xar gO 1
  have cO2:=Xar gO 2
  have cO3:=Xar gO 3
  have cX0:=Xar gX 0
  have cX1:=Xar gX 1
  have cX2:=Xar gX 2
  have cX3:=Xar gX 3
  have c70:=Xar h7 0
  have c71:=Xar h7 1
  have c72:=Xar h7 2
  have c73:=Xar h7 3
  simp at cO0 cO1 cO2 cO3 cX0 cX1 cX2 cX3 c70 c71 c72 c73
  have hmx:Tryz.prog.follows .mixedOrders=true:=by kernel_rfl
  simp only[C4.v]
  gi_wp2
  gi_region_with_o (first
   | (refine⟨trivial, ?_⟩
      gi_at_call 43
      refine(CallsIn.inRound lp (Yeb (V:=gwd V) (Xby hqo hx (by omega)) (Vm.Gb.mono _ _ (hFm.le.trans (Xkp V)) hg) (hco.mono (Xkp V)) (hX'.mono (Xkp V)) _)).mono ?_
      rintro e w' ⟨V1,rfl,hF1,cr,rfl,hQ1⟩
      obtain⟨r0,r1,r2,r3,r4,r5,r6,r7,rfl⟩:=hQ1.form
      have h71:=Xod hF1 (show (gwd V).w.heap[B7]?=_ from h7)
      have hO1:=Xod hF1 (show (gwd V).w.heap[n5]?=_ from gO)
      have e70:=Xar h71 0
      have e71:=Xar h71 1
      have e72:=Xar h71 2
      have e73:=Xar h71 3
      simp at e70 e71 e72 e73
      simp only[C4.v])
   | (refine⟨trivial, ?_⟩
      gi_at_call 107
      refine(CallsIn.inRound lp (Yeb (V:=V1) (Xc0 (Qs.mul hqo hx) hys (by omega)) (Vm.Gb.mono _ _ ((hFm.le.trans (Xkp V)).trans hF1.le) hg) hQ1 (hyc.mono ((Xkp V).trans hF1.le)) _)).mono ?_
      rintro e w' ⟨V2,rfl,hF2',cr2,rfl,hQ2⟩
      obtain⟨s0,s1,s2,s3,s4,s5,s6,s7,rfl⟩:=hQ2.form
      have hO2:=Xod hF2' hO1
      have u0:=Xar hO2 0
      have u1:=Xar hO2 1
      have u2:=Xar hO2 2
      have u3:=Xar hO2 3
      have f0:=Xhu hO2 0
      have f1:=Xhu hO2 1
      have f2:=Xhu hO2 2
      have f3:=Xhu hO2 3
      simp at u0 u1 u2 u3
      simp only[C4.v]))
  all_goals
   obtain⟨V',hw',hA',hAk,hFm',hLe',hO',hsz,hsame⟩:=Xsn (by omega) hFm (Xp3 (Ydy V) (Xp3 hF1 hF2')) (λi=>(hA i).1) gO (.bool s0) (.slice s1 s2 s3) (.bool s4) (.slice s5 s6 s7)
   show KeepsFrom _ _ _/\Kz _ _ _ _/\I _ _
   rw[show ((((V2.w.setCell { block:=n5,off:=0 } (Value.bool s0)).setCell { block:=n5,off:=1 } (Value.slice s1 s2 s3)).setCell { block:=n5,off:=2 } (Value.bool s4)).setCell { block:=n5,off:=3 } (Value.slice s5 s6 s7))=V'.w from hw'.symm]
   refine⟨⟨hsz,λk o _ hk ho=>hsame k o (by rintro rfl;rw[gO] at hk;cases hk;cases ho) hk⟩,⟨(hsame _ _ (by omega) gS).trans gS.symm,(hFm'.same b hbn id).trans (hFm.same b hbn id).symm⟩,V',rfl,λi=>⟨hA' i,((Xp3 (Ydy V) (Xp3 hF1 hF2')).A _ (Xem gR) id i).2 (hA i).2 |> hAk _ i⟩,hFm',hsame _ _ (by omega) gX,hsame _ _ (by omega) gR,hsame _ _ (by omega) gS,?_,(.bool s0,.slice s1 s2 s3,.bool s4,.slice s5 s6 s7),?_,hO'⟩
   rw[List.foldl_append,W0i]
   exact((hqo.mul hx).add hys).mono (by simp only[W1j,W3r];omega)
   rw[List.foldl_append]
   exact hQ2.mono hLe'
 case done =>
  rintro D xs Wd hD rfl ⟨V,rfl,hA,hFm,gX,gR,gS,hqo,co,hco,gO⟩ hDd
  obtain⟨o0,o1,o2,o3,o4,o5,o6,o7,rfl⟩:=hco.form
  have cO0:=Xar gO 0
  have cO1:=Xar gO 1
  have cO2:=Xar gO 2
  have cO3:=Xar gO 3
  have cR0:=Xar gR 0
  have cR1:=Xar gR 1
  have cR2:=Xar gR 2
  have cR3:=Xar gR 3
  have f0:=Xhu gR 0
  have f1:=Xhu gR 1
  have f2:=Xhu gR 2
  have f3:=Xhu gR 3
  simp at cO0 cO1 cO2 cO3 cR0 cR1 cR2 cR3
  have hD5:n5+2<=D:=by rw[hn5];simpa using hD
  rw[<-hn5] at *
  gi_wp2
  obtain⟨V',hw',-,-,hFm',hLe',hR',hsz,hsame⟩:=Xsn (n5:=W.w.heap.size+1) (by omega) hFm (Vm.Fm.refl V _) (λi=>(hA i).2) gR (.bool o0) (.slice o1 o2 o3) (.bool o4) (.slice o5 o6 o7)
  rw[show ((((V.w.setCell { block:=W.w.heap.size+1,off:=0 } (Value.bool o0)).setCell { block:=W.w.heap.size+1,off:=1 } (Value.slice o1 o2 o3)).setCell { block:=W.w.heap.size+1,off:=2 } (Value.bool o4)).setCell { block:=W.w.heap.size+1,off:=3 } (Value.slice o5 o6 o7))=V'.w from hw'.symm]
  have hDd':=hsame _ _ (by omega) hDd
  refine⟨by simp,.inl ⟨_,_,rfl,run_takeDeferred hDd',?_⟩⟩
  obtain⟨V'',hw'',-,hFm'',hLe''⟩:=Xjo hFm' (W0a _) (grownBy_putObj' V'.w D (.deferred none)) (λr e=>by cases e;exact⟨by omega,_,hDd',rfl⟩)
  have hR'':=Xjr (grownBy_putObj' V'.w D (.deferred none)) (λr e=>by cases e;exact⟨_,hDd',rfl⟩) hR' rfl
  obtain⟨fs,hu⟩:∃fs,Tryz.prog.underlying 60=some (.struct fs):=⟨_,rfl⟩
  refine⟨_,results_cell_row rfl _ _ _ _ _ _ _ rfl hR'' hu rfl rfl,V'',_,_,rfl,hw'',hFm'',(hco.mono (hLe'.trans hLe'')).v,λ_ h=>h,?_⟩
  rw[<-hev]
 case stop =>
  rintro D c pre Wd _ _ h _
  exact h.elim
end
section
theorem Yd4{x:Rat}(i:Qs 64 x): ∀(l:List Rat) (o:Rat) (p:Nat),Qs p o->(∀y∈l,Qs 64 y)->Qs (p+129*l.length) (l.foldl (λo c=>o*x+c) o)
 | [],_,p,h,_=>by simpa using h
 | c::l,o,p,h,hq=>by
  have j:=Yd4 i l (o*x+c) (p+129) (((h.mul i).add (hq c (W0w ..))).mono (by omega)) λy I=>hq y (W1c _ I)
  exact j.mono (by simp only[W1j];omega)
theorem Ylr{l:List Rat}{x:Rat}(j:l.length<=4)(hq:∀y∈l,Qs 64 y)(h:Qs 64 x): Qs 10000 (evl l x) :=
 (Yd4 h l.reverse _ 1 (qs0.mono (W0a 1)) λy i=>hq y (List.mem_reverse.1 i)).mono (by rw[List.length_reverse];omega)
theorem Ybr: C0 148 [.d (dqs pX)] (·=.d (dI (-3,3))):=by
 refine En Tryz.func148 λ_ _ _=>?_
 exact Ce rfl Yh6<|Dw rfl<|Ce rfl (Xea (x:=3) (p:=64) (by decide +kernel) (by decide))<|R1 rfl (Xue rfl rfl)
theorem Xwl{a b:Rat}(ha:Qs 64 a)(hb:Qs 64 b): C0 245 [.d (dI (a,b))] (·=.d (dq ((a+b)*Rat.divInt 1 2))):=by
 refine En Tryz.func245 λ_ _ _=>?_
 exact Ce rfl (Xc0 ha hb (by decide))<|Ce rfl (Xck (a:=1) (b:=2) (by decide) (by decide))<|Ce rfl (Xby (ha.add hb) (Qs.divInt (p:=64) (by decide) (by decide) (by decide)) (by decide))<|R0
theorem Yh5: C0 147 [.d (dqs pX)] (·=.d (dts [pX,dX,[2]])):=by
 refine En Tryz.func147 λ_ _ _=>?_
 refine Ce rfl (Xjx (l:=pX) (s:=64) (by decide +kernel) (by decide) Xlx (by decide) (by decide +kernel))<|No rfl (by decide +kernel)<|Ce rfl Xom<|Ce rfl Xyz<|Lo (λk:Nat=>if k=0 then [(3,.d (dqs pX)),(4,.d (dqs dX)),(5,.lit 1 [dqs pX,dqs dX])] else [(3,.d (dqs dX)),(4,.d (dqs [2])),(5,.own 41 1 0 3)]) (λk=>if k=0 then [] else [(41,.arr 1 [dqs pX,dqs dX,dqs [2]])]) (λk=>k<=1) (λk=>1-k) 0 [] rfl (W0r _) (λk h=>?_)
 rcases(by omega:k=0\/k=1) with rfl | rfl
 refine Ce rfl Yb8<|No rfl (by decide)<|No rfl (by decide)<|Ce rfl (Xah (z:=-1) (by decide))<|Ce rfl Yhz<|ApL [dqs pX,dqs dX,dqs [2]] rfl rfl (by decide) (by decide) ?_
 exact Bk 1 [] rfl (by decide) (by decide)
 exact Ce rfl Yb7<|No rfl (by decide)<|Yes rfl (by decide)<|R1 (r:=.d (dts [pX,dX,[2]])) rfl (.own rfl (W0a 3) rfl)
def stp(x:Rat)(a:Int×Int)(l:List Rat): Int×Int:=if Xa9 (evl l x).num 0=0 then a else (if a.2=-Xa9 (evl l x).num 0 then a.1+1 else a.1,Xa9 (evl l x).num 0)
theorem Xt9{L:List (List Rat)}{x:Rat}(M:L.length<=10)(hq:∀l∈L,l≠[]/\l.length<=4/\∀y∈l,Qs 64 y)(I:Qs 64 x): C0 150 [.d (dts L),.d (dq x)] (·=.d (.int .i64 (L.foldl (stp x) (0,0)).1)):=by
 have O:(L.map dqs).length=L.length:=W1k ..
 refine En Tryz.func150 λ_ _ _=>?_
 refine Lo (λ((k,n,p):Nat×Int×Int)=>[(3,.ptr 3 0),(4,.d (.int .i64 0)),(5,.d (.int .i64 n)),(6,.d (.int .i64 p)),(10,.d (dts L)),(11,.d (.int .i64 (L.map dqs).length)),(12,.d (.int .i64 k))]) (λ_=>[(3,.var (.d (dq x)))]) (λ(k,n,p)=>(L.take k).foldl (stp x) (0,0)=(n,p)/\k<=L.length/\(0<=n/\n<=k)/\-1<=p/\p<=1) (λ(k,_)=>L.length-k) (0,0,0) [] rfl ⟨rfl,W0r _,by decide,by decide⟩ (λ(k,n,p) hI=>?_)
 obtain⟨hf,T,U,hp⟩:(L.take k).foldl (stp x) (0,0)=(n,p)/\k<=L.length/\(0<=n/\n<=k)/\-1<=p/\p<=1:=hI
 refine By rfl (λh=>?_) λh=>?_
 have h:(k:Int)<((L.map dqs).length:Nat):=h
 obtain⟨l,j⟩:∃l,L[k]?=some l:=⟨_,W0e (by omega)⟩
 obtain⟨q0,q1,q2⟩:=hq l (W0h j)
 have o:(L.take (k+1)).foldl (stp x) (0,0)=stp x (n,p) l:=by rw[W1w,j,List.foldl_append,hf];rfl
 have V:Xa9 (evl l x).num 0=-1\/Xa9 (evl l x).num 0=0\/Xa9 (evl l x).num 0=1:=by rcases Xay (evl l x).num 0 with ⟨_,g⟩ | ⟨_,g⟩ | ⟨_,g⟩<;>omega
 refine Ix k rfl (mp j)<|Ce rfl (Yh4 q0 q1 q2 I)<|Ce rfl (Xbv (Ylr q1 q2 I) (by decide))<|By rfl (λh0=>?_) λh0=>?_
 have h0:Xa9 (evl l x).num 0=0:=h0
 refine Ar (k+1:Nat) rfl ?_ (wr (by omega:(k:Int)+1=((k+1:Nat):Int)) (by simp only[inK];omega))
 exact Bk (k+1,n,p) [] rfl ⟨by rw[o];exact if_pos h0,by omega,by omega,hp⟩ (by show L.length-(k+1)<L.length-k;omega)
 have h0:¬Xa9 (evl l x).num 0=0:=h0
 refine Ne (-Xa9 (evl l x).num 0) rfl ?_ (wr (by omega) (by simp only[inK];omega))
 refine By rfl (λi=>?_) λi=>?_
 have i:p=-Xa9 (evl l x).num 0:=i
 refine Ar (n+1) rfl ?_ (wr rfl (by simp only[inK];omega))
 refine Ar (k+1:Nat) rfl ?_ (wr (by omega:(k:Int)+1=((k+1:Nat):Int)) (by simp only[inK];omega))
 exact Bk (k+1,n+1,Xa9 (evl l x).num 0) [] rfl ⟨by rw[o];unfold stp;rw[if_neg h0,if_pos i],by omega,by omega,by omega⟩ (by show L.length-(k+1)<L.length-k;omega)
 have i:¬p=-Xa9 (evl l x).num 0:=i
 refine Ar (k+1:Nat) rfl ?_ (wr (by omega:(k:Int)+1=((k+1:Nat):Int)) (by simp only[inK];omega))
 exact Bk (k+1,n,Xa9 (evl l x).num 0) [] rfl ⟨by rw[o];unfold stp;rw[if_neg h0,if_neg i],by omega,by omega,by omega⟩ (by show L.length-(k+1)<L.length-k;omega)
 have h:¬(k:Int)<((L.map dqs).length:Nat):=h
 rw[W0b (by omega)] at hf
 exact R1 rfl (.eq (by rw[hf]))
theorem Xno{L:List (List Rat)}{i:Rat×Rat}{m n:Int}(j:0<=m/\m<=100)(o:0<=n/\n<=100)(h:m-n=1): C0 149 [.d (dts L),.d (dI i),.d (.int .i64 m),.d (.int .i64 n)] (·=.lit 8 [dI i]):=by
 refine En Tryz.func149 λ_ _ _=>?_
 refine Ar (1:Int) rfl ?_ (wr h (by simp only[inK];decide))
 exact No rfl (by decide)<|Yes rfl (by decide)<|R0
abbrev cX: List (List Rat):=[pX,dX,[2]]
theorem Ypm: ∀l∈cX,l≠[]/\l.length<=4/\∀y∈l,Qs 64 y:=by decide +kernel
theorem Yhd{x:Rat}{n:Int}(i:Qs 64 x)(h:(cX.foldl (stp x) (0,0)).1=n): C0 150 [.d (dts cX),.d (dq x)] (·=.d (.int .i64 n)):=by
 have:=Xt9 (L:=cX) (x:=x) (by decide) Ypm i
 rwa[h] at this
theorem Xws: C0 149 [.d (dts cX),.d (dI (-3,3)),.d (.int .i64 2),.d (.int .i64 0)] (·=.d (.sl 8 [dI (-3,(-3+3)*Rat.divInt 1 2),dI ((-3+3)*Rat.divInt 1 2,3)])):=by
 refine En Tryz.func149 λ_ _ _=>?_
 refine Ar (2:Int) rfl ?_ (wr rfl (by simp only[inK];decide))
 refine No rfl (by decide)<|No rfl (by decide)<|Ce rfl (Xwl (a:=-3) (b:=3) (by decide +kernel) (by decide +kernel))<|Ce rfl (Yhd (x:=(-3+3)*Rat.divInt 1 2) (n:=1) (by decide +kernel) (by decide +kernel))<|Ce rfl (Xno (L:=cX) (i:=(-3,(-3+3)*Rat.divInt 1 2)) (m:=2) (n:=1) (by decide) (by decide) rfl)<|Ce rfl (Xno (L:=cX) (i:=((-3+3)*Rat.divInt 1 2,3)) (m:=1) (n:=0) (by decide) (by decide) rfl)<|ApL [dI (-3,(-3+3)*Rat.divInt 1 2),dI ((-3+3)*Rat.divInt 1 2,3)] rfl rfl (W7r _) (W1e rfl) ?_
 exact R1 (r:=.d (.sl 8 [dI (-3,(-3+3)*Rat.divInt 1 2),dI ((-3+3)*Rat.divInt 1 2,3)])) rfl (.own rfl (W0a 2) rfl)
theorem Xyw: C0 68 [.d (dqs pX)] (·=.d (.sl 8 [dI (-3,(-3+3)*Rat.divInt 1 2),dI ((-3+3)*Rat.divInt 1 2,3)])):=by
 refine En Tryz.func68 λ_ _ _=>?_
 exact Ce rfl Yh5<|No rfl (by decide)<|Ce rfl Ybr<|Dw rfl<|Ce rfl (Yhd (x:=-3) (n:=2) (by decide +kernel) (by decide +kernel))<|Ce rfl (Yhd (x:=3) (n:=0) (by decide +kernel) (by decide +kernel))<|Ce rfl Xws<|R0
end
section
theorem Xv3{x:Rat}{s:Nat}(j:Qs s x)(o:s<=10000): C0 318 [.d (dq x)] (·=.b (dc (x≠0))):=by
 refine En Tryz.func318 λ_ _ _=>?_
 refine Ce rfl (Xbv j (by omega))<|R1 rfl (.bp ?_)
 have h0:=@W5g x
 rw[Xaj]
 rcases Xay x.num 0 with ⟨i,h⟩ | ⟨i,h⟩ | ⟨i,h⟩<;>rw[h,ne_eq,ne_eq,<-h0]<;>omega
theorem Yag{l:List Rat}{n:Nat}{y:Rat}(T:l.length<=100)(hq:∀x∈l,Qs 64 x)(h0:∀i x,i<n->l[i]?=some x->x=0)(I:l[n]?=some y)(M:y≠0): C0 317 [.d (dqs l),.d (fnD 318)] (·=.d (.int .i64 n)):=by
 have O:=(W0s.1 I).1
 refine En Tryz.func317 λ_ _ _=>?_
 refine Lo (λk:Nat=>[(0,.d (dqs l)),(1,.d (fnD 318)),(7,.d (.int .i64 (l.map dq).length)),(8,.d (.int .i64 k))]) (λ_=>[]) (λk=>k<=n) (λk=>n-k) 0 [] rfl (W0r _) (λk U=>?_)
 obtain⟨x,j⟩:=qat (l:=l) (k:=k) (by omega)
 refine Yes rfl (show (k:Int)<((l.map dq).length:Nat) by rw[lq];omega)<|Ix k rfl (mp j)<|Ce rfl (Xv3 (hq x (W0h j)) (by decide))<|By rfl (λo=>?_) λo=>?_
 have e:k=n:=by
  rcases Nat.lt_or_ge k n with h | h
  exact absurd (h0 k x h j) o
  omega
 subst e
 exact R0
 have e:k≠n:=λe=>by
  subst e
  rw[I] at j
  injection j with j
  exact o (j ▸ M)
 refine Ar (k+1:Nat) rfl ?_
 exact Bk (k+1) [] rfl (by omega:k+1<=n) (by show n-(k+1)<n-k;omega)
abbrev Xg7(v c:List Rat): D:=.st (.pr (dqs v) (dqs c))
theorem Xrp{l c:List Rat}{n:Nat}{y:Rat}(h:l.length<=100)(hq:∀x∈l,Qs 64 x)(h0:∀i x,i<n->l[i]?=some x->x=0)(j:l[n]?=some y)(o:y≠0): CN0 234 [.ptr 1000001 0] [(1000001,.var (.d (Xg7 l c)))] (·=.d (.int .i64 n)):=by
 refine EnW Tryz.func234 λ_ _ _ _=>?_
 exact Ce rfl (Yag h hq h0 j o)<|Rw [] [(1000001,.var (.d (Xg7 l c)))] rfl (.one (.rf rfl) rfl rfl) ⟨rfl,rfl⟩
abbrev Yh9(v c:List Rat): Hpl:=[(1000001,.var (.st (.pr (.own 1000002 4 0 (v.map dq).length) (.own 1000003 4 0 (c.map dq).length)))),(1000002,.arr 4 (v.map dq)),(1000003,.arr 4 (c.map dq))]
theorem Xj9{v c l m:List Rat}{n:Nat}{y:Rat}(I:l.length<=100)(hq:∀x∈l,Qs 64 x)(h0:∀i x,i<n->l[i]?=some x->x=0)(h:l[n]?=some y)(j:y≠0)(o:v[n]?=some 0): CW0 142 [.ptr 1000001 0,.d (Xg7 l m)] (Yh9 v c) (λ_ H'=>H'=Yh9 v c):=by
 have M:=(W0s.1 h).1
 have O:=(W0s.1 o).1
 have U:(v.map dq).length=v.length:=lq v
 refine EnW Tryz.func142 λ_ _ _ _=>?_
 refine Cn [(1000001,3)] rfl (Xrp I hq h0 h j) λr T=>?_
 subst T
 refine Dw rfl<|Eo n rfl (by omega)<|Ld (dq 0) rfl (mp o) ?_
 exact Ix n rfl (mp h)<|Ce rfl (Xg9 (x:=0) (y:=y) (p:=64) (q:=64) (by decide +kernel) (hq y (W0h h)) (by decide) j)<|Ce rfl (Xbv (x:=0/y) (p:=64) (by rw[W5n,W3p];decide +kernel) (by decide))<|Yes rfl (by rw[W5n,W3p];decide +kernel)<|Rw [] (Yh9 v c) rfl (.tup (.one (.rf rfl) (λ_ _ e=>by cases e) (λ_ _ e=>by cases e))) rfl
theorem e_1: (2:Rat)-2/1*1=0:=by decide +kernel
theorem e_2: (0:Rat)-2/1*0=0:=by decide +kernel
theorem e_3: (0:Rat)-2/1*1=-2:=by decide +kernel
theorem Xtc: CW0 142 [.ptr 1000001 0,.d (Xg7 [1,0] [1])] (Yh9 [2,0] [0,0,1]) (λ_ H'=>H'=Yh9 [0,0] pX):=by
 have q:∀ {x:Rat},x=0\/x=1\/x=2\/x=2/1->Qs 64 x:=λh=>by rcases h with rfl | rfl | rfl | rfl<;>decide +kernel
 refine EnW Tryz.func142 λ_ _ _ _=>?_
 refine Cn [(1000001,3)] rfl (Xrp (l:=[1,0]) (n:=0) (y:=1) (by decide) (by decide +kernel) (λi x h=>absurd h (W3t _)) rfl (by decide +kernel)) λr M=>?_
 subst M
 refine Dw rfl<|Eo 0 rfl (by decide)<|Ld (dq 2) rfl rfl ?_
 refine Ix 0 rfl (u:=dq 1) rfl<|Ce rfl (Xg9 (x:=2) (y:=1) (p:=64) (q:=64) (q (by simp)) (q (by simp)) (by decide) (by decide +kernel))<|Ce rfl (Xbv (x:=2/1) (p:=64) (q (by simp)) (by decide))<|No rfl (by decide +kernel)<|Lo (λ((k,V):Nat×List Rat)=>[(0,.ptr 1000001 0),(3,.ptr 3 0),(5,.ptr 5 0),(32,.d (dqs [1,0])),(33,.d (.int .i64 2)),(34,.d (.int .i64 k))]) (λ(k,V)=>[(3,.var (.d (Xg7 [1,0] [1]))),(5,.var (.d (dq (2/1)))),(1000001,.var (.st (.pr (.own 1000002 4 0 2) (.own 1000003 4 0 3)))),(1000002,.arr 4 (V.map dq)),(1000003,.arr 4 [dq 0,dq 0,dq 1])]) (λ(k,V)=>k=0/\V=[2,0]\/k=1/\V=[0,0]\/k=2/\V=[0,0]) (λ(k,_)=>2-k) (0,[2,0]) [] rfl (.inl ⟨rfl,rfl⟩) (λ(k,V) I=>?_)
 rcases I with ⟨j,o⟩ | ⟨j,o⟩ | ⟨j,o⟩<;>obtain rfl:k=_:=j<;>obtain rfl:V=_:=o
 refine Yes rfl (by decide)<|Ix 0 rfl (u:=dq 1) rfl<|Dw rfl<|Eo 0 rfl (by decide)<|Ld (dq 2) rfl rfl ?_
 refine Ce rfl (Xby (x:=2/1) (y:=1) (p:=64) (q:=64) (q (by simp)) (q (by simp)) (by decide))<|Ce rfl (Xeu (x:=2) (y:=2/1*1) (p:=64) (q:=128) (q (by simp)) ((q (by simp)).mul (q (by simp))) (by decide))<|Eo 0 rfl (by decide)<|Sto (zs:=[dq 0,dq 0]) rfl (by decide) (by rw[e_1];rfl) ?_
 refine Ar (0+1:Nat) rfl ?_
 exact Bk (0+1,[0,0]) [] rfl (.inr (.inl ⟨rfl,rfl⟩)) (by decide:2-(0+1)<2-0)
 refine Yes rfl (by decide)<|Ix 1 rfl (u:=dq 0) rfl<|Dw rfl<|Eo 1 rfl (by decide)<|Ld (dq 0) rfl rfl ?_
 refine Ce rfl (Xby (x:=2/1) (y:=0) (p:=64) (q:=64) (q (by simp)) (q (by simp)) (by decide))<|Ce rfl (Xeu (x:=0) (y:=2/1*0) (p:=64) (q:=128) (q (by simp)) ((q (by simp)).mul (q (by simp))) (by decide))<|Eo 1 rfl (by decide)<|Sto (zs:=[dq 0,dq 0]) rfl (by decide) (by rw[e_2];rfl) ?_
 refine Ar (1+1:Nat) rfl ?_
 exact Bk (1+1,[0,0]) [] rfl (.inr (.inr ⟨rfl,rfl⟩)) (by decide:2-(1+1)<2-1)
 refine No rfl (by decide)<|Lo (λ((k,V):Nat×List Rat)=>[(0,.ptr 1000001 0),(3,.ptr 3 0),(5,.ptr 5 0),(58,.d (dqs [1])),(59,.d (.int .i64 1)),(60,.d (.int .i64 k))]) (λ(k,V)=>[(3,.var (.d (Xg7 [1,0] [1]))),(5,.var (.d (dq (2/1)))),(1000001,.var (.st (.pr (.own 1000002 4 0 2) (.own 1000003 4 0 3)))),(1000002,.arr 4 [dq 0,dq 0]),(1000003,.arr 4 (V.map dq))]) (λ(k,V)=>k=0/\V=[0,0,1]\/k=1/\V=pX) (λ(k,_)=>1-k) (0,[0,0,1]) [] rfl (.inl ⟨rfl,rfl⟩) (λ(k,V) I=>?_)
 rcases I with ⟨j,o⟩ | ⟨j,o⟩<;>obtain rfl:k=_:=j<;>obtain rfl:V=_:=o
 refine Yes rfl (by decide)<|Ix 0 rfl (u:=dq 1) rfl<|Dw rfl<|Eo 0 rfl (by decide)<|Ld (dq 0) rfl rfl ?_
 refine Ce rfl (Xby (x:=2/1) (y:=1) (p:=64) (q:=64) (q (by simp)) (q (by simp)) (by decide))<|Ce rfl (Xeu (x:=0) (y:=2/1*1) (p:=64) (q:=128) (q (by simp)) ((q (by simp)).mul (q (by simp))) (by decide))<|Eo 0 rfl (by decide)<|Sto (zs:=[dq (-2),dq 0,dq 1]) rfl (by decide) (by rw[e_3];rfl) ?_
 refine Ar (0+1:Nat) rfl ?_
 exact Bk (0+1,pX) [] rfl (.inr ⟨rfl,rfl⟩) (by decide:1-(0+1)<1-0)
 exact No rfl (by decide)<|Rw [] (Yh9 [0,0] pX) rfl (.tup (.one (.rf rfl) (λ_ _ e=>by cases e) (λ_ _ e=>by cases e))) rfl
theorem Yfg{α:Type}{a z:α}{n i:Nat}(hi:i<n): (List.replicate i a++List.replicate (n-i) z).set i a=List.replicate (i+1) a++List.replicate (n-(i+1)) z:=by
 obtain⟨m,h⟩:∃m,n-i=m+1:=⟨n-i-1,by omega⟩
 rw[h,show n-(i+1)=m by omega,W4h,W6w _ _ (by simp),W1o,W3a,List.set_cons_zero,W7b,W6u];rfl
abbrev rt2: Nm:=P11.rt2
theorem Yjr{k:Nat}{pw:List Rat}{i:List D}(h:k=0/\pw=[1,0]/\i=[]\/k=1/\pw=[0,1]/\i=[Xg7 [1,0] [1]]\/k=2/\pw=[2,0]/\i=[Xg7 [1,0] [1],Xg7 [0,1] [0,1]]): k<=2/\pw.length=2:=by
 rcases h with ⟨rfl,rfl,_⟩ | ⟨rfl,rfl,_⟩ | ⟨rfl,rfl,_⟩<;>exact⟨by decide,rfl⟩
theorem Ycj{a b c:List Rat}{x y:Tow.El 1}(ha:toL 1 x=a)(hb:toL 1 y=b)(i:Sz 200 (toL 1 x))(j:Sz 200 (toL 1 y))(h:toL 1 (mul 1 rt2.t x y)=c): C0 89 [.d (dt rt2.t),.d (dqs a),.d (dqs b)] (·=.d (dqs c)):=by
 have o:TS 3 1 rt2.t:=⟨trivial,Sz.rat 0 (x:=2) (by decide +kernel)⟩
 have:=Xdo o i j (by decide) (by decide) (by decide)
 subst ha;subst hb;subst h
 exact this
theorem Yh7{x y:Rat}(i:Qs 64 x)(j:Qs 64 y): Sz 200 (toL 1 ((x,y):Tow.El 1)):=(Sz.all (p:=64) (l:=[x,y]) (λz h=>by
 rcases W1s.1 h with rfl | h
 exact i
 obtain rfl:=W0g.1 h;exact j)).mono (by decide:64*2+1<=200)
theorem Yow: C0 89 [.d (dt rt2.t),.d (dqs [1,0]),.d (dqs [0,1])] (·=.d (dqs [0,1])):=Ycj (x:=((1:Rat),(0:Rat))) (y:=((0:Rat),(1:Rat))) rfl rfl (Yh7 (by decide +kernel) (by decide +kernel)) (Yh7 (by decide +kernel) (by decide +kernel)) (by decide +kernel)
theorem Yov: C0 89 [.d (dt rt2.t),.d (dqs [0,1]),.d (dqs [0,1])] (·=.d (dqs [2,0])):=Ycj (x:=((0:Rat),(1:Rat))) (y:=((0:Rat),(1:Rat))) rfl rfl (Yh7 (by decide +kernel) (by decide +kernel)) (Yh7 (by decide +kernel) (by decide +kernel)) (by decide +kernel)
theorem Xt7: C0 65 [.d (dN rt2)] (·=.d (dqs pX)):=by
 have hT:TS 3 1 rt2.t:=⟨trivial,Sz.rat 0 (x:=2) (by decide +kernel)⟩
 refine En Tryz.func65 λ_ _ _=>?_
 refine Dw rfl<|Ce rfl (Xah (z:=1) (by decide))<|Ce rfl (Xb8 (x:=((1:Int):Rat)) (p:=64) hT (by decide) (by decide) (by decide +kernel) (by decide))<|Nl 3 90 2 rfl ?_
 refine Lo (λ((k,pw,o):Nat×List Rat×List D)=>[(1,.ptr 1 0),(2,.nil),(3,.gr 90 2 o),(4,.d (dqs pw)),(5,.d (.int .i64 k))]) (λ(k,pw,o)=>[(1,.var (.d (dN rt2))),(90,.tok o.length 2)]) (λ(k,pw,o)=>k=0/\pw=[1,0]/\o=[]\/k=1/\pw=[0,1]/\o=[Xg7 [1,0] [1]]\/k=2/\pw=[2,0]/\o=[Xg7 [1,0] [1],Xg7 [0,1] [0,1]]) (λ(k,_,_)=>2-k) (0,[1,0],[]) [] rfl (.inl ⟨rfl,rfl,rfl⟩) (λ(k,pw,o) hI=>?_)
 obtain⟨hk,hp⟩:=Yjr hI
 refine Dw rfl<|Cr rfl (Xeg (l:=pw) (by omega) (by omega)) ?_
 refine Ar (k+1:Nat) rfl ?_ (wr (by omega:(k:Int)+1=((k+1:Nat):Int)) (by simp only[inK];omega))
 refine Mk (k+1) rfl (by omega) ?_
 refine Lo (λ((i,R):Nat×List D)=>[(1,.ptr 1 0),(2,.nil),(3,.gr 90 2 o),(4,.d (dqs pw)),(5,.d (.int .i64 k)),(6,.ptr 6 0),(24,.d (.int .i64 (k+1:Nat))),(25,.d (.int .i64 i))]) (λ(i,R)=>[(1,.var (.d (dN rt2))),(90,.tok o.length 2),(6,.var (.st (.pr (.own 17 4 0 (pw.map dq).length) (.own 20 4 0 (k+1))))),(17,.arr 4 (pw.map dq)),(20,.arr 4 R)]) (λ(i,R)=>i<=k+1/\R=List.replicate i (dq ((0:Int):Rat))++List.replicate (k+1-i) zR) (λ(i,_)=>k+1-i) (0,List.replicate (k+1) zR) [] rfl ⟨W0r _,rfl⟩ (λ(i,R) Z=>?_)
 obtain⟨hi,T⟩:i<=k+1/\R=List.replicate i (dq ((0:Int):Rat))++List.replicate (k+1-i) zR:=Z
 have lR:R.length=k+1:=by rw[T];simp;omega
 refine By rfl (λh=>?_) λh=>?_
 have h:(i:Int)<(k+1:Nat):=h
 refine Dw rfl<|Ce rfl (Xah (z:=0) (by decide))<|Eo i rfl (by omega)<|Sto (zs:=R.set i (dq ((0:Int):Rat))) rfl (by omega) rfl ?_
 refine Ar (i+1:Nat) rfl ?_ (wr (by omega:(i:Int)+1=((i+1:Nat):Int)) (by simp only[inK];omega))
 exact Bk (i+1,R.set i (dq ((0:Int):Rat))) [] rfl ⟨by omega,by rw[T];exact Yfg (by omega)⟩ (by show k+1-(i+1)<k+1-i;omega)
 have h:¬(i:Int)<(k+1:Nat):=h
 obtain rfl:i=k+1:=by omega
 have T:R=List.replicate (k+1) (dq ((0:Int):Rat)):=by rw[T];simp
 refine Dw rfl<|Ce rfl (Xah (z:=1) (by decide))<|Eo k rfl (by omega)<|Sto (zs:=R.set k (dq ((1:Int):Rat))) rfl (by omega) rfl ?_
 subst T
 rcases hI with ⟨I,M,O⟩ | ⟨I,M,O⟩ | ⟨I,M,O⟩<;>obtain rfl:k=_:=I<;>obtain rfl:pw=_:=M<;>obtain rfl:o=_:=O
 refine Lo (λ_:Unit=>[(1,.ptr 1 0),(2,.nil),(3,.gr 90 2 []),(4,.d (dqs [1,0])),(5,.d (.int .i64 0)),(6,.ptr 6 0),(39,.gr 90 2 []),(40,.d (.int .i64 0)),(41,.d (.int .i64 0))]) (λ_=>[(1,.var (.d (dN rt2))),(90,.tok 0 2),(6,.var (.st (.pr (.own 17 4 0 2) (.own 20 4 0 1)))),(17,.arr 4 [dq 1,dq 0]),(20,.arr 4 [dq ((1:Int):Rat)])]) (λ_=>True) (λ_=>0) () [] rfl trivial (λ_ _=>?_)
 refine No rfl (by decide)<|FzV 17 6 17 4 2 [dq 1,dq 0] rfl ?_ ⟨.inl rfl,.inr (by decide)⟩
 refine FzV 17 6 20 4 1 [dq ((1:Int):Rat)] rfl ?_ ⟨trivial,.inl rfl⟩
 refine Ce rfl (Xc5 (l:=[1,0]) (p:=64) (by decide +kernel:∀x∈([1,0]:List Rat),Qs 64 x) (by decide) (by decide))<|No rfl (by decide +kernel)<|ApG [Xg7 [1,0] [1]] rfl rfl (by decide) ?_
 refine Ce rfl Yow<|Ar (0+1:Nat) rfl ?_
 exact Bk (0+1,[0,1],[Xg7 [1,0] [1]]) [(56,90)] rfl (.inr (.inl ⟨rfl,rfl,rfl⟩)) (by decide:2-(0+1)<2-0)
 refine Lo (λj:Nat=>[(1,.ptr 1 0),(2,.nil),(3,.gr 90 2 [Xg7 [1,0] [1]]),(4,.d (dqs [0,1])),(5,.d (.int .i64 1)),(6,.ptr 6 0),(39,.gr 90 2 [Xg7 [1,0] [1]]),(40,.d (.int .i64 1)),(41,.d (.int .i64 j))]) (λ_=>[(1,.var (.d (dN rt2))),(90,.tok 1 2),(6,.var (.st (.pr (.own 17 4 0 2) (.own 20 4 0 2)))),(17,.arr 4 [dq 0,dq 1]),(20,.arr 4 [dq 0,dq 1])]) (λj=>j<=1) (λj=>1-j) 0 [] rfl (W0r _) (λj hj=>?_)
 rcases(by omega:j=0\/j=1) with rfl | rfl
 refine Yes rfl (by decide)<|Ix 0 rfl (u:=Xg7 [1,0] [1]) rfl<|Cw [(1000001,6),(1000002,17),(1000003,20)] rfl (Xj9 (v:=[0,1]) (c:=[0,1]) (l:=[1,0]) (m:=[1]) (n:=0) (y:=1) (by decide) (by decide +kernel) (λi x h=>absurd h (W3t _)) rfl (by decide +kernel) rfl) λv H' _ U=>?_
 subst U
 show Pl.nx' _ _ _ [(6,.var (.st (.pr (.own 17 4 0 2) (.own 20 4 0 2)))),(17,.arr 4 [dq 0,dq 1]),(20,.arr 4 [dq 0,dq 1])]
 refine Ar (0+1:Nat) rfl ?_
 exact Bk (0+1) [] rfl (by decide) (by decide)
 refine No rfl (by decide)<|FzV 17 6 17 4 2 [dq 0,dq 1] rfl ?_ ⟨.inl rfl,.inr (by decide)⟩
 refine FzV 17 6 20 4 2 [dq 0,dq 1] rfl ?_ ⟨trivial,.inl rfl⟩
 refine Ce rfl (Xc5 (l:=[0,1]) (p:=64) (by decide +kernel:∀x∈([0,1]:List Rat),Qs 64 x) (by decide) (by decide))<|No rfl (by decide +kernel)<|ApG [Xg7 [1,0] [1],Xg7 [0,1] [0,1]] rfl rfl (by decide) ?_
 refine Ce rfl Yov<|Ar (1+1:Nat) rfl ?_
 exact Bk (1+1,[2,0],[Xg7 [1,0] [1],Xg7 [0,1] [0,1]]) [(56,90)] rfl (.inr (.inr ⟨rfl,rfl,rfl⟩)) (by decide:2-(1+1)<2-1)
 refine Lo (λ((j,V,C):Nat×List Rat×List Rat)=>[(1,.ptr 1 0),(2,.nil),(3,.gr 90 2 [Xg7 [1,0] [1],Xg7 [0,1] [0,1]]),(4,.d (dqs [2,0])),(5,.d (.int .i64 2)),(6,.ptr 6 0),(39,.gr 90 2 [Xg7 [1,0] [1],Xg7 [0,1] [0,1]]),(40,.d (.int .i64 2)),(41,.d (.int .i64 j))]) (λ(j,V,C)=>[(1,.var (.d (dN rt2))),(90,.tok 2 2),(6,.var (.st (.pr (.own 17 4 0 2) (.own 20 4 0 3)))),(17,.arr 4 (V.map dq)),(20,.arr 4 (C.map dq))]) (λ(j,V,C)=>j=0/\V=[2,0]/\C=[0,0,1]\/j=1/\V=[0,0]/\C=pX\/j=2/\V=[0,0]/\C=pX) (λ(j,_,_)=>2-j) (0,[2,0],[0,0,1]) [] rfl (.inl ⟨rfl,rfl,rfl⟩) (λ(j,V,C) hj=>?_)
 rcases hj with ⟨I,M,O⟩ | ⟨I,M,O⟩ | ⟨I,M,O⟩<;>obtain rfl:j=_:=I<;>obtain rfl:V=_:=M<;>obtain rfl:C=_:=O
 refine Yes rfl (by decide)<|Ix 0 rfl (u:=Xg7 [1,0] [1]) rfl<|Cw [(1000001,6),(1000002,17),(1000003,20)] rfl Xtc λv H' _ U=>?_
 subst U
 show Pl.nx' _ _ _ [(6,.var (.st (.pr (.own 17 4 0 2) (.own 20 4 0 3)))),(17,.arr 4 [dq 0,dq 0]),(20,.arr 4 [dq (-2),dq 0,dq 1])]
 refine Ar (0+1:Nat) rfl ?_
 exact Bk (0+1,[0,0],pX) [] rfl (.inr (.inl ⟨rfl,rfl,rfl⟩)) (by decide:2-(0+1)<2-0)
 refine Yes rfl (by decide)<|Ix 1 rfl (u:=Xg7 [0,1] [0,1]) rfl<|Cw [(1000001,6),(1000002,17),(1000003,20)] rfl (Xj9 (v:=[0,0]) (c:=pX) (l:=[0,1]) (m:=[0,1]) (n:=1) (y:=1) (by decide) (by decide +kernel) (λi x h hx=>by
  obtain rfl:i=0:=by omega
  exact(Option.some.inj hx).symm) rfl (by decide +kernel) rfl) λv H' _ U=>?_
 subst U
 show Pl.nx' _ _ _ [(6,.var (.st (.pr (.own 17 4 0 2) (.own 20 4 0 3)))),(17,.arr 4 [dq 0,dq 0]),(20,.arr 4 [dq (-2),dq 0,dq 1])]
 refine Ar (1+1:Nat) rfl ?_
 exact Bk (1+1,[0,0],pX) [] rfl (.inr (.inr ⟨rfl,rfl,rfl⟩)) (by decide:2-(1+1)<2-1)
 refine No rfl (by decide)<|FzV 17 6 17 4 2 [dq 0,dq 0] rfl ?_ ⟨.inl rfl,.inr (by decide)⟩
 refine FzV 17 6 20 4 3 [dq (-2),dq 0,dq 1] rfl ?_ ⟨trivial,.inl rfl⟩
 exact Ce rfl (Xc5 (l:=[0,0]) (p:=64) (by decide +kernel:∀x∈([0,0]:List Rat),Qs 64 x) (by decide) (by decide))<|Yes rfl (by decide +kernel)<|R0
end
section
theorem Xw8{a b:Int}(ha:Zs 64 a)(hb:Zs 64 b): Zs 64 (Int.gcd a b:Int):=by
 unfold Zs at *
 rw[W1b]
 by_cases h:a=0
 subst h;rw[Int.zero_gcd];exact hb
 exact W2a (Nat.le_of_dvd (by omega) (Int.gcd_dvd_natAbs_left a b)) ha
abbrev zD: D:=.st (.pr (.bool false) (.sl 1 []))
theorem Yii: zD=dz 0:=P11.dz0.symm
def Ymz(R:List D): Prop:=∃L:List Int,R=L.map dz/\L.length=3/\∀z∈L,Zs 64 z
theorem Ymz.set{R:List D}(h:Ymz R){z:Int}(i:Zs 64 z)(k:Nat): Ymz (R.set k (dz z)):=by
 obtain⟨L,rfl,j,o⟩:=h
 exact⟨L.set k z,(List.map_set ..).symm,by rw[W3c];exact j,λy I=>(W3x I).elim (o y) λe=>e ▸ i⟩
theorem Ymz.len{R:List D}(h:Ymz R): R.length=3:=by obtain⟨L,rfl,i,_⟩:=h;rw[W1k,i]
theorem Yc8{x:Rat}(h:x∈pX): (x.den:Int)=1/\Zs 64 x.num:=by
 have:∀x∈pX,(x.den:Int)=1/\Zs 64 x.num:=by decide +kernel
 exact this x h
theorem Ygz{a b:Int}(ha:Zs 64 a): Zs 64 (a.fdiv b):=by
 unfold Zs at *
 have h:=Int.natAbs_fdiv_le_natAbs a b
 omega
theorem Xoo: C0 70 [.d (dqs pX)] (λv=>∃L:List D,v=.d (.sl 2 L)/\L.length=3):=by
 have one:Zs 64 1:=by unfold Zs;decide
 have i:∀ {z:Int},Zs 64 z->(dig z.natAbs).length<=549755813888:=λh=>W0j (h.len (by decide)) (by decide)
 refine En Tryz.func70 λ_ _ _=>?_
 refine Ce rfl Xja<|Ce rfl (FromInt_ok (z:=1) (by decide))<|Lo (λ((k,c):Nat×Int)=>[(0,.d (dqs pX)),(2,.nil),(3,.ptr 3 0),(21,.d (dqs pX)),(22,.d (.int .i64 3)),(23,.d (.int .i64 k))]) (λ(k,c)=>[(3,.var (.d (dz c)))]) (λ(k,c)=>k<=3/\c=1) (λ(k,_)=>3-k) (0,1) [] rfl ⟨W0r _,rfl⟩ (λ(k,c) hI=>?_)
 obtain⟨hk,hc⟩:k<=3/\c=1:=hI
 obtain rfl:c=1:=hc
 refine By rfl (λh=>?_) λh=>?_
 have h:(k:Int)<3:=h
 obtain⟨x,O⟩:=qat (l:=pX) (k:=k) (by omega:k<3)
 obtain⟨hd,_⟩:=Yc8 (W0h O)
 have o:Zs 64 (x.den:Int):=by rw[hd];exact one
 have eg:(Int.gcd 1 x.den:Int)=1:=by rw[hd];decide
 have eq:((x.den:Int)).fdiv (Int.gcd 1 x.den:Int)=1:=by rw[eg,hd];decide
 refine Ix k rfl (mp O)<|Dw rfl<|Ce rfl (GCD_ok (a:=1) (b:=(x.den:Int)) (i one) (i o))<|Ce rfl (DivMod_ok (a:=(x.den:Int)) (b:=(Int.gcd 1 x.den:Int)) (i o) (i (Xw8 one o)) (by rw[eg];decide))<|Ce rfl (Mul_ok (a:=1) (b:=((x.den:Int)).fdiv (Int.gcd 1 x.den:Int)) (i one) (i (by rw[eq];exact one)))<|Ar (k+1:Nat) rfl ?_ (wr (by omega:(k:Int)+1=((k+1:Nat):Int)) (by simp only[inK];omega))
 exact Bk (k+1,1*((x.den:Int)).fdiv (Int.gcd 1 x.den:Int)) [] rfl ⟨by omega,by rw[eq];decide⟩ (by show 3-(k+1)<3-k;omega)
 refine Mk 3 rfl (by decide) ?_
 refine Lo (λ((k,w,R):Nat×AV×List D)=>[(0,.d (dqs pX)),(2,.nil),(3,.ptr 3 0),(9,.own 44 2 0 3),(10,.ptr 10 0),(46,.d (dqs pX)),(47,.d (.int .i64 3)),(48,.d (.int .i64 k))]) (λ(k,w,R)=>[(3,.var (.d (dz 1))),(10,.var w),(44,.arr 2 R)]) (λ(k,w,R)=>k<=3/\Ymz R/\(k=0/\w=.st (.pr (.b false) .nil)\/∃d:Int,w=.d (dz d)/\Zs 64 d/\d≠0)) (λ(k,_,_)=>3-k) (0,.st (.pr (.b false) .nil),List.replicate 3 zD) [] rfl ⟨W0r _,⟨[0,0,0],by rw[Yii];rfl,rfl,by unfold Zs;decide⟩,.inl ⟨rfl,rfl⟩⟩ (λ(k,w,R) hI=>?_)
 obtain⟨hk,V,hw⟩:k<=3/\Ymz R/\(k=0/\w=.st (.pr (.b false) .nil)\/∃d:Int,w=.d (dz d)/\Zs 64 d/\d≠0):=hI
 have Z:=V.len
 refine By rfl (λh=>?_) λh=>?_
 have h:(k:Int)<3:=h
 obtain⟨x,O⟩:=qat (l:=pX) (k:=k) (by omega:k<3)
 obtain⟨hd,I⟩:=Yc8 (W0h O)
 have U:Zs 64 (x.den:Int):=by rw[hd];exact one
 have eq:(1:Int).fdiv (x.den:Int)=1:=by rw[hd];decide
 have M:x.num*(1:Int).fdiv (x.den:Int)=x.num:=by rw[eq,W4c]
 rcases hw with ⟨rfl,rfl⟩ | ⟨d,rfl,o,T⟩
 have z0:Zs 64 (0:Int):=by unfold Zs;decide
 have hg:=GCD_ok (a:=0) (b:=x.num*(1:Int).fdiv (x.den:Int)) (i z0) (i (by rw[M];exact I))
 rw[<-Yii] at hg
 refine Ix 0 rfl (mp O)<|Ce rfl (DivMod_ok (a:=1) (b:=(x.den:Int)) (i one) (i U) (by rw[hd];decide))<|Ce rfl (Mul_ok (a:=x.num) (b:=(1:Int).fdiv (x.den:Int)) (i I) (i (by rw[eq];exact one)))<|Eo 0 rfl (by omega)<|Sto (zs:=R.set 0 (dz (x.num*(1:Int).fdiv (x.den:Int)))) rfl (by omega) rfl ?_
 refine Dw rfl<|Eo 0 rfl (by omega)<|Ld (dz (x.num*(1:Int).fdiv (x.den:Int))) rfl (by rw[W2n (by omega)]) ?_
 refine Ce rfl hg<|Ar (0+1:Nat) rfl ?_ (wr (by omega:((0:Nat):Int)+1=((0+1:Nat):Int)) (by simp only[inK];omega))
 refine Bk (0+1,.d (dz (Int.gcd 0 (x.num*(1:Int).fdiv (x.den:Int)))),R.set 0 (dz (x.num*(1:Int).fdiv (x.den:Int)))) [] rfl ⟨by omega,V.set (by rw[M];exact I) 0,.inr ⟨_,rfl,Xw8 z0 (by rw[M];exact I),λe=>?_⟩⟩ (by show 3-(0+1)<3-0;omega)
 have e:Int.gcd 0 (x.num*(1:Int).fdiv (x.den:Int))=0:=by exact_mod_cast e
 rw[M,W8g] at e
 have:x=-2:=(Option.some.inj O).symm
 rw[this] at e
 exact absurd e.2 (by decide +kernel)
 refine Ix k rfl (mp O)<|Ce rfl (DivMod_ok (a:=1) (b:=(x.den:Int)) (i one) (i U) (by rw[hd];decide))<|Ce rfl (Mul_ok (a:=x.num) (b:=(1:Int).fdiv (x.den:Int)) (i I) (i (by rw[eq];exact one)))<|Eo k rfl (by omega)<|Sto (zs:=R.set k (dz (x.num*(1:Int).fdiv (x.den:Int)))) rfl (by omega) rfl ?_
 refine Dw rfl<|Eo k rfl (by omega)<|Ld (dz (x.num*(1:Int).fdiv (x.den:Int))) rfl (by rw[W2n (by omega)]) ?_
 refine Ce rfl (GCD_ok (a:=d) (b:=x.num*(1:Int).fdiv (x.den:Int)) (i o) (i (by rw[M];exact I)))<|Ar (k+1:Nat) rfl ?_ (wr (by omega:(k:Int)+1=((k+1:Nat):Int)) (by simp only[inK];omega))
 refine Bk (k+1,.d (dz (Int.gcd d (x.num*(1:Int).fdiv (x.den:Int)))),R.set k (dz (x.num*(1:Int).fdiv (x.den:Int)))) [] rfl ⟨by omega,V.set (by rw[M];exact I) k,.inr ⟨_,rfl,Xw8 o (by rw[M];exact I),λe=>?_⟩⟩ (by show 3-(k+1)<3-k;omega)
 have e:Int.gcd d (x.num*(1:Int).fdiv (x.den:Int))=0:=by exact_mod_cast e
 rw[M,W8g] at e
 exact T e.1
 have h:¬(k:Int)<3:=h
 rcases hw with ⟨h0,_⟩ | ⟨d,rfl,o,T⟩
 omega
 refine Lo (λ((j,R):Nat×List D)=>[(2,.nil),(9,.own 44 2 0 3),(10,.ptr 10 0),(75,.own 44 2 0 3),(76,.d (.int .i64 3)),(77,.d (.int .i64 j))]) (λ(j,R)=>[(10,.var (.d (dz d))),(44,.arr 2 R)]) (λ(j,R)=>j<=3/\R.length=3/\∃L:List Int,R=L.map dz/\∀z∈L,Zs 64 z) (λ(j,_)=>3-j) (0,R) [] rfl ⟨W0r _,Z,let ⟨L,h1,_,h3⟩:=V;⟨L,h1,h3⟩⟩ (λ(j,R) hI=>?_)
 obtain⟨hj,Z,L,rfl,hL⟩:j<=3/\R.length=3/\∃L:List Int,R=L.map dz/\∀z∈L,Zs 64 z:=hI
 have lL:L.length=3:=by rw[<-Z,W1k]
 refine By rfl (λh=>?_) λh=>?_
 have h:(j:Int)<3:=h
 obtain⟨z,hz⟩:∃z,L[j]?=some z:=⟨_,W0e (by omega)⟩
 have zz:=hL z (W0h hz)
 refine Eo j rfl (by omega)<|Ld (dz z) rfl (mp hz) ?_
 refine Ce rfl (DivMod_ok (a:=z) (b:=d) (i zz) (i o) T)<|Eo j rfl (by omega)<|Sto (zs:=(L.set j (z.fdiv d)).map dz) rfl (by omega) (List.map_set ..).symm ?_
 refine Ar (j+1:Nat) rfl ?_ (wr (by omega:(j:Int)+1=((j+1:Nat):Int)) (by simp only[inK];omega))
 exact Bk (j+1,(L.set j (z.fdiv d)).map dz) [] rfl ⟨by omega,by rw[W1k,W3c,lL],_,rfl,λy hy=>(W3x hy).elim (hL y) λe=>e ▸ Ygz zz⟩ (by show 3-(j+1)<3-j;omega)
 exact Rt rfl (.one (.own rfl (by omega) rfl) rfl rfl) ⟨_,rfl,by simp;omega⟩
end
section
attribute [local go_sem] Oper.semAt_some
theorem Ygb: C0 347 [.d (.int .u64 141)] (·=.d (.int .i64 8)):=by
 refine En Tryz.func347 λ_ _ _=>?_
 refine No rfl (by decide)<|No rfl (by decide)<|No rfl (by decide)<|Go.Vm.Cv 141 rfl ?_
 refine Yx 141 8 rfl (by decide +kernel) ?_
 refine Go.Vm.Cv 8 rfl ?_ rfl
 refine Ar 8 rfl ?_ (wr rfl (by simp only[inK];decide))
 exact R0
theorem Ykg: C0 313 [.d (.int .u64 141)] (·=.d (.int .i64 3)):=by
 refine En Tryz.func313 λ_ _ _=>?_
 refine Ce rfl Ygb<|Ce rfl (Xnj (n:=8) (by decide))<|Gx 2 .u64 100 rfl (by decide) (λW h=>h 2 (by decide)) (wr rfl (by simp only[inK];decide)) ?_
 refine Ca rfl (C.nb Ybn) λv i=>?_
 obtain⟨n,rfl,j⟩:=i
 obtain rfl:n=1:=j.elim (·.1) λh=>absurd (by decide) h.2
 refine Ar 3 rfl ?_
 exact R0
theorem Yln: CW0 314 [.own 1000001 1 0 3,.d (.int .u64 141)] [(1000001,.arr 1 ((List.replicate 24 (0:UInt8)).map b8))] λv H'=>H'=[(1000001,.arr 1 (([49,52,49]++List.replicate 21 (0:UInt8)).map b8))]:=by
 refine EnW Tryz.func314 λ_ _ _ _=>?_
 refine Lo (λ_:Unit=>[(0,.own 1000001 1 0 3),(1,.d (.int .u64 141)),(4,.d (.int .i64 3))]) (λ_=>[(1000001,.arr 1 ((List.replicate 24 (0:UInt8)).map b8))]) (λ_=>True) (λ_=>0) () [] rfl trivial λ_ _=>?_
 refine No rfl (by decide)<|Go.Vm.Cv 141 rfl ?_
 refine No rfl (by decide)<|Yes rfl (by decide)<|Ar 41 rfl ?_ (reN (a:=141) (b:=100) (by decide) rfl)
 refine Ar 82 rfl ?_
 refine Ar 1 rfl ?_ (quN (a:=141) (b:=100) (by decide) rfl (by simp only[inK];decide))
 refine Dw rfl<|Ar 2 rfl ?_
 refine Ar 1 rfl ?_
 refine Ar 83 rfl ?_
 refine Yx 83 49 rfl (by decide +kernel) ?_
 refine Yx 82 52 rfl (by decide +kernel) ?_
 refine Eo 2 rfl (by decide)<|Stb (zs:=([0,0,49]++List.replicate 21 (0:UInt8)).map b8) 49 rfl (by decide) rfl ?_
 refine Eo 1 rfl (by decide)<|Stb (zs:=([0,52,49]++List.replicate 21 (0:UInt8)).map b8) 52 rfl (by decide) rfl ?_
 refine Ar 1 rfl ?_
 refine Yes rfl (by decide)<|Ar 49 rfl ?_
 refine Go.Vm.Cv 49 rfl ?_
 refine Eo 0 rfl (by decide)<|Stb (zs:=([49,52,49]++List.replicate 21 (0:UInt8)).map b8) 49 rfl (by decide) rfl ?_ rfl
 exact Rw [] [(1000001,.arr 1 (([49,52,49]++List.replicate 21 (0:UInt8)).map b8))] rfl (.tup (.one (.rf rfl) (λ_ _ e=>by cases e) (λ_ _ e=>by cases e))) rfl
theorem Ylh: C0 134 [.d (.int .u64 141),.d (.int .i64 10)] (·=.d (.str [49,52,49])):=by
 have h:C0 230 [.d (.int .u64 141),.d (.int .i64 10)] (·=.d (.str [49,52,49])):=by
  refine En Tryz.func230 λ_ _ _=>?_
  refine Yes rfl rfl<|No rfl (by decide)<|Va 5 5 900 24 ((List.replicate 24 (0:UInt8)).map b8) rfl rfl (by decide) rfl ?_
  refine Ce rfl Ykg<|Sp 3 rfl (by decide) (by decide) ?_ (by decide)
  refine Cw (args:=[.own 1000001 1 0 3,.d (.int .u64 141)]) [(1000001,900)] rfl Yln (λv H' _ i=>?_) rfl
  subst i
  refine Sp 3 rfl (by decide) (by decide) ?_ (by decide)
  refine Bo [49,52,49] rfl (by decide) rfl ?_
  exact R0
 refine En Tryz.func134 λ_ _ _=>?_
 exact Ce rfl h<|R0
theorem Xyf{Bs n₀ b cap:Nat}{w:World}(hBs:Bs<w.heap.size)(hn₀:n₀<=w.heap.size)(hc:w.cell? ⟨Bs,0,none⟩=some (.slice (some ⟨b,0,none⟩) 1 cap))(hb:b<n₀)(hcs:w.cell? ⟨b,0,none⟩=some (.int .u32 141)):
 SeqStopsK Fence.wide 7 Tryz.prog 229 #[.pointer (some ⟨Bs,0,none⟩)] (λ_:Unit=>#[Value.int .i64 0,Value.int .u32 141]) (Kq n₀ Bs) (λys=>ys=[()]) (λ_=>True) 1 w:=λl J Jx W hW _ _ hY h0=>by
 have hBs0:=(hW.cell (p:=⟨Bs,0,none⟩) hBs).trans hc
 have hc0:=(hW.cell (p:=⟨b,0,none⟩) (W0y hb hn₀)).trans hcs
 refine callsIn_of_wp Tryz.func229 rfl trivial ?_ rfl
 simp only[Tryz.ntmps229,W5e,W1j,W3r,Nat.reduceAdd,Nat.reduceSub,W4p,W4q,W5f,W4v,W3s,W4g]
 gi_wp2
 gi_loopw [3] (λi wr=>∃k:Nat,k<=1/\i=.int .i64 (-(k:Int))/\J (List.replicate k ()) wr/\Kq n₀ Bs W wr) (λi _=>(intOf i+1).toNat)
 case atStart=>exact⟨0,by decide,by simp,h0,Kq.refl _ _ _⟩
 case round =>
  obtain⟨k,hk,rfl,hJs,hnx⟩:=hrel
  have hBs':=(World.cell?_of_block hnx.b).trans hBs0
  obtain rfl | rfl:k=0\/k=1:=by omega
  . have hcx:=(hnx.a.cell (p:=⟨b,0,none⟩) hb).trans hc0
    obtain⟨fn,tmps,assign,body,hy,hR⟩:=hY _ () wr hJs (by decide)
    gi_wp2
    refine hR.mono ?_
    rintro e W3 (⟨rfl,hJ3,hk3⟩ | ⟨rfl,hJx3⟩)
    . gi_wp2
      go_roundw
      case rel=>exact⟨1,by decide,by simp,hJ3,hnx.trans hk3⟩
      case measure=>simp[intOf]
    . gi_wp2
      refine bodyPost_ret (results_none rfl _ _ _) rfl ?_
      exact⟨⟨_,rfl⟩,.inr ⟨_,trivial,hJx3⟩⟩
  . gi_wp2
    go_end0
    exact⟨⟨_,rfl⟩,.inl ⟨_,rfl,hJs⟩⟩
theorem Xxw: dig 141=[141]:=Ya8 (by decide) (by decide)
theorem Yk8: C0 63 [.d (dz 141)] (·=.d (.str [49,52,49])):=by
 have htr:=Xc3 (n:=141) (by rw[Xxw];decide)
 have hdz:dz 141=dS false [141]:=by rw[<-Xxw];rfl
 rw[Xxw] at htr
 rw[hdz]
 refine EnM Tryz.func63 λW0 hg0 _=>?_
 refine Ce rfl htr<|Cr rfl (Xmo (l:=[141]) (by decide) (by decide)) ?_
 refine No rfl (by decide)<|Nv 4 7 1 rfl ?_
 refine Lo (λk:Nat=>[(1,.ptr 1 0),(2,.d (.str [])),(3,.own 14 1 0 (1-k)),(4,.ptr 4 0)]) (λk=>[(1,.var (.d (dS false [141]))),(14,.arr 1 ([141-141*k].map wd)),(4,.var (.gr 7 1 ((List.replicate k 141).map wd))),(7,.tok ((List.replicate k 141).map wd).length 1)])
  (λk=>k<=1) (λk=>1-k) 0 [] rfl (by decide) ?_
 intro k hk
 obtain rfl | rfl:k=0\/k=1:=by omega
 refine Yes rfl (by decide)<|Ar 0 rfl ?_
 refine Lo (λk:Nat=>[(1,.ptr 1 0),(2,.d (.str [])),(3,.own 14 1 0 1),(4,.ptr 4 0),(5,.d (.int .u64 (141*k:Nat))),(6,.d (.int .i64 (-(k:Int))))]) (λk=>[(1,.var (.d (dS false [141]))),(14,.arr 1 ([141-141*k].map wd)),(4,.var (.gr 7 1 [])),(7,.tok 0 1)])
  (λk=>k<=1) (λk=>1-k) 0 [] rfl (by decide) ?_
 intro k hk
 obtain rfl | rfl:k=0\/k=1:=by omega
 refine Yes rfl (by decide)<|Ar 0 rfl ?_ (Xit (u:=0) (n:=32) rfl (by decide) (by decide))
 refine Eo 0 rfl (by decide)<|Ld (wd 141) rfl rfl ?_
 refine Go.Vm.Cv 141 rfl ?_
 refine Ar 141 rfl ?_ (Yc9 (a:=0) (b:=141) (by decide) (by decide) (by decide) (by decide))
 refine Ar 0 rfl ?_ (show _/\_ from⟨by decide,Yez 141 1000000000 (by decide)⟩)
 refine Go.Vm.Cv 0 rfl ?_ (wW ⟨by decide,by decide⟩)
 refine Eo 0 rfl (by decide)<|Sto rfl (by decide) (zs:=[wd 0]) rfl ?_
 refine Ar 141 rfl ?_ (show _/\_ from⟨by decide,Xta 141 1000000000⟩)
 refine Ar (-1) rfl ?_
 exact Bk 1 [] rfl (by decide) (by decide)
 refine No rfl (by decide)<|Cn [(1000001,14)] rfl (Xwr (l:=[0]) (q:=0) (n:=1) (λx hx=>by cases W0g.1 hx;decide) (by decide) (by decide)) λv hv=>?_
 obtain⟨m,hmn,rfl,hml⟩:=hv
 obtain rfl:m=0:=by
  rw[show val (([0].drop 0).take 1)=0 from rfl,Xap] at hml
  have:=congrArg List.length hml
  simp at this
  omega
 refine Go.Vm.Cv 141 rfl ?_
 refine ApG ([141].map wd) rfl rfl (by decide) ?_
 exact Bk 1 [(50,7)] rfl (by decide) (by decide)
 . refine No rfl (by decide)<|Tl 15 rfl λa w hw=>?_
   obtain⟨s',W,θ,rfl,hS,hθ,rfl⟩:=hw
   have hgW:Gb.g Tryz.prog W:=Gb.mono _ _ hS.fm.le hg0
   obtain⟨b1,p1,e1⟩:=Xj4 (hS.rel.has 1 (.ptr 1 0) rfl)
   obtain⟨b4,p4,e4⟩:=Xj4 (hS.rel.has 4 (.ptr 4 0) rfl)
   obtain⟨bx,cx1,T1,q1,q2,q3,_⟩:=hS.obs.r 1 (.var (.d (dS false [141]))) rfl
   obtain⟨by4,cx4,T4,q5,q6,q7,_⟩:=hS.obs.r 4 (.var (.gr 7 1 [wd 141])) rfl
   obtain rfl:bx=b1:=Option.some.inj (q1.symm.trans p1)
   obtain rfl:by4=b4:=Option.some.inj (q5.symm.trans p4)
   have c1:W.w.cell? ⟨bx,0,none⟩=some (.bool false):=by
    obtain⟨u,v,h1,h2,_⟩:=q3
    have h2:u=[.bool false]:=h2
    rw[Xbd q2,h1,h2];rfl
   obtain⟨b7,cp,c4,hcell⟩:∃b7 cp,W.w.cell? ⟨by4,0,none⟩=some (.slice (some ⟨b7,0,none⟩) 1 cp)/\W.w.cell? ⟨b7,0,none⟩=some (.int .u32 141):=by
    obtain⟨p,h1,h0,h2,_,h5⟩:=q7
    rcases h5 with h5 | ⟨b7,h5,hrow⟩
    cases h5
    have hp:p=some ⟨b7,0,none⟩:=by
     rcases h0 with h0 | h0
     rw[h0] at h2;exact absurd h2 (by decide)
     rw[h0,h5];rfl
    refine⟨b7,_,by rw[Xbd q6,h1,hp];rfl,?_⟩
    obtain⟨e,g1,_,g3⟩:=D.row_get hrow (i:=0) (x:=wd 141) rfl
    have g1:e=[.int .u32 141]:=g1.1
    exact(g3 0 (.int .u32 141) (by rw[g1];rfl)).1
   have hb1:=Go.Proofs.YtnedfplmoojbaaaGreatDoor.cell_lt c1
   have hb4:=Go.Proofs.YtnedfplmoojbaaaGreatDoor.cell_lt c4
   have hb7:=Go.Proofs.YtnedfplmoojbaaaGreatDoor.cell_lt hcell
   have hfm:=hS.fm
   obtain⟨tm,df⟩:=a
   obtain rfl:df=[]:=hS.rel.defers
   obtain⟨L⟩:=tm
   have hL:L.length=74:=hS.rel.size
   clear hS
   iterate 74
    obtain⟨_,L,rfl,h⟩:=Ycg hL
    clear hL
    have hL:=h
    clear h
   obtain rfl:=W0m hL
   rename_i t0 t1 t2 t3 t4 t5 t6 t7 t8 t9 t10 t11 t12 t13 t14 t15 t16 t17 t18 t19 t20 t21 t22 t23 t24 t25 t26 t27 t28 t29 t30 t31 t32 t33 t34 t35 t36 t37 t38 t39 t40 t41 t42 t43 t44 t45 t46 t47 t48 t49 t50 t51 t52 t53 t54 t55 t56 t57 t58 t59 t60 t61 t62 t63 t64 t65 t66 t67 t68 t69 t70 t71 t72 t73
   obtain rfl:t1=.pointer (some ⟨bx,0,none⟩):=e1
   obtain rfl:t4=.pointer (some ⟨by4,0,none⟩):=e4
   have hfin:∀ {w':World},Below W.w.heap.size W.w w'->Ret W0 (λx=>x=.d (.str [49,52,49])) (.returned (.string ⟨#[49,52,49]⟩)) w':=λ{w'} h=>by
    obtain⟨W',h1,h2⟩:=Xsh h
    exact⟨W',_,_,rfl,h1,Xp3 hfm h2,Xte (s:=[49,52,49]) (by decide),λ_ h=>h,rfl⟩
   obtain⟨w,hww⟩:∃w,w=W.w:=⟨_,rfl⟩
   have hgw:∀ {w':World},Below w.heap.size w w'->Gb.g Tryz.prog (gw1 w'):=λh=>Gb.mono _ _ (Ykt (n:=w.heap.size) (by rw[<-hww];exact h) (by rw[<-hww];exact W0a _)) hgW
   rw[<-hww] at c1 c4 hcell hb1 hb4 hb7 hfin |-
   clear hww hgW q1 q5 p1 p4 hfm q2 q3 q6 q7 hθ htr hdz
   have cA:∀o,(w.alloc o).cell? ⟨bx,0,none⟩=some (.bool false):=λo=>(World.cell?_of_block (a:=⟨bx,0,none⟩) (Below.heap_alloc w o bx hb1)).trans c1
   have c4A:∀o,(w.alloc o).cell? ⟨by4,0,none⟩=some (.slice (some ⟨b7,0,none⟩) 1 cp):=λo=>(World.cell?_of_block (a:=⟨by4,0,none⟩) (Below.heap_alloc w o by4 hb4)).trans c4
   gi_wp2
   obtain⟨wb,hwb⟩:∃wb,wb=w.alloc (.cells #[.pointer none,.slice none 0 0] 170):=⟨_,rfl⟩
   have hB:Lib.IsBuilderF (rnB.t 72) (rnB.t 5) w.heap.size w.heap.size (Lib.byteCells []) wb:=by rw[hwb];exact .of (Lib.fresh_isBuilder _ _ w)
   have hbw:Below w.heap.size w wb:=by rw[hwb];exact(Below.refl _ w).alloc (W0a _) _
   have hlt:w.heap.size<wb.heap.size:=by rcases hB with h | h<;>exact h.lt
   rw[<-hwb]
   clear hwb
   refine⟨trivial,(Xyj Fence.wide 7 trivial rfl _ _ _ _).mono ?_⟩
   rintro e w2 ⟨rfl,hw2⟩
   have hBS:w2.heap[wb.heap.size]?=some (.cells #[.slice (some ⟨b7,0,none⟩) 1 cp] 56 (0,0)):=by rw[hw2];exact World.alloc_heap_new wb _
   have hb2:Below w.heap.size w w2:=by rw[hw2];exact hbw.alloc (by have:=hbw.size;omega) _
   have hB2:Lib.IsBuilderF (rnB.t 72) (rnB.t 5) w.heap.size w.heap.size (Lib.byteCells []) w2:=by rw[hw2];exact hB.alloc _
   have hs2:w2.heap.size=wb.heap.size+1:=by rw[hw2];simp
   have cBS:w2.cell? ⟨wb.heap.size,0,none⟩=some (.slice (some ⟨b7,0,none⟩) 1 cp):=by simp[World.cell?,hBS]
   obtain⟨BS,hBSe⟩:∃BS,BS=wb.heap.size:=⟨_,rfl⟩
   rw[<-hBSe] at hBS hs2 cBS hlt |-
   clear hw2 hBSe hB hbw
   gi_wp2
   refine wpIn_rangeFunc_ownG rfl (by decide) (gf:=229) (lb:=#[.pointer (some ⟨BS,0,none⟩)]) rfl trivial (enters_of Tryz.func229 (by kernel_rfl) rfl)
    (Xyf (n₀:=w.heap.size) (by omega) (by omega) cBS hb7 ((hb2.cell (p:=⟨b7,0,none⟩) hb7).trans hcell)) Kq.trans (λW l o o' hl h _ _=>Ydq W l o hl (by omega) (by omega) h o') (Below.refl _ _) (λ_=>rfl)
    (λpre W=>(Lib.IsBuilderF (rnB.t 72) (rnB.t 5) w.heap.size w.heap.size (Lib.byteCells (if pre=[] then [] else [49,52,49])) W/\W.heap[BS]?=some (.cells #[.slice (some ⟨b7,0,none⟩) 1 cp] 56 (0,0)))/\Below w.heap.size w W)
    (λ_ _ _=>False)
    (OwnFrom.and (Own.from (λs A B row hs hg hr=>⟨Ygi _ _ _ _ (λp=>Lib.byteCells (if p=[] then [] else [49,52,49])) s A B row hs.1 hg hr,Xp1 hs.2 hg hr⟩) _) (ownFrom_below (W0a _) (by omega)))
    (λ_ _ _ _ _ hs _ _=>hs)
    ⟨⟨hB2,hBS⟩,hb2⟩
    (λ_=>{ tmps:=#[t0,.pointer (some ⟨bx,0,none⟩),t2,t3,.pointer (some ⟨by4,0,none⟩),t5,t6,.pointer (some ⟨w.heap.size,0,none⟩),.int .i64 0,.int .u32 141,t10,t11,t12,t13,t14,t15,t16,t17,t18,t19,t20,t21,t22,t23,t24,t25,t26,t27,t28,t29,t30,t31,t32,t33,t34,t35,t36,t37,t38,t39,t40,t41,t42,t43,t44,t45,t46,t47,t48,t49,t50,.pointer (some ⟨bx,0,none⟩),.bool false,t53,.slice (some ⟨b7,0,none⟩) 1 cp,.func (.func 229) #[] #[.pointer (some ⟨BS,0,none⟩)],.int .i64 0,.int .u32 141,t58,t59,t60,t61,t62,t63,t64,t65,t66,t67,t68,t69,t70,t71,t72,t73],defers:=[] }) ?assign ?body ?done ?stop
   case assign =>
    intro l x W K hK
    gi_wp2
    exact hK
   case stop =>
    rintro D c pre W _ _ h _
    exact h.elim
   case body =>
    rintro l pre x W ⟨⟨hBd,hBS⟩,hBl⟩ hlen
    obtain rfl:pre=[]:=W0m (by omega)
    gi_wp2
    refine⟨trivial,(CallsIn.inRound l (callsIn_wide.2 (Ybk (vs:=[.int .u64 141,.int .i64 10]) Ylh (hgw hBl) ⟨int_V rfl,int_V rfl,trivial⟩))).mono ?_⟩
    rintro e W1 ⟨rfl,hW1⟩
    have h9:W9 w.heap.size BS w2.heap.size (.slice (some ⟨b7,0,none⟩) 1 cp) w W [] W1:=W9.below ⟨hBd,hBS,hBl,KeepsFrom.refl _ _,Kq.refl _ _ _⟩ hBl.size hW1
    have c41:W1.cell? ⟨by4,0,none⟩=some (.slice (some ⟨b7,0,none⟩) 1 cp):=(h9.l.cell (p:=⟨by4,0,none⟩) hb4).trans c4
    have hBn:BS≠w.heap.size:=by omega
    clear hBd hBS hW1
    gi_wp2
    refine⟨trivial,(CallsIn.inRound l (callsIn_wide.2 (h9.wr [49,52,49] h9.l.size hBn (by decide)))).mono ?_⟩
    rintro e W4 ⟨rfl,h9d⟩
    gi_wp2
    exact⟨h9d.k,h9d.q,⟨h9d.b,h9d.s⟩,h9d.l⟩
   case done =>
    rintro D ys W hD rfl ⟨⟨hBd,hBS⟩,hBl⟩ hK
    gi_wp2
    refine⟨trivial,(callsIn_wide.2 (Any.Builder_String_k Ykx Yq7 w.heap.size w.heap.size [49,52,49] W hBd (by decide))).mono ?_⟩
    rintro e W3 ⟨rfl,_,hb3,hok3⟩
    have hK3:=hok3 D _ hK (by intro h;cases h;have:=hBl.size;omega) (by intro c fz h;cases h)
    gi_wp2
    refine⟨by simp,.inl ⟨_,_,rfl,run_takeDeferred hK3,?_⟩⟩
    refine⟨_,results_tmp rfl _ _ _,?_⟩
    refine hfin ?_
    exact(hBl.trans hb3).trans (belowK_b (w:=w) (W0a _) W3 D _ _ (by omega) hK3 rfl rfl)
end
section
theorem Yfd{k r s:Nat}{t:Tw k}{a b:Tow.El k}(h:TS r k t)(o:Xcg k t)(i:k<=16)(I:vB r k r<=4398046511104)(hr:r<=4398046511104)(ha:Sz s (toL k a))(hb:Sz s (toL k b))(M:vB r k (s+s+1)<=4398046511104): C0 69 [.d (dt t),.d (de a),.d (de b)] (·=.d (.int .i64 (sgn k t (Tow.add k a (Tow.neg k b))))):=by
 have O:=Xdv (r:=r) k (s+s+1)
 refine En Tryz.func69 λ_ _ _=>?_
 refine Ce rfl (Xjl (l:=[toL k a,toL k b]) (s:=s) h o i I hr (λx j=>by
  rcases W1s.1 j with rfl | j
  exact⟨a,rfl,ha⟩
  obtain rfl:=W0g.1 j;exact⟨b,rfl,hb⟩) (by simp) (by omega)) ?_
 exact No rfl (by simp)<|Ce rfl (Xio h ha hb i (by omega) hr)<|Ce rfl (Xhz h (a:=Tow.add k a (Tow.neg k b)) (s:=s+s+1) (by rw[Xa0,Xb7];exact ha.add hb.neg) i M hr)<|R0
theorem hT2: TS 3 1 rt2.t:=⟨trivial,Sz.rat 0 (x:=2) (by decide +kernel)⟩
theorem hR2: Xcg 1 rt2.t:=⟨trivial,by decide +kernel⟩
theorem Ybf{x y:Tow.El 1}{a b:List Rat}{n:Int}(ha:toL 1 x=a)(hb:toL 1 y=b)(i:Sz 200 (toL 1 x))(j:Sz 200 (toL 1 y))(h:sgn 1 rt2.t (Tow.add 1 x (Tow.neg 1 y))=n): C0 69 [.d (dt rt2.t),.d (dqs a),.d (dqs b)] (·=.d (.int .i64 n)):=by
 have:=Yfd hT2 hR2 (by decide) (by decide +kernel) (by decide) i j (by decide +kernel)
 subst ha;subst hb;subst h
 exact this
theorem Xmi{x:Rat}(h:Qs 64 x): CN0 66 [.d (dq x),.ptr 1000001 0] [(1000001,.var (.d (dN rt2)))] (·=.d (dqs [x,0])):=by
 refine EnW Tryz.func66 λ_ _ _ _=>?_
 exact Ce rfl (Xb8 (x:=x) (p:=64) hT2 (by decide) (by decide) h (by decide))<|Rw [] [(1000001,.var (.d (dN rt2)))] rfl (.one (.rf rfl) rfl rfl) ⟨rfl,rfl⟩
abbrev m0: Rat:=(-3+3)*Rat.divInt 1 2
theorem Yp1: C0 23 [.d (dN rt2)] (λv=>∃L:List D,v=.d (.st (.pr (.sl 2 L) (.int .i64 1)))/\L.length=3):=by
 have i:Sz 200 (toL 1 (((0:Rat),(1:Rat)):Tow.El 1)):=Yh7 (by decide +kernel) (by decide +kernel)
 have o:∀ {x:Rat},Qs 64 x->Sz 200 (toL 1 ((x,(0:Rat)):Tow.El 1)):=λh=>Yh7 h (by decide +kernel)
 refine En Tryz.func23 λ_ _ _=>?_
 refine Ce rfl Xt7<|Ce rfl Xyw ?_
 have I:C0 69 [.d (dt rt2.t),.d (dqs [-3,0]),.d (dqs [0,1])] (·=.d (.int .i64 (-1))):=Ybf (x:=((-3:Rat),(0:Rat))) (y:=((0:Rat),(1:Rat))) rfl rfl (o (by decide +kernel)) i (by decide +kernel)
 have M:C0 69 [.d (dt rt2.t),.d (dqs [0,1]),.d (dqs [m0,0])] (·=.d (.int .i64 1)):=Ybf (x:=((0:Rat),(1:Rat))) (y:=(m0,(0:Rat))) rfl rfl i (o (by decide +kernel)) (by decide +kernel)
 have O:C0 69 [.d (dt rt2.t),.d (dqs [m0,0]),.d (dqs [0,1])] (·=.d (.int .i64 (-1))):=Ybf (x:=(m0,(0:Rat))) (y:=((0:Rat),(1:Rat))) rfl rfl (o (by decide +kernel)) i (by decide +kernel)
 have T:C0 69 [.d (dt rt2.t),.d (dqs [0,1]),.d (dqs [3,0])] (·=.d (.int .i64 (-1))):=Ybf (x:=((0:Rat),(1:Rat))) (y:=((3:Rat),(0:Rat))) rfl rfl i (o (by decide +kernel)) (by decide +kernel)
 refine Lo (λk:Nat=>[(1,.ptr 1 0),(2,.ptr 2 0),(3,.d (dqs pX)),(4,.fn 66 1),(11,.d (.sl 8 [dI (-3,m0),dI (m0,3)])),(12,.d (.int .i64 2)),(13,.d (.int .i64 k))]) (λ_=>[(1,.var (.d (dN rt2))),(2,.var (.st (.pr .nil (.d (.int .i64 0)))))]) (λk=>k<=1) (λk=>1-k) 0 [] rfl (W0r _) (λk V=>?_)
 rcases(by omega:k=0\/k=1) with rfl | rfl
 refine Yes rfl (by decide)<|Ix 0 rfl (u:=dI (-3,m0)) rfl<|Dw rfl<|Cn [(1000001,1)] rfl (Xmi (x:=-3) (by decide +kernel)) λv j=>?_
 subst j
 refine Ce rfl I<|Yes rfl (by decide)<|Cn [(1000001,1)] rfl (Xmi (x:=m0) (by decide +kernel)) λv j=>?_
 subst j
 refine Ce rfl M<|No rfl (by decide)<|Ar (0+1:Nat) rfl ?_
 exact Bk (0+1) [] rfl (by decide) (by decide)
 refine Yes rfl (by decide)<|Ix 1 rfl (u:=dI (m0,3)) rfl<|Dw rfl<|Cn [(1000001,1)] rfl (Xmi (x:=m0) (by decide +kernel)) λv j=>?_
 subst j
 refine Ce rfl O<|Yes rfl (by decide)<|Cn [(1000001,1)] rfl (Xmi (x:=3) (by decide +kernel)) λv j=>?_
 subst j
 refine Ce rfl T<|Yes rfl (by decide)<|Ca rfl Xoo λv j=>?_
 obtain⟨L,rfl,U⟩:=j
 exact Rt rfl (.one (.rf rfl) rfl rfl) ⟨L,rfl,U⟩
theorem Yjq: P11.Pk rt2 where
 k:=by decide
 re:=hR2
 t:=⟨trivial,Sz.mono (Sz.rat 0 (x:=2) (p:=64) (by decide +kernel)) (by decide)⟩
 mt:=⟨trivial,λx h=>by obtain rfl:=W0g.1 (show x∈[(2:Rat)] from h);decide +kernel⟩
 ml:=.inl λx h=>by
  have h:x∈[(0:Rat),1]:=h
  rcases W1s.1 h with rfl | h
  decide +kernel
  obtain rfl:=W0g.1 h;decide +kernel
theorem Yqc: P11.Rt2 rt2:=⟨Yjq,by decide +kernel,by decide +kernel⟩
theorem Yr7: C0 128 [.d (dN rt2),.d (.int .i64 2),.d (dq (Rat.divInt 1 2))] (·=.tup (.pr (.d (dz 141)) (.d (.int .i64 0)))):=by
 have i:Qs 64 ((10^2:Int):Rat):=by decide +kernel
 have M:∀x∈toL 1 (scl 1 rt2.t rt2.a ((10^2:Int):Rat) (Rat.divInt 1 2)),x=Rat.divInt 1 2\/x=100:=by decide +kernel
 have I:MgL 64 (toL 1 (scl 1 rt2.t rt2.a ((10^2:Int):Rat) (Rat.divInt 1 2))):=λx j=>by rcases M x j with rfl | rfl<;>decide +kernel
 have o:Sz 4000 (toL 1 (mul 1 rt2.t rt2.a (rat 1 ((10^2:Int):Rat)))):=P11.sz_of (n:=64) (λx j=>by
  rcases(by decide +kernel:∀x∈toL 1 (mul 1 rt2.t rt2.a (rat 1 ((10^2:Int):Rat))),x=0\/x=100) x j with rfl | rfl<;>decide +kernel) (.inl (by decide))
 obtain⟨O,T,-,-,U⟩:=P11.bnds (by decide:1<=3)
 refine En Tryz.func128 λ_ _ _=>?_
 refine No rfl (by decide)<|No rfl (by decide)<|Dw rfl<|Ce rfl (P11.power_ok (n:=2) (by decide))<|Ce rfl (P11.whole_ok i.n (by decide) (by decide))<|Ce rfl (P9.FromRat_ok i (by decide))<|Ce rfl (P9.Mul_r Yjq.t (P11.sz_of (n:=64) (Yjq.ml.elim id λh=>absurd h.1 (by decide)) (.inl (by decide))) i (by decide) (by decide) (by decide) (by decide) U)<|No rfl (by decide)<|Dw rfl<|Ce rfl (P9.FromRat_ok (p:=64) (by decide +kernel) (by decide))<|Ce rfl (P9.Add_r (x:=⟨1,rt2.t,mul 1 rt2.t rt2.a (rat 1 ((10^2:Int):Rat))⟩) (s:=64) Yjq.t o (by decide +kernel) (by decide) (by decide) (by decide) (by decide))<|No rfl (by decide)<|Ca rfl (Xvk (P:=1000000) Yjq.re (Xp6 Yjq.re Yjq.mt I (by decide) (by decide)) (Yjq.t.mono (by decide)) (P11.sz_of I (.inl (by decide))) (by decide) (by decide) (by decide) O T) λv V=>?_
 obtain⟨z,rfl,o⟩:=V
 obtain rfl:=Xe7.uniq Yjq.re o.1 (Yqc.flo (z:=141) (c:=281/200) (d:=283/200) (by decide +kernel) (by decide +kernel) (by decide +kernel) (by decide +kernel) (by decide +kernel) (by decide +kernel) (by decide +kernel))
 exact R0t
theorem Yo8: C0 22 [.d (dN rt2),.d (.int .i64 2)] (·=.tup (.pr (.d (.str [49,46,52,49])) (.d (.int .i64 0)))):=by
 have h:C0 61 [.d (dN rt2),.d (.int .i64 2)] (·=.tup (.pr (.d (dz 141)) (.d (.int .i64 0)))):=by
  refine En Tryz.func61 λ_ _ _=>?_
  exact Dw rfl<|Ce rfl (Xck (a:=1) (b:=2) (by decide) (by decide))<|Ce rfl Yr7<|R0t
 have i:C0 62 [.d (.str [49,52,49]),.d (.str [45])] (·=.tup (.pr (.d (.str [49,52,49])) (.b false))) :=
  (Xos (s:=[49,52,49]) (t:=[45]) (by decide) (by decide)).mono λv j=>j.trans (by rw[if_neg (by decide),W6e.2 λe=>absurd (Xaj.1 e) (by decide)])
 refine En Tryz.func22 λ_ _ _=>?_
 refine Ce rfl h<|No rfl (by decide)<|Ce rfl Yk8<|Ce rfl i<|No rfl (by decide)<|Yes rfl (by decide)<|Dw rfl<|Ar 1 rfl ?_ (wr rfl (by simp only[inK];decide))
 refine Stk 1 [49] rfl (by decide) rfl ?_
 refine Sc [49,46] rfl rfl (by decide) ?_
 refine Ar 1 rfl ?_ (wr rfl (by simp only[inK];decide))
 refine Sdp 1 [52,49] rfl (by decide) rfl ?_
 refine Sc [49,46,52,49] rfl rfl (by decide) ?_
 exact No rfl (by decide)<|No rfl (by decide)<|R0t
theorem Ymx: C0 21 [.d (dN P11.two)] (·=.tup (.pr (.d (dN rt2)) (.d (.int .i64 0)))):=by
 have i:NOk (K:=0) () [] 300 600 P11.two (rat 0 2):=P11.nok2 (K:=0) () []
 have j:sgn 0 () (rat 0 2)=1:=Xb5 (by decide:(0:Rat)<2)
 refine(R9.Sqrt_ok (x:=P11.two) (r:=300) (p:=600) trivial trivial i.p (by rw[show sgn P11.two.k P11.two.t P11.two.a=1 from j];decide) (by decide) (by decide +kernel) (by decide +kernel) (by decide +kernel) (by decide +kernel)).mono λv I=>?_
 obtain⟨z,rfl,M⟩:=I
 have o:z=rt2:=by
  rcases M with ⟨w,_,O,_⟩ | ⟨h,_,_⟩
  exact absurd ⟨w,O⟩ P11.two_no
  exact h
 rw[o]
open Go.Proofs.YtnedfplmoojbaaaGreatDoor.P55 (v0 W0 g0 gv0 zw Xjk Qp) in
theorem awake20_ok: C0 5 [] (·=.b true):=by
 refine En Tryz.func5 λ_ _ _=>?_
 refine Ce rfl (R9.FromInt_ok (z:=2) (by decide))<|Ce rfl Ymx<|Ce rfl Yo8<|Ca rfl Yp1 λv o=>?_
 obtain⟨L,rfl,T⟩:=o
 refine Ce rfl (P20.Whole0 (i:=0) (j:=1) (by decide) (by decide))<|Dw rfl<|Ce rfl (R9.FromInt_ok (z:=4) (by decide))<|Ce rfl P20.Sector0<|Dw rfl<|Yes rfl (by decide)<|Yes rfl (by decide)<|Yes rfl rfl<|Yes rfl (by omega:((L.length:Nat):Int)=3)<|Yes rfl (by decide)<|Ce rfl (R9.FromInt_ok (z:=4) (by decide)) ?_
 have o:=gv0 (s:=64) (p:=(0,1)) (by decide +kernel)
 refine Ca rfl (R20.Sector_g W0 W0 (g0 (s:=64) (q:=((4:Int):Rat)) (by decide +kernel)) o (by decide) (by decide) (f:=0)) λr O=>?_
 rcases O with ⟨h,_⟩ | ⟨_,z,rfl,M⟩
 exact absurd h P20.fl0
 have M:Gd (K:=0) () ([]:List (Tow.El 0)) [] 2 z (2:Rat):=by
  rw[show Tow.mul 0 () ((4:Int):Rat) (Tow.rat 0 P20.hf2)=(2:Rat) from(by decide +kernel:((4:Int):Rat)*P20.hf2=2)] at M
  exact M
 have n0:=P20.n00_g W0
 have I:((((0:Rat),(1:Rat)):V2 0))≠vz 0:=λh=>absurd (congrArg Prod.snd h) (by decide +kernel:¬(1:Rat)=0)
 exact Ce rfl ((P20.eq_11 (k:=1) W0 n0 (n0.mono (by decide:1<=2)) (by decide) (by decide) (g0 (s:=64) (q:=2) (by decide +kernel)) M o o (by decide)).mono λr e=>e.trans (congrArg AV.b (Xaj.2 (P20.ts I I (by decide) (Xf7 W0.w.g)))))<|R0
end
end Go.Proofs.YtnedfplmoojbaaaGreatDoor.P5

/- part 6 -/
import Derived.Test.YtnedfplmoojbaaaGreatDoorXE
import Derived.Lib.Bytealg
import Derived.Shelf.Strings.AsciiSet
import Derived.RangeFuncLeaves
import Derived.ControlIn
import Derived.Shelf.Strings.BuilderK
import Derived.RangeFuncCalls
import Derived.Laws.Externs
set_option linter.unusedVariables false
set_option linter.unusedSimpArgs false
set_option maxRecDepth 100000
set_option maxHeartbeats 4000000
namespace Go.Proofs.YtnedfplmoojbaaaGreatDoor.P9
open Go Go.Vm Go.Num Go.Tow Go.Proofs.YtnedfplmoojbaaaGreatDoor
theorem Yrd{a:Nat}(h:a<4611686018427387904): arB .and .i64 a 1 (a%2:Nat):=by
 show IntKind.i64.wrap _=_
 have e:(BitVec.ofInt 64 (a:Int)&&&BitVec.ofInt 64 1).toNat=a%2:=by
  rw[BitVec.toNat_and,W6o,W6o,show ((a:Int)%((2^64:Nat):Int)).toNat=a by omega,show ((1:Int)%((2^64:Nat):Int)).toNat=1 by omega,Nat.and_one_is_mod]
 rw[show IntKind.bits .i64=64 from rfl,e]
 exact wI (by omega)
theorem Xgi{l:List Rat}{p i:Nat}(U:Ps p l)(hp:p<=8796093022208)(hi:i<=63)(V:l.length<=1048576): C0 268 [.d (dqs l),.d (.int .i64 i)] (·=.b (dc (oc l i))):=by
 refine En Tryz.func268 λ_ _ _=>?_
 refine Lo (λk:Nat=>[(1,.d (.int .i64 i)),(7,.d (dqs l)),(8,.d (.int .i64 (l.map dq).length)),(9,.d (.int .i64 k))]) (λ_=>[]) (λk=>k<=l.length/\∀q x,q<k->l[q]?=some x->q/2^i%2=1->x=0) (λk=>l.length-k) 0 [] rfl ⟨by omega,λq x h=>by omega⟩ λk ⟨Z,T⟩=>?_
 refine By rfl (λh=>?_) λh=>?_<;>simp only[lq] at h
 . obtain⟨x,M⟩:=qat (l:=l) (k:=k) (by omega)
   have next:(k/2^i%2=1->x=0)->k+1<=l.length/\∀q y,q<k+1->l[q]?=some y->q/2^i%2=1->y=0:=λj=>⟨by omega,λq y hq o hb=>by
    by_cases e:q=k
    subst e;rw[M] at o;injection o with o;rw[<-o];exact j hb
    exact T q y (by omega) o hb⟩
   refine Ix k rfl (mp M)<|Ar (k/2^i:Nat) rfl ?_ (R9.shrI hi)
   refine Ar (k/2^i%2:Nat) rfl ?_ (Yrd (by have:=W3n k (2^i);omega))
   refine By rfl (λj=>?_) λj=>?_
   . refine Ce rfl (Xbv (U x (W0h M)) hp)<|By rfl (λI=>?_) λI=>?_
     exact R1 rfl (.bp ⟨λ_=>⟨k,x,M,by omega,R9.num0.1 I⟩,λ_=>rfl⟩)
     . refine Ar (k+1:Nat) rfl ?_
       exact Bk (k+1) [] rfl (next λ_=>W0t λO=>I (R9.num0.2 O)) (by show l.length-(k+1)<l.length-k;omega)
   . refine Ar (k+1:Nat) rfl ?_
     exact Bk (k+1) [] rfl (next λO=>absurd (by omega) j) (by show l.length-(k+1)<l.length-k;omega)
 exact R1 rfl (.bp ⟨nofun,λ⟨q,x,j,I,O⟩=>absurd (T q x (by have:=(W0s.1 j).1;omega) j I) O⟩)
abbrev Yad(i:Nat): Ob:=.var (.d (.int .i64 i))
theorem Xzh{l:List Rat}{p i:Nat}(h:Ps p l)(hp:p<=8796093022208)(hi:i<=63)(j:l.length<=1048576): CN0 270 [.d (dqs l),.ptr 1000001 0] [(1000001,Yad i)] (·=.b (dc (oc l i))):=by
 refine EnW Tryz.func270 λ_ _ _ _=>?_
 exact Ce rfl (Xgi h hp hi j)<|Rw [] [(1000001,Yad i)] rfl (.one (.rf rfl) rfl rfl) ⟨rfl,rfl⟩
end Go.Proofs.YtnedfplmoojbaaaGreatDoor.P9
namespace Go.Proofs.YtnedfplmoojbaaaGreatDoor.P55
open Go Go.Vm Go.Num Go.Tow Go.Proofs.YtnedfplmoojbaaaGreatDoor
def Qp(s:Nat)(p:Rat×Rat): Prop:=Qs s p.1/\Qs s p.2
abbrev v0(p:Rat×Rat): Vn:=⟨⟨0,(),p.1⟩,⟨0,(),p.2⟩⟩
theorem W0: Wn (K:=0) () ([]:List (Tow.El 0)) []:=⟨Yhy.wd trivial (W0r _) nofun,λz h=>nomatch h⟩
theorem g0{q:Rat}{s:Nat}(h:Qs s q)(o:s<=10000:=by decide): Gd (K:=0) () [] [] 1 ⟨0,(),q⟩ q:=by
 have h0:NOk (K:=0) () ([]:List (Tow.El 0)) 0 (s+1) ⟨0,(),q⟩ (Tow.rat 0 q):=⟨⟨λ_=>zero _,⟨trivial,trivial,λi hi=>absurd hi (W3t _)⟩,rfl⟩,trivial,Sz.rat 0 h⟩
 have j:Gs (K:=0) () ([]:List (Tow.El 0)) [] (gB 1) (Tow.rat 0 q):=(Gs.rat h).mono (by unfold gB;omega)
 exact⟨h0.re W0.w W0.h j,j,W0a _⟩
theorem gv0{p:Rat×Rat}{s:Nat}(h:Qp s p)(i:s<=10000:=by decide): Gv (K:=0) () [] [] 1 (v0 p) p:=⟨g0 h.1 i,g0 h.2 i⟩
theorem zw{r p:Nat}{x:Nm}{v:Rat}(h:NOk (K:=0) () ([]:List (Tow.El 0)) r p x v): x=⟨0,(),v⟩:=by
 obtain⟨ρ,j,i⟩:=h.ex
 obtain⟨k,t,a⟩:=x
 have o:k<=([]:List (Tow.El 0)).length:=j.le (show Xcg 0 () from trivial)
 obtain rfl:k=0:=Nat.le_zero.1 o
 have i:(a:Rat)=v:=i
 rw[<-i]
 cases t
 rfl
theorem Xjk{n:Nat}{v:Vn}{p:Rat×Rat}(h:Gv (K:=0) () ([]:List (Tow.El 0)) [] n v p): v=v0 p:=by
 obtain⟨x,y⟩:=v
 rw[show x=_ from zw h.x.o,show y=_ from zw h.y.o]
instance {p:Nat} {z:Int}:Decidable (Zs p z):=inferInstanceAs (Decidable (z.natAbs<2^p))
instance {p:Nat} {x:Rat}:Decidable (Qs p x):=decidable_of_iff (Zs p x.num/\Zs p x.den) ⟨λh=>⟨h.1,h.2⟩,λh=>⟨h.1,h.2⟩⟩
instance {p:Nat} {x:Rat×Rat}:Decidable (Qp p x):=by unfold Qp;infer_instance
end Go.Proofs.YtnedfplmoojbaaaGreatDoor.P55
namespace Go.Proofs.YtnedfplmoojbaaaGreatDoor.P20
open Go Go.Vm Go.Num Go.Tow Go.Proofs.YtnedfplmoojbaaaGreatDoor
section
open Go.Proofs.YtnedfplmoojbaaaGreatDoor.P55 (v0 W0 g0 gv0 zw Xjk Qp)
abbrev nr(q:Rat): Nm:=⟨0,(),q⟩
instance {p:Nat} {x:Rat×Rat}:Decidable (Q2 p x):=by unfold Q2;infer_instance
abbrev z5: Rat:=Rat.divInt 1 5
theorem a5: (Yrc z5 186).isSome=true:=by decide +kernel
theorem a0: (Yrc 0 186).isSome=true:=by decide +kernel
def pt(x:Rat): Rat×Rat:=(x,x)
def hp: Nat->Rat
 | 0=>1
 | n+1=>hp n*Rat.divInt 1 2
theorem Xpe{n:Int}(h:Zs 64 n): Q2 64 (pt (n:Rat)):=⟨Qs.int h (by decide),Qs.int h (by decide)⟩
theorem Yg4{x:Rat}{b:Nat}(h:Qs 64 x): C0 186 [.d (dts []),.d (dqs [x]),.d (.int .i64 b)] (·=.d (dI (pt x))):=by
 refine En Tryz.func186 λ_ _ _=>?_
 exact Yes rfl rfl<|Ix 0 rfl (u:=dq x) rfl<|Ce rfl (Xd0 h (by decide))<|R0
theorem Xf2{x:Rat}{bits:Nat}(h:Qs 64 x)(hb:bits<=1000): C0 96 [.d (dts []),.d (dqs [x]),.d (.int .i64 bits)] (·=.d (dI (pt x))):=by
 have i:Qs 129 ((pt x).2-(pt x).1):=by rw[W4k];exact h.add h.neg
 refine En Tryz.func96 λ_ _ _=>?_
 refine No rfl (by omega)<|No rfl (by omega)<|Ce rfl (Xjl (k:=0) (t:=()) (l:=[[x]]) (r:=1) (s:=65) trivial trivial (by decide) (by decide) (by decide) (λy j=>⟨(x:Rat),W0g.1 j,Sz.rat 0 h⟩) (by simp) (by decide))<|No rfl (by simp)<|Ce rfl (FromInt_ok (z:=1) (by decide))<|Ce rfl (Xdb (n:=bits) (by omega))<|Ce rfl (Make_ok (p:=bits+1) (a:=1) (b:=2^bits) (Zs.one (by omega)) (Zs.two (W0a _)) (by omega) (Xfk bits))<|Ar (bits+16:Nat) rfl ?_
 refine Lo (λ_:Unit=>[(0,.d (dts [])),(1,.d (dqs [x])),(6,.ptr 6 0),(7,.ptr 7 0),(9,.d (.int .i64 (bits+16:Nat)))]) (λ_=>[(6,.var zI),(7,.var (.d (dq (Rat.divInt 1 (2^bits)))))]) (λ_=>True) (λ_=>0) () [] rfl trivial (λ_ _=>?_)
 refine Ce rfl (Yg4 h)<|Dw rfl<|Ce rfl (Xgp (p:=pt x) ⟨h,h⟩ (by decide))<|Ce rfl (Xbo (x:=(pt x).2-(pt x).1) i (Xij bits) (by omega))<|Yes rfl (by
  rw[Xjp]
  have:=Xdj bits
  show ¬_<x-x
  rw[Rat.sub_self]
  grind) ?_
 exact R0
theorem Ylb: ∀i,i<=138->Qs 200 (hp i):=by decide +kernel
end
section
structure Tn (z:Rat) (b:Nat) (R:Rat×Rat):Prop where
 i:∀N,150<=N->inB (atn z N) R
 w:(R.2-R.1)*pw b<=262144
 q:Q2 1003 R
theorem Xhf: Rat.divInt 1 2=(1:Rat)/2:=by decide +kernel
theorem Yck{z:Rat}{s b:Nat}(i:Qs s z)(hs:s<=20000000000)(h0:0<=z)(U:z<=1)(hb:b<=200): ∃R,C0 105 [.d (dq z),.d (.int .i64 b)] (·=.d (dI R))/\Tn z b R:=by
 have j:Qs 40 (Rat.divInt 1 2):=Qs.divInt (Zs.one (by decide)) (by decide) (by decide)
 by_cases V:z<=1/2
 obtain⟨R,Z,q⟩:=Xe6 hb h0 U
 refine⟨R,?_,λN T=>?_,?_,?_⟩
 refine En Tryz.func105 λ_ _ _=>?_
 exact Ce rfl (Xck (a:=1) (b:=2) (by decide) (by decide))<|Ce rfl (Xbo i j (by omega))<|Yes rfl (Xjp.2 (by rw[Xhf];grind))<|Ce rfl (Xjs i (by omega) (by omega) Z)<|R0
 unfold atn;rw[if_pos V];exact Xju h0 U Z N T
 exact W1n (Xjt h0 V Z) (by decide +kernel)
 exact⟨q.1.mono (by decide),q.2.mono (by decide)⟩
 have hz2:1/2<=z:=by grind
 have o:=Xvq hz2 U
 have hp:0<1+z*(1/2):=by grind
 have rb2:rst z<=1/2:=by
  have hi:=Rat.inv_pos.2 hp
  have e:=W5z (1+z*(1/2)) (by grind)
  unfold rst
  have:=W0f (show z-1/2<=(1/2)*(1+z*(1/2)) by grind) (W1m hi)
  rw[W4i,e] at this
  grind
 obtain⟨A,hA,qA⟩:=Xe6 hb (z:=1/2) (by decide +kernel) (by decide +kernel)
 obtain⟨B,hB,qB⟩:=Xe6 hb o.1 o.2
 have q1:Qs 65 (((1:Int)):Rat):=Qs.int (by unfold Zs;decide) (by decide)
 have I:Qs (s+40+1) (z-Rat.divInt 1 2):=by rw[W4k];exact i.add j.neg
 have M:Qs (65+(s+40)+1) (((1:Int):Rat)+z*Rat.divInt 1 2):=q1.add (i.mul j)
 have O:((1:Int):Rat)+z*Rat.divInt 1 2≠0:=by rw[Xhf];show 1+z*(1/2)≠0;grind
 have he:(z-Rat.divInt 1 2)/(((1:Int):Rat)+z*Rat.divInt 1 2)=rst z:=by rw[Xhf,W5n];rfl
 have hA':Ybx (Rat.divInt 1 2) b=some A:=by rw[Xhf];exact hA
 have qr:Qs (s+40+1+(65+(s+40)+1)) (rst z):=by rw[<-he,W5n];exact I.mul (R2.Qs.inv M O)
 refine⟨Xf0 A B,?_,λN T=>?_,?_,?_⟩
 refine En Tryz.func105 λ_ _ _=>?_
 refine Ce rfl (Xck (a:=1) (b:=2) (by decide) (by decide))<|Ce rfl (Xbo i j (by omega))<|No rfl (λh=>Xjp.1 h (by rw[Xhf];grind))<|Dw rfl<|Ce rfl (Xeu i j (by omega))<|Ce rfl (Xah (z:=1) (by decide))<|Ce rfl (Xby i j (by omega))<|Ce rfl (Xc0 q1 (i.mul j) (by omega))<|Ce rfl (Xg9 I M (by omega) O) ?_
 rw[he]
 exact Dw rfl<|Ce rfl (Xjs j (by decide) (by omega) hA')<|Ce rfl (Xjs qr (by omega) (by omega) hB)<|Ce rfl (Xee qA qB (by decide))<|R0
 unfold atn;rw[if_neg V]
 exact(Xju (by decide +kernel) (by decide +kernel) hA N T).add (Xju o.1 o.2 hB N T)
 have w1:=Xjt (by decide +kernel) (W1x (a:=1/2)) hA
 have w2:=Xjt o.1 rb2 hB
 show ((A.2+B.2)-(A.1+B.1))*pw b<=_
 grind
 exact Xeh qA qB
end
section
theorem Yj0{p:Rat×Rat}{n:Rat}(I:0<=n)(h:p.1<=p.2): (Xa6 p (pt n)).2-(Xa6 p (pt n)).1<=n*(p.2-p.1):=by
 obtain⟨⟨v,s,M,O,e⟩,T,s',i,j,U⟩:=Xhc p (pt n)
 have V:s=n:=by rcases O with h | h<;>exact h
 have o:s'=n:=by rcases j with h | h<;>exact h
 rw[e,U,V,o]
 have:T-v<=p.2-p.1:=by rcases M with rfl | rfl<;>rcases i with rfl | rfl<;>grind
 have:=W1a this I
 grind
theorem Xin{p:Rat×Rat}{n:Int}{s:Nat}(hp:Q2 s p)(i:s<=1000000)(h:-9223372036854775808<=n/\n<9223372036854775808): C0 50 [.d (dI p),.d (.int .i64 n)] (·=.d (dI (Xa6 p (pt (n:Rat))))):=by
 have hq:=Xpe (n:=n) (by unfold Zs;omega)
 refine En Tryz.func50 λ_ _ _=>?_
 exact Dw rfl<|Ce rfl (Xah h)<|Ce rfl (Xd0 hq.1 (by decide))<|Ce rfl (Xfu (q:=pt (n:Rat)) hp hq (by omega))<|R0
def qtr(N:Nat): Rat:=aTs (Rat.divInt 1 5) N*((8:Int):Rat)-aTs (Rat.divInt 1 239) N*((2:Int):Rat)
structure Tq (b:Nat) (Q:Rat×Rat):Prop where
 i:∀N,150<=N->inB (qtr N) Q
 w:(Q.2-Q.1)*pw b<=1310720
 q:Q2 1131 Q
theorem Xnb{b:Nat}(hb:b<=200): ∃Q,C0 51 [.d (.int .i64 b)] (·=.d (dI Q))/\Tq b Q:=by
 have O:Qs 40 (Rat.divInt 1 5):=Qs.divInt (Zs.one (by decide)) (by decide) (by decide)
 have i:Qs 40 (Rat.divInt 1 239):=Qs.divInt (Zs.one (by decide)) (by decide) (by decide)
 obtain⟨A,j,o⟩:=Xe6 hb (z:=Rat.divInt 1 5) (by decide +kernel) (by decide +kernel)
 obtain⟨B,I,qB⟩:=Xe6 hb (z:=Rat.divInt 1 239) (by decide +kernel) (by decide +kernel)
 have M:=λN h=>Xju (by decide +kernel) (by decide +kernel) j N h
 have iB:=λN h=>Xju (by decide +kernel) (by decide +kernel) I N h
 have Z:=Xjt (by decide +kernel) (by decide +kernel) j
 have wB:=Xjt (by decide +kernel) (by decide +kernel) I
 refine⟨Xy2 (Xa6 A (pt ((8:Int):Rat))) (Xa6 B (pt ((2:Int):Rat))),?_,λN h=>?_,?_,?_⟩
 refine En Tryz.func51 λ_ _ _=>?_
 exact Ce rfl (Xck (a:=1) (b:=5) (by decide) (by decide))<|Ce rfl (Xjs O (by decide) (by omega) j)<|Ce rfl (Xin (n:=8) o (by decide) (by decide))<|Ce rfl (Xck (a:=1) (b:=239) (by decide) (by decide))<|Ce rfl (Xjs i (by decide) (by omega) I)<|Ce rfl (Xin (n:=2) qB (by decide) (by decide))<|Ce rfl (Xpx (Xb2 o (Xpe (n:=8) (by decide))) (Xb2 qB (Xpe (n:=2) (by decide))) (by decide))<|R0
 exact((M N h).mul ⟨W1x,W1x⟩).sub ((iB N h).mul ⟨W1x,W1x⟩)
 have a:=Yj0 (n:=((8:Int):Rat)) (by decide +kernel) (W1n (M 150 (W0a _)).1 (M 150 (W0a _)).2)
 have c:=Yj0 (n:=((2:Int):Rat)) (by decide +kernel) (W1n (iB 150 (W0a _)).1 (iB 150 (W0a _)).2)
 have hp:=W1m (Xaw b)
 have T:=W0f a hp
 have c':=W0f c hp
 show (((Xa6 A (pt ((8:Int):Rat))).2-(Xa6 B (pt ((2:Int):Rat))).1)-((Xa6 A (pt ((8:Int):Rat))).1-(Xa6 B (pt ((2:Int):Rat))).2))*pw b<=_
 have U:((8:Int):Rat)=8:=rfl
 have V:((2:Int):Rat)=2:=rfl
 rw[U] at T |-
 rw[V] at c' |-
 generalize Xa6 A (pt 8)=X at *
 generalize Xa6 B (pt 2)=Y at *
 grind
 exact Xu2 (Xb2 o (Xpe (n:=8) (by decide))) (Xb2 qB (Xpe (n:=2) (by decide)))
end
section
section
variable{lo hi q:Rat}{b:Nat}{A B Q:Rat×Rat}
theorem Yed(hA:Tn lo b A)(I:Tn hi b B)(h0:0<=lo)(h:lo<=q)(j:q<=hi)(o:hi<=1)(N:Nat)(hN:150<=N): inB (atn q N) (A.1,B.2) :=
 ⟨W1n (hA.i N hN).1 (Xmr h0 h (W1n j o) N).1,W1n (Xmr (W1n h0 h) j o N).1 (I.i N hN).2⟩
theorem Ymp(hA:Tn lo b A)(h:Tn hi b B)(h0:0<=lo)(j:lo<=hi)(o:hi<=1): (B.2-A.1)*pw b<=(hi-lo)*pw b+524288:=by
 have a:=hA.i 150 (W0a _)
 have c:=h.i 150 (W0a _)
 have m:=(Xmr h0 j o 150).2
 have hp:=W1m (Xaw b)
 have I:=hA.w
 have M:=h.w
 have d:B.2-A.1<=(hi-lo)+(A.2-A.1)+(B.2-B.1):=by
  obtain⟨O,T⟩:=a
  obtain⟨U,V⟩:=c
  grind
 have:=W0f d hp
 grind
theorem Ymb{N:Nat}(h:inB (qtr N) Q)(hA:inB (atn q N) A): inB (qtr N-atn q N) (Xy2 Q A):=h.sub hA
theorem Xoz{x:Rat}{N:Nat}{n:Int}(h:inB (qtr N) Q)(hA:inB x A): inB (x+qtr N*(n:Rat)) (Xf0 A (Xa6 Q (pt (n:Rat)))):=hA.add (h.mul ⟨W1x,W1x⟩)
theorem Yc6{p:Rat×Rat}{n:Int}{m:Nat}(I:-(m:Int)<=n/\n<=m)(h:p.1<=p.2): (Xa6 p (pt (n:Rat))).2-(Xa6 p (pt (n:Rat))).1<=(m:Rat)*(p.2-p.1):=by
 obtain⟨⟨v,s,M,U,e⟩,O,s',i,j,V⟩:=Xhc p (pt (n:Rat))
 have Z:s=n:=by rcases U with h | h<;>exact h
 have o:s'=n:=by rcases j with h | h<;>exact h
 have n1:-(m:Rat)<=(n:Rat):=by
  have:(((-(m:Int)):Int):Rat)<=(n:Rat):=by exact_mod_cast I.1
  rw[W5t] at this
  exact this
 have n2:(n:Rat)<=(m:Rat):=by
  have:(n:Rat)<=(((m:Int):Int):Rat):=by exact_mod_cast I.2
  exact this
 rw[e,V,Z,o]
 have d1:O-v<=p.2-p.1:=by rcases M with rfl | rfl<;>rcases i with rfl | rfl<;>grind
 have d2:v-O<=p.2-p.1:=by rcases M with rfl | rfl<;>rcases i with rfl | rfl<;>grind
 rcases Rat.le_total (a:=0) (b:=(n:Rat)) with T | T
 have a:=W0f d1 T
 have c:=W0f n2 (show 0<=p.2-p.1 by grind)
 grind
 have a:=W0f d2 (show 0<=-(n:Rat) by grind)
 have c:=W0f (show -(n:Rat)<=m by grind) (show 0<=p.2-p.1 by grind)
 grind
end
section
variable{K:Nat}{G:Tw K}{v:Tow.El K}{x y:Rat}{p r:Rat×Rat}
def inV(G:Tw K)(v:Tow.El K)(p:Rat×Rat): Prop:=0<=sgn K G (Tow.add K v (Tow.neg K (Tow.rat K p.1)))/\0<=sgn K G (Tow.add K (Tow.rat K p.2) (Tow.neg K v))
theorem le_tr(hG:red K G)(o:0<=sgn K G (Tow.add K v (Tow.neg K (Tow.rat K x))))(I:0<=sgn K G (Tow.add K (Tow.rat K y) (Tow.neg K v))): x<=y:=by
 have L:=Xax K G
 have h:=(Xao (Xad hG)).sa _ _ o I
 have e:Tow.add K (Tow.add K v (Tow.neg K (Tow.rat K x))) (Tow.add K (Tow.rat K y) (Tow.neg K v))=Tow.rat K (y+-x):=by
  rw[Xdq,Xft,L.ac v,L.aa,L.alc v,L.an,L.az,L.ac]
 rw[e,Xcy (Xad hG)] at h
 rcases Xbc (y+-x) with ⟨j,i⟩ | ⟨j,i⟩ | ⟨j,i⟩<;>rw[i] at h
 grind
 grind
 exact absurd h (by decide)
theorem Xsb(hG:red K G)(h:inV G v p)(k:inV G v r): ∃q,inB q p/\inB q r:=by
 have j:=le_tr hG h.1 h.2
 have o:=le_tr hG k.1 k.2
 have I:=le_tr hG h.1 k.2
 have M:=le_tr hG k.1 h.2
 rcases Rat.le_total (a:=p.1) (b:=r.1) with i | i
 exact⟨r.1,⟨i,M⟩,W1x,o⟩
 exact⟨p.1,⟨W1x,j⟩,i,I⟩
theorem Yah(h:inV G v p)(h0:inV G v (0,1)): inV G v (meetI p (0,1)):=by
 refine⟨?_,?_⟩
 show 0<=sgn K G (Tow.add K v (Tow.neg K (Tow.rat K (hi2 p.1 0))))
 rcases Xnp (x:=p.1) (y:=0) with e | e<;>rw[e]
 exact h.1
 exact h0.1
 show 0<=sgn K G (Tow.add K (Tow.rat K (lo2 p.2 1)) (Tow.neg K v))
 rcases Xnk (x:=p.2) (y:=1) with e | e<;>rw[e]
 exact h.2
 exact h0.2
theorem Xjb(p:Rat×Rat): 0<=(meetI p (0,1)).1/\(meetI p (0,1)).2<=1:=⟨(Xnq (x:=p.1) (y:=0)).2,(Xnl (x:=p.2) (y:=1)).2⟩
theorem Yf6(p:Rat×Rat): (meetI p (0,1)).2-(meetI p (0,1)).1<=p.2-p.1:=by
 have a:=(Xnq (x:=p.1) (y:=0)).1
 have c:=(Xnl (x:=p.2) (y:=1)).1
 show lo2 p.2 1-hi2 p.1 0<=_
 grind
theorem Yk3{S:List (Tow.El K)}{s m:Nat}{z:Nm}(hG:red K G)(I:NOk G S s m z v)(h:inI z.k z.t z.a p.1 p.2): inV G v p:=by
 obtain⟨ρ,i,j⟩:=I.ex
 have o:=Xad hG
 refine⟨?_,?_⟩
 have e:Tow.add K v (Tow.neg K (Tow.rat K p.1))=ev G ρ z.k (Tow.add z.k z.a (Tow.neg z.k (Tow.rat z.k p.1))):=by rw[Xcv,Xdm,Xdf,j]
 rw[e,Xdl o i.h]
 exact h.1
 have e:Tow.add K (Tow.rat K p.2) (Tow.neg K v)=ev G ρ z.k (Tow.add z.k (Tow.rat z.k p.2) (Tow.neg z.k z.a)):=by rw[Xcv,Xdm,Xdf,j]
 rw[e,Xdl o i.h]
 exact h.2
end
end
end Go.Proofs.YtnedfplmoojbaaaGreatDoor.P20
namespace Go.Proofs.YtnedfplmoojbaaaGreatDoor
open Go Go.Num Go.Tow
theorem RtOf.mg2{r s:Rat×Rat}{b j:Nat}(R:RtOf r b s)(hr:r.2<=pw (2*j))(h0:0<=r.2): 0<=s.1/\s.2<=pw (j+1):=by
 have o:=Xli (b:=b) h0
 have i:=Xfq (mx0 r.1) b
 rw[<-R.lo] at i
 refine⟨i,?_⟩
 have I:Xen r.2 b<=pw j:=Xr8 (W1m (Xaw j)) (W1n o (by rw[<-Yc5];exact hr))
 have M:=R.h
 have O:=Xk9 b
 have T:=Xhq j
 rw[Xc1]
 grind
def mE(m:Nat): Nat->Nat->Nat
 | 0,M=>M
 | k+1,M=>mE m k M+(mE m k m+1)/2+2
def eE(m b:Nat): Nat->Nat->Nat
 | 0,_=>2*b-2
 | k+1,M=>min (eE m b k M) (eE m b k m/2)-(max (mE m k M) ((mE m k m+1)/2)+3)
theorem Ylz(m b:Nat): ∀k M,eE m b k M<=2*b-2
 | 0,_=>W0a _
 | k+1,M=>by have:=Ylz m b k M;show min (eE m b k M) (eE m b k m/2)-(max (mE m k M) ((mE m k m+1)/2)+3)<=_;omega
theorem Xp6{k:Nat}{t:Tw k}{a:El k}{m:Nat}(h:Xcg k t)(o:MgT m k t)(ha:MgL m (toL k a))(j:k<=3)(T:m<=10000): ∀b,1000000<=b->Wid (enc k t a b) 1:=λb hb=>by
 have i:∀e,(0<e->Wid (enc k t a b) e)->1<=e->Wid (enc k t a b) 1:=λe I M=>(I (by omega)).mono M
 refine i _ (λO=>Xso h o ha O) ?_
 have j:k=0\/k=1\/k=2\/k=3:=by omega
 rcases j with rfl | rfl | rfl | rfl<;>simp only[eW,mW]<;>omega
open Go Go.Num Go.Tow
theorem Yjl{r:Rat×Rat}{b:Nat}(h:r.1<=r.2)(h0:0<=r.2): (rts r b).1<=(rts r b).2:=by
 have i:mx0 r.1<=r.2:=by unfold mx0;split<;>assumption
 have:=Xiq (b:=b) (Xi4 _) i
 have:=Xdj b
 show Xen (mx0 r.1) b<=Xen r.2 b+Rat.divInt 1 (2^b)
 grind
theorem Xhh: ∀ {k:Nat} {t:Tw k} {a:El k} {m M:Nat} (b:Nat),Xcg k t->MgT m k t->MgL M (toL k a)->Mg (enc k t a b) (mE m k M)
 | 0,t,a,m,M,b,h,i,ha=>Ykn (ha _ (W0g.2 rfl))
 | k+1,t,a,m,M,b,h,i,ha=>by
  have o:=Xhh (a:=a.1) (M:=M) b h.1 i.1 λx j=>ha x (W2y _ j)
  have I:=Xhh (a:=a.2) (M:=M) b h.1 i.1 λx j=>ha x (W1z _ j)
  have O:=Xhh (M:=m) b h.1 i.1 i.2
  have h0:=Ycr h (Xe2 h.1 t.2 b)
  show Mg (if (∀x∈toL k a.2,x=0) then enc k t.1 a.1 b else rnd (Xf0 (enc k t.1 a.1 b) (Xa6 (enc k t.1 a.2 b) (rts (enc k t.1 t.2 b) b))) b) (mE m k M+(mE m k m+1)/2+2)
  split
  exact o.mono (by omega)
  exact Xqy o I ((Xm8 _ b).mg2 (W1n O.2 (Xev (by omega))) h0) (Yjl (Xku h.1 _ _) h0) (Xku h.1 _ _)
theorem Xmh: ∀ {k:Nat} {t:Tw k} {a:El k} {m M b:Nat},Xcg k t->MgT m k t->MgL M (toL k a)->0<eE m b k M->Wid (enc k t a b) (eE m b k M)
 | 0,t,a,m,M,b,h,i,ha,o=>⟨W1x,(λ(x:Rat)=>(by grind:(x-x)*pw (eE m b 0 M)<=1)) a⟩
 | k+1,t,a,m,M,b,h,i,ha,o=>by
  have O:0<min (eE m b k M) (eE m b k m/2)-(max (mE m k M) ((mE m k m+1)/2)+3):=o
  have T:=Ylz m b k m
  have I:=Xmh (a:=a.1) (m:=m) (M:=M) (b:=b) h.1 i.1 (λx j=>ha x (W2y _ j)) (by omega)
  have U:=Xmh (a:=a.2) (m:=m) (M:=M) (b:=b) h.1 i.1 (λx j=>ha x (W1z _ j)) (by omega)
  have V:=Xmh (m:=m) (M:=m) (b:=b) h.1 i.1 i.2 (by omega)
  have Z:=Xhh (a:=a.2) (M:=M) b h.1 i.1 λx j=>ha x (W1z _ j)
  have mr:=Xhh (M:=m) b h.1 i.1 i.2
  have h0:=Ycr h (Xe2 h.1 t.2 b)
  have ms:=(Xm8 (enc k t.1 t.2 b) b).mg2 (W1n mr.2 (Xev (by omega:_<=2*((mE m k m+1)/2)))) h0
  show Wid (if (∀x∈toL k a.2,x=0) then enc k t.1 a.1 b else rnd (Xf0 (enc k t.1 a.1 b) (Xa6 (enc k t.1 a.2 b) (rts (enc k t.1 t.2 b) b))) b) (min (eE m b k M) (eE m b k m/2)-(max (mE m k M) ((mE m k m+1)/2)+3))
  split
  exact I.mono (by omega)
  exact Xqx (m:=max (mE m k M) ((mE m k m+1)/2)) (I.mono (by omega)) (U.mono (by omega)) V (by omega) (Z.mono (by omega)) ⟨ms.1,W1n ms.2 (Xev (by omega))⟩ h0 (Xm8 _ b) (by omega) (by omega) (by omega)
theorem Yqg{y:Rat}{n:Int}{m b:Nat}(e:y=Rat.divInt n (2^b))(o:-pw m<=y)(I:y<=pw m): Qs (m+b+1) y:=by
 have hp:=Xaw b
 have M:(n:Rat)=y*pw b:=by
  rw[e,W4u]
  show (n:Rat)=(n:Rat)/pw b*pw b
  rw[W5n,W4i,Rat.inv_mul_cancel _ (by grind),W5w]
 have j:pw m*pw b=((2^(m+b):Int):Rat):=by rw[<-Xiz];rfl
 have h:=W0f o (W1m hp)
 have i:=W0f I (W1m hp)
 rw[<-M] at h i
 rw[Rat.neg_mul,j,<-W5t] at h
 rw[j] at i
 have O:=W3h.1 h
 have T:=W3h.1 i
 have U:((2^(m+b):Nat):Int)=2^(m+b):=by simp
 have V:n.natAbs<=2^(m+b):=by omega
 rw[e]
 refine Qs.divInt (show n.natAbs<2^(m+b+1) from ?_) (Zs.two (by omega)) (Xfk b)
 rw[W0z]
 have:=W0p (m+b)
 omega
theorem Yd6: ∀ {k:Nat} {t:Tw k} {a:El k} {m M:Nat} (b:Nat),Xcg k t->MgT m k t->MgL M (toL k a)->Q2 (mE m k M+b+1) (enc k t a b)
 | 0,t,a,m,M,b,h,j,ha=>by
  have h0:=ha (a:Rat) (W0g.2 rfl)
  exact⟨h0.mono (by show M<=M+b+1;omega),h0.mono (by show M<=M+b+1;omega)⟩
 | k+1,t,a,m,M,b,h,j,ha=>by
  have i:=Xhh b h j ha
  have o:=Xku h a b
  have e:enc (k+1) t a b=if (∀x∈toL k a.2,x=0) then enc k t.1 a.1 b else rnd (Xf0 (enc k t.1 a.1 b) (Xa6 (enc k t.1 a.2 b) (rts (enc k t.1 t.2 b) b))) b:=rfl
  by_cases I:∀x∈toL k a.2,x=0
  rw[if_pos I] at e
  rw[e]
  have:=Yd6 (a:=a.1) (M:=M) b h.1 j.1 λx O=>ha x (W2y _ O)
  exact⟨this.1.mono (by show _<=mE m k M+(mE m k m+1)/2+2+b+1;omega),this.2.mono (by show _<=mE m k M+(mE m k m+1)/2+2+b+1;omega)⟩
  rw[if_neg I] at e
  rw[e] at i o |-
  refine⟨Yqg rfl i.1 (W1n o i.2),?_⟩
  generalize Xf0 (enc k t.1 a.1 b) (Xa6 (enc k t.1 a.2 b) (rts (enc k t.1 t.2 b) b))=X at *
  have q:=Yqg (y:=dnQ (-X.2) b) (m:=mE m (k+1) M) rfl (by
   have:-dnQ (-X.2) b<=pw (mE m (k+1) M):=i.2
   grind) (by
   have T:=W1n i.1 o
   have:-pw (mE m (k+1) M)<=-dnQ (-X.2) b:=T
   grind)
  exact q.neg
theorem Ydm: ∀ {k R:Nat} {t:Tw k},TS R k t->MgT R k t
 | 0,_,_,_=>trivial
 | k+1,R,t,h=>⟨Ydm h.1,λx i=>h.2.qs i⟩
end Go.Proofs.YtnedfplmoojbaaaGreatDoor
namespace Go.Proofs.YtnedfplmoojbaaaGreatDoor.P20
open Go Go.Vm Go.Num Go.Tow Go.Proofs.YtnedfplmoojbaaaGreatDoor
theorem Yl0{k m M b c:Nat}(i:k<=3)(j:m=15346)(o:M=1299892570)(hb:5200000000<=b)(I:c<=1000): c<=eE m b k M:=by
 have h:k=0\/k=1\/k=2\/k=3:=by omega
 rcases h with rfl | rfl | rfl | rfl<;>simp only[eE,mE]<;>omega
theorem Yl1{k s b:Nat}(i:k<=3)(j:s=1299892570)(hb:b<=10400002032): eB s b k<=1099511627776:=by
 have h:k=0\/k=1\/k=2\/k=3:=by omega
 rcases h with rfl | rfl | rfl | rfl<;>simp only[eB]<;>omega
theorem Ykp{k m M:Nat}(i:k<=3)(j:m=15346)(o:M=1299892570): mE m k M<=1299992570:=by
 have h:k=0\/k=1\/k=2\/k=3:=by omega
 rcases h with rfl | rfl | rfl | rfl<;>simp only[mE]<;>omega
section
variable{K:Nat}{G:Tw K}{S:List (Tow.El K)}{N:List Nm}{n:Nat}{z:Nm}{v:Tow.El K}
structure EnV (G:Tw K) (v:Tow.El K) (bits:Nat) (p:Rat×Rat):Prop where
 i:inV G v p
 w:Wid p bits
 q:Q2 12000000000 p
theorem Ym2(W:Wn G S N)(i:Gd G S N n z v)(hn:n<=65){bits:Nat}(hb:bits<=1000)(hb1:1<=bits): C0 96 [.d (dt z.t),.d (de z.a),.d (.int .i64 bits)] λr=>∃p,r=.d (dI p)/\EnV G v bits p:=by
 have hG:=W.w.g
 obtain⟨ρ,j,Z⟩:=i.o.ex
 have O:=i.le W
 have I:=Xad j.r
 have hT:=W.w.t j
 have hp:Sz 1299892570 (toL z.k z.a):=i.o.p.mono (by unfold gB;omega)
 have h:TS 15346 z.k z.t:=hT
 have mT:=Ydm h
 have mL:MgL 1299892570 (toL z.k z.a):=λx hx=>hp.qs hx
 have hw:∀b,5200000000<=b->Wid (enc z.k z.t z.a b) bits:=λb T=>by
  have U:∀e,(0<e->Wid (enc z.k z.t z.a b) e)->bits<=e->Wid (enc z.k z.t z.a b) bits:=λe j Z=>(j (by omega)).mono Z
  refine U _ (λV=>Xmh I mT mL V) ?_
  exact Yl0 O rfl rfl T hb
 have hv:=Yet W i
 have V:eB 1299892570 (2*(5200000000+bits+16)) z.k<=1099511627776:=by
  exact Yl1 O rfl (by omega)
 have hm:mE 15346 z.k 1299892570<=1299992570:=by
  exact Ykp O rfl rfl
 refine(Xjw (P:=5200000000) (s:=1299892570) (r:=15346) I hw h (h.mono (by decide)) hp (by decide) (by omega) hv (by omega) (by decide) V).mono λr ⟨g,hg,e,w⟩=>⟨_,e,Yk3 hG i.o (Xe2 I z.a g),w,?_⟩
 have q:=Yd6 (m:=15346) (M:=1299892570) g I mT mL
 exact⟨q.1.mono (by omega),q.2.mono (by omega)⟩
end
open Go Go.Vm Go.Num Go.Tow Go.Proofs.YtnedfplmoojbaaaGreatDoor
section
variable{K:Nat}{G:Tw K}{S:List (Tow.El K)}{N:List Nm}{n:Nat}{u:Vn}{p:V2 K}
def Xc4: Nat->V2 K->V2 K
 | 0,p=>p
 | k+1,p=>((Xc4 k p).2,Tow.neg K (Xc4 k p).1)
def qd(a b:Int): Nat:=if a>0/\b>=0 then 0 else if a<=0/\b>0 then 1 else if a<0/\b<=0 then 2 else 3
theorem Yok{a b:Int}: qd a b<=3:=by
 unfold qd
 split
 decide
 split
 decide
 split<;>decide
theorem Yfl{a b:Int}(ha:a=1\/a=0\/a=-1)(hb:b=1\/b=0\/b=-1)(h:¬(a>0/\b>=0))(h0:¬(a=0/\b=0)): qd a b=qd b (-a)+1:=by
 rcases ha with rfl | rfl | rfl<;>rcases hb with rfl | rfl | rfl<;>first | decide | exact absurd ⟨by decide,by decide⟩ h | exact absurd ⟨rfl,rfl⟩ h0
def qn(G:Tw K)(p:V2 K): Nat:=qd (sgn K G p.1) (sgn K G p.2)
def ovr(G:Tw K)(p:V2 K): Prop:=0<sgn K G (Tow.add K (Xc4 (qn G p) p).2 (Tow.neg K (Xc4 (qn G p) p).1))
instance:Decidable (ovr G p):=by unfold ovr;infer_instance
def les(G:Tw K)(p:V2 K): Tow.El K:=if ovr G p then (Xc4 (qn G p) p).1 else (Xc4 (qn G p) p).2
def gre(G:Tw K)(p:V2 K): Tow.El K:=if ovr G p then (Xc4 (qn G p) p).2 else (Xc4 (qn G p) p).1
def sta(G:Tw K)(p:V2 K)(q:Rat)(N:Nat): Rat:=(if ovr G p then qtr N-atn q N else atn q N)+qtr N*((qn G p:Int):Rat)
structure AngP (G:Tw K) (p:V2 K) (b:Nat) (R:Rat×Rat):Prop where
 q:Q2 4000 R
 w:(R.2-R.1)*pw b<=6000000
 i:∃v r,gre G p≠zero K/\Tow.mul K G v (gre G p)=les G p/\inV G v r/\0<=r.1/\r.2<=1/\∀x N,inB x r->150<=N->inB (sta G p x N) R
theorem Yfk(hG:red K G){s g u:Tow.El K}(h0:0<=sgn K G s)(U:0<sgn K G g)(I:0<=sgn K G (Tow.add K g (Tow.neg K s)))(M:Tow.mul K G u g=Tow.rat K 1): Tow.mul K G (Tow.mul K G s u) g=s/\inV G (Tow.mul K G s u) (0,1):=by
 have L:=Xax K G
 have Sg:=Xao (Xad hG)
 have i:Tow.mul K G (Tow.mul K G s u) g=s:=by rw[L.ma,M,L.mo]
 have j:sgn K G g=1:=by have:=Sg.tri g;omega
 refine⟨i,?_,?_⟩
 have h:=Sg.sm (Tow.mul K G s u) g
 rw[i,j,W4c] at h
 show 0<=sgn K G (Tow.add K (Tow.mul K G s u) (Tow.neg K (Tow.rat K 0)))
 rw[<-Xft,show (-0:Rat)=0 from rfl,Xc7,L.az,<-h]
 exact h0
 have h:=Sg.sm (Tow.add K (Tow.rat K 1) (Tow.neg K (Tow.mul K G s u))) g
 have O:Tow.mul K G (Tow.add K (Tow.rat K 1) (Tow.neg K (Tow.mul K G s u))) g=Tow.add K g (Tow.neg K s):=by
  have T:Tow.mul K G (Tow.add K (Tow.rat K 1) (Tow.neg K (Tow.mul K G s u))) g=Tow.add K g (Tow.neg K (Tow.mul K G (Tow.mul K G s u) g)):=(Laws.req L [(Tow.mul K G s u),g] (.mul (.add .o (.neg (.v 0))) (.v 1)) (.add (.v 1) (.neg (.mul (.v 0) (.v 1)))) (by decide +kernel))
  rw[T,i]
 rw[O,j,W4c] at h
 show 0<=sgn K G _
 rw[<-h]
 exact I
theorem Xv0(W:Wn G S N)(hu:Gv G S N n u p)(hp:p≠vz K)(hn:n<=4){b:Nat}(hb:b<=200)(hb1:1<=b): C0 48 [.d (dV u),.d (.int .i64 b)] (λr=>∃R,r=.tup (.pr (.d (dI R)) (.d (.int .i64 0)))/\AngP G p b R):=by
 refine En Tryz.func48 λ_ _ _=>?_
 refine Lo (λ((O,k):Vn×Nat)=>[(1,.d (.int .i64 b)),(2,.ptr 2 0),(4,.ptr 4 0),(6,.d (.int .i64 k))]) (λ((O,k):Vn×Nat)=>[(2,.var (.d (dV O))),(4,.var zI)]) (λ(O,k)=>k<=3/\Xc4 k p≠vz K/\Gv G S N n O (Xc4 k p)/\qd (sgn K G p.1) (sgn K G p.2)=qd (sgn K G (Xc4 k p).1) (sgn K G (Xc4 k p).2)+k) (λ(_,k)=>4-k) (u,0) [] rfl ⟨by decide,hp,hu,rfl⟩ λ(O,k) ⟨hk,V,j,hq⟩=>?_
 have j:Gv G S N n O (Xc4 k p):=j
 have hk:k<=3:=hk
 refine Cu (some 2) (λc:Bool=>[(1,.d (.int .i64 b)),(2,.ptr 2 0),(4,.ptr 4 0),(6,.d (.int .i64 k)),(25,.b c)]) (λ_=>[(2,.var (.d (dV O))),(4,.var zI)]) (λc=>c=true↔¬(sgn K G (Xc4 k p).1>0/\sgn K G (Xc4 k p).2>=0)) rfl ?_ λc hc=>?_
 refine Ce rfl (P9.Sign_g W j.x (by omega))<|By rfl (λh=>?_) λh=>?_
 exact Jn true [] rfl ⟨λ_ h2=>by omega,λ_=>rfl⟩
 exact Ce rfl (P9.Sign_g W j.y (by omega))<|Jn (dc (sgn K G (Xc4 k p).2<0)) [] rfl (Xaj.trans ⟨λh2 h3=>by omega,λh2=>by omega⟩)
 refine By rfl (λh=>?_) λh=>?_
 refine Dw rfl<|Ca rfl (P9.Neg_g W j.x (by omega)) λr T=>?_
 obtain⟨z,rfl,hz⟩:=T
 refine Ar (k+1:Nat) rfl ?_
 have hG:=W.w.g
 have Sg:=Xao (Xad hG)
 have V:Xc4 k p≠vz K:=V
 have hq:qd (sgn K G p.1) (sgn K G p.2)=qd (sgn K G (Xc4 k p).1) (sgn K G (Xc4 k p).2)+k:=hq
 have h0:¬(sgn K G (Xc4 k p).1=0/\sgn K G (Xc4 k p).2=0):=λe=>V (W3f ((Xat hG).1 e.1) ((Xat hG).1 e.2))
 have st:=Yfl (Sg.tri _) (Sg.tri _) (hc.1 h) h0
 rw[<-Sg.sn] at st
 have l:=Yok (a:=sgn K G p.1) (b:=sgn K G p.2)
 refine Bk (⟨O.y,z⟩,k+1) [] rfl ⟨by omega,λe=>V ?_,⟨j.y,hz⟩,?_⟩ (by show 4-(k+1)<4-k;omega)
 have e1:(Xc4 k p).2=zero K:=congrArg Prod.fst e
 have e2:Tow.neg K (Xc4 k p).1=zero K:=congrArg Prod.snd e
 refine W3f ?_ e1
 have:=(Xax K G).nn (Xc4 k p).1
 rw[e2] at this
 rw[<-this]
 have z0:=(Xax K G).an (zero K)
 rw[(Xax K G).za] at z0
 exact z0
 show qd _ _=qd (sgn K G (Xc4 k p).2) (sgn K G (Tow.neg K (Xc4 k p).1))+(k+1)
 omega
 have hxy:sgn K G (Xc4 k p).1>0/\sgn K G (Xc4 k p).2>=0:=W3j.1 λe=>h (hc.2 e)
 have hq:qd (sgn K G p.1) (sgn K G p.2)=qd (sgn K G (Xc4 k p).1) (sgn K G (Xc4 k p).2)+k:=hq
 obtain rfl:k=qn G p:=by
  have:qd (sgn K G (Xc4 k p).1) (sgn K G (Xc4 k p).2)=0:=if_pos hxy
  unfold qn;omega
 have hG:=W.w.g
 have L:=Xax K G
 have Sg:=Xao (Xad hG)
 obtain⟨Q,hQ,U⟩:=Xnb hb
 have Qle:Q.1<=Q.2:=W1n (U.i 150 (W0a _)).1 (U.i 150 (W0a _)).2
 have fin:∀ {s' g':Tow.El K} {z:Nm},0<=sgn K G s'->0<sgn K G g'->0<=sgn K G (Tow.add K g' (Tow.neg K s'))->∀ {O},Tow.mul K G O g'=Tow.rat K 1->∀ {I},EnV G (Tow.mul K G s' O) b I->¬(meetI I (0,1)).2<(meetI I (0,1)).1/\∃A B,C0 105 [.d (dq (meetI I (0,1)).1),.d (.int .i64 b)] (·=.d (dI A))/\C0 105 [.d (dq (meetI I (0,1)).2),.d (.int .i64 b)] (·=.d (dI B))/\Q2 1003 (A.1,B.2)/\(B.2-A.1)*pw b<=524289/\inV G (Tow.mul K G s' O) (meetI I (0,1))/\A.1<=B.2/\∀x N,inB x (meetI I (0,1))->150<=N->inB (atn x N) (A.1,B.2):=by
  intro s' g' z h0 o hl O j I E
  obtain⟨_,h01⟩:=Yfk hG h0 o hl j
  have hm:=Yah E.i h01
  have le:=le_tr hG hm.1 hm.2
  have bd:=Xjb I
  have q0:Q2 12000000000 (meetI I (0,1)):=⟨Xsd E.q.1 (Qs.mono (by decide +kernel:Qs 64 (0:Rat)) (by decide)),Xr6 E.q.2 (Qs.mono (by decide +kernel:Qs 64 (1:Rat)) (by decide))⟩
  obtain⟨A,hA,tA⟩:=Yck q0.1 (by decide) bd.1 (W1n le bd.2) hb
  obtain⟨B,hB,tB⟩:=Yck q0.2 (by decide) (W1n bd.1 le) bd.2 hb
  refine⟨Rat.not_lt.2 le,A,B,hA,hB,⟨tA.q.1,tB.q.2⟩,?_,hm,?_,λx N hx Z=>Yed tA tB bd.1 hx.1 hx.2 bd.2 N Z⟩
  have w1:=Ymp tA tB bd.1 le bd.2
  have w2:=W0f (Yf6 I) (W1m (Xaw b))
  have w3:=E.w.2
  grind
  have h:=Yed tA tB bd.1 (W1x) le bd.2 150 (W0a _)
  exact W1n h.1 h.2
 have wT:(Xa6 Q (pt ((qn G p:Int):Rat))).2-(Xa6 Q (pt ((qn G p:Int):Rat))).1<=3*(Q.2-Q.1):=Yc6 (n:=(qn G p:Int)) (m:=3) ⟨by omega,by omega⟩ Qle
 have wT2:=W0f wT (W1m (Xaw b))
 have wQ:=U.w
 have qT:Q2 1195 (Xa6 Q (pt ((qn G p:Int):Rat))):=Xb2 U.q (Xpe (n:=(qn G p:Int)) (by unfold Zs;omega))
 have M:0<sgn K G (Xc4 (qn G p) p).1:=hxy.1
 have hy0:0<=sgn K G (Xc4 (qn G p) p).2:=hxy.2
 refine Ca rfl (P9.Cmp_g W j.y j.x (by omega) (by omega)) λr T=>?_
 subst T
 refine No rfl (by decide)<|Dz rfl ?_
 refine By rfl (λo=>?_) λo=>?_
 have o:ovr G p:=o
 have gs:0<sgn K G (Xc4 (qn G p) p).2:=by
  have e:Tow.add K (Tow.add K (Xc4 (qn G p) p).2 (Tow.neg K (Xc4 (qn G p) p).1)) (Xc4 (qn G p) p).1=(Xc4 (qn G p) p).2:=(Laws.req L [(Xc4 (qn G p) p).1,(Xc4 (qn G p) p).2] (.add (.add (.v 1) (.neg (.v 0))) (.v 0)) (.v 1) (by decide +kernel))
  have h:=Sg.sa _ _ (W6h o) (W6h M)
  rw[e] at h
  by_cases h0:sgn K G (Xc4 (qn G p) p).2=0
  unfold ovr at o
  rw[(Xat hG).1 h0,L.za,Sg.sn] at o
  omega
  omega
 refine Ca rfl (P9.Div_g W j.x j.y (by omega) (by omega)) λr T=>?_
 rcases T with ⟨e,_⟩ | ⟨w,hw,z,rfl,hz⟩
 rw[(Xat hG).2 e] at gs;exact absurd gs (by decide)
 refine No rfl (by decide)<|Mm b rfl ?_ (by show min (b:Int) 1024=b;omega)
 refine Ca rfl (Ym2 W hz (by omega) (by omega) hb1) λr T=>?_
 obtain⟨I,rfl,E⟩:=T
 obtain⟨hle,A,B,hA,hB,qA,wA,hm,le,hi⟩:=fin (z:=z) (W6h M) gs (W6h o) hw E
 refine Ce rfl (Xah (z:=0) (by decide))<|Ce rfl (Xah (z:=1) (by decide))<|Ce rfl (Xsc (p:=I) (q:=(0,1)) (s:=12000000000) E.q ⟨Qs.mono (by decide +kernel:Qs 64 (0:Rat)) (by decide),Qs.mono (by decide +kernel:Qs 64 (1:Rat)) (by decide)⟩ (by decide) hle)<|Dw rfl<|Ce rfl hA<|Ce rfl hB<|Ce rfl hQ<|Yes rfl o<|Ce rfl (Xpx (p:=Q) (q:=(A.1,B.2)) U.q qA (by decide))<|Dw rfl<|Ce rfl (Xin (n:=(qn G p:Int)) U.q (by decide) (by omega)) ?_
 have qS:=Xu2 U.q qA
 refine Ce rfl (Xee (p:=Xy2 Q (A.1,B.2)) qS qT (by decide))<|Rt rfl (.tup (.cons (.rf rfl) Xbs)) ⟨_,rfl,(Xeh qS qT).mono (by decide),?_,_,_,?_,?_,hm,(Xjb I).1,(Xjb I).2,λx N hx Z=>?_⟩
 show ((Q.2-A.1)+(Xa6 Q (pt ((qn G p:Int):Rat))).2-((Q.1-B.2)+(Xa6 Q (pt ((qn G p:Int):Rat))).1))*pw b<=6000000
 grind
 unfold gre
 rw[if_pos o]
 exact λe=>by rw[(Xat hG).2 e] at gs;exact absurd gs (by decide)
 have:=(Yfk hG (W6h M) gs (W6h o) hw).1
 unfold gre les
 rw[if_pos o,if_pos o];exact this
 unfold sta
 rw[if_pos o]
 exact Xoz (U.i N Z) (Ymb (U.i N Z) (hi x N hx Z))
 have o:¬ovr G p:=o
 have hl:0<=sgn K G (Tow.add K (Xc4 (qn G p) p).1 (Tow.neg K (Xc4 (qn G p) p).2)):=by
  have e:Tow.add K (Xc4 (qn G p) p).1 (Tow.neg K (Xc4 (qn G p) p).2)=Tow.neg K (Tow.add K (Xc4 (qn G p) p).2 (Tow.neg K (Xc4 (qn G p) p).1)):=(Laws.req L [(Xc4 (qn G p) p).1,(Xc4 (qn G p) p).2] (.add (.v 0) (.neg (.v 1))) (.neg (.add (.v 1) (.neg (.v 0)))) (by decide +kernel))
  rw[e,Sg.sn]
  unfold ovr at o
  omega
 refine Ca rfl (P9.Div_g W j.y j.x (by omega) (by omega)) λr T=>?_
 rcases T with ⟨e,_⟩ | ⟨w,hw,z,rfl,hz⟩
 rw[(Xat hG).2 e] at M;exact absurd M (by decide)
 refine No rfl (by decide)<|Mm b rfl ?_ (by show min (b:Int) 1024=b;omega)
 refine Ca rfl (Ym2 W hz (by omega) (by omega) hb1) λr T=>?_
 obtain⟨I,rfl,E⟩:=T
 obtain⟨hle,A,B,hA,hB,qA,wA,hm,le,hi⟩:=fin (z:=z) hy0 M hl hw E
 refine Ce rfl (Xah (z:=0) (by decide))<|Ce rfl (Xah (z:=1) (by decide))<|Ce rfl (Xsc (p:=I) (q:=(0,1)) (s:=12000000000) E.q ⟨Qs.mono (by decide +kernel:Qs 64 (0:Rat)) (by decide),Qs.mono (by decide +kernel:Qs 64 (1:Rat)) (by decide)⟩ (by decide) hle)<|Dw rfl<|Ce rfl hA<|Ce rfl hB<|Ce rfl hQ<|No rfl o<|Dw rfl<|Ce rfl (Xin (n:=(qn G p:Int)) U.q (by decide) (by omega))<|Ce rfl (Xee (p:=(A.1,B.2)) qA qT (by decide))<|Rt rfl (.tup (.cons (.rf rfl) Xbs)) ⟨_,rfl,(Xeh qA qT).mono (by decide),?_,_,_,?_,?_,hm,(Xjb I).1,(Xjb I).2,λx N hx Z=>?_⟩
 show ((B.2+(Xa6 Q (pt ((qn G p:Int):Rat))).2)-(A.1+(Xa6 Q (pt ((qn G p:Int):Rat))).1))*pw b<=6000000
 grind
 unfold gre
 rw[if_neg o]
 exact λe=>by rw[(Xat hG).2 e] at M;exact absurd M (by decide)
 have:=(Yfk hG hy0 M hl hw).1
 unfold gre les
 rw[if_neg o,if_neg o];exact this
 unfold sta
 rw[if_neg o]
 exact Xoz (U.i N Z) (hi x N hx Z)
end
end Go.Proofs.YtnedfplmoojbaaaGreatDoor.P20
namespace Go.Tow
open Go
section
section
variable{K:Nat}{G:Tw K}{p q r u x y w z:V2 K}
def Xho(p:V2 K): V2 K:=(neg K p.1,neg K p.2)
theorem Xk5: Xa3 G p (Xaz G p q)=mul K G (Xmv G p p) q.2:=by
 obtain⟨a,b⟩:=p
 obtain⟨c,d⟩:=q
 have L:=Xax K G
 exact(Laws.req L [a,b,c,d] (.add (.mul (.neg (.v 1)) (.add (.mul (.v 0) (.v 2)) (.neg (.mul (.v 1) (.v 3))))) (.mul (.v 0) (.add (.mul (.v 0) (.v 3)) (.mul (.v 1) (.v 2))))) (.mul (.add (.mul (.v 0) (.v 0)) (.mul (.v 1) (.v 1))) (.v 3)) (by decide +kernel))
theorem Yeo: Xa3 G (Xaz G p r) (Xaz G q r)=mul K G (Xmv G r r) (Xa3 G p q):=by
 obtain⟨a,b⟩:=p
 obtain⟨c,d⟩:=q
 obtain⟨e,f⟩:=r
 have L:=Xax K G
 exact(Laws.req L [a,b,c,d,e,f] (.add (.mul (.neg (.add (.mul (.v 0) (.v 5)) (.mul (.v 1) (.v 4)))) (.add (.mul (.v 2) (.v 4)) (.neg (.mul (.v 3) (.v 5))))) (.mul (.add (.mul (.v 0) (.v 4)) (.neg (.mul (.v 1) (.v 5)))) (.add (.mul (.v 2) (.v 5)) (.mul (.v 3) (.v 4))))) (.mul (.add (.mul (.v 4) (.v 4)) (.mul (.v 5) (.v 5))) (.add (.mul (.neg (.v 1)) (.v 2)) (.mul (.v 0) (.v 3)))) (by decide +kernel))
theorem Xd5: Xa3 G q p=neg K (Xa3 G p q):=by
 obtain⟨a,b⟩:=p
 obtain⟨c,d⟩:=q
 have L:=Xax K G
 exact(Laws.req L [a,b,c,d] (.add (.mul (.neg (.v 3)) (.v 0)) (.mul (.v 2) (.v 1))) (.neg (.add (.mul (.neg (.v 1)) (.v 2)) (.mul (.v 0) (.v 3)))) (by decide +kernel))
theorem Yir: mul K G q.2 (Xa3 G p r)=add K (mul K G r.2 (Xa3 G p q)) (mul K G p.2 (Xa3 G q r)):=by
 obtain⟨a,b⟩:=p
 obtain⟨c,d⟩:=q
 obtain⟨e,f⟩:=r
 have L:=Xax K G
 exact(Laws.req L [a,b,c,d,e,f] (.mul (.v 3) (.add (.mul (.neg (.v 1)) (.v 4)) (.mul (.v 0) (.v 5)))) (.add (.mul (.v 5) (.add (.mul (.neg (.v 1)) (.v 2)) (.mul (.v 0) (.v 3)))) (.mul (.v 1) (.add (.mul (.neg (.v 3)) (.v 4)) (.mul (.v 2) (.v 5))))) (by decide +kernel))
theorem Xbf: Xaz G p q=Xaz G q p:=by
 obtain⟨a,b⟩:=p
 obtain⟨c,d⟩:=q
 have L:=Xax K G
 exact W3f (Laws.req L [a,b,c,d] (.add (.mul (.v 0) (.v 2)) (.neg (.mul (.v 1) (.v 3)))) (.add (.mul (.v 2) (.v 0)) (.neg (.mul (.v 3) (.v 1)))) (by decide +kernel)) (Laws.req L [a,b,c,d] (.add (.mul (.v 0) (.v 3)) (.mul (.v 1) (.v 2))) (.add (.mul (.v 2) (.v 1)) (.mul (.v 3) (.v 0))) (by decide +kernel))
theorem Xgy: Xaz G (Xaz G p q) r=Xaz G p (Xaz G q r):=by
 obtain⟨a,b⟩:=p
 obtain⟨c,d⟩:=q
 obtain⟨e,f⟩:=r
 have L:=Xax K G
 exact W3f (Laws.req L [a,b,c,d,e,f] (.add (.mul (.add (.mul (.v 0) (.v 2)) (.neg (.mul (.v 1) (.v 3)))) (.v 4)) (.neg (.mul (.add (.mul (.v 0) (.v 3)) (.mul (.v 1) (.v 2))) (.v 5)))) (.add (.mul (.v 0) (.add (.mul (.v 2) (.v 4)) (.neg (.mul (.v 3) (.v 5))))) (.neg (.mul (.v 1) (.add (.mul (.v 2) (.v 5)) (.mul (.v 3) (.v 4)))))) (by decide +kernel)) (Laws.req L [a,b,c,d,e,f] (.add (.mul (.add (.mul (.v 0) (.v 2)) (.neg (.mul (.v 1) (.v 3)))) (.v 5)) (.mul (.add (.mul (.v 0) (.v 3)) (.mul (.v 1) (.v 2))) (.v 4))) (.add (.mul (.v 0) (.add (.mul (.v 2) (.v 5)) (.mul (.v 3) (.v 4)))) (.mul (.v 1) (.add (.mul (.v 2) (.v 4)) (.neg (.mul (.v 3) (.v 5)))))) (by decide +kernel))
theorem Xe9: Xaz G (Xho p) q=Xho (Xaz G p q):=by
 obtain⟨a,b⟩:=p
 obtain⟨c,d⟩:=q
 have L:=Xax K G
 exact W3f (Laws.req L [a,b,c,d] (.add (.mul (.neg (.v 0)) (.v 2)) (.neg (.mul (.neg (.v 1)) (.v 3)))) (.neg (.add (.mul (.v 0) (.v 2)) (.neg (.mul (.v 1) (.v 3))))) (by decide +kernel)) (Laws.req L [a,b,c,d] (.add (.mul (.neg (.v 0)) (.v 3)) (.mul (.neg (.v 1)) (.v 2))) (.neg (.add (.mul (.v 0) (.v 3)) (.mul (.v 1) (.v 2)))) (by decide +kernel))
theorem Yem: Xa3 G (Xho p) q=neg K (Xa3 G p q):=by
 obtain⟨a,b⟩:=p
 obtain⟨c,d⟩:=q
 have L:=Xax K G
 exact(Laws.req L [a,b,c,d] (.add (.mul (.neg (.neg (.v 1))) (.v 2)) (.mul (.neg (.v 0)) (.v 3))) (.neg (.add (.mul (.neg (.v 1)) (.v 2)) (.mul (.v 0) (.v 3)))) (by decide +kernel))
theorem Xf6(G:Tw K){p:V2 K}: Xho (Xho p)=p:=W3f ((Xax K G).nn _) ((Xax K G).nn _)
theorem Xh8: Xaz G p (Xho q)=Xho (Xaz G p q):=by rw[Xbf,Xe9,Xbf]
theorem Xxz: Xa3 G p (Xho q)=neg K (Xa3 G p q):=by rw[Xd5,Yem,<-Xd5]
theorem Xhx(hG:red K G)(hp:p≠vz K): sgn K G (Xmv G p p)=1:=by
 have Sg:=Xao (Xad hG)
 have j:=(Xei (Sg.tri p.1)).1
 have o:=(Xei (Sg.tri p.2)).1
 have i:=Sg.sa (mul K G p.1 p.1) (mul K G p.2 p.2) (by rw[Sg.sm];exact j) (by rw[Sg.sm];exact o)
 have i:0<=sgn K G (Xmv G p p):=i
 rcases Sg.tri (Xmv G p p) with h | h | h
 exact h
 exact absurd (vsq hG h) hp
 omega
theorem Xk3(hG:red K G)(hp:p≠vz K): vup G (Xho p)↔¬vup G p:=by
 have Sg:=Xao (Xad hG)
 have h0:¬(sgn K G p.1=0/\sgn K G p.2=0):=λh=>hp ((Xhm hG).2 h)
 have i:=Sg.tri p.1
 have j:=Sg.tri p.2
 unfold vup Xho
 simp only[Sg.sn]
 omega
theorem Xhn(h:vup G p): 0<=sgn K G p.2:=by unfold vup at h;omega
theorem Xfj(hG:red K G)(h:vup G p): p≠vz K:=λe=>by
 have:=(Xhm hG).1 e
 unfold vup at h
 omega
theorem Yil(hG:red K G)(hp:vup G p)(hq:vup G q)(hr:vup G r)(j:0<=sgn K G (Xa3 G p q))(M:0<=sgn K G (Xa3 G q r)): 0<=sgn K G (Xa3 G p r):=by
 have Sg:=Xao (Xad hG)
 have L:=Xax K G
 have O:=Xhn hp
 have o:=Xhn hr
 have h:=congrArg (sgn K G) (Yir (G:=G) (p:=p) (q:=q) (r:=r))
 have i:=Sg.sa (mul K G r.2 (Xa3 G p q)) (mul K G p.2 (Xa3 G q r)) (by rw[Sg.sm];exact W6y o j) (by rw[Sg.sm];exact W6y O M)
 rw[<-h,Sg.sm] at i
 rcases hq with hq | ⟨hq,I⟩
 have:sgn K G q.2=1:=by have:=Sg.tri q.2;omega
 rw[this,W3e] at i
 exact i
 have I:sgn K G q.1=1:=by have:=Sg.tri q.1;omega
 have T:=(Xat hG).1 hq
 have U:Xa3 G p q=neg K (mul K G p.2 q.1):=by
  show add K (mul K G (neg K p.2) q.1) (mul K G p.1 q.2)=_
  rw[T,L.mz,L.az,L.nm]
 rw[U,Sg.sn,Sg.sm,I,W4c] at j
 have V:sgn K G p.2=0:=by omega
 have Z:=(Xat hG).1 V
 have e2:Xa3 G p r=mul K G p.1 r.2:=by
  show add K (mul K G (neg K p.2) r.1) (mul K G p.1 r.2)=_
  rw[Z,L.nz,L.zm,L.za]
 rw[e2,Sg.sm]
 exact W6y (by unfold vup at hp;omega) o
theorem Xk4(hG:red K G)(hp:vup G p)(hq:vup G q)(h:sgn K G p.2=0): vup G (Xaz G p q):=by
 have Sg:=Xao (Xad hG)
 have L:=Xax K G
 have j:sgn K G p.1=1:=by have:=Sg.tri p.1;unfold vup at hp;omega
 have i:=(Xat hG).1 h
 have o:(Xaz G p q).1=mul K G p.1 q.1:=by
  show add K (mul K G p.1 q.1) (neg K (mul K G p.2 q.2))=_
  rw[i,L.zm,L.nz,L.az]
 have I:(Xaz G p q).2=mul K G p.1 q.2:=by
  show add K (mul K G p.1 q.2) (mul K G p.2 q.1)=_
  rw[i,L.zm,L.az]
 unfold vup
 rw[o,I,Sg.sm,Sg.sm,j,W3e,W3e]
 exact hq
theorem Xy9(hG:red K G)(j:vup G x)(M:vup G y)(o:vup G w)(h:0<=sgn K G (Xa3 G x y))(I:vup G (Xaz G y w)): vup G (Xaz G x w):=W0t λO=>by
 have Sg:=Xao (Xad hG)
 have L:=Xax K G
 have U:=Xb0 hG (Xfj hG j) (Xfj hG o)
 have V:=(Xk3 hG U).2 O
 have T:=Xhx hG (Xfj hG o)
 have i:∀s:V2 K,sgn K G (Xa3 G w (Xaz G s w))=sgn K G s.2:=λs=>by rw[Xbf,Xk5,Sg.sm,T,W3e]
 have Z:0<=sgn K G (Xa3 G (Xho (Xaz G x w)) w):=by
  rw[Xd5,Xxz,Sg.sn,Sg.sn,i]
  have:=Xhn j;omega
 have c2:0<=sgn K G (Xa3 G (Xaz G y w) (Xho (Xaz G x w))):=by
  rw[Xxz,Xd5,Sg.sn,Sg.sn,Yeo,Sg.sm,T,W3e]
  omega
 have c3:=Yil hG I V o c2 Z
 rw[Xd5,Sg.sn,i] at c3
 have y0:sgn K G y.2=0:=by have:=Xhn M;omega
 have z2:=(Xat hG).1 y0
 have e1:Xa3 G x y=neg K (mul K G x.2 y.1):=by
  show add K (mul K G (neg K x.2) y.1) (mul K G x.1 y.2)=_
  rw[z2,L.mz,L.az,L.nm]
 have yx:sgn K G y.1=1:=by have:=Sg.tri y.1;unfold vup at M;omega
 rw[e1,Sg.sn,Sg.sm,yx,W4c] at h
 have x0:sgn K G x.2=0:=by have:=Xhn j;omega
 exact O (Xk4 hG j o x0)
def vh(G:Tw K)(p:V2 K): Int:=if vup G p then 0 else 1
def Xbm(G:Tw K)(p:V2 K): V2 K:=if vup G p then p else Xho p
def vhe(G:Tw K)(p q:V2 K): Int:=vh G (Xaz G (Xbm G p) (Xbm G q))
theorem Xeo: vh G p=0/\vup G p\/vh G p=1/\¬vup G p:=by
 unfold vh
 by_cases h:vup G p
 rw[if_pos h];exact .inl ⟨rfl,h⟩
 rw[if_neg h];exact .inr ⟨rfl,h⟩
theorem Xuo(hG:red K G)(hp:p≠vz K): vh G (Xho p)=1-vh G p:=by
 have h:=Xk3 hG hp
 unfold vh
 by_cases i:vup G p
 rw[if_pos i,if_neg λe=>h.1 e i];rfl
 rw[if_neg i,if_pos (h.2 i)];rfl
theorem Xql(hG:red K G)(hp:p≠vz K): Xbm G (Xho p)=Xbm G p:=by
 have h:=Xk3 hG hp
 unfold Xbm
 by_cases i:vup G p
 rw[if_pos i,if_neg λe=>h.1 e i,Xf6 G]
 rw[if_neg i,if_pos (h.2 i)]
theorem Xd4(hG:red K G)(hp:p≠vz K): vup G (Xbm G p):=by
 unfold Xbm
 by_cases h:vup G p
 rw[if_pos h];exact h
 rw[if_neg h];exact(Xk3 hG hp).2 h
theorem Xc8: vh G p=0/\vup G p/\p=Xbm G p\/vh G p=1/\¬vup G p/\p=Xho (Xbm G p):=by
 unfold Xbm
 rcases Xeo (G:=G) (p:=p) with ⟨i,h⟩ | ⟨i,h⟩
 rw[if_pos h];exact .inl ⟨i,h,rfl⟩
 rw[if_neg h,Xf6 G];exact .inr ⟨i,h,rfl⟩
section
variable(hG:red K G)(hp:p≠vz K)(hq:q≠vz K)
include hG hp hq
theorem Yn1: Xaz G (Xbm G p) (Xbm G q)≠vz K:=Xb0 hG (Xfj hG (Xd4 hG hp)) (Xfj hG (Xd4 hG hq))
theorem Xza: Xbm G (Xaz G p q)=Xbm G (Xaz G (Xbm G p) (Xbm G q)):=by
 have j:=Yn1 hG hp hq
 rcases Xc8 (G:=G) (p:=p) with ⟨_,_,h⟩ | ⟨_,_,h⟩<;>rcases Xc8 (G:=G) (p:=q) with ⟨_,_,i⟩ | ⟨_,_,i⟩
 rw[<-h,<-i]
 rw[show Xaz G p q=Xho (Xaz G (Xbm G p) (Xbm G q)) by rw[<-Xh8,<-h,<-i],Xql hG j]
 rw[show Xaz G p q=Xho (Xaz G (Xbm G p) (Xbm G q)) by rw[<-Xe9,<-h,<-i],Xql hG j]
 rw[show Xaz G p q=Xho (Xho (Xaz G (Xbm G p) (Xbm G q))) by rw[<-Xe9,<-Xh8,<-h,<-i],Xf6 G]
theorem Xmx: vh G (Xaz G p q)=(vh G p+vh G q+vhe G p q)%2:=by
 have I:=Yn1 hG hp hq
 have M:=Xeo (G:=G) (p:=Xaz G (Xbm G p) (Xbm G q))
 unfold vhe
 rcases Xc8 (G:=G) (p:=p) with ⟨h,_,i⟩ | ⟨h,_,i⟩<;>rcases Xc8 (G:=G) (p:=q) with ⟨j,_,o⟩ | ⟨j,_,o⟩
 rw[h,j,show Xaz G p q=Xaz G (Xbm G p) (Xbm G q) by rw[<-i,<-o]];omega
 rw[h,j,show Xaz G p q=Xho (Xaz G (Xbm G p) (Xbm G q)) by rw[<-Xh8,<-i,<-o],Xuo hG I];omega
 rw[h,j,show Xaz G p q=Xho (Xaz G (Xbm G p) (Xbm G q)) by rw[<-Xe9,<-i,<-o],Xuo hG I];omega
 rw[h,j,show Xaz G p q=Xho (Xho (Xaz G (Xbm G p) (Xbm G q))) by rw[<-Xe9,<-Xh8,<-i,<-o],Xf6 G];omega
omit hG hp hq in
theorem Xmy: Xhy G p q=if vh G p=vh G q then-sgn K G (Xa3 G p q) else vh G p-vh G q:=by
 unfold Xhy
 rcases Xeo (G:=G) (p:=p) with ⟨h,i⟩ | ⟨h,i⟩<;>rcases Xeo (G:=G) (p:=q) with ⟨j,o⟩ | ⟨j,o⟩<;>rw[h,j]<;>simp[i,o]
theorem Xd6{f g:Int}: Xcm G p q f g=f+g+(vh G p+vh G q+vhe G p q)/2:=by
 have Sg:=Xao (Xad hG)
 have T:=Xmx hG hp hq
 have hpq:=Xb0 hG hp hq
 have U:=Xmy (G:=G) (p:=Xaz G p q) (q:=p)
 have V:=Xeo (G:=G) (p:=Xaz G (Xbm G p) (Xbm G q))
 have e1:sgn K G (Xa3 G (Xaz G p q) p)=- sgn K G q.2:=by
  rw[Xd5,Sg.sn,Xk5,Sg.sm,Xhx hG hp,W3e]
 rw[e1] at U
 have ty:=Sg.tri q.2
 have Z:vhe G p q=vh G (Xaz G (Xbm G p) (Xbm G q)):=rfl
 rw[<-Z] at V
 have hf:sgn K G q.2=0->vhe G p q=0:=λh0=>by
  have hy:sgn K G (Xbm G q).2=0:=by
   rcases Xc8 (G:=G) (p:=q) with ⟨_,_,e2⟩ | ⟨_,i,_⟩
   rw[<-e2];exact h0
   rw[show Xbm G q=Xho q from if_neg i];show sgn K G (neg K q.2)=0;rw[Sg.sn,h0];rfl
  have:=Xk4 hG (Xd4 hG hq) (Xd4 hG hp) hy
  rw[Xbf] at this
  rw[Z];exact if_pos this
 have hq':(vh G q=0->0<=sgn K G q.2)/\(vh G q=1->sgn K G q.2<=0):=by
  rcases Xeo (G:=G) (p:=q) with ⟨j,i⟩ | ⟨j,i⟩
  exact⟨λ_=>Xhn i,λh=>by omega⟩
  refine⟨λh=>by omega,λ_=>?_⟩
  unfold vup at i;omega
 have o:vh G p=0\/vh G p=1:=by rcases Xeo (G:=G) (p:=p) with ⟨a,_⟩ | ⟨a,_⟩<;>omega
 have I:vh G q=0\/vh G q=1:=by rcases Xeo (G:=G) (p:=q) with ⟨a,_⟩ | ⟨a,_⟩<;>omega
 unfold Xcm
 rw[U]
 rcases o with M | M<;>rcases I with j | j<;>rcases V with ⟨O,_⟩ | ⟨O,_⟩<;>rw[M,j,O] at T<;>rw[M,j,O,T]<;>simp<;>omega
omit hG hp hq in
theorem Xfa: vhe G p q=vhe G q p:=by unfold vhe;rw[Xbf]
omit hG hp hq in
theorem Xj6: vhe G p q=0\/vhe G p q=1:=by
 unfold vhe
 rcases Xeo (G:=G) (p:=Xaz G (Xbm G p) (Xbm G q)) with ⟨a,_⟩ | ⟨a,_⟩<;>omega
end
theorem Xow(hG:red K G)(hp:p≠vz K)(hq:q≠vz K)(hr:r≠vz K): (vhe G p q=0->vhe G (Xaz G p q) r=vh G (Xaz G (Xaz G (Xbm G p) (Xbm G q)) (Xbm G r)))/\(vhe G p q=1->vhe G (Xaz G p q) r=1-vh G (Xaz G (Xaz G (Xbm G p) (Xbm G q)) (Xbm G r))):=by
 have o:=Yn1 hG hp hq
 have i:=Xb0 hG o (Xfj hG (Xd4 hG hr))
 have e:vhe G (Xaz G p q) r=vh G (Xaz G (Xbm G (Xaz G (Xbm G p) (Xbm G q))) (Xbm G r)):=by
  show vh G (Xaz G (Xbm G (Xaz G p q)) (Xbm G r))=_
  rw[Xza hG hp hq]
 rw[e]
 have I:vhe G p q=vh G (Xaz G (Xbm G p) (Xbm G q)):=rfl
 rw[I]
 rcases Xc8 (G:=G) (p:=Xaz G (Xbm G p) (Xbm G q)) with ⟨a,_,j⟩ | ⟨a,b,j⟩
 exact⟨λ_=>by rw[<-j],λh=>by omega⟩
 refine⟨λh=>by omega,λ_=>?_⟩
 rw[show Xbm G (Xaz G (Xbm G p) (Xbm G q))=Xho (Xaz G (Xbm G p) (Xbm G q)) from if_neg b,Xe9,Xuo hG i]
theorem Xun(hG:red K G)(hp:p≠vz K)(hq:q≠vz K)(hr:r≠vz K)(j:vhe G p q=0)(o:vhe G (Xaz G p q) r=0): vhe G q r=0:=by
 have Sg:=Xao (Xad hG)
 have i:=(Xow hG hp hq hr).1 j
 rw[o] at i
 have I:vup G (Xaz G (Xbm G p) (Xbm G q)):=W0t λh=>by
  have:vhe G p q=1:=if_neg h
  omega
 have M:vup G (Xaz G (Xaz G (Xbm G p) (Xbm G q)) (Xbm G r)):=W0t λh=>by
  rw[show vh G (Xaz G (Xaz G (Xbm G p) (Xbm G q)) (Xbm G r))=1 from if_neg h] at i
  omega
 refine if_pos (Xy9 hG (Xd4 hG hq) I (Xd4 hG hr) ?_ M)
 rw[Xbf (p:=Xbm G p),Xk5,Sg.sm,Xhx hG (Xfj hG (Xd4 hG hq)),W3e]
 exact Xhn (Xd4 hG hp)
theorem Xum(hG:red K G)(hp:p≠vz K)(hq:q≠vz K)(hr:r≠vz K): vhe G p q+vhe G (Xaz G p q) r=vhe G q r+vhe G p (Xaz G q r):=by
 have h:=Xb0 hG hp hq
 have i:=Xb0 hG hq hr
 have I:=Xow hG hp hq hr
 have j:=Xow hG hr hq hp
 have M:=Xun hG hp hq hr
 have o:=Xun hG hr hq hp
 have e:Xaz G (Xaz G (Xbm G r) (Xbm G q)) (Xbm G p)=Xaz G (Xaz G (Xbm G p) (Xbm G q)) (Xbm G r):=by
  rw[Xbf (p:=Xbm G r),Xbf,<-Xgy]
 rw[e,Xbf (p:=r),Xfa (q:=p),Xfa (p:=r)] at j
 rw[Xbf (p:=r),Xfa (p:=r),Xfa (q:=p),Xfa (p:=q) (q:=p)] at o
 have O:=Xj6 (G:=G) (p:=p) (q:=q)
 have T:=Xj6 (G:=G) (p:=Xaz G p q) (q:=r)
 have U:=Xj6 (G:=G) (p:=q) (q:=r)
 have V:=Xj6 (G:=G) (p:=p) (q:=Xaz G q r)
 omega
theorem Xgz(hG:red K G)(hp:p≠vz K)(hq:q≠vz K)(hr:r≠vz K){f g h:Int}: Xcm G (Xaz G p q) r (Xcm G p q f g) h=Xcm G p (Xaz G q r) f (Xcm G q r g h):=by
 have i:=Xb0 hG hp hq
 have j:=Xb0 hG hq hr
 rw[Xd6 hG i hr,Xd6 hG hp hq,Xd6 hG hp j,Xd6 hG hq hr,Xmx hG hp hq,Xmx hG hq hr]
 have:=Xum hG hp hq hr
 omega
theorem Xii(hG:red K G)(hp:p≠vz K)(hq:q≠vz K){f g:Int}: Xcm G p q f g=Xcm G q p g f:=by
 rw[Xd6 hG hp hq,Xd6 hG hq hp,Xfa (p:=p)]
 omega
theorem Xzc: Xaz G p (Xcx p)=(Xmv G p p,zero K):=by
 obtain⟨a,b⟩:=p
 have L:=Xax K G
 exact W3f (Laws.req L [a,b] (.add (.mul (.v 0) (.v 0)) (.neg (.mul (.v 1) (.neg (.v 1))))) (.add (.mul (.v 0) (.v 0)) (.mul (.v 1) (.v 1))) (by decide +kernel)) (Laws.req L [a,b] (.add (.mul (.v 0) (.neg (.v 1))) (.mul (.v 1) (.v 0))) .z (by decide +kernel))
theorem Xk6(hG:red K G)(hp:p≠vz K): Xcx p≠vz K:=λh=>hp (by
 have Sg:=Xao (Xad hG)
 rw[Xhm hG] at h |-
 have i:sgn K G (neg K p.2)=0:=h.2
 rw[Sg.sn] at i
 exact⟨h.1,by omega⟩)
theorem Xig(hG:red K G)(hp:p≠vz K): Xa5 G (Xaz G p (Xcx p)):=by
 rw[Xzc]
 exact⟨(Xao (Xad hG)).s0 (Xax K G),by show 0<sgn K G (Xmv G p p);rw[Xhx hG hp];decide⟩
theorem Xze(hG:red K G)(hp:p≠vz K){f g:Int}: Xcm G p (Xcx p) f g=f+g+(if Xa5 G p then 0 else 1):=by
 have Sg:=Xao (Xad hG)
 have L:=Xax K G
 have T:=Xk6 hG hp
 have hm:=Xb0 hG hp T
 have U:=Xig hG hp
 have hu:vup G (Xaz G p (Xcx p)):=.inr U
 have h0:vh G (Xaz G p (Xcx p))=0:=if_pos hu
 have h1:=Xmx hG hp T
 rw[h0] at h1
 rw[Xd6 hG hp T]
 have b:=Xj6 (G:=G) (p:=p) (q:=Xcx p)
 have t1:=Sg.tri p.2
 have t2:=Sg.tri p.1
 have hn:¬(sgn K G p.1=0/\sgn K G p.2=0):=λh=>hp ((Xhm hG).2 h)
 have i:vup G (Xcx p)↔sgn K G p.2<0\/(sgn K G p.2=0/\0<sgn K G p.1):=by
  show (0<sgn K G (neg K p.2)\/(sgn K G (neg K p.2)=0/\0<sgn K G p.1))↔_
  rw[Sg.sn];omega
 have j:vup G p↔0<sgn K G p.2\/(sgn K G p.2=0/\0<sgn K G p.1):=W4a
 have o:Xa5 G p↔sgn K G p.2=0/\0<sgn K G p.1:=W4a
 rcases Xeo (G:=G) (p:=p) with ⟨V,M⟩ | ⟨V,M⟩<;>rcases Xeo (G:=G) (p:=Xcx p) with ⟨Z,O⟩ | ⟨Z,O⟩
 -- the I of 1
 rw[j] at M
 rw[i] at O
 have e:Xbm G p=p:=if_pos (j.2 M)
 have e2:Xbm G (Xcx p)=Xcx p:=if_pos (i.2 O)
 have:vhe G p (Xcx p)=0:=by unfold vhe;rw[e,e2];exact h0
 rw[V,Z,this,if_pos (o.2 (by omega))]
 rfl
 rw[j] at M
 rw[i] at O
 rw[if_neg (by rw[o];omega)]
 omega
 rw[j] at M
 rw[i] at O
 rw[if_neg (by rw[o];omega)]
 omega
 rw[j] at M
 rw[i] at O
 rw[if_neg (by rw[o];omega)]
 omega
end
end
section
section
variable{K:Nat}{G:Tw K}{p q r u x y w z:V2 K}{s:El K}
theorem Xmz(hG:red K G): Xhy G q p=- Xhy G p q:=by
 have Sg:=Xao (Xad hG)
 rw[Xmy,Xmy,Xd5 (p:=p),Sg.sn]
 by_cases h:vh G p=vh G q
 rw[if_pos h,if_pos h.symm]
 rw[if_neg h,if_neg λe=>h e.symm];omega
def vsc(G:Tw K)(s:El K)(p:V2 K): V2 K:=(mul K G s p.1,mul K G s p.2)
theorem Yn2(hG:red K G)(i:sgn K G s=1): vh G (vsc G s p)=vh G p:=by
 have Sg:=Xao (Xad hG)
 have:vup G (vsc G s p)↔vup G p:=by unfold vup vsc;simp only[Sg.sm,i,W3e]
 unfold vh
 by_cases h:vup G p
 rw[if_pos h,if_pos (this.2 h)]
 rw[if_neg h,if_neg λe=>h (this.1 e)]
theorem Yis: Xa3 G p (vsc G s q)=mul K G s (Xa3 G p q):=by
 obtain⟨a,b⟩:=p
 obtain⟨c,d⟩:=q
 have L:=Xax K G
 exact(Laws.req L [a,b,c,d,s] (.add (.mul (.neg (.v 1)) (.mul (.v 4) (.v 2))) (.mul (.v 0) (.mul (.v 4) (.v 3)))) (.mul (.v 4) (.add (.mul (.neg (.v 1)) (.v 2)) (.mul (.v 0) (.v 3)))) (by decide +kernel))
theorem Yeq(hG:red K G)(h:sgn K G s=1): Xhy G p (vsc G s q)=Xhy G p q:=by
 have Sg:=Xao (Xad hG)
 rw[Xmy,Xmy,Yn2 hG h,Yis,Sg.sm,h,W3e]
end
end
end Go.Tow
namespace Go.Proofs.YtnedfplmoojbaaaGreatDoor
open Go Go.Vm Go.Num Go.Tow
section
variable{K:Nat}{G:Tw K}{S:List (Tow.El K)}{N:List Nm}{n m k:Nat}{x y z:Nm}{a b v w:Tow.El K}{u s t:Vn}{p q r:V2 K}
def Yn0{K:Nat}(p q:V2 K): V2 K:=(Tow.add K p.1 q.1,Tow.add K p.2 q.2)
theorem Yi2{K:Nat}{a b:Tow.El K}: toL K a=toL K b↔a=b:=⟨Xg1,λe=>by rw[e]⟩
theorem P9.Equal_g(W:Wn G S N)(hx:Gd G S N n x v)(hy:Gd G S N m y w)(hn:n<=190)(hm:m<=190): C0 82 [.d (dN x),.d (dN y)] (·=.b (dc (v=w))):=by
 have hG:=W.w.g
 have hO:oW gF 3799892570=2*jW gF 3799892570+cB gF.R gF.H+1:=rfl
 have hO1:=fO1
 have hH:gF.H=3:=rfl
 have hR:gF.R=15346:=rfl
 have M:=hx.op1 hn
 have O:=hy.op1 hm
 obtain⟨ρx,I,hx2⟩:=M.ex
 obtain⟨ρy,V,Z⟩:=O.ex
 have hx3:=W.w.le I
 have hy3:=W.w.le V
 have hxr:=W.w.t I
 have hyr:=W.w.t V
 have hpx:=p16 (by omega:x.k<=16)
 have hj:C0 163 [.d (dNs [x,y])] λv'=>∃m T a b,v'=.tup (.pr (.d (dNs [⟨m,T,a⟩,⟨m,T,b⟩])) (.d (.int .i64 0)))/\R9.JnR gF G S 3799892570 v w m T a b:=P9.Join_ok W.w M O fO1
 have fin:∀ {k:Nat} {T:Tw k} {a b:Tow.El k} {ρ:Nat->Tow.El K},TOk G S k T ρ->ev G ρ k a=v->ev G ρ k b=w->(dc (toL k a=toL k b)=true↔v=w):=λ{k T a b ρ} h1 h2 h3=>by
  rw[Xaj,Yi2,<-h2,<-h3]
  exact⟨λe=>by rw[e],λe=>Xfn (Xad hG) h1.h h1.r e⟩
 refine En Tryz.func82 λ_ _ _=>?_
 refine Ce rfl (P9.begins_ok (T:=toT x.k x.t) (U:=toT y.k y.t) (TS.pt hxr) (TS.pt hyr) (by omega) (by rw[Xaa];omega))<|By rfl (λh1=>?_) λh1=>?_
 refine Ce rfl (P9.begins_ok (T:=toT y.k y.t) (U:=toT x.k x.t) (TS.pt hyr) (TS.pt hxr) (by omega) (by rw[Xaa];omega))<|By rfl (λh2=>?_) λh2=>?_
 refine Ce rfl (P9.sameElement_ok M.p.ps O.p.ps (by omega) (by rw[Xab];omega))<|R1 rfl (.bp ?_)
 have e1:(toT x.k x.t).take (toT y.k y.t).length=toT y.k y.t:=h1
 have e2:(toT y.k y.t).take (toT x.k x.t).length=toT x.k x.t:=h2
 have l1:=congrArg List.length e1
 have l2:=congrArg List.length e2
 rw[W0k,Xaa,Xaa] at l1 l2
 obtain⟨o,tx,ax⟩:=x
 obtain⟨ky,ty,ay⟩:=y
 have l1:min ky o=ky:=l1
 have l2:min o ky=o:=l2
 obtain rfl:o=ky:=by omega
 have e3:toT o tx=toT o ty:=by
  have e1:(toT o tx).take (toT o ty).length=toT o ty:=e1
  rwa[Xaa,W0b (by rw[Xaa];omega)] at e1
 obtain rfl:=Xlb e3
 have Z:ev G ρx o ay=w:=by rw[<-Z];exact Xbw λi hi=>Hom.uniq hG I.h V.h i hi
 exact fin I hx2 Z
 refine Ca rfl hj λv' hv=>?_
 obtain⟨j,T,a,b,rfl,ρ,j1,j2,j3,j4,j5⟩:=hv
 have jm:=W.w.le j1
 have jp:=p16 (by omega:j<=16)
 exact Yes rfl (by decide)<|Dw rfl<|Ix 0 rfl (u:=dN ⟨j,T,a⟩) rfl<|Ix 1 rfl (u:=dN ⟨j,T,b⟩) rfl<|Ce rfl (P9.sameElement_ok (l:=toL j a) (m:=toL j b) j4.ps j5.ps (by omega) (by rw[Xab];omega))<|R1 rfl (.bp (fin j1 j2 j3))
 refine Ca rfl hj λv' hv=>?_
 obtain⟨j,T,a,b,rfl,ρ,j1,j2,j3,j4,j5⟩:=hv
 have jm:=W.w.le j1
 have jp:=p16 (by omega:j<=16)
 exact Yes rfl (by decide)<|Dw rfl<|Ix 0 rfl (u:=dN ⟨j,T,a⟩) rfl<|Ix 1 rfl (u:=dN ⟨j,T,b⟩) rfl<|Ce rfl (P9.sameElement_ok (l:=toL j a) (m:=toL j b) j4.ps j5.ps (by omega) (by rw[Xab];omega))<|R1 rfl (.bp (fin j1 j2 j3))
end
end Go.Proofs.YtnedfplmoojbaaaGreatDoor
namespace Go.Tow
open Go.Proofs.YtnedfplmoojbaaaGreatDoor (Yn0)
section
variable{K:Nat}
variable(G:Tw K)
include G
variable{G}
end
section
variable{K:Nat}{G:Tw K}{u v w p q:V2 K}
theorem Xuj(hG:red K G)(h:Xa5 G p): Xaz G p q=vsc G p.1 q/\sgn K G p.1=1:=by
 have L:=Xax K G
 have i:p.2=zero K:=(Xat hG).1 h.1
 have j:=h.2
 refine⟨?_,by rcases Xco G p.1 with e | e | e<;>omega⟩
 obtain⟨a,b⟩:=p
 obtain rfl:b=zero K:=i
 refine W3f ?_ ?_
 show add K (mul K G a q.1) (neg K (mul K G (zero K) q.2))=mul K G a q.1
 have e:neg K (zero K)=zero K:=by
  have:=L.an (zero K)
  rwa[L.za] at this
 rw[L.zm,e,L.az]
 show add K (mul K G a q.2) (mul K G (zero K) q.1)=mul K G a q.2
 rw[L.zm,L.az]
theorem Yep(hG:red K G){s:El K}(h:sgn K G s=1): Xhy G (vsc G s p) q=Xhy G p q:=by
 rw[<-W7o (Xhy G (vsc G s p) q),<-Xmz hG,Yeq hG h,Xmz hG,W7o]
end
end Go.Tow
namespace Go.Proofs.YtnedfplmoojbaaaGreatDoor.P20
open Go Go.Vm Go.Num Go.Tow Go.Proofs.YtnedfplmoojbaaaGreatDoor
open Go.Proofs.YtnedfplmoojbaaaGreatDoor.P55 (v0 W0 g0 gv0 zw Xjk Qp)
structure Sn where
 c:Nm
 v:Vn
 f:Int
abbrev dSe(s:Sn): D:=.st (.pr (dN s.c) (dT s.v s.f))
abbrev dSs(l:List Sn): D:=.sl 7 (l.map dSe)
abbrev dAr(x:Nm)(l:List Sn): D:=.st (.pr (dN x) (dSs l))
abbrev dA0: D:=.st (.pr R9.n0 (dSs []))
abbrev zA: AV:=.st (.pr (.st (.pr .nil .nil)) .nil)
theorem Ypb{g:Hp}{K:Hpl}: Fit g K (.st (.pr (.st (.pr .nil .nil)) .nil)) (.d dA0):=.sd (.pd R9.fit0 (.nil rfl))
abbrev hf2: Rat:=Rat.divInt 1 2
theorem Xw4: Qs 64 hf2:=by decide +kernel
section
variable{K:Nat}{G:Tw K}{S:List (Tow.El K)}{N:List Nm}{n m:Nat}{x y z:Nm}{a b:Tow.El K}
variable{K':Nat}{G':Tw K'}{S':List (Tow.El K')}{N':List Nm}{u s:Vn}{p q:V2 K'}{f g:Int}
theorem Xtn(W:Wn G S N)(h:Gd G S N n x a)(i:n<=800): C0 28 [.d (dN x)] (·=.b (dc (sgn K G a>0))):=by
 refine En Tryz.func28 λ_ _ _=>?_
 exact Ce rfl (P9.Sign_g W h i)<|R0
theorem Ydo(W:Wn G S N)(h:Gd G S N n x a)(i:Gd G S N m y b)(j:n<=190)(o:m<=190): C0 81 [.d (dN x),.d (dN y)] (·=.b (dc (sgn K G (Tow.add K a (Tow.neg K b))<0))):=by
 refine En Tryz.func81 λ_ _ _=>?_
 exact Ce rfl (P9.Cmp_g W h i j o)<|Yes rfl (by decide)<|R0
theorem Xmu: C0 29 [.d (dN x)] (·=.d (dAr x [])):=by
 refine En Tryz.func29 λ_ _ _=>?_
 exact R1 rfl (.sd (.pd (.rf rfl) (.nil rfl)))
theorem half_g(W:Wn G S N)(h:Gd G S N n x a)(o:n<=400): C0 32 [.d (dN x)] (OpG G S N (n+1) (Tow.mul K G a (Tow.rat K hf2))):=by
 refine En Tryz.func32 λ_ _ _=>?_
 refine Dw rfl<|Ce rfl (Xck (a:=1) (b:=2) (by decide) (by decide))<|Ce rfl (P9.FromRat_ok (q:=hf2) Xw4 (by decide))<|Ca rfl (P9.Mul_g W h (Gd.rat W Xw4) (by omega) (by decide)) λv i=>?_
 obtain⟨z,rfl,j⟩:=i
 exact Rt rfl (.tup (.cons (.rf rfl) Xbs)) ⟨z,rfl,j⟩
def ScG(G:Tw K)(S:List (Tow.El K))(N:List Nm)(n:Nat)(a:Tow.El K)(G':Tw K')(p:V2 K')(u:Vn)(f:Int)(r:AV): Prop :=
 (¬sgn K G a>0/\r=.tup (.pr (.d dA0) (.d (.int .i64 1))))\/(sgn K G a>0/\(f=0/\Xa5 G' p)/\r=.tup (.pr (.d (dAr n00 [])) (.d (.int .i64 0)))) \/
 (sgn K G a>0/\¬(f=0/\Xa5 G' p)/\∃z,r=.tup (.pr (.d (dAr n00 [⟨z,u,f⟩])) (.d (.int .i64 0)))/\Gd G S N n z (Tow.mul K G a (Tow.rat K hf2)))
theorem Sector_g(W:Wn G S N)(W':Wn G' S' N')(j:Gd G S N n x a)(o:Gv G' S' N' m u p)(I:n<=400)(M:m<=800): C0 7 [.d (dN x),.d (dT u f)] (ScG G S N (n+1) a G' p u f):=by
 refine En Tryz.func7 λ_ _ _=>?_
 refine Ce rfl (Xtn W j (by omega))<|By rfl (λh=>?_) λh=>?_
 have h:¬sgn K G a>0:=by simpa only [Xas,Xaj] using h
 exact Rt rfl (.tup (.cons Ypb Xbs)) (.inl ⟨h,rfl⟩)
 have h:sgn K G a>0:=W3j.1 (by simpa only [Xas,Xaj] using h)
 refine Ce rfl (P9.FromInt_ok (z:=0) (by decide))<|Ce rfl Xmu<|Ce rfl (P19.Zero_g W' o M)<|By rfl (λi=>?_) λi=>?_
 exact Rt rfl (.tup (.cons (.rf rfl) Xbs)) (.inr (.inl ⟨h,i,rfl⟩))
 refine Ca rfl (half_g W j I) λv O=>?_
 obtain⟨z,rfl,T⟩:=O
 exact No rfl (by decide)<|Rt rfl (.tup (.cons (.sd (.pd (.rf rfl) (.lit rfl))) Xbs)) (.inr (.inr ⟨h,i,z,rfl,T⟩))
end
end Go.Proofs.YtnedfplmoojbaaaGreatDoor.P20
namespace Go.Proofs.YtnedfplmoojbaaaGreatDoor
open Go Go.Vm Go.Num Go.Tow
section
section
variable{K:Nat}{G:Tw K}{S:List (Tow.El K)}{N:List Nm}{n m k:Nat}{x y z:Nm}{a b v w:Tow.El K}{u s t:Vn}{p q r:V2 K}
end
end
section
theorem Zs.pow{q:Nat}{z:Int}(h:Zs q z)(n:Nat): Zs (q*n+1) (z^n):=by
 unfold Zs at *
 rw[Int.natAbs_pow]
 have i:z.natAbs^n<=(2^q)^n:=Nat.pow_le_pow_left (W2k h) n
 rw[<-W6q] at i
 rw[W0z]
 have:=W0p (q*n)
 omega
theorem Zs.len2{q:Nat}{z:Int}(h:Zs q z)(hq:q<=8000000000000): (dig z.natAbs).length<=274877906944:=by
 have i:z.natAbs<4294967296^(q/32+1):=by
  rw[show 4294967296=2^32 from rfl,<-W6q]
  exact W0y h (W0o (by decide) (by omega))
 have:=Xaq i
 omega
theorem Yal{a:Int}(ha:(dig a.natAbs).length<=549755813888): C0 310 [.d (dz a),.d (dz 1)] (·=.d (dz (a-1))):=by
 have i:(dig (Int.natAbs (-1))).length<=549755813888:=W0j (Xaq (n:=1) (k:=1) (by decide)) (by decide)
 have h:=Add_ok (a:=a) (b:=-1) ha i
 have j:C0 197 [.d (dz a),.d (.st (.pr (.bool (!decide ((1:Int)<0))) (ws (dig (Int.natAbs 1)))))] (·=.d (dz (a-1))):=h
 refine En Tryz.func310 λ_ _ _=>?_
 exact Ce rfl j<|R1 rfl (.rf rfl)
theorem Xv1{x:Rat}{p:Nat}(i:Qs p x)(hp:p<=4398046511104): C0 309 [.d (dq x)] (·=.d (dz x.floor)):=by
 have h:=DivMod_ok (a:=x.num) (b:=x.den) (W0j (i.n.len (by omega)) (by decide)) (W0j (i.d.len (by omega)) (by decide)) (Xcd x)
 have e:x.num.fdiv x.den=x.floor:=by
  have:=Xia x 0
  rw[show pw 0=1 from rfl,W5w,Int.pow_zero,W4c] at this
  exact this
 rw[e] at h
 refine En Tryz.func309 λ_ _ _=>?_
 exact Ce rfl h<|R1 rfl (.rf rfl)
theorem Ygr{n:Nat}{z:Int}{q:Nat}(hz:Zs q z)(hn:n<=4096)(hq:q<=100000): C0 308 [.d (dz z),.d (.int .i64 n)] (·=.tup (.pr (.d (dz (z^n))) (.d (.int .i64 0)))):=by
 refine En Tryz.func308 λ_ _ _=>?_
 refine No rfl (by omega)<|No rfl (by omega)<|Dw rfl<|Ce rfl (FromInt_ok (z:=1) (by decide))<|Ce rfl (Norm_ok (W0j (hz.len (by omega)) (by decide)))<|Lo (λ((m,o,e):Nat×Nat×Nat)=>[(1,.d (.int .i64 m)),(4,.ptr 4 0),(5,.d (.int .i64 0)),(6,.ptr 6 0),(7,.ptr 7 0)]) (λ(m,o,e)=>[(4,.var (.st (.pr (.b false) .nil))),(6,.var (.d (dz (z^o)))),(7,.var (.d (dz (z^e))))]) (λ(m,o,e)=>o+e*m=n/\e<=max n 1/\m<=n) (λ(m,_,_)=>m) (n,0,1) [] rfl ⟨by omega,by omega,W0a n⟩ ?_ (by exact⟨rfl,by show Xua _ [(4,Ob.var (AV.st (.pr (.b false) .nil))),(6,Ob.var (AV.d (dz (z^0)))),(7,Ob.var (AV.d (dz (z^1))))];rw[Int.pow_zero,show z^1=z by rw[Int.pow_succ,Int.pow_zero,W3e]];rfl,rfl,rfl,rfl⟩)
 rintro⟨m,o,e⟩ ⟨hm,he,hmn⟩
 have i:∀j,j<=4096->(dig (z^j).natAbs).length<=549755813888:=λj hj=>by
  have:=Zs.pow hz j
  have hqj:q*j<=100000*4096:=W2b hq hj
  exact W0j (this.len (by omega)) (by decide)
 have ho:o<=4096:=by have:=W0r (e*m);omega
 have I:e<=4096:=by omega
 refine By rfl (λh=>?_) λh=>?_
 have h:(m:Int)>0:=h
 have Z:=W2x m 2
 have M:e*m=2*(e*(m/2))+e*(m%2):=by
  conv=>lhs;rw[<-Z,W1d]
  rw[W5d]
 have O:arB .quo .i64 (m:Int) 2 ((m/2:Nat):Int):=Yl4 (m:=2) rfl (by decide) (by omega)
 have T:∀e:Nat,z^e*z^e=z^(e+e):=λe=>(Int.pow_add ..).symm
 refine Ar (m%2:Nat) rfl ?_ (show _/\_ from⟨by decide,Xta m 2⟩)
 refine By rfl (λU=>?_) λU=>?_
 have U:m%2=1:=by omega
 rw[U,W4j] at M
 refine Ce rfl (Mul_ok (i o ho) (i e I)) ?_
 rw[<-Int.pow_add]
 refine Ar (m/2:Nat) rfl ?_ O
 refine By rfl (λh2=>?_) λh2=>?_
 have he2:e*1<=e*(m/2):=W0u e (by omega)
 refine Ce rfl (Mul_ok (i e I) (i e I)) ?_
 rw[T]
 exact Bk (m/2,o+e,e+e) [] rfl ⟨by rw[W1f];omega,by omega,by omega⟩ (by show m/2<m;omega)
 have V:m/2=0:=by omega
 rw[V] at M
 exact Bk (m/2,o+e,e) [] rfl ⟨by rw[V];omega,he,by omega⟩ (by show m/2<m;omega)
 have U:m%2=0:=by omega
 rw[U,W3l] at M
 refine Ar (m/2:Nat) rfl ?_ O
 have he2:e*1<=e*(m/2):=W0u e (by omega)
 refine Yes rfl (by omega)<|Ce rfl (Mul_ok (i e I) (i e I)) ?_
 rw[T]
 exact Bk (m/2,o,e+e) [] rfl ⟨by rw[W1f];omega,by omega,by omega⟩ (by show m/2<m;omega)
 have h:¬(m:Int)>0:=h
 have hm0:m=0:=by omega
 rw[hm0,W3l,W2e] at hm
 rw[hm]
 exact RTt rfl (.cons (.rf rfl) Xbs)
theorem Xvk{k:Nat}{t:Tw k}{a:Tow.El k}{P s:Nat}(Z:Xcg k t)(hw:∀b,P<=b->Wid (enc k t a b) 1)(i:TS s k t)(ha:Sz s (toL k a))(j:1<=s)(o:k<=16)(hP:P<=1000000000)(he:eB s (2*(P+1+16)) k<=274877906944)(U:vB s k (s+eB s (2*(P+1+16)) k+4)<=4398046511104):
 C0 226 [.d (dt t),.d (de a)] λv=>∃z,v=.d (dz z)/\Xe7 k t a z/\(dig z.natAbs).length<=274877906944:=by
 have hsB:=W0j (Xdv (r:=s) k _) U
 obtain⟨B,hB⟩:∃B,B=eB s (2*(P+1+16)) k:=⟨_,rfl⟩
 have I:vB s k s<=4398046511104:=W0j (Xc9 (by omega)) U
 have hE:=Xt8 (bits:=1) Z hw i ha j o I (by decide) hP he
 rw[<-hB] at he U hsB hE
 have hB1:1<=B:=by rw[hB];exact W0j j (Xxn ..)
 refine En Tryz.func226 λ_ _ _=>?_
 refine Ce rfl (Xjl (l:=[toL k a]) (s:=s) i Z o I (by omega) (λx hx=>⟨a,W0g.1 hx,ha⟩) (by simp) (by omega))<|No rfl (by simp)<|Ca rfl hE λv hv'=>?_
 obtain⟨p,rfl,hin,hwd,hq⟩:=hv'
 have V:=Zs.floor hq.2
 have M:=Yas Z hin hwd
 have hl0:=Zs.len2 (z:=p.2.floor) V (by omega)
 have hl1:=Zs.len2 (z:=p.2.floor-1) (q:=B+1) (by unfold Zs at *;rw[W0z];omega) (by omega)
 have O:=Make_ok (p:=B) (a:=p.2.floor) (b:=1) V (Zs.one (by omega)) (by omega) (by decide)
 rw[Xxt] at O
 have qz:Qs B ((p.2.floor:Int):Rat):=Qs.int V (by omega)
 have T:=Sz.rat k qz
 refine Ce rfl (Xv1 hq.2 (by omega))<|Dw rfl<|Ce rfl (FromInt_ok (z:=1) (by decide))<|Ce rfl O<|Ce rfl (Xb8 i o (by omega) qz (by omega))<|Ce rfl (Xio i ha T o (by omega) (by omega))<|Ce rfl (Xhz (s:=s+B+4) i (by rw[Xa0,Xb7];exact(ha.add T.neg).mono (by omega)) o U (by omega))<|By rfl (λh=>?_) λh=>?_
 exact Dw rfl<|Ce rfl (FromInt_ok (z:=1) (by decide))<|Ce rfl (Yal (W0j (V.len (by omega)) (by decide)))<|Rt rfl (.one (.rf rfl) rfl rfl) ⟨_,rfl,M.1 h,hl1⟩
 exact Rt rfl (.one (.rf rfl) rfl rfl) ⟨_,rfl,M.2 h,hl0⟩
end
end Go.Proofs.YtnedfplmoojbaaaGreatDoor
namespace Go.Proofs.YtnedfplmoojbaaaGreatDoor.P9
open Go Go.Vm Go.Num Go.Tow Go.Proofs.YtnedfplmoojbaaaGreatDoor
abbrev nq(q:Rat): Nm:=⟨0,(),q⟩
theorem Ykq{k:Nat}{q:Rat}: Lf (k:=0) (m:=k) q (rat k q):=by
 show toL k (rat k q)=[q]++_
 rw[Xda];rfl
section
variable{r p s:Nat}{x:Nm}{q:Rat}
theorem Ybd(hr:TS r x.k x.t)(I:x.k<=8)(o:r<=4000000000): C0 259 [.d (dNs [x,nq q])] (·=.tup (.pr (.d (dt x.t)) (.d (.int .i64 0)))):=by
 refine En Tryz.func259 λ_ _ _=>?_
 refine Nd 4 1 rfl ?_
 refine Lo (λ(s:Nat×(Σ m,Tw m))=>[(2,.nil),(3,.d (.int .i64 0)),(4,.d (dt s.2.2)),(9,.d (dNs [x,nq q])),(10,.d (.int .i64 2)),(11,.d (.int .i64 s.1))]) (λ_=>[]) (λs=>(s.1=0/\s.2=⟨0,()⟩)\/(s.1=1/\s.2=⟨x.k,x.t⟩)\/(s.1=2/\s.2=⟨x.k,x.t⟩)) (λs=>2-s.1) (0,⟨0,()⟩) [] rfl (.inl ⟨rfl,rfl⟩) (λ(i,⟨m,T⟩) hI=>?_)
 simp only at hI
 rcases hI with ⟨rfl,e⟩ | ⟨rfl,e⟩ | ⟨rfl,e⟩
 cases e
 refine Yes rfl (by decide:((0:Nat):Int)<2)<|Ix 0 rfl (u:=dN x) rfl<|Ce rfl (begins_ok (T:=[]) (U:=toT x.k x.t) (p:=1) (λi r h=>by simp at h) (TS.pt hr) (by omega) (by decide))<|By rfl (λh=>?_) λh=>?_
 obtain⟨j,tx,M⟩:=x
 have h:[]=toT j tx:=by simpa using h
 obtain rfl:j=0:=by have:=congrArg List.length h;rw[Xaa] at this;exact this.symm
 refine Ar (0+1:Nat) rfl ?_
 exact Bk (1,⟨0,tx⟩) [] rfl (.inr (.inl ⟨rfl,rfl⟩)) (by decide:1<2)
 refine Ce rfl (begins_ok (U:=[]) (q:=1) (TS.pt hr) (λi r h=>by simp at h) (by omega) (by rw[Xaa];omega))<|Yes rfl (by simp)<|Ar (0+1:Nat) rfl ?_
 exact Bk (1,⟨x.k,x.t⟩) [] rfl (.inr (.inl ⟨rfl,rfl⟩)) (by decide:1<2)
 cases e
 refine Yes rfl (by decide:((1:Nat):Int)<2)<|Ix 1 rfl (u:=dN (nq q)) rfl<|Ce rfl (begins_ok (T:=toT x.k x.t) (U:=[]) (q:=1) (TS.pt hr) (λi r h=>by simp at h) (by omega) (by rw[Xaa];omega))<|Yes rfl (by simp)<|Ar (1+1:Nat) rfl ?_
 exact Bk (2,⟨x.k,x.t⟩) [] rfl (.inr (.inr ⟨rfl,rfl⟩)) (by decide:0<1)
 cases e
 exact No rfl (by decide:¬((2:Nat):Int)<2)<|R0t
theorem Ymy(hr:TS r x.k x.t)(hp:Sz p (toL x.k x.a))(hq:Qs s q)(M:x.k<=8)(o:r<=4000000000)(O:p<=4000000000)(V:s<4000000000): C0 163 [.d (dNs [x,nq q])] (·=.tup (.pr (.d (dNs [x,⟨x.k,x.t,rat x.k q⟩])) (.d (.int .i64 0)))):=by
 have Z:=Ybd (q:=q) hr M o
 refine En Tryz.func163 λ_ _ _=>?_
 refine Ce rfl Z<|No rfl (by decide)<|Nl 6 6 2 rfl ?_
 refine Lo (λ(j:Nat)=>[(2,.nil),(3,.d (.int .i64 0)),(4,.d (dt x.t)),(6,.gr 6 2 (([x,⟨x.k,x.t,rat x.k q⟩].take j).map dN)),(20,.d (dNs [x,nq q])),(21,.d (.int .i64 2)),(22,.d (.int .i64 j))]) (λj=>[(6,.tok (([x,⟨x.k,x.t,rat x.k q⟩].take j).map dN).length 2)])
  (λj=>j<=2) (λj=>2-j) 0 [] rfl (W0r _) (λj I=>?_)
 have I:j=0\/j=1\/j=2:=by omega
 rcases I with rfl | rfl | rfl
 refine Yes rfl (by decide:((0:Nat):Int)<2)<|Ix 0 rfl (u:=dN x) rfl<|Ce rfl (begins_ok (T:=toT x.k x.t) (U:=toT x.k x.t) (TS.pt hr) (TS.pt hr) (by omega) (by rw[Xaa];omega))<|Yes rfl (W2u ..)<|Ce rfl (Xrq (T:=x.t) (Lf.rfl' x.a) (W0a _) (by omega))<|Ce rfl (Xd3 (x:=x) hr hp (by omega) (by omega) (by omega))<|ApG ([x].map dN) rfl (by simp) (by simp) ?_
 refine Ar (0+1:Nat) rfl ?_
 exact Bk 1 [(6,90),(56,6)] rfl (by decide:1<=2) (by decide:2-1<2-0)
 refine Yes rfl (by decide:((1:Nat):Int)<2)<|Ix 1 rfl (u:=dN (nq q)) rfl<|Ce rfl (begins_ok (T:=toT x.k x.t) (U:=[]) (q:=1) (TS.pt hr) (λi r h=>by simp at h) (by omega) (by rw[Xaa];omega))<|Yes rfl (by simp)<|Ce rfl (Xrq (k:=0) (T:=x.t) (Ykq (q:=q)) (W0r _) (by omega))<|Ce rfl (Xd3 (x:=⟨x.k,x.t,rat x.k q⟩) hr (Sz.rat x.k hq) (show _<=16 by show x.k<=16;omega) (by omega) (by omega))<|ApG ([x,⟨x.k,x.t,rat x.k q⟩].map dN) rfl (by simp) (by simp) ?_
 refine Ar (1+1:Nat) rfl ?_
 exact Bk 2 [(6,90),(56,6)] rfl (by decide:2<=2) (by decide:2-2<2-1)
 exact No rfl (by decide:¬((2:Nat):Int)<2)<|RTt rfl (.cons (.gr rfl) Xbs)
theorem Xn5{f:FuncId}{z:Tow.El x.k}(hf:C0 f [.d (dt x.t),.d (de x.a),.d (de (rat x.k q))] (·=.d (de z)))(hr:TS r x.k x.t)(hp:Sz p (toL x.k x.a))(hq:Qs s q)(o:x.k<=8)(h:r<=4000000000)(i:p<=4000000000)(j:s<4000000000): C0 79 [.d (dN x),.d (dN (nq q)),.d (fnD f)] (·=.tup (.pr (.d (dN ⟨x.k,x.t,z⟩)) (.d (.int .i64 0)))):=by
 refine En Tryz.func79 λ_ _ _=>?_
 exact Ce rfl (Ymy hr hp hq o h i j)<|No rfl (by simp)<|Ix 0 rfl (u:=dN x) rfl<|Dw rfl<|Ix 0 rfl (u:=dN x) rfl<|Ix 1 rfl (u:=dN ⟨x.k,x.t,rat x.k q⟩) rfl<|Ce rfl hf<|RTt rfl (.cons (.rf rfl) Xbs)
theorem Add_r(hr:TS r x.k x.t)(hp:Sz p (toL x.k x.a))(hq:Qs s q)(i:x.k<=8)(h:r<=4000000000)(j:p<=2000000000)(o:s<2000000000): C0 35 [.d (dN x),.d (dN (nq q))] (·=.tup (.pr (.d (dN ⟨x.k,x.t,Tow.add x.k x.a (rat x.k q)⟩)) (.d (.int .i64 0)))):=by
 refine En Tryz.func35 λ_ _ _=>?_
 exact Ce rfl (Xn5 (Xip hr hp (Sz.rat x.k hq) (by omega) (by omega) (by omega)) hr hp hq i h (by omega) (by omega))<|R0t
theorem Mul_r(hr:TS r x.k x.t)(hp:Sz p (toL x.k x.a))(hq:Qs s q)(i:x.k<=8)(h:r<=4000000000)(j:p<=2000000000)(o:s<2000000000)(I:cB r x.k<=1000000000): C0 41 [.d (dN x),.d (dN (nq q))] (·=.tup (.pr (.d (dN ⟨x.k,x.t,Tow.mul x.k x.t x.a (rat x.k q)⟩)) (.d (.int .i64 0)))):=by
 refine En Tryz.func41 λ_ _ _=>?_
 exact Ce rfl (Xn5 (Xdo hr hp (Sz.rat x.k hq) (by omega) (by omega) (by omega)) hr hp hq i h (by omega) (by omega))<|R0t
end
end Go.Proofs.YtnedfplmoojbaaaGreatDoor.P9
namespace Go.Num
section
end
section
end
end Go.Num
namespace Go.Vm
open Go
section
section
variable{c:Cx}{s:St}{p:Pl}
noncomputable def Yqo(tb:Nat->Option TI)(n:Nat)(s:St): Option (Pl×List UInt8×List UInt8):=match nxA tb n s with
 | some (p,o,[.d (.str a),.d (.str b)])=>match o.op with
  | .binOp op _ _ _ _=>match op with
   | .add=>some (p,a,b)
   | _=>none
  | _=>none
 | _=>none
theorem Sc{a b:List UInt8}(t:List UInt8)(h:Yqo c.tb c.n s=some (p,a,b))(i:a++b=t)(j:a.length+b.length<9223372036854775808)(o:p.nx c (.d (.str t))): StP c s:=by
 subst i
 unfold Yqo at h
 split at h<;>try cases h
 rename_i I
 split at h<;>try cases h
 rename_i M
 split at h<;>cases h
 refine Xbl (us:=[]) I ?_ (Pl.nx_nil o)
 rw[M]
 simp only[F,Fp,Yb6,if_pos j]
noncomputable def Yne(tb:Nat->Option TI)(n:Nat)(s:St): Option (Pl×List UInt8×Option Int×Option Int):=match nxA tb n s with
 | some (p,o,asx)=>match o.op with
  | .slice T _ lo hi i=>match tb T with
   | some j=>match j.z,Xkb lo hi i asx with
    | .str _,some (.d (.str s),l,h,none)=>some (p,s,l,h)
    | _,_=>none
   | none=>none
  | _=>none
 | none=>none
theorem Xv9{t:List UInt8}{r:AV}{l i:Option Int}(h:Yne c.tb c.n s=some (p,t,l,i))(hr:slS t l i=some r)(k:p.nx c r): StP c s:=by
 unfold Yne at h
 split at h<;>try cases h
 rename_i j
 split at h<;>try cases h
 rename_i o
 split at h<;>try cases h
 rename_i T I
 split at h<;>cases h
 rename_i M O
 refine Xbl (us:=[]) j ?_ (Pl.nx_nil k)
 rw[o]
 simp only[F,Fp,I,M,O,hr]
theorem Stk(j:Nat)(zs:List UInt8){i:Int}{xs:List UInt8}(h:Yne c.tb c.n s=some (p,xs,none,some i))(M:j<=xs.length)(o:xs.take j=zs)(k:p.nx c (.d (.str zs)))(I:i=j:=by first | exact rfl | omega): StP c s:=by
 subst I;subst o
 refine Xv9 h ?_ k
 rw[slS,if_pos ⟨by omega,by omega⟩];simp
theorem Sdp(j:Nat)(zs:List UInt8){i:Int}{xs:List UInt8}(h:Yne c.tb c.n s=some (p,xs,some i,none))(M:j<=xs.length)(o:xs.drop j=zs)(k:p.nx c (.d (.str zs)))(I:i=j:=by first | exact rfl | omega): StP c s:=by
 subst I;subst o
 refine Xv9 h ?_ k
 rw[slS,if_pos ⟨by omega,by omega⟩];simp
noncomputable def Yqz(tb:Nat->Option TI)(n:Nat)(s:St): Option (Pl×AV):=match nxA tb n s with
 | some (p,o,[a])=>match o.op with
  | .convert S T _=>match tb S,tb T,Ygh a with
   | some ⟨.sl _ _,.int .u8 _,_,_⟩,some ⟨.str _,_,_,_⟩,true=>some (p,a)
   | _,_,_=>none
  | _=>none
 | _=>none
theorem Bs(zs:List UInt8){a:AV}(h:Yqz c.tb c.n s=some (p,a))(i:Ym9 a=some zs)(I:p.nx c (.d (.str zs))): StP c s:=by
 unfold Yqz at h
 split at h<;>try cases h
 rename_i M
 split at h<;>try cases h
 rename_i O
 split at h<;>cases h
 rename_i j o T
 refine Xbl (us:=[]) M ?_ (Pl.nx_nil I)
 rw[O]
 have:∀k z,a≠.d (.int k z):=λk z e=>by subst e;cases T
 cases a with
 | d x=>cases x<;>first | exact absurd rfl (this _ _) | simp only[F,Fp,o,j,i]
 | _=>simp only[F,Fp,o,j,i]
end
end
section
theorem Xx1{W:GW}{z:D}: ∀ {cs:List Value},(∀x∈z.comps,x.size=1)->D.At W z cs->AtL W 1 z.comps cs/\cs.length=z.comps.length:=by
 have one:∀ {x:D} {cs:List Value},x.size=1->D.At W x cs->AtL W 1 [x] cs/\cs.length=1:=λ{x cs} I h =>
  ⟨λi y hi=>by
   cases i with
   | zero=>simp at hi;subst hi;exact⟨cs,h,I,λj v T=>by simpa using T⟩
   | succ i=>simp at hi,by rw[D.at_len x h,I]⟩
 induction z using D.ind with
 | leaf x I M =>
  intro cs o h
  have e:x.comps=[x]:=by cases x<;>first | rfl | exact absurd rfl (M _ _)
  rw[e] at o |-
  exact one (o x (W0g.2 rfl)) h
 | st a _=>intro cs o h;exact one (o _ (W0g.2 rfl)) h
 | pr a c _ U =>
  intro cs o ⟨u,v,e,I,M⟩
  have o:∀x∈a::c.comps,x.size=1:=o
  obtain⟨V,O⟩:=one (o a (W0w ..)) I
  obtain⟨Z,k4⟩:=U (λx hx=>o x (W1c _ hx)) M
  subst e
  have:=V.app Z (by rw[O];rfl)
  exact⟨this,by rw[W0i,O,k4];show _=(a::c.comps).length;simp;omega⟩
theorem Stp.vara{N:Nat->Prop}{W:GW}{θ:Loc}{g:Hp}(h:Obs W θ N g){o d b n sz:Nat}{a:AV}{xs:List D}(ho:g o=some (.var a))(hb:(θ o).1=some b)(hB:d<1000000)(hd:g d=none)(hx:(Ob.arr sz xs).R W (λi=>if i=d then (some b,n) else θ i) d):
 Stp N W W θ (λi=>if i=d then (some b,n) else θ i) g (upd (upd g o .dead) d (.arr sz xs)) where
 os:=_root_.rfl
 out:=_root_.rfl
 tape:=_root_.rfl
 size:=W0a _
 same:=λ_ _ _=>_root_.rfl
 A:=λ_ _ _ _=>W4a
 le:=LeF.refl W
 th:=λi y I=>if_neg λe=>by rw[e,hd] at I;cases I
 hi:=λi h=>if_neg (by omega)
 obs:=by
  have hg:∀ {i:Nat} {y:Ob},upd (upd g o .dead) d (.arr sz xs) i=some y->(i=d/\y=.arr sz xs)\/(i≠d/\i=o/\y=.dead)\/(i≠d/\i≠o/\g i=some y):=λ{i y} I=>by
   rcases Xae I with ⟨M,V⟩ | ⟨M,V⟩
   exact .inl ⟨M,V⟩
   rcases Xae V with ⟨Z,f2⟩ | ⟨Z,f2⟩
   exact .inr (.inl ⟨M,Z,f2⟩)
   exact .inr (.inr ⟨M,Z,f2⟩)
  have hnd:∀ {i:Nat},(∃z,g i=some z)->i≠d:=λ⟨z,hz⟩ e=>by rw[e,hd] at hz;cases hz
  refine⟨λi y I=>?_,λi y b' I hl O=>?_,λi j y y' b' I hy' hl T b1 b2=>?_,λi y j I hj=>?_⟩
  rcases hg I with ⟨rfl,rfl⟩ | ⟨_,_,rfl⟩ | ⟨M,V,U⟩
  exact hx
  trivial
  exact(h.r i y U).keep (LeF.refl W) (if_neg M) (λj hj=>if_neg (hnd (h.ids i y j U hj))) λ_ _ _=>⟨_root_.rfl,λ_ h=>h⟩
  rcases hg I with ⟨rfl,rfl⟩ | ⟨_,_,rfl⟩ | ⟨M,V,U⟩
  rw[if_pos _root_.rfl] at O
  exact h.new o _ b' ho _root_.rfl (hb.trans O)
  cases hl
  rw[if_neg M] at O;exact h.new i y b' U hl O
  rcases hg I with ⟨rfl,rfl⟩ | ⟨_,_,rfl⟩ | ⟨M,V,U⟩
  rcases hg hy' with ⟨rfl,rfl⟩ | ⟨_,_,rfl⟩ | ⟨Z,f2,f3⟩
  exact _root_.rfl
  cases T
  rw[if_pos _root_.rfl] at b1;rw[if_neg Z] at b2
  exact absurd (h.dis j o y' _ b' f3 ho T _root_.rfl b2 (hb.trans b1)) f2
  cases hl
  rcases hg hy' with ⟨rfl,rfl⟩ | ⟨_,_,rfl⟩ | ⟨Z,f2,f3⟩
  rw[if_pos _root_.rfl] at b2;rw[if_neg M] at b1
  exact absurd (h.dis i o y _ b' U ho hl _root_.rfl b1 (hb.trans b2)) V
  cases T
  rw[if_neg M] at b1;rw[if_neg Z] at b2;exact h.dis i j y y' b' U f3 hl T b1 b2
  rcases hg I with ⟨rfl,rfl⟩ | ⟨_,_,rfl⟩ | ⟨M,V,U⟩
  exact hj.elim
  exact hj.elim
  have hz:=h.ids i y j U hj
  rw[Xak (hnd hz)]
  by_cases e:j=o
  subst e;exact⟨_,Xai _ _ _⟩
  rw[Xak e];exact hz
 dom:=λi y I=>by
  rw[Xak (λe=>by rw[e,hd] at I;cases I)]
  by_cases e:i=o
  subst e;exact⟨_,Xai _ _ _⟩
  exact⟨y,by rw[Xak e];exact I⟩
section
variable{c:Cx}{s:St}{p:Pl}
noncomputable def Yqj(tb:Nat->Option TI)(n id t:Nat)(s:St): Option (List Kt×Env×Hpl×Nat×D):=match runT tb n id 1000 s with
 | .j _ K E H=>match look E t with
  | some (.ptr o 0)=>match look H o with
   | some (.var (.d (.st z)))=>some (K,E,H,o,z)
   | _=>none
  | _=>none
 | _=>none
theorem Va(id t d m:Nat)(xs:List D){K:List Kt}{E:Env}{H:Hpl}{o:Nat}{z:D}(h:Yqj c.tb c.n id t s=some (K,E,H,o,z))(hz:z.comps=xs)(hs:∀x∈xs,x.size=1)(hm:xs.length=m)(k:StP c (.j [] K ((t,.ap d m)::E) ((d,.arr 1 xs)::(o,.dead)::H)))
 (hd:(Nat.blt d 1000000 && !Xcl H d&&Nat.blt m 1000000)=true:=by exact rfl):StP c s:=by
 subst hz
 simp only[W0d,W1v] at hd
 obtain⟨⟨M,hd2⟩,U⟩:=hd
 have M:=Xr2 M
 have U:=Xr2 U
 have hdn:look H d=none:=Xbp hd2
 unfold Yqj at h
 split at h<;>try cases h
 rename_i hr
 split at h<;>try cases h
 rename_i he
 split at h<;>cases h
 rename_i ho
 refine Xfs (id:=id) 1000 ?_
 rw[hr]
 rintro a w ⟨s0,W,θ,hw,I,hθ,rfl⟩
 obtain⟨b,cs,T',r1,r2,r3,r4⟩:=I.obs.r _ _ ho
 have r3:D.At W z cs:=r3
 obtain⟨k1,k2⟩:=Xx1 hs r3
 have st:=Stp.vara (n:=m) (sz:=1) (xs:=z.comps) I.obs ho r1 M hdn ⟨b,cs,T',by simp,r2,by rw[k2,hm];simp,by simp only[if_true];omega,by simp only[if_true];omega,k1,r4⟩
 have T:=I.step0 st
 refine k a w ⟨_,W,_,hw,?_,λi hi=>(st.hi i hi).trans (hθ i hi),rfl⟩
 rw[show sem ((t,AV.ap d m)::E) ((d,Ob.arr 1 z.comps)::(o,Ob.dead)::H)=(upd (look E) t (.ap d m),upd (upd (look H) o .dead) d (.arr 1 z.comps)) by rw[Xa4,Xa4,Xa4]]
 refine⟨T.fm,⟨T.rel.defers,T.rel.size,λq v hq=>?_⟩,T.obs,λq v i hq hi=>?_⟩
 rcases Xae hq with ⟨V,O⟩ | ⟨V,O⟩
 subst V;subst O
 obtain⟨b',Z,f2⟩:=Xj4 (I.rel.has q _ he)
 rw[r1] at Z;injection Z with Z;subst Z
 exact⟨_,⟨b,by simp,by simp,rfl⟩,f2⟩
 exact T.rel.has q v O
 rcases Xae hq with ⟨V,O⟩ | ⟨V,O⟩
 subst O
 have hi:i=d:=hi
 subst hi
 exact⟨_,Xai _ _ _⟩
 exact T.ids q v i O hi
noncomputable def Yqm(tb:Nat->Option TI)(n:Nat)(s:St): Option (Pl×Oper×TypeId×Operand×Operand×Nat×Nat×Nat×Nat×D×Int):=match nxO tb n s with
 | some (p,o)=>match o.op,p.dr with
  | .slice T x none (some y) none,false=>match Xb6 (look p.E) x,Xb6 (look p.E) y,tb T with
   | some (.ap q m),some (.d (.int _ j)),some ⟨.st z,e,h,i⟩=>match Nat.beq m i,look p.H q with
    | true,some _=>some (p,o,T,x,y,q,m,e.size,h,z,j)
    | _,_=>none
   | _,_,_=>none
  | _,_=>none
 | none=>none
theorem Sp(j:Nat){o:Oper}{T:TypeId}{x y:Operand}{q m sz eb:Nat}{z:D}{i:Int}(h:Yqm c.tb c.n s=some (p,o,T,x,y,q,m,sz,eb,z,i))(hj:j<=m)(h0:0<m)(k:p.nx c (.own q sz 0 j))(hm:m<1000000)(hi:i=(j:Int):=by first | exact rfl | omega): StP c s:=by
 subst hi
 unfold Yqm at h
 split at h<;>try cases h
 rename_i p' o' ho
 split at h<;>try cases h
 rename_i T' x' y' M O
 split at h<;>try cases h
 rename_i k2 e eb' ar hx hy U
 split at h<;>cases h
 rename_i hH I
 have I:=W0c I
 subst I
 refine Xne (us:=[]) ho (by unfold Xal;rw[M];rfl) O (λN W θ ρ _ hO hN hB hv=>?_) (Pl.nx_nil k)
 obtain⟨hk,_⟩:=c.hT _ _ U
 obtain⟨t,u1,_,u3⟩:=hk.u
 simp only[show ¬m=0 by omega,if_false] at u3
 obtain⟨E,e1,i,v0,i1,i2,_⟩:=u3
 subst e1
 obtain⟨cs,⟨b,f1,f2,f3⟩,V⟩:=hv _ _ hx
 subst f3
 have V:ρ x=.pointer (some ⟨b,0,none⟩):=V
 obtain⟨ey,_⟩:=Xcw (hv _ _ hy)
 have hg:(sem p.E p.H).2 q=some _:=hH
 refine .val (u:=.slice (some ⟨b,0,none⟩) j m) hO ?_ ?_ (λi hi=>by subst hi;exact⟨_,hg⟩)
 have Z:¬m=0:=by omega
 simp[execOp,M,V,ey,Instr.sliceAt,Instr.sureAddr,Instr.sliceBounds,Instr.sliceBound,asIntOf,sizeOf,typeInfo,underlying,program,bind,Sem.bind,Sem.run,pure,u1,i1,i2,Z,hj,add0]
 exact⟨[.slice (some ⟨b,0,none⟩) j m],⟨b,some ⟨b,0,none⟩,f1,by omega,by omega,by rw[f2,W6j],λ_=>by rw[W4y]⟩,rfl⟩
noncomputable def Yq0(tb:Nat->Option TI)(n:Nat)(s:St): Option (Pl×Oper×TypeId×TypeId×Operand×Nat×Nat×Nat×List D):=match nxO tb n s with
 | some (p,o)=>match o.op,p.dr with
  | .convert S T x,false=>match Xb6 (look p.E) x,tb S,tb T with
   | some (.own q 1 l m),some ⟨.sl _ _,.int .u8 _,_,_⟩,some ⟨.str _,_,_,_⟩=>match look p.H q with
    | some (.arr 1 xs)=>some (p,o,S,T,x,q,l,m,xs)
    | _=>none
   | _,_,_=>none
  | _,_=>none
 | none=>none
theorem Bo(zs:List UInt8){o:Oper}{S T:TypeId}{x:Operand}{q l m:Nat}{xs:List D}(h:Yq0 c.tb c.n s=some (p,o,S,T,x,q,l,m,xs))(hl:l+m<=xs.length)(U:Yhg ((xs.drop l).take m)=some zs)(k:p.nx c (.d (.str zs))): StP c s:=by
 unfold Yq0 at h
 split at h<;>try cases h
 rename_i p' o' ho
 split at h<;>try cases h
 rename_i S' T' x' V hdr
 split at h<;>try cases h
 rename_i hx hS hT
 split at h<;>cases h
 rename_i hH
 refine Xne (us:=[]) ho (by unfold Xal;rw[V];rfl) hdr (λN W θ ρ _ hO hN hB hv=>?_) (Pl.nx_nil k)
 obtain⟨hk,_⟩:=c.hT _ _ hS
 obtain⟨t,u1,_,E,Z,_⟩:=hk.u
 subst Z
 obtain⟨t',u1',_,Z⟩:=(c.hT _ _ hT).1.u
 have Z:t'=.string:=Z
 subst Z
 have ue:=hk.k E _ _ u1 rfl
 obtain⟨b,pp,f1,f2,f3,e,f5⟩:=Xf1 (hv _ _ hx)
 obtain⟨b',bs,T1,r1,r2,r3,r4,r5,r6,r7⟩:=hO.r _ _ hH
 rw[f1] at r1;injection r1 with r1;subst r1
 obtain⟨I,hn1,rfl⟩:=Xmp U
 have M:I.length=m:=by
  have:=congrArg List.length hn1
  simp at this;omega
 refine .val (u:=.string ⟨(I.map λz=>UInt8.ofNat z.toNat).toArray⟩) hO ?_ (Xte (by simp;omega)) (λ_ h=>h.elim)
 have hc:(convert S T (ρ x)).run c.P W.w=.ok (.string ⟨(I.map λz=>UInt8.ofNat z.toNat).toArray⟩) W.w:=by
  rw[e,run_convert_bytes_string W.w S T E pp _ _ u1 ue u1']
  by_cases hm0:m=0
  subst hm0
  have:I=[]:=W5b.1 M
  subst this
  cases pp with
  | none=>rfl
  | some a=>exact run_bytesToString W.w a _ _ [] rfl
  rw[f5 (by omega)]
  rw[run_bytesToString W.w _ _ _ I (by
   have h:=run_loadCells (P:=c.P) (b:=b) (off:=l*1) (w:=W.w) (I.map (Value.int .u8)) 0 #[] (λj v O=>by
    rw[W2c] at O
    cases U:I[j]? with
    | none=>rw[U] at O;cases O
    | some z =>
     rw[U] at O;injection O with O;subst O
     have i:((xs.drop l).take m)[j]?=some (.int .u8 z):=by rw[hn1,W2c,U];rfl
     have hj2:xs[l+j]?=some (.int .u8 z):=by
      rw[W1h] at i
      split at i
      rwa[W1t] at i
      cases i
     obtain⟨e1,g1,_,g2⟩:=r6 _ _ hj2
     have g1:=g1.1
     subst g1
     have:=g2 0 _ rfl
     rw[show l*1+(0+j)=(l+j)*1+0 by omega,Xbd r2]
     exact this)
   simp only[W1k] at h
   rw[<-M]
   simpa [loadCells] using h)]
  have:=Xfv I []
  rw[show (ByteArray.empty:ByteArray)=⟨([]:List UInt8).toArray⟩ from rfl,this]
  simp
 unfold execOp
 rw[V]
 simp only
 rw[Sem.run_bind,hc];rfl
noncomputable def Yqu(tb:Nat->Option TI)(n:Nat)(s:St): Option (Pl×Oper×TypeId×Nat×Operand×Nat×Int):=match nxO tb n s with
 | some (p,o)=>match o.op,p.dr with
  | .indexAddr T (.global g) y,false=>match Xb6 (look p.E) y,tb T with
   | some (.d (.int _ j)),some ⟨.st _,.int _ _,_,h⟩=>match Nat.beq h 0 with
    | false=>some (p,o,T,g,y,h,j)
    | true=>none
   | _,_=>none
  | _,_=>none
 | none=>none
theorem Gx(j:Nat)(k:IntKind)(z:Int){o:Oper}{T:TypeId}{y:Operand}{g O:Nat}{i:Int}(h:Yqu c.tb c.n s=some (p,o,T,g,y,O,i))(hj:j<O)(hg:∀W,c.gb.g W->Fr W g j (.int k z))(hr:inR k z)(kk:p.nx c (.at (.int k z)))(hi:i=(j:Int):=by first | exact rfl | omega): StP c s:=by
 subst hi
 unfold Yqu at h
 split at h<;>try cases h
 rename_i p' o' ho
 split at h<;>try cases h
 rename_i T' g' y' I U
 split at h<;>try cases h
 rename_i k1 j1 z1 k2 z2 eb ar1 hy V
 split at h<;>cases h
 rename_i Z
 have Z:¬O=0:=λe=>by subst e;cases Z
 refine Xne (us:=[]) ho (by unfold Xal;rw[I];rfl) U (λN W θ ρ M hO hN hB hv=>?_) (Pl.nx_nil kk)
 obtain⟨hk,_⟩:=c.hT _ _ V
 obtain⟨t,u1,_,u3⟩:=hk.u
 simp only[Z,if_false] at u3
 obtain⟨E,e1,i,v0,i1,i2,_⟩:=u3
 subst e1
 obtain⟨ey,_⟩:=Xcw (hv _ _ hy)
 have eg:=M.2 g
 have i2:i.size=1:=i2
 refine .val (u:=.pointer (some ⟨g,j,none⟩)) hO ?_ (Ypu (e:=[.int k z]) ⟨rfl,hr⟩ λq v hq=>?_) (λ_ h=>h.elim)
 have hjl:(j:Int)<(O:Int):=by omega
 simp[execOp,I,eg,ey,Instr.indexAt,Instr.sureAddr,asIntOf,sizeOf,typeInfo,underlying,program,bind,Sem.bind,Sem.run,pure,u1,i1,i2,hjl,hj,add0]
 cases q with
 | zero=>simp at hq;subst hq;exact hg W M.1
 | succ q=>simp at hq
end
end
section
section
variable{c:Cx}{s:St}{p:Pl}
end
end
end Go.Vm
namespace Go.Proofs.YtnedfplmoojbaaaGreatDoor
open Go Go.Vm Go.Num Go.Proofs Go.Shelf Go.RowKit
section
abbrev Tx(s:List UInt8): Prop:=s.length<4611686018427387904
theorem Xoq{s t:List UInt8}(i:Tx s)(j:Tx t): C0 227 [.d (.str s),.d (.str t)] (·=.b (dc (s.take t.length=t))):=by
 refine En Tryz.func227 λ_ _ _=>?_
 refine By rfl (λh=>?_) λh=>?_
 refine Stk t.length _ rfl (by omega) rfl ?_
 exact R1 rfl (.bp Xaj)
 refine R1 rfl (.bp ⟨λe=>(by cases e),λe=>?_⟩)
 have:=congrArg List.length e
 rw[W0k] at this
 omega
theorem Xos{s t:List UInt8}(i:Tx s)(j:Tx t): C0 62 [.d (.str s),.d (.str t)] (·=.tup (.pr (.d (.str (if s.take t.length=t then s.drop t.length else s))) (.b (dc (s.take t.length=t))))):=by
 have o:C0 129 [.d (.str s),.d (.str t)] (·=.tup (.pr (.d (.str (if s.take t.length=t then s.drop t.length else s))) (.b (dc (s.take t.length=t))))):=by
  refine En Tryz.func129 λ_ _ _=>?_
  refine Ce rfl (Xoq i j)<|By rfl (λh=>?_) λh=>?_
  refine RTt rfl (.cons (.eq (by rw[if_neg h])) (.one (by exact .bp (c:=false) ⟨λe=>(by cases e),λe=>absurd e h⟩) (λ_ _ e=>by cases e) (λ_ _ e=>by cases e)))
  have h:=W3j.1 h
  have I:t.length<=s.length:=by have:=congrArg List.length h;rw[W0k] at this;omega
  refine Sdp t.length _ rfl I rfl ?_
  refine RTt rfl (.cons (.eq (by rw[if_pos h])) (.one (by exact .bp (c:=true) ⟨λ_=>h,λ_=>rfl⟩) (λ_ _ e=>by cases e) (λ_ _ e=>by cases e)))
 refine En Tryz.func62 λ_ _ _=>?_
 exact Ce rfl o<|R0t
end
section
def d2(n:Nat): List UInt8:=[UInt8.ofNat (48+n/10),UInt8.ofNat (48+n%10)]
def tb2: List UInt8:=(List.range 100).flatMap d2
theorem Xnj{n:Nat}(h:n<=64): C0 346 [.d (.int .i64 n)] (·=.d (.int .i64 (n*78913/262144:Nat))):=by
 refine En Tryz.func346 λ_ _ _=>?_
 refine Ar (n*78913:Nat) rfl ?_
 refine Ar (n*78913/2^18:Nat) rfl ?_ (Xll (n:=18) (by decide))
 exact R1 rfl (.eq rfl)
theorem Ybn{p:Prop}: C0 348 [.b (dc p)] (λv=>∃n:Nat,v=.d (.int .i64 n)/\(n=1/\p\/n=0/\¬p)):=by
 refine En Tryz.func348 λ_ _ _=>?_
 refine By rfl (λh=>?_) λh=>?_
 exact Rt rfl (.one (.rf rfl) rfl rfl) ⟨1,rfl,.inl ⟨rfl,h⟩⟩
 exact Rt rfl (.one (.rf rfl) rfl rfl) ⟨0,rfl,.inr ⟨rfl,h⟩⟩
end
section
def b8(b:UInt8): D:=.int .u8 b.toNat
theorem quN{k:IntKind}{a b r:Nat}(hb:b≠0)(h:a/b=r)(i:inK k (r:Int)): arB .quo k (a:Int) (b:Int) (r:Int):=show _/\_ from⟨by omega,wr (by subst h;rfl) i⟩
theorem reN{k:IntKind}{a b r:Nat}(hb:b≠0)(h:a%b=r): arB .rem k (a:Int) (b:Int) (r:Int):=show _/\_ from⟨by omega,by subst h;rfl⟩
theorem Stb{c:Cx}{s:St}{p:Pl}{q j:Nat}{xs:List D}{z:Int}(a:UInt8){zs:List D}(h:Yoq c.tb c.n s=some (p,q,1,xs,j,.int .u8 z))(o:j<xs.length)(I:xs.set j (b8 a)=zs)(k:p.nx' c (.ub True) [(q,.arr 1 zs)])(i:z=(a.toNat:Int):=by exact rfl): StP c s:=by
 subst i
 exact Sto h o I k
end
section
end
section
theorem Yh0{n:Nat}(h:n<65): C0 137 [.d (.int .u64 1),.d (.int .u64 n)] (·=.tup (.pr (.d (.int .u64 0)) (.d (.int .u64 n)))):=by
 have i:C0 232 [.d (.int .u64 1),.d (.int .u64 n)] (·=.tup (.pr (.d (.int .u64 0)) (.d (.int .u64 n)))):=by
  refine En Tryz.func232 λ_ _ _=>?_
  refine Ar 1 rfl ?_ (by simp only[arB];decide +kernel)
  refine Ar 0 rfl ?_ (by simp only[arB];decide +kernel)
  refine Ar n rfl ?_ (by simp only[arB];revert h;generalize n=j;revert j;decide +kernel)
  refine Ar 0 rfl ?_ (by simp only[arB];revert h;generalize n=j;revert j;decide +kernel)
  refine Ar n rfl ?_
  refine Ar 0 rfl ?_
  refine Ar 0 rfl ?_ (by simp only[arB];revert h;generalize n=j;revert j;decide +kernel)
  refine Ar 0 rfl ?_
  refine Ar 0 rfl ?_ (by simp only[arB];decide +kernel)
  refine Ar 0 rfl ?_ (by simp only[arB];decide +kernel)
  refine Ar 0 rfl ?_
  refine Ar 0 rfl ?_
  refine Ar 0 rfl ?_
  refine Ar 0 rfl ?_
  refine Ar 0 rfl ?_ (by simp only[arB];decide +kernel)
  refine Ar 0 rfl ?_
  refine Ar n rfl ?_
  exact R0t
 refine En Tryz.func137 λ_ _ _=>?_
 exact Ce rfl i<|R0t
end
section
end
section
end
section
end
section
end
end Go.Proofs.YtnedfplmoojbaaaGreatDoor
namespace Go.Num
open Go.Proofs.YtnedfplmoojbaaaGreatDoor
section
end
section
end
section
end
end Go.Num
namespace Go.Proofs.YtnedfplmoojbaaaGreatDoor
open Go Go.Num Go.Tow
abbrev scl(k:Nat)(t:Tw k)(a:El k)(u h:Rat): El k:=add k (mul k t a (rat k u)) (rat k h)
section
variable{k:Nat}{t:Tw k}{a:El k}
theorem Xvd(h:Xcg k t){q:Rat}(hq:0<q): sgn k t (mul k t a (rat k q))=sgn k t a:=by
 rw[(Xao h).sm,Xcy h,Xb5 hq,W4c]
end
end Go.Proofs.YtnedfplmoojbaaaGreatDoor
namespace Go.Proofs.YtnedfplmoojbaaaGreatDoor.R1
open Go Go.Vm Go.Num Go.Proofs.YtnedfplmoojbaaaGreatDoor
end Go.Proofs.YtnedfplmoojbaaaGreatDoor.R1
namespace Go.Proofs.YtnedfplmoojbaaaGreatDoor.R11
open Go Go.Vm Go.Num Go.Proofs.YtnedfplmoojbaaaGreatDoor
section
end
section
end
section
end
end Go.Proofs.YtnedfplmoojbaaaGreatDoor.R11
namespace Go.Proofs.YtnedfplmoojbaaaGreatDoor.P11
open Go Go.Vm Go.Num Go.Tow Go.Proofs.YtnedfplmoojbaaaGreatDoor Go.Proofs.YtnedfplmoojbaaaGreatDoor.P9 Go.Proofs.YtnedfplmoojbaaaGreatDoor.R11
structure Pk (x:Nm):Prop where
 k:x.k<=3
 re:Xcg x.k x.t
 t:TS 300 x.k x.t
 mt:MgT 64 x.k x.t
 ml:MgL 64 (toL x.k x.a)\/(x.k=0/\MgL 1700 (toL x.k x.a))
theorem sz_of{k n:Nat}{a:El k}(h:MgL n (toL k a))(j:k<=3/\n<=400\/k=0/\n<=3999): Sz 4000 (toL k a):=by
 refine(Sz.all h).mono ?_
 rw[Xab]
 rcases j with ⟨o,i⟩ | ⟨rfl,i⟩
 have hp:2^k<=2^3:=W0o (by decide) o
 have:=W2b i hp
 omega
 rw[Nat.pow_zero];omega
theorem bnds{k:Nat}(i:k<=3): eB 4000 (2*(1000000+1+16)) k<=274877906944/\vB 4000 k (4000+eB 4000 (2*(1000000+1+16)) k+4)<=4398046511104/\vB 4000 k (4000+bB 4000 2048 k+4)<=4398046511104/\bB 4000 2048 k<=274877906944/\cB 300 k<=1000000000:=by
 have h:k=0\/k=1\/k=2\/k=3:=by omega
 rcases h with rfl | rfl | rfl | rfl<;>decide +kernel
theorem power_ok{n:Nat}(h:n<=400): C0 225 [.d (.int .i64 n)] (·=.d (dz (10^n))):=by
 refine En Tryz.func225 λ_ _ _=>?_
 exact Ce rfl (FromInt_ok (z:=10) (by decide))<|Ce rfl (Ygr (z:=10) (q:=4) (by decide:(10:Int).natAbs<2^4) (by omega) (by decide))<|R1 rfl (.rf rfl)
theorem whole_ok{z:Int}{p:Nat}(j:Zs p z)(hp:1<=p)(i:p<=8796093022208): C0 224 [.d (dz z)] (·=.d (dq (z:Rat))):=by
 have h:=Make_ok j (Zs.one hp) i (by decide)
 rw[Xxt] at h
 refine En Tryz.func224 λ_ _ _=>?_
 exact Dw rfl<|Ce rfl (FromInt_ok (z:=1) (by decide))<|Ce rfl h<|R1 rfl (.rf rfl)
theorem dz0: dz 0=dS false []:=by show D.st (.pr (.bool _) (ws (dig 0)))=_;rw[Xap];rfl
abbrev hf: Rat:=Rat.divInt 1 2
end Go.Proofs.YtnedfplmoojbaaaGreatDoor.P11
namespace Go.Vm
open Go
abbrev cxM(P:Program)(gb:Gb P)(t:Tab P)(m:Mx P)(i:∀T ti,t.tb T=some ti->∀a c,ti.z≠.pr a c)(n:Nat)(j:n<=1000000)(fn:Func)(W:GW)(Q:AV->Prop)(o:gb.g W): Cx:=⟨P,gb,t.tb,λT ti h=>⟨t.ok T ti h,i T ti h⟩,m,n,j,W,λ_=>False,θe,bodyPostM Fence.wide 8 P fn (Ret W Q),o⟩
theorem EnM {P : Program} [gb : Gb P] [t : Tab P] [hp : Npr P] [m : Mx P] {f n : Nat} {fn : Func} {x : Code} {args : List AV} {Q : AV → Prop} (hf : P.funcs[f]? = some fn) (h : ∀ W hg hn, StP (cxM P gb t m hp.h n hn fn W Q hg) (.j [] [.c x] (Yig 0 args) [])) (hname : (fn.name == "runtime.NumGoroutine") = false := by exact rfl) (hb : fn.body = some x := by exact rfl)
 (hN:fn.ntmps=n:=by exact rfl) (hl:(Nat.ble args.length n&&Nat.ble n 1000000&&args.all Xl2)=true:=by exact rfl):C P f args Q:=by
 refine⟨⟨fn,hf,hname,by rw[hb];rfl⟩,λW vs hg ha=>(callsIn_wide (n:=8)).1 (callsIn_of_wp_marks hf hb trivial (wpIn_wide.2 ?_) rfl)⟩
 have h:=h W hg (by simp only[W0d] at hl;exact W1e hl.1.2)
 simp only[StP,sem,<-Xms] at h
 simp only[W0d] at hl
 obtain⟨⟨hl1,hl2⟩,hl3⟩:=hl
 have hl1:=W1e hl1
 have hlen:=ha.len
 refine wp_mono (h _ W.w ⟨_,W,θe,rfl,⟨Fm.refl W _,⟨rfl,by simp[hN];omega,λt v ht=>?_⟩,⟨λo x h=>(by cases h),λo x b h=>(by cases h),λo o' x x' b h=>(by cases h),λo x i h=>(by cases h)⟩,λt v i ht hi=>?_⟩,λ_ _=>rfl,rfl⟩) λe a w h=>by cases e<;>exact h
 obtain⟨_,u,h2,h3,_⟩:=Xoi ha ht
 rw[W6j] at h2
 have hlt:=Xbe h2
 rw[W0e hlt] at h2
 injection h2 with h2
 simp only[Array.getD]
 rw[dif_pos (by simp;omega)]
 simp[W7d,hlt,h2]
 exact h3
 obtain⟨_,u,_,_,h4⟩:=Xoi ha ht
 exact absurd hi (Xl1 (W1q.1 hl3 v h4) i)
theorem StP.rest2{c:Cx}{G:List (Nat×Bool)}{x y:Code}{E:Env}{H:Hpl}(h:∀a w,c.Nx (λs'=>s'=sem E H) a w->x.wp c.P (Exit.then (y.wp c.P c.fin) c.fin) a w): StP c (.j G [.c x,.c y] E H) :=
 λa w i=>wp_mono (h a w i) λe a w h=>by
  cases e with
  | normal=>exact wp_mono h λe a w h=>by cases e<;>exact h
  | _=>exact h
theorem Tl{c:Cx}{s:St}(id:Nat){G:List (Nat×Bool)}{x y:Code}{E:Env}{H:Hpl}(h:nxT c.tb c.n (some id) s=some (G,x,[.c y],E,H))(k:∀a w,c.Nx (λs'=>s'=sem E H) a w->x.wpIn Fence.wide 8 c.P (Exit.then (y.wpIn Fence.wide 8 c.P c.fin) c.fin) a w): StP c s:=by
 have i:StP c (.j G [.c x,.c y] E H):=StP.rest2 λa w o=>wp_mono (wpIn_wide.1 (k a w o)) λe a w h=>by
  cases e with
  | normal=>exact wpIn_wide.1 h
  | _=>exact h
 unfold nxT at h
 simp only at h
 split at h<;>cases h
 rename_i I
 exact Xfs 1000 (by rw[I];exact i)
theorem Ycg{α:Type}{n:Nat}: ∀ {l:List α},l.length=n+1->∃t i,l=t::i/\i.length=n
 | t::i,h=>⟨t,i,rfl,by simpa using h⟩
end Go.Vm
namespace Go.Proofs.YtnedfplmoojbaaaGreatDoor
open Go Go.Vm Go.Num Go.Proofs Go.Shelf Go.RowKit
section
theorem Ya8{c:Nat}(h:c<4294967296)(h0:0<c): dig c=[c]:=by
 have j:val [c]=c:=by simp[val]
 have:=Xe5 (l:=[c]) (λx i=>by rw[W0g.1 i];exact h) (Xla (λx i=>by rw[W0g.1 i];exact h) (by simp) (by rw[j];have:4294967296^([c].length-1)=1:=rfl;omega))
 rwa[j] at this
end
section
theorem Xwr{q n:Nat}{l:List Nat}(O:Xav l)(hq:q+n<=l.length)(T:n<=1099511627776): CN0 131 [.own 1000001 1 q n] [(1000001,.arr 1 (l.map wd))] λv=>∃k,k<=n/\v=.own 1000001 1 q k/\(l.drop q).take k=dig (val ((l.drop q).take n)):=by
 have dtk:∀ {m k:Nat},k<m->((l.drop q).take m)[k]?=l[q+k]?:=λh=>by rw[W1h,if_pos h,W1t]
 have Xy5:∀ {m:Nat},q+m<=l.length->((l.drop q).take m).length=m:=λh=>by rw[W0k,W1u];omega
 refine EnW Tryz.func131 λ_ _ _ _=>?_
 refine Lo (λk=>[(0,.own 1000001 1 q k)]) (λ_=>[(1000001,.arr 1 (l.map wd))]) (λk=>k<=n/\val ((l.drop q).take k)=val ((l.drop q).take n)) id n [] rfl ⟨W0a _,rfl⟩ λk ⟨I,i⟩=>?_
 have j:=(O.drop q).take k
 refine By rfl (λh=>?_) λh=>?_
 obtain⟨u,o⟩:=xat (l:=l) (k:=q+(k-1)) (by omega)
 have M:=Xac (l:=l.drop q) (k:=k-1) (x:=u) (by rw[W1t];exact o)
 rw[show k-1+1=k by omega,i] at M
 refine Ar (k-1:Nat) rfl ?_
 refine El (k-1) rfl (by omega) ?_
 refine Ld (wd u) rfl (mp o) ?_
 refine By rfl (λh0=>?_) λh0=>?_
 refine Ar (k-1:Nat) rfl ?_
 refine Sw 0 (k-1) rfl (by omega) (by omega) ?_
 exact Bk (k-1) [] rfl ⟨by omega,by rw[M,show u=0 by omega,W3l,W2e]⟩ (by omega:k-1<k)
 exact Rw [] [(1000001,.arr 1 (l.map wd))] rfl (.one (.rf rfl) rfl rfl) ⟨rfl,k,I,rfl,by rw[<-i,Xe5 j (.inr ⟨u,by rw[Xy5 (by omega),dtk (by omega)];exact o,λe=>h0 (by rw[e];rfl)⟩)]⟩
 refine Rw [] [(1000001,.arr 1 (l.map wd))] rfl (.one (.rf rfl) rfl rfl) ⟨rfl,k,I,rfl,?_⟩
 rw[show k=0 by omega] at i |-
 rw[<-i,W5k,val,Xap]
theorem Xmo{l:List Nat}(h0:0<l.length)(i:l.length<=1099511627776): CA0 130 [.d (ws l)] 1 (l.map wd):=by
 refine EnW Tryz.func130 λ_ _ _ _=>?_
 refine Ub rfl (λh=>?_) ?_
 exact absurd h (by intro e; have:l.length = 0 := by simpa using congrArg List.length e
                    omega)
 refine ApL (l.map wd) rfl rfl (by simpa using h0) (by simpa using i) ?_
 exact Rw [(7,1000000)] [(1000000,.arr 1 (l.map wd))] rfl (.one (.rf rfl) rfl rfl) ⟨_,rfl,rfl,rfl⟩
end
section
def rnB: Ren:=⟨λn=>match n with
 | 166=>135
 | 167=>132
 | 169=>136
 | 240=>228
 | 276=>311
 | _=>0,λn=>match n with
 | 3=>3
 | 4=>4
 | 5=>5
 | 9=>9
 | 20=>20
 | 37=>24
 | 70=>168
 | 72=>170
 | 75=>172
 | 80=>180
 | 127=>239
 | 164=>287
 | _=>0,λn=>n⟩
theorem Yky: Lays.n166 Tryz.prog rnB where
 mixed:=by kernel_rfl
 f166:=by kernel_rfl
 f240:=by kernel_rfl
 f276:=by kernel_rfl
 t0:=by kernel_rfl
 a0:=λ_=>by kernel_rfl
 z0:=λ_=>by kernel_rfl
 v0:=λ_=>by kernel_rfl
 t3:=by kernel_rfl
 a3:=λ_=>by kernel_rfl
 z3:=λ_=>by kernel_rfl
 v3:=λ_=>by kernel_rfl
 t4:=by kernel_rfl
 a4:=λ_=>by kernel_rfl
 z4:=λ_=>by kernel_rfl
 v4:=λ_=>by kernel_rfl
 t9:=by kernel_rfl
 a9:=λ_=>by kernel_rfl
 z9:=λ_=>by kernel_rfl
 v9:=λ_=>by kernel_rfl
 t20:=by kernel_rfl
 a20:=λ_=>by kernel_rfl
 z20:=λ_=>by kernel_rfl
 v20:=λ_=>by kernel_rfl
 t37:=by kernel_rfl
 a37:=λ_=>by kernel_rfl
 z37:=λ_=>by kernel_rfl
 v37:=λ_=>by kernel_rfl
 t70:=by kernel_rfl
 a70:=λ_=>by kernel_rfl
 z70:=λ_=>by kernel_rfl
 v70:=λ_=>by kernel_rfl
 t72:=by kernel_rfl
 a72:=λ_=>by kernel_rfl
 z72:=λ_=>by kernel_rfl
 v72:=λ_=>by kernel_rfl
 t75:=by kernel_rfl
 a75:=λ_=>by kernel_rfl
 z75:=λ_=>by kernel_rfl
 v75:=λ_=>by kernel_rfl
 t164:=by kernel_rfl
 a164:=λ_=>by kernel_rfl
 z164:=λ_=>by kernel_rfl
 v164:=λ_=>by kernel_rfl
theorem Ykx: Lays.n169 Tryz.prog rnB where
 mixed:=by kernel_rfl
 f169:=by kernel_rfl
 t0:=by kernel_rfl
 a0:=λ_=>by kernel_rfl
 z0:=λ_=>by kernel_rfl
 v0:=λ_=>by kernel_rfl
 t3:=by kernel_rfl
 a3:=λ_=>by kernel_rfl
 z3:=λ_=>by kernel_rfl
 v3:=λ_=>by kernel_rfl
 t9:=by kernel_rfl
 a9:=λ_=>by kernel_rfl
 z9:=λ_=>by kernel_rfl
 v9:=λ_=>by kernel_rfl
 t37:=by kernel_rfl
 a37:=λ_=>by kernel_rfl
 z37:=λ_=>by kernel_rfl
 v37:=λ_=>by kernel_rfl
 t70:=by kernel_rfl
 a70:=λ_=>by kernel_rfl
 z70:=λ_=>by kernel_rfl
 v70:=λ_=>by kernel_rfl
 t72:=by kernel_rfl
 a72:=λ_=>by kernel_rfl
 z72:=λ_=>by kernel_rfl
 v72:=λ_=>by kernel_rfl
 t127:=by kernel_rfl
 a127:=λ_=>by kernel_rfl
 z127:=λ_=>by kernel_rfl
 v127:=λ_=>by kernel_rfl
theorem Yq7: Builder.Extra Tryz.prog rnB where
 sizeBuilder:=by kernel_rfl
 liesBuilder:=by kernel_rfl
 t5:=by kernel_rfl
 a5:=λ_=>by kernel_rfl
 z5:=λ_=>by kernel_rfl
 v5:=λ_=>by kernel_rfl
 infoByte:=by kernel_rfl
 cellsByte:=by kernel_rfl
 sizeByte:=by kernel_rfl
 neB5:=by decide
end
section
attribute [local go_sem] Oper.semAt_some
abbrev C9:={ x:Nat // x<1000000000 }
def b9(zs:List C9)(k:Nat): List (Nat×C9):=(List.range k).map λj=>(zs.length-1-j,zs[zs.length-1-j]?.getD ⟨0,by decide⟩)
def gw1(w:World): GW:=⟨w,λ_ _=>False,λ_ _ h=>h.elim⟩
theorem cell_lt{w:World}{b i:Nat}{v:Value}(h:w.cell? ⟨b,i,none⟩=some v): b<w.heap.size:=by
 apply W0t
 intro j
 simp only[World.cell?] at h
 rw[W3y (by omega)] at h
 cases h
theorem Ykt{W:GW}{n:Nat}{j:World}(h:Below n W.w j)(I:W.w.heap.size<=n): LeF W (gw1 j):=λb i v o =>
 ⟨(World.cell?_of_block (h.block b (W0y (cell_lt o.1) I))).trans o.1,id⟩
theorem Ybk{f:FuncId}{args:List AV}{vs:List Value}{s:List UInt8}{w:World}(j:C0 f args (·=.d (.str s)))(o:Gb.g Tryz.prog (gw1 w))(ha:Xjy (gw1 w) θe args vs):
 Calls Tryz.prog f vs.toArray w λe i=>e=.returned (.string ⟨s.toArray⟩)/\Below w.heap.size w i :=
 (j.2 (gw1 w) vs o ha).mono λe i ⟨W',v,u,I,M,h,O,_,T⟩=>by
  subst T;subst M
  obtain⟨rfl,_⟩:=Xyq O
  exact⟨I,h.os,h.tape,h.out,h.size,λk U=>h.same k U id⟩
theorem Ygi{Z:Type}(T e:TypeId)(B b:Nat)(f:Z->List Value): Own (λs W=>Lib.IsBuilderF T e B b (f s) W):=by
 intro s X Y row h U j
 have I:∀p,Lib.BuilderAtF T e B b p (f s) X->Lib.BuilderAtF T e B b p (f s) Y:=λp ⟨hB,v,hb,i,M⟩=>by
  have cells:∀k cs t fz,X.heap[k]?=some (.cells cs t fz)->some k≠row:=λk cs t fz hk e'=>by
   obtain⟨o,V,O⟩:=j k e'.symm
   rw[hk] at V;cases V;cases O
  refine⟨hB,v,(U.block b (W3k.1 hb).1 (cells b _ _ _ hb)).trans hb,i.kept U ?_,M⟩
  cases hv:v.ownBlock with
  | none=>exact .inl rfl
  | some g =>
   obtain⟨c,fz,O⟩:=Lib.ownsRowF_kind i g hv
   exact .inr (cells g _ _ _ O)
 exact h.elim (λh=>.inl (I _ h)) λh=>.inr (I _ h)
theorem Xp1{W W':World}{row:Option Nat}{b:Nat}{cs:Array Value}{t:TypeId}{fz:Nat×Nat}(h:W.heap[b]?=some (.cells cs t fz))(j:W.grownBy W' row)(hr:∀r,row=some r->∃o:Obj,W.heap[r]?=some o/\o.isCells=false): W'.heap[b]?=some (.cells cs t fz) :=
 (j.block b (W3k.1 h).1 (λI=>by
  obtain⟨o,i,M⟩:=hr b I.symm
  rw[h] at i;cases i;cases M)).trans h
theorem Xwu{T e:TypeId}{B b:Nat}{I:List Value}{w M:World}(h:Lib.IsBuilderF T e B b I w)(i:Below w.heap.size w M): Lib.IsBuilderF T e B b I M:=by
 have j:∀p,Lib.BuilderAtF T e B b p I w->Lib.BuilderAtF T e B b p I M:=λp ⟨U,v,hb,o,O⟩ =>
  ⟨U,v,(i.block b (W3k.1 hb).1).trans hb,o.kept (row:=none) ⟨i.os,i.tape,i.output,i.size,λk V _=>i.block k V⟩ (by cases Z:v.ownBlock<;>simp),O⟩
 exact h.elim (λh=>.inl (j _ h)) λh=>.inr (j _ h)
theorem Xps{w i:World}(h:Below w.heap.size w i): KeepsOthers w i:=⟨h.size,λk o j _=>(h.block k (W3k.1 j).1).trans j⟩
theorem Xl7{T e:TypeId}{B b n:Nat}{O:List Value}{w i:World}(h:Lib.IsBuilderF T e B b O w)(U:Below n w i)(V:Lib.OthersKept e (some b) w i): KeepsOthers w i:=⟨U.size,λk o I M=>by
 refine V k o I (λj=>?_) (λc fz j=>by subst j;cases M)
 cases j
 rcases h with ⟨_,v,hb,_⟩ | ⟨_,v,hb,_⟩<;>rw[I] at hb<;>cases hb<;>cases M⟩
structure W9 (n BS B:Nat) (sl:Value) (w W:World) (t:List UInt8) (W':World):Prop where
 b:Lib.IsBuilderF (rnB.t 72) (rnB.t 5) n n (Lib.byteCells t) W'
 s:W'.heap[BS]?=some (.cells #[sl] 56 (0,0))
 l:Below n w W'
 k:KeepsFrom B W W'
 q:Kq n BS W W'
theorem W9.below{n BS B:Nat}{sl:Value}{w W W' W'':World}{t:List UInt8}(h:W9 n BS B sl w W t W')(i:n<=W'.heap.size)(hb:Below W'.heap.size W' W''): W9 n BS B sl w W t W'' :=
 ⟨Xwu h.b hb,(hb.block BS (W3k.1 h.s).1).trans h.s,h.l.trans (hb.mono i),h.k.trans ((Xps hb).from _),h.q.trans ⟨hb.mono i,hb.block BS (W3k.1 h.s).1⟩⟩
theorem W9.wr{n BS B:Nat}{sl:Value}{w W W':World}{t:List UInt8}(h:W9 n BS B sl w W t W')(u:List UInt8)(M:n<=W'.heap.size)(O:BS≠n)(T:t.length+u.length<=140737488355328):
 Calls Tryz.prog 135 #[.pointer (some ⟨n,0,none⟩),.string ⟨u.toArray⟩] W' λe W''=>e=.returned (.tuple #[.int .i64 u.length,.nilIface])/\W9 n BS B sl w W (t++u) W'':=by
 have j:(⟨u.toArray⟩:ByteArray).size=u.length:=by simp[ByteArray.size]
 refine(Any.Builder_WriteString_k Yky Yq7 n n _ ⟨u.toArray⟩ W' h.b (by rw[Lib.byteCells_length,j];exact T) M).mono ?_
 rintro e W'' ⟨rfl,hb,i,o⟩
 have I:W''.heap[BS]?=some (.cells #[sl] 56 (0,0)):=o BS _ h.s (by intro e;cases e;exact O rfl) (by intro c fz e;cases e)
 refine⟨by rw[j],.inr (by rw[Lib.byteCells_append];exact hb),I,h.l.trans i,h.k.trans ((Xl7 h.b i o).from _),h.q.trans ⟨i,I.trans h.s.symm⟩⟩
end
section
attribute [local go_sem] Oper.semAt_some
end
end Go.Proofs.YtnedfplmoojbaaaGreatDoor
namespace Go.Proofs.YtnedfplmoojbaaaGreatDoor.P11
open Go Go.Vm Go.Num Go.Tow Go.Proofs.YtnedfplmoojbaaaGreatDoor Go.Proofs.YtnedfplmoojbaaaGreatDoor.P9 Go.Proofs.YtnedfplmoojbaaaGreatDoor.R11
theorem dcT{p:Prop}(h:p): dc p=true:=Xaj.2 h
theorem dcF{p:Prop}(h:¬p): dc p=false:=W6e.2 λe=>h (Xaj.1 e)
end Go.Proofs.YtnedfplmoojbaaaGreatDoor.P11
namespace Go.Vm
open Go
theorem Stp.freezeV{N:Nat->Prop}{W:GW}{θ:Loc}{g:Hp}(h:Obs W θ N g){o b:Nat}{x:D}(ho:g o=some (.var (.d x)))(hb:(θ o).1=some b): Stp N W (W.fz b) θ θ g (upd g o .dead) where
 os:=_root_.rfl
 out:=_root_.rfl
 tape:=_root_.rfl
 size:=W0a _
 same:=λ_ _ _=>_root_.rfl
 A:=λV _ hn i=>⟨λk=>k.2,λk=>⟨λe=>by subst e;exact hn (h.new o _ _ ho _root_.rfl hb),k⟩⟩
 le:=Xmb W b
 th:=λ_ _ _=>_root_.rfl
 hi:=λ_ _=>_root_.rfl
 obs:={
  r:=λM z O=>by
   rcases Xae O with ⟨I,j⟩ | ⟨I,j⟩
   subst j;trivial
   exact(h.r M z j).keep (Xmb W b) _root_.rfl (λ_ _=>_root_.rfl) λU V Z=>⟨_root_.rfl,λi hA=>show V≠b/\W.A V i from⟨λe=>by
    subst e
    exact I (h.dis M o z _ _ j ho U _root_.rfl Z hb),hA⟩⟩
  new:=λM z b O U hb=>by
   rcases Xae O with ⟨I,j⟩ | ⟨I,j⟩
   subst j;cases U
   exact h.new M z b j U hb
  dis:=λo1 o2 y1 y2 b h1 h2 l1 l2 b1 b2=>by
   rcases Xae h1 with ⟨I,f1⟩ | ⟨I,f1⟩
   subst f1;cases l1
   rcases Xae h2 with ⟨j,f2⟩ | ⟨j,f2⟩
   subst f2;cases l2
   exact h.dis o1 o2 y1 y2 b f1 f2 l1 l2 b1 b2
  ids:=λM z i O T=>by
   have:∃w,g i=some w:=by
    rcases Xae O with ⟨I,j⟩ | ⟨I,j⟩
    subst j;exact T.elim
    exact h.ids M z i j T
   obtain⟨w,hw⟩:=this
   by_cases e:i=o
   subst e;exact⟨_,Xai _ _ _⟩
   exact⟨w,by rw[Xak e];exact hw⟩ }
 dom:=λi y hy=>by
  by_cases e:i=o
  subst e;exact⟨_,Xai _ _ _⟩
  exact⟨y,by rw[Xak e];exact hy⟩
theorem Xxb{N:Nat->Prop}{W:GW}{θ:Loc}{g:Hp}(h:Obs W θ N g){o b:Nat}{x:D}{v:Value}(I:g o=some (.var (.d x)))(hb:(θ o).1=some b)(M:AV.V W θ (.ptr o 0) v): AV.V (W.fz b) θ (.at x) v:=by
 obtain⟨cs,⟨b1,i,O⟩,T⟩:=M
 refine⟨cs,?_,T⟩
 obtain⟨b',U,T',r1,Z,r3,r4⟩:=h.r _ _ I
 rw[hb] at r1 i;injection r1 with r1;injection i with i;subst r1;subst i
 exact⟨b,0,U,O,D.mono (Xmb W b) x r3,λj v hj=>⟨show W.w.cell? _=_ by rw[W1l,Xbd Z];exact hj,λhA=>hA.1 rfl⟩⟩
section
variable{c:Cx}{s:St}{p:Pl}
noncomputable def Yqw(tb:Nat->Option TI)(n id t:Nat)(s:St): Option (List Kt×Env×Hpl×Nat×D):=match runT tb n id 1000 s with
 | .j _ K E H=>match look E t with
  | some (.ptr o 0)=>match look H o with
   | some (.var (.d x))=>some (K,E,H,o,x)
   | _=>none
  | _=>none
 | _=>none
theorem Fv(id t:Nat){K:List Kt}{E:Env}{H:Hpl}{o:Nat}{x:D}(h:Yqw c.tb c.n id t s=some (K,E,H,o,x))(k:StP c (.j [] K ((t,.at x)::E) ((o,.dead)::H))): StP c s:=by
 unfold Yqw at h
 split at h<;>try cases h
 rename_i Z
 split at h<;>try cases h
 rename_i he
 split at h<;>cases h
 rename_i U
 refine Xfs (id:=id) 1000 ?_
 rw[Z]
 rintro a w ⟨s0,W,θ,hw,O,V,rfl⟩
 obtain⟨b,bs,T',r1,_⟩:=O.obs.r _ _ U
 have st:=Stp.freezeV O.obs U r1
 have M:=O.step0 st
 refine k a w ⟨_,W.fz b,θ,hw,?_,V,rfl⟩
 rw[show sem ((t,AV.at x)::E) ((o,Ob.dead)::H)=(upd (look E) t (.at x),upd (look H) o .dead) by rw[Xa4,Xa4]]
 refine⟨M.fm,⟨M.rel.defers,M.rel.size,λq v hq=>?_⟩,M.obs,λq v i hq hi=>?_⟩
 rcases Xae hq with ⟨T,I⟩ | ⟨T,I⟩
 subst T;subst I
 exact Xxb O.obs U r1 (O.rel.has q _ he)
 exact M.rel.has q v I
 rcases Xae hq with ⟨T,I⟩ | ⟨T,I⟩
 subst T;subst I;exact hi.elim
 exact M.ids q v i I hi
end
end Go.Vm
namespace Go.Proofs.YtnedfplmoojbaaaGreatDoor.R20
open Go Go.Vm Go.Num Go.Tow Go.Proofs.YtnedfplmoojbaaaGreatDoor Go.Proofs.YtnedfplmoojbaaaGreatDoor.P20
open Go.Proofs.YtnedfplmoojbaaaGreatDoor.P55 (v0 W0 g0 gv0 zw Xjk Qp)
section
variable{K:Nat}{G:Tw K}{S:List (Tow.El K)}{N:List Nm}{n m:Nat}{x y z:Nm}{a b:Tow.El K}
variable{K':Nat}{G':Tw K'}{S':List (Tow.El K')}{N':List Nm}{u s:Vn}{p q:V2 K'}{f g:Int}
theorem Zero_g(W':Wn G' S' N')(o:Gv G' S' N' m u p)(I:m<=800): C0 72 [.d (dT u f)] (·=.b (dc (f=0/\Xa5 G' p))):=by
 refine En Tryz.func72 λ_ _ _=>?_
 refine By rfl (λh=>?_) λh=>?_
 refine Ce rfl (R9.Sign_g W' o.y I)<|By rfl (λj=>?_) λj=>?_
 exact Ce rfl (R9.Sign_g W' o.x I)<|R1 rfl (.bp (Xaj.trans ⟨λi=>⟨h,j,i⟩,λi=>i.2.2⟩))
 exact R1 rfl (.bp ⟨nofun,λi=>absurd i.2.1 j⟩)
 exact R1 rfl (.bp ⟨nofun,λi=>absurd i.1 h⟩)
theorem half_g(W:Wn G S N)(h:Gd G S N n x a)(o:n<=400): C0 73 [.d (dN x)] (OnG G S N (n+1) (Tow.mul K G a (Tow.rat K hf2))):=by
 refine En Tryz.func73 λ_ _ _=>?_
 refine Dw rfl<|Ce rfl (R2.Frac_ok (a:=1) (b:=2) (by decide) (by decide) (by decide))<|Ce rfl (R9.FromRat_ok (q:=hf2))<|Ca rfl (R9.Mul_g W h (Gd.rat W Xw4) (by omega) (by decide)) λv i=>?_
 obtain⟨z,rfl,j⟩:=i
 exact Rt rfl (.one (.rf rfl) rfl rfl) ⟨z,rfl,j⟩
theorem Sector_g(W:Wn G S N)(W':Wn G' S' N')(i:Gd G S N n x a)(j:Gv G' S' N' m u p)(o:n<=400)(I:m<=800): C0 25 [.d (dN x),.d (dT u f)] (λr=>((f=0/\Xa5 G' p)/\r=.d (dAr n00 []))\/(¬(f=0/\Xa5 G' p)/\∃z,r=.d (dAr n00 [⟨z,u,f⟩])/\Gd G S N (n+1) z (Tow.mul K G a (Tow.rat K hf2)))):=by
 refine En Tryz.func25 λ_ _ _=>?_
 refine Ce rfl (R9.FromInt_ok (z:=0) (by decide))<|Ce rfl (Zero_g W' j I)<|By rfl (λh=>?_) λh=>?_
 have h:¬(f=0/\Xa5 G' p):=by simpa only [Xas,Xaj] using h
 refine Dw rfl<|Ca rfl (half_g W i o) λv M=>?_
 obtain⟨z,rfl,O⟩:=M
 exact Rt rfl (.one (.sd (.pd (.rf rfl) (.lit rfl))) rfl rfl) (.inr ⟨h,z,rfl,O⟩)
 have h:f=0/\Xa5 G' p:=W3j.1 (by simpa only [Xas,Xaj] using h)
 exact Rt rfl (.one (.sd (.pd (.rf rfl) (.nil rfl))) rfl rfl) (.inl ⟨h,rfl⟩)
end
theorem lse(l:List Sn): (l.map dSe).length=l.length:=W1k ..
theorem ase{l:List Sn}{k:Nat}{s:Sn}(h:l[k]?=some s): (l.map dSe)[k]?=some (dSe s):=by rw[W2c,h];rfl
theorem Equal_l{x y:Nm}{l j:List Sn}{p:Prop}{P Q:Sn->Sn->Prop}(hl:l.length<=100)(hl':j.length<=100)(hx:C0 38 [.d (dN x),.d (dN y)] (·=.b (dc p)))(h:∀(i:Nat) s t,l[i]?=some s->j[i]?=some t->C0 38 [.d (dN s.c),.d (dN t.c)] (·=.b (dc (P s t)))/\C0 39 [.d (dT s.v s.f),.d (dT t.v t.f)] (·=.b (dc (Q s t)))):
 C0 10 [.d (dAr x l),.d (dAr y j)] (·=.b (dc (p/\l.length=j.length/\∀(i:Nat) s t,l[i]?=some s->j[i]?=some t->P s t/\Q s t))):=by
 refine En Tryz.func10 λ_ _ _=>?_
 refine Fv 1 2 rfl ?_
 refine Fv 1 3 rfl ?_
 refine Ce rfl hx<|By rfl (λI=>?_) λI=>?_
 have I:¬p:=by simpa only [Xas,Xaj] using I
 rw[P11.dcF λh=>I h.1]
 exact R0
 have hp:p:=W3j.1 (by simpa only [Xas,Xaj] using I)
 refine By rfl (λZ=>?_) λZ=>?_<;>simp only[lse] at Z
 rw[P11.dcF λh=>Z (by rw[h.2.1])]
 exact R0
 have hll:l.length=j.length:=by omega
 refine Lo (λk:Nat=>[(2,.at (dAr x l)),(3,.at (dAr y j)),(5,.d (.int .i64 k))]) (λ_=>[]) (λk=>k<=l.length/\∀(i:Nat) s t,i<k->l[i]?=some s->j[i]?=some t->P s t/\Q s t) (λk=>l.length-k) 0 [] rfl ⟨W0r _,λ_ _ _ h=>absurd h (by omega)⟩ λk ⟨hk,hI⟩=>?_
 refine By rfl (λh3=>?_) λh3=>?_<;>simp only[lse] at h3
 obtain⟨s,M⟩:∃s,l[k]?=some s:=⟨_,W0e (by omega)⟩
 obtain⟨t,O⟩:∃t,j[k]?=some t:=⟨_,W0e (by omega)⟩
 obtain⟨g1,g2⟩:=h k s t M O
 refine Dz rfl ?_
 refine Ix k rfl (ase M)<|Ix k rfl (ase O)<|Ce rfl g1<|By rfl (λT=>?_) λT=>?_
 have T:¬P s t:=by simpa only [Xas,Xaj] using T
 rw[P11.dcF λh=>T (h.2.2 k s t M O).1]
 exact R0
 have hP:P s t:=W3j.1 (by simpa only [Xas,Xaj] using T)
 refine Ce rfl g2<|By rfl (λU=>?_) λU=>?_
 have U:¬Q s t:=by simpa only [Xas,Xaj] using U
 rw[P11.dcF λh=>U (h.2.2 k s t M O).2]
 exact R0
 have hQ:Q s t:=W3j.1 (by simpa only [Xas,Xaj] using U)
 refine Ar (k+1:Nat) rfl ?_
 refine Bk (k+1) [] rfl ⟨by omega,λi s' t' hi o V=>?_⟩ (by show l.length-(k+1)<l.length-k;omega)
 by_cases e:i=k
 subst e
 rw[M] at o;rw[O] at V
 cases o;cases V
 exact⟨hP,hQ⟩
 exact hI i s' t' (by omega) o V
 rw[P11.dcT ⟨hp,hll,λi s t o V=>hI i s t (by have:=(W0s.1 o).1;omega) o V⟩]
 exact R0
section
variable{K:Nat}{G:Tw K}{S:List (Tow.El K)}{N:List Nm}{n m:Nat}{x y z:Nm}{a b:Tow.El K}
end
end Go.Proofs.YtnedfplmoojbaaaGreatDoor.R20
namespace Go.Vm
open Go
section
variable{c:Cx}{s:St}{p:Pl}
noncomputable def Yia(tb:Nat->Option TI)(n:Nat)(s:St): Option (Pl×Nat×Nat×List D×AV):=match nxA tb n s with
 | some (p,o,[a,b])=>match o.op with
  | .call ⟨.builtin .append,_,⟨[T,T']⟩⟩=>match Nat.beq T T',tb T,look p.H (o.dst.getD 0) with
   | true,some i,none=>match Nat.ble i.eb 1024,i.z,b with
    | true,.sl sz _,.d (.sl s h)=>match Nat.beq s sz with
     | true=>some (p,o.dst.getD 0,sz,h,a)
     | false=>none
    | true,.sl sz _,.nil=>some (p,o.dst.getD 0,sz,[],a)
    | true,.sl sz _,.gr _ s h=>match Nat.beq s sz with
     | true=>some (p,o.dst.getD 0,sz,h,a)
     | false=>none
    | true,.sl sz _,.lit s h=>match Nat.beq s sz with
     | true=>some (p,o.dst.getD 0,sz,h,a)
     | false=>none
    | _,_,_=>none
   | _,_,_=>none
  | _=>none
 | _=>none
theorem Xlz{d sz:Nat}{ys:List D}{a v:AV}{us:Hpl}(h:Yia c.tb c.n s=some (p,d,sz,ys,a))(hF:∀ti:TI,ti.eb<=1024->Xj3 d (look p.H) ti sz ys a=some (v,us))(k:p.nx' c v us): StP c s:=by
 unfold Yia at h
 split at h<;>try cases h
 rename_i p' o a' b hA
 split at h<;>try cases h
 rename_i asx T T' ho
 split at h<;>try cases h
 rename_i ti Z hti hd
 have Z:=W0c Z
 subst Z
 have I:∀ {M U V},ti.eb<=1024->ti.z=.sl M V->Xh3 (look p'.H) ti.z M b=some U->(p',o.dst.getD 0,M,U,a')=(p,d,sz,ys,a)->StP c s:=by
  intro M U V O j i e
  injection e with e1 e2;injection e2 with e2 e3;injection e3 with e3 e4;injection e4 with e4 e5
  subst e1;subst e2;subst e3;subst e4;subst e5
  refine Xbl hA ?_ k
  rw[ho]
  simp only[F,if_true,hti,hd,j]
  rw[j] at i
  rw[i]
  exact hF ti O
 split at h
 rename_i O j
 split at h<;>cases h
 rename_i i
 have i:=W0c i
 exact I (W1e O) j (by simp[Xh3,toD,i]) rfl
 rename_i O j
 cases h
 exact I (W1e O) j (by simp[Xh3,j,toD]) rfl
 rename_i O j
 split at h<;>cases h
 rename_i i
 have i:=W0c i
 exact I (W1e O) j (by simp[Xh3,toD,i]) rfl
 rename_i O j
 split at h<;>cases h
 rename_i i
 have i:=W0c i
 exact I (W1e O) j (by simp[Xh3,toD,i]) rfl
 cases h
theorem Xer{n:Nat}{ti:TI}(h:n<=137438953472)(i:ti.eb<=1024): Xiw n ti:=⟨by
 have:=W2b h i;omega,by omega⟩
theorem ApH{d sz o:Nat}{xs ys:List D}(zs:List D)(h:Yia c.tb c.n s=some (p,d,sz,ys,.gr o sz xs))(i:xs++ys=zs)(hr:zs.length<=137438953472)(k:p.nx' c (.gr d sz zs) [(d,.tok zs.length sz),(o,.dead)])(j:look p.H o=some (.tok xs.length sz):=by exact rfl): StP c s:=by
 subst i
 exact Xlz h (λM I=>by simp[Xj3,j,Xer (by simpa using hr) I]) k
end
section
variable{c:Cx}{s:St}{p:Pl}
noncomputable def Yqn(tb:Nat->Option TI)(n:Nat)(s:St): Option (Pl×Oper×TypeId×Operand×Operand×TI×Nat×Nat×List D×Nat×Nat×AV):=match nxO tb n s with
 | some (p,o)=>match o.op,p.dr,o.dst with
  | .store T x y,false,none=>match Xb6 (look p.E) x,Xb6 (look p.E) y,tb T with
   | some (.el q sz j off),some v,some i=>match look p.H q with
    | some (.arr h xs)=>match Nat.beq sz h with
     | true=>some (p,o,T,x,y,i,q,sz,xs,j,off,v)
     | false=>none
    | _=>none
   | _,_,_=>none
  | _,_,_=>none
 | none=>none
theorem StF{o:Oper}{T:TypeId}{x y:Operand}{ti:TI}{q sz j off:Nat}{xs:List D}{v a':AV}{x1:D}(zs:List D)(u:D)(h:Yqn c.tb c.n s=some (p,o,T,x,y,ti,q,sz,xs,j,off,v))(hu:xs[j]?=some u)(hz:xs.set j x1=zs)(k:p.nx' c (.ub True) [(q,.arr sz zs)])
 (ha:Xs8 v (.d u) off=some a':=by exact rfl) (hd:toD u a'=some x1:=by exact rfl) (hs:(plain v&&Nat.beq v.size ti.z.size&&Nat.beq u.size sz&&Nat.beq x1.size sz)=true:=by exact rfl):StP c s:=by
 subst hz
 unfold Yqn at h
 split at h<;>try cases h
 rename_i p' o' ho
 split at h<;>try cases h
 rename_i T1 x' y' hop hdr hdst
 split at h<;>try cases h
 rename_i q' sz1 j' off' v' ti' M hy hti
 split at h<;>try cases h
 rename_i sz2 xs' hg
 split at h<;>cases h
 rename_i hb
 have hb:=W0c hb
 subst hb
 simp only[W0d] at hs
 obtain⟨⟨⟨hpl,O⟩,hs2⟩,U⟩:=hs
 have O:=W0c O
 have hs2:=W0c hs2
 have U:=W0c U
 refine Xne ho (by unfold Xal;rw[hop];rfl) hdr (λN W θ ρ _ hO hN hB hv=>?_) k
 obtain⟨hk,hp⟩:=c.hT _ _ hti
 have hg:(sem p.E p.H).2 q=some (.arr sz xs):=hg
 obtain⟨b,h1,e⟩:=Ynq (hv _ _ M)
 obtain⟨b',cs,T',r1,r2,r3,r4,r5,r6,r7⟩:=hO.r _ _ hg
 rw[h1] at r1;injection r1 with r1;subst r1
 obtain⟨V,_⟩:=Xha hpl (hv _ _ hy) (Xgg hpl)
 have I:=AV.c_len v V
 obtain⟨e1,d1,d2,d3⟩:=r6 j u hu
 have d1':AV.C W θ (.d u) e1:=d1
 obtain⟨u0,m,w,f1,f2,f3,f4,f5⟩:=Ycf V ha d1'
 have hel:=D.at_len u d1
 have hj:j<xs.length:=(W0s.1 hu).1
 have hlen:off+v.size<=sz:=by
  have:=congrArg List.length f1
  simp only[W0i] at this
  omega
 have hjc:j*sz+sz<=cs.length:=by
  rw[r3,<-W2m];exact W0l _ (by omega)
 have hrun:=Xvl (P:=c.P) (ty:=o.type) (pos:=o.pos) (aft:=o.after) (gd:=o.guard) hk e r2 (by rw[I,O]) (by omega) (AV.c_one v V)
 have hle:=Xfl W b cs (spl cs (j*sz+off) (ρ y).cells.toList) T' (λ_=>True) r2 (λi v hA=>absurd (r7 i) hA)
 have hsp:∀t,(spl cs (j*sz+off) (ρ y).cells.toList)[t]?=if j*sz+off<=t/\t<j*sz+off+v.size then (ρ y).cells.toList[t-(j*sz+off)]? else cs[t]?:=λt=>by
  rw[Xd7 _ _ _ _ (by rw[I];omega),I]
 have hspe:spl e1 off (ρ y).cells.toList=u0++((ρ y).cells.toList++w):=by rw[f1,<-f2];exact Xq4 _ _ _ _ (by rw[I,f3])
 have hse:∀t,(u0++((ρ y).cells.toList++w))[t]?=if off<=t/\t<off+v.size then (ρ y).cells.toList[t-off]? else e1[t]?:=λt=>by
  rw[<-hspe,Xd7 _ _ _ _ (by rw[I,hel];omega),I]
 have ho':o=⟨none,.store T x y,o.type,o.pos,o.after,o.guard⟩:=by
  obtain⟨d,op,ty,ps,af,gu⟩:=o
  cases hop;cases hdst;rfl
 rw[ho']
 refine⟨_,θ,_,hrun,Stp.put hO (t:=q) (x:=.arr sz (xs.set j x1)) hg rfl h1 r2 (λi v hA=>absurd (r7 i) hA) (λ_ _ _=>rfl) (λ_ _=>rfl) h1 (λi z hz=>?_) (λi z hz=>?_)
  ⟨b,_,T',h1,Xa1 _ _ _ (Xa2 r2),by rw[Xcn];exact r3,r4,by simpa using r5,λi x M=>?_,λi=>⟨r7 i,λ_=>trivial⟩⟩ (λi hi=>hi.elim),.inl ⟨rfl,rfl⟩,λi hi=>hi.elim⟩
 rcases Xae hz with ⟨f1,f2⟩ | ⟨f1,f2⟩
 exact .inl ⟨f1,f2⟩
 exact .inr (.inr ⟨f2,f1⟩)
 by_cases hio:i=q
 subst hio;exact⟨_,Xai _ _ _⟩
 exact⟨z,by rw[show Xbj (sem p.E p.H).2 [(q,Ob.arr sz (xs.set j x1))]=upd (sem p.E p.H).2 q (.arr sz (xs.set j x1)) from rfl,Xak hio];exact hz⟩
 by_cases Z:i=j
 subst Z
 rw[W2n hj] at M
 injection M with M;subst M
 refine⟨_,D.mono hle _ (Xm2 hd f4),U,λt c hq=>?_⟩
 rw[hse] at hq
 rw[hsp]
 split at hq
 rename_i hc
 rw[if_pos (by omega),show i*sz+t-(i*sz+off)=t-off by omega]
 exact hq
 rename_i hc
 rw[if_neg (by omega)]
 exact d3 t c hq
 rw[W2l (λh=>Z h.symm)] at M
 obtain⟨g1,g2,g3,g4⟩:=r6 i x M
 refine⟨g1,D.mono hle _ g2,g3,λt c hq=>?_⟩
 have hql:t<sz:=by
  rw[<-g3,<-D.at_len x g2]
  by_cases h:t<g1.length
  exact h
  rw[W1y (by omega)] at hq;cases hq
 rw[hsp,if_neg ?_]
 exact g4 t c hq
 rcases W7g Z with h | h
 have:i*sz+sz<=j*sz:=by rw[<-W2m];exact W0l _ (by omega)
 omega
 have:j*sz+sz<=i*sz:=by rw[<-W2m];exact W0l _ (by omega)
 omega
theorem Ysj{d sz:Nat}{xs ys:List D}(zs:List D)(h:Yia c.tb c.n s=some (p,d,sz,ys,.lit sz xs))(i:xs++ys=zs)(h0:0<ys.length)(hr:zs.length<=137438953472)(k:p.nx' c (.own d sz 0 zs.length) [(d,.arr sz zs)]): StP c s:=by
 subst i
 exact Xlz h (λo j=>by simp[Xj3,h0,Xer (by simpa using hr) j]) k
end
end Go.Vm
namespace Go.Proofs.YtnedfplmoojbaaaGreatDoor.P11
open Go Go.Vm Go.Num Go.Tow Go.Proofs.YtnedfplmoojbaaaGreatDoor Go.Proofs.YtnedfplmoojbaaaGreatDoor.P9 Go.Proofs.YtnedfplmoojbaaaGreatDoor.R11
section
end
section
end
end Go.Proofs.YtnedfplmoojbaaaGreatDoor.P11
namespace Go.Proofs.YtnedfplmoojbaaaGreatDoor.R3
open Go Go.Vm Go.Num Go.Tow Go.Proofs.YtnedfplmoojbaaaGreatDoor
theorem Point_ok{x:Rat}: C0 17 [.d (dq x)] (·=.d (dI (x,x))):=by
 refine En Tryz.func17 λ_ _ _=>?_
 exact R1 rfl (Xue rfl rfl)
section
variable{x:Rat}{s b:Nat}
end
theorem Yh3{x:Rat}{r:List Rat}{s:Nat}(hx:∀y∈x::r,Qs s y)(hs:s+s<=4398046511104)(hn:r.length<=1000): C0 54 [.d (dqs (x::r))] (·=.d (dI (Xpo x r,Xpq x r))):=by
 refine En Tryz.func54 λ_ _ _=>?_
 refine Ix 0 rfl (u:=dq x) rfl<|Ce rfl Point_ok<|Lo (λ(q:Nat×Rat×Rat)=>[(0,.d (dqs (x::r))),(2,.ptr 2 0),(3,.ptr 3 0),(4,.d (.int .i64 (q.1+1:Nat)))]) (λq=>[(2,.var zI),(3,.var (.d (dI (q.2.1,q.2.2))))]) (λq=>q.1<=r.length/\q.2.1=Xpo x (r.take q.1)/\q.2.2=Xpq x (r.take q.1)) (λq=>r.length-q.1) (0,x,x) [] rfl ⟨W0r _,rfl,rfl⟩ (λ(k,lo,hi) ⟨hk,j,o⟩=>?_)
 simp only at hk j o
 have qlo:Qs s lo:=j ▸ Xpn (Xlt hx k)
 have V:Qs s hi:=o ▸ Xpp (Xlt hx k)
 have M:s+s<=8796093022208:=by omega
 refine By rfl (λh=>?_) λh=>?_
 have h:((k+1:Nat):Int)<(((x::r).map dq).length:Nat):=h
 rw[lq,W1j] at h
 obtain⟨y,hy⟩:=qat (l:=r) (k:=k) (by omega)
 have i:((x::r).map dq)[k+1]?=some (dq y):=mp (by simpa using hy)
 have qy:Qs s y:=hx y (W1c _ (W0h hy))
 have e:r.take (k+1)=r.take k++[y]:=by rw[W1w,hy];rfl
 have e1:Xpo x (r.take (k+1))=lo2 lo y:=by rw[e,Xnh,j]
 have e2:Xpq x (r.take (k+1))=hi2 hi y:=by rw[e,Xni,o]
 have I:∀O T,O=lo2 lo y->T=hi2 hi y->k+1<=r.length/\O=Xpo x (r.take (k+1))/\T=Xpq x (r.take (k+1)):=λO T a b=>⟨by omega,by rw[a,e1],by rw[b,e2]⟩
 refine Dw rfl<|Ix (k+1) rfl i<|Ce rfl (R2.Cmp_ok qy qlo M)<|By rfl (λZ=>?_) λZ=>?_
 refine Ix (k+1) rfl i<|Dw rfl<|Ix (k+1) rfl i<|Ce rfl (R2.Cmp_ok qy V M)<|By rfl (λU=>?_) λU=>?_
 refine Ix (k+1) rfl i<|Ar (k+1+1:Nat) rfl ?_
 exact Bk (k+1,y,y) [] rfl (I y y (if_pos (Yhb.1 Z)).symm (if_pos (Xx4.1 U)).symm) (by show r.length-(k+1)<r.length-k;omega)
 refine Ar (k+1+1:Nat) rfl ?_
 exact Bk (k+1,y,hi) [] rfl (I y hi (if_pos (Yhb.1 Z)).symm (if_neg λh=>U (Xx4.2 h)).symm) (by show r.length-(k+1)<r.length-k;omega)
 refine Dw rfl<|Ix (k+1) rfl i<|Ce rfl (R2.Cmp_ok qy V M)<|By rfl (λU=>?_) λU=>?_
 refine Ix (k+1) rfl i<|Ar (k+1+1:Nat) rfl ?_
 exact Bk (k+1,lo,y) [] rfl (I lo y (if_neg λh=>Z (Yhb.2 h)).symm (if_pos (Xx4.1 U)).symm) (by show r.length-(k+1)<r.length-k;omega)
 refine Ar (k+1+1:Nat) rfl ?_
 exact Bk (k+1,lo,hi) [] rfl (I lo hi (if_neg λh=>Z (Yhb.2 h)).symm (if_neg λh=>U (Xx4.2 h)).symm) (by show r.length-(k+1)<r.length-k;omega)
 have h:¬((k+1:Nat):Int)<(((x::r).map dq).length:Nat):=h
 rw[lq,W1j] at h
 rw[W0b (by omega)] at j o
 exact R1 rfl (Xue (by rw[j]) (by rw[o]))
section
variable{p q:Rat×Rat}{s t b:Nat}
theorem Ya2(hp:Q2 s p)(hq:Q2 t q)(o:s+t+3<=4398046511104): C0 55 [.d (dI p),.d (dI q),.d (.int .i64 2)] (·=.d (dqs [p.1*q.1,p.1*q.2,p.2*q.1,p.2*q.2])):=by
 have h:s+t+1<=8796093022208:=by omega
 refine En Tryz.func55 λ_ _ _=>?_
 refine Dw rfl<|Nl 7 7 4 rfl ?_
 refine Lo (λ(i:Nat)=>[(2,.d (.int .i64 2)),(7,.gr 7 4 (([p.1*q.1,p.1*q.2,p.2*q.1,p.2*q.2].take (2*i)).map dq)),(8,.lit 4 [dq p.1,dq p.2]),(9,.lit 4 [dq q.1,dq q.2]),(10,.d (.int .i64 i))]) (λi=>[(7,.tok (([p.1*q.1,p.1*q.2,p.2*q.1,p.2*q.2].take (2*i)).map dq).length 4)]) (λi=>i<=2) (λi=>2-i) 0 [] rfl (by decide) (λi hi=>?_)
 have hi:i=0\/i=1\/i=2:=by omega
 rcases hi with rfl | rfl | rfl
 refine Yes rfl (by decide)<|Lo (λ(k:Nat)=>[(2,.d (.int .i64 2)),(7,.gr 7 4 (([p.1*q.1,p.1*q.2,p.2*q.1,p.2*q.2].take (0+k)).map dq)),(8,.lit 4 [dq p.1,dq p.2]),(9,.lit 4 [dq q.1,dq q.2]),(10,.d (.int .i64 0)),(11,.d (.int .i64 k))]) (λk=>[(7,.tok (([p.1*q.1,p.1*q.2,p.2*q.1,p.2*q.2].take (0+k)).map dq).length 4)]) (λk=>k<=2) (λk=>2-k) 0 [] rfl (by decide) (λk j=>?_)
 have j:k=0\/k=1\/k=2:=by omega
 rcases j with rfl | rfl | rfl
 refine Yes rfl (by decide)<|No rfl (by decide)<|No rfl (by decide)<|Dw rfl<|Ix 0 rfl (u:=dq p.1) rfl<|Ix 0 rfl (u:=dq q.1) rfl<|Ce rfl (R2.Mul_ok hp.1 hq.1 h)<|ApG (([p.1*q.1,p.1*q.2,p.2*q.1,p.2*q.2].take (0+1)).map dq) rfl rfl (by simp) ?_
 refine Ar (0+1:Nat) rfl ?_
 exact Bk 1 [(42,7)] rfl (by decide) (by decide)
 refine Yes rfl (by decide)<|No rfl (by decide)<|No rfl (by decide)<|Dw rfl<|Ix 0 rfl (u:=dq p.1) rfl<|Ix 1 rfl (u:=dq q.2) rfl<|Ce rfl (R2.Mul_ok hp.1 hq.2 h)<|ApG (([p.1*q.1,p.1*q.2,p.2*q.1,p.2*q.2].take (0+2)).map dq) rfl rfl (by simp) ?_
 refine Ar (1+1:Nat) rfl ?_
 exact Bk 2 [(42,7)] rfl (by decide) (by decide)
 refine No rfl (by decide)<|Ar (0+1:Nat) rfl ?_
 exact Bk 1 [] rfl (by decide) (by decide)
 refine Yes rfl (by decide)<|Lo (λ(k:Nat)=>[(2,.d (.int .i64 2)),(7,.gr 7 4 (([p.1*q.1,p.1*q.2,p.2*q.1,p.2*q.2].take (2+k)).map dq)),(8,.lit 4 [dq p.1,dq p.2]),(9,.lit 4 [dq q.1,dq q.2]),(10,.d (.int .i64 1)),(11,.d (.int .i64 k))]) (λk=>[(7,.tok (([p.1*q.1,p.1*q.2,p.2*q.1,p.2*q.2].take (2+k)).map dq).length 4)]) (λk=>k<=2) (λk=>2-k) 0 [] rfl (by decide) (λk j=>?_)
 have j:k=0\/k=1\/k=2:=by omega
 rcases j with rfl | rfl | rfl
 refine Yes rfl (by decide)<|No rfl (by decide)<|No rfl (by decide)<|Dw rfl<|Ix 1 rfl (u:=dq p.2) rfl<|Ix 0 rfl (u:=dq q.1) rfl<|Ce rfl (R2.Mul_ok hp.2 hq.1 h)<|ApG (([p.1*q.1,p.1*q.2,p.2*q.1,p.2*q.2].take (2+1)).map dq) rfl rfl (by simp) ?_
 refine Ar (0+1:Nat) rfl ?_
 exact Bk 1 [(42,7)] rfl (by decide) (by decide)
 refine Yes rfl (by decide)<|No rfl (by decide)<|No rfl (by decide)<|Dw rfl<|Ix 1 rfl (u:=dq p.2) rfl<|Ix 1 rfl (u:=dq q.2) rfl<|Ce rfl (R2.Mul_ok hp.2 hq.2 h)<|ApG (([p.1*q.1,p.1*q.2,p.2*q.1,p.2*q.2].take (2+2)).map dq) rfl rfl (by simp) ?_
 refine Ar (1+1:Nat) rfl ?_
 exact Bk 2 [(42,7)] rfl (by decide) (by decide)
 refine No rfl (by decide)<|Ar (1+1:Nat) rfl ?_
 exact Bk 2 [] rfl (by decide) (by decide)
 exact No rfl (by decide)<|R1 rfl (.gr rfl)
theorem Mul_ok(hp:Q2 s p)(hq:Q2 t q)(j:2*(s+t)+10<=4398046511104): C0 16 [.d (dI p),.d (dI q)] (·=.d (dI (Xa6 p q))):=by
 have i:=Yh3 (x:=p.1*q.1) (r:=[p.1*q.2,p.2*q.1,p.2*q.2]) (s:=s+t) (λy h=>by
  simp only[W1s,List.not_mem_nil,or_false] at h
  rcases h with rfl | rfl | rfl | rfl
  exact hp.1.mul hq.1
  exact hp.1.mul hq.2
  exact hp.2.mul hq.1
  exact hp.2.mul hq.2) (by omega) (by simp)
 refine En Tryz.func16 λ_ _ _=>?_
 exact Ce rfl (Ya2 hp hq (by omega))<|Ce rfl i<|R1 rfl (.rf rfl)
theorem Valid_ok(hp:Q2 s p)(h:s+s<=4398046511104): C0 52 [.d (dI p)] (·=.b (dc (p.1<=p.2))):=by
 refine En Tryz.func52 λ_ _ _=>?_
 exact Ce rfl (R2.Valid_ok hp.1 (by omega))<|Yes rfl rfl<|Ce rfl (R2.Valid_ok hp.2 (by omega))<|Yes rfl rfl<|Ce rfl (R2.Cmp_ok hp.1 hp.2 (by omega))<|R1 rfl (.bp (by rw[Xaj,Xjp];grind))
end
end Go.Proofs.YtnedfplmoojbaaaGreatDoor.R3
namespace Go.Proofs.YtnedfplmoojbaaaGreatDoor.R7
open Go Go.Vm Go.Num Go.Tow Go.Proofs.YtnedfplmoojbaaaGreatDoor
end Go.Proofs.YtnedfplmoojbaaaGreatDoor.R7
namespace Go.Vm
open Go
section
variable{c:Cx}{s:St}
end
end Go.Vm
namespace Go.Proofs.YtnedfplmoojbaaaGreatDoor.R11
open Go Go.Vm Go.Num Go.Tow Go.Proofs.YtnedfplmoojbaaaGreatDoor Go.Proofs.YtnedfplmoojbaaaGreatDoor.P11
end Go.Proofs.YtnedfplmoojbaaaGreatDoor.R11
namespace Go.Proofs.YtnedfplmoojbaaaGreatDoor.P11
open Go Go.Vm Go.Num Go.Tow Go.Proofs.YtnedfplmoojbaaaGreatDoor Go.Proofs.YtnedfplmoojbaaaGreatDoor.P9 Go.Proofs.YtnedfplmoojbaaaGreatDoor.R11 Go.Proofs.YtnedfplmoojbaaaGreatDoor.R9
section
theorem Yrh{K:Nat}{G:Tw K}{S:List (El K)}{ρ:Nat->El K}: TOk G S 0 () ρ:=⟨trivial,trivial,λi h=>absurd h (W3t i)⟩
theorem two_no: ¬Xde 0 () (2:Rat):=λ⟨w,h⟩=>by
 obtain⟨_,i,_⟩:=(Xo5 (q:=2)).1 ⟨w,h⟩
 have i:rt 2*rt 2=2:=i
 generalize rt 2=n at i
 have:n=0\/n=1\/2<=n:=by omega
 rcases this with rfl | rfl | h
 cases i
 cases i
 have:=W2b h h
 omega
abbrev two: Nm:=⟨0,(),(2:Rat)⟩
structure Rt2 (x:Nm):Prop where
 p:Pk x
 s:mul x.k x.t x.a x.a=rat x.k 2
 n:0<=sgn x.k x.t x.a
theorem Xzq{q:Rat}(h:q.num.natAbs<=4)(i:q.den<=4): sh q:=⟨Xaq (W2a h (by decide)),Xaq (W2a i (by decide))⟩
theorem sh2: shN two:=⟨λx h=>by obtain rfl:=W0g.1 h;exact Xzq (by decide) (by decide),λl i=>nomatch i⟩
theorem nok2{K:Nat}(G:Tw K)(S:List (El K)): NOk G S 300 600 two (rat K 2):=⟨⟨λ_=>zero _,Yrh,rfl⟩,trivial,Xzp (n:=1) sh2.1 (W0a _) (by decide)⟩
abbrev rt2: Nm:=⟨0+1,tsn () (2:Rat),Xdi (0+1) 0⟩
end
section
section
variable{k:Nat}{t:Tw k}{a:El k}
theorem Xvc(i:Xcg k t){u h w c:Rat}(j:0<u)(o:c*u+h=w): sgn k t (add k (scl k t a u h) (neg k (rat k w)))=sgn k t (add k a (neg k (rat k c))):=by
 have L:=Xax k t
 have e:add k (scl k t a u h) (neg k (rat k w))=mul k t (add k a (neg k (rat k c))) (rat k u):=by
  rw[<-o,Xdq,Xcz k t,L.dm,L.nm,L.nd]
  show add k (add k (mul k t a (rat k u)) (rat k h)) (add k _ (neg k (rat k h)))=_
  rw[L.aa,L.alc (rat k h),L.an,L.az]
 rw[e,Xvd i j]
theorem sg2(h:Xcg k t)(i:mul k t a a=rat k 2)(h0:0<=sgn k t a){c:Rat}(j:0<c): sgn k t (add k a (neg k (rat k c)))=Xjz (2-c*c):=by
 have L:=Xax k t
 have S:=Xao h
 have e:mul k t (add k a (neg k (rat k c))) (add k (rat k c) a)=rat k (2-c*c):=by
  rw[W4k,Xdq,Xft,Xcz k t,<-i]
  have L:=Xax k t
  exact(Laws.req L [a,(rat k c)] (.mul (.add (.v 0) (.neg (.v 1))) (.add (.v 1) (.v 0))) (.add (.mul (.v 0) (.v 0)) (.neg (.mul (.v 1) (.v 1)))) (by decide +kernel))
 have o:sgn k t (add k (rat k c) a)=1:=S.sp _ _ (by rw[Xcy h,Xb5 j]) h0
 have:=S.sm (add k a (neg k (rat k c))) (add k (rat k c) a)
 rw[e,o,W4c,Xcy h] at this
 exact this.symm
end
theorem Rt2.flo{x:Nm}(H:Rt2 x){u h c d:Rat}{z:Int}(i:0<u)(j:0<c)(hd:0<d)(o:c*u+h=(z:Rat))(I:d*u+h=((z+1:Int):Rat))(M:0<=Xjz (2-c*c))(hh:Xjz (2-d*d)=-1): Xe7 x.k x.t (scl x.k x.t x.a u h) z:=by
 refine⟨?_,?_⟩
 unfold le;rw[Xvc H.p.re i o,sg2 H.p.re H.s H.n j];exact M
 rw[Xvc H.p.re i I,sg2 H.p.re H.s H.n hd];exact hh
end
end Go.Proofs.YtnedfplmoojbaaaGreatDoor.P11
namespace Go.Vm
variable{c:Cx}{s:St}{p:Pl}
theorem Ysl{d sz:Nat}{xs ys:List D}(h:Yia c.tb c.n s=some (p,d,sz,ys,.lit sz xs))(h0:ys.length=0)(hr:xs.length<=137438953472)(k:p.nx' c (.lit sz xs) []): StP c s :=
 Xlz h (λj i=>by simp[Xj3,h0,Xer (by simpa using hr) i]) k
theorem Ysi{d sz:Nat}{ys:List D}(zs:List D)(h:Yia c.tb c.n s=some (p,d,sz,ys,.nil))(i:ys=zs)(hr:zs.length<=137438953472)(k:p.nx' c (.gr d sz zs) [(d,.tok zs.length sz)]): StP c s:=by
 subst i
 exact Xlz h (λo j=>by simp[Xj3,Xer hr j]) k
theorem liS{K:List Kt}{E:Env}{H:Hpl}(t sz:Nat)(M:look E t=some (.lit sz []))(k:J c K (sem ((t,.nil)::E) H)): J c K (sem E H):=by
 rintro a w ⟨s0,W,θ,O,h,I,rfl⟩
 refine k a w ⟨_,W,θ,O,?_,I,rfl⟩
 rw[show sem ((t,AV.nil)::E) H=(upd (look E) t .nil,look H) by rw[Xa4]]
 refine⟨h.fm,⟨h.rel.defers,h.rel.size,λq v hq=>?_⟩,h.obs,λq v i hq hi=>?_⟩
 rcases Xae hq with ⟨o,j⟩ | ⟨o,j⟩
 subst o;subst j
 obtain⟨p,e,_⟩:=Xt5 (h.rel.has q _ M)
 rw[e]
 exact⟨_,⟨_,rfl⟩,rfl⟩
 exact h.rel.has q v j
 rcases Xae hq with ⟨o,j⟩ | ⟨o,j⟩
 subst j;exact hi.elim
 exact h.ids q v i j hi
theorem Li{K:List Kt}{E:Env}{H:Hpl}(t sz:Nat)(h:nxJ c.tb c.n s=some (K,E,H))(k:StP c (.j [] K ((t,.nil)::E) H))(i:look E t=some (.lit sz []):=by exact rfl): StP c s:=by
 unfold nxJ at h
 split at h<;>cases h
 rename_i o
 exact go 1000 o (liS t sz i k)
end Go.Vm
namespace Go.Proofs.YtnedfplmoojbaaaGreatDoor.P20
open Go Go.Vm Go.Num Go.Tow Go.Proofs.YtnedfplmoojbaaaGreatDoor
open Go.Proofs.YtnedfplmoojbaaaGreatDoor.P55 (v0 W0 g0 gv0 zw Xjk Qp)
section
variable{K:Nat}{G:Tw K}{S:List (Tow.El K)}{N:List Nm}{n m k:Nat}{x y z c c':Nm}{a b e:Tow.El K}{u v s:Vn}{p q:V2 K}{f g:Int}
theorem Xqa{h:Sn}: CA0 36 [.d (dSs [h])] 7 [dSe h]:=by
 refine EnW Tryz.func36 λ_ _ _ _=>?_
 refine Ub rfl (λh=>?_) ?_
 exact absurd (show [dSe _]=[] from h) nofun
 refine Ysj [dSe h] rfl rfl (W7r _) (W1e rfl) ?_
 exact Rw [(7,1000000)] [(1000000,.arr 7 [dSe h])] rfl (.one (.rf rfl) rfl rfl) ⟨_,rfl,rfl,rfl⟩
theorem Xx9: C0 36 [.d (dSs [])] (·=.nil):=by
 refine En Tryz.func36 λ_ _ _=>?_
 refine Ub rfl (λh=>?_) ?_
 exact R0
 refine Ysl rfl rfl (by decide) ?_
 refine Li 2 7 rfl ?_
 exact R0
theorem Yaf{h:Sn}: CG0 83 [.nil,.d (.int .i64 0),.lit 7 [dSe h]] 7 [dSe h]:=by
 refine EnW Tryz.func83 λ_ _ _ _=>?_
 refine Xkh (a:=.nil) (r:=.nil) rfl rfl ?_
 refine No rfl (by decide:¬((1:Nat):Int)=0)<|Yes rfl (by decide)<|Ysi [dSe h] rfl rfl (W1e rfl) ?_
 exact Rw [(25,1000000)] [(1000000,.tok 1 7)] rfl (.one (.rf rfl) rfl rfl) ⟨_,rfl,rfl,rfl⟩
theorem Yom{h:Sn}: CO0 37 [.nil,.d (dSe h)] (λv i=>v=.tup (.pr (.gr 1000000 7 [dSe h]) (.d (.int .i64 0)))/\i=.tok 1 7):=by
 refine EnW Tryz.func37 λ_ _ _ _=>?_
 refine Lo (λ_:Unit=>[(0,.nil),(3,.ptr 3 0),(6,.d (.int .i64 0))]) (λ_=>[(3,.var (.d (dSe h)))]) (λ_=>True) (λ_=>0) () [] rfl trivial (λ_ _=>?_)
 refine Dw rfl<|No rfl (by decide)<|Dw rfl<|Yes rfl (by decide)<|CoN rfl (Yaf (h:=h)) (λv i j=>?_)
 obtain⟨rfl,rfl⟩:=j
 exact Rw [(44,1000000)] [(1000000,.tok 1 7)] rfl (.tup (.cons (.rf rfl) Xbs)) ⟨_,rfl,rfl,rfl⟩
theorem Yon(W:Wn G S N)(o:Gd G S N n c a)(i:Gd G S N n c' a)(Z:n<=95)(M:Gv G S N m u p)(O:Gv G S N m v q)(h2:m+m+(m+m)+m<=190)(hf:few f)(T:few g)(U:lim (Xcm G p q f g))(h0:¬(Xcm G p q f g=0/\Xa5 G (Xaz G p q))):
 CW0 37 [.own 1000001 7 0 1,.d (dSe ⟨c',v,g⟩)] [(1000001,.arr 7 [dSe ⟨c,u,f⟩])] (λr H'=>∃w,r=.tup (.pr (.own 1000001 7 0 1) (.d (.int .i64 0)))/\H'=[(1000001,.arr 7 [dSe ⟨c,w,Xcm G p q f g⟩])]/\Gv G S N (m+m+(m+m)) w (Xaz G p q)):=by
 have j:sgn K G (Tow.add K a (Tow.neg K a))=0:=by rw[(Xax K G).an];exact(Xat W.w.g).2 rfl
 refine EnW Tryz.func37 λ_ _ _ _=>?_
 refine Lo (λ_:Unit=>[(0,.own 1000001 7 0 1),(3,.ptr 3 0),(6,.d (.int .i64 0))]) (λ_=>[(1000001,.arr 7 [dSe ⟨c,u,f⟩]),(3,.var (.d (dSe ⟨c',v,g⟩)))]) (λ_=>True) (λ_=>0) () [] rfl trivial (λ_ _=>?_)
 refine Dw rfl<|Yes rfl (by decide)<|Eo 0 rfl (by decide)<|Ld (dSe ⟨c,u,f⟩) rfl rfl ?_
 refine Ce rfl (Ydo W o i (by omega) (by omega))<|No rfl (by rw[j];decide)<|Dw rfl<|No rfl (by decide)<|Eo 0 rfl (by decide)<|Ld (dSe ⟨c,u,f⟩) rfl rfl ?_
 refine Ce rfl (P9.Equal_g W o i (by omega) (by omega))<|No rfl (λh=>h rfl)<|Dw rfl<|Eo 0 rfl (by decide)<|Ld (dSe ⟨c,u,f⟩) rfl rfl ?_
 refine Ca rfl (P19.Add_g W M O (by omega) hf T) λr V=>?_
 rcases V with ⟨_,w,rfl,I⟩ | ⟨h,_⟩
 refine No rfl (by decide)<|Ce rfl (P19.Zero_g W I (by omega))<|No rfl h0<|Eo 0 rfl (by decide)<|StF [dSe ⟨c,w,Xcm G p q f g⟩] (dSe ⟨c,u,f⟩) rfl rfl rfl ?_
 exact Rw [] [(1000001,.arr 7 [dSe ⟨c,w,Xcm G p q f g⟩])] rfl (.tup (.cons (.rf rfl) Xbs)) ⟨w,rfl,rfl,I⟩
 exact absurd U h
theorem Ym7(W:Wn G S N)(h:Gd G S N n x a)(i:Gd G S N m y b)(I:n<=190)(M:m<=190): C0 9 [.d (dAr x []),.d (dAr y [])] (λr=>∃z,r=.tup (.pr (.d (dAr z [])) (.d (.int .i64 0)))/\Gd G S N (n+m) z (Tow.add K a b)):=by
 refine En Tryz.func9 λ_ _ _=>?_
 refine Ca rfl (P9.Add_g W h i (by omega) (by omega)) λv j=>?_
 obtain⟨z,rfl,o⟩:=j
 refine No rfl (by decide)<|Dw rfl<|Ce rfl Xx9<|Lo (λ_:Unit=>[(4,.ptr 4 0),(8,.ptr 8 0),(30,.d (.int .i64 0)),(31,.d (.int .i64 0))]) (λ_=>[(4,.var zA),(8,.var (.st (.pr (.d (dN z)) .nil)))]) (λ_=>True) (λ_=>0) () [] rfl trivial (λ_ _=>?_)
 exact No rfl (by decide)<|Rt rfl (.tup (.cons (.sd (.pd (.rf rfl) (.nil rfl))) Xbs)) ⟨z,rfl,o⟩
theorem Ym5(W:Wn G S N)(i:Gd G S N n x a)(j:Gd G S N m y b)(M:n<=190)(O:m<=190){h:Sn}: C0 9 [.d (dAr x [h]),.d (dAr y [])] (λr=>∃z,r=.tup (.pr (.d (dAr z [h])) (.d (.int .i64 0)))/\Gd G S N (n+m) z (Tow.add K a b)):=by
 refine En Tryz.func9 λ_ _ _=>?_
 refine Ca rfl (P9.Add_g W i j (by omega) (by omega)) λv o=>?_
 obtain⟨z,rfl,I⟩:=o
 refine No rfl (by decide)<|Dw rfl<|Cr rfl Xqa ?_
 refine Lo (λ_:Unit=>[(4,.ptr 4 0),(8,.ptr 8 0),(30,.d (.int .i64 0)),(31,.d (.int .i64 0))]) (λ_=>[(26,.arr 7 [dSe h]),(4,.var zA),(8,.var (.st (.pr (.d (dN z)) (.own 26 7 0 1))))]) (λ_=>True) (λ_=>0) () [] rfl trivial (λ_ _=>?_)
 exact No rfl (by decide)<|Rt rfl (.tup (.cons (.sd (.pd (.rf rfl) (.own rfl (W0a 1) rfl))) Xbs)) ⟨z,rfl,I⟩
theorem Ym6(W:Wn G S N)(j:Gd G S N n x a)(o:Gd G S N m y b)(M:n<=190)(O:m<=190){h:Sn}: C0 9 [.d (dAr x []),.d (dAr y [h])] (λr=>∃z,r=.tup (.pr (.d (dAr z [h])) (.d (.int .i64 0)))/\Gd G S N (n+m) z (Tow.add K a b)):=by
 refine En Tryz.func9 λ_ _ _=>?_
 refine Ca rfl (P9.Add_g W j o (by omega) (by omega)) λv i=>?_
 obtain⟨z,rfl,I⟩:=i
 refine No rfl (by decide)<|Dw rfl<|Ce rfl Xx9<|Lo (λk:Nat=>[(4,.ptr 4 0),(8,.ptr 8 0),(29,.d (dSs [h])),(30,.d (.int .i64 1)),(31,.d (.int .i64 k))]) (λk=>if k=0 then [(4,.var zA),(8,.var (.st (.pr (.d (dN z)) .nil)))] else [(39,.tok 1 7),(4,.var zA),(8,.var (.st (.pr (.d (dN z)) (.gr 39 7 [dSe h]))))]) (λk=>k<=1) (λk=>1-k) 0 [] rfl (W0r _) λk T=>?_
 rcases(by omega:k=0\/k=1) with rfl | rfl
 refine Yes rfl (by decide)<|Ix 0 rfl (u:=dSe h) rfl<|CoN rfl (Yom (h:=h)) (λv U i=>?_)
 obtain⟨rfl,rfl⟩:=i
 show Pl.nx' _ _ (.tup (.pr (.gr 39 7 [dSe h]) (.d (.int .i64 0)))) [(39,.tok 1 7)]
 refine No rfl (by decide)<|Ar (0+1:Nat) rfl ?_
 exact Bk (0+1) [] rfl (by decide) (by decide)
 exact No rfl (by decide)<|Rt rfl (.tup (.cons (.sd (.pd (.rf rfl) (.gr rfl))) Xbs)) ⟨z,rfl,I⟩
theorem Ym4{i:Nat}(W:Wn G S N)(T:Gd G S N n x a)(U:Gd G S N m y b)(hn:n<=190)(hm:m<=190)(V:Gd G S N k c e)(j:Gd G S N k c' e)(Z:Gv G S N i u p)(o:Gv G S N i v q)(hk:k<=95)(h2:i+i+(i+i)+i<=190)(hf:few f)(hg:few g)(hl:lim (Xcm G p q f g))(h0:¬(Xcm G p q f g=0/\Xa5 G (Xaz G p q))):
 C0 9 [.d (dAr x [⟨c,u,f⟩]),.d (dAr y [⟨c',v,g⟩])] (λt=>∃z w,t=.tup (.pr (.d (dAr z [⟨c,w,Xcm G p q f g⟩])) (.d (.int .i64 0)))/\Gd G S N (n+m) z (Tow.add K a b)/\Gv G S N (i+i+(i+i)) w (Xaz G p q)):=by
 refine En Tryz.func9 λ_ _ _=>?_
 refine Ca rfl (P9.Add_g W T U (by omega) (by omega)) λv o=>?_
 obtain⟨z,rfl,hz⟩:=o
 refine No rfl (by decide)<|Dw rfl<|Cr rfl Xqa ?_
 refine Lo (λk:Nat×Vn=>[(4,.ptr 4 0),(8,.ptr 8 0),(29,.d (dSs [⟨c',v,g⟩])),(30,.d (.int .i64 1)),(31,.d (.int .i64 k.1))]) (λk=>[(26,.arr 7 [dSe (if k.1=0 then ⟨c,u,f⟩ else ⟨c,k.2,Xcm G p q f g⟩)]),(4,.var zA),(8,.var (.st (.pr (.d (dN z)) (.own 26 7 0 1))))]) (λk=>k.1<=1/\(k.1=1->Gv G S N (i+i+(i+i)) k.2 (Xaz G p q))) (λk=>1-k.1) (0,u) [] rfl ⟨W0r _,λh=>by cases h⟩ λ⟨k,w⟩ ⟨I,hw⟩=>?_
 rcases(show k=0\/k=1 by have:k<=1:=I;omega) with rfl | rfl
 refine Yes rfl (by decide:((0:Nat):Int)<1)<|Ix 0 rfl (u:=dSe ⟨c',v,g⟩) rfl<|Cw [(1000001,26)] rfl (Yon W V j hk Z o h2 hf hg hl h0) (λr H' _ hr=>?_)
 obtain⟨O,rfl,rfl,M⟩:=hr
 show Pl.nx' _ _ (.tup (.pr (.own 26 7 0 1) (.d (.int .i64 0)))) [(26,.arr 7 [dSe ⟨c,O,Xcm G p q f g⟩])]
 refine No rfl (by decide)<|Ar (0+1:Nat) rfl ?_
 exact Bk (0+1,O) [] rfl ⟨W0a 1,λ_=>M⟩ (show 1-(0+1)<1-0 from W7t)
 exact No rfl (by decide:¬((1:Nat):Int)<1)<|Rt rfl (.tup (.cons (.sd (.pd (.rf rfl) (.own rfl (W0a 1) rfl))) Xbs)) ⟨z,w,rfl,hz,hw rfl⟩
end
open Go Go.Vm Go.Num Go.Tow Go.Proofs.YtnedfplmoojbaaaGreatDoor
theorem Ylc: ∀n,hp n*pw n=1
 | 0=>by decide +kernel
 | n+1=>by
  have h:=Ylc n
  show hp n*Rat.divInt 1 2*pw (n+1)=1
  rw[Xc1,Xhf]
  grind
theorem Yld{x:Rat}{n:Nat}(h:x*pw n<=1): x<=hp n:=by
 have:=Xaw n
 refine W2d ?_ this
 rw[Ylc];exact h
theorem Yjz{p:Rat×Rat}{c:Rat}(I:0<=c)(h:p.1<=p.2): (Xa6 (pt c) p).2-(Xa6 (pt c) p).1<=c*(p.2-p.1):=by
 obtain⟨⟨s,v,M,O,e⟩,s',T,i,j,U⟩:=Xhc (pt c) p
 have V:s=c:=by rcases M with h | h<;>exact h
 have o:s'=c:=by rcases i with h | h<;>exact h
 rw[e,U,V,o]
 have:T-v<=p.2-p.1:=by rcases O with rfl | rfl<;>rcases j with rfl | rfl<;>grind
 have:=W1a this I
 grind
section
variable{K:Nat}{G:Tw K}{S:List (Tow.El K)}{N:List Nm}{n b c:Nat}{u:Vn}{p:V2 K}{f:Int}{X Y:Rat×Rat}
structure RadP (G:Tw K) (p:V2 K) (f:Int) (b:Nat) (X:Rat×Rat):Prop where
 q:Q2 8000 X
 w:(X.2-X.1)*pw b<=1
 le:X.1<=X.2
 i:∃v r,gre G p≠zero K/\Tow.mul K G v (gre G p)=les G p/\inV G v r/\0<=r.1/\r.2<=1/\∀x N,inB x r->150<=N->inB (sta G p x N+qtr N*((4*f:Int):Rat)) X
theorem RadP.both(hG:red K G)(h:RadP G p f b X)(k:RadP G p f c Y): ∃y,inB y X/\inB y Y:=by
 obtain⟨v,r,h0,j,o,_,_,I⟩:=h.i
 obtain⟨w,s,_,M,O,_,_,T⟩:=k.i
 have L:=Xax K G
 obtain⟨i,hi⟩:=(Xcp hG).2 _ h0
 have hi:=Xb9 hi
 rw[L.mc] at hi
 have e:v=w:=by
  rw[<-L.mo v,<-L.mo w,<-hi,<-L.ma,<-L.ma,j,M]
 subst e
 obtain⟨x,U,V⟩:=Xsb hG o O
 exact⟨_,I x 150 U (W0a _),T x 150 V (W0a _)⟩
theorem Xon(W:Wn G S N)(hu:Gv G S N n u p)(M:p≠vz K)(hn:n<=4)(hf:-3000<=f/\f<=3000)(hb:b<=100): C0 14 [.d (dT u f),.d (.int .i64 b)] (λr=>∃X,r=.tup (.pr (.d (dI X)) (.d (.int .i64 0)))/\RadP G p f b X):=by
 obtain⟨Q,hQ,j⟩:=Xnb (b:=b+48) (by omega)
 have Qle:Q.1<=Q.2:=W1n (j.i 150 (W0a _)).1 (j.i 150 (W0a _)).2
 have hq:=Ylb
 refine En Tryz.func14 λ_ _ _=>?_
 refine No rfl (by omega)<|No rfl (by omega)<|Ce rfl (Xah (z:=1) (by decide))<|Lo (λi:Nat=>[(1,.d (.int .i64 b)),(2,.ptr 2 0),(4,.ptr 4 0),(5,.d (.int .i64 0)),(6,.ptr 6 0),(18,.d (.int .i64 b)),(19,.d (.int .i64 i))]) (λi=>[(2,.var (.d (dT u f))),(4,.var zI),(6,.var (.d (dq (hp i))))]) (λi=>i<=b) (λi=>b-i) 0 [] rfl (W0r _) (λi hi=>?_)
 refine By rfl (λh=>?_) λh=>?_
 have h:(i:Int)<b:=h
 refine Dw rfl<|Ce rfl (Xck (a:=1) (b:=2) (by decide) (by decide))<|Ce rfl (Xby (hq i (by omega)) (Qs.divInt (p:=64) (by decide) (by decide) (by decide)) (by decide))<|Ar (i+1:Nat) rfl ?_
 exact Bk (i+1) [] rfl (by omega:i+1<=b) (by show b-(i+1)<b-i;omega)
 have h:¬(i:Int)<b:=h
 obtain rfl:i=b:=by omega
 refine Ar (i+48:Nat) rfl ?_ (wr (by omega:(i:Int)+48=((i+48:Nat):Int)) (by simp only[inK];omega))
 refine Lo (λ_:Unit=>[(1,.d (.int .i64 i)),(2,.ptr 2 0),(4,.ptr 4 0),(5,.d (.int .i64 0)),(6,.ptr 6 0),(7,.d (.int .i64 (i+48:Nat)))]) (λ_=>[(2,.var (.d (dT u f))),(4,.var zI),(6,.var (.d (dq (hp i))))]) (λ_=>True) (λ_=>0) () [] rfl trivial (λ_ _=>?_)
 refine Ca rfl (Xv0 W hu M hn (b:=i+48) (by omega) (by omega)) λr hr=>?_
 obtain⟨R,rfl,A⟩:=hr
 refine No rfl (by decide)<|Dw rfl<|Ce rfl hQ<|Ar (4*f:Int) rfl ?_ (wI (by omega))
 refine Ce rfl (Xin (n:=4*f) j.q (by decide) (by omega)) ?_
 have Z:Q2 1195 (Xa6 Q (pt ((4*f:Int):Rat))):=Xb2 j.q (Xpe (n:=4*f) (by unfold Zs;omega))
 have o:=(Xeh A.q Z).mono (by decide:_<=8000)
 have wT:=Yc6 (n:=4*f) (m:=12000) ⟨by omega,by omega⟩ Qle
 obtain⟨v,r,h0,h1,O,h3,h4,hi⟩:=A.i
 obtain⟨x,I,_⟩:=Xsb W.w.g O O
 have U:∀x N,inB x r->150<=N->inB (sta G p x N+qtr N*((4*f:Int):Rat)) (Xf0 R (Xa6 Q (pt ((4*f:Int):Rat)))):=λx N I hN=>Xoz (j.i N hN) (hi x N I hN)
 have V:=W1n (U x 150 I (W0a _)).1 (U x 150 I (W0a _)).2
 have wX:((Xf0 R (Xa6 Q (pt ((4*f:Int):Rat)))).2-(Xf0 R (Xa6 Q (pt ((4*f:Int):Rat)))).1)*pw i<=1:=by
  refine W2d ?_ (Xaw 48)
  rw[W4i,<-Xiz,W5p]
  have a:=A.w
  have c:=W0f wT (W1m (Xaw (i+48)))
  have d:=j.w
  have e:(12000:Nat)=(12000:Rat):=rfl
  have e48:(15734640000:Rat)<=pw 48:=by decide +kernel
  show ((R.2+(Xa6 Q (pt ((4*f:Int):Rat))).2)-(R.1+(Xa6 Q (pt ((4*f:Int):Rat))).1))*pw (i+48)<=_
  generalize Xa6 Q (pt ((4*f:Int):Rat))=T at *
  generalize pw (i+48)=P at *
  grind
 refine Ce rfl (Xee A.q Z (by decide))<|Dw rfl<|Ce rfl (Xgp o (by decide)) ?_
 have qw:Qs 16001 ((Xf0 R (Xa6 Q (pt ((4*f:Int):Rat)))).2-(Xf0 R (Xa6 Q (pt ((4*f:Int):Rat)))).1):=by rw[W4k];exact o.2.add o.1.neg
 exact Ce rfl (Xbo qw (hq i (by omega)) (by decide))<|Yes rfl (by rw[Xjp];exact Rat.not_lt.2 (Yld wX))<|Rt rfl (.tup (.cons (.rf rfl) Xbs)) ⟨_,rfl,o,wX,V,v,r,h0,h1,O,h3,h4,U⟩
def eA(c:Rat)(X:Rat×Rat): Rat×Rat:=Xf0 (pt ((0:Int):Rat)) (Xa6 (pt c) X)
theorem Ybs{q:Rat}(hq:Qs 64 q)(W:Wn G S N)(M:Gv G S N n u p)(j:p≠vz K)(O:n<=4)(hf:-3000<=f/\f<=3000)(hb:b<=100): C0 45 [.d (dAr n00 [⟨nr q,u,f⟩]),.d (.int .i64 b)] (λr=>∃X,r=.tup (.pr (.d (dI (eA q X))) (.d (.int .i64 0)))/\RadP G p f b X):=by
 refine En Tryz.func45 λ_ _ _=>?_
 refine Ce rfl (Xf2 (x:=((0:Int):Rat)) (bits:=b) (by decide +kernel) (by omega))<|Lo (λ(s:Nat×Rat×Rat)=>[(1,.d (.int .i64 b)),(4,.ptr 4 0),(6,.ptr 6 0),(20,.d (dSs [⟨nr q,u,f⟩])),(21,.d (.int .i64 1)),(22,.d (.int .i64 s.1))]) (λs=>[(4,.var zI),(6,.var (.d (dI s.2)))]) (λs=>s.1=0/\s.2=pt ((0:Int):Rat)\/s.1=1/\∃X,s.2=eA q X/\RadP G p f b X) (λs=>1-s.1) (0,pt ((0:Int):Rat)) [] rfl (.inl ⟨rfl,rfl⟩) λ(k,E) I=>?_
 refine By rfl (λh=>?_) λh=>?_
 have h:(k:Int)<1:=h
 rcases I with ⟨i,o⟩ | ⟨i,_⟩
 obtain rfl:k=0:=i
 obtain rfl:E=pt ((0:Int):Rat):=o
 refine Ix 0 rfl (u:=dSe ⟨nr q,u,f⟩) rfl<|Ca rfl (Xon W M j O hf hb) λr T=>?_
 obtain⟨X,rfl,A⟩:=T
 refine No rfl (by decide)<|Dw rfl<|Ce rfl (Xf2 (x:=q) (bits:=b) hq (by omega))<|Ce rfl (Xfu (s:=64) (p:=pt q) (q:=X) ⟨hq,hq⟩ A.q (by decide))<|Ce rfl (Xee (s:=64) (p:=pt ((0:Int):Rat)) (by decide +kernel) (Xb2 (s:=64) (p:=pt q) ⟨hq,hq⟩ A.q) (by decide))<|Ar (0+1:Nat) rfl ?_
 exact Bk (0+1,eA q X) [] rfl (.inr ⟨rfl,X,rfl,A⟩) (by decide:1-(0+1)<1-0)
 have i:k=1:=i
 omega
 have h:¬(k:Int)<1:=h
 rcases I with ⟨i,_⟩ | ⟨i,X,o,A⟩
 have i:k=0:=i
 omega
 obtain rfl:E=eA q X:=o
 exact Rt rfl (.tup (.cons (.rf rfl) Xbs)) ⟨X,rfl,A⟩
theorem Ybt(hb:b<=100): C0 45 [.d (dAr n00 []),.d (.int .i64 b)] (·=.tup (.pr (.d (dI (pt ((0:Int):Rat)))) (.d (.int .i64 0)))):=by
 refine En Tryz.func45 λ_ _ _=>?_
 refine Ce rfl (Xf2 (x:=((0:Int):Rat)) (bits:=b) (by decide +kernel) (by omega))<|Lo (λ(_:Unit)=>[(1,.d (.int .i64 b)),(4,.ptr 4 0),(6,.ptr 6 0),(20,.d (dSs [])),(21,.d (.int .i64 0)),(22,.d (.int .i64 0))]) (λs=>[(4,.var zI),(6,.var (.d (dI (pt ((0:Int):Rat)))))]) (λ_=>True) (λ_=>0) () [] rfl trivial λ_ _=>?_
 exact No rfl (by decide)<|R0t
theorem Xor{x:Nm}{l:List Sn}{P:Rat×Rat->Prop}(ha:C0 45 [.d (dAr x l),.d (.int .i64 28)] (λr=>∃E,r=.tup (.pr (.d (dI E)) (.d (.int .i64 0)))/\P E))(I:∀E,P E->Q2 9000 E/\(E.2-E.1)*pw 20<=1): C0 13 [.d (dAr x l),.d (.int .i64 20)] (λr=>∃E,r=.tup (.pr (.d (dI E)) (.d (.int .i64 0)))/\P E):=by
 have hq:∀i,i<=20->Qs 200 (hp i):=λi hi=>Ylb i (by omega)
 refine En Tryz.func13 λ_ _ _=>?_
 refine No rfl (by decide)<|No rfl (by decide)<|Ce rfl (Xah (z:=1) (by decide))<|Lo (λi:Nat=>[(1,.d (.int .i64 20)),(2,.ptr 2 0),(4,.ptr 4 0),(6,.ptr 6 0),(18,.d (.int .i64 20)),(19,.d (.int .i64 i))]) (λi=>[(2,.var (.d (dAr x l))),(4,.var zI),(6,.var (.d (dq (hp i))))]) (λi=>i<=20) (λi=>20-i) 0 [] rfl (W0r _) (λi hi=>?_)
 refine By rfl (λh=>?_) λh=>?_
 refine Dw rfl<|Ce rfl (Xck (a:=1) (b:=2) (by decide) (by decide))<|Ce rfl (Xby (hq i hi) (Qs.divInt (p:=64) (by decide) (by decide) (by decide)) (by decide))<|Ar (i+1:Nat) rfl ?_
 exact Bk (i+1) [] rfl (by omega:i+1<=20) (by show 20-(i+1)<20-i;omega)
 obtain rfl:i=20:=by omega
 refine Ar (28:Nat) rfl ?_ (wr rfl (by simp only[inK];omega))
 refine Mm (28:Nat) rfl ?_ rfl
 refine Lo (λ_:Unit=>[(2,.ptr 2 0),(4,.ptr 4 0),(6,.ptr 6 0),(7,.d (.int .i64 28))]) (λ_=>[(2,.var (.d (dAr x l))),(4,.var zI),(6,.var (.d (dq (hp 20))))]) (λ_=>True) (λ_=>0) () [] rfl trivial (λ_ _=>?_)
 refine Ca rfl ha λr M=>?_
 obtain⟨E,rfl,o⟩:=M
 obtain⟨j,wE⟩:=I E o
 refine No rfl (by decide)<|Dw rfl<|Ce rfl (Xgp (p:=E) j (by decide)) ?_
 have O:Qs 18001 (E.2-E.1):=by rw[W4k];exact j.2.add j.1.neg
 exact Ce rfl (Xbo O (hq 20 (by decide)) (by decide))<|Yes rfl (by rw[Xjp];exact Rat.not_lt.2 (Yld wE))<|Rt rfl (.tup (.cons (.rf rfl) Xbs)) ⟨E,rfl,o⟩
theorem Xyy{q:Rat}(hq:Qs 64 q)(h0:0<=q)(M:q<=2)(W:Wn G S N)(O:Gv G S N n u p)(j:p≠vz K)(T:n<=4)(hf:-3000<=f/\f<=3000): C0 13 [.d (dAr n00 [⟨nr q,u,f⟩]),.d (.int .i64 20)] (λr=>∃E,r=.tup (.pr (.d (dI E)) (.d (.int .i64 0)))/\∃X,E=eA q X/\RadP G p f 28 X) :=
 Xor ((Ybs hq W O j T hf (b:=28) (by decide)).mono λr ⟨X,e,h⟩=>⟨_,e,X,rfl,h⟩) λE ⟨X,e,h⟩=>by
  subst e
  refine⟨(Xeh (s:=64) (p:=pt ((0:Int):Rat)) (by decide +kernel) (Xb2 (s:=64) (p:=pt q) ⟨hq,hq⟩ h.q)).mono (by decide),?_⟩
  have w:=Yjz h0 h.le
  have U:=h.w
  have I:0<=X.2-X.1:=by have:=h.le;grind
  have V:=W0f M I
  have o:pw 28=256*pw 20:=by decide +kernel
  have i:=Xaw 20
  have Z:=W0f (W1n w V) (W1m i)
  have z:((0:Int):Rat)=0:=rfl
  show ((((0:Int):Rat)+(Xa6 (pt q) X).2)-(((0:Int):Rat)+(Xa6 (pt q) X).1))*pw 20<=1
  rw[o] at U
  have:=Xi5 I (W1m i)
  grind
theorem Ym1: C0 13 [.d (dAr n00 []),.d (.int .i64 20)] (λr=>∃E,r=.tup (.pr (.d (dI E)) (.d (.int .i64 0)))/\E=pt ((0:Int):Rat)) :=
 Xor ((Ybt (b:=28) (by decide)).mono λr e=>⟨_,e,rfl⟩) λE e=>by
  subst e
  exact⟨by decide +kernel,by decide +kernel⟩
end
end Go.Proofs.YtnedfplmoojbaaaGreatDoor.P20
namespace Go.Proofs.YtnedfplmoojbaaaGreatDoor.R3
open Go Go.Vm Go.Num Go.Tow Go.Proofs.YtnedfplmoojbaaaGreatDoor
section
variable{p q:Rat×Rat}{s:Nat}
theorem Meet_ok(hp:Q2 s p)(hq:Q2 s q)(M:s+s<=4398046511104)(h:¬(P20.meetI p q).2<(P20.meetI p q).1): C0 53 [.d (dI p),.d (dI q)] (·=.tup (.pr (.d (dI (P20.meetI p q))) (.b true))):=by
 have q1:Qs s (P20.meetI p q).1:=Xsd hp.1 hq.1
 have q2:Qs s (P20.meetI p q).2:=Xr6 hp.2 hq.2
 have h0:¬Xmw (P20.meetI p q).1 (P20.meetI p q).2>0:=λe=>h (Xx4.1 e)
 refine En Tryz.func53 λ_ _ _=>?_
 refine Ce rfl (R2.Cmp_ok hq.1 hp.1 (by omega))<|By rfl (λI=>?_) λI=>?_
 have j:(P20.meetI p q).1=q.1:=if_pos (Xx4.1 I)
 rw[j] at h0 q1
 refine Ce rfl (R2.Cmp_ok hq.2 hp.2 (by omega))<|By rfl (λo=>?_) λo=>?_
 have i:(P20.meetI p q).2=q.2:=if_pos (Yhb.1 o)
 rw[i] at h0
 exact Ce rfl (R2.Cmp_ok hq.1 hq.2 (by omega))<|No rfl h0<|RTt rfl (.cons (Xue (congrArg dq j.symm) (congrArg dq i.symm)) Xgr)
 have i:(P20.meetI p q).2=p.2:=if_neg λe=>o (Yhb.2 e)
 rw[i] at h0
 exact Ce rfl (R2.Cmp_ok hq.1 hp.2 (by omega))<|No rfl h0<|RTt rfl (.cons (Xue (congrArg dq j.symm) (congrArg dq i.symm)) Xgr)
 have j:(P20.meetI p q).1=p.1:=if_neg λe=>I (Xx4.2 e)
 rw[j] at h0 q1
 refine Ce rfl (R2.Cmp_ok hq.2 hp.2 (by omega))<|By rfl (λo=>?_) λo=>?_
 have i:(P20.meetI p q).2=q.2:=if_pos (Yhb.1 o)
 rw[i] at h0
 exact Ce rfl (R2.Cmp_ok hp.1 hq.2 (by omega))<|No rfl h0<|RTt rfl (.cons (Xue (congrArg dq j.symm) (congrArg dq i.symm)) Xgr)
 have i:(P20.meetI p q).2=p.2:=if_neg λe=>o (Yhb.2 e)
 rw[i] at h0
 exact Ce rfl (R2.Cmp_ok hp.1 hp.2 (by omega))<|No rfl h0<|RTt rfl (.cons (Xue (congrArg dq j.symm) (congrArg dq i.symm)) Xgr)
end
end Go.Proofs.YtnedfplmoojbaaaGreatDoor.R3
namespace Go.Proofs.YtnedfplmoojbaaaGreatDoor.P20
open Go Go.Vm Go.Num Go.Tow Go.Proofs.YtnedfplmoojbaaaGreatDoor
theorem Yf7{x:Rat}{p q:Rat×Rat}(hp:inB x p)(hq:inB x q): ¬(meetI q p).2<(meetI q p).1:=by
 obtain⟨i,j⟩:=hp
 obtain⟨q1,q2⟩:=hq
 show ¬lo2 q.2 p.2<hi2 q.1 p.1
 rcases Xnk (x:=q.2) (y:=p.2) with e | e<;>rcases Xnp (x:=q.1) (y:=p.1) with h | h<;>rw[e,h]<;>grind
theorem Ybe{x:Rat}{p q:Rat×Rat}{s:Nat}(hp:Q2 s p)(hq:Q2 s q)(I:s<=1000000)(i:inB x p)(o:inB x q): C0 15 [.d (.sl 8 [dI p,dI q])] (·=.b true):=by
 refine En Tryz.func15 λ_ _ _=>?_
 refine Lo (λk:Nat=>[(0,.d (.sl 8 [dI p,dI q])),(9,.d (.sl 8 [dI p,dI q])),(10,.d (.int .i64 2)),(11,.d (.int .i64 k))]) (λ_=>[]) (λk=>k<=2) (λk=>2-k) 0 [] rfl (W0r _) λk M=>?_
 rcases(by omega:k=0\/k=1\/k=2) with rfl | rfl | rfl
 refine Yes rfl (by decide)<|Ix 0 rfl (u:=dI p) rfl<|Ce rfl ((R3.Valid_ok hp (by omega)).mono λv e=>e.trans (congrArg AV.b (Xaj.2 (W1n i.1 i.2))))<|No rfl (λh=>h rfl)<|Tk 0 [] rfl rfl (W0r _) rfl ?_
 refine Lo (λ_:Unit=>[(0,.d (.sl 8 [dI p,dI q])),(9,.d (.sl 8 [dI p,dI q])),(10,.d (.int .i64 2)),(11,.d (.int .i64 0)),(4,.ptr 4 0),(21,.d (.sl 8 [])),(22,.d (.int .i64 0)),(23,.d (.int .i64 0))]) (λ_=>[(4,.var (.d (dI p)))]) (λ_=>True) (λ_=>0) () [] rfl trivial λ_ _=>?_
 refine No rfl (by decide)<|Ar (0+1:Nat) rfl ?_
 exact Bk (0+1) [] rfl (by decide) (by decide)
 refine Yes rfl (by decide)<|Ix 1 rfl (u:=dI q) rfl<|Ce rfl ((R3.Valid_ok hq (by omega)).mono λv e=>e.trans (congrArg AV.b (Xaj.2 (W1n o.1 o.2))))<|No rfl (λh=>h rfl)<|Tk 1 [dI p] rfl rfl (by decide:1<=2) rfl ?_
 refine Lo (λj:Nat=>[(0,.d (.sl 8 [dI p,dI q])),(9,.d (.sl 8 [dI p,dI q])),(10,.d (.int .i64 2)),(11,.d (.int .i64 1)),(4,.ptr 4 0),(21,.d (.sl 8 [dI p])),(22,.d (.int .i64 1)),(23,.d (.int .i64 j))]) (λ_=>[(4,.var (.d (dI q)))]) (λj=>j<=1) (λj=>1-j) 0 [] rfl (W0r _) λj O=>?_
 rcases(by omega:j=0\/j=1) with rfl | rfl
 refine Yes rfl (by decide)<|Ix 0 rfl (u:=dI p) rfl<|Ce rfl (R3.Meet_ok (p:=q) (q:=p) hq hp (by omega) (Yf7 i o))<|No rfl (λh=>h rfl)<|Ar (0+1:Nat) rfl ?_
 exact Bk (0+1) [] rfl (by decide) (by decide)
 refine No rfl (by decide)<|Ar (1+1:Nat) rfl ?_
 exact Bk (1+1) [] rfl (by decide) (by decide)
 exact No rfl (by decide)<|R0
end Go.Proofs.YtnedfplmoojbaaaGreatDoor.P20
namespace Go.Vm
open Go
section
section
variable{c:Cx}{s:St}{p:Pl}
noncomputable def Yql(tb:Nat->Option TI)(n:Nat)(s:St): Option (Pl×Oper×TypeId×TI×Operand×Operand×Operand×Operand×Nat×Nat×Nat×Nat×Int×Int×Int):=match nxO tb n s with
 | some (p,o)=>match o.op,p.dr with
  | .slice T x (some lo) (some hi) (some h),false=>match Xb6 (look p.E) x,Xb6 (look p.E) lo,Xb6 (look p.E) hi,Xb6 (look p.E) h,tb T with
   | some (.own q sz l m),some (.d (.int _ i)),some (.d (.int _ j)),some (.d (.int _ k)),some I=>match I.z with
    | .sl _ _=>some (p,o,T,I,x,lo,hi,h,q,sz,l,m,i,j,k)
    | _=>none
   | _,_,_,_,_=>none
  | _,_=>none
 | none=>none
theorem Sx(i j k:Nat){o:Oper}{T:TypeId}{ti:TI}{x lo hi mx:Operand}{q sz l m:Nat}{Z j' k':Int}(h:Yql c.tb c.n s=some (p,o,T,ti,x,lo,hi,mx,q,sz,l,m,Z,j',k'))(h1:i<=j)(h2:j<=k)(h3:k<=m)(kk:p.nx c .an)
 (e1:Z=(i:Int):=by first | exact rfl | omega) (e2:j'=(j:Int):=by first | exact rfl | omega) (e3:k'=(k:Int):=by first | exact rfl | omega):StP c s:=by
 subst e1;subst e2;subst e3
 unfold Yql at h
 split at h<;>try cases h
 rename_i p' o' ho
 split at h<;>try cases h
 rename_i T' x' lo' hi' mx' I O
 split at h<;>try cases h
 rename_i ti' hx hl hh hm U
 split at h<;>cases h
 rename_i s0 ys0 hz
 refine Xne (us:=[]) ho (by unfold Xal;rw[I];rfl) O (λN W θ ρ _ hO hN hB M=>?_) (Pl.nx_nil kk)
 obtain⟨hk,_⟩:=c.hT _ _ U
 obtain⟨t,u1,_,u3⟩:=hk.u
 rw[hz] at u3
 obtain⟨E,e',hsz,hez,ii,v0,i1,i2,_⟩:=u3
 subst e'
 obtain⟨b,pp,f1,f2,f3,e,f5⟩:=Xf1 (M _ _ hx)
 obtain⟨g1,_⟩:=Xcw (M _ _ hl)
 obtain⟨g2,_⟩:=Xcw (M _ _ hh)
 obtain⟨g3,_⟩:=Xcw (M _ _ hm)
 have V:∃r,(execOp ρ o).run c.P W.w=.ok (.value (.slice r (j-i) (k-i))) W.w:=by
  have hc:k<=(θ q).2-l:=by omega
  refine⟨if k=i then pp else pp.map (·.add (i*ii.size)),?_⟩
  simp only[execOp,I,W3m]
  simp[e,g1,g2,g3,Instr.sliceAt,Instr.slice,Instr.sliceBounds,Instr.sliceBound,asIntOf,sizeOf,typeInfo,underlying,program,bind,Sem.bind,Sem.run,pure,u1,i1,h1,h2,hc]
 obtain⟨r,V⟩:=V
 exact .val (u:=.slice r (j-i) (k-i)) hO V ⟨_,⟨_,_,_,rfl⟩,rfl⟩ (λ_ h=>h.elim)
noncomputable def Yqk(tb:Nat->Option TI)(n:Nat)(s:St): Option (Pl×Oper×TypeId×TI×Operand×Operand×Operand×Nat×Nat×Nat×Nat×List D×Int×Int):=match nxO tb n s with
 | some (p,o)=>match o.op,p.dr with
  | .slice T x (some lo) (some hi) none,false=>match Xb6 (look p.E) x,Xb6 (look p.E) lo,Xb6 (look p.E) hi,tb T with
   | some (.own q sz l m),some (.d (.int _ i)),some (.d (.int _ j)),some h=>match h.z,look p.H q,Nat.beq sz h.e.size with
    | .sl _ _,some (.arr s1 xs),true=>match Nat.beq s1 sz with
     | true=>some (p,o,T,h,x,lo,hi,q,sz,l,m,xs,i,j)
     | false=>none
    | _,_,_=>none
   | _,_,_,_=>none
  | _,_=>none
 | none=>none
theorem Sy(i j:Nat){o:Oper}{T:TypeId}{ti:TI}{x lo hi:Operand}{q sz l m:Nat}{xs:List D}{i' j':Int}(h:Yqk c.tb c.n s=some (p,o,T,ti,x,lo,hi,q,sz,l,m,xs,i',j'))(h1:i<=j)(h2:l+j<=xs.length)(kk:p.nx c (.own q sz (l+i) (j-i)))
 (O:i'=(i:Int):=by first | exact rfl | omega) (U:j'=(j:Int):=by first | exact rfl | omega):StP c s:=by
 subst O;subst U
 unfold Yqk at h
 split at h<;>try cases h
 rename_i p' o' ho
 split at h<;>try cases h
 rename_i T' x' lo' hi' I V
 split at h<;>try cases h
 rename_i ti' hx hl Z hti
 split at h<;>try cases h
 rename_i s0 ys0 s1 xs1 hz hH hb1
 split at h<;>cases h
 rename_i hb2
 have O:=W0c hb1
 have U:=W0c hb2
 subst U
 refine Xne (us:=[]) ho (by unfold Xal;rw[I];rfl) V (λN W θ ρ _ hO hN hB hv=>?_) (Pl.nx_nil kk)
 obtain⟨hk,_⟩:=c.hT _ _ hti
 obtain⟨t,u1,_,u3⟩:=hk.u
 rw[hz] at u3
 obtain⟨E,e,hsz,hez,ii,v0,i1,i2,_⟩:=u3
 subst e
 obtain⟨b,M,f1,f2,f3,ex,f5⟩:=Xf1 (hv _ _ hx)
 obtain⟨b',cs,T1,r1,r2,r3,r4,r5,r6,r7⟩:=hO.r _ _ hH
 obtain⟨g1,_⟩:=Xcw (hv _ _ hl)
 obtain⟨g2,_⟩:=Xcw (hv _ _ Z)
 have hr:=Ycx (P:=c.P) (w:=W.w) u1 i1 i2 ex (lo:=some (ρ lo)) (hi':=some (ρ hi)) (l:=i) (h:=j) (.inr ⟨_,by rw[g1]⟩) (.inr ⟨_,by rw[g2]⟩) h1 (by omega)
 have hg:(sem p.E p.H).2 q=some (.arr s1 xs):=hH
 refine .val (u:=.slice (if (θ q).2-l=i then M else M.map (·.add (i*ti.e.size))) (j-i) ((θ q).2-l-i)) hO ?_ ⟨[.slice (if (θ q).2-l=i then M else M.map (·.add (i*ti.e.size))) (j-i) ((θ q).2-l-i)],⟨b,_,f1,by omega,f3,by rw[show (θ q).2-l-i=(θ q).2-(l+i) by omega],λZ=>?_⟩,rfl⟩ (λi hi=>by subst hi;exact⟨_,hg⟩)
 simp only[execOp,I,W3m,Option.map_none]
 rw[Sem.run_bind,hr];rfl
 by_cases hc:(θ q).2-l=i
 rw[if_pos hc]
 rcases Z with h0 | h0
 have:i=0:=by omega
 subst this
 rw[W2e]
 exact f5 (.inl (by omega))
 omega
 rw[if_neg hc,f5 (by omega)]
 simp only[W3m,add0,O]
 rw[W1f]
theorem ApI{d sz o n l m:Nat}{xs:List D}(ws:List D)(h:nxQ c.tb c.n s=some (p,d,sz,l,m,xs,.own o sz 0 n))(j:look p.H o=some (.arr sz ws))(I:l+m<=xs.length)(M:n+m<=ws.length)(O:n<ws.length)(hr:n+m<=1099511627776)
 (k:p.nx' c (.own o sz 0 (n+m)) [(o,.arr sz (ws.take n++(xs.drop l).take m++ws.drop (n+m)))]):StP c s:=by
 have i:((xs.drop l).take m).length=m:=by rw[W0k,W1u];omega
 refine Xru h I rfl (λU T=>?_) k
 simp only[Xj3,j]
 rw[if_neg (λh=>by omega),if_pos ⟨by rw[i];exact Xc6 hr T,rfl,by rw[i];exact M,rfl,rfl⟩,i]
noncomputable def Yqy(tb:Nat->Option TI)(n:Nat)(s:St): Option (Pl×Oper×Operand×TypeId×TI×Nat×Nat×Nat×Nat×List D):=match nxO tb n s with
 | some (p,o)=>match o.op,p.dr with
  | .call ⟨.builtin .clear,⟨[x]⟩,⟨[T]⟩⟩,false=>match Xb6 (look p.E) x,tb T with
   | some (.own q sz l m),some h=>match look p.H q,h.z with
    | some (.arr s1 xs),.sl i _=>match Nat.beq s1 sz&&Nat.beq i sz with
     | true=>some (p,o,x,T,h,q,sz,l,m,xs)
     | false=>none
    | _,_=>none
   | _,_=>none
  | _,_=>none
 | none=>none
theorem Cl{o:Oper}{x:Operand}{T:TypeId}{ti:TI}{q sz l m:Nat}{xs:List D}(h:Yqy c.tb c.n s=some (p,o,x,T,ti,q,sz,l,m,xs))(hl:l+m<=xs.length)(hm:0<m)(k:p.nx' c (.tup .un) [(q,.arr sz (xs.take l++List.replicate m ti.e++xs.drop (l+m)))]): StP c s:=by
 unfold Yqy at h
 split at h<;>try cases h
 rename_i p' o' ho
 split at h<;>try cases h
 rename_i x' T' hop hdr
 split at h<;>try cases h
 rename_i ti' U hti
 split at h<;>try cases h
 rename_i s1 xs' I xs0 hH hz
 split at h<;>cases h
 rename_i hb
 rw[W0d] at hb
 have e1:=W0c hb.1
 have e2:=W0c hb.2
 subst e1;subst e2
 refine Xne ho (by unfold Xal;rw[hop];rfl) hdr (λN W θ ρ _ hO hN hB hv=>?_) k
 obtain⟨hk,_⟩:=c.hT _ _ hti
 obtain⟨t,u1,_,u3⟩:=hk.u
 rw[hz] at u3
 obtain⟨E,e,V,hez,ii,v0,i1,i2,i3,i4,i5⟩:=u3
 subst e
 obtain⟨b,pp,h1,hxc,hc63,ex,hp5⟩:=Xf1 (hv _ _ U)
 have hg:(sem p.E p.H).2 q=some (.arr I xs):=hH
 obtain⟨b',cs,T',r1,h2,h3,r4,r5,r6,r7⟩:=hO.r _ _ hg
 rw[h1] at r1;injection r1 with r1;subst r1
 have hpb:=hp5 (by omega)
 have M:ti.e.zc.length=I:=by rw[D.zc_len,V]
 have hpos:0<I:=by rw[V];exact D.size_pos _
 have O:=Xk2 ti.e.zc m (by omega) v0.cells i5
 rw[M] at O
 have hnl:(Xg8 ti.e.zc m).length=m*I:=by rw[Xd9,M]
 have hfit:l*I+(Xg8 ti.e.zc m).length<=cs.length:=by
  rw[hnl,h3,<-W1f];exact W0l _ (by omega)
 have hone:∀u∈Xg8 ti.e.zc m,Xfi u=true:=by
  have:∀k,∀u∈Xg8 ti.e.zc k,Xfi u=true:=λk=>by
   induction k with
   | zero=>intro u hu;cases hu
   | succ k ih =>
    intro u hu
    rcases W2p.1 hu with h | h
    exact D.at_one ti.e (D.at_zc (W:=W) _ hez) u h
    exact ih u h
  exact this m
 have hst:=Xb4 (P:=c.P) (off:=l*I) (Xg8 ti.e.zc m) W.w 0 cs h2 (by omega) hone
 rw[W2e] at hst
 have hv0:v0.cells.size=I:=by rw[V,<-D.zc_len,<-i5];simp
 have hzc:(Builtin.zeroCells v0.cells m).toList=Xg8 ti.e.zc m:=by
  have:Builtin.zeroCells v0.cells m=(Xg8 ti.e.zc m).toArray:=by
   unfold Builtin.zeroCells
   rw[hv0] at O |-;exact O
  rw[this]
 have hrun:(execOp ρ o).run c.P W.w=.ok (.value (.tuple #[])) (Xg6 W.w b (.cells (spl cs (l*I) (Xg8 ti.e.zc m)).toArray T' (0,0))):=by
  have h1:execOp ρ o=(Builtin.clear_ #[T] o.type #[ρ x] >>= λv=>pure (.value v)):=by
   simp[execOp,hop,resolve,invoke,builtin]
  have h2:(Builtin.clear_ #[T] o.type #[ρ x]).run c.P W.w=.ok (.tuple #[]) (Xg6 W.w b (.cells (spl cs (l*I) (Xg8 ti.e.zc m)).toArray T' (0,0))):=by
   rw[ex,hpb]
   obtain⟨m',rfl⟩:∃m',m=m'+1:=⟨m-1,by omega⟩
   simp[Builtin.clear_,run_underlying u1,zeroValue,typeInfo,i1,i4,hzc,hst]
  rw[h1,Sem.run_bind,h2];rfl
 have hsp:∀q,(spl cs (l*I) (Xg8 ti.e.zc m))[q]?=if l*I<=q/\q<l*I+(Xg8 ti.e.zc m).length then (Xg8 ti.e.zc m)[q-l*I]? else cs[q]?:=λq=>Xd7 _ _ _ _ hfit
 have hs':∀i v,¬W.A b i->cs[i]?=some v->(spl cs (l*I) (Xg8 ti.e.zc m))[i]?=some v:=λi v hA hv=>absurd (r7 i) hA
 have hle:=Xfl W b cs (spl cs (l*I) (Xg8 ti.e.zc m)) T' (λ_=>True) h2 hs'
 have hnw:(xs.take l++List.replicate m ti.e++xs.drop (l+m)).length=xs.length:=by
  rw[W0i,W0i,W0k,W1u,W1o];omega
 refine⟨_,θ,_,hrun,Stp.put hO (t:=q) (x:=.arr I (xs.take l++List.replicate m ti.e++xs.drop (l+m))) (B:=λ_=>True) hg rfl h1 h2 hs' (θ':=θ) (λ_ _ _=>rfl) (λ_ _=>rfl) h1 (λi z hz=>?_) (λi z hz=>?_)
  ⟨b,_,T',h1,Xa1 _ _ _ (Xa2 h2),by rw[Xcn];exact h3,r4,by rw[hnw];exact r5,λi x U=>?_,λi=>⟨r7 i,λ_=>trivial⟩⟩ (λi hi=>hi.elim),.inr ⟨_,rfl,[],rfl,trivial⟩,λi hi=>hi.elim⟩
 rcases Xae hz with ⟨f1,f2⟩ | ⟨f1,f2⟩
 exact .inl ⟨f1,f2⟩
 exact .inr (.inr ⟨f2,f1⟩)
 by_cases hio:i=q
 subst hio;exact⟨_,Xai _ _ _⟩
 exact⟨z,(Xak hio).trans hz⟩
 have hi:=Xbe U
 rw[hnw] at hi
 by_cases ha':i<l
 rw[W0q (by rw[W0i,W0k];omega),W0q (by rw[W0k];omega),W1h,if_pos ha'] at U
 obtain⟨e1,e2,e3,e4⟩:=r6 i x U
 refine⟨e1,D.mono hle _ e2,e3,λj v hj=>?_⟩
 have Z:=Xbe hj
 rw[D.at_len x e2,e3] at Z
 have:i*I+I<=l*I:=by rw[<-W2m];exact W0l _ ha'
 rw[hsp,if_neg (by omega)]
 exact e4 j v hj
 by_cases hb':i<l+m
 rw[W0q (by rw[W0i,W0k,W1o];omega),W0n (by rw[W0k];omega),W0k,show min l xs.length=l by omega,W4l,if_pos (by omega)] at U
 cases U
 refine⟨ti.e.zc,D.at_zc _ hez,V.symm,λj v hj=>?_⟩
 have Z:=Xbe hj
 rw[M] at Z
 have m1:l*I<=i*I:=W0l _ (by omega)
 have m2:i*I+I<=l*I+m*I:=by rw[<-W2m,<-W1f];exact W0l _ (by omega)
 rw[hsp,if_pos (by rw[hnl];omega),show i*I+j-l*I=(i-l)*I+j by rw[W1g (i-l),Nat.mul_sub,W1g I i,W1g I l];omega]
 have:=Xlr ti.e.zc m (i-l) j (by omega) (by rw[M];exact Z)
 rw[M] at this
 rw[this];exact hj
 rw[W0n (by rw[W0i,W0k,W1o];omega),W0i,W0k,W1o,show min l xs.length=l by omega,W1t,show l+m+(i-(l+m))=i by omega] at U
 obtain⟨e1,e2,e3,e4⟩:=r6 i x U
 refine⟨e1,D.mono hle _ e2,e3,λj v hj=>?_⟩
 have m2:l*I+m*I<=i*I:=by rw[<-W1f];exact W0l _ (by omega)
 rw[hsp,if_neg (by rw[hnl];omega)]
 exact e4 j v hj
end
end
section
section
variable{c:Cx}{s:St}{p:Pl}
noncomputable def nxNe(tb:Nat->Option TI)(n:Nat)(s:St): Option (Pl×Oper×Operand×Nat×Nat×Nat×Nat):=match nxO tb n s with
 | some (p,o)=>match o.op,p.dr with
  | .nilCheck x,false=>match Xb6 (look p.E) x with
   | some (.el q sz j off)=>match look p.H q with
    | some _=>some (p,o,x,q,sz,j,off)
    | none=>none
   | _=>none
  | _,_=>none
 | none=>none
def AV.fzo(o sz n:Nat)(d:D): AV->AV
 | .own h s l m=>match Nat.beq h o,Nat.beq s sz,Nat.beq l 0 with
  | true,true,true=>.d d
  | _,_,_=>.own h s l m
 | .st a=>.st (a.fzo o sz n d)
 | .pr a c=>.pr (a.fzo o sz n d) (c.fzo o sz n d)
 | a=>a
def AV.fzk(o n:Nat): AV->Prop
 | .own h _ _ m=>m=n\/h≠o
 | .st a=>a.fzk o n
 | .pr a c=>a.fzk o n/\c.fzk o n
 | _=>True
theorem Yaq{N:Nat->Prop}{W:GW}{θ:Loc}{g:Hp}(h:Obs W θ N g){o b sz n:Nat}{xs:List D}{cs:List Value}(I:g o=some (.arr sz xs))(hb:(θ o).1=some b)(M:n=xs.length)(j:AV.C W θ (.own o sz 0 n) cs):
 AV.C (W.fz b) θ (.d (.sl sz xs)) cs:=by
 obtain⟨b1,p,i,h2,h3,e,O⟩:=j
 obtain⟨b',T,T',r1,U,r3,r4,r5,V,r7⟩:=h.r _ _ I
 rw[hb] at r1 i;injection r1 with r1;injection i with i;subst r1;subst i
 refine⟨p,(θ o).2-0,by rw[<-M];exact e,by omega,by omega,.inr ⟨b,0,?_,?_⟩⟩
 have:=O (.inl rfl)
 rwa[W4y] at this
 exact(AtL.mono (Xmb W b) (sz:=sz) (xs:=xs) (cs:=T) V).row λq v _ j=>by
  rw[W1l]
  exact⟨show W.w.cell? _=_ by rw[Xbd U];exact j,λZ=>Z.1 rfl⟩
theorem Yo7{N:Nat->Prop}{W:GW}{θ:Loc}{g:Hp}(h:Obs W θ N g){o b sz n:Nat}{xs:List D}(Z:g o=some (.arr sz xs))(hb:(θ o).1=some b)(hn:n=xs.length): ∀ {a:AV} {cs:List Value},a.fzk o n->AV.C W θ a cs->AV.C (W.fz b) θ (a.fzo o sz n (.sl sz xs)) cs:=by
 intro a
 induction a with
 | st a ih=>intro cs i h;exact ih i h
 | pr a c I M=>intro cs i ⟨u,v,e,h1,h2⟩;exact⟨u,v,e,I i.1 h1,M i.2 h2⟩
 | own o' s l m =>
  intro cs O j
  have i:=AV.c_mono (Xmb W b) (θ':=θ) (.own o' s l m) (λ_ _=>rfl) j
  unfold AV.fzo
  split
  rename_i T U V
  have T:=W0c T
  have U:=W0c U
  have V:=W0c V
  subst T;subst U;subst V
  have O:m=n:=Or.elim O id λh=>absurd rfl h
  subst O
  exact Yaq h Z hb hn j
  exact i
 | _=>intro cs _ j;exact AV.c_mono (Xmb W b) (θ':=θ) _ (λ_ _=>rfl) j
theorem Ygt{o sz n i:Nat}{d:D}: ∀ {a:AV},(a.fzo o sz n d).ids i->a.ids i:=by
 intro a
 induction a with
 | st a M=>exact M
 | pr a c j I=>exact λh=>h.elim (λh=>.inl (j h)) λh=>.inr (I h)
 | own O s l m =>
  unfold AV.fzo
  split
  exact λh=>h.elim
  exact λh=>h
 | _=>exact λh=>h
noncomputable def Yqv(tb:Nat->Option TI)(n id q:Nat)(s:St): Option (List Kt×Env×Hpl×AV):=match runT tb n id 1000 s with
 | .j _ K E H=>match look H q with
  | some (.var a)=>some (K,E,H,a)
  | _=>none
 | _=>none
theorem FzV(id q o sz m:Nat)(xs:List D){K:List Kt}{E:Env}{H:Hpl}{a:AV}(h:Yqv c.tb c.n id q s=some (K,E,H,a))(k:StP c (.j [] K E ((q,.var (a.fzo o sz m (.sl sz xs)))::(o,.dead)::H)))(hk:a.fzk o m)(hm:m=xs.length:=by exact rfl)(Z:look H o=some (.arr sz xs):=by exact rfl): StP c s:=by
 unfold Yqv at h
 split at h<;>try cases h
 rename_i hr
 split at h<;>cases h
 rename_i hq
 refine Xfs (id:=id) 1000 ?_
 rw[hr]
 rintro x w ⟨s0,W,θ,hw,hs,hθ,rfl⟩
 obtain⟨b,bs,T',r1,_⟩:=hs.obs.r _ _ Z
 have st:=Stp.freeze hs.obs Z r1
 have M:=hs.step0 st
 have hoq:o≠q:=λe=>by subst e;rw[hq] at Z;cases Z
 refine k x w ⟨_,W.fz b,θ,hw,?_,hθ,rfl⟩
 rw[show sem E ((q,Ob.var (a.fzo o sz m (.sl sz xs)))::(o,Ob.dead)::H)=(look E,upd (upd (look H) o .dead) q (.var (a.fzo o sz m (.sl sz xs)))) by rw[Xa4,Xa4]]
 have O:upd (look H) o .dead q=some (.var a):=by rw[Xak λe=>hoq e.symm];exact hq
 have T:∀ {i:Nat} {y:Ob},upd (look H) o .dead i=some y->∃z,upd (upd (look H) o .dead) q (.var (a.fzo o sz m (.sl sz xs))) i=some z:=λ{i y} V=>by
  by_cases e:i=q
  subst e;exact⟨_,Xai _ _ _⟩
  exact⟨y,by rw[Xak e];exact V⟩
 refine⟨M.fm,M.rel,⟨λi y V=>?_,λi y b V hl hb=>?_,λi j y y' b V hy' hl hl' b1 b2=>?_,λi y j V hj=>?_⟩,λt v i ht hi=>?_⟩
 rcases Xae V with ⟨U,I⟩ | ⟨U,I⟩
 subst U;subst I
 obtain⟨b0,cs0,T0,q1,q2,q3,q4⟩:=hs.obs.r _ _ hq
 obtain⟨b2,cs2,T2,p1,p2,p3,p4⟩:=M.obs.r _ _ O
 have eb:b0=b2:=by rw[q1] at p1;injection p1
 subst eb
 have ec:cs0=cs2:=by
  have:W.w.heap[b0]?=some (.cells cs2.toArray T2 (0,0)):=p2
  rw[q2] at this
  injection this with this
  injection this with this
  have:=congrArg Array.toList this
  simpa using this
 subst ec
 exact⟨b0,cs0,T2,p1,p2,Yo7 hs.obs Z r1 hm hk q3,p4⟩
 exact M.obs.r _ _ I
 rcases Xae V with ⟨U,I⟩ | ⟨U,I⟩
 subst U;exact M.obs.new _ _ b O rfl hb
 exact M.obs.new _ _ b I hl hb
 rcases Xae V with ⟨U,I⟩ | ⟨U,I⟩<;>rcases Xae hy' with ⟨f1,f2⟩ | ⟨f1,f2⟩
 rw[U,f1]
 subst U;exact M.obs.dis _ _ _ _ b O f2 rfl hl' b1 b2
 subst f1;exact M.obs.dis _ _ _ _ b I O hl rfl b1 b2
 exact M.obs.dis _ _ _ _ b I f2 hl hl' b1 b2
 rcases Xae V with ⟨U,I⟩ | ⟨U,I⟩
 subst I
 obtain⟨z,hz⟩:=M.obs.ids _ _ j O (Ygt (a:=a) hj)
 exact T hz
 obtain⟨z,hz⟩:=M.obs.ids _ _ j I hj
 exact T hz
 obtain⟨z,hz⟩:=M.ids t v i ht hi
 exact T hz
end
end
section
section
variable{c:Cx}{s:St}{p:Pl}
noncomputable def nxKc(tb:Nat->Option TI)(n:Nat)(s:St): Option (Pl×Oper×Operand×TypeId×Nat×Nat×Nat×Nat):=match nxO tb n s with
 | some (p,o)=>match o.op,p.dr with
  | .call ⟨.builtin .cap,⟨[x]⟩,⟨[T]⟩⟩,false=>match Xb6 (look p.E) x,tb T with
   | some (.own q sz l m),some h=>match h.z,look p.H q with
    | .sl _ _,some (.arr _ _)=>some (p,o,x,T,q,sz,l,m)
    | _,_=>none
   | _,_=>none
  | _,_=>none
 | none=>none
noncomputable def Yrx(tb:Nat->Option TI)(n:Nat)(s:St): Option (Pl×Oper×TypeId×TypeId×Operand×Operand×Int×Nat×Nat×Nat):=match nxO tb n s with
 | some (p,o)=>match o.op,p.dr with
  | .binOp .gtr T x y T',false=>match Xb6 (look p.E) x,Xb6 (look p.E) y with
   | some (.d (.int .i64 a)),some (.cx q l r)=>match look p.H q with
    | some (.arr _ _)=>some (p,o,T,T',x,y,a,q,l,r)
    | _=>none
   | _,_=>none
  | _,_=>none
 | none=>none
noncomputable def nxSu(tb:Nat->Option TI)(n t:Nat)(s:St): Option (Pl×Oper×TypeId×TI×Operand×Operand×Nat×Nat×Nat×Nat×Int×Nat):=match nxO tb n s with
 | some (p,o)=>match o.op,p.dr with
  | .slice T x none (some hi) none,false=>match Xb6 (look p.E) x,Xb6 (look p.E) hi,Xb6 (look p.E) (.tmp t),tb T with
   | some (.own q sz l m),some (.d (.int _ j)),some (.cx i I r),some h=>match h.z,look p.H q,Nat.beq sz h.e.size&&(Nat.beq i q&&Nat.beq I l) with
    | .sl _ _,some (.arr _ _),true=>some (p,o,T,h,x,hi,q,sz,l,m,j,r)
    | _,_,_=>none
   | _,_,_,_=>none
  | _,_=>none
 | none=>none
noncomputable def nxAz(tb:Nat->Option TI)(n t:Nat)(s:St): Option (Pl×Oper×Operand×Operand×TypeId×TypeId×TI×Nat×Nat×Nat×List D×Int×Nat):=match nxO tb n s with
 | some (p,o)=>match o.op,p.dr with
  | .call ⟨.builtin .append,⟨[x,y]⟩,⟨[T,T']⟩⟩,false=>match Xb6 (look p.E) x,Xb6 (look p.E) y,Xb6 (look p.E) (.tmp t),tb T,tb T' with
   | some (.own q sz 0 i),some (.d (.int .i64 m)),some (.cx j 0 r),some h,some ⟨.int _ _,_,_,_⟩=>match look p.H (o.dst.getD 0),look p.H q,h.z,Nat.ble h.eb 1024&&Nat.beq j q with
    | none,some (.arr s' xs),.sl I _,true=>match Nat.beq s' sz&&Nat.beq I sz with
     | true=>some (p,o,x,y,T,T',h,q,sz,i,xs,m,r)
     | false=>none
    | _,_,_,_=>none
   | _,_,_,_,_=>none
  | _,_=>none
 | none=>none
noncomputable def Ykb(tb:Nat->Option TI)(n:Nat)(s:St): Option (Pl×Nat×Nat×Nat×Nat×List D×List D):=match nxA tb n s with
 | some (p,o,[.own q sz l m,.d (.sl h i)])=>match o.op with
  | .call ⟨.builtin .copy,_,⟨[T,T']⟩⟩=>match Nat.beq T T',tb T,look p.H q with
   | true,some j,some (.arr s' xs)=>match j.z,Nat.beq s' sz&&Nat.beq h sz with
    | .sl I _,true=>match Nat.beq I sz with
     | true=>some (p,q,sz,l,m,xs,i)
     | false=>none
    | _,_=>none
   | _,_,_=>none
  | _=>none
 | _=>none
theorem Cy{q sz l m:Nat}{xs ys:List D}(h:Ykb c.tb c.n s=some (p,q,sz,l,m,xs,ys))(M:l<=xs.length)(O:ys.length<=m)(h0:0<ys.length)(k:p.nx' c (.d (.int .i64 ys.length)) [(q,.arr sz (xs.take l++ys++xs.drop (l+ys.length)))]): StP c s:=by
 unfold Ykb at h
 split at h<;>try cases h
 rename_i p' o q' U l' m' s3 V Z
 split at h<;>try cases h
 rename_i asx T T' ho
 split at h<;>try cases h
 rename_i ti s' xs' i j hq
 have i:=W0c i
 subst i
 split at h<;>try cases h
 rename_i s2 zz hz hb
 split at h<;>cases h
 rename_i I
 rw[W0d] at hb
 have b1:=W0c hb.1
 have b2:=W0c hb.2
 have b3:=W0c I
 subst b1;subst b2;subst b3
 refine Xbl Z ?_ k
 rw[ho]
 simp only[F,if_true,j,hz,Yi9,Xh3,toD,Yno,hq]
 rw[if_pos ⟨trivial,trivial,M,O,h0⟩]
noncomputable def Yka(tb:Nat->Option TI)(n:Nat)(s:St): Option (Pl×Nat×Nat×Nat×Nat×List D×Nat×Nat×List D):=match nxA tb n s with
 | some (p,o,[.own q sz l m,.own q2 h i j])=>match o.op with
  | .call ⟨.builtin .copy,_,⟨[T,T']⟩⟩=>match Nat.beq T T',tb T,look p.H q,look p.H q2 with
   | true,some I,some (.arr s' xs),some (.arr M ws)=>match I.z,Nat.beq s' sz&&(Nat.beq h sz&&Nat.beq M sz) with
    | .sl O _,true=>match Nat.beq O sz with
     | true=>some (p,q,sz,l,m,xs,i,j,ws)
     | false=>none
    | _,_=>none
   | _,_,_,_=>none
  | _=>none
 | _=>none
theorem Cyo(n:Nat){q sz l m j I:Nat}{xs ws:List D}(h:Yka c.tb c.n s=some (p,q,sz,l,m,xs,j,I,ws))(hl:l<=xs.length)(hn:min I m=n)(h0:0<n)(h2:j+n<=ws.length)(k:p.nx' c (.d (.int .i64 n)) [(q,.arr sz (xs.take l++(ws.drop j).take n++xs.drop (l+n)))]): StP c s:=by
 subst hn
 unfold Yka at h
 split at h<;>try cases h
 rename_i p' o q' sz' l' m' q2 s3 l3 m3 hA
 split at h<;>try cases h
 rename_i asx T T' ho
 split at h<;>try cases h
 rename_i ti s' xs' M ws' O U hq V
 have O:=W0c O
 subst O
 split at h<;>try cases h
 rename_i s2 zz hz hb
 split at h<;>cases h
 rename_i Z
 rw[W0d,W0d] at hb
 have b1:=W0c hb.1
 have b2:=W0c hb.2.1
 have b4:=W0c hb.2.2
 have b3:=W0c Z
 subst b1;subst b2;subst b3;subst b4
 have i:((ws.drop j).take (min I m)).length=min I m:=by rw[W0k,W1u];omega
 have e:F c.tb (o.dst.getD 0) (look p.H) o.op [.own q M l m,.own q2 M j I]=some (.d (.int .i64 ((ws.drop j).take (min I m)).length),[(q,.arr M (xs.take l++(ws.drop j).take (min I m)++xs.drop (l+((ws.drop j).take (min I m)).length)))]):=by
  rw[ho]
  simp only[F,if_true,U,hz,Yi9,V]
  rw[if_pos ⟨trivial,trivial,h2⟩]
  simp only[Yno,hq]
  rw[if_pos ⟨trivial,trivial,hl,by rw[i];exact Nat.min_le_right ..,by rw[i];exact h0⟩]
 rw[i] at e
 exact Xbl hA e k
noncomputable def Yqp(tb:Nat->Option TI)(n:Nat)(s:St): Option (Pl×Nat×Nat×Nat×Nat×Nat×Nat×List D):=match nxA tb n s with
 | some (p,o,[.own q sz 0 n,.own q2 i l m])=>match o.op with
  | .call ⟨.builtin .append,_,⟨[T,T']⟩⟩=>match Nat.beq T T',tb T,look p.H (o.dst.getD 0),look p.H q with
   | true,some h,none,some (.arr s' xs)=>match Nat.ble h.eb 1024&&(Nat.beq q2 q&&(Nat.beq i sz&&Nat.beq s' sz)),h.z with
    | true,.sl j _=>match Nat.beq j sz with
     | true=>some (p,o.dst.getD 0,q,sz,n,l,m,xs)
     | false=>none
    | _,_=>none
   | _,_,_,_=>none
  | _=>none
 | _=>none
theorem Ysk{d sz q n l m:Nat}{xs:List D}(h:Yqp c.tb c.n s=some (p,d,q,sz,n,l,m,xs))(O:l+m<=xs.length)(U:n+m<=xs.length)(V:n<xs.length)(hr:n+m<=137438953472)
 (k:p.nx' c (.own q sz 0 (n+m)) [(q,.arr sz (xs.take n++(xs.drop l).take m++xs.drop (n+m)))]):StP c s:=by
 unfold Yqp at h
 split at h<;>try cases h
 rename_i p' o q' Z n' q2 s2 l' m' hA
 split at h<;>try cases h
 rename_i asx T T' ho
 split at h<;>try cases h
 rename_i ti s' xs' i j hd hq
 have i:=W0c i
 subst i
 split at h<;>try cases h
 rename_i s3 zz hb hz
 split at h<;>cases h
 rename_i I
 rw[W0d,W0d,W0d] at hb
 have he:=W1e hb.1
 have b1:=W0c hb.2.1
 have b2:=W0c hb.2.2.1
 have b3:=W0c hb.2.2.2
 have b4:=W0c I
 subst b1;subst b2;subst b3;subst b4
 have M:((xs.drop l).take m).length=m:=by rw[W0k,W1u];omega
 refine Xbl hA ?_ k
 rw[ho]
 simp only[F,if_true,j,hd,hz,Xh3,hq]
 rw[if_pos ⟨trivial,trivial,O⟩]
 simp only[Xj3,hq]
 rw[if_neg (λh=>by omega),if_pos ⟨by rw[M];exact Xer hr he,rfl,by rw[M];exact U,rfl,rfl⟩,M]
end
end
end Go.Vm
namespace Go.Proofs.YtnedfplmoojbaaaGreatDoor.P20
open Go Go.Vm Go.Num Go.Tow Go.Proofs.YtnedfplmoojbaaaGreatDoor
section
theorem Yl7{xs:List D}{i:Nat}(hi:i<=xs.length): ∃A B,xs=A++B/\A.length=i:=⟨xs.take i,xs.drop i,(W6c ..).symm,by rw[W0k];omega⟩
theorem Yl5{xs R:List D}{i:Nat}(hi:i<xs.length): ((xs++R).take (i-0)++((xs++R).drop (0+(i+1))).take (xs.length-(i+1))++(xs++R).drop (i-0+(xs.length-(i+1)))).take (xs.length-1)=xs.take i++xs.drop (i+1):=by
 obtain⟨A,B,rfl,rfl⟩:=Yl7 (W2k hi)
 rcases B with _ | ⟨b,B⟩
 simp at hi
 simp[List.take_append,List.drop_append,W3v,W0b,List.drop_of_length_le]
 rw[show A.length+(B.length+1)-(A.length+1)=B.length by omega]
 simp
theorem Yb9{xs R:List D}{n i:Nat}(hN:xs.length=n)(hi:i<n)(O:n<=1000): CW0 84 [.own 1000001 7 0 n,.d (.int .i64 i),.d (.int .i64 (i+1:Nat))] [(1000001,.arr 7 (xs++R))] (λr H'=>∃R',r=.own 1000001 7 0 (n-1)/\H'=[(1000001,.arr 7 (xs.take i++xs.drop (i+1)++R'))]):=by
 have j:(xs++R).length=xs.length+R.length:=W0i
 generalize I:xs++R=X at j |-
 rw[hN] at j
 have e:i-0+(n-(i+1))=n-1:=by omega
 refine EnW Tryz.func84 λ_ _ _ _=>?_
 refine Sx i (i+1) n rfl (by omega) (by omega) (W0a _) ?_
 refine No rfl (by omega)<|Dw rfl<|Sw 0 i rfl (by omega) (by omega) ?_
 refine Sw (i+1) n rfl (by omega) (by omega) ?_
 refine Ysk rfl (by omega) (by omega) (by omega) (by omega) ?_
 generalize o:X.take (i-0)++(X.drop (0+(i+1))).take (n-(i+1))++X.drop (i-0+(n-(i+1)))=Y
 have h:Y.take (n-1)=xs.take i++xs.drop (i+1):=by
  rw[<-o,<-I,<-hN];exact Yl5 (by omega)
 have M:Y.length=X.length:=by rw[<-o];simp;omega
 rw[e]
 refine Sy (n-1) n rfl (by omega) (by omega) ?_
 refine Cl rfl (by omega) (by omega) ?_
 rw[W1l,h]
 exact Rw [] [(1000001,.arr 7 (xs.take i++xs.drop (i+1)++_++Y.drop (n-1+(n-(n-1)))))] rfl (.one (.rf rfl) rfl rfl) ⟨_,rfl,by rw[W6u]⟩
end
section
open Go.Proofs.YtnedfplmoojbaaaGreatDoor.P55 (v0 W0 g0 gv0 zw Xjk Qp)
abbrev s0: Sn:=⟨nr 2,v0 (0,1),0⟩
theorem Whole0{i j:Int}(hi:-9223372036854775808<=i/\i<9223372036854775808)(h:-9223372036854775808<=j/\j<9223372036854775808): C0 24 [.d (.int .i64 i),.d (.int .i64 j)] (·=.d (dV (v0 ((i:Rat),(j:Rat))))):=R13.Whole_ok hi h
theorem fl0: ¬((0:Int)=0/\Xa5 (K:=0) () (((0:Rat),(1:Rat)):V2 0)):=λh=>absurd h.2.1 (by decide +kernel:¬Xjz 1=0)
theorem Sector0: C0 7 [.d (dN (nr ((4:Int):Rat))),.d (dT (v0 (0,1)) 0)] (·=.tup (.pr (.d (dAr n00 [s0])) (.d (.int .i64 0)))):=(Sector_g W0 W0 (g0 (s:=64) (by decide +kernel)) (gv0 (s:=64) (by decide +kernel)) (by decide) (by decide)).mono λr i=>by
 rcases i with ⟨h,_⟩ | ⟨_,h,_⟩ | ⟨_,_,z,rfl,j⟩
 exact absurd (by decide +kernel:Xjz ((4:Int):Rat)>0) h
 exact absurd h fl0
 rw[zw j.o,show Tow.mul 0 () ((4:Int):Rat) (Tow.rat 0 hf2)=(2:Rat) from(by decide +kernel:((4:Int):Rat)*hf2=2)]
def q0: List (Rat×Rat):=[(((0:Int):Rat),((0:Int):Rat)),(((3:Int):Rat),((0:Int):Rat)),(((3:Int):Rat),((2:Int):Rat)),(((0:Int):Rat),((2:Int):Rat))]
abbrev s1: Sn:=⟨nr 2,v0 (-1,0),0⟩
end
section
open Go.Proofs.YtnedfplmoojbaaaGreatDoor.P55 (v0 W0 g0 gv0 zw Xjk Qp)
theorem Yks{s:Sn}: [s].length<=100:=by show 1<=100;decide
theorem Yqh{α:Type}{x y:α}{i:Nat}(h:[x][i]?=some y): i=0/\x=y:=by
 cases i with
 | zero=>exact⟨rfl,by simpa using h⟩
 | succ i=>simp at h
section
variable{K:Nat}{G:Tw K}{S:List (Tow.El K)}{N:List Nm}{n m k:Nat}{x y z:Nm}{a b:Tow.El K}
variable{K':Nat}{G':Tw K'}{S':List (Tow.El K')}{N':List Nm}{u s:Vn}{p q:V2 K'}{f g:Int}
theorem n00_g(W:Wn G S N): Gd G S N 1 n00 (Tow.rat K ((0:Int):Rat)):=Gd.rat W (by decide +kernel)
end
end
section
open Go.Proofs.YtnedfplmoojbaaaGreatDoor.P55 (v0 W0 g0 gv0 zw Xjk Qp)
section
variable{K:Nat}{G:Tw K}{S:List (Tow.El K)}{N:List Nm}{n m k:Nat}{x y z c c':Nm}{a b e:Tow.El K}{u v w s t:Vn}{p q r:V2 K}{f g:Int}
theorem Yaz(W:Wn G S N)(j:Gd G S N n x a)(o:Gd G S N m y a)(I:n<=190)(M:m<=190): C0 10 [.d (dAr x []),.d (dAr y [])] (·=.b true) :=
 (R20.Equal_l (P:=λ_ _=>True) (Q:=λ_ _=>True) (by decide) (by decide) (R9.Equal_g W j o I M) (λi s t h=>by cases h)).mono λv e=>e.trans (congrArg AV.b (Xaj.2 ⟨rfl,rfl,λi s t h=>by cases h⟩))
theorem eq_11(W:Wn G S N)(M:Gd G S N n x a)(O:Gd G S N m y a)(o:n<=190)(I:m<=190)(T:Gd G S N n c b)(j:Gd G S N m c' b)(U:Gv G S N k u p)(V:Gv G S N k v q)(hk:k<=180): C0 10 [.d (dAr x [⟨c,u,f⟩]),.d (dAr y [⟨c',v,g⟩])] (·=.b (dc (Xzf G p q f g))) :=
 (R20.Equal_l (P:=λ_ _=>True) (Q:=λ_ _=>Xzf G p q f g) Yks Yks (R9.Equal_g W M O o I) (λi s t Z h2=>by
  obtain⟨rfl,rfl⟩:=Yqh Z
  obtain⟨_,rfl⟩:=Yqh h2
  exact⟨(R9.Equal_g W T j o I).mono λv e=>e.trans (congrArg AV.b (W4w.2 ⟨λ_=>Xaj.2 trivial,λ_=>Xaj.2 rfl⟩)),R19.Same_g W U V (by omega)⟩)).mono λv e=>e.trans (congrArg AV.b (W4w.2 (Xaj.trans ⟨λh=>Xaj.2 (h.2.2 0 _ _ rfl rfl).2,λh=>⟨rfl,rfl,λ_ _ _ _ _=>⟨trivial,Xaj.1 h⟩⟩⟩)))
theorem ts(hp:p≠vz K)(hq:q≠vz K)(hf:lim f)(h:Xhy G p q=0): Xzf G p q f f:=⟨⟨hp,hf⟩,⟨hq,hf⟩,by unfold Ym8;rw[if_neg (by omega),if_neg (by omega)];exact h⟩
theorem Ypy: Tow.add K (Tow.rat K ((0:Int):Rat)) (Tow.rat K ((0:Int):Rat))=Tow.rat K ((0:Int):Rat):=by
 rw[<-Xdq]
 exact congrArg (Tow.rat K) (by decide +kernel:((0:Int):Rat)+((0:Int):Rat)=((0:Int):Rat))
end
end
end Go.Proofs.YtnedfplmoojbaaaGreatDoor.P20
namespace Go.Vm
def AV.nll(sz:Nat): AV->AV
 | .nil=>.lit sz []
 | .st a=>.st (a.nll sz)
 | .pr a c=>.pr (a.nll sz) (c.nll sz)
 | a=>a
theorem Yor{W:GW}{θ:Loc}{sz:Nat}: ∀ {a:AV} {cs:List Value},AV.C W θ a cs->AV.C W θ (a.nll sz) cs:=by
 intro a
 induction a with
 | st a o=>intro cs h;exact o h
 | pr a c i j=>intro cs ⟨u,v,h,I,M⟩;exact⟨u,v,h,i I,j M⟩
 | nil=>intro cs ⟨p,h⟩;exact⟨p,h,by decide,.inl rfl⟩
 | _=>intro cs h;exact h
theorem Yfv{sz i:Nat}: ∀ {a:AV},(a.nll sz).ids i->a.ids i:=by
 intro a
 induction a with
 | st a I=>exact I
 | pr a c j o=>exact λh=>h.elim (λh=>.inl (j h)) λh=>.inr (o h)
 | nil=>exact λh=>h
 | _=>exact λh=>h
section
variable{c:Cx}{s:St}{p:Pl}
theorem Yry{K:List Kt}{E:Env}{H:Hpl}(q sz:Nat){a:AV}(U:look H q=some (.var a))(k:J c K (sem E ((q,.var (a.nll sz))::H))): J c K (sem E H):=by
 rintro x w ⟨s0,W,θ,hw,o,hθ,rfl⟩
 refine k x w ⟨_,W,θ,hw,?_,hθ,rfl⟩
 rw[show sem E ((q,Ob.var (a.nll sz))::H)=(look E,upd (look H) q (.var (a.nll sz))) by rw[Xa4]]
 have I:∀ {i:Nat} {y:Ob},look H i=some y->∃z,upd (look H) q (.var (a.nll sz)) i=some z:=λ{i y} O=>by
  by_cases e:i=q
  subst e;exact⟨_,Xai _ _ _⟩
  exact⟨y,by rw[Xak e];exact O⟩
 refine⟨o.fm,o.rel,⟨λi y O=>?_,λi y b O hl hb=>?_,λi j y y' b O hy' hl V b1 b2=>?_,λi y j O hj=>?_⟩,λt v i ht hi=>?_⟩
 rcases Xae O with ⟨M,h⟩ | ⟨M,h⟩
 subst M;subst h
 obtain⟨b,cs,T,r1,r2,r3,r4⟩:=o.obs.r _ _ U
 exact⟨b,cs,T,r1,r2,Yor r3,r4⟩
 exact o.obs.r _ _ h
 rcases Xae O with ⟨M,h⟩ | ⟨M,h⟩
 subst M;exact o.obs.new _ _ b U rfl hb
 exact o.obs.new _ _ b h hl hb
 rcases Xae O with ⟨M,h⟩ | ⟨M,h⟩<;>rcases Xae hy' with ⟨f1,f2⟩ | ⟨f1,f2⟩
 rw[M,f1]
 subst M;exact o.obs.dis _ _ _ _ b U f2 rfl V b1 b2
 subst f1;exact o.obs.dis _ _ _ _ b h U hl rfl b1 b2
 exact o.obs.dis _ _ _ _ b h f2 hl V b1 b2
 rcases Xae O with ⟨M,h⟩ | ⟨M,h⟩
 subst h
 obtain⟨z,Z⟩:=o.obs.ids _ _ j U (Yfv (a:=a) hj)
 exact I Z
 obtain⟨z,Z⟩:=o.obs.ids _ _ j h hj
 exact I Z
 obtain⟨z,Z⟩:=o.ids t v i ht hi
 exact I Z
theorem NvL{K:List Kt}{E:Env}{H:Hpl}(q sz:Nat){a:AV}(h:nxJ c.tb c.n s=some (K,E,H))(k:StP c (.j [] K E ((q,.var (a.nll sz))::H)))(i:look H q=some (.var a):=by exact rfl): StP c s:=by
 unfold nxJ at h
 split at h<;>cases h
 rename_i o
 exact go 1000 o (Yry q sz i k)
end
end Go.Vm
namespace Go.Proofs.YtnedfplmoojbaaaGreatDoor.P9
open Go Go.Vm Go.Num Go.Tow Go.Proofs.YtnedfplmoojbaaaGreatDoor
theorem Yij{l:List Rat}{i:Nat}: ∀k,(wo (l.take k) i).length<=k:=λk=>by
 induction k with
 | zero=>simp[wo,woA]
 | succ k j =>
  by_cases h:k<l.length
  rw[R9.wo_take (W0e h),W0i]
  split<;>simp<;>omega
  rw[W0b (by omega)]
  rw[W0b (by omega)] at j;omega
theorem Xgx{l:List Rat}{i:Nat}(hi:i<=63)(O:l.length<=1048576): C0 271 [.d (dqs l),.d (.int .i64 i)] (·=.d (dqs (wo l i))):=by
 have j:=Yij (l:=l) (i:=i)
 refine En Tryz.func271 λ_ _ _=>?_
 refine Nl 5 5 4 rfl ?_
 refine Lo (λk:Nat=>[(1,.d (.int .i64 i)),(5,.gr 5 4 ((wo (l.take k) i).map dq)),(8,.d (dqs l)),(9,.d (.int .i64 (l.map dq).length)),(10,.d (.int .i64 k))]) (λk=>[(5,.tok ((wo (l.take k) i).map dq).length 4)]) (λk=>k<=l.length) (λk=>l.length-k) 0 [] rfl (by omega) λk T=>?_
 refine By rfl (λh=>?_) λh=>?_<;>simp only[lq] at h
 obtain⟨x,I⟩:=qat (l:=l) (k:=k) (by omega)
 have o:=R9.wo_take (i:=i) I
 have U:=j (k+1)
 refine Ix k rfl (mp I)<|Ar (k/2^i:Nat) rfl ?_ (R9.shrI hi)
 refine Ar (k/2^i%2:Nat) rfl ?_ (Yrd (by have:=W3n k (2^i);omega))
 refine By rfl (λM=>?_) λM=>?_
 rw[if_pos (by omega)] at o
 refine ApG ((wo (l.take (k+1)) i).map dq) rfl (by rw[o,W2j];rfl) (by simp;omega) ?_
 refine Ar (k+1:Nat) rfl ?_
 exact Bk (k+1) [(23,5)] rfl (by omega:k+1<=l.length) (by show l.length-(k+1)<l.length-k;omega)
 rw[if_neg (by omega),W4x] at o
 refine Ar (k+1:Nat) rfl ?_
 exact Bk (k+1) [] rfl (by omega:k+1<=l.length) (by show l.length-(k+1)<l.length-k;omega) (by exact⟨by rw[o];rfl,by rw[o];rfl,rfl,rfl,rfl⟩)
 rw[W0b (by omega)]
 exact R1 rfl (.gr rfl)
theorem Xy0{xs R:List D}{n i:Nat}(hN:xs.length=n)(hi:i<n)(O:n<=1000000): CW0 272 [.own 1000001 1 0 n,.d (.int .i64 i),.d (.int .i64 (i+1:Nat))] [(1000001,.arr 1 (xs++R))] (λr H'=>∃R',r=.own 1000001 1 0 (n-1)/\H'=[(1000001,.arr 1 (xs.take i++xs.drop (i+1)++R'))]):=by
 have j:(xs++R).length=xs.length+R.length:=W0i
 generalize I:xs++R=X at j |-
 rw[hN] at j
 have e:i+(n-(i+1))=n-1:=by omega
 refine EnW Tryz.func272 λ_ _ _ _=>?_
 refine Sx i (i+1) n rfl (by omega) (by omega) (W0a _) ?_
 refine No rfl (by omega)<|Dw rfl<|Sw 0 i rfl (by omega) (by omega) ?_
 refine Sw (i+1) n rfl (by omega) (by omega) ?_
 refine ApI X rfl rfl (by omega) (by omega) (by omega) (by omega) ?_
 rw[W6j,e]
 generalize o:X.take i++(X.drop (0+(i+1))).take (n-(i+1))++X.drop (n-1)=Y
 have h:Y.take (n-1)=xs.take i++xs.drop (i+1):=by
  have l1:(X.take i++(X.drop (0+(i+1))).take (n-(i+1))).length=n-1:=by simp;omega
  rw[<-o,W2s (by omega),W0b (by omega),<-I]
  congr 1
  rw[W2s (by omega)]
  rw[W1l,W6s (by omega),W2s (by simp;omega),W0b (by simp;omega)]
 have M:Y.length=X.length:=by rw[<-o];simp;omega
 refine Sy (n-1) n rfl (by omega) (by omega) ?_
 refine Cl rfl (by omega) (by omega) ?_
 rw[W1l,h]
 exact Rw [] [(1000001,.arr 1 (xs.take i++xs.drop (i+1)++List.replicate (n-(n-1)) (.sl 4 [])++Y.drop (n-1+(n-(n-1)))))] rfl (.one (.rf rfl) rfl rfl) ⟨_,rfl,by rw[W6u]⟩
abbrev DH(x:Nm)(i:Nat): Hpl:=(2,.var (.st (.pr .nil .nil)))::match i with
 | 0=>[(3,.var (.st (.pr (.lit 1 []) (.d (de x.a)))))]
 | i+1=>[(3,.var (.st (.pr (.own 7 1 0 (((toT x.k x.t).take (i+1)).map dqs).length) (.d (de x.a))))),(7,.arr 1 (((toT x.k x.t).take (i+1)).map dqs))]
theorem Yg9{x:Nm}{r p:Nat}(hr:TS r x.k x.t)(hp:Sz p (toL x.k x.a))(O:x.k<=16)(h0:0<x.k)(M:r<=4398046511104)(T:p<=4398046511104): CO0 192 [.d (dN x)] (λv U=>v=.st (.pr (.own 1000000 1 0 x.k) (.d (de x.a)))/\U=.arr 1 ((toT x.k x.t).map dqs++[])):=by
 have V:=p16 O
 have o:=Xaa x.k x.t
 refine EnW Tryz.func192 λ_ _ _ _=>?_
 refine Ce rfl (Xdg hp.ps T (by rw[Xab];omega))<|NvL 3 1 rfl ?_
 refine Lo (λ(i:Nat)=>[(2,.ptr 2 0),(3,.ptr 3 0),(11,.d (dt x.t)),(12,.d (.int .i64 ((toT x.k x.t).map dqs).length)),(13,.d (.int .i64 i))]) (λi=>DH x i)
  (λi=>i<=x.k) (λi=>x.k-i) 0 [] rfl (W0r _) (λi hi=>?_)
 have step:i<x.k->∃y:List Rat,(toT x.k x.t)[i]?=some y/\Ps r y/\y.length<=1048576:=λh=>by
  obtain⟨w,y,y1,j,I,_⟩:=Tw.take (t:=x.t) (i:=i) (by omega)
  exact⟨_,j,(I r hr).2.ps,by rw[Xab];have:=p16 (by omega:i<=16);omega⟩
 cases i with
 | zero =>
  obtain⟨y,j,I,Z⟩:=step (by omega)
  refine Yes rfl (by simp only[lt'];omega)<|Ix 0 rfl (mp j)<|Dw rfl<|Ce rfl (Xdg I M (by omega))<|ApL (((toT x.k x.t).take (0+1)).map dqs) rfl (by rw[W1w,j];simp) (by simp) (by simp[Xaa];omega) ?_
  refine Ar (0+1:Nat) rfl ?_
  exact Bk (0+1) [(22,7)] rfl (by omega:0+1<=x.k) (by show x.k-(0+1)<x.k-0;omega)
 | succ i =>
  refine By rfl (λh=>?_) λh=>?_<;>simp only[lt',Xaa] at h
  obtain⟨y,j,I,Z⟩:=step (by omega)
  refine Ix (i+1) rfl (mp j)<|Dw rfl<|Ce rfl (Xdg I M (by omega))<|ApO (((toT x.k x.t).take (i+1+1)).map dqs) rfl rfl rfl (by rw[W1w (i:=i+1),j];simp) (by simp[Xaa];omega) ?_
  refine Ar (i+1+1:Nat) rfl ?_
  exact Bk (i+1+1) [(7,90),(22,7)] rfl (by omega:i+1+1<=x.k) (by show x.k-(i+1+1)<x.k-(i+1);omega)
  have e:(toT x.k x.t).take (i+1)=toT x.k x.t:=W0b (by omega)
  exact Rw [(7,1000000)] [(1000000,.arr 1 (((toT x.k x.t).take (i+1)).map dqs))] rfl (.one (.rf rfl) rfl rfl) ⟨_,rfl,by rw[e,W1k,o];rfl,by rw[e,W4x]⟩
theorem Xwx{T:List (List Rat)}{X:List D}{p i l n:Nat}(Z:∀l∈T,Ps p l/\l.length<=1048576)(hp:p<=8796093022208)(hi:i<=63)(hTn:T.length=n)(hn:n<=1000)(hX:(X.drop l).take n=T.map dqs)(hl:l+n<=X.length): CN0 335 [.own 1000002 1 l n,.fn 270 1000001] [(1000001,Yad i),(1000002,.arr 1 X)] (λv=>∃j:Int,v=.d (.int .i64 j)/\(j>=0↔∃l∈T,oc l i)):=by
 refine EnW Tryz.func335 λ_ _ _ _=>?_
 refine Lo (λk:Nat=>[(0,.own 1000002 1 l n),(1,.fn 270 1000001),(7,.d (.int .i64 n)),(8,.d (.int .i64 k))]) (λ_=>[(1000001,Yad i),(1000002,.arr 1 X)]) (λk=>k<=n/\∀x∈T.take k,¬oc x i) (λk=>n-k) 0 [] rfl ⟨by omega,by simp⟩ (λk ⟨hk,o⟩=>?_)
 refine By rfl (λh=>?_) λh=>?_
 obtain⟨x,O⟩:∃x,T[k]?=some x:=⟨_,W0e (by omega)⟩
 have U:=W0h O
 have V:X[l+k]?=some (dqs x):=by
  have I:((X.drop l).take n)[k]?=some (dqs x):=by rw[hX];exact mp O
  rwa[W1h,if_pos (by omega),W1t] at I
 refine El k rfl (by omega) ?_
 refine Ld (dqs x) rfl V ?_
 refine Cn [] rfl (Xzh (Z x U).1 hp hi (Z x U).2) λv hv=>?_
 subst hv
 refine By rfl (λI=>?_) λI=>?_
 exact Rw [] [(1000001,Yad i),(1000002,.arr 1 X)] rfl (.one (.rf rfl) rfl rfl) ⟨rfl,k,rfl,⟨λ_=>⟨x,U,I⟩,λ_=>by omega⟩⟩
 refine Ar (k+1:Nat) rfl ?_
 refine Bk (k+1) [] rfl ⟨by omega,λy M=>?_⟩ (by show n-(k+1)<n-k;omega)
 rw[W1w,O] at M
 rcases W2p.1 M with M | M
 exact o y M
 obtain rfl:=W0g.1 M
 exact I
 rw[W0b (by omega)] at o
 exact Rw [] [(1000001,Yad i),(1000002,.arr 1 X)] rfl (.one (.rf rfl) rfl rfl) ⟨rfl,-1,rfl,⟨λh=>absurd h (by decide),λ⟨x,I,h2⟩=>absurd h2 (o x I)⟩⟩
theorem Xn3{T:List (List Rat)}{X:List D}{p i l n:Nat}(o:∀l∈T,Ps p l/\l.length<=1048576)(hp:p<=8796093022208)(hi:i<=63)(h:T.length=n)(I:n<=1000)(M:(X.drop l).take n=T.map dqs)(O:l+n<=X.length): CN0 269 [.own 1000002 1 l n,.fn 270 1000001] [(1000001,Yad i),(1000002,.arr 1 X)] (·=.b (dc (∃l∈T,oc l i))):=by
 refine EnW Tryz.func269 λ_ _ _ _=>?_
 refine Cn [] rfl (Xwx o hp hi h I M O) λv U=>?_
 obtain⟨j,rfl,V⟩:=U
 refine Rw [] [(1000001,Yad i),(1000002,.arr 1 X)] rfl (.one (.bp (Xaj.trans V)) rfl rfl) ⟨rfl,rfl⟩
open Go Go.Vm Go.Num Go.Tow Go.Proofs.YtnedfplmoojbaaaGreatDoor
section
variable{K:Nat}{G:Tw K}{S:List (Tow.El K)}{r p:Nat}{x:Nm}{v:Tow.El K}
structure Tsq where
 n:Nat
 z:Nm
 R:List D
abbrev TQ(s:Tsq): Hpl:=[(1,.var (.st (.pr (.own 6 1 0 s.z.k) (.d (de s.z.a))))),(2,.var (.st (.pr .nil .nil))),(3,.var (.d (.int .i64 ((s.n:Int)-1)))),(6,.arr 1 ((toT s.z.k s.z.t).map dqs++s.R))]
theorem Ykd{m i:Nat}{T:Tw (m+1)}{c:Tow.El (m+1)}(hG:red K G)(h:NOk G S r p ⟨m+1,T,c⟩ v)(o:i<=m)(hd:¬nd ⟨m+1,T,c⟩ i): NOk G S r p ⟨m,rmT m i T,rm m i c⟩ v:=by
 obtain⟨ρ,O,U⟩:=h.ex
 have I:¬oc (toL (m+1) c) i:=λe=>hd (.inl e)
 have M:∀j l,i<j->(toT (m+1) T)[j]?=some l->¬oc l i:=λj l a b e=>hd (.inr ⟨j,l,a,b,e⟩)
 refine⟨⟨skip i ρ,O.rm (Xad hG) o M,by rw[<-U];exact Yg1 o I⟩,h.r.rm o,?_⟩
 show Sz p (toL m (rm m i c))
 rw[Xgb o];exact h.p.sub λx V=>Xif V
theorem Trim_n(hG:red K G)(hS:S.length<=7)(M:NOk G S r p x v)(hr:r<=4398046511104)(hp:p<=4398046511104): C0 176 [.d (dN x)] λw=>∃z:Nm,w=.d (dN z)/\NOk G S r p z v:=by
 have V:=Xad hG
 have Z:=M.le V hS
 obtain⟨k,t,a⟩:=x
 have Z:k<=7:=Z
 by_cases k0:k=0
 subst k0
 refine En Tryz.func176 λ_ _ _=>?_
 refine Ce rfl (Xd3 M.r M.p (W0r _) hr hp)<|Ar (-1:Int) rfl ?_ (wr (by decide:((0:Nat):Int)-1=-1) (by simp only[inK];omega))
 refine Lo (λ_:Unit=>[(1,.ptr 1 0),(2,.ptr 2 0),(3,.ptr 3 0)]) (λ_=>[(1,.var (.d (dN ⟨0,t,a⟩))),(2,.var (.st (.pr .nil .nil))),(3,.var (.d (.int .i64 (-1))))]) (λ_=>True) (λ_=>0) () [] rfl trivial (λ_ _=>?_)
 exact No rfl (by decide)<|Rt rfl (.one (.rf rfl) rfl rfl) ⟨_,rfl,M⟩
 refine En Tryz.func176 λ_ _ _=>?_
 refine Co rfl (Yg9 M.r M.p (by omega:k<=16) (by omega:0<k) hr hp) λv' ob hv=>?_
 obtain⟨rfl,rfl⟩:=hv
 refine Ar ((k:Int)-1) rfl ?_ (wr rfl (by simp only[inK];omega))
 refine Lo (λ(s:Tsq)=>[(1,.ptr 1 0),(2,.ptr 2 0),(3,.ptr 3 0)]) (λs=>TQ s) (λs=>NOk G S r p s.z v/\s.n<=s.z.k) (λs=>s.n) ⟨k,⟨k,t,a⟩,[]⟩ [] rfl ⟨M,W0a _⟩ (λ⟨n,⟨m,T,c⟩,R⟩ hI=>?_)
 obtain⟨O,h2⟩:=hI
 simp only at O h2
 have hm3:m<=7:=O.le V hS
 have hT:TS r m T:=O.r
 have hc:Sz p (toL m c):=O.p
 have hcl:=Xab m c
 have hpm:=p16 (by omega:m<=16)
 have hTl:=Xaa m T
 cases n with
 | zero =>
  exact No rfl (by decide:¬((0:Nat):Int)-1>=0)<|Rt rfl (.one (.sd (.pd (.own rfl (by simp;omega) (by rw[W1i,W2s (by simp;omega),W0b (by simp;omega)])) (.eq rfl))) rfl rfl) ⟨⟨m,T,c⟩,rfl,O⟩
 | succ i =>
  obtain⟨m,rfl⟩:∃m',m=m'+1:=⟨m-1,by omega⟩
  have ei:((i+1:Nat):Int)-1=i:=by omega
  have hoc:=Xgi (l:=toL (m+1) c) (i:=i) hc.ps (by omega) (by omega) (by omega)
  have hTT:∀l∈(toT (m+1) T).drop (i+1),Ps r l/\l.length<=1048576:=λl hl=>by
   obtain⟨j,hj⟩:=W3d (W7w hl)
   have hlt:=(W0s.1 hj).1
   obtain⟨h3,h4⟩:=TS.pt hT j l hj
   exact⟨h4,by rw[h3];exact W0j (p16 (by omega:j<=16)) (by decide)⟩
  have U:=Xn3 (X:=(toT (m+1) T).map dqs++R) (i:=i) (l:=0+(i+1)) (n:=m+1-(i+1)) hTT (by omega) (by omega) (by rw[W1u,hTl]) (by omega)
   (by rw[W1l,W6s (by simp;omega),W2s (by simp;omega),W0b (by simp;omega),W5i]) (by simp;omega)
  have hwo:∀ {l:List Rat},l.length<=1048576->C0 271 [.d (dqs l),.d (.int .i64 (((i+1:Nat):Int)-1))] (·=.d (dqs (wo l i))):=λh=>by
   have:=Xgx (i:=i) (by omega) h
   rwa[<-ei] at this
  rw[<-ei] at hoc
  unfold Yad at U
  rw[<-ei] at U
  refine Re 3 93 rfl ?_
  refine Yes rfl (by omega:((i+1:Nat):Int)-1>=0)<|Ce rfl hoc ?_
  have keep:NOk G S r p (Tsq.z ⟨i,⟨m+1,T,c⟩,R⟩) v/\(Tsq.n ⟨i,⟨m+1,T,c⟩,R⟩)<=(Tsq.z ⟨i,⟨m+1,T,c⟩,R⟩).k:=⟨O,by show i<=m+1;omega⟩
  refine By rfl (λh=>?_) λh=>?_
  refine Ar ((i:Int)-1) rfl ?_ (wr (by omega:((i+1:Nat):Int)-1-1=(i:Int)-1) (by simp only[inK];omega))
  exact Bk ⟨i,⟨m+1,T,c⟩,R⟩ [] rfl keep (W5v i)
  have ho:¬oc (toL (m+1) c) i:=h
  refine Ar (i+1:Nat) rfl ?_ (wr (by omega:((i+1:Nat):Int)-1+1=((i+1:Nat):Int)) (by simp only[inK];omega))
  refine Sw (i+1) (m+1) rfl (by omega) (W0a _) ?_
  refine Cn [(1000001,93),(1000002,6)] rfl U λv' hv'=>?_
  subst hv'
  refine By rfl (λh=>?_) λh=>?_
  refine Ar ((i:Int)-1) rfl ?_ (wr (by omega:((i+1:Nat):Int)-1-1=(i:Int)-1) (by simp only[inK];omega))
  exact Bk ⟨i,⟨m+1,T,c⟩,R⟩ [] rfl keep (W5v i)
  have o:i<=m:=by omega
  have hno:¬nd ⟨m+1,T,c⟩ i:=λe=>e.elim ho λ⟨q,l,h4,h5,h6⟩=>h ⟨l,W0h (i:=q-(i+1)) (by rw[W1t,show i+1+(q-(i+1))=q by omega];exact h5),h6⟩
  have w1:=Ykd hG O o hno
  have w2:=Xgb (a:=c) o
  have rad:∀j,j<m+1->∃l,(toT (m+1) T)[j]?=some l/\l.length<=1048576:=λj hj=>by
   obtain⟨e,e1,e2,_⟩:=Tw.at (t:=T) hj
   exact⟨_,e1,by rw[Xab];exact W0j (p16 (by omega:j<=16)) (by decide)⟩
  have hw0:=hwo (l:=toL (m+1) c) (by omega)
  rw[<-w2] at hw0
  refine Ce rfl hw0<|Ar (i+1:Nat) rfl ?_ (wr (by omega:((i+1:Nat):Int)-1+1=((i+1:Nat):Int)) (by simp only[inK];omega))
  refine Lo (λ(j:Nat)=>[(1,.ptr 1 0),(2,.ptr 2 0),(3,.ptr 93 0),(4,.d (.int .i64 j))]) (λj=>[(1,.var (.st (.pr (.own 6 1 0 (m+1)) (.d (dqs (toL m (rm m i c))))))),(2,.var (.st (.pr .nil .nil))),(93,.var (.d (.int .i64 (((i+1:Nat):Int)-1)))),(6,.arr 1 ((R9.wl i j (toT (m+1) T)).map dqs++R))]) (λj=>i+1<=j/\j<=m+1) (λj=>m+1-j) (i+1) [] rfl ⟨W0a _,by omega⟩ (λj ⟨g1,g2⟩=>?_) (by rw[R9.wl_start];exact⟨rfl,rfl,rfl,rfl,rfl⟩)
  have hwl:(R9.wl i j (toT (m+1) T)).length=m+1:=R9.wl_len.trans hTl
  refine By rfl (λh=>?_) λh=>?_
  obtain⟨l,hl,hll⟩:=rad j (by omega)
  refine Dw rfl<|Eo j rfl (by omega)<|Ld (dqs l) rfl (by rw[W0q (by simp;omega)];exact mp (by rw[R9.wl_get,hl,W3m,if_neg (by omega)])) ?_
  refine Ce rfl (hwo (l:=l) hll)<|Eo j rfl (by omega)<|Sto rfl (by simp;omega) (zs:=(R9.wl i (j+1) (toT (m+1) T)).map dqs++R) (by rw[List.set_append_left _ _ (by simp;omega),<-R9.wl_set (by omega) hl];exact congrArg (·++R) ms) ?_
  refine Ar (j+1:Nat) rfl ?_
  exact Bk (j+1) [] rfl ⟨by omega,by omega⟩ (by show m+1-(j+1)<m+1-j;omega)
  obtain rfl:j=m+1:=by omega
  have hwe:=R9.wl_end (T:=T) (zs:=toT (m+1) T) (W0b (by omega)) o
  rw[W0b (l:=(R9.wl i (m+1) (toT (m+1) T)).drop (i+1)) (by rw[W1u,hwl];exact W0a _)] at hwe
  have hwe':((R9.wl i (m+1) (toT (m+1) T)).map dqs).take i++((R9.wl i (m+1) (toT (m+1) T)).map dqs).drop (i+1)=(toT m (rmT m i T)).map dqs:=by rw[<-hwe,W2j,W2f,W5i]
  have I:=Xy0 (xs:=(R9.wl i (m+1) (toT (m+1) T)).map dqs) (R:=R) (n:=m+1) (i:=i) (by rw[W1k,hwl]) (by omega) (by omega)
  rw[hwe',<-ei] at I
  refine Ar (i+1:Nat) rfl ?_ (wr (by omega:((i+1:Nat):Int)-1+1=((i+1:Nat):Int)) (by simp only[inK];omega))
  refine Cw [(1000001,6)] rfl I λv' H' _ hP=>?_
  obtain⟨R',rfl,rfl⟩:=hP
  refine Ar ((i:Int)-1) rfl ?_ (wr (by omega:((i+1:Nat):Int)-1-1=(i:Int)-1) (by simp only[inK];omega))
  exact Bk ⟨i,⟨m,rmT m i T,rm m i c⟩,R'⟩ [] rfl ⟨w1,o⟩ (W5v i)
end
end Go.Proofs.YtnedfplmoojbaaaGreatDoor.P9
namespace Go.Proofs.YtnedfplmoojbaaaGreatDoor.P19
open Go Go.Vm Go.Num Go.Tow Go.Proofs.YtnedfplmoojbaaaGreatDoor
section
variable{K:Nat}{G:Tw K}{S:List (Tow.El K)}{N:List Nm}{n m:Nat}{x:Nm}{a:Tow.El K}{u s:Vn}{p q:V2 K}{f g:Int}
theorem Ymw(W:Wn G S N)(i:Gd G S N n x a)(j:n<=400): C0 176 [.d (dN x)] (OnG G S N n a) :=
 (P9.Trim_n W.w.g (W0j W.w.s (by decide)) i.o (by decide) (by unfold gB;omega)).mono λr ⟨z,e,h⟩=>⟨z,e,h,i.g,i.n⟩
theorem Yma(W:Wn G S N)(i:Gv G S N n u p)(j:n<=400): C0 88 [.d (dV u)] (VeG G S N n (Xcx p)):=by
 refine En Tryz.func88 λ_ _ _=>?_
 refine Dw rfl<|Ca rfl (Ymw W i.x j) λv h=>?_
 obtain⟨x,rfl,o⟩:=h
 refine Ca rfl (P9.Neg_g W i.y j) λv h=>?_
 obtain⟨z,rfl,I⟩:=h
 exact Rt rfl (.one (.rf rfl) rfl rfl) ⟨⟨x,z⟩,rfl,o,I⟩
theorem opp_g(W:Wn G S N)(i:Gv G S N n u p)(o:n<=400)(hf:few f): C0 40 [.d (dT u f)] (λr=>∃v,r=.d (dT v (vopp G p f))/\Gv G S N n v (Xcx p)):=by
 unfold few at hf
 refine En Tryz.func40 λ_ _ _=>?_
 refine Dw rfl<|Ca rfl (Yma W i o) λv I=>?_
 obtain⟨c,rfl,j⟩:=I
 refine Ne (-f) rfl ?_ (wr (Int.zero_sub _) (by simp only[inK];omega))
 refine Ce rfl (Yd0 W i (by omega))<|By rfl (λh=>?_) λh=>?_
 have h:¬Xa5 G p:=by simpa [Xas,Xaj] using h
 refine Ar (-f-1) rfl ?_ (wr rfl (by simp only[inK];omega))
 exact Rt rfl (.one (.rf rfl) rfl rfl) ⟨c,by rw[vopp,if_neg h],j⟩
 have h:Xa5 G p:=by simpa [Xas,Xaj] using h
 exact Rt rfl (.one (.rf rfl) rfl rfl) ⟨c,by rw[vopp,if_pos h],j⟩
end
end Go.Proofs.YtnedfplmoojbaaaGreatDoor.P19
namespace Go.Tow
open Go Go.Proofs.YtnedfplmoojbaaaGreatDoor
section
variable{K:Nat}{G:Tw K}{p q u:V2 K}{a b c:El K}{f g:Int}
theorem Xup(G:Tw K)(p q:V2 K): Xcx (Xaz G p q)=Xaz G (Xcx p) (Xcx q):=by
 obtain⟨a,b⟩:=p
 obtain⟨c,d⟩:=q
 have L:=Xax K G
 exact W3f (Laws.req L [a,b,c,d] (.add (.mul (.v 0) (.v 2)) (.neg (.mul (.v 1) (.v 3)))) (.add (.mul (.v 0) (.v 2)) (.neg (.mul (.neg (.v 1)) (.neg (.v 3))))) (by decide +kernel)) (Laws.req L [a,b,c,d] (.neg (.add (.mul (.v 0) (.v 3)) (.mul (.v 1) (.v 2)))) (.add (.mul (.v 0) (.neg (.v 3))) (.mul (.neg (.v 1)) (.v 2))) (by decide +kernel))
theorem Yer(hG:red K G)(hp:Xa5 G p)(hq:Xa5 G q): Xcm G p q 0 0=0:=by
 have up:vup G p:=.inr hp
 have i:vup G q:=.inr hq
 have np:=Xfj hG up
 have nq:=Xfj hG i
 have h:=Xmx hG np nq
 have j:vh G (Xaz G p q)=0:=if_pos (Xk4 hG up i hp.1)
 have o:vh G p=0:=if_pos up
 have I:vh G q=0:=if_pos i
 have:=Xj6 (G:=G) (p:=p) (q:=q)
 rw[Xd6 hG np nq]
 omega
theorem Xk7(hG:red K G)(hp:p≠vz K): Xcm G p (Xcx p) f (P19.vopp G p f)=0:=by
 rw[Xze hG hp]
 unfold P19.vopp
 split<;>omega
theorem Xzb(hG:red K G)(hp:p≠vz K)(hq:q≠vz K): Xcm G (Xcx p) (Xcx q) (P19.vopp G p f) (P19.vopp G q g)=P19.vopp G (Xaz G p q) (Xcm G p q f g):=by
 have h:=Xk6 hG hp
 have cq:=Xk6 hG hq
 have i:=Xb0 hG hp hq
 have j:=Xb0 hG h cq
 have E1:=Xk7 (f:=Xcm G p q f g) hG i
 have E2:Xcm G (Xaz G p q) (Xaz G (Xcx p) (Xcx q)) (Xcm G p q f g) (Xcm G (Xcx p) (Xcx q) (P19.vopp G p f) (P19.vopp G q g))=0:=by
  rw[Xgz hG hp hq j]
  have o:Xcm G q (Xaz G (Xcx p) (Xcx q)) g (Xcm G (Xcx p) (Xcx q) (P19.vopp G p f) (P19.vopp G q g))=Xcm G (Xcx p) (Xaz G q (Xcx q)) (P19.vopp G p f) 0:=by
   rw[Xbf (p:=Xcx p),Xii hG h cq,<-Xgz hG hq cq h,Xk7 hG hq,Xii hG (Xb0 hG hq cq) h]
  have I:Xaz G q (Xaz G (Xcx p) (Xcx q))=Xaz G (Xcx p) (Xaz G q (Xcx q)):=by
   rw[<-Xgy,Xbf (p:=q),Xgy]
  rw[o,I,<-Xgz hG hp h (Xb0 hG hq cq),Xk7 hG hp]
  exact Yer hG (Xig hG hp) (Xig hG hq)
 rw[Xup] at E1
 rw[Xd6 hG i j] at E1 E2
 omega
def vpw(G:Tw K)(p:V2 K): Nat->V2 K
 | 0=>(rat K 1,zero K)
 | n+1=>Xaz G (vpw G p n) p
def vpf(G:Tw K)(p:V2 K)(f:Int): Nat->Int
 | 0=>0
 | n+1=>Xcm G (vpw G p n) p (vpf G p f n) f
theorem Xoy(hG:red K G): Xa5 G ((rat K 1,zero K):V2 K):=by
 have Sg:=Xao (Xad hG)
 exact⟨Sg.s0 (Xax K G),by show 0<sgn K G (rat K 1);rw[Sg.s1];decide⟩
theorem Xqk(hG:red K G)(hp:p≠vz K): ∀n,vpw G p n≠vz K
 | 0=>Xfj hG (.inr (Xoy hG))
 | n+1=>Xb0 hG (Xqk hG hp n) hp
theorem Xov(hG:red K G): ∀n,vpw G (Xcx p) n=Xcx (vpw G p n)
 | 0=>W3f rfl (by
  have L:=Xax K G
  have:=L.an (zero K)
  rw[L.za] at this
  exact this.symm)
 | n+1=>by
  show Xaz G (vpw G (Xcx p) n) (Xcx p)=_
  rw[Xov hG n,<-Xup]
  rfl
theorem Xuk(hG:red K G)(hp:p≠vz K): ∀n,vpf G (Xcx p) (P19.vopp G p f) n=P19.vopp G (vpw G p n) (vpf G p f n)
 | 0=>by
  show (0:Int)=P19.vopp G (rat K 1,zero K) 0
  unfold P19.vopp
  rw[if_pos (Xoy hG)]
  rfl
 | n+1=>by
  show Xcm G (vpw G (Xcx p) n) (Xcx p) (vpf G (Xcx p) (P19.vopp G p f) n) (P19.vopp G p f)=_
  rw[Xov hG,Xuk hG hp n,Xzb hG (Xqk hG hp n) hp]
  rfl
theorem Xul{B:Int}(i:0<=B)(hf:-B<=f/\f<=B): ∀n:Nat,-(n*B)<=vpf G p f n/\vpf G p f n<=n*(B+1)
 | 0=>by simp[vpf]
 | n+1=>by
  have h:=Xul i hf n
  have j:((n+1:Nat):Int)*B=n*B+B:=by rw[show ((n+1:Nat):Int)=(n:Int)+1 from rfl,Int.add_mul,W3e]
  have o:((n+1:Nat):Int)*(B+1)=n*(B+1)+(B+1):=by rw[show ((n+1:Nat):Int)=(n:Int)+1 from rfl,Int.add_mul,W3e]
  rw[j,o]
  show _<=Xcm G (vpw G p n) p (vpf G p f n) f/\Xcm G (vpw G p n) p (vpf G p f n) f<=_
  unfold Xcm
  split<;>omega
theorem Xs7(hG:red K G): Xa5 G (Xcx p)↔Xa5 G p:=by
 have Sg:=Xao (Xad hG)
 show sgn K G (neg K p.2)=0/\0<sgn K G p.1↔sgn K G p.2=0/\0<sgn K G p.1
 rw[Sg.sn]
 omega
def vtm(G:Tw K)(p:V2 K)(n:Int): V2 K:=if n<0 then Xcx (vpw G p n.natAbs) else vpw G p n.natAbs
def vtf(G:Tw K)(p:V2 K)(f n:Int): Int:=if n<0 then P19.vopp G (vpw G p n.natAbs) (vpf G p f n.natAbs) else vpf G p f n.natAbs
theorem Yim(hG:red K G)(hp:p≠vz K)(n:Int): vtm G p n≠vz K:=by
 unfold vtm
 split
 exact Xk6 hG (Xqk hG hp _)
 exact Xqk hG hp _
end
open Go Go.Num Go.Proofs.YtnedfplmoojbaaaGreatDoor
variable{K:Nat}{G:Tw K}{S:List (El K)}{N:List Nm}{n m b c R:Nat}{p q:V2 K}
def Gp(G:Tw K)(S:List (El K))(N:List Nm)(b:Nat)(p:V2 K): Prop:=∀(m:Nat) (T:Tw m) (ρ:Nat->El K),Fl G S N m T ρ->∃a c:El m,ev G ρ m a=p.1/\ev G ρ m c=p.2/\Sz b (toL m a++toL m c)
theorem Gp.mono(h:Gp G S N b p)(hb:b<=c): Gp G S N c p:=λm T ρ i=>let ⟨a,c,j,o,I⟩:=h m T ρ i;⟨a,c,j,o,I.mono hb⟩
theorem Gp.fst(h:Gp G S N b p): Gs G S N b p.1:=λm T ρ i=>let ⟨a,c,j,I,o⟩:=h m T ρ i;⟨a,j,o.left⟩
theorem Gp.snd(h:Gp G S N b p): Gs G S N b p.2:=λm T ρ i=>let ⟨a,c,I,j,o⟩:=h m T ρ i;⟨c,j,o.right⟩
theorem Gp.of(h:Gs G S N b p.1)(k:Gs G S N c p.2): Gp G S N (b+c) p:=λm T ρ i=>by
 obtain⟨x,j,o⟩:=h m T ρ i
 obtain⟨y,I,M⟩:=k m T ρ i
 exact⟨x,y,j,I,o.append M⟩
theorem Gp.con(h:Gp G S N b p): Gp G S N b (Xcx p):=λm T ρ i=>by
 obtain⟨x,y,j,o,d,I,M,d2⟩:=h m T ρ i
 exact⟨x,Tow.neg m y,j,by rw[Xdm,o];rfl,d,I,M,by rw[Xb7];exact d2.left.append d2.right.neg⟩
theorem Gp.mul{f:Fg}(W:Wy f G S)(h:Gp G S N b p)(k:Gp G S N c q): Gp G S N (b+c+cB f.R f.H+1) (Xaz G p q):=λm T ρ i=>by
 obtain⟨x,y,M,O,d,U,d1,d2⟩:=h m T ρ i
 obtain⟨u,v,V,Z,e,e0,e1,j⟩:=k m T ρ i
 obtain⟨E,E0,E1,E2⟩:=Xi7 (W.t i.1)
 have hC:=Xgv (r:=f.R) (W.le i.1)
 have P:∀s t:El m,IsD d (2^b) (toL m s)->IsD e (2^c) (toL m t)->IsD (d*e*E) (2^(b+c+cB f.R f.H)) (toL m (Tow.mul m T s t)):=λs t o I=>(E2 s t d e _ _ U e0 o I).mono (by
  rw[<-W0x,<-W0x];exact W0o (by decide) (by omega))
 have A:∀s t:El m,IsD (d*e*E) (2^(b+c+cB f.R f.H)) (toL m s)->IsD (d*e*E) (2^(b+c+cB f.R f.H)) (toL m t)->IsD (d*e*E) (2^(b+c+cB f.R f.H+1)) (toL m (Tow.add m s t)):=λs t o I=>by
  rw[Xa0]
  exact(o.add I).mono (by rw[W0z];omega)
 refine⟨Tow.add m (Tow.mul m T x u) (Tow.neg m (Tow.mul m T y v)),Tow.add m (Tow.mul m T x v) (Tow.mul m T y u),?_,?_,d*e*E,W1p (W1p U e0) E0,?_,?_⟩
 rw[Xcv,Xdm,Xbg i.1.h,Xbg i.1.h,M,O,V,Z];rfl
 rw[Xcv,Xbg i.1.h,Xbg i.1.h,M,O,V,Z];rfl
 have h3:=W3u d1 e1
 have h4:d*e*E<2^b*2^c*2^cB f.R m:=W0y (W3g h3 E0) (W0u _ E1)
 rw[<-W0x,<-W0x] at h4
 exact W0y h4 (W0o (by decide) (by omega))
 exact(A _ _ (P _ _ d2.left j.left) (by rw[Xb7];exact(P _ _ d2.right j.right).neg)).append (A _ _ (P _ _ d2.left j.right) (P _ _ d2.right j.left))
end Go.Tow
namespace Go.Proofs.YtnedfplmoojbaaaGreatDoor
open Go Go.Vm Go.Num Go.Tow
section
variable{K:Nat}{G:Tw K}{S:List (Tow.El K)}{N:List Nm}{n m k:Nat}{u:Vn}{p q:V2 K}
structure Gq {K:Nat} (G:Tw K) (S:List (Tow.El K)) (N:List Nm) (n:Nat) (u:Vn) (p:V2 K):Prop where
 v:Gv G S N n u p
 g:Gp G S N (gB n) p
theorem Gq.mono(h:Gq G S N n u p)(i:n<=m): Gq G S N m u p:=⟨h.v.mono i,h.g.mono (Yao i)⟩
theorem Gv.re(W:Wn G S N)(h:Gv G S N k u p)(i:Gp G S N (gB n) p)(j:1<=n): Gq G S N n u p:=⟨⟨⟨h.x.o.re W.w W.h i.fst,i.fst,j⟩,⟨h.y.o.re W.w W.h i.snd,i.snd,j⟩⟩,i⟩
theorem Gv.two(W:Wn G S N)(h:Gv G S N n u p): Gq G S N (n+n) u p:=h.re W ((Gp.of h.x.g h.y.g).mono (by unfold gB;omega)) (by have:=h.x.n;omega)
theorem Gq.mul(W:Wn G S N){s w:Vn}(h:Gq G S N n u p)(i:Gq G S N m s q)(j:Gv G S N k w (Xaz G p q)): Gq G S N (n+m) w (Xaz G p q):=by
 have o:=h.v.x.n
 have I:=i.v.x.n
 exact j.re W ((Gp.mul W.w h.g i.g).mono (by rw[fC];unfold gB;omega)) (by omega)
end
open Go Go.Vm Go.Num Go.Tow
section
variable{K:Nat}{G:Tw K}{S:List (Tow.El K)}{N:List Nm}{n m:Nat}{u s:Vn}{p q:V2 K}{f g:Int}
def TuQ(G:Tw K)(S:List (Tow.El K))(N:List Nm)(n:Nat)(p:V2 K)(f:Int)(r:AV): Prop:=(lim f/\∃v,r=.tup (.pr (.d (dT v f)) (.d (.int .i64 0)))/\Gq G S N n v p)\/(¬lim f/\r=.tup (.pr (.d dT0) (.d (.int .i64 3))))
theorem TuQ.of{k:Nat}{r:AV}(W:Wn G S N)(i:Gp G S N (gB k) p)(j:1<=k)(h:TuG G S N n p f r): TuQ G S N k p f r:=by
 rcases h with ⟨o,v,e,I⟩ | h
 exact .inl ⟨o,v,e,I.re W i j⟩
 exact .inr h
abbrev zTu: AV:=.st (.pr (.st (.pr (.st (.pr .nil .nil)) (.st (.pr .nil .nil)))) (.d (.int .i64 0)))
theorem Yop(W:Wn G S N): Gq G S N 2 ⟨n01,n00⟩ (vpw G p 0):=by
 have h:Gv G S N 1 ⟨n01,n00⟩ (Tow.rat K ((1:Int):Rat),Tow.rat K ((0:Int):Rat)):=⟨Gd.rat W (Qs.int (z:=1) (by unfold Zs;decide) (by decide)),Gd.rat W (Qs.int (z:=0) (by unfold Zs;decide) (by decide))⟩
 rw[show Tow.rat K ((0:Int):Rat)=zero K from Xc7 K] at h
 exact h.two W
theorem Yio{B:Int}(h:B=1000001)(hf:-B<=f/\f<=B){i:Nat}(hi:i<=8): few (vpf G p f i):=by
 have j:=Xul (G:=G) (p:=p) (B:=B) (by omega) hf i
 subst h
 unfold few
 omega
theorem Yj4(hf:lim f): -1000001<=P19.vopp G p f/\P19.vopp G p f<=1000001:=by
 unfold lim at hf
 unfold P19.vopp
 split<;>omega
theorem P19.Times_n(W:Wn G S N)(T:Gq G S N 16 u p)(hp:p≠vz K)(hf:lim f){n:Int}(hn:-8<=n/\n<=8): C0 11 [.d (dT u f),.d (.int .i64 n)] (TuQ G S N 130 (vtm G p n) (vtf G p f n)):=by
 have I:lim f:=hf
 unfold lim at hf
 refine En Tryz.func11 λ_ _ _=>?_
 refine No rfl (by omega)<|No rfl (by omega)<|Cu (some 5) (λ((w,q,g):Vn×V2 K×Int)=>[(1,.d (.int .i64 (n.natAbs:Nat))),(2,.ptr 2 0),(4,.ptr 4 0)]) (λ((w,q,g):Vn×V2 K×Int)=>[(2,.var (.d (dT w g))),(4,.var zTu)]) (λ(w,q,g)=>Gq G S N 16 w q/\(-1000001<=g/\g<=1000001)/\vpw G q n.natAbs=vtm G p n/\vpf G q g n.natAbs=vtf G p f n) rfl ?_ λ(w,q,g) ⟨O,Z,V,e2⟩=>?_
 refine By rfl (λh=>?_) λh=>?_
 refine Ca rfl (P19.opp_g W T.v (by decide) I.few) λv j=>?_
 obtain⟨c,rfl,o⟩:=j
 refine Ne (n.natAbs:Nat) rfl ?_ (wr (by omega:(0:Int)-n=n.natAbs) (by simp only[inK];omega))
 exact Jn (c,Xcx p,P19.vopp G p f) [] rfl ⟨o.re W T.g.con (by decide),Yj4 I,by rw[vtm,if_pos h,Xov W.w.g],by rw[vtf,if_pos h,Xuk W.w.g hp]⟩
 have en:n=(n.natAbs:Nat):=by omega
 refine Jn (u,p,f) [] rfl ⟨T,by omega,by rw[vtm,if_neg h],by rw[vtf,if_neg h]⟩ (by exact⟨by rw[<-en];rfl,rfl,rfl,rfl,rfl⟩)
 refine Ce rfl (P9.FromInt_ok (z:=1) (by decide))<|Ce rfl (P9.FromInt_ok (z:=0) (by decide))<|Lo (λ((i,c):Nat×Vn)=>[(2,.ptr 2 0),(4,.ptr 4 0),(6,.ptr 6 0),(25,.d (.int .i64 (n.natAbs:Nat))),(26,.d (.int .i64 i))]) (λ((i,c):Nat×Vn)=>[(2,.var (.d (dT w g))),(4,.var zTu),(6,.var (.d (dT c (vpf G q g i))))]) (λ(i,c)=>i<=n.natAbs/\Gq G S N (2+16*i) c (vpw G q i)) (λ(i,_)=>n.natAbs-i) (0,⟨n01,n00⟩) [] rfl ⟨W0r _,Yop W⟩ (λ(i,c) ⟨hi,o⟩=>?_)
 have hi:i<=n.natAbs:=hi
 refine By rfl (λh=>?_) λh=>?_
 refine Ca rfl (P19.add_g W o.v O.v (by omega) (Yio rfl Z (by omega)) (by unfold few;omega)) λv j=>?_
 obtain⟨d,rfl,hd⟩:=j
 refine No rfl (by decide)<|Ar (i+1:Nat) rfl ?_
 exact Bk (i+1,d) [] rfl ⟨by omega,(o.mul W O hd).mono (by omega)⟩ (by show n.natAbs-(i+1)<n.natAbs-i;omega)
 obtain rfl:i=n.natAbs:=by omega
 refine Ca rfl (P19.limited_g o.v) λv j=>?_
 rw[V,e2] at j
 have M:=o.g.mono (Yao (by omega:2+16*n.natAbs<=130))
 rw[V] at M
 rcases TuQ.of W M (by decide) j with ⟨U,w,rfl,O⟩ | ⟨U,rfl⟩
 exact Rt rfl (.tup (.cons (.rf rfl) Xbs)) (.inl ⟨U,w,rfl,O⟩)
 exact Rt rfl (.tup (.cons (.rf rfl) Xbs)) (.inr ⟨U,rfl⟩)
end
end Go.Proofs.YtnedfplmoojbaaaGreatDoor
namespace Go.Tow
open Go Go.Num Go.Proofs.YtnedfplmoojbaaaGreatDoor
section
variable{K:Nat}{G:Tw K}{p q x:V2 K}{f g:Int}
theorem Xzd(hG:red K G)(hp:Xa5 G p): ¬Xhy G x p<0:=by
 have Sg:=Xao (Xad hG)
 have L:=Xax K G
 have up:vup G p:=.inr hp
 unfold Xhy
 by_cases i:vup G x
 rw[if_pos ⟨λ_=>up,λ_=>i⟩]
 have e:Xa3 G x p=Tow.neg K (mul K G x.2 p.1):=by
  show add K (mul K G (neg K x.2) p.1) (mul K G x.1 p.2)=_
  rw[(Xat hG).1 hp.1,L.mz,L.az,L.nm]
 have h:=Xhn i
 have j:sgn K G p.1=1:=by have:=Sg.tri p.1;have:=hp.2;omega
 rw[e,Sg.sn,Sg.sm,j]
 omega
 rw[if_neg λh=>i (h.2 up),if_neg i]
 decide
theorem Xox(hG:red K G)(hp:Xa5 G p): Xcm G p q 0 g=g:=by
 unfold Xcm
 rw[if_neg (Xzd hG hp),Int.zero_add]
theorem Yea(hG:red K G)(hp:Xa5 G p): Xhy G (Xaz G p q) q=0:=by
 obtain⟨e,h⟩:=Xuj (q:=q) hG hp
 rw[e,Yep hG h,Xf7 hG]
theorem Xmc(hG:red K G)(hp:Xa5 G p): Xa5 G (Xaz G p q)↔Xa5 G q:=by
 obtain⟨e,h⟩:=Xuj (q:=q) hG hp
 have Sg:=Xao (Xad hG)
 rw[e]
 show sgn K G (mul K G p.1 q.2)=0/\0<sgn K G (mul K G p.1 q.1)↔_
 rw[Sg.sm,Sg.sm,h,W3e,W3e]
 exact W4a
theorem Yce(hG:red K G)(hp:Xa5 G p): ∀n,Xa5 G (vpw G p n)/\vpf G p 0 n=0
 | 0=>⟨Xoy hG,rfl⟩
 | n+1=>by
  obtain⟨h,i⟩:=Yce hG hp n
  refine⟨(Xmc hG h).2 hp,?_⟩
  show Xcm G (vpw G p n) p (vpf G p 0 n) 0=0
  rw[i,Xox hG h]
theorem Yin(hG:red K G)(hp:Xa5 G p)(n:Int): vtf G p 0 n=0/\Xa5 G (vtm G p n):=by
 obtain⟨h,i⟩:=Yce hG hp n.natAbs
 unfold vtm vtf
 split
 refine⟨?_,(Xs7 hG).2 h⟩
 unfold P19.vopp
 rw[if_pos h,i];rfl
 exact⟨i,h⟩
end
end Go.Tow
namespace Go.Proofs.YtnedfplmoojbaaaGreatDoor.P20
open Go Go.Vm Go.Num Go.Tow Go.Proofs.YtnedfplmoojbaaaGreatDoor
open Go.Proofs.YtnedfplmoojbaaaGreatDoor.P55 (v0 W0 g0 gv0 zw Xjk Qp)
section
variable{K:Nat}{G:Tw K}{S:List (Tow.El K)}{N:List Nm}{n m k:Nat}{x y z c c':Nm}{a b e:Tow.El K}{u v w s t:Vn}{p q r:V2 K}{f g:Int}
theorem Yol(W:Wn G S N)(M:Gd G S N n c a)(j:Gd G S N n c' a)(hn:n<=95)(O:Gv G S N m u p)(T:Gv G S N m v q)(h2:m+m+(m+m)+m<=190)(hf:few f)(U:few g)(V:lim (Xcm G p q f g))(h0:Xcm G p q f g=0/\Xa5 G (Xaz G p q)):
 CW0 37 [.own 1000001 7 0 1,.d (dSe ⟨c',v,g⟩)] [(1000001,.arr 7 [dSe ⟨c,u,f⟩])] (λr H'=>∃R',r=.tup (.pr (.own 1000001 7 0 0) (.d (.int .i64 0)))/\H'=[(1000001,.arr 7 R')]):=by
 have o:sgn K G (Tow.add K a (Tow.neg K a))=0:=by rw[(Xax K G).an];exact(Xat W.w.g).2 rfl
 refine EnW Tryz.func37 λ_ _ _ _=>?_
 refine Lo (λ_:Unit=>[(0,.own 1000001 7 0 1),(3,.ptr 3 0),(6,.d (.int .i64 0))]) (λ_=>[(1000001,.arr 7 [dSe ⟨c,u,f⟩]),(3,.var (.d (dSe ⟨c',v,g⟩)))]) (λ_=>True) (λ_=>0) () [] rfl trivial (λ_ _=>?_)
 refine Dw rfl<|Yes rfl (by decide)<|Eo 0 rfl (by decide)<|Ld (dSe ⟨c,u,f⟩) rfl rfl ?_
 refine Ce rfl (Ydo W M j (by omega) (by omega))<|No rfl (by rw[o];decide)<|Dw rfl<|No rfl (by decide)<|Eo 0 rfl (by decide)<|Ld (dSe ⟨c,u,f⟩) rfl rfl ?_
 refine Ce rfl (P9.Equal_g W M j (by omega) (by omega))<|No rfl (λh=>h rfl)<|Dw rfl<|Eo 0 rfl (by decide)<|Ld (dSe ⟨c,u,f⟩) rfl rfl ?_
 refine Ca rfl (P19.Add_g W O T (by omega) hf U) λr I=>?_
 rcases I with ⟨_,w,rfl,Z⟩ | ⟨h,_⟩
 refine No rfl (by decide)<|Ce rfl (P19.Zero_g W Z (by omega))<|Yes rfl h0<|Ar (0+1:Nat) rfl ?_
 refine Cw [(1000001,1000001)] rfl (Yb9 (xs:=[dSe ⟨c,u,f⟩]) (R:=[]) (n:=1) (i:=0) rfl (by decide) (by decide)) (λr H' _ I=>?_)
 obtain⟨R',rfl,rfl⟩:=I
 exact Rw [] [(1000001,.arr 7 _)] rfl (.tup (.cons (.rf rfl) Xbs)) ⟨_,rfl,rfl⟩
 exact absurd V h
theorem Ym3{i:Nat}(W:Wn G S N)(I:Gd G S N n x a)(M:Gd G S N m y b)(hn:n<=190)(hm:m<=190)(O:Gd G S N k c e)(h:Gd G S N k c' e)(T:Gv G S N i u p)(j:Gv G S N i v q)(U:k<=95)(V:i+i+(i+i)+i<=190)(hf:few f)(Z:few g)(hl:lim (Xcm G p q f g))(h0:Xcm G p q f g=0/\Xa5 G (Xaz G p q)):
 C0 9 [.d (dAr x [⟨c,u,f⟩]),.d (dAr y [⟨c',v,g⟩])] (λt=>∃z,t=.tup (.pr (.d (dAr z [])) (.d (.int .i64 0)))/\Gd G S N (n+m) z (Tow.add K a b)):=by
 refine En Tryz.func9 λ_ _ _=>?_
 refine Ca rfl (P9.Add_g W I M (by omega) (by omega)) λv j=>?_
 obtain⟨z,rfl,hz⟩:=j
 refine No rfl (by decide)<|Dw rfl<|Cr rfl Xqa ?_
 refine Lo (λk:Nat×List D=>[(4,.ptr 4 0),(8,.ptr 8 0),(29,.d (dSs [⟨c',v,g⟩])),(30,.d (.int .i64 1)),(31,.d (.int .i64 k.1))]) (λk=>[(26,.arr 7 (if k.1=0 then [dSe ⟨c,u,f⟩] else k.2)),(4,.var zA),(8,.var (.st (.pr (.d (dN z)) (.own 26 7 0 (1-k.1)))))]) (λk=>k.1<=1) (λk=>1-k.1) (0,[]) [] rfl (W0r _) λ⟨k,R⟩ o=>?_
 rcases(show k=0\/k=1 by have:k<=1:=o;omega) with rfl | rfl
 refine Yes rfl (by decide:((0:Nat):Int)<1)<|Ix 0 rfl (u:=dSe ⟨c',v,g⟩) rfl<|Cw [(1000001,26)] rfl (Yol W O h U T j V hf Z hl h0) (λr H' _ hr=>?_)
 obtain⟨R',rfl,rfl⟩:=hr
 show Pl.nx' _ _ (.tup (.pr (.own 26 7 0 0) (.d (.int .i64 0)))) [(26,.arr 7 R')]
 refine No rfl (by decide)<|Ar (0+1:Nat) rfl ?_
 exact Bk (0+1,R') [] rfl (W0a 1) (show 1-(0+1)<1-0 from W7t)
 exact No rfl (by decide:¬((1:Nat):Int)<1)<|Rt rfl (.tup (.cons (.sd (.pd (.rf rfl) (.own rfl (W0r _) rfl))) Xbs)) ⟨z,rfl,hz⟩
theorem Yds(W:Wn G S N){c:Int}(h:-64<=c/\c<=64): Gd G S N 1 ⟨0,(),((c:Int):Rat)⟩ (Tow.rat K ((c:Int):Rat)):=Gd.rat W (Qs.int (by unfold Zs;omega) (by decide))
theorem Yhx(W:Wn G S N)(h:Gd G S N n x a)(o:n<=180){c:Int}(I:-8<=c/\c<=8): C0 12 [.d (dAr x []),.d (.int .i64 c)] (λr=>∃z,r=.tup (.pr (.d (dAr z [])) (.d (.int .i64 0)))/\Gd G S N (n+1) z (Tow.mul K G a (Tow.rat K ((c:Int):Rat)))):=by
 refine En Tryz.func12 λ_ _ _=>?_
 refine No rfl (by omega)<|No rfl (by omega)<|Dw rfl<|Ce rfl (P9.FromInt_ok (z:=c) (by omega))<|Ca rfl (P9.Mul_g W h (Yds W (by omega)) (by omega) (by decide)) λv i=>?_
 obtain⟨z,rfl,j⟩:=i
 refine No rfl (by decide)<|Lo (λ_:Unit=>[(1,.d (.int .i64 c)),(4,.ptr 4 0),(8,.ptr 8 0),(35,.d (dSs [])),(36,.d (.int .i64 0)),(37,.d (.int .i64 0))]) (λ_=>[(4,.var zA),(8,.var (.st (.pr (.d (dN z)) .nil)))]) (λ_=>True) (λ_=>0) () [] rfl trivial λ_ _=>?_
 exact No rfl (by decide)<|Rt rfl (.tup (.cons (.sd (.pd (.rf rfl) (.nil rfl))) Xbs)) ⟨z,rfl,j⟩
theorem Yhw(W:Wn G S N)(I:Gd G S N n x a)(Z:n<=180)(O:Gv G S N 1 u p)(hp:p≠vz K)(hf:lim f){d:Int}(hd:-8<=d/\d<=8)(T:lim (vtf G p f d)): C0 12 [.d (dAr x [⟨c,u,f⟩]),.d (.int .i64 d)] (λr=>∃z l,r=.tup (.pr (.d (dAr z l)) (.d (.int .i64 0)))/\Gd G S N (n+1) z (Tow.mul K G a (Tow.rat K ((d:Int):Rat)))/\((vtf G p f d=0/\Xa5 G (vtm G p d))/\l=[]\/¬(vtf G p f d=0/\Xa5 G (vtm G p d))/\∃v,Gv G S N 130 v (vtm G p d)/\l=[⟨c,v,vtf G p f d⟩])):=by
 refine En Tryz.func12 λ_ _ _=>?_
 refine No rfl (by omega)<|No rfl (by omega)<|Dw rfl<|Ce rfl (P9.FromInt_ok (z:=d) (by omega))<|Ca rfl (P9.Mul_g W I (Yds W (by omega)) (by omega) (by decide)) λv j=>?_
 obtain⟨z,rfl,U⟩:=j
 refine No rfl (by decide)<|Nv 8 77 7 rfl ?_
 refine Lo (λ((k,M):Nat×List Sn)=>[(1,.d (.int .i64 d)),(4,.ptr 4 0),(8,.ptr 8 0),(35,.d (dSs [⟨c,u,f⟩])),(36,.d (.int .i64 1)),(37,.d (.int .i64 k))]) (λ((k,M):Nat×List Sn)=>[(4,.var zA),(8,.var (.st (.pr (.d (dN z)) (.gr 77 7 (M.map dSe))))),(77,.tok (M.map dSe).length 7)]) (λ(k,M)=>k=0/\M=[]\/k=1/\((vtf G p f d=0/\Xa5 G (vtm G p d))/\M=[]\/¬(vtf G p f d=0/\Xa5 G (vtm G p d))/\∃v,Gv G S N 130 v (vtm G p d)/\M=[⟨c,v,vtf G p f d⟩])) (λ(k,_)=>1-k) (0,[]) [] rfl (.inl ⟨rfl,rfl⟩) (λ(k,M) V=>?_)
 rcases V with ⟨i,h⟩ | ⟨i,h⟩
 obtain rfl:k=0:=i
 obtain rfl:M=[]:=h
 refine Yes rfl (by decide)<|Ix 0 rfl (u:=dSe ⟨c,u,f⟩) rfl<|Ca rfl (P19.Times_n W ((O.two W).mono (by decide)) hp hf hd) λv j=>?_
 rcases j with ⟨_,w,rfl,o⟩ | ⟨i,_⟩
 refine No rfl (by decide)<|Ce rfl (P19.Zero_g W o.v (by decide))<|By rfl (λh=>?_) λh=>?_
 have h:¬(vtf G p f d=0/\Xa5 G (vtm G p d)):=by simpa only [Xas,Xaj] using h
 refine ApH ([(⟨c,w,vtf G p f d⟩:Sn)].map dSe) rfl (by simp) (by decide:1<=137438953472) ?_
 refine Ar (0+1:Nat) rfl ?_
 exact Bk (0+1,[(⟨c,w,vtf G p f d⟩:Sn)]) [(77,90),(62,77)] rfl (.inr ⟨rfl,.inr ⟨h,w,o.v,rfl⟩⟩) (by decide:1-(0+1)<1-0)
 have h:vtf G p f d=0/\Xa5 G (vtm G p d):=W3j.1 (by simpa only [Xas,Xaj] using h)
 refine Ar (0+1:Nat) rfl ?_
 exact Bk (0+1,[]) [] rfl (.inr ⟨rfl,.inl ⟨h,rfl⟩⟩) (by decide:1-(0+1)<1-0)
 exact absurd T i
 obtain rfl:k=1:=i
 exact No rfl (by decide)<|Rt rfl (.tup (.cons (.sd (.pd (.rf rfl) (.gr rfl))) Xbs)) ⟨z,M,rfl,U,h⟩
def cq: Rat:=((3:Int):Rat)*hf2
theorem Yba: Qs 64 cq:=by decide +kernel
theorem Ysa: 0<=cq/\cq<=2:=by decide +kernel
theorem Yns(W:Wn G S N)(i:Gv G S N m u p)(j:m<=800): C0 7 [.d (dN (nr ((3:Int):Rat))),.d (dT u f)] (·=.tup (.pr (.d (dAr n00 (if f=0/\Xa5 G p then [] else [⟨nr cq,u,f⟩]))) (.d (.int .i64 0)))):=(Sector_g W0 W (g0 (s:=64) (by decide +kernel)) i (by decide) j).mono λr I=>by
 rcases I with ⟨h,_⟩ | ⟨_,h,e⟩ | ⟨_,h,z,e,M⟩
 exact absurd (by decide +kernel:Xjz ((3:Int):Rat)>0) h
 rw[if_pos h];exact e
 rw[if_neg h,e,zw M.o];rfl
end
open Go Go.Vm Go.Num Go.Tow Go.Proofs.YtnedfplmoojbaaaGreatDoor
section
open Go.Proofs.YtnedfplmoojbaaaGreatDoor.P55 (v0 W0 g0 gv0 zw Xjk Qp)
section
variable{K:Nat}{G:Tw K}{S:List (Tow.El K)}{N:List Nm}{n m k:Nat}{x y z c c':Nm}{a b e:Tow.El K}{u v w s t:Vn}{p q r:V2 K}{f g:Int}
def sec(G:Tw K)(p:V2 K)(u:Vn)(f:Int): List Sn:=if f=0/\Xa5 G p then [] else [⟨nr cq,u,f⟩]
theorem Xln(h:f=0/\Xa5 G p): sec G p u f=[]:=if_pos h
theorem Xlm(h:¬(f=0/\Xa5 G p)): sec G p u f=[⟨nr cq,u,f⟩]:=if_neg h
theorem Yra(W:Wn G S N): Gd G S N 1 (nr cq) (Tow.rat K cq):=Gd.rat W Yba
theorem Xts(hf:-1000<=f/\f<=1000): few f:=by unfold few;omega
theorem Xqm(hf:-1000<=f/\f<=1000)(h:-1000<=g/\g<=1000): -2000<=Xcm G p q f g/\Xcm G p q f g<=2001:=by unfold Xcm;split<;>omega
theorem Yp7(W:Wn G S N)(U:Gv G S N 1 u p)(V:Gv G S N 1 v q)(hp:p≠vz K)(hq:q≠vz K)(hf:-1000<=f/\f<=1000)(Z:-1000<=g/\g<=1000)(hw:Gv G S N 4 w (Xaz G p q)): C0 9 [.d (dAr n00 (sec G p u f)),.d (dAr n00 (sec G q v g))] (λr=>∃z l,r=.tup (.pr (.d (dAr z l)) (.d (.int .i64 0)))/\C0 10 [.d (dAr n00 (sec G (Xaz G p q) w (Xcm G p q f g))),.d (dAr z l)] (·=.b true)):=by
 have hG:=W.w.g
 have n0:=n00_g W
 have o:=Yra W
 have c2:Gd G S N 2 (nr cq) (Tow.rat K cq):=o.mono (by decide)
 have O:=Xb0 hG hp hq
 have hb:=Xqm (G:=G) (p:=p) (q:=q) hf Z
 have hl:lim (Xcm G p q f g):=by unfold lim;omega
 have hg':lim g:=by unfold lim;omega
 have hf':lim f:=by unfold lim;omega
 have M:∀ {z},Gd G S N 2 z (Tow.add K (Tow.rat K ((0:Int):Rat)) (Tow.rat K ((0:Int):Rat)))->Gd G S N 2 z (Tow.rat K ((0:Int):Rat)):=λh=>by rw[Ypy] at h;exact h
 by_cases h0:f=0/\Xa5 G p
 rw[Xln h0]
 have I:Xcm G p q f g=g:=by rw[h0.1];exact Xox hG h0.2
 by_cases i:g=0/\Xa5 G q
 rw[Xln i]
 refine(Ym7 W n0 n0 (by decide) (by decide)).mono λr ⟨z,e,j⟩=>⟨z,[],e,?_⟩
 rw[Xln ⟨I.trans i.1,(Xmc hG h0.2).2 i.2⟩]
 exact Yaz W n0 (M j) (by decide) (by decide)
 rw[Xlm i]
 refine(Ym6 W n0 n0 (by decide) (by decide)).mono λr ⟨z,e,j⟩=>⟨z,_,e,?_⟩
 rw[Xlm λh=>i ⟨I.symm.trans h.1,(Xmc hG h0.2).1 h.2⟩,I]
 exact(eq_11 (k:=4) W n0 (M j) (by decide) (by decide) o c2 hw (V.mono (by decide)) (by decide)).mono λr e=>e.trans (congrArg AV.b (Xaj.2 (ts O hq hg' (Yea hG h0.2))))
 rw[Xlm h0]
 by_cases i:g=0/\Xa5 G q
 have I:Xcm G p q f g=f:=by rw[Xii hG hp hq,i.1];exact Xox hG i.2
 rw[Xln i]
 refine(Ym5 W n0 n0 (by decide) (by decide)).mono λr ⟨z,e,j⟩=>⟨z,_,e,?_⟩
 rw[Xlm λh=>h0 ⟨I.symm.trans h.1,(Xmc hG i.2).1 (by rw[Xbf];exact h.2)⟩,I]
 exact(eq_11 (k:=4) W n0 (M j) (by decide) (by decide) o c2 hw (U.mono (by decide)) (by decide)).mono λr e=>e.trans (congrArg AV.b (Xaj.2 (ts O hp hf' (by rw[Xbf];exact Yea hG i.2))))
 rw[Xlm i]
 by_cases T:Xcm G p q f g=0/\Xa5 G (Xaz G p q)
 refine(Ym3 W n0 n0 (by decide) (by decide) o o U V (by decide) (by decide) (Xts hf) (Xts Z) hl T).mono λr ⟨z,e,j⟩=>⟨z,[],e,?_⟩
 rw[Xln T]
 exact Yaz W n0 (M j) (by decide) (by decide)
 refine(Ym4 W n0 n0 (by decide) (by decide) o o U V (by decide) (by decide) (Xts hf) (Xts Z) hl T).mono λr ⟨z,w',e,j,hw'⟩=>⟨z,_,e,?_⟩
 rw[Xlm T]
 exact(eq_11 (k:=4) W n0 (M j) (by decide) (by decide) o c2 hw hw' (by decide)).mono λr e=>e.trans (congrArg AV.b (Xaj.2 (ts O O hl (Xf7 hG))))
theorem Xui(hf:-1000<=f/\f<=1000){d:Int}(hd:-8<=d/\d<=8): lim (vtf G p f d):=by
 have h:=Xul (G:=G) (p:=p) (B:=1000) (by decide) hf d.natAbs
 have i:d.natAbs<=8:=by omega
 unfold lim vtf P19.vopp
 split
 split<;>omega
 omega
theorem Yhv(W:Wn G S N)(T:Gv G S N 1 u p)(hp:p≠vz K)(hf:-1000<=f/\f<=1000){d:Int}(hd:-8<=d/\d<=8)(U:Gv G S N 130 w (vtm G p d)): C0 12 [.d (dAr n00 (sec G p u f)),.d (.int .i64 d)] (λr=>∃z l,r=.tup (.pr (.d (dAr z l)) (.d (.int .i64 0)))/\C0 10 [.d (dAr n00 (sec G (vtm G p d) w (vtf G p f d))),.d (dAr z l)] (·=.b true)):=by
 have hG:=W.w.g
 have L:=Xax K G
 have n0:=n00_g W
 have I:=Yra W
 have V:Gd G S N 2 (nr cq) (Tow.rat K cq):=I.mono (by decide)
 have M:=Xui (G:=G) (p:=p) hf hd
 have O:=Yim hG hp d
 have j:∀ {z},Gd G S N 2 z (Tow.mul K G (Tow.rat K ((0:Int):Rat)) (Tow.rat K ((d:Int):Rat)))->Gd G S N 2 z (Tow.rat K ((0:Int):Rat)):=λh=>by
  rw[show Tow.rat K ((0:Int):Rat)=zero K from Xc7 K,L.zm] at h
  rw[show Tow.rat K ((0:Int):Rat)=zero K from Xc7 K]
  exact h
 by_cases h0:f=0/\Xa5 G p
 rw[Xln h0]
 refine(Yhx W n0 (by decide) hd).mono λr ⟨z,e,i⟩=>⟨z,[],e,?_⟩
 rw[Xln (by rw[h0.1];exact Yin hG h0.2 d)]
 exact Yaz W n0 (j i) (by decide) (by decide)
 rw[Xlm h0]
 refine(Yhw W n0 (by decide) T hp (by unfold lim;omega) hd M).mono λr ⟨z,l,e,i,h⟩=>⟨z,l,e,?_⟩
 rcases h with ⟨o,rfl⟩ | ⟨o,v,Z,rfl⟩
 rw[Xln o]
 exact Yaz W n0 (j i) (by decide) (by decide)
 rw[Xlm o]
 exact(eq_11 (k:=130) W n0 (j i) (by decide) (by decide) I V U Z (by decide)).mono λr e=>e.trans (congrArg AV.b (Xaj.2 (ts O O M (Xf7 hG))))
theorem Yof(h:Xa5 G p): qn G p=0:=by
 unfold qn qd
 rw[if_pos ⟨h.2,by rw[h.1];exact W7p _⟩]
theorem Ysd: atn 0 150=0:=by decide +kernel
theorem Xyu(hG:red K G){b:Nat}{Y:Rat×Rat}(h:RadP G p 0 b Y)(hp:Xa5 G p): inB 0 Y:=by
 obtain⟨v,r,h0,U,V,_,_,Z⟩:=h.i
 have L:=Xax K G
 have Sg:=Xao (Xad hG)
 have O:=Xad hG
 have T:¬ovr G p:=by
  unfold ovr
  rw[Yof hp]
  show ¬0<sgn K G (Tow.add K p.2 (Tow.neg K p.1))
  rw[(Xat hG).1 hp.1,L.za,Sg.sn]
  have:=hp.2
  omega
 have hl:les G p=zero K:=by
  unfold les
  rw[if_neg T,Yof hp]
  exact(Xat hG).1 hp.1
 obtain⟨i,hi⟩:=(Xcp hG).2 _ h0
 have hi:=Xb9 hi
 rw[L.mc] at hi
 have hv:v=zero K:=by rw[<-L.mo v,<-hi,<-L.ma,U,hl,L.zm]
 subst hv
 have r0:inB 0 r:=by
  obtain⟨I,M⟩:=V
  rw[L.za,<-Xft,Xcy O] at I
  rw[show Tow.neg K (zero K)=zero K by have z0:=L.an (zero K);rw[L.za] at z0;exact z0,L.az,Xcy O] at M
  refine⟨?_,?_⟩
  rcases Xbc (-r.1) with ⟨o,j⟩ | ⟨o,j⟩ | ⟨o,j⟩<;>rw[j] at I
  grind
  grind
  exact absurd I (by decide)
  rcases Xbc r.2 with ⟨o,j⟩ | ⟨o,j⟩ | ⟨o,j⟩<;>rw[j] at M
  grind
  grind
  exact absurd M (by decide)
 have:=Z 0 150 r0 (W0a _)
 unfold sta at this
 rw[if_neg T,Yof hp,Ysd,show (((0:Nat):Int):Rat)=0 from rfl,show ((4*0:Int):Rat)=0 from rfl,W7j,W6k,W6k] at this
 exact this
end
end
section
open Go.Proofs.YtnedfplmoojbaaaGreatDoor.P55 (v0 W0 g0 gv0 zw Xjk Qp)
theorem Yl8: cq=Rat.divInt 3 2:=by decide +kernel
theorem Xs0: Qs 64 (Rat.divInt 3 2):=by decide +kernel
theorem Yp4{K:Nat}{G:Tw K}{S:List (Tow.El K)}{N:List Nm}{w:Vn}{p:V2 K}{f:Int}(W:Wn G S N)(T:Gv G S N 4 w p)(hp:p≠vz K)(hf:-3000<=f/\f<=3000): C0 13 [.d (dAr n00 (sec G p w f)),.d (.int .i64 20)] (λr=>∃E,r=.tup (.pr (.d (dI E)) (.d (.int .i64 0)))/\Q2 9000 E/\∀Y,RadP G p f 20 Y->∃x,inB x E/\inB x (Xa6 Y (pt (Rat.divInt 3 2)))):=by
 have I:inB (Rat.divInt 3 2) (pt (Rat.divInt 3 2)):=⟨W1x,W1x⟩
 by_cases h0:f=0/\Xa5 G p
 rw[Xln h0]
 refine Ym1.mono λr ⟨E,e,h⟩=>⟨E,e,by rw[h];decide +kernel,λY j=>?_⟩
 obtain⟨rfl,o⟩:=h0
 have i:=(Xyu W.w.g j o).mul I
 rw[W3p] at i
 exact⟨0,by rw[h];exact⟨W1x,W1x⟩,i⟩
 rw[Xlm h0]
 refine(Xyy Yba Ysa.1 Ysa.2 W T hp (by decide) hf).mono λr ⟨E,e,X,h,M⟩=>⟨E,e,by rw[h];exact(Xeh (s:=64) (p:=pt ((0:Int):Rat)) (by decide +kernel) (Xb2 (s:=64) (p:=pt cq) ⟨Yba,Yba⟩ M.q)).mono (by decide),λY j=>?_⟩
 obtain⟨y,U,V⟩:=M.both W.w.g j
 refine⟨y*Rat.divInt 3 2,?_,V.mul I⟩
 have o:inB cq (pt cq):=⟨W1x,W1x⟩
 have i:inB ((0:Int):Rat) (pt ((0:Int):Rat)):=⟨W1x,W1x⟩
 have O:=i.add (o.mul U)
 rw[show ((0:Int):Rat)=0 from rfl,Rat.zero_add,W8b,Yl8] at O
 rw[h,<-Yl8] at *
 exact O
theorem TopSectors_of{M:List RO}{at':List (Fin 256)}{a b c n:Int}(hn:-128<=n/\n<128)(ha:C0 5 [] (·=.b true)): C0 3 [.d (dCs M at' a b c),.d (.int .i8 n)] (·=.b true):=by
 refine En Tryz.func3 λ_ _ _=>?_
 refine Ca rfl (Yb1 (n:=2) (by decide)) λv j=>?_
 rcases j with ⟨l,rfl⟩ | ⟨l,rfl,hl,K,G,S,N,W,hm⟩
 exact Ce rfl ha<|No rfl (λh=>h rfl)<|Yes rfl (by decide)<|Ce rfl ha<|R0
 match l,hl with
 | [(u,f),(v,g)],_ =>
 obtain⟨_,_,_,p,o,hp⟩:=hm (u,f) W0w
 obtain⟨_,_,_,q,j,hq⟩:=hm (v,g) (W1c _ W0w)
 have hG:=W.w.w.g
 refine Ce rfl ha<|No rfl (λh=>h rfl)<|No rfl (λh=>h rfl)<|By rfl (λh1=>?_) λh1=>?_
 exact Ce rfl ha<|R0
 refine By rfl (λh2=>?_) λh2=>?_
 exact Ce rfl ha<|R0
 have hd:-8<=n/\n<=8:=by omega
 refine Lo (λk:Nat=>[(1,.d (.int .i8 n)),(5,.d (dTs [(u,f),(v,g)])),(45,.d (dTs [(u,f),(v,g)])),(46,.d (.int .i64 2)),(47,.d (.int .i64 k))]) (λ_=>[]) (λk=>k<=2/\(1<=k->-1000<=f/\f<=1000)/\(2<=k->-1000<=g/\g<=1000)) (λk=>2-k) 0 [] rfl ⟨W0r _,λh=>absurd h (by decide),λh=>absurd h (by decide)⟩ λk ⟨hk,k1,k2⟩=>?_
 rcases(by omega:k=0\/k=1\/k=2) with rfl | rfl | rfl
 refine Yes rfl (by decide)<|Ix 0 rfl (u:=dT u f) rfl<|By rfl (λO=>?_) λO=>?_
 exact R0
 refine By rfl (λT=>?_) λT=>?_
 exact R0
 refine Ar (0+1:Nat) rfl ?_
 exact Bk (0+1) [] rfl ⟨by decide,λ_=>⟨by omega,by omega⟩,λh=>absurd h (by decide)⟩ (by decide)
 refine Yes rfl (by decide)<|Ix 1 rfl (u:=dT v g) rfl<|By rfl (λO=>?_) λO=>?_
 exact R0
 refine By rfl (λT=>?_) λT=>?_
 exact R0
 refine Ar (1+1:Nat) rfl ?_
 exact Bk (1+1) [] rfl ⟨by decide,λ_=>k1 (by decide),λ_=>⟨by omega,by omega⟩⟩ (by decide)
 refine No rfl (by decide) ?_
 have hf:=k1 (by decide)
 have U:=k2 (by decide)
 have hX:=Xb0 hG hp hq
 refine Ce rfl (R9.FromInt_ok (z:=3) (by decide))<|Dw rfl<|Ix 0 rfl (u:=dT u f) rfl<|Ce rfl (Yns W.w o (by decide))<|Dw rfl<|Ix 1 rfl (u:=dT v g) rfl<|Ce rfl (Yns W.w j (by decide))<|Dw rfl<|Ix 0 rfl (u:=dT u f) rfl<|Ix 1 rfl (u:=dT v g) rfl ?_
 have hb:=Xqm (G:=G) (p:=p) (q:=q) hf U
 refine Ca rfl (P19.Add_g W.w o j (by decide) (Xts hf) (Xts U)) λr i=>?_
 rcases i with ⟨_,w,rfl,I⟩ | ⟨h,_⟩
 rotate_left
 exact absurd (show lim (Xcm G p q f g) by unfold lim;omega) h
 refine Ce rfl (Yns W.w I (by decide))<|Ca rfl (Yp7 W.w o j hp hq hf U I) λr i=>?_
 obtain⟨z,l,rfl,hE⟩:=i
 refine No rfl (by decide)<|No rfl (by decide)<|No rfl (by decide)<|No rfl (by decide)<|No rfl (by decide)<|Ce rfl hE<|No rfl (λh=>h rfl)<|Ix 0 rfl (u:=dT u f) rfl<|Go.Vm.Cv n rfl ?_ (wI (by omega))
 refine Ca rfl (P19.Times_n W.w ((o.two W.w).mono (by decide)) hp (by unfold lim;omega) hd) λr i=>?_
 rcases i with ⟨_,x,rfl,hx⟩ | ⟨h,_⟩
 rotate_left
 exact absurd (Xui hf hd) h
 refine Ce rfl (Yns W.w hx.v (by decide))<|Go.Vm.Cv n rfl ?_ (wI (by omega))
 refine Ca rfl (Yhv W.w o hp hf hd hx.v) λr i=>?_
 obtain⟨z',l',rfl,V⟩:=i
 refine Ca rfl (Yp4 W.w I hX (by omega)) λr i=>?_
 obtain⟨E,rfl,qE,Z⟩:=i
 refine Ca rfl (Xon W.w I hX (by decide) (by omega) (b:=20) (by decide)) λr i=>?_
 obtain⟨Y,rfl,hY⟩:=i
 obtain⟨y,y1,y2⟩:=Z Y hY
 exact No rfl (by decide)<|No rfl (by decide)<|No rfl (by decide)<|No rfl (by decide)<|No rfl (by decide)<|Ce rfl V<|No rfl (λh=>h rfl)<|Dw rfl<|Ce rfl (R2.Frac_ok (a:=3) (b:=2) (by decide) (by decide) (by decide))<|Ce rfl R3.Point_ok<|Ce rfl (R3.Mul_ok (p:=Y) (q:=pt (Rat.divInt 3 2)) hY.q ⟨Xs0,Xs0⟩ (by decide))<|Ce rfl (Ybe (p:=E) (q:=Xa6 Y (pt (Rat.divInt 3 2))) (s:=9000) qE ((Xb2 hY.q ⟨Xs0,Xs0⟩).mono (by decide)) (by decide) y1 y2)<|R0
end
end Go.Proofs.YtnedfplmoojbaaaGreatDoor.P20
